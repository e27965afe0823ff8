/-
  Several texts in one: Ck, Hx. What each proves, and on which conditions, stands at its head. Conditions: stated in each.
-/
import Derived.Test.YtbejdajkkoapgaaGreatDoorS21
import Derived.Test.YtbejdajkkoapgaaGreatDoorS14
import Derived.Test.YtbejdajkkoapgaaGreatDoorS25
import Derived.Test.YtbejdajkkoapgaaGreatDoorS24
/-
  Sketches of the suite by their cores: what Put, Join, Encode, Decode, bytes and New answer, from contracts of the core; a kind's laws from these. Conditions: the core's contracts.
-/
set_option linter.unusedVariables false
set_option linter.unusedSimpArgs false
set_option maxRecDepth 100000
namespace Go.Proofs.YtbejdajkkoapgaaGreatDoor
open Go.RowKit Go.Lib

/-- a core in memory behind values, and the blocks that are its own -/
abbrev CoreZ := Vals → World → Nat → (Nat → Prop) → Prop
structure CoreQ (Q : CoreZ) : Prop where
  next : ∀ {W W' : World} {db : Nat} {O : Nat → Prop} {vals : Vals}, Q vals W db O → Below W.heap.size W W' → Q vals W' db O
  away : ∀ {W W' : World} {db : Nat} {O G : Nat → Prop} {vals : Vals}, Q vals W db O → Away G W W' → (∀ k, O k → ¬ G k) → Q vals W' db O
  lt : ∀ {W : World} {db : Nat} {O : Nat → Prop} {vals : Vals}, Q vals W db O → ∀ k, O k → k < W.heap.size
  ty : ∀ {W : World} {db : Nat} {O : Nat → Prop} {vals : Vals}, Q vals W db O → ∀ k, O k → ∀ cs, ¬ Blk W k cs 59 ∧ ¬ Blk W k cs 34 ∧ ¬ Blk W k cs 76
/-- a sketch with that core -/
def SkW (a0 a1 a2 a3 a4 a5 a6 a7 a8 a9 a10 : Int) (T : TypeId) (Q : CoreZ) (Gd : Vals → Prop) (W : World) (kb : Nat) (O : Nat → Prop) (vals : Vals) : Prop :=
  ∃ (db : Nat) (D : Nat → Prop), Blk W kb (skG a0 a1 a2 a3 a4 a5 a6 a7 a8 a9 a10 T db) 76 ∧ Q vals W db D ∧ Gd vals ∧ O = fun k => k = kb ∨ D k
def JoinC (Q : CoreZ) (w : World) (db : Nat) (O : Nat → Prop) (vals more : Vals) (e : Ending) (w' : World) : Prop := ∃ (code : Int) (O' : Nat → Prop), e = .returned (.int .i64 code) ∧
  (code = 0 → Q (vals ++ more) w' db O') ∧ SubO w O O' ∧ Away O w w'
/-- what reads answers -/
def RdG (cv : Array Value) (T : TypeId) (Q1 : World → Nat → (Nat → Prop) → Prop) (w : World) (eb : Nat) (e : Ending) (w' : World) : Prop := ∃ (ok : Bool) (po : Option Addr), e = .returned (.tuple #[.agg cv, .iface T (.agg #[.pointer po]), .bool ok]) ∧ Away (fun k => k = eb) w w' ∧ EyO w' eb [] ∧
  (ok = true → ∃ db O, po = some ⟨db, 0, none⟩ ∧ Q1 w' db O ∧ ∀ k, O k → w.heap.size ≤ k)
section
variable {a0 a1 a2 a3 a4 a5 a6 a7 a8 a9 a10 : Int} {T : TypeId} {Q : CoreZ} {Gd : Vals → Prop} {P : Int × Nat → Bool} {Ld : Vals → List UInt8}
theorem CoreQ.ne (C : CoreQ Q) {W : World} {kb db : Nat} {D : Nat → Prop} {vals : Vals} {cs : Array Value} (h : Blk W kb cs 76) (q : Q vals W db D) : ¬ D kb := fun hD => (C.ty q kb hD cs).2.2 h
theorem SkW.next (C : CoreQ Q) {W W' : World} {kb : Nat} {O : Nat → Prop} {vals : Vals} (h : SkW a0 a1 a2 a3 a4 a5 a6 a7 a8 a9 a10 T Q Gd W kb O vals) (hb : Below W.heap.size W W') : SkW a0 a1 a2 a3 a4 a5 a6 a7 a8 a9 a10 T Q Gd W' kb O vals := by
  obtain ⟨db, D, h1, h2, h3, rfl⟩ := h
  exact ⟨db, D, h1.below hb h1.lt, C.next h2 hb, h3, rfl⟩
theorem SkW.away (C : CoreQ Q) {W W' : World} {kb : Nat} {O G : Nat → Prop} {vals : Vals} (h : SkW a0 a1 a2 a3 a4 a5 a6 a7 a8 a9 a10 T Q Gd W kb O vals) (ha : Away G W W') (hn : ∀ k, O k → ¬ G k) : SkW a0 a1 a2 a3 a4 a5 a6 a7 a8 a9 a10 T Q Gd W' kb O vals := by
  obtain ⟨db, D, h1, h2, h3, rfl⟩ := h
  exact ⟨db, D, h1.away ha (hn _ (.inl rfl)), C.away h2 ha fun k hk => hn k (.inr hk), h3, rfl⟩
theorem SkW.lt (C : CoreQ Q) {W : World} {kb : Nat} {O : Nat → Prop} {vals : Vals} (h : SkW a0 a1 a2 a3 a4 a5 a6 a7 a8 a9 a10 T Q Gd W kb O vals) : ∀ k, O k → k < W.heap.size := by
  obtain ⟨db, D, h1, h2, h3, rfl⟩ := h
  rintro k (rfl | hk)
  · exact h1.lt
  · exact C.lt h2 k hk
theorem SkW.ty (C : CoreQ Q) {W : World} {kb : Nat} {O : Nat → Prop} {vals : Vals} (h : SkW a0 a1 a2 a3 a4 a5 a6 a7 a8 a9 a10 T Q Gd W kb O vals) : ∀ k, O k → ∀ cs, ¬ Blk W k cs 59 ∧ ¬ Blk W k cs 34 := by
  obtain ⟨db, D, h1, h2, h3, rfl⟩ := h
  rintro k (rfl | hk) cs
  · exact ⟨fun hb => (h1.ne hb (by decide)) rfl, fun hb => (h1.ne hb (by decide)) rfl⟩
  · exact ⟨(C.ty h2 k hk cs).1, (C.ty h2 k hk cs).2.1⟩
theorem skG_cells' {w : World} {kb : Nat} {db : Nat} (h : Blk w kb (skG a0 a1 a2 a3 a4 a5 a6 a7 a8 a9 a10 T db) 76) : w.cell? ⟨kb, 0, none⟩ = some (.int .i64 a0) ∧ w.cell? ⟨kb, 11, none⟩ = some (.iface T (.agg #[.pointer (some ⟨db, 0, none⟩)])) ∧ kb < w.heap.size := ⟨h.cell rfl, h.cell rfl, h.lt⟩

theorem skw_put (C : CoreQ Q) (fp : FuncId) (he : ∀ args w, (callFunc fp args).run Tryz.prog w = .ok (.enter fp args) w) (hm : ∀ (db : Nat) (w : World), (method 524 T (.agg #[.pointer (some ⟨db, 0, none⟩)]) "Put").run Tryz.prog w = .ok (fp, .pointer (some ⟨db, 0, none⟩)) w)
    (hg : ∀ vals x, Gd vals → I64 x.1 → x.2 ≤ 20 → P x = true → Gd (vals ++ [x]))
    (hp : ∀ (w : World) (db : Nat) (O : Nat → Prop) (vals : Vals) (x : Int × Nat), Q vals w db O → Gd vals → InV vals → vals.length < 360 → I64 x.1 → x.2 ≤ 20 → Calls Tryz.prog fp #[.pointer (some ⟨db, 0, none⟩), .int .i64 x.1, .int .u64 (x.2 : Nat)] w (PutC Q P w db O vals x))
    (w : World) (kb : Nat) (O : Nat → Prop) (vals : Vals) (x : Int × Nat) (h : SkW a0 a1 a2 a3 a4 a5 a6 a7 a8 a9 a10 T Q Gd w kb O vals) (hv : InV vals) (hl : vals.length < 360) (hx : I64 x.1) (hc : x.2 ≤ 20) :
    Calls Tryz.prog 18 #[.pointer (some ⟨kb, 0, none⟩), .int .i64 x.1, .int .u64 (x.2 : Nat)] w (PutK (SkW a0 a1 a2 a3 a4 a5 a6 a7 a8 a9 a10 T Q Gd) P w kb O vals x) := by
  obtain ⟨db, D, h1, h2, h3, rfl⟩ := h
  have hq := hp w db D vals x h2 h3 hv hl hx hc
  have hm1 := hm db
  obtain ⟨c0, c1, hlt⟩ := skG_cells' h1
  have FIN := Lib.hid (show ∀ (e : Ending) (w' : World), PutC Q P w db D vals x e w' → PutK (SkW a0 a1 a2 a3 a4 a5 a6 a7 a8 a9 a10 T Q Gd) P w kb (fun k => k = kb ∨ D k) vals x e w' from by
    rintro e w' ⟨code, D', rfl, hcd, hq', hs, ha⟩
    refine ⟨code, fun k => k = kb ∨ D' k, rfl, hcd, ⟨db, D', h1.away ha (C.ne h1 h2), hq', ?_, rfl⟩, ?_, ha.mono fun k _ hk => .inr hk⟩
    · by_cases hP : P x = true
      · rw [if_pos hP]; exact hg vals x h3 hx hc hP
      · rw [if_neg hP]; exact h3
    · rintro k (rfl | hk)
      · exact .inl (.inl rfl)
      · exact (hs k hk).imp .inr id)
  clear h1 h2 h3 hp hv hm
  go_enter Tryz.func18, Tryz.ntmps18
  go_wp2_with fail
  refine hq.mono ?_
  rintro e w1 H
  have HH := Lib.hid (FIN.out e w1 H)
  obtain ⟨code, D', rfl, _⟩ := H
  clear hq FIN
  go_wp2_with fail
  go_ret
  exact HH.out

/-- two sketches -/
structure SjG (w : World) (a0 a1 a2 a3 a4 a5 a6 a7 a8 a9 a10 : Int) (T : TypeId) (kb db nb ob : Nat) (W : World) : Prop where
  b1 : Blk W kb (skG a0 a1 a2 a3 a4 a5 a6 a7 a8 a9 a10 T db) 76
  b2 : Blk W nb (skG a0 a1 a2 a3 a4 a5 a6 a7 a8 a9 a10 T ob) 76
  below : Below w.heap.size w W
theorem SjG.drew {w W : World} {kb db nb ob : Nat} (h : SjG w a0 a1 a2 a3 a4 a5 a6 a7 a8 a9 a10 T kb db nb ob W) : SjG w a0 a1 a2 a3 a4 a5 a6 a7 a8 a9 a10 T kb db nb ob W.drew := ⟨h.b1.drew, h.b2.drew, h.below.drew⟩
set_option maxHeartbeats 4000000 in
theorem skw_join (C : CoreQ Q) (fj : FuncId) (he : ∀ args w, (callFunc fj args).run Tryz.prog w = .ok (.enter fj args) w) (hm : ∀ (db : Nat) (w : World), (method 524 T (.agg #[.pointer (some ⟨db, 0, none⟩)]) "ogive/suite.join").run Tryz.prog w = .ok (fj, .agg #[.pointer (some ⟨db, 0, none⟩)]) w)
    (hg : ∀ vals more, Gd vals → Gd more → Gd (vals ++ more))
    (hj : ∀ (w : World) (db ob : Nat) (O N : Nat → Prop) (vals more : Vals), Q vals w db O → Q more w ob N → Gd vals → Gd more → (∀ k, O k → ¬ N k) → InV vals → InV more → vals.length + more.length ≤ 360 → Calls Tryz.prog fj #[.agg #[.pointer (some ⟨db, 0, none⟩)], .iface T (.agg #[.pointer (some ⟨ob, 0, none⟩)])] w (JoinC Q w db O vals more))
    (w : World) (kb nb : Nat) (O N : Nat → Prop) (vals more : Vals) (h : SkW a0 a1 a2 a3 a4 a5 a6 a7 a8 a9 a10 T Q Gd w kb O vals) (k : SkW a0 a1 a2 a3 a4 a5 a6 a7 a8 a9 a10 T Q Gd w nb N more) (hap : ∀ i, O i → ¬ N i) (hv : InV vals) (hv2 : InV more) (hl : vals.length + more.length ≤ 360) :
    Calls Tryz.prog 22 #[.pointer (some ⟨kb, 0, none⟩), .pointer (some ⟨nb, 0, none⟩)] w (JoinK (SkW a0 a1 a2 a3 a4 a5 a6 a7 a8 a9 a10 T Q Gd) w kb O vals more) := by
  obtain ⟨db, D, h1, h2, h3, rfl⟩ := h
  obtain ⟨ob, E, k1, k2, k3, rfl⟩ := k
  have H : SjG w a0 a1 a2 a3 a4 a5 a6 a7 a8 a9 a10 T kb db nb ob w := ⟨h1, k1, Below.refl _ _⟩
  have hjj := Lib.hid (show ∀ W, Below w.heap.size w W → Calls Tryz.prog fj #[.agg #[.pointer (some ⟨db, 0, none⟩)], .iface T (.agg #[.pointer (some ⟨ob, 0, none⟩)])] W (JoinC Q W db D vals more) from fun W b => hj W db ob D E vals more (C.next h2 b) (C.next k2 b) h3 k3 (fun i hi hi2 => hap i (.inr hi) (.inr hi2)) hv hv2 hl)
  have hm1 := hm db
  have e0 : (a0 != a0) = false := by simp
  have FIN := Lib.hid (show ∀ (W : World) (e : Ending) (w' : World), SjG w a0 a1 a2 a3 a4 a5 a6 a7 a8 a9 a10 T kb db nb ob W → JoinC Q W db D vals more e w' → JoinK (SkW a0 a1 a2 a3 a4 a5 a6 a7 a8 a9 a10 T Q Gd) w kb (fun k => k = kb ∨ D k) vals more e w' from by
    rintro W e w' HW ⟨code, D', rfl, hcd, hs, ha⟩
    refine ⟨code, fun k => k = kb ∨ D' k, rfl, fun hc => ⟨db, D', HW.b1.away ha (C.ne HW.b1 (C.next h2 HW.below)), hcd hc, hg _ _ h3 k3, rfl⟩, ?_, ((Away.of_below (F := D) HW.below).trans' ha (fun _ _ h => h) (fun _ _ h => h)).mono fun k _ hk => .inr hk⟩
    rintro k (rfl | hk)
    · exact .inl (.inl rfl)
    · rcases hs k hk with e | e
      · exact .inl (.inr e)
      · exact .inr (Nat.le_trans HW.below.size e))
  clear h1 h2 h3 k1 k2 k3 hap hj hm hv hv2
  go_enter Tryz.func22, Tryz.ntmps22
  go_upto_region 3 with fail
  refine wp_region_quiet_litC (C := SjG w a0 a1 a2 a3 a4 a5 a6 a7 a8 a9 a10 T kb db nb ob) (by kernel_rfl) (by kernel_rfl) H.drew ?_
  repeat (first | go_big_quiet_skip | (go_big_quiet_want; go_big_quiet_op; first | go_big_quiet_on | (refine quiet_const ?_; go_big_quiet_on)))
  go_big_quiet_want
  refine ⟨.int .i64 a0, fun wx hx => ?_, ?_⟩
  · obtain ⟨c0, c1, hl⟩ := skG_cells' hx.b1
    go_simp
  go_big_quiet_on
  simp only [Act.put, List.setIfInBounds_toArray, List.set_cons_zero, List.set_cons_succ]
  repeat (first | go_big_quiet_skip | (go_big_quiet_want; go_big_quiet_op; first | go_big_quiet_on | (refine quiet_const ?_; go_big_quiet_on)))
  go_big_quiet_want
  refine ⟨.int .i64 a0, fun wx hx => ?_, ?_⟩
  · obtain ⟨c0, c1, hl⟩ := skG_cells' hx.b2
    go_simp
  go_big_quiet_on
  simp only [Act.put, List.setIfInBounds_toArray, List.set_cons_zero, List.set_cons_succ]
  repeat (first | go_big_quiet_skip | (go_big_quiet_want; go_big_quiet_op; first | go_big_quiet_on | (refine quiet_const ?_; go_big_quiet_on)))
  refine wpQuiet_nil ?_
  intro w1 H1
  go_upto_region 5 with fail
  refine wp_region_quiet_tail 10 (C := SjG w a0 a1 a2 a3 a4 a5 a6 a7 a8 a9 a10 T kb db nb ob) (by kernel_rfl) (by kernel_rfl) H1.drew ?_
  simp only [List.take_succ_cons, List.take_zero, List.drop_succ_cons, List.drop_zero]
  repeat (first | go_big_quiet_skip | (go_big_quiet_want; go_big_quiet_op; first | go_big_quiet_on | (refine quiet_const ?_; go_big_quiet_on)))
  go_big_quiet_want
  refine ⟨.iface T (.agg #[.pointer (some ⟨db, 0, none⟩)]), fun wx hx => ?_, ?_⟩
  · obtain ⟨c0, c1, hl⟩ := skG_cells' hx.b1
    go_simp
  go_big_quiet_on
  simp only [Act.put, List.setIfInBounds_toArray, List.set_cons_zero, List.set_cons_succ]
  repeat (first | go_big_quiet_skip | (go_big_quiet_want; go_big_quiet_op; first | go_big_quiet_on | (refine quiet_const ?_; go_big_quiet_on)))
  go_big_quiet_want
  refine ⟨.iface T (.agg #[.pointer (some ⟨ob, 0, none⟩)]), fun wx hx => ?_, ?_⟩
  · obtain ⟨c0, c1, hl⟩ := skG_cells' hx.b2
    go_simp
  go_big_quiet_on
  simp only [Act.put, List.setIfInBounds_toArray, List.set_cons_zero, List.set_cons_succ]
  repeat (first | go_big_quiet_skip | (go_big_quiet_want; go_big_quiet_op; first | go_big_quiet_on | (refine quiet_const ?_; go_big_quiet_on)))
  refine wpQuiet_nil ?_
  intro w2 H2
  have hj2 := hjj.out w2 H2.below
  have HF := Lib.hid (FIN.out w2 · · H2)
  clear FIN hjj H H1 H2
  go_wp2_with fail
  refine hj2.mono ?_
  rintro e w3 J3
  have HJ := Lib.hid (HF.out _ _ J3)
  obtain ⟨code, D', rfl, _⟩ := J3
  clear hj2 HF
  go_wp2_with fail
  go_ret
  exact HJ.out

set_option maxHeartbeats 4000000 in
theorem skw_encode (C : CoreQ Q) (fw : FuncId) (he : ∀ args w, (callFunc fw args).run Tryz.prog w = .ok (.enter fw args) w) (kn : UInt8) (hkn : a0 = ((kn.toNat : Nat) : Int)) (hm : ∀ (db : Nat) (w : World), (method 524 T (.agg #[.pointer (some ⟨db, 0, none⟩)]) "ogive/suite.write").run Tryz.prog w = .ok (fw, .agg #[.pointer (some ⟨db, 0, none⟩)]) w)
    (hw : ∀ (B : Nat) (w : World) (db : Nat) (O : Nat → Prop) (vals : Vals) (qb : Nat) (A : Option Addr) (c : Nat), QuO B w qb (.slice A ([] : List UInt8).length c) [] → B ≤ w.heap.size → Q vals w db O → (∀ k, O k → k < B) → Gd vals → InV vals → vals.length ≤ 360 → Calls Tryz.prog fw #[.agg #[.pointer (some ⟨db, 0, none⟩)], .pointer (some ⟨qb, 0, none⟩)] w fun e w' => e = .returned (.tuple #[]) ∧ ∃ A' c', NaS B w qb A' c' (Ld vals) w')
    (hld : ∀ vals, Gd vals → InV vals → vals.length ≤ 360 → (Ld vals).length ≤ 190000)
    (w : World) (kb : Nat) (O : Nat → Prop) (vals : Vals) (h : SkW a0 a1 a2 a3 a4 a5 a6 a7 a8 a9 a10 T Q Gd w kb O vals) (hv : InV vals) (hl : vals.length ≤ 360) :
    Calls Tryz.prog 26 #[.pointer (some ⟨kb, 0, none⟩)] w fun e w' => e = .returned (.tuple #[.string (bs (frameB kn (Ld vals))), .int .i64 0]) ∧ Below w.heap.size w w' := by
  obtain ⟨db, D, h1, h2, h3, rfl⟩ := h
  have hld1 := hld vals h3 hv hl
  have hq := QuO.fresh w
  have b0 : Below w.heap.size w (w.alloc (.cells #[.slice none 0 0] 109)) := (Below.refl _ _).alloc (Nat.le_refl _) _
  have hw1 := hw w.heap.size (w.alloc (.cells #[.slice none 0 0] 109)) db D vals w.heap.size none 0 hq (by simp) (C.next h2 b0) (C.lt h2) h3 hv hl
  obtain ⟨c0, c1, hlt⟩ := skG_cells' h1
  have hm1 := hm db
  have HH := Lib.hid h1
  have hne : kb ≠ w.heap.size := by omega
  generalize Ld vals = ld at *
  have hk256 : kn.toNat < 256 := kn.toNat_lt
  have e8 : IntKind.u8.wrap a0 = a0 := by rw [hkn, IntKind.wrap_u8]; omega
  clear h1 h2 h3 hq hw hm hv hl
  go_enter Tryz.func26, Tryz.ntmps26
  go_wp2_with fail
  refine hw1.mono ?_
  rintro e w1 ⟨rfl, A1, k1, S1⟩
  have B1 : Below w.heap.size w w1 := b0.trans S1.below
  have HK := HH.out.below B1 HH.out.lt
  obtain ⟨d0, d1, hl1⟩ := skG_cells' HK
  have ht := qu_text w.heap.size w1.drew w.heap.size _ _ S1.drew.qu
  have hcl := close_any w1.drew kn ld (by omega)
  rw [← hkn] at hcl
  clear hw1 c0 c1 S1 HK hkn
  go_upto_region 5 with fail
  rename_i KK
  go_region_with (first | (go_at_call 40; refine ht.mono ?_; rintro e w2 ⟨rfl, rfl⟩) | (go_at_call 39; refine hcl.mono ?_; rintro e w3 ⟨rfl, b3⟩))
  all_goals (
    refine KK _ _ ?_
    clear ht hcl hm1
    go_wp2_with fail
    go_ret2
    exact ⟨rfl, B1.drew.trans (b3.mono B1.size)⟩)

theorem bytes_of (w : World) (kb : Nat) (s : List UInt8) (he : Calls Tryz.prog 26 #[.pointer (some ⟨kb, 0, none⟩)] w fun e w' => e = .returned (.tuple #[.string (bs s), .int .i64 0]) ∧ Below w.heap.size w w') :
    Calls Tryz.prog 14 #[.pointer (some ⟨kb, 0, none⟩)] w fun e w' => e = .returned (.string (bs s)) ∧ Below w.heap.size w w' := by
  go_enter Tryz.func14, Tryz.ntmps14
  go_wp2_with fail
  refine he.mono ?_
  rintro e w1 ⟨rfl, b1⟩
  clear he
  go_wp2_with fail
  go_ret
  exact ⟨rfl, b1⟩

set_option maxHeartbeats 4000000 in
theorem skw_decode (C : CoreQ Q) (kn : UInt8) (hkn : a0 = ((kn.toNat : Nat) : Int)) (vals : Vals) (hgd : Gd vals) (ld : List UInt8) (hl5 : ld.length ≤ 190000)
    (hr : ∀ (w : World) (eb : Nat), Sp.Tens w → EyO w eb ld → Calls Tryz.prog 33 #[.int .i64 a0, .pointer (some ⟨eb, 0, none⟩)] w (RdG (cfgV a0 a1 a2 a3 a4 a5 a6 a7 a8 a9 a10) T (Q vals) w eb)) (w : World) (ht : Sp.Tens w) :
    Calls Tryz.prog 19 #[.string (bs (frameB kn ld))] w (NewK (SkW a0 a1 a2 a3 a4 a5 a6 a7 a8 a9 a10 T Q Gd) vals w) := by
  have ho := open_any w kn ld (by omega)
  have hon := fun W => eye_on W ld
  have hk256 : kn.toNat < 256 := kn.toNat_lt
  rw [← hkn] at ho
  have e8 : IntKind.i64.wrap a0 = a0 := by rw [hkn, IntKind.wrap_i64]; omega
  generalize frameB kn ld = t at *
  have HG := Lib.hid hgd
  clear hkn hgd
  go_enter Tryz.func19, Tryz.ntmps19
  go_wp2_with fail
  refine ho.mono ?_
  rintro e w1 ⟨rfl, b1⟩
  clear ho
  go_wp2_with fail
  refine (hon _).mono ?_
  rintro e w2 ⟨rfl, rfl⟩
  clear hon
  have E2 : EyO (w1.alloc (.cells #[.string (bs ld), .bool false] 153)) w1.heap.size ld := Blk.newAt rfl
  have b2 : Below w.heap.size w (w1.alloc (.cells #[.string (bs ld), .bool false] 153)) := b1.alloc b1.size _
  have h8 := b1.size
  have hr1 := hr _ _ (ht.next b2) E2
  go_wp2_with fail
  refine hr1.mono ?_
  rintro e w3 ⟨ok, po, rfl, A3, E3, D3⟩
  have b3 : Below w.heap.size w w3 := b2.trans ((A3.below (B := w.heap.size) b2.size (fun k hk e => by omega)))
  clear hr E2 hr1
  have hz3 := b3.size
  unfold cfgV
  cases ok with
  | false =>
    go_wp2_with fail
    go_ret2
    exact ⟨none, 4, rfl, b3.alloc hz3 _, fun h => absurd h (by decide)⟩
  | true =>
    obtain ⟨db, D, rfl, hq, hnew⟩ := D3 rfl
    have hov := fun W (k : EyO W w1.heap.size []) => eye_over W w1.heap.size k
    have E4 : EyO (w3.alloc (.cells #[.int .i64 a0, .int .u64 a1, .int .u64 a2, .int .i64 a3, .int .i64 a4, .int .i64 a5, .int .u64 a6, .int .i64 a7, .int .i64 a8, .int .i64 a9, .int .u64 a10] 28)) w1.heap.size [] := Blk.alloc E3 _
    have hz : w1.heap.size + 1 = (w1.alloc (.cells #[.string (bs ld), .bool false] 153)).heap.size := by simp
    have HN := Lib.hid (show ∀ k, D k → w.heap.size ≤ k from fun k hk => by have := hnew k hk; omega)
    have HD := Lib.hid (C.next hq ((Below.refl _ _).alloc (Nat.le_refl _) (.cells #[.int .i64 a0, .int .u64 a1, .int .u64 a2, .int .i64 a3, .int .i64 a4, .int .i64 a5, .int .u64 a6, .int .i64 a7, .int .i64 a8, .int .i64 a9, .int .u64 a10] 28)))
    clear D3 hq hnew hz
    have hov4 := hov _ E4
    go_wp2_with fail
    refine hov4.mono ?_
    rintro e w5 ⟨rfl, rfl⟩
    clear hov4
    go_wp2_with fail
    go_ret2
    have b4 := b3.alloc hz3 (.cells #[.int .i64 a0, .int .u64 a1, .int .u64 a2, .int .i64 a3, .int .i64 a4, .int .i64 a5, .int .u64 a6, .int .i64 a7, .int .i64 a8, .int .i64 a9, .int .u64 a10] 28)
    refine ⟨some ⟨(w3.alloc (.cells #[.int .i64 a0, .int .u64 a1, .int .u64 a2, .int .i64 a3, .int .i64 a4, .int .i64 a5, .int .u64 a6, .int .i64 a7, .int .i64 a8, .int .i64 a9, .int .u64 a10] 28)).heap.size, 0, none⟩, 0, ?_, b4.alloc b4.size _, fun _ => ⟨_, fun k => k = (w3.alloc (.cells #[.int .i64 a0, .int .u64 a1, .int .u64 a2, .int .i64 a3, .int .i64 a4, .int .i64 a5, .int .u64 a6, .int .i64 a7, .int .i64 a8, .int .i64 a9, .int .u64 a10] 28)).heap.size ∨ D k, rfl, ⟨db, D, Blk.newAt rfl, C.next HD.out ((Below.refl _ _).alloc (Nat.le_refl _) _), HG.out, rfl⟩, ?_⟩⟩
    · simp
    · rintro k (rfl | hk)
      · exact b4.size
      · exact HN.out k hk

/-- what New answers, from fresh's answer -/
theorem skw_new (C : CoreQ Q) (Q0 : World → Nat → (Nat → Prop) → Prop) (ok : Prop) (hQ : ∀ W W' db O, Q0 W db O → Below W.heap.size W W' → Q0 W' db O) (hL : ∀ W db O, Q0 W db O → ∀ k, O k → k < W.heap.size)
    (hn : ∀ W db O, sameB a0 a1 a2 a3 a4 a5 a6 a7 a8 a9 a10 a0 (bare1 a0 a1) (bare1 a0 a2) (bare3 a0 a3) (bare4 a0 a4) (bare5 a0 a5) (bare5 a0 a6) (bare7 a0 a7) (bare7 a0 a8) (bare9 a0 a9) (bare9 a0 a10) = true → Q0 W db O → Q [] W db O ∧ Gd [])
    (hf : ∀ W, Sp.Tens W → Calls Tryz.prog 30 #[.agg #[.int .i64 a0, .int .u64 a1, .int .u64 a2, .int .i64 a3, .int .i64 a4, .int .i64 a5, .int .u64 a6, .int .i64 a7, .int .i64 a8, .int .i64 a9, .int .u64 a10]] W (FreshK T Q0 ok W)) (w : World) (ht : Sp.Tens w) :
    Calls Tryz.prog 17 #[.agg #[.int .i64 a0, .int .u64 a1, .int .u64 a2, .int .i64 a3, .int .i64 a4, .int .i64 a5, .int .u64 a6, .int .i64 a7, .int .i64 a8, .int .i64 a9, .int .u64 a10]] w fun e w' => NewK (SkW a0 a1 a2 a3 a4 a5 a6 a7 a8 a9 a10 T Q Gd) [] w e w' ∧ (sameB a0 a1 a2 a3 a4 a5 a6 a7 a8 a9 a10 a0 (bare1 a0 a1) (bare1 a0 a2) (bare3 a0 a3) (bare4 a0 a4) (bare5 a0 a5) (bare5 a0 a6) (bare7 a0 a7) (bare7 a0 a8) (bare9 a0 a9) (bare9 a0 a10) = true → ok → ∃ kb O, e = .returned (.tuple #[.pointer (some ⟨kb, 0, none⟩), .int .i64 0]) ∧ Below w.heap.size w w' ∧ SkW a0 a1 a2 a3 a4 a5 a6 a7 a8 a9 a10 T Q Gd w' kb O [] ∧ ∀ k, O k → w.heap.size ≤ k) := by
  refine (new_gen w a0 a1 a2 a3 a4 a5 a6 a7 a8 a9 a10 T Q0 ok hQ hL fun W b => hf W (ht.next b)).mono fun e w' hh => ?_
  obtain ⟨po, code, rfl, hb, h1, h2⟩ := hh
  have key : code = 0 → ∃ kb O, po = some ⟨kb, 0, none⟩ ∧ SkW a0 a1 a2 a3 a4 a5 a6 a7 a8 a9 a10 T Q Gd w' kb O [] ∧ ∀ k, O k → w.heap.size ≤ k := fun hc => by
    obtain ⟨hs, kb, db, O, rfl, hk, hq, hO, hz⟩ := h1 hc
    obtain ⟨q1, q2⟩ := hn w' db O hs hq
    refine ⟨kb, fun k => k = kb ∨ O k, rfl, ⟨db, O, hk, q1, q2, rfl⟩, ?_⟩
    rintro k (rfl | hk)
    · exact hz
    · exact (hO k hk).1
  refine ⟨⟨po, code, rfl, hb, key⟩, fun hs hok => ?_⟩
  have h0 := h2 hs hok
  subst h0
  obtain ⟨kb, O, rfl, a, b⟩ := key rfl
  exact ⟨kb, O, rfl, hb, a, b⟩
end
end Go.Proofs.YtbejdajkkoapgaaGreatDoor

/-
  hdr.Join behind values, hdrCore.join. Conditions: few values, in their range, the two sketches apart.
-/
set_option linter.unusedVariables false
set_option linter.unusedSimpArgs false
set_option maxRecDepth 100000
namespace Go.Proofs.YtbejdajkkoapgaaGreatDoor
open Go.RowKit Go.Lib

/-- hdr.Join of a sketch that has none -/
theorem hdr_join_none (w : World) (hb pb s0 s1 : Nat) (v0 v1 : Value) (dg : Nat) (lim : Int) (l0 l1 : Row) (z : Nat) (lo hi : Int) (ob qb t0 t1 : Nat) (u0 u1 : Value) (lim2 : Int) (m0 m1 : Row) (z2 : Nat) (lo2 hi2 : Int)
    (h : HdO w hb pb s0 s1 v0 v1 dg lim l0 l1 z lo hi) (k : HdO w ob qb t0 t1 u0 u1 dg lim2 m0 m1 z2 lo2 hi2) (hne : hdT m0 m1 z2 = 0) :
    Calls Tryz.prog 246 #[.pointer (some ⟨hb, 0, none⟩), .pointer (some ⟨ob, 0, none⟩)] w fun e w' => e = .returned (.int .i64 0) ∧ Below w.heap.size w w' := by
  have H : H2C w hb pb s0 s1 v0 v1 dg lim l0 l1 z lo hi ob qb t0 t1 u0 u1 dg lim2 m0 m1 z2 lo2 hi2 w := ⟨h, k, Below.refl _ _⟩
  have hto := fun W (x : HdO W ob qb t0 t1 u0 u1 dg lim2 m0 m1 z2 lo2 hi2) => hdr_total W ob qb t0 t1 u0 u1 dg lim2 m0 m1 z2 lo2 hi2 x (by omega)
  rw [hne] at hto
  clear h k hne
  go_enter Tryz.func246, Tryz.ntmps246
  go_upto_region 3 with fail
  refine wp_region_quiet_litC (C := H2C w hb pb s0 s1 v0 v1 dg lim l0 l1 z lo hi ob qb t0 t1 u0 u1 dg lim2 m0 m1 z2 lo2 hi2) (by kernel_rfl) (by kernel_rfl) H.drew ?_
  repeat (first | go_big_quiet_skip | (go_big_quiet_want; go_big_quiet_op; first | go_big_quiet_on | (refine quiet_const ?_; go_big_quiet_on)))
  go_big_quiet_want
  refine ⟨.int .i64 (dg : Int), fun wx hx => ?_, ?_⟩
  · obtain ⟨c0, c1, c2, c3, c4, c5, c6, c7, f5, f6, f7⟩ := hx.hd.cells
    go_simp
  go_big_quiet_on
  simp only [Act.put, List.setIfInBounds_toArray, List.set_cons_zero, List.set_cons_succ]
  repeat (first | go_big_quiet_skip | (go_big_quiet_want; go_big_quiet_op; first | go_big_quiet_on | (refine quiet_const ?_; go_big_quiet_on)))
  go_big_quiet_want
  refine ⟨.int .i64 (dg : Int), fun wx hx => ?_, ?_⟩
  · obtain ⟨c0, c1, c2, c3, c4, c5, c6, c7, f5, f6, f7⟩ := hx.oth.cells
    go_simp
  go_big_quiet_on
  simp only [Act.put, List.setIfInBounds_toArray, List.set_cons_zero, List.set_cons_succ]
  repeat (first | go_big_quiet_skip | (go_big_quiet_want; go_big_quiet_op; first | go_big_quiet_on | (refine quiet_const ?_; go_big_quiet_on)))
  refine wpQuiet_nil ?_
  intro W1 H1
  clear H
  have ht1 := hto W1 H1.oth
  have HH1 := Lib.hid H1.below
  clear H1 hto
  go_wp2_with fail
  refine ht1.mono ?_
  rintro e w2 ⟨rfl, b2⟩
  have HB := Lib.hid (HH1.out.trans (b2.mono HH1.out.size))
  clear ht1 b2
  go_wp2_with fail
  go_ret
  exact ⟨rfl, HB.out⟩

theorem loF_join {a b : Vals} (ha : InP a) (hb : InP b) (hn : b ≠ []) : loF (allL a) (loOf a) (loOf b) = loOf (a ++ b) := by
  have h1 := ha.le
  unfold loF
  by_cases hv : a = []
  · subst hv; rfl
  · rw [if_neg, loOf_append a b hv hn]
    have : 1 ≤ a.length := by cases a with | nil => exact absurd rfl hv | cons x l => simp
    omega
theorem hiF_join {a b : Vals} (ha : InP a) (hb : InP b) (hn : b ≠ []) : hiF (allL a) (hiOf a) (hiOf b) = hiOf (a ++ b) := by
  have h1 := ha.le
  unfold hiF
  by_cases hv : a = []
  · subst hv; rfl
  · rw [if_neg, hiOf_append a b hv hn]
    have : 1 ≤ a.length := by cases a with | nil => exact absurd rfl hv | cons x l => simp
    omega
theorem ends_in {b : Vals} (hb : InP b) : I64 (loOf b) ∧ I64 (hiOf b) := by
  by_cases hn : b = []
  · subst hn; exact ⟨by show I64 0; unfold I64; omega, by show I64 0; unfold I64; omega⟩
  · obtain ⟨x, hx, e⟩ := (loOf_spec b hn).1
    obtain ⟨y, hy, e'⟩ := (hiOf_spec b hn).1
    exact ⟨e ▸ (hb x hx).1, e' ▸ (hb y hy).1⟩
/-- hdr.Join behind values -/
theorem hdr_join (w : World) (dg : Nat) (lim : Int) (hl : 0 ≤ lim) (a b : Vals) (db ob : Nat) (O N : Nat → Prop) (h : HdV dg lim a w db O) (k : HdV dg lim b w ob N) (hap : ∀ i, O i → ¬ N i) (ha : InP a) (hb : InP b) (hP : ∀ x ∈ b, HdP lim x = true) (hlen : a.length + b.length ≤ 360) :
    Calls Tryz.prog 246 #[.pointer (some ⟨db, 0, none⟩), .pointer (some ⟨ob, 0, none⟩)] w (JoinC (HdV dg lim) w db O a b) := by
  have h0 := h
  obtain ⟨pb, s0, s1, v0, v1, hd, rfl⟩ := h
  obtain ⟨qb, t0, t1, u0, u1, kd, rfl⟩ := k
  have hTa := hdT_vals dg a
  have hTb := hdT_vals dg b
  have la := ha.le
  have lb := hb.le
  by_cases hn : b = []
  · subst hn
    refine (hdr_join_none w db pb s0 s1 v0 v1 dg lim _ _ _ _ _ ob qb t0 t1 u0 u1 lim _ _ _ _ _ hd kd (by rw [hTb]; rfl)).mono fun e w' hh => ?_
    obtain ⟨rfl, b⟩ := hh
    exact ⟨0, _, rfl, fun _ => by rw [List.append_nil]; exact h0.next b, fun _ h => .inl h, Away.of_below b⟩
  · obtain ⟨e1, e2⟩ := ends_in hb
    have hlen1 : 1 ≤ b.length := by cases b with | nil => exact absurd rfl hn | cons x l => simp
    have hlim : lim = 0 ∨ max (Sg.mag (loOf b)) (Sg.mag (hiOf b)) ≤ lim := by
      by_cases h0 : lim = 0
      · exact .inl h0
      · obtain ⟨x, hx, e⟩ := (loOf_spec b hn).1
        obtain ⟨y, hy, e'⟩ := (hiOf_spec b hn).1
        have q1 := ((HdP_iff lim x).1 (hP x hx)).2
        have q2 := ((HdP_iff lim y).1 (hP y hy)).2
        rw [e] at q1
        rw [e'] at q2
        right
        omega
    have z0 := len_of (hf0 dg) a
    have z1 := len_of (hf1 dg) a
    have z2 := len_of (hf0 dg) b
    have z3 := len_of (hf1 dg) b
    refine (hdr_join_yes w db pb s0 s1 v0 v1 dg lim _ _ _ _ _ ob qb t0 t1 u0 u1 lim _ _ _ _ _ hd kd hap e1 e2 hl hlim (by omega) (by omega) (by rw [hTa, hTb]; omega) (by rw [hTb]; omega)).mono fun e w' hh => ?_
    obtain ⟨rfl, v0', v1', hd', hs, haw⟩ := hh
    refine ⟨0, _, rfl, fun _ => ⟨pb, s0, s1, v0', v1', ?_, rfl⟩, hs, haw⟩
    rw [hTa, loF_join ha hb hn, hiF_join ha hb hn] at hd'
    rw [rowOf_append _ _ _ (fun x hx => (ha x hx).2.1) (fun x hx => (hb x hx).2.1), rowOf_append _ _ _ (fun x hx => (ha x hx).2.1) (fun x hx => (hb x hx).2.1), someOf_append]
    exact hd'

theorem assert129 (ob : Nat) (w : World) : (Instr.typeAssert (.iface 129 (.agg #[.pointer (some ⟨ob, 0, none⟩)])) 74 129 false).run Tryz.prog w = .ok (.agg #[.pointer (some ⟨ob, 0, none⟩)]) w := by kernel_rfl
theorem field129 (ob : Nat) (w : World) : (Instr.field 129 (.agg #[.pointer (some ⟨ob, 0, none⟩)]) 0).run Tryz.prog w = .ok (.pointer (some ⟨ob, 0, none⟩)) w := by kernel_rfl
/-- a post by its name -/
def PostM (Q : Ending → World → Prop) (e : Ending) (w : World) : Prop := Q e w
/-- a core's box -/
structure BxC (w : World) (b db : Nat) (T : TypeId) (W : World) : Prop where
  blk : Blk W b #[.pointer (some ⟨db, 0, none⟩)] T
  below : Below w.heap.size w W
theorem BxC.drew {w W : World} {b db : Nat} {T : TypeId} (h : BxC w b db T W) : BxC w b db T W.drew := ⟨h.blk.drew, h.below.drew⟩
set_option maxHeartbeats 4000000 in
theorem hdr_corejoin (w : World) (db ob : Nat) (Q : Ending → World → Prop) (hq : ∀ W, Below w.heap.size w W → Calls Tryz.prog 246 #[.pointer (some ⟨db, 0, none⟩), .pointer (some ⟨ob, 0, none⟩)] W fun e w' => (∃ code, e = .returned (.int .i64 code)) ∧ Q e w') :
    Calls Tryz.prog 242 #[.agg #[.pointer (some ⟨db, 0, none⟩)], .iface 129 (.agg #[.pointer (some ⟨ob, 0, none⟩)])] w (PostM Q) := by
  have H : BxC w w.heap.size db 129 (w.alloc (.cells #[.pointer (some ⟨db, 0, none⟩)] 129)) := ⟨Blk.newAt rfl, (Below.refl _ _).alloc (Nat.le_refl _) _⟩
  have hta := assert129 ob
  have hfi := field129 ob
  have HQ := Lib.hid hq
  clear hq
  go_enter Tryz.func242, Tryz.ntmps242
  go_upto_region 1 with fail
  refine wp_region_quiet_tail 5 (C := BxC w w.heap.size db 129) (by kernel_rfl) (by kernel_rfl) H.drew ?_
  simp only [List.take_succ_cons, List.take_zero, List.drop_succ_cons, List.drop_zero]
  repeat (first | go_big_quiet_skip | (go_big_quiet_want; go_big_quiet_op; first | go_big_quiet_on | (refine quiet_const ?_; go_big_quiet_on)))
  go_big_quiet_want
  refine ⟨.pointer (some ⟨db, 0, none⟩), fun wx hx => ?_, ?_⟩
  · have p0 : wx.cell? ⟨w.heap.size, 0, none⟩ = some (.pointer (some ⟨db, 0, none⟩)) := hx.blk.cell rfl
    go_simp
  go_big_quiet_on
  simp only [Act.put, List.setIfInBounds_toArray, List.set_cons_zero, List.set_cons_succ]
  repeat (first | go_big_quiet_skip | (go_big_quiet_want; go_big_quiet_op; first | go_big_quiet_on | (refine quiet_const ?_; go_big_quiet_on)))
  refine wpQuiet_nil ?_
  intro w1 H1
  have hj := HQ.out w1 H1.below
  clear H H1
  go_wp2_with fail
  refine hj.mono ?_
  rintro e w2 ⟨⟨code, rfl⟩, q⟩
  have HR := Lib.hid q
  clear hj q
  go_wp2_with fail
  go_ret
  exact HR.out
end Go.Proofs.YtbejdajkkoapgaaGreatDoor

