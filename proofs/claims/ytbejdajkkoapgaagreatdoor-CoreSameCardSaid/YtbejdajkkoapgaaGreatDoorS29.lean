/-
  Several texts in one: Hl. What each proves, and on which conditions, stands at its head. Conditions: stated in each.
-/
import Derived.Test.YtbejdajkkoapgaaGreatDoorS24
import Derived.Test.YtbejdajkkoapgaaGreatDoorS18
import Derived.Test.YtbejdajkkoapgaaGreatDoorS07
/-
  Contract of hdr.Load. Conditions: rows that a hdr sketch had.
-/
set_option linter.unusedVariables false
set_option linter.unusedSimpArgs false
set_option maxRecDepth 100000
namespace Go.Proofs.YtbejdajkkoapgaaGreatDoor
open Go.RowKit Go.Lib

theorem plus3_any (w : World) (b : Nat) (x y z : Nat) (h : x + y + z ≤ 9223372036854775807) (h0 : w.cell? ⟨b, 0, none⟩ = some (.int .u64 (x : Int))) (h1 : w.cell? ⟨b, 1, none⟩ = some (.int .u64 (y : Int))) (h2 : w.cell? ⟨b, 2, none⟩ = some (.int .u64 (z : Int))) :
    Calls Tryz.prog 90 #[.slice (some ⟨b, 0, none⟩) 3 3] w fun e w' => e = .returned (.tuple #[.int .u64 (x + y + z : Nat), .bool true]) ∧ w = w' := by
  have g1 : ¬ 9223372036854775807 < (x : Int) := by omega
  have g2 : ¬ 9223372036854775807 - (x : Int) < (y : Int) := by omega
  have g3 : ¬ 9223372036854775807 - ((x : Int) + (y : Int)) < (z : Int) := by omega
  have e1 : IntKind.u64.wrap (9223372036854775807 - (x : Int)) = 9223372036854775807 - (x : Int) := by rw [IntKind.wrap_u64]; omega
  have e2 : IntKind.u64.wrap ((x : Int) + (y : Int)) = (x : Int) + (y : Int) := by rw [IntKind.wrap_u64]; omega
  have e3 : IntKind.u64.wrap (x : Int) = (x : Int) := by rw [IntKind.wrap_u64]; omega
  have e4 : IntKind.u64.wrap (9223372036854775807 - ((x : Int) + (y : Int))) = 9223372036854775807 - ((x : Int) + (y : Int)) := by rw [IntKind.wrap_u64]; omega
  have e5 : IntKind.u64.wrap ((x : Int) + (y : Int) + (z : Int)) = (x : Int) + (y : Int) + (z : Int) := by rw [IntKind.wrap_u64]; omega
  go_enter Tryz.func90, Tryz.ntmps90
  go_wp2
  refine wp_loop_rounds 4 ?_
  rw [rounds_succ]
  go_wp2_with fail
  rw [rounds_succ]
  go_wp2_with fail
  rw [rounds_succ]
  go_wp2_with fail
  rw [rounds_succ]
  go_wp2_with fail
  go_ret2
  exact ⟨by rw [Int.natCast_add, Int.natCast_add]; rfl, rfl⟩

theorem index195_0 (u v : Value) (w : World) : (Instr.index 195 (.agg #[u, v]) (.int .i64 0)).run Tryz.prog w = .ok u w := by kernel_rfl
theorem index195_1 (u v : Value) (w : World) : (Instr.index 195 (.agg #[u, v]) (.int .i64 1)).run Tryz.prog w = .ok v w := by kernel_rfl

/-- a sketch that is being filled -/
structure HlC (w : World) (hb pb s0 s1 dg : Nat) (lim : Int) (a b : Row) (z : Nat) (lo hi : Int) (W : World) : Prop where
  cur : ∃ v0 v1, HdO W hb pb s0 s1 v0 v1 dg lim a b z lo hi ∧ ∀ k, OwnH hb pb s0 s1 v0 v1 k → w.heap.size ≤ k
  below : Below w.heap.size w W
/-- with a pair in its box -/
structure HlP (w : World) (hb pb s0 s1 dg : Nat) (lim : Int) (a b : Row) (xb : Nat) (ix ct : Nat) (W : World) : Prop where
  cur : ∃ v0 v1, HdO W hb pb s0 s1 v0 v1 dg lim a b 0 0 0 ∧ (∀ k, OwnH hb pb s0 s1 v0 v1 k → w.heap.size ≤ k) ∧ ¬ OwnH hb pb s0 s1 v0 v1 xb
  below : Below w.heap.size w W
  p : Blk W xb #[.int .i64 (ix : Int), .int .u64 (ct : Int)] 228
section
variable {w : World} {hb pb s0 s1 dg : Nat} {lim : Int} {a b : Row} {z : Nat} {lo hi : Int} {xb ix ct : Nat} {W W' : World}
theorem HlC.next (h : HlC w hb pb s0 s1 dg lim a b z lo hi W) (k : Below W.heap.size W W') : HlC w hb pb s0 s1 dg lim a b z lo hi W' := by
  obtain ⟨⟨v0, v1, h1, h2⟩, h3⟩ := h
  exact ⟨⟨v0, v1, h1.next k, h2⟩, h3.trans (k.mono h3.size)⟩
theorem HlC.tot0 (h : HlC w hb pb s0 s1 dg lim a b z lo hi W) : Calls Tryz.prog 94 #[.pointer (some ⟨s0, 0, none⟩)] W fun e w' => e = .returned (.int .u64 (rowTotal a : Nat)) ∧ W = w' := by
  obtain ⟨v0, v1, h1, _⟩ := h.cur
  exact strip_total W s0 _ h1.st0.cells.2.2.1
theorem HlC.tot1 (h : HlC w hb pb s0 s1 dg lim a b z lo hi W) : Calls Tryz.prog 94 #[.pointer (some ⟨s1, 0, none⟩)] W fun e w' => e = .returned (.int .u64 (rowTotal b : Nat)) ∧ W = w' := by
  obtain ⟨v0, v1, h1, _⟩ := h.cur
  exact strip_total W s1 _ h1.st1.cells.2.2.1
theorem HlP.next (h : HlP w hb pb s0 s1 dg lim a b xb ix ct W) (k : Below W.heap.size W W') : HlP w hb pb s0 s1 dg lim a b xb ix ct W' := by
  obtain ⟨⟨v0, v1, h1, h2, h4⟩, h3, hp⟩ := h
  exact ⟨⟨v0, v1, h1.next k, h2, h4⟩, h3.trans (k.mono h3.size), hp.below k hp.lt⟩
theorem HlP.drew (h : HlP w hb pb s0 s1 dg lim a b xb ix ct W) : HlP w hb pb s0 s1 dg lim a b xb ix ct W.drew := h.next (Below.refl _ _).drew
theorem HlC.pair (h : HlC w hb pb s0 s1 dg lim a b 0 0 0 W) (ix ct : Nat) : HlP w hb pb s0 s1 dg lim a b W.heap.size ix ct (W.alloc (.cells #[.int .i64 (ix : Int), .int .u64 (ct : Int)] 228)) := by
  obtain ⟨⟨v0, v1, h1, h2⟩, h3⟩ := h
  exact ⟨⟨v0, v1, h1.next ((Below.refl _ _).alloc (Nat.le_refl _) _), h2, fun hO => Nat.lt_irrefl _ (h1.lt _ hO)⟩, h3.alloc h3.size _, Blk.newAt rfl⟩
theorem HlP.pc (h : HlP w hb pb s0 s1 dg lim a b xb ix ct W) : W.cell? ⟨xb, 0, none⟩ = some (.int .i64 (ix : Int)) ∧ W.cell? ⟨xb, 1, none⟩ = some (.int .u64 (ct : Int)) := ⟨h.p.cell rfl, h.p.cell rfl⟩
theorem HlP.rep (hL : Sp.logD dg ≤ 14) (h : HlP w hb pb s0 s1 dg lim a b xb ix ct W) : Calls Tryz.prog 92 #[.pointer (some ⟨pb, 0, none⟩), .int .i64 (ix : Int)] W fun e w' => e = .returned (.int .u64 (Sp.repS (Sp.logD dg) (ix : Int))) ∧ HlP w hb pb s0 s1 dg lim a b xb ix ct w' := by
  obtain ⟨v0, v1, h1, h2, h4⟩ := h.cur
  exact (Sp.rep_any pb (Sp.logD dg) (ix : Int) W hL h1.span).mono fun e w' hh => ⟨hh.1, h.next hh.2.below⟩
theorem HlP.addTo0 (h : HlP w hb pb s0 s1 dg lim a b xb ix ct W) {x c : Nat} (hc : 1 ≤ c) (hs : rowTotal a + c ≤ 9223372036854775807) (hlen : a.length < 4096) :
    Calls Tryz.prog 93 #[.pointer (some ⟨s0, 0, none⟩), .int .i64 (x : Int), .int .u64 (c : Int)] W fun e w' => e = .returned (.int .i64 0) ∧ HlC w hb pb s0 s1 dg lim (addL a x c) b 0 0 0 w' ∧ Blk w' xb #[.int .i64 (ix : Int), .int .u64 (ct : Int)] 228 := by
  obtain ⟨⟨v0, v1, h1, h2, h4⟩, h3, hp⟩ := h
  refine (strip_add W s0 v0 a x c h1.st0 hc hs hlen).mono fun e w' hh => ?_
  obtain ⟨he, vn, S, A, K⟩ := hh
  obtain ⟨c4, c5⟩ := h1.add0 S A K
  have hown : ∀ i, i = s0 ∨ v0.ownBlock = some i → OwnH hb pb s0 s1 v0 v1 i := by
    rintro i (e | e)
    · exact .inr (.inr (.inl e))
    · exact .inr (.inr (.inr (.inr (.inl e))))
  refine ⟨he, ⟨⟨vn, v1, c4, fun i hi => ?_⟩, h3.trans (A.below h3.size fun k hk hO => by have := h2 k (hown k hO); omega)⟩, hp.away A fun hO => h4 (hown _ hO)⟩
  rcases c5 i hi with e | e
  · exact h2 i e
  · exact Nat.le_trans h3.size e
theorem HlP.addTo1 (h : HlP w hb pb s0 s1 dg lim a b xb ix ct W) {x c : Nat} (hc : 1 ≤ c) (hs : rowTotal b + c ≤ 9223372036854775807) (hlen : b.length < 4096) :
    Calls Tryz.prog 93 #[.pointer (some ⟨s1, 0, none⟩), .int .i64 (x : Int), .int .u64 (c : Int)] W fun e w' => e = .returned (.int .i64 0) ∧ HlC w hb pb s0 s1 dg lim a (addL b x c) 0 0 0 w' ∧ Blk w' xb #[.int .i64 (ix : Int), .int .u64 (ct : Int)] 228 := by
  obtain ⟨⟨v0, v1, h1, h2, h4⟩, h3, hp⟩ := h
  refine (strip_add W s1 v1 b x c h1.st1 hc hs hlen).mono fun e w' hh => ?_
  obtain ⟨he, vn, S, A, K⟩ := hh
  obtain ⟨c4, c5⟩ := h1.add1 S A K
  have hown : ∀ i, i = s1 ∨ v1.ownBlock = some i → OwnH hb pb s0 s1 v0 v1 i := by
    rintro i (e | e)
    · exact .inr (.inr (.inr (.inl e)))
    · exact .inr (.inr (.inr (.inr (.inr e))))
  refine ⟨he, ⟨⟨v0, vn, c4, fun i hi => ?_⟩, h3.trans (A.below h3.size fun k hk hO => by have := h2 k (hown k hO); omega)⟩, hp.away A fun hO => h4 (hown _ hO)⟩
  rcases c5 i hi with e | e
  · exact h2 i e
  · exact Nat.le_trans h3.size e
end

/-- what Load answers -/
def HldP (w : World) (dg : Nat) (lim : Int) (l0 l1 : Row) (z : Nat) (lo hi : Int) (e : Ending) (w' : World) : Prop := ∃ (po : Option Addr) (code : Int), e = .returned (.tuple #[.pointer po, .int .i64 code]) ∧ Below w.heap.size w w' ∧
  (code = 0 → ∃ hb pb s0 s1 v0 v1, po = some ⟨hb, 0, none⟩ ∧ HdO w' hb pb s0 s1 v0 v1 dg lim l0 l1 z lo hi ∧ ∀ k, OwnH hb pb s0 s1 v0 v1 k → w.heap.size ≤ k)
set_option maxHeartbeats 16000000 in
theorem hdr_load (w : World) (ht : Sp.Tens w) (dg : Nat) (lim : Int) (l0 l1 : Row) (z : Nat) (lo hi : Int) (va vb : Value) (oa : w.ownsRow 0 228 2 va l0.length (rowC l0)) (ob : w.ownsRow 0 228 2 vb l1.length (rowC l1))
    (h1 : 1 ≤ dg) (h2 : dg ≤ 4) (hl0 : 0 ≤ lim) (hl : lim ≤ 9223372036854775808) (hr0 : Rising l0) (hf0 : Full l0) (hr1 : Rising l1) (hf1 : Full l1) (n0l : l0.length ≤ 4000) (n1l : l1.length ≤ 4000) (hT : hdT l0 l1 z ≤ 9223372036854775807) :
    Calls Tryz.prog 78 #[.agg #[.int .i64 (dg : Int), .int .u64 lim], va, vb, .int .u64 (z : Int), .int .i64 lo, .int .i64 hi] w (HldP w dg lim l0 l1 z lo hi) := by
  have b0 : Below w.heap.size w (w.alloc (.cells #[.int .i64 (dg : Int), .int .u64 lim] 127)) := (Below.refl _ _).alloc (Nat.le_refl _) _
  have hn := hdr_new _ (ht.next b0) dg lim h1 h2 hl0 hl
  have hL : Sp.logD dg ≤ 14 := (Sp.logD_le dg).2
  obtain ⟨Aa, ca, hva⟩ := owns_slice oa
  obtain ⟨Ab, cb, hvb⟩ := owns_slice ob
  subst hva
  subst hvb
  have OA := Lib.hid oa
  have OB := Lib.hid ob
  obtain ⟨n0, hn0⟩ : ∃ n, n = l0.length := ⟨_, rfl⟩
  obtain ⟨n1, hn1⟩ : ∃ n, n = l1.length := ⟨_, rfl⟩
  have HN0 := Lib.hid hn0
  have HN1 := Lib.hid hn1
  rw [← hn0] at OA
  rw [← hn1] at OB
  rw [← hn0, ← hn1]
  have ht0 : rowTotal l0 ≤ hdT l0 l1 z := by unfold hdT; omega
  have ht1 : rowTotal l1 ≤ hdT l0 l1 z := by unfold hdT; omega
  have HT3 := Lib.hid (show rowTotal l0 + rowTotal l1 + z ≤ 9223372036854775807 from by have h := hT; unfold hdT at h; omega)
  have HTT := Lib.hid hT
  clear oa ob ht hn0 hn1 h1 h2 hl0 hl
  go_enter Tryz.func78, Tryz.ntmps78
  go_wp2_with fail
  refine hn.mono ?_
  rintro e w1 ⟨hb, pb, s0, s1, rfl, H1, g1, g2, g3, g4, b1⟩
  have B1 := b0.trans (b1.mono b0.size)
  have hz := b0.size
  have C1 : HlC w hb pb s0 s1 dg lim [] [] 0 0 0 w1 := ⟨⟨_, _, H1, by
    rintro k (rfl | rfl | rfl | rfl | e | e)
    · omega
    · omega
    · omega
    · omega
    · simp [Value.ownBlock] at e
    · simp [Value.ownBlock] at e⟩, B1⟩
  have HC1 := Lib.hid C1
  clear hn H1 g1 g2 g3 g4 b1 B1 C1 hz b0
  go_wp2_with fail
  go_loopg [18, 20, 34] 2 (fun g x18 x20 i wr => ∃ r : Nat, i = .int .i64 (r : Int) ∧ r ≤ 2 ∧ 2 - r ≤ g ∧ HlC w hb pb s0 s1 dg lim (if r = 0 then [] else l0) (if r = 2 then l1 else []) 0 0 0 wr)
  case atStart => exact ⟨0, rfl, by decide, by decide, HC1.out⟩
  case round =>
    clear HC1
    obtain ⟨r, rfl, hr, hgr, H⟩ := hrel
    have hii0 := fun w => index195_0 (.slice Aa n0 ca) (.slice Ab n1 cb) w
    have hii1 := fun w => index195_1 (.slice Aa n0 ca) (.slice Ab n1 cb) w
    by_cases k0 : r = 0
    · subst k0
      replace H : HlC w hb pb s0 s1 dg lim [] [] 0 0 0 wr := H
      have HX := Lib.hid H
      clear H
      go_wp2_with fail
      go_loopg [18, 40] n0 (fun g la i wr => ∃ q : Nat, i = .int .i64 (q : Int) ∧ q ≤ n0 ∧ n0 - q ≤ g ∧ (∃ x : Int, la = .int .i64 x) ∧ HlC w hb pb s0 s1 dg lim (joinL [] (l0.take q)) [] 0 0 0 wr)
      case atStart => exact ⟨0, rfl, Nat.zero_le _, Nat.le_refl _, ⟨0, rfl⟩, by rw [List.take_zero]; exact HX.out⟩
      case round =>
        clear HX
        obtain ⟨q, rfl, hq, hg, ⟨la, rfl⟩, H⟩ := hrel
        by_cases hqm : q < n0
        · have g1 : (q : Int) < (n0 : Int) := by omega
          have hql : q < l0.length := by rw [← HN0.out]; exact hqm
          have O1 := owns_below OA.out H.below fun g hg => (OA.out.lt g hg).2
          rcases owns_shape O1 with ⟨hv0, hn0, _⟩ | ⟨g', cap, hv0, hnc, hcap, _, hgl⟩
          · omega
          simp only [Value.slice.injEq] at hv0
          obtain ⟨rfl, hnn, rfl⟩ := hv0
          have O2 : wr.ownsRow 0 228 2 (.slice (some ⟨g', 0, none⟩) l0.length ca) l0.length (rowC l0) := by
            have e : n0 = l0.length := HN0.out
            rw [e] at O1; exact O1
          obtain ⟨ix, hix⟩ : ∃ i, i = (l0[q]'hql).1 := ⟨_, rfl⟩
          obtain ⟨ct, hct⟩ : ∃ i, i = (l0[q]'hql).2 := ⟨_, rfl⟩
          have hc1 := hf0 _ (List.getElem_mem hql)
          rw [← hct] at hc1
          have hsn : joinL [] (l0.take (q + 1)) = addL (joinL [] (l0.take q)) ix ct := by
            rw [List.take_succ_eq_append_getElem hql, joinL_snoc, hix, hct]
          have hct2 : rowTotal (l0.take q) + ct ≤ rowTotal l0 := by
            have e : l0 = l0.take q ++ ((l0[q]'hql) :: l0.drop (q + 1)) := by rw [← List.drop_eq_getElem_cons hql, List.take_append_drop]
            have e2 : rowTotal l0 = rowTotal (l0.take q) + rowTotal ((l0[q]'hql) :: l0.drop (q + 1)) := by
              conv => lhs; rw [e]
              exact sumIf_append _ _ _
            have e3 : rowTotal ((l0[q]'hql) :: l0.drop (q + 1)) = (l0[q]'hql).2 + rowTotal (l0.drop (q + 1)) := by unfold rowTotal; rw [sumIf_cons]; simp
            omega
          have hjt := joinL_total [] (l0.take q)
          have hj0 : rowTotal ([] : Row) = 0 := rfl
          have hjl := joinL_len [] (l0.take q)
          rw [List.length_take] at hjl
          simp only [List.length_nil] at hjl
          have p0 : wr.cell? ⟨g', q * 2, none⟩ = some (.int .i64 (ix : Int)) := by rw [O2.cellAt _ (by omega), rowC_fst l0 q hql, hix]
          have p1 : wr.cell? ⟨g', q * 2 + 1, none⟩ = some (.int .u64 (ct : Int)) := by rw [O2.cellAt _ (by omega), rowC_snd l0 q hql, hct]
          have P1 : HlP w hb pb s0 s1 dg lim (joinL [] (l0.take q)) [] wr.heap.size ix ct (wr.alloc (.cells #[.int .i64 (ix : Int), .int .u64 (ct : Int)] 228)) := H.pair ix ct
          have had := fun W (x : HlP w hb pb s0 s1 dg lim (joinL [] (l0.take q)) [] wr.heap.size ix ct W) => x.addTo0 (x := ix) (c := ct) hc1 (by omega) (by omega)
          rw [← hsn] at had
          have HB1 := Lib.hid P1
          clear hix hct H O1 O2 hsn hct2 hjt hj0 hjl hc1
          by_cases hle : (ix : Int) ≤ la
          · have d1 : decide ((ix : Int) ≤ la) = true := by simp [hle]
            go_upto_region 11 with fail
            refine wp_region_quiet_litC (C := HlP w hb pb s0 s1 dg lim (joinL [] (l0.take q)) [] wr.heap.size ix ct) (by kernel_rfl) (by kernel_rfl) P1.drew ?_
            clear P1
            repeat (first | go_big_quiet_skip | (go_big_quiet_want; go_big_quiet_op; first | go_big_quiet_on | (refine quiet_const ?_; go_big_quiet_on)))
            go_big_quiet_want
            refine ⟨.int .i64 (ix : Int), fun wx hx => ?_, ?_⟩
            · obtain ⟨p0, p1⟩ := hx.pc
              go_simp
            go_big_quiet_on
            simp only [Act.put, List.setIfInBounds_toArray, List.set_cons_zero, List.set_cons_succ]
            repeat (first | go_big_quiet_skip | (go_big_quiet_want; go_big_quiet_op; first | go_big_quiet_on | (refine quiet_const ?_; go_big_quiet_on)))
            refine wpQuiet_nil ?_
            intro W1 H1
            have HH := Lib.hid H1.below
            clear H1 had
            go_wp2_with fail
            go_ret2
            exact ⟨_, _, rfl, HH.out, fun h => absurd h (by decide)⟩
          · have d1 : decide ((ix : Int) ≤ la) = false := by simp; omega
            have hrp := fun W (x : HlP w hb pb s0 s1 dg lim (joinL [] (l0.take q)) [] wr.heap.size ix ct W) => x.rep hL
            obtain ⟨R, hR⟩ : ∃ R, R = Sp.repS (Sp.logD dg) (ix : Int) := ⟨_, rfl⟩
            rw [← hR] at hrp
            clear hR
            by_cases hz : R = 0
            · have d2 : (R == 0) = true := by simp [hz]
              go_upto_region 11 with fail
              refine wp_region_quiet_litC (C := HlP w hb pb s0 s1 dg lim (joinL [] (l0.take q)) [] wr.heap.size ix ct) (by kernel_rfl) (by kernel_rfl) P1.drew ?_
              clear P1
              repeat (first | go_big_quiet_skip | (go_big_quiet_want; go_big_quiet_op; first | go_big_quiet_on | (refine quiet_const ?_; go_big_quiet_on)))
              go_big_quiet_want
              refine ⟨.int .i64 (ix : Int), fun wx hx => ?_, ?_⟩
              · obtain ⟨p0, p1⟩ := hx.pc
                go_simp
              go_big_quiet_on
              simp only [Act.put, List.setIfInBounds_toArray, List.set_cons_zero, List.set_cons_succ]
              repeat (first | go_big_quiet_skip | (go_big_quiet_want; go_big_quiet_op; first | go_big_quiet_on | (refine quiet_const ?_; go_big_quiet_on)))
              go_big_quiet_want
              refine ⟨.pointer (some ⟨pb, 0, none⟩), fun wx hx => ?_, ?_⟩
              · obtain ⟨v0x, v1x, hxd, _, _⟩ := hx.cur; obtain ⟨c0, c1, c2, c3, c4, c5, c6, c7, f5, f6, f7⟩ := hxd.cells
                go_simp
              go_big_quiet_on
              simp only [Act.put, List.setIfInBounds_toArray, List.set_cons_zero, List.set_cons_succ]
              repeat (first | go_big_quiet_skip | (go_big_quiet_want; go_big_quiet_op; first | go_big_quiet_on | (refine quiet_const ?_; go_big_quiet_on)))
              go_big_quiet_want
              refine ⟨.int .i64 (ix : Int), fun wx hx => ?_, ?_⟩
              · obtain ⟨p0, p1⟩ := hx.pc
                go_simp
              go_big_quiet_on
              simp only [Act.put, List.setIfInBounds_toArray, List.set_cons_zero, List.set_cons_succ]
              repeat (first | go_big_quiet_skip | (go_big_quiet_want; go_big_quiet_op; first | go_big_quiet_on | (refine quiet_const ?_; go_big_quiet_on)))
              go_big_quiet_want
              go_big_quiet_op
              refine ⟨.int .u64 R, fun wx hx => ?_, ?_⟩
              · exact hrp wx hx
              go_big_quiet_on
              repeat (first | go_big_quiet_skip | (go_big_quiet_want; go_big_quiet_op; first | go_big_quiet_on | (refine quiet_const ?_; go_big_quiet_on)))
              refine wpQuiet_nil ?_
              intro W1 H1
              have HH := Lib.hid H1.below
              clear H1 had hrp
              go_wp2_with fail
              go_ret2
              exact ⟨_, _, rfl, HH.out, fun h => absurd h (by decide)⟩
            · have d2 : (R == 0) = false := by simp [hz]
              go_upto_region 11 with fail
              refine wp_region_quiet_tail 25 (C := HlP w hb pb s0 s1 dg lim (joinL [] (l0.take q)) [] wr.heap.size ix ct) (by kernel_rfl) (by kernel_rfl) P1.drew ?_
              clear P1
              simp only [List.take_succ_cons, List.take_zero, List.drop_succ_cons, List.drop_zero]
              repeat (first | go_big_quiet_skip | (go_big_quiet_want; go_big_quiet_op; first | go_big_quiet_on | (refine quiet_const ?_; go_big_quiet_on)))
              go_big_quiet_want
              refine ⟨.int .i64 (ix : Int), fun wx hx => ?_, ?_⟩
              · obtain ⟨p0, p1⟩ := hx.pc
                go_simp
              go_big_quiet_on
              simp only [Act.put, List.setIfInBounds_toArray, List.set_cons_zero, List.set_cons_succ]
              repeat (first | go_big_quiet_skip | (go_big_quiet_want; go_big_quiet_op; first | go_big_quiet_on | (refine quiet_const ?_; go_big_quiet_on)))
              go_big_quiet_want
              refine ⟨.pointer (some ⟨pb, 0, none⟩), fun wx hx => ?_, ?_⟩
              · obtain ⟨v0x, v1x, hxd, _, _⟩ := hx.cur; obtain ⟨c0, c1, c2, c3, c4, c5, c6, c7, f5, f6, f7⟩ := hxd.cells
                go_simp
              go_big_quiet_on
              simp only [Act.put, List.setIfInBounds_toArray, List.set_cons_zero, List.set_cons_succ]
              repeat (first | go_big_quiet_skip | (go_big_quiet_want; go_big_quiet_op; first | go_big_quiet_on | (refine quiet_const ?_; go_big_quiet_on)))
              go_big_quiet_want
              refine ⟨.int .i64 (ix : Int), fun wx hx => ?_, ?_⟩
              · obtain ⟨p0, p1⟩ := hx.pc
                go_simp
              go_big_quiet_on
              simp only [Act.put, List.setIfInBounds_toArray, List.set_cons_zero, List.set_cons_succ]
              repeat (first | go_big_quiet_skip | (go_big_quiet_want; go_big_quiet_op; first | go_big_quiet_on | (refine quiet_const ?_; go_big_quiet_on)))
              go_big_quiet_want
              go_big_quiet_op
              refine ⟨.int .u64 R, fun wx hx => ?_, ?_⟩
              · exact hrp wx hx
              go_big_quiet_on
              repeat (first | go_big_quiet_skip | (go_big_quiet_want; go_big_quiet_op; first | go_big_quiet_on | (refine quiet_const ?_; go_big_quiet_on)))
              go_big_quiet_want
              refine ⟨.pointer (some ⟨s0, 0, none⟩), fun wx hx => ?_, ?_⟩
              · obtain ⟨v0x, v1x, hxd, _, _⟩ := hx.cur; obtain ⟨c0, c1, c2, c3, c4, c5, c6, c7, f5, f6, f7⟩ := hxd.cells
                go_simp
              go_big_quiet_on
              simp only [Act.put, List.setIfInBounds_toArray, List.set_cons_zero, List.set_cons_succ]
              repeat (first | go_big_quiet_skip | (go_big_quiet_want; go_big_quiet_op; first | go_big_quiet_on | (refine quiet_const ?_; go_big_quiet_on)))
              go_big_quiet_want
              refine ⟨.int .i64 (ix : Int), fun wx hx => ?_, ?_⟩
              · obtain ⟨p0, p1⟩ := hx.pc
                go_simp
              go_big_quiet_on
              simp only [Act.put, List.setIfInBounds_toArray, List.set_cons_zero, List.set_cons_succ]
              repeat (first | go_big_quiet_skip | (go_big_quiet_want; go_big_quiet_op; first | go_big_quiet_on | (refine quiet_const ?_; go_big_quiet_on)))
              go_big_quiet_want
              refine ⟨.int .u64 (ct : Int), fun wx hx => ?_, ?_⟩
              · obtain ⟨p0, p1⟩ := hx.pc
                go_simp
              go_big_quiet_on
              simp only [Act.put, List.setIfInBounds_toArray, List.set_cons_zero, List.set_cons_succ]
              repeat (first | go_big_quiet_skip | (go_big_quiet_want; go_big_quiet_op; first | go_big_quiet_on | (refine quiet_const ?_; go_big_quiet_on)))
              refine wpQuiet_nil ?_
              intro W1 H1
              have hadW := had W1 H1
              clear H1 had hrp
              go_wp2_with fail
              refine hadW.mono ?_
              rintro e W2 ⟨rfl, H2, P2⟩
              have x0 : W2.cell? ⟨wr.heap.size, 0, none⟩ = some (.int .i64 (ix : Int)) := P2.cell rfl
              have HH2 := Lib.hid H2
              clear hadW H2 P2
              go_wp2_with fail
              go_roundg (n0 - (q + 1))
              case measure => omega
              exact ⟨q + 1, by go_num, by omega, Nat.le_refl _, ⟨_, rfl⟩, HH2.out⟩
        · have g1 : ¬ (q : Int) < (n0 : Int) := by omega
          have hqe : q = l0.length := by have := HN0.out; omega
          have HT := Lib.hid (show HlC w hb pb s0 s1 dg lim l0 [] 0 0 0 wr by rw [hqe, List.take_length, join_nil hr0 hf0] at H; exact H)
          clear H hqe
          go_wp2_with fail
          go_roundg 1
          case measure => omega
          exact ⟨1, by go_num, by decide, by decide, HT.out⟩
    by_cases k1 : r = 1
    · subst k1
      replace H : HlC w hb pb s0 s1 dg lim l0 [] 0 0 0 wr := H
      have HX := Lib.hid H
      clear H
      go_wp2_with fail
      go_loopg [18, 40] n1 (fun g la i wr => ∃ q : Nat, i = .int .i64 (q : Int) ∧ q ≤ n1 ∧ n1 - q ≤ g ∧ (∃ x : Int, la = .int .i64 x) ∧ HlC w hb pb s0 s1 dg lim l0 (joinL [] (l1.take q)) 0 0 0 wr)
      case atStart => exact ⟨0, rfl, Nat.zero_le _, Nat.le_refl _, ⟨0, rfl⟩, by rw [List.take_zero]; exact HX.out⟩
      case round =>
        clear HX
        obtain ⟨q, rfl, hq, hg, ⟨la, rfl⟩, H⟩ := hrel
        by_cases hqm : q < n1
        · have g1 : (q : Int) < (n1 : Int) := by omega
          have hql : q < l1.length := by rw [← HN1.out]; exact hqm
          have O1 := owns_below OB.out H.below fun g hg => (OB.out.lt g hg).2
          rcases owns_shape O1 with ⟨hv0, hn0, _⟩ | ⟨g', cap, hv0, hnc, hcap, _, hgl⟩
          · omega
          simp only [Value.slice.injEq] at hv0
          obtain ⟨rfl, hnn, rfl⟩ := hv0
          have O2 : wr.ownsRow 0 228 2 (.slice (some ⟨g', 0, none⟩) l1.length cb) l1.length (rowC l1) := by
            have e : n1 = l1.length := HN1.out
            rw [e] at O1; exact O1
          obtain ⟨ix, hix⟩ : ∃ i, i = (l1[q]'hql).1 := ⟨_, rfl⟩
          obtain ⟨ct, hct⟩ : ∃ i, i = (l1[q]'hql).2 := ⟨_, rfl⟩
          have hc1 := hf1 _ (List.getElem_mem hql)
          rw [← hct] at hc1
          have hsn : joinL [] (l1.take (q + 1)) = addL (joinL [] (l1.take q)) ix ct := by
            rw [List.take_succ_eq_append_getElem hql, joinL_snoc, hix, hct]
          have hct2 : rowTotal (l1.take q) + ct ≤ rowTotal l1 := by
            have e : l1 = l1.take q ++ ((l1[q]'hql) :: l1.drop (q + 1)) := by rw [← List.drop_eq_getElem_cons hql, List.take_append_drop]
            have e2 : rowTotal l1 = rowTotal (l1.take q) + rowTotal ((l1[q]'hql) :: l1.drop (q + 1)) := by
              conv => lhs; rw [e]
              exact sumIf_append _ _ _
            have e3 : rowTotal ((l1[q]'hql) :: l1.drop (q + 1)) = (l1[q]'hql).2 + rowTotal (l1.drop (q + 1)) := by unfold rowTotal; rw [sumIf_cons]; simp
            omega
          have hjt := joinL_total [] (l1.take q)
          have hj0 : rowTotal ([] : Row) = 0 := rfl
          have hjl := joinL_len [] (l1.take q)
          rw [List.length_take] at hjl
          simp only [List.length_nil] at hjl
          have p0 : wr.cell? ⟨g', q * 2, none⟩ = some (.int .i64 (ix : Int)) := by rw [O2.cellAt _ (by omega), rowC_fst l1 q hql, hix]
          have p1 : wr.cell? ⟨g', q * 2 + 1, none⟩ = some (.int .u64 (ct : Int)) := by rw [O2.cellAt _ (by omega), rowC_snd l1 q hql, hct]
          have P1 : HlP w hb pb s0 s1 dg lim l0 (joinL [] (l1.take q)) wr.heap.size ix ct (wr.alloc (.cells #[.int .i64 (ix : Int), .int .u64 (ct : Int)] 228)) := H.pair ix ct
          have had := fun W (x : HlP w hb pb s0 s1 dg lim l0 (joinL [] (l1.take q)) wr.heap.size ix ct W) => x.addTo1 (x := ix) (c := ct) hc1 (by omega) (by omega)
          rw [← hsn] at had
          have HB1 := Lib.hid P1
          clear hix hct H O1 O2 hsn hct2 hjt hj0 hjl hc1
          by_cases hle : (ix : Int) ≤ la
          · have d1 : decide ((ix : Int) ≤ la) = true := by simp [hle]
            go_upto_region 11 with fail
            refine wp_region_quiet_litC (C := HlP w hb pb s0 s1 dg lim l0 (joinL [] (l1.take q)) wr.heap.size ix ct) (by kernel_rfl) (by kernel_rfl) P1.drew ?_
            clear P1
            repeat (first | go_big_quiet_skip | (go_big_quiet_want; go_big_quiet_op; first | go_big_quiet_on | (refine quiet_const ?_; go_big_quiet_on)))
            go_big_quiet_want
            refine ⟨.int .i64 (ix : Int), fun wx hx => ?_, ?_⟩
            · obtain ⟨p0, p1⟩ := hx.pc
              go_simp
            go_big_quiet_on
            simp only [Act.put, List.setIfInBounds_toArray, List.set_cons_zero, List.set_cons_succ]
            repeat (first | go_big_quiet_skip | (go_big_quiet_want; go_big_quiet_op; first | go_big_quiet_on | (refine quiet_const ?_; go_big_quiet_on)))
            refine wpQuiet_nil ?_
            intro W1 H1
            have HH := Lib.hid H1.below
            clear H1 had
            go_wp2_with fail
            go_ret2
            exact ⟨_, _, rfl, HH.out, fun h => absurd h (by decide)⟩
          · have d1 : decide ((ix : Int) ≤ la) = false := by simp; omega
            have hrp := fun W (x : HlP w hb pb s0 s1 dg lim l0 (joinL [] (l1.take q)) wr.heap.size ix ct W) => x.rep hL
            obtain ⟨R, hR⟩ : ∃ R, R = Sp.repS (Sp.logD dg) (ix : Int) := ⟨_, rfl⟩
            rw [← hR] at hrp
            clear hR
            by_cases hz : R = 0
            · have d2 : (R == 0) = true := by simp [hz]
              go_upto_region 11 with fail
              refine wp_region_quiet_litC (C := HlP w hb pb s0 s1 dg lim l0 (joinL [] (l1.take q)) wr.heap.size ix ct) (by kernel_rfl) (by kernel_rfl) P1.drew ?_
              clear P1
              repeat (first | go_big_quiet_skip | (go_big_quiet_want; go_big_quiet_op; first | go_big_quiet_on | (refine quiet_const ?_; go_big_quiet_on)))
              go_big_quiet_want
              refine ⟨.int .i64 (ix : Int), fun wx hx => ?_, ?_⟩
              · obtain ⟨p0, p1⟩ := hx.pc
                go_simp
              go_big_quiet_on
              simp only [Act.put, List.setIfInBounds_toArray, List.set_cons_zero, List.set_cons_succ]
              repeat (first | go_big_quiet_skip | (go_big_quiet_want; go_big_quiet_op; first | go_big_quiet_on | (refine quiet_const ?_; go_big_quiet_on)))
              go_big_quiet_want
              refine ⟨.pointer (some ⟨pb, 0, none⟩), fun wx hx => ?_, ?_⟩
              · obtain ⟨v0x, v1x, hxd, _, _⟩ := hx.cur; obtain ⟨c0, c1, c2, c3, c4, c5, c6, c7, f5, f6, f7⟩ := hxd.cells
                go_simp
              go_big_quiet_on
              simp only [Act.put, List.setIfInBounds_toArray, List.set_cons_zero, List.set_cons_succ]
              repeat (first | go_big_quiet_skip | (go_big_quiet_want; go_big_quiet_op; first | go_big_quiet_on | (refine quiet_const ?_; go_big_quiet_on)))
              go_big_quiet_want
              refine ⟨.int .i64 (ix : Int), fun wx hx => ?_, ?_⟩
              · obtain ⟨p0, p1⟩ := hx.pc
                go_simp
              go_big_quiet_on
              simp only [Act.put, List.setIfInBounds_toArray, List.set_cons_zero, List.set_cons_succ]
              repeat (first | go_big_quiet_skip | (go_big_quiet_want; go_big_quiet_op; first | go_big_quiet_on | (refine quiet_const ?_; go_big_quiet_on)))
              go_big_quiet_want
              go_big_quiet_op
              refine ⟨.int .u64 R, fun wx hx => ?_, ?_⟩
              · exact hrp wx hx
              go_big_quiet_on
              repeat (first | go_big_quiet_skip | (go_big_quiet_want; go_big_quiet_op; first | go_big_quiet_on | (refine quiet_const ?_; go_big_quiet_on)))
              refine wpQuiet_nil ?_
              intro W1 H1
              have HH := Lib.hid H1.below
              clear H1 had hrp
              go_wp2_with fail
              go_ret2
              exact ⟨_, _, rfl, HH.out, fun h => absurd h (by decide)⟩
            · have d2 : (R == 0) = false := by simp [hz]
              go_upto_region 11 with fail
              refine wp_region_quiet_tail 25 (C := HlP w hb pb s0 s1 dg lim l0 (joinL [] (l1.take q)) wr.heap.size ix ct) (by kernel_rfl) (by kernel_rfl) P1.drew ?_
              clear P1
              simp only [List.take_succ_cons, List.take_zero, List.drop_succ_cons, List.drop_zero]
              repeat (first | go_big_quiet_skip | (go_big_quiet_want; go_big_quiet_op; first | go_big_quiet_on | (refine quiet_const ?_; go_big_quiet_on)))
              go_big_quiet_want
              refine ⟨.int .i64 (ix : Int), fun wx hx => ?_, ?_⟩
              · obtain ⟨p0, p1⟩ := hx.pc
                go_simp
              go_big_quiet_on
              simp only [Act.put, List.setIfInBounds_toArray, List.set_cons_zero, List.set_cons_succ]
              repeat (first | go_big_quiet_skip | (go_big_quiet_want; go_big_quiet_op; first | go_big_quiet_on | (refine quiet_const ?_; go_big_quiet_on)))
              go_big_quiet_want
              refine ⟨.pointer (some ⟨pb, 0, none⟩), fun wx hx => ?_, ?_⟩
              · obtain ⟨v0x, v1x, hxd, _, _⟩ := hx.cur; obtain ⟨c0, c1, c2, c3, c4, c5, c6, c7, f5, f6, f7⟩ := hxd.cells
                go_simp
              go_big_quiet_on
              simp only [Act.put, List.setIfInBounds_toArray, List.set_cons_zero, List.set_cons_succ]
              repeat (first | go_big_quiet_skip | (go_big_quiet_want; go_big_quiet_op; first | go_big_quiet_on | (refine quiet_const ?_; go_big_quiet_on)))
              go_big_quiet_want
              refine ⟨.int .i64 (ix : Int), fun wx hx => ?_, ?_⟩
              · obtain ⟨p0, p1⟩ := hx.pc
                go_simp
              go_big_quiet_on
              simp only [Act.put, List.setIfInBounds_toArray, List.set_cons_zero, List.set_cons_succ]
              repeat (first | go_big_quiet_skip | (go_big_quiet_want; go_big_quiet_op; first | go_big_quiet_on | (refine quiet_const ?_; go_big_quiet_on)))
              go_big_quiet_want
              go_big_quiet_op
              refine ⟨.int .u64 R, fun wx hx => ?_, ?_⟩
              · exact hrp wx hx
              go_big_quiet_on
              repeat (first | go_big_quiet_skip | (go_big_quiet_want; go_big_quiet_op; first | go_big_quiet_on | (refine quiet_const ?_; go_big_quiet_on)))
              go_big_quiet_want
              refine ⟨.pointer (some ⟨s1, 0, none⟩), fun wx hx => ?_, ?_⟩
              · obtain ⟨v0x, v1x, hxd, _, _⟩ := hx.cur; obtain ⟨c0, c1, c2, c3, c4, c5, c6, c7, f5, f6, f7⟩ := hxd.cells
                go_simp
              go_big_quiet_on
              simp only [Act.put, List.setIfInBounds_toArray, List.set_cons_zero, List.set_cons_succ]
              repeat (first | go_big_quiet_skip | (go_big_quiet_want; go_big_quiet_op; first | go_big_quiet_on | (refine quiet_const ?_; go_big_quiet_on)))
              go_big_quiet_want
              refine ⟨.int .i64 (ix : Int), fun wx hx => ?_, ?_⟩
              · obtain ⟨p0, p1⟩ := hx.pc
                go_simp
              go_big_quiet_on
              simp only [Act.put, List.setIfInBounds_toArray, List.set_cons_zero, List.set_cons_succ]
              repeat (first | go_big_quiet_skip | (go_big_quiet_want; go_big_quiet_op; first | go_big_quiet_on | (refine quiet_const ?_; go_big_quiet_on)))
              go_big_quiet_want
              refine ⟨.int .u64 (ct : Int), fun wx hx => ?_, ?_⟩
              · obtain ⟨p0, p1⟩ := hx.pc
                go_simp
              go_big_quiet_on
              simp only [Act.put, List.setIfInBounds_toArray, List.set_cons_zero, List.set_cons_succ]
              repeat (first | go_big_quiet_skip | (go_big_quiet_want; go_big_quiet_op; first | go_big_quiet_on | (refine quiet_const ?_; go_big_quiet_on)))
              refine wpQuiet_nil ?_
              intro W1 H1
              have hadW := had W1 H1
              clear H1 had hrp
              go_wp2_with fail
              refine hadW.mono ?_
              rintro e W2 ⟨rfl, H2, P2⟩
              have x0 : W2.cell? ⟨wr.heap.size, 0, none⟩ = some (.int .i64 (ix : Int)) := P2.cell rfl
              have HH2 := Lib.hid H2
              clear hadW H2 P2
              go_wp2_with fail
              go_roundg (n1 - (q + 1))
              case measure => omega
              exact ⟨q + 1, by go_num, by omega, Nat.le_refl _, ⟨_, rfl⟩, HH2.out⟩
        · have g1 : ¬ (q : Int) < (n1 : Int) := by omega
          have hqe : q = l1.length := by have := HN1.out; omega
          have HT := Lib.hid (show HlC w hb pb s0 s1 dg lim l0 l1 0 0 0 wr by rw [hqe, List.take_length, join_nil hr1 hf1] at H; exact H)
          clear H hqe
          go_wp2_with fail
          go_roundg 0
          case measure => omega
          exact ⟨2, by go_num, by decide, by decide, HT.out⟩

    have hr2 : r = 2 := by omega
    subst hr2
    replace H : HlC w hb pb s0 s1 dg lim l0 l1 0 0 0 wr := H
    obtain ⟨T0, hT0⟩ : ∃ T, T = rowTotal l0 := ⟨_, rfl⟩
    obtain ⟨T1, hT1⟩ : ∃ T, T = rowTotal l1 := ⟨_, rfl⟩
    have hsum := HT3.out
    rw [← hT0, ← hT1] at hsum
    have hs0 := fun W (k : HlC w hb pb s0 s1 dg lim l0 l1 0 0 0 W) => k.tot0
    have hs1 := fun W (k : HlC w hb pb s0 s1 dg lim l0 l1 0 0 0 W) => k.tot1
    rw [← hT0] at hs0
    rw [← hT1] at hs1
    have hp3 := fun W bb => plus3_any W bb T0 T1 z hsum
    clear hT0 hT1 hii0 hii1 hr hgr
    have HD0 := H.next (Below.refl _ _).drew
    have HWA := Lib.hid ((H.next ((Below.refl _ _).alloc (Nat.le_refl _) (.cells #[.int .u64 (T0 : Int), .int .u64 (T1 : Int), .int .u64 (z : Int)] 23))).next (Below.refl _ _).drew)
    obtain ⟨v0c, v1c, hxd, _⟩ := H.cur
    obtain ⟨c0, c1, c2, c3, c4, c5, c6, c7, f5, f6, f7⟩ := hxd.cells
    clear hxd H c0 c1 c2 c5 c6 c7 f5 f6 f7
    go_upto_region 16 with fail
    go_cut [21, 22] from 76 to 93 (fun x y wx => (∃ n, x = .int .u64 n) ∧ y = .bool true ∧ HlC w hb pb s0 s1 dg lim l0 l1 0 0 0 wx)
    case first =>
      rename_i KK
      go_region_with (first
        | (go_at_call 94; refine (hs0 _ (by assumption)).mono ?_; rintro e w2 ⟨rfl, rfl⟩)
        | (go_at_call 94; refine (hs1 _ (by assumption)).mono ?_; rintro e w3 ⟨rfl, rfl⟩)
        | (go_at_call 90; refine (hp3 _ _ (by simp) (by simp) (by simp)).mono ?_; rintro e w4 ⟨rfl, rfl⟩))
      all_goals (refine KK _ _ ?_; try go_wp2)
      all_goals (go_meet; exact ⟨⟨_, rfl⟩, rfl, HWA.out⟩)
    case rest =>
    obtain ⟨⟨nn, rfl⟩, rfl, H⟩ := hcut
    have HW := Lib.hid H
    clear H hs0 hs1 HWA HD0 c3 c4
    obtain ⟨⟨v0, v1, D, hO⟩, B⟩ := HW.out
    obtain ⟨c0, c1, c2, c3, c4, c5, c6, c7, f5, f6, f7⟩ := D.cells
    have D2 := D.turn (z' := z) (lo' := 0) (hi' := 0) 5 (.int .u64 (z : Int)) rfl
    have B2 : Below w.heap.size w (wc.setCell ⟨hb, 5, none⟩ (.int .u64 (z : Int))) := B.setCell (hO _ (.inl rfl)) _
    have htt := hdr_total _ hb pb s0 s1 v0 v1 dg lim l0 l1 z 0 0 D2 HTT.out
    obtain ⟨T, hTT⟩ : ∃ T, T = hdT l0 l1 z := ⟨_, rfl⟩
    rw [← hTT] at htt
    have HD2 := Lib.hid (And.intro D2 (And.intro hO B2))
    clear D hO B D2 B2 hp3 hTT HW
    by_cases hlh : hi < lo
    · go_wp2_with fail
      go_ret2
      exact ⟨_, _, rfl, HD2.out.2.2, fun h => absurd h (by decide)⟩
    · go_wp2_with fail
      refine htt.mono ?_
      rintro e W3 ⟨rfl, b3⟩
      have D3 := HD2.out.1.next b3
      have B3 := HD2.out.2.2.trans (b3.mono HD2.out.2.2.size)
      obtain ⟨c0, c1, c2, c3, c4, c5, c6, c7, f5, f6, f7⟩ := D3.cells
      have D4 := (D3.turn (z' := z) (lo' := lo) (hi' := 0) 6 (.int .i64 lo) rfl).turn (z' := z) (lo' := lo) (hi' := hi) 7 (.int .i64 hi) rfl
      have B4 := (B3.setCell (p := ⟨hb, 6, none⟩) (HD2.out.2.1 _ (.inl rfl)) (.int .i64 lo)).setCell (p := ⟨hb, 7, none⟩) (HD2.out.2.1 _ (.inl rfl)) (.int .i64 hi)
      have HF := Lib.hid (And.intro D4 (And.intro HD2.out.2.1 B4))
      have HB3 := Lib.hid B3
      clear htt D3 D4 B4 HD2 b3 B3
      by_cases hT0 : T = 0
      · have d0 : ((T : Int) == 0) = true := by simp [hT0]
        by_cases hlz : lo = 0
        · by_cases hhz : hi = 0
          · subst hlz
            subst hhz
            have e1 : ((0 : Int) != 0) = false := by decide
            go_wp2_with fail
            go_ret2
            exact ⟨_, _, rfl, HF.out.2.2, fun _ => ⟨hb, pb, s0, s1, v0, v1, rfl, HF.out.1, HF.out.2.1⟩⟩
          · have e1 : (lo != 0) = false := by simp [hlz]
            have e2 : (hi != 0) = true := by simp [hhz]
            go_wp2_with fail
            go_ret2
            exact ⟨_, _, rfl, HB3.out, fun h => absurd h (by decide)⟩
        · have e1 : (lo != 0) = true := by simp [hlz]
          go_wp2_with fail
          go_ret2
          exact ⟨_, _, rfl, HB3.out, fun h => absurd h (by decide)⟩
      · have d0 : ((T : Int) == 0) = false := by simp; omega
        go_wp2_with fail
        go_ret2
        exact ⟨_, _, rfl, HF.out.2.2, fun _ => ⟨hb, pb, s0, s1, v0, v1, rfl, HF.out.1, HF.out.2.1⟩⟩
end Go.Proofs.YtbejdajkkoapgaaGreatDoor

