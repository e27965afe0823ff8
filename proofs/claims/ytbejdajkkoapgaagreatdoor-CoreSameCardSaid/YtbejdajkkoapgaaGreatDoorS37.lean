/-
  Several texts in one: Kl, Sw. What each proves, and on which conditions, stands at its head. Conditions: stated in each.
-/
import Derived.Test.YtbejdajkkoapgaaGreatDoorS33
import Derived.Test.YtbejdajkkoapgaaGreatDoorS36
/-
  The log kind keeps the laws of a kind, and its bytes hang on the values alone. Conditions: none.
-/
set_option linter.unusedVariables false
set_option linter.unusedSimpArgs false
set_option maxRecDepth 100000
namespace Go.Proofs.YtbejdajkkoapgaaGreatDoor
open Go.RowKit Go.Lib

set_option maxHeartbeats 4000000 in
/-- reads at the kind 1, from its own reader -/
theorem reads_log {Q : CoreZ} (C : CoreQ Q) {vals : Vals} (T : TypeId) (x1 x2 x3 x4 x5 x6 x7 x8 x9 x10 : Int) (w : World) (eb : Nat) (hlt : eb < w.heap.size) (hc : Calls Tryz.prog 50 #[.pointer (some ⟨eb, 0, none⟩)] (w.alloc (.cells zeroA 28)) (RdG (cfgV 1 x1 x2 x3 x4 x5 x6 x7 x8 x9 x10) T (Q vals) (w.alloc (.cells zeroA 28)) eb)) :
    Calls Tryz.prog 33 #[.int .i64 1, .pointer (some ⟨eb, 0, none⟩)] w (RdG (cfgV 1 x1 x2 x3 x4 x5 x6 x7 x8 x9 x10) T (Q vals) w eb) := by
  have R0 : Blk (w.alloc (.cells zeroA 28)) w.heap.size zeroA 28 := Blk.newAt rfl
  have RR := Lib.hid R0
  clear R0
  unfold zeroA at hc
  go_enter Tryz.func33, Tryz.ntmps33
  go_wp2_with fail
  refine hc.mono ?_
  rintro e w1 ⟨ok, po, rfl, A1, E1, D1⟩
  have R0 := RR.out
  unfold zeroA at R0
  have R1 := R0.away A1 (by omega)
  obtain ⟨⟨m0, m1, m2, m3, m4, m5, m6, m7, m8, m9, m10⟩, ⟨f0, f1, f2, f3, f4, f5, f6, f7, f8, f9, f10⟩⟩ := zero_cells R1
  have hp := putA_blk (a0 := 1) (a1 := x1) (a2 := x2) (a3 := x3) (a4 := x4) (a5 := x5) (a6 := x6) (a7 := x7) (a8 := x8) (a9 := x9) (a10 := x10) R1
  have hfin := Lib.hid (RdG.on C (a0 := 1) (a1 := x1) (a2 := x2) (a3 := x3) (a4 := x4) (a5 := x5) (a6 := x6) (a7 := x7) (a8 := x8) (a9 := x9) (a10 := x10) (T := T) hlt A1 E1 D1)
  clear hc A1 E1 D1 R1 R0 RR
  unfold cfgV
  go_wp2_with fail
  change bodyPost Tryz.prog Tryz.f33 (RdG (cfgV 1 x1 x2 x3 x4 x5 x6 x7 x8 x9 x10) T (Q vals) w eb) Exit.ret _ (putA w1 w.heap.size 1 x1 x2 x3 x4 x5 x6 x7 x8 x9 x10)
  generalize putA w1 w.heap.size 1 x1 x2 x3 x4 x5 x6 x7 x8 x9 x10 = WW at hp hfin ⊢
  have c0 := hp.cell (j := 0) rfl
  have c1 := hp.cell (j := 1) rfl
  have c2 := hp.cell (j := 2) rfl
  have c3 := hp.cell (j := 3) rfl
  have c4 := hp.cell (j := 4) rfl
  have c5 := hp.cell (j := 5) rfl
  have c6 := hp.cell (j := 6) rfl
  have c7 := hp.cell (j := 7) rfl
  have c8 := hp.cell (j := 8) rfl
  have c9 := hp.cell (j := 9) rfl
  have c10 := hp.cell (j := 10) rfl
  refine bodyPost_ret (v := .tuple #[.agg (cfgV 1 x1 x2 x3 x4 x5 x6 x7 x8 x9 x10), .iface T (.agg #[.pointer po]), .bool ok]) ?_ rfl hfin.out
  simp [results, Tryz.results33, go_sem, cfgV, c0, c1, c2, c3, c4, c5, c6, c7, c8, c9, c10]

theorem enters209 (args : Array Value) (w : World) : (callFunc 209 args).run Tryz.prog w = .ok (.enter 209 args) w := by kernel_rfl
theorem enters218 (args : Array Value) (w : World) : (callFunc 218 args).run Tryz.prog w = .ok (.enter 218 args) w := by kernel_rfl
theorem enters221 (args : Array Value) (w : World) : (callFunc 221 args).run Tryz.prog w = .ok (.enter 221 args) w := by kernel_rfl
theorem methl_put (db : Nat) (w : World) : (method 524 122 (.agg #[.pointer (some ⟨db, 0, none⟩)]) "Put").run Tryz.prog w = .ok (209, .pointer (some ⟨db, 0, none⟩)) w := by kernel_rfl
theorem methl_join (db : Nat) (w : World) : (method 524 122 (.agg #[.pointer (some ⟨db, 0, none⟩)]) "ogive/suite.join").run Tryz.prog w = .ok (218, .agg #[.pointer (some ⟨db, 0, none⟩)]) w := by kernel_rfl
theorem methl_write (db : Nat) (w : World) : (method 524 122 (.agg #[.pointer (some ⟨db, 0, none⟩)]) "ogive/suite.write").run Tryz.prog w = .ok (221, .agg #[.pointer (some ⟨db, 0, none⟩)]) w := by kernel_rfl

theorem someOf_le (f : Int → Option Nat) : ∀ l : Vals, someOf f l ≤ allL l
  | [] => Nat.le_refl _
  | x :: l => by have := someOf_le f l; simp only [someOf, allL]; split <;> omega
theorem krow_small (hi : Bool) (M : Nat) (f : Int → Option Nat) (hf : ∀ x, I64 x → ∀ i, f x = some i → i < 4096) {vals : Vals} (h : InP vals) (hl : vals.length ≤ 360) : (kRow hi M f vals).length ≤ 360 ∧ (∀ y ∈ kRow hi M f vals, y.1 < 4096 ∧ 1 ≤ y.2 ∧ y.2 ≤ 7200) ∧ Rising (kRow hi M f vals) ∧ Full (kRow hi M f vals) ∧ rowTotal (kRow hi M f vals) ≤ someOf f vals := by
  obtain ⟨h1, h2⟩ := row_small f (fun x hx i e => by have := hf x hx i e; omega) h hl
  have hr := rising_of f vals
  have hfu := full_of f vals fun x hx => (h x hx).2.1
  unfold kRow
  refine ⟨Nat.le_trans (len_cap _ _) h1, fun y hy => ?_, rising_capK hr, full_capK hfu, ?_⟩
  · have hy2 : y ∈ rowOf f vals := (List.mem_filter.1 hy).1
    obtain ⟨x, hx, e⟩ := mem_of f vals y hy2
    exact ⟨hf x.1 (h x hx).1 y.1 e, (h2 y hy2).2⟩
  · rw [← total_of]; exact total_cap _ _
theorem rowK_vals {hi : Bool} {M : Nat} (hM : 1 ≤ M) (f : Int → Option Nat) (hf : ∀ x, I64 x → ∀ i, f x = some i → i < 4096) {vals : Vals} (h : InP vals) (hl : vals.length ≤ 360) : RowK hi M (kRow hi M f vals) (someOf f vals - rowTotal (kRow hi M f vals)) := by
  obtain ⟨k1, k2, k3, k4, k5⟩ := krow_small hi M f hf h hl
  have hs := someOf_le f vals
  have hle := h.le
  exact ⟨k3, k4, fun x hx => (k2 x hx).1, by omega, fun q => by have := kRow_take (hi := hi) hM f (a := []) (b := vals) (fun x hx => by cases hx) h q; rwa [kRow_nil] at this,
    by have := kRow_join (hi := hi) hM f (a := []) (b := vals) (fun x hx => by cases hx) h; rwa [kRow_nil, List.nil_append] at this, by omega⟩

section
variable {a1 a2 a3 a4 a5 a6 a7 a8 a9 a10 : Int}
/-- which values a log sketch of a config can have -/
def LgG (a1 a2 a3 a4 a5 a6 a7 a8 a9 a10 : Int) (vals : Vals) : Prop := (a5 = 0 ∧ a6 = 0 ∧ a7 = 0 ∧ a8 = 0 ∧ a9 = 0 ∧ a10 = 0) ∧ LgN a1 a2 a3 a4 ∧ ∀ x ∈ vals, I64 x.1 ∧ LgP x = true
/-- what is written of them -/
def LgD (hi : Bool) (M num den : Nat) (vals : Vals) (ld : List UInt8) : Prop := ∃ n, CTab num den n ∧ ld = loadL num den (if hi then 1 else 0) M (zigN (loOf vals)) (zigN (hiOf vals)) (someOf hfz vals)
  (someOf (lf0 num den n) vals - rowTotal (kRow hi M (lf0 num den n) vals)) (someOf (lf1 num den n) vals - rowTotal (kRow hi M (lf1 num den n) vals)) (kRow hi M (lf0 num den n) vals) (kRow hi M (lf1 num den n) vals)
theorem same_log : sameB 1 a1 a2 a3 a4 a5 a6 a7 a8 a9 a10 1 (bare1 1 a1) (bare1 1 a2) (bare3 1 a3) (bare4 1 a4) (bare5 1 a5) (bare5 1 a6) (bare7 1 a7) (bare7 1 a8) (bare9 1 a9) (bare9 1 a10) = true ↔ a5 = 0 ∧ a6 = 0 ∧ a7 = 0 ∧ a8 = 0 ∧ a9 = 0 ∧ a10 = 0 := by
  have e1 : ∀ a, bare1 1 a = a := fun a => keep_yes (by decide)
  have e3 : ∀ a, bare3 1 a = a := fun a => keep_yes (by decide)
  have e4 : ∀ a, bare4 1 a = a := fun a => keep_yes (by decide)
  have e5 : ∀ a, bare5 1 a = 0 := fun a => keep_no (by decide)
  have e7 : ∀ a, bare7 1 a = 0 := fun a => keep_no (by decide)
  have e9 : ∀ a, bare9 1 a = 0 := fun a => keep_no (by decide)
  rw [e1, e1, e3, e4, e5, e5, e7, e7, e9, e9]
  unfold sameB
  simp [and_assoc]
theorem LgP_iff (x : Int × Nat) : LgP x = true ↔ 1 ≤ x.2 := by unfold LgP; simp
theorem LgG.inP {vals : Vals} (h : LgG a1 a2 a3 a4 a5 a6 a7 a8 a9 a10 vals) (hi : InV vals) : InP vals := fun x hx => ⟨(h.2.2 x hx).1, (LgP_iff x).1 (h.2.2 x hx).2, (hi x hx).2⟩
theorem LgN.nat (h : LgN a1 a2 a3 a4) : (1 ≤ a4.toNat ∧ a4.toNat ≤ 4096) ∧ (((a1.toNat : Nat) : Int) = a1 ∧ ((a2.toNat : Nat) : Int) = a2 ∧ ((a4.toNat : Nat) : Int) = a4) ∧ a1.toNat < 2147483648 ∧ a2.toNat ≤ 2147483648 ∧ (((if a3 == 1 then 1 else 0 : Nat) : Nat) : Int) = a3 ∧ a3 = sdV (a3 == 1) := by
  obtain ⟨h1, h2, h3, h4, h5⟩ := h
  unfold goodC at h1
  simp only [Bool.and_eq_true, decide_eq_true_eq] at h1
  refine ⟨by omega, by omega, by omega, by omega, ?_, hi_of h3⟩
  rcases h3 with rfl | rfl <;> rfl
theorem loadL_len (num den sd M zl zh z l0 l1 : Nat) (k0 k1 : Row) (h : num < 18446744073709551616 ∧ den < 18446744073709551616 ∧ sd < 18446744073709551616 ∧ M < 18446744073709551616 ∧ zl < 18446744073709551616 ∧ zh < 18446744073709551616 ∧ z < 18446744073709551616 ∧ l0 < 18446744073709551616 ∧ l1 < 18446744073709551616)
    (w0 : WriR k0) (w1 : WriR k1) (h0 : k0.length ≤ 360) (h1 : k1.length ≤ 360) : (loadL num den sd M zl zh z l0 l1 k0 k1).length ≤ 190000 := by
  obtain ⟨b1, b2, b3, b4, b5, b6, b7, b8, b9⟩ := h
  have r0 := rowB_len k0 w0
  have r1 := rowB_len k1 w1
  have c1 := natB_len10 num b1
  have c2 := natB_len10 den b2
  have c3 := natB_len10 sd b3
  have c4 := natB_len10 M b4
  have c5 := natB_len10 zl b5
  have c6 := natB_len10 zh b6
  have c7 := natB_len10 z b7
  have c8 := natB_len10 l0 b8
  have c9 := natB_len10 l1 b9
  unfold loadL
  simp only [List.length_append]
  omega

set_option maxHeartbeats 4000000 in
theorem kind_log : Same (cfgV 1 a1 a2 a3 a4 a5 a6 a7 a8 a9 a10) (SkW 1 a1 a2 a3 a4 a5 a6 a7 a8 a9 a10 122 (LgV (a3 == 1) a4.toNat a1.toNat a2.toNat) (LgG a1 a2 a3 a4 a5 a6 a7 a8 a9 a10)) (fun s vals => ∃ ld, s = frameB 1 ld ∧ LgD (a3 == 1) a4.toNat a1.toNat a2.toNat vals ld ∧ LgG a1 a2 a3 a4 a5 a6 a7 a8 a9 a10 vals) LgP := by
  have C := coreQ_log (a3 == 1) a4.toNat a1.toNat a2.toNat
  have hld : ∀ vals ld, LgG a1 a2 a3 a4 a5 a6 a7 a8 a9 a10 vals → InV vals → vals.length ≤ 360 → LgD (a3 == 1) a4.toNat a1.toNat a2.toNat vals ld → ld.length ≤ 190000 := fun vals ld hg hi hl hd => by
    obtain ⟨n, hn, rfl⟩ := hd
    have hp := hg.inP hi
    obtain ⟨e1, e2⟩ := ends_in hp
    have hle := hp.le
    have hT := lf_split a1.toNat a2.toNat n vals
    obtain ⟨s0, s1, s2, s3, s4⟩ := krow_small (a3 == 1) a4.toNat (lf0 a1.toNat a2.toNat n) (fun x _ i h => lf0_low hn h) hp hl
    obtain ⟨t0, t1, t2, t3, t4⟩ := krow_small (a3 == 1) a4.toNat (lf1 a1.toNat a2.toNat n) (fun x _ i h => lf1_low hn h) hp hl
    obtain ⟨g1, g2, g3, g4, _⟩ := hg.2.1.nat
    refine loadL_len _ _ _ _ _ _ _ _ _ _ _ ⟨by omega, by omega, by split <;> omega, by omega, (zigN_eq _ e1).2, (zigN_eq _ e2).2, by omega, by omega, by omega⟩ ⟨by omega, s2, fun x hx => by have := s1 x hx; omega⟩ ⟨by omega, t2, fun x hx => by have := t1 x hx; omega⟩ s0 t0
  have hwr : ∀ (B : Nat) (w : World) (db : Nat) (O : Nat → Prop) (vals : Vals) (qb : Nat) (A : Option Addr) (c : Nat), QuO B w qb (.slice A ([] : List UInt8).length c) [] → B ≤ w.heap.size → LgV (a3 == 1) a4.toNat a1.toNat a2.toNat vals w db O → (∀ k, O k → k < B) → LgG a1 a2 a3 a4 a5 a6 a7 a8 a9 a10 vals → InV vals → vals.length ≤ 360 →
      Calls Tryz.prog 221 #[.agg #[.pointer (some ⟨db, 0, none⟩)], .pointer (some ⟨qb, 0, none⟩)] w fun e w' => e = .returned (.tuple #[]) ∧ ∃ ld A' c', LgD (a3 == 1) a4.toNat a1.toNat a2.toNat vals ld ∧ NaS B w qb A' c' ld w' := fun B w db O vals qb A c hq hB h hO hg hi hl => by
    have hp := hg.inP hi
    obtain ⟨e1, e2⟩ := ends_in hp
    have hle := hp.le
    obtain ⟨n, bb, tb, vl, vr, ca, cc, Oa, Oc, hn, hd, rfl⟩ := h
    have hT := lf_split a1.toNat a2.toNat n vals
    obtain ⟨s0, s1, s2, s3, s4⟩ := krow_small (a3 == 1) a4.toNat (lf0 a1.toNat a2.toNat n) (fun x _ i h => lf0_low hn h) hp hl
    obtain ⟨t0, t1, t2, t3, t4⟩ := krow_small (a3 == 1) a4.toNat (lf1 a1.toNat a2.toNat n) (fun x _ i h => lf1_low hn h) hp hl
    obtain ⟨g1, g2, g3, g4, _⟩ := hg.2.1.nat
    refine (lwrite_any B qb A c hq hB hd hO (by omega) (by omega) g1.2 (by omega) (fun h0 => by
      have : vals = [] := List.eq_nil_of_length_eq_zero (by omega)
      subst this; exact ⟨rfl, rfl⟩) e1 e2 ⟨by omega, s2, fun x hx => by have := s1 x hx; omega⟩ ⟨by omega, t2, fun x hx => by have := t1 x hx; omega⟩).mono fun e w' hh => ?_
    obtain ⟨rfl, A', c', hN⟩ := hh
    exact ⟨rfl, _, A', c', ⟨n, hn, rfl⟩, hN⟩
  have hnew := fun w ht => skw_new C (Gd := LgG a1 a2 a3 a4 a5 a6 a7 a8 a9 a10) (a0 := 1) (a1 := a1) (a2 := a2) (a3 := a3) (a4 := a4) (a5 := a5) (a6 := a6) (a7 := a7) (a8 := a8) (a9 := a9) (a10 := a10) (T := 122) (fun W db O => LgV (a3 == 1) a4.toNat a1.toNat a2.toNat [] W db O ∧ LgN a1 a2 a3 a4) (LgN a1 a2 a3 a4) (fun W W' db O h b => ⟨C.next h.1 b, h.2⟩) (fun W db O h => C.lt h.1) (fun W db O hs h => ⟨h.1, same_log.1 hs, h.2, fun x hx => by cases hx⟩) (fun W _ => fresh_log W a1 a2 a3 a4 a5 a6 a7 a8 a9 a10) w ht
  have hdec : ∀ (vals : Vals) (ld : List UInt8) (w : World), Sp.Tens w → LgD (a3 == 1) a4.toNat a1.toNat a2.toNat vals ld → LgG a1 a2 a3 a4 a5 a6 a7 a8 a9 a10 vals → InV vals → vals.length ≤ 360 → Calls Tryz.prog 19 #[.string (bs (frameB 1 ld))] w (NewK (SkW 1 a1 a2 a3 a4 a5 a6 a7 a8 a9 a10 122 (LgV (a3 == 1) a4.toNat a1.toNat a2.toNat) (LgG a1 a2 a3 a4 a5 a6 a7 a8 a9 a10)) vals w) := fun vals ld w ht hD hg hi hl => by
    have hlen := hld vals ld hg hi hl hD
    obtain ⟨n, hn, rfl⟩ := hD
    have hp := hg.inP hi
    obtain ⟨e1, e2⟩ := ends_in hp
    have hle := hp.le
    have hT := lf_split a1.toNat a2.toNat n vals
    obtain ⟨s0, s1, s2, s3, s4⟩ := krow_small (a3 == 1) a4.toNat (lf0 a1.toNat a2.toNat n) (fun x _ i h => lf0_low hn h) hp hl
    obtain ⟨t0, t1, t2, t3, t4⟩ := krow_small (a3 == 1) a4.toNat (lf1 a1.toNat a2.toNat n) (fun x _ i h => lf1_low hn h) hp hl
    obtain ⟨g1, ⟨g2, g3, g4⟩, g5, g6, g7, g8⟩ := hg.2.1.nat
    obtain ⟨rfl, rfl, rfl, rfl, rfl, rfl⟩ := hg.1
    refine skw_decode C (a0 := 1) (T := 122) 1 rfl vals hg _ hlen (fun W eb hW hE => ?_) w ht
    refine reads_log C 122 a1 a2 a3 a4 0 0 0 0 0 0 W eb (Blk.lt hE) ?_
    have hE2 := (Blk.alloc hE (.cells zeroA 28) : EyO (W.alloc (.cells zeroA 28)) eb _)
    rw [loadLE_eq] at hE2
    have key := rd_log (hi := a3 == 1) (W.alloc (.cells zeroA 28)) eb a1.toNat a2.toNat (if a3 == 1 then 1 else 0) a4.toNat (someOf hfz vals) (loOf vals) (hiOf vals) _ _ _ _ vals (by rw [g7]; exact g8) (by rw [g2, g3]; exact hg.2.1.1) g1.1 g1.2 hE2 e1 e2
      (rowK_vals g1.1 _ (fun x _ i h => lf0_low hn h) hp hl) (rowK_vals g1.1 _ (fun x _ i h => lf1_low hn h) hp hl) (kRow_len g1.1 _ hp) (kRow_len g1.1 _ hp) (by omega)
      (fun x hx => by have := s1 x hx; omega) (fun x hx => by have := t1 x hx; omega) (by omega) (by omega)
      (fun m hm => by obtain rfl := hm.uniq hn; exact ⟨rfl, rfl, by omega, by omega, rfl, rfl, rfl⟩)
    rw [g2, g3, g4, g7] at key
    exact key
  exact
  { next := fun h b => h.next C b
    away := fun h a n => h.away C a n
    lt := fun h => h.lt C
    ty := fun h => h.ty C
    new := fun w ht => (hnew w ht).mono fun _ _ hh => hh.1
    put := fun w kb O vals x h hi hl hx hc => skw_put C 209 enters209 methl_put (fun vals x g h1 h2 hP => ⟨g.1, g.2.1, fun y hy => by
        rcases List.mem_append.1 hy with hy | hy
        · exact g.2.2 y hy
        · rw [List.mem_singleton.1 hy]; exact ⟨h1, hP⟩⟩)
      (fun w db O vals x h g hi hl hx hc => log_put (a3 == 1) a4.toNat a1.toNat a2.toNat g.2.1.nat.1.1 g.2.1.nat.1.2 w vals db O h (g.inP hi) hl x hx hc) w kb O vals x h hi hl hx hc
    bytes := fun w kb O vals h hi hl => by
      have hg : LgG a1 a2 a3 a4 a5 a6 a7 a8 a9 a10 vals := by obtain ⟨_, _, _, _, g, _⟩ := h; exact g
      refine (bytes_of2 w kb 1 _ (skw_encode2 C 221 enters221 1 rfl methl_write hwr hld w kb O vals h hi hl)).mono fun e w' hh => ?_
      obtain ⟨ld, rfl, hR, hB⟩ := hh
      exact ⟨_, rfl, ⟨ld, rfl, hR, hg⟩, hB⟩
    decode := fun w s vals ht he hi hl => by
      obtain ⟨ld, rfl, hD, hg⟩ := he
      exact hdec vals ld w ht hD hg hi hl
    join := fun w kb nb O N vals more h k hap hi hj hl => skw_join C 218 enters218 methl_join (fun vals more g g2 => ⟨g.1, g.2.1, fun y hy => by
        rcases List.mem_append.1 hy with hy | hy
        · exact g.2.2 y hy
        · exact g2.2.2 y hy⟩)
      (fun w db ob O N vals more h k g g2 hap hi hj hl => by
        have key := log_corejoin w db ob (JoinC (LgV (a3 == 1) a4.toNat a1.toNat a2.toNat) w db O vals more) fun W b => (log_join (a3 == 1) a4.toNat a1.toNat a2.toNat g.2.1.nat.1.1 g.2.1.nat.1.2 W vals more db ob O N (C.next h b) (C.next k b) hap (g.inP hi) (g2.inP hj) hl).mono fun e w' hh => by
          obtain ⟨code, O', rfl, h1, h2, h3⟩ := hh
          exact ⟨⟨code, rfl⟩, code, O', rfl, h1, fun k hk => (h2 k hk).imp id fun e => Nat.le_trans b.size e, (Away.of_below (F := O) b).trans' h3 (fun _ _ h => h) (fun _ _ h => h)⟩
        exact key) w kb nb O N vals more h k hap hi hj hl
    uniq := fun h k hp => by
      obtain ⟨ld, rfl, ⟨n, hn, rfl⟩, g⟩ := h
      obtain ⟨ld', rfl, ⟨n', hn', rfl⟩, g2⟩ := k
      obtain rfl := hn.uniq hn'
      rename_i l m
      have h1 : ∀ x ∈ l, 1 ≤ x.2 := fun x hx => (LgP_iff x).1 (g.2.2 x hx).2
      unfold kRow
      rw [loOf_perm hp, hiOf_perm hp, someOf_perm hfz hp, someOf_perm (lf0 _ _ _) hp, someOf_perm (lf1 _ _ _) hp, rowOf_perm (lf0 _ _ _) hp h1, rowOf_perm (lf1 _ _ _) hp h1]
    again := fun h W ht => by
      obtain ⟨_, _, _, _, g, _⟩ := h
      refine (hnew W ht).mono fun e w' hh => ?_
      exact hh.2 (same_log.2 g.1) g.2.1 }
end
end Go.Proofs.YtbejdajkkoapgaaGreatDoor

/-
  The walk of CoreSame at any config. Conditions: none beyond.
-/
set_option linter.unusedVariables false
set_option linter.unusedSimpArgs false
set_option maxRecDepth 100000
namespace Go.Proofs.YtbejdajkkoapgaaGreatDoor
open Go.RowKit Go.Lib
set_option maxHeartbeats 4000000 in
/-- at another kind nothing is said -/
theorem same_other {a0 a1 a2 a3 a4 a5 a6 a7 a8 a9 a10 : Int} (halive : ∀ W, Sp.Tens W → Calls Tryz.prog 6 #[] W fun e w' => e = .returned (.bool true) ∧ Below W.heap.size W w') (h1 : (a0 != 1) = true) (h2 : (a0 != 2) = true) (w : World) (ht : Sp.Tens w) (v pv qv : Value) (L : Leaves) (zs ys : List Int)
    (hv : LeavesR w v L) (hp : IntsR w pv zs) (hq : IntsR w qv ys) (hI : ∀ x ∈ L, ∀ y ∈ x.1, I64 y.1) :
    Calls Tryz.prog 4 #[.agg #[.int .i64 a0, .int .u64 a1, .int .u64 a2, .int .i64 a3, .int .i64 a4, .int .i64 a5, .int .u64 a6, .int .i64 a7, .int .i64 a8, .int .i64 a9, .int .u64 a10], v, pv, qv] w fun e w' => e = .returned (.bool true) ∧ Below w.heap.size w w' := by
  obtain ⟨w0, hw0⟩ : ∃ w0, w0 = (w.alloc (.cells #[.int .i64 a0, .int .u64 a1, .int .u64 a2, .int .i64 a3, .int .i64 a4, .int .i64 a5, .int .u64 a6, .int .i64 a7, .int .i64 a8, .int .i64 a9, .int .u64 a10] 28)) := ⟨_, rfl⟩
  have C0 : CsC w a0 a1 a2 a3 a4 a5 a6 a7 a8 a9 a10 w0 := by
    rw [hw0]
    exact ⟨Blk.newAt rfl, (Below.refl _ w).alloc (Nat.le_refl _) _⟩
  have hal := halive w0 (ht.next C0.below)
  have HV := Lib.hid (And.intro hv (And.intro hp (And.intro hq hI)))
  obtain ⟨us, hul, huv, hus⟩ := hv.row
  have HU := Lib.hid (And.intro hul (And.intro huv hus))
  obtain ⟨Av, cv, hvv⟩ := hv.slice
  obtain ⟨Ap, cp, hpp⟩ := hp.slice
  obtain ⟨Aq, cq, hqq⟩ := hq.slice
  subst hvv
  subst hpp
  subst hqq
  obtain ⟨m, hm⟩ : ∃ m, m = L.length := ⟨_, rfl⟩
  have HM := Lib.hid hm
  have hml : m ≤ maxLen := by rw [hm]; exact hv.1
  unfold maxLen at hml
  have HTEN := Lib.hid ht
  rw [← hm]
  clear hv hp hq hI ht hm hul huv hus
  rw [hw0] at hal
  go_enter Tryz.func4, Tryz.ntmps4
  go_wp2_with fail
  refine hal.mono ?_
  rintro e w1 ⟨rfl, b1⟩
  rw [← hw0] at b1
  have C1 := C0.next b1
  clear hal b1 C0 hw0
  obtain ⟨k0, k1, k2, k3, k4, k5, k6, k7, k8, k9, k10⟩ := cfgV_cells C1.cfg
  have hgr := great_any w1 _ L (HV.out.1.below C1.below) a0 a1 a2 a3 a4 a5 a6 a7 a8 a9 a10
  rw [← HM.out] at hgr
  go_wp2_with fail
  refine hgr.mono ?_
  rintro e w2 ⟨g, rfl, b2, hg⟩
  have C2 := C1.next b2
  clear hgr b2 k0 k1 k2 k3 k4 k5 k6 k7 k8 k9 k10 C1
  obtain ⟨k0, k1, k2, k3, k4, k5, k6, k7, k8, k9, k10⟩ := cfgV_cells C2.cfg
  have HC2 := Lib.hid C2
  clear C2
  clear hg
  cases g with
  | true =>
    go_wp2_with fail
    go_ret
    exact ⟨rfl, HC2.out.below⟩
  | false =>
    go_wp2_with fail
    go_ret
    exact ⟨rfl, HC2.out.below⟩
theorem same_walk (a0 a1 a2 a3 a4 a5 a6 a7 a8 a9 a10 : Int) (v pv qv : Value) (L : Leaves) (zs ys : List Int) (u6 : (Lit.int .u64 a6).wf = true) (w : World) (ht : Sp.Tens w) (hv : LeavesR w v L) (hp : IntsR w pv zs) (hq : IntsR w qv ys) (hI : ∀ x ∈ L, ∀ y ∈ x.1, I64 y.1) :
    Calls Tryz.prog 4 #[.agg #[.int .i64 a0, .int .u64 a1, .int .u64 a2, .int .i64 a3, .int .i64 a4, .int .i64 a5, .int .u64 a6, .int .i64 a7, .int .i64 a8, .int .i64 a9, .int .u64 a10], v, pv, qv] w fun e w' => e = .returned (.bool true) ∧ Below w.heap.size w w' := by
  have b6 := bounds_u64 u6
  by_cases h1 : a0 = 1
  · subst h1
    exact same_kind (fun W h => alive_any W h) kind_log (.inl (by decide)) w ht v pv qv L zs ys hv hp hq hI
  by_cases h2 : a0 = 2
  · subst h2
    exact same_kind (fun W h => alive_any W h) (kind_hdr (by omega)) (.inr ⟨by decide, by decide⟩) w ht v pv qv L zs ys hv hp hq hI
  exact same_other (fun W h => alive_any W h) (by simp [h1]) (by simp [h2]) w ht v pv qv L zs ys hv hp hq hI
end Go.Proofs.YtbejdajkkoapgaaGreatDoor

