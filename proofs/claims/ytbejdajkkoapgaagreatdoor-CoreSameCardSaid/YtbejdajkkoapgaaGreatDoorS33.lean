/-
  Several texts in one: Ly, Cr. What each proves, and on which conditions, stands at its head. Conditions: stated in each.
-/
import Derived.Test.YtbejdajkkoapgaaGreatDoorS32
import Derived.Test.YtbejdajkkoapgaaGreatDoorS26
/-
  Contracts of part and readLog. Conditions: the load is one that a log sketch wrote.
-/
set_option linter.unusedVariables false
set_option linter.unusedSimpArgs false
set_option maxRecDepth 100000
namespace Go.Proofs.YtbejdajkkoapgaaGreatDoor
open Go.RowKit Go.Lib

set_option maxHeartbeats 4000000 in
theorem part_any (w : World) (eb num den : Nat) (r : List UInt8) (h : EyO w eb (natB num ++ (natB den ++ r))) (h1 : num ≤ 4294967296) (h2 : den ≤ 4294967296) (hs : r.length ≤ 900000000) :
    Calls Tryz.prog 71 #[.pointer (some ⟨eb, 0, none⟩)] w fun e w' => e = .returned (.agg #[.int .u64 (num : Int), .int .u64 (den : Int)]) ∧ EyO w' eb r ∧ Away (fun k => k = eb) w w' := by
  have k1 := natB_len10 den (by omega)
  have hlt := Blk.lt h
  have hb0 : Below w.heap.size w (w.alloc (.cells #[.int .u64 0, .int .u64 0] 25)) := (Below.refl _ _).alloc (Nat.le_refl _) _
  have E0 : EyO (w.alloc (.cells #[.int .u64 0, .int .u64 0] 25)) eb _ := Blk.alloc h _
  have R0 : Blk (w.alloc (.cells #[.int .u64 0, .int .u64 0] 25)) w.heap.size _ 25 := Blk.newAt rfl
  have hr1 := eye_nat _ eb num 4294967296 _ E0 h1 (by decide) (by simp only [List.length_append]; omega)
  clear h
  go_enter Tryz.func71, Tryz.ntmps71
  go_wp2_with fail
  refine hr1.mono ?_
  rintro e w1 ⟨rfl, E1, A1⟩
  have hr2 := eye_nat _ eb den 4294967296 _ E1 h2 (by decide) (by omega)
  have R1 := R0.away A1 (by omega)
  have B1 := (Away.of_below (F := fun k => k = eb) hb0).trans' A1 (fun _ _ h => h) (fun _ _ h => h)
  clear hr1 E0 A1 R0
  go_wp2_with fail
  refine hr2.mono ?_
  rintro e w2 ⟨rfl, E2, A2⟩
  have R2 := R1.away A2 (by omega)
  have B2 := B1.trans' A2 (fun _ _ h => h) (fun _ _ h => h)
  have c0 : w2.cell? ⟨w.heap.size, 0, none⟩ = some (.int .u64 0) := R2.cell rfl
  have c1 : w2.cell? ⟨w.heap.size, 1, none⟩ = some (.int .u64 0) := R2.cell rfl
  have f0 : w2.frozen? ⟨w.heap.size, 0, none⟩ = false := R2.frozen 0
  have f1 : w2.frozen? ⟨w.heap.size, 1, none⟩ = false := R2.frozen 1
  have hp : Blk ((w2.setCell ⟨w.heap.size, 0, none⟩ (.int .u64 (num : Int))).setCell ⟨w.heap.size, 1, none⟩ (.int .u64 (den : Int))) w.heap.size #[.int .u64 (num : Int), .int .u64 (den : Int)] 25 := (R2.set 0 _).set 1 _
  have AA : Away (fun k => k = w.heap.size) w2 ((w2.setCell ⟨w.heap.size, 0, none⟩ (.int .u64 (num : Int))).setCell ⟨w.heap.size, 1, none⟩ (.int .u64 (den : Int))) := Away.setCell (Away.setCell (Away.refl (fun k => k = w.heap.size) w2) ⟨w.heap.size, 0, none⟩ _ (.inl rfl)) ⟨w.heap.size, 1, none⟩ _ (.inl rfl)
  have HF := Lib.hid (And.intro (show EyO ((w2.setCell ⟨w.heap.size, 0, none⟩ (.int .u64 (num : Int))).setCell ⟨w.heap.size, 1, none⟩ (.int .u64 (den : Int))) eb r from Blk.away E2 AA (by omega)) (B2.trans' AA (fun _ _ h => h) fun k hk e => by omega))
  clear hr2 R1 R2 B1 B2 A2 E1 E2 hb0 AA
  go_wp2_with fail
  generalize (w2.setCell ⟨w.heap.size, 0, none⟩ (.int .u64 (num : Int))).setCell ⟨w.heap.size, 1, none⟩ (.int .u64 (den : Int)) = WW at hp HF ⊢
  have d0 := hp.cell (j := 0) rfl
  have d1 := hp.cell (j := 1) rfl
  refine bodyPost_ret (v := .agg #[.int .u64 (num : Int), .int .u64 (den : Int)]) ?_ rfl ⟨rfl, HF.out.1, HF.out.2⟩
  simp [results, Tryz.results71, go_sem, d0, d1]

/-- what a log sketch reads as -/
def loadLE (num den sd M zl zh z l0 l1 : Nat) (k0 k1 : Row) : List UInt8 := natB num ++ (natB den ++ (natB sd ++ (natB M ++ (natB zl ++ (natB zh ++ (natB z ++ (natB l0 ++ (natB l1 ++ (rowB k0 ++ (rowB k1 ++ []))))))))))
theorem loadLE_eq (num den sd M zl zh z l0 l1 : Nat) (k0 k1 : Row) : loadL num den sd M zl zh z l0 l1 k0 k1 = loadLE num den sd M zl zh z l0 l1 k0 k1 := by unfold loadL loadLE; simp only [List.append_assoc, List.append_nil]

/-- what readLog has laid -/
structure RlX (w : World) (eb pb : Nat) (cs : Array Value) (lb l0 l1 : Nat) (s : List UInt8) (W : World) : Prop where
  rd : RdX w eb pb cs s W
  lost : Blk W lb #[.int .u64 (l0 : Int), .int .u64 (l1 : Int)] 193
  far : lb ≠ eb
theorem RlX.look {w : World} {eb pb : Nat} {cs : Array Value} {lb l0 l1 : Nat} {s s' : List UInt8} {W W' : World} (h : RlX w eb pb cs lb l0 l1 s W) (e : EyO W' eb s') (a : Away (fun k => k = eb) W W') : RlX w eb pb cs lb l0 l1 s' W' := ⟨h.rd.look e a, h.lost.away a h.far, h.far⟩
theorem RlX.next {w : World} {eb pb : Nat} {cs : Array Value} {lb l0 l1 : Nat} {s : List UInt8} {W W' : World} (h : RlX w eb pb cs lb l0 l1 s W) (b : Below W.heap.size W W') : RlX w eb pb cs lb l0 l1 s W' := ⟨h.rd.next b, h.lost.below b h.lost.lt, h.far⟩
/-- with the rows -/
structure RmX (w : World) (eb pb : Nat) (cs : Array Value) (lb l0 l1 qb : Nat) (u0 u1 : Value) (k0 k1 : Row) (W : World) : Prop where
  rl : RlX w eb pb cs lb l0 l1 [] W
  rows : Blk W qb #[u0, u1] 195
  o0 : W.ownsRow 0 228 2 u0 k0.length (rowC k0)
  o1 : W.ownsRow 0 228 2 u1 k1.length (rowC k1)
theorem RmX.next {w : World} {eb pb : Nat} {cs : Array Value} {lb l0 l1 qb : Nat} {u0 u1 : Value} {k0 k1 : Row} {W W' : World} (h : RmX w eb pb cs lb l0 l1 qb u0 u1 k0 k1 W) (b : Below W.heap.size W W') : RmX w eb pb cs lb l0 l1 qb u0 u1 k0 k1 W' :=
  ⟨h.rl.next b, h.rows.below b h.rows.lt, owns_below h.o0 b fun g hg => (h.o0.lt g hg).2, owns_below h.o1 b fun g hg => (h.o1.lt g hg).2⟩
theorem RmX.cells {w : World} {eb pb : Nat} {cs : Array Value} {lb l0 l1 qb : Nat} {u0 u1 : Value} {k0 k1 : Row} {W : World} (h : RmX w eb pb cs lb l0 l1 qb u0 u1 k0 k1 W) : W.cell? ⟨lb, 0, none⟩ = some (.int .u64 (l0 : Int)) ∧ W.cell? ⟨lb, 1, none⟩ = some (.int .u64 (l1 : Int)) ∧ W.cell? ⟨qb, 0, none⟩ = some u0 ∧ W.cell? ⟨qb, 1, none⟩ = some u1 := ⟨h.rl.lost.cell rfl, h.rl.lost.cell rfl, h.rows.cell rfl, h.rows.cell rfl⟩
theorem RdX.move {w : World} {eb pb : Nat} {cs : Array Value} {s : List UInt8} {W W' : World} {G : Nat → Prop} (h : RdX w eb pb cs s W) (a : Away G W W') (hg : ∀ k, G k → W.heap.size ≤ k ∨ (pb < k ∧ k ≠ eb)) : RdX w eb pb cs s W' := by
  have h1 := h.cfg.lt
  have h2 := Blk.lt h.eye
  have h3 := h.res.lt
  have h4 := h.ne
  exact ⟨Blk.away h.eye a fun e => by have := hg _ e; omega, h.cfg.away a fun e => by have := hg _ e; omega, h.res.away a fun e => by have := hg _ e; omega,
    h.away.trans' a (fun _ _ h => h) (fun k hk e => by have := hg _ e; omega), h.ne⟩
-- RDLOG
theorem row_eye {W W' : World} {eb : Nat} {s : List UInt8} {u : Value} {n : Nat} {xs : List Value} (o : W.ownsRow 0 228 2 u n xs) (E : EyO W eb s) (A : Away (fun j => j = eb) W W') : W'.ownsRow 0 228 2 u n xs :=
  owns_away o A fun g hg e => by
    obtain ⟨cur, hc⟩ := owns_blk o hg
    exact (hc.ne (show Blk W eb _ 153 from E) (by decide)) e
theorem row_eyeA {W W' : World} {ob : Obj} {eb : Nat} {s : List UInt8} {u : Value} {n : Nat} {xs : List Value} (o : W.ownsRow 0 228 2 u n xs) (E : EyO W eb s) (A : Away (fun j => j = eb) (W.alloc ob) W') : W'.ownsRow 0 228 2 u n xs :=
  row_eye (owns_below o ((Below.refl _ _).alloc (Nat.le_refl _) _) fun g hg => (o.lt g hg).2) (Blk.alloc E ob) A
/-- with the sketch that is still without values -/
structure RqX (hi : Bool) (M num den : Nat) (w : World) (eb pb : Nat) (cs : Array Value) (lb l0 l1 qb : Nat) (u0 u1 : Value) (k0 k1 : Row) (n lg bb tb : Nat) (vl vr : Value) (ca cc : Nat) (Oa Oc : Nat → Prop) (W0 W : World) : Prop where
  rm : RmX w eb pb cs lb l0 l1 qb u0 u1 k0 k1 W
  lg : LogO hi M num den n W lg bb tb vl vr ca cc Oa Oc [] [] 0 0 0 0 0
  below : Below W0.heap.size W0 W
theorem RqX.drew {hi : Bool} {M num den : Nat} {w : World} {eb pb : Nat} {cs : Array Value} {lb l0 l1 qb : Nat} {u0 u1 : Value} {k0 k1 : Row} {n lg bb tb : Nat} {vl vr : Value} {ca cc : Nat} {Oa Oc : Nat → Prop} {W0 W : World} (h : RqX hi M num den w eb pb cs lb l0 l1 qb u0 u1 k0 k1 n lg bb tb vl vr ca cc Oa Oc W0 W) : RqX hi M num den w eb pb cs lb l0 l1 qb u0 u1 k0 k1 n lg bb tb vl vr ca cc Oa Oc W0 W.drew :=
  ⟨h.rm.next (Below.refl _ _).drew, h.lg.next (Below.refl _ _).drew, h.below.trans ((Below.refl _ W).drew.mono h.below.size)⟩
/-- what Get hands readLog -/
def GtP (w : World) (eb pb : Nat) (cs : Array Value) (lb l0 l1 : Nat) (k : Row) (s : List UInt8) (W : World) (e : Ending) (w' : World) : Prop := ∃ P q, e = .returned (.slice P k.length q) ∧ w'.ownsRow 0 228 2 (.slice P k.length q) k.length (rowC k) ∧ RlX w eb pb cs lb l0 l1 s w' ∧ Away (fun j => j = eb) W w'
theorem gt_of {w : World} {eb pb : Nat} {cs : Array Value} {lb l0 l1 : Nat} {k : Row} {s0 s : List UInt8} {W : World} {args : Array Value} (h : RlX w eb pb cs lb l0 l1 s0 W) (hc : Calls Tryz.prog 73 args W fun e w' => ∃ v, e = .returned v ∧ w'.ownsRow W.heap.size 228 2 v k.length (rowC k) ∧ EyO w' eb s ∧ Away (fun k => k = eb) W w') : Calls Tryz.prog 73 args W (GtP w eb pb cs lb l0 l1 k s W) :=
  hc.mono fun e w' hh => by
    obtain ⟨v, rfl, o, E, A⟩ := hh
    obtain ⟨P, q, rfl⟩ := owns_slice o
    exact ⟨P, q, rfl, owns_base o (fun _ _ => Nat.zero_le _), h.look E A, A⟩
theorem RlX.box {w : World} {eb pb : Nat} {cs : Array Value} {lb l0 l1 : Nat} {W : World} (h : RlX w eb pb cs lb l0 l1 [] W) {u0 u1 x y : Value} {k0 k1 : Row} (o0 : W.ownsRow 0 228 2 u0 k0.length (rowC k0)) (o1 : W.ownsRow 0 228 2 u1 k1.length (rowC k1)) {qb : Nat} (b : Blk W qb #[x, y] 195) (hq : pb < qb) : RmX w eb pb cs lb l0 l1 qb u0 u1 k0 k1 ((W.setCell ⟨qb, 0, none⟩ u0).setCell ⟨qb, 1, none⟩ u1) := by
  have aw : Away (fun k => k = qb) W ((W.setCell ⟨qb, 0, none⟩ u0).setCell ⟨qb, 1, none⟩ u1) := Away.setCell (Away.setCell (Away.refl (fun k => k = qb) W) ⟨qb, 0, none⟩ _ (.inl rfl)) ⟨qb, 1, none⟩ _ (.inl rfl)
  have hr : ∀ {u : Value} {k : Row}, W.ownsRow 0 228 2 u k.length (rowC k) → ∀ g, u.ownBlock = some g → ¬ g = qb := fun o g hg e => by
    obtain ⟨cur, hc⟩ := owns_blk o hg
    exact (hc.ne b (by decide)) e
  have hE : ¬ qb = eb := fun e => (b.ne (show Blk W eb _ 153 from h.rd.eye) (by decide)) e
  exact ⟨⟨h.rd.move aw fun k hk => .inr ⟨by omega, by omega⟩, h.lost.away aw fun e => (h.lost.ne b (by decide)) e, h.far⟩, (b.set 0 _).set 1 _, owns_away o0 aw (hr o0), owns_away o1 aw (hr o1)⟩
theorem RlX.boxN {w : World} {eb pb : Nat} {cs : Array Value} {lb l0 l1 : Nat} {W : World} (h : RlX w eb pb cs lb l0 l1 [] W) {u0 u1 : Value} {k0 k1 : Row} (o0 : W.ownsRow 0 228 2 u0 k0.length (rowC k0)) (o1 : W.ownsRow 0 228 2 u1 k1.length (rowC k1)) : RmX w eb pb cs lb l0 l1 W.heap.size u0 u1 k0 k1 (W.alloc (.cells #[u0, u1] 195)) := by
  have bl : Below W.heap.size W (W.alloc (.cells #[u0, u1] 195)) := (Below.refl _ _).alloc (Nat.le_refl _) _
  exact ⟨h.next bl, Blk.newAt rfl, owns_below o0 bl fun g hg => (o0.lt g hg).2, owns_below o1 bl fun g hg => (o1.lt g hg).2⟩
set_option maxHeartbeats 16000000 in
theorem rd_log {hi : Bool} (w : World) (eb num den sd M z : Nat) (lo hh : Int) (k0 k1 : Row) (l0 l1 : Nat) (vals : Vals) (hsd : ((sd : Nat) : Int) = sdV hi) (hg : goodC num den = true) (hM1 : 1 ≤ M) (hM2 : M ≤ 4096) (h : EyO w eb (loadLE num den sd M (zigN lo) (zigN hh) z l0 l1 k0 k1)) (hlo : I64 lo) (hhi : I64 hh) (r0 : RowK hi M k0 l0) (r1 : RowK hi M k1 l1) (hn0 : k0.length ≤ M) (hn1 : k1.length ≤ M) (hT : rowTotal k0 + l0 + (rowTotal k1 + l1) + z ≤ 9223372036854775807)
    (hx0 : ∀ x ∈ k0, x.1 < 4000000000000000000 ∧ 1 ≤ x.2 ∧ x.2 < 9223372036854775808) (hx1 : ∀ x ∈ k1, x.1 < 4000000000000000000 ∧ 1 ≤ x.2 ∧ x.2 < 9223372036854775808) (hb0 : k0.length ≤ 3000) (hb1 : k1.length ≤ 3000)
    (hv : ∀ n, CTab num den n → kRow hi M (lf0 num den n) vals = k0 ∧ kRow hi M (lf1 num den n) vals = k1 ∧ someOf (lf0 num den n) vals = rowTotal k0 + l0 ∧ someOf (lf1 num den n) vals = rowTotal k1 + l1 ∧ someOf hfz vals = z ∧ loOf vals = lo ∧ hiOf vals = hh) :
    Calls Tryz.prog 50 #[.pointer (some ⟨eb, 0, none⟩)] w (RdG (cfgV 1 (num : Int) (den : Int) (sd : Int) (M : Int) 0 0 0 0 0 0) 122 (LgV hi M num den vals) w eb) := by
  have hnd := hg
  unfold goodC at hnd
  simp only [Bool.and_eq_true, decide_eq_true_eq] at hnd
  have hsd1 : sd ≤ 1 := by cases hi <;> simp [sdV] at hsd <;> omega
  have z0 := rowB_len k0 ⟨hb0, r0.rising, fun x hx => by have := hx0 x hx; omega⟩
  have z1 := rowB_len k1 ⟨hb1, r1.rising, fun x hx => by have := hx1 x hx; omega⟩
  have k10 := natB_len10 sd (by omega)
  have k11 := natB_len10 M (by omega)
  have k12 := natB_len10 (zigN lo) (zigN_eq lo hlo).2
  have k13 := natB_len10 (zigN hh) (zigN_eq hh hhi).2
  have k14 := natB_len10 z (by omega)
  have k15 := natB_len10 l0 (by omega)
  have k16 := natB_len10 l1 (by omega)
  have hzl : z ≤ 9223372036854775807 ∧ l0 ≤ 9223372036854775807 ∧ l1 ≤ 9223372036854775807 := by omega
  unfold loadLE at h
  have hlt := Blk.lt h
  have hb0' : Below w.heap.size w (w.alloc (.cells #[.int .i64 0, .int .u64 0, .int .u64 0, .int .i64 0, .int .i64 0, .int .i64 0, .int .u64 0, .int .i64 0, .int .i64 0, .int .i64 0, .int .u64 0] 28)) := (Below.refl _ _).alloc (Nat.le_refl _) _
  have E0 : EyO (w.alloc (.cells #[.int .i64 0, .int .u64 0, .int .u64 0, .int .i64 0, .int .i64 0, .int .i64 0, .int .u64 0, .int .i64 0, .int .i64 0, .int .i64 0, .int .u64 0] 28)) eb _ := Blk.alloc h _
  have R0 : Blk (w.alloc (.cells #[.int .i64 0, .int .u64 0, .int .u64 0, .int .i64 0, .int .i64 0, .int .i64 0, .int .u64 0, .int .i64 0, .int .i64 0, .int .i64 0, .int .u64 0] 28)) w.heap.size _ 28 := Blk.newAt rfl
  have hr1' := part_any _ eb num den _ E0 (by omega) (by omega) (by simp only [List.length_append, List.length_nil]; omega)
  have hnw := Lib.hid (fun W => lnew_any (hi := hi) hM1 hM2 W num den hg)
  have hnw2 : Hid (∀ W, Calls Tryz.prog 41 #[.agg #[.int .u64 (num : Int), .int .u64 (den : Int), .int .i64 (sd : Int), .int .i64 (M : Int)]] W (LnP hi M num den W)) := Lib.hid (by rw [hsd]; exact hnw.out)
  have HP := Lib.hid (And.intro r0 (And.intro r1 (And.intro hx0 (And.intro hx1 (And.intro hT hv)))))
  have HM := Lib.hid (And.intro hM1 (And.intro hM2 (And.intro hn0 hn1)))
  have hM3 : M ≤ 4096 := hM2
  have LE0 : k0.length ≤ M := hn0
  have LE1 : k1.length ≤ M := hn1
  clear h hx0 hx1 hv hT hsd hg hnd hnw r0 r1 hM2 hn0 hn1
  go_enter Tryz.func50, Tryz.ntmps50
  go_wp2_with fail
  refine hr1'.mono ?_
  rintro e w1 ⟨rfl, E1, A1⟩
  have hr2 := eye_small _ eb sd 1 _ E1 hsd1 (by decide) (by simp only [List.length_append, List.length_nil]; omega)
  have R1 := R0.away A1 (by omega)
  have B1 := (Away.of_below (F := fun k => k = eb) hb0').trans' A1 (fun _ _ h => h) (fun _ _ h => h)
  clear hr1' E0 A1 R0
  go_wp2_with fail
  refine hr2.mono ?_
  rintro e w1b ⟨rfl, E1b, A1b⟩
  have hr2b := eye_small _ eb M 4096 _ E1b hM3 (by decide) (by simp only [List.length_append, List.length_nil]; omega)
  have R1b := R1.away A1b (by omega)
  have B1b := B1.trans' A1b (fun _ _ h => h) (fun _ _ h => h)
  clear hr2 E1 A1b R1 B1
  go_wp2_with fail
  refine hr2b.mono ?_
  rintro e w2 ⟨rfl, E2, A2⟩
  have R2 := R1b.away A2 (by omega)
  have B2 := B1b.trans' A2 (fun _ _ h => h) (fun _ _ h => h)
  have hsz := R2.lt
  have S2 : RdX w eb w2.heap.size (cfgV 1 (num : Int) (den : Int) (sd : Int) (M : Int) 0 0 0 0 0 0) _ (w2.alloc (.cells (cfgV 1 (num : Int) (den : Int) (sd : Int) (M : Int) 0 0 0 0 0 0) 28)) := ⟨Blk.alloc E2 _, Blk.newAt rfl, R2.alloc _, B2.alloc _, by have := Blk.lt E2; omega, by omega, hsz⟩
  have hr3 := eye_int _ eb lo _ S2.eye hlo (by simp only [List.length_append, List.length_nil]; omega)
  unfold cfgV at hr3
  clear hr2b R1b R2 B1b B2 A2 E1b E2 hb0'
  go_wp2_with fail
  refine hr3.mono ?_
  rintro e w3 ⟨rfl, E3, A3⟩
  have S3 := S2.look E3 A3
  have hr4 := eye_int _ eb hh _ S3.eye hhi (by simp only [List.length_append, List.length_nil]; omega)
  clear hr3 S2 E3 A3
  go_wp2_with fail
  refine hr4.mono ?_
  rintro e w4 ⟨rfl, E4, A4⟩
  have S4 := S3.look E4 A4
  have hr5 := eye_nat _ eb z 9223372036854775807 _ S4.eye hzl.1 (by decide) (by simp only [List.length_append, List.length_nil]; omega)
  clear hr4 S3 E4 A4
  generalize w2.heap.size = pb at S4 ⊢
  go_wp2_with fail
  refine hr5.mono ?_
  rintro e w5 ⟨rfl, E5, A5⟩
  have S5 := S4.look E5 A5
  have hr6 := eye_nat _ eb l0 9223372036854775807 _ S5.eye hzl.2.1 (by decide) (by simp only [List.length_append, List.length_nil]; omega)
  clear hr5 S4 E5 A5
  go_wp2_with fail
  refine hr6.mono ?_
  rintro e w5b ⟨rfl, E5b, A5b⟩
  have S5b := S5.look E5b A5b
  have hr7 := eye_nat _ eb l1 9223372036854775807 _ S5b.eye hzl.2.2 (by decide) (by simp only [List.length_append, List.length_nil]; omega)
  clear hr6 S5 E5b A5b
  go_wp2_with fail
  refine hr7.mono ?_
  rintro e w6 ⟨rfl, E6, A6⟩
  have S6' := S5b.look E6 A6
  have S6 : RlX w eb pb (cfgV 1 (num : Int) (den : Int) (sd : Int) (M : Int) 0 0 0 0 0 0) w6.heap.size l0 l1 _ (w6.alloc (.cells #[.int .u64 (l0 : Int), .int .u64 (l1 : Int)] 193)) := ⟨S6'.next ((Below.refl _ _).alloc (Nat.le_refl _) _), Blk.newAt rfl, by have := Blk.lt E6; omega⟩
  clear hr7 S5b E6 A6 S6'
  have HS6 := Lib.hid S6
  clear S6
  have c3 : (w6.alloc (.cells #[.int .u64 (l0 : Int), .int .u64 (l1 : Int)] 193)).cell? ⟨pb, 3, none⟩ = some (.int .i64 (sd : Int)) := HS6.out.rd.cfg.cell rfl
  have c4 : (w6.alloc (.cells #[.int .u64 (l0 : Int), .int .u64 (l1 : Int)] 193)).cell? ⟨pb, 4, none⟩ = some (.int .i64 (M : Int)) := HS6.out.rd.cfg.cell rfl
  go_upto_region 5 with fail
  generalize w6.heap.size = lb at HS6 c3 c4 ⊢
  generalize w6.alloc (.cells #[.int .u64 (l0 : Int), .int .u64 (l1 : Int)] 193) = W6 at HS6 c3 c4 ⊢
  go_cut [10] from 32 (fun v wx => ∃ qb u0 u1, v = .pointer (some ⟨qb, 0, none⟩) ∧ RmX w eb pb (cfgV 1 (num : Int) (den : Int) (sd : Int) (M : Int) 0 0 0 0 0 0) lb l0 l1 qb u0 u1 k0 k1 wx)
  case first =>
    have HG0 := Lib.hid (show ∀ W, RlX w eb pb (cfgV 1 (num : Int) (den : Int) (sd : Int) (M : Int) 0 0 0 0 0 0) lb l0 l1 (rowB k0 ++ (rowB k1 ++ [])) W → Calls Tryz.prog 73 #[.pointer (some ⟨eb, 0, none⟩), .int .i64 (M : Int)] W (GtP w eb pb (cfgV 1 (num : Int) (den : Int) (sd : Int) (M : Int) 0 0 0 0 0 0) lb l0 l1 k0 (rowB k1 ++ []) W) from fun W k => gt_of k (get_any W eb M k0 _ k.rd.eye LE0 (by omega) HP.out.1.rising HP.out.2.2.1 (by simp only [List.length_append, List.length_nil]; omega)))
    have HG1 := Lib.hid (show ∀ W, RlX w eb pb (cfgV 1 (num : Int) (den : Int) (sd : Int) (M : Int) 0 0 0 0 0 0) lb l0 l1 (rowB k1 ++ []) W → Calls Tryz.prog 73 #[.pointer (some ⟨eb, 0, none⟩), .int .i64 (M : Int)] W (GtP w eb pb (cfgV 1 (num : Int) (den : Int) (sd : Int) (M : Int) 0 0 0 0 0 0) lb l0 l1 k1 [] W) from fun W k => gt_of k (get_any W eb M k1 _ k.rd.eye LE1 (by omega) HP.out.2.1.rising HP.out.2.2.2.1 (by decide)))
    have S6 : Hid (RlX w eb pb (cfgV 1 (num : Int) (den : Int) (sd : Int) (M : Int) 0 0 0 0 0 0) lb l0 l1 (rowB k0 ++ (rowB k1 ++ [])) W6.drew) := Lib.hid (HS6.out.next (Below.refl _ _).drew)
    have hpb : Hid (pb < W6.heap.size ∧ eb < W6.heap.size) := Lib.hid ⟨HS6.out.rd.cfg.lt, Blk.lt HS6.out.rd.eye⟩
    have hpb1 : pb < W6.heap.size := hpb.out.1
    have S6a : Hid (RlX w eb pb (cfgV 1 (num : Int) (den : Int) (sd : Int) (M : Int) 0 0 0 0 0 0) lb l0 l1 (rowB k0 ++ (rowB k1 ++ [])) (W6.alloc (.cells #[.slice none 0 0, .slice none 0 0] 195)).drew) := Lib.hid ((HS6.out.next ((Below.refl _ _).alloc (Nat.le_refl _) _)).next (Below.refl _ _).drew)
    have BA : Hid (Blk (W6.alloc (.cells #[.slice none 0 0, .slice none 0 0] 195)).drew W6.heap.size #[.slice none 0 0, .slice none 0 0] 195) := Lib.hid (by have b : Blk (W6.alloc (.cells #[.slice none 0 0, .slice none 0 0] 195)) W6.heap.size #[.slice none 0 0, .slice none 0 0] 195 := Blk.newAt rfl; exact b.below (Below.refl _ _).drew b.lt)
    go_region_with (first
      | ((with_reducible refine (HG0.out _ S6.out).mono ?_); rintro e w7 ⟨P0, q0, rfl, o0, S7', A7⟩; have S7 := Lib.hid (And.intro S7' A7); have O0 := Lib.hid o0; have d4 : w7.cell? ⟨pb, 4, none⟩ = some (.int .i64 (M : Int)) := S7'.rd.cfg.cell rfl; have hpb2 : pb < w7.heap.size := S7'.rd.cfg.lt; clear S7' A7 o0)
      | ((with_reducible refine (HG0.out _ S6a.out).mono ?_); rintro e w7 ⟨P0, q0, rfl, o0, S7', A7⟩; have S7 := Lib.hid (And.intro S7' A7); have O0 := Lib.hid o0; have d4 : w7.cell? ⟨pb, 4, none⟩ = some (.int .i64 (M : Int)) := S7'.rd.cfg.cell rfl; have hpb2 : pb < w7.heap.size := S7'.rd.cfg.lt; have b7 : Blk w7 W6.heap.size #[.slice none 0 0, .slice none 0 0] 195 := Blk.away BA.out A7 (by have := hpb.out; omega); have BQ := Lib.hid b7; clear S7' A7 o0 b7)
      | ((with_reducible refine (HG1.out _ S7.out.1).mono ?_); rintro e w8 ⟨P1, q1, rfl, o1, S8', A8⟩; have S8 := Lib.hid (And.intro S8' A8); have O1 := Lib.hid o1; have O2 := Lib.hid (row_eye O0.out S7.out.1.rd.eye A8); have b8 := BQ.out.away A8 (by have := hpb.out; omega); have y0 : w8.cell? ⟨W6.heap.size, 0, none⟩ = some (.slice none 0 0) := b8.cell rfl; have y1 : w8.cell? ⟨W6.heap.size, 1, none⟩ = some (.slice none 0 0) := b8.cell rfl; have y2 : w8.frozen? ⟨W6.heap.size, 0, none⟩ = false := b8.frozen 0; have y3 : w8.frozen? ⟨W6.heap.size, 1, none⟩ = false := b8.frozen 1; have BR := Lib.hid b8; clear S8' A8 o1 b8)
      | ((with_reducible refine (HG1.out _ S7.out.1).mono ?_); rintro e w8 ⟨P1, q1, rfl, o1, S8', A8⟩; have S8 := Lib.hid (And.intro S8' A8); have O1 := Lib.hid o1; have O2 := Lib.hid (row_eye O0.out S7.out.1.rd.eye A8); clear S8' A8 o1)
      | ((with_reducible refine (HG1.out _ (S7.out.1.next ((Below.refl _ _).alloc (Nat.le_refl _) _))).mono ?_); rintro e w8 ⟨P1, q1, rfl, o1, S8', A8⟩; have S8 := Lib.hid (And.intro S8' A8); have O1 := Lib.hid o1; have O2 := Lib.hid (row_eyeA O0.out S7.out.1.rd.eye A8); have b8 : Blk w8 w7.heap.size #[.slice none 0 0, .slice none 0 0] 195 := Blk.away (Blk.newAt rfl) A8 (by have := hpb.out; have := S7.out.1.rd.eye.lt; omega); have y0 : w8.cell? ⟨w7.heap.size, 0, none⟩ = some (.slice none 0 0) := b8.cell rfl; have y1 : w8.cell? ⟨w7.heap.size, 1, none⟩ = some (.slice none 0 0) := b8.cell rfl; have y2 : w8.frozen? ⟨w7.heap.size, 0, none⟩ = false := b8.frozen 0; have y3 : w8.frozen? ⟨w7.heap.size, 1, none⟩ = false := b8.frozen 1; have BR := Lib.hid b8; clear S8' A8 o1 b8))
    all_goals (
      go_wp2_with fail
      go_meet
      first
        | exact ⟨_, _, _, rfl, RlX.boxN S8.out.1 O2.out O1.out⟩
        | exact ⟨_, _, _, rfl, RlX.box S8.out.1 O2.out O1.out BR.out (by omega)⟩)
  case rest =>
    rename World => W7
    obtain ⟨qb, u0, u1, rfl, X⟩ := hcut
    obtain ⟨P0, q0, rfl⟩ := owns_slice X.o0
    obtain ⟨P1, q1, rfl⟩ := owns_slice X.o1
    have g1 : W7.cell? ⟨pb, 1, none⟩ = some (.int .u64 (num : Int)) := X.rl.rd.cfg.cell rfl
    have g2 : W7.cell? ⟨pb, 2, none⟩ = some (.int .u64 (den : Int)) := X.rl.rd.cfg.cell rfl
    have g3 : W7.cell? ⟨pb, 3, none⟩ = some (.int .i64 (sd : Int)) := X.rl.rd.cfg.cell rfl
    have g4 : W7.cell? ⟨pb, 4, none⟩ = some (.int .i64 (M : Int)) := X.rl.rd.cfg.cell rfl
    have HX := Lib.hid X
    clear X c3 c4 HS6
    go_wp2_with fail
    refine (hnw2.out _).mono ?_
    rintro e w9 ⟨po, code, rfl, b9, h9, h9'⟩
    have HX9 := Lib.hid (And.intro (HX.out.next b9) (And.intro h9 (And.intro b9.size (And.intro HX.out.rl.rd.res.lt HX.out.rl.rd.cfg.lt))))
    clear g1 g2 g3 g4 b9 h9 h9' HX hnw2
    go_upto_region 7 with fail
    go_cut [13] from 52 (fun v wx => ∃ ok : Bool, v = .bool ok ∧ RdX w eb pb (cfgV 1 (num : Int) (den : Int) (sd : Int) (M : Int) 0 0 0 0 0 0) [] wx ∧ (ok = true → ∃ lg O, po = some ⟨lg, 0, none⟩ ∧ LgV hi M num den vals wx lg O ∧ ∀ k, O k → W7.heap.size ≤ k))
    case first =>
      obtain ⟨y0, y1, y2, y3⟩ := HX9.out.1.cells
      by_cases hc : code = 0
      · subst hc
        obtain ⟨n, lg, bb, tb, vl, vr, ca, cc, Oa, Oc, rfl, ht, hl, hO⟩ := HX9.out.2.1 rfl
        have hnn : n ≤ 4096 := ht.1
        have H : RqX hi M num den w eb pb (cfgV 1 (num : Int) (den : Int) (sd : Int) (M : Int) 0 0 0 0 0 0) lb l0 l1 qb (.slice P0 k0.length q0) (.slice P1 k1.length q1) k0 k1 n lg bb tb vl vr ca cc Oa Oc w9 w9.drew := RqX.drew ⟨HX9.out.1, hl, Below.refl _ _⟩
        have HT := Lib.hid (And.intro ht hO)
        clear ht hO hl y0 y1 y2 y3
        have HM13 := Lib.hid (And.intro HM.out.1 HM.out.2.1)
        refine wp_region_head 13 10 (C := (RqX hi M num den w eb pb (cfgV 1 (num : Int) (den : Int) (sd : Int) (M : Int) 0 0 0 0 0 0) lb l0 l1 qb (.slice P0 k0.length q0) (.slice P1 k1.length q1) k0 k1 n lg bb tb vl vr ca cc Oa Oc w9)) (by kernel_rfl) (by kernel_rfl) rfl H ?_
        clear H
        simp only [List.take_succ_cons, List.take_zero]
        repeat (first | go_big_quiet_skip | (go_big_quiet_want; go_big_quiet_op; first | go_big_quiet_on | (refine quiet_const ?_; go_big_quiet_on)))
        go_big_quiet_want
        go_big_quiet_op
        refine ⟨.bool false, fun wx hx => ?_, ?_⟩
        · exact (eye_bad wx eb _ hx.rm.rl.rd.eye).mono fun _ _ hm => ⟨hm.1, hm.2 ▸ hx⟩
        go_big_quiet_on
        repeat (first | go_big_quiet_skip | (go_big_quiet_want; go_big_quiet_op; first | go_big_quiet_on | (refine quiet_const ?_; go_big_quiet_on)))
        go_big_quiet_want
        go_big_quiet_op
        refine ⟨.pointer (some ⟨bb, 0, none⟩), fun wx hx => ?_, ?_⟩
        · exact (lbins_any hx.lg).mono fun _ _ hm => ⟨hm.1, hm.2 ▸ hx⟩
        go_big_quiet_on
        repeat (first | go_big_quiet_skip | (go_big_quiet_want; go_big_quiet_op; first | go_big_quiet_on | (refine quiet_const ?_; go_big_quiet_on)))
        go_big_quiet_want
        refine ⟨.agg #[.slice P0 k0.length q0, .slice P1 k1.length q1], fun wx hx => ?_, ?_⟩
        · obtain ⟨y0, y1, y2, y3⟩ := hx.rm.cells
          go_simp
        go_big_quiet_on
        simp only [Act.put, List.setIfInBounds_toArray, List.set_cons_zero, List.set_cons_succ]
        repeat (first | go_big_quiet_skip | (go_big_quiet_want; go_big_quiet_op; first | go_big_quiet_on | (refine quiet_const ?_; go_big_quiet_on)))
        go_big_quiet_want
        refine ⟨.agg #[.int .u64 (l0 : Int), .int .u64 (l1 : Int)], fun wx hx => ?_, ?_⟩
        · obtain ⟨y0, y1, y2, y3⟩ := hx.rm.cells
          go_simp
        go_big_quiet_on
        simp only [Act.put, List.setIfInBounds_toArray, List.set_cons_zero, List.set_cons_succ]
        repeat (first | go_big_quiet_skip | (go_big_quiet_want; go_big_quiet_op; first | go_big_quiet_on | (refine quiet_const ?_; go_big_quiet_on)))
        refine wpQuiet_nil ?_
        intro w10 H10
        have hbl := bload_any HM.out.1 HM.out.2.1 hnn w10 bb tb vl vr ca cc Oa Oc H10.lg.bn _ _ k0 k1 l0 l1 z H10.rm.o0 H10.rm.o1 HP.out.1 HP.out.2.1 HP.out.2.2.2.2.1
        have HH := Lib.hid H10
        clear H10
        refine wpAny_ready (rs := [13]) (by kernel_rfl) (by simp) ?_
        refine AllReady.cons rfl (fun K hK => ?_) AllReady.nil
        go_simp
        all_goals (
        refine hbl.mono ?_
        rintro e w11 ⟨c2, rfl, A11, h11⟩
        have hfar : Hid (pb < bb ∧ pb < lg ∧ bb ≠ eb ∧ lg ≠ eb) := Lib.hid (by
          have h1 := HT.out.2 lg (.inl rfl)
          have h2 := HT.out.2 bb (.inr (.inl rfl))
          have h3 := HX9.out.2.2
          have e1 : lg ≠ eb := fun e => (HH.out.lg.blk.ne (show Blk w10 eb _ 153 from HH.out.rm.rl.rd.eye) (by decide)) e
          have e2 : bb ≠ eb := fun e => (HH.out.lg.bn.blk.ne (show Blk w10 eb _ 153 from HH.out.rm.rl.rd.eye) (by decide)) e
          omega)
        have S11 := HH.out.rm.rl.rd.move A11 (fun k hk => .inr (by have := hfar.out; omega))
        by_cases hc2 : c2 = 0
        · subst hc2
          obtain ⟨cb, cd, Ob, Od, hB, hOb, hOd⟩ := h11 rfl
          have L11 : LogO hi M num den n w11 lg bb tb vl vr cb cd Ob Od k0 k1 (rowTotal k0 + l0) (rowTotal k1 + l1) z 0 0 := ⟨HH.out.lg.blk.away A11 (fun e => HH.out.lg.not (.inl e)), hB⟩
          have hset := lset_any L11 (by have := HP.out.2.2.2.2.1; omega) lo hh
          have HS := Lib.hid (And.intro S11 (And.intro hOb hOd))
          clear hbl A11 h11 S11 hB hOb hOd L11
          refine hK _ _ ?_
          clear hK K
          refine wpAny_take (i := 14) (v := ?_) rfl (by kernel_rfl) (by kernel_rfl) (by kernel_rfl) (fun _ _ _ h => h) (Or.inl ⟨by kernel_rfl, ?_⟩) ?_
          rotate_left
          · intro wz; go_simp; try with_reducible rfl
          refine wpAny_take (i := 15) (v := ?_) rfl (by kernel_rfl) (by kernel_rfl) (by kernel_rfl) (fun _ _ _ h => h) (Or.inl ⟨by kernel_rfl, ?_⟩) ?_
          rotate_left
          · intro wz; go_simp; try with_reducible rfl
          refine wpAny_take (i := 16) (v := ?_) rfl (by kernel_rfl) (by kernel_rfl) (by kernel_rfl) (fun _ _ _ h => h) (Or.inl ⟨by kernel_rfl, ?_⟩) ?_
          rotate_left
          · intro wz; go_simp; try with_reducible rfl
          refine wpAny_take (i := 17) (v := ?_) rfl (by kernel_rfl) (by kernel_rfl) (by kernel_rfl) (fun _ _ _ h => h) (Or.inl ⟨by kernel_rfl, ?_⟩) ?_
          rotate_left
          · intro wz; go_simp; try with_reducible rfl
          refine wpAny_take (i := 18) (v := ?_) rfl (by kernel_rfl) (by kernel_rfl) (by kernel_rfl) (fun _ _ _ h => h) (Or.inl ⟨by kernel_rfl, ?_⟩) ?_
          rotate_left
          · intro wz; go_simp; try with_reducible rfl
          refine wpAny_take (i := 19) (v := ?_) rfl (by kernel_rfl) (by kernel_rfl) (by kernel_rfl) (fun _ _ _ h => h) (Or.inl ⟨by kernel_rfl, ?_⟩) ?_
          rotate_left
          · intro wz; go_simp; try with_reducible rfl
          refine wpAny_ready (rs := [20]) (by kernel_rfl) (by simp) ?_
          refine AllReady.cons rfl (fun K hK => ?_) AllReady.nil
          go_simp
          refine hset.mono ?_
          rintro e w12 ⟨r, rfl, A12, h12⟩
          have HR := Lib.hid (And.intro A12 h12)
          clear hset A12 h12
          refine hK _ _ ?_
          clear hK K
          refine wpAny_take (i := 21) (v := ?_) rfl (by kernel_rfl) (by kernel_rfl) (by kernel_rfl) (fun _ _ _ h => h) (Or.inl ⟨by kernel_rfl, ?_⟩) ?_
          rotate_left
          · intro wz; go_simp; try with_reducible rfl
          refine wpAny_take (i := 22) (v := ?_) rfl (by kernel_rfl) (by kernel_rfl) (by kernel_rfl) (fun _ _ _ h => h) (Or.inl ⟨by kernel_rfl, ?_⟩) ?_
          rotate_left
          · intro wz; go_simp; try with_reducible rfl
          refine wpAny_done (by kernel_rfl) ?_ _
          go_wp2_with fail
          go_meet
          refine ⟨r, rfl, HS.out.1.move HR.out.1 (fun k hk => .inr (by have := hfar.out; omega)), fun hr => ⟨lg, _, rfl, ⟨n, bb, tb, vl, vr, cb, cd, Ob, Od, HT.out.1, ?_, rfl⟩, ?_⟩⟩
          · obtain ⟨v0, v1, v2, v3, v4, v5, v6⟩ := HP.out.2.2.2.2.2 n HT.out.1
            rw [v0, v1, v2, v3, v4, v5, v6]
            exact HR.out.2 hr
          · have hz := HX9.out.2.2.1
            have hz2 := HH.out.below.size
            rintro k (rfl | rfl | e | e | e)
            · exact HT.out.2 _ (.inl rfl)
            · exact HT.out.2 _ (.inr (.inl rfl))
            · exact HT.out.2 _ (.inr (.inr (.inl e)))
            · have := HS.out.2.1 k e; omega
            · have := HS.out.2.2 k e; omega
        · have ec : (c2 == 0) = false := by simp [hc2]
          have HS := Lib.hid S11
          clear hbl A11 h11 S11 hc2
          refine hK _ _ ?_
          clear hK K
          refine wpAny_take (i := 14) (v := ?_) rfl (by kernel_rfl) (by kernel_rfl) (by kernel_rfl) (fun _ _ _ h => h) (Or.inl ⟨by kernel_rfl, ?_⟩) ?_
          rotate_left
          · intro wz; go_simp; try with_reducible rfl
          refine wpAny_take (i := 15) (v := ?_) rfl (by kernel_rfl) (by kernel_rfl) (by kernel_rfl) (fun _ _ _ h => h) (Or.inl ⟨by kernel_rfl, ?_⟩) ?_
          rotate_left
          · intro wz; go_simp; try with_reducible rfl
          refine wpAny_take (i := 16) (v := ?_) rfl (by kernel_rfl) (by kernel_rfl) (by kernel_rfl) (fun _ _ _ h => h) (Or.inl ⟨by kernel_rfl, ?_⟩) ?_
          rotate_left
          · intro wz; go_simp; try with_reducible rfl
          refine wpAny_take (i := 17) (v := undef) rfl (by kernel_rfl) (by kernel_rfl) (by kernel_rfl) (fun _ _ _ h => h) (Or.inr ⟨by kernel_rfl, rfl⟩) ?_
          refine wpAny_take (i := 18) (v := undef) rfl (by kernel_rfl) (by kernel_rfl) (by kernel_rfl) (fun _ _ _ h => h) (Or.inr ⟨by kernel_rfl, rfl⟩) ?_
          refine wpAny_take (i := 19) (v := undef) rfl (by kernel_rfl) (by kernel_rfl) (by kernel_rfl) (fun _ _ _ h => h) (Or.inr ⟨by kernel_rfl, rfl⟩) ?_
          refine wpAny_take (i := 20) (v := undef) rfl (by kernel_rfl) (by kernel_rfl) (by kernel_rfl) (fun _ _ _ h => h) (Or.inr ⟨by kernel_rfl, rfl⟩) ?_
          refine wpAny_take (i := 21) (v := ?_) rfl (by kernel_rfl) (by kernel_rfl) (by kernel_rfl) (fun _ _ _ h => h) (Or.inl ⟨by kernel_rfl, ?_⟩) ?_
          rotate_left
          · intro wz; go_simp; try with_reducible rfl
          refine wpAny_take (i := 22) (v := ?_) rfl (by kernel_rfl) (by kernel_rfl) (by kernel_rfl) (fun _ _ _ h => h) (Or.inl ⟨by kernel_rfl, ?_⟩) ?_
          rotate_left
          · intro wz; go_simp; try with_reducible rfl
          refine wpAny_done (by kernel_rfl) ?_ _
          go_wp2_with fail
          go_meet
          exact ⟨false, rfl, HS.out, fun h => absurd h (by decide)⟩)
      · have ec : (code == 0) = false := by simp [hc]
        have H : RmX w eb pb (cfgV 1 (num : Int) (den : Int) (sd : Int) (M : Int) 0 0 0 0 0 0) lb l0 l1 qb (.slice P0 k0.length q0) (.slice P1 k1.length q1) k0 k1 w9.drew := HX9.out.1.next (Below.refl _ _).drew
        clear hc y0 y1 y2 y3
        refine wp_region_quiet_litC (C := RmX w eb pb (cfgV 1 (num : Int) (den : Int) (sd : Int) (M : Int) 0 0 0 0 0 0) lb l0 l1 qb (.slice P0 k0.length q0) (.slice P1 k1.length q1) k0 k1) (by kernel_rfl) (by kernel_rfl) H ?_
        clear H
        repeat (first | go_big_quiet_skip | (go_big_quiet_want; go_big_quiet_op; first | go_big_quiet_on | (refine quiet_const ?_; go_big_quiet_on)))
        go_big_quiet_want
        go_big_quiet_op
        refine ⟨.bool false, fun wx hx => ?_, ?_⟩
        · exact (eye_bad wx eb _ hx.rl.rd.eye).mono fun _ _ hm => ⟨hm.1, hm.2 ▸ hx⟩
        go_big_quiet_on
        repeat (first | go_big_quiet_skip | (go_big_quiet_want; go_big_quiet_op; first | go_big_quiet_on | (refine quiet_const ?_; go_big_quiet_on)))
        refine wpQuiet_nil ?_
        intro w10 H10
        have HS := Lib.hid H10.rl.rd
        clear H10
        go_wp2_with fail
        go_meet
        exact ⟨false, rfl, HS.out, fun h => absurd h (by decide)⟩
    case rest =>
      obtain ⟨ok, rfl, S8, h7⟩ := hcut
      rename World => W8
      have hz7 : w.heap.size < W7.heap.size := HX9.out.2.2.2.1
      have k0' : W8.cell? ⟨pb, 0, none⟩ = some (.int .i64 1) := S8.cfg.cell rfl
      have k1' : W8.cell? ⟨pb, 1, none⟩ = some (.int .u64 (num : Int)) := S8.cfg.cell rfl
      have k2' : W8.cell? ⟨pb, 2, none⟩ = some (.int .u64 (den : Int)) := S8.cfg.cell rfl
      have k3' : W8.cell? ⟨pb, 3, none⟩ = some (.int .i64 (sd : Int)) := S8.cfg.cell rfl
      have k4' : W8.cell? ⟨pb, 4, none⟩ = some (.int .i64 (M : Int)) := S8.cfg.cell rfl
      have k5' : W8.cell? ⟨pb, 5, none⟩ = some (.int .i64 0) := S8.cfg.cell rfl
      have k6' : W8.cell? ⟨pb, 6, none⟩ = some (.int .u64 0) := S8.cfg.cell rfl
      have k7' : W8.cell? ⟨pb, 7, none⟩ = some (.int .i64 0) := S8.cfg.cell rfl
      have k8' : W8.cell? ⟨pb, 8, none⟩ = some (.int .i64 0) := S8.cfg.cell rfl
      have k9' : W8.cell? ⟨pb, 9, none⟩ = some (.int .i64 0) := S8.cfg.cell rfl
      have k10' : W8.cell? ⟨pb, 10, none⟩ = some (.int .u64 0) := S8.cfg.cell rfl
      obtain ⟨⟨m0, m1, m2, m3, m4, m5, m6, m7, m8, m9, m10⟩, ⟨f0, f1, f2, f3, f4, f5, f6, f7, f8, f9, f10⟩⟩ := zero_cells S8.res
      have hp := putA_blk (a0 := 1) (a1 := (num : Int)) (a2 := (den : Int)) (a3 := (sd : Int)) (a4 := (M : Int)) (a5 := 0) (a6 := 0) (a7 := 0) (a8 := 0) (a9 := 0) (a10 := 0) S8.res
      have hfin := Lib.hid (rd_end (coreQ_log hi M num den) (vals := vals) (T := 122) (po := po) (ok := ok) (a0 := 1) (a1 := (num : Int)) (a2 := (den : Int)) (a3 := (sd : Int)) (a4 := (M : Int)) (a5 := 0) (a6 := 0) (a7 := 0) (a8 := 0) (a9 := 0) (a10 := 0) S8 hz7 h7)
      clear S8 h7
      go_wp2_with fail
      change bodyPost Tryz.prog Tryz.f50 (RdG (cfgV 1 (num : Int) (den : Int) (sd : Int) (M : Int) 0 0 0 0 0 0) 122 (LgV hi M num den vals) w eb) Exit.ret _ (putA W8 w.heap.size 1 (num : Int) (den : Int) (sd : Int) (M : Int) 0 0 0 0 0 0)
      generalize putA W8 w.heap.size 1 (num : Int) (den : Int) (sd : Int) (M : Int) 0 0 0 0 0 0 = WW at hp hfin ⊢
      have c0 := hp.cell (j := 0) rfl
      have c1 := hp.cell (j := 1) rfl
      have c2 := hp.cell (j := 2) rfl
      have c3 := hp.cell (j := 3) rfl
      have c4 := hp.cell (j := 4) rfl
      have c5 := hp.cell (j := 5) rfl
      have c6 := hp.cell (j := 6) rfl
      have c7 := hp.cell (j := 7) rfl
      have c8 := hp.cell (j := 8) rfl
      have c9 := hp.cell (j := 9) rfl
      have c10 := hp.cell (j := 10) rfl
      refine bodyPost_ret (v := .tuple #[.agg (cfgV 1 (num : Int) (den : Int) (sd : Int) (M : Int) 0 0 0 0 0 0), .iface 122 (.agg #[.pointer po]), .bool ok]) ?_ rfl hfin.out
      simp [results, Tryz.results50, go_sem, cfgV, c0, c1, c2, c3, c4, c5, c6, c7, c8, c9, c10]
end Go.Proofs.YtbejdajkkoapgaaGreatDoor

/-
  A sketch's bytes, where a core's write has one of some loads; both as Ck has it for one load. Conditions: the core's contracts.
-/
set_option linter.unusedVariables false
set_option linter.unusedSimpArgs false
set_option maxRecDepth 100000
namespace Go.Proofs.YtbejdajkkoapgaaGreatDoor
open Go.RowKit Go.Lib
section
variable {a0 a1 a2 a3 a4 a5 a6 a7 a8 a9 a10 : Int} {T : TypeId} {Q : CoreZ} {Gd : Vals → Prop} {P : Int × Nat → Bool}
set_option maxHeartbeats 4000000 in
theorem skw_encode2 {R : Vals → List UInt8 → Prop} (C : CoreQ Q) (fw : FuncId) (he : ∀ args w, (callFunc fw args).run Tryz.prog w = .ok (.enter fw args) w) (kn : UInt8) (hkn : a0 = ((kn.toNat : Nat) : Int)) (hm : ∀ (db : Nat) (w : World), (method 524 T (.agg #[.pointer (some ⟨db, 0, none⟩)]) "ogive/suite.write").run Tryz.prog w = .ok (fw, .agg #[.pointer (some ⟨db, 0, none⟩)]) w)
    (hw : ∀ (B : Nat) (w : World) (db : Nat) (O : Nat → Prop) (vals : Vals) (qb : Nat) (A : Option Addr) (c : Nat), QuO B w qb (.slice A ([] : List UInt8).length c) [] → B ≤ w.heap.size → Q vals w db O → (∀ k, O k → k < B) → Gd vals → InV vals → vals.length ≤ 360 → Calls Tryz.prog fw #[.agg #[.pointer (some ⟨db, 0, none⟩)], .pointer (some ⟨qb, 0, none⟩)] w fun e w' => e = .returned (.tuple #[]) ∧ ∃ ld A' c', R vals ld ∧ NaS B w qb A' c' ld w')
    (hld : ∀ vals ld, Gd vals → InV vals → vals.length ≤ 360 → R vals ld → ld.length ≤ 190000)
    (w : World) (kb : Nat) (O : Nat → Prop) (vals : Vals) (h : SkW a0 a1 a2 a3 a4 a5 a6 a7 a8 a9 a10 T Q Gd w kb O vals) (hv : InV vals) (hl : vals.length ≤ 360) :
    Calls Tryz.prog 26 #[.pointer (some ⟨kb, 0, none⟩)] w fun e w' => ∃ ld, e = .returned (.tuple #[.string (bs (frameB kn ld)), .int .i64 0]) ∧ R vals ld ∧ Below w.heap.size w w' := by
  obtain ⟨db, D, h1, h2, h3, rfl⟩ := h
  have HLD := Lib.hid (fun ld (k : R vals ld) => hld vals ld h3 hv hl k)
  have hq := QuO.fresh w
  have b0 : Below w.heap.size w (w.alloc (.cells #[.slice none 0 0] 109)) := (Below.refl _ _).alloc (Nat.le_refl _) _
  have hw1 := hw w.heap.size (w.alloc (.cells #[.slice none 0 0] 109)) db D vals w.heap.size none 0 hq (by simp) (C.next h2 b0) (C.lt h2) h3 hv hl
  obtain ⟨c0, c1, hlt⟩ := skG_cells' h1
  have hm1 := hm db
  have HH := Lib.hid h1
  have hne : kb ≠ w.heap.size := by omega
  have hk256 : kn.toNat < 256 := kn.toNat_lt
  have e8 : IntKind.u8.wrap a0 = a0 := by rw [hkn, IntKind.wrap_u8]; omega
  clear h1 h2 h3 hq hw hm hv hl
  go_enter Tryz.func26, Tryz.ntmps26
  go_wp2_with fail
  refine hw1.mono ?_
  rintro e w1 ⟨rfl, ld, A1, k1, hR, S1⟩
  have hld1 := HLD.out ld hR
  have HR := Lib.hid hR
  clear hR HLD hld
  have B1 : Below w.heap.size w w1 := b0.trans S1.below
  have HK := HH.out.below B1 HH.out.lt
  obtain ⟨d0, d1, hl1⟩ := skG_cells' HK
  have ht := qu_text w.heap.size w1.drew w.heap.size _ _ S1.drew.qu
  have hcl := close_any w1.drew kn ld (by omega)
  rw [← hkn] at hcl
  clear hw1 c0 c1 S1 HK hkn
  go_upto_region 5 with fail
  rename_i KK
  go_region_with (first | (go_at_call 40; refine ht.mono ?_; rintro e w2 ⟨rfl, rfl⟩) | (go_at_call 39; refine hcl.mono ?_; rintro e w3 ⟨rfl, b3⟩))
  all_goals (
    refine KK _ _ ?_
    clear ht hcl hm1
    go_wp2_with fail
    go_ret2
    exact ⟨ld, rfl, HR.out, B1.drew.trans (b3.mono B1.size)⟩)

theorem bytes_of2 (w : World) (kb : Nat) (kn : UInt8) (R : List UInt8 → Prop) (he : Calls Tryz.prog 26 #[.pointer (some ⟨kb, 0, none⟩)] w fun e w' => ∃ ld, e = .returned (.tuple #[.string (bs (frameB kn ld)), .int .i64 0]) ∧ R ld ∧ Below w.heap.size w w') :
    Calls Tryz.prog 14 #[.pointer (some ⟨kb, 0, none⟩)] w fun e w' => ∃ ld, e = .returned (.string (bs (frameB kn ld))) ∧ R ld ∧ Below w.heap.size w w' := by
  go_enter Tryz.func14, Tryz.ntmps14
  go_wp2_with fail
  refine he.mono ?_
  rintro e w1 ⟨ld, rfl, hR, b1⟩
  have HR := Lib.hid hR
  clear he hR
  go_wp2_with fail
  go_ret
  exact ⟨ld, rfl, HR.out, b1⟩
end
end Go.Proofs.YtbejdajkkoapgaaGreatDoor

