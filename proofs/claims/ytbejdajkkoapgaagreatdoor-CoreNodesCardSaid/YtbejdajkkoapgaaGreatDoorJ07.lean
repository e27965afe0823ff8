/-
  Several texts in one: PlOver. What each proves, and on which conditions, stands at its head. Conditions: stated in each.
-/
import Derived.Test.YtbejdajkkoapgaaGreatDoorJ06
/-
  Contracts of Over, Ceil of the reference of layer 1, and of Place of the reference of layer 3. Conditions: the part can be, there are values.
-/
set_option linter.unusedVariables false
set_option linter.unusedSimpArgs false
set_option maxRecDepth 100000
namespace Go.Proofs.YtbejdajkkoapgaaGreatDoor.Wd
open Go.RowKit Go.Lib
open Sp (Drew)

abbrev u64 (n : Nat) : Value := .int .u64 (n : Int)
/-- what lies in memory while it divides -/
structure Ov (w0 : World) (s hi lo y r0 r1 q0 q1 : Nat) (W : World) : Prop where
  below : Below w0.heap.size w0 W
  base : w0.heap.size ≤ s
  a : Blk W s #[.int .u64 (hi : Int), .int .u64 (lo : Int)] 103
  d : Blk W (s + 1) #[.int .u64 0, .int .u64 (y : Int)] 103
  r : Blk W (s + 1 + 1) #[.int .u64 (r0 : Int), .int .u64 (r1 : Int)] 103
  q : Blk W (s + 1 + 1 + 1) #[.int .u64 (q0 : Int), .int .u64 (q1 : Int)] 103
namespace Ov
variable {w0 W W' : World} {s hi lo y r0 r1 q0 q1 : Nat}
theorem next (h : Ov w0 s hi lo y r0 r1 q0 q1 W) (hb : Below W.heap.size W W') : Ov w0 s hi lo y r0 r1 q0 q1 W' :=
  ⟨h.below.trans (hb.mono h.below.size), h.base, h.a.below hb h.a.lt, h.d.below hb h.d.lt, h.r.below hb h.r.lt, h.q.below hb h.q.lt⟩
theorem drew (h : Ov w0 s hi lo y r0 r1 q0 q1 W) : Ov w0 s hi lo y r0 r1 q0 q1 W.drew := ⟨h.below.drew, h.base, h.a, h.d, h.r, h.q⟩
theorem setR0 (h : Ov w0 s hi lo y r0 r1 q0 q1 W) (x : Nat) : Ov w0 s hi lo y x r1 q0 q1 (W.setCell ⟨s + 1 + 1, 0, none⟩ (.int .u64 (x : Int))) :=
  ⟨h.below.setCell (by have := h.base; simp; omega) _, h.base, h.a.other _ _ (by simp <;> omega), h.d.other _ _ (by simp), h.r.set 0 _, h.q.other _ _ (by simp)⟩
theorem setR1 (h : Ov w0 s hi lo y r0 r1 q0 q1 W) (x : Nat) : Ov w0 s hi lo y r0 x q0 q1 (W.setCell ⟨s + 1 + 1, 1, none⟩ (.int .u64 (x : Int))) :=
  ⟨h.below.setCell (by have := h.base; simp; omega) _, h.base, h.a.other _ _ (by simp <;> omega), h.d.other _ _ (by simp), h.r.set 1 _, h.q.other _ _ (by simp)⟩
theorem setQ0 (h : Ov w0 s hi lo y r0 r1 q0 q1 W) (x : Nat) : Ov w0 s hi lo y r0 r1 x q1 (W.setCell ⟨s + 1 + 1 + 1, 0, none⟩ (.int .u64 (x : Int))) :=
  ⟨h.below.setCell (by have := h.base; simp; omega) _, h.base, h.a.other _ _ (by simp <;> omega), h.d.other _ _ (by simp <;> omega), h.r.other _ _ (by simp), h.q.set 0 _⟩
theorem setQ1 (h : Ov w0 s hi lo y r0 r1 q0 q1 W) (x : Nat) : Ov w0 s hi lo y r0 r1 q0 x (W.setCell ⟨s + 1 + 1 + 1, 1, none⟩ (.int .u64 (x : Int))) :=
  ⟨h.below.setCell (by have := h.base; simp; omega) _, h.base, h.a.other _ _ (by simp <;> omega), h.d.other _ _ (by simp <;> omega), h.r.other _ _ (by simp), h.q.set 1 _⟩
/-- all cells at once -/
theorem cells (h : Ov w0 s hi lo y r0 r1 q0 q1 W) :
    W.cell? ⟨s, 0, none⟩ = some (.int .u64 (hi : Int)) ∧ W.cell? ⟨s, 1, none⟩ = some (.int .u64 (lo : Int)) ∧ W.cell? ⟨s + 1, 0, none⟩ = some (.int .u64 0) ∧ W.cell? ⟨s + 1, 1, none⟩ = some (.int .u64 (y : Int)) ∧
    W.cell? ⟨s + 1 + 1, 0, none⟩ = some (.int .u64 (r0 : Int)) ∧ W.cell? ⟨s + 1 + 1, 1, none⟩ = some (.int .u64 (r1 : Int)) ∧ W.cell? ⟨s + 1 + 1 + 1, 0, none⟩ = some (.int .u64 (q0 : Int)) ∧ W.cell? ⟨s + 1 + 1 + 1, 1, none⟩ = some (.int .u64 (q1 : Int)) ∧
    W.frozen? ⟨s + 1 + 1, 0, none⟩ = false ∧ W.frozen? ⟨s + 1 + 1, 1, none⟩ = false ∧ W.frozen? ⟨s + 1 + 1 + 1, 0, none⟩ = false ∧ W.frozen? ⟨s + 1 + 1 + 1, 1, none⟩ = false :=
  ⟨h.a.cell rfl, h.a.cell rfl, h.d.cell rfl, h.d.cell rfl, h.r.cell rfl, h.r.cell rfl, h.q.cell rfl, h.q.cell rfl, h.r.frozen 0, h.r.frozen 1, h.q.frozen 0, h.q.frozen 1⟩
end Ov

set_option maxHeartbeats 4000000 in
theorem over_ref (hi lo y : Nat) (w : World) (h1 : hi < y) (h2 : y < 18446744073709551616) (h3 : lo < 18446744073709551616) :
    Calls Tryz.prog 35 #[.agg #[.int .u64 hi, .int .u64 lo], .int .u64 y] w fun e w' => e = .returned (.tuple #[.int .u64 (((hi * 18446744073709551616 + lo) / y : Nat) : Int), .int .u64 (((hi * 18446744073709551616 + lo) % y : Nat) : Int), .bool true]) ∧ Below w.heap.size w w' := by
  have g1 : ((y : Int) == 0) = false := by simp; omega
  obtain ⟨A, hA⟩ : ∃ A, A = hi * 18446744073709551616 + lo := ⟨_, rfl⟩
  rw [← hA]
  have HA := Lib.hid hA
  have A2 : A < 340282366920938463463374607431768211456 := by omega
  have hq64 : A / y < 18446744073709551616 := by
    rw [Nat.div_lt_iff_lt_mul (by omega)]
    have : hi * 18446744073709551616 + 18446744073709551616 ≤ y * 18446744073709551616 := by omega
    rw [Nat.mul_comm]; omega
  clear hA
  go_enter Tryz.func35, Tryz.ntmps35
  go_wp2_with fail
  go_loopg [10] 128 (fun g i wr => ∃ k, k ≤ g ∧ k ≤ 128 ∧ i = .int .i64 ((k : Int) - 1) ∧ Ov w w.heap.size hi lo y (A / 2 ^ k % y / 18446744073709551616) (A / 2 ^ k % y % 18446744073709551616) (A / 2 ^ k / y / 18446744073709551616) (A / 2 ^ k / y % 18446744073709551616) wr)
  case atStart =>
    have z : A / 2 ^ 128 = 0 := Nat.div_eq_of_lt (by omega)
    refine ⟨128, Nat.le_refl _, Nat.le_refl _, rfl, ?_⟩
    simp only [z, Nat.zero_mod, Nat.zero_div]
    refine ⟨((((Below.refl _ _).alloc (Nat.le_refl _) _).alloc (by simp) _).alloc (by simp; omega) _).alloc (by simp; omega) _, Nat.le_refl _, ?_, ?_, ?_, ?_⟩
    · exact (((Blk.newAt rfl).alloc _).alloc _).alloc _
    · refine Blk.alloc (Blk.alloc (Blk.newAt ?_) _) _; simp
    · refine Blk.alloc (Blk.newAt ?_) _; simp
    · refine Blk.newAt ?_; simp
  case round =>
    obtain ⟨k, hk, hk2, rfl, H⟩ := hrel
    have hs : ∀ (X : Nat), X < 340282366920938463463374607431768211456 → y ≤ X → ∀ W : World, Calls Tryz.prog 59 #[.agg #[.int .u64 (X / 18446744073709551616 : Nat), .int .u64 (X % 18446744073709551616 : Nat)], .agg #[.int .u64 0, .int .u64 (y : Int)]] W fun e w' =>
      (∃ b, e = .returned (.tuple #[.agg #[.int .u64 ((X - y) / 18446744073709551616 : Nat), .int .u64 ((X - y) % 18446744073709551616 : Nat)], .bool b])) ∧ Below W.heap.size W w' := fun X hX hy W => by
      have h := sub_any X y W hX hy
      rw [Nat.div_eq_of_lt h2, Nat.mod_eq_of_lt h2] at h
      exact h
    have hl : ∀ (X : Nat), ∀ W : World, Calls Tryz.prog 58 #[.agg #[.int .u64 (X / 18446744073709551616 : Nat), .int .u64 (X % 18446744073709551616 : Nat)], .agg #[.int .u64 0, .int .u64 (y : Int)]] W fun e w' => e = .returned (.bool (decide (X < y))) ∧ Below W.heap.size W w' := fun X W => by
      have h := less_any ((X / 18446744073709551616 : Nat) : Int) ((X % 18446744073709551616 : Nat) : Int) 0 y W
      have e : lessB ((X / 18446744073709551616 : Nat) : Int) ((X % 18446744073709551616 : Nat) : Int) 0 y = decide (X < y) := by
        unfold lessB
        split
        · rw [decide_eq_decide]; omega
        · rw [decide_eq_decide]; omega
      rw [e] at h
      exact h
    match k, hk, hk2 with
    | 0, _, _ =>
      rw [Nat.pow_zero, Nat.div_one] at H
      have hq := hq64
      have hr : A % y < 18446744073709551616 := Nat.lt_trans (Nat.mod_lt _ (by omega)) h2
      rw [Nat.div_eq_of_lt hq, Nat.mod_eq_of_lt hq, Nat.div_eq_of_lt hr, Nat.mod_eq_of_lt hr] at H
      obtain ⟨Qf, hQf⟩ : ∃ q, q = A / y := ⟨_, rfl⟩
      obtain ⟨Rf, hRf⟩ : ∃ q, q = A % y := ⟨_, rfl⟩
      have HQ := Lib.hid hQf
      have HR := Lib.hid hRf
      rw [← hQf, ← hRf] at H
      obtain ⟨a0, a1, d0, d1, r0, r1, q0, q1, f0, f1, f2, f3⟩ := H.cells
      have H' := Lib.hid H
      clear H hs hl hq hr hq64 hQf hRf
      go_wp2_with fail
      go_quiet (fail)
      go_wp2
      go_ret3
      exact ⟨by rw [← HQ.out, ← HR.out]; rfl, below_drewed H'.out.below (Drew.of _ _)⟩
    | j + 1, hk, hk2 =>
      have hR1 : A / 2 ^ (j + 1) % y < y := Nat.mod_lt _ (by omega)
      have hQ1 : A / 2 ^ (j + 1) / y * 2 ≤ A := by
        have e1 : A / 2 ^ (j + 1) / y ≤ A / 2 ^ (j + 1) := Nat.div_le_self _ _
        have e2 : A / 2 ^ (j + 1) ≤ A / 2 := Nat.div_le_div_left (by rw [Nat.pow_succ]; have := Nat.one_le_two_pow (n := j); omega) (by decide)
        omega
      have hno := long_no A y j
      have hyes := long_yes A y j (by omega)
      obtain ⟨R, hR⟩ : ∃ R, R = A / 2 ^ (j + 1) % y := ⟨_, rfl⟩
      obtain ⟨Q, hQ⟩ : ∃ Q, Q = A / 2 ^ (j + 1) / y := ⟨_, rfl⟩
      obtain ⟨b, hb⟩ : ∃ b, b = A / 2 ^ j % 2 := ⟨_, rfl⟩
      obtain ⟨R', hR'⟩ : ∃ R', R' = A / 2 ^ j % y := ⟨_, rfl⟩
      obtain ⟨Q', hQ'⟩ : ∃ Q', Q' = A / 2 ^ j / y := ⟨_, rfl⟩
      rw [← hR] at hR1 hno hyes H
      rw [← hQ] at hQ1 hno hyes H
      rw [← hb, ← hR', ← hQ'] at hno hyes
      have hb2 : b < 2 := by omega
      have hbit := fun W => bit_any hi lo j W h3 (by omega) (by omega)
      rw [← HA.out, ← hb] at hbit
      have HRR := Lib.hid hR'
      have HQQ := Lib.hid hQ'
      have hi1 : ((j + 1 : Nat) : Int) - 1 = (j : Int) := by omega
      rw [hi1]
      have HN := Lib.hid (And.intro hno hyes)
      clear hno hyes hR hQ hb hR' hQ' hi1
      obtain ⟨x0, hx0⟩ : ∃ x, x = (R + R) / 18446744073709551616 := ⟨_, rfl⟩
      obtain ⟨x1, hx1⟩ : ∃ x, x = (R + R) % 18446744073709551616 := ⟨_, rfl⟩
      obtain ⟨p0, hp0⟩ : ∃ x, x = (Q + Q) / 18446744073709551616 := ⟨_, rfl⟩
      obtain ⟨p1, hp1⟩ : ∃ x, x = (Q + Q) % 18446744073709551616 := ⟨_, rfl⟩
      obtain ⟨r0, hr0⟩ : ∃ x, x = R / 18446744073709551616 := ⟨_, rfl⟩
      obtain ⟨r1, hr1⟩ : ∃ x, x = R % 18446744073709551616 := ⟨_, rfl⟩
      obtain ⟨q0, hq0⟩ : ∃ x, x = Q / 18446744073709551616 := ⟨_, rfl⟩
      obtain ⟨q1, hq1⟩ : ∃ x, x = Q % 18446744073709551616 := ⟨_, rfl⟩
      obtain ⟨y1, hy1⟩ : ∃ x, x = x1 + b := ⟨_, rfl⟩
      have hd1 := fun W => double_any R W (by omega)
      have hd2 := fun W => double_any Q W (by omega)
      rw [← hx0, ← hx1, ← hr0, ← hr1] at hd1
      rw [← hp0, ← hp1, ← hq0, ← hq1] at hd2
      rw [← hr0, ← hr1, ← hq0, ← hq1] at H
      have ey : x0 = (R + R + b) / 18446744073709551616 ∧ y1 = (R + R + b) % 18446744073709551616 := by omega
      have hl' := hl (R + R + b)
      rw [← ey.1, ← ey.2] at hl'
      have f1 : IntKind.u64.wrap ((x1 : Int) + (b : Int)) = (y1 : Int) := by rw [show (x1 : Int) + (b : Int) = (y1 : Int) from by omega]; exact wrapN _ (by omega)
      have hX : R + R + b < 340282366920938463463374607431768211456 := by omega
      have HX := Lib.hid (And.intro (And.intro hx0 hx1) (And.intro (And.intro hp0 hp1) (And.intro ey hX)))
      have hji : (0 : Int) ≤ (j : Int) := by omega
      clear hx0 hx1 hp0 hp1 hr0 hr1 hq0 hq1 hy1 ey hX hl hq64 hQ1
      obtain ⟨ca0, ca1, cd0, cd1, cr0, cr1, cq0, cq1, cf0, cf1, cf2, cf3⟩ := H.cells
      have H0 := Lib.hid H
      clear H
      go_wp2_with fail
      refine (hd1 _).mono ?_
      rintro e w1 ⟨⟨bb1, rfl⟩, hb1⟩
      have H1 := H0.out.next hb1
      clear ca0 ca1 cd0 cd1 cr0 cr1 cq0 cq1 cf0 cf1 cf2 cf3 hd1
      obtain ⟨ca0, ca1, cd0, cd1, cr0, cr1, cq0, cq1, cf0, cf1, cf2, cf3⟩ := H1.cells
      have H2 := (H1.setR0 x0).setR1 x1
      clear H0 hb1 H1
      go_upto_region 10 with fail
      generalize (w1.setCell ⟨w.heap.size + 1 + 1, 0, none⟩ (.int .u64 (x0 : Int))).setCell ⟨w.heap.size + 1 + 1, 1, none⟩ (.int .u64 (x1 : Int)) = W2 at H2 ⊢
      obtain ⟨ca0, ca1, cd0, cd1, cr0, cr1, cq0, cq1, cf0, cf1, cf2, cf3⟩ := H2.cells
      have hn : ∀ w3, Below W2.drew.heap.size W2.drew w3 → Ov w w.heap.size hi lo y x0 x1 q0 q1 w3 := fun w3 h => H2.drew.next h
      have H2' := Lib.hid H2
      clear H2
      go_cut [10] from 17 to 51 (fun i wx => i = .int .i64 (j : Int) ∧ Ov w w.heap.size hi lo y x0 y1 q0 q1 wx)
      case first =>
        go_region_with (go_at_call 57; refine (hbit _).mono ?_; rintro e w3 ⟨rfl, hb3⟩; have H3 := hn w3 hb3; obtain ⟨za0, za1, zd0, zd1, zr0, zr1, zq0, zq1, zf0, zf1, zf2, zf3⟩ := H3.cells)
        all_goals (go_wp2_with fail)
        all_goals go_meet
        all_goals exact ⟨rfl, H3.setR1 y1⟩
      case rest =>
        obtain ⟨rfl, H4⟩ := hcut
        clear hn H2' hbit
        obtain ⟨ca0, ca1, cd0, cd1, cr0, cr1, cq0, cq1, cf0, cf1, cf2, cf3⟩ := H4.cells
        go_wp2_with fail
        refine (hd2 _).mono ?_
        rintro e w5 ⟨⟨bb5, rfl⟩, hb5⟩
        have H5 := H4.next hb5
        clear ca0 ca1 cd0 cd1 cr0 cr1 cq0 cq1 cf0 cf1 cf2 cf3 hd2
        obtain ⟨ca0, ca1, cd0, cd1, cr0, cr1, cq0, cq1, cf0, cf1, cf2, cf3⟩ := H5.cells
        have H6 := (H5.setQ0 p0).setQ1 p1
        clear H4 hb5 H5
        go_upto_region 12 with fail
        generalize (w5.setCell ⟨w.heap.size + 1 + 1 + 1, 0, none⟩ (.int .u64 (p0 : Int))).setCell ⟨w.heap.size + 1 + 1 + 1, 1, none⟩ (.int .u64 (p1 : Int)) = W6 at H6 ⊢
        obtain ⟨ca0, ca1, cd0, cd1, cr0, cr1, cq0, cq1, cf0, cf1, cf2, cf3⟩ := H6.cells
        go_wp2_with fail
        refine (hl' _).mono ?_
        rintro e w7 ⟨rfl, hb7⟩
        have H7 := H6.next hb7
        clear ca0 ca1 cd0 cd1 cr0 cr1 cq0 cq1 cf0 cf1 cf2 cf3 H6 hb7
        obtain ⟨ca0, ca1, cd0, cd1, cr0, cr1, cq0, cq1, cf0, cf1, cf2, cf3⟩ := H7.cells
        have H7' := Lib.hid H7
        clear H7
        by_cases hlt : R + R + b < y
        · have g5 : decide (R + R + b < y) = true := by simp; omega
          have HL := Lib.hid hlt
          clear hlt hs hl'
          go_wp2_with fail
          go_roundg j
          case measure => omega
          case rel =>
            refine ⟨j, Nat.le_refl _, by omega, by first | rfl | (congr 1; done) | (congr 1; omega), ?_⟩
            obtain ⟨n1, n2⟩ := HN.out.1 (by have := HL.out; omega)
            obtain ⟨-, ⟨m1, m2⟩, ⟨m3, m4⟩, -⟩ := HX.out
            have k := H7'.out
            rw [← HRR.out, ← HQQ.out, ← n1, ← n2, show 2 * Q = Q + Q from by omega, show 2 * R + b = R + R + b from by omega, ← m1, ← m2, ← m3, ← m4]
            exact k
        · have g5 : decide (R + R + b < y) = false := by simp; omega
          have hsx := hs (R + R + b) HX.out.2.2.2 (by omega)
          obtain ⟨-, ⟨m1, m2⟩, ⟨m3, m4⟩, -⟩ := HX.out
          rw [← m3, ← m4] at hsx
          obtain ⟨n1, n2⟩ := HN.out.2 (by omega)
          obtain ⟨e0, he0⟩ : ∃ x, x = (R + R + b - y) / 18446744073709551616 := ⟨_, rfl⟩
          obtain ⟨e1, he1⟩ : ∃ x, x = (R + R + b - y) % 18446744073709551616 := ⟨_, rfl⟩
          obtain ⟨t1, ht1⟩ : ∃ x, x = p1 + 1 := ⟨_, rfl⟩
          have f5 : IntKind.u64.wrap ((p1 : Int) + 1) = (t1 : Int) := by rw [show (p1 : Int) + 1 = (t1 : Int) from by omega]; exact wrapN _ (by omega)
          rw [← he0, ← he1] at hsx
          have hp : p0 = Q' / 18446744073709551616 ∧ t1 = Q' % 18446744073709551616 := by omega
          have he : e0 = R' / 18446744073709551616 ∧ e1 = R' % 18446744073709551616 := by omega
          have HE := Lib.hid (And.intro hp he)
          clear hlt hs hl' m1 m2 m3 m4 n1 n2 he0 he1 ht1 hp he
          go_wp2_with fail
          refine (hsx _).mono ?_
          rintro e w9 ⟨⟨bb9, rfl⟩, hb9⟩
          have H9 := H7'.out.next hb9
          clear ca0 ca1 cd0 cd1 cr0 cr1 cq0 cq1 cf0 cf1 cf2 cf3 hb9 hsx
          obtain ⟨ca0, ca1, cd0, cd1, cr0, cr1, cq0, cq1, cf0, cf1, cf2, cf3⟩ := H9.cells
          have HA1 := Lib.hid ((H9.setR0 e0).setR1 e1)
          have HB1 := Lib.hid (((H9.setR0 e0).setR1 e1).setQ1 t1)
          clear H9
          go_wp2_with fail
          go_roundg j
          case measure => omega
          case rel =>
            refine ⟨j, Nat.le_refl _, by omega, by first | rfl | (congr 1; done) | (congr 1; omega), ?_⟩
            have k := HB1.out
            rw [← HRR.out, ← HQQ.out, ← HE.out.1.1, ← HE.out.1.2, ← HE.out.2.1, ← HE.out.2.2]
            exact k

theorem times_ref (a b : Nat) (w : World) (ha : a < 18446744073709551616) (hb : b < 18446744073709551616) :
    Calls Tryz.prog 36 #[.int .u64 a, .int .u64 b] w fun e w' => e = .returned (.agg #[.int .u64 ((a * b / 18446744073709551616 : Nat) : Int), .int .u64 ((a * b % 18446744073709551616 : Nat) : Int)]) ∧ Below w.heap.size w w' := by
  rw [hiD_nat, loD_nat]
  exact reftimes_any a b w (by omega) (by omega) (by omega) (by omega)

theorem ceil_ref (a b y : Nat) (w : World) (ha : a ≤ y) (h0 : 1 ≤ y) (h1 : y < 18446744073709551616) (hb : b < 18446744073709551616) :
    Calls Tryz.prog 23 #[.int .u64 a, .int .u64 b, .int .u64 y] w fun e w' => e = .returned (.tuple #[.int .u64 (ceilN a b y : Nat), .bool true]) ∧ Below w.heap.size w w' := by
  have hle := ceilN_le a b y ha h0
  have hhi : a * b / 18446744073709551616 < y := by
    rw [Nat.div_lt_iff_lt_mul (by decide)]
    exact Nat.lt_of_le_of_lt (Nat.mul_le_mul_right b ha) (Nat.mul_lt_mul_of_pos_left hb h0)
  have hlo : a * b % 18446744073709551616 < 18446744073709551616 := by omega
  have e : a * b / 18446744073709551616 * 18446744073709551616 + a * b % 18446744073709551616 = a * b := by omega
  obtain ⟨q, hq⟩ : ∃ q, q = a * b / y := ⟨_, rfl⟩
  obtain ⟨r, hr⟩ : ∃ r, r = a * b % y := ⟨_, rfl⟩
  have ho := fun W => over_ref _ _ y W hhi h1 hlo
  rw [e, ← hq, ← hr] at ho
  have ht := fun W => times_ref a b W (by omega) hb
  have hc : ceilN a b y = if r = 0 then q else q + 1 := by unfold ceilN; rw [← hq, ← hr]
  by_cases h : r = 0
  · have g1 : ¬ (0 : Int) < (r : Int) := by omega
    have g2 : q = ceilN a b y := by rw [hc, if_pos h]
    clear hc h hq hr e hhi hlo hle
    have HG := Lib.hid g2
    clear g2
    go_enter Tryz.func23, Tryz.ntmps23
    go_wp2_with (first | (go_at_call 36; refine (ht _).mono ?_; rintro e w1 ⟨rfl, hb1⟩) | (go_at_call 35; refine (ho _).mono ?_; rintro e w2 ⟨rfl, hb2⟩))
    go_ret2
    exact ⟨by rw [← HG.out]; rfl, hb1.trans (hb2.mono hb1.size)⟩
  · have g1 : (0 : Int) < (r : Int) := by omega
    have g2 : q + 1 = ceilN a b y := by rw [hc, if_neg h]
    have g3 : ((q : Int) == 18446744073709551615) = false := by simp; omega
    obtain ⟨z, hz⟩ : ∃ z, z = ceilN a b y := ⟨_, rfl⟩
    have f1 : IntKind.u64.wrap ((q : Int) + 1) = (z : Int) := by rw [show (q : Int) + 1 = (z : Int) from by omega]; exact wrapN _ (by omega)
    have HG := Lib.hid hz
    clear hc h hq hr e hhi hlo hle g2 hz
    go_enter Tryz.func23, Tryz.ntmps23
    go_wp2_with (first | (go_at_call 36; refine (ht _).mono ?_; rintro e w1 ⟨rfl, hb1⟩) | (go_at_call 35; refine (ho _).mono ?_; rintro e w2 ⟨rfl, hb2⟩))
    go_ret2
    exact ⟨by rw [← HG.out]; rfl, hb1.trans (hb2.mono hb1.size)⟩

theorem place_ref (num den n : Nat) (w : World) (h : num ≤ den) (h0 : 1 ≤ den) (h1 : den < 18446744073709551616) (hn : 1 ≤ n) (hn' : n < 18446744073709551616) :
    Calls Tryz.prog 11 #[.agg #[.int .u64 num, .int .u64 den], .int .u64 n] w fun e w' => e = .returned (.tuple #[.int .u64 (placeN num n den : Nat), .int .i64 0]) ∧ Below w.heap.size w w' := by
  have g1 : ((n : Int) == 0) = false := by simp; omega
  obtain ⟨c, hc⟩ : ∃ c, c = ceilN num n den := ⟨_, rfl⟩
  have hcl := fun W => ceil_ref num n den W h h0 h1 hn'
  rw [← hc] at hcl
  have hp : placeN num n den = if c = 0 then 1 else c := by unfold placeN; rw [← hc]; split <;> omega
  have HP := Lib.hid hp
  clear hp hc
  by_cases h5 : c = 0
  · have g2 : ((c : Int) == 0) = true := by simp [h5]
    have H5 := Lib.hid h5
    clear h5
    go_enter Tryz.func11, Tryz.ntmps11
    go_wp2_with (first
      | (go_at_call 8; refine (good_ref num den _ h h0).mono ?_; rintro e w1 ⟨rfl, hb1⟩; obtain ⟨hc1, hf1⟩ := bcell hb1; have z1 : w.heap.size < w1.heap.size := by have := hb1.size; simp at this; omega)
      | (go_at_call 23; refine (hcl _).mono ?_; rintro e w2 ⟨rfl, hb2⟩))
    go_ret2
    refine ⟨by rw [HP.out, if_pos H5.out]; rfl, ?_⟩
    exact (((Below.refl _ _).alloc (Nat.le_refl _) _).trans (hb1.mono (by simp))).trans (hb2.mono (by omega))
  · have g2 : ((c : Int) == 0) = false := by simp [h5]
    have H5 := Lib.hid h5
    clear h5
    go_enter Tryz.func11, Tryz.ntmps11
    go_wp2_with (first
      | (go_at_call 8; refine (good_ref num den _ h h0).mono ?_; rintro e w1 ⟨rfl, hb1⟩; obtain ⟨hc1, hf1⟩ := bcell hb1; have z1 : w.heap.size < w1.heap.size := by have := hb1.size; simp at this; omega)
      | (go_at_call 23; refine (hcl _).mono ?_; rintro e w2 ⟨rfl, hb2⟩))
    go_ret2
    refine ⟨by rw [HP.out, if_neg H5.out]; rfl, ?_⟩
    exact (((Below.refl _ _).alloc (Nat.le_refl _) _).trans (hb1.mono (by simp))).trans (hb2.mono (by omega))
end Go.Proofs.YtbejdajkkoapgaaGreatDoor.Wd

