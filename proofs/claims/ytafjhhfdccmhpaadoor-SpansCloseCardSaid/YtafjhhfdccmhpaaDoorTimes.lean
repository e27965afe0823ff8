/-
  Contracts of Less, Add and Times of the reference of layer 1: a product's two halves, and whether one number of two halves is less; below the heap's size at the call nothing in memory changes. Conditions: the factors fit uint64.
-/
import Derived.Test.YtafjhhfdccmhpaaDoorPlain
import Derived.LoopN
import Derived.Laws.StructEq
namespace Go.Proofs.YtafjhhfdccmhpaaDoor
open Go.RowKit Go.Lib

/-- the upper and the lower half of a product -/
def hiD (a b : Int) : Int := a * b / 18446744073709551616
def loD (a b : Int) : Int := a * b % 18446744073709551616

def lessB (a b c d : Int) : Bool := if a = c then decide (b < d) else decide (a < c)
theorem less_any (a b c d : Int) (w : World) :
    Calls Tryd.prog 16 #[.agg #[.int .u64 a, .int .u64 b], .agg #[.int .u64 c, .int .u64 d]] w fun e w' => e = .returned (.bool (lessB a b c d)) ∧ Below w.heap.size w w' := by
  by_cases h : a = c
  · have h1 : (a == c) = true := beq_iff_eq.2 h
    have h2 : (a != c) = false := by simp [h]
    have h3 : lessB a b c d = decide (b < d) := by unfold lessB; rw [if_pos h]
    rw [h3]; clear h3 h
    go_enter Tryd.func16, Tryd.ntmps16
    go_wp2
    go_ret
    exact ⟨rfl, ((Below.refl _ _).alloc (Nat.le_refl _) _).alloc (by simp) _⟩
  · have h1 : (a == c) = false := beq_eq_false_iff_ne.2 h
    have h2 : (a != c) = true := by simp [h]
    have h3 : lessB a b c d = decide (a < c) := by unfold lessB; rw [if_neg h]
    rw [h3]; clear h3 h
    go_enter Tryd.func16, Tryd.ntmps16
    go_wp2
    go_ret
    exact ⟨rfl, ((Below.refl _ _).alloc (Nat.le_refl _) _).alloc (by simp) _⟩
/-- the sum of two numbers of two halves each: the lower half, the upper half, whether there is no room -/
def addLo (b d : Int) : Int := (b + d) % 18446744073709551616
def addHi (a b c d : Int) : Int := (a + c + (if addLo b d < b then 1 else 0)) % 18446744073709551616
def addOv (a b c d : Int) : Bool := decide ((a + c) % 18446744073709551616 < a) || (decide (addLo b d < b) && (addHi a b c d == 0))
theorem addLo_is (b d : Int) : IntKind.u64.wrap (b + d) = addLo b d := by rw [IntKind.wrap_u64]; rfl

theorem add_any (a b c d : Int) (w : World) :
    Calls Tryd.prog 22 #[.agg #[.int .u64 a, .int .u64 b], .agg #[.int .u64 c, .int .u64 d]] w fun e w' => e = .returned (.tuple #[.agg #[.int .u64 (addHi a b c d), .int .u64 (addLo b d)], .bool (addOv a b c d)]) ∧ Below w.heap.size w w' := by
  have e1 := addLo_is b d
  have hb3 : Below w.heap.size w (((w.alloc (Obj.cells #[.int .u64 a, .int .u64 b] 43)).alloc (Obj.cells #[.int .u64 c, .int .u64 d] 43)).alloc (Obj.cells #[.int .u64 (addHi a b c d), .int .u64 (addLo b d)] 43)) :=
    (((Below.refl _ _).alloc (Nat.le_refl _) _).alloc (by simp) _).alloc (by simp; omega) _
  by_cases h : addLo b d < b
  · have e2 : IntKind.u64.wrap (IntKind.u64.wrap (a + c) + 1) = addHi a b c d := by unfold addHi; simp only [IntKind.wrap_u64]; rw [if_pos h]; omega
    have e3 : addOv a b c d = (decide (IntKind.u64.wrap (a + c) < a) || (addHi a b c d == 0)) := by unfold addOv; rw [IntKind.wrap_u64]; simp [h]
    by_cases h2 : IntKind.u64.wrap (a + c) < a
    · have e4 : addOv a b c d = true := by rw [e3]; simp [h2]
      have H4 : Hid _ := e4
      clear e3 e4
      go_enter Tryd.func22, Tryd.ntmps22
      go_wp2
      exact bodyPost_ret (v := .tuple #[.agg #[.int .u64 (addHi a b c d), .int .u64 (addLo b d)], .bool (addOv a b c d)]) (by simp [results, Tryd.results22, go_sem, H4.out]) rfl ⟨rfl, hb3⟩
    · have e5 : decide (IntKind.u64.wrap (a + c) < a) = false := decide_eq_false h2
      have e4 : addOv a b c d = (addHi a b c d == 0) := by rw [e3, e5]; simp
      have H4 : Hid _ := e4
      clear e3 e4
      go_enter Tryd.func22, Tryd.ntmps22
      go_wp2
      exact bodyPost_ret (v := .tuple #[.agg #[.int .u64 (addHi a b c d), .int .u64 (addLo b d)], .bool (addOv a b c d)]) (by simp [results, Tryd.results22, go_sem, H4.out]) rfl ⟨rfl, hb3⟩
  · have e2 : IntKind.u64.wrap (a + c) = addHi a b c d := by unfold addHi; rw [IntKind.wrap_u64, if_neg h]; omega
    have e4 : addOv a b c d = decide (addHi a b c d < a) := by unfold addOv; rw [← e2, IntKind.wrap_u64]; simp [h]
    have H4 : Hid _ := e4
    clear e4
    go_enter Tryd.func22, Tryd.ntmps22
    go_wp2
    exact bodyPost_ret (v := .tuple #[.agg #[.int .u64 (addHi a b c d), .int .u64 (addLo b d)], .bool (addOv a b c d)]) (by simp [results, Tryd.results22, go_sem, H4.out]) rfl ⟨rfl, hb3⟩
theorem bcell {W w1 : World} {B : Nat} (hb : Below B W w1) : (∀ b o, b < B → w1.cell? ⟨b, o, none⟩ = W.cell? ⟨b, o, none⟩) ∧ (∀ b o, b < B → w1.frozen? ⟨b, o, none⟩ = W.frozen? ⟨b, o, none⟩) :=
  ⟨fun b o h => hb.cell (p := ⟨b, o, none⟩) h, fun b o h => hb.frozen (p := ⟨b, o, none⟩) h⟩

theorem mul_half (a b : Int) (ha : 0 ≤ a) (ha' : a ≤ 4294967295) (hb : 0 ≤ b) (hb' : b ≤ 4294967295) : 0 ≤ a * b ∧ a * b ≤ 18446744065119617025 := by
  refine ⟨Int.mul_nonneg ha hb, ?_⟩
  have h1 : a * b ≤ 4294967295 * b := Int.mul_le_mul_of_nonneg_right ha' hb
  omega

/-- the plain law: halves of 32 bits, the two middle products added one by one -/
theorem times_law (a b : Int) (ha : 0 ≤ a) (ha' : a ≤ 18446744073709551615) (hb : 0 ≤ b) (hb' : b ≤ 18446744073709551615) (P Q R S : Int)
    (hP : P = a / 4294967296 * (b / 4294967296)) (hQ : Q = a / 4294967296 * (b % 4294967296)) (hR : R = a % 4294967296 * (b / 4294967296)) (hS : S = a % 4294967296 * (b % 4294967296)) :
    addLo (addLo S (Q % 4294967296 * 4294967296)) (R % 4294967296 * 4294967296) = loD a b ∧
    addHi (addHi P S (Q / 4294967296) (Q % 4294967296 * 4294967296)) (addLo S (Q % 4294967296 * 4294967296)) (R / 4294967296) (R % 4294967296 * 4294967296) = hiD a b := by
  have p := mul_half (a / 4294967296) (b / 4294967296) (by omega) (by omega) (by omega) (by omega)
  have q := mul_half (a / 4294967296) (b % 4294967296) (by omega) (by omega) (by omega) (by omega)
  have r := mul_half (a % 4294967296) (b / 4294967296) (by omega) (by omega) (by omega) (by omega)
  have s := mul_half (a % 4294967296) (b % 4294967296) (by omega) (by omega) (by omega) (by omega)
  rw [← hP] at p
  rw [← hQ] at q
  rw [← hR] at r
  rw [← hS] at s
  have t : a * b = P * 18446744073709551616 + (Q + R) * 4294967296 + S := by
    have e1 : a = a / 4294967296 * 4294967296 + a % 4294967296 := by omega
    have e2 : b = b / 4294967296 * 4294967296 + b % 4294967296 := by omega
    rw [hP, hQ, hR, hS]
    generalize a / 4294967296 = x at *
    generalize a % 4294967296 = y at *
    generalize b / 4294967296 = u at *
    generalize b % 4294967296 = v at *
    subst e1 e2
    have : (x * 4294967296 + y) * (u * 4294967296 + v) = x * u * 18446744073709551616 + (x * v + y * u) * 4294967296 + y * v := by
      rw [Int.add_mul, Int.mul_add, Int.mul_add]
      have h1 : x * 4294967296 * (u * 4294967296) = x * u * 18446744073709551616 := by
        rw [Int.mul_assoc, Int.mul_comm 4294967296, Int.mul_assoc u, ← Int.mul_assoc x]; rfl
      have h2 : x * 4294967296 * v = x * v * 4294967296 := by rw [Int.mul_assoc, Int.mul_comm 4294967296, ← Int.mul_assoc]
      have h3 : y * (u * 4294967296) = y * u * 4294967296 := by rw [← Int.mul_assoc]
      rw [h1, h2, h3]; omega
    exact this
  unfold hiD loD
  rw [t]
  clear hP hQ hR hS t
  unfold addHi addLo
  refine ⟨by omega, ?_⟩
  split <;> split <;> omega

theorem ratio_wrap (x : Int) (h : 0 ≤ x ∧ x ≤ 18446744065119617025) : IntKind.u64.wrap x = x := by rw [IntKind.wrap_u64]; omega

set_option maxHeartbeats 1000000 in
theorem reftimes_any (a b : Int) (w : World) (ha : 0 ≤ a) (ha' : a ≤ 18446744073709551615) (hb : 0 ≤ b) (hb' : b ≤ 18446744073709551615) :
    Calls Tryd.prog 17 #[.int .u64 a, .int .u64 b] w fun e w' => e = .returned (.agg #[.int .u64 (hiD a b), .int .u64 (loD a b)]) ∧ Below w.heap.size w w' := by
  have p := mul_half (a / 4294967296) (b / 4294967296) (by omega) (by omega) (by omega) (by omega)
  have q := mul_half (a / 4294967296) (b % 4294967296) (by omega) (by omega) (by omega) (by omega)
  have r := mul_half (a % 4294967296) (b / 4294967296) (by omega) (by omega) (by omega) (by omega)
  have s := mul_half (a % 4294967296) (b % 4294967296) (by omega) (by omega) (by omega) (by omega)
  obtain ⟨P, hP⟩ : ∃ P, P = a / 4294967296 * (b / 4294967296) := ⟨_, rfl⟩
  obtain ⟨Q, hQ⟩ : ∃ P, P = a / 4294967296 * (b % 4294967296) := ⟨_, rfl⟩
  obtain ⟨R, hR⟩ : ∃ P, P = a % 4294967296 * (b / 4294967296) := ⟨_, rfl⟩
  obtain ⟨S, hS⟩ : ∃ P, P = a % 4294967296 * (b % 4294967296) := ⟨_, rfl⟩
  have fin := times_law a b ha ha' hb hb' P Q R S hP hQ hR hS
  have Fin := Lib.hid fin
  clear fin
  rw [← hP] at p
  rw [← hQ] at q
  rw [← hR] at r
  rw [← hS] at s
  have eP : IntKind.u64.wrap (a / 4294967296 * (b / 4294967296)) = P := by rw [← hP]; exact ratio_wrap _ p
  have eQ : IntKind.u64.wrap (a / 4294967296 * (b % 4294967296)) = Q := by rw [← hQ]; exact ratio_wrap _ q
  have eR : IntKind.u64.wrap (a % 4294967296 * (b / 4294967296)) = R := by rw [← hR]; exact ratio_wrap _ r
  have eS : IntKind.u64.wrap (a % 4294967296 * (b % 4294967296)) = S := by rw [← hS]; exact ratio_wrap _ s
  clear hP hQ hR hS
  obtain ⟨p0, p1⟩ := p
  obtain ⟨q0, q1⟩ := q
  obtain ⟨r0, r1⟩ := r
  obtain ⟨s0, s1⟩ := s
  go_enter Tryd.func17, Tryd.ntmps17
  go_wp2
  refine wp_loop_rounds 3 ?_
  rw [rounds_succ]
  go_wp2_with fail
  refine (add_any _ _ _ _ _).mono ?_
  rintro e w1 ⟨rfl, hb1⟩
  obtain ⟨hc1, hf1⟩ := bcell hb1
  have z1 : w.heap.size + 1 + 1 < w1.heap.size := by have := hb1.size; simp at this; omega
  have z1' : w.heap.size + 1 < w1.heap.size := by omega
  have z1'' : w.heap.size < w1.heap.size := by omega
  go_wp2_with fail
  rw [rounds_succ]
  go_wp2_with fail
  refine (add_any _ _ _ _ _).mono ?_
  rintro e w2 ⟨rfl, hb2⟩
  obtain ⟨hc2, hf2⟩ := bcell hb2
  have z2 : w1.heap.size ≤ w2.heap.size := by have := hb2.size; simpa using this
  have y2' : w.heap.size + 1 < w2.heap.size := by omega
  have y2'' : w.heap.size < w2.heap.size := by omega
  have k0 := hc2 (w.heap.size + 1) 0 (by simp; omega)
  have k1 := hc2 (w.heap.size + 1) 1 (by simp; omega)
  have k2 := hc2 w.heap.size 0 (by simp; omega)
  have k3 := hc2 w.heap.size 1 (by simp; omega)
  have f0 := hf2 (w.heap.size + 1) 0 (by simp; omega)
  have f1 := hf2 (w.heap.size + 1) 1 (by simp; omega)
  have f2 := hf2 w.heap.size 0 (by simp; omega)
  have f3 := hf2 w.heap.size 1 (by simp; omega)
  clear hc2 hf2
  simp [hc1, hf1, go_sem] at k0 k1 k2 k3 f0 f1 f2 f3
  go_wp2_with fail
  rw [rounds_succ]
  go_wp2_with fail
  have hB : Below w.heap.size w w2 := by
    have b0 : Below w.heap.size w (((w.alloc (Obj.cells #[Value.int IntKind.u64 0, Value.int IntKind.u64 0] 43)).alloc (Obj.cells #[Value.int IntKind.u64 P, Value.int IntKind.u64 S] 43)).alloc (Obj.cells #[Value.int IntKind.u64 Q, Value.int IntKind.u64 R] 22)) :=
      (((Below.refl _ _).alloc (Nat.le_refl _) _).alloc (by simp) _).alloc (by simp; omega) _
    have b1 := b0.trans (hb1.mono (by simp; omega))
    exact ((b1.setCell (by simp) _).setCell (by simp) _).trans (hb2.mono (by simp; omega))
  have e1 := Fin.out.1
  have e2 := Fin.out.2
  exact bodyPost_ret (v := .agg #[.int .u64 (hiD a b), .int .u64 (loD a b)]) (by simp [results, Tryd.results17, go_sem, k2, k3, e1, e2]) rfl ⟨rfl, (((hB.setCell (by simp) _).setCell (by simp) _).setCell (by simp) _).setCell (by simp) _⟩

end Go.Proofs.YtafjhhfdccmhpaaDoor
