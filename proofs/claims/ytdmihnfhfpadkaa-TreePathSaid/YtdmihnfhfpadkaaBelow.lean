/-
  Plain laws: the two nodes under a node, and the way up from a value's node. Conditions: the depth lies from 1 to 24, the nodes can be.
-/
import Derived.Test.YtdmihnfhfpadkaaPlain
namespace Go.Proofs.Ytdmihnfhfpadkaa
open Go.RowKit Go.Lib

theorem pathLen_double (v b : Int) (h0 : 1 ≤ v) (h1 : v ≤ 16777215) (hb : b = 0 ∨ b = 1) : pathLen (2 * v + b) = pathLen v + 1 := by
  have e : (2 * v + b) / 2 ^ 1 = v := by
    rw [show (2 : Int) ^ 1 = 2 from rfl]; omega
  have := pathLen_shift (2 * v + b) 1 (by omega) (by omega) (by rw [e]; exact h0)
  rw [e] at this
  omega

theorem above_low (d v u : Int) (h : 1 ≤ d) (h' : d ≤ 24) (hv : goodB d v = true) (hu : goodB d u = true) (hlt : pathLen u < pathLen v) : aboveB d v u = false := by
  refine Bool.eq_false_iff.2 fun ht => ?_
  have := ((above_iff d v u h h' hv hu).1 ht).1; omega

theorem halves_law (d v : Int) (h : 1 ≤ d) (h' : d ≤ 24) (hv : goodB d v = true) (hl : v < pw d) :
    goodB d (2 * v) = true ∧ goodB d (2 * v + 1) = true ∧ lowV d v = lowV d (2 * v) ∧ lowV d (2 * v + 1) = highV d (2 * v) + 1 ∧ highV d (2 * v + 1) = highV d v ∧
    upV d (2 * v) = v ∧ upV d (2 * v + 1) = v ∧ besV d (2 * v) = 2 * v + 1 ∧ aboveB d v (2 * v) = true ∧ aboveB d (2 * v) v = false := by
  have ⟨p1, p2⟩ := pw_bd d h h'
  have ⟨g1, g2⟩ := (goodB_iff d v).1 hv
  have a1 : goodB d (2 * v) = true := (goodB_iff _ _).2 ⟨by omega, by omega⟩
  have a2 : goodB d (2 * v + 1) = true := (goodB_iff _ _).2 ⟨by omega, by omega⟩
  have l0 := pathLen_double v 0 g1 (by omega) (Or.inl rfl)
  have l1 := pathLen_double v 1 g1 (by omega) (Or.inr rfl)
  rw [Int.add_zero] at l0
  obtain ⟨L1, L2, _, _, _⟩ := low_is d v h h' hv
  obtain ⟨_, K2, _, _, _⟩ := low_is d (2 * v) h h' a1
  obtain ⟨s1, s2⟩ := span_nat d v h h' hv
  obtain ⟨t1, t2⟩ := span_nat d (2 * v) h h' a1
  obtain ⟨r1, r2⟩ := span_nat d (2 * v + 1) h h' a2
  rw [l0] at t1 t2
  rw [l1] at r1 r2
  have ew : 2 ^ (d.toNat - (pathLen v - 1)) = 2 * 2 ^ (d.toNat - (pathLen v + 1 - 1)) := by
    rw [show d.toNat - (pathLen v - 1) = (d.toNat - (pathLen v + 1 - 1)) + 1 from by omega, Nat.pow_succ]; omega
  rw [ew] at s1 s2
  generalize 2 ^ (d.toNat - (pathLen v + 1 - 1)) = W at *
  have e1 : (2 * v).toNat = v.toNat * 2 := by omega
  have e2 : (2 * v + 1).toNat = v.toNat * 2 + 1 := by omega
  rw [e1] at t1 t2
  rw [e2] at r1 r2
  rw [← Nat.mul_assoc] at s1 s2
  have e3 : (v.toNat + 1) * 2 = v.toNat * 2 + 1 + 1 := by omega
  rw [e3] at s2
  refine ⟨a1, a2, by omega, by omega, by omega, ?_, ?_, ?_, ?_, above_low d (2 * v) v h h' a1 hv (by omega)⟩
  · unfold upV; rw [a1]; show 2 * v / 2 = v; omega
  · unfold upV; rw [a2]; show (2 * v + 1) / 2 = v; omega
  · unfold besV; rw [a1, beq_eq_false_iff_ne.2 (show 2 * v ≠ 1 by omega), if_pos (show 2 * v % 2 = 0 by omega)]; rfl
  · refine (above_iff d v (2 * v) h h' hv a1).2 ⟨by omega, ?_⟩
    rw [l0, show pathLen v + 1 - pathLen v = 1 from by omega, show (2 : Int) ^ 1 = 2 from rfl]; omega

/-- one step on the way up from a value's node -/
theorem up_law (d x : Int) (j : Nat) (h : 1 ≤ d) (h' : d ≤ 24) (hl : leafB d x = true) (hj : 1 < (pw d + x) / 2 ^ j) :
    goodB d ((pw d + x) / 2 ^ j) = true ∧ goodB d ((pw d + x) / 2 ^ (j + 1)) = true ∧ (j : Int) < d ∧ upV d ((pw d + x) / 2 ^ j) = (pw d + x) / 2 ^ (j + 1) ∧
    aboveB d ((pw d + x) / 2 ^ (j + 1)) (pw d + x) = true ∧ lowV d ((pw d + x) / 2 ^ (j + 1)) ≤ x ∧ x ≤ highV d ((pw d + x) / 2 ^ (j + 1)) ∧
    levV d ((pw d + x) / 2 ^ (j + 1)) = levV d ((pw d + x) / 2 ^ j) - 1 ∧ ((pw d + x) / 2 ^ j != (pw d + x) / 2 ^ (j + 1)) = true := by
  have ⟨p1, p2⟩ := pw_bd d h h'
  have ⟨x1, x2⟩ := (leafB_iff d x).1 hl
  obtain ⟨f1, f2, f3, f4, f5⟩ := leaf_node d x h h' hl
  obtain ⟨_, _, L3, _, _⟩ := low_is d (pw d + x) h h' f1
  have e2 := half_pow (pw d + x) j
  have le1 : (pw d + x) / 2 ^ j ≤ pw d + x := Int.ediv_le_self _ (by omega)
  have s1 := pathLen_shift (pw d + x) j (by omega) (by omega) (by omega)
  have s2 := pathLen_shift (pw d + x) (j + 1) (by omega) (by omega) (by rw [← e2]; omega)
  have b1 : goodB d ((pw d + x) / 2 ^ j) = true := (goodB_iff _ _).2 ⟨by omega, by omega⟩
  have b2 : goodB d ((pw d + x) / 2 ^ (j + 1)) = true := (goodB_iff _ _).2 ⟨by rw [← e2]; omega, by rw [← e2]; omega⟩
  obtain ⟨M1, _, M3, _, _⟩ := low_is d _ h h' b1
  obtain ⟨N1, _, N3, _, _⟩ := low_is d _ h h' b2
  have ha : aboveB d ((pw d + x) / 2 ^ (j + 1)) (pw d + x) = true := by
    refine (above_iff d _ _ h h' b2 f1).2 ⟨by omega, ?_⟩
    rw [show pathLen (pw d + x) - pathLen ((pw d + x) / 2 ^ (j + 1)) = j + 1 from by omega]
  have hs : lowV d ((pw d + x) / 2 ^ (j + 1)) ≤ x ∧ x ≤ highV d ((pw d + x) / 2 ^ (j + 1)) := by
    rcases apart_one d _ (pw d + x) h h' b2 f1 (by omega) with ⟨_, b, c⟩ | ⟨a, _⟩
    · omega
    · rw [ha] at a; cases a
  refine ⟨b1, b2, by omega, ?_, ha, hs.1, hs.2, by omega, ?_⟩
  · unfold upV; rw [b1, ← e2]; rfl
  · have : (pw d + x) / 2 ^ j ≠ (pw d + x) / 2 ^ (j + 1) := by rw [← e2]; omega
    simp [this]

/-- the way up ends at the first node behind as many steps as the depth tells -/
theorem up_end (d x : Int) (j : Nat) (h : 1 ≤ d) (h' : d ≤ 24) (hl : leafB d x = true) (hd : (j : Int) ≤ d) (hj : ¬ 1 < (pw d + x) / 2 ^ j) : (pw d + x) / 2 ^ j = 1 ∧ (j : Int) = d := by
  have ⟨p1, p2⟩ := pw_bd d h h'
  have ⟨x1, x2⟩ := (leafB_iff d x).1 hl
  have e : pw d = ((2 ^ d.toNat : Nat) : Int) := by unfold pw; simp
  have e3 : (2 : Int) ^ j = ((2 ^ j : Nat) : Int) := by simp
  have hp : 0 < 2 ^ j := Nat.two_pow_pos j
  rcases (show (j : Int) = d ∨ (j : Int) + 1 ≤ d by omega) with hc | hc
  · have e4 : 2 ^ j = 2 ^ d.toNat := by rw [show j = d.toNat from by omega]
    have h3 : 1 ≤ (pw d + x) / (2 : Int) ^ j := (Int.le_ediv_iff_mul_le (by rw [e3]; omega)).2 (by rw [e3]; omega)
    omega
  · exfalso
    have h4 : 2 ^ (j + 1) ≤ 2 ^ d.toNat := Nat.pow_le_pow_right (by decide) (by omega)
    rw [Nat.pow_succ] at h4
    have h3 : 2 ≤ (pw d + x) / (2 : Int) ^ j := (Int.le_ediv_iff_mul_le (by rw [e3]; omega)).2 (by rw [e3]; omega)
    omega

end Go.Proofs.Ytdmihnfhfpadkaa
