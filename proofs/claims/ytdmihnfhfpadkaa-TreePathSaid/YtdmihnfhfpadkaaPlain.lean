/-
  Plain laws on the nodes of a tree, with no program in sight: the reference's answers are the program's; of two nodes one lies above the other one, or no value lies below both; the order in which they are told. Conditions: the depth lies from 1 to 24, the nodes can be.
-/
import Derived.Test.YtdmihnfhfpadkaaAlive
import Derived.Deep.DeepCutAuto
namespace Go.Proofs.Ytdmihnfhfpadkaa
open Go.RowKit Go.Lib

theorem good_nat (d v : Int) (h : 1 ≤ d) (h' : d ≤ 24) (hg : goodB d v = true) : 1 ≤ v ∧ v ≤ 33554431 := by
  have ⟨g1, g2⟩ := (goodB_iff d v).1 hg
  have ⟨p1, p2⟩ := pw_bd d h h'
  omega

/-- a node shifted down by j: so many fewer bits -/
theorem pathLen_shift (u : Int) (j : Nat) (h0 : 1 ≤ u) (h1 : u ≤ 33554431) (hj : 1 ≤ u / 2 ^ j) : pathLen u = j + pathLen (u / 2 ^ j) := by
  have e : (2 : Int) ^ j = ((2 ^ j : Nat) : Int) := by simp
  have e64 : (2 : Nat) ^ 64 = 18446744073709551616 := by decide
  have hp : 0 < 2 ^ j := Nat.two_pow_pos j
  have h2 : (2 : Int) ^ j ≤ u := by
    have := (Int.le_ediv_iff_mul_le (show (0 : Int) < 2 ^ j from Int.pow_pos (by decide))).1 hj
    omega
  have h3 : 2 ^ j ≤ u.toNat := by rw [e] at h2; omega
  have h4 := Lib.bitLen_shift j u.toNat h3 (by omega)
  have h5 : (u / 2 ^ j).toNat = u.toNat / 2 ^ j := by
    have h6 : u / 2 ^ j = ((u.toNat / 2 ^ j : Nat) : Int) := by
      rw [e, Int.natCast_ediv, show ((u.toNat : Nat) : Int) = u from by omega]
    rw [h6]; rfl
  unfold pathLen
  rw [h5]; exact h4

theorem above_iff (d v u : Int) (h : 1 ≤ d) (h' : d ≤ 24) (hv : goodB d v = true) (hu : goodB d u = true) :
    aboveB d v u = true ↔ pathLen v ≤ pathLen u ∧ u / 2 ^ (pathLen u - pathLen v) = v := by
  obtain ⟨_, _, L3, _, _⟩ := low_is d v h h' hv
  obtain ⟨_, _, K3, _, _⟩ := low_is d u h h' hu
  unfold aboveB
  rw [hv, hu, L3, K3]
  rw [show ((pathLen u : Int) - 1 - ((pathLen v : Int) - 1)).toNat = pathLen u - pathLen v from by omega]
  simp only [Bool.true_and, Bool.and_eq_true, decide_eq_true_eq, beq_iff_eq]
  constructor
  · rintro ⟨a, b⟩; exact ⟨by omega, b⟩
  · rintro ⟨a, b⟩; exact ⟨by omega, b⟩

theorem inPath_above (d v u : Int) (h : 1 ≤ d) (h' : d ≤ 24) (hv : goodB d v = true) (hu : goodB d u = true) : inPath v u = aboveB d v u := by
  have ⟨v1, v2⟩ := good_nat d v h h' hv
  have ⟨u1, u2⟩ := good_nat d u h h' hu
  obtain ⟨L1, _, _, _, _⟩ := low_is d v h h' hv
  obtain ⟨K1, _, _, _, _⟩ := low_is d u h h' hu
  have hiff := above_iff d v u h h' hv hu
  by_cases ha : aboveB d v u = true
  · obtain ⟨a, b⟩ := hiff.1 ha
    rw [ha]
    refine onWay_yes v u (pathLen v - 1) _ (by omega) ?_
    unfold nd
    rw [show pathLen u - 1 - (pathLen v - 1) = pathLen u - pathLen v from by omega]; exact b
  · have hf : aboveB d v u = false := by simpa using ha
    rw [hf]
    refine onWay_no v u _ fun m hm he => ha (hiff.2 ?_)
    unfold nd at he
    have hs := pathLen_shift u (pathLen u - 1 - m) u1 u2 (by rw [he]; exact v1)
    rw [he] at hs
    refine ⟨by omega, ?_⟩
    rw [show pathLen u - pathLen v = pathLen u - 1 - m from by omega]; exact he

/-- the values below a node, in numbers that cannot be less than 0 -/
theorem span_nat (d v : Int) (h : 1 ≤ d) (h' : d ≤ 24) (hg : goodB d v = true) :
    lowV d v + pw d = ((v.toNat * 2 ^ (d.toNat - (pathLen v - 1)) : Nat) : Int) ∧ highV d v + pw d + 1 = (((v.toNat + 1) * 2 ^ (d.toNat - (pathLen v - 1)) : Nat) : Int) := by
  have ⟨v1, v2⟩ := good_nat d v h h' hg
  obtain ⟨L1, L2, L3, L4, L5⟩ := low_is d v h h' hg
  have e : ((v.toNat : Nat) : Int) = v := by omega
  have h1 : lowV d v = v * widV d v - pw d := lowV_good hg
  have h2 := highV_good hg
  have h3 : widV d v = ((2 ^ (d.toNat - (pathLen v - 1)) : Nat) : Int) := L4
  refine ⟨?_, ?_⟩
  · rw [h1, h3, Int.natCast_mul, e]; omega
  · rw [h2, h1, h3, Nat.add_mul, Int.natCast_add, Int.natCast_mul, e]; omega

/-- of two nodes, the first one not deeper: it lies above the second one, and its span holds that one's; or no value lies below both -/
theorem apart_one (d v u : Int) (h : 1 ≤ d) (h' : d ≤ 24) (hv : goodB d v = true) (hu : goodB d u = true) (hle : pathLen v ≤ pathLen u) :
    (aboveB d v u = true ∧ lowV d v ≤ lowV d u ∧ highV d u ≤ highV d v) ∨ (aboveB d v u = false ∧ (highV d v < lowV d u ∨ highV d u < lowV d v)) := by
  have ⟨v1, v2⟩ := good_nat d v h h' hv
  have ⟨u1, u2⟩ := good_nat d u h h' hu
  obtain ⟨L1, L2, _, _, _⟩ := low_is d v h h' hv
  obtain ⟨K1, K2, _, _, _⟩ := low_is d u h h' hu
  obtain ⟨a1, a2⟩ := span_nat d v h h' hv
  obtain ⟨b1, b2⟩ := span_nat d u h h' hu
  have hiff := above_iff d v u h h' hv hu
  have hd : (u / 2 ^ (pathLen u - pathLen v)) = ((u.toNat / 2 ^ (pathLen u - pathLen v) : Nat) : Int) := by
    have e : (2 : Int) ^ (pathLen u - pathLen v) = ((2 ^ (pathLen u - pathLen v) : Nat) : Int) := by simp
    rw [e, Int.natCast_ediv]
    rw [show ((u.toNat : Nat) : Int) = u from by omega]
  have ew : 2 ^ (d.toNat - (pathLen v - 1)) = 2 ^ (pathLen u - pathLen v) * 2 ^ (d.toNat - (pathLen u - 1)) := by
    rw [← Nat.pow_add]; congr 1; omega
  rw [ew] at a1 a2
  rw [hd] at hiff
  have hT : 0 < 2 ^ (pathLen u - pathLen v) := Nat.two_pow_pos _
  have hW : 0 < 2 ^ (d.toNat - (pathLen u - 1)) := Nat.two_pow_pos _
  generalize 2 ^ (pathLen u - pathLen v) = T at *
  generalize 2 ^ (d.toNat - (pathLen u - 1)) = W at *
  have q1 : u.toNat / T * T ≤ u.toNat := Nat.div_mul_le_self _ _
  have q2 : u.toNat < (u.toNat / T + 1) * T := by
    rw [Nat.mul_comm]; exact Nat.lt_mul_div_succ _ hT
  generalize u.toNat / T = q at *
  have m1 : ∀ x y : Nat, x ≤ y → x * W ≤ y * W := fun x y hxy => Nat.mul_le_mul_right _ hxy
  rcases Nat.lt_trichotomy v.toNat q with hlt | heq | hgt
  · right
    have : aboveB d v u = false := by
      refine Bool.eq_false_iff.2 fun ht => ?_
      have := (hiff.1 ht).2; omega
    refine ⟨this, Or.inl ?_⟩
    have c1 : (v.toNat + 1) * T ≤ q * T := Nat.mul_le_mul_right _ hlt
    have c2 := m1 ((v.toNat + 1) * T) u.toNat (by omega)
    rw [Nat.mul_assoc] at c2
    omega
  · left
    refine ⟨hiff.2 ⟨hle, by omega⟩, ?_, ?_⟩
    · have c2 := m1 (v.toNat * T) u.toNat (by rw [heq]; exact q1)
      rw [Nat.mul_assoc] at c2
      omega
    · have c2 := m1 (u.toNat + 1) ((v.toNat + 1) * T) (by rw [heq]; exact q2)
      rw [Nat.mul_assoc] at c2
      omega
  · right
    have : aboveB d v u = false := by
      refine Bool.eq_false_iff.2 fun ht => ?_
      have := (hiff.1 ht).2; omega
    refine ⟨this, Or.inr ?_⟩
    have c1 : (q + 1) * T ≤ v.toNat * T := Nat.mul_le_mul_right _ hgt
    have c2 := m1 (u.toNat + 1) (v.toNat * T) (by omega)
    rw [Nat.mul_assoc] at c2
    omega

def apartB (d v u : Int) : Bool := decide (highV d v < lowV d u) || decide (highV d u < lowV d v)
theorem low_high (d v : Int) (h : 1 ≤ d) (h' : d ≤ 24) (hg : goodB d v = true) : lowV d v ≤ highV d v := by
  have ⟨b1, _, _, _⟩ := range_bd d v h h' hg
  rw [highV_good hg]; omega

theorem apart_cases (d v u : Int) (h : 1 ≤ d) (h' : d ≤ 24) (hv : goodB d v = true) (hu : goodB d u = true) :
    (aboveB d v u = true ∧ apartB d v u = false) ∨ (aboveB d v u = false ∧ aboveB d u v = true ∧ apartB d v u = false) ∨ (aboveB d v u = false ∧ aboveB d u v = false ∧ apartB d v u = true) := by
  have l1 := low_high d v h h' hv
  have l2 := low_high d u h h' hu
  have hno : ∀ x y, goodB d x = true → goodB d y = true → pathLen y < pathLen x → aboveB d x y = false := fun x y hx hy hlt => by
    refine Bool.eq_false_iff.2 fun ht => ?_
    have := ((above_iff d x y h h' hx hy).1 ht).1; omega
  unfold apartB
  rcases Nat.le_total (pathLen v) (pathLen u) with hle | hle
  · rcases apart_one d v u h h' hv hu hle with ⟨a, b, c⟩ | ⟨a, b⟩
    · left; exact ⟨a, by simp; omega⟩
    · by_cases he : aboveB d u v = true
      · have he2 := (above_iff d u v h h' hu hv).1 he
        rcases apart_one d u v h h' hu hv he2.1 with ⟨a', b', c'⟩ | ⟨a', b'⟩
        · right; left; exact ⟨a, he, by simp; omega⟩
        · rw [he] at a'; cases a'
      · right; right; exact ⟨a, by simpa using he, by simp; omega⟩
  · rcases apart_one d u v h h' hu hv hle with ⟨a, b, c⟩ | ⟨a, b⟩
    · by_cases he : aboveB d v u = true
      · left; exact ⟨he, by simp; omega⟩
      · right; left; exact ⟨by simpa using he, a, by simp; omega⟩
    · by_cases he : aboveB d v u = true
      · have he2 := (above_iff d v u h h' hv hu).1 he
        rcases apart_one d v u h h' hv hu he2.1 with ⟨a', b', c'⟩ | ⟨a', b'⟩
        · left; exact ⟨he, by simp; omega⟩
        · rw [he] at a'; cases a'
      · right; right; exact ⟨by simpa using he, a, by simp; omega⟩

/-- of two nodes with one greatest value the deeper one is the greater number -/
theorem deeper (d v u : Int) (h : 1 ≤ d) (h' : d ≤ 24) (hv : goodB d v = true) (hu : goodB d u = true) (he : highV d v = highV d u) (hlt : pathLen u < pathLen v) : u < v := by
  have ⟨v1, v2⟩ := good_nat d v h h' hv
  have ⟨u1, u2⟩ := good_nat d u h h' hu
  obtain ⟨L1, L2, _, _, _⟩ := low_is d v h h' hv
  obtain ⟨K1, K2, _, _, _⟩ := low_is d u h h' hu
  obtain ⟨_, a2⟩ := span_nat d v h h' hv
  obtain ⟨_, b2⟩ := span_nat d u h h' hu
  have ew : 2 ^ (d.toNat - (pathLen u - 1)) = 2 ^ (pathLen v - pathLen u) * 2 ^ (d.toNat - (pathLen v - 1)) := by
    rw [← Nat.pow_add]; congr 1; omega
  rw [ew] at b2
  have hT : 2 ^ 1 ≤ 2 ^ (pathLen v - pathLen u) := Nat.pow_le_pow_right (by decide) (by omega)
  have hW : 0 < 2 ^ (d.toNat - (pathLen v - 1)) := Nat.two_pow_pos _
  generalize 2 ^ (pathLen v - pathLen u) = T at *
  generalize 2 ^ (d.toNat - (pathLen v - 1)) = W at *
  have e : (v.toNat + 1) * W = ((u.toNat + 1) * T) * W := by rw [Nat.mul_assoc]; omega
  have e2 := Nat.eq_of_mul_eq_mul_right hW e
  have e3 : (u.toNat + 1) * 2 ≤ (u.toNat + 1) * T := Nat.mul_le_mul_left _ (by omega)
  omega

theorem refBefore_before (d v u : Int) (h : 1 ≤ d) (h' : d ≤ 24) (hv : goodB d v = true) (hu : goodB d u = true) : refBeforeB d v u = beforeB d v u := by
  unfold refBeforeB beforeB
  by_cases he : highV d v = highV d u
  · rw [if_pos he, decide_eq_false (show ¬ highV d v < highV d u by omega), beq_iff_eq.2 he]
    simp only [Bool.false_or, Bool.true_and]
    rcases Nat.lt_trichotomy (pathLen u) (pathLen v) with hlt | heq | hgt
    · have := deeper d v u h h' hv hu he hlt
      simp [hlt, this]
    · have ⟨v1, v2⟩ := good_nat d v h h' hv
      have ⟨u1, u2⟩ := good_nat d u h h' hu
      obtain ⟨_, a2⟩ := span_nat d v h h' hv
      obtain ⟨_, b2⟩ := span_nat d u h h' hu
      rw [heq] at b2
      have hW : 0 < 2 ^ (d.toNat - (pathLen v - 1)) := Nat.two_pow_pos _
      have e : (v.toNat + 1) * 2 ^ (d.toNat - (pathLen v - 1)) = (u.toNat + 1) * 2 ^ (d.toNat - (pathLen v - 1)) := by omega
      have e2 := Nat.eq_of_mul_eq_mul_right hW e
      have e3 : ¬ u < v := by omega
      rw [heq]; simp; omega
    · have := deeper d u v h h' hu hv he.symm hgt
      have e3 : ¬ u < v := by omega
      have e4 : ¬ pathLen u < pathLen v := by omega
      simp [e3, e4]
  · rw [if_neg he, beq_eq_false_iff_ne.2 he]; simp

theorem before_cases (d v u : Int) : (beforeB d v u = true ∧ beforeB d u v = false ∧ (v != u) = true) ∨ (beforeB d v u = false ∧ beforeB d u v = true ∧ (v != u) = true) ∨ (beforeB d v u = false ∧ beforeB d u v = false ∧ (v != u) = false) := by
  unfold beforeB
  rcases Int.lt_trichotomy (highV d v) (highV d u) with hlt | heq | hgt
  · left
    have hne : v ≠ u := by rintro rfl; omega
    simp [hne]; omega
  · rcases Int.lt_trichotomy u v with h1 | h1 | h1
    · left
      have hne : v ≠ u := by omega
      simp [hne]; omega
    · right; right
      simp [h1]
    · right; left
      have hne : v ≠ u := by omega
      simp [hne]; omega
  · right; left
    have hne : v ≠ u := by rintro rfl; omega
    simp [hne]; omega

theorem before_trans (d v u x : Int) (h1 : beforeB d v u = true) (h2 : beforeB d u x = true) : beforeB d v x = true := by
  unfold beforeB at *
  simp at *; omega

end Go.Proofs.Ytdmihnfhfpadkaa
