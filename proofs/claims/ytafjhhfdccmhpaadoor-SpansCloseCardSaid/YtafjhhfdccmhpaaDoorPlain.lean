/-
  Plain laws on spans, with no program in sight: side by side, finer, close. Conditions: the power's exponent is at most 14, the magnitude lies from 1 to 2^63.
-/
import Derived.Test.YtafjhhfdccmhpaaDoorAlive
namespace Go.Proofs.YtafjhhfdccmhpaaDoor
open Go.RowKit Go.Lib

/-- the least and the greatest magnitude of a span, once more: low = q 2^k, and high = low + 2^k - 1 but for 2^63 -/
theorem span_form (L : Nat) (m : Int) (h0 : 1 ≤ m) (h1 : m ≤ 9223372036854775808) (hL : L ≤ 14) :
    lowS L (idx L m) = qF L m * 2 ^ sh L m ∧ lowS L (idx L m) ≤ m ∧ m ≤ highS L (idx L m) ∧
    (lowS L (idx L m) = 9223372036854775808 ∧ highS L (idx L m) = 9223372036854775808 ∨ highS L (idx L m) = qF L m * 2 ^ sh L m + 2 ^ sh L m - 1 ∧ highS L (idx L m) < 9223372036854775808) := by
  obtain ⟨l1, l2, l3, l4⟩ := idx_low L m h0 h1 hL
  have hp := pow_nn (sh L m)
  by_cases he : qF L m * 2 ^ sh L m = 9223372036854775808
  · exact ⟨l1, by omega, by omega, Or.inl ⟨by omega, by omega⟩⟩
  · have := idx_high L m h0 h1 hL he
    exact ⟨l1, by omega, by omega, Or.inr ⟨by omega, by omega⟩⟩

theorem lenV_mono (m n : Int) (h0 : 1 ≤ m) (h : m ≤ n) (h1 : n ≤ 9223372036854775808) : lenV m ≤ lenV n := by
  have b2 := bitLen_hi n.toNat (by rw [e64]; omega)
  exact Lib.bitLen_le m.toNat (lenV n) (lenV_le n (by omega)) (Nat.lt_of_le_of_lt (by omega) b2)

theorem sh_mono (L : Nat) (m n : Int) (h0 : 1 ≤ m) (h : m ≤ n) (h1 : n ≤ 9223372036854775808) : sh L m ≤ sh L n := by
  have hl := lenV_mono m n h0 h h1
  unfold sh; omega
/-- a greater magnitude has no lesser index -/
theorem idx_mono (L : Nat) (m n : Int) (h0 : 1 ≤ m) (h : m ≤ n) (h1 : n ≤ 9223372036854775808) (hL : L ≤ 14) : idx L m ≤ idx L n := by
  obtain ⟨s1, s2, s3, s4⟩ := q_bd L m h0 (by omega) hL
  obtain ⟨t1, t2, t3, t4⟩ := q_bd L n (by omega) h1 hL
  have hk := sh_mono L m n h0 h h1
  have ⟨p1, p2⟩ := pL_bd L hL
  unfold idx kF
  by_cases he : sh L m = sh L n
  · have hq : qF L m ≤ qF L n := by
      unfold qF; rw [he]
      exact Int.ediv_le_ediv (by have := pow_nn (sh L n); omega) h
    rw [he]; omega
  · have h5 : (sh L m : Int) + 1 ≤ sh L n := by omega
    have := Int.mul_le_mul_of_nonneg_right h5 (show (0 : Int) ≤ 2 ^ L by omega)
    rw [Int.add_mul, Int.one_mul] at this
    have := t4 (by omega)
    omega

/-- behind a span's greatest magnitude the next one begins -/
theorem idx_next (L : Nat) (m : Int) (h0 : 1 ≤ m) (h1 : m ≤ 9223372036854775808) (hL : L ≤ 14) (hh : highS L (idx L m) + 1 ≤ 9223372036854775808) :
    idx L (highS L (idx L m) + 1) = idx L m + 1 ∧ lowS L (idx L m + 1) = highS L (idx L m) + 1 := by
  obtain ⟨f1, f2, f3, f4⟩ := span_form L m h0 h1 hL
  obtain ⟨s1, s2, s3, s4⟩ := q_bd L m h0 h1 hL
  have ⟨p1, p2⟩ := pL_bd L hL
  have hp := pow_nn (sh L m)
  rcases f4 with ⟨_, f4⟩ | ⟨f4, f5⟩
  · omega
  have hn : highS L (idx L m) + 1 = (qF L m + 1) * 2 ^ sh L m := by rw [f4, Int.add_mul, Int.one_mul]; omega
  obtain ⟨t1, t2, t3, t4⟩ := q_bd L (highS L (idx L m) + 1) (by omega) hh hL
  obtain ⟨l1, _, _, _⟩ := idx_low L (highS L (idx L m) + 1) (by omega) hh hL
  have hk := sh_mono L m (highS L (idx L m) + 1) h0 (by omega) hh
  rw [hn] at t2 t3 t4 l1 hk ⊢
  obtain ⟨j, hj⟩ : ∃ j, sh L ((qF L m + 1) * 2 ^ sh L m) = sh L m + j := ⟨_, (Nat.add_sub_cancel' hk).symm⟩
  have hq : qF L ((qF L m + 1) * 2 ^ sh L m) = (qF L m + 1) / 2 ^ j := by
    have e : qF L ((qF L m + 1) * 2 ^ sh L m) = (qF L m + 1) * 2 ^ sh L m / 2 ^ sh L ((qF L m + 1) * 2 ^ sh L m) := rfl
    rw [e, hj, Int.pow_add, ← Int.ediv_ediv_of_nonneg (Int.pow_nonneg (by decide)), Int.mul_ediv_cancel _ (by omega)]
  rw [hq] at t2 t3 t4 l1
  have hi : idx L ((qF L m + 1) * 2 ^ sh L m) = ((sh L m + j : Nat) : Int) * 2 ^ L + (qF L m + 1) / 2 ^ j := by
    have e : idx L ((qF L m + 1) * 2 ^ sh L m) = (sh L ((qF L m + 1) * 2 ^ sh L m) : Int) * 2 ^ L + qF L ((qF L m + 1) * 2 ^ sh L m) := rfl
    rw [e, hq, hj]
  have hi0 : idx L m = (sh L m : Int) * 2 ^ L + qF L m := rfl
  rw [hj] at l1
  rcases (show j = 0 ∨ j = 1 ∨ 2 ≤ j by omega) with rfl | rfl | h2
  · have e1 : (qF L m + 1) / 2 ^ 0 = qF L m + 1 := by simp
    rw [e1] at hi l1
    have e2 : idx L ((qF L m + 1) * 2 ^ sh L m) = idx L m + 1 := by rw [hi, hi0, Nat.add_zero]; omega
    rw [e2] at l1
    exact ⟨e2, l1⟩
  · have h6 := t4 (by omega)
    rw [show (2 : Int) ^ 1 = 2 from rfl] at hi l1 h6
    have e3 : qF L m + 1 = 2 * 2 ^ L := by omega
    have e4 : (qF L m + 1) / 2 = 2 ^ L := by omega
    have e2 : idx L ((qF L m + 1) * 2 ^ sh L m) = idx L m + 1 := by
      rw [hi, hi0, e4, show ((sh L m + 1 : Nat) : Int) = sh L m + 1 from by omega, Int.add_mul, Int.one_mul]
      omega
    rw [e2] at l1
    refine ⟨e2, l1.trans ?_⟩
    rw [e4, Int.pow_succ, e3, Int.mul_comm (2 ^ sh L m) 2, ← Int.mul_assoc, Int.mul_comm (2 ^ L) 2]
  · exfalso
    have h6 := t4 (by omega)
    have h7 : (4 : Int) ≤ 2 ^ j := by
      rw [pow_cast]
      have : 2 ^ 2 ≤ 2 ^ j := Nat.pow_le_pow_right (by decide) h2
      omega
    have e : (qF L m + 1) / 2 ^ j * 2 ^ j ≤ qF L m + 1 := Int.ediv_mul_le _ (by omega)
    have h10 : (qF L m + 1) / 2 ^ j * 4 ≤ (qF L m + 1) / 2 ^ j * 2 ^ j := Int.mul_le_mul_of_nonneg_left h7 (by omega)
    omega

/-- what stands for a magnitude's span lies so close to it -/
theorem rep_close (d : Nat) (m : Int) (hd1 : 1 ≤ d) (hd2 : d ≤ 4) (h0 : 1 ≤ m) (h1 : m ≤ 9223372036854775808) :
    (max (repS (logD d) (idx (logD d) m)) m - min (repS (logD d) (idx (logD d) m)) m) * ten d ≤ m := by
  have ⟨g1, g2⟩ := logD_le d
  have ht : ten d ≤ 2 ^ logD d := by
    have := ten_log d (logD d) hd1 hd2 (Nat.le_refl _)
    rw [decide_eq_false (show ¬ logD d < logD d by omega)] at this
    have := of_decide_eq_false this
    omega
  have ht0 : 1 ≤ ten d := by
    rcases (show d = 1 ∨ d = 2 ∨ d = 3 ∨ d = 4 by omega) with rfl | rfl | rfl | rfl <;> decide
  generalize logD d = L at *
  obtain ⟨f1, f2, f3, f4⟩ := span_form L m h0 h1 g2
  obtain ⟨s1, s2, s3, s4⟩ := q_bd L m h0 h1 g2
  have hp := pow_nn (sh L m)
  have er : repS L (idx L m) = lowS L (idx L m) + (highS L (idx L m) - lowS L (idx L m)) / 2 := rfl
  by_cases hz : sh L m = 0
  · have hone : (2 : Int) ^ sh L m = 1 := by rw [hz]; rfl
    have e1 : max (repS L (idx L m)) m - min (repS L (idx L m)) m = 0 := by omega
    rw [e1]; omega
  · have e2 : (2 : Int) ^ sh L m = 2 * 2 ^ (sh L m - 1) := by
      rw [show sh L m = (sh L m - 1) + 1 from by omega, Int.pow_succ]
      rw [show sh L m - 1 + 1 - 1 = sh L m - 1 from by omega]; omega
    have hp2 := pow_nn (sh L m - 1)
    have e1 : max (repS L (idx L m)) m - min (repS L (idx L m)) m ≤ 2 ^ (sh L m - 1) := by omega
    have e3 : 0 ≤ max (repS L (idx L m)) m - min (repS L (idx L m)) m := by omega
    have h4 := s4 hz
    have a1 := Int.mul_le_mul e1 ht (by omega) (by omega)
    have a2 := Int.mul_le_mul_of_nonneg_right h4 (show (0 : Int) ≤ 2 ^ sh L m by omega)
    have e5 : 2 ^ L * (2 : Int) ^ sh L m = 2 * (2 ^ (sh L m - 1) * 2 ^ L) := by
      rw [e2, Int.mul_comm (2 ^ L), Int.mul_assoc]
    have a3 : 0 ≤ (2 : Int) ^ (sh L m - 1) * 2 ^ L := Int.mul_nonneg (by omega) (by have := pow_nn L; omega)
    omega

/-- with more digits spans are no wider -/
theorem span_finer (L M : Nat) (m : Int) (h0 : 1 ≤ m) (h1 : m ≤ 9223372036854775808) (hLM : L ≤ M) (hM : M ≤ 14) :
    lowS L (idx L m) ≤ lowS M (idx M m) ∧ highS M (idx M m) ≤ highS L (idx L m) := by
  obtain ⟨f1, f2, f3, f4⟩ := span_form L m h0 h1 (by omega)
  obtain ⟨g1, g2, g3, g4⟩ := span_form M m h0 h1 hM
  have hk : sh M m ≤ sh L m := by unfold sh; omega
  obtain ⟨j, hj⟩ : ∃ j, sh L m = sh M m + j := ⟨_, (Nat.add_sub_cancel' hk).symm⟩
  have hpM := pow_nn (sh M m)
  have hpj := pow_nn j
  have hq : qF L m = qF M m / 2 ^ j := by
    unfold qF; rw [hj, Int.pow_add, Int.ediv_ediv_of_nonneg (by omega)]
  have d1 := Int.mul_ediv_add_emod (qF M m) (2 ^ j)
  have d2 := Int.emod_nonneg (qF M m) (show (2 : Int) ^ j ≠ 0 by omega)
  have d3 := Int.emod_lt_of_pos (qF M m) (show (0 : Int) < 2 ^ j by omega)
  have e1 : qF L m * 2 ^ sh L m = (2 ^ j * (qF M m / 2 ^ j)) * 2 ^ sh M m := by
    rw [hq, hj, Int.pow_add, Int.mul_comm (2 ^ sh M m), ← Int.mul_assoc, Int.mul_comm (qF M m / 2 ^ j)]
  have a1 : (2 ^ j * (qF M m / 2 ^ j)) * 2 ^ sh M m ≤ qF M m * 2 ^ sh M m := Int.mul_le_mul_of_nonneg_right (by omega) (by omega)
  have a2 : (qF M m + 1) * 2 ^ sh M m ≤ (2 ^ j * (qF M m / 2 ^ j) + 2 ^ j) * 2 ^ sh M m := Int.mul_le_mul_of_nonneg_right (by omega) (by omega)
  rw [Int.add_mul, Int.one_mul, Int.add_mul] at a2
  have e2 : (2 : Int) ^ j * 2 ^ sh M m = 2 ^ sh L m := by rw [hj, Int.pow_add, Int.mul_comm]
  rw [e2] at a2
  omega

end Go.Proofs.YtafjhhfdccmhpaaDoor
