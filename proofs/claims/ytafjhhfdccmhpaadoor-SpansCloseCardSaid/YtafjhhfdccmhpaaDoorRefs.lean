/-
  Contracts of Half, Index and Range of the reference of layer 12, and the plain laws on spans that they lean on; the world is as it was. Conditions: the digits lie from 1 to 4, the magnitude from 1 to 2^63.
-/
import Derived.Test.YtafjhhfdccmhpaaDoorFns
namespace Go.Proofs.YtafjhhfdccmhpaaDoor
open Go.RowKit Go.Lib

theorem pow_nn (k : Nat) : (1 : Int) ≤ 2 ^ k := by rw [pow_cast]; have := Nat.one_le_two_pow (n := k); omega
theorem half_pow (v : Int) (j : Nat) : v / 2 ^ j / 2 = v / 2 ^ (j + 1) := by
  rw [Int.pow_succ, Int.ediv_ediv_of_nonneg (Int.pow_nonneg (by decide))]

/-- cut by fewer bits than it is to be cut by, a magnitude is not less than twice the power; by so many it is -/
theorem cut_more (L : Nat) (m : Int) (j : Nat) (h0 : 1 ≤ m) (h1 : m ≤ 9223372036854775808) (hL : L ≤ 14) (hj : j ≤ sh L m) : decide (2 * 2 ^ L ≤ m / 2 ^ j) = decide (j < sh L m) := by
  obtain ⟨s1, s2, s3, s4⟩ := q_bd L m h0 h1 hL
  by_cases hlt : j < sh L m
  · have key : ∀ t : Nat, m / 2 ^ j / 2 ^ t = m / 2 ^ (j + t) := fun t => by
      rw [Int.pow_add, Int.ediv_ediv_of_nonneg (Int.pow_nonneg (by decide))]
    have e1 : m / 2 ^ j / 2 ^ (sh L m - 1 - j) / 2 = qF L m := by
      rw [key, half_pow]; unfold qF; rw [show j + (sh L m - 1 - j) + 1 = sh L m from by omega]
    have hn : 0 ≤ m / 2 ^ j := Int.ediv_nonneg (by omega) (Int.pow_nonneg (by decide))
    have e2 : m / 2 ^ j / 2 ^ (sh L m - 1 - j) ≤ m / 2 ^ j := Int.ediv_le_self _ hn
    have := s4 (by omega)
    rw [decide_eq_true hlt]; exact decide_eq_true (by omega)
  · obtain rfl : j = sh L m := by omega
    rw [decide_eq_false hlt]; exact decide_eq_false (by unfold qF at s3; omega)

theorem half_any (d : Nat) (w : World) (h1 : 1 ≤ d) (h2 : d ≤ 4) :
    Calls Tryd.prog 21 #[.int .i64 d] w fun e w' => e = .returned (.int .u64 (2 ^ logD d)) ∧ w = w' := by
  have ⟨g1, g2⟩ := logD_le d
  go_enter Tryd.func21, Tryd.ntmps21
  go_wp2
  go_loop [3, 4] (fun t i => ∃ k : Nat, k ≤ d ∧ i = .int .i64 k ∧ t = .int .u64 (ten k)) (fun _ i => d - (RowKit.intOf i).toNat)
  case atStart => exact ⟨0, Nat.zero_le _, rfl, rfl⟩
  case round =>
    obtain ⟨k, hk, rfl, rfl⟩ := hrel
    have t1 : 1 ≤ ten k ∧ ten k ≤ 10000 := by
      rcases (show k = 0 ∨ k = 1 ∨ k = 2 ∨ k = 3 ∨ k = 4 by omega) with rfl | rfl | rfl | rfl | rfl <;> decide
    obtain ⟨t2, t3⟩ := t1
    by_cases hlt : k < d
    · have HS := Lib.hid (show ten k * 10 = ten (k + 1) by unfold ten; rw [Int.pow_succ])
      go_wp2
      go_round
      case rel => exact ⟨k + 1, by omega, by go_num, by rw [HS.out]⟩
      case measure => simp [RowKit.intOf]; omega
    · obtain rfl : k = d := by omega
      go_wp2
      go_loop [5] (fun t => ∃ j : Nat, j ≤ logD k ∧ t = .int .u64 (2 ^ j)) (fun t => 32768 - (RowKit.intOf t).toNat)
      case atStart => exact ⟨0, Nat.zero_le _, rfl⟩
      case round =>
        obtain ⟨j, hj, rfl⟩ := hrel
        have hb : (1 : Int) ≤ 2 ^ j := pow_nn j
        have hb2 : (2 : Int) ^ j ≤ 16384 := by
          have : 2 ^ j ≤ 2 ^ 14 := Nat.pow_le_pow_right (by decide) (by omega)
          rw [pow_cast]; omega
        have tl := ten_log k j h1 h2 hj
        by_cases hlt2 : j < logD k
        · rw [decide_eq_true hlt2] at tl
          have HS := Lib.hid (show 2 * (2 : Int) ^ j = 2 ^ (j + 1) by rw [Int.pow_succ]; omega)
          go_wp2
          go_round
          case rel => exact ⟨j + 1, by omega, by rw [HS.out]⟩
          case measure => simp [RowKit.intOf]; omega
        · rw [decide_eq_false hlt2] at tl
          obtain rfl : j = logD k := by omega
          go_wp2
          go_ret
          exact ⟨rfl, rfl⟩

theorem refindex_any (d : Nat) (m : Int) (w : World) (h1 : 1 ≤ d) (h2 : d ≤ 4) (h3 : 1 ≤ m) (h4 : m ≤ 9223372036854775808) :
    Calls Tryd.prog 13 #[.int .i64 d, .int .u64 m] w fun e w' => e = .returned (.int .i64 (idx (logD d) m)) ∧ w = w' := by
  have ⟨g1, g2⟩ := logD_le d
  obtain ⟨L, hLd⟩ : ∃ L, L = logD d := ⟨_, rfl⟩
  have HL := Lib.hid hLd
  rw [← hLd] at g1 g2
  obtain ⟨s1, s2, s3, s4⟩ := q_bd L m h3 h4 g2
  have ⟨p1, p2⟩ := pL_bd L g2
  have Fin := Lib.hid (show wrap64 (IntKind.u64.wrap (IntKind.u64.wrap ((sh L m : Int) * 2 ^ L) + m / 2 ^ sh L m)) = idx (logD d) m by
    have ⟨k1, k2⟩ := kF_bd L (sh L m) g2 (by omega)
    rw [← hLd]
    show wrap64 (IntKind.u64.wrap (IntKind.u64.wrap (kF L (sh L m)) + qF L m)) = kF L (sh L m) + qF L m
    simp only [IntKind.wrap_u64]; unfold wrap64; omega)
  clear hLd s4
  go_enter Tryd.func13, Tryd.ntmps13
  go_wp2_with fail
  refine (half_any d _ h1 h2).mono ?_
  rintro e w' ⟨rfl, rfl⟩
  rw [← HL.out]
  go_wp2_with fail
  go_loop [1, 6] (fun x k => ∃ j : Nat, j ≤ sh L m ∧ k = .int .u64 j ∧ x = .int .u64 (m / 2 ^ j)) (fun _ k => sh L m - (RowKit.intOf k).toNat)
  case atStart => exact ⟨0, Nat.zero_le _, rfl, by simp⟩
  case round =>
    obtain ⟨j, hj, rfl, rfl⟩ := hrel
    have tl := cut_more L m j h3 h4 g2 hj
    have hn : 0 ≤ m / 2 ^ j := Int.ediv_nonneg (by omega) (Int.pow_nonneg (by decide))
    have hn2 : m / 2 ^ j ≤ m := Int.ediv_le_self _ (by omega)
    by_cases hlt : j < sh L m
    · rw [decide_eq_true hlt] at tl
      have HS := Lib.hid (half_pow m j)
      go_wp2
      go_round
      case rel => exact ⟨j + 1, by omega, by go_num, by rw [HS.out]⟩
      case measure => simp [RowKit.intOf]; omega
    · rw [decide_eq_false hlt] at tl
      obtain rfl : j = sh L m := by omega
      go_wp2
      go_ret
      exact ⟨ret_int Fin.out, rfl⟩

/-- a magnitude's index is a span's: cut by as many bits, as much is left -/
theorem idx_span (L : Nat) (m : Int) (h0 : 1 ≤ m) (h1 : m ≤ 9223372036854775808) (hL : L ≤ 14) : spanB L (idx L m) = true ∧ cutF L (idx L m) = sh L m ∧ remF L (idx L m) = qF L m := by
  obtain ⟨s1, s2, s3, s4⟩ := q_bd L m h0 h1 hL
  have ⟨p1, p2⟩ := pL_bd L hL
  have hp : (0 : Int) < 2 ^ L := by omega
  have hcut : cutF L (idx L m) = sh L m := by
    unfold cutF idx kF
    by_cases hz : sh L m = 0
    · rw [hz]
      have e : ((0 : Nat) : Int) * 2 ^ L + qF L m = qF L m := by simp
      rw [e]
      have : qF L m / 2 ^ L < 2 := (Int.ediv_lt_iff_lt_mul hp).2 (by omega)
      omega
    · have h4 := s4 hz
      have e : ((sh L m : Int) * 2 ^ L + qF L m) / 2 ^ L = sh L m + qF L m / 2 ^ L := by
        rw [Int.add_comm, Int.add_mul_ediv_right _ _ (by omega)]; omega
      rw [e]
      have d1 : qF L m / 2 ^ L < 2 := (Int.ediv_lt_iff_lt_mul hp).2 (by omega)
      have d2 : 1 ≤ qF L m / 2 ^ L := (Int.le_ediv_iff_mul_le hp).2 (by omega)
      omega
  refine ⟨?_, hcut, by unfold remF; rw [hcut]; unfold idx; omega⟩
  have i1 := (idx_bd L m h0 h1 hL).1
  have i2 : idx L m ≤ lastI L := by
    rw [last_is L hL]
    unfold idx kF
    by_cases hz : sh L m = 63 - L
    · have hq : qF L m ≤ 2 ^ L := by
        unfold qF
        rw [hz]
        have e : (9223372036854775808 : Int) = 2 ^ L * 2 ^ (63 - L) := by
          rw [← Int.pow_add, show L + (63 - L) = 63 from by omega]; rfl
        have := Int.ediv_le_ediv (show (0 : Int) < 2 ^ (63 - L) by have := pow_nn (63 - L); omega) h1
        rw [e, Int.mul_ediv_cancel _ (by have := pow_nn (63 - L); omega)] at this
        exact this
      rw [hz, show ((63 - L : Nat) : Int) = 63 - (L : Int) from by omega, show (64 - (L : Int)) = (63 - L) + 1 from by omega, Int.add_mul, Int.one_mul]
      omega
    · have h5 : (sh L m : Int) + 2 ≤ 64 - L := by omega
      have := Int.mul_le_mul_of_nonneg_right h5 (show (0 : Int) ≤ 2 ^ L by omega)
      rw [Int.add_mul] at this
      omega
  unfold spanB; simp [i1, i2]

/-- the least and the greatest magnitude of a magnitude's span -/
theorem idx_low (L : Nat) (m : Int) (h0 : 1 ≤ m) (h1 : m ≤ 9223372036854775808) (hL : L ≤ 14) :
    lowS L (idx L m) = qF L m * 2 ^ sh L m ∧ highS L (idx L m) = min (qF L m * 2 ^ sh L m + (2 ^ sh L m - 1)) 9223372036854775808 ∧ qF L m * 2 ^ sh L m ≤ m ∧ m < qF L m * 2 ^ sh L m + 2 ^ sh L m := by
  obtain ⟨a, b, c⟩ := idx_span L m h0 h1 hL
  have e1 : lowS L (idx L m) = qF L m * 2 ^ sh L m := by unfold lowS; rw [a, b, c]; rfl
  have hp := pow_nn (sh L m)
  have d1 := Int.mul_ediv_add_emod m (2 ^ sh L m)
  have d2 := Int.emod_nonneg m (show (2 : Int) ^ sh L m ≠ 0 by omega)
  have d3 := Int.emod_lt_of_pos m (show (0 : Int) < 2 ^ sh L m by omega)
  have e2 : 2 ^ sh L m * (m / 2 ^ sh L m) = qF L m * 2 ^ sh L m := Int.mul_comm _ _
  refine ⟨e1, ?_, by omega, by omega⟩
  unfold highS; rw [a, e1, b]; rfl
/-- .. below 2^63 the greatest one lies below it, too -/
theorem idx_high (L : Nat) (m : Int) (h0 : 1 ≤ m) (h1 : m ≤ 9223372036854775808) (hL : L ≤ 14) (hne : qF L m * 2 ^ sh L m ≠ 9223372036854775808) : qF L m * 2 ^ sh L m + 2 ^ sh L m ≤ 9223372036854775808 := by
  obtain ⟨s1, _, _, _⟩ := q_bd L m h0 h1 hL
  obtain ⟨_, _, l1, _⟩ := idx_low L m h0 h1 hL
  have hp := pow_nn (sh L m)
  have e : (9223372036854775808 : Int) = 2 ^ (63 - sh L m) * 2 ^ sh L m := by
    rw [← Int.pow_add, show 63 - sh L m + sh L m = 63 from by omega]; rfl
  have l2 : qF L m * 2 ^ sh L m ≤ 2 ^ (63 - sh L m) * 2 ^ sh L m := by omega
  rw [e] at hne ⊢
  have hlt : qF L m < 2 ^ (63 - sh L m) := by
    refine Int.lt_of_not_ge fun hge => ?_
    have := Int.mul_le_mul_of_nonneg_right hge (show (0 : Int) ≤ 2 ^ sh L m by omega)
    omega
  have := Int.mul_le_mul_of_nonneg_right (show qF L m + 1 ≤ 2 ^ (63 - sh L m) by omega) (show (0 : Int) ≤ 2 ^ sh L m by omega)
  rw [Int.add_mul, Int.one_mul] at this
  exact this

theorem refrange_any (d : Nat) (m : Int) (w : World) (h1 : 1 ≤ d) (h2 : d ≤ 4) (h3 : 1 ≤ m) (h4 : m ≤ 9223372036854775808) :
    Calls Tryd.prog 12 #[.int .i64 d, .int .u64 m] w fun e w' => e = .returned (.tuple #[.int .u64 (lowS (logD d) (idx (logD d) m)), .int .u64 (highS (logD d) (idx (logD d) m))]) ∧ w = w' := by
  have ⟨g1, g2⟩ := logD_le d
  obtain ⟨L, hLd⟩ : ∃ L, L = logD d := ⟨_, rfl⟩
  have HL := Lib.hid hLd
  rw [← hLd] at g1 g2 ⊢
  clear hLd
  obtain ⟨s1, s2, s3, s4⟩ := q_bd L m h3 h4 g2
  have ⟨p1, p2⟩ := pL_bd L g2
  obtain ⟨l1, l2, l3, l4⟩ := idx_low L m h3 h4 g2
  have HH := idx_high L m h3 h4 g2
  have hs := pow_nn (sh L m)
  have hs2 : (2 : Int) ^ sh L m ≤ 9223372036854775808 := by
    have : 2 ^ sh L m ≤ 2 ^ 63 := Nat.pow_le_pow_right (by decide) (by omega)
    rw [pow_cast]; omega
  have F1 := Lib.hid l1
  have F2 := Lib.hid l2
  clear l1 l2 s4
  go_enter Tryd.func12, Tryd.ntmps12
  go_wp2_with fail
  refine (half_any d _ h1 h2).mono ?_
  rintro e w' ⟨rfl, rfl⟩
  rw [← HL.out]
  go_wp2_with fail
  go_loop [7] (fun x => ∃ j : Nat, j ≤ sh L m ∧ x = .int .u64 (2 ^ j)) (fun x => (9223372036854775809 - RowKit.intOf x).toNat)
  case atStart => exact ⟨0, Nat.zero_le _, rfl⟩
  case round =>
    obtain ⟨j, hj, rfl⟩ := hrel
    have tl := cut_more L m j h3 h4 g2 hj
    have hn : 0 ≤ m / 2 ^ j := Int.ediv_nonneg (by omega) (Int.pow_nonneg (by decide))
    have hn2 : m / 2 ^ j ≤ m := Int.ediv_le_self _ (by omega)
    have hb := pow_nn j
    have hb2 : (2 : Int) ^ j ≤ 2 ^ sh L m := by
      have : 2 ^ j ≤ 2 ^ sh L m := Nat.pow_le_pow_right (by decide) hj
      rw [pow_cast, pow_cast]; omega
    by_cases hlt : j < sh L m
    · rw [decide_eq_true hlt] at tl
      have hb3 : 2 * (2 : Int) ^ j ≤ 9223372036854775808 := by
        have : 2 ^ (j + 1) ≤ 2 ^ 63 := Nat.pow_le_pow_right (by decide) (by omega)
        rw [Nat.pow_succ] at this
        rw [pow_cast]; omega
      have HS := Lib.hid (show 2 * (2 : Int) ^ j = 2 ^ (j + 1) by rw [Int.pow_succ]; omega)
      go_wp2
      go_round
      case rel => exact ⟨j + 1, by omega, by rw [HS.out]⟩
      case measure => simp [RowKit.intOf]; omega
    · rw [decide_eq_false hlt] at tl
      obtain rfl : j = sh L m := by omega
      have f1 : IntKind.u64.wrap (m / 2 ^ sh L m * 2 ^ sh L m) = qF L m * 2 ^ sh L m := by
        show IntKind.u64.wrap (qF L m * 2 ^ sh L m) = _
        rw [IntKind.wrap_u64]
        have := Int.mul_nonneg (show 0 ≤ qF L m by omega) (show (0 : Int) ≤ 2 ^ sh L m by omega)
        omega
      by_cases he : qF L m * 2 ^ sh L m = 9223372036854775808
      · have hz : (qF L m * 2 ^ sh L m == 9223372036854775808) = true := beq_iff_eq.2 he
        have G1 := Lib.hid (show qF L m * 2 ^ sh L m = lowS L (idx L m) from F1.out.symm)
        have G2 := Lib.hid (show qF L m * 2 ^ sh L m = highS L (idx L m) by rw [F2.out]; omega)
        clear he l3 l4 HH
        go_wp2
        go_ret2
        exact ⟨by rw [← G1.out, ← G2.out]; rfl, rfl⟩
      · have hz : (qF L m * 2 ^ sh L m == 9223372036854775808) = false := beq_eq_false_iff_ne.2 he
        have h5 := HH he
        have h6 := Int.mul_nonneg (show 0 ≤ qF L m by omega) (show (0 : Int) ≤ 2 ^ sh L m by omega)
        have G1 := Lib.hid (show qF L m * 2 ^ sh L m = lowS L (idx L m) from F1.out.symm)
        have G2 := Lib.hid (show qF L m * 2 ^ sh L m + 2 ^ sh L m - 1 = highS L (idx L m) by rw [F2.out]; omega)
        clear he HH
        go_wp2
        go_ret2
        exact ⟨by rw [← G1.out, ← G2.out]; rfl, rfl⟩

end Go.Proofs.YtafjhhfdccmhpaaDoor
