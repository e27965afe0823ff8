/-
  Contracts of the methods of package spans: what each returns, as plain integers; the world is as it was, but for draws. Conditions: the receiver's cells are known, each number fits its kind.
-/
import Derived.Test.YtafjhhfdccmhpaaDoorLen
import Derived.Lib.Hide
import Derived.BigQuiet
import Derived.Deep.QuietTactic
import Derived.Deep.RegionHeld3
namespace Go.Proofs.YtafjhhfdccmhpaaDoor
open Go.RowKit Go.Lib

theorem ret_int {k : IntKind} {a b : Int} (h : a = b) : Ending.returned (.int k a) = .returned (.int k b) := by rw [h]
theorem ret_bool {a b : Bool} (h : a = b) : Ending.returned (.bool a) = .returned (.bool b) := by rw [h]

/-- the world behind some draws -/
def Drew (w w' : World) : Prop := ∃ n, w' = w.drewN n
theorem Drew.refl (w : World) : Drew w w := ⟨0, rfl⟩
theorem Drew.of (w : World) (n : Nat) : Drew w (w.drewN n) := ⟨n, rfl⟩

theorem e64 : (2 : Nat) ^ 64 = 18446744073709551616 := by decide
def lenV (x : Int) : Nat := Lib.bitLen x.toNat
theorem lenV_le (m : Int) (h1 : m ≤ 18446744073709551615) : lenV m ≤ 64 := Lib.bitLen_le m.toNat 64 (by decide) (by rw [e64]; omega)
theorem log_any (m : Int) (w : World) (h0 : 0 ≤ m) (h1 : m ≤ 18446744073709551615) :
    Calls Tryd.prog 23 #[.int .u64 m] w fun e w' => e = .returned (.tuple #[.int .i64 ((lenV m : Int) - 1), .bool (m != 0)]) ∧ w = w' := by
  have hl : Lib.bitLen m.toNat ≤ 64 := lenV_le m h1
  go_enter Tryd.func23, Tryd.ntmps23
  go_wp2_with (go_at_call 24; refine (len64_any _ _ (by omega) (by omega)).mono ?_; rintro e w' ⟨rfl, rfl⟩)
  go_ret2
  exact ⟨rfl, rfl⟩

/-- by how many bits a magnitude is cut, what is left, the span's index -/
def sh (L : Nat) (m : Int) : Nat := lenV m - 1 - L
def qF (L : Nat) (m : Int) : Int := m / 2 ^ sh L m
def kF (L k : Nat) : Int := (k : Int) * 2 ^ L
def idx (L : Nat) (m : Int) : Int := kF L (sh L m) + qF L m

theorem shift_any (B L : Nat) (m : Int) (w : World) (h0 : 0 ≤ m) (h1 : m ≤ 18446744073709551615) (hL : L ≤ 14) (hc : w.cell? ⟨B, 1, none⟩ = some (.int .i64 L)) :
    Calls Tryd.prog 19 #[.pointer (some ⟨B, 0, none⟩), .int .u64 m] w fun e w' => e = .returned (.int .i64 (sh L m)) ∧ w = w' := by
  have hl := lenV_le m h1
  have HS := Lib.hid (show max ((lenV m : Int) - 1 - L) 0 = (sh L m : Int) by unfold sh; omega)
  go_enter Tryd.func19, Tryd.ntmps19
  go_wp2_with (go_at_call 23; refine (log_any _ _ (by omega) (by omega)).mono ?_; rintro e w' ⟨rfl, rfl⟩)
  go_ret
  exact ⟨ret_int HS.out, rfl⟩

theorem bitLen_pos (x : Nat) (h : 1 ≤ x) (h' : x < 2 ^ 64) : 1 ≤ Lib.bitLen x := by
  have := Lib.bitLen_half x (by omega) h'; omega
theorem bitLen_lo (x : Nat) (h : 1 ≤ x) (h' : x < 2 ^ 64) : 2 ^ (Lib.bitLen x - 1) ≤ x := by
  have hp := bitLen_pos x h h'
  have hl := Lib.bitLen_le x 64 (by decide) h'
  refine Nat.le_of_not_lt fun hlt => ?_
  have := Lib.bitLen_le x (Lib.bitLen x - 1) (by omega) hlt
  omega
theorem bitLen_hi (x : Nat) (h' : x < 2 ^ 64) : x < 2 ^ Lib.bitLen x := by
  refine Nat.lt_of_not_le fun hle => ?_
  have h1 := Lib.bitLen_shift (Lib.bitLen x) x hle h'
  have h2 : 1 ≤ x / 2 ^ Lib.bitLen x := (Nat.one_le_div_iff (Nat.two_pow_pos _)).2 hle
  have h3 := bitLen_pos (x / 2 ^ Lib.bitLen x) h2 (Nat.lt_of_le_of_lt (Nat.div_le_self _ _) h')
  omega
theorem pow_cast (k : Nat) : (2 : Int) ^ k = ((2 ^ k : Nat) : Int) := by simp

/-- what is left of a magnitude has at most so many bits and one -/
theorem q_nat (L : Nat) (m : Int) (h0 : 1 ≤ m) : qF L m = ((m.toNat / 2 ^ sh L m : Nat) : Int) := by
  unfold qF; rw [pow_cast, Int.natCast_ediv, show ((m.toNat : Nat) : Int) = m from by omega]
theorem q_bd (L : Nat) (m : Int) (h0 : 1 ≤ m) (h1 : m ≤ 9223372036854775808) (hL : L ≤ 14) : sh L m ≤ 63 - L ∧ 1 ≤ qF L m ∧ qF L m < 2 * 2 ^ L ∧ (sh L m ≠ 0 → 2 ^ L ≤ qF L m) := by
  have b1 := bitLen_lo m.toNat (by omega) (by rw [e64]; omega)
  have b2 := bitLen_hi m.toNat (by rw [e64]; omega)
  have b3 := bitLen_pos m.toNat (by omega) (by rw [e64]; omega)
  have b4 : Lib.bitLen m.toNat ≤ 64 := lenV_le m (by omega)
  have e0 : lenV m = Lib.bitLen m.toNat := rfl
  rw [q_nat L m h0, pow_cast]
  unfold sh
  rw [e0]
  have hk : 2 ^ (Lib.bitLen m.toNat - 1 - L) ≤ 2 ^ (Lib.bitLen m.toNat - 1) := Nat.pow_le_pow_right (by decide) (by omega)
  have hp := Nat.two_pow_pos (Lib.bitLen m.toNat - 1 - L)
  have c1 : 1 ≤ m.toNat / 2 ^ (Lib.bitLen m.toNat - 1 - L) := (Nat.one_le_div_iff hp).2 (by omega)
  have c2 : m.toNat / 2 ^ (Lib.bitLen m.toNat - 1 - L) < 2 * 2 ^ L := by
    rw [Nat.div_lt_iff_lt_mul hp]
    have : 2 ^ Lib.bitLen m.toNat ≤ 2 * 2 ^ L * 2 ^ (Lib.bitLen m.toNat - 1 - L) := by
      rw [show 2 * 2 ^ L = 2 ^ (L + 1) from by rw [Nat.pow_succ]; omega, ← Nat.pow_add]
      exact Nat.pow_le_pow_right (by decide) (by omega)
    omega
  refine ⟨by omega, by omega, by omega, fun hne => ?_⟩
  have c3 : 2 ^ L ≤ m.toNat / 2 ^ (Lib.bitLen m.toNat - 1 - L) := by
    rw [Nat.le_div_iff_mul_le hp, ← Nat.pow_add, show L + (Lib.bitLen m.toNat - 1 - L) = Lib.bitLen m.toNat - 1 from by omega]
    exact b1
  omega
theorem pL_bd (L : Nat) (hL : L ≤ 14) : 1 ≤ (2 : Int) ^ L ∧ (2 : Int) ^ L ≤ 16384 := by
  rw [pow_cast]
  have h1 : 1 ≤ 2 ^ L := Nat.one_le_two_pow
  have h2 : 2 ^ L ≤ 2 ^ 14 := Nat.pow_le_pow_right (by decide) hL
  omega
theorem kF_bd (L k : Nat) (hL : L ≤ 14) (hk : k ≤ 63) : 0 ≤ kF L k ∧ kF L k ≤ 1032192 := by
  have ⟨p1, p2⟩ := pL_bd L hL
  unfold kF
  have h1 : 0 ≤ (k : Int) * 2 ^ L := Int.mul_nonneg (by omega) (by omega)
  have h2 : (k : Int) * 2 ^ L ≤ 63 * 2 ^ L := Int.mul_le_mul_of_nonneg_right (by omega) (by omega)
  omega

theorem idx_bd (L : Nat) (m : Int) (h0 : 1 ≤ m) (h1 : m ≤ 9223372036854775808) (hL : L ≤ 14) : 1 ≤ idx L m ∧ idx L m ≤ 1064960 := by
  obtain ⟨s1, s2, s3, _⟩ := q_bd L m h0 h1 hL
  have ⟨p1, p2⟩ := pL_bd L hL
  have ⟨k1, k2⟩ := kF_bd L (sh L m) hL (by omega)
  unfold idx; omega
theorem idx_wrap (L : Nat) (m : Int) (h0 : 1 ≤ m) (h1 : m ≤ 9223372036854775808) (hL : L ≤ 14) : wrap64 (wrap64 ((sh L m : Int) * 2 ^ L) + wrap64 (m / 2 ^ sh L m)) = idx L m := by
  obtain ⟨s1, s2, s3, _⟩ := q_bd L m h0 h1 hL
  have ⟨p1, p2⟩ := pL_bd L hL
  have ⟨k1, k2⟩ := kF_bd L (sh L m) hL (by omega)
  show wrap64 (wrap64 (kF L (sh L m)) + wrap64 (qF L m)) = kF L (sh L m) + qF L m
  unfold wrap64; omega

theorem index_nil (m : Int) (w : World) :
    Calls Tryd.prog 10 #[.pointer none, .int .u64 m] w fun e w' => e = .returned (.tuple #[.int .i64 0, .bool false]) ∧ w = w' := by
  go_enter Tryd.func10, Tryd.ntmps10
  go_wp2
  go_ret2
  exact ⟨rfl, rfl⟩
theorem index_no (B : Nat) (m : Int) (w : World) (h : m = 0 ∨ 9223372036854775808 < m) :
    Calls Tryd.prog 10 #[.pointer (some ⟨B, 0, none⟩), .int .u64 m] w fun e w' => e = .returned (.tuple #[.int .i64 0, .bool false]) ∧ w = w' := by
  rcases h with h | h
  · have hz : (m == 0) = true := beq_iff_eq.2 h
    clear h
    go_enter Tryd.func10, Tryd.ntmps10
    go_wp2
    go_ret2
    exact ⟨rfl, rfl⟩
  · have hz : (m == 0) = false := beq_eq_false_iff_ne.2 (by omega)
    go_enter Tryd.func10, Tryd.ntmps10
    go_wp2
    go_ret2
    exact ⟨rfl, rfl⟩
theorem index_yes (B L : Nat) (m : Int) (w : World) (h0 : 1 ≤ m) (h1 : m ≤ 9223372036854775808) (hL : L ≤ 14) (hc : w.cell? ⟨B, 1, none⟩ = some (.int .i64 L)) :
    Calls Tryd.prog 10 #[.pointer (some ⟨B, 0, none⟩), .int .u64 m] w fun e w' => e = .returned (.tuple #[.int .i64 (idx L m), .bool true]) ∧ Drew w w' := by
  obtain ⟨s1, s2, s3, _⟩ := q_bd L m h0 h1 hL
  have ⟨p1, p2⟩ := pL_bd L hL
  have hz : (m == 0) = false := beq_eq_false_iff_ne.2 (by omega)
  have HI := Lib.hid (idx_wrap L m h0 h1 hL)
  go_enter Tryd.func10, Tryd.ntmps10
  go_wp2_with (go_at_call 19; refine (shift_any _ _ _ _ (by omega) (by omega) hL hc).mono ?_; rintro e w' ⟨rfl, rfl⟩)
  go_quiet (fail)
  go_wp2
  go_ret2
  exact ⟨by rw [HI.out]; rfl, Drew.of _ _⟩

/-- the last index; a span's cut, what is left of its magnitudes, its least and its greatest one, its middle -/
def lastI (L : Nat) : Int := idx L 9223372036854775808
def spanB (L : Nat) (i : Int) : Bool := decide (1 ≤ i) && decide (i ≤ lastI L)
def cutF (L : Nat) (i : Int) : Nat := (i / 2 ^ L - 1).toNat
def remF (L : Nat) (i : Int) : Int := i - kF L (cutF L i)
def lowS (L : Nat) (i : Int) : Int := if spanB L i then remF L i * 2 ^ cutF L i else 0
def highS (L : Nat) (i : Int) : Int := if spanB L i then min (lowS L i + (2 ^ cutF L i - 1)) 9223372036854775808 else 0
def repS (L : Nat) (i : Int) : Int := lowS L i + (highS L i - lowS L i) / 2

theorem parts_no (B L : Nat) (i : Int) (w : World) (hL : L ≤ 14) (hc : w.cell? ⟨B, 1, none⟩ = some (.int .i64 L)) (hi : spanB L i = false) :
    Calls Tryd.prog 20 #[.pointer (some ⟨B, 0, none⟩), .int .i64 i] w fun e w' => e = .returned (.tuple #[.int .i64 0, .int .u64 0, .bool false]) ∧ Drew w w' := by
  have e : lastI L = idx L 9223372036854775808 := rfl
  have ⟨i1, i2⟩ := idx_bd L 9223372036854775808 (by omega) (by omega) hL
  rw [← e] at i1 i2
  have hlo : ¬ (1 ≤ i ∧ i ≤ lastI L) := by
    intro hh; unfold spanB at hi; simp [hh.1, hh.2] at hi
  have HE := Lib.hid e
  clear e hi
  by_cases h1 : 1 ≤ i
  · have h2 : lastI L < i := by omega
    go_enter Tryd.func20, Tryd.ntmps20
    go_wp2_with fail
    refine (index_yes _ _ _ _ (by omega) (by omega) hL hc).mono ?_
    rintro e w' ⟨rfl, n, rfl⟩
    rw [← HE.out]
    go_wp2
    go_ret3
    exact ⟨rfl, Drew.of _ _⟩
  · go_enter Tryd.func20, Tryd.ntmps20
    go_wp2_with fail
    refine (index_yes _ _ _ _ (by omega) (by omega) hL hc).mono ?_
    rintro e w' ⟨rfl, n, rfl⟩
    rw [← HE.out]
    go_wp2
    go_ret3
    exact ⟨rfl, Drew.of _ _⟩
theorem sh_top (L : Nat) : sh L 9223372036854775808 = 63 - L := by
  have : Lib.bitLen 9223372036854775808 = 64 := by decide +kernel
  show Lib.bitLen (9223372036854775808 : Int).toNat - 1 - L = _
  rw [show (9223372036854775808 : Int).toNat = 9223372036854775808 from rfl, this]
theorem last_is (L : Nat) (hL : L ≤ 14) : lastI L = (64 - (L : Int)) * 2 ^ L := by
  unfold lastI idx kF qF
  rw [sh_top L]
  have e : (9223372036854775808 : Int) = 2 ^ L * 2 ^ (63 - L) := by
    rw [← Int.pow_add, show L + (63 - L) = 63 from by omega]; rfl
  have e2 : (9223372036854775808 : Int) / 2 ^ (63 - L) = 2 ^ L := by
    rw [e]; exact Int.mul_ediv_cancel _ (by have := Int.pow_pos (n := 2) (m := 63 - L) (by decide); omega)
  rw [e2, show ((63 - L : Nat) : Int) = 63 - (L : Int) from by omega, show (64 - (L : Int)) = (63 - L) + 1 from by omega, Int.add_mul, Int.one_mul]

/-- the quotient and what is left of an index by the power -/
theorem cut_cases (L : Nat) (i : Int) (hL : L ≤ 14) (h1 : 1 ≤ i) (h2 : i ≤ lastI L) :
    (i < 2 ^ L ∧ cutF L i = 0 ∧ remF L i = i ∧ i / 2 ^ L = 0) ∨ (2 ^ L ≤ i ∧ (cutF L i : Int) = i / 2 ^ L - 1 ∧ 1 ≤ i / 2 ^ L ∧ i / 2 ^ L ≤ 64 - L ∧ 2 ^ L ≤ remF L i ∧ remF L i < 2 * 2 ^ L ∧ (i / 2 ^ L = 64 - L → remF L i = 2 ^ L)) := by
  have ⟨p1, p2⟩ := pL_bd L hL
  rw [last_is L hL] at h2
  by_cases hlt : i < 2 ^ L
  · left
    have e : i / 2 ^ L = 0 := Int.ediv_eq_zero_of_lt (by omega) hlt
    have c : cutF L i = 0 := by unfold cutF; rw [e]; rfl
    refine ⟨hlt, c, ?_, e⟩
    unfold remF kF; rw [c]; simp
  · right
    have hp : (0 : Int) < 2 ^ L := by omega
    have d1 : 1 ≤ i / 2 ^ L := (Int.le_ediv_iff_mul_le hp).2 (by omega)
    have d2 : i / 2 ^ L ≤ 64 - L := by
      have := Int.ediv_le_ediv hp h2
      rw [Int.mul_ediv_cancel _ (by omega)] at this
      exact this
    have d3 := Int.mul_ediv_add_emod i (2 ^ L)
    have d4 := Int.emod_nonneg i (show (2 : Int) ^ L ≠ 0 by omega)
    have d5 := Int.emod_lt_of_pos i hp
    have c : (cutF L i : Int) = i / 2 ^ L - 1 := by unfold cutF; omega
    have r : remF L i = i % 2 ^ L + 2 ^ L := by
      unfold remF kF
      rw [c, Int.sub_mul, Int.one_mul]
      have : 2 ^ L * (i / 2 ^ L) = i / 2 ^ L * 2 ^ L := Int.mul_comm _ _
      omega
    refine ⟨by omega, c, d1, d2, by omega, by omega, fun hx => ?_⟩
    rw [hx] at d3
    have : 2 ^ L * (64 - (L : Int)) = (64 - (L : Int)) * 2 ^ L := Int.mul_comm _ _
    omega

theorem cut_wrap (L : Nat) (i : Int) (hL : L ≤ 14) (h1 : 1 ≤ i) (h2 : i ≤ lastI L) : max (wrap64 (i / 2 ^ L - 1)) 0 = (cutF L i : Int) := by
  have hc := cut_cases L i hL h1 h2
  unfold wrap64
  rcases hc with ⟨_, c, _, e⟩ | ⟨_, c, d1, d2, _⟩
  · rw [e, c]; decide
  · omega
theorem rem_wrap (L : Nat) (i : Int) (hL : L ≤ 14) (h1 : 1 ≤ i) (h2 : i ≤ lastI L) (h3 : lastI L ≤ 1064960) : IntKind.u64.wrap (wrap64 (i - wrap64 ((cutF L i : Int) * 2 ^ L))) = remF L i := by
  have hc := cut_cases L i hL h1 h2
  have ⟨p1, p2⟩ := pL_bd L hL
  have hk : cutF L i ≤ 63 := by
    rcases hc with ⟨_, c, _, _⟩ | ⟨_, c, _, d2, _⟩ <;> omega
  have ⟨k1, k2⟩ := kF_bd L (cutF L i) hL hk
  have hr : 0 ≤ remF L i ∧ remF L i ≤ 32768 := by
    rcases hc with ⟨_, _, r, _⟩ | ⟨_, _, _, _, r1, r2, _⟩ <;> omega
  have e : remF L i = i - kF L (cutF L i) := rfl
  show IntKind.u64.wrap (wrap64 (i - wrap64 (kF L (cutF L i)))) = _
  rw [IntKind.wrap_u64]
  unfold wrap64; omega

theorem parts_yes (B L : Nat) (i : Int) (w : World) (hL : L ≤ 14) (hc : w.cell? ⟨B, 1, none⟩ = some (.int .i64 L)) (hi : spanB L i = true) :
    Calls Tryd.prog 20 #[.pointer (some ⟨B, 0, none⟩), .int .i64 i] w fun e w' => e = .returned (.tuple #[.int .i64 (cutF L i), .int .u64 (remF L i), .bool true]) ∧ Drew w w' := by
  have e : lastI L = idx L 9223372036854775808 := rfl
  have ⟨i1, i2⟩ := idx_bd L 9223372036854775808 (by omega) (by omega) hL
  rw [← e] at i1 i2
  obtain ⟨h1, h2⟩ : 1 ≤ i ∧ i ≤ lastI L := by unfold spanB at hi; simpa using hi
  have HE := Lib.hid e
  have ⟨p1, p2⟩ := pL_bd L hL
  have H1 := Lib.hid (cut_wrap L i hL h1 h2)
  have H2 := Lib.hid (rem_wrap L i hL h1 h2 i2)
  clear e hi
  go_enter Tryd.func20, Tryd.ntmps20
  go_wp2_with fail
  refine (index_yes _ _ _ _ (by omega) (by omega) hL hc).mono ?_
  rintro e w' ⟨rfl, n, rfl⟩
  rw [← HE.out]
  go_wp2
  go_quiet (fail)
  go_wp2
  rw [H1.out, H2.out]
  go_ret3
  exact ⟨rfl, ⟨n + nq, by rw [World.drewN_drewN]⟩⟩

/-- a span's least magnitude, and the next one's, in numbers that cannot be less than 0 -/
theorem span_bd (L : Nat) (i : Int) (hL : L ≤ 14) (hi : spanB L i = true) : cutF L i ≤ 63 - L ∧ 1 ≤ remF L i ∧ lowS L i = remF L i * 2 ^ cutF L i ∧ 1 ≤ lowS L i ∧ lowS L i ≤ 9223372036854775808 ∧ (1 : Int) ≤ 2 ^ cutF L i ∧ (2 : Int) ^ cutF L i ≤ 9223372036854775808 := by
  obtain ⟨h1, h2⟩ : 1 ≤ i ∧ i ≤ lastI L := by unfold spanB at hi; simpa using hi
  have ⟨p1, p2⟩ := pL_bd L hL
  have hc := cut_cases L i hL h1 h2
  have hlow : lowS L i = remF L i * 2 ^ cutF L i := by unfold lowS; rw [hi]; rfl
  have hk : cutF L i ≤ 63 - L := by
    rcases hc with ⟨_, c, _, _⟩ | ⟨_, c, _, d2, _⟩ <;> omega
  have hr : 1 ≤ remF L i := by
    rcases hc with ⟨_, _, r, _⟩ | ⟨_, _, _, _, r1, r2, _⟩ <;> omega
  have t1 : (1 : Int) ≤ 2 ^ cutF L i := by rw [pow_cast]; have := Nat.one_le_two_pow (n := cutF L i); omega
  have t2 : (2 : Int) ^ cutF L i ≤ 9223372036854775808 := by
    rw [pow_cast]
    have : 2 ^ cutF L i ≤ 2 ^ 63 := Nat.pow_le_pow_right (by decide) (by omega)
    omega
  have hlo : 1 ≤ lowS L i := by
    rw [hlow]
    have := Int.mul_le_mul hr t1 (by omega) (by omega)
    omega
  refine ⟨hk, hr, hlow, hlo, ?_, t1, t2⟩
  rw [hlow]
  have e63 : (2 : Int) ^ L * 2 ^ (63 - L) = 9223372036854775808 := by
    rw [← Int.pow_add, show L + (63 - L) = 63 from by omega]; rfl
  have b : remF L i ≤ 2 ^ L ∧ cutF L i ≤ 63 - L ∨ remF L i ≤ 2 * 2 ^ L ∧ cutF L i + 1 ≤ 63 - L := by
    rcases hc with ⟨_, c, r, _⟩ | ⟨_, c, _, d2, r1, r2, r3⟩
    · left; omega
    · by_cases hx : i / 2 ^ L = 64 - L
      · left; have := r3 hx; omega
      · right; omega
  rcases b with ⟨b1, b2⟩ | ⟨b1, b2⟩
  · have m1 : (2 : Int) ^ cutF L i ≤ 2 ^ (63 - L) := by
      rw [pow_cast, pow_cast]
      have : 2 ^ cutF L i ≤ 2 ^ (63 - L) := Nat.pow_le_pow_right (by decide) b2
      omega
    have := Int.mul_le_mul b1 m1 (by omega) (by omega)
    omega
  · have m1 : 2 * (2 : Int) ^ cutF L i ≤ 2 ^ (63 - L) := by
      rw [pow_cast, pow_cast]
      have : 2 ^ (cutF L i + 1) ≤ 2 ^ (63 - L) := Nat.pow_le_pow_right (by decide) b2
      rw [Nat.pow_succ] at this
      omega
    have m2 := Int.mul_le_mul b1 (Int.le_refl (2 ^ cutF L i)) (by omega) (by omega)
    have m3 := Int.mul_le_mul (Int.le_refl (2 ^ L)) m1 (by omega) (by omega)
    have e : 2 * 2 ^ L * (2 : Int) ^ cutF L i = 2 ^ L * (2 * 2 ^ cutF L i) := by rw [Int.mul_comm 2, Int.mul_assoc]
    omega

theorem range_no (B L : Nat) (i : Int) (w : World) (hL : L ≤ 14) (hc : w.cell? ⟨B, 1, none⟩ = some (.int .i64 L)) (hi : spanB L i = false) :
    Calls Tryd.prog 11 #[.pointer (some ⟨B, 0, none⟩), .int .i64 i] w fun e w' => e = .returned (.tuple #[.int .u64 (lowS L i), .int .u64 (highS L i)]) ∧ Drew w w' := by
  have e1 : lowS L i = 0 := by unfold lowS; rw [hi]; rfl
  have e2 : highS L i = 0 := by unfold highS; rw [hi]; rfl
  rw [e1, e2]; clear e1 e2
  go_enter Tryd.func11, Tryd.ntmps11
  go_wp2_with fail
  refine (parts_no _ _ _ _ hL hc hi).mono ?_
  rintro e w' ⟨rfl, n, rfl⟩
  go_wp2
  go_ret2
  exact ⟨rfl, Drew.of _ _⟩
theorem range_yes (B L : Nat) (i : Int) (w : World) (hL : L ≤ 14) (hc : w.cell? ⟨B, 1, none⟩ = some (.int .i64 L)) (hi : spanB L i = true) :
    Calls Tryd.prog 11 #[.pointer (some ⟨B, 0, none⟩), .int .i64 i] w fun e w' => e = .returned (.tuple #[.int .u64 (lowS L i), .int .u64 (highS L i)]) ∧ Drew w w' := by
  obtain ⟨b1, b2, b3, b4, b5, b6, b7⟩ := span_bd L i hL hi
  have f1 : IntKind.u64.wrap (remF L i * 2 ^ cutF L i) = lowS L i := by rw [← b3, IntKind.wrap_u64]; omega
  have f2 : IntKind.u64.wrap (2 ^ cutF L i) = 2 ^ cutF L i := by rw [IntKind.wrap_u64]; omega
  have HH := Lib.hid (show min (lowS L i + (2 ^ cutF L i - 1)) 9223372036854775808 = highS L i by unfold highS; rw [hi]; rfl)
  clear b3
  go_enter Tryd.func11, Tryd.ntmps11
  go_wp2_with fail
  refine (parts_yes _ _ _ _ hL hc hi).mono ?_
  rintro e w' ⟨rfl, n, rfl⟩
  go_wp2
  go_quiet (fail)
  go_wp2
  rw [HH.out]
  go_ret2
  exact ⟨rfl, ⟨n + nq, by rw [World.drewN_drewN]⟩⟩
theorem range_any (B L : Nat) (i : Int) (w : World) (hL : L ≤ 14) (hc : w.cell? ⟨B, 1, none⟩ = some (.int .i64 L)) :
    Calls Tryd.prog 11 #[.pointer (some ⟨B, 0, none⟩), .int .i64 i] w fun e w' => e = .returned (.tuple #[.int .u64 (lowS L i), .int .u64 (highS L i)]) ∧ Drew w w' := by
  cases hi : spanB L i
  · exact range_no B L i w hL hc hi
  · exact range_yes B L i w hL hc hi
theorem span_le (L : Nat) (i : Int) (hL : L ≤ 14) : 0 ≤ lowS L i ∧ lowS L i ≤ highS L i ∧ highS L i ≤ 9223372036854775808 := by
  cases hi : spanB L i
  · have e1 : lowS L i = 0 := by unfold lowS; rw [hi]; rfl
    have e2 : highS L i = 0 := by unfold highS; rw [hi]; rfl
    omega
  · obtain ⟨b1, b2, b3, b4, b5, b6, b7⟩ := span_bd L i hL hi
    have e2 : highS L i = min (lowS L i + (2 ^ cutF L i - 1)) 9223372036854775808 := by unfold highS; rw [hi]; rfl
    omega
theorem rep_any (B L : Nat) (i : Int) (w : World) (hL : L ≤ 14) (hc : w.cell? ⟨B, 1, none⟩ = some (.int .i64 L)) :
    Calls Tryd.prog 14 #[.pointer (some ⟨B, 0, none⟩), .int .i64 i] w fun e w' => e = .returned (.int .u64 (repS L i)) ∧ Drew w w' := by
  have ⟨a1, a2, a3⟩ := span_le L i hL
  go_enter Tryd.func14, Tryd.ntmps14
  go_wp2_with (go_at_call 11; refine (range_any _ _ _ _ hL hc).mono ?_; rintro e w' ⟨rfl, n, rfl⟩)
  go_ret
  exact ⟨ret_int rfl, Drew.of _ _⟩
theorem parts_nil (i : Int) (w : World) :
    Calls Tryd.prog 20 #[.pointer none, .int .i64 i] w fun e w' => e = .returned (.tuple #[.int .i64 0, .int .u64 0, .bool false]) ∧ w = w' := by
  go_enter Tryd.func20, Tryd.ntmps20
  go_wp2_with (go_at_call 10; refine (index_nil _ _).mono ?_; rintro e w' ⟨rfl, rfl⟩)
  go_ret3
  exact ⟨rfl, rfl⟩
theorem range_nil (i : Int) (w : World) :
    Calls Tryd.prog 11 #[.pointer none, .int .i64 i] w fun e w' => e = .returned (.tuple #[.int .u64 0, .int .u64 0]) ∧ w = w' := by
  go_enter Tryd.func11, Tryd.ntmps11
  go_wp2_with (go_at_call 20; refine (parts_nil _ _).mono ?_; rintro e w' ⟨rfl, rfl⟩)
  go_ret2
  exact ⟨rfl, rfl⟩
theorem rep_nil (i : Int) (w : World) :
    Calls Tryd.prog 14 #[.pointer none, .int .i64 i] w fun e w' => e = .returned (.int .u64 0) ∧ w = w' := by
  go_enter Tryd.func14, Tryd.ntmps14
  go_wp2_with (go_at_call 11; refine (range_nil _ _).mono ?_; rintro e w' ⟨rfl, rfl⟩)
  go_ret
  exact ⟨rfl, rfl⟩
theorem digits_nil (w : World) :
    Calls Tryd.prog 18 #[.pointer none] w fun e w' => e = .returned (.int .i64 0) ∧ w = w' := by
  go_enter Tryd.func18, Tryd.ntmps18
  go_wp2
  go_ret
  exact ⟨rfl, rfl⟩
theorem digits_any (B : Nat) (d : Int) (w : World) (hc : w.cell? ⟨B, 0, none⟩ = some (.int .i64 d)) :
    Calls Tryd.prog 18 #[.pointer (some ⟨B, 0, none⟩)] w fun e w' => e = .returned (.int .i64 d) ∧ w = w' := by
  go_enter Tryd.func18, Tryd.ntmps18
  go_wp2
  go_ret
  exact ⟨rfl, rfl⟩

/-- the powers of ten, as the program's table holds them -/
structure Tens (w : World) : Prop where
  c0 : w.cell? ⟨0, 0, none⟩ = some (.int .u64 1)
  c1 : w.cell? ⟨0, 1, none⟩ = some (.int .u64 10)
  c2 : w.cell? ⟨0, 2, none⟩ = some (.int .u64 100)
  c3 : w.cell? ⟨0, 3, none⟩ = some (.int .u64 1000)
  c4 : w.cell? ⟨0, 4, none⟩ = some (.int .u64 10000)
def ten (d : Nat) : Int := 10 ^ d
theorem Tens.at {w : World} (h : Tens w) (d : Nat) (hd : d ≤ 4) : w.cell? ⟨0, d, none⟩ = some (.int .u64 (ten d)) := by
  rcases (show d = 0 ∨ d = 1 ∨ d = 2 ∨ d = 3 ∨ d = 4 by omega) with rfl | rfl | rfl | rfl | rfl
  · exact h.c0
  · exact h.c1
  · exact h.c2
  · exact h.c3
  · exact h.c4
theorem Tens.lt {w : World} (h : Tens w) : 0 < w.heap.size := World.block_lt_of_cell? w _ h.c0
theorem Tens.next {w w' : World} (h : Tens w) (hb : Below w.heap.size w w') : Tens w' :=
  ⟨by rw [hb.cell (p := ⟨0, 0, none⟩) h.lt]; exact h.c0, by rw [hb.cell (p := ⟨0, 1, none⟩) h.lt]; exact h.c1, by rw [hb.cell (p := ⟨0, 2, none⟩) h.lt]; exact h.c2,
   by rw [hb.cell (p := ⟨0, 3, none⟩) h.lt]; exact h.c3, by rw [hb.cell (p := ⟨0, 4, none⟩) h.lt]; exact h.c4⟩
theorem Tens.drewN {w : World} (h : Tens w) (n : Nat) : Tens (w.drewN n) :=
  ⟨by simpa using h.c0, by simpa using h.c1, by simpa using h.c2, by simpa using h.c3, by simpa using h.c4⟩

theorem part_any (B d : Nat) (w : World) (hd : d ≤ 4) (hc : w.cell? ⟨B, 0, none⟩ = some (.int .i64 d)) (ht : Tens w) :
    Calls Tryd.prog 15 #[.pointer (some ⟨B, 0, none⟩)] w fun e w' => e = .returned (.agg #[.int .u64 1, .int .u64 (ten d)]) ∧ Below w.heap.size w w' := by
  have c := ht.at d hd
  have hl := ht.lt
  have hB := World.block_lt_of_cell? w _ hc
  go_enter Tryd.func15, Tryd.ntmps15
  go_wp2_with fail
  refine (digits_any B d _ (by rw [World.cell?_alloc_lt _ _ _ (show (⟨B, 0, none⟩ : Addr).block < w.heap.size from hB)]; exact hc)).mono ?_
  rintro e w1 ⟨rfl, rfl⟩
  go_wp2
  exact bodyPost_ret (v := .agg #[.int .u64 1, .int .u64 (ten d)]) (by simp [results, Tryd.results15, go_sem]) rfl ⟨rfl, (Below.refl _ _).alloc (Nat.le_refl _) _⟩
theorem part_nil (w : World) (ht : Tens w) :
    Calls Tryd.prog 15 #[.pointer none] w fun e w' => e = .returned (.agg #[.int .u64 1, .int .u64 1]) ∧ Below w.heap.size w w' := by
  have c := ht.c0
  have hl := ht.lt
  go_enter Tryd.func15, Tryd.ntmps15
  go_wp2_with (go_at_call 18; refine (digits_nil _).mono ?_; rintro e w1 ⟨rfl, rfl⟩)
  exact bodyPost_ret (v := .agg #[.int .u64 1, .int .u64 1]) (by simp [results, Tryd.results15, go_sem]) rfl ⟨rfl, (Below.refl _ _).alloc (Nat.le_refl _) _⟩

/-- so many digits: the power of two that isn't below so many tens -/
def logD (d : Nat) : Nat := if d = 1 then 4 else if d = 2 then 7 else if d = 3 then 10 else 14
theorem logD_le (d : Nat) : 4 ≤ logD d ∧ logD d ≤ 14 := by unfold logD; split <;> (try split) <;> (try split) <;> omega
theorem ten_log (d k : Nat) (h1 : 1 ≤ d) (h2 : d ≤ 4) (hk : k ≤ logD d) : decide ((2 : Int) ^ k < ten d) = decide (k < logD d) := by
  have all : ∀ d : Fin 5, ∀ k : Fin 15, 1 ≤ d.val → k.val ≤ logD d.val → decide ((2 : Int) ^ k.val < ten d.val) = decide (k.val < logD d.val) := by decide +kernel
  have := logD_le d
  exact all ⟨d, by omega⟩ ⟨k, by omega⟩ h1 hk

/-- block B holds a span of d digits and power L; the table is as it was; below the heap's size at the call's beginning nothing has changed -/
structure Sp (w0 : World) (B : Nat) (d L : Nat) (w : World) : Prop where
  c0 : w.cell? ⟨B, 0, none⟩ = some (.int .i64 d)
  c1 : w.cell? ⟨B, 1, none⟩ = some (.int .i64 L)
  tens : Tens w
  below : Below w0.heap.size w0 w
  lt : B < w.heap.size
  ge : w0.heap.size ≤ B
theorem Sp.next {w0 w w' : World} {B d L : Nat} (h : Sp w0 B d L w) (hb : Below w.heap.size w w') : Sp w0 B d L w' :=
  ⟨by rw [hb.cell (p := ⟨B, 0, none⟩) h.lt]; exact h.c0, by rw [hb.cell (p := ⟨B, 1, none⟩) h.lt]; exact h.c1, h.tens.next hb, h.below.trans (hb.mono h.below.size), Nat.lt_of_lt_of_le h.lt hb.size, h.ge⟩
theorem Drew.below {w w' : World} (h : Drew w w') : Below w.heap.size w w' := by obtain ⟨n, rfl⟩ := h; exact below_drewN (Below.refl _ _) _

theorem Sp.put {w0 w : World} {B d k : Nat} (h : Sp w0 B d k w) (hB : 0 < B) : Sp w0 B d (k + 1) (w.setCell ⟨B, 1, none⟩ (.int .i64 ((k : Int) + 1))) := by
  have hne : (0 : Nat) ≠ B := by omega
  exact ⟨by simp [go_sem, h.c0], by simp [go_sem, h.c1], ⟨by simp [go_sem, h.tens.c0], by simp [go_sem, h.tens.c1], by simp [go_sem, h.tens.c2], by simp [go_sem, h.tens.c3], by simp [go_sem, h.tens.c4]⟩, h.below.setCell h.ge _, by simpa using h.lt, h.ge⟩
theorem new_bad (d : Int) (w : World) (h : d < 1 ∨ 4 < d) :
    Calls Tryd.prog 9 #[.int .i64 d] w fun e w' => e = .returned (.tuple #[.pointer none, .int .i64 1]) ∧ w = w' := by
  rcases h with h | h
  · go_enter Tryd.func9, Tryd.ntmps9
    go_wp2
    go_ret2
    exact ⟨rfl, rfl⟩
  · go_enter Tryd.func9, Tryd.ntmps9
    go_wp2
    go_ret2
    exact ⟨rfl, rfl⟩
theorem new_good (d : Nat) (w : World) (h1 : 1 ≤ d) (h2 : d ≤ 4) (ht : Tens w) :
    Calls Tryd.prog 9 #[.int .i64 d] w fun e w' => e = .returned (.tuple #[.pointer (some ⟨w.heap.size, 0, none⟩), .int .i64 0]) ∧ Sp w w.heap.size d (logD d) w' := by
  have ⟨g1, g2⟩ := logD_le d
  have hl := ht.lt
  go_enter Tryd.func9, Tryd.ntmps9
  go_wp2
  go_loopw [17] (fun _ wr => ∃ k : Nat, k ≤ logD d ∧ Sp w w.heap.size d k wr ∧ wr.frozen? ⟨w.heap.size, 1, none⟩ = false) (fun _ wr => logD d - (RowKit.intOf ((wr.cell? ⟨w.heap.size, 1, none⟩).getD (.int .i64 0))).toNat)
  case atStart =>
    refine ⟨0, by omega, ⟨by simp, by simp, ?_, (Below.refl _ _).alloc (Nat.le_refl _) _, by simp, Nat.le_refl _⟩, by simp⟩
    exact ht.next ((Below.refl _ _).alloc (Nat.le_refl _) _)
  case round =>
    obtain ⟨k, hk, H, hf⟩ := hrel
    have c1 := H.c1
    have c := H.tens.at d h2
    have hlt := H.lt
    have f2 : IntKind.u64.wrap (2 ^ k) = 2 ^ k := by
      have h14 : 2 ^ k ≤ 2 ^ 14 := Nat.pow_le_pow_right (by decide) (by omega)
      have hp : (0 : Int) ≤ ((2 ^ k : Nat) : Int) := Int.natCast_nonneg _
      rw [IntKind.wrap_u64, pow_cast]; omega
    by_cases hlt2 : k < logD d
    · have f3 : decide ((2 : Int) ^ k < ten d) = true := by rw [ten_log d k h1 h2 hk]; simp [hlt2]
      go_wp2_with fail
      go_quiet (fail)
      go_wp2
      have H2 : Sp w w.heap.size d k (wr.drewN nq) := H.next (below_drewN (Below.refl _ _) _)
      have hm : (wr.cell? ⟨w.heap.size, 1, none⟩).getD (.int .i64 0) = .int .i64 k := by rw [c1]; rfl
      have hm2 : (((wr.drewN nq).setCell ⟨w.heap.size, 1, none⟩ (.int .i64 ((k : Int) + 1))).cell? ⟨w.heap.size, 1, none⟩).getD (.int .i64 0) = .int .i64 ((k + 1 : Nat) : Int) := by rw [(H2.put hl).c1]; rfl
      refine ⟨⟨k + 1, by omega, H2.put hl, ?_⟩, ?_⟩
      · rw [World.frozen?_setCell]; simpa using hf
      · rw [hm, hm2]; simp [RowKit.intOf]; omega
    · have f3 : decide ((2 : Int) ^ k < ten d) = false := by rw [ten_log d k h1 h2 hk]; simp [hlt2]
      obtain rfl : k = logD d := by omega
      go_wp2_with fail
      go_quiet (fail)
      go_wp2
      go_ret2
      exact ⟨rfl, H.next (below_drewN (Below.refl _ _) _)⟩
end Go.Proofs.YtafjhhfdccmhpaaDoor
