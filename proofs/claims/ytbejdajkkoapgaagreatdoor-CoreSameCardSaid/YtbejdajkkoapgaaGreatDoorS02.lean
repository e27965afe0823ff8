/-
  Several texts in one: J05. What each proves, and on which conditions, stands at its head. Conditions: stated in each.
-/
import Derived.Test.YtbejdajkkoapgaaGreatDoorS01
import Derived.Lib.Hide
import Derived.BigQuiet
import Derived.Deep.QuietTactic
import Derived.Deep.RegionHeld3
import Derived.Deep.CutBlock
import Derived.Deep.CutRange
/-
  Several texts in one: Divp, SpFns, DvFns. What each proves, and on which conditions, stands at its head. Conditions: stated in each.
-/
/-
  Long division by halves of 64 bits, plain: a digit's guess, and when it is the digit. No program. Conditions: stated in each law.
-/
set_option linter.unusedVariables false
set_option linter.unusedSimpArgs false
namespace Go.Proofs.YtbejdajkkoapgaaGreatDoor

/-- the state of a digit's guess: u the high part, u1 the next digit, y = y1 * 2^32 + y0 what it is divided by -/
structure Guess (u u1 y1 y0 q r : Nat) : Prop where
  eq : q * y1 + r = u
  ge : (u * 4294967296 + u1) / (y1 * 4294967296 + y0) ≤ q
theorem guess_start (u u1 y1 y0 : Nat) (h1 : 2147483648 ≤ y1) (h2 : u1 < 4294967296) : Guess u u1 y1 y0 (u / y1) (u - u / y1 * y1) := by
  have hm : u / y1 * y1 ≤ u := Nat.div_mul_le_self _ _
  refine ⟨by omega, ?_⟩
  have a1 : y1 * 4294967296 ≤ y1 * 4294967296 + y0 := by omega
  have a2 : 0 < y1 * 4294967296 := by omega
  have a3 : (u * 4294967296 + u1) / (y1 * 4294967296 + y0) ≤ (u * 4294967296 + u1) / (y1 * 4294967296) := Nat.div_le_div_left a1 a2
  refine Nat.le_trans a3 ?_
  rw [Nat.mul_comm y1, ← Nat.div_div_eq_div_mul]
  rw [show (u * 4294967296 + u1) / 4294967296 = u from by omega]
  exact Nat.le_refl _
theorem guess_first (u y1 y0 : Nat) (h1 : 2147483648 ≤ y1) (h2 : y0 < 4294967296) (h3 : u < y1 * 4294967296 + y0) : u / y1 ≤ 4294967297 := by
  rw [Nat.le_iff_lt_add_one, Nat.div_lt_iff_lt_mul (by omega)]
  omega
theorem quot_lt (u u1 y1 y0 : Nat) (h1 : 2147483648 ≤ y1) (h2 : u1 < 4294967296) (h3 : u < y1 * 4294967296 + y0) : (u * 4294967296 + u1) / (y1 * 4294967296 + y0) ≤ 4294967295 := by
  have : (u * 4294967296 + u1) / (y1 * 4294967296 + y0) < 4294967296 := by
    rw [Nat.div_lt_iff_lt_mul (by omega)]; omega
  omega
theorem guess_step {u u1 y1 y0 q r : Nat} (h : Guess u u1 y1 y0 q r) (h1 : 2147483648 ≤ y1) (h2 : u1 < 4294967296) (h3 : u < y1 * 4294967296 + y0)
    (ht : 4294967296 ≤ q ∨ 4294967296 * r + u1 < q * y0) : 1 ≤ q ∧ Guess u u1 y1 y0 (q - 1) (r + y1) := by
  have hq := quot_lt u u1 y1 y0 h1 h2 h3
  have hlt : (u * 4294967296 + u1) / (y1 * 4294967296 + y0) < q := by
    rcases ht with ht | ht
    · omega
    · rw [Nat.div_lt_iff_lt_mul (by omega), Nat.mul_add, ← Nat.mul_assoc, ← h.eq, Nat.add_mul]; omega
  have hq1 : 1 ≤ q := by
    generalize (u * 4294967296 + u1) / (y1 * 4294967296 + y0) = z at *
    omega
  have e : (q - 1) * y1 + y1 = q * y1 := by
    rw [← Nat.succ_mul, show (q - 1).succ = q from by omega]
  exact ⟨hq1, ⟨by have := h.eq; omega, Nat.le_sub_one_of_lt hlt⟩⟩
theorem guess_end {u u1 y1 y0 q r : Nat} (h : Guess u u1 y1 y0 q r) (h1 : 2147483648 ≤ y1) (ht : q * y0 ≤ 4294967296 * r + u1) : q = (u * 4294967296 + u1) / (y1 * 4294967296 + y0) := by
  refine Nat.le_antisymm ?_ h.ge
  rw [Nat.le_div_iff_mul_le (by omega), Nat.mul_add, ← Nat.mul_assoc, ← h.eq, Nat.add_mul]; omega
theorem guess_break {u u1 y1 y0 q r : Nat} (h : Guess u u1 y1 y0 q r) (h1 : 2147483648 ≤ y1) (hq : q ≤ 4294967296) (h0 : y0 < 4294967296) (hr : 4294967296 ≤ r) : q = (u * 4294967296 + u1) / (y1 * 4294967296 + y0) := by
  refine guess_end h h1 ?_
  have a : q * y0 ≤ 4294967296 * 4294967295 := Nat.mul_le_mul hq (by omega)
  omega

/-- two digits: the quotient and what is left -/
theorem two_digits (u u1 u0 y : Nat) (hy : 1 ≤ y) (q1 q0 t : Nat) (h1 : q1 = (u * 4294967296 + u1) / y) (ht : t = (u * 4294967296 + u1) - q1 * y) (h0 : q0 = (t * 4294967296 + u0) / y) :
    q1 * 4294967296 + q0 = ((u * 4294967296 + u1) * 4294967296 + u0) / y ∧ t * 4294967296 + u0 - q0 * y = ((u * 4294967296 + u1) * 4294967296 + u0) % y := by
  have e1 : t = (u * 4294967296 + u1) % y := by rw [ht, h1, Nat.mod_eq_sub_div_mul]
  have d1 := Nat.div_add_mod (u * 4294967296 + u1) y
  rw [← h1, ← e1] at d1
  have e : (u * 4294967296 + u1) * 4294967296 + u0 = t * 4294967296 + u0 + y * (q1 * 4294967296) := by
    rw [← d1, Nat.add_mul (y * q1) t, Nat.mul_assoc y q1]
    generalize y * (q1 * 4294967296) = z
    generalize t * 4294967296 = x
    omega
  constructor
  · have hy0 : 0 < y := hy
    rw [e, Nat.add_mul_div_left _ _ hy0, ← h0, Nat.add_comm]
  · rw [e, Nat.add_mul_mod_self_left, h0, Nat.mod_eq_sub_div_mul]
/-- both are moved by s bits -/
theorem moved_div (n y s : Nat) : n * 2 ^ s / (y * 2 ^ s) = n / y ∧ n * 2 ^ s % (y * 2 ^ s) / 2 ^ s = n % y := by
  have hp : 0 < 2 ^ s := Nat.two_pow_pos s
  constructor
  · exact Nat.mul_div_mul_right _ _ hp
  · rw [Nat.mul_mod_mul_right]; exact Nat.mul_div_cancel _ hp
end Go.Proofs.YtbejdajkkoapgaaGreatDoor

/-
  Contracts of the methods of package spans: what each returns, as plain integers; the world is as it was, but for draws. Conditions: the receiver's cells are known, each number fits its kind.
-/
namespace Go.Proofs.YtbejdajkkoapgaaGreatDoor.Sp
open Go.RowKit Go.Lib

theorem ret_int {k : IntKind} {a b : Int} (h : a = b) : Ending.returned (.int k a) = .returned (.int k b) := by rw [h]
/-- the world behind some draws -/
def Drew (w w' : World) : Prop := ∃ n, w' = w.drewN n
theorem Drew.refl (w : World) : Drew w w := ⟨0, rfl⟩
theorem Drew.of (w : World) (n : Nat) : Drew w (w.drewN n) := ⟨n, rfl⟩

theorem e64 : (2 : Nat) ^ 64 = 18446744073709551616 := by decide
def lenV (x : Int) : Nat := Lib.bitLen x.toNat
theorem lenV_le (m : Int) (h1 : m ≤ 18446744073709551615) : lenV m ≤ 64 := Lib.bitLen_le m.toNat 64 (by decide) (by rw [e64]; omega)
theorem log_any (m : Int) (w : World) (h0 : 0 ≤ m) (h1 : m ≤ 18446744073709551615) :
    Calls Tryz.prog 148 #[.int .u64 m] w fun e w' => e = .returned (.tuple #[.int .i64 ((lenV m : Int) - 1), .bool (m != 0)]) ∧ w = w' := by
  have hl : Lib.bitLen m.toNat ≤ 64 := lenV_le m h1
  go_enter Tryz.func148, Tryz.ntmps148
  go_wp2_with (go_at_call 144; refine (len64_any _ _ (by omega) (by omega)).mono ?_; rintro e w' ⟨rfl, rfl⟩)
  go_ret2
  exact ⟨rfl, rfl⟩

/-- by how many bits a magnitude is cut, what is left, the span's index -/
def sh (L : Nat) (m : Int) : Nat := lenV m - 1 - L
def qF (L : Nat) (m : Int) : Int := m / 2 ^ sh L m
def kF (L k : Nat) : Int := (k : Int) * 2 ^ L
def idx (L : Nat) (m : Int) : Int := kF L (sh L m) + qF L m

theorem shift_any (B L : Nat) (m : Int) (w : World) (h0 : 0 ≤ m) (h1 : m ≤ 18446744073709551615) (hL : L ≤ 14) (hc : w.cell? ⟨B, 1, none⟩ = some (.int .i64 L)) :
    Calls Tryz.prog 142 #[.pointer (some ⟨B, 0, none⟩), .int .u64 m] w fun e w' => e = .returned (.int .i64 (sh L m)) ∧ w = w' := by
  have hl := lenV_le m h1
  have HS := Lib.hid (show max ((lenV m : Int) - 1 - L) 0 = (sh L m : Int) by unfold sh; omega)
  go_enter Tryz.func142, Tryz.ntmps142
  go_wp2_with (go_at_call 148; refine (log_any _ _ (by omega) (by omega)).mono ?_; rintro e w' ⟨rfl, rfl⟩)
  go_ret
  exact ⟨ret_int HS.out, rfl⟩

theorem bitLen_pos (x : Nat) (h : 1 ≤ x) (h' : x < 2 ^ 64) : 1 ≤ Lib.bitLen x := by
  have := Lib.bitLen_half x (by omega) h'; omega
theorem bitLen_lo (x : Nat) (h : 1 ≤ x) (h' : x < 2 ^ 64) : 2 ^ (Lib.bitLen x - 1) ≤ x := by
  have hp := bitLen_pos x h h'
  have hl := Lib.bitLen_le x 64 (by decide) h'
  refine Nat.le_of_not_lt fun hlt => ?_
  have := Lib.bitLen_le x (Lib.bitLen x - 1) (by omega) hlt
  omega
theorem bitLen_hi (x : Nat) (h' : x < 2 ^ 64) : x < 2 ^ Lib.bitLen x := by
  refine Nat.lt_of_not_le fun hle => ?_
  have h1 := Lib.bitLen_shift (Lib.bitLen x) x hle h'
  have h2 : 1 ≤ x / 2 ^ Lib.bitLen x := (Nat.one_le_div_iff (Nat.two_pow_pos _)).2 hle
  have h3 := bitLen_pos (x / 2 ^ Lib.bitLen x) h2 (Nat.lt_of_le_of_lt (Nat.div_le_self _ _) h')
  omega
theorem pow_cast (k : Nat) : (2 : Int) ^ k = ((2 ^ k : Nat) : Int) := by simp

/-- what is left of a magnitude has at most so many bits and one -/
theorem q_nat (L : Nat) (m : Int) (h0 : 1 ≤ m) : qF L m = ((m.toNat / 2 ^ sh L m : Nat) : Int) := by
  unfold qF; rw [pow_cast, Int.natCast_ediv, show ((m.toNat : Nat) : Int) = m from by omega]
theorem q_bd (L : Nat) (m : Int) (h0 : 1 ≤ m) (h1 : m ≤ 9223372036854775808) (hL : L ≤ 14) : sh L m ≤ 63 - L ∧ 1 ≤ qF L m ∧ qF L m < 2 * 2 ^ L ∧ (sh L m ≠ 0 → 2 ^ L ≤ qF L m) := by
  have b1 := bitLen_lo m.toNat (by omega) (by rw [e64]; omega)
  have b2 := bitLen_hi m.toNat (by rw [e64]; omega)
  have b3 := bitLen_pos m.toNat (by omega) (by rw [e64]; omega)
  have b4 : Lib.bitLen m.toNat ≤ 64 := lenV_le m (by omega)
  have e0 : lenV m = Lib.bitLen m.toNat := rfl
  rw [q_nat L m h0, pow_cast]
  unfold sh
  rw [e0]
  have hk : 2 ^ (Lib.bitLen m.toNat - 1 - L) ≤ 2 ^ (Lib.bitLen m.toNat - 1) := Nat.pow_le_pow_right (by decide) (by omega)
  have hp := Nat.two_pow_pos (Lib.bitLen m.toNat - 1 - L)
  have c1 : 1 ≤ m.toNat / 2 ^ (Lib.bitLen m.toNat - 1 - L) := (Nat.one_le_div_iff hp).2 (by omega)
  have c2 : m.toNat / 2 ^ (Lib.bitLen m.toNat - 1 - L) < 2 * 2 ^ L := by
    rw [Nat.div_lt_iff_lt_mul hp]
    have : 2 ^ Lib.bitLen m.toNat ≤ 2 * 2 ^ L * 2 ^ (Lib.bitLen m.toNat - 1 - L) := by
      rw [show 2 * 2 ^ L = 2 ^ (L + 1) from by rw [Nat.pow_succ]; omega, ← Nat.pow_add]
      exact Nat.pow_le_pow_right (by decide) (by omega)
    omega
  refine ⟨by omega, by omega, by omega, fun hne => ?_⟩
  have c3 : 2 ^ L ≤ m.toNat / 2 ^ (Lib.bitLen m.toNat - 1 - L) := by
    rw [Nat.le_div_iff_mul_le hp, ← Nat.pow_add, show L + (Lib.bitLen m.toNat - 1 - L) = Lib.bitLen m.toNat - 1 from by omega]
    exact b1
  omega
theorem pL_bd (L : Nat) (hL : L ≤ 14) : 1 ≤ (2 : Int) ^ L ∧ (2 : Int) ^ L ≤ 16384 := by
  rw [pow_cast]
  have h1 : 1 ≤ 2 ^ L := Nat.one_le_two_pow
  have h2 : 2 ^ L ≤ 2 ^ 14 := Nat.pow_le_pow_right (by decide) hL
  omega
theorem kF_bd (L k : Nat) (hL : L ≤ 14) (hk : k ≤ 63) : 0 ≤ kF L k ∧ kF L k ≤ 1032192 := by
  have ⟨p1, p2⟩ := pL_bd L hL
  unfold kF
  have h1 : 0 ≤ (k : Int) * 2 ^ L := Int.mul_nonneg (by omega) (by omega)
  have h2 : (k : Int) * 2 ^ L ≤ 63 * 2 ^ L := Int.mul_le_mul_of_nonneg_right (by omega) (by omega)
  omega

theorem idx_bd (L : Nat) (m : Int) (h0 : 1 ≤ m) (h1 : m ≤ 9223372036854775808) (hL : L ≤ 14) : 1 ≤ idx L m ∧ idx L m ≤ 1064960 := by
  obtain ⟨s1, s2, s3, _⟩ := q_bd L m h0 h1 hL
  have ⟨p1, p2⟩ := pL_bd L hL
  have ⟨k1, k2⟩ := kF_bd L (sh L m) hL (by omega)
  unfold idx; omega
theorem idx_wrap (L : Nat) (m : Int) (h0 : 1 ≤ m) (h1 : m ≤ 9223372036854775808) (hL : L ≤ 14) : wrap64 (wrap64 ((sh L m : Int) * 2 ^ L) + wrap64 (m / 2 ^ sh L m)) = idx L m := by
  obtain ⟨s1, s2, s3, _⟩ := q_bd L m h0 h1 hL
  have ⟨p1, p2⟩ := pL_bd L hL
  have ⟨k1, k2⟩ := kF_bd L (sh L m) hL (by omega)
  show wrap64 (wrap64 (kF L (sh L m)) + wrap64 (qF L m)) = kF L (sh L m) + qF L m
  unfold wrap64; omega

theorem index_no (B : Nat) (m : Int) (w : World) (h : m = 0 ∨ 9223372036854775808 < m) :
    Calls Tryz.prog 132 #[.pointer (some ⟨B, 0, none⟩), .int .u64 m] w fun e w' => e = .returned (.tuple #[.int .i64 0, .bool false]) ∧ w = w' := by
  rcases h with h | h
  · have hz : (m == 0) = true := beq_iff_eq.2 h
    clear h
    go_enter Tryz.func132, Tryz.ntmps132
    go_wp2
    go_ret2
    exact ⟨rfl, rfl⟩
  · have hz : (m == 0) = false := beq_eq_false_iff_ne.2 (by omega)
    go_enter Tryz.func132, Tryz.ntmps132
    go_wp2
    go_ret2
    exact ⟨rfl, rfl⟩
theorem index_yes (B L : Nat) (m : Int) (w : World) (h0 : 1 ≤ m) (h1 : m ≤ 9223372036854775808) (hL : L ≤ 14) (hc : w.cell? ⟨B, 1, none⟩ = some (.int .i64 L)) :
    Calls Tryz.prog 132 #[.pointer (some ⟨B, 0, none⟩), .int .u64 m] w fun e w' => e = .returned (.tuple #[.int .i64 (idx L m), .bool true]) ∧ Drew w w' := by
  obtain ⟨s1, s2, s3, _⟩ := q_bd L m h0 h1 hL
  have ⟨p1, p2⟩ := pL_bd L hL
  have hz : (m == 0) = false := beq_eq_false_iff_ne.2 (by omega)
  have HI := Lib.hid (idx_wrap L m h0 h1 hL)
  go_enter Tryz.func132, Tryz.ntmps132
  go_wp2_with (go_at_call 142; refine (shift_any _ _ _ _ (by omega) (by omega) hL hc).mono ?_; rintro e w' ⟨rfl, rfl⟩)
  go_quiet (fail)
  go_wp2
  go_ret2
  exact ⟨by rw [HI.out]; rfl, Drew.of _ _⟩

/-- the last index; a span's cut, what is left of its magnitudes, its least and its greatest one, its middle -/
def lastI (L : Nat) : Int := idx L 9223372036854775808
def spanB (L : Nat) (i : Int) : Bool := decide (1 ≤ i) && decide (i ≤ lastI L)
def cutF (L : Nat) (i : Int) : Nat := (i / 2 ^ L - 1).toNat
def remF (L : Nat) (i : Int) : Int := i - kF L (cutF L i)
def lowS (L : Nat) (i : Int) : Int := if spanB L i then remF L i * 2 ^ cutF L i else 0
def highS (L : Nat) (i : Int) : Int := if spanB L i then min (lowS L i + (2 ^ cutF L i - 1)) 9223372036854775808 else 0
def repS (L : Nat) (i : Int) : Int := lowS L i + (highS L i - lowS L i) / 2

theorem parts_no (B L : Nat) (i : Int) (w : World) (hL : L ≤ 14) (hc : w.cell? ⟨B, 1, none⟩ = some (.int .i64 L)) (hi : spanB L i = false) :
    Calls Tryz.prog 124 #[.pointer (some ⟨B, 0, none⟩), .int .i64 i] w fun e w' => e = .returned (.tuple #[.int .i64 0, .int .u64 0, .bool false]) ∧ Drew w w' := by
  have e : lastI L = idx L 9223372036854775808 := rfl
  have ⟨i1, i2⟩ := idx_bd L 9223372036854775808 (by omega) (by omega) hL
  rw [← e] at i1 i2
  have hlo : ¬ (1 ≤ i ∧ i ≤ lastI L) := by
    intro hh; unfold spanB at hi; simp [hh.1, hh.2] at hi
  have HE := Lib.hid e
  clear e hi
  by_cases h1 : 1 ≤ i
  · have h2 : lastI L < i := by omega
    go_enter Tryz.func124, Tryz.ntmps124
    go_wp2_with fail
    refine (index_yes _ _ _ _ (by omega) (by omega) hL hc).mono ?_
    rintro e w' ⟨rfl, n, rfl⟩
    rw [← HE.out]
    go_wp2
    go_ret3
    exact ⟨rfl, Drew.of _ _⟩
  · go_enter Tryz.func124, Tryz.ntmps124
    go_wp2_with fail
    refine (index_yes _ _ _ _ (by omega) (by omega) hL hc).mono ?_
    rintro e w' ⟨rfl, n, rfl⟩
    rw [← HE.out]
    go_wp2
    go_ret3
    exact ⟨rfl, Drew.of _ _⟩
theorem sh_top (L : Nat) : sh L 9223372036854775808 = 63 - L := by
  have : Lib.bitLen 9223372036854775808 = 64 := by decide +kernel
  show Lib.bitLen (9223372036854775808 : Int).toNat - 1 - L = _
  rw [show (9223372036854775808 : Int).toNat = 9223372036854775808 from rfl, this]
theorem last_is (L : Nat) (hL : L ≤ 14) : lastI L = (64 - (L : Int)) * 2 ^ L := by
  unfold lastI idx kF qF
  rw [sh_top L]
  have e : (9223372036854775808 : Int) = 2 ^ L * 2 ^ (63 - L) := by
    rw [← Int.pow_add, show L + (63 - L) = 63 from by omega]; rfl
  have e2 : (9223372036854775808 : Int) / 2 ^ (63 - L) = 2 ^ L := by
    rw [e]; exact Int.mul_ediv_cancel _ (by have := Int.pow_pos (n := 2) (m := 63 - L) (by decide); omega)
  rw [e2, show ((63 - L : Nat) : Int) = 63 - (L : Int) from by omega, show (64 - (L : Int)) = (63 - L) + 1 from by omega, Int.add_mul, Int.one_mul]

/-- the quotient and what is left of an index by the power -/
theorem cut_cases (L : Nat) (i : Int) (hL : L ≤ 14) (h1 : 1 ≤ i) (h2 : i ≤ lastI L) :
    (i < 2 ^ L ∧ cutF L i = 0 ∧ remF L i = i ∧ i / 2 ^ L = 0) ∨ (2 ^ L ≤ i ∧ (cutF L i : Int) = i / 2 ^ L - 1 ∧ 1 ≤ i / 2 ^ L ∧ i / 2 ^ L ≤ 64 - L ∧ 2 ^ L ≤ remF L i ∧ remF L i < 2 * 2 ^ L ∧ (i / 2 ^ L = 64 - L → remF L i = 2 ^ L)) := by
  have ⟨p1, p2⟩ := pL_bd L hL
  rw [last_is L hL] at h2
  by_cases hlt : i < 2 ^ L
  · left
    have e : i / 2 ^ L = 0 := Int.ediv_eq_zero_of_lt (by omega) hlt
    have c : cutF L i = 0 := by unfold cutF; rw [e]; rfl
    refine ⟨hlt, c, ?_, e⟩
    unfold remF kF; rw [c]; simp
  · right
    have hp : (0 : Int) < 2 ^ L := by omega
    have d1 : 1 ≤ i / 2 ^ L := (Int.le_ediv_iff_mul_le hp).2 (by omega)
    have d2 : i / 2 ^ L ≤ 64 - L := by
      have := Int.ediv_le_ediv hp h2
      rw [Int.mul_ediv_cancel _ (by omega)] at this
      exact this
    have d3 := Int.mul_ediv_add_emod i (2 ^ L)
    have d4 := Int.emod_nonneg i (show (2 : Int) ^ L ≠ 0 by omega)
    have d5 := Int.emod_lt_of_pos i hp
    have c : (cutF L i : Int) = i / 2 ^ L - 1 := by unfold cutF; omega
    have r : remF L i = i % 2 ^ L + 2 ^ L := by
      unfold remF kF
      rw [c, Int.sub_mul, Int.one_mul]
      have : 2 ^ L * (i / 2 ^ L) = i / 2 ^ L * 2 ^ L := Int.mul_comm _ _
      omega
    refine ⟨by omega, c, d1, d2, by omega, by omega, fun hx => ?_⟩
    rw [hx] at d3
    have : 2 ^ L * (64 - (L : Int)) = (64 - (L : Int)) * 2 ^ L := Int.mul_comm _ _
    omega

theorem cut_wrap (L : Nat) (i : Int) (hL : L ≤ 14) (h1 : 1 ≤ i) (h2 : i ≤ lastI L) : max (wrap64 (i / 2 ^ L - 1)) 0 = (cutF L i : Int) := by
  have hc := cut_cases L i hL h1 h2
  unfold wrap64
  rcases hc with ⟨_, c, _, e⟩ | ⟨_, c, d1, d2, _⟩
  · rw [e, c]; decide
  · omega
theorem rem_wrap (L : Nat) (i : Int) (hL : L ≤ 14) (h1 : 1 ≤ i) (h2 : i ≤ lastI L) (h3 : lastI L ≤ 1064960) : IntKind.u64.wrap (wrap64 (i - wrap64 ((cutF L i : Int) * 2 ^ L))) = remF L i := by
  have hc := cut_cases L i hL h1 h2
  have ⟨p1, p2⟩ := pL_bd L hL
  have hk : cutF L i ≤ 63 := by
    rcases hc with ⟨_, c, _, _⟩ | ⟨_, c, _, d2, _⟩ <;> omega
  have ⟨k1, k2⟩ := kF_bd L (cutF L i) hL hk
  have hr : 0 ≤ remF L i ∧ remF L i ≤ 32768 := by
    rcases hc with ⟨_, _, r, _⟩ | ⟨_, _, _, _, r1, r2, _⟩ <;> omega
  have e : remF L i = i - kF L (cutF L i) := rfl
  show IntKind.u64.wrap (wrap64 (i - wrap64 (kF L (cutF L i)))) = _
  rw [IntKind.wrap_u64]
  unfold wrap64; omega

theorem parts_yes (B L : Nat) (i : Int) (w : World) (hL : L ≤ 14) (hc : w.cell? ⟨B, 1, none⟩ = some (.int .i64 L)) (hi : spanB L i = true) :
    Calls Tryz.prog 124 #[.pointer (some ⟨B, 0, none⟩), .int .i64 i] w fun e w' => e = .returned (.tuple #[.int .i64 (cutF L i), .int .u64 (remF L i), .bool true]) ∧ Drew w w' := by
  have e : lastI L = idx L 9223372036854775808 := rfl
  have ⟨i1, i2⟩ := idx_bd L 9223372036854775808 (by omega) (by omega) hL
  rw [← e] at i1 i2
  obtain ⟨h1, h2⟩ : 1 ≤ i ∧ i ≤ lastI L := by unfold spanB at hi; simpa using hi
  have HE := Lib.hid e
  have ⟨p1, p2⟩ := pL_bd L hL
  have H1 := Lib.hid (cut_wrap L i hL h1 h2)
  have H2 := Lib.hid (rem_wrap L i hL h1 h2 i2)
  clear e hi
  go_enter Tryz.func124, Tryz.ntmps124
  go_wp2_with fail
  refine (index_yes _ _ _ _ (by omega) (by omega) hL hc).mono ?_
  rintro e w' ⟨rfl, n, rfl⟩
  rw [← HE.out]
  go_wp2
  go_quiet (fail)
  go_wp2
  rw [H1.out, H2.out]
  go_ret3
  exact ⟨rfl, ⟨n + nq, by rw [World.drewN_drewN]⟩⟩

/-- a span's least magnitude, and the next one's, in numbers that cannot be less than 0 -/
theorem span_bd (L : Nat) (i : Int) (hL : L ≤ 14) (hi : spanB L i = true) : cutF L i ≤ 63 - L ∧ 1 ≤ remF L i ∧ lowS L i = remF L i * 2 ^ cutF L i ∧ 1 ≤ lowS L i ∧ lowS L i ≤ 9223372036854775808 ∧ (1 : Int) ≤ 2 ^ cutF L i ∧ (2 : Int) ^ cutF L i ≤ 9223372036854775808 := by
  obtain ⟨h1, h2⟩ : 1 ≤ i ∧ i ≤ lastI L := by unfold spanB at hi; simpa using hi
  have ⟨p1, p2⟩ := pL_bd L hL
  have hc := cut_cases L i hL h1 h2
  have hlow : lowS L i = remF L i * 2 ^ cutF L i := by unfold lowS; rw [hi]; rfl
  have hk : cutF L i ≤ 63 - L := by
    rcases hc with ⟨_, c, _, _⟩ | ⟨_, c, _, d2, _⟩ <;> omega
  have hr : 1 ≤ remF L i := by
    rcases hc with ⟨_, _, r, _⟩ | ⟨_, _, _, _, r1, r2, _⟩ <;> omega
  have t1 : (1 : Int) ≤ 2 ^ cutF L i := by rw [pow_cast]; have := Nat.one_le_two_pow (n := cutF L i); omega
  have t2 : (2 : Int) ^ cutF L i ≤ 9223372036854775808 := by
    rw [pow_cast]
    have : 2 ^ cutF L i ≤ 2 ^ 63 := Nat.pow_le_pow_right (by decide) (by omega)
    omega
  have hlo : 1 ≤ lowS L i := by
    rw [hlow]
    have := Int.mul_le_mul hr t1 (by omega) (by omega)
    omega
  refine ⟨hk, hr, hlow, hlo, ?_, t1, t2⟩
  rw [hlow]
  have e63 : (2 : Int) ^ L * 2 ^ (63 - L) = 9223372036854775808 := by
    rw [← Int.pow_add, show L + (63 - L) = 63 from by omega]; rfl
  have b : remF L i ≤ 2 ^ L ∧ cutF L i ≤ 63 - L ∨ remF L i ≤ 2 * 2 ^ L ∧ cutF L i + 1 ≤ 63 - L := by
    rcases hc with ⟨_, c, r, _⟩ | ⟨_, c, _, d2, r1, r2, r3⟩
    · left; omega
    · by_cases hx : i / 2 ^ L = 64 - L
      · left; have := r3 hx; omega
      · right; omega
  rcases b with ⟨b1, b2⟩ | ⟨b1, b2⟩
  · have m1 : (2 : Int) ^ cutF L i ≤ 2 ^ (63 - L) := by
      rw [pow_cast, pow_cast]
      have : 2 ^ cutF L i ≤ 2 ^ (63 - L) := Nat.pow_le_pow_right (by decide) b2
      omega
    have := Int.mul_le_mul b1 m1 (by omega) (by omega)
    omega
  · have m1 : 2 * (2 : Int) ^ cutF L i ≤ 2 ^ (63 - L) := by
      rw [pow_cast, pow_cast]
      have : 2 ^ (cutF L i + 1) ≤ 2 ^ (63 - L) := Nat.pow_le_pow_right (by decide) b2
      rw [Nat.pow_succ] at this
      omega
    have m2 := Int.mul_le_mul b1 (Int.le_refl (2 ^ cutF L i)) (by omega) (by omega)
    have m3 := Int.mul_le_mul (Int.le_refl (2 ^ L)) m1 (by omega) (by omega)
    have e : 2 * 2 ^ L * (2 : Int) ^ cutF L i = 2 ^ L * (2 * 2 ^ cutF L i) := by rw [Int.mul_comm 2, Int.mul_assoc]
    omega

theorem range_no (B L : Nat) (i : Int) (w : World) (hL : L ≤ 14) (hc : w.cell? ⟨B, 1, none⟩ = some (.int .i64 L)) (hi : spanB L i = false) :
    Calls Tryz.prog 113 #[.pointer (some ⟨B, 0, none⟩), .int .i64 i] w fun e w' => e = .returned (.tuple #[.int .u64 (lowS L i), .int .u64 (highS L i)]) ∧ Drew w w' := by
  have e1 : lowS L i = 0 := by unfold lowS; rw [hi]; rfl
  have e2 : highS L i = 0 := by unfold highS; rw [hi]; rfl
  rw [e1, e2]; clear e1 e2
  go_enter Tryz.func113, Tryz.ntmps113
  go_wp2_with fail
  refine (parts_no _ _ _ _ hL hc hi).mono ?_
  rintro e w' ⟨rfl, n, rfl⟩
  go_wp2
  go_ret2
  exact ⟨rfl, Drew.of _ _⟩
theorem range_yes (B L : Nat) (i : Int) (w : World) (hL : L ≤ 14) (hc : w.cell? ⟨B, 1, none⟩ = some (.int .i64 L)) (hi : spanB L i = true) :
    Calls Tryz.prog 113 #[.pointer (some ⟨B, 0, none⟩), .int .i64 i] w fun e w' => e = .returned (.tuple #[.int .u64 (lowS L i), .int .u64 (highS L i)]) ∧ Drew w w' := by
  obtain ⟨b1, b2, b3, b4, b5, b6, b7⟩ := span_bd L i hL hi
  have f1 : IntKind.u64.wrap (remF L i * 2 ^ cutF L i) = lowS L i := by rw [← b3, IntKind.wrap_u64]; omega
  have f2 : IntKind.u64.wrap (2 ^ cutF L i) = 2 ^ cutF L i := by rw [IntKind.wrap_u64]; omega
  have HH := Lib.hid (show min (lowS L i + (2 ^ cutF L i - 1)) 9223372036854775808 = highS L i by unfold highS; rw [hi]; rfl)
  clear b3
  go_enter Tryz.func113, Tryz.ntmps113
  go_wp2_with fail
  refine (parts_yes _ _ _ _ hL hc hi).mono ?_
  rintro e w' ⟨rfl, n, rfl⟩
  go_wp2
  go_quiet (fail)
  go_wp2
  rw [HH.out]
  go_ret2
  exact ⟨rfl, ⟨n + nq, by rw [World.drewN_drewN]⟩⟩
theorem range_any (B L : Nat) (i : Int) (w : World) (hL : L ≤ 14) (hc : w.cell? ⟨B, 1, none⟩ = some (.int .i64 L)) :
    Calls Tryz.prog 113 #[.pointer (some ⟨B, 0, none⟩), .int .i64 i] w fun e w' => e = .returned (.tuple #[.int .u64 (lowS L i), .int .u64 (highS L i)]) ∧ Drew w w' := by
  cases hi : spanB L i
  · exact range_no B L i w hL hc hi
  · exact range_yes B L i w hL hc hi
theorem span_le (L : Nat) (i : Int) (hL : L ≤ 14) : 0 ≤ lowS L i ∧ lowS L i ≤ highS L i ∧ highS L i ≤ 9223372036854775808 := by
  cases hi : spanB L i
  · have e1 : lowS L i = 0 := by unfold lowS; rw [hi]; rfl
    have e2 : highS L i = 0 := by unfold highS; rw [hi]; rfl
    omega
  · obtain ⟨b1, b2, b3, b4, b5, b6, b7⟩ := span_bd L i hL hi
    have e2 : highS L i = min (lowS L i + (2 ^ cutF L i - 1)) 9223372036854775808 := by unfold highS; rw [hi]; rfl
    omega
theorem rep_any (B L : Nat) (i : Int) (w : World) (hL : L ≤ 14) (hc : w.cell? ⟨B, 1, none⟩ = some (.int .i64 L)) :
    Calls Tryz.prog 92 #[.pointer (some ⟨B, 0, none⟩), .int .i64 i] w fun e w' => e = .returned (.int .u64 (repS L i)) ∧ Drew w w' := by
  have ⟨a1, a2, a3⟩ := span_le L i hL
  go_enter Tryz.func92, Tryz.ntmps92
  go_wp2_with (go_at_call 113; refine (range_any _ _ _ _ hL hc).mono ?_; rintro e w' ⟨rfl, n, rfl⟩)
  go_ret
  exact ⟨ret_int rfl, Drew.of _ _⟩
/-- the powers of ten, as the program's table holds them -/
structure Tens (w : World) : Prop where
  c0 : w.cell? ⟨0, 0, none⟩ = some (.int .u64 1)
  c1 : w.cell? ⟨0, 1, none⟩ = some (.int .u64 10)
  c2 : w.cell? ⟨0, 2, none⟩ = some (.int .u64 100)
  c3 : w.cell? ⟨0, 3, none⟩ = some (.int .u64 1000)
  c4 : w.cell? ⟨0, 4, none⟩ = some (.int .u64 10000)
def ten (d : Nat) : Int := 10 ^ d
theorem Tens.at {w : World} (h : Tens w) (d : Nat) (hd : d ≤ 4) : w.cell? ⟨0, d, none⟩ = some (.int .u64 (ten d)) := by
  rcases (show d = 0 ∨ d = 1 ∨ d = 2 ∨ d = 3 ∨ d = 4 by omega) with rfl | rfl | rfl | rfl | rfl
  · exact h.c0
  · exact h.c1
  · exact h.c2
  · exact h.c3
  · exact h.c4
theorem Tens.lt {w : World} (h : Tens w) : 0 < w.heap.size := World.block_lt_of_cell? w _ h.c0
theorem Tens.next {w w' : World} (h : Tens w) (hb : Below w.heap.size w w') : Tens w' :=
  ⟨by rw [hb.cell (p := ⟨0, 0, none⟩) h.lt]; exact h.c0, by rw [hb.cell (p := ⟨0, 1, none⟩) h.lt]; exact h.c1, by rw [hb.cell (p := ⟨0, 2, none⟩) h.lt]; exact h.c2,
   by rw [hb.cell (p := ⟨0, 3, none⟩) h.lt]; exact h.c3, by rw [hb.cell (p := ⟨0, 4, none⟩) h.lt]; exact h.c4⟩
/-- so many digits: the power of two that isn't below so many tens -/
def logD (d : Nat) : Nat := if d = 1 then 4 else if d = 2 then 7 else if d = 3 then 10 else 14
theorem logD_le (d : Nat) : 4 ≤ logD d ∧ logD d ≤ 14 := by unfold logD; split <;> (try split) <;> (try split) <;> omega
theorem ten_log (d k : Nat) (h1 : 1 ≤ d) (h2 : d ≤ 4) (hk : k ≤ logD d) : decide ((2 : Int) ^ k < ten d) = decide (k < logD d) := by
  have all : ∀ d : Fin 5, ∀ k : Fin 15, 1 ≤ d.val → k.val ≤ logD d.val → decide ((2 : Int) ^ k.val < ten d.val) = decide (k.val < logD d.val) := by decide +kernel
  have := logD_le d
  exact all ⟨d, by omega⟩ ⟨k, by omega⟩ h1 hk

/-- block B holds a span of d digits and power L; the table is as it was; below the heap's size at the call's beginning nothing has changed -/
structure Sp (w0 : World) (B : Nat) (d L : Nat) (w : World) : Prop where
  c0 : w.cell? ⟨B, 0, none⟩ = some (.int .i64 d)
  c1 : w.cell? ⟨B, 1, none⟩ = some (.int .i64 L)
  tens : Tens w
  below : Below w0.heap.size w0 w
  lt : B < w.heap.size
  ge : w0.heap.size ≤ B
theorem Sp.next {w0 w w' : World} {B d L : Nat} (h : Sp w0 B d L w) (hb : Below w.heap.size w w') : Sp w0 B d L w' :=
  ⟨by rw [hb.cell (p := ⟨B, 0, none⟩) h.lt]; exact h.c0, by rw [hb.cell (p := ⟨B, 1, none⟩) h.lt]; exact h.c1, h.tens.next hb, h.below.trans (hb.mono h.below.size), Nat.lt_of_lt_of_le h.lt hb.size, h.ge⟩
theorem Drew.below {w w' : World} (h : Drew w w') : Below w.heap.size w w' := by obtain ⟨n, rfl⟩ := h; exact below_drewN (Below.refl _ _) _

theorem Sp.put {w0 w : World} {B d k : Nat} (h : Sp w0 B d k w) (hB : 0 < B) : Sp w0 B d (k + 1) (w.setCell ⟨B, 1, none⟩ (.int .i64 ((k : Int) + 1))) := by
  have hne : (0 : Nat) ≠ B := by omega
  exact ⟨by simp [go_sem, h.c0], by simp [go_sem, h.c1], ⟨by simp [go_sem, h.tens.c0], by simp [go_sem, h.tens.c1], by simp [go_sem, h.tens.c2], by simp [go_sem, h.tens.c3], by simp [go_sem, h.tens.c4]⟩, h.below.setCell h.ge _, by simpa using h.lt, h.ge⟩
theorem new_bad (d : Int) (w : World) (h : d < 1 ∨ 4 < d) :
    Calls Tryz.prog 65 #[.int .i64 d] w fun e w' => e = .returned (.tuple #[.pointer none, .int .i64 1]) ∧ w = w' := by
  rcases h with h | h
  · go_enter Tryz.func65, Tryz.ntmps65
    go_wp2
    go_ret2
    exact ⟨rfl, rfl⟩
  · go_enter Tryz.func65, Tryz.ntmps65
    go_wp2
    go_ret2
    exact ⟨rfl, rfl⟩
theorem new_good (d : Nat) (w : World) (h1 : 1 ≤ d) (h2 : d ≤ 4) (ht : Tens w) :
    Calls Tryz.prog 65 #[.int .i64 d] w fun e w' => e = .returned (.tuple #[.pointer (some ⟨w.heap.size, 0, none⟩), .int .i64 0]) ∧ Sp w w.heap.size d (logD d) w' := by
  have ⟨g1, g2⟩ := logD_le d
  have hl := ht.lt
  go_enter Tryz.func65, Tryz.ntmps65
  go_wp2
  go_loopw [17] (fun _ wr => ∃ k : Nat, k ≤ logD d ∧ Sp w w.heap.size d k wr ∧ wr.frozen? ⟨w.heap.size, 1, none⟩ = false) (fun _ wr => logD d - (RowKit.intOf ((wr.cell? ⟨w.heap.size, 1, none⟩).getD (.int .i64 0))).toNat)
  case atStart =>
    refine ⟨0, by omega, ⟨by simp, by simp, ?_, (Below.refl _ _).alloc (Nat.le_refl _) _, by simp, Nat.le_refl _⟩, by simp⟩
    exact ht.next ((Below.refl _ _).alloc (Nat.le_refl _) _)
  case round =>
    obtain ⟨k, hk, H, hf⟩ := hrel
    have c1 := H.c1
    have c := H.tens.at d h2
    have hlt := H.lt
    have f2 : IntKind.u64.wrap (2 ^ k) = 2 ^ k := by
      have h14 : 2 ^ k ≤ 2 ^ 14 := Nat.pow_le_pow_right (by decide) (by omega)
      have hp : (0 : Int) ≤ ((2 ^ k : Nat) : Int) := Int.natCast_nonneg _
      rw [IntKind.wrap_u64, pow_cast]; omega
    by_cases hlt2 : k < logD d
    · have f3 : decide ((2 : Int) ^ k < ten d) = true := by rw [ten_log d k h1 h2 hk]; simp [hlt2]
      go_wp2_with fail
      go_quiet (fail)
      go_wp2
      have H2 : Sp w w.heap.size d k (wr.drewN nq) := H.next (below_drewN (Below.refl _ _) _)
      have hm : (wr.cell? ⟨w.heap.size, 1, none⟩).getD (.int .i64 0) = .int .i64 k := by rw [c1]; rfl
      have hm2 : (((wr.drewN nq).setCell ⟨w.heap.size, 1, none⟩ (.int .i64 ((k : Int) + 1))).cell? ⟨w.heap.size, 1, none⟩).getD (.int .i64 0) = .int .i64 ((k + 1 : Nat) : Int) := by rw [(H2.put hl).c1]; rfl
      refine ⟨⟨k + 1, by omega, H2.put hl, ?_⟩, ?_⟩
      · rw [World.frozen?_setCell]; simpa using hf
      · rw [hm, hm2]; simp [RowKit.intOf]; omega
    · have f3 : decide ((2 : Int) ^ k < ten d) = false := by rw [ten_log d k h1 h2 hk]; simp [hlt2]
      obtain rfl : k = logD d := by omega
      go_wp2_with fail
      go_quiet (fail)
      go_wp2
      go_ret2
      exact ⟨rfl, H.next (below_drewN (Below.refl _ _) _)⟩
end Go.Proofs.YtbejdajkkoapgaaGreatDoor.Sp

/-
  Contracts of LeadingZeros64 and Div64 of the library's math bits: the quotient and what is left; the world is as it was, but for draws. Conditions: the upper half is less than what it is divided by.
-/
set_option linter.unusedVariables false
set_option linter.unusedSimpArgs false
namespace Go.Proofs.YtbejdajkkoapgaaGreatDoor.Wd
open Go.RowKit Go.Lib
open Sp (Drew)

theorem lead_any (y : Nat) (w : World) (h : y < 18446744073709551616) :
    Calls Tryz.prog 135 #[.int .u64 y] w fun e w' => e = .returned (.int .i64 ((64 - Lib.bitLen y : Nat) : Int)) ∧ w = w' := by
  have hl := Lib.bitLen_le y 64 (by decide) (by simpa using h)
  have e : (((y : Int)).toNat) = y := by omega
  go_enter Tryz.func135, Tryz.ntmps135
  go_wp2_with (go_at_call 144; refine (len64_any _ _ (by omega) (by omega)).mono ?_; rintro e w' ⟨rfl, rfl⟩)
  go_ret
  exact ⟨Sp.ret_int (by omega), rfl⟩

set_option maxHeartbeats 4000000 in
set_option maxRecDepth 100000 in
theorem div64_nat (hi lo y : Nat) (w : World) (h1 : hi < y) (h2 : y < 18446744073709551616) (h3 : lo < 18446744073709551616) :
    Calls Tryz.prog 128 #[.int .u64 hi, .int .u64 lo, .int .u64 y] w fun e w' => e = .returned (.tuple #[.int .u64 (((hi * 18446744073709551616 + lo) / y : Nat) : Int), .int .u64 (((hi * 18446744073709551616 + lo) % y : Nat) : Int)]) ∧ Drew w w' := by
  have hy0 : ¬ ((y : Int) = 0) := by omega
  have hy1 : ¬ ((y : Int) ≤ (hi : Int)) := by omega
  by_cases hz : hi = 0
  · subst hz
    go_enter Tryz.func128, Tryz.ntmps128
    go_wp2
    go_quiet (fail)
    go_wp2
    go_ret2
    refine ⟨?_, Sp.Drew.of _ _⟩
    have q1 : lo / y ≤ lo := Nat.div_le_self _ _
    have q2 : IntKind.u64.wrap ((lo : Int) / (y : Int)) = ((lo / y : Nat) : Int) := by rw [← Int.natCast_ediv]; exact wrapN _ (Nat.lt_of_le_of_lt q1 h3)
    have q3 : ((lo : Int) % (y : Int)) = ((lo % y : Nat) : Int) := (Int.natCast_emod lo y).symm
    rw [q2, q3, Nat.zero_mul, Nat.zero_add]; rfl
  · have hz' : ¬ ((hi : Int) = 0) := by omega
    obtain ⟨s, hs⟩ : ∃ s, s = 64 - Lib.bitLen y := ⟨_, rfl⟩
    have hb1 := Sp.bitLen_lo y (by omega) (by simpa using h2)
    have hb2 := Sp.bitLen_hi y (by simpa using h2)
    have hb3 := Sp.bitLen_pos y (by omega) (by simpa using h2)
    have hb4 := Lib.bitLen_le y 64 (by decide) (by simpa using h2)
    have hsl : s ≤ 63 := by omega
    have hlead := fun w => lead_any y w h2
    rw [← hs] at hlead
    obtain ⟨Y, hY⟩ : ∃ Y, Y = y * 2 ^ s := ⟨_, rfl⟩
    have Y1 : 9223372036854775808 ≤ Y := by
      have : 2 ^ (Lib.bitLen y - 1) * 2 ^ s ≤ Y := by rw [hY]; exact Nat.mul_le_mul_right _ hb1
      rw [← Nat.pow_add, show Lib.bitLen y - 1 + s = 63 from by omega] at this
      omega
    have Y2 : Y < 18446744073709551616 := by
      have : Y < 2 ^ Lib.bitLen y * 2 ^ s := by rw [hY]; exact Nat.mul_lt_mul_of_pos_right hb2 (Nat.two_pow_pos _)
      rw [← Nat.pow_add, show Lib.bitLen y + s = 64 from by omega] at this
      omega
    have HS := Lib.hid hs
    have HYY := Lib.hid hY
    have fY : IntKind.u64.wrap ((y : Int) * 2 ^ s) = (Y : Int) := by
      rw [Sp.pow_cast, mulN, ← hY]; exact wrapN Y Y2
    obtain ⟨H, hH⟩ : ∃ H, H = hi * 2 ^ s := ⟨_, rfl⟩
    have H2 : H + 2 ^ s ≤ Y := by
      rw [hH, hY]
      have : (hi + 1) * 2 ^ s ≤ y * 2 ^ s := Nat.mul_le_mul_right _ h1
      rw [Nat.add_mul] at this; omega
    have fH : IntKind.u64.wrap ((hi : Int) * 2 ^ s) = (H : Int) := by
      rw [Sp.pow_cast, mulN, ← hH]; exact wrapN H (Nat.lt_of_le_of_lt (Nat.le_trans (Nat.le_add_right _ _) H2) Y2)
    obtain ⟨l, hl⟩ : ∃ l, l = lo / 2 ^ (64 - s) := ⟨_, rfl⟩
    have l2 : l < 2 ^ s := by
      rw [hl, Nat.div_lt_iff_lt_mul (Nat.two_pow_pos _), ← Nat.pow_add, show s + (64 - s) = 64 from by omega]
      simpa using h3
    have fl : (lo : Int) / 2 ^ (64 - s) = (l : Int) := by rw [Sp.pow_cast, ← Int.natCast_ediv, ← hl]
    obtain ⟨u, hu⟩ : ∃ u, u = H + l := ⟨_, rfl⟩
    have fu : bits .or .u64 (H : Int) (l : Int) = (u : Int) := by
      rw [bits_or_u64_nat H l (by omega) (by omega), hu, hH]
      congr 1
      rw [Nat.mul_comm hi]; exact (Nat.two_pow_add_eq_or_of_lt l2 hi).symm
    obtain ⟨L, hL⟩ : ∃ L, L = lo * 2 ^ s % 18446744073709551616 := ⟨_, rfl⟩
    have L2 : L < 18446744073709551616 := by omega
    have fL : IntKind.u64.wrap ((lo : Int) * 2 ^ s) = (L : Int) := by rw [Sp.pow_cast, mulN, wrapM, ← hL]
    obtain ⟨y1, hy1'⟩ : ∃ y1, y1 = Y / 4294967296 := ⟨_, rfl⟩
    obtain ⟨y0, hy0'⟩ : ∃ y0, y0 = Y % 4294967296 := ⟨_, rfl⟩
    obtain ⟨u1, hu1⟩ : ∃ u1, u1 = L / 4294967296 := ⟨_, rfl⟩
    obtain ⟨u0, hu0⟩ : ∃ u0, u0 = L % 4294967296 := ⟨_, rfl⟩
    have fy1 : (Y : Int) / 4294967296 = (y1 : Int) := by rw [divN, ← hy1']
    have fy0 : bits .and .u64 (Y : Int) 4294967295 = (y0 : Int) := by rw [maskN Y Y2, ← hy0']
    have fu1 : (L : Int) / 4294967296 = (u1 : Int) := by rw [divN, ← hu1]
    have fu0 : bits .and .u64 (L : Int) 4294967295 = (u0 : Int) := by rw [maskN L L2, ← hu0]
    have b1 : 2147483648 ≤ y1 := by omega
    have b2 : y1 < 4294967296 := by omega
    have b3 : y0 < 4294967296 := by omega
    have b4 : u1 < 4294967296 := by omega
    have b5 : u0 < 4294967296 := by omega
    have eY : y1 * 4294967296 + y0 = Y := by omega
    have huY : u < y1 * 4294967296 + y0 := by omega
    have N0 := Lib.hid (show u * 4294967296 + u1 = (hi * 18446744073709551616 + lo) * 2 ^ s / 4294967296 ∧ (u * 4294967296 + u1) * 4294967296 + u0 = (hi * 18446744073709551616 + lo) * 2 ^ s by
      have e1 : lo * 2 ^ s = l * 18446744073709551616 + L := by
        have d := Nat.div_add_mod (lo * 2 ^ s) 18446744073709551616
        have : lo * 2 ^ s / 18446744073709551616 = l := by
          rw [hl, show (18446744073709551616 : Nat) = 2 ^ (64 - s) * 2 ^ s from by rw [← Nat.pow_add, show 64 - s + s = 64 from by omega]]
          exact Nat.mul_div_mul_right _ _ (Nat.two_pow_pos _)
        rw [this, ← hL] at d; omega
      have e2 : (hi * 18446744073709551616 + lo) * 2 ^ s = H * 18446744073709551616 + lo * 2 ^ s := by rw [Nat.add_mul, hH, Nat.mul_right_comm]
      rw [e2, e1]; omega)
    clear hH hl hL hu hy1' hy0' hu1 hu0 hb1 hb2 hb3 hb4 hs hY
    have hq0 : ¬ ((y1 : Int) = 0) := by omega
    obtain ⟨q, hq⟩ : ∃ q, q = u / y1 := ⟨_, rfl⟩
    obtain ⟨r, hr⟩ : ∃ r, r = u - q * y1 := ⟨_, rfl⟩
    have qu : q * y1 ≤ u := by rw [hq]; exact Nat.div_mul_le_self _ _
    have q33 : q ≤ 4294967297 := by rw [hq]; exact guess_first u y1 y0 b1 b3 huY
    have hG := guess_start u u1 y1 y0 b1 b4
    rw [← hq, ← hr] at hG
    have hr2 : r < y1 := by rw [hr, hq]; have := Nat.mod_lt u (show y1 > 0 by omega); rw [Nat.mod_eq_sub_div_mul] at this; exact this
    have fq : IntKind.u64.wrap ((u : Int) / (y1 : Int)) = (q : Int) := by
      rw [← Int.natCast_ediv, ← hq]; exact wrapN q (by omega)
    have fr0 : IntKind.u64.wrap ((q : Int) * (y1 : Int)) = ((q * y1 : Nat) : Int) := by rw [mulN]; exact wrapN _ (by omega)
    have fr : IntKind.u64.wrap ((u : Int) - ((q * y1 : Nat) : Int)) = (r : Int) := by
      rw [show (u : Int) - ((q * y1 : Nat) : Int) = (r : Int) from by omega]; exact wrapN r (by omega)
    clear hq hr
    have hqq : ((y1 : Int) == 0) = false := by simp; omega
    obtain ⟨Q, hQ⟩ : ∃ Q, Q = (u * 4294967296 + u1) / (y1 * 4294967296 + y0) := ⟨_, rfl⟩
    have HQ := Lib.hid hQ
    clear hQ
    have HG := Lib.hid hG
    clear hG
    go_enter Tryz.func128, Tryz.ntmps128
    go_upto_block 0 with (go_at_call 135; refine (hlead _).mono ?_; rintro e w' ⟨rfl, rfl⟩)
    go_cut [15, 16] from 67 to 85 (fun x _ wx => x = .int .u64 (Q : Nat) ∧ wx = w)
    case first =>
      go_wp2_with fail
      go_loopg [15, 16] q (fun g x z wr => ∃ q r : Nat, q ≤ g ∧ x = .int .u64 q ∧ z = .int .u64 r ∧ q ≤ 4294967297 ∧ r < 4294967296 ∧ Guess u u1 y1 y0 q r ∧ wr = w)
      case atStart =>
        have e : (u : Int) - (q : Int) * (y1 : Int) = (r : Int) := by
          have := HG.out.eq
          rw [mulN]; omega
        exact ⟨q, r, Nat.le_refl _, rfl, congrArg (Value.int .u64) e, q33, by omega, HG.out, rfl⟩
      case round =>
        clear fY fH fl fu fL fy1 fy0 fu1 fu0 fq fr0 fr hr2 qu q33 HG
        obtain ⟨q, r, hqg, rfl, rfl, h33, hr32, G, rfl⟩ := hrel
        have HGk := Lib.hid G
        clear hlead hsl HS HYY H2 l2 L2 eY N0 h1 h2 h3 hz hz' Y1 Y2 hq0
        by_cases ht : 4294967296 ≤ q ∨ 4294967296 * r + u1 < q * y0
        · obtain ⟨hq1, G'⟩ := guess_step G b1 b4 huY ht
          clear G
          obtain ⟨q', hq'⟩ : ∃ q', q' = q - 1 := ⟨_, rfl⟩
          obtain ⟨r', hr'⟩ : ∃ r', r' = r + y1 := ⟨_, rfl⟩
          rw [← hq', ← hr'] at G'
          have HGG := Lib.hid G'
          have m1 : q' ≤ 4294967296 := by omega
          have m2 : q' < q := by omega
          have f1 : IntKind.u64.wrap ((q : Int) - 1) = (q' : Int) := by rw [show (q : Int) - 1 = (q' : Int) from by omega]; exact wrapN q' (by omega)
          have f2 : IntKind.u64.wrap ((r : Int) + (y1 : Int)) = (r' : Int) := by rw [show (r : Int) + (y1 : Int) = (r' : Int) from by omega]; exact wrapN r' (by omega)
          have hend : 4294967296 ≤ r' → q' = Q := fun h => (guess_break G' b1 m1 b3 h).trans HQ.out.symm
          clear G' hq' hr'
          have Hend := Lib.hid hend
          clear hend
          by_cases hq32 : 4294967296 ≤ q
          · have g1 : (4294967296 : Int) ≤ (q : Int) := by omega
            have gb1 : decide ((4294967296 : Int) ≤ (q : Int)) = true := by simp; omega
            clear ht h33 hr32 huY b3 b4 hq32
            by_cases hge : 4294967296 ≤ r'
            · have g2 : (4294967296 : Int) ≤ (r' : Int) := by omega
              have gb2 : decide ((4294967296 : Int) ≤ (r' : Int)) = true := by simp; omega
              go_wp2_with fail
              go_meet
              exact ⟨congrArg (fun n : Nat => Value.int .u64 (n : Int)) (Hend.out hge), rfl⟩
            · have g2 : ¬ (4294967296 : Int) ≤ (r' : Int) := by omega
              have gb2 : decide ((4294967296 : Int) ≤ (r' : Int)) = false := by simp; omega
              go_wp2_with fail
              go_roundg q'
              case measure => omega
              case rel => exact ⟨q', r', Nat.le_refl _, rfl, rfl, by omega, by omega, HGG.out, rfl⟩
          · have g1 : ¬ (4294967296 : Int) ≤ (q : Int) := by omega
            have gb1 : decide ((4294967296 : Int) ≤ (q : Int)) = false := by simp; omega
            have hqy : q * y0 ≤ 4294967295 * 4294967295 := Nat.mul_le_mul (by omega) (by omega)
            obtain ⟨z, hz⟩ : ∃ z, z = q * y0 := ⟨_, rfl⟩
            obtain ⟨x, hx⟩ : ∃ x, x = 4294967296 * r + u1 := ⟨_, rfl⟩
            have p1 : IntKind.u64.wrap ((q : Int) * (y0 : Int)) = (z : Int) := by rw [mulN, hz]; exact wrapN _ (by omega)
            have p2 : IntKind.u64.wrap (4294967296 * (r : Int)) = 4294967296 * (r : Int) := by rw [show 4294967296 * (r : Int) = ((4294967296 * r : Nat) : Int) from by omega]; exact wrapN _ (by omega)
            have p3 : IntKind.u64.wrap (4294967296 * (r : Int) + (u1 : Int)) = (x : Int) := by rw [show 4294967296 * (r : Int) + (u1 : Int) = (x : Int) from by omega]; exact wrapN _ (by omega)
            have g3 : (x : Int) < (z : Int) := by omega
            have gb3 : decide ((x : Int) < (z : Int)) = true := by simp; omega
            clear ht h33 hr32 huY b3 b4 hq32 hqy hz hx
            by_cases hge : 4294967296 ≤ r'
            · have g2 : (4294967296 : Int) ≤ (r' : Int) := by omega
              have gb2 : decide ((4294967296 : Int) ≤ (r' : Int)) = true := by simp; omega
              go_wp2_with fail
              go_meet
              exact ⟨congrArg (fun n : Nat => Value.int .u64 (n : Int)) (Hend.out hge), rfl⟩
            · have g2 : ¬ (4294967296 : Int) ≤ (r' : Int) := by omega
              have gb2 : decide ((4294967296 : Int) ≤ (r' : Int)) = false := by simp; omega
              go_wp2_with fail
              go_roundg q'
              case measure => omega
              case rel => exact ⟨q', r', Nat.le_refl _, rfl, rfl, by omega, by omega, HGG.out, rfl⟩
        · have q32 : q < 4294967296 := by omega
          have hend : q = Q := (guess_end G b1 (by omega)).trans HQ.out.symm
          have Hend := Lib.hid hend
          clear hend G
          have g1 : ¬ (4294967296 : Int) ≤ (q : Int) := by omega
          have gb1 : decide ((4294967296 : Int) ≤ (q : Int)) = false := by simp; omega
          have hqy : q * y0 ≤ 4294967295 * 4294967295 := Nat.mul_le_mul (by omega) (by omega)
          obtain ⟨z, hz⟩ : ∃ z, z = q * y0 := ⟨_, rfl⟩
          obtain ⟨x, hx⟩ : ∃ x, x = 4294967296 * r + u1 := ⟨_, rfl⟩
          have p1 : IntKind.u64.wrap ((q : Int) * (y0 : Int)) = (z : Int) := by rw [mulN, hz]; exact wrapN _ (by omega)
          have p2 : IntKind.u64.wrap (4294967296 * (r : Int)) = 4294967296 * (r : Int) := by rw [show 4294967296 * (r : Int) = ((4294967296 * r : Nat) : Int) from by omega]; exact wrapN _ (by omega)
          have p3 : IntKind.u64.wrap (4294967296 * (r : Int) + (u1 : Int)) = (x : Int) := by rw [show 4294967296 * (r : Int) + (u1 : Int) = (x : Int) from by omega]; exact wrapN _ (by omega)
          have g3 : ¬ (x : Int) < (z : Int) := by omega
          have gb3 : decide ((x : Int) < (z : Int)) = false := by simp; omega
          clear ht h33 hr32 huY b3 b4 q32 hqy hz hx
          go_wp2_with fail
          go_meet
          exact ⟨congrArg (fun n : Nat => Value.int .u64 (n : Int)) Hend.out, rfl⟩
    case rest =>
      obtain ⟨rfl, rfl⟩ := hcut
      have hq1 : Q ≤ 4294967295 := by rw [HQ.out]; exact quot_lt u u1 y1 y0 b1 b4 huY
      have hqY : Q * Y ≤ u * 4294967296 + u1 := by rw [HQ.out, eY]; exact Nat.div_mul_le_self _ _
      obtain ⟨t, ht⟩ : ∃ t, t = u * 4294967296 + u1 - Q * Y := ⟨_, rfl⟩
      have htY : t < y1 * 4294967296 + y0 := by
        have := Nat.mod_lt (u * 4294967296 + u1) (show Y > 0 by omega)
        rw [Nat.mod_eq_sub_div_mul] at this
        rw [ht, eY, HQ.out, eY]; exact this
      have HT := Lib.hid ht
      obtain ⟨a1, ha1⟩ : ∃ a, a = u * 4294967296 % 18446744073709551616 := ⟨_, rfl⟩
      obtain ⟨a2, ha2⟩ : ∃ a, a = (a1 + u1) % 18446744073709551616 := ⟨_, rfl⟩
      obtain ⟨a3, ha3⟩ : ∃ a, a = Q * Y % 18446744073709551616 := ⟨_, rfl⟩
      have e1 : IntKind.u64.wrap ((u : Int) * 4294967296) = (a1 : Int) := by rw [show (u : Int) * 4294967296 = ((u * 4294967296 : Nat) : Int) from by omega, wrapM, ha1]
      have e2 : IntKind.u64.wrap ((a1 : Int) + (u1 : Int)) = (a2 : Int) := by rw [show (a1 : Int) + (u1 : Int) = ((a1 + u1 : Nat) : Int) from by omega, wrapM, ha2]
      have e3 : IntKind.u64.wrap ((Q : Int) * (Y : Int)) = (a3 : Int) := by rw [mulN, wrapM, ha3]
      have e4 : IntKind.u64.wrap ((a2 : Int) - (a3 : Int)) = (t : Int) := by
        rw [IntKind.wrap_u64]
        generalize Q * Y = P at *
        omega
      obtain ⟨q, hq⟩ : ∃ q, q = t / y1 := ⟨_, rfl⟩
      obtain ⟨r, hr⟩ : ∃ r, r = t - q * y1 := ⟨_, rfl⟩
      have qu : q * y1 ≤ t := by rw [hq]; exact Nat.div_mul_le_self _ _
      have q33 : q ≤ 4294967297 := by rw [hq]; exact guess_first t y1 y0 b1 b3 htY
      have hG := guess_start t u0 y1 y0 b1 b5
      rw [← hq, ← hr] at hG
      have hr2 : r < y1 := by rw [hr, hq]; have := Nat.mod_lt t (show y1 > 0 by omega); rw [Nat.mod_eq_sub_div_mul] at this; exact this
      have fq : IntKind.u64.wrap ((t : Int) / (y1 : Int)) = (q : Int) := by
        rw [← Int.natCast_ediv, ← hq]; exact wrapN q (by omega)
      have fr0 : IntKind.u64.wrap ((q : Int) * (y1 : Int)) = ((q * y1 : Nat) : Int) := by rw [mulN]; exact wrapN _ (by omega)
      have fr : IntKind.u64.wrap ((t : Int) - ((q * y1 : Nat) : Int)) = (r : Int) := by
        rw [show (t : Int) - ((q * y1 : Nat) : Int) = (r : Int) from by omega]; exact wrapN r (by omega)
      obtain ⟨Q2, hQ2⟩ : ∃ Q, Q = (t * 4294967296 + u0) / (y1 * 4294967296 + y0) := ⟨_, rfl⟩
      have HQ2 := Lib.hid hQ2
      have HG2 := Lib.hid hG
      have HT1 := Lib.hid (show Q * Y ≤ u * 4294967296 + u1 from hqY)
      clear hQ2 hG hq hr ht ha1 ha2 ha3 hqY fY fH fl fu fL fy1 fy0 fu1 fu0 hlead HG H2 l2 L2 hq1
      go_upto_block 2 with fail
      go_cut [18, 16] from 102 to 120 (fun x _ wx => x = .int .u64 (Q2 : Nat) ∧ wx = wc)
      case first =>
        go_wp2_with fail
        go_loopg [18, 16] q (fun g x z wr => ∃ q r : Nat, q ≤ g ∧ x = .int .u64 q ∧ z = .int .u64 r ∧ q ≤ 4294967297 ∧ r < 4294967296 ∧ Guess t u0 y1 y0 q r ∧ wr = wc)
        case atStart =>
          have e : (t : Int) - (q : Int) * (y1 : Int) = (r : Int) := by
            have := HG2.out.eq
            rw [mulN]; omega
          exact ⟨q, r, Nat.le_refl _, rfl, congrArg (Value.int .u64) e, q33, by omega, HG2.out, rfl⟩
        case round =>
          clear fq fr0 fr hr2 qu q33 HG2 e1 e2 e3 e4
          obtain ⟨q, r, hqg, rfl, rfl, h33, hr32, G, rfl⟩ := hrel
          have HGk := Lib.hid G
          clear hsl HS HYY N0 h1 h2 h3 hz hz' Y1 Y2 hq0 eY HT HQ HT1
          by_cases ht : 4294967296 ≤ q ∨ 4294967296 * r + u0 < q * y0
          · obtain ⟨hq1, G'⟩ := guess_step G b1 b5 htY ht
            clear G
            obtain ⟨q', hq'⟩ : ∃ q', q' = q - 1 := ⟨_, rfl⟩
            obtain ⟨r', hr'⟩ : ∃ r', r' = r + y1 := ⟨_, rfl⟩
            rw [← hq', ← hr'] at G'
            have HGG := Lib.hid G'
            have m1 : q' ≤ 4294967296 := by omega
            have m2 : q' < q := by omega
            have f1 : IntKind.u64.wrap ((q : Int) - 1) = (q' : Int) := by rw [show (q : Int) - 1 = (q' : Int) from by omega]; exact wrapN q' (by omega)
            have f2 : IntKind.u64.wrap ((r : Int) + (y1 : Int)) = (r' : Int) := by rw [show (r : Int) + (y1 : Int) = (r' : Int) from by omega]; exact wrapN r' (by omega)
            have hend : 4294967296 ≤ r' → q' = Q2 := fun h => (guess_break G' b1 m1 b3 h).trans HQ2.out.symm
            clear G' hq' hr'
            have Hend := Lib.hid hend
            clear hend
            by_cases hq32 : 4294967296 ≤ q
            · have g1 : (4294967296 : Int) ≤ (q : Int) := by omega
              have gb1 : decide ((4294967296 : Int) ≤ (q : Int)) = true := by simp; omega
              clear ht h33 hr32 htY b3 b5 hq32
              by_cases hge : 4294967296 ≤ r'
              · have g2 : (4294967296 : Int) ≤ (r' : Int) := by omega
                have gb2 : decide ((4294967296 : Int) ≤ (r' : Int)) = true := by simp; omega
                go_wp2_with fail
                go_meet
                exact ⟨congrArg (fun n : Nat => Value.int .u64 (n : Int)) (Hend.out hge), rfl⟩
              · have g2 : ¬ (4294967296 : Int) ≤ (r' : Int) := by omega
                have gb2 : decide ((4294967296 : Int) ≤ (r' : Int)) = false := by simp; omega
                go_wp2_with fail
                go_roundg q'
                case measure => omega
                case rel => exact ⟨q', r', Nat.le_refl _, rfl, rfl, by omega, by omega, HGG.out, rfl⟩
            · have g1 : ¬ (4294967296 : Int) ≤ (q : Int) := by omega
              have gb1 : decide ((4294967296 : Int) ≤ (q : Int)) = false := by simp; omega
              have hqy : q * y0 ≤ 4294967295 * 4294967295 := Nat.mul_le_mul (by omega) (by omega)
              obtain ⟨z, hz⟩ : ∃ z, z = q * y0 := ⟨_, rfl⟩
              obtain ⟨x, hx⟩ : ∃ x, x = 4294967296 * r + u0 := ⟨_, rfl⟩
              have p1 : IntKind.u64.wrap ((q : Int) * (y0 : Int)) = (z : Int) := by rw [mulN, hz]; exact wrapN _ (by omega)
              have p2 : IntKind.u64.wrap (4294967296 * (r : Int)) = 4294967296 * (r : Int) := by rw [show 4294967296 * (r : Int) = ((4294967296 * r : Nat) : Int) from by omega]; exact wrapN _ (by omega)
              have p3 : IntKind.u64.wrap (4294967296 * (r : Int) + (u0 : Int)) = (x : Int) := by rw [show 4294967296 * (r : Int) + (u0 : Int) = (x : Int) from by omega]; exact wrapN _ (by omega)
              have g3 : (x : Int) < (z : Int) := by omega
              have gb3 : decide ((x : Int) < (z : Int)) = true := by simp; omega
              clear ht h33 hr32 htY b3 b5 hq32 hqy hz hx
              by_cases hge : 4294967296 ≤ r'
              · have g2 : (4294967296 : Int) ≤ (r' : Int) := by omega
                have gb2 : decide ((4294967296 : Int) ≤ (r' : Int)) = true := by simp; omega
                go_wp2_with fail
                go_meet
                exact ⟨congrArg (fun n : Nat => Value.int .u64 (n : Int)) (Hend.out hge), rfl⟩
              · have g2 : ¬ (4294967296 : Int) ≤ (r' : Int) := by omega
                have gb2 : decide ((4294967296 : Int) ≤ (r' : Int)) = false := by simp; omega
                go_wp2_with fail
                go_roundg q'
                case measure => omega
                case rel => exact ⟨q', r', Nat.le_refl _, rfl, rfl, by omega, by omega, HGG.out, rfl⟩
          · have q32 : q < 4294967296 := by omega
            have hend : q = Q2 := (guess_end G b1 (by omega)).trans HQ2.out.symm
            have Hend := Lib.hid hend
            clear hend G
            have g1 : ¬ (4294967296 : Int) ≤ (q : Int) := by omega
            have gb1 : decide ((4294967296 : Int) ≤ (q : Int)) = false := by simp; omega
            have hqy : q * y0 ≤ 4294967295 * 4294967295 := Nat.mul_le_mul (by omega) (by omega)
            obtain ⟨z, hz⟩ : ∃ z, z = q * y0 := ⟨_, rfl⟩
            obtain ⟨x, hx⟩ : ∃ x, x = 4294967296 * r + u0 := ⟨_, rfl⟩
            have p1 : IntKind.u64.wrap ((q : Int) * (y0 : Int)) = (z : Int) := by rw [mulN, hz]; exact wrapN _ (by omega)
            have p2 : IntKind.u64.wrap (4294967296 * (r : Int)) = 4294967296 * (r : Int) := by rw [show 4294967296 * (r : Int) = ((4294967296 * r : Nat) : Int) from by omega]; exact wrapN _ (by omega)
            have p3 : IntKind.u64.wrap (4294967296 * (r : Int) + (u0 : Int)) = (x : Int) := by rw [show 4294967296 * (r : Int) + (u0 : Int) = (x : Int) from by omega]; exact wrapN _ (by omega)
            have g3 : ¬ (x : Int) < (z : Int) := by omega
            have gb3 : decide ((x : Int) < (z : Int)) = false := by simp; omega
            clear ht h33 hr32 htY b3 b5 q32 hqy hz hx
            go_wp2_with fail
            go_meet
            exact ⟨congrArg (fun n : Nat => Value.int .u64 (n : Int)) Hend.out, rfl⟩
      case rest =>
        obtain ⟨rfl, rfl⟩ := hcut
        have hq1 : Q ≤ 4294967295 := by rw [HQ.out]; exact quot_lt u u1 y1 y0 b1 b4 huY
        have hq2 : Q2 ≤ 4294967295 := by rw [HQ2.out]; exact quot_lt t u0 y1 y0 b1 b5 htY
        have hqY : Q2 * Y ≤ t * 4294967296 + u0 := by rw [HQ2.out, eY]; exact Nat.div_mul_le_self _ _
        have D := two_digits u u1 u0 Y (by omega) Q Q2 t (by rw [HQ.out, eY]) HT.out (by rw [HQ2.out, eY])
        rw [N0.out.2, HYY.out, (moved_div _ _ _).1] at D
        have hrY : t * 4294967296 + u0 - Q2 * Y < Y := by
          have := Nat.mod_lt (t * 4294967296 + u0) (show Y > 0 by omega)
          rw [Nat.mod_eq_sub_div_mul] at this
          rw [HQ2.out, eY]; exact this
        obtain ⟨R, hR⟩ : ∃ R, R = t * 4294967296 + u0 - Q2 * Y := ⟨_, rfl⟩
        obtain ⟨V, hV⟩ : ∃ V, V = Q * 4294967296 + Q2 := ⟨_, rfl⟩
        have hV2 : V = (hi * 18446744073709551616 + lo) / y := by rw [hV]; exact D.1
        have hR2 : R / 2 ^ s = (hi * 18446744073709551616 + lo) % y := by
          rw [hR, HYY.out, D.2]; exact (moved_div _ _ _).2
        obtain ⟨c2, hc2⟩ : ∃ a, a = t * 4294967296 % 18446744073709551616 := ⟨_, rfl⟩
        obtain ⟨c3, hc3⟩ : ∃ a, a = (c2 + u0) % 18446744073709551616 := ⟨_, rfl⟩
        obtain ⟨c4, hc4⟩ : ∃ a, a = Q2 * Y % 18446744073709551616 := ⟨_, rfl⟩
        have e1 : IntKind.u64.wrap ((Q : Int) * 4294967296) = (Q : Int) * 4294967296 := by rw [show (Q : Int) * 4294967296 = ((Q * 4294967296 : Nat) : Int) from by omega]; exact wrapN _ (by omega)
        have e2 : IntKind.u64.wrap ((Q : Int) * 4294967296 + (Q2 : Int)) = (V : Int) := by rw [show (Q : Int) * 4294967296 + (Q2 : Int) = (V : Int) from by omega]; exact wrapN _ (by omega)
        have e2' : (Q : Int) * 4294967296 + (Q2 : Int) = (V : Int) := by omega
        have e2'' : IntKind.u64.wrap (V : Int) = (V : Int) := wrapN _ (by omega)
        have e3 : IntKind.u64.wrap ((t : Int) * 4294967296) = (c2 : Int) := by rw [show (t : Int) * 4294967296 = ((t * 4294967296 : Nat) : Int) from by omega, wrapM, hc2]
        have e4 : IntKind.u64.wrap ((c2 : Int) + (u0 : Int)) = (c3 : Int) := by rw [show (c2 : Int) + (u0 : Int) = ((c2 + u0 : Nat) : Int) from by omega, wrapM, hc3]
        have e5 : IntKind.u64.wrap ((Q2 : Int) * (Y : Int)) = (c4 : Int) := by rw [mulN, wrapM, hc4]
        have e6 : IntKind.u64.wrap ((c3 : Int) - (c4 : Int)) = (R : Int) := by
          rw [IntKind.wrap_u64]
          generalize Q2 * Y = P at *
          omega
        obtain ⟨T, hT⟩ : ∃ T, T = R / 2 ^ s := ⟨_, rfl⟩
        have e7 : (R : Int) / 2 ^ s = (T : Int) := by rw [Sp.pow_cast, ← Int.natCast_ediv, ← hT]
        rw [← hT] at hR2
        have HV := Lib.hid hV2
        have HR := Lib.hid hR2
        clear hT hV hV2 hR hR2 hc2 hc3 hc4 D hqY hrY HQ HQ2 HT HT1 N0 h1 h2 h3 hz hz' Y1 Y2 HS HYY b1 b2 b3 b4 b5 eY huY hq0 qu q33 hr2 fq fr0 fr htY hqq HG2 hq1 hq2
        go_wp2
        go_ret2
        refine ⟨?_, Sp.Drew.refl _⟩
        rw [← HV.out, ← HR.out]
        rfl
end Go.Proofs.YtbejdajkkoapgaaGreatDoor.Wd

