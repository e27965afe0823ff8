/-
  Contracts of Zig, Zag, Key and Back of package sign and of the reference's Zig, and the laws on exclusive or that they lean on. Conditions: each argument fits its kind.
-/
import Derived.Test.YtedmnnihpldhnaaFns
import Derived.Laws.BitsAllLaws
namespace Go.Proofs.Ytedmnnihpldhnaa
open Go.RowKit

theorem xor_ones (n : Nat) (h : n < 18446744073709551616) : n ^^^ 18446744073709551615 = 18446744073709551615 - n := by
  have e : (BitVec.ofNat 64 n ^^^ BitVec.allOnes 64).toNat = (~~~ BitVec.ofNat 64 n).toNat := by rw [BitVec.xor_allOnes]
  rw [BitVec.toNat_not, BitVec.toNat_xor, BitVec.toNat_allOnes, BitVec.toNat_ofNat, Nat.mod_eq_of_lt (by omega)] at e
  exact e
theorem xor_top (n : Nat) (h : n < 18446744073709551616) : n ^^^ 9223372036854775808 = if n < 9223372036854775808 then n + 9223372036854775808 else n - 9223372036854775808 := by
  have d : (n ^^^ 9223372036854775808) / 2 ^ 63 = n / 2 ^ 63 ^^^ 9223372036854775808 / 2 ^ 63 := Nat.xor_div_two_pow
  have m : (n ^^^ 9223372036854775808) % 2 ^ 63 = n % 2 ^ 63 ^^^ 9223372036854775808 % 2 ^ 63 := Nat.xor_mod_two_pow
  have e1 : 9223372036854775808 % 2 ^ 63 = 0 := by decide
  have e2 : 9223372036854775808 / 2 ^ 63 = 1 := by decide
  rw [e1, Nat.xor_zero] at m
  rw [e2] at d
  by_cases hn : n < 9223372036854775808
  · have z : n / 2 ^ 63 = 0 := by omega
    rw [z] at d
    have : (0 : Nat) ^^^ 1 = 1 := by decide
    rw [this] at d
    rw [if_pos hn]; omega
  · have z : n / 2 ^ 63 = 1 := by omega
    rw [z] at d
    have : (1 : Nat) ^^^ 1 = 0 := by decide
    rw [this] at d
    rw [if_neg hn]; omega
theorem bits_xor_i64_zero (a : Int) (h : -9223372036854775808 ≤ a) (h' : a ≤ 9223372036854775807) : bits .xor .i64 a 0 = a := by
  show IntKind.i64.wrap ((BitVec.ofInt 64 a ^^^ BitVec.ofInt 64 0).toNat : Int) = a
  have : BitVec.ofInt 64 0 = 0#64 := by decide
  rw [this, BitVec.xor_zero, BitVec.toNat_ofInt]
  simp only [IntKind.wrap, IntKind.bits, IntKind.signed]
  simp; omega
theorem bits_xor_i64_ones (a : Int) (h : -9223372036854775808 ≤ a) (h' : a ≤ 9223372036854775807) : bits .xor .i64 a (-1) = -a-1 := by
  show IntKind.i64.wrap ((BitVec.ofInt 64 a ^^^ BitVec.ofInt 64 (-1)).toNat : Int) = _
  have : BitVec.ofInt 64 (-1) = BitVec.allOnes 64 := by decide
  rw [this, BitVec.xor_allOnes, BitVec.toNat_not, BitVec.toNat_ofInt]
  simp only [IntKind.wrap, IntKind.bits, IntKind.signed]
  simp; omega

def zigF (x : Int) : Int := if x < 0 then -2 * x - 1 else 2 * x
def zagF (u : Int) : Int := if u % 2 = 1 then -(u / 2) - 1 else u / 2
def keyF (x : Int) : Int := x + 9223372036854775808
def backF (u : Int) : Int := u - 9223372036854775808
theorem zigF_or (x : Int) : x < 0 ∧ zigF x = -2 * x - 1 ∨ 0 ≤ x ∧ zigF x = 2 * x := by unfold zigF; omega
theorem zagF_or (u : Int) : u % 2 = 1 ∧ zagF u = -(u / 2) - 1 ∨ u % 2 = 0 ∧ zagF u = u / 2 := by unfold zagF; omega
theorem keyF_is (x : Int) : keyF x = x + 9223372036854775808 := rfl
theorem backF_is (u : Int) : backF u = u - 9223372036854775808 := rfl

theorem zig_bits (x : Int) (h : -9223372036854775808 ≤ x) (h' : x ≤ 9223372036854775807) :
    bits .xor .u64 (IntKind.u64.wrap (IntKind.u64.wrap x * 2)) (IntKind.u64.wrap (x / 9223372036854775808)) = zigF x := by
  by_cases hx : x < 0
  · have e1 : IntKind.u64.wrap (x / 9223372036854775808) = ((18446744073709551615 : Nat) : Int) := by rw [IntKind.wrap_u64]; omega
    have e2 : IntKind.u64.wrap (IntKind.u64.wrap x * 2) = (((2 * x + 18446744073709551616).toNat : Nat) : Int) := by simp only [IntKind.wrap_u64]; omega
    rw [e1, e2, u64_xor_nat _ _ (by omega) (by decide), xor_ones _ (by omega)]
    have := zigF_or x
    omega
  · have e1 : IntKind.u64.wrap (x / 9223372036854775808) = ((0 : Nat) : Int) := by rw [IntKind.wrap_u64]; omega
    have e2 : IntKind.u64.wrap (IntKind.u64.wrap x * 2) = (((2 * x).toNat : Nat) : Int) := by simp only [IntKind.wrap_u64]; omega
    rw [e1, e2, u64_xor_nat _ _ (by omega) (by decide), Nat.xor_zero]
    have := zigF_or x
    omega

theorem zig_any (x : Int) (w : World) (h : -9223372036854775808 ≤ x) (h' : x ≤ 9223372036854775807) :
    Calls Try.prog 12 #[.int .i64 x] w fun e w' => e = .returned (.int .u64 (zigF x)) ∧ w = w' := by
  go_enter Try.func12, Try.ntmps12
  go_wp2
  go_ret
  exact ⟨ret_int (zig_bits x h h'), rfl⟩

theorem and_one (u : Int) (h : 0 ≤ u) (h' : u ≤ 18446744073709551615) : bits .and .u64 u 1 = u % 2 := by
  rw [u64_and u 1 h (by omega) (by decide) (by decide)]
  have : u.toNat &&& 1 = u.toNat % 2 := Nat.and_one_is_mod _
  show ((u.toNat &&& 1 : Nat) : Int) = _
  rw [this]; omega

theorem zag_bits (u : Int) (h : 0 ≤ u) (h' : u ≤ 18446744073709551615) :
    bits .xor .i64 (u / 2) (wrap64 (-wrap64 (bits .and .u64 u 1))) = zagF u := by
  rw [and_one u h h']
  have := zagF_or u
  by_cases hx : u % 2 = 1
  · have e : wrap64 (-wrap64 (u % 2)) = -1 := by unfold wrap64; omega
    rw [e, bits_xor_i64_ones _ (by omega) (by omega)]; omega
  · have e : wrap64 (-wrap64 (u % 2)) = 0 := by unfold wrap64; omega
    rw [e, bits_xor_i64_zero _ (by omega) (by omega)]; omega

theorem zag_any (u : Int) (w : World) (h : 0 ≤ u) (h' : u ≤ 18446744073709551615) :
    Calls Try.prog 14 #[.int .u64 u] w fun e w' => e = .returned (.int .i64 (zagF u)) ∧ w = w' := by
  go_enter Try.func14, Try.ntmps14
  go_wp2
  go_ret
  exact ⟨ret_int (zag_bits u h h'), rfl⟩

theorem key_bits (x : Int) (h : -9223372036854775808 ≤ x) (h' : x ≤ 9223372036854775807) :
    bits .xor .u64 (IntKind.u64.wrap x) 9223372036854775808 = keyF x := by
  have e1 : IntKind.u64.wrap x = (((x % 18446744073709551616).toNat : Nat) : Int) := by rw [IntKind.wrap_u64]; omega
  rw [e1]
  show bits .xor .u64 _ ((9223372036854775808 : Nat) : Int) = _
  rw [u64_xor_nat _ _ (by omega) (by decide), xor_top _ (by omega), keyF_is]
  split <;> omega

theorem key_any (x : Int) (w : World) (h : -9223372036854775808 ≤ x) (h' : x ≤ 9223372036854775807) :
    Calls Try.prog 15 #[.int .i64 x] w fun e w' => e = .returned (.int .u64 (keyF x)) ∧ w = w' := by
  go_enter Try.func15, Try.ntmps15
  go_wp2
  go_ret
  exact ⟨ret_int (key_bits x h h'), rfl⟩

theorem back_bits (u : Int) (h : 0 ≤ u) (h' : u ≤ 18446744073709551615) :
    wrap64 (bits .xor .u64 u 9223372036854775808) = backF u := by
  have e1 : u = ((u.toNat : Nat) : Int) := by omega
  rw [e1]
  show wrap64 (bits .xor .u64 _ ((9223372036854775808 : Nat) : Int)) = _
  rw [u64_xor_nat _ _ (by omega) (by decide), xor_top _ (by omega), backF_is]
  unfold wrap64
  split <;> omega

theorem back_any (u : Int) (w : World) (h : 0 ≤ u) (h' : u ≤ 18446744073709551615) :
    Calls Try.prog 16 #[.int .u64 u] w fun e w' => e = .returned (.int .i64 (backF u)) ∧ w = w' := by
  go_enter Try.func16, Try.ntmps16
  go_wp2
  go_ret
  exact ⟨ret_int (back_bits u h h'), rfl⟩

theorem refzig_any (x : Int) (w : World) (h : -9223372036854775808 ≤ x) (h' : x ≤ 9223372036854775807) :
    Calls Try.prog 13 #[.int .i64 x] w fun e w' => e = .returned (.int .u64 (zigF x)) ∧ w = w' := by
  have z := zigF_or x
  have m := mag_or x
  by_cases hx : x < 0
  all_goals
    go_enter Try.func13, Try.ntmps13
    go_wp2_with (go_at_call 18; refine (size_any _ _ (by omega) (by omega)).mono ?_; rintro e w' ⟨rfl, rfl⟩)
    go_ret
    exact ⟨ret_int (by omega), rfl⟩

end Go.Proofs.Ytedmnnihpldhnaa
