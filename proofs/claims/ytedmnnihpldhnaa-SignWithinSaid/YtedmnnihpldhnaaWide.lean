/-
  Contracts of Mul64, Times, Compare of package wide and of Less, Add, Times of the reference of layer 1: what each returns, as plain integers; below the heap's size at the call nothing in memory changes. Conditions: each number fits its kind.
-/
import Derived.Test.YtedmnnihpldhnaaFns
import Derived.Lib.Mul64
import Derived.Laws.Bits64b
import Derived.BigQuiet
import Derived.Deep.QuietTactic
import Derived.Deep.RegionHeld3
import Derived.Laws.StructEq
namespace Go.Proofs.Ytedmnnihpldhnaa
open Go.RowKit Go.Lib

theorem maskN (a : Nat) (ha : a < 18446744073709551616) : bits .and .u64 (a : Int) 4294967295 = ((a % 4294967296 : Nat) : Int) := by
  have h := bits_and_u64_nat a 4294967295 ha (by omega)
  have e : a &&& 4294967295 = a % 4294967296 := Nat.and_two_pow_sub_one_eq_mod a 32
  rw [e] at h
  exact h
theorem divN (a : Nat) : (a : Int) / 4294967296 = ((a / 4294967296 : Nat) : Int) := by omega
theorem mulN (a b : Nat) : (a : Int) * (b : Int) = ((a * b : Nat) : Int) := (Int.natCast_mul a b).symm
theorem addN (a b : Nat) : (a : Int) + (b : Int) = ((a + b : Nat) : Int) := (Int.natCast_add a b).symm
theorem wrapN (a : Nat) (ha : a < 18446744073709551616) : IntKind.u64.wrap (a : Int) = (a : Int) := by rw [IntKind.wrap_u64]; omega
theorem wrapM (a : Nat) : IntKind.u64.wrap (a : Int) = ((a % 18446744073709551616 : Nat) : Int) := by rw [IntKind.wrap_u64]; omega

/-- the upper and the lower half of a product -/
def hiD (a b : Int) : Int := a * b / 18446744073709551616
def loD (a b : Int) : Int := a * b % 18446744073709551616

theorem hiD_nat (x y : Nat) : ((x * y / 18446744073709551616 : Nat) : Int) = hiD x y := by unfold hiD; rw [mulN]; omega
theorem loD_nat (x y : Nat) : ((x * y % 18446744073709551616 : Nat) : Int) = loD x y := by unfold loD; rw [mulN]; omega

set_option maxHeartbeats 1000000 in
theorem mul64_nat (x y : Nat) (hx : x < 18446744073709551616) (hy : y < 18446744073709551616) (w : World) :
    Calls Try.prog 25 #[.int .u64 x, .int .u64 y] w fun e w' => e = .returned (.tuple #[.int .u64 ((x * y / 18446744073709551616 : Nat) : Int), .int .u64 ((x * y % 18446744073709551616 : Nat) : Int)]) ∧ w = w' := by
  obtain ⟨bd, bt, bw, hhi⟩ := Lib.mul64_hi x y hx hy
  have ba := Lib.half_mul_le (a := x / 4294967296) (b := y / 4294967296) (by omega) (by omega)
  have bb := Lib.half_mul_le (a := x / 4294967296) (b := y % 4294967296) (by omega) (by omega)
  have bc := Lib.half_mul_le (a := x % 4294967296) (b := y / 4294967296) (by omega) (by omega)
  have ba' : x / 4294967296 * (y / 4294967296) < 18446744073709551616 := by omega
  have bb' : x / 4294967296 * (y % 4294967296) < 18446744073709551616 := by omega
  have bc' : x % 4294967296 * (y / 4294967296) < 18446744073709551616 := by omega
  have bh1 : x / 4294967296 * (y / 4294967296) + (x / 4294967296 * (y % 4294967296) + x % 4294967296 * (y % 4294967296) / 4294967296) / 4294967296 < 18446744073709551616 := by omega
  have bh : x / 4294967296 * (y / 4294967296) + (x / 4294967296 * (y % 4294967296) + x % 4294967296 * (y % 4294967296) / 4294967296) / 4294967296 + ((x / 4294967296 * (y % 4294967296) + x % 4294967296 * (y % 4294967296) / 4294967296) % 4294967296 + x % 4294967296 * (y / 4294967296)) / 4294967296 < 18446744073709551616 := by omega
  go_enter Try.func25, Try.ntmps25
  go_wp2
  simp only [maskN x hx, maskN y hy, divN, mulN, addN, wrapN _ bd, wrapN _ bb', wrapN _ bt, maskN _ bt, wrapN _ bc', wrapN _ bw, wrapN _ ba', wrapN _ bh1, wrapN _ bh, wrapM (x * y)]
  rw [hhi]
  go_ret2
  exact ⟨rfl, rfl⟩

theorem mul64_any (a b : Int) (w : World) (ha : 0 ≤ a) (ha' : a ≤ 18446744073709551615) (hb : 0 ≤ b) (hb' : b ≤ 18446744073709551615) :
    Calls Try.prog 25 #[.int .u64 a, .int .u64 b] w fun e w' => e = .returned (.tuple #[.int .u64 (hiD a b), .int .u64 (loD a b)]) ∧ w = w' := by
  obtain ⟨x, rfl⟩ := Int.eq_ofNat_of_zero_le ha
  obtain ⟨y, rfl⟩ := Int.eq_ofNat_of_zero_le hb
  rw [← hiD_nat, ← loD_nat]
  exact mul64_nat x y (by omega) (by omega) w

theorem times_any (a b : Int) (w : World) (ha : 0 ≤ a) (ha' : a ≤ 18446744073709551615) (hb : 0 ≤ b) (hb' : b ≤ 18446744073709551615) :
    Calls Try.prog 22 #[.int .u64 a, .int .u64 b] w fun e w' => e = .returned (.agg #[.int .u64 (hiD a b), .int .u64 (loD a b)]) ∧ Below w.heap.size w w' := by
  go_enter Try.func22, Try.ntmps22
  go_wp2_with (go_at_call 25; refine (mul64_any _ _ _ (by omega) (by omega) (by omega) (by omega)).mono ?_; rintro e w' ⟨rfl, rfl⟩)
  exact bodyPost_ret (v := .agg #[.int .u64 (hiD a b), .int .u64 (loD a b)]) (by simp [results, Try.results22, go_sem]) rfl ⟨rfl, (Below.refl _ _).alloc (Nat.le_refl _) _⟩

def lessB (a b c d : Int) : Bool := if a = c then decide (b < d) else decide (a < c)
theorem less_any (a b c d : Int) (w : World) :
    Calls Try.prog 23 #[.agg #[.int .u64 a, .int .u64 b], .agg #[.int .u64 c, .int .u64 d]] w fun e w' => e = .returned (.bool (lessB a b c d)) ∧ Below w.heap.size w w' := by
  by_cases h : a = c
  · have h1 : (a == c) = true := beq_iff_eq.2 h
    have h2 : (a != c) = false := by simp [h]
    have h3 : lessB a b c d = decide (b < d) := by unfold lessB; rw [if_pos h]
    rw [h3]; clear h3 h
    go_enter Try.func23, Try.ntmps23
    go_wp2
    go_ret
    exact ⟨rfl, ((Below.refl _ _).alloc (Nat.le_refl _) _).alloc (by simp) _⟩
  · have h1 : (a == c) = false := beq_eq_false_iff_ne.2 h
    have h2 : (a != c) = true := by simp [h]
    have h3 : lessB a b c d = decide (a < c) := by unfold lessB; rw [if_neg h]
    rw [h3]; clear h3 h
    go_enter Try.func23, Try.ntmps23
    go_wp2
    go_ret
    exact ⟨rfl, ((Below.refl _ _).alloc (Nat.le_refl _) _).alloc (by simp) _⟩
def cmpD (a b c d : Int) : Int := if lessB a b c d then -1 else if a = c ∧ b = d then 0 else 1
theorem compare_any (a b c d : Int) (w : World) :
    Calls Try.prog 21 #[.agg #[.int .u64 a, .int .u64 b], .agg #[.int .u64 c, .int .u64 d]] w fun e w' => e = .returned (.int .i64 (cmpD a b c d)) ∧ Below w.heap.size w w' := by
  go_enter Try.func21, Try.ntmps21
  go_wp2
  all_goals
    go_ret
    exact ⟨ret_int (by unfold cmpD lessB; simp [*]), ((Below.refl _ _).alloc (Nat.le_refl _) _).alloc (by simp) _⟩

/-- the sum of two numbers of two halves each: the lower half, the upper half, whether there is no room -/
def addLo (b d : Int) : Int := (b + d) % 18446744073709551616
def addHi (a b c d : Int) : Int := (a + c + (if addLo b d < b then 1 else 0)) % 18446744073709551616
def addOv (a b c d : Int) : Bool := decide ((a + c) % 18446744073709551616 < a) || (decide (addLo b d < b) && (addHi a b c d == 0))
theorem addLo_is (b d : Int) : IntKind.u64.wrap (b + d) = addLo b d := by rw [IntKind.wrap_u64]; rfl

theorem add_any (a b c d : Int) (w : World) :
    Calls Try.prog 26 #[.agg #[.int .u64 a, .int .u64 b], .agg #[.int .u64 c, .int .u64 d]] w fun e w' => e = .returned (.tuple #[.agg #[.int .u64 (addHi a b c d), .int .u64 (addLo b d)], .bool (addOv a b c d)]) ∧ Below w.heap.size w w' := by
  have e1 := addLo_is b d
  have hb3 : Below w.heap.size w (((w.alloc (Obj.cells #[.int .u64 a, .int .u64 b] 41)).alloc (Obj.cells #[.int .u64 c, .int .u64 d] 41)).alloc (Obj.cells #[.int .u64 (addHi a b c d), .int .u64 (addLo b d)] 41)) :=
    (((Below.refl _ _).alloc (Nat.le_refl _) _).alloc (by simp) _).alloc (by simp; omega) _
  by_cases h : addLo b d < b
  · have e2 : IntKind.u64.wrap (IntKind.u64.wrap (a + c) + 1) = addHi a b c d := by unfold addHi; simp only [IntKind.wrap_u64]; rw [if_pos h]; omega
    have e3 : addOv a b c d = (decide (IntKind.u64.wrap (a + c) < a) || (addHi a b c d == 0)) := by unfold addOv; rw [IntKind.wrap_u64]; simp [h]
    by_cases h2 : IntKind.u64.wrap (a + c) < a
    · have e4 : addOv a b c d = true := by rw [e3]; simp [h2]
      have H4 : Hid _ := e4
      clear e3 e4
      go_enter Try.func26, Try.ntmps26
      go_wp2
      exact bodyPost_ret (v := .tuple #[.agg #[.int .u64 (addHi a b c d), .int .u64 (addLo b d)], .bool (addOv a b c d)]) (by simp [results, Try.results26, go_sem, H4.out]) rfl ⟨rfl, hb3⟩
    · have e5 : decide (IntKind.u64.wrap (a + c) < a) = false := decide_eq_false h2
      have e4 : addOv a b c d = (addHi a b c d == 0) := by rw [e3, e5]; simp
      have H4 : Hid _ := e4
      clear e3 e4
      go_enter Try.func26, Try.ntmps26
      go_wp2
      exact bodyPost_ret (v := .tuple #[.agg #[.int .u64 (addHi a b c d), .int .u64 (addLo b d)], .bool (addOv a b c d)]) (by simp [results, Try.results26, go_sem, H4.out]) rfl ⟨rfl, hb3⟩
  · have e2 : IntKind.u64.wrap (a + c) = addHi a b c d := by unfold addHi; rw [IntKind.wrap_u64, if_neg h]; omega
    have e4 : addOv a b c d = decide (addHi a b c d < a) := by unfold addOv; rw [← e2, IntKind.wrap_u64]; simp [h]
    have H4 : Hid _ := e4
    clear e4
    go_enter Try.func26, Try.ntmps26
    go_wp2
    exact bodyPost_ret (v := .tuple #[.agg #[.int .u64 (addHi a b c d), .int .u64 (addLo b d)], .bool (addOv a b c d)]) (by simp [results, Try.results26, go_sem, H4.out]) rfl ⟨rfl, hb3⟩
end Go.Proofs.Ytedmnnihpldhnaa
