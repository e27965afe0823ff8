/-
  Contracts of the functions of package sign and of its reference that the statements of layer 2 call: what each returns, as plain integers; nothing in memory changes. Conditions: each argument fits its kind.
-/
import Derived.Test.YtedmnnihpldhnaaRows
import Derived.WalkKit
import Derived.WalkSpells
import Derived.WalkLawsBesides
namespace Go.Proofs.Ytedmnnihpldhnaa
open Go.RowKit

theorem ret_int {k : IntKind} {a b : Int} (h : a = b) : Ending.returned (.int k a) = .returned (.int k b) := by rw [h]
theorem ret_bool {a b : Bool} (h : a = b) : Ending.returned (.bool a) = .returned (.bool b) := by rw [h]

/-- how far two numbers are from one another -/
def gapD (a b : Int) : Int := if a < b then b - a else a - b
/-- a number's magnitude -/
def mag (x : Int) : Int := if x < 0 then -x else x
/-- is it below nought -/
def neg (x : Int) : Bool := decide (x < 0)

theorem mag_or (x : Int) : x < 0 ∧ mag x = -x ∨ 0 ≤ x ∧ mag x = x := by unfold mag; omega
theorem gapD_or (a b : Int) : a < b ∧ gapD a b = b - a ∨ b ≤ a ∧ gapD a b = a - b := by unfold gapD; omega
theorem mag_neg {x : Int} (h : x < 0) : mag x = -x := by unfold mag; rw [if_pos h]
theorem mag_pos {x : Int} (h : 0 ≤ x) : mag x = x := by unfold mag; rw [if_neg (by omega)]
theorem gapD_lt {a b : Int} (h : a < b) : gapD a b = b - a := by unfold gapD; rw [if_pos h]
theorem gapD_ge {a b : Int} (h : b ≤ a) : gapD a b = a - b := by unfold gapD; rw [if_neg (by omega)]
theorem neg_yes {x : Int} (h : x < 0) : neg x = true := by simp [neg, h]
theorem neg_no {x : Int} (h : 0 ≤ x) : neg x = false := by simp [neg]; omega

theorem gapD_bd (a b : Int) (h : -9223372036854775808 ≤ a) (hl : a ≤ 9223372036854775807) (h' : -9223372036854775808 ≤ b) (hl' : b ≤ 9223372036854775807) : 0 ≤ gapD a b ∧ gapD a b ≤ 18446744073709551615 := by
  have := gapD_or a b; omega
theorem gapD_tri (a b c : Int) : gapD a b ≤ gapD a c + gapD c b := by
  have := gapD_or a b; have := gapD_or a c; have := gapD_or c b; omega

theorem of_any (x : Int) (w : World) (h : -9223372036854775808 ≤ x) (hl : x ≤ 9223372036854775807) :
    Calls Try.prog 11 #[.int .i64 x] w fun e w' => e = .returned (.tuple #[.int .u64 (mag x), .bool (neg x)]) ∧ w = w' := by
  by_cases hx : x < 0
  · have e1 : IntKind.u64.wrap (-IntKind.u64.wrap x) = -x := by simp only [IntKind.wrap_u64]; omega
    go_enter Try.func11, Try.ntmps11
    go_wp2
    go_ret2
    exact ⟨by rw [mag_neg hx, neg_yes hx]; rfl, rfl⟩
  · have hx' : 0 ≤ x := by omega
    go_enter Try.func11, Try.ntmps11
    go_wp2
    go_ret2
    exact ⟨by rw [mag_pos hx', neg_no hx']; rfl, rfl⟩

theorem gap_any (a b : Int) (w : World) (h : -9223372036854775808 ≤ a) (h' : -9223372036854775808 ≤ b) (hl : a ≤ 9223372036854775807) (hl' : b ≤ 9223372036854775807) :
    Calls Try.prog 9 #[.int .i64 a, .int .i64 b] w fun e w' => e = .returned (.int .u64 (gapD a b)) ∧ w = w' := by
  by_cases hab : a < b
  · have e1 : IntKind.u64.wrap (IntKind.u64.wrap b - IntKind.u64.wrap a) = b - a := by simp only [IntKind.wrap_u64]; omega
    go_enter Try.func9, Try.ntmps9
    go_wp2
    go_ret
    exact ⟨by rw [gapD_lt hab]; rfl, rfl⟩
  · have e1 : IntKind.u64.wrap (IntKind.u64.wrap a - IntKind.u64.wrap b) = a - b := by simp only [IntKind.wrap_u64]; omega
    go_enter Try.func9, Try.ntmps9
    go_wp2
    go_ret
    exact ⟨by rw [gapD_ge (by omega)]; rfl, rfl⟩

theorem size_any (x : Int) (w : World) (h : -9223372036854775808 ≤ x) (hl : x ≤ 9223372036854775807) :
    Calls Try.prog 18 #[.int .i64 x] w fun e w' => e = .returned (.int .u64 (mag x)) ∧ w = w' := by
  by_cases hx : x < 0
  · go_enter Try.func18, Try.ntmps18
    go_wp2
    go_ret
    exact ⟨by rw [mag_neg hx]; exact ret_int (by omega), rfl⟩
  · have hx' : 0 ≤ x := by omega
    go_enter Try.func18, Try.ntmps18
    go_wp2
    go_ret
    exact ⟨by rw [mag_pos hx']; rfl, rfl⟩

theorem alive_any (w : World) :
    Calls Try.prog 8 #[] w fun e w' => e = .returned (.bool true) ∧ w = w' := by
  have h1 : (mag (-9223372036854775808) == 9223372036854775808) = true := by decide
  have h2 : (gapD (-9223372036854775808) 9223372036854775807 == 18446744073709551615) = true := by decide
  have h3 : neg (-9223372036854775808) = true := by decide
  go_enter Try.func8, Try.ntmps8
  go_wp2_with (first | (go_at_call 11; refine (of_any _ _ (by omega) (by omega)).mono ?_; rintro e w' ⟨rfl, rfl⟩) | (go_at_call 9; refine (gap_any _ _ _ (by omega) (by omega) (by omega) (by omega)).mono ?_; rintro e w' ⟨rfl, rfl⟩))
  go_ret
  exact ⟨ret_bool h2, rfl⟩

/-- max - min of two magnitudes -/
theorem refgap_any (a b : Int) (w : World) (h : -9223372036854775808 ≤ a) (h' : -9223372036854775808 ≤ b) (hl : a ≤ 9223372036854775807) (hl' : b ≤ 9223372036854775807) :
    Calls Try.prog 10 #[.int .i64 a, .int .i64 b] w fun e w' => e = .returned (.int .u64 (gapD a b)) ∧ w = w' := by
  by_cases ha : a < 0 <;> by_cases hb : b < 0
  all_goals
    go_enter Try.func10, Try.ntmps10
    go_wp2_with (go_at_call 18; refine (size_any _ _ (by omega) (by omega)).mono ?_; rintro e w' ⟨rfl, rfl⟩)
    all_goals
      go_ret
      exact ⟨ret_int (by have m1 := mag_or a; have m2 := mag_or b; have g1 := gapD_or a b; rw [IntKind.wrap_u64]; omega), rfl⟩
end Go.Proofs.Ytedmnnihpldhnaa
