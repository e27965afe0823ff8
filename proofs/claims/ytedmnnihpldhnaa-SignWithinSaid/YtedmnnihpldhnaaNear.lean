/-
  Contracts of Within of package sign and of the reference's: whether the gap by the lower number isn't above the upper one by the magnitude; below the heap's size at the call nothing in memory changes. Conditions: each number fits its kind.
-/
import Derived.Test.YtedmnnihpldhnaaTimes
namespace Go.Proofs.Ytedmnnihpldhnaa
open Go.RowKit Go.Lib

def closeB (r x n d : Int) : Bool := decide (gapD r x * d ≤ mag x * n)

theorem halves_le (p q : Int) : (p / 18446744073709551616 < q / 18446744073709551616 ∨ p / 18446744073709551616 = q / 18446744073709551616 ∧ p % 18446744073709551616 ≤ q % 18446744073709551616) ↔ p ≤ q := by
  constructor <;> intro h <;> omega

theorem less_close (r x n d : Int) (hg : 0 ≤ gapD r x) (hm : 0 ≤ mag x) (hn : 0 ≤ n) (hd : 0 ≤ d) : (!lessB (hiD (mag x) n) (loD (mag x) n) (hiD (gapD r x) d) (loD (gapD r x) d)) = closeB r x n d := by
  unfold lessB closeB hiD loD
  have h1 := Int.mul_nonneg hg hd
  have h2 := Int.mul_nonneg hm hn
  generalize gapD r x * d = p at *
  generalize mag x * n = q at *
  have := halves_le p q
  by_cases h : p ≤ q
  · rw [decide_eq_true h]
    split <;> simp <;> omega
  · rw [decide_eq_false h]
    split <;> simp <;> omega

theorem cmp_close (r x n d : Int) (hg : 0 ≤ gapD r x) (hm : 0 ≤ mag x) (hn : 0 ≤ n) (hd : 0 ≤ d) : decide (cmpD (hiD (gapD r x) d) (loD (gapD r x) d) (hiD (mag x) n) (loD (mag x) n) ≤ 0) = closeB r x n d := by
  unfold cmpD lessB closeB hiD loD
  have h1 := Int.mul_nonneg hg hd
  have h2 := Int.mul_nonneg hm hn
  generalize gapD r x * d = p at *
  generalize mag x * n = q at *
  have := halves_le p q
  by_cases h : p ≤ q
  · rw [decide_eq_true h, decide_eq_true_eq]
    by_cases e : p / 18446744073709551616 = q / 18446744073709551616
    · simp only [if_pos e, decide_eq_true_eq]; repeat' split
      all_goals omega
    · simp only [if_neg e, decide_eq_true_eq]; repeat' split
      all_goals omega
  · rw [decide_eq_false h, decide_eq_false_iff_not]
    by_cases e : p / 18446744073709551616 = q / 18446744073709551616
    · simp only [if_pos e, decide_eq_true_eq]; repeat' split
      all_goals omega
    · simp only [if_neg e, decide_eq_true_eq]; repeat' split
      all_goals omega

theorem keep1 {w : World} {n d : Value} : ((w.alloc (Obj.cells #[n, d] 36)).drew).cell? ⟨w.heap.size, 0, none⟩ = some n ∧ ((w.alloc (Obj.cells #[n, d] 36)).drew).cell? ⟨w.heap.size, 1, none⟩ = some d ∧ Below w.heap.size w (w.alloc (Obj.cells #[n, d] 36)).drew ∧ w.heap.size < ((w.alloc (Obj.cells #[n, d] 36)).drew).heap.size :=
  ⟨by simp, by simp, ((Below.refl _ _).alloc (Nat.le_refl _) _).drew, by simp⟩
theorem keep2 {w W w1 : World} {n d : Value} (hb : Below W.heap.size W w1) (h : W.cell? ⟨w.heap.size, 0, none⟩ = some n ∧ W.cell? ⟨w.heap.size, 1, none⟩ = some d ∧ Below w.heap.size w W ∧ w.heap.size < W.heap.size) :
    w1.cell? ⟨w.heap.size, 0, none⟩ = some n ∧ w1.cell? ⟨w.heap.size, 1, none⟩ = some d ∧ Below w.heap.size w w1 ∧ w.heap.size < w1.heap.size :=
  ⟨by rw [hb.cell (p := ⟨w.heap.size, 0, none⟩) h.2.2.2]; exact h.1, by rw [hb.cell (p := ⟨w.heap.size, 1, none⟩) h.2.2.2]; exact h.2.1, h.2.2.1.trans (hb.mono (Nat.le_of_lt h.2.2.2)), Nat.lt_of_lt_of_le h.2.2.2 hb.size⟩

theorem within_any (r x n d : Int) (w : World) (h1 : -9223372036854775808 ≤ r) (h1' : r ≤ 9223372036854775807) (h2 : -9223372036854775808 ≤ x) (h2' : x ≤ 9223372036854775807) (h3 : 0 ≤ n) (h3' : n ≤ 18446744073709551615) (h4 : 0 ≤ d) (h4' : d ≤ 18446744073709551615) :
    Calls Try.prog 19 #[.int .i64 r, .int .i64 x, .agg #[.int .u64 n, .int .u64 d]] w fun e w' => e = .returned (.bool (closeB r x n d)) ∧ Below w.heap.size w w' := by
  obtain ⟨g1, g2⟩ := gapD_bd r x h1 h1' h2 h2'
  have m1 : 0 ≤ mag x := by have := mag_or x; omega
  have m2 : mag x ≤ 18446744073709551615 := by have := mag_or x; omega
  have Fin := Lib.hid (cmp_close r x n d g1 m1 h3 h4)
  go_enter Try.func19, Try.ntmps19
  go_wp2_with (go_at_call 11; refine (of_any _ _ (by omega) (by omega)).mono ?_; rintro e w' ⟨rfl, rfl⟩)
  go_region_held3 (fun w' => w'.cell? ⟨w.heap.size, 0, none⟩ = some (.int .u64 n) ∧ w'.cell? ⟨w.heap.size, 1, none⟩ = some (.int .u64 d) ∧ Below w.heap.size w w' ∧ w.heap.size < w'.heap.size) (first | exact keep1 | exact keep2 (by assumption) keep1 | exact keep2 (by assumption) (by assumption))
    (first
      | (go_at_call 9; refine (gap_any _ _ _ (by omega) (by omega) (by omega) (by omega)).mono ?_; rintro e w' ⟨rfl, rfl⟩)
      | (go_at_call 22; refine (times_any _ _ _ (by omega) (by omega) (by omega) (by omega)).mono ?_; rintro e w' ⟨rfl, hb⟩)
      | (go_at_call 21; refine (compare_any _ _ _ _ _).mono ?_; rintro e w' ⟨rfl, hb⟩))
  have hS : w'.cell? ⟨w.heap.size, 0, none⟩ = some (.int .u64 n) ∧ w'.cell? ⟨w.heap.size, 1, none⟩ = some (.int .u64 d) ∧ Below w.heap.size w w' ∧ w.heap.size < w'.heap.size := by assumption
  go_wp2
  go_ret
  exact ⟨ret_bool Fin.out, hS.2.2.1⟩

theorem refwithin_any (r x n d : Int) (w : World) (h1 : -9223372036854775808 ≤ r) (h1' : r ≤ 9223372036854775807) (h2 : -9223372036854775808 ≤ x) (h2' : x ≤ 9223372036854775807) (h3 : 0 ≤ n) (h3' : n ≤ 18446744073709551615) (h4 : 0 ≤ d) (h4' : d ≤ 18446744073709551615) :
    Calls Try.prog 20 #[.int .i64 r, .int .i64 x, .agg #[.int .u64 n, .int .u64 d]] w fun e w' => e = .returned (.bool (closeB r x n d)) ∧ Below w.heap.size w w' := by
  obtain ⟨g1, g2⟩ := gapD_bd r x h1 h1' h2 h2'
  have m1 : 0 ≤ mag x := by have := mag_or x; omega
  have m2 : mag x ≤ 18446744073709551615 := by have := mag_or x; omega
  have Fin := Lib.hid (less_close r x n d g1 m1 h3 h4)
  go_enter Try.func20, Try.ntmps20
  go_wp2_with fail
  go_region_held3 (fun w' => w'.cell? ⟨w.heap.size, 0, none⟩ = some (.int .u64 n) ∧ w'.cell? ⟨w.heap.size, 1, none⟩ = some (.int .u64 d) ∧ Below w.heap.size w w' ∧ w.heap.size < w'.heap.size) (first | exact keep1 | exact keep2 (by assumption) keep1 | exact keep2 (by assumption) (by assumption))
    (first
      | (go_at_call 18; refine (size_any _ _ (by omega) (by omega)).mono ?_; rintro e w' ⟨rfl, rfl⟩)
      | (go_at_call 10; refine (refgap_any _ _ _ (by omega) (by omega) (by omega) (by omega)).mono ?_; rintro e w' ⟨rfl, rfl⟩)
      | (go_at_call 24; refine (reftimes_any _ _ _ (by omega) (by omega) (by omega) (by omega)).mono ?_; rintro e w' ⟨rfl, hb⟩)
      | (go_at_call 23; refine (less_any _ _ _ _ _).mono ?_; rintro e w' ⟨rfl, hb⟩))
  have hS : w'.cell? ⟨w.heap.size, 0, none⟩ = some (.int .u64 n) ∧ w'.cell? ⟨w.heap.size, 1, none⟩ = some (.int .u64 d) ∧ Below w.heap.size w w' ∧ w.heap.size < w'.heap.size := by assumption
  go_wp2
  go_ret
  exact ⟨ret_bool Fin.out, hS.2.2.1⟩

theorem close_self (x n d : Int) (hn : 0 ≤ n) : closeB x x n d = true := by
  unfold closeB
  have h1 : gapD x x = 0 := by unfold gapD; rw [if_neg (by omega)]; omega
  have h2 : 0 ≤ mag x * n := Int.mul_nonneg (by have := mag_or x; omega) hn
  rw [h1, Int.zero_mul]
  exact decide_eq_true h2

theorem law_any (r x n d : Int) (w : World) (h1 : -9223372036854775808 ≤ r) (h1' : r ≤ 9223372036854775807) (h2 : -9223372036854775808 ≤ x) (h2' : x ≤ 9223372036854775807) (h3 : 0 ≤ n) (h3' : n ≤ 18446744073709551615) (h4 : 0 ≤ d) (h4' : d ≤ 18446744073709551615) :
    Calls Try.prog 7 #[.int .i64 r, .int .i64 x, .agg #[.int .u64 n, .int .u64 d]] w fun e w' => e = .returned (.bool true) ∧ Below w.heap.size w w' := by
  have e1 : (closeB r x n d == closeB r x n d) = true := by simp
  have e2 := close_self x n d h3
  go_enter Try.func7, Try.ntmps7
  go_wp2_with (go_at_call 8; refine (alive_any _).mono ?_; rintro e w' ⟨rfl, rfl⟩)
  go_region_held3 (fun w' => w'.cell? ⟨w.heap.size, 0, none⟩ = some (.int .u64 n) ∧ w'.cell? ⟨w.heap.size, 1, none⟩ = some (.int .u64 d) ∧ Below w.heap.size w w' ∧ w.heap.size < w'.heap.size) (first | exact keep1 | exact keep2 (by assumption) keep1 | exact keep2 (by assumption) (by assumption))
    (first
      | (go_at_call 19; refine (within_any _ _ _ _ _ (by omega) (by omega) (by omega) (by omega) (by omega) (by omega) (by omega) (by omega)).mono ?_; rintro e w' ⟨rfl, hb⟩)
      | (go_at_call 20; refine (refwithin_any _ _ _ _ _ (by omega) (by omega) (by omega) (by omega) (by omega) (by omega) (by omega) (by omega)).mono ?_; rintro e w' ⟨rfl, hb⟩))
  have hS : w'.cell? ⟨w.heap.size, 0, none⟩ = some (.int .u64 n) ∧ w'.cell? ⟨w.heap.size, 1, none⟩ = some (.int .u64 d) ∧ Below w.heap.size w w' ∧ w.heap.size < w'.heap.size := by assumption
  go_wp2
  go_ret
  exact ⟨rfl, hS.2.2.1⟩
end Go.Proofs.Ytedmnnihpldhnaa
