/-
  The given statement SignParts: for every int64, every uint64 and either bool the law returns true, and the arguments read afterwards as before. Conditions: none.
-/
import Derived.Test.YtedmnnihpldhnaaFns
import Derived.WalkKit
import Derived.ProofKit
import Derived.OpenShut
import Derived.ShutString
namespace Go.Proofs.Ytedmnnihpldhnaa.signParts
open Go.ChangeShapes Go.WideShapes Go.ChangeAt Go.RowKit
open Go.ChangeMaps (open_string shut_string)
set_option linter.unusedVariables false

theorem ret_ib {k : IntKind} {a b : Int} {c d : Bool} (h : a = b) (h' : c = d) : Ending.returned (.tuple #[.int k a, .bool c]) = .returned (.tuple #[.int k b, .bool d]) := by rw [h, h']
def canF (m : Int) (b : Bool) : Bool := if b then decide (m ≤ 9223372036854775808) else decide (m < 9223372036854775808)
def valF (m : Int) (b : Bool) : Int := if canF m b then (if b then -m else m) else 0
theorem value_any (m : Int) (b : Bool) (w : World) (h : 0 ≤ m) (h' : m ≤ 18446744073709551615) :
    Calls Try.prog 17 #[.int .u64 m, .bool b] w fun e w' => e = .returned (.tuple #[.int .i64 (valF m b), .bool (canF m b)]) ∧ w = w' := by
  cases b
  · by_cases hm : m < 9223372036854775808
    · have e1 : valF m false = m := by simp [valF, canF, hm]
      have e2 : canF m false = true := by simp [canF, hm]
      rw [e1, e2]; clear e1 e2
      go_enter Try.func17, Try.ntmps17
      go_wp2
      go_ret2
      exact ⟨rfl, rfl⟩
    · have e1 : valF m false = 0 := by simp [valF, canF, hm]
      have e2 : canF m false = false := by simp [canF]; omega
      rw [e1, e2]; clear e1 e2
      go_enter Try.func17, Try.ntmps17
      go_wp2
      go_ret2
      exact ⟨rfl, rfl⟩
  · by_cases hm : m ≤ 9223372036854775808
    · have e1 : valF m true = -m := by simp [valF, canF, hm]
      have e2 : canF m true = true := by simp [canF, hm]
      rw [e1, e2]; clear e1 e2
      have e3 : wrap64 (IntKind.u64.wrap (-m)) = -m := by rw [IntKind.wrap_u64]; unfold wrap64; omega
      go_enter Try.func17, Try.ntmps17
      go_wp2
      go_ret2
      exact ⟨ret_ib e3 rfl, rfl⟩
    · have e1 : valF m true = 0 := by simp [valF, canF, hm]
      have e2 : canF m true = false := by simp [canF]; omega
      rw [e1, e2]; clear e1 e2
      go_enter Try.func17, Try.ntmps17
      go_wp2
      go_ret2
      exact ⟨rfl, rfl⟩
theorem valF_can {m : Int} {b : Bool} (h : canF m b = true) (h0 : 0 ≤ m) : -9223372036854775808 ≤ valF m b ∧ valF m b ≤ 9223372036854775807 ∧ mag (valF m b) = m ∧ (b = true ∧ valF m b = -m ∨ b = false ∧ valF m b = m) := by
  unfold valF; rw [h]
  unfold canF at h
  cases b
  · simp at h; have := mag_or m; simp; omega
  · simp at h; have := mag_or (-m); simp; omega
theorem back_val (x : Int) (h : -9223372036854775808 ≤ x) (h' : x ≤ 9223372036854775807) : canF (mag x) (neg x) = true ∧ valF (mag x) (neg x) = x := by
  have c : canF (mag x) (neg x) = true := by
    unfold canF neg; have := mag_or x
    by_cases hx : x < 0
    · simp [hx]; omega
    · simp [hx]; omega
  have v := valF_can c (by have := mag_or x; omega)
  have := mag_or x
  refine ⟨c, ?_⟩
  unfold neg at v
  by_cases hx : x < 0
  · unfold neg; simp [hx] at v ⊢; omega
  · unfold neg; simp [hx] at v ⊢; omega
theorem own : ownKnob Try.prog.godebug = none := by kernel_rfl

theorem walk (a0 : Int) (a1 : Int) (a2 : Bool) (w0 : (Lit.int .i64 a0).wf = true) (w1 : (Lit.int .u64 a1).wf = true) (w : World) :
    Calls Try.prog 6 #[.int .i64 a0, .int .u64 a1, .bool a2] w fun e w' => e = .returned (.bool true) ∧ Grown w w' := by
  have ⟨l0, u0⟩ := bounds_i64 w0
  have ⟨l1, u1⟩ := bounds_u64 w1
  clear w0 w1
  have m0 := mag_or a0
  have m1 : 0 ≤ mag a0 ∧ mag a0 ≤ 18446744073709551615 := by omega
  obtain ⟨m2, m3⟩ := m1
  obtain ⟨c0, v0⟩ := back_val a0 l0 u0
  have h1 : (neg a0 != decide (a0 < 0)) = false := by simp [neg]
  clear m0
  have hd1 : (decide (a0 < 0) != decide (a0 < 0)) = false := by simp
  cases a2
  · by_cases hm : a1 < 9223372036854775808
    · have c1 : canF a1 false = true := by simp [canF, hm]
      have f1 : decide (a1 < 9223372036854775808) = true := decide_eq_true hm
      obtain ⟨q1, q2, q3, q4⟩ := valF_can c1 l1
      have q5 : neg (valF a1 false) = false := neg_no (by simp at q4; omega)
      clear q4
      go_enter Try.func6, Try.ntmps6
      go_wp2_with (first | (go_at_call 8; refine (alive_any _).mono ?_; rintro e w' ⟨rfl, rfl⟩) | (go_at_call 11; refine (of_any _ _ (by omega) (by omega)).mono ?_; rintro e w' ⟨rfl, rfl⟩) | (go_at_call 18; refine (size_any _ _ (by omega) (by omega)).mono ?_; rintro e w' ⟨rfl, rfl⟩) | (go_at_call 17; refine (value_any _ _ _ (by omega) (by omega)).mono ?_; rintro e w' ⟨rfl, rfl⟩))
      go_ret
      exact ⟨rfl, Grown.refl _⟩
    · have c1 : canF a1 false = false := by simp [canF]; omega
      have f1 : decide (a1 < 9223372036854775808) = false := decide_eq_false hm
      have q1 : valF a1 false = 0 := by simp [valF, c1]
      go_enter Try.func6, Try.ntmps6
      go_wp2_with (first | (go_at_call 8; refine (alive_any _).mono ?_; rintro e w' ⟨rfl, rfl⟩) | (go_at_call 11; refine (of_any _ _ (by omega) (by omega)).mono ?_; rintro e w' ⟨rfl, rfl⟩) | (go_at_call 18; refine (size_any _ _ (by omega) (by omega)).mono ?_; rintro e w' ⟨rfl, rfl⟩) | (go_at_call 17; refine (value_any _ _ _ (by omega) (by omega)).mono ?_; rintro e w' ⟨rfl, rfl⟩))
      go_ret
      exact ⟨rfl, Grown.refl _⟩
  · by_cases hm : a1 ≤ 9223372036854775808
    · have c1 : canF a1 true = true := by simp [canF, hm]
      obtain ⟨q1, q2, q3, q4⟩ := valF_can c1 l1
      have q5 : (neg (valF a1 true) == decide (0 < a1)) = true := by
        simp at q4
        rw [q4]; unfold neg; simp
      clear q4
      by_cases hz : a1 < 9223372036854775808
      · have f1 : decide (a1 < 9223372036854775808) = true := decide_eq_true hz
        go_enter Try.func6, Try.ntmps6
        go_wp2_with (first | (go_at_call 8; refine (alive_any _).mono ?_; rintro e w' ⟨rfl, rfl⟩) | (go_at_call 11; refine (of_any _ _ (by omega) (by omega)).mono ?_; rintro e w' ⟨rfl, rfl⟩) | (go_at_call 18; refine (size_any _ _ (by omega) (by omega)).mono ?_; rintro e w' ⟨rfl, rfl⟩) | (go_at_call 17; refine (value_any _ _ _ (by omega) (by omega)).mono ?_; rintro e w' ⟨rfl, rfl⟩))
        go_ret
        exact ⟨rfl, Grown.refl _⟩
      · have f1 : decide (a1 < 9223372036854775808) = false := decide_eq_false hz
        have f2 : (a1 == 9223372036854775808) = true := beq_iff_eq.2 (by omega)
        go_enter Try.func6, Try.ntmps6
        go_wp2_with (first | (go_at_call 8; refine (alive_any _).mono ?_; rintro e w' ⟨rfl, rfl⟩) | (go_at_call 11; refine (of_any _ _ (by omega) (by omega)).mono ?_; rintro e w' ⟨rfl, rfl⟩) | (go_at_call 18; refine (size_any _ _ (by omega) (by omega)).mono ?_; rintro e w' ⟨rfl, rfl⟩) | (go_at_call 17; refine (value_any _ _ _ (by omega) (by omega)).mono ?_; rintro e w' ⟨rfl, rfl⟩))
        go_ret
        exact ⟨rfl, Grown.refl _⟩
    · have c1 : canF a1 true = false := by simp [canF]; omega
      have f1 : decide (a1 < 9223372036854775808) = false := decide_eq_false (by omega)
      have f2 : (a1 == 9223372036854775808) = false := beq_eq_false_iff_ne.2 (by omega)
      have q1 : valF a1 true = 0 := by simp [valF, c1]
      go_enter Try.func6, Try.ntmps6
      go_wp2_with (first | (go_at_call 8; refine (alive_any _).mono ?_; rintro e w' ⟨rfl, rfl⟩) | (go_at_call 11; refine (of_any _ _ (by omega) (by omega)).mono ?_; rintro e w' ⟨rfl, rfl⟩) | (go_at_call 18; refine (size_any _ _ (by omega) (by omega)).mono ?_; rintro e w' ⟨rfl, rfl⟩) | (go_at_call 17; refine (value_any _ _ _ (by omega) (by omega)).mono ?_; rintro e w' ⟨rfl, rfl⟩))
      go_ret
      exact ⟨rfl, Grown.refl _⟩

set_option maxRecDepth 100000 in
theorem lifted (os : Os) (started : os.Started) (H : Type) (enc : TypeId × Value → H) :
    ReturnsInHanded {} Try.checked os 6 .any (Rows.signPartsSpec.pre6 enc Try.prog Try.f6 Rows.signPartsRow.domain false) (Rows.signPartsSpec.post enc Try.prog Try.f6 false true false false) := by
  refine returnsInHanded_of_change (C := Try.checked) own started (by kernel_rfl) Try.func6
    (ChangeSpec.witness6 (enc := enc) (C := Try.checked) false ⟨#[], #[.int .i64 0, .int .u64 0, .bool false], []⟩ 8 (by kernel_rfl) (by kernel_rfl) (by kernel_rfl) (by kernel_rfl)) ?_
  intro W base args ds gs before hval0 hW hcnd _
  have hval : ∀ (j : Nat) t v, Try.f6.params[j]? = some t → args[j]? = some v → Value.okWide Try.prog W .any base t v := hval0
  have hW' := hW
  obtain ⟨p, q, hA0, hV, rfl, hfz, hnd⟩ := hW
  have hA : DataW.TrodAll enc Try.prog W 0 (fun _ => true) true Try.f6.params.toList args.toList ds p := hA0
  rw [Try.params6] at hA hval
  obtain ⟨v0, vs0, d0, ds0, p0, q0, hargs, rfl, rfl, h0, r0⟩ := trodAll_cons hA
  obtain ⟨v1, vs1, d1, ds1, p1, q1, rfl, rfl, rfl, h1, r1⟩ := trodAll_cons r0
  obtain ⟨v2, vs2, d2, ds2, p2, q2, rfl, rfl, rfl, h2, r2⟩ := trodAll_cons r1
  obtain ⟨rfl, rfl, rfl⟩ := trodAll_nil r2
  obtain rfl : args = #[v0, v1, v2] := by cases args; simp_all
  obtain ⟨rfl, rfl⟩ := trodVars_none hV
  obtain ⟨a0, rfl, rfl, rfl, w0⟩ := open_int Try.underlying2 (hval 0 2 v0 rfl rfl) h0
  obtain ⟨a1, rfl, rfl, rfl, w1⟩ := open_int Try.underlying23 (hval 1 23 v1 rfl rfl) h1
  obtain ⟨a2, rfl, rfl, rfl⟩ := open_bool Try.underlying4 (hval 2 4 v2 rfl rfl) h2
  clear hA0 hval0
  simp only [List.append_nil] at hW'
  refine (walk a0 a1 a2 w0 w1 W).mono fun e W' ⟨he, hg⟩ => ?_
  subst he
  exact ⟨_, rfl, post_of_same (pa := []) (pv := []) hW' (fun _ _ _ => (trodAll_cons_mk (shut_bool Try.underlying4 _) trodAll_mk0)) (fun sp _ => (trodAll_cons_mk (shut_int Try.underlying2 w0) (trodAll_cons_mk (shut_int Try.underlying23 w1) (trodAll_cons_mk (shut_bool Try.underlying4 _) trodAll_mk0)))) (fun _ _ => rfl) rfl
    (hg.frame _) hg.2.1 (ok_one (by kernel_rfl) rfl (okWide_bool_mk Try.underlying4 _))⟩

theorem over : Rows.signPartsRow.holds Try.pinned (OpenSpec.ofChange Rows.signPartsSpec) :=
  OpenClaim.holds_of_wide 6 Try.f6 rfl rfl rfl rfl rfl rfl rfl ⟨rfl, rfl, rfl, rfl, rfl⟩ rfl rfl rfl rfl rfl (by kernel_rfl) Try.func6 (by kernel_rfl)
    (of_decide_eq_true (by kernel_rfl)) (by unfold Func.isWrapper; first | (rw [if_pos (by decide +kernel)]; kernel_rfl) | (rw [if_neg (by decide +kernel)]; exact ⟨rfl, rfl⟩))
    (fun os started H enc _ => lifted os started H enc)

theorem proved : Rows.SignPartsSaid :=
  over
#print axioms proved
end Go.Proofs.Ytedmnnihpldhnaa.signParts
