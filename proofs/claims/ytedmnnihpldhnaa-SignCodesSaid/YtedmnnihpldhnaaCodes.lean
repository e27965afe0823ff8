/-
  The given statement SignCodes: for every two int64 values and every uint64 the law returns true, and the arguments read afterwards as before. Conditions: none.
-/
import Derived.Test.YtedmnnihpldhnaaCode
import Derived.WalkKit
import Derived.ProofKit
import Derived.OpenShut
import Derived.ShutString
namespace Go.Proofs.Ytedmnnihpldhnaa.signCodes
open Go.ChangeShapes Go.WideShapes Go.ChangeAt Go.RowKit
open Go.ChangeMaps (open_string shut_string)
set_option linter.unusedVariables false

theorem own : ownKnob Try.prog.godebug = none := by kernel_rfl

theorem walk (a0 : Int) (a1 : Int) (a2 : Int) (w0 : (Lit.int .i64 a0).wf = true) (w1 : (Lit.int .i64 a1).wf = true) (w2 : (Lit.int .u64 a2).wf = true) (w : World) :
    Calls Try.prog 5 #[.int .i64 a0, .int .i64 a1, .int .u64 a2] w fun e w' => e = .returned (.bool true) ∧ Grown w w' := by
  have ⟨l0, u0⟩ := bounds_i64 w0
  have ⟨l1, u1⟩ := bounds_i64 w1
  have ⟨l2, u2⟩ := bounds_u64 w2
  clear w0 w1 w2
  have z0 := zigF_or a0
  have z1 : 0 ≤ zigF a0 ∧ zigF a0 ≤ 18446744073709551615 := by omega
  have y0 := zagF_or (zigF a0)
  have h1 : (zagF (zigF a0) == a0) = true := beq_iff_eq.2 (by omega)
  have g0 := zagF_or a2
  have g1 : -9223372036854775808 ≤ zagF a2 ∧ zagF a2 ≤ 9223372036854775807 := by omega
  have g2 := zigF_or (zagF a2)
  have h2 : (zigF (zagF a2) == a2) = true := beq_iff_eq.2 (by omega)
  have k0 := keyF_is a0
  have k0' := keyF_is a1
  have k1 : 0 ≤ keyF a0 ∧ keyF a0 ≤ 18446744073709551615 := by omega
  have k2 := backF_is (keyF a0)
  have h3 : (backF (keyF a0) == a0) = true := beq_iff_eq.2 (by omega)
  have b0 := backF_is a2
  have b1 : -9223372036854775808 ≤ backF a2 ∧ backF a2 ≤ 9223372036854775807 := by omega
  have b2 := keyF_is (backF a2)
  have h4 : (keyF (backF a2) == a2) = true := beq_iff_eq.2 (by omega)
  have h5 : (keyF a0 == IntKind.u64.wrap (IntKind.u64.wrap a0 + 9223372036854775808)) = true := beq_iff_eq.2 (by simp only [IntKind.wrap_u64]; omega)
  have h6 : (decide (keyF a0 < keyF a1) == decide (a0 < a1)) = true := by
    by_cases hh : a0 < a1
    · have : keyF a0 < keyF a1 := by omega
      simp [hh, this]
    · have : ¬ keyF a0 < keyF a1 := by omega
      simp [hh, this]
  obtain ⟨z2, z3⟩ := z1
  obtain ⟨g3, g4⟩ := g1
  obtain ⟨k3, k4⟩ := k1
  obtain ⟨b3, b4⟩ := b1
  clear z0 y0 g0 g2 k0 k0' k2 b0 b2
  go_enter Try.func5, Try.ntmps5
  go_wp2_with (first | (go_at_call 8; refine (alive_any _).mono ?_; rintro e w' ⟨rfl, rfl⟩) | (go_at_call 12; refine (zig_any _ _ (by omega) (by omega)).mono ?_; rintro e w' ⟨rfl, rfl⟩) | (go_at_call 13; refine (refzig_any _ _ (by omega) (by omega)).mono ?_; rintro e w' ⟨rfl, rfl⟩) | (go_at_call 14; refine (zag_any _ _ (by omega) (by omega)).mono ?_; rintro e w' ⟨rfl, rfl⟩) | (go_at_call 15; refine (key_any _ _ (by omega) (by omega)).mono ?_; rintro e w' ⟨rfl, rfl⟩) | (go_at_call 16; refine (back_any _ _ (by omega) (by omega)).mono ?_; rintro e w' ⟨rfl, rfl⟩))
  go_ret
  exact ⟨rfl, Grown.refl _⟩

set_option maxRecDepth 100000 in
theorem lifted (os : Os) (started : os.Started) (H : Type) (enc : TypeId × Value → H) :
    ReturnsInHanded {} Try.checked os 5 .any (Rows.signCodesSpec.pre6 enc Try.prog Try.f5 Rows.signCodesRow.domain false) (Rows.signCodesSpec.post enc Try.prog Try.f5 false true false false) := by
  refine returnsInHanded_of_change (C := Try.checked) own started (by kernel_rfl) Try.func5
    (ChangeSpec.witness6 (enc := enc) (C := Try.checked) false ⟨#[], #[.int .i64 0, .int .i64 0, .int .u64 0], []⟩ 8 (by kernel_rfl) (by kernel_rfl) (by kernel_rfl) (by kernel_rfl)) ?_
  intro W base args ds gs before hval0 hW hcnd _
  have hval : ∀ (j : Nat) t v, Try.f5.params[j]? = some t → args[j]? = some v → Value.okWide Try.prog W .any base t v := hval0
  have hW' := hW
  obtain ⟨p, q, hA0, hV, rfl, hfz, hnd⟩ := hW
  have hA : DataW.TrodAll enc Try.prog W 0 (fun _ => true) true Try.f5.params.toList args.toList ds p := hA0
  rw [Try.params5] at hA hval
  obtain ⟨v0, vs0, d0, ds0, p0, q0, hargs, rfl, rfl, h0, r0⟩ := trodAll_cons hA
  obtain ⟨v1, vs1, d1, ds1, p1, q1, rfl, rfl, rfl, h1, r1⟩ := trodAll_cons r0
  obtain ⟨v2, vs2, d2, ds2, p2, q2, rfl, rfl, rfl, h2, r2⟩ := trodAll_cons r1
  obtain ⟨rfl, rfl, rfl⟩ := trodAll_nil r2
  obtain rfl : args = #[v0, v1, v2] := by cases args; simp_all
  obtain ⟨rfl, rfl⟩ := trodVars_none hV
  obtain ⟨a0, rfl, rfl, rfl, w0⟩ := open_int Try.underlying2 (hval 0 2 v0 rfl rfl) h0
  obtain ⟨a1, rfl, rfl, rfl, w1⟩ := open_int Try.underlying2 (hval 1 2 v1 rfl rfl) h1
  obtain ⟨a2, rfl, rfl, rfl, w2⟩ := open_int Try.underlying23 (hval 2 23 v2 rfl rfl) h2
  clear hA0 hval0
  simp only [List.append_nil] at hW'
  refine (walk a0 a1 a2 w0 w1 w2 W).mono fun e W' ⟨he, hg⟩ => ?_
  subst he
  exact ⟨_, rfl, post_of_same (pa := []) (pv := []) hW' (fun _ _ _ => (trodAll_cons_mk (shut_bool Try.underlying4 _) trodAll_mk0)) (fun sp _ => (trodAll_cons_mk (shut_int Try.underlying2 w0) (trodAll_cons_mk (shut_int Try.underlying2 w1) (trodAll_cons_mk (shut_int Try.underlying23 w2) trodAll_mk0)))) (fun _ _ => rfl) rfl
    (hg.frame _) hg.2.1 (ok_one (by kernel_rfl) rfl (okWide_bool_mk Try.underlying4 _))⟩

theorem over : Rows.signCodesRow.holds Try.pinned (OpenSpec.ofChange Rows.signCodesSpec) :=
  OpenClaim.holds_of_wide 5 Try.f5 rfl rfl rfl rfl rfl rfl rfl ⟨rfl, rfl, rfl, rfl, rfl⟩ rfl rfl rfl rfl rfl (by kernel_rfl) Try.func5 (by kernel_rfl)
    (of_decide_eq_true (by kernel_rfl)) (by unfold Func.isWrapper; first | (rw [if_pos (by decide +kernel)]; kernel_rfl) | (rw [if_neg (by decide +kernel)]; exact ⟨rfl, rfl⟩))
    (fun os started H enc _ => lifted os started H enc)

theorem proved : Rows.SignCodesSaid :=
  over
#print axioms proved
end Go.Proofs.Ytedmnnihpldhnaa.signCodes
