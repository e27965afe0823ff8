/-
  The given statement TreeHalves: for every input the law returns true, and the arguments read afterwards as before. Conditions: none.
-/
import Derived.Test.YtdmihnfhfpadkaaBelow
import Derived.WalkKit
import Derived.ProofKit
import Derived.OpenShut
import Derived.ShutString
namespace Go.Proofs.Ytdmihnfhfpadkaa.treeHalves
open Go.ChangeShapes Go.WideShapes Go.ChangeAt Go.RowKit
open Go.ChangeMaps (open_string shut_string)
set_option linter.unusedVariables false

theorem own : ownKnob Try.prog.godebug = none := by kernel_rfl

set_option maxRecDepth 100000 in
set_option maxHeartbeats 2000000 in
theorem walk (a0 : Int) (a1 : Int) (w0 : (Lit.int .i64 a0).wf = true) (w1 : (Lit.int .i64 a1).wf = true) (w : World) :
    Calls Try.prog 7 #[.int .i64 a0, .int .i64 a1] w fun e w' => e = .returned (.bool true) ∧ Below w.heap.size w w' := by
  have ⟨l0, u0⟩ := bounds_i64 w0
  have ⟨l1, u1⟩ := bounds_i64 w1
  clear w0 w1
  by_cases hd : 1 ≤ a0 ∧ a0 ≤ 24
  · obtain ⟨h, h'⟩ := hd
    have ⟨p1, p2⟩ := pw_bd a0 h h'
    cases hv : goodB a0 a1
    · go_enter Try.func7, Try.ntmps7
      go_wp2_with fail
      refine (alive_any _).mono ?_
      rintro e w1 ⟨rfl, hb0⟩
      go_wp2_with fail
      refine (new_good _ _ (by omega) (by omega)).mono ?_
      rintro e w2 ⟨rfl, hb1⟩
      have H := Has.start (d := a0) (hb0.trans (hb1.mono hb0.size))
      clear hb0 hb1
      go_wp2_with (first
        | (go_at_call 11; refine (leaves_any _ _ (by omega) (by omega)).mono ?_; rintro e w' ⟨rfl, hb⟩; replace H := H.next hb; have c := H.cell; clear hb)
        | (go_at_call 17; refine (refgood_any _ _ _ (by omega) (by omega)).mono ?_; rintro e w' ⟨rfl, rfl⟩))
      go_ret
      exact ⟨rfl, H.below⟩
    · by_cases hl : a1 < pw a0
      · obtain ⟨_, _, q3, q4, q5, q6, q7, q8, q9, q10⟩ := halves_law a0 a1 h h' hv hl
        have ⟨v1, v2⟩ := good_nat a0 a1 h h' hv
        have f3 : (lowV a0 a1 == lowV a0 (2 * a1)) = true := beq_iff_eq.2 q3
        have f4 : (lowV a0 (2 * a1 + 1) == highV a0 (2 * a1) + 1) = true := beq_iff_eq.2 q4
        have f5 : (highV a0 (2 * a1 + 1) == highV a0 a1) = true := beq_iff_eq.2 q5
        have f6 : (upV a0 (2 * a1) == a1) = true := beq_iff_eq.2 q6
        have f7 : (upV a0 (2 * a1 + 1) == a1) = true := beq_iff_eq.2 q7
        have f8 : (besV a0 (2 * a1) == 2 * a1 + 1) = true := beq_iff_eq.2 q8
        have ⟨b1, b2, b3, b4⟩ := range_bd a0 (2 * a1) h h' (by assumption)
        have b5 := highV_good (d := a0) (v := 2 * a1) (by assumption)
        have b6 : highV a0 (2 * a1) ≤ 16777216 := by omega
        have b7 : 0 ≤ highV a0 (2 * a1) := by omega
        clear q3 q4 q5 q6 q7 q8 b1 b2 b3 b4 b5
        go_enter Try.func7, Try.ntmps7
        go_wp2_with fail
        refine (alive_any _).mono ?_
        rintro e w1 ⟨rfl, hb0⟩
        go_wp2_with fail
        refine (new_good _ _ (by omega) (by omega)).mono ?_
        rintro e w2 ⟨rfl, hb1⟩
        have H := Has.start (d := a0) (hb0.trans (hb1.mono hb0.size))
        clear hb0 hb1
        go_wp2_with (first
          | (go_at_call 11; refine (leaves_any _ _ (by omega) (by omega)).mono ?_; rintro e w' ⟨rfl, hb⟩; replace H := H.next hb; have c := H.cell; clear hb)
          | (go_at_call 14; refine (range_any _ _ _ (by omega) (by omega)).mono ?_; rintro e w' ⟨rfl, hb⟩; replace H := H.next hb; have c := H.cell; clear hb)
          | (go_at_call 18; refine (up_any _ _ _ (by omega) (by omega)).mono ?_; rintro e w' ⟨rfl, hb⟩; replace H := H.next hb; have c := H.cell; clear hb)
          | (go_at_call 19; refine (beside_any _ _ _ (by omega) (by omega)).mono ?_; rintro e w' ⟨rfl, hb⟩; replace H := H.next hb; have c := H.cell; clear hb)
          | (go_at_call 21; refine (above_any _ _ _ _ (by omega) (by omega)).mono ?_; rintro e w' ⟨rfl, hb⟩; replace H := H.next hb; have c := H.cell; clear hb)
          | (go_at_call 17; refine (refgood_any _ _ _ (by omega) (by omega)).mono ?_; rintro e w' ⟨rfl, rfl⟩))
        go_ret
        exact ⟨rfl, H.below⟩
      · go_enter Try.func7, Try.ntmps7
        go_wp2_with fail
        refine (alive_any _).mono ?_
        rintro e w1 ⟨rfl, hb0⟩
        go_wp2_with fail
        refine (new_good _ _ (by omega) (by omega)).mono ?_
        rintro e w2 ⟨rfl, hb1⟩
        have H := Has.start (d := a0) (hb0.trans (hb1.mono hb0.size))
        clear hb0 hb1
        go_wp2_with (first
          | (go_at_call 11; refine (leaves_any _ _ (by omega) (by omega)).mono ?_; rintro e w' ⟨rfl, hb⟩; replace H := H.next hb; have c := H.cell; clear hb)
          | (go_at_call 17; refine (refgood_any _ _ _ (by omega) (by omega)).mono ?_; rintro e w' ⟨rfl, rfl⟩))
        go_ret
        exact ⟨rfl, H.below⟩
  · go_enter Try.func7, Try.ntmps7
    go_wp2_with fail
    refine (alive_any _).mono ?_
    rintro e w1 ⟨rfl, hb0⟩
    go_wp2_with fail
    refine (new_bad _ _ (by omega)).mono ?_
    rintro e w2 ⟨rfl, hb1⟩
    have hB := hb0.trans (hb1.mono hb0.size)
    go_wp2
    all_goals
      go_ret
      exact ⟨rfl, hB.alloc hB.size _⟩

set_option maxRecDepth 100000 in
theorem lifted (os : Os) (started : os.Started) (H : Type) (enc : TypeId × Value → H) :
    ReturnsInHanded {} Try.checked os 7 .any (Rows.treeHalvesSpec.pre6 enc Try.prog Try.f7 Rows.treeHalvesRow.domain false) (Rows.treeHalvesSpec.post enc Try.prog Try.f7 false true false false) := by
  refine returnsInHanded_of_change (C := Try.checked) own started (by kernel_rfl) Try.func7
    (ChangeSpec.witness6 (enc := enc) (C := Try.checked) false ⟨#[], #[.int .i64 0, .int .i64 0], []⟩ 8 (by kernel_rfl) (by kernel_rfl) (by kernel_rfl) (by kernel_rfl)) ?_
  intro W base args ds gs before hval0 hW hcnd _
  have hval : ∀ (j : Nat) t v, Try.f7.params[j]? = some t → args[j]? = some v → Value.okWide Try.prog W .any base t v := hval0
  have hW' := hW
  obtain ⟨p, q, hA0, hV, rfl, hfz, hnd⟩ := hW
  have hA : DataW.TrodAll enc Try.prog W 0 (fun _ => true) true Try.f7.params.toList args.toList ds p := hA0
  rw [Try.params7] at hA hval
  obtain ⟨v0, vs0, d0, ds0, p0, q0, hargs, rfl, rfl, h0, r0⟩ := trodAll_cons hA
  obtain ⟨v1, vs1, d1, ds1, p1, q1, rfl, rfl, rfl, h1, r1⟩ := trodAll_cons r0
  obtain ⟨rfl, rfl, rfl⟩ := trodAll_nil r1
  obtain rfl : args = #[v0, v1] := by cases args; simp_all
  obtain ⟨rfl, rfl⟩ := trodVars_none hV
  obtain ⟨a0, rfl, rfl, rfl, w0⟩ := open_int Try.underlying3 (hval 0 3 v0 rfl rfl) h0
  obtain ⟨a1, rfl, rfl, rfl, w1⟩ := open_int Try.underlying3 (hval 1 3 v1 rfl rfl) h1
  clear hA0 hval0
  simp only [List.append_nil] at hW'
  refine (walk a0 a1 w0 w1 W).mono fun e W' ⟨he, hg⟩ => ?_
  subst he
  exact ⟨_, rfl, _, _, _, [], [], [], hW', (trodAll_cons_mk (shut_bool Try.underlying4 _) trodAll_mk0), (trodAll_cons_mk (shut_int Try.underlying3 w0) (trodAll_cons_mk (shut_int Try.underlying3 w1) trodAll_mk0)), rfl, hg.frame _, fun h => by cases h⟩

theorem over : Rows.treeHalvesRow.holds Try.pinned (OpenSpec.ofChange Rows.treeHalvesSpec) :=
  OpenClaim.holds_of_wide 7 Try.f7 rfl rfl rfl rfl rfl rfl rfl ⟨rfl, rfl, rfl, rfl, rfl⟩ rfl rfl rfl rfl rfl (by kernel_rfl) Try.func7 (by kernel_rfl)
    (of_decide_eq_true (by kernel_rfl)) (by unfold Func.isWrapper; first | (rw [if_pos (by decide +kernel)]; kernel_rfl) | (rw [if_neg (by decide +kernel)]; exact ⟨rfl, rfl⟩))
    (fun os started H enc _ => lifted os started H enc)

theorem proved : Rows.TreeHalvesSaid :=
  over
#print axioms proved
end Go.Proofs.Ytdmihnfhfpadkaa.treeHalves
