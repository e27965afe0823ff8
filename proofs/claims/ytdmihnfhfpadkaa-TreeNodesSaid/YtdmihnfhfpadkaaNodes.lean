/-
  The given statement TreeNodes: for every input the law returns true, and the arguments read afterwards as before. Conditions: none.
-/
import Derived.Test.YtdmihnfhfpadkaaAlive
import Derived.WalkKit
import Derived.ProofKit
import Derived.OpenShut
import Derived.ShutString
namespace Go.Proofs.Ytdmihnfhfpadkaa.treeNodes
open Go.ChangeShapes Go.WideShapes Go.ChangeAt Go.RowKit
open Go.ChangeMaps (open_string shut_string)
set_option linter.unusedVariables false

theorem own : ownKnob Try.prog.godebug = none := by kernel_rfl

set_option maxHeartbeats 2000000 in
theorem walk (a0 : Int) (a1 : Int) (w0 : (Lit.int .i64 a0).wf = true) (w1 : (Lit.int .i64 a1).wf = true) (w : World) :
    Calls Try.prog 4 #[.int .i64 a0, .int .i64 a1] w fun e w' => e = .returned (.bool true) ∧ Below w.heap.size w w' := by
  have ⟨l0, u0⟩ := bounds_i64 w0
  have ⟨l1, u1⟩ := bounds_i64 w1
  clear w0 w1
  by_cases hd : 1 ≤ a0 ∧ a0 ≤ 24
  · obtain ⟨h, h'⟩ := hd
    have ⟨p1, p2⟩ := pw_bd a0 h h'
    have e1 : (a0 != a0) = false := by simp
    have e2 : (goodB a0 a1 != goodB a0 a1) = false := by simp
    cases hg : goodB a0 a1
    · have f1 : levV a0 a1 = -1 := by unfold levV; rw [hg]; rfl
      have f2 : upV a0 a1 = 0 := by unfold upV; rw [hg]; rfl
      have f3 : besV a0 a1 = 0 := by unfold besV; rw [hg]; rfl
      have f4 : lowV a0 a1 = 0 := by unfold lowV; rw [hg]; rfl
      have f5 : highV a0 a1 = 0 := by unfold highV; rw [hg]; rfl
      have f6 : IntKind.i64.wrap 0 = 0 := rfl
      go_enter Try.func4, Try.ntmps4
      go_wp2_with fail
      refine (alive_any _).mono ?_
      rintro e w1 ⟨rfl, hb0⟩
      go_wp2_with fail
      refine (new_good _ _ (by omega) (by omega)).mono ?_
      rintro e w2 ⟨rfl, hb1⟩
      have H := Has.start (d := a0) (hb0.trans (hb1.mono hb0.size))
      clear hb0 hb1
      go_wp2_with (first
        | (go_at_call 14; refine (range_any _ _ _ (by omega) (by omega)).mono ?_; rintro e w' ⟨rfl, hb⟩; replace H := H.next hb; have c := H.cell; clear hb)
        | (go_at_call 15; refine (depth_any _ _).mono ?_; rintro e w' ⟨rfl, hb⟩; replace H := H.next hb; have c := H.cell; clear hb)
        | (go_at_call 16; refine (good_any _ _ _ (by omega) (by omega)).mono ?_; rintro e w' ⟨rfl, hb⟩; replace H := H.next hb; have c := H.cell; clear hb)
        | (go_at_call 17; refine (refgood_any _ _ _ (by omega) (by omega)).mono ?_; rintro e w' ⟨rfl, rfl⟩))
      have S1 := Lib.hid H.one
      go_region_held3 (fun w' => w'.cell? ⟨w2.heap.size, 0, none⟩ = some (.int .i64 a0) ∧ Has w w2.heap.size a0 w') (first | exact S1.out | exact Has.two S1.out (by assumption) | exact Has.two (by assumption) (by assumption))
        (first
          | (go_at_call 13; refine (level_any _ _ _ (by omega) (by omega)).mono ?_; rintro e w' ⟨rfl, hb⟩)
          | (go_at_call 18; refine (up_any _ _ _ (by omega) (by omega)).mono ?_; rintro e w' ⟨rfl, hb⟩)
          | (go_at_call 19; refine (beside_any _ _ _ (by omega) (by omega)).mono ?_; rintro e w' ⟨rfl, hb⟩))
      have hS : w'.cell? ⟨w2.heap.size, 0, none⟩ = some (.int .i64 a0) ∧ Has w w2.heap.size a0 w' := by assumption
      go_wp2
      go_ret
      exact ⟨rfl, hS.2.below⟩
    · have ⟨g1, g2⟩ := (goodB_iff _ _).1 hg
      have HG := Lib.hid hg
      obtain ⟨L1, L2, L3, _, _⟩ := low_is a0 a1 h h' hg
      have f1 : (levV a0 a1 == (pathLen a1 : Int) - 1) = true := beq_iff_eq.2 L3
      have f2 : (upV a0 a1 == a1 / 2) = true := beq_iff_eq.2 (by unfold upV; rw [hg]; rfl)
      have f4 : (lowV a0 a1 == lowV a0 a1) = true := by simp
      have f5 : (highV a0 a1 == highV a0 a1) = true := by simp
      clear L3
      by_cases hv : 1 < a1
      · by_cases he : a1 % 2 = 0
        · have q1 : (a1 % 2 == 0) = true := beq_iff_eq.2 he
          have f3 : (besV a0 a1 == a1 + 1) = true := beq_iff_eq.2 (by
            unfold besV
            rw [hg, beq_eq_false_iff_ne.2 (show a1 ≠ 1 by omega), if_pos he]; rfl)
          clear he
          go_enter Try.func4, Try.ntmps4
          go_wp2_with fail
          refine (alive_any _).mono ?_
          rintro e w1 ⟨rfl, hb0⟩
          go_wp2_with fail
          refine (new_good _ _ (by omega) (by omega)).mono ?_
          rintro e w2 ⟨rfl, hb1⟩
          have H := Has.start (d := a0) (hb0.trans (hb1.mono hb0.size))
          clear hb0 hb1
          go_wp2_with (first
            | (go_at_call 13; refine (level_any _ _ _ (by omega) (by omega)).mono ?_; rintro e w' ⟨rfl, hb⟩; replace H := H.next hb; have c := H.cell; clear hb)
            | (go_at_call 14; refine (range_any _ _ _ (by omega) (by omega)).mono ?_; rintro e w' ⟨rfl, hb⟩; replace H := H.next hb; have c := H.cell; clear hb)
            | (go_at_call 15; refine (depth_any _ _).mono ?_; rintro e w' ⟨rfl, hb⟩; replace H := H.next hb; have c := H.cell; clear hb)
            | (go_at_call 16; refine (good_any _ _ _ (by omega) (by omega)).mono ?_; rintro e w' ⟨rfl, hb⟩; replace H := H.next hb; have c := H.cell; clear hb)
            | (go_at_call 18; refine (up_any _ _ _ (by omega) (by omega)).mono ?_; rintro e w' ⟨rfl, hb⟩; replace H := H.next hb; have c := H.cell; clear hb)
            | (go_at_call 19; refine (beside_any _ _ _ (by omega) (by omega)).mono ?_; rintro e w' ⟨rfl, hb⟩; replace H := H.next hb; have c := H.cell; clear hb)
            | (go_at_call 17; refine (refgood_any _ _ _ (by omega) (by omega)).mono ?_; rintro e w' ⟨rfl, rfl⟩)
            | (go_at_call 12; refine (refrange_any _ _ _ (by omega) (by omega) HG.out).mono ?_; rintro e w' ⟨rfl, hb⟩; replace H := H.next hb; have c := H.cell; clear hb)
            | (go_at_call 20; refine (path_any _ _ (by omega) (by omega)).mono ?_; rintro e w' ⟨g, cap, rfl, hown, hb⟩; clear hown; replace H := H.next hb; have c := H.cell; clear hb))
          go_ret
          exact ⟨rfl, H.below⟩
        · have q1 : (a1 % 2 == 0) = false := beq_eq_false_iff_ne.2 he
          have f3 : (besV a0 a1 == a1 - 1) = true := beq_iff_eq.2 (by
            unfold besV
            rw [hg, beq_eq_false_iff_ne.2 (show a1 ≠ 1 by omega), if_neg he]; rfl)
          clear he
          go_enter Try.func4, Try.ntmps4
          go_wp2_with fail
          refine (alive_any _).mono ?_
          rintro e w1 ⟨rfl, hb0⟩
          go_wp2_with fail
          refine (new_good _ _ (by omega) (by omega)).mono ?_
          rintro e w2 ⟨rfl, hb1⟩
          have H := Has.start (d := a0) (hb0.trans (hb1.mono hb0.size))
          clear hb0 hb1
          go_wp2_with (first
            | (go_at_call 13; refine (level_any _ _ _ (by omega) (by omega)).mono ?_; rintro e w' ⟨rfl, hb⟩; replace H := H.next hb; have c := H.cell; clear hb)
            | (go_at_call 14; refine (range_any _ _ _ (by omega) (by omega)).mono ?_; rintro e w' ⟨rfl, hb⟩; replace H := H.next hb; have c := H.cell; clear hb)
            | (go_at_call 15; refine (depth_any _ _).mono ?_; rintro e w' ⟨rfl, hb⟩; replace H := H.next hb; have c := H.cell; clear hb)
            | (go_at_call 16; refine (good_any _ _ _ (by omega) (by omega)).mono ?_; rintro e w' ⟨rfl, hb⟩; replace H := H.next hb; have c := H.cell; clear hb)
            | (go_at_call 18; refine (up_any _ _ _ (by omega) (by omega)).mono ?_; rintro e w' ⟨rfl, hb⟩; replace H := H.next hb; have c := H.cell; clear hb)
            | (go_at_call 19; refine (beside_any _ _ _ (by omega) (by omega)).mono ?_; rintro e w' ⟨rfl, hb⟩; replace H := H.next hb; have c := H.cell; clear hb)
            | (go_at_call 17; refine (refgood_any _ _ _ (by omega) (by omega)).mono ?_; rintro e w' ⟨rfl, rfl⟩)
            | (go_at_call 12; refine (refrange_any _ _ _ (by omega) (by omega) HG.out).mono ?_; rintro e w' ⟨rfl, hb⟩; replace H := H.next hb; have c := H.cell; clear hb)
            | (go_at_call 20; refine (path_any _ _ (by omega) (by omega)).mono ?_; rintro e w' ⟨g, cap, rfl, hown, hb⟩; clear hown; replace H := H.next hb; have c := H.cell; clear hb))
          go_ret
          exact ⟨rfl, H.below⟩
      · have f3 : (besV a0 a1 == 0) = true := beq_iff_eq.2 (by
          unfold besV
          rw [hg, beq_iff_eq.2 (show a1 = 1 by omega)]; rfl)
        go_enter Try.func4, Try.ntmps4
        go_wp2_with fail
        refine (alive_any _).mono ?_
        rintro e w1 ⟨rfl, hb0⟩
        go_wp2_with fail
        refine (new_good _ _ (by omega) (by omega)).mono ?_
        rintro e w2 ⟨rfl, hb1⟩
        have H := Has.start (d := a0) (hb0.trans (hb1.mono hb0.size))
        clear hb0 hb1
        go_wp2_with (first
          | (go_at_call 13; refine (level_any _ _ _ (by omega) (by omega)).mono ?_; rintro e w' ⟨rfl, hb⟩; replace H := H.next hb; have c := H.cell; clear hb)
          | (go_at_call 14; refine (range_any _ _ _ (by omega) (by omega)).mono ?_; rintro e w' ⟨rfl, hb⟩; replace H := H.next hb; have c := H.cell; clear hb)
          | (go_at_call 15; refine (depth_any _ _).mono ?_; rintro e w' ⟨rfl, hb⟩; replace H := H.next hb; have c := H.cell; clear hb)
          | (go_at_call 16; refine (good_any _ _ _ (by omega) (by omega)).mono ?_; rintro e w' ⟨rfl, hb⟩; replace H := H.next hb; have c := H.cell; clear hb)
          | (go_at_call 18; refine (up_any _ _ _ (by omega) (by omega)).mono ?_; rintro e w' ⟨rfl, hb⟩; replace H := H.next hb; have c := H.cell; clear hb)
          | (go_at_call 19; refine (beside_any _ _ _ (by omega) (by omega)).mono ?_; rintro e w' ⟨rfl, hb⟩; replace H := H.next hb; have c := H.cell; clear hb)
          | (go_at_call 17; refine (refgood_any _ _ _ (by omega) (by omega)).mono ?_; rintro e w' ⟨rfl, rfl⟩)
          | (go_at_call 12; refine (refrange_any _ _ _ (by omega) (by omega) HG.out).mono ?_; rintro e w' ⟨rfl, hb⟩; replace H := H.next hb; have c := H.cell; clear hb)
          | (go_at_call 20; refine (path_any _ _ (by omega) (by omega)).mono ?_; rintro e w' ⟨g, cap, rfl, hown, hb⟩; clear hown; replace H := H.next hb; have c := H.cell; clear hb))
        go_ret
        exact ⟨rfl, H.below⟩
  · go_enter Try.func4, Try.ntmps4
    go_wp2_with fail
    refine (alive_any _).mono ?_
    rintro e w1 ⟨rfl, hb0⟩
    go_wp2_with fail
    refine (new_bad _ _ (by omega)).mono ?_
    rintro e w2 ⟨rfl, hb1⟩
    have hB := hb0.trans (hb1.mono hb0.size)
    go_wp2
    all_goals
      go_ret
      exact ⟨rfl, hB.alloc hB.size _⟩

set_option maxRecDepth 100000 in
theorem lifted (os : Os) (started : os.Started) (H : Type) (enc : TypeId × Value → H) :
    ReturnsInHanded {} Try.checked os 4 .any (Rows.treeNodesSpec.pre6 enc Try.prog Try.f4 Rows.treeNodesRow.domain false) (Rows.treeNodesSpec.post enc Try.prog Try.f4 false true false false) := by
  refine returnsInHanded_of_change (C := Try.checked) own started (by kernel_rfl) Try.func4
    (ChangeSpec.witness6 (enc := enc) (C := Try.checked) false ⟨#[], #[.int .i64 0, .int .i64 0], []⟩ 8 (by kernel_rfl) (by kernel_rfl) (by kernel_rfl) (by kernel_rfl)) ?_
  intro W base args ds gs before hval0 hW hcnd _
  have hval : ∀ (j : Nat) t v, Try.f4.params[j]? = some t → args[j]? = some v → Value.okWide Try.prog W .any base t v := hval0
  have hW' := hW
  obtain ⟨p, q, hA0, hV, rfl, hfz, hnd⟩ := hW
  have hA : DataW.TrodAll enc Try.prog W 0 (fun _ => true) true Try.f4.params.toList args.toList ds p := hA0
  rw [Try.params4] at hA hval
  obtain ⟨v0, vs0, d0, ds0, p0, q0, hargs, rfl, rfl, h0, r0⟩ := trodAll_cons hA
  obtain ⟨v1, vs1, d1, ds1, p1, q1, rfl, rfl, rfl, h1, r1⟩ := trodAll_cons r0
  obtain ⟨rfl, rfl, rfl⟩ := trodAll_nil r1
  obtain rfl : args = #[v0, v1] := by cases args; simp_all
  obtain ⟨rfl, rfl⟩ := trodVars_none hV
  obtain ⟨a0, rfl, rfl, rfl, w0⟩ := open_int Try.underlying3 (hval 0 3 v0 rfl rfl) h0
  obtain ⟨a1, rfl, rfl, rfl, w1⟩ := open_int Try.underlying3 (hval 1 3 v1 rfl rfl) h1
  clear hA0 hval0
  simp only [List.append_nil] at hW'
  refine (walk a0 a1 w0 w1 W).mono fun e W' ⟨he, hg⟩ => ?_
  subst he
  exact ⟨_, rfl, _, _, _, [], [], [], hW', (trodAll_cons_mk (shut_bool Try.underlying4 _) trodAll_mk0), (trodAll_cons_mk (shut_int Try.underlying3 w0) (trodAll_cons_mk (shut_int Try.underlying3 w1) trodAll_mk0)), rfl, hg.frame _, fun h => by cases h⟩

theorem over : Rows.treeNodesRow.holds Try.pinned (OpenSpec.ofChange Rows.treeNodesSpec) :=
  OpenClaim.holds_of_wide 4 Try.f4 rfl rfl rfl rfl rfl rfl rfl ⟨rfl, rfl, rfl, rfl, rfl⟩ rfl rfl rfl rfl rfl (by kernel_rfl) Try.func4 (by kernel_rfl)
    (of_decide_eq_true (by kernel_rfl)) (by unfold Func.isWrapper; first | (rw [if_pos (by decide +kernel)]; kernel_rfl) | (rw [if_neg (by decide +kernel)]; exact ⟨rfl, rfl⟩))
    (fun os started H enc _ => lifted os started H enc)

theorem proved : Rows.TreeNodesSaid :=
  over
#print axioms proved
end Go.Proofs.Ytdmihnfhfpadkaa.treeNodes
