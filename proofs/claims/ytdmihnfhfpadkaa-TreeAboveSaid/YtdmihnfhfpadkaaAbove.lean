/-
  The given statement TreeAbove: for every input the law returns true, and the arguments read afterwards as before. Conditions: none.
-/
import Derived.Test.YtdmihnfhfpadkaaPlain
import Derived.WalkKit
import Derived.ProofKit
import Derived.OpenShut
import Derived.ShutString
namespace Go.Proofs.Ytdmihnfhfpadkaa.treeAbove
open Go.ChangeShapes Go.WideShapes Go.ChangeAt Go.RowKit
open Go.ChangeMaps (open_string shut_string)
set_option linter.unusedVariables false

theorem own : ownKnob Try.prog.godebug = none := by kernel_rfl

set_option maxRecDepth 100000 in
set_option maxHeartbeats 2000000 in
theorem walk (a0 : Int) (a1 : Int) (a2 : Int) (a3 : Int) (w0 : (Lit.int .i64 a0).wf = true) (w1 : (Lit.int .i64 a1).wf = true) (w2 : (Lit.int .i64 a2).wf = true) (w3 : (Lit.int .i64 a3).wf = true) (w : World) :
    Calls Try.prog 5 #[.int .i64 a0, .int .i64 a1, .int .i64 a2, .int .i64 a3] w fun e w' => e = .returned (.bool true) ∧ Below w.heap.size w w' := by
  have ⟨l0, u0⟩ := bounds_i64 w0
  have ⟨l1, u1⟩ := bounds_i64 w1
  have ⟨l2, u2⟩ := bounds_i64 w2
  have ⟨l3, u3⟩ := bounds_i64 w3
  clear w0 w1 w2 w3
  by_cases hd : 1 ≤ a0 ∧ a0 ≤ 24
  · obtain ⟨h, h'⟩ := hd
    have ⟨p1, p2⟩ := pw_bd a0 h h'
    cases hv : goodB a0 a1
    · have f1 : aboveB a0 a1 a2 = false := by unfold aboveB; rw [hv]; rfl
      go_enter Try.func5, Try.ntmps5
      go_wp2_with fail
      refine (alive_any _).mono ?_
      rintro e w1 ⟨rfl, hb0⟩
      go_wp2_with fail
      refine (new_good _ _ (by omega) (by omega)).mono ?_
      rintro e w2 ⟨rfl, hb1⟩
      have H := Has.start (d := a0) (hb0.trans (hb1.mono hb0.size))
      clear hb0 hb1
      go_wp2_with (first
        | (go_at_call 21; refine (above_any _ _ _ _ (by omega) (by omega)).mono ?_; rintro e w' ⟨rfl, hb⟩; replace H := H.next hb; have c := H.cell; clear hb)
        | (go_at_call 17; refine (refgood_any _ _ _ (by omega) (by omega)).mono ?_; rintro e w' ⟨rfl, rfl⟩))
      go_ret
      exact ⟨rfl, H.below⟩
    · cases hu : goodB a0 a2
      · have f1 : aboveB a0 a1 a2 = false := by unfold aboveB; rw [hv, hu]; rfl
        go_enter Try.func5, Try.ntmps5
        go_wp2_with fail
        refine (alive_any _).mono ?_
        rintro e w1 ⟨rfl, hb0⟩
        go_wp2_with fail
        refine (new_good _ _ (by omega) (by omega)).mono ?_
        rintro e w2 ⟨rfl, hb1⟩
        have H := Has.start (d := a0) (hb0.trans (hb1.mono hb0.size))
        clear hb0 hb1
        go_wp2_with (first
          | (go_at_call 21; refine (above_any _ _ _ _ (by omega) (by omega)).mono ?_; rintro e w' ⟨rfl, hb⟩; replace H := H.next hb; have c := H.cell; clear hb)
          | (go_at_call 17; refine (refgood_any _ _ _ (by omega) (by omega)).mono ?_; rintro e w' ⟨rfl, rfl⟩))
        go_ret
        exact ⟨rfl, H.below⟩
      · have HV := Lib.hid hv
        have HU := Lib.hid hu
        have ⟨v1, v2⟩ := good_nat a0 a1 h h' hv
        have ⟨k1, k2⟩ := good_nat a0 a2 h h' hu
        have AC := Lib.hid (apart_cases a0 a1 a2 h h' hv hu)
        have BC := Lib.hid (before_cases a0 a1 a2)
        have HP := Lib.hid (inPath_above a0 a1 a2 h h' hv hu)
        have HR := Lib.hid (refBefore_before a0 a1 a2 h h' hv hu)
        have HT := Lib.hid (before_trans a0 a1 a2 a3)
        go_enter Try.func5, Try.ntmps5
        go_wp2_with fail
        refine (alive_any _).mono ?_
        rintro e w1 ⟨rfl, hb0⟩
        go_wp2_with fail
        refine (new_good _ _ (by omega) (by omega)).mono ?_
        rintro e w2 ⟨rfl, hb1⟩
        have H := Has.start (d := a0) (hb0.trans (hb1.mono hb0.size))
        clear hb0 hb1
        go_upto_region 11 with (first
          | (go_at_call 14; refine (range_any _ _ _ (by omega) (by omega)).mono ?_; rintro e w' ⟨rfl, hb⟩; replace H := H.next hb; have c := H.cell; clear hb)
          | (go_at_call 17; refine (refgood_any _ _ _ (by omega) (by omega)).mono ?_; rintro e w' ⟨rfl, rfl⟩))
        go_cut [16] (fun s wx => s = .bool (apartB a0 a1 a2) ∧ wx.cell? ⟨w2.heap.size, 0, none⟩ = some (.int .i64 a0) ∧ Has w w2.heap.size a0 wx)
        case first =>
          by_cases q : highV a0 a1 < lowV a0 a2
          · have HQ := Lib.hid (show true = apartB a0 a1 a2 by unfold apartB; simp [q])
            go_wp2_with fail
            go_meet
            exact ⟨congrArg Value.bool HQ.out, H.cell, H⟩
          · have HQ := Lib.hid (show decide (highV a0 a2 < lowV a0 a1) = apartB a0 a1 a2 by unfold apartB; simp [q])
            go_wp2_with fail
            go_meet
            exact ⟨congrArg Value.bool HQ.out, H.cell, H⟩
        case rest =>
          clear H
          obtain ⟨rfl, c, H⟩ := hcut
          go_upto_region 12 with fail
          go_cut [16, 94] (fun _ s wx => s = .bool false ∧ wx.cell? ⟨w2.heap.size, 0, none⟩ = some (.int .i64 a0) ∧ Has w w2.heap.size a0 wx)
          case first =>
            have E1 := Lib.hid (show (!(beforeB a0 a1 a2 == refBeforeB a0 a1 a2)) = false by rw [HR.out]; simp)
            rcases AC.out with ⟨x1, x2⟩ | ⟨x1, x2, x3⟩ | ⟨x1, x2, x3⟩
            · have x4 : inPath a1 a2 = true := HP.out.trans x1
              go_wp2_with (first
                | (go_at_call 21; refine (above_any _ _ _ _ (by omega) (by omega)).mono ?_; rintro e w' ⟨rfl, hb⟩; replace H := H.next hb; have c := H.cell; clear hb)
                | (go_at_call 23; refine (before_any _ _ _ _ (by omega) (by omega)).mono ?_; rintro e w' ⟨rfl, hb⟩; replace H := H.next hb; have c := H.cell; clear hb)
                | (go_at_call 22; refine (refabove_any _ _ _ (by omega) (by omega)).mono ?_; rintro e w' ⟨rfl, hb⟩; replace H := H.next hb; have c := H.cell; clear hb)
                | (go_at_call 24; refine (refbefore_any _ _ _ _ (by omega) (by omega) HV.out HU.out).mono ?_; rintro e w' ⟨rfl, hb⟩; replace H := H.next hb; have c := H.cell; clear hb))
              go_meet
              exact ⟨congrArg Value.bool E1.out, H.cell, H⟩
            · have x4 : inPath a1 a2 = false := HP.out.trans x1
              go_wp2_with (first
                | (go_at_call 21; refine (above_any _ _ _ _ (by omega) (by omega)).mono ?_; rintro e w' ⟨rfl, hb⟩; replace H := H.next hb; have c := H.cell; clear hb)
                | (go_at_call 23; refine (before_any _ _ _ _ (by omega) (by omega)).mono ?_; rintro e w' ⟨rfl, hb⟩; replace H := H.next hb; have c := H.cell; clear hb)
                | (go_at_call 22; refine (refabove_any _ _ _ (by omega) (by omega)).mono ?_; rintro e w' ⟨rfl, hb⟩; replace H := H.next hb; have c := H.cell; clear hb)
                | (go_at_call 24; refine (refbefore_any _ _ _ _ (by omega) (by omega) HV.out HU.out).mono ?_; rintro e w' ⟨rfl, hb⟩; replace H := H.next hb; have c := H.cell; clear hb))
              go_meet
              exact ⟨congrArg Value.bool E1.out, H.cell, H⟩
            · have x4 : inPath a1 a2 = false := HP.out.trans x1
              go_wp2_with (first
                | (go_at_call 21; refine (above_any _ _ _ _ (by omega) (by omega)).mono ?_; rintro e w' ⟨rfl, hb⟩; replace H := H.next hb; have c := H.cell; clear hb)
                | (go_at_call 23; refine (before_any _ _ _ _ (by omega) (by omega)).mono ?_; rintro e w' ⟨rfl, hb⟩; replace H := H.next hb; have c := H.cell; clear hb)
                | (go_at_call 22; refine (refabove_any _ _ _ (by omega) (by omega)).mono ?_; rintro e w' ⟨rfl, hb⟩; replace H := H.next hb; have c := H.cell; clear hb)
                | (go_at_call 24; refine (refbefore_any _ _ _ _ (by omega) (by omega) HV.out HU.out).mono ?_; rintro e w' ⟨rfl, hb⟩; replace H := H.next hb; have c := H.cell; clear hb))
              go_meet
              exact ⟨congrArg Value.bool E1.out, H.cell, H⟩
          case rest =>
            clear H
            obtain ⟨rfl, c, H⟩ := hcut
            go_upto_region 14 with fail
            go_cut [120] (fun s wx => s = .bool false ∧ wx.cell? ⟨w2.heap.size, 0, none⟩ = some (.int .i64 a0) ∧ Has w w2.heap.size a0 wx)
            case first =>
              rcases BC.out with ⟨x1, x2, x3⟩ | ⟨x1, x2, x3⟩ | ⟨x1, x2, x3⟩
              · go_wp2_with (first
                  | (go_at_call 23; refine (before_any _ _ _ _ (by omega) (by omega)).mono ?_; rintro e w' ⟨rfl, hb⟩; replace H := H.next hb; have c := H.cell; clear hb))
                go_meet
                exact ⟨rfl, H.cell, H⟩
              · go_wp2_with (first
                  | (go_at_call 23; refine (before_any _ _ _ _ (by omega) (by omega)).mono ?_; rintro e w' ⟨rfl, hb⟩; replace H := H.next hb; have c := H.cell; clear hb))
                go_meet
                exact ⟨rfl, H.cell, H⟩
              · go_wp2_with (first
                  | (go_at_call 23; refine (before_any _ _ _ _ (by omega) (by omega)).mono ?_; rintro e w' ⟨rfl, hb⟩; replace H := H.next hb; have c := H.cell; clear hb))
                go_meet
                exact ⟨rfl, H.cell, H⟩
            case rest =>
              clear H
              obtain ⟨rfl, c, H⟩ := hcut
              cases gx : goodB a0 a3
              · go_wp2_with (first
                  | (go_at_call 23; refine (before_any _ _ _ _ (by omega) (by omega)).mono ?_; rintro e w' ⟨rfl, hb⟩; replace H := H.next hb; have c := H.cell; clear hb)
                  | (go_at_call 17; refine (refgood_any _ _ _ (by omega) (by omega)).mono ?_; rintro e w' ⟨rfl, rfl⟩))
                go_ret
                exact ⟨rfl, H.below⟩
              · cases bx : beforeB a0 a1 a2
                · go_wp2_with (first
                    | (go_at_call 23; refine (before_any _ _ _ _ (by omega) (by omega)).mono ?_; rintro e w' ⟨rfl, hb⟩; replace H := H.next hb; have c := H.cell; clear hb)
                    | (go_at_call 17; refine (refgood_any _ _ _ (by omega) (by omega)).mono ?_; rintro e w' ⟨rfl, rfl⟩))
                  go_ret
                  exact ⟨rfl, H.below⟩
                · cases by1 : beforeB a0 a2 a3
                  · go_wp2_with (first
                      | (go_at_call 23; refine (before_any _ _ _ _ (by omega) (by omega)).mono ?_; rintro e w' ⟨rfl, hb⟩; replace H := H.next hb; have c := H.cell; clear hb)
                      | (go_at_call 17; refine (refgood_any _ _ _ (by omega) (by omega)).mono ?_; rintro e w' ⟨rfl, rfl⟩))
                    go_ret
                    exact ⟨rfl, H.below⟩
                  · have bz : beforeB a0 a1 a3 = true := HT.out bx by1
                    go_wp2_with (first
                      | (go_at_call 23; refine (before_any _ _ _ _ (by omega) (by omega)).mono ?_; rintro e w' ⟨rfl, hb⟩; replace H := H.next hb; have c := H.cell; clear hb)
                      | (go_at_call 17; refine (refgood_any _ _ _ (by omega) (by omega)).mono ?_; rintro e w' ⟨rfl, rfl⟩))
                    go_ret
                    exact ⟨rfl, H.below⟩
  · go_enter Try.func5, Try.ntmps5
    go_wp2_with fail
    refine (alive_any _).mono ?_
    rintro e w1 ⟨rfl, hb0⟩
    go_wp2_with fail
    refine (new_bad _ _ (by omega)).mono ?_
    rintro e w2 ⟨rfl, hb1⟩
    have hB := hb0.trans (hb1.mono hb0.size)
    go_wp2
    all_goals
      go_ret
      exact ⟨rfl, hB.alloc hB.size _⟩

set_option maxRecDepth 100000 in
theorem lifted (os : Os) (started : os.Started) (H : Type) (enc : TypeId × Value → H) :
    ReturnsInHanded {} Try.checked os 5 .any (Rows.treeAboveSpec.pre6 enc Try.prog Try.f5 Rows.treeAboveRow.domain false) (Rows.treeAboveSpec.post enc Try.prog Try.f5 false true false false) := by
  refine returnsInHanded_of_change (C := Try.checked) own started (by kernel_rfl) Try.func5
    (ChangeSpec.witness6 (enc := enc) (C := Try.checked) false ⟨#[], #[.int .i64 0, .int .i64 0, .int .i64 0, .int .i64 0], []⟩ 8 (by kernel_rfl) (by kernel_rfl) (by kernel_rfl) (by kernel_rfl)) ?_
  intro W base args ds gs before hval0 hW hcnd _
  have hval : ∀ (j : Nat) t v, Try.f5.params[j]? = some t → args[j]? = some v → Value.okWide Try.prog W .any base t v := hval0
  have hW' := hW
  obtain ⟨p, q, hA0, hV, rfl, hfz, hnd⟩ := hW
  have hA : DataW.TrodAll enc Try.prog W 0 (fun _ => true) true Try.f5.params.toList args.toList ds p := hA0
  rw [Try.params5] at hA hval
  obtain ⟨v0, vs0, d0, ds0, p0, q0, hargs, rfl, rfl, h0, r0⟩ := trodAll_cons hA
  obtain ⟨v1, vs1, d1, ds1, p1, q1, rfl, rfl, rfl, h1, r1⟩ := trodAll_cons r0
  obtain ⟨v2, vs2, d2, ds2, p2, q2, rfl, rfl, rfl, h2, r2⟩ := trodAll_cons r1
  obtain ⟨v3, vs3, d3, ds3, p3, q3, rfl, rfl, rfl, h3, r3⟩ := trodAll_cons r2
  obtain ⟨rfl, rfl, rfl⟩ := trodAll_nil r3
  obtain rfl : args = #[v0, v1, v2, v3] := by cases args; simp_all
  obtain ⟨rfl, rfl⟩ := trodVars_none hV
  obtain ⟨a0, rfl, rfl, rfl, w0⟩ := open_int Try.underlying3 (hval 0 3 v0 rfl rfl) h0
  obtain ⟨a1, rfl, rfl, rfl, w1⟩ := open_int Try.underlying3 (hval 1 3 v1 rfl rfl) h1
  obtain ⟨a2, rfl, rfl, rfl, w2⟩ := open_int Try.underlying3 (hval 2 3 v2 rfl rfl) h2
  obtain ⟨a3, rfl, rfl, rfl, w3⟩ := open_int Try.underlying3 (hval 3 3 v3 rfl rfl) h3
  clear hA0 hval0
  simp only [List.append_nil] at hW'
  refine (walk a0 a1 a2 a3 w0 w1 w2 w3 W).mono fun e W' ⟨he, hg⟩ => ?_
  subst he
  exact ⟨_, rfl, _, _, _, [], [], [], hW', (trodAll_cons_mk (shut_bool Try.underlying4 _) trodAll_mk0), (trodAll_cons_mk (shut_int Try.underlying3 w0) (trodAll_cons_mk (shut_int Try.underlying3 w1) (trodAll_cons_mk (shut_int Try.underlying3 w2) (trodAll_cons_mk (shut_int Try.underlying3 w3) trodAll_mk0)))), rfl, hg.frame _, fun h => by cases h⟩

theorem over : Rows.treeAboveRow.holds Try.pinned (OpenSpec.ofChange Rows.treeAboveSpec) :=
  OpenClaim.holds_of_wide 5 Try.f5 rfl rfl rfl rfl rfl rfl rfl ⟨rfl, rfl, rfl, rfl, rfl⟩ rfl rfl rfl rfl rfl (by kernel_rfl) Try.func5 (by kernel_rfl)
    (of_decide_eq_true (by kernel_rfl)) (by unfold Func.isWrapper; first | (rw [if_pos (by decide +kernel)]; kernel_rfl) | (rw [if_neg (by decide +kernel)]; exact ⟨rfl, rfl⟩))
    (fun os started H enc _ => lifted os started H enc)

theorem proved : Rows.TreeAboveSaid :=
  over
#print axioms proved
end Go.Proofs.Ytdmihnfhfpadkaa.treeAbove
