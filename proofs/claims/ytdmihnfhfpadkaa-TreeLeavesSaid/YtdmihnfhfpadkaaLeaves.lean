/-
  The given statement TreeLeaves: for every depth and every int64 the law returns true, and the arguments read afterwards as before. Conditions: none.
-/
import Derived.Test.YtdmihnfhfpadkaaAlive
import Derived.WalkKit
import Derived.ProofKit
import Derived.OpenShut
import Derived.ShutString
namespace Go.Proofs.Ytdmihnfhfpadkaa.treeLeaves
open Go.ChangeShapes Go.WideShapes Go.ChangeAt Go.RowKit
open Go.ChangeMaps (open_string shut_string)
set_option linter.unusedVariables false

theorem own : ownKnob Try.prog.godebug = none := by kernel_rfl

theorem walk (a0 : Int) (a1 : Int) (w0 : (Lit.int .i64 a0).wf = true) (w1 : (Lit.int .i64 a1).wf = true) (w : World) :
    Calls Try.prog 3 #[.int .i64 a0, .int .i64 a1] w fun e w' => e = .returned (.bool true) ∧ Below w.heap.size w w' := by
  have ⟨l0, u0⟩ := bounds_i64 w0
  have ⟨l1, u1⟩ := bounds_i64 w1
  clear w0 w1
  by_cases hd : 1 ≤ a0 ∧ a0 ≤ 24
  · obtain ⟨h, h'⟩ := hd
    have ⟨p1, p2⟩ := pw_bd a0 h h'
    by_cases h0 : 0 ≤ a1
    · by_cases h1 : a1 < pw a0
      · have hl : leafB a0 a1 = true := (leafB_iff _ _).2 ⟨h0, h1⟩
        have hv : leafV a0 a1 = pw a0 + a1 := by unfold leafV; rw [if_pos hl]
        obtain ⟨g1, g2, g3, g4, g5⟩ := leaf_node a0 a1 h h' hl
        have e4 : (lowV a0 (pw a0 + a1) == a1) = true := beq_iff_eq.2 g4
        have e5 : (highV a0 (pw a0 + a1) == a1) = true := beq_iff_eq.2 g5
        have e2 : (levV a0 (pw a0 + a1) == a0) = true := beq_iff_eq.2 g2
        have e6 : IntKind.i64.wrap (2 ^ a0.toNat) = pw a0 := by
          show IntKind.i64.wrap (pw a0) = pw a0
          rw [IntKind.wrap_i64]; omega
        have e7 : (pw a0 == pw a0) = true := by simp
        have HG := Lib.hid g1
        clear g1 g2 g3 g4 g5
        go_enter Try.func3, Try.ntmps3
        go_wp2_with fail
        refine (alive_any _).mono ?_
        rintro e w1 ⟨rfl, hb0⟩
        go_wp2_with fail
        refine (new_good _ _ (by omega) (by omega)).mono ?_
        rintro e w2 ⟨rfl, hb1⟩
        have H := Has.start (d := a0) (hb0.trans (hb1.mono hb0.size))
        obtain ⟨B, hB⟩ : ∃ B, B = w2.heap.size := ⟨_, rfl⟩
        clear hb0 hb1
        go_wp2_with (first
          | (go_at_call 10; refine (leaf_any _ _ _ (by omega) (by omega) (by omega)).mono ?_; rintro e w' ⟨rfl, hb⟩; replace H := H.next hb; have c := H.cell; clear hb)
          | (go_at_call 11; refine (leaves_any _ _ (by omega) (by omega)).mono ?_; rintro e w' ⟨rfl, hb⟩; replace H := H.next hb; have c := H.cell; clear hb)
          | (go_at_call 12; refine (refrange_any _ _ _ (by omega) (by omega) HG.out).mono ?_; rintro e w' ⟨rfl, hb⟩; replace H := H.next hb; have c := H.cell; clear hb))
        have S1 := Lib.hid H.one
        go_region_held3 (fun w' => w'.cell? ⟨w2.heap.size, 0, none⟩ = some (.int .i64 a0) ∧ Has w w2.heap.size a0 w') (first | exact S1.out | exact Has.two S1.out (by assumption) | exact Has.two (by assumption) (by assumption))
          (first
            | (go_at_call 13; refine (level_any _ _ _ (by omega) (by omega)).mono ?_; rintro e w' ⟨rfl, hb⟩)
            | (go_at_call 11; refine (leaves_any _ _ (by omega) (by omega)).mono ?_; rintro e w' ⟨rfl, hb⟩))
        have hS : w'.cell? ⟨w2.heap.size, 0, none⟩ = some (.int .i64 a0) ∧ Has w w2.heap.size a0 w' := by assumption
        go_wp2
        go_ret
        exact ⟨rfl, hS.2.below⟩
      · have hl : leafB a0 a1 = false := (leafB_no _ _).2 (by omega)
        have hv : leafV a0 a1 = 0 := by unfold leafV; rw [hl]; rfl
        go_enter Try.func3, Try.ntmps3
        go_wp2_with fail
        refine (alive_any _).mono ?_
        rintro e w1 ⟨rfl, hb0⟩
        go_wp2_with fail
        refine (new_good _ _ (by omega) (by omega)).mono ?_
        rintro e w2 ⟨rfl, hb1⟩
        have H := Has.start (d := a0) (hb0.trans (hb1.mono hb0.size))
        clear hb0 hb1
        go_wp2_with (first
          | (go_at_call 10; refine (leaf_any _ _ _ (by omega) (by omega) (by omega)).mono ?_; rintro e w' ⟨rfl, hb⟩; replace H := H.next hb; have c := H.cell; clear hb)
          | (go_at_call 11; refine (leaves_any _ _ (by omega) (by omega)).mono ?_; rintro e w' ⟨rfl, hb⟩; replace H := H.next hb; have c := H.cell; clear hb))
        go_ret
        exact ⟨rfl, H.below⟩
    · have hl : leafB a0 a1 = false := (leafB_no _ _).2 (by omega)
      have hv : leafV a0 a1 = 0 := by unfold leafV; rw [hl]; rfl
      go_enter Try.func3, Try.ntmps3
      go_wp2_with fail
      refine (alive_any _).mono ?_
      rintro e w1 ⟨rfl, hb0⟩
      go_wp2_with fail
      refine (new_good _ _ (by omega) (by omega)).mono ?_
      rintro e w2 ⟨rfl, hb1⟩
      have H := Has.start (d := a0) (hb0.trans (hb1.mono hb0.size))
      clear hb0 hb1
      go_wp2_with (first
        | (go_at_call 10; refine (leaf_any _ _ _ (by omega) (by omega) (by omega)).mono ?_; rintro e w' ⟨rfl, hb⟩; replace H := H.next hb; have c := H.cell; clear hb)
        | (go_at_call 11; refine (leaves_any _ _ (by omega) (by omega)).mono ?_; rintro e w' ⟨rfl, hb⟩; replace H := H.next hb; have c := H.cell; clear hb))
      go_ret
      exact ⟨rfl, H.below⟩
  · go_enter Try.func3, Try.ntmps3
    go_wp2_with fail
    refine (alive_any _).mono ?_
    rintro e w1 ⟨rfl, hb0⟩
    go_wp2_with fail
    refine (new_bad _ _ (by omega)).mono ?_
    rintro e w2 ⟨rfl, hb1⟩
    have hB := hb0.trans (hb1.mono hb0.size)
    go_wp2
    go_ret
    exact ⟨rfl, hB.alloc hB.size _⟩

set_option maxRecDepth 100000 in
theorem lifted (os : Os) (started : os.Started) (H : Type) (enc : TypeId × Value → H) :
    ReturnsInHanded {} Try.checked os 3 .any (Rows.treeLeavesSpec.pre6 enc Try.prog Try.f3 Rows.treeLeavesRow.domain false) (Rows.treeLeavesSpec.post enc Try.prog Try.f3 false true false false) := by
  refine returnsInHanded_of_change (C := Try.checked) own started (by kernel_rfl) Try.func3
    (ChangeSpec.witness6 (enc := enc) (C := Try.checked) false ⟨#[], #[.int .i64 0, .int .i64 0], []⟩ 8 (by kernel_rfl) (by kernel_rfl) (by kernel_rfl) (by kernel_rfl)) ?_
  intro W base args ds gs before hval0 hW hcnd _
  have hval : ∀ (j : Nat) t v, Try.f3.params[j]? = some t → args[j]? = some v → Value.okWide Try.prog W .any base t v := hval0
  have hW' := hW
  obtain ⟨p, q, hA0, hV, rfl, hfz, hnd⟩ := hW
  have hA : DataW.TrodAll enc Try.prog W 0 (fun _ => true) true Try.f3.params.toList args.toList ds p := hA0
  rw [Try.params3] at hA hval
  obtain ⟨v0, vs0, d0, ds0, p0, q0, hargs, rfl, rfl, h0, r0⟩ := trodAll_cons hA
  obtain ⟨v1, vs1, d1, ds1, p1, q1, rfl, rfl, rfl, h1, r1⟩ := trodAll_cons r0
  obtain ⟨rfl, rfl, rfl⟩ := trodAll_nil r1
  obtain rfl : args = #[v0, v1] := by cases args; simp_all
  obtain ⟨rfl, rfl⟩ := trodVars_none hV
  obtain ⟨a0, rfl, rfl, rfl, w0⟩ := open_int Try.underlying3 (hval 0 3 v0 rfl rfl) h0
  obtain ⟨a1, rfl, rfl, rfl, w1⟩ := open_int Try.underlying2 (hval 1 2 v1 rfl rfl) h1
  clear hA0 hval0
  simp only [List.append_nil] at hW'
  refine (walk a0 a1 w0 w1 W).mono fun e W' ⟨he, hg⟩ => ?_
  subst he
  exact ⟨_, rfl, _, _, _, [], [], [], hW', (trodAll_cons_mk (shut_bool Try.underlying4 _) trodAll_mk0), (trodAll_cons_mk (shut_int Try.underlying3 w0) (trodAll_cons_mk (shut_int Try.underlying2 w1) trodAll_mk0)), rfl, hg.frame _, fun h => by cases h⟩

theorem over : Rows.treeLeavesRow.holds Try.pinned (OpenSpec.ofChange Rows.treeLeavesSpec) :=
  OpenClaim.holds_of_wide 3 Try.f3 rfl rfl rfl rfl rfl rfl rfl ⟨rfl, rfl, rfl, rfl, rfl⟩ rfl rfl rfl rfl rfl (by kernel_rfl) Try.func3 (by kernel_rfl)
    (of_decide_eq_true (by kernel_rfl)) (by unfold Func.isWrapper; first | (rw [if_pos (by decide +kernel)]; kernel_rfl) | (rw [if_neg (by decide +kernel)]; exact ⟨rfl, rfl⟩))
    (fun os started H enc _ => lifted os started H enc)

theorem proved : Rows.TreeLeavesSaid :=
  over
#print axioms proved
end Go.Proofs.Ytdmihnfhfpadkaa.treeLeaves
