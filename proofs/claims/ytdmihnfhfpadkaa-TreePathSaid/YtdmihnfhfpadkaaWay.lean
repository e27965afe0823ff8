/-
  The given statement TreePath: for every input the law returns true, and the arguments read afterwards as before. Conditions: none.
-/
import Derived.Test.YtdmihnfhfpadkaaBelow
import Derived.WalkKit
import Derived.ProofKit
import Derived.OpenShut
import Derived.ShutString
namespace Go.Proofs.Ytdmihnfhfpadkaa.treePath
open Go.ChangeShapes Go.WideShapes Go.ChangeAt Go.RowKit
open Go.ChangeMaps (open_string shut_string)
set_option linter.unusedVariables false

theorem quiet_const {C : World → Prop} {x : Value} {K : Value → Prop} (h : K x) : ∃ v, (∀ w, C w → x = v) ∧ K v := ⟨x, fun _ _ => rfl, h⟩
theorem wp_region_quiet_litC {P : Program} {C : World → Prop} {id : Nat} {Q : Exit → Act → World → Prop} {a : Act} {w : World} {l : List Oper} (hm : P.follows .mixedOrders = true) (hB : Region.lexB .any l.toArray = true) (hC : C w.drew)
    (h : wpQuiet P l.toArray C (fun a' => ∀ w', C w' → Q .normal a' w') l a) : (Code.region id l.toArray true).wp P Q a w :=
  wp_region_quiet hm hB hC (by simpa using h)
theorem own : ownKnob Try.prog.godebug = none := by kernel_rfl

set_option maxRecDepth 100000 in
set_option maxHeartbeats 2000000 in
theorem walk (a0 : Int) (a1 : Int) (w0 : (Lit.int .i64 a0).wf = true) (w1 : (Lit.int .i64 a1).wf = true) (w : World) :
    Calls Try.prog 6 #[.int .i64 a0, .int .i64 a1] w fun e w' => e = .returned (.bool true) ∧ Below w.heap.size w w' := by
  have ⟨l0, u0⟩ := bounds_i64 w0
  have ⟨l1, u1⟩ := bounds_i64 w1
  clear w0 w1
  by_cases hd : 1 ≤ a0 ∧ a0 ≤ 24
  · obtain ⟨h, h'⟩ := hd
    have ⟨p1, p2⟩ := pw_bd a0 h h'
    by_cases h0 : 0 ≤ a1
    · by_cases h1 : a1 < pw a0
      · have hl : leafB a0 a1 = true := (leafB_iff _ _).2 ⟨h0, h1⟩
        have hv : leafV a0 a1 = pw a0 + a1 := by unfold leafV; rw [if_pos hl]
        have HLE := Lib.hid hl
        go_enter Try.func6, Try.ntmps6
        go_wp2_with fail
        refine (alive_any _).mono ?_
        rintro e w1 ⟨rfl, hb0⟩
        go_wp2_with fail
        refine (new_good _ _ (by omega) (by omega)).mono ?_
        rintro e w2 ⟨rfl, hb1⟩
        have H := Has.start (d := a0) (hb0.trans (hb1.mono hb0.size))
        clear hb0 hb1
        go_wp2_with (first
          | (go_at_call 10; refine (leaf_any _ _ _ (by omega) (by omega) (by omega)).mono ?_; rintro e w' ⟨rfl, hb⟩; replace H := H.next hb; have c := H.cell; clear hb))
        go_loopw [9, 10] (fun k v wr => ∃ j : Nat, (j : Int) ≤ a0 ∧ k = .int .i64 j ∧ v = .int .i64 ((pw a0 + a1) / 2 ^ j) ∧ Has w w2.heap.size a0 wr) (fun k _ _ => a0.toNat - (RowKit.intOf k).toNat)
        case atStart => exact ⟨0, by omega, rfl, by simp, H⟩
        case round =>
          clear c H
          obtain ⟨j, hj, rfl, rfl, H⟩ := hrel
          have c := H.cell
          by_cases hlt : 1 < (pw a0 + a1) / 2 ^ j
          · obtain ⟨b1, b2, b3, b4, b5, b6, b7, b8, b9⟩ := up_law a0 a1 j h h' HLE.out hlt
            have ⟨k1, k2⟩ := good_nat a0 _ h h' b1
            have ⟨m1, m2⟩ := good_nat a0 _ h h' b2
            have ⟨n1, n2⟩ := levV_bd a0 ((pw a0 + a1) / 2 ^ j) h h'
            have BC := before_cases a0 ((pw a0 + a1) / 2 ^ j) ((pw a0 + a1) / 2 ^ (j + 1))
            generalize hu : (pw a0 + a1) / 2 ^ (j + 1) = u at *
            have HU := Lib.hid hu
            clear hu
            generalize (pw a0 + a1) / 2 ^ j = v at *
            have f6 : decide (a1 < lowV a0 u) = false := decide_eq_false (by omega)
            have f7 : decide (highV a0 u < a1) = false := decide_eq_false (by omega)
            have f8 : (levV a0 u != levV a0 v - 1) = false := by simp [b8]
            have f8' : (levV a0 u == levV a0 v - 1) = true := by simp [b8]
            have f9 : IntKind.i64.wrap (levV a0 v - 1) = levV a0 v - 1 := by rw [IntKind.wrap_i64]; omega
            clear b1 b2 b6 b7 b8
            rcases BC with ⟨x1, x2, x3⟩ | ⟨x1, x2, x3⟩ | ⟨x1, x2, x3⟩
            · go_upto_region 14 with (first
                | (go_at_call 18; refine (up_any _ _ _ (by omega) (by omega)).mono ?_; rintro e w' ⟨rfl, hb⟩; replace H := H.next hb; have c := H.cell; clear hb)
                | (go_at_call 14; refine (range_any _ _ _ (by omega) (by omega)).mono ?_; rintro e w' ⟨rfl, hb⟩; replace H := H.next hb; have c := H.cell; clear hb))
              refine wp_region_quiet_litC (C := Has w w2.heap.size a0) (by kernel_rfl) (by kernel_rfl) H.drew ?_
              repeat (first | go_big_quiet_skip | (go_big_quiet_want; go_big_quiet_op; first | go_big_quiet_on | (refine quiet_const ?_; go_big_quiet_on)))
              go_big_quiet_want
              refine ⟨.agg #[.int .i64 a0], fun wx hx => ?_, ?_⟩
              · have cx := hx.cell
                go_simp
              go_big_quiet_on
              simp only [Act.put, List.setIfInBounds_toArray, List.set_cons_zero, List.set_cons_succ]
              repeat (first | go_big_quiet_skip | (go_big_quiet_want; go_big_quiet_op; first | go_big_quiet_on | (refine quiet_const ?_; go_big_quiet_on)))
              go_big_quiet_want
              go_big_quiet_op
              refine ⟨.bool true, fun wx hx => ?_, ?_⟩
              · exact (above_any _ _ _ _ h h').mono fun _ _ hm => ⟨by rw [hm.1, b5], hx.next hm.2⟩
              go_big_quiet_on
              repeat (first | go_big_quiet_skip | (go_big_quiet_want; go_big_quiet_op; first | go_big_quiet_on | (refine quiet_const ?_; go_big_quiet_on)))
              go_big_quiet_want
              refine ⟨.agg #[.int .i64 a0], fun wx hx => ?_, ?_⟩
              · have cx := hx.cell
                go_simp
              go_big_quiet_on
              simp only [Act.put, List.setIfInBounds_toArray, List.set_cons_zero, List.set_cons_succ]
              repeat (first | go_big_quiet_skip | (go_big_quiet_want; go_big_quiet_op; first | go_big_quiet_on | (refine quiet_const ?_; go_big_quiet_on)))
              go_big_quiet_want
              go_big_quiet_op
              refine ⟨.int .i64 (levV a0 u), fun wx hx => ?_, ?_⟩
              · exact (level_any _ _ _ h h').mono fun _ _ hm => ⟨hm.1, hx.next hm.2⟩
              go_big_quiet_on
              repeat (first | go_big_quiet_skip | (go_big_quiet_want; go_big_quiet_op; first | go_big_quiet_on | (refine quiet_const ?_; go_big_quiet_on)))
              go_big_quiet_want
              refine ⟨.agg #[.int .i64 a0], fun wx hx => ?_, ?_⟩
              · have cx := hx.cell
                go_simp
              go_big_quiet_on
              simp only [Act.put, List.setIfInBounds_toArray, List.set_cons_zero, List.set_cons_succ]
              repeat (first | go_big_quiet_skip | (go_big_quiet_want; go_big_quiet_op; first | go_big_quiet_on | (refine quiet_const ?_; go_big_quiet_on)))
              go_big_quiet_want
              go_big_quiet_op
              refine ⟨.int .i64 (levV a0 v), fun wx hx => ?_, ?_⟩
              · exact (level_any _ _ _ h h').mono fun _ _ hm => ⟨hm.1, hx.next hm.2⟩
              go_big_quiet_on
              repeat (first | go_big_quiet_skip | (go_big_quiet_want; go_big_quiet_op; first | go_big_quiet_on | (refine quiet_const ?_; go_big_quiet_on)))
              go_big_quiet_want
              refine ⟨.agg #[.int .i64 a0], fun wx hx => ?_, ?_⟩
              · have cx := hx.cell
                go_simp
              go_big_quiet_on
              simp only [Act.put, List.setIfInBounds_toArray, List.set_cons_zero, List.set_cons_succ]
              repeat (first | go_big_quiet_skip | (go_big_quiet_want; go_big_quiet_op; first | go_big_quiet_on | (refine quiet_const ?_; go_big_quiet_on)))
              go_big_quiet_want
              go_big_quiet_op
              refine ⟨.bool true, fun wx hx => ?_, ?_⟩
              · exact (before_any _ _ _ _ h h').mono fun _ _ hm => ⟨by rw [hm.1, x1], hx.next hm.2⟩
              go_big_quiet_on
              repeat (first | go_big_quiet_skip | (go_big_quiet_want; go_big_quiet_op; first | go_big_quiet_on | (refine quiet_const ?_; go_big_quiet_on)))
              refine wpQuiet_nil ?_
              clear c H
              intro wx H
              have c := H.cell
              go_wp2
              go_roundw
              case rel => exact ⟨j + 1, by omega, by go_num, by rw [HU.out], H⟩
              case measure => simp [RowKit.intOf]; omega
            · go_upto_region 14 with (first
                | (go_at_call 18; refine (up_any _ _ _ (by omega) (by omega)).mono ?_; rintro e w' ⟨rfl, hb⟩; replace H := H.next hb; have c := H.cell; clear hb)
                | (go_at_call 14; refine (range_any _ _ _ (by omega) (by omega)).mono ?_; rintro e w' ⟨rfl, hb⟩; replace H := H.next hb; have c := H.cell; clear hb))
              refine wp_region_quiet_litC (C := Has w w2.heap.size a0) (by kernel_rfl) (by kernel_rfl) H.drew ?_
              repeat (first | go_big_quiet_skip | (go_big_quiet_want; go_big_quiet_op; first | go_big_quiet_on | (refine quiet_const ?_; go_big_quiet_on)))
              go_big_quiet_want
              refine ⟨.agg #[.int .i64 a0], fun wx hx => ?_, ?_⟩
              · have cx := hx.cell
                go_simp
              go_big_quiet_on
              simp only [Act.put, List.setIfInBounds_toArray, List.set_cons_zero, List.set_cons_succ]
              repeat (first | go_big_quiet_skip | (go_big_quiet_want; go_big_quiet_op; first | go_big_quiet_on | (refine quiet_const ?_; go_big_quiet_on)))
              go_big_quiet_want
              go_big_quiet_op
              refine ⟨.bool true, fun wx hx => ?_, ?_⟩
              · exact (above_any _ _ _ _ h h').mono fun _ _ hm => ⟨by rw [hm.1, b5], hx.next hm.2⟩
              go_big_quiet_on
              repeat (first | go_big_quiet_skip | (go_big_quiet_want; go_big_quiet_op; first | go_big_quiet_on | (refine quiet_const ?_; go_big_quiet_on)))
              go_big_quiet_want
              refine ⟨.agg #[.int .i64 a0], fun wx hx => ?_, ?_⟩
              · have cx := hx.cell
                go_simp
              go_big_quiet_on
              simp only [Act.put, List.setIfInBounds_toArray, List.set_cons_zero, List.set_cons_succ]
              repeat (first | go_big_quiet_skip | (go_big_quiet_want; go_big_quiet_op; first | go_big_quiet_on | (refine quiet_const ?_; go_big_quiet_on)))
              go_big_quiet_want
              go_big_quiet_op
              refine ⟨.int .i64 (levV a0 u), fun wx hx => ?_, ?_⟩
              · exact (level_any _ _ _ h h').mono fun _ _ hm => ⟨hm.1, hx.next hm.2⟩
              go_big_quiet_on
              repeat (first | go_big_quiet_skip | (go_big_quiet_want; go_big_quiet_op; first | go_big_quiet_on | (refine quiet_const ?_; go_big_quiet_on)))
              go_big_quiet_want
              refine ⟨.agg #[.int .i64 a0], fun wx hx => ?_, ?_⟩
              · have cx := hx.cell
                go_simp
              go_big_quiet_on
              simp only [Act.put, List.setIfInBounds_toArray, List.set_cons_zero, List.set_cons_succ]
              repeat (first | go_big_quiet_skip | (go_big_quiet_want; go_big_quiet_op; first | go_big_quiet_on | (refine quiet_const ?_; go_big_quiet_on)))
              go_big_quiet_want
              go_big_quiet_op
              refine ⟨.int .i64 (levV a0 v), fun wx hx => ?_, ?_⟩
              · exact (level_any _ _ _ h h').mono fun _ _ hm => ⟨hm.1, hx.next hm.2⟩
              go_big_quiet_on
              repeat (first | go_big_quiet_skip | (go_big_quiet_want; go_big_quiet_op; first | go_big_quiet_on | (refine quiet_const ?_; go_big_quiet_on)))
              go_big_quiet_want
              refine ⟨.agg #[.int .i64 a0], fun wx hx => ?_, ?_⟩
              · have cx := hx.cell
                go_simp
              go_big_quiet_on
              simp only [Act.put, List.setIfInBounds_toArray, List.set_cons_zero, List.set_cons_succ]
              repeat (first | go_big_quiet_skip | (go_big_quiet_want; go_big_quiet_op; first | go_big_quiet_on | (refine quiet_const ?_; go_big_quiet_on)))
              go_big_quiet_want
              go_big_quiet_op
              refine ⟨.bool false, fun wx hx => ?_, ?_⟩
              · exact (before_any _ _ _ _ h h').mono fun _ _ hm => ⟨by rw [hm.1, x1], hx.next hm.2⟩
              go_big_quiet_on
              repeat (first | go_big_quiet_skip | (go_big_quiet_want; go_big_quiet_op; first | go_big_quiet_on | (refine quiet_const ?_; go_big_quiet_on)))
              go_big_quiet_want
              refine ⟨.agg #[.int .i64 a0], fun wx hx => ?_, ?_⟩
              · have cx := hx.cell
                go_simp
              go_big_quiet_on
              simp only [Act.put, List.setIfInBounds_toArray, List.set_cons_zero, List.set_cons_succ]
              repeat (first | go_big_quiet_skip | (go_big_quiet_want; go_big_quiet_op; first | go_big_quiet_on | (refine quiet_const ?_; go_big_quiet_on)))
              go_big_quiet_want
              go_big_quiet_op
              refine ⟨.bool true, fun wx hx => ?_, ?_⟩
              · exact (before_any _ _ _ _ h h').mono fun _ _ hm => ⟨by rw [hm.1, x2], hx.next hm.2⟩
              go_big_quiet_on
              repeat (first | go_big_quiet_skip | (go_big_quiet_want; go_big_quiet_op; first | go_big_quiet_on | (refine quiet_const ?_; go_big_quiet_on)))
              refine wpQuiet_nil ?_
              clear c H
              intro wx H
              have c := H.cell
              go_wp2
              go_roundw
              case rel => exact ⟨j + 1, by omega, by go_num, by rw [HU.out], H⟩
              case measure => simp [RowKit.intOf]; omega
            · rw [x3] at b9; cases b9
          · obtain ⟨q1, q2⟩ := up_end a0 a1 j h h' HLE.out hj hlt
            have f1 : ((pw a0 + a1) / 2 ^ j == 1) = true := beq_iff_eq.2 q1
            have f2 : ((j : Int) == a0) = true := beq_iff_eq.2 q2
            clear q1 q2
            go_wp2
            go_ret
            exact ⟨rfl, H.below⟩
      · have hl : leafB a0 a1 = false := (leafB_no _ _).2 (by omega)
        have hv : leafV a0 a1 = 0 := by unfold leafV; rw [hl]; rfl
        go_enter Try.func6, Try.ntmps6
        go_wp2_with fail
        refine (alive_any _).mono ?_
        rintro e w1 ⟨rfl, hb0⟩
        go_wp2_with fail
        refine (new_good _ _ (by omega) (by omega)).mono ?_
        rintro e w2 ⟨rfl, hb1⟩
        have H := Has.start (d := a0) (hb0.trans (hb1.mono hb0.size))
        clear hb0 hb1
        go_wp2_with (first
          | (go_at_call 10; refine (leaf_any _ _ _ (by omega) (by omega) (by omega)).mono ?_; rintro e w' ⟨rfl, hb⟩; replace H := H.next hb; have c := H.cell; clear hb)
          | (go_at_call 11; refine (leaves_any _ _ (by omega) (by omega)).mono ?_; rintro e w' ⟨rfl, hb⟩; replace H := H.next hb; have c := H.cell; clear hb))
        go_ret
        exact ⟨rfl, H.below⟩
    · have hl : leafB a0 a1 = false := (leafB_no _ _).2 (by omega)
      have hv : leafV a0 a1 = 0 := by unfold leafV; rw [hl]; rfl
      go_enter Try.func6, Try.ntmps6
      go_wp2_with fail
      refine (alive_any _).mono ?_
      rintro e w1 ⟨rfl, hb0⟩
      go_wp2_with fail
      refine (new_good _ _ (by omega) (by omega)).mono ?_
      rintro e w2 ⟨rfl, hb1⟩
      have H := Has.start (d := a0) (hb0.trans (hb1.mono hb0.size))
      clear hb0 hb1
      go_wp2_with (first
        | (go_at_call 10; refine (leaf_any _ _ _ (by omega) (by omega) (by omega)).mono ?_; rintro e w' ⟨rfl, hb⟩; replace H := H.next hb; have c := H.cell; clear hb)
        | (go_at_call 11; refine (leaves_any _ _ (by omega) (by omega)).mono ?_; rintro e w' ⟨rfl, hb⟩; replace H := H.next hb; have c := H.cell; clear hb))
      go_ret
      exact ⟨rfl, H.below⟩
  · go_enter Try.func6, Try.ntmps6
    go_wp2_with fail
    refine (alive_any _).mono ?_
    rintro e w1 ⟨rfl, hb0⟩
    go_wp2_with fail
    refine (new_bad _ _ (by omega)).mono ?_
    rintro e w2 ⟨rfl, hb1⟩
    have hB := hb0.trans (hb1.mono hb0.size)
    go_wp2
    all_goals
      go_ret
      exact ⟨rfl, hB.alloc hB.size _⟩

set_option maxRecDepth 100000 in
theorem lifted (os : Os) (started : os.Started) (H : Type) (enc : TypeId × Value → H) :
    ReturnsInHanded {} Try.checked os 6 .any (Rows.treePathSpec.pre6 enc Try.prog Try.f6 Rows.treePathRow.domain false) (Rows.treePathSpec.post enc Try.prog Try.f6 false true false false) := by
  refine returnsInHanded_of_change (C := Try.checked) own started (by kernel_rfl) Try.func6
    (ChangeSpec.witness6 (enc := enc) (C := Try.checked) false ⟨#[], #[.int .i64 0, .int .i64 0], []⟩ 8 (by kernel_rfl) (by kernel_rfl) (by kernel_rfl) (by kernel_rfl)) ?_
  intro W base args ds gs before hval0 hW hcnd _
  have hval : ∀ (j : Nat) t v, Try.f6.params[j]? = some t → args[j]? = some v → Value.okWide Try.prog W .any base t v := hval0
  have hW' := hW
  obtain ⟨p, q, hA0, hV, rfl, hfz, hnd⟩ := hW
  have hA : DataW.TrodAll enc Try.prog W 0 (fun _ => true) true Try.f6.params.toList args.toList ds p := hA0
  rw [Try.params6] at hA hval
  obtain ⟨v0, vs0, d0, ds0, p0, q0, hargs, rfl, rfl, h0, r0⟩ := trodAll_cons hA
  obtain ⟨v1, vs1, d1, ds1, p1, q1, rfl, rfl, rfl, h1, r1⟩ := trodAll_cons r0
  obtain ⟨rfl, rfl, rfl⟩ := trodAll_nil r1
  obtain rfl : args = #[v0, v1] := by cases args; simp_all
  obtain ⟨rfl, rfl⟩ := trodVars_none hV
  obtain ⟨a0, rfl, rfl, rfl, w0⟩ := open_int Try.underlying3 (hval 0 3 v0 rfl rfl) h0
  obtain ⟨a1, rfl, rfl, rfl, w1⟩ := open_int Try.underlying2 (hval 1 2 v1 rfl rfl) h1
  clear hA0 hval0
  simp only [List.append_nil] at hW'
  refine (walk a0 a1 w0 w1 W).mono fun e W' ⟨he, hg⟩ => ?_
  subst he
  exact ⟨_, rfl, _, _, _, [], [], [], hW', (trodAll_cons_mk (shut_bool Try.underlying4 _) trodAll_mk0), (trodAll_cons_mk (shut_int Try.underlying3 w0) (trodAll_cons_mk (shut_int Try.underlying2 w1) trodAll_mk0)), rfl, hg.frame _, fun h => by cases h⟩

theorem over : Rows.treePathRow.holds Try.pinned (OpenSpec.ofChange Rows.treePathSpec) :=
  OpenClaim.holds_of_wide 6 Try.f6 rfl rfl rfl rfl rfl rfl rfl ⟨rfl, rfl, rfl, rfl, rfl⟩ rfl rfl rfl rfl rfl (by kernel_rfl) Try.func6 (by kernel_rfl)
    (of_decide_eq_true (by kernel_rfl)) (by unfold Func.isWrapper; first | (rw [if_pos (by decide +kernel)]; kernel_rfl) | (rw [if_neg (by decide +kernel)]; exact ⟨rfl, rfl⟩))
    (fun os started H enc _ => lifted os started H enc)

theorem proved : Rows.TreePathSaid :=
  over
#print axioms proved
end Go.Proofs.Ytdmihnfhfpadkaa.treePath
