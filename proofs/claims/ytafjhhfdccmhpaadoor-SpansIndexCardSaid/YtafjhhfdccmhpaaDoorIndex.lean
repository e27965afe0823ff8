/-
  The given card SpansIndex: for every input the law returns true, and the arguments read afterwards as before; the table of tens, which the row lists, is tied to the program's text by the given tie. Conditions: none.
-/
import Derived.Test.YtafjhhfdccmhpaaDoorAlive
import Derived.Test.YtafjhhfdccmhpaaDoorCards
namespace Go.Proofs.YtafjhhfdccmhpaaDoor.spansIndex
open Go.ChangeShapes Go.WideShapes Go.ChangeAt Go.RowKit

theorem own : ownKnob Tryd.prog.godebug = none := by kernel_rfl
theorem door_met (os : Os) (args : Array Value) : laidMetH Tryd.prog Rows.spansIndexRow.laid ((World.doorLaid Tryd.prog 400 os).forCall (fun _ _ => 0) ⟨#[], args, []⟩).memory :=
  laidMetH_of_parts3 (fuel := 8) (laidMet_of_run' 8 (by kernel_rfl) (by kernel_rfl)) (by kernel_rfl) (by kernel_rfl)

set_option maxRecDepth 100000 in
set_option maxHeartbeats 2000000 in
theorem walk (a0 : Int) (a1 : Int) (w0 : (Lit.int .i64 a0).wf = true) (w1 : (Lit.int .u64 a1).wf = true) (w : World) (ht : Tens w) :
    Calls Tryd.prog 4 #[.int .i64 a0, .int .u64 a1] w fun e w' => e = .returned (.bool true) ∧ Below w.heap.size w w' := by
  have ⟨l0, u0⟩ := bounds_i64 w0
  have ⟨l1, u1⟩ := bounds_u64 w1
  clear w0 w1
  by_cases hd : 1 ≤ a0 ∧ a0 ≤ 4
  · obtain ⟨d, rfl⟩ := Int.eq_ofNat_of_zero_le (show 0 ≤ a0 by omega)
    have hd1 : 1 ≤ d := by omega
    have hd2 : d ≤ 4 := by omega
    have hL := (logD_le d).2
    by_cases hm : 1 ≤ a1 ∧ a1 ≤ 9223372036854775808
    · obtain ⟨m1, m2⟩ := hm
      have hz : (a1 == 0) = false := beq_eq_false_iff_ne.2 (by omega)
      have ⟨s1, s2, s3⟩ := span_le (logD d) (idx (logD d) a1) hL
      have e1 : (idx (logD d) a1 == idx (logD d) a1) = true := by simp
      have e2 : (lowS (logD d) (idx (logD d) a1) == lowS (logD d) (idx (logD d) a1)) = true := by simp
      have e3 : (highS (logD d) (idx (logD d) a1) == highS (logD d) (idx (logD d) a1)) = true := by simp
      have e4 : (repS (logD d) (idx (logD d) a1) == lowS (logD d) (idx (logD d) a1) + (highS (logD d) (idx (logD d) a1) - lowS (logD d) (idx (logD d) a1)) / 2) = true := beq_iff_eq.2 rfl
      go_enter Tryd.func4, Tryd.ntmps4
      go_wp2_with fail
      refine (alive_any _ ht).mono ?_
      rintro e w1 ⟨rfl, hb0⟩
      replace ht := ht.next hb0
      go_wp2_with fail
      refine (new_good d _ hd1 hd2 ht).mono ?_
      rintro e w2 ⟨rfl, H⟩
      have hs0 := hb0.size
      replace hb0 := hb0.trans (H.below.mono hs0)
      replace H := H.from0 hb0 hs0
      clear hb0 hs0
      go_wp2_with (first
        | (go_at_call 10; refine (index_yes _ _ _ _ (by omega) (by omega) hL H.c1).mono ?_; rintro e w' ⟨rfl, hd⟩; replace H := H.next hd.below; clear hd)
        | (go_at_call 11; refine (range_any _ _ _ _ hL H.c1).mono ?_; rintro e w' ⟨rfl, hd⟩; replace H := H.next hd.below; clear hd)
        | (go_at_call 14; refine (rep_any _ _ _ _ hL H.c1).mono ?_; rintro e w' ⟨rfl, hd⟩; replace H := H.next hd.below; clear hd)
        | (go_at_call 12; refine (refrange_any d _ _ hd1 hd2 (by omega) (by omega)).mono ?_; rintro e w' ⟨rfl, rfl⟩)
        | (go_at_call 13; refine (refindex_any d _ _ hd1 hd2 (by omega) (by omega)).mono ?_; rintro e w' ⟨rfl, rfl⟩))
      go_ret
      exact ⟨rfl, H.below⟩
    · by_cases h0 : a1 = 0
      · have hz : (a1 == 0) = true := beq_iff_eq.2 h0
        go_enter Tryd.func4, Tryd.ntmps4
        go_wp2_with fail
        refine (alive_any _ ht).mono ?_
        rintro e w1 ⟨rfl, hb0⟩
        replace ht := ht.next hb0
        go_wp2_with fail
        refine (new_good d _ hd1 hd2 ht).mono ?_
        rintro e w2 ⟨rfl, H⟩
        have hs0 := hb0.size
        replace hb0 := hb0.trans (H.below.mono hs0)
        replace H := H.from0 hb0 hs0
        clear hb0 hs0
        go_wp2_with (first
          | (go_at_call 10; refine (index_no _ _ _ (by omega)).mono ?_; rintro e w' ⟨rfl, rfl⟩))
        go_ret
        exact ⟨rfl, H.below⟩
      · have hz : (a1 == 0) = false := beq_eq_false_iff_ne.2 h0
        go_enter Tryd.func4, Tryd.ntmps4
        go_wp2_with fail
        refine (alive_any _ ht).mono ?_
        rintro e w1 ⟨rfl, hb0⟩
        replace ht := ht.next hb0
        go_wp2_with fail
        refine (new_good d _ hd1 hd2 ht).mono ?_
        rintro e w2 ⟨rfl, H⟩
        have hs0 := hb0.size
        replace hb0 := hb0.trans (H.below.mono hs0)
        replace H := H.from0 hb0 hs0
        clear hb0 hs0
        go_wp2_with (first
          | (go_at_call 10; refine (index_no _ _ _ (by omega)).mono ?_; rintro e w' ⟨rfl, rfl⟩))
        go_ret
        exact ⟨rfl, H.below⟩
  · go_enter Tryd.func4, Tryd.ntmps4
    go_wp2_with fail
    refine (alive_any _ ht).mono ?_
    rintro e w1 ⟨rfl, hb0⟩
    replace ht := ht.next hb0
    go_wp2_with fail
    refine (new_bad _ _ (by omega)).mono ?_
    rintro e w2 ⟨rfl, rfl⟩
    go_wp2
    all_goals
      go_ret
      exact ⟨rfl, hb0⟩

set_option maxRecDepth 100000 in
theorem lifted (os : Os) (started : os.Started) (H : Type) (enc : TypeId × Value → H) :
    ReturnsInHanded {} Tryd.checked os 4 .any (fun w args => (Rows.spansIndexSpec.pre enc Tryd.prog Tryd.f4 [] false w args ∧ laidMetH Tryd.prog Rows.spansIndexRow.laid w) ∧ sizedMet enc Tryd.prog Tryd.f4 (OpenSpec.ofChange Rows.spansIndexSpec) false w args)
      (Rows.spansIndexSpec.post enc Tryd.prog Tryd.f4 false true false false) := by
  refine returnsInHanded_of_change_and (C := Tryd.checked) (X := fun w _ => laidMetH Tryd.prog Rows.spansIndexRow.laid w) (fun _ _ _ hh h => h.of_heap hh) own started (by kernel_rfl) Tryd.func4
    (ChangeSpec.witness_shaped (enc := enc) (C := Tryd.checked) (os := os) (X := fun w _ => laidMetH Tryd.prog Rows.spansIndexRow.laid w) false (World.doorLaid Tryd.prog 400 os) #[.int .i64 0, .int .u64 0] 8 rfl (World.shaped_of_RefB (by kernel_rfl) (by kernel_rfl)) (by kernel_rfl) (by kernel_rfl) (by kernel_rfl) (door_met os _)) ?_
  intro W base args ds gs before hval0 hW _ _ hL _
  have hval : ∀ (j : Nat) t v, Tryd.f4.params[j]? = some t → args[j]? = some v → Value.okWide Tryd.prog W .any base t v := hval0
  have hW' := hW
  obtain ⟨p, q, hA0, hV, rfl, hfz, hnd⟩ := hW
  have hA : DataW.TrodAll enc Tryd.prog W 0 (fun _ => true) true Tryd.f4.params.toList args.toList ds p := hA0
  rw [Tryd.params4] at hA hval
  obtain ⟨v0, vs0, d0, ds0, p0, q0, hargs, rfl, rfl, h0, r0⟩ := trodAll_cons hA
  obtain ⟨v1, vs1, d1, ds1, p1, q1, rfl, rfl, rfl, h1, r1⟩ := trodAll_cons r0
  obtain ⟨rfl, rfl, rfl⟩ := trodAll_nil r1
  obtain rfl : args = #[v0, v1] := by cases args; simp_all
  obtain ⟨rfl, rfl⟩ := trodVars_none hV
  obtain ⟨a0, rfl, rfl, rfl, w0⟩ := open_int Tryd.underlying3 (hval 0 3 v0 rfl rfl) h0
  obtain ⟨a1, rfl, rfl, rfl, w1⟩ := open_int Tryd.underlying22 (hval 1 22 v1 rfl rfl) h1
  clear hA0 hval0
  simp only [List.append_nil] at hW'
  refine (walk a0 a1 w0 w1 W (tens_of_laid hL)).mono fun e W' ⟨he, hg⟩ => ?_
  subst he
  exact ⟨_, rfl, _, _, _, [], [], [], hW', (trodAll_cons_mk (shut_bool Tryd.underlying4 _) trodAll_mk0), (trodAll_cons_mk (shut_int Tryd.underlying3 w0) (trodAll_cons_mk (shut_int Tryd.underlying22 w1) trodAll_mk0)), rfl, hg.frame _, fun h => by cases h⟩

theorem row_holds : Rows.SpansIndexSaid :=
  OpenClaim.holds_of_wide 4 Tryd.f4 rfl rfl rfl rfl rfl rfl rfl ⟨rfl, rfl, rfl, rfl, rfl⟩ rfl rfl rfl rfl rfl (by kernel_rfl) Tryd.func4 (by kernel_rfl)
    (of_decide_eq_true (by kernel_rfl)) (by unfold Func.isWrapper; first | (rw [if_pos (by decide +kernel)]; kernel_rfl) | (rw [if_neg (by decide +kernel)]; exact ⟨rfl, rfl⟩))
    (fun os started H enc _ => lifted os started H enc)

theorem proved : Rows.SpansIndexCardSaid :=
  Claim7.holds_tied_plain_at .later [] [.data] true Rows.spansIndexCard.stood.harness false
    row_holds (fun _ h => by cases h) (by kernel_rfl) (fun _ h => by cases h) spansIndex_row_tie rfl ⟨rfl, rfl⟩ (by kernel_rfl) rfl
    (fun f fn hf hfn => by
      obtain rfl : f = 4 := Option.some.inj (hf.symm.trans (show Tryd.prog.funcNamed Rows.spansIndexRow.func = some 4 by kernel_rfl))
      obtain rfl : fn = Tryd.f4 := (Option.some.inj (Tryd.func4.symm.trans hfn)).symm
      exact ⟨by kernel_rfl, fun j t ht => by
        rw [Tryd.params4] at ht
        have hm : t ∈ [3, 22] := by simpa using Array.mem_of_getElem? ht
        have hall : ([3, 22].all fun u => !Tryd.prog.wantsStandIn u) = true := by kernel_rfl
        exact (show Tryd.prog.wantsStandIn t = false by simpa using List.all_eq_true.1 hall t hm)⟩)
    (by kernel_rfl)
#print axioms proved
end Go.Proofs.YtafjhhfdccmhpaaDoor.spansIndex
