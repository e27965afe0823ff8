/-
  The given card SpansFiner: for every input the law returns true, and the arguments read afterwards as before; the table of tens, which the row lists, is tied to the program's text by the given tie. Conditions: none.
-/
import Derived.Test.YtafjhhfdccmhpaaDoorPlain
import Derived.Test.YtafjhhfdccmhpaaDoorCards
namespace Go.Proofs.YtafjhhfdccmhpaaDoor.spansFiner
open Go.ChangeShapes Go.WideShapes Go.ChangeAt Go.RowKit

theorem logD_mono (d c : Nat) (h : d ≤ c) (hc : c ≤ 4) (hd : 1 ≤ d) : logD d ≤ logD c := by
  have all : ∀ d : Fin 5, ∀ c : Fin 5, 1 ≤ d.val → d.val ≤ c.val → logD d.val ≤ logD c.val := by decide +kernel
  exact all ⟨d, by omega⟩ ⟨c, by omega⟩ hd h
theorem own : ownKnob Tryd.prog.godebug = none := by kernel_rfl
theorem door_met (os : Os) (args : Array Value) : laidMetH Tryd.prog Rows.spansFinerRow.laid ((World.doorLaid Tryd.prog 400 os).forCall (fun _ _ => 0) ⟨#[], args, []⟩).memory :=
  laidMetH_of_parts3 (fuel := 8) (laidMet_of_run' 8 (by kernel_rfl) (by kernel_rfl)) (by kernel_rfl) (by kernel_rfl)

set_option maxRecDepth 100000 in
set_option maxHeartbeats 2000000 in
theorem walk (a0 : Int) (a1 : Int) (a2 : Int) (w0 : (Lit.int .i64 a0).wf = true) (w1 : (Lit.int .i64 a1).wf = true) (w2 : (Lit.int .u64 a2).wf = true) (w : World) (ht : Tens w) :
    Calls Tryd.prog 5 #[.int .i64 a0, .int .i64 a1, .int .u64 a2] w fun e w' => e = .returned (.bool true) ∧ Below w.heap.size w w' := by
  have ⟨l0, u0⟩ := bounds_i64 w0
  have ⟨l1, u1⟩ := bounds_i64 w1
  have ⟨l2, u2⟩ := bounds_u64 w2
  clear w0 w1 w2
  by_cases hd : 1 ≤ a0 ∧ a0 ≤ 4
  · obtain ⟨d, rfl⟩ := Int.eq_ofNat_of_zero_le (show 0 ≤ a0 by omega)
    have hd1 : 1 ≤ d := by omega
    have hd2 : d ≤ 4 := by omega
    have hL := (logD_le d).2
    by_cases hc : 1 ≤ a1 ∧ a1 ≤ 4
    · obtain ⟨c, rfl⟩ := Int.eq_ofNat_of_zero_le (show 0 ≤ a1 by omega)
      have hc1 : 1 ≤ c := by omega
      have hc2 : c ≤ 4 := by omega
      have hM := (logD_le c).2
      by_cases h0 : (c : Int) < d
      · go_enter Tryd.func5, Tryd.ntmps5
        go_wp2_with fail
        refine (alive_any _ ht).mono ?_
        rintro e w1 ⟨rfl, hb0⟩
        replace ht := ht.next hb0
        go_wp2_with fail
        refine (new_good d _ hd1 hd2 ht).mono ?_
        rintro e w2 ⟨rfl, H⟩
        have hs0 := hb0.size
        replace hb0 := hb0.trans (H.below.mono hs0)
        replace H := H.from0 hb0 hs0
        clear hb0 hs0
        go_wp2_with fail
        refine (new_good c _ hc1 hc2 H.tens).mono ?_
        rintro e w3 ⟨rfl, G⟩
        have hs1 := H.below.size
        replace H := H.next G.below
        replace G := G.from0 H.below hs1
        clear hs1
        go_wp2
        all_goals
          go_ret
          exact ⟨rfl, H.below⟩
      by_cases h1 : a2 = 0
      · have hz : (a2 == 0) = true := beq_iff_eq.2 h1
        clear h1
        go_enter Tryd.func5, Tryd.ntmps5
        go_wp2_with fail
        refine (alive_any _ ht).mono ?_
        rintro e w1 ⟨rfl, hb0⟩
        replace ht := ht.next hb0
        go_wp2_with fail
        refine (new_good d _ hd1 hd2 ht).mono ?_
        rintro e w2 ⟨rfl, H⟩
        have hs0 := hb0.size
        replace hb0 := hb0.trans (H.below.mono hs0)
        replace H := H.from0 hb0 hs0
        clear hb0 hs0
        go_wp2_with fail
        refine (new_good c _ hc1 hc2 H.tens).mono ?_
        rintro e w3 ⟨rfl, G⟩
        have hs1 := H.below.size
        replace H := H.next G.below
        replace G := G.from0 H.below hs1
        clear hs1
        go_wp2
        all_goals
          go_ret
          exact ⟨rfl, H.below⟩
      have hz : (a2 == 0) = false := beq_eq_false_iff_ne.2 h1
      have h1' : 1 ≤ a2 := by omega
      clear h1
      by_cases h2 : 9223372036854775808 < a2
      · go_enter Tryd.func5, Tryd.ntmps5
        go_wp2_with fail
        refine (alive_any _ ht).mono ?_
        rintro e w1 ⟨rfl, hb0⟩
        replace ht := ht.next hb0
        go_wp2_with fail
        refine (new_good d _ hd1 hd2 ht).mono ?_
        rintro e w2 ⟨rfl, H⟩
        have hs0 := hb0.size
        replace hb0 := hb0.trans (H.below.mono hs0)
        replace H := H.from0 hb0 hs0
        clear hb0 hs0
        go_wp2_with fail
        refine (new_good c _ hc1 hc2 H.tens).mono ?_
        rintro e w3 ⟨rfl, G⟩
        have hs1 := H.below.size
        replace H := H.next G.below
        replace G := G.from0 H.below hs1
        clear hs1
        go_wp2
        all_goals
          go_ret
          exact ⟨rfl, H.below⟩
      obtain ⟨f1, f2⟩ := span_finer (logD d) (logD c) a2 (by omega) (by omega) (logD_mono d c (by omega) hc2 hd1) hM
      have ⟨q1, q2, q3⟩ := span_le (logD c) (idx (logD c) a2) hM
      have er : repS (logD c) (idx (logD c) a2) = lowS (logD c) (idx (logD c) a2) + (highS (logD c) (idx (logD c) a2) - lowS (logD c) (idx (logD c) a2)) / 2 := rfl
      have r1 : lowS (logD d) (idx (logD d) a2) ≤ repS (logD c) (idx (logD c) a2) := by omega
      have r2 : repS (logD c) (idx (logD c) a2) ≤ highS (logD d) (idx (logD d) a2) := by omega
      clear er
      go_enter Tryd.func5, Tryd.ntmps5
      go_wp2_with fail
      refine (alive_any _ ht).mono ?_
      rintro e w1 ⟨rfl, hb0⟩
      replace ht := ht.next hb0
      go_wp2_with fail
      refine (new_good d _ hd1 hd2 ht).mono ?_
      rintro e w2 ⟨rfl, H⟩
      have hs0 := hb0.size
      replace hb0 := hb0.trans (H.below.mono hs0)
      replace H := H.from0 hb0 hs0
      clear hb0 hs0
      go_wp2_with fail
      refine (new_good c _ hc1 hc2 H.tens).mono ?_
      rintro e w3 ⟨rfl, G⟩
      have hs1 := H.below.size
      replace H := H.next G.below
      replace G := G.from0 H.below hs1
      clear hs1
      go_wp2_with fail
      refine (index_yes _ _ _ _ (by omega) (by omega) hL H.c1).mono ?_
      rintro e w' ⟨rfl, hd⟩
      replace H := H.next hd.below
      replace G := G.next hd.below
      clear hd
      go_wp2_with fail
      refine (index_yes _ _ _ _ (by omega) (by omega) hM G.c1).mono ?_
      rintro e w' ⟨rfl, hd⟩
      replace H := H.next hd.below
      replace G := G.next hd.below
      clear hd
      go_wp2_with fail
      refine (range_any _ _ _ _ hL H.c1).mono ?_
      rintro e w' ⟨rfl, hd⟩
      replace H := H.next hd.below
      replace G := G.next hd.below
      clear hd
      go_wp2_with fail
      refine (range_any _ _ _ _ hM G.c1).mono ?_
      rintro e w' ⟨rfl, hd⟩
      replace H := H.next hd.below
      replace G := G.next hd.below
      clear hd
      go_wp2_with fail
      refine (rep_any _ _ _ _ hM G.c1).mono ?_
      rintro e w' ⟨rfl, hd⟩
      replace H := H.next hd.below
      replace G := G.next hd.below
      clear hd
      go_wp2_with fail
      refine (rep_any _ _ _ _ hM G.c1).mono ?_
      rintro e w' ⟨rfl, hd⟩
      replace H := H.next hd.below
      replace G := G.next hd.below
      clear hd
      go_wp2
      go_ret
      exact ⟨rfl, H.below⟩
    · go_enter Tryd.func5, Tryd.ntmps5
      go_wp2_with fail
      refine (alive_any _ ht).mono ?_
      rintro e w1 ⟨rfl, hb0⟩
      replace ht := ht.next hb0
      go_wp2_with fail
      refine (new_good d _ hd1 hd2 ht).mono ?_
      rintro e w2 ⟨rfl, H⟩
      have hs0 := hb0.size
      replace hb0 := hb0.trans (H.below.mono hs0)
      replace H := H.from0 hb0 hs0
      clear hb0 hs0
      go_wp2_with fail
      refine (new_bad _ _ (by omega)).mono ?_
      rintro e w3 ⟨rfl, rfl⟩
      go_wp2
      all_goals
        go_ret
        exact ⟨rfl, H.below⟩
  · by_cases hc : 1 ≤ a1 ∧ a1 ≤ 4
    · obtain ⟨c, rfl⟩ := Int.eq_ofNat_of_zero_le (show 0 ≤ a1 by omega)
      have hc1 : 1 ≤ c := by omega
      have hc2 : c ≤ 4 := by omega
      go_enter Tryd.func5, Tryd.ntmps5
      go_wp2_with fail
      refine (alive_any _ ht).mono ?_
      rintro e w1 ⟨rfl, hb0⟩
      replace ht := ht.next hb0
      go_wp2_with fail
      refine (new_bad _ _ (by omega)).mono ?_
      rintro e w2 ⟨rfl, rfl⟩
      go_wp2_with fail
      refine (new_good c _ hc1 hc2 ht).mono ?_
      rintro e w3 ⟨rfl, G⟩
      have hb := hb0.trans (G.below.mono hb0.size)
      go_wp2
      all_goals
        go_ret
        exact ⟨rfl, hb⟩
    · go_enter Tryd.func5, Tryd.ntmps5
      go_wp2_with fail
      refine (alive_any _ ht).mono ?_
      rintro e w1 ⟨rfl, hb0⟩
      replace ht := ht.next hb0
      go_wp2_with fail
      refine (new_bad _ _ (by omega)).mono ?_
      rintro e w2 ⟨rfl, rfl⟩
      go_wp2_with fail
      refine (new_bad _ _ (by omega)).mono ?_
      rintro e w3 ⟨rfl, rfl⟩
      go_wp2
      all_goals
        go_ret
        exact ⟨rfl, hb0⟩

set_option maxRecDepth 100000 in
theorem lifted (os : Os) (started : os.Started) (H : Type) (enc : TypeId × Value → H) :
    ReturnsInHanded {} Tryd.checked os 5 .any (fun w args => (Rows.spansFinerSpec.pre enc Tryd.prog Tryd.f5 [] false w args ∧ laidMetH Tryd.prog Rows.spansFinerRow.laid w) ∧ sizedMet enc Tryd.prog Tryd.f5 (OpenSpec.ofChange Rows.spansFinerSpec) false w args)
      (Rows.spansFinerSpec.post enc Tryd.prog Tryd.f5 false true false false) := by
  refine returnsInHanded_of_change_and (C := Tryd.checked) (X := fun w _ => laidMetH Tryd.prog Rows.spansFinerRow.laid w) (fun _ _ _ hh h => h.of_heap hh) own started (by kernel_rfl) Tryd.func5
    (ChangeSpec.witness_shaped (enc := enc) (C := Tryd.checked) (os := os) (X := fun w _ => laidMetH Tryd.prog Rows.spansFinerRow.laid w) false (World.doorLaid Tryd.prog 400 os) #[.int .i64 0, .int .i64 0, .int .u64 0] 8 rfl (World.shaped_of_RefB (by kernel_rfl) (by kernel_rfl)) (by kernel_rfl) (by kernel_rfl) (by kernel_rfl) (door_met os _)) ?_
  intro W base args ds gs before hval0 hW _ _ hL _
  have hval : ∀ (j : Nat) t v, Tryd.f5.params[j]? = some t → args[j]? = some v → Value.okWide Tryd.prog W .any base t v := hval0
  have hW' := hW
  obtain ⟨p, q, hA0, hV, rfl, hfz, hnd⟩ := hW
  have hA : DataW.TrodAll enc Tryd.prog W 0 (fun _ => true) true Tryd.f5.params.toList args.toList ds p := hA0
  rw [Tryd.params5] at hA hval
  obtain ⟨v0, vs0, d0, ds0, p0, q0, hargs, rfl, rfl, h0, r0⟩ := trodAll_cons hA
  obtain ⟨v1, vs1, d1, ds1, p1, q1, rfl, rfl, rfl, h1, r1⟩ := trodAll_cons r0
  obtain ⟨v2, vs2, d2, ds2, p2, q2, rfl, rfl, rfl, h2, r2⟩ := trodAll_cons r1
  obtain ⟨rfl, rfl, rfl⟩ := trodAll_nil r2
  obtain rfl : args = #[v0, v1, v2] := by cases args; simp_all
  obtain ⟨rfl, rfl⟩ := trodVars_none hV
  obtain ⟨a0, rfl, rfl, rfl, w0⟩ := open_int Tryd.underlying3 (hval 0 3 v0 rfl rfl) h0
  obtain ⟨a1, rfl, rfl, rfl, w1⟩ := open_int Tryd.underlying3 (hval 1 3 v1 rfl rfl) h1
  obtain ⟨a2, rfl, rfl, rfl, w2⟩ := open_int Tryd.underlying22 (hval 2 22 v2 rfl rfl) h2
  clear hA0 hval0
  simp only [List.append_nil] at hW'
  refine (walk a0 a1 a2 w0 w1 w2 W (tens_of_laid hL)).mono fun e W' ⟨he, hg⟩ => ?_
  subst he
  exact ⟨_, rfl, _, _, _, [], [], [], hW', (trodAll_cons_mk (shut_bool Tryd.underlying4 _) trodAll_mk0), (trodAll_cons_mk (shut_int Tryd.underlying3 w0) (trodAll_cons_mk (shut_int Tryd.underlying3 w1) (trodAll_cons_mk (shut_int Tryd.underlying22 w2) trodAll_mk0))), rfl, hg.frame _, fun h => by cases h⟩

theorem row_holds : Rows.SpansFinerSaid :=
  OpenClaim.holds_of_wide 5 Tryd.f5 rfl rfl rfl rfl rfl rfl rfl ⟨rfl, rfl, rfl, rfl, rfl⟩ rfl rfl rfl rfl rfl (by kernel_rfl) Tryd.func5 (by kernel_rfl)
    (of_decide_eq_true (by kernel_rfl)) (by unfold Func.isWrapper; first | (rw [if_pos (by decide +kernel)]; kernel_rfl) | (rw [if_neg (by decide +kernel)]; exact ⟨rfl, rfl⟩))
    (fun os started H enc _ => lifted os started H enc)

theorem proved : Rows.SpansFinerCardSaid :=
  Claim7.holds_tied_plain_at .later [] [.data] true Rows.spansFinerCard.stood.harness false
    row_holds (fun _ h => by cases h) (by kernel_rfl) (fun _ h => by cases h) spansFiner_row_tie rfl ⟨rfl, rfl⟩ (by kernel_rfl) rfl
    (fun f fn hf hfn => by
      obtain rfl : f = 5 := Option.some.inj (hf.symm.trans (show Tryd.prog.funcNamed Rows.spansFinerRow.func = some 5 by kernel_rfl))
      obtain rfl : fn = Tryd.f5 := (Option.some.inj (Tryd.func5.symm.trans hfn)).symm
      exact ⟨by kernel_rfl, fun j t ht => by
        rw [Tryd.params5] at ht
        have hm : t ∈ [3, 3, 22] := by simpa using Array.mem_of_getElem? ht
        have hall : ([3, 3, 22].all fun u => !Tryd.prog.wantsStandIn u) = true := by kernel_rfl
        exact (show Tryd.prog.wantsStandIn t = false by simpa using List.all_eq_true.1 hall t hm)⟩)
    (by kernel_rfl)
#print axioms proved
end Go.Proofs.YtafjhhfdccmhpaaDoor.spansFiner
