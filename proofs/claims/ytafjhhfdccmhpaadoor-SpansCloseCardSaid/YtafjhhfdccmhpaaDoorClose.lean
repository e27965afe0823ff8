/-
  The given card SpansClose: for every input the law returns true, and the arguments read afterwards as before; the table of tens, which the row lists, is tied to the program's text by the given tie. Conditions: none.
-/
import Derived.Test.YtafjhhfdccmhpaaDoorTimes
import Derived.Test.YtafjhhfdccmhpaaDoorCards
namespace Go.Proofs.YtafjhhfdccmhpaaDoor.spansClose
open Go.ChangeShapes Go.WideShapes Go.ChangeAt Go.RowKit

theorem quiet_const {C : World → Prop} {x : Value} {K : Value → Prop} (h : K x) : ∃ v, (∀ w, C w → x = v) ∧ K v := ⟨x, fun _ _ => rfl, h⟩
theorem wp_region_quiet_litC {P : Program} {C : World → Prop} {id : Nat} {Q : Exit → Act → World → Prop} {a : Act} {w : World} {l : List Oper} (hm : P.follows .mixedOrders = true) (hB : Region.lexB .any l.toArray = true) (hC : C w.drew)
    (h : wpQuiet P l.toArray C (fun a' => ∀ w', C w' → Q .normal a' w') l a) : (Code.region id l.toArray true).wp P Q a w :=
  wp_region_quiet hm hB hC (by simpa using h)
/-- block B holds two numbers; below the heap's size at the call's beginning nothing has changed -/
structure Pt (w0 : World) (B : Nat) (x y : Int) (w : World) : Prop where
  c0 : w.cell? ⟨B, 0, none⟩ = some (.int .u64 x)
  c1 : w.cell? ⟨B, 1, none⟩ = some (.int .u64 y)
  below : Below w0.heap.size w0 w
  lt : B < w.heap.size
theorem Pt.on {w0 w w' : World} {B : Nat} {x y : Int} (h : Pt w0 B x y w) (hb : Below w.heap.size w w') : Pt w0 B x y w' :=
  ⟨by rw [hb.cell (p := ⟨B, 0, none⟩) h.lt]; exact h.c0, by rw [hb.cell (p := ⟨B, 1, none⟩) h.lt]; exact h.c1, h.below.trans (hb.mono h.below.size), Nat.lt_of_lt_of_le h.lt hb.size⟩
theorem Pt.draw {w0 w : World} {B : Nat} {x y : Int} (h : Pt w0 B x y w) : Pt w0 B x y w.drew := ⟨h.c0, h.c1, h.below.drew, h.lt⟩

theorem not_less (p q a b : Int) (h : p * q ≤ a * b) : lessB (hiD a b) (loD a b) (hiD p q) (loD p q) = false := by
  unfold lessB hiD loD
  generalize p * q = x at *
  generalize a * b = y at *
  split
  · exact decide_eq_false (by omega)
  · exact decide_eq_false (by omega)
theorem ten_bd (d : Nat) (h : d ≤ 4) : 0 ≤ ten d ∧ ten d ≤ 10000 := by
  rcases (show d = 0 ∨ d = 1 ∨ d = 2 ∨ d = 3 ∨ d = 4 by omega) with rfl | rfl | rfl | rfl | rfl <;> decide
theorem own : ownKnob Tryd.prog.godebug = none := by kernel_rfl
theorem door_met (os : Os) (args : Array Value) : laidMetH Tryd.prog Rows.spansCloseRow.laid ((World.doorLaid Tryd.prog 400 os).forCall (fun _ _ => 0) ⟨#[], args, []⟩).memory :=
  laidMetH_of_parts3 (fuel := 8) (laidMet_of_run' 8 (by kernel_rfl) (by kernel_rfl)) (by kernel_rfl) (by kernel_rfl)

set_option maxRecDepth 100000 in
set_option maxHeartbeats 2000000 in
theorem walk (a0 : Int) (a1 : Int) (w0 : (Lit.int .i64 a0).wf = true) (w1 : (Lit.int .u64 a1).wf = true) (w : World) (ht : Tens w) :
    Calls Tryd.prog 6 #[.int .i64 a0, .int .u64 a1] w fun e w' => e = .returned (.bool true) ∧ Below w.heap.size w w' := by
  have ⟨l0, u0⟩ := bounds_i64 w0
  have ⟨l1, u1⟩ := bounds_u64 w1
  clear w0 w1
  by_cases hd : 1 ≤ a0 ∧ a0 ≤ 4
  · obtain ⟨d, rfl⟩ := Int.eq_ofNat_of_zero_le (show 0 ≤ a0 by omega)
    have hd1 : 1 ≤ d := by omega
    have hd2 : d ≤ 4 := by omega
    have hL := (logD_le d).2
    by_cases h1 : a1 = 0
    · have hz : (a1 == 0) = true := beq_iff_eq.2 h1
      clear h1
      go_enter Tryd.func6, Tryd.ntmps6
      go_wp2_with fail
      refine (alive_any _ ht).mono ?_
      rintro e w1 ⟨rfl, hb0⟩
      replace ht := ht.next hb0
      go_wp2_with fail
      refine (new_good d _ hd1 hd2 ht).mono ?_
      rintro e w2 ⟨rfl, H⟩
      have hs0 := hb0.size
      replace hb0 := hb0.trans (H.below.mono hs0)
      replace H := H.from0 hb0 hs0
      clear hb0 hs0
      go_wp2
      all_goals
        go_ret
        exact ⟨rfl, H.below⟩
    have hz : (a1 == 0) = false := beq_eq_false_iff_ne.2 h1
    have h1' : 1 ≤ a1 := by omega
    clear h1
    by_cases h2 : 9223372036854775808 < a1
    · go_enter Tryd.func6, Tryd.ntmps6
      go_wp2_with fail
      refine (alive_any _ ht).mono ?_
      rintro e w1 ⟨rfl, hb0⟩
      replace ht := ht.next hb0
      go_wp2_with fail
      refine (new_good d _ hd1 hd2 ht).mono ?_
      rintro e w2 ⟨rfl, H⟩
      have hs0 := hb0.size
      replace hb0 := hb0.trans (H.below.mono hs0)
      replace H := H.from0 hb0 hs0
      clear hb0 hs0
      go_wp2
      all_goals
        go_ret
        exact ⟨rfl, H.below⟩
    have ⟨q1, q2, q3⟩ := span_le (logD d) (idx (logD d) a1) hL
    have er : repS (logD d) (idx (logD d) a1) = lowS (logD d) (idx (logD d) a1) + (highS (logD d) (idx (logD d) a1) - lowS (logD d) (idx (logD d) a1)) / 2 := rfl
    have r1 : 0 ≤ repS (logD d) (idx (logD d) a1) := by omega
    have r2 : repS (logD d) (idx (logD d) a1) ≤ 9223372036854775808 := by omega
    clear er
    have ⟨t1, t2⟩ := ten_bd d hd2
    have Fin := Lib.hid (not_less (max (repS (logD d) (idx (logD d) a1)) a1 - min (repS (logD d) (idx (logD d) a1)) a1) (ten d) a1 1 (by rw [Int.mul_one]; exact rep_close d a1 hd1 hd2 h1' (by omega)))
    have g1 : 0 ≤ (max (repS (logD d) (idx (logD d) a1)) a1 - min (repS (logD d) (idx (logD d) a1)) a1) := by omega
    have g2 : (max (repS (logD d) (idx (logD d) a1)) a1 - min (repS (logD d) (idx (logD d) a1)) a1) ≤ 9223372036854775808 := by omega
    have g3 : IntKind.u64.wrap (max (repS (logD d) (idx (logD d) a1)) a1 - min (repS (logD d) (idx (logD d) a1)) a1) = (max (repS (logD d) (idx (logD d) a1)) a1 - min (repS (logD d) (idx (logD d) a1)) a1) := by rw [IntKind.wrap_u64]; omega
    go_enter Tryd.func6, Tryd.ntmps6
    go_wp2_with fail
    refine (alive_any _ ht).mono ?_
    rintro e w1 ⟨rfl, hb0⟩
    replace ht := ht.next hb0
    go_wp2_with fail
    refine (new_good d _ hd1 hd2 ht).mono ?_
    rintro e w2 ⟨rfl, H⟩
    have hs0 := hb0.size
    replace hb0 := hb0.trans (H.below.mono hs0)
    replace H := H.from0 hb0 hs0
    clear hb0 hs0
    go_wp2_with fail
    refine (index_yes _ _ _ _ (by omega) (by omega) hL H.c1).mono ?_
    rintro e w' ⟨rfl, hd⟩
    replace H := H.next hd.below
    clear hd
    go_wp2_with fail
    refine (rep_any _ _ _ _ hL H.c1).mono ?_
    rintro e w' ⟨rfl, hd⟩
    replace H := H.next hd.below
    clear hd
    go_wp2_with fail
    refine (part_any _ d _ hd2 H.c0 H.tens).mono ?_
    rintro e w5 ⟨rfl, hb⟩
    have hb5 := H.below.trans (hb.mono H.below.size)
    have PT : Pt w w5.heap.size 1 (ten d) (w5.alloc (.cells #[.int .u64 1, .int .u64 (ten d)] 39)) := ⟨by simp, by simp, hb5.alloc hb5.size _, by simp⟩
    clear H hb hb5
    go_wp2_with fail
    refine wp_region_quiet_litC (C := Pt w w5.heap.size 1 (ten d)) (by kernel_rfl) (by kernel_rfl) PT.draw ?_
    repeat (first | go_big_quiet_skip | (go_big_quiet_want; go_big_quiet_op; first | go_big_quiet_on | (refine quiet_const ?_; go_big_quiet_on)))
    go_big_quiet_want
    refine ⟨.int .u64 1, fun wx hx => ?_, ?_⟩
    · have cx := hx.c0
      go_simp
    go_big_quiet_on
    simp only [Act.put, List.setIfInBounds_toArray, List.set_cons_zero, List.set_cons_succ]
    repeat (first | go_big_quiet_skip | (go_big_quiet_want; go_big_quiet_op; first | go_big_quiet_on | (refine quiet_const ?_; go_big_quiet_on)))
    go_big_quiet_want
    refine ⟨.int .u64 1, fun wx hx => ?_, ?_⟩
    · have cx := hx.c0
      go_simp
    go_big_quiet_on
    simp only [Act.put, List.setIfInBounds_toArray, List.set_cons_zero, List.set_cons_succ]
    repeat (first | go_big_quiet_skip | (go_big_quiet_want; go_big_quiet_op; first | go_big_quiet_on | (refine quiet_const ?_; go_big_quiet_on)))
    go_big_quiet_want
    go_big_quiet_op
    refine ⟨.agg #[.int .u64 (hiD a1 1), .int .u64 (loD a1 1)], fun wx hx => ?_, ?_⟩
    · exact (reftimes_any _ _ _ (by omega) (by omega) (by omega) (by omega)).mono fun _ _ hm => ⟨hm.1, hx.on hm.2⟩
    go_big_quiet_on
    repeat (first | go_big_quiet_skip | (go_big_quiet_want; go_big_quiet_op; first | go_big_quiet_on | (refine quiet_const ?_; go_big_quiet_on)))
    go_big_quiet_want
    refine ⟨.int .u64 (ten d), fun wx hx => ?_, ?_⟩
    · have cx := hx.c1
      go_simp
    go_big_quiet_on
    simp only [Act.put, List.setIfInBounds_toArray, List.set_cons_zero, List.set_cons_succ]
    repeat (first | go_big_quiet_skip | (go_big_quiet_want; go_big_quiet_op; first | go_big_quiet_on | (refine quiet_const ?_; go_big_quiet_on)))
    go_big_quiet_want
    go_big_quiet_op
    refine ⟨.agg #[.int .u64 (hiD (max (repS (logD d) (idx (logD d) a1)) a1 - min (repS (logD d) (idx (logD d) a1)) a1) (ten d)), .int .u64 (loD (max (repS (logD d) (idx (logD d) a1)) a1 - min (repS (logD d) (idx (logD d) a1)) a1) (ten d))], fun wx hx => ?_, ?_⟩
    · exact (reftimes_any _ _ _ g1 (by omega) (by omega) (by omega)).mono fun _ _ hm => ⟨hm.1, hx.on hm.2⟩
    go_big_quiet_on
    repeat (first | go_big_quiet_skip | (go_big_quiet_want; go_big_quiet_op; first | go_big_quiet_on | (refine quiet_const ?_; go_big_quiet_on)))
    go_big_quiet_want
    go_big_quiet_op
    refine ⟨.bool false, fun wx hx => ?_, ?_⟩
    · exact (less_any _ _ _ _ _).mono fun _ _ hm => ⟨by rw [hm.1, Fin.out], hx.on hm.2⟩
    go_big_quiet_on
    repeat (first | go_big_quiet_skip | (go_big_quiet_want; go_big_quiet_op; first | go_big_quiet_on | (refine quiet_const ?_; go_big_quiet_on)))
    refine wpQuiet_nil ?_
    intro wx H
    go_wp2
    go_ret
    exact ⟨rfl, H.below⟩
  · go_enter Tryd.func6, Tryd.ntmps6
    go_wp2_with fail
    refine (alive_any _ ht).mono ?_
    rintro e w1 ⟨rfl, hb0⟩
    replace ht := ht.next hb0
    go_wp2_with fail
    refine (new_bad _ _ (by omega)).mono ?_
    rintro e w2 ⟨rfl, rfl⟩
    go_wp2
    all_goals
      go_ret
      exact ⟨rfl, hb0⟩

set_option maxRecDepth 100000 in
theorem lifted (os : Os) (started : os.Started) (H : Type) (enc : TypeId × Value → H) :
    ReturnsInHanded {} Tryd.checked os 6 .any (fun w args => (Rows.spansCloseSpec.pre enc Tryd.prog Tryd.f6 [] false w args ∧ laidMetH Tryd.prog Rows.spansCloseRow.laid w) ∧ sizedMet enc Tryd.prog Tryd.f6 (OpenSpec.ofChange Rows.spansCloseSpec) false w args)
      (Rows.spansCloseSpec.post enc Tryd.prog Tryd.f6 false true false false) := by
  refine returnsInHanded_of_change_and (C := Tryd.checked) (X := fun w _ => laidMetH Tryd.prog Rows.spansCloseRow.laid w) (fun _ _ _ hh h => h.of_heap hh) own started (by kernel_rfl) Tryd.func6
    (ChangeSpec.witness_shaped (enc := enc) (C := Tryd.checked) (os := os) (X := fun w _ => laidMetH Tryd.prog Rows.spansCloseRow.laid w) false (World.doorLaid Tryd.prog 400 os) #[.int .i64 0, .int .u64 0] 8 rfl (World.shaped_of_RefB (by kernel_rfl) (by kernel_rfl)) (by kernel_rfl) (by kernel_rfl) (by kernel_rfl) (door_met os _)) ?_
  intro W base args ds gs before hval0 hW _ _ hL _
  have hval : ∀ (j : Nat) t v, Tryd.f6.params[j]? = some t → args[j]? = some v → Value.okWide Tryd.prog W .any base t v := hval0
  have hW' := hW
  obtain ⟨p, q, hA0, hV, rfl, hfz, hnd⟩ := hW
  have hA : DataW.TrodAll enc Tryd.prog W 0 (fun _ => true) true Tryd.f6.params.toList args.toList ds p := hA0
  rw [Tryd.params6] at hA hval
  obtain ⟨v0, vs0, d0, ds0, p0, q0, hargs, rfl, rfl, h0, r0⟩ := trodAll_cons hA
  obtain ⟨v1, vs1, d1, ds1, p1, q1, rfl, rfl, rfl, h1, r1⟩ := trodAll_cons r0
  obtain ⟨rfl, rfl, rfl⟩ := trodAll_nil r1
  obtain rfl : args = #[v0, v1] := by cases args; simp_all
  obtain ⟨rfl, rfl⟩ := trodVars_none hV
  obtain ⟨a0, rfl, rfl, rfl, w0⟩ := open_int Tryd.underlying3 (hval 0 3 v0 rfl rfl) h0
  obtain ⟨a1, rfl, rfl, rfl, w1⟩ := open_int Tryd.underlying22 (hval 1 22 v1 rfl rfl) h1
  clear hA0 hval0
  simp only [List.append_nil] at hW'
  refine (walk a0 a1 w0 w1 W (tens_of_laid hL)).mono fun e W' ⟨he, hg⟩ => ?_
  subst he
  exact ⟨_, rfl, _, _, _, [], [], [], hW', (trodAll_cons_mk (shut_bool Tryd.underlying4 _) trodAll_mk0), (trodAll_cons_mk (shut_int Tryd.underlying3 w0) (trodAll_cons_mk (shut_int Tryd.underlying22 w1) trodAll_mk0)), rfl, hg.frame _, fun h => by cases h⟩

theorem row_holds : Rows.SpansCloseSaid :=
  OpenClaim.holds_of_wide 6 Tryd.f6 rfl rfl rfl rfl rfl rfl rfl ⟨rfl, rfl, rfl, rfl, rfl⟩ rfl rfl rfl rfl rfl (by kernel_rfl) Tryd.func6 (by kernel_rfl)
    (of_decide_eq_true (by kernel_rfl)) (by unfold Func.isWrapper; first | (rw [if_pos (by decide +kernel)]; kernel_rfl) | (rw [if_neg (by decide +kernel)]; exact ⟨rfl, rfl⟩))
    (fun os started H enc _ => lifted os started H enc)

theorem proved : Rows.SpansCloseCardSaid :=
  Claim7.holds_tied_plain_at .later [] [.data] true Rows.spansCloseCard.stood.harness false
    row_holds (fun _ h => by cases h) (by kernel_rfl) (fun _ h => by cases h) spansClose_row_tie rfl ⟨rfl, rfl⟩ (by kernel_rfl) rfl
    (fun f fn hf hfn => by
      obtain rfl : f = 6 := Option.some.inj (hf.symm.trans (show Tryd.prog.funcNamed Rows.spansCloseRow.func = some 6 by kernel_rfl))
      obtain rfl : fn = Tryd.f6 := (Option.some.inj (Tryd.func6.symm.trans hfn)).symm
      exact ⟨by kernel_rfl, fun j t ht => by
        rw [Tryd.params6] at ht
        have hm : t ∈ [3, 22] := by simpa using Array.mem_of_getElem? ht
        have hall : ([3, 22].all fun u => !Tryd.prog.wantsStandIn u) = true := by kernel_rfl
        exact (show Tryd.prog.wantsStandIn t = false by simpa using List.all_eq_true.1 hall t hm)⟩)
    (by kernel_rfl)
#print axioms proved
end Go.Proofs.YtafjhhfdccmhpaaDoor.spansClose
