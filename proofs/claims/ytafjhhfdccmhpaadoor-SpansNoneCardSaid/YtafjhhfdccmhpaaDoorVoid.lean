/-
  The given card SpansNone: for every input the law returns true, and the arguments read afterwards as before; the table of tens, which the row lists, is tied to the program's text by the given tie. Conditions: none.
-/
import Derived.Test.YtafjhhfdccmhpaaDoorPlain
import Derived.Test.YtafjhhfdccmhpaaDoorCards
namespace Go.Proofs.YtafjhhfdccmhpaaDoor.spansNone
open Go.ChangeShapes Go.WideShapes Go.ChangeAt Go.RowKit

theorem lenV_shift (r : Int) (k : Nat) (h0 : 1 ≤ r) (h1 : r * 2 ^ k ≤ 9223372036854775808) : lenV (r * 2 ^ k) = k + lenV r := by
  have hp := pow_nn k
  have hle : r ≤ r * 2 ^ k := by
    have := Int.mul_le_mul_of_nonneg_left hp (show 0 ≤ r by omega)
    omega
  have e1 : (r * 2 ^ k).toNat = r.toNat * 2 ^ k := by
    have : r * 2 ^ k = ((r.toNat * 2 ^ k : Nat) : Int) := by
      rw [Int.natCast_mul, pow_cast, show ((r.toNat : Nat) : Int) = r from by omega]
    omega
  have hp2 := Nat.two_pow_pos k
  have h3 : 2 ^ k ≤ r.toNat * 2 ^ k := Nat.le_mul_of_pos_left _ (by omega)
  have h2 := Lib.bitLen_shift k (r.toNat * 2 ^ k) h3 (by rw [← e1, e64]; omega)
  rw [Nat.mul_div_cancel _ hp2] at h2
  unfold lenV
  rw [e1]; exact h2
theorem lenV_between (r : Int) (L : Nat) (hL : L ≤ 14) (h0 : 2 ^ L ≤ r) (h1 : r < 2 * 2 ^ L) : lenV r = L + 1 := by
  have ⟨p1, p2⟩ := pL_bd L hL
  have e : (2 : Int) ^ L = ((2 ^ L : Nat) : Int) := pow_cast L
  have b1 : lenV r ≤ L + 1 := Lib.bitLen_le r.toNat (L + 1) (by omega) (by rw [Nat.pow_succ]; omega)
  have b2 := bitLen_hi r.toNat (by rw [e64]; omega)
  have b3 : L < lenV r := by
    refine Nat.lt_of_not_le fun hle => ?_
    have : 2 ^ Lib.bitLen r.toNat ≤ 2 ^ L := Nat.pow_le_pow_right (by decide) hle
    omega
  omega
/-- the least magnitude of a span has its index -/
theorem low_idx (L : Nat) (i : Int) (hL : L ≤ 14) (hi : spanB L i = true) : idx L (lowS L i) = i := by
  obtain ⟨h1, h2⟩ : 1 ≤ i ∧ i ≤ lastI L := by unfold spanB at hi; simpa using hi
  obtain ⟨b1, b2, b3, b4, b5, b6, b7⟩ := span_bd L i hL hi
  have hc := cut_cases L i hL h1 h2
  have er : remF L i = i - kF L (cutF L i) := rfl
  have hsh : sh L (lowS L i) = cutF L i := by
    rw [b3]
    have hl := lenV_shift (remF L i) (cutF L i) b2 (by omega)
    unfold sh
    rcases hc with ⟨c1, c2, c3, _⟩ | ⟨c1, c2, c3, c4, c5, c6, _⟩
    · rw [hl, c2, c3]
      have e : (2 : Int) ^ L = ((2 ^ L : Nat) : Int) := pow_cast L
      have : lenV i ≤ L := Lib.bitLen_le i.toNat L (by omega) (by omega)
      omega
    · have := lenV_between (remF L i) L hL c5 c6
      omega
  have hq : qF L (lowS L i) = remF L i := by
    unfold qF; rw [hsh, b3]
    exact Int.mul_ediv_cancel _ (by omega)
  have e : idx L (lowS L i) = kF L (sh L (lowS L i)) + qF L (lowS L i) := rfl
  rw [e, hq, hsh, er]; omega
theorem own : ownKnob Tryd.prog.godebug = none := by kernel_rfl
theorem door_met (os : Os) (args : Array Value) : laidMetH Tryd.prog Rows.spansNoneRow.laid ((World.doorLaid Tryd.prog 400 os).forCall (fun _ _ => 0) ⟨#[], args, []⟩).memory :=
  laidMetH_of_parts3 (fuel := 8) (laidMet_of_run' 8 (by kernel_rfl) (by kernel_rfl)) (by kernel_rfl) (by kernel_rfl)

set_option maxRecDepth 100000 in
set_option maxHeartbeats 2000000 in
theorem walk (a0 : Int) (a1 : Int) (w0 : (Lit.int .i64 a0).wf = true) (w1 : (Lit.int .i64 a1).wf = true) (w : World) (ht : Tens w) :
    Calls Tryd.prog 7 #[.int .i64 a0, .int .i64 a1] w fun e w' => e = .returned (.bool true) ∧ Below w.heap.size w w' := by
  have ⟨l0, u0⟩ := bounds_i64 w0
  have ⟨l1, u1⟩ := bounds_i64 w1
  clear w0 w1
  by_cases hd : 1 ≤ a0 ∧ a0 ≤ 4
  · obtain ⟨d, rfl⟩ := Int.eq_ofNat_of_zero_le (show 0 ≤ a0 by omega)
    have hd1 : 1 ≤ d := by omega
    have hd2 : d ≤ 4 := by omega
    have hL := (logD_le d).2
    have ⟨x1, x2⟩ := idx_bd (logD d) 9223372036854775808 (by omega) (by omega) hL
    have elast : lastI (logD d) = idx (logD d) 9223372036854775808 := rfl
    cases hs : spanB (logD d) a1
    · have f1 : lowS (logD d) a1 = 0 := by unfold lowS; rw [hs]; rfl
      have f2 : highS (logD d) a1 = 0 := by unfold highS; rw [hs]; rfl
      have f3 : repS (logD d) a1 = 0 := by unfold repS; rw [f1, f2]; rfl
      have hlo : ¬ (1 ≤ a1 ∧ a1 ≤ idx (logD d) 9223372036854775808) := by
        intro hh; rw [← elast] at hh; unfold spanB at hs; simp [hh.1, hh.2] at hs
      clear elast hs
      by_cases h1 : 1 ≤ a1
      · have h2 : idx (logD d) 9223372036854775808 < a1 := by omega
        go_enter Tryd.func7, Tryd.ntmps7
        go_wp2_with fail
        refine (alive_any _ ht).mono ?_
        rintro e w1 ⟨rfl, hb0⟩
        replace ht := ht.next hb0
        go_wp2_with fail
        refine (index_nil _ _).mono ?_
        rintro e w' ⟨rfl, rfl⟩
        go_wp2_with fail
        refine (range_nil _ _).mono ?_
        rintro e w' ⟨rfl, rfl⟩
        go_wp2_with fail
        refine (rep_nil _ _).mono ?_
        rintro e w' ⟨rfl, rfl⟩
        go_wp2_with fail
        refine (digits_nil _).mono ?_
        rintro e w' ⟨rfl, rfl⟩
        go_wp2_with fail
        refine (part_nil _ ht).mono ?_
        rintro e w5 ⟨rfl, hb5⟩
        replace hb0 := hb0.trans (hb5.mono hb0.size)
        replace ht := ht.next hb5
        go_wp2_with fail
        refine (new_good d _ hd1 hd2 ht).mono ?_
        rintro e w2 ⟨rfl, H⟩
        have hs0 := hb0.size
        replace hb0 := hb0.trans (H.below.mono hs0)
        replace H := H.from0 hb0 hs0
        clear hb0 hs0
        go_wp2_with (first
          | (go_at_call 13; refine (refindex_any d 9223372036854775808 _ hd1 hd2 (by omega) (by omega)).mono ?_; rintro e w' ⟨rfl, rfl⟩)
          | (go_at_call 11; refine (range_any _ _ _ _ hL H.c1).mono ?_; rintro e w' ⟨rfl, hd⟩; replace H := H.next hd.below; clear hd)
          | (go_at_call 14; refine (rep_any _ _ _ _ hL H.c1).mono ?_; rintro e w' ⟨rfl, hd⟩; replace H := H.next hd.below; clear hd))
        go_ret
        exact ⟨rfl, H.below⟩
      · go_enter Tryd.func7, Tryd.ntmps7
        go_wp2_with fail
        refine (alive_any _ ht).mono ?_
        rintro e w1 ⟨rfl, hb0⟩
        replace ht := ht.next hb0
        go_wp2_with fail
        refine (index_nil _ _).mono ?_
        rintro e w' ⟨rfl, rfl⟩
        go_wp2_with fail
        refine (range_nil _ _).mono ?_
        rintro e w' ⟨rfl, rfl⟩
        go_wp2_with fail
        refine (rep_nil _ _).mono ?_
        rintro e w' ⟨rfl, rfl⟩
        go_wp2_with fail
        refine (digits_nil _).mono ?_
        rintro e w' ⟨rfl, rfl⟩
        go_wp2_with fail
        refine (part_nil _ ht).mono ?_
        rintro e w5 ⟨rfl, hb5⟩
        replace hb0 := hb0.trans (hb5.mono hb0.size)
        replace ht := ht.next hb5
        go_wp2_with fail
        refine (new_good d _ hd1 hd2 ht).mono ?_
        rintro e w2 ⟨rfl, H⟩
        have hs0 := hb0.size
        replace hb0 := hb0.trans (H.below.mono hs0)
        replace H := H.from0 hb0 hs0
        clear hb0 hs0
        go_wp2_with (first
          | (go_at_call 13; refine (refindex_any d 9223372036854775808 _ hd1 hd2 (by omega) (by omega)).mono ?_; rintro e w' ⟨rfl, rfl⟩)
          | (go_at_call 11; refine (range_any _ _ _ _ hL H.c1).mono ?_; rintro e w' ⟨rfl, hd⟩; replace H := H.next hd.below; clear hd)
          | (go_at_call 14; refine (rep_any _ _ _ _ hL H.c1).mono ?_; rintro e w' ⟨rfl, hd⟩; replace H := H.next hd.below; clear hd))
        go_ret
        exact ⟨rfl, H.below⟩
    · obtain ⟨y1, y2⟩ : 1 ≤ a1 ∧ a1 ≤ lastI (logD d) := by unfold spanB at hs; simpa using hs
      rw [elast] at y2
      have ⟨q1, q2, q3⟩ := span_le (logD d) a1 hL
      have er : repS (logD d) a1 = lowS (logD d) a1 + (highS (logD d) a1 - lowS (logD d) a1) / 2 := rfl
      have r1 : lowS (logD d) a1 ≤ repS (logD d) a1 := by omega
      have r2 : repS (logD d) a1 ≤ highS (logD d) a1 := by omega
      have b4 := (span_bd (logD d) a1 hL hs).2.2.2.1
      have e1 : (idx (logD d) (lowS (logD d) a1) == a1) = true := beq_iff_eq.2 (low_idx (logD d) a1 hL hs)
      clear er elast hs
      go_enter Tryd.func7, Tryd.ntmps7
      go_wp2_with fail
      refine (alive_any _ ht).mono ?_
      rintro e w1 ⟨rfl, hb0⟩
      replace ht := ht.next hb0
      go_wp2_with fail
      refine (index_nil _ _).mono ?_
      rintro e w' ⟨rfl, rfl⟩
      go_wp2_with fail
      refine (range_nil _ _).mono ?_
      rintro e w' ⟨rfl, rfl⟩
      go_wp2_with fail
      refine (rep_nil _ _).mono ?_
      rintro e w' ⟨rfl, rfl⟩
      go_wp2_with fail
      refine (digits_nil _).mono ?_
      rintro e w' ⟨rfl, rfl⟩
      go_wp2_with fail
      refine (part_nil _ ht).mono ?_
      rintro e w5 ⟨rfl, hb5⟩
      replace hb0 := hb0.trans (hb5.mono hb0.size)
      replace ht := ht.next hb5
      go_wp2_with fail
      refine (new_good d _ hd1 hd2 ht).mono ?_
      rintro e w2 ⟨rfl, H⟩
      have hs0 := hb0.size
      replace hb0 := hb0.trans (H.below.mono hs0)
      replace H := H.from0 hb0 hs0
      clear hb0 hs0
      go_wp2_with (first
        | (go_at_call 13; refine (refindex_any d 9223372036854775808 _ hd1 hd2 (by omega) (by omega)).mono ?_; rintro e w' ⟨rfl, rfl⟩)
        | (go_at_call 10; refine (index_yes _ _ _ _ (by omega) (by omega) hL H.c1).mono ?_; rintro e w' ⟨rfl, hd⟩; replace H := H.next hd.below; clear hd)
        | (go_at_call 11; refine (range_any _ _ _ _ hL H.c1).mono ?_; rintro e w' ⟨rfl, hd⟩; replace H := H.next hd.below; clear hd)
        | (go_at_call 14; refine (rep_any _ _ _ _ hL H.c1).mono ?_; rintro e w' ⟨rfl, hd⟩; replace H := H.next hd.below; clear hd))
      go_ret
      exact ⟨rfl, H.below⟩
  · go_enter Tryd.func7, Tryd.ntmps7
    go_wp2_with fail
    refine (alive_any _ ht).mono ?_
    rintro e w1 ⟨rfl, hb0⟩
    replace ht := ht.next hb0
    go_wp2_with fail
    refine (index_nil _ _).mono ?_
    rintro e w' ⟨rfl, rfl⟩
    go_wp2_with fail
    refine (range_nil _ _).mono ?_
    rintro e w' ⟨rfl, rfl⟩
    go_wp2_with fail
    refine (rep_nil _ _).mono ?_
    rintro e w' ⟨rfl, rfl⟩
    go_wp2_with fail
    refine (digits_nil _).mono ?_
    rintro e w' ⟨rfl, rfl⟩
    go_wp2_with fail
    refine (part_nil _ ht).mono ?_
    rintro e w5 ⟨rfl, hb5⟩
    replace hb0 := hb0.trans (hb5.mono hb0.size)
    replace ht := ht.next hb5
    go_wp2_with fail
    refine (new_bad _ _ (by omega)).mono ?_
    rintro e w6 ⟨rfl, rfl⟩
    go_wp2
    all_goals
      go_ret
      exact ⟨rfl, hb0⟩

set_option maxRecDepth 100000 in
theorem lifted (os : Os) (started : os.Started) (H : Type) (enc : TypeId × Value → H) :
    ReturnsInHanded {} Tryd.checked os 7 .any (fun w args => (Rows.spansNoneSpec.pre enc Tryd.prog Tryd.f7 [] false w args ∧ laidMetH Tryd.prog Rows.spansNoneRow.laid w) ∧ sizedMet enc Tryd.prog Tryd.f7 (OpenSpec.ofChange Rows.spansNoneSpec) false w args)
      (Rows.spansNoneSpec.post enc Tryd.prog Tryd.f7 false true false false) := by
  refine returnsInHanded_of_change_and (C := Tryd.checked) (X := fun w _ => laidMetH Tryd.prog Rows.spansNoneRow.laid w) (fun _ _ _ hh h => h.of_heap hh) own started (by kernel_rfl) Tryd.func7
    (ChangeSpec.witness_shaped (enc := enc) (C := Tryd.checked) (os := os) (X := fun w _ => laidMetH Tryd.prog Rows.spansNoneRow.laid w) false (World.doorLaid Tryd.prog 400 os) #[.int .i64 0, .int .i64 0] 8 rfl (World.shaped_of_RefB (by kernel_rfl) (by kernel_rfl)) (by kernel_rfl) (by kernel_rfl) (by kernel_rfl) (door_met os _)) ?_
  intro W base args ds gs before hval0 hW _ _ hL _
  have hval : ∀ (j : Nat) t v, Tryd.f7.params[j]? = some t → args[j]? = some v → Value.okWide Tryd.prog W .any base t v := hval0
  have hW' := hW
  obtain ⟨p, q, hA0, hV, rfl, hfz, hnd⟩ := hW
  have hA : DataW.TrodAll enc Tryd.prog W 0 (fun _ => true) true Tryd.f7.params.toList args.toList ds p := hA0
  rw [Tryd.params7] at hA hval
  obtain ⟨v0, vs0, d0, ds0, p0, q0, hargs, rfl, rfl, h0, r0⟩ := trodAll_cons hA
  obtain ⟨v1, vs1, d1, ds1, p1, q1, rfl, rfl, rfl, h1, r1⟩ := trodAll_cons r0
  obtain ⟨rfl, rfl, rfl⟩ := trodAll_nil r1
  obtain rfl : args = #[v0, v1] := by cases args; simp_all
  obtain ⟨rfl, rfl⟩ := trodVars_none hV
  obtain ⟨a0, rfl, rfl, rfl, w0⟩ := open_int Tryd.underlying3 (hval 0 3 v0 rfl rfl) h0
  obtain ⟨a1, rfl, rfl, rfl, w1⟩ := open_int Tryd.underlying3 (hval 1 3 v1 rfl rfl) h1
  clear hA0 hval0
  simp only [List.append_nil] at hW'
  refine (walk a0 a1 w0 w1 W (tens_of_laid hL)).mono fun e W' ⟨he, hg⟩ => ?_
  subst he
  exact ⟨_, rfl, _, _, _, [], [], [], hW', (trodAll_cons_mk (shut_bool Tryd.underlying4 _) trodAll_mk0), (trodAll_cons_mk (shut_int Tryd.underlying3 w0) (trodAll_cons_mk (shut_int Tryd.underlying3 w1) trodAll_mk0)), rfl, hg.frame _, fun h => by cases h⟩

theorem row_holds : Rows.SpansNoneSaid :=
  OpenClaim.holds_of_wide 7 Tryd.f7 rfl rfl rfl rfl rfl rfl rfl ⟨rfl, rfl, rfl, rfl, rfl⟩ rfl rfl rfl rfl rfl (by kernel_rfl) Tryd.func7 (by kernel_rfl)
    (of_decide_eq_true (by kernel_rfl)) (by unfold Func.isWrapper; first | (rw [if_pos (by decide +kernel)]; kernel_rfl) | (rw [if_neg (by decide +kernel)]; exact ⟨rfl, rfl⟩))
    (fun os started H enc _ => lifted os started H enc)

theorem proved : Rows.SpansNoneCardSaid :=
  Claim7.holds_tied_plain_at .later [] [.data] true Rows.spansNoneCard.stood.harness false
    row_holds (fun _ h => by cases h) (by kernel_rfl) (fun _ h => by cases h) spansNone_row_tie rfl ⟨rfl, rfl⟩ (by kernel_rfl) rfl
    (fun f fn hf hfn => by
      obtain rfl : f = 7 := Option.some.inj (hf.symm.trans (show Tryd.prog.funcNamed Rows.spansNoneRow.func = some 7 by kernel_rfl))
      obtain rfl : fn = Tryd.f7 := (Option.some.inj (Tryd.func7.symm.trans hfn)).symm
      exact ⟨by kernel_rfl, fun j t ht => by
        rw [Tryd.params7] at ht
        have hm : t ∈ [3, 3] := by simpa using Array.mem_of_getElem? ht
        have hall : ([3, 3].all fun u => !Tryd.prog.wantsStandIn u) = true := by kernel_rfl
        exact (show Tryd.prog.wantsStandIn t = false by simpa using List.all_eq_true.1 hall t hm)⟩)
    (by kernel_rfl)
#print axioms proved
end Go.Proofs.YtafjhhfdccmhpaaDoor.spansNone
