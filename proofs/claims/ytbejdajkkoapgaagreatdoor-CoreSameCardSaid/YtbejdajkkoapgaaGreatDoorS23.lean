/-
  Several texts in one: Lj. What each proves, and on which conditions, stands at its head. Conditions: stated in each.
-/
import Derived.Test.YtbejdajkkoapgaaGreatDoorS22
/-
  Contracts of logsk.New, Set, Join. Conditions: few values, the two sketches apart.
-/
set_option linter.unusedVariables false
set_option linter.unusedSimpArgs false
set_option maxRecDepth 100000
namespace Go.Proofs.YtbejdajkkoapgaaGreatDoor
open Go.RowKit Go.Lib

/-- what New answers -/
def LnP (hi : Bool) (M num den : Nat) (w : World) (e : Ending) (w' : World) : Prop := ∃ (po : Option Addr) (code : Int), e = .returned (.tuple #[.pointer po, .int .i64 code]) ∧ Below w.heap.size w w' ∧
  (code = 0 → ∃ n lg bb tb vl vr ca cc Oa Oc, po = some ⟨lg, 0, none⟩ ∧ CTab num den n ∧ LogO hi M num den n w' lg bb tb vl vr ca cc Oa Oc [] [] 0 0 0 0 0 ∧ ∀ j, OwnL lg bb tb vl vr Oa Oc j → w.heap.size ≤ j) ∧ ((∃ n, CTab num den n) → code = 0)
theorem bnew_side (w : World) (tb : Nat) (s M : Int) (h : s ≠ 0 ∧ s ≠ 1) :
    Calls Tryz.prog 64 #[.iface 163 (.pointer (some ⟨tb, 0, none⟩)), .int .i64 s, .int .i64 M] w fun e w' => e = .returned (.tuple #[.pointer none, .int .i64 1]) ∧ w = w' := by
  obtain ⟨h1, h2⟩ := h
  have g1 : (s != 0) = true := by simp [h1]
  have g2 : (s != 1) = true := by simp [h2]
  clear h1 h2
  go_enter Tryz.func64, Tryz.ntmps64
  go_wp2_with fail
  go_ret2
  exact ⟨rfl, rfl⟩
structure L2C (hi : Bool) (M num den n n2 : Nat) (w : World) (lg bb tb : Nat) (vl vr : Value) (ca cc : Nat) (Oa Oc : Nat → Prop) (k0 k1 : Row) (T0 T1 z : Nat) (lo hh : Int) (og ob ub : Nat) (ul ur : Value) (da dc : Nat) (Na Nc : Nat → Prop) (m0 m1 : Row) (U0 U1 y : Nat) (lo2 hh2 : Int) (W : World) : Prop where
  b : LogO hi M num den n W lg bb tb vl vr ca cc Oa Oc k0 k1 T0 T1 z lo hh
  o : LogO hi M num den n2 W og ob ub ul ur da dc Na Nc m0 m1 U0 U1 y lo2 hh2
  below : Below w.heap.size w W
section
variable {hi : Bool} {M num den n n2 : Nat} {w W W' : World} {lg bb tb : Nat} {vl vr : Value} {ca cc : Nat} {Oa Oc : Nat → Prop} {k0 k1 : Row} {T0 T1 z : Nat} {lo hh : Int} {og ob ub : Nat} {ul ur : Value} {da dc : Nat} {Na Nc : Nat → Prop} {m0 m1 : Row} {U0 U1 y : Nat} {lo2 hh2 : Int}
theorem L2C.next (h : L2C hi M num den n n2 w lg bb tb vl vr ca cc Oa Oc k0 k1 T0 T1 z lo hh og ob ub ul ur da dc Na Nc m0 m1 U0 U1 y lo2 hh2 W) (b : Below W.heap.size W W') : L2C hi M num den n n2 w lg bb tb vl vr ca cc Oa Oc k0 k1 T0 T1 z lo hh og ob ub ul ur da dc Na Nc m0 m1 U0 U1 y lo2 hh2 W' := ⟨h.b.next b, h.o.next b, h.below.trans (b.mono h.below.size)⟩
end

theorem lset_L {M num den n : Nat} (w : World) (lg bb tb : Nat) (vl vr : Value) (ca cc : Nat) (Oa Oc : Nat → Prop) (k0 k1 : Row) (T0 T1 z : Nat) (lo hh : Int) (h : LogO false M num den n w lg bb tb vl vr ca cc Oa Oc k0 k1 T0 T1 z lo hh) (hT : T0 + z + T1 ≤ 9223372036854775807) (a b : Int) :
    Calls Tryz.prog 77 #[.pointer (some ⟨lg, 0, none⟩), .int .i64 a, .int .i64 b] w fun e w' => ∃ r : Bool, e = .returned (.bool r) ∧ Away (fun k => k = lg) w w' ∧ (r = true → LogO false M num den n w' lg bb tb vl vr ca cc Oa Oc k0 k1 T0 T1 z a b) := by
  have hs := btot_L w bb tb vl vr ca cc Oa Oc k0 k1 T0 T1 z h.bn hT
  obtain ⟨c0, c1, c2, c3, c4, c5, c6, f5, f6⟩ := lcells_L h
  have FIN := Lib.hid (show ∀ (W : World), Below w.heap.size w W → LogO false M num den n ((W.setCell ⟨lg, 5, none⟩ (.int .i64 a)).setCell ⟨lg, 6, none⟩ (.int .i64 b)) lg bb tb vl vr ca cc Oa Oc k0 k1 T0 T1 z a b ∧ Away (fun k => k = lg) w ((W.setCell ⟨lg, 5, none⟩ (.int .i64 a)).setCell ⟨lg, 6, none⟩ (.int .i64 b)) from fun W hbl => by
    obtain ⟨h1, h2⟩ := (h.next hbl).ends a b
    exact ⟨h1, (Away.of_below (F := fun k => k = lg) hbl).trans' h2 (fun _ _ h => h) (fun _ _ h => h)⟩)
  have HH := Lib.hid h
  obtain ⟨T, hTT⟩ : ∃ T, T = T0 + z + T1 := ⟨_, rfl⟩
  rw [← hTT] at hs
  clear h hT hTT c1 c2 c3 c4 c5 c6 f5 f6
  by_cases h0 : T = 0
  · have g1 : ((T : Int) == 0) = true := by simp [h0]
    have g2 : (T == 0) = true := by simp [h0]
    clear h0
    by_cases ha : a = 0
    · subst ha
      by_cases hb : b = 0
      · subst hb
        go_enter Tryz.func77, Tryz.ntmps77
        go_wp2_with fail
        refine hs.mono ?_
        rintro e w1 ⟨rfl, b1⟩
        obtain ⟨c0, c1, c2, c3, c4, c5, c6, f5, f6⟩ := lcells_L (HH.out.next b1)
        have hF := Lib.hid (FIN.out w1 b1)
        clear b1 FIN hs
        go_wp2_with fail
        go_ret
        exact ⟨true, rfl, hF.out.2, fun _ => hF.out.1⟩
      · have g3 : (b != 0) = true := by simp [hb]
        have g4 : (b == 0) = false := by simp [hb]
        clear hb
        go_enter Tryz.func77, Tryz.ntmps77
        go_wp2_with fail
        refine hs.mono ?_
        rintro e w1 ⟨rfl, b1⟩
        have hF := Lib.hid b1
        clear b1 FIN hs
        go_wp2_with fail
        go_ret
        exact ⟨false, rfl, Away.of_below hF.out, fun h => absurd h (by decide)⟩
    · have g3 : (a != 0) = true := by simp [ha]
      have g4 : (a == 0) = false := by simp [ha]
      clear ha
      go_enter Tryz.func77, Tryz.ntmps77
      go_wp2_with fail
      refine hs.mono ?_
      rintro e w1 ⟨rfl, b1⟩
      have hF := Lib.hid b1
      clear b1 FIN hs
      go_wp2_with fail
      go_ret
      exact ⟨false, rfl, Away.of_below hF.out, fun h => absurd h (by decide)⟩
  · have g1 : ((T : Int) == 0) = false := by simp [h0]
    have g2 : (T == 0) = false := by simp [h0]
    clear h0
    by_cases hab : b < a
    · have g3 : decide (b < a) = true := by simpa using hab
      go_enter Tryz.func77, Tryz.ntmps77
      go_wp2_with fail
      refine hs.mono ?_
      rintro e w1 ⟨rfl, b1⟩
      have hF := Lib.hid b1
      clear b1 FIN hs
      go_wp2_with fail
      go_ret
      exact ⟨false, rfl, Away.of_below hF.out, fun h => absurd h (by decide)⟩
    · have g3 : decide (b < a) = false := by simpa using hab
      go_enter Tryz.func77, Tryz.ntmps77
      go_wp2_with fail
      refine hs.mono ?_
      rintro e w1 ⟨rfl, b1⟩
      obtain ⟨c0, c1, c2, c3, c4, c5, c6, f5, f6⟩ := lcells_L (HH.out.next b1)
      have hF := Lib.hid (FIN.out w1 b1)
      clear b1 FIN hs
      go_wp2_with fail
      go_ret
      exact ⟨true, rfl, hF.out.2, fun _ => hF.out.1⟩

set_option maxHeartbeats 4000000 in
theorem lnew_L {M : Nat} (hM1 : 1 ≤ M) (hM2 : M ≤ 4096) (w : World) (num den : Nat) (hg : goodC num den = true) :
    Calls Tryz.prog 41 #[.agg #[.int .u64 (num : Int), .int .u64 (den : Int), .int .i64 0, .int .i64 (M : Int)]] w (LnP false M num den w) := by
  have B0 : Blk (w.alloc (.cells #[.int .u64 (num : Int), .int .u64 (den : Int), .int .i64 0, .int .i64 (M : Int)] 120)) w.heap.size #[.int .u64 (num : Int), .int .u64 (den : Int), .int .i64 0, .int .i64 (M : Int)] 120 := Blk.newAt rfl
  have b0 : Below w.heap.size w (w.alloc (.cells #[.int .u64 (num : Int), .int .u64 (den : Int), .int .i64 0, .int .i64 (M : Int)] 120)) := (Below.refl _ _).alloc (Nat.le_refl _) _
  have hcn := Lib.hid (fun W => cnew_any num den W hg)
  have hbn := Lib.hid (fun W tb vl vr n (t : TabO W tb vl vr num den n) => bnew_L hM1 hM2 W tb vl vr num den n t)
  have H0 := Lib.hid (And.intro B0 b0)
  clear B0 b0 hg hM1 hM2
  go_enter Tryz.func41, Tryz.ntmps41
  go_wp2_with fail
  refine (hcn.out _).mono ?_
  rintro e w1 (⟨n, tb, vl, vr, hc, rfl, b1, t1, ht1⟩ | ⟨code, hcd, rfl, b1, hno⟩)
  · have B1 := H0.out.1.below b1 H0.out.1.lt
    have bb1 := H0.out.2.trans (b1.mono H0.out.2.size)
    have c0 : w1.cell? ⟨w.heap.size, 0, none⟩ = some (.int .u64 (num : Int)) := B1.cell rfl
    have c1 : w1.cell? ⟨w.heap.size, 1, none⟩ = some (.int .u64 (den : Int)) := B1.cell rfl
    have c2 : w1.cell? ⟨w.heap.size, 2, none⟩ = some (.int .i64 0) := B1.cell rfl
    have c3 : w1.cell? ⟨w.heap.size, 3, none⟩ = some (.int .i64 (M : Int)) := B1.cell rfl
    have hbn1 := hbn.out w1 tb vl vr n t1
    have hz : w.heap.size ≤ (w.alloc (.cells #[.int .u64 (num : Int), .int .u64 (den : Int), .int .i64 0, .int .i64 (M : Int)] 120)).heap.size := by simp
    have H1 := Lib.hid (And.intro B1 (And.intro bb1 (And.intro hc (fun j hj => Nat.le_trans hz (ht1 j hj)))))
    clear hcn hbn B1 bb1 b1 t1 ht1 hc hz H0
    go_wp2_with fail
    refine hbn1.mono ?_
    rintro e w2 ⟨bb, ca, cc, Oa, Oc, rfl, bn2, b2, hbb, hOa, hOc⟩
    have B2 := H1.out.1.below b2 H1.out.1.lt
    have c0 : w2.cell? ⟨w.heap.size, 0, none⟩ = some (.int .u64 (num : Int)) := B2.cell rfl
    have c1 : w2.cell? ⟨w.heap.size, 1, none⟩ = some (.int .u64 (den : Int)) := B2.cell rfl
    have c2 : w2.cell? ⟨w.heap.size, 2, none⟩ = some (.int .i64 0) := B2.cell rfl
    have c3 : w2.cell? ⟨w.heap.size, 3, none⟩ = some (.int .i64 (M : Int)) := B2.cell rfl
    have hz1 := H1.out.2.1.size
    have bb2 := H1.out.2.1.trans (b2.mono hz1)
    have HR := Lib.hid (show LnP false M num den w (.returned (.tuple #[.pointer (some ⟨w2.heap.size, 0, none⟩), .int .i64 0])) (w2.alloc (.cells #[.pointer (some ⟨bb, 0, none⟩), .int .u64 (num : Int), .int .u64 (den : Int), .int .i64 0, .int .i64 (M : Int), .int .i64 0, .int .i64 0] 170)) from by
      refine ⟨_, 0, rfl, bb2.alloc bb2.size _, fun _ => ⟨n, w2.heap.size, bb, tb, vl, vr, ca, cc, Oa, Oc, rfl, H1.out.2.2.1, ⟨Blk.newAt rfl, bn2.next ((Below.refl _ _).alloc (Nat.le_refl _) _)⟩, ?_⟩, fun _ => rfl⟩
      rintro j (rfl | rfl | e | e | e)
      · exact bb2.size
      · omega
      · exact H1.out.2.2.2 j e
      · exact Nat.le_trans hz1 (hOa j e)
      · exact Nat.le_trans hz1 (hOc j e))
    clear hbn1 B2 bb2 b2 bn2 hbb hOa hOc hz1 H1
    go_wp2_with fail
    go_ret2
    exact HR.out
  · have hc1 : (code == 0) = false := by simp [hcd]
    have hc2 : (code != 0) = true := by simp [hcd]
    have HR := Lib.hid (show LnP false M num den w (.returned (.tuple #[.pointer none, .int .i64 code])) w1 from ⟨none, code, rfl, H0.out.2.trans (b1.mono H0.out.2.size), fun h => absurd h hcd, fun ⟨n, hn⟩ => absurd hn (hno n)⟩)
    clear hcn hbn b1 hno H0 hcd
    go_wp2_with fail
    go_ret2
    exact HR.out
theorem bnew_bad_L (w : World) (tb : Nat) (M : Int) (h : M < 1 ∨ 4096 < M) :
    Calls Tryz.prog 64 #[.iface 163 (.pointer (some ⟨tb, 0, none⟩)), .int .i64 0, .int .i64 M] w fun e w' => e = .returned (.tuple #[.pointer none, .int .i64 1]) ∧ w = w' := by
  have hf := fresh_bad_L w M h
  clear h
  go_enter Tryz.func64, Tryz.ntmps64
  go_wp2_with fail
  refine hf.mono ?_
  rintro e w1 ⟨⟨v, rfl⟩, rfl⟩
  clear hf
  go_wp2_with fail
  go_ret2
  exact ⟨rfl, rfl⟩

theorem ljoin_none_L {M num den n : Nat} (w : World) (lg bb tb : Nat) (vl vr : Value) (ca cc : Nat) (Oa Oc : Nat → Prop) (k0 k1 : Row) (T0 T1 z : Nat) (lo hh : Int) (h : LogO false M num den n w lg bb tb vl vr ca cc Oa Oc k0 k1 T0 T1 z lo hh) (n2 og ob ub : Nat) (ul ur : Value) (da dc : Nat) (Na Nc : Nat → Prop) (m0 m1 : Row) (U0 U1 y : Nat) (lo2 hh2 : Int) (g : LogO false M num den n2 w og ob ub ul ur da dc Na Nc m0 m1 U0 U1 y lo2 hh2) (hU : U0 + y + U1 = 0) :
    Calls Tryz.prog 222 #[.pointer (some ⟨lg, 0, none⟩), .pointer (some ⟨og, 0, none⟩)] w fun e w' => e = .returned (.int .i64 0) ∧ Below w.heap.size w w' := by
  have H0 : L2C false M num den n n2 w lg bb tb vl vr ca cc Oa Oc k0 k1 T0 T1 z lo hh og ob ub ul ur da dc Na Nc m0 m1 U0 U1 y lo2 hh2 w := ⟨h, g, Below.refl _ _⟩
  have hto := Lib.hid (fun W (k : L2C false M num den n n2 w lg bb tb vl vr ca cc Oa Oc k0 k1 T0 T1 z lo hh og ob ub ul ur da dc Na Nc m0 m1 U0 U1 y lo2 hh2 W) => btot_L W ob ub ul ur da dc Na Nc m0 m1 U0 U1 y k.o.bn (by omega))
  rw [hU] at hto
  clear h g hU
  go_enter Tryz.func222, Tryz.ntmps222
  go_upto_region 3 with fail
  refine wp_region_quiet_litC (C := L2C false M num den n n2 w lg bb tb vl vr ca cc Oa Oc k0 k1 T0 T1 z lo hh og ob ub ul ur da dc Na Nc m0 m1 U0 U1 y lo2 hh2) (by kernel_rfl) (by kernel_rfl) (H0.next (Below.refl _ _).drew) ?_
  repeat (first | go_big_quiet_skip | (go_big_quiet_want; go_big_quiet_op; first | go_big_quiet_on | (refine quiet_const ?_; go_big_quiet_on)))
  go_big_quiet_want
  refine ⟨.agg #[.int .u64 (num : Int), .int .u64 (den : Int), .int .i64 0, .int .i64 (M : Int)], fun wx hx => ?_, ?_⟩
  · obtain ⟨c0, c1, c2, c3, c4, c5, c6, f5, f6⟩ := lcells_L hx.b
    go_simp
  go_big_quiet_on
  simp only [Act.put, List.setIfInBounds_toArray, List.set_cons_zero, List.set_cons_succ]
  repeat (first | go_big_quiet_skip | (go_big_quiet_want; go_big_quiet_op; first | go_big_quiet_on | (refine quiet_const ?_; go_big_quiet_on)))
  go_big_quiet_want
  refine ⟨.agg #[.int .u64 (num : Int), .int .u64 (den : Int), .int .i64 0, .int .i64 (M : Int)], fun wx hx => ?_, ?_⟩
  · obtain ⟨c0, c1, c2, c3, c4, c5, c6, f5, f6⟩ := lcells_L hx.o
    go_simp
  go_big_quiet_on
  simp only [Act.put, List.setIfInBounds_toArray, List.set_cons_zero, List.set_cons_succ]
  repeat (first | go_big_quiet_skip | (go_big_quiet_want; go_big_quiet_op; first | go_big_quiet_on | (refine quiet_const ?_; go_big_quiet_on)))
  refine wpQuiet_nil ?_
  intro w1 H1
  obtain ⟨c0, c1, c2, c3, c4, c5, c6, f5, f6⟩ := lcells_L H1.o
  have ht1 := hto.out w1 H1
  have HB := Lib.hid H1.below
  clear H1 H0 hto c1 c2 c3 c4 c5 c6 f5 f6
  go_wp2_with fail
  refine ht1.mono ?_
  rintro e w2 ⟨rfl, b2⟩
  have HB2 := Lib.hid (HB.out.trans (b2.mono HB.out.size))
  clear ht1 b2 HB
  go_wp2_with fail
  go_ret
  exact ⟨rfl, HB2.out⟩

set_option maxHeartbeats 8000000 in
theorem ljoin_L {M num den n : Nat} (hM1 : 1 ≤ M) (hM2 : M ≤ 4096) (w : World) (lg bb tb : Nat) (vl vr : Value) (ca cc : Nat) (Oa Oc : Nat → Prop) (k0 k1 : Row) (T0 T1 z : Nat) (lo hh : Int) (h : LogO false M num den n w lg bb tb vl vr ca cc Oa Oc k0 k1 T0 T1 z lo hh) (n2 og ob ub : Nat) (ul ur : Value) (da dc : Nat) (Na Nc : Nat → Prop) (m0 m1 : Row) (U0 U1 y : Nat) (lo2 hh2 : Int) (g : LogO false M num den n2 w og ob ub ul ur da dc Na Nc m0 m1 U0 U1 y lo2 hh2) (hap : ∀ j, OwnL lg bb tb vl vr Oa Oc j → ¬ OwnL og ob ub ul ur Na Nc j) (hT : T0 + z + T1 + (U0 + y + U1) ≤ 9223372036854775807) (hU : 1 ≤ U0 + y + U1)
    (hl0 : ∀ q, (joinK false M k0 (m0.take q)).length ≤ M) (hl1 : ∀ q, (joinK false M k1 (m1.take q)).length ≤ M) (hm0 : m0.length ≤ 4096) (hm1 : m1.length ≤ 4096) :
    Calls Tryz.prog 222 #[.pointer (some ⟨lg, 0, none⟩), .pointer (some ⟨og, 0, none⟩)] w fun e w' => e = .returned (.int .i64 0) ∧ ∃ Pa Pc, LogO false M num den n w' lg bb tb vl vr ca cc Pa Pc (joinK false M k0 m0) (joinK false M k1 m1) (T0 + U0) (T1 + U1) (z + y) (loF (T0 + z + T1) lo lo2) (hiF (T0 + z + T1) hh hh2) ∧ SubO w (OwnL lg bb tb vl vr Oa Oc) (OwnL lg bb tb vl vr Pa Pc) ∧ Away (OwnL lg bb tb vl vr Oa Oc) w w' := by
  have H0 : L2C false M num den n n2 w lg bb tb vl vr ca cc Oa Oc k0 k1 T0 T1 z lo hh og ob ub ul ur da dc Na Nc m0 m1 U0 U1 y lo2 hh2 w := ⟨h, g, Below.refl _ _⟩
  have hto := Lib.hid (fun W (k : L2C false M num den n n2 w lg bb tb vl vr ca cc Oa Oc k0 k1 T0 T1 z lo hh og ob ub ul ur da dc Na Nc m0 m1 U0 U1 y lo2 hh2 W) => btot_L W ob ub ul ur da dc Na Nc m0 m1 U0 U1 y k.o.bn (by omega))
  have hen := Lib.hid (fun W (k : L2C false M num den n n2 w lg bb tb vl vr ca cc Oa Oc k0 k1 T0 T1 z lo hh og ob ub ul ur da dc Na Nc m0 m1 U0 U1 y lo2 hh2 W) => lends_L W lg bb tb vl vr ca cc Oa Oc k0 k1 T0 T1 z lo hh k.b (by omega) lo2 hh2)
  obtain ⟨U, hUU⟩ : ∃ U, U = U0 + y + U1 := ⟨_, rfl⟩
  rw [← hUU] at hto hU
  have g1 : ((U : Int) == 0) = false := by simp; omega
  have g2 : (U == 0) = false := by simp; omega
  obtain ⟨lo3, hlo3⟩ : ∃ l, l = loF (T0 + z + T1) lo lo2 := ⟨_, rfl⟩
  obtain ⟨hh3, hhh3⟩ : ∃ l, l = hiF (T0 + z + T1) hh hh2 := ⟨_, rfl⟩
  rw [← hlo3, ← hhh3]
  rw [← hlo3, ← hhh3] at hen
  have hme := Lib.hid (fun W (kb : BinO false M num den n W bb tb vl vr ca cc Oa Oc k0 k1 T0 T1 z) (ko : BinO false M num den n2 W ob ub ul ur da dc Na Nc m0 m1 U0 U1 y) => bmerge_L hM1 hM2 W bb tb vl vr ca cc Oa Oc k0 k1 T0 T1 z kb ob ub ul ur da dc Na Nc m0 m1 U0 U1 y ko (fun j hj hn => hap j (.inr hj) (.inr hn)) hT hl0 hl1 hm0 hm1)
  have hog : og ≠ lg := fun e => hap lg (.inl rfl) (.inl e.symm)
  have HAP := Lib.hid hap
  clear h g hap hT hU hl0 hl1 hm0 hm1 hUU hlo3 hhh3 hM1 hM2
  go_enter Tryz.func222, Tryz.ntmps222
  go_upto_region 3 with fail
  refine wp_region_quiet_litC (C := L2C false M num den n n2 w lg bb tb vl vr ca cc Oa Oc k0 k1 T0 T1 z lo hh og ob ub ul ur da dc Na Nc m0 m1 U0 U1 y lo2 hh2) (by kernel_rfl) (by kernel_rfl) (H0.next (Below.refl _ _).drew) ?_
  repeat (first | go_big_quiet_skip | (go_big_quiet_want; go_big_quiet_op; first | go_big_quiet_on | (refine quiet_const ?_; go_big_quiet_on)))
  go_big_quiet_want
  refine ⟨.agg #[.int .u64 (num : Int), .int .u64 (den : Int), .int .i64 0, .int .i64 (M : Int)], fun wx hx => ?_, ?_⟩
  · obtain ⟨c0, c1, c2, c3, c4, c5, c6, f5, f6⟩ := lcells_L hx.b
    go_simp
  go_big_quiet_on
  simp only [Act.put, List.setIfInBounds_toArray, List.set_cons_zero, List.set_cons_succ]
  repeat (first | go_big_quiet_skip | (go_big_quiet_want; go_big_quiet_op; first | go_big_quiet_on | (refine quiet_const ?_; go_big_quiet_on)))
  go_big_quiet_want
  refine ⟨.agg #[.int .u64 (num : Int), .int .u64 (den : Int), .int .i64 0, .int .i64 (M : Int)], fun wx hx => ?_, ?_⟩
  · obtain ⟨c0, c1, c2, c3, c4, c5, c6, f5, f6⟩ := lcells_L hx.o
    go_simp
  go_big_quiet_on
  simp only [Act.put, List.setIfInBounds_toArray, List.set_cons_zero, List.set_cons_succ]
  repeat (first | go_big_quiet_skip | (go_big_quiet_want; go_big_quiet_op; first | go_big_quiet_on | (refine quiet_const ?_; go_big_quiet_on)))
  refine wpQuiet_nil ?_
  intro w1 H1
  obtain ⟨c0, c1, c2, c3, c4, c5, c6, f5, f6⟩ := lcells_L H1.o
  have ht1 := hto.out w1 H1
  have H1 := Lib.hid H1
  clear H0 hto c1 c2 c3 c4 c5 c6 f5 f6
  go_wp2_with fail
  refine ht1.mono ?_
  rintro e w2 ⟨rfl, b2⟩
  have H2 := H1.out.next b2
  clear ht1 b2 H1 c0
  go_upto_region 7 with fail
  refine wp_region_quiet_litC (C := L2C false M num den n n2 w lg bb tb vl vr ca cc Oa Oc k0 k1 T0 T1 z lo hh og ob ub ul ur da dc Na Nc m0 m1 U0 U1 y lo2 hh2) (by kernel_rfl) (by kernel_rfl) (H2.next (Below.refl _ _).drew) ?_
  repeat (first | go_big_quiet_skip | (go_big_quiet_want; go_big_quiet_op; first | go_big_quiet_on | (refine quiet_const ?_; go_big_quiet_on)))
  go_big_quiet_want
  refine ⟨.int .i64 lo, fun wx hx => ?_, ?_⟩
  · obtain ⟨c0, c1, c2, c3, c4, c5, c6, f5, f6⟩ := lcells_L hx.b
    go_simp
  go_big_quiet_on
  simp only [Act.put, List.setIfInBounds_toArray, List.set_cons_zero, List.set_cons_succ]
  repeat (first | go_big_quiet_skip | (go_big_quiet_want; go_big_quiet_op; first | go_big_quiet_on | (refine quiet_const ?_; go_big_quiet_on)))
  go_big_quiet_want
  refine ⟨.int .i64 hh, fun wx hx => ?_, ?_⟩
  · obtain ⟨c0, c1, c2, c3, c4, c5, c6, f5, f6⟩ := lcells_L hx.b
    go_simp
  go_big_quiet_on
  simp only [Act.put, List.setIfInBounds_toArray, List.set_cons_zero, List.set_cons_succ]
  repeat (first | go_big_quiet_skip | (go_big_quiet_want; go_big_quiet_op; first | go_big_quiet_on | (refine quiet_const ?_; go_big_quiet_on)))
  refine wpQuiet_nil ?_
  intro w3 H3
  clear H2
  go_upto_region 8 with fail
  refine wp_region_quiet_tail 9 (C := L2C false M num den n n2 w lg bb tb vl vr ca cc Oa Oc k0 k1 T0 T1 z lo hh og ob ub ul ur da dc Na Nc m0 m1 U0 U1 y lo2 hh2) (by kernel_rfl) (by kernel_rfl) (H3.next (Below.refl _ _).drew) ?_
  simp only [List.take_succ_cons, List.take_zero, List.drop_succ_cons, List.drop_zero]
  repeat (first | go_big_quiet_skip | (go_big_quiet_want; go_big_quiet_op; first | go_big_quiet_on | (refine quiet_const ?_; go_big_quiet_on)))
  go_big_quiet_want
  refine ⟨.int .i64 lo2, fun wx hx => ?_, ?_⟩
  · obtain ⟨c0, c1, c2, c3, c4, c5, c6, f5, f6⟩ := lcells_L hx.o
    go_simp
  go_big_quiet_on
  simp only [Act.put, List.setIfInBounds_toArray, List.set_cons_zero, List.set_cons_succ]
  repeat (first | go_big_quiet_skip | (go_big_quiet_want; go_big_quiet_op; first | go_big_quiet_on | (refine quiet_const ?_; go_big_quiet_on)))
  go_big_quiet_want
  refine ⟨.int .i64 hh2, fun wx hx => ?_, ?_⟩
  · obtain ⟨c0, c1, c2, c3, c4, c5, c6, f5, f6⟩ := lcells_L hx.o
    go_simp
  go_big_quiet_on
  simp only [Act.put, List.setIfInBounds_toArray, List.set_cons_zero, List.set_cons_succ]
  repeat (first | go_big_quiet_skip | (go_big_quiet_want; go_big_quiet_op; first | go_big_quiet_on | (refine quiet_const ?_; go_big_quiet_on)))
  refine wpQuiet_nil ?_
  intro w3' H3'
  have he3 := hen.out w3' H3'
  have H3 := Lib.hid H3'
  clear hen H3'
  go_wp2_with fail
  refine he3.mono ?_
  rintro e w4 ⟨rfl, L4, a4⟩
  have H4 : L2C false M num den n n2 w4 lg bb tb vl vr ca cc Oa Oc k0 k1 T0 T1 z lo3 hh3 og ob ub ul ur da dc Na Nc m0 m1 U0 U1 y lo2 hh2 w4 := ⟨L4, H3.out.o.away a4 fun j hj e => HAP.out lg (.inl rfl) (e ▸ hj), Below.refl _ _⟩
  have A4 := Lib.hid ((Away.of_below (F := OwnL lg bb tb vl vr Oa Oc) H3.out.below).trans' (G := fun k => k = lg) a4 (fun _ _ h => h) (fun k _ e => .inl e))
  clear he3 L4 a4 H3
  go_upto_region 9 with fail
  refine wp_region_quiet_tail 8 (C := L2C false M num den n n2 w4 lg bb tb vl vr ca cc Oa Oc k0 k1 T0 T1 z lo3 hh3 og ob ub ul ur da dc Na Nc m0 m1 U0 U1 y lo2 hh2) (by kernel_rfl) (by kernel_rfl) (H4.next (Below.refl _ _).drew) ?_
  simp only [List.take_succ_cons, List.take_zero, List.drop_succ_cons, List.drop_zero]
  repeat (first | go_big_quiet_skip | (go_big_quiet_want; go_big_quiet_op; first | go_big_quiet_on | (refine quiet_const ?_; go_big_quiet_on)))
  go_big_quiet_want
  refine ⟨.pointer (some ⟨bb, 0, none⟩), fun wx hx => ?_, ?_⟩
  · obtain ⟨c0, c1, c2, c3, c4, c5, c6, f5, f6⟩ := lcells_L hx.b
    go_simp
  go_big_quiet_on
  simp only [Act.put, List.setIfInBounds_toArray, List.set_cons_zero, List.set_cons_succ]
  repeat (first | go_big_quiet_skip | (go_big_quiet_want; go_big_quiet_op; first | go_big_quiet_on | (refine quiet_const ?_; go_big_quiet_on)))
  go_big_quiet_want
  refine ⟨.pointer (some ⟨ob, 0, none⟩), fun wx hx => ?_, ?_⟩
  · obtain ⟨c0, c1, c2, c3, c4, c5, c6, f5, f6⟩ := lcells_L hx.o
    go_simp
  go_big_quiet_on
  simp only [Act.put, List.setIfInBounds_toArray, List.set_cons_zero, List.set_cons_succ]
  repeat (first | go_big_quiet_skip | (go_big_quiet_want; go_big_quiet_op; first | go_big_quiet_on | (refine quiet_const ?_; go_big_quiet_on)))
  refine wpQuiet_nil ?_
  intro w5 H5
  have hm5 := hme.out w5 H5.b.bn H5.o.bn
  have H5 := Lib.hid H5
  clear hme H4
  go_wp2_with fail
  refine hm5.mono ?_
  rintro e w6 ⟨rfl, r6⟩
  have HR := Lib.hid (show ∃ Pa Pc, LogO false M num den n w6 lg bb tb vl vr ca cc Pa Pc (joinK false M k0 m0) (joinK false M k1 m1) (T0 + U0) (T1 + U1) (z + y) lo3 hh3 ∧ SubO w (OwnL lg bb tb vl vr Oa Oc) (OwnL lg bb tb vl vr Pa Pc) ∧ Away (OwnL lg bb tb vl vr Oa Oc) w w6 from by
    obtain ⟨Pa, Pc, p1, p2, p3⟩ := H5.out.b.bins r6
    obtain ⟨s5, a5⟩ := sub_trans (fun j hj => .inl hj) A4.out (sub_below (P := OwnL lg bb tb vl vr Oa Oc) H5.out.below).1 (sub_below H5.out.below).2
    exact ⟨Pa, Pc, p1, sub_trans s5 a5 p2 p3⟩)
  clear hm5 r6 H5 A4
  go_wp2_with fail
  go_ret
  exact ⟨rfl, HR.out⟩

theorem lset_H {M num den n : Nat} (w : World) (lg bb tb : Nat) (vl vr : Value) (ca cc : Nat) (Oa Oc : Nat → Prop) (k0 k1 : Row) (T0 T1 z : Nat) (lo hh : Int) (h : LogO true M num den n w lg bb tb vl vr ca cc Oa Oc k0 k1 T0 T1 z lo hh) (hT : T0 + z + T1 ≤ 9223372036854775807) (a b : Int) :
    Calls Tryz.prog 77 #[.pointer (some ⟨lg, 0, none⟩), .int .i64 a, .int .i64 b] w fun e w' => ∃ r : Bool, e = .returned (.bool r) ∧ Away (fun k => k = lg) w w' ∧ (r = true → LogO true M num den n w' lg bb tb vl vr ca cc Oa Oc k0 k1 T0 T1 z a b) := by
  have hs := btot_H w bb tb vl vr ca cc Oa Oc k0 k1 T0 T1 z h.bn hT
  obtain ⟨c0, c1, c2, c3, c4, c5, c6, f5, f6⟩ := lcells_H h
  have FIN := Lib.hid (show ∀ (W : World), Below w.heap.size w W → LogO true M num den n ((W.setCell ⟨lg, 5, none⟩ (.int .i64 a)).setCell ⟨lg, 6, none⟩ (.int .i64 b)) lg bb tb vl vr ca cc Oa Oc k0 k1 T0 T1 z a b ∧ Away (fun k => k = lg) w ((W.setCell ⟨lg, 5, none⟩ (.int .i64 a)).setCell ⟨lg, 6, none⟩ (.int .i64 b)) from fun W hbl => by
    obtain ⟨h1, h2⟩ := (h.next hbl).ends a b
    exact ⟨h1, (Away.of_below (F := fun k => k = lg) hbl).trans' h2 (fun _ _ h => h) (fun _ _ h => h)⟩)
  have HH := Lib.hid h
  obtain ⟨T, hTT⟩ : ∃ T, T = T0 + z + T1 := ⟨_, rfl⟩
  rw [← hTT] at hs
  clear h hT hTT c1 c2 c3 c4 c5 c6 f5 f6
  by_cases h0 : T = 0
  · have g1 : ((T : Int) == 0) = true := by simp [h0]
    have g2 : (T == 0) = true := by simp [h0]
    clear h0
    by_cases ha : a = 0
    · subst ha
      by_cases hb : b = 0
      · subst hb
        go_enter Tryz.func77, Tryz.ntmps77
        go_wp2_with fail
        refine hs.mono ?_
        rintro e w1 ⟨rfl, b1⟩
        obtain ⟨c0, c1, c2, c3, c4, c5, c6, f5, f6⟩ := lcells_H (HH.out.next b1)
        have hF := Lib.hid (FIN.out w1 b1)
        clear b1 FIN hs
        go_wp2_with fail
        go_ret
        exact ⟨true, rfl, hF.out.2, fun _ => hF.out.1⟩
      · have g3 : (b != 0) = true := by simp [hb]
        have g4 : (b == 0) = false := by simp [hb]
        clear hb
        go_enter Tryz.func77, Tryz.ntmps77
        go_wp2_with fail
        refine hs.mono ?_
        rintro e w1 ⟨rfl, b1⟩
        have hF := Lib.hid b1
        clear b1 FIN hs
        go_wp2_with fail
        go_ret
        exact ⟨false, rfl, Away.of_below hF.out, fun h => absurd h (by decide)⟩
    · have g3 : (a != 0) = true := by simp [ha]
      have g4 : (a == 0) = false := by simp [ha]
      clear ha
      go_enter Tryz.func77, Tryz.ntmps77
      go_wp2_with fail
      refine hs.mono ?_
      rintro e w1 ⟨rfl, b1⟩
      have hF := Lib.hid b1
      clear b1 FIN hs
      go_wp2_with fail
      go_ret
      exact ⟨false, rfl, Away.of_below hF.out, fun h => absurd h (by decide)⟩
  · have g1 : ((T : Int) == 0) = false := by simp [h0]
    have g2 : (T == 0) = false := by simp [h0]
    clear h0
    by_cases hab : b < a
    · have g3 : decide (b < a) = true := by simpa using hab
      go_enter Tryz.func77, Tryz.ntmps77
      go_wp2_with fail
      refine hs.mono ?_
      rintro e w1 ⟨rfl, b1⟩
      have hF := Lib.hid b1
      clear b1 FIN hs
      go_wp2_with fail
      go_ret
      exact ⟨false, rfl, Away.of_below hF.out, fun h => absurd h (by decide)⟩
    · have g3 : decide (b < a) = false := by simpa using hab
      go_enter Tryz.func77, Tryz.ntmps77
      go_wp2_with fail
      refine hs.mono ?_
      rintro e w1 ⟨rfl, b1⟩
      obtain ⟨c0, c1, c2, c3, c4, c5, c6, f5, f6⟩ := lcells_H (HH.out.next b1)
      have hF := Lib.hid (FIN.out w1 b1)
      clear b1 FIN hs
      go_wp2_with fail
      go_ret
      exact ⟨true, rfl, hF.out.2, fun _ => hF.out.1⟩

set_option maxHeartbeats 4000000 in
theorem lnew_H {M : Nat} (hM1 : 1 ≤ M) (hM2 : M ≤ 4096) (w : World) (num den : Nat) (hg : goodC num den = true) :
    Calls Tryz.prog 41 #[.agg #[.int .u64 (num : Int), .int .u64 (den : Int), .int .i64 1, .int .i64 (M : Int)]] w (LnP true M num den w) := by
  have B0 : Blk (w.alloc (.cells #[.int .u64 (num : Int), .int .u64 (den : Int), .int .i64 1, .int .i64 (M : Int)] 120)) w.heap.size #[.int .u64 (num : Int), .int .u64 (den : Int), .int .i64 1, .int .i64 (M : Int)] 120 := Blk.newAt rfl
  have b0 : Below w.heap.size w (w.alloc (.cells #[.int .u64 (num : Int), .int .u64 (den : Int), .int .i64 1, .int .i64 (M : Int)] 120)) := (Below.refl _ _).alloc (Nat.le_refl _) _
  have hcn := Lib.hid (fun W => cnew_any num den W hg)
  have hbn := Lib.hid (fun W tb vl vr n (t : TabO W tb vl vr num den n) => bnew_H hM1 hM2 W tb vl vr num den n t)
  have H0 := Lib.hid (And.intro B0 b0)
  clear B0 b0 hg hM1 hM2
  go_enter Tryz.func41, Tryz.ntmps41
  go_wp2_with fail
  refine (hcn.out _).mono ?_
  rintro e w1 (⟨n, tb, vl, vr, hc, rfl, b1, t1, ht1⟩ | ⟨code, hcd, rfl, b1, hno⟩)
  · have B1 := H0.out.1.below b1 H0.out.1.lt
    have bb1 := H0.out.2.trans (b1.mono H0.out.2.size)
    have c0 : w1.cell? ⟨w.heap.size, 0, none⟩ = some (.int .u64 (num : Int)) := B1.cell rfl
    have c1 : w1.cell? ⟨w.heap.size, 1, none⟩ = some (.int .u64 (den : Int)) := B1.cell rfl
    have c2 : w1.cell? ⟨w.heap.size, 2, none⟩ = some (.int .i64 1) := B1.cell rfl
    have c3 : w1.cell? ⟨w.heap.size, 3, none⟩ = some (.int .i64 (M : Int)) := B1.cell rfl
    have hbn1 := hbn.out w1 tb vl vr n t1
    have hz : w.heap.size ≤ (w.alloc (.cells #[.int .u64 (num : Int), .int .u64 (den : Int), .int .i64 1, .int .i64 (M : Int)] 120)).heap.size := by simp
    have H1 := Lib.hid (And.intro B1 (And.intro bb1 (And.intro hc (fun j hj => Nat.le_trans hz (ht1 j hj)))))
    clear hcn hbn B1 bb1 b1 t1 ht1 hc hz H0
    go_wp2_with fail
    refine hbn1.mono ?_
    rintro e w2 ⟨bb, ca, cc, Oa, Oc, rfl, bn2, b2, hbb, hOa, hOc⟩
    have B2 := H1.out.1.below b2 H1.out.1.lt
    have c0 : w2.cell? ⟨w.heap.size, 0, none⟩ = some (.int .u64 (num : Int)) := B2.cell rfl
    have c1 : w2.cell? ⟨w.heap.size, 1, none⟩ = some (.int .u64 (den : Int)) := B2.cell rfl
    have c2 : w2.cell? ⟨w.heap.size, 2, none⟩ = some (.int .i64 1) := B2.cell rfl
    have c3 : w2.cell? ⟨w.heap.size, 3, none⟩ = some (.int .i64 (M : Int)) := B2.cell rfl
    have hz1 := H1.out.2.1.size
    have bb2 := H1.out.2.1.trans (b2.mono hz1)
    have HR := Lib.hid (show LnP true M num den w (.returned (.tuple #[.pointer (some ⟨w2.heap.size, 0, none⟩), .int .i64 0])) (w2.alloc (.cells #[.pointer (some ⟨bb, 0, none⟩), .int .u64 (num : Int), .int .u64 (den : Int), .int .i64 1, .int .i64 (M : Int), .int .i64 0, .int .i64 0] 170)) from by
      refine ⟨_, 0, rfl, bb2.alloc bb2.size _, fun _ => ⟨n, w2.heap.size, bb, tb, vl, vr, ca, cc, Oa, Oc, rfl, H1.out.2.2.1, ⟨Blk.newAt rfl, bn2.next ((Below.refl _ _).alloc (Nat.le_refl _) _)⟩, ?_⟩, fun _ => rfl⟩
      rintro j (rfl | rfl | e | e | e)
      · exact bb2.size
      · omega
      · exact H1.out.2.2.2 j e
      · exact Nat.le_trans hz1 (hOa j e)
      · exact Nat.le_trans hz1 (hOc j e))
    clear hbn1 B2 bb2 b2 bn2 hbb hOa hOc hz1 H1
    go_wp2_with fail
    go_ret2
    exact HR.out
  · have hc1 : (code == 0) = false := by simp [hcd]
    have hc2 : (code != 0) = true := by simp [hcd]
    have HR := Lib.hid (show LnP true M num den w (.returned (.tuple #[.pointer none, .int .i64 code])) w1 from ⟨none, code, rfl, H0.out.2.trans (b1.mono H0.out.2.size), fun h => absurd h hcd, fun ⟨n, hn⟩ => absurd hn (hno n)⟩)
    clear hcn hbn b1 hno H0 hcd
    go_wp2_with fail
    go_ret2
    exact HR.out
theorem bnew_bad_H (w : World) (tb : Nat) (M : Int) (h : M < 1 ∨ 4096 < M) :
    Calls Tryz.prog 64 #[.iface 163 (.pointer (some ⟨tb, 0, none⟩)), .int .i64 1, .int .i64 M] w fun e w' => e = .returned (.tuple #[.pointer none, .int .i64 1]) ∧ w = w' := by
  have hf := fresh_bad_H w M h
  clear h
  go_enter Tryz.func64, Tryz.ntmps64
  go_wp2_with fail
  refine hf.mono ?_
  rintro e w1 ⟨⟨v, rfl⟩, rfl⟩
  clear hf
  go_wp2_with fail
  go_ret2
  exact ⟨rfl, rfl⟩

theorem ljoin_none_H {M num den n : Nat} (w : World) (lg bb tb : Nat) (vl vr : Value) (ca cc : Nat) (Oa Oc : Nat → Prop) (k0 k1 : Row) (T0 T1 z : Nat) (lo hh : Int) (h : LogO true M num den n w lg bb tb vl vr ca cc Oa Oc k0 k1 T0 T1 z lo hh) (n2 og ob ub : Nat) (ul ur : Value) (da dc : Nat) (Na Nc : Nat → Prop) (m0 m1 : Row) (U0 U1 y : Nat) (lo2 hh2 : Int) (g : LogO true M num den n2 w og ob ub ul ur da dc Na Nc m0 m1 U0 U1 y lo2 hh2) (hU : U0 + y + U1 = 0) :
    Calls Tryz.prog 222 #[.pointer (some ⟨lg, 0, none⟩), .pointer (some ⟨og, 0, none⟩)] w fun e w' => e = .returned (.int .i64 0) ∧ Below w.heap.size w w' := by
  have H0 : L2C true M num den n n2 w lg bb tb vl vr ca cc Oa Oc k0 k1 T0 T1 z lo hh og ob ub ul ur da dc Na Nc m0 m1 U0 U1 y lo2 hh2 w := ⟨h, g, Below.refl _ _⟩
  have hto := Lib.hid (fun W (k : L2C true M num den n n2 w lg bb tb vl vr ca cc Oa Oc k0 k1 T0 T1 z lo hh og ob ub ul ur da dc Na Nc m0 m1 U0 U1 y lo2 hh2 W) => btot_H W ob ub ul ur da dc Na Nc m0 m1 U0 U1 y k.o.bn (by omega))
  rw [hU] at hto
  clear h g hU
  go_enter Tryz.func222, Tryz.ntmps222
  go_upto_region 3 with fail
  refine wp_region_quiet_litC (C := L2C true M num den n n2 w lg bb tb vl vr ca cc Oa Oc k0 k1 T0 T1 z lo hh og ob ub ul ur da dc Na Nc m0 m1 U0 U1 y lo2 hh2) (by kernel_rfl) (by kernel_rfl) (H0.next (Below.refl _ _).drew) ?_
  repeat (first | go_big_quiet_skip | (go_big_quiet_want; go_big_quiet_op; first | go_big_quiet_on | (refine quiet_const ?_; go_big_quiet_on)))
  go_big_quiet_want
  refine ⟨.agg #[.int .u64 (num : Int), .int .u64 (den : Int), .int .i64 1, .int .i64 (M : Int)], fun wx hx => ?_, ?_⟩
  · obtain ⟨c0, c1, c2, c3, c4, c5, c6, f5, f6⟩ := lcells_H hx.b
    go_simp
  go_big_quiet_on
  simp only [Act.put, List.setIfInBounds_toArray, List.set_cons_zero, List.set_cons_succ]
  repeat (first | go_big_quiet_skip | (go_big_quiet_want; go_big_quiet_op; first | go_big_quiet_on | (refine quiet_const ?_; go_big_quiet_on)))
  go_big_quiet_want
  refine ⟨.agg #[.int .u64 (num : Int), .int .u64 (den : Int), .int .i64 1, .int .i64 (M : Int)], fun wx hx => ?_, ?_⟩
  · obtain ⟨c0, c1, c2, c3, c4, c5, c6, f5, f6⟩ := lcells_H hx.o
    go_simp
  go_big_quiet_on
  simp only [Act.put, List.setIfInBounds_toArray, List.set_cons_zero, List.set_cons_succ]
  repeat (first | go_big_quiet_skip | (go_big_quiet_want; go_big_quiet_op; first | go_big_quiet_on | (refine quiet_const ?_; go_big_quiet_on)))
  refine wpQuiet_nil ?_
  intro w1 H1
  obtain ⟨c0, c1, c2, c3, c4, c5, c6, f5, f6⟩ := lcells_H H1.o
  have ht1 := hto.out w1 H1
  have HB := Lib.hid H1.below
  clear H1 H0 hto c1 c2 c3 c4 c5 c6 f5 f6
  go_wp2_with fail
  refine ht1.mono ?_
  rintro e w2 ⟨rfl, b2⟩
  have HB2 := Lib.hid (HB.out.trans (b2.mono HB.out.size))
  clear ht1 b2 HB
  go_wp2_with fail
  go_ret
  exact ⟨rfl, HB2.out⟩

set_option maxHeartbeats 8000000 in
theorem ljoin_H {M num den n : Nat} (hM1 : 1 ≤ M) (hM2 : M ≤ 4096) (w : World) (lg bb tb : Nat) (vl vr : Value) (ca cc : Nat) (Oa Oc : Nat → Prop) (k0 k1 : Row) (T0 T1 z : Nat) (lo hh : Int) (h : LogO true M num den n w lg bb tb vl vr ca cc Oa Oc k0 k1 T0 T1 z lo hh) (n2 og ob ub : Nat) (ul ur : Value) (da dc : Nat) (Na Nc : Nat → Prop) (m0 m1 : Row) (U0 U1 y : Nat) (lo2 hh2 : Int) (g : LogO true M num den n2 w og ob ub ul ur da dc Na Nc m0 m1 U0 U1 y lo2 hh2) (hap : ∀ j, OwnL lg bb tb vl vr Oa Oc j → ¬ OwnL og ob ub ul ur Na Nc j) (hT : T0 + z + T1 + (U0 + y + U1) ≤ 9223372036854775807) (hU : 1 ≤ U0 + y + U1)
    (hl0 : ∀ q, (joinK true M k0 (m0.take q)).length ≤ M) (hl1 : ∀ q, (joinK true M k1 (m1.take q)).length ≤ M) (hm0 : m0.length ≤ 4096) (hm1 : m1.length ≤ 4096) :
    Calls Tryz.prog 222 #[.pointer (some ⟨lg, 0, none⟩), .pointer (some ⟨og, 0, none⟩)] w fun e w' => e = .returned (.int .i64 0) ∧ ∃ Pa Pc, LogO true M num den n w' lg bb tb vl vr ca cc Pa Pc (joinK true M k0 m0) (joinK true M k1 m1) (T0 + U0) (T1 + U1) (z + y) (loF (T0 + z + T1) lo lo2) (hiF (T0 + z + T1) hh hh2) ∧ SubO w (OwnL lg bb tb vl vr Oa Oc) (OwnL lg bb tb vl vr Pa Pc) ∧ Away (OwnL lg bb tb vl vr Oa Oc) w w' := by
  have H0 : L2C true M num den n n2 w lg bb tb vl vr ca cc Oa Oc k0 k1 T0 T1 z lo hh og ob ub ul ur da dc Na Nc m0 m1 U0 U1 y lo2 hh2 w := ⟨h, g, Below.refl _ _⟩
  have hto := Lib.hid (fun W (k : L2C true M num den n n2 w lg bb tb vl vr ca cc Oa Oc k0 k1 T0 T1 z lo hh og ob ub ul ur da dc Na Nc m0 m1 U0 U1 y lo2 hh2 W) => btot_H W ob ub ul ur da dc Na Nc m0 m1 U0 U1 y k.o.bn (by omega))
  have hen := Lib.hid (fun W (k : L2C true M num den n n2 w lg bb tb vl vr ca cc Oa Oc k0 k1 T0 T1 z lo hh og ob ub ul ur da dc Na Nc m0 m1 U0 U1 y lo2 hh2 W) => lends_H W lg bb tb vl vr ca cc Oa Oc k0 k1 T0 T1 z lo hh k.b (by omega) lo2 hh2)
  obtain ⟨U, hUU⟩ : ∃ U, U = U0 + y + U1 := ⟨_, rfl⟩
  rw [← hUU] at hto hU
  have g1 : ((U : Int) == 0) = false := by simp; omega
  have g2 : (U == 0) = false := by simp; omega
  obtain ⟨lo3, hlo3⟩ : ∃ l, l = loF (T0 + z + T1) lo lo2 := ⟨_, rfl⟩
  obtain ⟨hh3, hhh3⟩ : ∃ l, l = hiF (T0 + z + T1) hh hh2 := ⟨_, rfl⟩
  rw [← hlo3, ← hhh3]
  rw [← hlo3, ← hhh3] at hen
  have hme := Lib.hid (fun W (kb : BinO true M num den n W bb tb vl vr ca cc Oa Oc k0 k1 T0 T1 z) (ko : BinO true M num den n2 W ob ub ul ur da dc Na Nc m0 m1 U0 U1 y) => bmerge_H hM1 hM2 W bb tb vl vr ca cc Oa Oc k0 k1 T0 T1 z kb ob ub ul ur da dc Na Nc m0 m1 U0 U1 y ko (fun j hj hn => hap j (.inr hj) (.inr hn)) hT hl0 hl1 hm0 hm1)
  have hog : og ≠ lg := fun e => hap lg (.inl rfl) (.inl e.symm)
  have HAP := Lib.hid hap
  clear h g hap hT hU hl0 hl1 hm0 hm1 hUU hlo3 hhh3 hM1 hM2
  go_enter Tryz.func222, Tryz.ntmps222
  go_upto_region 3 with fail
  refine wp_region_quiet_litC (C := L2C true M num den n n2 w lg bb tb vl vr ca cc Oa Oc k0 k1 T0 T1 z lo hh og ob ub ul ur da dc Na Nc m0 m1 U0 U1 y lo2 hh2) (by kernel_rfl) (by kernel_rfl) (H0.next (Below.refl _ _).drew) ?_
  repeat (first | go_big_quiet_skip | (go_big_quiet_want; go_big_quiet_op; first | go_big_quiet_on | (refine quiet_const ?_; go_big_quiet_on)))
  go_big_quiet_want
  refine ⟨.agg #[.int .u64 (num : Int), .int .u64 (den : Int), .int .i64 1, .int .i64 (M : Int)], fun wx hx => ?_, ?_⟩
  · obtain ⟨c0, c1, c2, c3, c4, c5, c6, f5, f6⟩ := lcells_H hx.b
    go_simp
  go_big_quiet_on
  simp only [Act.put, List.setIfInBounds_toArray, List.set_cons_zero, List.set_cons_succ]
  repeat (first | go_big_quiet_skip | (go_big_quiet_want; go_big_quiet_op; first | go_big_quiet_on | (refine quiet_const ?_; go_big_quiet_on)))
  go_big_quiet_want
  refine ⟨.agg #[.int .u64 (num : Int), .int .u64 (den : Int), .int .i64 1, .int .i64 (M : Int)], fun wx hx => ?_, ?_⟩
  · obtain ⟨c0, c1, c2, c3, c4, c5, c6, f5, f6⟩ := lcells_H hx.o
    go_simp
  go_big_quiet_on
  simp only [Act.put, List.setIfInBounds_toArray, List.set_cons_zero, List.set_cons_succ]
  repeat (first | go_big_quiet_skip | (go_big_quiet_want; go_big_quiet_op; first | go_big_quiet_on | (refine quiet_const ?_; go_big_quiet_on)))
  refine wpQuiet_nil ?_
  intro w1 H1
  obtain ⟨c0, c1, c2, c3, c4, c5, c6, f5, f6⟩ := lcells_H H1.o
  have ht1 := hto.out w1 H1
  have H1 := Lib.hid H1
  clear H0 hto c1 c2 c3 c4 c5 c6 f5 f6
  go_wp2_with fail
  refine ht1.mono ?_
  rintro e w2 ⟨rfl, b2⟩
  have H2 := H1.out.next b2
  clear ht1 b2 H1 c0
  go_upto_region 7 with fail
  refine wp_region_quiet_litC (C := L2C true M num den n n2 w lg bb tb vl vr ca cc Oa Oc k0 k1 T0 T1 z lo hh og ob ub ul ur da dc Na Nc m0 m1 U0 U1 y lo2 hh2) (by kernel_rfl) (by kernel_rfl) (H2.next (Below.refl _ _).drew) ?_
  repeat (first | go_big_quiet_skip | (go_big_quiet_want; go_big_quiet_op; first | go_big_quiet_on | (refine quiet_const ?_; go_big_quiet_on)))
  go_big_quiet_want
  refine ⟨.int .i64 lo, fun wx hx => ?_, ?_⟩
  · obtain ⟨c0, c1, c2, c3, c4, c5, c6, f5, f6⟩ := lcells_H hx.b
    go_simp
  go_big_quiet_on
  simp only [Act.put, List.setIfInBounds_toArray, List.set_cons_zero, List.set_cons_succ]
  repeat (first | go_big_quiet_skip | (go_big_quiet_want; go_big_quiet_op; first | go_big_quiet_on | (refine quiet_const ?_; go_big_quiet_on)))
  go_big_quiet_want
  refine ⟨.int .i64 hh, fun wx hx => ?_, ?_⟩
  · obtain ⟨c0, c1, c2, c3, c4, c5, c6, f5, f6⟩ := lcells_H hx.b
    go_simp
  go_big_quiet_on
  simp only [Act.put, List.setIfInBounds_toArray, List.set_cons_zero, List.set_cons_succ]
  repeat (first | go_big_quiet_skip | (go_big_quiet_want; go_big_quiet_op; first | go_big_quiet_on | (refine quiet_const ?_; go_big_quiet_on)))
  refine wpQuiet_nil ?_
  intro w3 H3
  clear H2
  go_upto_region 8 with fail
  refine wp_region_quiet_tail 9 (C := L2C true M num den n n2 w lg bb tb vl vr ca cc Oa Oc k0 k1 T0 T1 z lo hh og ob ub ul ur da dc Na Nc m0 m1 U0 U1 y lo2 hh2) (by kernel_rfl) (by kernel_rfl) (H3.next (Below.refl _ _).drew) ?_
  simp only [List.take_succ_cons, List.take_zero, List.drop_succ_cons, List.drop_zero]
  repeat (first | go_big_quiet_skip | (go_big_quiet_want; go_big_quiet_op; first | go_big_quiet_on | (refine quiet_const ?_; go_big_quiet_on)))
  go_big_quiet_want
  refine ⟨.int .i64 lo2, fun wx hx => ?_, ?_⟩
  · obtain ⟨c0, c1, c2, c3, c4, c5, c6, f5, f6⟩ := lcells_H hx.o
    go_simp
  go_big_quiet_on
  simp only [Act.put, List.setIfInBounds_toArray, List.set_cons_zero, List.set_cons_succ]
  repeat (first | go_big_quiet_skip | (go_big_quiet_want; go_big_quiet_op; first | go_big_quiet_on | (refine quiet_const ?_; go_big_quiet_on)))
  go_big_quiet_want
  refine ⟨.int .i64 hh2, fun wx hx => ?_, ?_⟩
  · obtain ⟨c0, c1, c2, c3, c4, c5, c6, f5, f6⟩ := lcells_H hx.o
    go_simp
  go_big_quiet_on
  simp only [Act.put, List.setIfInBounds_toArray, List.set_cons_zero, List.set_cons_succ]
  repeat (first | go_big_quiet_skip | (go_big_quiet_want; go_big_quiet_op; first | go_big_quiet_on | (refine quiet_const ?_; go_big_quiet_on)))
  refine wpQuiet_nil ?_
  intro w3' H3'
  have he3 := hen.out w3' H3'
  have H3 := Lib.hid H3'
  clear hen H3'
  go_wp2_with fail
  refine he3.mono ?_
  rintro e w4 ⟨rfl, L4, a4⟩
  have H4 : L2C true M num den n n2 w4 lg bb tb vl vr ca cc Oa Oc k0 k1 T0 T1 z lo3 hh3 og ob ub ul ur da dc Na Nc m0 m1 U0 U1 y lo2 hh2 w4 := ⟨L4, H3.out.o.away a4 fun j hj e => HAP.out lg (.inl rfl) (e ▸ hj), Below.refl _ _⟩
  have A4 := Lib.hid ((Away.of_below (F := OwnL lg bb tb vl vr Oa Oc) H3.out.below).trans' (G := fun k => k = lg) a4 (fun _ _ h => h) (fun k _ e => .inl e))
  clear he3 L4 a4 H3
  go_upto_region 9 with fail
  refine wp_region_quiet_tail 8 (C := L2C true M num den n n2 w4 lg bb tb vl vr ca cc Oa Oc k0 k1 T0 T1 z lo3 hh3 og ob ub ul ur da dc Na Nc m0 m1 U0 U1 y lo2 hh2) (by kernel_rfl) (by kernel_rfl) (H4.next (Below.refl _ _).drew) ?_
  simp only [List.take_succ_cons, List.take_zero, List.drop_succ_cons, List.drop_zero]
  repeat (first | go_big_quiet_skip | (go_big_quiet_want; go_big_quiet_op; first | go_big_quiet_on | (refine quiet_const ?_; go_big_quiet_on)))
  go_big_quiet_want
  refine ⟨.pointer (some ⟨bb, 0, none⟩), fun wx hx => ?_, ?_⟩
  · obtain ⟨c0, c1, c2, c3, c4, c5, c6, f5, f6⟩ := lcells_H hx.b
    go_simp
  go_big_quiet_on
  simp only [Act.put, List.setIfInBounds_toArray, List.set_cons_zero, List.set_cons_succ]
  repeat (first | go_big_quiet_skip | (go_big_quiet_want; go_big_quiet_op; first | go_big_quiet_on | (refine quiet_const ?_; go_big_quiet_on)))
  go_big_quiet_want
  refine ⟨.pointer (some ⟨ob, 0, none⟩), fun wx hx => ?_, ?_⟩
  · obtain ⟨c0, c1, c2, c3, c4, c5, c6, f5, f6⟩ := lcells_H hx.o
    go_simp
  go_big_quiet_on
  simp only [Act.put, List.setIfInBounds_toArray, List.set_cons_zero, List.set_cons_succ]
  repeat (first | go_big_quiet_skip | (go_big_quiet_want; go_big_quiet_op; first | go_big_quiet_on | (refine quiet_const ?_; go_big_quiet_on)))
  refine wpQuiet_nil ?_
  intro w5 H5
  have hm5 := hme.out w5 H5.b.bn H5.o.bn
  have H5 := Lib.hid H5
  clear hme H4
  go_wp2_with fail
  refine hm5.mono ?_
  rintro e w6 ⟨rfl, r6⟩
  have HR := Lib.hid (show ∃ Pa Pc, LogO true M num den n w6 lg bb tb vl vr ca cc Pa Pc (joinK true M k0 m0) (joinK true M k1 m1) (T0 + U0) (T1 + U1) (z + y) lo3 hh3 ∧ SubO w (OwnL lg bb tb vl vr Oa Oc) (OwnL lg bb tb vl vr Pa Pc) ∧ Away (OwnL lg bb tb vl vr Oa Oc) w w6 from by
    obtain ⟨Pa, Pc, p1, p2, p3⟩ := H5.out.b.bins r6
    obtain ⟨s5, a5⟩ := sub_trans (fun j hj => .inl hj) A4.out (sub_below (P := OwnL lg bb tb vl vr Oa Oc) H5.out.below).1 (sub_below H5.out.below).2
    exact ⟨Pa, Pc, p1, sub_trans s5 a5 p2 p3⟩)
  clear hm5 r6 H5 A4
  go_wp2_with fail
  go_ret
  exact ⟨rfl, HR.out⟩
end Go.Proofs.YtbejdajkkoapgaaGreatDoor

