/-
  Several texts in one: Ls. What each proves, and on which conditions, stands at its head. Conditions: stated in each.
-/
import Derived.Test.YtbejdajkkoapgaaGreatDoorS19
import Derived.Test.YtbejdajkkoapgaaGreatDoorS21
/-
  A log sketch in memory; contracts of logsk.ends, Put, Bins, Ends, Config, Set. Conditions: few values.
-/
set_option linter.unusedVariables false
set_option linter.unusedSimpArgs false
set_option maxRecDepth 100000
namespace Go.Proofs.YtbejdajkkoapgaaGreatDoor
open Go.RowKit Go.Lib

def logC (hi : Bool) (M num den bb : Nat) (lo hh : Int) : Array Value := #[.pointer (some ⟨bb, 0, none⟩), .int .u64 (num : Int), .int .u64 (den : Int), .int .i64 (sdV hi), .int .i64 (M : Int), .int .i64 lo, .int .i64 hh]
/-- a log sketch in memory -/
structure LogO (hi : Bool) (M num den n : Nat) (w : World) (lg bb tb : Nat) (vl vr : Value) (ca cc : Nat) (Oa Oc : Nat → Prop) (k0 k1 : Row) (T0 T1 z : Nat) (lo hh : Int) : Prop where
  blk : Blk w lg (logC hi M num den bb lo hh) 170
  bn : BinO hi M num den n w bb tb vl vr ca cc Oa Oc k0 k1 T0 T1 z
def OwnL (lg bb tb : Nat) (vl vr : Value) (Oa Oc : Nat → Prop) (j : Nat) : Prop := j = lg ∨ OwnB bb tb vl vr Oa Oc j
section
variable {hi : Bool} {M num den n : Nat} {w w' W : World} {lg bb tb : Nat} {vl vr : Value} {ca cc : Nat} {Oa Oc : Nat → Prop} {k0 k1 a0 a1 : Row} {T0 T1 z A0 A1 y : Nat} {lo hh lo2 hh2 : Int}
theorem LogO.next (h : LogO hi M num den n w lg bb tb vl vr ca cc Oa Oc k0 k1 T0 T1 z lo hh) (b : Below w.heap.size w w') : LogO hi M num den n w' lg bb tb vl vr ca cc Oa Oc k0 k1 T0 T1 z lo hh := ⟨h.blk.below b h.blk.lt, h.bn.next b⟩
theorem LogO.away {G : Nat → Prop} (h : LogO hi M num den n w lg bb tb vl vr ca cc Oa Oc k0 k1 T0 T1 z lo hh) (a : Away G w w') (k : ∀ j, OwnL lg bb tb vl vr Oa Oc j → ¬ G j) : LogO hi M num den n w' lg bb tb vl vr ca cc Oa Oc k0 k1 T0 T1 z lo hh := ⟨h.blk.away a (k _ (.inl rfl)), h.bn.away a fun j hj => k _ (.inr hj)⟩
theorem LogO.lt (h : LogO hi M num den n w lg bb tb vl vr ca cc Oa Oc k0 k1 T0 T1 z lo hh) : ∀ j, OwnL lg bb tb vl vr Oa Oc j → j < w.heap.size := by
  rintro j (rfl | e)
  · exact h.blk.lt
  · exact h.bn.lt j e
theorem LogO.ty (h : LogO hi M num den n w lg bb tb vl vr ca cc Oa Oc k0 k1 T0 T1 z lo hh) : ∀ j, OwnL lg bb tb vl vr Oa Oc j → ∃ cs t, Blk w j cs t ∧ (t = 170 ∨ t = 220 ∨ t = 210 ∨ t = 23 ∨ t = CT hi ∨ t = 115 ∨ t = 228) := by
  rintro j (rfl | e)
  · exact ⟨_, _, h.blk, .inl rfl⟩
  · obtain ⟨cs, t, h1, h2⟩ := h.bn.ty j e; exact ⟨cs, t, h1, .inr h2⟩
theorem LogO.not (h : LogO hi M num den n w lg bb tb vl vr ca cc Oa Oc k0 k1 T0 T1 z lo hh) : ¬ OwnB bb tb vl vr Oa Oc lg := fun hO => by
  obtain ⟨cs, t, h1, h2⟩ := h.bn.ty lg hO
  refine (h.blk.ne h1 ?_) rfl
  rcases h2 with e | e | e | e | e | e <;> subst e <;> cases hi <;> decide
theorem LogO.cells (h : LogO hi M num den n w lg bb tb vl vr ca cc Oa Oc k0 k1 T0 T1 z lo hh) : w.cell? ⟨lg, 0, none⟩ = some (.pointer (some ⟨bb, 0, none⟩)) ∧ w.cell? ⟨lg, 1, none⟩ = some (.int .u64 (num : Int)) ∧ w.cell? ⟨lg, 2, none⟩ = some (.int .u64 (den : Int)) ∧ w.cell? ⟨lg, 3, none⟩ = some (.int .i64 (sdV hi)) ∧ w.cell? ⟨lg, 4, none⟩ = some (.int .i64 (M : Int)) ∧ w.cell? ⟨lg, 5, none⟩ = some (.int .i64 lo) ∧ w.cell? ⟨lg, 6, none⟩ = some (.int .i64 hh) ∧ w.frozen? ⟨lg, 5, none⟩ = false ∧ w.frozen? ⟨lg, 6, none⟩ = false :=
  ⟨h.blk.cell rfl, h.blk.cell rfl, h.blk.cell rfl, h.blk.cell rfl, h.blk.cell rfl, h.blk.cell rfl, h.blk.cell rfl, h.blk.frozen 5, h.blk.frozen 6⟩
/-- another least and greatest value -/
theorem LogO.ends (h : LogO hi M num den n w lg bb tb vl vr ca cc Oa Oc k0 k1 T0 T1 z lo hh) (a b : Int) : LogO hi M num den n ((w.setCell ⟨lg, 5, none⟩ (.int .i64 a)).setCell ⟨lg, 6, none⟩ (.int .i64 b)) lg bb tb vl vr ca cc Oa Oc k0 k1 T0 T1 z a b ∧ Away (fun k => k = lg) w ((w.setCell ⟨lg, 5, none⟩ (.int .i64 a)).setCell ⟨lg, 6, none⟩ (.int .i64 b)) := by
  have aw : Away (fun k => k = lg) w ((w.setCell ⟨lg, 5, none⟩ (.int .i64 a)).setCell ⟨lg, 6, none⟩ (.int .i64 b)) := Away.setCell (Away.setCell (Away.refl (fun k => k = lg) w) ⟨lg, 5, none⟩ _ (.inl rfl)) ⟨lg, 6, none⟩ _ (.inl rfl)
  exact ⟨⟨(h.blk.set 5 _).set 6 _, h.bn.away aw fun j hj e => h.not (e ▸ hj)⟩, aw⟩
/-- behind an operation on the bins -/
theorem LogO.bins (h : LogO hi M num den n w lg bb tb vl vr ca cc Oa Oc k0 k1 T0 T1 z lo hh) (r : BinR hi M num den n w bb tb vl vr ca cc Oa Oc a0 a1 A0 A1 y W) : ∃ Pa Pc, LogO hi M num den n W lg bb tb vl vr ca cc Pa Pc a0 a1 A0 A1 y lo hh ∧ SubO w (OwnL lg bb tb vl vr Oa Oc) (OwnL lg bb tb vl vr Pa Pc) ∧ Away (OwnL lg bb tb vl vr Oa Oc) w W := by
  obtain ⟨Pa, Pc, p1, p2, p3⟩ := r
  refine ⟨Pa, Pc, ⟨h.blk.away p3 h.not, p1⟩, ?_, p3.mono fun j _ hj => .inr hj⟩
  rintro j (e | e)
  · exact .inl (.inl e)
  · exact (p2 j e).imp .inr id
end

theorem lcells_L {M num den n : Nat} {w : World} {lg bb tb : Nat} {vl vr : Value} {ca cc : Nat} {Oa Oc : Nat → Prop} {k0 k1 : Row} {T0 T1 z : Nat} {lo hh : Int} (h : LogO false M num den n w lg bb tb vl vr ca cc Oa Oc k0 k1 T0 T1 z lo hh) : w.cell? ⟨lg, 0, none⟩ = some (.pointer (some ⟨bb, 0, none⟩)) ∧ w.cell? ⟨lg, 1, none⟩ = some (.int .u64 (num : Int)) ∧ w.cell? ⟨lg, 2, none⟩ = some (.int .u64 (den : Int)) ∧ w.cell? ⟨lg, 3, none⟩ = some (.int .i64 0) ∧ w.cell? ⟨lg, 4, none⟩ = some (.int .i64 (M : Int)) ∧ w.cell? ⟨lg, 5, none⟩ = some (.int .i64 lo) ∧ w.cell? ⟨lg, 6, none⟩ = some (.int .i64 hh) ∧ w.frozen? ⟨lg, 5, none⟩ = false ∧ w.frozen? ⟨lg, 6, none⟩ = false := h.cells

theorem lbins_L {M num den n : Nat} (w : World) (lg bb tb : Nat) (vl vr : Value) (ca cc : Nat) (Oa Oc : Nat → Prop) (k0 k1 : Row) (T0 T1 z : Nat) (lo hh : Int) (h : LogO false M num den n w lg bb tb vl vr ca cc Oa Oc k0 k1 T0 T1 z lo hh) :
    Calls Tryz.prog 75 #[.pointer (some ⟨lg, 0, none⟩)] w fun e w' => e = .returned (.pointer (some ⟨bb, 0, none⟩)) ∧ w = w' := by
  obtain ⟨c0, c1, c2, c3, c4, c5, c6, f5, f6⟩ := lcells_L h
  clear h
  go_enter Tryz.func75, Tryz.ntmps75
  go_wp2_with fail
  go_ret
  exact ⟨rfl, rfl⟩

theorem lconfig_L {M num den n : Nat} (w : World) (lg bb tb : Nat) (vl vr : Value) (ca cc : Nat) (Oa Oc : Nat → Prop) (k0 k1 : Row) (T0 T1 z : Nat) (lo hh : Int) (h : LogO false M num den n w lg bb tb vl vr ca cc Oa Oc k0 k1 T0 T1 z lo hh) :
    Calls Tryz.prog 223 #[.pointer (some ⟨lg, 0, none⟩)] w fun e w' => Below w.heap.size w w' ∧ e = .returned (.agg #[.int .u64 (num : Int), .int .u64 (den : Int), .int .i64 0, .int .i64 (M : Int)]) := by
  obtain ⟨c0, c1, c2, c3, c4, c5, c6, f5, f6⟩ := lcells_L h
  have hlt := h.blk.lt
  clear h
  go_enter Tryz.func223, Tryz.ntmps223
  go_wp2_with fail
  refine bodyPost_ret (v := .agg #[.int .u64 (num : Int), .int .u64 (den : Int), .int .i64 0, .int .i64 (M : Int)]) (by simp [results, Tryz.results223, go_sem]) rfl ?_
  exact ⟨(Below.refl _ w).alloc (Nat.le_refl _) _, rfl⟩

set_option maxHeartbeats 4000000 in
theorem lends_L {M num den n : Nat} (w : World) (lg bb tb : Nat) (vl vr : Value) (ca cc : Nat) (Oa Oc : Nat → Prop) (k0 k1 : Row) (T0 T1 z : Nat) (lo hh : Int) (h : LogO false M num den n w lg bb tb vl vr ca cc Oa Oc k0 k1 T0 T1 z lo hh) (hT : T0 + z + T1 ≤ 9223372036854775807) (a b : Int) :
    Calls Tryz.prog 212 #[.pointer (some ⟨lg, 0, none⟩), .int .i64 a, .int .i64 b] w fun e w' => e = .returned (.tuple #[]) ∧ LogO false M num den n w' lg bb tb vl vr ca cc Oa Oc k0 k1 T0 T1 z (loF (T0 + z + T1) lo a) (hiF (T0 + z + T1) hh b) ∧ Away (fun k => k = lg) w w' := by
  have hs := btot_L w bb tb vl vr ca cc Oa Oc k0 k1 T0 T1 z h.bn hT
  obtain ⟨c0, c1, c2, c3, c4, c5, c6, f5, f6⟩ := lcells_L h
  have FIN := Lib.hid (show ∀ (W : World) (a' b' : Int), Below w.heap.size w W → LogO false M num den n ((W.setCell ⟨lg, 5, none⟩ (.int .i64 a')).setCell ⟨lg, 6, none⟩ (.int .i64 b')) lg bb tb vl vr ca cc Oa Oc k0 k1 T0 T1 z a' b' ∧ Away (fun k => k = lg) w ((W.setCell ⟨lg, 5, none⟩ (.int .i64 a')).setCell ⟨lg, 6, none⟩ (.int .i64 b')) from fun W a' b' hbl => by
    obtain ⟨h1, h2⟩ := (h.next hbl).ends a' b'
    exact ⟨h1, (Away.of_below (F := fun k => k = lg) hbl).trans' h2 (fun _ _ h => h) (fun _ _ h => h)⟩)
  have HH := Lib.hid h
  obtain ⟨T, hTT⟩ : ∃ T, T = T0 + z + T1 := ⟨_, rfl⟩
  rw [← hTT] at hs ⊢
  clear h hT hTT c1 c2 c3 c4 c5 c6 f5 f6
  by_cases h0 : T = 0
  · have g1 : ((T : Int) == 0) = true := by simp [h0]
    have g2 : (T == 0) = true := by simp [h0]
    have e1 : loF T lo a = a := by unfold loF; rw [if_pos h0]
    have e2 : hiF T hh b = b := by unfold hiF; rw [if_pos h0]
    rw [e1, e2]
    clear h0 e1 e2
    go_enter Tryz.func212, Tryz.ntmps212
    go_wp2_with fail
    refine hs.mono ?_
    rintro e w1 ⟨rfl, b1⟩
    obtain ⟨c0, c1, c2, c3, c4, c5, c6, f5, f6⟩ := lcells_L (HH.out.next b1)
    have hF := Lib.hid (FIN.out w1 a b b1)
    clear b1 FIN hs
    go_wp2_with fail
    refine bodyPost_ret (results_none rfl _ _ _) rfl ?_
    exact ⟨rfl, hF.out⟩
  · have g1 : ((T : Int) == 0) = false := by simp [h0]
    have g2 : (T == 0) = false := by simp [h0]
    have e1 : loF T lo a = min lo a := by unfold loF; rw [if_neg h0]
    have e2 : hiF T hh b = max hh b := by unfold hiF; rw [if_neg h0]
    rw [e1, e2]
    clear h0 e1 e2
    go_enter Tryz.func212, Tryz.ntmps212
    go_wp2_with fail
    refine hs.mono ?_
    rintro e w1 ⟨rfl, b1⟩
    obtain ⟨c0, c1, c2, c3, c4, c5, c6, f5, f6⟩ := lcells_L (HH.out.next b1)
    have hF := Lib.hid (FIN.out w1.drew (min lo a) (max hh b) b1.drew)
    clear b1 FIN hs
    go_upto_region 2 with fail
    go_region
    all_goals (try go_wp2)
    all_goals go_end0
    all_goals exact ⟨rfl, hF.out⟩

theorem lends3_L {M num den n : Nat} (w : World) (lg bb tb : Nat) (vl vr : Value) (ca cc : Nat) (Oa Oc : Nat → Prop) (k0 k1 : Row) (T0 T1 z : Nat) (lo hh : Int) (h : LogO false M num den n w lg bb tb vl vr ca cc Oa Oc k0 k1 T0 T1 z lo hh) (hT : T0 + z + T1 ≤ 9223372036854775807) (h0 : T0 + z + T1 = 0 → lo = 0 ∧ hh = 0) :
    Calls Tryz.prog 208 #[.pointer (some ⟨lg, 0, none⟩)] w fun e w' => e = .returned (.tuple #[.int .i64 lo, .int .i64 hh, .bool (T0 + z + T1 != 0)]) ∧ Below w.heap.size w w' := by
  have hs := btot_L w bb tb vl vr ca cc Oa Oc k0 k1 T0 T1 z h.bn hT
  obtain ⟨c0, c1, c2, c3, c4, c5, c6, f5, f6⟩ := lcells_L h
  have HH := Lib.hid h
  obtain ⟨T, hTT⟩ : ∃ T, T = T0 + z + T1 := ⟨_, rfl⟩
  rw [← hTT] at hs h0 ⊢
  clear h hT hTT c1 c2 c3 c4 c5 c6 f5 f6
  by_cases hz : T = 0
  · obtain ⟨rfl, rfl⟩ := h0 hz
    subst hz
    clear h0
    go_enter Tryz.func208, Tryz.ntmps208
    go_wp2_with fail
    refine hs.mono ?_
    rintro e w1 ⟨rfl, b1⟩
    have HB := Lib.hid b1
    clear b1 hs
    go_wp2_with fail
    go_ret3
    exact ⟨rfl, HB.out⟩
  · have g1 : ((T : Int) == 0) = false := by simp; omega
    have g2 : (T != 0) = true := by simp; omega
    have g3 : (T == 0) = false := by simp; omega
    rw [g2]
    clear h0 g2
    go_enter Tryz.func208, Tryz.ntmps208
    go_wp2_with fail
    refine hs.mono ?_
    rintro e w1 ⟨rfl, b1⟩
    obtain ⟨c0, c1, c2, c3, c4, c5, c6, f5, f6⟩ := lcells_L (HH.out.next b1)
    have HB := Lib.hid b1
    clear b1 hs
    go_wp2_with fail
    go_quiet (fail)
    go_wp2_with fail
    go_ret3
    exact ⟨rfl, below_drewN HB.out _⟩

set_option maxHeartbeats 4000000 in
theorem lput_L {M num den n : Nat} (w : World) (lg bb tb : Nat) (vl vr : Value) (ca cc : Nat) (Oa Oc : Nat → Prop) (k0 k1 : Row) (T0 T1 z : Nat) (lo hh : Int) (h : LogO false M num den n w lg bb tb vl vr ca cc Oa Oc k0 k1 T0 T1 z lo hh) (hT : T0 + z + T1 ≤ 9223372036854775807) (x : Int) (c : Nat) (a0 a1 : Row) (A0 A1 y : Nat)
    (ha : ∀ W, BinO false M num den n W bb tb vl vr ca cc Oa Oc k0 k1 T0 T1 z → Calls Tryz.prog 213 #[.pointer (some ⟨bb, 0, none⟩), .int .i64 x, .int .u64 (c : Int)] W fun e w' => e = .returned (.int .i64 0) ∧ BinR false M num den n W bb tb vl vr ca cc Oa Oc a0 a1 A0 A1 y w') :
    Calls Tryz.prog 209 #[.pointer (some ⟨lg, 0, none⟩), .int .i64 x, .int .u64 (c : Int)] w fun e w' => e = .returned (.int .i64 0) ∧ ∃ Pa Pc, LogO false M num den n w' lg bb tb vl vr ca cc Pa Pc a0 a1 A0 A1 y (loF (T0 + z + T1) lo x) (hiF (T0 + z + T1) hh x) ∧ SubO w (OwnL lg bb tb vl vr Oa Oc) (OwnL lg bb tb vl vr Pa Pc) ∧ Away (OwnL lg bb tb vl vr Oa Oc) w w' := by
  obtain ⟨c0, c1, c2, c3, c4, c5, c6, f5, f6⟩ := lcells_L h
  have hen := Lib.hid (fun nn => lends_L (w.drewN nn) lg bb tb vl vr ca cc Oa Oc k0 k1 T0 T1 z lo hh (h.next (below_drewN (Below.refl _ _) nn)) hT x x)
  have hB0 := Lib.hid (show ∀ nn, Below w.heap.size w (w.drewN nn) from fun nn => below_drewN (Below.refl _ _) nn)
  have HA := Lib.hid ha
  clear h ha hT c0 c1 c2 c3 c4 f5 f6
  go_enter Tryz.func209, Tryz.ntmps209
  go_upto_region 3 with fail
  go_quiet (fail)
  rename_i nq
  have hen1 := hen.out nq
  clear hen c5 c6
  go_wp2_with fail
  refine hen1.mono ?_
  rintro e w1 ⟨rfl, L1, a1'⟩
  obtain ⟨c0, c1, c2, c3, c4, c5, c6, f5, f6⟩ := lcells_L L1
  have hadd := HA.out w1 L1.bn
  have H1 := Lib.hid (And.intro L1 ((Away.of_below (F := fun k => k = lg) (hB0.out nq)).trans' a1' (fun _ _ h => h) (fun _ _ h => h)))
  clear hen1 L1 a1' hB0 HA c1 c2 c3 c4 c5 c6 f5 f6
  go_wp2_with fail
  refine hadd.mono ?_
  rintro e w2 ⟨rfl, r2⟩
  have HR := Lib.hid (show ∃ Pa Pc, LogO false M num den n w2 lg bb tb vl vr ca cc Pa Pc a0 a1 A0 A1 y (loF (T0 + z + T1) lo x) (hiF (T0 + z + T1) hh x) ∧ SubO w (OwnL lg bb tb vl vr Oa Oc) (OwnL lg bb tb vl vr Pa Pc) ∧ Away (OwnL lg bb tb vl vr Oa Oc) w w2 from by
    obtain ⟨L1, A1'⟩ := H1.out
    obtain ⟨Pa, Pc, p1, p2, p3⟩ := L1.bins r2
    exact ⟨Pa, Pc, p1, sub_trans (fun j hj => .inl hj) (A1'.mono fun j _ e => .inl e) p2 p3⟩)
  clear hadd r2 H1
  go_wp2_with fail
  go_ret
  exact ⟨rfl, HR.out⟩

set_option maxHeartbeats 4000000 in
theorem lput_none_L {M num den n : Nat} (w : World) (lg bb tb : Nat) (vl vr : Value) (ca cc : Nat) (Oa Oc : Nat → Prop) (k0 k1 : Row) (T0 T1 z : Nat) (lo hh : Int) (h : LogO false M num den n w lg bb tb vl vr ca cc Oa Oc k0 k1 T0 T1 z lo hh) (hT : T0 + z + T1 ≤ 9223372036854775807) (x : Int) :
    Calls Tryz.prog 209 #[.pointer (some ⟨lg, 0, none⟩), .int .i64 x, .int .u64 0] w fun e w' => e = .returned (.int .i64 1) ∧ LogO false M num den n w' lg bb tb vl vr ca cc Oa Oc k0 k1 T0 T1 z lo hh ∧ Away (fun k => k = lg) w w' := by
  obtain ⟨c0, c1, c2, c3, c4, c5, c6, f5, f6⟩ := lcells_L h
  have hen := Lib.hid (fun nn => lends_L (w.drewN nn) lg bb tb vl vr ca cc Oa Oc k0 k1 T0 T1 z lo hh (h.next (below_drewN (Below.refl _ _) nn)) hT x x)
  have hB0 := Lib.hid (show ∀ nn, Below w.heap.size w (w.drewN nn) from fun nn => below_drewN (Below.refl _ _) nn)
  have hadd := fun W => badd_none_L W bb x
  clear h hT c0 c1 c2 c3 c4 f5 f6
  go_enter Tryz.func209, Tryz.ntmps209
  go_upto_region 3 with fail
  go_quiet (fail)
  rename_i nq
  have hen1 := hen.out nq
  clear hen c5 c6
  go_wp2_with fail
  refine hen1.mono ?_
  rintro e w1 ⟨rfl, L1, a1'⟩
  obtain ⟨c0, c1, c2, c3, c4, c5, c6, f5, f6⟩ := lcells_L L1
  have HR := Lib.hid (show LogO false M num den n ((w1.setCell ⟨lg, 5, none⟩ (.int .i64 lo)).setCell ⟨lg, 6, none⟩ (.int .i64 hh)) lg bb tb vl vr ca cc Oa Oc k0 k1 T0 T1 z lo hh ∧ Away (fun k => k = lg) w ((w1.setCell ⟨lg, 5, none⟩ (.int .i64 lo)).setCell ⟨lg, 6, none⟩ (.int .i64 hh)) from by
    obtain ⟨p1, p2⟩ := L1.ends lo hh
    exact ⟨p1, ((Away.of_below (F := fun k => k = lg) (hB0.out nq)).trans' a1' (fun _ _ h => h) (fun _ _ h => h)).trans' p2 (fun _ _ h => h) (fun _ _ h => h)⟩)
  clear hen1 L1 a1' hB0 c1 c2 c3 c4
  go_wp2_with fail
  refine (hadd _).mono ?_
  rintro e w2 ⟨rfl, rfl⟩
  clear hadd
  go_wp2_with fail
  go_ret
  exact ⟨rfl, HR.out⟩

theorem lcells_H {M num den n : Nat} {w : World} {lg bb tb : Nat} {vl vr : Value} {ca cc : Nat} {Oa Oc : Nat → Prop} {k0 k1 : Row} {T0 T1 z : Nat} {lo hh : Int} (h : LogO true M num den n w lg bb tb vl vr ca cc Oa Oc k0 k1 T0 T1 z lo hh) : w.cell? ⟨lg, 0, none⟩ = some (.pointer (some ⟨bb, 0, none⟩)) ∧ w.cell? ⟨lg, 1, none⟩ = some (.int .u64 (num : Int)) ∧ w.cell? ⟨lg, 2, none⟩ = some (.int .u64 (den : Int)) ∧ w.cell? ⟨lg, 3, none⟩ = some (.int .i64 1) ∧ w.cell? ⟨lg, 4, none⟩ = some (.int .i64 (M : Int)) ∧ w.cell? ⟨lg, 5, none⟩ = some (.int .i64 lo) ∧ w.cell? ⟨lg, 6, none⟩ = some (.int .i64 hh) ∧ w.frozen? ⟨lg, 5, none⟩ = false ∧ w.frozen? ⟨lg, 6, none⟩ = false := h.cells

theorem lbins_H {M num den n : Nat} (w : World) (lg bb tb : Nat) (vl vr : Value) (ca cc : Nat) (Oa Oc : Nat → Prop) (k0 k1 : Row) (T0 T1 z : Nat) (lo hh : Int) (h : LogO true M num den n w lg bb tb vl vr ca cc Oa Oc k0 k1 T0 T1 z lo hh) :
    Calls Tryz.prog 75 #[.pointer (some ⟨lg, 0, none⟩)] w fun e w' => e = .returned (.pointer (some ⟨bb, 0, none⟩)) ∧ w = w' := by
  obtain ⟨c0, c1, c2, c3, c4, c5, c6, f5, f6⟩ := lcells_H h
  clear h
  go_enter Tryz.func75, Tryz.ntmps75
  go_wp2_with fail
  go_ret
  exact ⟨rfl, rfl⟩

theorem lconfig_H {M num den n : Nat} (w : World) (lg bb tb : Nat) (vl vr : Value) (ca cc : Nat) (Oa Oc : Nat → Prop) (k0 k1 : Row) (T0 T1 z : Nat) (lo hh : Int) (h : LogO true M num den n w lg bb tb vl vr ca cc Oa Oc k0 k1 T0 T1 z lo hh) :
    Calls Tryz.prog 223 #[.pointer (some ⟨lg, 0, none⟩)] w fun e w' => Below w.heap.size w w' ∧ e = .returned (.agg #[.int .u64 (num : Int), .int .u64 (den : Int), .int .i64 1, .int .i64 (M : Int)]) := by
  obtain ⟨c0, c1, c2, c3, c4, c5, c6, f5, f6⟩ := lcells_H h
  have hlt := h.blk.lt
  clear h
  go_enter Tryz.func223, Tryz.ntmps223
  go_wp2_with fail
  refine bodyPost_ret (v := .agg #[.int .u64 (num : Int), .int .u64 (den : Int), .int .i64 1, .int .i64 (M : Int)]) (by simp [results, Tryz.results223, go_sem]) rfl ?_
  exact ⟨(Below.refl _ w).alloc (Nat.le_refl _) _, rfl⟩

set_option maxHeartbeats 4000000 in
theorem lends_H {M num den n : Nat} (w : World) (lg bb tb : Nat) (vl vr : Value) (ca cc : Nat) (Oa Oc : Nat → Prop) (k0 k1 : Row) (T0 T1 z : Nat) (lo hh : Int) (h : LogO true M num den n w lg bb tb vl vr ca cc Oa Oc k0 k1 T0 T1 z lo hh) (hT : T0 + z + T1 ≤ 9223372036854775807) (a b : Int) :
    Calls Tryz.prog 212 #[.pointer (some ⟨lg, 0, none⟩), .int .i64 a, .int .i64 b] w fun e w' => e = .returned (.tuple #[]) ∧ LogO true M num den n w' lg bb tb vl vr ca cc Oa Oc k0 k1 T0 T1 z (loF (T0 + z + T1) lo a) (hiF (T0 + z + T1) hh b) ∧ Away (fun k => k = lg) w w' := by
  have hs := btot_H w bb tb vl vr ca cc Oa Oc k0 k1 T0 T1 z h.bn hT
  obtain ⟨c0, c1, c2, c3, c4, c5, c6, f5, f6⟩ := lcells_H h
  have FIN := Lib.hid (show ∀ (W : World) (a' b' : Int), Below w.heap.size w W → LogO true M num den n ((W.setCell ⟨lg, 5, none⟩ (.int .i64 a')).setCell ⟨lg, 6, none⟩ (.int .i64 b')) lg bb tb vl vr ca cc Oa Oc k0 k1 T0 T1 z a' b' ∧ Away (fun k => k = lg) w ((W.setCell ⟨lg, 5, none⟩ (.int .i64 a')).setCell ⟨lg, 6, none⟩ (.int .i64 b')) from fun W a' b' hbl => by
    obtain ⟨h1, h2⟩ := (h.next hbl).ends a' b'
    exact ⟨h1, (Away.of_below (F := fun k => k = lg) hbl).trans' h2 (fun _ _ h => h) (fun _ _ h => h)⟩)
  have HH := Lib.hid h
  obtain ⟨T, hTT⟩ : ∃ T, T = T0 + z + T1 := ⟨_, rfl⟩
  rw [← hTT] at hs ⊢
  clear h hT hTT c1 c2 c3 c4 c5 c6 f5 f6
  by_cases h0 : T = 0
  · have g1 : ((T : Int) == 0) = true := by simp [h0]
    have g2 : (T == 0) = true := by simp [h0]
    have e1 : loF T lo a = a := by unfold loF; rw [if_pos h0]
    have e2 : hiF T hh b = b := by unfold hiF; rw [if_pos h0]
    rw [e1, e2]
    clear h0 e1 e2
    go_enter Tryz.func212, Tryz.ntmps212
    go_wp2_with fail
    refine hs.mono ?_
    rintro e w1 ⟨rfl, b1⟩
    obtain ⟨c0, c1, c2, c3, c4, c5, c6, f5, f6⟩ := lcells_H (HH.out.next b1)
    have hF := Lib.hid (FIN.out w1 a b b1)
    clear b1 FIN hs
    go_wp2_with fail
    refine bodyPost_ret (results_none rfl _ _ _) rfl ?_
    exact ⟨rfl, hF.out⟩
  · have g1 : ((T : Int) == 0) = false := by simp [h0]
    have g2 : (T == 0) = false := by simp [h0]
    have e1 : loF T lo a = min lo a := by unfold loF; rw [if_neg h0]
    have e2 : hiF T hh b = max hh b := by unfold hiF; rw [if_neg h0]
    rw [e1, e2]
    clear h0 e1 e2
    go_enter Tryz.func212, Tryz.ntmps212
    go_wp2_with fail
    refine hs.mono ?_
    rintro e w1 ⟨rfl, b1⟩
    obtain ⟨c0, c1, c2, c3, c4, c5, c6, f5, f6⟩ := lcells_H (HH.out.next b1)
    have hF := Lib.hid (FIN.out w1.drew (min lo a) (max hh b) b1.drew)
    clear b1 FIN hs
    go_upto_region 2 with fail
    go_region
    all_goals (try go_wp2)
    all_goals go_end0
    all_goals exact ⟨rfl, hF.out⟩

theorem lends3_H {M num den n : Nat} (w : World) (lg bb tb : Nat) (vl vr : Value) (ca cc : Nat) (Oa Oc : Nat → Prop) (k0 k1 : Row) (T0 T1 z : Nat) (lo hh : Int) (h : LogO true M num den n w lg bb tb vl vr ca cc Oa Oc k0 k1 T0 T1 z lo hh) (hT : T0 + z + T1 ≤ 9223372036854775807) (h0 : T0 + z + T1 = 0 → lo = 0 ∧ hh = 0) :
    Calls Tryz.prog 208 #[.pointer (some ⟨lg, 0, none⟩)] w fun e w' => e = .returned (.tuple #[.int .i64 lo, .int .i64 hh, .bool (T0 + z + T1 != 0)]) ∧ Below w.heap.size w w' := by
  have hs := btot_H w bb tb vl vr ca cc Oa Oc k0 k1 T0 T1 z h.bn hT
  obtain ⟨c0, c1, c2, c3, c4, c5, c6, f5, f6⟩ := lcells_H h
  have HH := Lib.hid h
  obtain ⟨T, hTT⟩ : ∃ T, T = T0 + z + T1 := ⟨_, rfl⟩
  rw [← hTT] at hs h0 ⊢
  clear h hT hTT c1 c2 c3 c4 c5 c6 f5 f6
  by_cases hz : T = 0
  · obtain ⟨rfl, rfl⟩ := h0 hz
    subst hz
    clear h0
    go_enter Tryz.func208, Tryz.ntmps208
    go_wp2_with fail
    refine hs.mono ?_
    rintro e w1 ⟨rfl, b1⟩
    have HB := Lib.hid b1
    clear b1 hs
    go_wp2_with fail
    go_ret3
    exact ⟨rfl, HB.out⟩
  · have g1 : ((T : Int) == 0) = false := by simp; omega
    have g2 : (T != 0) = true := by simp; omega
    have g3 : (T == 0) = false := by simp; omega
    rw [g2]
    clear h0 g2
    go_enter Tryz.func208, Tryz.ntmps208
    go_wp2_with fail
    refine hs.mono ?_
    rintro e w1 ⟨rfl, b1⟩
    obtain ⟨c0, c1, c2, c3, c4, c5, c6, f5, f6⟩ := lcells_H (HH.out.next b1)
    have HB := Lib.hid b1
    clear b1 hs
    go_wp2_with fail
    go_quiet (fail)
    go_wp2_with fail
    go_ret3
    exact ⟨rfl, below_drewN HB.out _⟩

set_option maxHeartbeats 4000000 in
theorem lput_H {M num den n : Nat} (w : World) (lg bb tb : Nat) (vl vr : Value) (ca cc : Nat) (Oa Oc : Nat → Prop) (k0 k1 : Row) (T0 T1 z : Nat) (lo hh : Int) (h : LogO true M num den n w lg bb tb vl vr ca cc Oa Oc k0 k1 T0 T1 z lo hh) (hT : T0 + z + T1 ≤ 9223372036854775807) (x : Int) (c : Nat) (a0 a1 : Row) (A0 A1 y : Nat)
    (ha : ∀ W, BinO true M num den n W bb tb vl vr ca cc Oa Oc k0 k1 T0 T1 z → Calls Tryz.prog 213 #[.pointer (some ⟨bb, 0, none⟩), .int .i64 x, .int .u64 (c : Int)] W fun e w' => e = .returned (.int .i64 0) ∧ BinR true M num den n W bb tb vl vr ca cc Oa Oc a0 a1 A0 A1 y w') :
    Calls Tryz.prog 209 #[.pointer (some ⟨lg, 0, none⟩), .int .i64 x, .int .u64 (c : Int)] w fun e w' => e = .returned (.int .i64 0) ∧ ∃ Pa Pc, LogO true M num den n w' lg bb tb vl vr ca cc Pa Pc a0 a1 A0 A1 y (loF (T0 + z + T1) lo x) (hiF (T0 + z + T1) hh x) ∧ SubO w (OwnL lg bb tb vl vr Oa Oc) (OwnL lg bb tb vl vr Pa Pc) ∧ Away (OwnL lg bb tb vl vr Oa Oc) w w' := by
  obtain ⟨c0, c1, c2, c3, c4, c5, c6, f5, f6⟩ := lcells_H h
  have hen := Lib.hid (fun nn => lends_H (w.drewN nn) lg bb tb vl vr ca cc Oa Oc k0 k1 T0 T1 z lo hh (h.next (below_drewN (Below.refl _ _) nn)) hT x x)
  have hB0 := Lib.hid (show ∀ nn, Below w.heap.size w (w.drewN nn) from fun nn => below_drewN (Below.refl _ _) nn)
  have HA := Lib.hid ha
  clear h ha hT c0 c1 c2 c3 c4 f5 f6
  go_enter Tryz.func209, Tryz.ntmps209
  go_upto_region 3 with fail
  go_quiet (fail)
  rename_i nq
  have hen1 := hen.out nq
  clear hen c5 c6
  go_wp2_with fail
  refine hen1.mono ?_
  rintro e w1 ⟨rfl, L1, a1'⟩
  obtain ⟨c0, c1, c2, c3, c4, c5, c6, f5, f6⟩ := lcells_H L1
  have hadd := HA.out w1 L1.bn
  have H1 := Lib.hid (And.intro L1 ((Away.of_below (F := fun k => k = lg) (hB0.out nq)).trans' a1' (fun _ _ h => h) (fun _ _ h => h)))
  clear hen1 L1 a1' hB0 HA c1 c2 c3 c4 c5 c6 f5 f6
  go_wp2_with fail
  refine hadd.mono ?_
  rintro e w2 ⟨rfl, r2⟩
  have HR := Lib.hid (show ∃ Pa Pc, LogO true M num den n w2 lg bb tb vl vr ca cc Pa Pc a0 a1 A0 A1 y (loF (T0 + z + T1) lo x) (hiF (T0 + z + T1) hh x) ∧ SubO w (OwnL lg bb tb vl vr Oa Oc) (OwnL lg bb tb vl vr Pa Pc) ∧ Away (OwnL lg bb tb vl vr Oa Oc) w w2 from by
    obtain ⟨L1, A1'⟩ := H1.out
    obtain ⟨Pa, Pc, p1, p2, p3⟩ := L1.bins r2
    exact ⟨Pa, Pc, p1, sub_trans (fun j hj => .inl hj) (A1'.mono fun j _ e => .inl e) p2 p3⟩)
  clear hadd r2 H1
  go_wp2_with fail
  go_ret
  exact ⟨rfl, HR.out⟩

set_option maxHeartbeats 4000000 in
theorem lput_none_H {M num den n : Nat} (w : World) (lg bb tb : Nat) (vl vr : Value) (ca cc : Nat) (Oa Oc : Nat → Prop) (k0 k1 : Row) (T0 T1 z : Nat) (lo hh : Int) (h : LogO true M num den n w lg bb tb vl vr ca cc Oa Oc k0 k1 T0 T1 z lo hh) (hT : T0 + z + T1 ≤ 9223372036854775807) (x : Int) :
    Calls Tryz.prog 209 #[.pointer (some ⟨lg, 0, none⟩), .int .i64 x, .int .u64 0] w fun e w' => e = .returned (.int .i64 1) ∧ LogO true M num den n w' lg bb tb vl vr ca cc Oa Oc k0 k1 T0 T1 z lo hh ∧ Away (fun k => k = lg) w w' := by
  obtain ⟨c0, c1, c2, c3, c4, c5, c6, f5, f6⟩ := lcells_H h
  have hen := Lib.hid (fun nn => lends_H (w.drewN nn) lg bb tb vl vr ca cc Oa Oc k0 k1 T0 T1 z lo hh (h.next (below_drewN (Below.refl _ _) nn)) hT x x)
  have hB0 := Lib.hid (show ∀ nn, Below w.heap.size w (w.drewN nn) from fun nn => below_drewN (Below.refl _ _) nn)
  have hadd := fun W => badd_none_H W bb x
  clear h hT c0 c1 c2 c3 c4 f5 f6
  go_enter Tryz.func209, Tryz.ntmps209
  go_upto_region 3 with fail
  go_quiet (fail)
  rename_i nq
  have hen1 := hen.out nq
  clear hen c5 c6
  go_wp2_with fail
  refine hen1.mono ?_
  rintro e w1 ⟨rfl, L1, a1'⟩
  obtain ⟨c0, c1, c2, c3, c4, c5, c6, f5, f6⟩ := lcells_H L1
  have HR := Lib.hid (show LogO true M num den n ((w1.setCell ⟨lg, 5, none⟩ (.int .i64 lo)).setCell ⟨lg, 6, none⟩ (.int .i64 hh)) lg bb tb vl vr ca cc Oa Oc k0 k1 T0 T1 z lo hh ∧ Away (fun k => k = lg) w ((w1.setCell ⟨lg, 5, none⟩ (.int .i64 lo)).setCell ⟨lg, 6, none⟩ (.int .i64 hh)) from by
    obtain ⟨p1, p2⟩ := L1.ends lo hh
    exact ⟨p1, ((Away.of_below (F := fun k => k = lg) (hB0.out nq)).trans' a1' (fun _ _ h => h) (fun _ _ h => h)).trans' p2 (fun _ _ h => h) (fun _ _ h => h)⟩)
  clear hen1 L1 a1' hB0 c1 c2 c3 c4
  go_wp2_with fail
  refine (hadd _).mono ?_
  rintro e w2 ⟨rfl, rfl⟩
  clear hadd
  go_wp2_with fail
  go_ret
  exact ⟨rfl, HR.out⟩
end Go.Proofs.YtbejdajkkoapgaaGreatDoor

