/-
  Several texts in one: Tg, Lay, Td, Qn. What each proves, and on which conditions, stands at its head. Conditions: stated in each.
-/
import Derived.Test.YtbejdajkkoapgaaGreatDoorJ08
import Derived.Sort.Grow
import Derived.Test.YtbejdajkkoapgaaGreatDoorJ01
import Derived.Lib.SliceRun
import Derived.Deep.Cut
import Derived.Shelf.SlSortCmp.WholeK
import Derived.Test.YtbejdajkkoapgaaGreatDoorRows
import Derived.Test.YtbejdajkkoapgaaGreatDoorJ11
import Derived.Test.YtbejdajkkoapgaaGreatDoorJ07
/-
  Contracts of the tree's functions that the order of nodes is told by, once more: besides what they answer, how far the world has gone on: draws, and new blocks. Conditions: a depth from 1 to 24.
-/
set_option linter.unusedVariables false
set_option linter.unusedSimpArgs false
namespace Go.Proofs.YtbejdajkkoapgaaGreatDoor.Tg
open Go.RowKit Go.Lib
open Tr (pw pw_bd pw_wrap goodB goodB_iff goodB_no levV levV_bd lenV lenV_bd len_any ret_int ret_bool lowV highV widV lowV_good highV_good range_bd level_is beforeB)

structure Bd (B : Nat) (w w' : World) : Prop extends Below B w w' where
  drawn : w.drawn ≤ w'.drawn
theorem Bd.refl (B : Nat) (w : World) : Bd B w w := ⟨Below.refl B w, Nat.le_refl _⟩
theorem Bd.trans {B : Nat} {a b c : World} (h : Bd B a b) (k : Bd B b c) : Bd B a c := ⟨h.toBelow.trans k.toBelow, Nat.le_trans h.drawn k.drawn⟩
theorem Bd.mono {B B' : Nat} {w w' : World} (h : Bd B w w') (hB : B' ≤ B) : Bd B' w w' := ⟨h.toBelow.mono hB, h.drawn⟩
theorem Bd.drew {B : Nat} {a w : World} (h : Bd B a w) : Bd B a w.drew := ⟨h.toBelow.drew, Nat.le_trans h.drawn (Nat.le_succ _)⟩
theorem Bd.drewN {B : Nat} {a w : World} (h : Bd B a w) (n : Nat) : Bd B a (w.drewN n) := ⟨⟨h.os, h.tape, h.output, h.size, h.block⟩, Nat.le_trans h.drawn (Nat.le_add_right _ _)⟩
theorem Bd.alloc {B : Nat} {a w : World} (h : Bd B a w) (hB : B ≤ w.heap.size) (o : Obj) : Bd B a (w.alloc o) := ⟨h.toBelow.alloc hB o, h.drawn⟩
theorem bcellG {W w1 : World} {B : Nat} (hb : Bd B W w1) : (∀ b o, b < B → w1.cell? ⟨b, o, none⟩ = W.cell? ⟨b, o, none⟩) ∧ (∀ b o, b < B → w1.frozen? ⟨b, o, none⟩ = W.frozen? ⟨b, o, none⟩) :=
  ⟨fun b o h => hb.toBelow.cell (p := ⟨b, o, none⟩) h, fun b o h => hb.toBelow.frozen (p := ⟨b, o, none⟩) h⟩
/-- so the world is the old one, some draws on, some blocks behind -/
theorem Bd.grow {w w' : World} (h : Bd w.heap.size w w') : ∃ q os', w' = Go.Sort.grow (w.drewN q) os' := by
  refine ⟨w'.drawn - w.drawn, w'.heap.extract w.heap.size w'.heap.size, ?_⟩
  have hh : w'.heap = w.heap ++ w'.heap.extract w.heap.size w'.heap.size := by
    apply Array.ext_getElem?
    intro i
    by_cases hi : i < w.heap.size
    · rw [Array.getElem?_append_left hi]; exact h.block i hi
    · rw [Array.getElem?_append_right (by omega), Array.getElem?_extract]
      by_cases hj : i < w'.heap.size
      · rw [if_pos (by omega)]; congr 1; omega
      · rw [if_neg (by omega)]; exact Array.getElem?_eq_none (by omega)
  have hd : w.drawn + (w'.drawn - w.drawn) = w'.drawn := by have := h.drawn; omega
  cases w' with
  | mk heap tape drawn os output =>
    have e1 := h.os
    have e2 := h.tape
    have e3 := h.output
    simp only at e1 e2 e3 hh hd
    show (⟨heap, tape, drawn, os, output⟩ : World) = ⟨w.heap ++ heap.extract w.heap.size heap.size, w.tape, w.drawn + (drawn - w.drawn), w.os, w.output⟩
    rw [hd, ← hh, e1, e2, e3]
theorem leaves_any (d : Int) (w : World) (h : 1 ≤ d) (h' : d ≤ 24) :
    Calls Tryz.prog 97 #[.agg #[.int .i64 d]] w fun e w' => e = .returned (.int .i64 (pw d)) ∧ Bd w.heap.size w w' := by
  have e := pw_wrap d h h'
  go_enter Tryz.func97, Tryz.ntmps97
  go_wp2
  go_ret
  exact ⟨ret_int e, (Bd.refl _ _).alloc (Nat.le_refl _) _⟩

/-- can a node be -/
theorem good_any (d v : Int) (w : World) (h : 1 ≤ d) (h' : d ≤ 24) :
    Calls Tryz.prog 96 #[.agg #[.int .i64 d], .int .i64 v] w fun e w' => e = .returned (.bool (goodB d v)) ∧ Bd w.heap.size w w' := by
  have ⟨p1, p2⟩ := pw_bd d h h'
  by_cases hv : 1 ≤ v
  · have Fin := Lib.hid (show decide (v < 2 * pw d) = goodB d v by unfold goodB; simp [hv])
    go_enter Tryz.func96, Tryz.ntmps96
    go_wp2_with (go_at_call 97; refine (leaves_any _ _ (by omega) (by omega)).mono ?_; rintro e w' ⟨rfl, hb⟩)
    go_ret
    exact ⟨ret_bool Fin.out, ((Bd.refl _ _).alloc (Nat.le_refl _) _).trans (hb.mono (by simp))⟩
  · have Fin := Lib.hid (show false = goodB d v by unfold goodB; simp [hv])
    go_enter Tryz.func96, Tryz.ntmps96
    go_wp2
    go_ret
    exact ⟨ret_bool Fin.out, (Bd.refl _ _).alloc (Nat.le_refl _) _⟩

/-- a value's node -/
theorem level_any (d v : Int) (w : World) (h : 1 ≤ d) (h' : d ≤ 24) :
    Calls Tryz.prog 184 #[.agg #[.int .i64 d], .int .i64 v] w fun e w' => e = .returned (.int .i64 (levV d v)) ∧ Bd w.heap.size w w' := by
  cases hg : goodB d v
  · have e2 : levV d v = -1 := by unfold levV; rw [hg]; rfl
    rw [e2]; clear e2
    go_enter Tryz.func184, Tryz.ntmps184
    go_wp2_with (go_at_call 96; refine (good_any _ _ _ (by omega) (by omega)).mono ?_; rintro e w' ⟨rfl, hb⟩)
    go_ret
    exact ⟨rfl, ((Bd.refl _ _).alloc (Nat.le_refl _) _).trans (hb.mono (by simp))⟩
  · have e2 : levV d v = lenV v - 1 := by unfold levV; rw [hg]; rfl
    have ⟨p1, p2⟩ := pw_bd d h h'
    have ⟨g1, g2⟩ := (goodB_iff d v).1 hg
    have ⟨l1, l2⟩ := lenV_bd v (by omega)
    rw [e2]; clear e2
    go_enter Tryz.func184, Tryz.ntmps184
    go_wp2_with (first | (go_at_call 96; refine (good_any _ _ _ (by omega) (by omega)).mono ?_; rintro e w' ⟨rfl, hb⟩) | (go_at_call 191; refine (len_any _ _ (by omega) (by omega)).mono ?_; rintro e w' ⟨rfl, rfl⟩))
    go_ret
    exact ⟨rfl, ((Bd.refl _ _).alloc (Nat.le_refl _) _).trans (hb.mono (by simp))⟩

theorem kp1 {w w1 : World} {x : Value} (h1 : w1.cell? ⟨w.heap.size, 0, none⟩ = some x) (h2 : Bd w.heap.size w w1) (h3 : w.heap.size < w1.heap.size) :
    w1.drew.cell? ⟨w.heap.size, 0, none⟩ = some x ∧ Bd w.heap.size w w1.drew ∧ w.heap.size < w1.drew.heap.size := ⟨h1, h2.drew, h3⟩
theorem kp2 {w W w1 : World} {x : Value} (hb : Bd W.heap.size W w1) (h : W.cell? ⟨w.heap.size, 0, none⟩ = some x ∧ Bd w.heap.size w W ∧ w.heap.size < W.heap.size) :
    w1.cell? ⟨w.heap.size, 0, none⟩ = some x ∧ Bd w.heap.size w w1 ∧ w.heap.size < w1.heap.size :=
  ⟨by rw [hb.cell (p := ⟨w.heap.size, 0, none⟩) h.2.2]; exact h.1, h.2.1.trans (hb.mono (Nat.le_of_lt h.2.2)), Nat.lt_of_lt_of_le h.2.2 hb.size⟩

theorem range_any (d v : Int) (w : World) (h : 1 ≤ d) (h' : d ≤ 24) :
    Calls Tryz.prog 176 #[.agg #[.int .i64 d], .int .i64 v] w fun e w' => e = .returned (.tuple #[.int .i64 (lowV d v), .int .i64 (highV d v)]) ∧ Bd w.heap.size w w' := by
  cases hg : goodB d v
  · have e1 : lowV d v = 0 := by unfold lowV; rw [hg]; rfl
    have e2 : highV d v = 0 := by unfold highV; rw [hg]; rfl
    have e3 : levV d v = -1 := by unfold levV; rw [hg]; rfl
    rw [e1, e2]; clear e1 e2
    go_enter Tryz.func176, Tryz.ntmps176
    go_wp2_with (go_at_call 184; refine (level_any _ _ _ (by omega) (by omega)).mono ?_; rintro e w' ⟨rfl, hb⟩)
    go_ret2
    exact ⟨rfl, ((Bd.refl _ _).alloc (Nat.le_refl _) _).trans (hb.mono (by simp))⟩
  · obtain ⟨k, hk, hkd, k1, k2⟩ := level_is d v h h' hg
    have ⟨g1, g2⟩ := (goodB_iff d v).1 hg
    have ⟨p1, p2⟩ := pw_bd d h h'
    have L0 : 0 ≤ levV d v := by omega
    have L1 : levV d v ≤ d := by omega
    have HK := Lib.hid hk
    clear hk
    have ⟨b1, b2, b3, b4⟩ := range_bd d v h h' hg
    have f1 : IntKind.i64.wrap (v * 2 ^ (d - levV d v).toNat) = v * widV d v := by
      have e := lowV_good hg
      show IntKind.i64.wrap (v * widV d v) = _
      rw [IntKind.wrap_i64]; omega
    have f2 : IntKind.i64.wrap (v * widV d v - pw d) = lowV d v := by
      have e := lowV_good hg
      rw [IntKind.wrap_i64]; omega
    have f3 : IntKind.i64.wrap (2 ^ (d - levV d v).toNat) = widV d v := by
      show IntKind.i64.wrap (widV d v) = _
      rw [IntKind.wrap_i64]; omega
    have f4 : IntKind.i64.wrap (lowV d v + widV d v) = lowV d v + widV d v := by rw [IntKind.wrap_i64]; omega
    have f5 : IntKind.i64.wrap (lowV d v + widV d v - 1) = lowV d v + widV d v - 1 := by rw [IntKind.wrap_i64]; omega
    have Fin := Lib.hid (highV_good hg)
    go_enter Tryz.func176, Tryz.ntmps176
    go_wp2_with fail
    refine (level_any _ _ _ (by omega) (by omega)).mono ?_
    rintro e w1 ⟨rfl, hb⟩
    obtain ⟨hc, hf⟩ := bcellG hb
    have hz : w.heap.size < w1.heap.size := by have := hb.size; simp at this; omega
    go_wp2_with fail
    have c0 : w1.cell? ⟨w.heap.size, 0, none⟩ = some (.int .i64 d) := by rw [hc _ _ (by simp)]; simp
    have B1 : Bd w.heap.size w w1 := ((Bd.refl _ _).alloc (Nat.le_refl _) _).trans (hb.mono (by simp))
    clear hc hf hb
    have C0 := Lib.hid (kp1 c0 B1 hz)
    go_region_held3 (fun w' => w'.cell? ⟨w.heap.size, 0, none⟩ = some (.int .i64 d) ∧ Bd w.heap.size w w' ∧ w.heap.size < w'.heap.size) (first | exact C0.out | exact kp2 (by assumption) C0.out | exact kp2 (by assumption) (by assumption))
      (first
        | (go_at_call 97; refine (leaves_any _ _ (by omega) (by omega)).mono ?_; rintro e w' ⟨rfl, hb⟩))
    have hS : w'.cell? ⟨w.heap.size, 0, none⟩ = some (.int .i64 d) ∧ Bd w.heap.size w w' ∧ w.heap.size < w'.heap.size := by assumption
    go_wp2
    go_quiet (fail)
    go_wp2
    go_ret2
    exact ⟨by rw [Fin.out]; rfl, Bd.drewN hS.2.1 _⟩

/-- whether one node lies above another one, or is it -/
theorem before_any (d v u : Int) (w : World) (h : 1 ≤ d) (h' : d ≤ 24) :
    Calls Tryz.prog 183 #[.agg #[.int .i64 d], .int .i64 v, .int .i64 u] w fun e w' => e = .returned (.bool (beforeB d v u)) ∧ Bd w.heap.size w w' := by
  go_enter Tryz.func183, Tryz.ntmps183
  go_wp2_with fail
  refine (range_any _ _ _ (by omega) (by omega)).mono ?_
  rintro e w1 ⟨rfl, hb1⟩
  obtain ⟨hc1, hf1⟩ := bcellG hb1
  go_wp2_with fail
  refine (range_any _ _ _ (by omega) (by omega)).mono ?_
  rintro e w2 ⟨rfl, hb2⟩
  have hB : Bd w.heap.size w w2 := (((Bd.refl _ _).alloc (Nat.le_refl _) _).trans (hb1.mono (by simp))).trans (hb2.mono (by have := hb1.size; simp at this; omega))
  go_wp2
  all_goals
    go_ret
    exact ⟨ret_bool (by unfold beforeB; simp [*]), hB⟩


/-- the digest's tree and its pointer are there -/
structure TdC (w : World) (bx db d : Nat) (ba bb : Nat) (ia ib : Nat) (W : World) : Prop where
  below : Bd w.heap.size w W
  p : W.cell? ⟨bx, 0, none⟩ = some (.pointer (some ⟨db, 0, none⟩))
  t : W.cell? ⟨db, 2, none⟩ = some (.int .i64 (d : Int))
  a : W.cell? ⟨ba, 0, none⟩ = some (.int .i64 (ia : Int))
  b : W.cell? ⟨bb, 0, none⟩ = some (.int .i64 (ib : Int))
theorem TdC.next {w W W' : World} {bx db d ba bb ia ib : Nat} (h : TdC w bx db d ba bb ia ib W) (hb : Bd W.heap.size W W') : TdC w bx db d ba bb ia ib W' :=
  ⟨h.below.trans (hb.mono h.below.size), (hb.toBelow.cell (p := ⟨bx, 0, none⟩) (block_lt_of_cell (a := ⟨bx, 0, none⟩) h.p)).trans h.p, (hb.toBelow.cell (p := ⟨db, 2, none⟩) (block_lt_of_cell (a := ⟨db, 2, none⟩) h.t)).trans h.t,
    (hb.toBelow.cell (p := ⟨ba, 0, none⟩) (block_lt_of_cell (a := ⟨ba, 0, none⟩) h.a)).trans h.a, (hb.toBelow.cell (p := ⟨bb, 0, none⟩) (block_lt_of_cell (a := ⟨bb, 0, none⟩) h.b)).trans h.b⟩
theorem TdC.drew {w W : World} {bx db d ba bb ia ib : Nat} (h : TdC w bx db d ba bb ia ib W) : TdC w bx db d ba bb ia ib W.drew := ⟨h.below.drew, h.p, h.t, h.a, h.b⟩

/-- the comparison of two nodes -/
theorem cmp_any (w : World) (bx db d : Nat) (x y : Nat × Nat) (h : 1 ≤ d) (h' : d ≤ 24) (hx : 1 ≤ x.1) (hx' : x.1 < 2 * 2 ^ d) (hy : 1 ≤ y.1) (hy' : y.1 < 2 * 2 ^ d)
    (hp : w.cell? ⟨bx, 0, none⟩ = some (.pointer (some ⟨db, 0, none⟩))) (ht : w.cell? ⟨db, 2, none⟩ = some (.int .i64 (d : Int))) :
    Calls Tryz.prog 182 #[.agg #[.int .i64 (x.1 : Int), .int .u64 (x.2 : Int)], .agg #[.int .i64 (y.1 : Int), .int .u64 (y.2 : Int)], .pointer (some ⟨bx, 0, none⟩)] w fun e w' => e = .returned (.int .i64 (cfN d x y)) ∧ Bd w.heap.size w w' := by
  have hbef := fun W => before_any (d : Int) (x.1 : Int) (y.1 : Int) W (by omega) (by omega)
  rw [beforeN d x y h h' hx hx' hy hy'] at hbef
  have hb0 : bx < w.heap.size := block_lt_of_cell (a := ⟨bx, 0, none⟩) hp
  have hd0 : db < w.heap.size := block_lt_of_cell (a := ⟨db, 2, none⟩) ht
  obtain ⟨ia, hia⟩ : ∃ i, i = x.1 := ⟨_, rfl⟩
  obtain ⟨ib, hib⟩ : ∃ i, i = y.1 := ⟨_, rfl⟩
  obtain ⟨z, hz⟩ : ∃ z, z = cfN d x y := ⟨_, rfl⟩
  have hcf : z = if ia = ib then 0 else if before d x y then -1 else 1 := by rw [hz, hia, hib]; rfl
  rw [← hz]
  rw [← hia, ← hib] at hbef ⊢
  by_cases he : ia = ib
  · have g1 : ((ia : Int) == (ib : Int)) = true := by simp [he]
    rw [if_pos he] at hcf
    have HZ := Lib.hid hcf
    clear hcf he hz hia hib
    go_enter Tryz.func182, Tryz.ntmps182
    go_wp2
    go_ret
    exact ⟨by rw [HZ.out]; rfl, ((Bd.refl _ _).alloc (Nat.le_refl _) _).alloc (by simp) _⟩
  · have g1 : ((ia : Int) == (ib : Int)) = false := by simp; omega
    rw [if_neg he] at hcf
    have HZ := Lib.hid hcf
    clear hcf he hz hia hib
    have C0 : TdC w bx db d w.heap.size (w.heap.size + 1) ia ib ((w.alloc (.cells #[.int .i64 (ia : Int), .int .u64 (x.2 : Int)] 228)).alloc (.cells #[.int .i64 (ib : Int), .int .u64 (y.2 : Int)] 228)) := by
      refine ⟨((Bd.refl _ _).alloc (Nat.le_refl _) _).alloc (by simp) _, ?_, ?_, ?_, ?_⟩
      · exact Lib.cell?_alloc_some _ (Lib.cell?_alloc_some _ hp)
      · exact Lib.cell?_alloc_some _ (Lib.cell?_alloc_some _ ht)
      · exact ((Blk.newAt rfl).alloc _).cell rfl
      · exact (Blk.newAt (by simp)).cell rfl
    go_enter Tryz.func182, Tryz.ntmps182
    go_upto_region 3 with fail
    refine wp_region_quiet_litC (C := TdC w bx db d w.heap.size (w.heap.size + 1) ia ib) (by kernel_rfl) (by kernel_rfl) C0.drew ?_
    repeat (first | go_big_quiet_skip | (go_big_quiet_want; go_big_quiet_op; first | go_big_quiet_on | (refine quiet_const ?_; go_big_quiet_on)))
    go_big_quiet_want
    refine ⟨.pointer (some ⟨db, 0, none⟩), fun wx hx => ?_, ?_⟩
    · have q0 := hx.p; have q1 := hx.t; have q2 := hx.a; have q3 := hx.b
      go_simp
    go_big_quiet_on
    simp only [Act.put, List.setIfInBounds_toArray, List.set_cons_zero, List.set_cons_succ]
    repeat (first | go_big_quiet_skip | (go_big_quiet_want; go_big_quiet_op; first | go_big_quiet_on | (refine quiet_const ?_; go_big_quiet_on)))
    go_big_quiet_want
    refine ⟨.agg #[.int .i64 (d : Int)], fun wx hx => ?_, ?_⟩
    · have q0 := hx.p; have q1 := hx.t; have q2 := hx.a; have q3 := hx.b
      go_simp
    go_big_quiet_on
    simp only [Act.put, List.setIfInBounds_toArray, List.set_cons_zero, List.set_cons_succ]
    repeat (first | go_big_quiet_skip | (go_big_quiet_want; go_big_quiet_op; first | go_big_quiet_on | (refine quiet_const ?_; go_big_quiet_on)))
    go_big_quiet_want
    refine ⟨.int .i64 (ia : Int), fun wx hx => ?_, ?_⟩
    · have q0 := hx.p; have q1 := hx.t; have q2 := hx.a; have q3 := hx.b
      go_simp
    go_big_quiet_on
    simp only [Act.put, List.setIfInBounds_toArray, List.set_cons_zero, List.set_cons_succ]
    repeat (first | go_big_quiet_skip | (go_big_quiet_want; go_big_quiet_op; first | go_big_quiet_on | (refine quiet_const ?_; go_big_quiet_on)))
    go_big_quiet_want
    refine ⟨.int .i64 (ib : Int), fun wx hx => ?_, ?_⟩
    · have q0 := hx.p; have q1 := hx.t; have q2 := hx.a; have q3 := hx.b
      go_simp
    go_big_quiet_on
    simp only [Act.put, List.setIfInBounds_toArray, List.set_cons_zero, List.set_cons_succ]
    repeat (first | go_big_quiet_skip | (go_big_quiet_want; go_big_quiet_op; first | go_big_quiet_on | (refine quiet_const ?_; go_big_quiet_on)))
    go_big_quiet_want
    go_big_quiet_op
    refine ⟨.bool (before d x y), fun wx hx => ?_, ?_⟩
    · exact (hbef wx).mono fun _ _ hm => ⟨hm.1, hx.next hm.2⟩
    go_big_quiet_on
    repeat (first | go_big_quiet_skip | (go_big_quiet_want; go_big_quiet_op; first | go_big_quiet_on | (refine quiet_const ?_; go_big_quiet_on)))
    refine wpQuiet_nil ?_
    intro W C
    have hbd := C.below
    clear C C0
    cases hbb : before d x y with
    | true =>
      rw [hbb] at HZ
      clear hbb
      go_wp2
      go_ret
      exact ⟨by rw [HZ.out]; rfl, hbd⟩
    | false =>
      rw [hbb] at HZ
      clear hbb
      go_wp2
      go_ret
      exact ⟨by rw [HZ.out]; rfl, hbd⟩
end Go.Proofs.YtbejdajkkoapgaaGreatDoor.Tg

/-
  The library's sort at rows of pairs: this program's functions and types are those that the library's law asks for. Conditions: none.
-/
namespace Go.Proofs
open Go.Shelf
def Tryz.sortP_ren : Go.Shelf.Ren := ⟨fun | 6 => 181 | 15 => 191 | 14 => 190 | 28 => 200 | 29 => 144 | 20 => 192 | 21 => 193 | 22 => 194 | 23 => 195 | 24 => 196 | 25 => 197 | 26 => 198 | 27 => 199 | 46 => 201 | 47 => 202 | 48 => 203 | 49 => 204 | 50 => 205 | 57 => 206 | n => n, fun | 22 => 113 | 24 => 228 | 25 => 303 | 3 => 3 | 39 => 64 | 0 => 0 | 53 => 62 | 55 => 23 | 4 => 4 | 46 => 309 | 45 => 308 | 50 => 235 | 5 => 5 | 9 => 9 | 66 => 315 | 70 => 318 | 76 => 320 | 77 => 321 | n => n, fun | n => n⟩
theorem Tryz.sortP : Go.Proofs.SlLaysF0.n6 Tryz.prog Tryz.sortP_ren := {
  mixed := by kernel_rfl
  f6 := ⟨Tryz.f181.name, by decide, Tryz.func181.trans (congrArg some (by kernel_rfl))⟩
  f14 := ⟨Tryz.f190.name, by decide, Tryz.func190.trans (congrArg some (by kernel_rfl))⟩
  f15 := Tryz.func191.trans (congrArg some (by kernel_rfl))
  f20 := ⟨Tryz.f192.name, by decide, Tryz.func192.trans (congrArg some (by kernel_rfl))⟩
  f21 := ⟨Tryz.f193.name, by decide, Tryz.func193.trans (congrArg some (by kernel_rfl))⟩
  f22 := ⟨Tryz.f194.name, by decide, Tryz.func194.trans (congrArg some (by kernel_rfl))⟩
  f23 := ⟨Tryz.f195.name, by decide, Tryz.func195.trans (congrArg some (by kernel_rfl))⟩
  f24 := ⟨Tryz.f196.name, by decide, Tryz.func196.trans (congrArg some (by kernel_rfl))⟩
  f25 := ⟨Tryz.f197.name, by decide, Tryz.func197.trans (congrArg some (by kernel_rfl))⟩
  f26 := ⟨Tryz.f198.name, by decide, Tryz.func198.trans (congrArg some (by kernel_rfl))⟩
  f27 := ⟨Tryz.f199.name, by decide, Tryz.func199.trans (congrArg some (by kernel_rfl))⟩
  f28 := Tryz.func200.trans (congrArg some (by kernel_rfl))
  f29 := Tryz.func144.trans (congrArg some (by kernel_rfl))
  f46 := ⟨Tryz.f201.name, by decide, Tryz.func201.trans (congrArg some (by kernel_rfl))⟩
  f47 := Tryz.func202.trans (congrArg some (by kernel_rfl))
  f48 := Tryz.func203.trans (congrArg some (by kernel_rfl))
  f49 := ⟨Tryz.f204.name, by decide, Tryz.func204.trans (congrArg some (by kernel_rfl))⟩
  f50 := ⟨Tryz.f205.name, by decide, Tryz.func205.trans (congrArg some (by kernel_rfl))⟩
  f57 := ⟨Tryz.f206.name, by decide, Tryz.func206.trans (congrArg some (by kernel_rfl))⟩
  t0 := Tryz.underlying0
  a0 := Tryz.isAgg0
  z0 := Tryz.sizeOf0
  v0 := Tryz.zeroValue0
  t3 := Tryz.underlying3
  a3 := Tryz.isAgg3
  z3 := Tryz.sizeOf3
  v3 := Tryz.zeroValue3
  t4 := Tryz.underlying4
  a4 := Tryz.isAgg4
  z4 := Tryz.sizeOf4
  v4 := Tryz.zeroValue4
  t5 := Tryz.underlying5
  a5 := Tryz.isAgg5
  z5 := Tryz.sizeOf5
  v5 := Tryz.zeroValue5
  t9 := Tryz.underlying9
  a9 := Tryz.isAgg9
  z9 := Tryz.sizeOf9
  v9 := Tryz.zeroValue9
  t22 := Tryz.underlying113
  a22 := Tryz.isAgg113
  z22 := Tryz.sizeOf113
  v22 := Tryz.zeroValue113
  t25 := Tryz.underlying303
  a25 := Tryz.isAgg303
  z25 := Tryz.sizeOf303
  v25 := Tryz.zeroValue303
  t39 := Tryz.underlying64
  a39 := Tryz.isAgg64
  z39 := Tryz.sizeOf64
  v39 := Tryz.zeroValue64
  t45 := Tryz.underlying308
  a45 := Tryz.isAgg308
  z45 := Tryz.sizeOf308
  v45 := Tryz.zeroValue308
  t46 := Tryz.underlying309
  a46 := Tryz.isAgg309
  z46 := Tryz.sizeOf309
  v46 := Tryz.zeroValue309
  t50 := Tryz.underlying235
  a50 := Tryz.isAgg235
  z50 := Tryz.sizeOf235
  v50 := Tryz.zeroValue235
  t53 := Tryz.underlying62
  a53 := Tryz.isAgg62
  z53 := Tryz.sizeOf62
  v53 := Tryz.zeroValue62
  t55 := Tryz.underlying23
  a55 := Tryz.isAgg23
  z55 := Tryz.sizeOf23
  v55 := Tryz.zeroValue23
  t66 := Tryz.underlying315
  a66 := Tryz.isAgg315
  z66 := Tryz.sizeOf315
  v66 := Tryz.zeroValue315
  t70 := Tryz.underlying318
  a70 := Tryz.isAgg318
  z70 := Tryz.sizeOf318
  v70 := Tryz.zeroValue318
  t76 := Tryz.underlying320
  a76 := Tryz.isAgg320
  z76 := Tryz.sizeOf320
  v76 := Tryz.zeroValue320
  t77 := Tryz.underlying321
  a77 := Tryz.isAgg321
  z77 := Tryz.sizeOf321
  v77 := Tryz.zeroValue321 }
end Go.Proofs

/-
  Contract of digest.told: all nodes, in the order in which they are told, in new memory. Conditions: there is a node; the nodes can be.
-/
set_option linter.unusedVariables false
set_option linter.unusedSimpArgs false
set_option maxRecDepth 100000
namespace Go.Proofs.YtbejdajkkoapgaaGreatDoor
open Go.RowKit Go.Lib Go.Sort Go.Shelf

/-- the nodes that can be -/
abbrev NodeOf (d : Nat) := { p : Nat × Nat // 1 ≤ p.1 ∧ p.1 < 2 * 2 ^ d }
instance (d : Nat) : Inhabited (NodeOf d) := ⟨⟨(1, 0), by decide, by show 1 < 2 * 2 ^ d; have := Nat.one_le_two_pow (n := d); omega⟩⟩
def encN (d : Nat) (x : NodeOf d) : List Value := [.int .i64 (x.1.1 : Int), .int .u64 (x.1.2 : Int)]
def cfO (d : Nat) (x y : NodeOf d) : Int := cfN d x.1 y.1
theorem swoO (d : Nat) : SWO (ltOf (cfO d)) where
  irrefl x := (ltN_swo d).irrefl x.1
  trans x y z := (ltN_swo d).trans x.1 y.1 z.1
  ntrans x y z := (ltN_swo d).ntrans x.1 y.1 z.1
/-- a row's nodes, with what is known of them -/
def packN (d : Nat) (l : Row) (h : Nodes d l) : Array (NodeOf d) := (l.attach.map fun x => (⟨x.1, h x.1 x.2⟩ : NodeOf d)).toArray
theorem packN_size (d : Nat) (l : Row) (h : Nodes d l) : (packN d l h).size = l.length := by simp [packN]
theorem packN_list (d : Nat) (l : Row) (h : Nodes d l) : (packN d l h).toList.map (·.1) = l := by
  simp [packN, List.map_map, Function.comp_def]
  exact List.attach_map_subtype_val l
theorem packN_get (d : Nat) (l : Row) (h : Nodes d l) (i : Nat) (hi : i < l.length) : ((packN d l h)[i]!).1 = l[i]'hi := by
  rw [getElem!_pos _ i (by rw [packN_size]; exact hi)]
  simp [packN]

theorem heap_sortWorld {α : Type} [Inhabited α] (enc : α → List Value) (k : Nat) (w : World) (blk off m : Nat) (dk : Array α) (os : Array Obj) (j : Nat) (hj : j < w.heap.size) (hne : j ≠ blk) : (sortWorldK enc k w blk off m dk os).heap[j]? = w.heap[j]? := by
  unfold sortWorldK
  rw [heap_grow_old _ _ (by rw [size_putRowK]; exact hj)]
  simp [putRowK, putRow, mapBlock, Array.getElem?_modify, Ne.symm hne, Sort.ahead]
theorem away_sortWorld {α : Type} [Inhabited α] (enc : α → List Value) (k : Nat) (w : World) (blk off m : Nat) (dk : Array α) (os : Array Obj) : Away (fun j => j = blk) w (sortWorldK enc k w blk off m dk os) :=
  ⟨rfl, rfl, rfl, size_sortWorldK_c enc k w blk off m dk os, fun j hj hn => heap_sortWorld enc k w blk off m dk os j hj hn⟩

/-- the sort of a row of nodes -/
theorem sort_any (w : World) (g cap bx db d : Nat) (l : Row) (hn : Nodes d l) (h1 : 1 ≤ d) (h2 : d ≤ 24) (h : w.ownsRow 0 228 2 (.slice (some ⟨g, 0, none⟩) l.length cap) l.length (rowC l)) (hlen : l.length ≤ 1000000)
    (hp : w.cell? ⟨bx, 0, none⟩ = some (.pointer (some ⟨db, 0, none⟩))) (ht : w.cell? ⟨db, 2, none⟩ = some (.int .i64 (d : Int))) (hbg : bx ≠ g) (hdg : db ≠ g) :
    Calls Tryz.prog 181 #[.slice (some ⟨g, 0, none⟩) l.length cap, .func (.func 182) #[] #[.pointer (some ⟨bx, 0, none⟩)]] w fun e w' => e = .returned (.tuple #[]) ∧ ∃ l' : Row, l'.Perm l ∧ InOrder d l' ∧
      (∀ i (hi : i < l'.length), w'.cell? ⟨g, i * 2, none⟩ = some (.int .i64 ((l'[i]'hi).1 : Int)) ∧ w'.cell? ⟨g, i * 2 + 1, none⟩ = some (.int .u64 ((l'[i]'hi).2 : Int))) ∧ Away (fun j => j = g) w w' := by
  have hgw : g < w.heap.size := (h.lt g rfl).2
  have hbw : bx < w.heap.size := block_lt_of_cell (a := ⟨bx, 0, none⟩) hp
  have hdw : db < w.heap.size := block_lt_of_cell (a := ⟨db, 2, none⟩) ht
  have hH : HoldsK (encN d) 2 w g 0 (packN d l hn) := by
    intro j hj
    rw [size_flatK, packN_size] at hj
    rw [get_flatK _ _ _ _ (by rw [packN_size]; exact hj), Nat.zero_add]
    refine ⟨?_, h.frozenAt j⟩
    rw [h.cellAt j hj]
    have hi : j / 2 < l.length := by omega
    have hx := packN_get d l hn (j / 2) hi
    rcases Nat.mod_two_eq_zero_or_one j with hm | hm
    · rw [show j = j / 2 * 2 from by omega, rowC_fst l (j / 2) hi]
      rw [show j / 2 * 2 / 2 = j / 2 from by omega, show j / 2 * 2 % 2 = 0 from by omega]
      simp [encN, hx]
    · rw [show j = j / 2 * 2 + 1 from by omega, rowC_snd l (j / 2) hi]
      rw [show (j / 2 * 2 + 1) / 2 = j / 2 from by omega, show (j / 2 * 2 + 1) % 2 = 1 from by omega]
      simp [encN, hx]
  have hcmp : CmpLays Tryz.prog 182 #[.pointer (some ⟨bx, 0, none⟩)] (encN d) 2 (cfO d) g 0 (packN d l hn).size w := by
    intro m os dk hs x y
    have c1 : (sortWorldK (encN d) 2 w g 0 m dk os).cell? ⟨bx, 0, none⟩ = some (.pointer (some ⟨db, 0, none⟩)) := (World.cell?_of_block (w := w) (a := ⟨bx, 0, none⟩) (heap_sortWorld _ _ _ _ _ _ _ _ _ hbw hbg)).trans hp
    have c2 : (sortWorldK (encN d) 2 w g 0 m dk os).cell? ⟨db, 2, none⟩ = some (.int .i64 (d : Int)) := (World.cell?_of_block (w := w) (a := ⟨db, 2, none⟩) (heap_sortWorld _ _ _ _ _ _ _ _ _ hdw hdg)).trans ht
    exact (Tg.cmp_any _ bx db d x.1 y.1 h1 h2 x.2.1 x.2.2 y.2.1 y.2.2 c1 c2).mono fun e w' ⟨he, hb⟩ => ⟨he, hb.grow⟩
  have hso := AnyQ.slices_SortFunc Tryz.sortP 2 Tryz.isAgg228 Tryz.sizeOf228 (encN d) (fun _ => rfl) (fun x v hv => by simp [encN] at hv; rcases hv with rfl | rfl <;> rfl) (cfO d) (swoO d) 182 #[.pointer (some ⟨bx, 0, none⟩)] g 0 cap (packN d l hn) w (enters_of Tryz.func182 (by kernel_rfl) rfl) hcmp hH hgw (by rw [packN_size]; omega)
  rw [packN_size] at hso
  refine Calls.mono hso fun e w' ⟨he, d', n, os, hperm, hsort, hw⟩ => ⟨he, d'.toList.map (·.1), ?_, ?_, ?_, ?_⟩
  · have e1 : d'.extract 0 l.length = d' := by
      have : d'.size = l.length := by rw [hperm.1, packN_size]
      rw [← this]; simp
    have e2 : (packN d l hn).extract 0 l.length = packN d l hn := by
      rw [← packN_size d l hn]; simp
    have hp3 := hperm.2.2
    rw [e1, e2] at hp3
    have := hp3.map (fun x : NodeOf d => x.1)
    rw [packN_list] at this
    exact this
  · have hsz : d'.size = l.length := by rw [hperm.1, packN_size]
    unfold InOrder
    rw [List.pairwise_iff_getElem]
    intro i j hi hj hij
    rw [List.length_map, Array.length_toList] at hi hj
    have hs := hsort i j (Nat.zero_le _) hij (by omega)
    rw [getElem!_pos d' j hj, getElem!_pos d' i hi] at hs
    have hs2 : ltN d (d'[j]'hj).1 (d'[i]'hi).1 = false := hs
    rw [ltN_false] at hs2
    simp only [List.getElem_map, Array.getElem_toList]
    omega
  · intro i hi
    rw [List.length_map, Array.length_toList] at hi
    have hK := holdsK_sortWorldK_c (encN d) 2 w g 0 (packN d l hn) d' n os hH hgw hperm.1
    rw [← hw] at hK
    have k0 := (hK.cell (i := i) (c := 0) hi (by decide)).1
    have k1 := (hK.cell (i := i) (c := 1) hi (by decide)).1
    rw [getElem!_pos d' i hi] at k0 k1
    simp only [List.getElem_map, Array.getElem_toList]
    rw [Nat.zero_add] at k0 k1
    exact ⟨k0, k1⟩
  · rw [hw]; exact away_sortWorld _ _ _ _ _ _ _ _

theorem told_any (w : World) (db sb : Nat) (v : Value) (d F : Nat) (lo hi : Int) (l : Row) (h : DigO w db sb v d F lo hi l) (h1 : 1 ≤ d) (h2 : d ≤ 24) (hn : Nodes d l) (hlen : l.length ≤ 4000) (hne : l ≠ []) :
    Calls Tryz.prog 175 #[.pointer (some ⟨db, 0, none⟩)] w fun e w' => ∃ (g cap : Nat) (l' : Row), e = .returned (.slice (some ⟨g, 0, none⟩) l'.length cap) ∧ l'.Perm l ∧ InOrder d l' ∧
      (∀ i (hi : i < l'.length), w'.cell? ⟨g, i * 2, none⟩ = some (.int .i64 ((l'[i]'hi).1 : Int)) ∧ w'.cell? ⟨g, i * 2 + 1, none⟩ = some (.int .u64 ((l'[i]'hi).2 : Int))) ∧ g < w'.heap.size ∧ Below w.heap.size w w' := by
  obtain ⟨c0, c1, c2, c3, c4, c5, f3, f4, f5⟩ := h.cells
  have D1 := h.next ((Below.refl _ _).alloc (Nat.le_refl _) (.cells #[.pointer (some ⟨db, 0, none⟩)] 47))
  have hpr := pairs_any _ sb v l D1.strip (by omega)
  have B1 := Blk.new w #[.pointer (some ⟨db, 0, none⟩)] 47
  have hdl := h.blk.lt
  have HH := Lib.hid h
  clear h
  go_enter Tryz.func175, Tryz.ntmps175
  go_wp2_with fail
  refine hpr.mono ?_
  rintro e w2 ⟨vp, rfl, o2, b2⟩
  rcases owns_shape o2 with ⟨_, hn0, _⟩ | ⟨g, cap, hv, _, _, hg1, hg2⟩
  · exact absurd (List.eq_nil_of_length_eq_zero hn0) hne
  · subst hv
    have hs2 : (w.alloc (.cells #[.pointer (some ⟨db, 0, none⟩)] 47)).heap.size = w.heap.size + 1 := by simp
    have so := sort_any w2 g cap w.heap.size db d l hn h1 h2 (owns_base o2 fun g _ => Nat.zero_le _) (by omega) ((B1.below b2 (by omega)).cell rfl) ((D1.next b2).blk.cell rfl) (by omega) (by omega)
    have hbw : Below w.heap.size w w2 := ((Below.refl _ _).alloc (Nat.le_refl _) _).trans (b2.mono (by omega))
    have hgw : w.heap.size < g := by omega
    have q0 := (B1.below b2 (by omega)).cell (j := 0) (u := .pointer (some ⟨db, 0, none⟩)) rfl
    clear hpr D1 B1 o2 b2 c0 c1 c2 c3 c4 c5 f3 f4 f5 hs2 hg1
    go_wp2_with (go_at_call 181; refine so.mono ?_; rintro e w3 ⟨rfl, l3, p3, i3, r3, a3⟩)
    go_ret
    have hl : l3.length = l.length := p3.length_eq
    refine ⟨g, cap, l3, by rw [hl]; rfl, p3, i3, r3, Nat.lt_of_lt_of_le hg2 a3.size, hbw.trans (a3.below hbw.size fun k hk => by omega)⟩
end Go.Proofs.YtbejdajkkoapgaaGreatDoor

/-
  Contract of digest.Quantile: the greatest value below the node at which so many are told. Conditions: the part can be, there are values.
-/
set_option linter.unusedVariables false
set_option linter.unusedSimpArgs false
set_option maxRecDepth 100000
namespace Go.Proofs.YtbejdajkkoapgaaGreatDoor
open Go.RowKit Go.Lib

/-- the digest, and a pair of cells, are there -/
structure QtC (w : World) (db sb : Nat) (v : Value) (d F : Nat) (lo hi : Int) (l : Row) (b : Nat) (u0 u1 : Value) (W : World) : Prop where
  dig : DigO W db sb v d F lo hi l
  below : Below w.heap.size w W
  p0 : W.cell? ⟨b, 0, none⟩ = some u0
  p1 : W.cell? ⟨b, 1, none⟩ = some u1
theorem QtC.next {w W W' : World} {db sb : Nat} {v : Value} {d F : Nat} {lo hi : Int} {l : Row} {b : Nat} {u0 u1 : Value} (h : QtC w db sb v d F lo hi l b u0 u1 W) (hb : Below W.heap.size W W') : QtC w db sb v d F lo hi l b u0 u1 W' :=
  ⟨h.dig.next hb, h.below.trans (hb.mono h.below.size), (hb.cell (p := ⟨b, 0, none⟩) (block_lt_of_cell (a := ⟨b, 0, none⟩) h.p0)).trans h.p0, (hb.cell (p := ⟨b, 1, none⟩) (block_lt_of_cell (a := ⟨b, 1, none⟩) h.p1)).trans h.p1⟩
theorem QtC.drew {w W : World} {db sb : Nat} {v : Value} {d F : Nat} {lo hi : Int} {l : Row} {b : Nat} {u0 u1 : Value} (h : QtC w db sb v d F lo hi l b u0 u1 W) : QtC w db sb v d F lo hi l b u0 u1 W.drew := ⟨h.dig.drew, h.below.drew, h.p0, h.p1⟩

structure QzC (w2 w : World) (db sb : Nat) (v : Value) (d F : Nat) (lo hi : Int) (l : Row) (b : Nat) (u0 u1 : Value) (W : World) : Prop where
  q : QtC w db sb v d F lo hi l b u0 u1 W
  b : Below w2.heap.size w2 W
theorem QzC.next {w2 w W W' : World} {db sb : Nat} {v : Value} {d F : Nat} {lo hi : Int} {l : Row} {b : Nat} {u0 u1 : Value} (h : QzC w2 w db sb v d F lo hi l b u0 u1 W) (hb : Below W.heap.size W W') : QzC w2 w db sb v d F lo hi l b u0 u1 W' :=
  ⟨h.q.next hb, h.b.trans (hb.mono h.b.size)⟩
theorem QzC.drew {w2 w W : World} {db sb : Nat} {v : Value} {d F : Nat} {lo hi : Int} {l : Row} {b : Nat} {u0 u1 : Value} (h : QzC w2 w db sb v d F lo hi l b u0 u1 W) : QzC w2 w db sb v d F lo hi l b u0 u1 W.drew := ⟨h.q.drew, h.b.drew⟩

set_option maxHeartbeats 8000000 in
theorem dig_quant (w : World) (db sb : Nat) (v : Value) (d F : Nat) (lo hi : Int) (l : Row) (h : DigO w db sb v d F lo hi l) (h1 : 1 ≤ d) (h2 : d ≤ 24) (hn : Nodes d l) (hlen : l.length ≤ 4000) (ht0 : 1 ≤ rowTotal l) (ht1 : rowTotal l ≤ 1000000)
    (num den : Nat) (hg : num ≤ den) (hg1 : 1 ≤ den) (hg2 : den < 18446744073709551616) :
    Calls Tryz.prog 170 #[.pointer (some ⟨db, 0, none⟩), .agg #[.int .u64 (num : Int), .int .u64 (den : Int)]] w fun e w' => ∃ told : Row, told.Perm l ∧ InOrder d told ∧ e = .returned (.tuple #[.int .i64 (walkQ d (placeN num (rowTotal l) den) 0 0 told), .int .i64 0]) ∧ Below w.heap.size w w' := by
  have hne : l ≠ [] := fun e => by rw [e] at ht0; exact absurd ht0 (by decide)
  have htot0 := fun W (x : QtC w db sb v d F lo hi l w.heap.size (.int .u64 (num : Int)) (.int .u64 (den : Int)) W) => (dig_total W db sb v d F lo hi l x.dig).mono fun e w' (hh : _ ∧ _) => (⟨hh.1, hh.2 ▸ Below.refl _ _⟩ : e = .returned (.int .u64 (rowTotal l : Nat)) ∧ Below W.heap.size W w')
  obtain ⟨T, hT⟩ : ∃ T, T = placeN num (rowTotal l) den := ⟨_, rfl⟩
  have hpl := fun W => Wd.place_any num den (rowTotal l) W hg hg1 hg2 ht0 (by omega)
  rw [← hT] at hpl ⊢
  have hTb := placeN_bd num (rowTotal l) den hg hg1 ht0
  rw [← hT] at hTb
  have H : QtC w db sb v d F lo hi l w.heap.size (.int .u64 (num : Int)) (.int .u64 (den : Int)) (w.alloc (.cells #[.int .u64 (num : Int), .int .u64 (den : Int)] 25)) :=
    ⟨h.next ((Below.refl _ _).alloc (Nat.le_refl _) _), (Below.refl _ _).alloc (Nat.le_refl _) _, (Blk.new w _ _).cell rfl, (Blk.new w _ _).cell rfl⟩
  have htold := fun W (x : DigO W db sb v d F lo hi l) => told_any W db sb v d F lo hi l x h1 h2 hn hlen hne
  clear h hT
  go_enter Tryz.func170, Tryz.ntmps170
  go_upto_region 3 with fail
  refine wp_region_quiet_litC (C := QtC w db sb v d F lo hi l w.heap.size (.int .u64 (num : Int)) (.int .u64 (den : Int))) (by kernel_rfl) (by kernel_rfl) H.drew ?_
  repeat (first | go_big_quiet_skip | (go_big_quiet_want; go_big_quiet_op; first | go_big_quiet_on | (refine quiet_const ?_; go_big_quiet_on)))
  go_big_quiet_want
  refine ⟨.agg #[.int .u64 (num : Int), .int .u64 (den : Int)], fun wx hx => ?_, ?_⟩
  · obtain ⟨k0, k1, k2, k3, k4, k5, m3, m4, m5⟩ := hx.dig.cells; have q0 := hx.p0; have q1 := hx.p1
    go_simp
  go_big_quiet_on
  simp only [Act.put, List.setIfInBounds_toArray, List.set_cons_zero, List.set_cons_succ]
  repeat (first | go_big_quiet_skip | (go_big_quiet_want; go_big_quiet_op; first | go_big_quiet_on | (refine quiet_const ?_; go_big_quiet_on)))
  go_big_quiet_want
  go_big_quiet_op
  refine ⟨.int .u64 (rowTotal l : Nat), fun wx hx => ?_, ?_⟩
  · exact (htot0 wx hx).mono fun _ _ hm => ⟨hm.1, hx.next hm.2⟩
  go_big_quiet_on
  repeat (first | go_big_quiet_skip | (go_big_quiet_want; go_big_quiet_op; first | go_big_quiet_on | (refine quiet_const ?_; go_big_quiet_on)))
  go_big_quiet_want
  go_big_quiet_op
  refine ⟨.tuple #[.int .u64 (T : Nat), .int .i64 0], fun wx hx => ?_, ?_⟩
  · exact (hpl wx).mono fun _ _ hm => ⟨hm.1, hx.next hm.2⟩
  go_big_quiet_on
  repeat (first | go_big_quiet_skip | (go_big_quiet_want; go_big_quiet_op; first | go_big_quiet_on | (refine quiet_const ?_; go_big_quiet_on)))
  refine wpQuiet_nil ?_
  intro W1 H1
  have D1 := H1.dig
  have B1 := H1.below
  clear H H1 htot0 hpl
  go_wp2_with fail
  refine (htold W1 D1).mono ?_
  rintro e w2 ⟨g, cap, l3, rfl, p3, i3, r3, g3, b2⟩
  have D2 := D1.next b2
  have B2 : Below w.heap.size w w2 := B1.trans (b2.mono B1.size)
  have t3 : rowTotal l3 = rowTotal l := sumIf_perm p3 _
  have n3 : ∀ i (hi : i < l3.length), 1 ≤ (l3[i]'hi).1 ∧ (l3[i]'hi).1 < 2 * 2 ^ d := fun i hi => hn _ (p3.subset (List.getElem_mem hi))
  have ln3 : l3.length ≤ 4000 := by rw [p3.length_eq]; exact hlen
  have HP := Lib.hid (And.intro p3 i3)
  have HR := Lib.hid r3
  clear D1 B1 htold b2 hne p3 i3 r3
  go_upto_block 0 with fail
  go_cut [8, 9, 11] from 27 to 48 (fun s x p wx => x = .int .i64 (walkQ d T 0 0 l3) ∧ Below w.heap.size w wx)
  case first =>
    go_wp2_with fail
    go_loopg [8, 9, 11, 27] l3.length (fun q s x p i wr => ∃ (k sm : Nat) (y : Int), i = .int .i64 (k : Int) ∧ s = .int .u64 (sm : Int) ∧ x = .int .i64 y ∧ k ≤ l3.length ∧ l3.length - k ≤ q ∧ walkQ d T sm y (l3.drop k) = walkQ d T 0 0 l3 ∧
      sm = rowTotal (l3.take k) ∧ DigO wr db sb v d F lo hi l ∧ Below w.heap.size w wr ∧ Below w2.heap.size w2 wr)
    case atStart => exact ⟨0, 0, 0, rfl, rfl, rfl, Nat.zero_le _, Nat.le_refl _, by rw [List.drop_zero], rfl, D2, B2, Below.refl _ _⟩
    case round =>
      clear D2
      obtain ⟨k, sm, y, rfl, rfl, rfl, hk, hq, hw, hsm, D, B, B22⟩ := hrel
      by_cases hkl : k < l3.length
      · obtain ⟨r0, r1⟩ := HR.out k hkl
        obtain ⟨x1, x2⟩ := n3 k hkl
        have hdr := List.drop_eq_getElem_cons hkl
        obtain ⟨ix, hix⟩ : ∃ i, i = (l3[k]'hkl).1 := ⟨_, rfl⟩
        obtain ⟨ct, hct⟩ : ∃ i, i = (l3[k]'hkl).2 := ⟨_, rfl⟩
        have hpr : (l3[k]'hkl) = (ix, ct) := by rw [hix, hct]
        have htk : rowTotal (l3.take (k + 1)) = rowTotal (l3.take k) + ct := by
          rw [List.take_succ_eq_append_getElem hkl, hpr]
          have e : rowTotal (l3.take k ++ [(ix, ct)]) = rowTotal (l3.take k) + rowTotal [(ix, ct)] := sumIf_append _ _ _
          rw [e]; unfold rowTotal; rw [sumIf_cons, sumIf_nil]; simp
        have htl := rowTotal_take_le l3 (k + 1)
        rw [hpr] at hdr
        rw [← hix] at r0 x1 x2
        rw [← hct] at r1
        have c0 : wr.cell? ⟨g, k * 2, none⟩ = some (.int .i64 (ix : Int)) := (B22.cell (p := ⟨g, k * 2, none⟩) g3).trans r0
        have c1 : wr.cell? ⟨g, k * 2 + 1, none⟩ = some (.int .u64 (ct : Int)) := (B22.cell (p := ⟨g, k * 2 + 1, none⟩) g3).trans r1
        have hLT : (k : Int) < (l3.length : Int) := by omega
        have hrg := fun W => Tr.range_any (d : Int) (ix : Int) W (by omega) (by omega)
        rw [lowN d ix h1 h2 x1 x2, highN d ix h1 h2 x1 x2] at hrg
        have Q : QtC w db sb v d F lo hi l wr.heap.size (.int .i64 (ix : Int)) (.int .u64 (ct : Int)) (wr.alloc (.cells #[.int .i64 (ix : Int), .int .u64 (ct : Int)] 228)) :=
          ⟨D.next ((Below.refl _ _).alloc (Nat.le_refl _) _), B.alloc B.size _, (Blk.new wr _ _).cell rfl, (Blk.new wr _ _).cell rfl⟩
        have B23 : Below w2.heap.size w2 (wr.alloc (.cells #[.int .i64 (ix : Int), .int .u64 (ct : Int)] 228)) := B22.alloc B22.size _
        have HW := Lib.hid (And.intro hw (And.intro hdr (And.intro hsm htk)))
        by_cases hT2 : T ≤ sm
        · have g1 : (T : Int) ≤ (sm : Int) := by omega
          have gb1 : decide ((T : Int) ≤ (sm : Int)) = true := by simp; omega
          have hfin : walkQ d T 0 0 l3 = y := by rw [← hw]; exact walkQ_done _ _ _ _ _ hT2
          have HF := Lib.hid hfin
          have HB := Lib.hid Q.below
          clear hw hdr hsm htk hix hct hpr r0 r1 x1 x2 D B B22 Q B23 hT2 hfin hrg htl
          go_wp2_with fail
          go_meet
          exact ⟨by rw [HF.out], HB.out⟩
        · have g1 : ¬ (T : Int) ≤ (sm : Int) := by omega
          have gb1 : decide ((T : Int) ≤ (sm : Int)) = false := by simp; omega
          obtain ⟨s2, hs2⟩ : ∃ s2, s2 = sm + ct := ⟨_, rfl⟩
          have f1 : IntKind.u64.wrap ((sm : Int) + (ct : Int)) = (s2 : Int) := by rw [show (sm : Int) + (ct : Int) = (s2 : Int) from by omega, IntKind.wrap_u64]; omega
          have hnx : walkQ d T s2 (hiN d ix : Int) (l3.drop (k + 1)) = walkQ d T 0 0 l3 := by
            rw [← hw, hdr]
            conv => rhs; unfold walkQ
            rw [if_neg hT2, hs2]
          have hs3 : s2 = rowTotal (l3.take (k + 1)) := by omega
          have HF := Lib.hid (And.intro hnx hs3)
          obtain ⟨k0, k1, k2, k3, k4, k5, m3, m4, m5⟩ := Q.dig.cells
          have q0 := Q.p0
          have q1 := Q.p1
          have hkk : ∀ W, QtC w db sb v d F lo hi l wr.heap.size (.int .i64 (ix : Int)) (.int .u64 (ct : Int)) W → True := fun _ _ => trivial
          clear hw hdr hsm htk hix hct hpr r0 r1 x1 x2 D B B22 hT2 hnx hs3 hs2 htl HW
          go_upto_region 12 with fail
          generalize wr.heap.size = b at Q q0 q1 ⊢
          generalize wr.alloc (.cells #[.int .i64 (ix : Int), .int .u64 (ct : Int)] 228) = W1 at *
          have QQ : QzC w2 w db sb v d F lo hi l b (.int .i64 (ix : Int)) (.int .u64 (ct : Int)) W1 := ⟨Q, B23⟩
          clear Q B23 hkk q0 q1 k0 k1 k2 k3 k4 k5 m3 m4 m5
          refine wp_region_quiet_litC (C := QzC w2 w db sb v d F lo hi l b (.int .i64 (ix : Int)) (.int .u64 (ct : Int))) (by kernel_rfl) (by kernel_rfl) QQ.drew ?_
          repeat (first | go_big_quiet_skip | (go_big_quiet_want; go_big_quiet_op; first | go_big_quiet_on | (refine quiet_const ?_; go_big_quiet_on)))
          go_big_quiet_want
          refine ⟨.agg #[.int .i64 (d : Int)], fun wx hx => ?_, ?_⟩
          · obtain ⟨k0, k1, k2, k3, k4, k5, m3, m4, m5⟩ := hx.q.dig.cells
            go_simp
          go_big_quiet_on
          simp only [Act.put, List.setIfInBounds_toArray, List.set_cons_zero, List.set_cons_succ]
          repeat (first | go_big_quiet_skip | (go_big_quiet_want; go_big_quiet_op; first | go_big_quiet_on | (refine quiet_const ?_; go_big_quiet_on)))
          go_big_quiet_want
          refine ⟨.int .i64 (ix : Int), fun wx hx => ?_, ?_⟩
          · have q0 := hx.q.p0
            go_simp
          go_big_quiet_on
          simp only [Act.put, List.setIfInBounds_toArray, List.set_cons_zero, List.set_cons_succ]
          repeat (first | go_big_quiet_skip | (go_big_quiet_want; go_big_quiet_op; first | go_big_quiet_on | (refine quiet_const ?_; go_big_quiet_on)))
          go_big_quiet_want
          go_big_quiet_op
          refine ⟨.tuple #[.int .i64 (loN d ix : Nat), .int .i64 (hiN d ix : Nat)], fun wx hx => ?_, ?_⟩
          · exact (hrg wx).mono fun _ _ hm => ⟨hm.1, hx.next hm.2⟩
          go_big_quiet_on
          repeat (first | go_big_quiet_skip | (go_big_quiet_want; go_big_quiet_op; first | go_big_quiet_on | (refine quiet_const ?_; go_big_quiet_on)))
          refine wpQuiet_nil ?_
          intro W3 Q3
          go_wp2_with fail
          go_roundg (l3.length - (k + 1))
          case measure => omega
          case rel => exact ⟨k + 1, s2, (hiN d ix : Int), by go_num, rfl, rfl, by omega, Nat.le_refl _, HF.out.1, HF.out.2, Q3.q.dig, Q3.q.below, Q3.b⟩
      · have hke : k = l3.length := by omega
        have hLT : ¬ (k : Int) < (l3.length : Int) := by omega
        rw [hke, List.drop_length] at hw
        have HF := Lib.hid (show y = walkQ d T 0 0 l3 from hw)
        have HB := Lib.hid B
        clear hw hsm D B B22 hke hkl hq hk
        go_wp2_with fail
        go_meet
        exact ⟨by rw [HF.out], HB.out⟩
  case rest =>
  obtain ⟨rfl, hB⟩ := hcut
  have HB := Lib.hid hB
  clear hB D2 B2
  go_wp2_with fail
  go_ret2
  exact ⟨l3, HP.out.1, HP.out.2, rfl, HB.out⟩
end Go.Proofs.YtbejdajkkoapgaaGreatDoor

