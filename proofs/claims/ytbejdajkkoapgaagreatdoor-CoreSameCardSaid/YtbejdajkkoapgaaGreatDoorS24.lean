/-
  Several texts in one: J11, Hj, Hk. What each proves, and on which conditions, stands at its head. Conditions: stated in each.
-/
import Derived.Test.YtbejdajkkoapgaaGreatDoorS20
import Derived.Test.YtbejdajkkoapgaaGreatDoorS21
/-
  Several texts in one: Jn. What each proves, and on which conditions, stands at its head. Conditions: stated in each.
-/
/-
  Contract of digest.Join: all nodes of another one, too; then nodes are lifted. Conditions: of one config, apart from one another, the counts are small.
-/
set_option linter.unusedVariables false
set_option linter.unusedSimpArgs false
set_option maxRecDepth 100000
namespace Go.Proofs.YtbejdajkkoapgaaGreatDoor
open Go.RowKit Go.Lib

theorem joinL_snoc (l m : Row) (p : Nat × Nat) : joinL l (m ++ [p]) = addL (joinL l m) p.1 p.2 := by unfold joinL; rw [List.foldl_append]; rfl
theorem joinL_total (l m : Row) : rowTotal (joinL l m) = rowTotal l + rowTotal m := sumIf_join _ _ _
theorem joinL_len (l m : Row) : (joinL l m).length ≤ l.length + m.length := by
  unfold joinL
  induction m generalizing l with
  | nil => exact Nat.le_refl _
  | cons x m ih =>
    have := ih (addL l x.1 x.2)
    have := length_addL_le l x.1 x.2
    simp only [List.foldl_cons, List.length_cons]; omega
end Go.Proofs.YtbejdajkkoapgaaGreatDoor

/-
  Contract of hdr.fits. Conditions: short rows.
-/
set_option linter.unusedVariables false
set_option linter.unusedSimpArgs false
set_option maxRecDepth 100000
namespace Go.Proofs.YtbejdajkkoapgaaGreatDoor
open Go.RowKit Go.Lib

theorem index174_0 (p q : Option Addr) (w : World) : (Instr.index 174 (.agg #[.pointer p, .pointer q]) (.int .i64 0)).run Tryz.prog w = .ok (.pointer p) w := by kernel_rfl
theorem index174_1 (p q : Option Addr) (w : World) : (Instr.index 174 (.agg #[.pointer p, .pointer q]) (.int .i64 1)).run Tryz.prog w = .ok (.pointer q) w := by kernel_rfl
/-- two hdr sketches -/
structure H2C (w : World) (hb pb s0 s1 : Nat) (v0 v1 : Value) (dg : Nat) (lim : Int) (l0 l1 : Row) (z : Nat) (lo hi : Int) (ob qb t0 t1 : Nat) (u0 u1 : Value) (dg2 : Nat) (lim2 : Int) (m0 m1 : Row) (z2 : Nat) (lo2 hi2 : Int) (W : World) : Prop where
  hd : HdO W hb pb s0 s1 v0 v1 dg lim l0 l1 z lo hi
  oth : HdO W ob qb t0 t1 u0 u1 dg2 lim2 m0 m1 z2 lo2 hi2
  below : Below w.heap.size w W
section
variable {w : World} {hb pb s0 s1 : Nat} {v0 v1 : Value} {dg : Nat} {lim : Int} {l0 l1 : Row} {z : Nat} {lo hi : Int} {ob qb t0 t1 : Nat} {u0 u1 : Value} {dg2 : Nat} {lim2 : Int} {m0 m1 : Row} {z2 : Nat} {lo2 hi2 : Int} {W W' : World}
theorem H2C.next (h : H2C w hb pb s0 s1 v0 v1 dg lim l0 l1 z lo hi ob qb t0 t1 u0 u1 dg2 lim2 m0 m1 z2 lo2 hi2 W) (b : Below W.heap.size W W') : H2C w hb pb s0 s1 v0 v1 dg lim l0 l1 z lo hi ob qb t0 t1 u0 u1 dg2 lim2 m0 m1 z2 lo2 hi2 W' := ⟨h.hd.next b, h.oth.next b, h.below.trans (b.mono h.below.size)⟩
theorem H2C.drew (h : H2C w hb pb s0 s1 v0 v1 dg lim l0 l1 z lo hi ob qb t0 t1 u0 u1 dg2 lim2 m0 m1 z2 lo2 hi2 W) : H2C w hb pb s0 s1 v0 v1 dg lim l0 l1 z lo hi ob qb t0 t1 u0 u1 dg2 lim2 m0 m1 z2 lo2 hi2 W.drew := h.next (Below.refl _ _).drew
end

set_option maxHeartbeats 8000000 in
theorem hdr_fits (w : World) (hb pb s0 s1 : Nat) (v0 v1 : Value) (dg : Nat) (lim : Int) (l0 l1 : Row) (z : Nat) (lo hi : Int) (ob qb t0 t1 : Nat) (u0 u1 : Value) (dg2 : Nat) (lim2 : Int) (m0 m1 : Row) (z2 : Nat) (lo2 hi2 : Int)
    (h : HdO w hb pb s0 s1 v0 v1 dg lim l0 l1 z lo hi) (k : HdO w ob qb t0 t1 u0 u1 dg2 lim2 m0 m1 z2 lo2 hi2) (hl0 : l0.length + m0.length ≤ 4000) (hl1 : l1.length + m1.length ≤ 4000) :
    Calls Tryz.prog 250 #[.pointer (some ⟨hb, 0, none⟩), .pointer (some ⟨ob, 0, none⟩)] w fun e w' => e = .returned (.bool true) ∧ Below w.heap.size w w' := by
  have H : H2C w hb pb s0 s1 v0 v1 dg lim l0 l1 z lo hi ob qb t0 t1 u0 u1 dg2 lim2 m0 m1 z2 lo2 hi2 w := ⟨h, k, Below.refl _ _⟩
  obtain ⟨c0, c1, c2, c3, c4, c5, c6, c7, f5, f6, f7⟩ := h.cells
  have HH := Lib.hid H
  clear h k H
  go_enter Tryz.func250, Tryz.ntmps250
  go_wp2_with fail
  clear c0 c1 c2 c3 c4 c5 c6 c7 f5 f6 f7
  go_loopg [14] 2 (fun g i wr => ∃ (q : Nat), i = .int .i64 (q : Int) ∧ q ≤ 2 ∧ 2 - q ≤ g ∧ H2C w hb pb s0 s1 v0 v1 dg lim l0 l1 z lo hi ob qb t0 t1 u0 u1 dg2 lim2 m0 m1 z2 lo2 hi2 wr)
  case atStart => exact ⟨0, rfl, by decide, by decide, HH.out⟩
  case round =>
    clear HH
    obtain ⟨r, rfl, hr, hgr, H⟩ := hrel
    by_cases k0 : r = 0
    · subst k0
      obtain ⟨Av, n, cv, hv, hn⟩ : ∃ A n cap, v0 = .slice A n cap ∧ n = l0.length := by
        rcases owns_shape H.hd.st0.own with ⟨hv, hn, _⟩ | ⟨g, cap, hv, _⟩
        · exact ⟨none, 0, 0, hv, hn.symm⟩
        · exact ⟨_, _, _, hv, rfl⟩
      have hlen := strip_len wr s0 Av n cv (by rw [← hv]; exact H.hd.st0.cells.2.1)
      obtain ⟨d0, d1, d2, d3, d4, d5, d6, d7, j5, j6, j7⟩ := H.oth.cells
      have hpr := pairs_any wr t0 u0 m0 H.oth.st0 (by omega)
      have HX := Lib.hid (And.intro H (And.intro hv hn))
      have hii := fun w => index174_0 (some ⟨s0, 0, none⟩) (some ⟨s1, 0, none⟩) w
      clear H hv hn
      go_wp2_with fail
      refine hlen.mono ?_
      rintro e w1 ⟨rfl, rfl⟩
      clear hlen
      go_wp2_with fail
      refine hpr.mono ?_
      rintro e w2 ⟨vp, rfl, o2, b2⟩
      obtain ⟨Ap, cp, hvp⟩ := owns_slice o2
      subst hvp
      obtain ⟨mn, hmn⟩ : ∃ mn, mn = m0.length := ⟨_, rfl⟩
      have HM := Lib.hid hmn
      have hnb : n + mn ≤ 4000 := by have := HX.out.2.2; omega
      have o2' := owns_base (base' := 0) o2 fun _ _ => Nat.zero_le _
      rw [← hmn] at o2' ⊢
      have HS := Lib.hid (And.intro (HX.out.1.next b2) o2')
      clear hpr o2 o2' b2 d0 d1 d2 d3 d4 d5 d6 d7 j5 j6 j7 hmn
      go_wp2_with fail
      go_loopg [7, 9, 28] mn (fun g y p i wr => ∃ (q N : Nat), i = .int .i64 (q : Int) ∧ y = .int .i64 (N : Int) ∧ q ≤ mn ∧ mn - q ≤ g ∧ N ≤ n + q ∧ H2C w hb pb s0 s1 v0 v1 dg lim l0 l1 z lo hi ob qb t0 t1 u0 u1 dg2 lim2 m0 m1 z2 lo2 hi2 wr ∧ wr.ownsRow 0 228 2 (.slice Ap mn cp) mn (rowC m0))
      case atStart => exact ⟨0, n, rfl, rfl, Nat.zero_le _, Nat.le_refl _, by omega, HS.out.1, HS.out.2⟩
      case round =>
        clear HS
        obtain ⟨q, N, rfl, rfl, hq, hg, hN, H, O1⟩ := hrel
        by_cases hqm : q < mn
        · have g1 : (q : Int) < (mn : Int) := by omega
          have hql : q < m0.length := by rw [← HM.out]; exact hqm
          rcases owns_shape O1 with ⟨_, hn0, _⟩ | ⟨g', cap, hv0, hnc, hcap, _, hgl⟩
          · omega
          simp only [Value.slice.injEq, true_and] at hv0
          obtain ⟨rfl, rfl⟩ := hv0
          obtain ⟨ix, hix⟩ : ∃ i, i = (m0[q]'hql).1 := ⟨_, rfl⟩
          obtain ⟨ct, hct⟩ : ∃ i, i = (m0[q]'hql).2 := ⟨_, rfl⟩
          have p0 : wr.cell? ⟨g', q * 2, none⟩ = some (.int .i64 (ix : Int)) := by rw [O1.cellAt _ (by omega), rowC_fst m0 q hql, hix]
          have p1 : wr.cell? ⟨g', q * 2 + 1, none⟩ = some (.int .u64 (ct : Int)) := by rw [O1.cellAt _ (by omega), rowC_snd m0 q hql, hct]
          have b1 : Below wr.heap.size wr (wr.alloc (.cells #[.int .i64 (ix : Int), .int .u64 (ct : Int)] 228)) := (Below.refl _ _).alloc (Nat.le_refl _) _
          have H1 := H.next b1
          have O2 := owns_below O1 b1 fun g hg => (O1.lt g hg).2
          have hat := at_any _ s0 v0 l0 ix H1.hd.st0 (by omega)
          obtain ⟨x, hx⟩ : ∃ x, x = rowAt l0 ix := ⟨_, rfl⟩
          rw [← hx] at hat
          have HT := Lib.hid (And.intro H1 O2)
          clear hx hix hct H O1 H1 O2 b1
          go_wp2_with fail
          refine hat.mono ?_
          rintro e w3 ⟨rfl, b3⟩
          have HT3 := Lib.hid (And.intro (HT.out.1.next b3) (owns_below HT.out.2 b3 fun g hg => (HT.out.2.lt g hg).2))
          clear hat b3 HT
          by_cases hx0 : x = 0
          · subst hx0
            go_wp2_with fail
            go_roundg (mn - (q + 1))
            case measure => omega
            exact ⟨q + 1, N + 1, by go_num, by go_num, by omega, Nat.le_refl _, by omega, HT3.out.1, HT3.out.2⟩
          · have gx : ((x : Int) == 0) = false := by simp; omega
            go_wp2_with fail
            go_roundg (mn - (q + 1))
            case measure => omega
            exact ⟨q + 1, N, by go_num, rfl, by omega, Nat.le_refl _, by omega, HT3.out.1, HT3.out.2⟩
        · have g1 : ¬ (q : Int) < (mn : Int) := by omega
          have g2 : ¬ (4096 : Int) < (N : Int) := by omega
          have HT := Lib.hid H
          clear H O1
          go_wp2_with fail
          go_roundg 1
          case measure => omega
          exact ⟨1, by go_num, by decide, by decide, HT.out⟩
    by_cases k1 : r = 1
    · subst k1
      obtain ⟨Av, n, cv, hv, hn⟩ : ∃ A n cap, v1 = .slice A n cap ∧ n = l1.length := by
        rcases owns_shape H.hd.st1.own with ⟨hv, hn, _⟩ | ⟨g, cap, hv, _⟩
        · exact ⟨none, 0, 0, hv, hn.symm⟩
        · exact ⟨_, _, _, hv, rfl⟩
      have hlen := strip_len wr s1 Av n cv (by rw [← hv]; exact H.hd.st1.cells.2.1)
      obtain ⟨d0, d1, d2, d3, d4, d5, d6, d7, j5, j6, j7⟩ := H.oth.cells
      have hpr := pairs_any wr t1 u1 m1 H.oth.st1 (by omega)
      have HX := Lib.hid (And.intro H (And.intro hv hn))
      have hii := fun w => index174_1 (some ⟨s0, 0, none⟩) (some ⟨s1, 0, none⟩) w
      clear H hv hn
      go_wp2_with fail
      refine hlen.mono ?_
      rintro e w1 ⟨rfl, rfl⟩
      clear hlen
      go_wp2_with fail
      refine hpr.mono ?_
      rintro e w2 ⟨vp, rfl, o2, b2⟩
      obtain ⟨Ap, cp, hvp⟩ := owns_slice o2
      subst hvp
      obtain ⟨mn, hmn⟩ : ∃ mn, mn = m1.length := ⟨_, rfl⟩
      have HM := Lib.hid hmn
      have hnb : n + mn ≤ 4000 := by have := HX.out.2.2; omega
      have o2' := owns_base (base' := 0) o2 fun _ _ => Nat.zero_le _
      rw [← hmn] at o2' ⊢
      have HS := Lib.hid (And.intro (HX.out.1.next b2) o2')
      clear hpr o2 o2' b2 d0 d1 d2 d3 d4 d5 d6 d7 j5 j6 j7 hmn
      go_wp2_with fail
      go_loopg [7, 9, 28] mn (fun g y p i wr => ∃ (q N : Nat), i = .int .i64 (q : Int) ∧ y = .int .i64 (N : Int) ∧ q ≤ mn ∧ mn - q ≤ g ∧ N ≤ n + q ∧ H2C w hb pb s0 s1 v0 v1 dg lim l0 l1 z lo hi ob qb t0 t1 u0 u1 dg2 lim2 m0 m1 z2 lo2 hi2 wr ∧ wr.ownsRow 0 228 2 (.slice Ap mn cp) mn (rowC m1))
      case atStart => exact ⟨0, n, rfl, rfl, Nat.zero_le _, Nat.le_refl _, by omega, HS.out.1, HS.out.2⟩
      case round =>
        clear HS
        obtain ⟨q, N, rfl, rfl, hq, hg, hN, H, O1⟩ := hrel
        by_cases hqm : q < mn
        · have g1 : (q : Int) < (mn : Int) := by omega
          have hql : q < m1.length := by rw [← HM.out]; exact hqm
          rcases owns_shape O1 with ⟨_, hn0, _⟩ | ⟨g', cap, hv0, hnc, hcap, _, hgl⟩
          · omega
          simp only [Value.slice.injEq, true_and] at hv0
          obtain ⟨rfl, rfl⟩ := hv0
          obtain ⟨ix, hix⟩ : ∃ i, i = (m1[q]'hql).1 := ⟨_, rfl⟩
          obtain ⟨ct, hct⟩ : ∃ i, i = (m1[q]'hql).2 := ⟨_, rfl⟩
          have p0 : wr.cell? ⟨g', q * 2, none⟩ = some (.int .i64 (ix : Int)) := by rw [O1.cellAt _ (by omega), rowC_fst m1 q hql, hix]
          have p1 : wr.cell? ⟨g', q * 2 + 1, none⟩ = some (.int .u64 (ct : Int)) := by rw [O1.cellAt _ (by omega), rowC_snd m1 q hql, hct]
          have b1 : Below wr.heap.size wr (wr.alloc (.cells #[.int .i64 (ix : Int), .int .u64 (ct : Int)] 228)) := (Below.refl _ _).alloc (Nat.le_refl _) _
          have H1 := H.next b1
          have O2 := owns_below O1 b1 fun g hg => (O1.lt g hg).2
          have hat := at_any _ s1 v1 l1 ix H1.hd.st1 (by omega)
          obtain ⟨x, hx⟩ : ∃ x, x = rowAt l1 ix := ⟨_, rfl⟩
          rw [← hx] at hat
          have HT := Lib.hid (And.intro H1 O2)
          clear hx hix hct H O1 H1 O2 b1
          go_wp2_with fail
          refine hat.mono ?_
          rintro e w3 ⟨rfl, b3⟩
          have HT3 := Lib.hid (And.intro (HT.out.1.next b3) (owns_below HT.out.2 b3 fun g hg => (HT.out.2.lt g hg).2))
          clear hat b3 HT
          by_cases hx0 : x = 0
          · subst hx0
            go_wp2_with fail
            go_roundg (mn - (q + 1))
            case measure => omega
            exact ⟨q + 1, N + 1, by go_num, by go_num, by omega, Nat.le_refl _, by omega, HT3.out.1, HT3.out.2⟩
          · have gx : ((x : Int) == 0) = false := by simp; omega
            go_wp2_with fail
            go_roundg (mn - (q + 1))
            case measure => omega
            exact ⟨q + 1, N, by go_num, rfl, by omega, Nat.le_refl _, by omega, HT3.out.1, HT3.out.2⟩
        · have g1 : ¬ (q : Int) < (mn : Int) := by omega
          have g2 : ¬ (4096 : Int) < (N : Int) := by omega
          have HT := Lib.hid H
          clear H O1
          go_wp2_with fail
          go_roundg 0
          case measure => omega
          exact ⟨2, by go_num, by decide, by decide, HT.out⟩
    have hr2 : r = 2 := by omega
    subst hr2
    have HT := Lib.hid H.below
    clear H
    go_wp2_with fail
    go_ret
    exact ⟨rfl, HT.out⟩
end Go.Proofs.YtbejdajkkoapgaaGreatDoor

/-
  Contract of hdr.Join. Conditions: few values, the two sketches apart.
-/
set_option linter.unusedVariables false
set_option linter.unusedSimpArgs false
set_option maxRecDepth 100000
namespace Go.Proofs.YtbejdajkkoapgaaGreatDoor
open Go.RowKit Go.Lib

/-- while another sketch's pairs are added -/
structure HjC (w : World) (hb pb s0 s1 : Nat) (v0 v1 : Value) (dg : Nat) (lim : Int) (ob qb t0 t1 : Nat) (u0 u1 : Value) (dg2 : Nat) (lim2 : Int) (m0 m1 : Row) (z2 : Nat) (lo2 hi2 : Int) (a b : Row) (z : Nat) (lo hi : Int) (vp : Value) (m : Row) (W : World) : Prop where
  cur : ∃ v0' v1', HdO W hb pb s0 s1 v0' v1' dg lim a b z lo hi ∧ SubO w (OwnH hb pb s0 s1 v0 v1) (OwnH hb pb s0 s1 v0' v1') ∧ ∀ g, vp.ownBlock = some g → v0'.ownBlock ≠ some g ∧ v1'.ownBlock ≠ some g
  oth : HdO W ob qb t0 t1 u0 u1 dg2 lim2 m0 m1 z2 lo2 hi2
  away : Away (OwnH hb pb s0 s1 v0 v1) w W
  row : W.ownsRow 0 228 2 vp m.length (rowC m)
section
variable {w : World} {hb pb s0 s1 : Nat} {v0 v1 : Value} {dg : Nat} {lim : Int} {ob qb t0 t1 : Nat} {u0 u1 : Value} {dg2 : Nat} {lim2 : Int} {m0 m1 : Row} {z2 : Nat} {lo2 hi2 : Int} {a b : Row} {z : Nat} {lo hi : Int} {vp : Value} {m : Row} {W W' : World}
/-- further on -/
theorem Away.then_below' {F : Nat → Prop} {w W w1 : World} (h : Away F w W) (k : Below W.heap.size W w1) : Away F w w1 :=
  ⟨k.os.trans h.os, k.tape.trans h.tape, k.output.trans h.output, Nat.le_trans h.size k.size, fun i hi hn => (k.block i (Nat.lt_of_lt_of_le hi h.size)).trans (h.block i hi hn)⟩
theorem HjC.next (h : HjC w hb pb s0 s1 v0 v1 dg lim ob qb t0 t1 u0 u1 dg2 lim2 m0 m1 z2 lo2 hi2 a b z lo hi vp m W) (k : Below W.heap.size W W') : HjC w hb pb s0 s1 v0 v1 dg lim ob qb t0 t1 u0 u1 dg2 lim2 m0 m1 z2 lo2 hi2 a b z lo hi vp m W' := by
  obtain ⟨⟨v0', v1', c1, c2, c3⟩, h2, h3, h4⟩ := h
  exact ⟨⟨v0', v1', c1.next k, c2, c3⟩, h2.next k, h3.then_below' k, owns_below h4 k fun g hg => (h4.lt g hg).2⟩
/-- another row of pairs to be added -/
theorem HjC.rowNew (h : HjC w hb pb s0 s1 v0 v1 dg lim ob qb t0 t1 u0 u1 dg2 lim2 m0 m1 z2 lo2 hi2 a b z lo hi vp m W) (k : Below W.heap.size W W') {vq : Value} {m' : Row} (o : W'.ownsRow W.heap.size 228 2 vq m'.length (rowC m')) : HjC w hb pb s0 s1 v0 v1 dg lim ob qb t0 t1 u0 u1 dg2 lim2 m0 m1 z2 lo2 hi2 a b z lo hi vq m' W' := by
  have h' := h.next k
  obtain ⟨⟨v0', v1', c1, c2, c3⟩, h2, h3, h4⟩ := h
  exact ⟨⟨v0', v1', c1.next k, c2, fun g hg => ⟨fun e => by have := (o.lt g hg).1; have := (c1.st0.own.lt g e).2; omega, fun e => by have := (o.lt g hg).1; have := (c1.st1.own.lt g e).2; omega⟩⟩, h'.oth, h'.away, owns_base o fun _ _ => Nat.zero_le _⟩
theorem HjC.addTo0 (h : HjC w hb pb s0 s1 v0 v1 dg lim ob qb t0 t1 u0 u1 dg2 lim2 m0 m1 z2 lo2 hi2 a b z lo hi vp m W) (hlt : ∀ i, OwnH ob qb t0 t1 u0 u1 i → i < w.heap.size ∧ ¬ OwnH hb pb s0 s1 v0 v1 i) {x c : Nat} (hc : 1 ≤ c) (hs : rowTotal a + c ≤ 9223372036854775807) (hlen : a.length < 4096) :
    Calls Tryz.prog 93 #[.pointer (some ⟨s0, 0, none⟩), .int .i64 (x : Int), .int .u64 (c : Int)] W fun e w' => e = .returned (.int .i64 0) ∧ HjC w hb pb s0 s1 v0 v1 dg lim ob qb t0 t1 u0 u1 dg2 lim2 m0 m1 z2 lo2 hi2 (addL a x c) b z lo hi vp m w' := by
  obtain ⟨⟨v0', v1', c1, c2, c3⟩, h2, h3, h4⟩ := h
  refine (strip_add W s0 v0' a x c c1.st0 hc hs hlen).mono fun e w' hh => ?_
  obtain ⟨he, vn, S, A, K⟩ := hh
  obtain ⟨c4, c5⟩ := c1.add0 S A K
  have hown : ∀ i, i = s0 ∨ v0'.ownBlock = some i → OwnH hb pb s0 s1 v0' v1' i := by
    rintro i (e | e)
    · exact .inr (.inr (.inl e))
    · exact .inr (.inr (.inr (.inr (.inl e))))
  have hsub : ∀ i, i = s0 ∨ v0'.ownBlock = some i → OwnH hb pb s0 s1 v0 v1 i ∨ w.heap.size ≤ i := fun i hi => c2 i (hown i hi)
  refine ⟨he, ⟨vn, v1', c4, fun i hi => ?_, fun g hg => ?_⟩, h2.away A fun i hi e => ?_, h3.trans' A (fun _ _ h => h) (fun i hi e => ?_), owns_away h4 A fun g hg e => ?_⟩
  · rcases c5 i hi with e | e
    · exact c2 i e
    · exact .inr (Nat.le_trans h3.size e)
  · refine ⟨fun e => ?_, (c3 g hg).2⟩
    rcases K with e2 | ⟨g2, e2, e3⟩
    · exact (c3 g hg).1 (e2 ▸ e)
    · have := (h4.lt g hg).2
      rw [e2] at e; injection e with e; omega
  · have h5 := hlt i hi
    rcases hsub i e with e | e
    · exact h5.2 e
    · omega
  · rcases hsub i e with e | e
    · exact e
    · omega
  · rcases e with e | e
    · obtain ⟨cur, hcur⟩ := owns_blk h4 hg
      exact (hcur.ne c1.st0.blk (by decide)) e
    · exact (c3 g hg).1 e
theorem HjC.addTo1 (h : HjC w hb pb s0 s1 v0 v1 dg lim ob qb t0 t1 u0 u1 dg2 lim2 m0 m1 z2 lo2 hi2 a b z lo hi vp m W) (hlt : ∀ i, OwnH ob qb t0 t1 u0 u1 i → i < w.heap.size ∧ ¬ OwnH hb pb s0 s1 v0 v1 i) {x c : Nat} (hc : 1 ≤ c) (hs : rowTotal b + c ≤ 9223372036854775807) (hlen : b.length < 4096) :
    Calls Tryz.prog 93 #[.pointer (some ⟨s1, 0, none⟩), .int .i64 (x : Int), .int .u64 (c : Int)] W fun e w' => e = .returned (.int .i64 0) ∧ HjC w hb pb s0 s1 v0 v1 dg lim ob qb t0 t1 u0 u1 dg2 lim2 m0 m1 z2 lo2 hi2 a (addL b x c) z lo hi vp m w' := by
  obtain ⟨⟨v0', v1', c1, c2, c3⟩, h2, h3, h4⟩ := h
  refine (strip_add W s1 v1' b x c c1.st1 hc hs hlen).mono fun e w' hh => ?_
  obtain ⟨he, vn, S, A, K⟩ := hh
  obtain ⟨c4, c5⟩ := c1.add1 S A K
  have hown : ∀ i, i = s1 ∨ v1'.ownBlock = some i → OwnH hb pb s0 s1 v0' v1' i := by
    rintro i (e | e)
    · exact .inr (.inr (.inr (.inl e)))
    · exact .inr (.inr (.inr (.inr (.inr e))))
  have hsub : ∀ i, i = s1 ∨ v1'.ownBlock = some i → OwnH hb pb s0 s1 v0 v1 i ∨ w.heap.size ≤ i := fun i hi => c2 i (hown i hi)
  refine ⟨he, ⟨v0', vn, c4, fun i hi => ?_, fun g hg => ?_⟩, h2.away A fun i hi e => ?_, h3.trans' A (fun _ _ h => h) (fun i hi e => ?_), owns_away h4 A fun g hg e => ?_⟩
  · rcases c5 i hi with e | e
    · exact c2 i e
    · exact .inr (Nat.le_trans h3.size e)
  · refine ⟨(c3 g hg).1, fun e => ?_⟩
    rcases K with e2 | ⟨g2, e2, e3⟩
    · exact (c3 g hg).2 (e2 ▸ e)
    · have := (h4.lt g hg).2
      rw [e2] at e; injection e with e; omega
  · have h5 := hlt i hi
    rcases hsub i e with e | e
    · exact h5.2 e
    · omega
  · rcases hsub i e with e | e
    · exact e
    · omega
  · rcases e with e | e
    · obtain ⟨cur, hcur⟩ := owns_blk h4 hg
      exact (hcur.ne c1.st1.blk (by decide)) e
    · exact (c3 g hg).2 e
end

/-- what the join has, by rounds -/
def JoR (l0 l1 m0 m1 : Row) (r : Nat) : Row × Row := if r = 0 then (l0, l1) else if r = 1 then (joinL l0 m0, l1) else (joinL l0 m0, joinL l1 m1)
set_option maxHeartbeats 16000000 in
theorem hdr_join_yes (w : World) (hb pb s0 s1 : Nat) (v0 v1 : Value) (dg : Nat) (lim : Int) (l0 l1 : Row) (z : Nat) (lo hi : Int) (ob qb t0 t1 : Nat) (u0 u1 : Value) (lim2 : Int) (m0 m1 : Row) (z2 : Nat) (lo2 hi2 : Int)
    (h : HdO w hb pb s0 s1 v0 v1 dg lim l0 l1 z lo hi) (k : HdO w ob qb t0 t1 u0 u1 dg lim2 m0 m1 z2 lo2 hi2) (hap : ∀ i, OwnH hb pb s0 s1 v0 v1 i → ¬ OwnH ob qb t0 t1 u0 u1 i) (hlo2 : I64 lo2) (hhi2 : I64 hi2) (hl : 0 ≤ lim) (hlim : lim = 0 ∨ max (Sg.mag lo2) (Sg.mag hi2) ≤ lim)
    (hl0 : l0.length + m0.length ≤ 4000) (hl1 : l1.length + m1.length ≤ 4000) (hT : hdT l0 l1 z + hdT m0 m1 z2 ≤ 9223372036854775807) (hne : hdT m0 m1 z2 ≠ 0) :
    Calls Tryz.prog 246 #[.pointer (some ⟨hb, 0, none⟩), .pointer (some ⟨ob, 0, none⟩)] w fun e w' => e = .returned (.int .i64 0) ∧ HdTo w hb pb s0 s1 v0 v1 dg lim (joinL l0 m0) (joinL l1 m1) (z + z2) (loF (hdT l0 l1 z) lo lo2) (hiF (hdT l0 l1 z) hi hi2) w' := by
  have H : H2C w hb pb s0 s1 v0 v1 dg lim l0 l1 z lo hi ob qb t0 t1 u0 u1 dg lim2 m0 m1 z2 lo2 hi2 w := ⟨h, k, Below.refl _ _⟩
  have HLT := Lib.hid (show ∀ i, OwnH ob qb t0 t1 u0 u1 i → i < w.heap.size ∧ ¬ OwnH hb pb s0 s1 v0 v1 i from fun i hi => ⟨k.lt i hi, fun e => hap i e hi⟩)
  have hF0 := k.st0.full
  have hF1 := k.st1.full
  have hto := fun W (x : HdO W ob qb t0 t1 u0 u1 dg lim2 m0 m1 z2 lo2 hi2) => hdr_total W ob qb t0 t1 u0 u1 dg lim2 m0 m1 z2 lo2 hi2 x (by omega)
  have hth := fun W (x : HdO W hb pb s0 s1 v0 v1 dg lim l0 l1 z lo hi) => hdr_total W hb pb s0 s1 v0 v1 dg lim l0 l1 z lo hi x (by omega)
  have hen := fun W (x : HdO W hb pb s0 s1 v0 v1 dg lim l0 l1 z lo hi) => hdr_ends W hb pb s0 s1 v0 v1 dg lim l0 l1 z lo hi x (by omega) lo2 hi2
  have hfi := fun W (x : H2C w hb pb s0 s1 v0 v1 dg lim l0 l1 z lo hi ob qb t0 t1 u0 u1 dg lim2 m0 m1 z2 lo2 hi2 W) => hdr_fits W hb pb s0 s1 v0 v1 dg lim l0 l1 z lo hi ob qb t0 t1 u0 u1 dg lim2 m0 m1 z2 lo2 hi2 x.hd x.oth hl0 hl1
  unfold I64 at hlo2 hhi2
  have ho1 := fun W => Sg.of_any lo2 W hlo2.1 hlo2.2
  have ho2 := fun W => Sg.of_any hi2 W hhi2.1 hhi2.2
  have htl0 : rowTotal l0 + rowTotal m0 ≤ hdT l0 l1 z + hdT m0 m1 z2 := by unfold hdT; omega
  have htl1 : rowTotal l1 + rowTotal m1 ≤ hdT l0 l1 z + hdT m0 m1 z2 := by unfold hdT; omega
  have hzz : z + z2 ≤ hdT l0 l1 z + hdT m0 m1 z2 := by unfold hdT; omega
  obtain ⟨lo', hlo'⟩ : ∃ x, x = loF (hdT l0 l1 z) lo lo2 := ⟨_, rfl⟩
  obtain ⟨hi', hhi'⟩ : ∃ x, x = hiF (hdT l0 l1 z) hi hi2 := ⟨_, rfl⟩
  rw [← hlo', ← hhi'] at hen ⊢
  obtain ⟨T, hTT⟩ : ∃ T, T = hdT l0 l1 z := ⟨_, rfl⟩
  obtain ⟨T2, hT2⟩ : ∃ T, T = hdT m0 m1 z2 := ⟨_, rfl⟩
  rw [← hTT] at hth hT htl0 htl1 hzz
  rw [← hT2] at hto hT hne htl0 htl1 hzz
  have hpl := fun W b => plus_any W b T T2 hT
  have g0 : ((T2 : Int) == 0) = false := by simp; omega
  generalize Sg.mag lo2 = a1 at *
  generalize Sg.mag hi2 = a2 at *
  generalize Sg.neg lo2 = n1 at *
  generalize Sg.neg hi2 = n2 at *
  have e1 : IntKind.u64.wrap ((z : Int) + (z2 : Int)) = ((z + z2 : Nat) : Int) := by rw [← Int.natCast_add]; exact Wd.wrapN _ (by omega)
  have HE := Lib.hid e1
  have gl : 0 < lim ∧ ¬ lim < max a1 a2 ∨ ¬ 0 < lim := by omega
  have HG := Lib.hid gl
  clear h k hap hlo' hhi' hTT hT2 e1 gl hlim hl hlo2 hhi2 hne
  go_enter Tryz.func246, Tryz.ntmps246
  go_upto_region 3 with fail
  refine wp_region_quiet_litC (C := H2C w hb pb s0 s1 v0 v1 dg lim l0 l1 z lo hi ob qb t0 t1 u0 u1 dg lim2 m0 m1 z2 lo2 hi2) (by kernel_rfl) (by kernel_rfl) H.drew ?_
  repeat (first | go_big_quiet_skip | (go_big_quiet_want; go_big_quiet_op; first | go_big_quiet_on | (refine quiet_const ?_; go_big_quiet_on)))
  go_big_quiet_want
  refine ⟨.int .i64 (dg : Int), fun wx hx => ?_, ?_⟩
  · obtain ⟨c0, c1, c2, c3, c4, c5, c6, c7, f5, f6, f7⟩ := hx.hd.cells
    go_simp
  go_big_quiet_on
  simp only [Act.put, List.setIfInBounds_toArray, List.set_cons_zero, List.set_cons_succ]
  repeat (first | go_big_quiet_skip | (go_big_quiet_want; go_big_quiet_op; first | go_big_quiet_on | (refine quiet_const ?_; go_big_quiet_on)))
  go_big_quiet_want
  refine ⟨.int .i64 (dg : Int), fun wx hx => ?_, ?_⟩
  · obtain ⟨c0, c1, c2, c3, c4, c5, c6, c7, f5, f6, f7⟩ := hx.oth.cells
    go_simp
  go_big_quiet_on
  simp only [Act.put, List.setIfInBounds_toArray, List.set_cons_zero, List.set_cons_succ]
  repeat (first | go_big_quiet_skip | (go_big_quiet_want; go_big_quiet_op; first | go_big_quiet_on | (refine quiet_const ?_; go_big_quiet_on)))
  refine wpQuiet_nil ?_
  intro W1 H1
  clear H
  have ht1 := hto W1 H1.oth
  have HH1 := Lib.hid H1
  clear H1
  go_wp2_with fail
  refine ht1.mono ?_
  rintro e w2 ⟨rfl, b2⟩
  have H2 := HH1.out.next b2
  obtain ⟨d0, d1, d2, d3, d4, d5, d6, d7, j5, j6, j7⟩ := H2.oth.cells
  obtain ⟨c0, c1, c2, c3, c4, c5, c6, c7, f5, f6, f7⟩ := H2.hd.cells
  have ht2 := hth w2 H2.hd
  have HH2 := Lib.hid H2
  clear H2 b2 HH1 ht1
  rcases HG.out with ⟨g3, g4⟩ | g3
  all_goals (
    go_wp2_with fail
    refine (ho1 _).mono ?_
    rintro e w3 ⟨rfl, rfl⟩
    go_wp2_with fail
    refine (ho2 _).mono ?_
    rintro e w3 ⟨rfl, rfl⟩
    go_wp2_with fail
    refine ht2.mono ?_
    rintro e w3 ⟨rfl, b3⟩
    have H3 := HH2.out.next b3
    have ht3 := hto w3 H3.oth
    have HH3 := Lib.hid H3
    clear H3 b3 HH2 ht2 c0 c1 c2 c3 c4 c5 c6 c7 f5 f6 f7 d0 d1 d2 d3 d4 d5 d6 d7 j5 j6 j7
    go_wp2_with fail
    refine ht3.mono ?_
    rintro e w4 ⟨rfl, b4⟩
    have H4 := HH3.out.next b4
    have HH4 := Lib.hid H4
    clear H4 b4 HH3 ht3
    go_wp2_with fail
    refine (hpl _ _ (by simp) (by simp)).mono ?_
    rintro e w5 ⟨rfl, rfl⟩
    have H5 := HH4.out.next ((Below.refl _ _).alloc (Nat.le_refl _) (.cells #[.int .u64 (T : Int), .int .u64 (T2 : Int)] 23))
    have hf5 := hfi _ H5
    have HH5 := Lib.hid H5
    clear H5 HH4
    go_wp2_with fail
    refine hf5.mono ?_
    rintro e w6 ⟨rfl, b6⟩
    have H6 := HH5.out.next b6
    clear hf5 b6 HH5
    go_upto_region 14 with fail
    refine wp_region_quiet_tail 9 (C := H2C w hb pb s0 s1 v0 v1 dg lim l0 l1 z lo hi ob qb t0 t1 u0 u1 dg lim2 m0 m1 z2 lo2 hi2) (by kernel_rfl) (by kernel_rfl) H6.drew ?_
    simp only [List.take_succ_cons, List.take_zero, List.drop_succ_cons, List.drop_zero]
    repeat (first | go_big_quiet_skip | (go_big_quiet_want; go_big_quiet_op; first | go_big_quiet_on | (refine quiet_const ?_; go_big_quiet_on)))
    go_big_quiet_want
    refine ⟨.int .i64 lo2, fun wx hx => ?_, ?_⟩
    · obtain ⟨c0, c1, c2, c3, c4, c5, c6, c7, f5, f6, f7⟩ := hx.oth.cells
      go_simp
    go_big_quiet_on
    simp only [Act.put, List.setIfInBounds_toArray, List.set_cons_zero, List.set_cons_succ]
    repeat (first | go_big_quiet_skip | (go_big_quiet_want; go_big_quiet_op; first | go_big_quiet_on | (refine quiet_const ?_; go_big_quiet_on)))
    go_big_quiet_want
    refine ⟨.int .i64 hi2, fun wx hx => ?_, ?_⟩
    · obtain ⟨c0, c1, c2, c3, c4, c5, c6, c7, f5, f6, f7⟩ := hx.oth.cells
      go_simp
    go_big_quiet_on
    simp only [Act.put, List.setIfInBounds_toArray, List.set_cons_zero, List.set_cons_succ]
    repeat (first | go_big_quiet_skip | (go_big_quiet_want; go_big_quiet_op; first | go_big_quiet_on | (refine quiet_const ?_; go_big_quiet_on)))
    refine wpQuiet_nil ?_
    intro W7 H7
    clear H6
    have he7 := hen W7 H7.hd
    have HH7 := Lib.hid H7
    clear H7
    go_wp2_with fail
    refine he7.mono ?_
    rintro e w8 ⟨rfl, D8, A8⟩
    have J8 : HjC w hb pb s0 s1 v0 v1 dg lim ob qb t0 t1 u0 u1 dg lim2 m0 m1 z2 lo2 hi2 l0 l1 z lo' hi' (.slice none 0 0) [] w8 := by
      refine ⟨⟨v0, v1, D8, fun _ h => .inl h, fun g hg => by simp [Value.ownBlock] at hg⟩, HH7.out.oth.away A8 fun i hi e => (HLT.out i hi).2 (.inl e), (Away.of_below (F := OwnH hb pb s0 s1 v0 v1) HH7.out.below).trans' A8 (fun _ _ h => h) (fun i _ e => .inl e), World.ownsRow_nil _ _ _ _⟩
    obtain ⟨c0, c1, c2, c3, c4, c5, c6, c7, f5, f6, f7⟩ := D8.cells
    have HJ8 := Lib.hid J8
    clear he7 HH7 D8 A8 J8
    go_wp2_with fail
    clear c0 c1 c2 c3 c4 c5 c6 c7 f5 f6 f7
    go_loopg [14, 102] 2 (fun g p i wr => ∃ (r : Nat) (vp : Value) (m : Row), i = .int .i64 (r : Int) ∧ r ≤ 2 ∧ 2 - r ≤ g ∧ HjC w hb pb s0 s1 v0 v1 dg lim ob qb t0 t1 u0 u1 dg lim2 m0 m1 z2 lo2 hi2 (JoR l0 l1 m0 m1 r).1 (JoR l0 l1 m0 m1 r).2 z lo' hi' vp m wr)
    case atStart => exact ⟨0, _, _, rfl, by decide, by decide, HJ8.out⟩
    case round =>
      clear HJ8
      obtain ⟨r, vp, m, rfl, hr, hgr, H⟩ := hrel
      by_cases k0 : r = 0
      · subst k0
        replace H : HjC w hb pb s0 s1 v0 v1 dg lim ob qb t0 t1 u0 u1 dg lim2 m0 m1 z2 lo2 hi2 l0 l1 z lo' hi' vp m wr := H
        obtain ⟨d0, d1, d2, d3, d4, d5, d6, d7, j5, j6, j7⟩ := H.oth.cells
        have hpr := pairs_any wr t0 u0 m0 H.oth.st0 (by omega)
        have HX := Lib.hid H
        have hii := fun w => index174_0 (some ⟨s0, 0, none⟩) (some ⟨s1, 0, none⟩) w
        clear H
        go_wp2_with fail
        refine hpr.mono ?_
        rintro e w2 ⟨vq, rfl, o2, b2⟩
        obtain ⟨Ap, cp, hvp⟩ := owns_slice o2
        subst hvp
        obtain ⟨mn, hmn⟩ : ∃ mn, mn = m0.length := ⟨_, rfl⟩
        have HM := Lib.hid hmn
        have HS := Lib.hid (HX.out.rowNew b2 o2)
        rw [← hmn] at HS ⊢
        clear hpr o2 b2 d0 d1 d2 d3 d4 d5 d6 d7 j5 j6 j7 hmn HX
        go_wp2_with fail
        go_loopg [14, 114] mn (fun g p i wr => ∃ q : Nat, i = .int .i64 (q : Int) ∧ q ≤ mn ∧ mn - q ≤ g ∧ HjC w hb pb s0 s1 v0 v1 dg lim ob qb t0 t1 u0 u1 dg lim2 m0 m1 z2 lo2 hi2 (joinL l0 (m0.take q)) l1 z lo' hi' (.slice Ap mn cp) m0 wr)
        case atStart => exact ⟨0, rfl, Nat.zero_le _, Nat.le_refl _, by rw [List.take_zero]; exact HS.out⟩
        case round =>
          clear HS
          obtain ⟨q, rfl, hq, hg, H⟩ := hrel
          by_cases hqm : q < mn
          · have g1 : (q : Int) < (mn : Int) := by omega
            have hql : q < m0.length := by rw [← HM.out]; exact hqm
            have O1 := H.row
            rw [HM.out] at O1
            rcases owns_shape O1 with ⟨hv0, hn0, _⟩ | ⟨g', cap, hv0, hnc, hcap, _, hgl⟩
            · omega
            simp only [Value.slice.injEq, true_and] at hv0
            obtain ⟨rfl, rfl⟩ := hv0
            have hc1 := hF0 _ (List.getElem_mem hql)
            obtain ⟨ix, hix⟩ : ∃ i, i = (m0[q]'hql).1 := ⟨_, rfl⟩
            obtain ⟨ct, hct⟩ : ∃ i, i = (m0[q]'hql).2 := ⟨_, rfl⟩
            have hsn : joinL l0 (m0.take (q + 1)) = addL (joinL l0 (m0.take q)) ix ct := by
              rw [List.take_succ_eq_append_getElem hql, joinL_snoc, hix, hct]
            have hct2 : rowTotal (m0.take q) + ct ≤ rowTotal m0 := by
              have e : m0 = m0.take q ++ ((m0[q]'hql) :: m0.drop (q + 1)) := by rw [← List.drop_eq_getElem_cons hql, List.take_append_drop]
              have e2 : rowTotal m0 = rowTotal (m0.take q) + rowTotal ((m0[q]'hql) :: m0.drop (q + 1)) := by
                conv => lhs; rw [e]
                exact sumIf_append _ _ _
              have e3 : rowTotal ((m0[q]'hql) :: m0.drop (q + 1)) = (m0[q]'hql).2 + rowTotal (m0.drop (q + 1)) := by unfold rowTotal; rw [sumIf_cons]; simp
              omega
            have hjt := joinL_total l0 (m0.take q)
            have hjl := joinL_len l0 (m0.take q)
            rw [List.length_take] at hjl
            rw [← hct] at hc1
            have p0 : wr.cell? ⟨g', q * 2, none⟩ = some (.int .i64 (ix : Int)) := by rw [O1.cellAt _ (by omega), rowC_fst m0 q hql, hix]
            have p1 : wr.cell? ⟨g', q * 2 + 1, none⟩ = some (.int .u64 (ct : Int)) := by rw [O1.cellAt _ (by omega), rowC_snd m0 q hql, hct]
            have b1 : Below wr.heap.size wr (wr.alloc (.cells #[.int .i64 (ix : Int), .int .u64 (ct : Int)] 228)) := (Below.refl _ _).alloc (Nat.le_refl _) _
            have H1 := H.next b1
            have had := H1.addTo0 HLT.out (x := ix) (c := ct) hc1 (by omega) (by omega)
            rw [← hsn] at had
            clear hix hct H O1 H1 b1 hsn hct2 hjt hjl hc1
            go_wp2_with fail
            refine had.mono ?_
            rintro e w3 ⟨rfl, H3⟩
            have HT3 := Lib.hid H3
            clear had H3
            go_wp2_with fail
            go_roundg (mn - (q + 1))
            case measure => omega
            exact ⟨q + 1, by go_num, by omega, Nat.le_refl _, HT3.out⟩
          · have g1 : ¬ (q : Int) < (mn : Int) := by omega
            have hqe : q = m0.length := by have := HM.out; omega
            have HT := Lib.hid (show HjC w hb pb s0 s1 v0 v1 dg lim ob qb t0 t1 u0 u1 dg lim2 m0 m1 z2 lo2 hi2 (joinL l0 m0) l1 z lo' hi' (.slice Ap mn cp) m0 wr by rw [hqe, List.take_length] at H; exact H)
            clear H hqe
            go_wp2_with fail
            go_roundg 1
            case measure => omega
            exact ⟨1, _, _, by go_num, by decide, by decide, HT.out⟩
      by_cases k1 : r = 1
      · subst k1
        replace H : HjC w hb pb s0 s1 v0 v1 dg lim ob qb t0 t1 u0 u1 dg lim2 m0 m1 z2 lo2 hi2 (joinL l0 m0) l1 z lo' hi' vp m wr := H
        obtain ⟨d0, d1, d2, d3, d4, d5, d6, d7, j5, j6, j7⟩ := H.oth.cells
        have hpr := pairs_any wr t1 u1 m1 H.oth.st1 (by omega)
        have HX := Lib.hid H
        have hii := fun w => index174_1 (some ⟨s0, 0, none⟩) (some ⟨s1, 0, none⟩) w
        clear H
        go_wp2_with fail
        refine hpr.mono ?_
        rintro e w2 ⟨vq, rfl, o2, b2⟩
        obtain ⟨Ap, cp, hvp⟩ := owns_slice o2
        subst hvp
        obtain ⟨mn, hmn⟩ : ∃ mn, mn = m1.length := ⟨_, rfl⟩
        have HM := Lib.hid hmn
        have HS := Lib.hid (HX.out.rowNew b2 o2)
        rw [← hmn] at HS ⊢
        clear hpr o2 b2 d0 d1 d2 d3 d4 d5 d6 d7 j5 j6 j7 hmn HX
        go_wp2_with fail
        go_loopg [14, 114] mn (fun g p i wr => ∃ q : Nat, i = .int .i64 (q : Int) ∧ q ≤ mn ∧ mn - q ≤ g ∧ HjC w hb pb s0 s1 v0 v1 dg lim ob qb t0 t1 u0 u1 dg lim2 m0 m1 z2 lo2 hi2 (joinL l0 m0) (joinL l1 (m1.take q)) z lo' hi' (.slice Ap mn cp) m1 wr)
        case atStart => exact ⟨0, rfl, Nat.zero_le _, Nat.le_refl _, by rw [List.take_zero]; exact HS.out⟩
        case round =>
          clear HS
          obtain ⟨q, rfl, hq, hg, H⟩ := hrel
          by_cases hqm : q < mn
          · have g1 : (q : Int) < (mn : Int) := by omega
            have hql : q < m1.length := by rw [← HM.out]; exact hqm
            have O1 := H.row
            rw [HM.out] at O1
            rcases owns_shape O1 with ⟨hv0, hn0, _⟩ | ⟨g', cap, hv0, hnc, hcap, _, hgl⟩
            · omega
            simp only [Value.slice.injEq, true_and] at hv0
            obtain ⟨rfl, rfl⟩ := hv0
            have hc1 := hF1 _ (List.getElem_mem hql)
            obtain ⟨ix, hix⟩ : ∃ i, i = (m1[q]'hql).1 := ⟨_, rfl⟩
            obtain ⟨ct, hct⟩ : ∃ i, i = (m1[q]'hql).2 := ⟨_, rfl⟩
            have hsn : joinL l1 (m1.take (q + 1)) = addL (joinL l1 (m1.take q)) ix ct := by
              rw [List.take_succ_eq_append_getElem hql, joinL_snoc, hix, hct]
            have hct2 : rowTotal (m1.take q) + ct ≤ rowTotal m1 := by
              have e : m1 = m1.take q ++ ((m1[q]'hql) :: m1.drop (q + 1)) := by rw [← List.drop_eq_getElem_cons hql, List.take_append_drop]
              have e2 : rowTotal m1 = rowTotal (m1.take q) + rowTotal ((m1[q]'hql) :: m1.drop (q + 1)) := by
                conv => lhs; rw [e]
                exact sumIf_append _ _ _
              have e3 : rowTotal ((m1[q]'hql) :: m1.drop (q + 1)) = (m1[q]'hql).2 + rowTotal (m1.drop (q + 1)) := by unfold rowTotal; rw [sumIf_cons]; simp
              omega
            have hjt := joinL_total l1 (m1.take q)
            have hjl := joinL_len l1 (m1.take q)
            rw [List.length_take] at hjl
            rw [← hct] at hc1
            have p0 : wr.cell? ⟨g', q * 2, none⟩ = some (.int .i64 (ix : Int)) := by rw [O1.cellAt _ (by omega), rowC_fst m1 q hql, hix]
            have p1 : wr.cell? ⟨g', q * 2 + 1, none⟩ = some (.int .u64 (ct : Int)) := by rw [O1.cellAt _ (by omega), rowC_snd m1 q hql, hct]
            have b1 : Below wr.heap.size wr (wr.alloc (.cells #[.int .i64 (ix : Int), .int .u64 (ct : Int)] 228)) := (Below.refl _ _).alloc (Nat.le_refl _) _
            have H1 := H.next b1
            have had := H1.addTo1 HLT.out (x := ix) (c := ct) hc1 (by omega) (by omega)
            rw [← hsn] at had
            clear hix hct H O1 H1 b1 hsn hct2 hjt hjl hc1
            go_wp2_with fail
            refine had.mono ?_
            rintro e w3 ⟨rfl, H3⟩
            have HT3 := Lib.hid H3
            clear had H3
            go_wp2_with fail
            go_roundg (mn - (q + 1))
            case measure => omega
            exact ⟨q + 1, by go_num, by omega, Nat.le_refl _, HT3.out⟩
          · have g1 : ¬ (q : Int) < (mn : Int) := by omega
            have hqe : q = m1.length := by have := HM.out; omega
            have HT := Lib.hid (show HjC w hb pb s0 s1 v0 v1 dg lim ob qb t0 t1 u0 u1 dg lim2 m0 m1 z2 lo2 hi2 (joinL l0 m0) (joinL l1 m1) z lo' hi' (.slice Ap mn cp) m1 wr by rw [hqe, List.take_length] at H; exact H)
            clear H hqe
            go_wp2_with fail
            go_roundg 0
            case measure => omega
            exact ⟨2, _, _, by go_num, by decide, by decide, HT.out⟩
      have hr2 : r = 2 := by omega
      subst hr2
      replace H : HjC w hb pb s0 s1 v0 v1 dg lim ob qb t0 t1 u0 u1 dg lim2 m0 m1 z2 lo2 hi2 (joinL l0 m0) (joinL l1 m1) z lo' hi' vp m wr := H
      obtain ⟨d0, d1, d2, d3, d4, d5, d6, d7, j5, j6, j7⟩ := H.oth.cells
      obtain ⟨⟨v0', v1', D, U, _⟩, _, A, _⟩ := H
      obtain ⟨c0, c1, c2, c3, c4, c5, c6, c7, f5, f6, f7⟩ := D.cells
      have HF := Lib.hid (show HdTo w hb pb s0 s1 v0 v1 dg lim (joinL l0 m0) (joinL l1 m1) (z + z2) lo' hi' (wr.setCell ⟨hb, 5, none⟩ (.int .u64 ((z + z2 : Nat) : Int))).drew from
        ⟨v0', v1', (D.turn (z' := z + z2) (lo' := lo') (hi' := hi') 5 (.int .u64 ((z + z2 : Nat) : Int)) rfl).drew, U, (A.setCell ⟨hb, 5, none⟩ _ (.inl (.inl rfl))).drew⟩)
      have e1 := HE.out
      clear D U A
      go_wp2_with fail
      go_region
      all_goals (try go_wp2)
      all_goals go_ret
      all_goals exact ⟨rfl, by simpa [Int.natCast_add] using HF.out⟩)
end Go.Proofs.YtbejdajkkoapgaaGreatDoor

