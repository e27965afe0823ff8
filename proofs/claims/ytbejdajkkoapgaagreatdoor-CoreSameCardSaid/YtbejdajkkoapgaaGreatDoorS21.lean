/-
  Several texts in one: J18. What each proves, and on which conditions, stands at its head. Conditions: stated in each.
-/
import Derived.Test.YtbejdajkkoapgaaGreatDoorS06
import Derived.Test.YtbejdajkkoapgaaGreatDoorS20
import Derived.Test.YtbejdajkkoapgaaGreatDoorS18
/-
  Several texts in one: Hg, Nw, Hs. What each proves, and on which conditions, stands at its head. Conditions: stated in each.
-/
/-
  Contract of hdr.Put, of values below nought and above it. Conditions: few values.
-/
set_option linter.unusedVariables false
set_option linter.unusedSimpArgs false
set_option maxRecDepth 100000
namespace Go.Proofs.YtbejdajkkoapgaaGreatDoor
open Go.RowKit Go.Lib

set_option maxHeartbeats 4000000 in
theorem hdr_put_neg (w : World) (hb pb s0 s1 : Nat) (v0 v1 : Value) (dg : Nat) (lim : Int) (l0 l1 : Row) (z : Nat) (lo hi : Int) (h : HdO w hb pb s0 s1 v0 v1 dg lim l0 l1 z lo hi) (x : Int) (hx : I64 x) (h0 : x < 0) (hlim : lim = 0 ∨ Sg.mag x ≤ lim) (hl : 0 ≤ lim) (c : Nat) (hc : 1 ≤ c) (hT : hdT l0 l1 z + c ≤ 9223372036854775807) (hlen : l0.length < 4000) :
    Calls Tryz.prog 236 #[.pointer (some ⟨hb, 0, none⟩), .int .i64 x, .int .u64 (c : Int)] w fun e w' => e = .returned (.int .i64 0) ∧ HdTo w hb pb s0 s1 v0 v1 dg lim (addL l0 (ixH dg x) c) l1 z (loF (hdT l0 l1 z) lo x) (hiF (hdT l0 l1 z) hi x) w' := by
  obtain ⟨c0, c1, c2, c3, c4, c5, c6, c7, f5, f6, f7⟩ := h.cells
  have hx' := hx
  unfold I64 at hx'
  have ho := fun W => Sg.of_any x W hx'.1 hx'.2
  have g1 : ((c : Int) == 0) = false := by simp; omega
  have hto := hdr_total w hb pb s0 s1 v0 v1 dg lim l0 l1 z lo hi h (by omega)
  have hrt : rowTotal l0 ≤ hdT l0 l1 z := by unfold hdT; omega
  obtain ⟨T, hTT⟩ : ∃ T, T = hdT l0 l1 z := ⟨_, rfl⟩
  rw [← hTT] at hto hT hrt ⊢
  have hpl := fun W b => plus_any W b T c hT
  have hsd := fun W (k : HdO W hb pb s0 s1 v0 v1 dg lim l0 l1 z lo hi) => side_neg W k x hx h0
  have hat := fun W (k : HdO W hb pb s0 s1 v0 v1 dg lim l0 l1 z lo hi) => at_any W s0 v0 l0 (ixH dg x) k.st0 (by omega)
  have had := fun W (k : HdO W hb pb s0 s1 v0 v1 dg lim l0 l1 z (loF T lo x) (hiF T hi x)) => strip_add W s0 v0 l0 (ixH dg x) c k.st0 hc (by omega) (by omega)
  have g2 : lim = 0 ∨ ¬ lim < Sg.mag x := hlim.imp id (by omega)
  obtain ⟨q, hq⟩ : ∃ q, q = rowAt l0 (ixH dg x) := ⟨_, rfl⟩
  rw [← hq] at hat
  obtain ⟨A, n, cap, hv, hn⟩ : ∃ A n cap, v0 = .slice A n cap ∧ n = l0.length := by
    rcases owns_shape h.st0.own with ⟨hv, hn, _⟩ | ⟨g, cap, hv, _⟩
    · exact ⟨none, 0, 0, hv, hn.symm⟩
    · exact ⟨_, _, _, hv, rfl⟩
  have hlen1 := fun W (k : HdO W hb pb s0 s1 v0 v1 dg lim l0 l1 z lo hi) => strip_len W s0 A n cap (by rw [← hv]; exact k.st0.cells.2.1)
  have hn96 : ¬ (4096 : Int) ≤ (n : Int) := by omega
  have HH := Lib.hid (And.intro h hTT)
  have HHX := Lib.hid (And.intro hto (And.intro hpl (And.intro hsd (And.intro hat (And.intro had hlen1)))))
  generalize Sg.mag x = m at g2 ho
  generalize Sg.neg x = ng at ho
  generalize ixH dg x = ix at *
  clear h hTT hl hx hx' hlim hq hv hn hto hpl hsd hat had hlen1 hlen h0
  have g3 : 0 < lim ∧ ¬ lim < m ∨ ¬ 0 < lim := by omega
  clear g2
  rcases g3 with ⟨g3, g4⟩ | g3
  all_goals (
    go_enter Tryz.func236, Tryz.ntmps236
    go_wp2_with fail
    refine (ho _).mono ?_
    rintro e w1 ⟨rfl, rfl⟩
    go_wp2_with fail
    refine HHX.out.1.mono ?_
    rintro e w1 ⟨rfl, b1⟩
    have H1 := HH.out.1.next b1
    have HB1 := Lib.hid (And.intro H1 b1)
    clear H1 b1 c0 c1 c2 c3 c4 c5 c6 c7 f5 f6 f7
    go_wp2_with fail
    refine (HHX.out.2.1 _ _ (by simp) (by simp)).mono ?_
    rintro e w2 ⟨rfl, rfl⟩
    have B2 : Below w1.heap.size w1 (w1.alloc (.cells #[.int .u64 (T : Int), .int .u64 (c : Int)] 23)) := (Below.refl _ _).alloc (Nat.le_refl _) _
    have H2 := HB1.out.1.next B2
    have hsd := HHX.out.2.2.1 _ H2
    have HB2 := Lib.hid (And.intro H2 (HB1.out.2.trans (B2.mono HB1.out.2.size)))
    clear B2 H2 HB1 ho
    go_wp2_with fail
    refine hsd.mono ?_
    rintro e w3 ⟨rfl, b3⟩
    have H3 := HB2.out.1.next b3
    have hat := HHX.out.2.2.2.1 _ H3
    have HB3 := Lib.hid (And.intro H3 (HB2.out.2.trans (b3.mono HB2.out.2.size)))
    clear H3 b3 HB2 hsd
    go_wp2_with fail
    refine hat.mono ?_
    rintro e w4 ⟨rfl, b4⟩
    have H4 := HB3.out.1.next b4
    have hln := HHX.out.2.2.2.2.2 _ H4
    have hen := hdr_ends w4 hb pb s0 s1 v0 v1 dg lim l0 l1 z lo hi H4 (by rw [← HH.out.2]; omega) x x
    rw [← HH.out.2] at hen
    have HB4 := Lib.hid (HB3.out.2.trans (b4.mono HB3.out.2.size))
    clear H4 b4 HB3 hat
    by_cases hq0 : q = 0
    · subst hq0
      go_wp2_with fail
      refine hln.mono ?_
      rintro e w5 ⟨rfl, rfl⟩
      clear hln
      go_wp2_with fail
      refine hen.mono ?_
      rintro e w5 ⟨rfl, H5, a5⟩
      have hadd := HHX.out.2.2.2.2.1 _ H5
      have HB5 := Lib.hid (And.intro H5 ((Away.of_below (F := OwnH hb pb s0 s1 v0 v1) HB4.out).trans' a5 (fun _ _ h => h) (fun k _ e => .inl e)))
      clear H5 a5 hen HB4
      go_wp2_with fail
      refine hadd.mono ?_
      rintro e w6 ⟨rfl, v', S6, a6, k6⟩
      have HF := Lib.hid (And.intro S6 (And.intro a6 k6))
      clear hadd S6 a6 k6
      go_wp2_with fail
      go_ret
      obtain ⟨S6, a6, k6⟩ := HF.out
      obtain ⟨H5, A5⟩ := HB5.out
      obtain ⟨H6, U6⟩ := H5.add0 S6 a6 k6
      refine ⟨rfl, v', v1, H6, fun k hk => (U6 k hk).imp id fun g => Nat.le_trans A5.size g, A5.trans' a6 (fun _ _ h => h) (fun k _ e => ?_)⟩
      rcases e with e | e
      · exact .inr (.inr (.inl e))
      · exact .inr (.inr (.inr (.inr (.inl e))))
    · have gq : ((q : Int) == 0) = false := by simp; omega
      clear hln
      go_wp2_with fail
      refine hen.mono ?_
      rintro e w5 ⟨rfl, H5, a5⟩
      have hadd := HHX.out.2.2.2.2.1 _ H5
      have HB5 := Lib.hid (And.intro H5 ((Away.of_below (F := OwnH hb pb s0 s1 v0 v1) HB4.out).trans' a5 (fun _ _ h => h) (fun k _ e => .inl e)))
      clear H5 a5 hen HB4
      go_wp2_with fail
      refine hadd.mono ?_
      rintro e w6 ⟨rfl, v', S6, a6, k6⟩
      have HF := Lib.hid (And.intro S6 (And.intro a6 k6))
      clear hadd S6 a6 k6
      go_wp2_with fail
      go_ret
      obtain ⟨S6, a6, k6⟩ := HF.out
      obtain ⟨H5, A5⟩ := HB5.out
      obtain ⟨H6, U6⟩ := H5.add0 S6 a6 k6
      refine ⟨rfl, v', v1, H6, fun k hk => (U6 k hk).imp id fun g => Nat.le_trans A5.size g, A5.trans' a6 (fun _ _ h => h) (fun k _ e => ?_)⟩
      rcases e with e | e
      · exact .inr (.inr (.inl e))
      · exact .inr (.inr (.inr (.inr (.inl e)))))

set_option maxHeartbeats 4000000 in
theorem hdr_put_pos (w : World) (hb pb s0 s1 : Nat) (v0 v1 : Value) (dg : Nat) (lim : Int) (l0 l1 : Row) (z : Nat) (lo hi : Int) (h : HdO w hb pb s0 s1 v0 v1 dg lim l0 l1 z lo hi) (x : Int) (hx : I64 x) (h0 : 0 < x) (hlim : lim = 0 ∨ Sg.mag x ≤ lim) (hl : 0 ≤ lim) (c : Nat) (hc : 1 ≤ c) (hT : hdT l0 l1 z + c ≤ 9223372036854775807) (hlen : l1.length < 4000) :
    Calls Tryz.prog 236 #[.pointer (some ⟨hb, 0, none⟩), .int .i64 x, .int .u64 (c : Int)] w fun e w' => e = .returned (.int .i64 0) ∧ HdTo w hb pb s0 s1 v0 v1 dg lim l0 (addL l1 (ixH dg x) c) z (loF (hdT l0 l1 z) lo x) (hiF (hdT l0 l1 z) hi x) w' := by
  obtain ⟨c0, c1, c2, c3, c4, c5, c6, c7, f5, f6, f7⟩ := h.cells
  have hx' := hx
  unfold I64 at hx'
  have ho := fun W => Sg.of_any x W hx'.1 hx'.2
  have g1 : ((c : Int) == 0) = false := by simp; omega
  have hto := hdr_total w hb pb s0 s1 v0 v1 dg lim l0 l1 z lo hi h (by omega)
  have hrt : rowTotal l1 ≤ hdT l0 l1 z := by unfold hdT; omega
  obtain ⟨T, hTT⟩ : ∃ T, T = hdT l0 l1 z := ⟨_, rfl⟩
  rw [← hTT] at hto hT hrt ⊢
  have hpl := fun W b => plus_any W b T c hT
  have hsd := fun W (k : HdO W hb pb s0 s1 v0 v1 dg lim l0 l1 z lo hi) => side_pos W k x hx h0
  have hat := fun W (k : HdO W hb pb s0 s1 v0 v1 dg lim l0 l1 z lo hi) => at_any W s1 v1 l1 (ixH dg x) k.st1 (by omega)
  have had := fun W (k : HdO W hb pb s0 s1 v0 v1 dg lim l0 l1 z (loF T lo x) (hiF T hi x)) => strip_add W s1 v1 l1 (ixH dg x) c k.st1 hc (by omega) (by omega)
  have g2 : lim = 0 ∨ ¬ lim < Sg.mag x := hlim.imp id (by omega)
  obtain ⟨q, hq⟩ : ∃ q, q = rowAt l1 (ixH dg x) := ⟨_, rfl⟩
  rw [← hq] at hat
  obtain ⟨A, n, cap, hv, hn⟩ : ∃ A n cap, v1 = .slice A n cap ∧ n = l1.length := by
    rcases owns_shape h.st1.own with ⟨hv, hn, _⟩ | ⟨g, cap, hv, _⟩
    · exact ⟨none, 0, 0, hv, hn.symm⟩
    · exact ⟨_, _, _, hv, rfl⟩
  have hlen1 := fun W (k : HdO W hb pb s0 s1 v0 v1 dg lim l0 l1 z lo hi) => strip_len W s1 A n cap (by rw [← hv]; exact k.st1.cells.2.1)
  have hn96 : ¬ (4096 : Int) ≤ (n : Int) := by omega
  have HH := Lib.hid (And.intro h hTT)
  have HHX := Lib.hid (And.intro hto (And.intro hpl (And.intro hsd (And.intro hat (And.intro had hlen1)))))
  generalize Sg.mag x = m at g2 ho
  generalize Sg.neg x = ng at ho
  generalize ixH dg x = ix at *
  clear h hTT hl hx hx' hlim hq hv hn hto hpl hsd hat had hlen1 hlen h0
  have g3 : 0 < lim ∧ ¬ lim < m ∨ ¬ 0 < lim := by omega
  clear g2
  rcases g3 with ⟨g3, g4⟩ | g3
  all_goals (
    go_enter Tryz.func236, Tryz.ntmps236
    go_wp2_with fail
    refine (ho _).mono ?_
    rintro e w1 ⟨rfl, rfl⟩
    go_wp2_with fail
    refine HHX.out.1.mono ?_
    rintro e w1 ⟨rfl, b1⟩
    have H1 := HH.out.1.next b1
    have HB1 := Lib.hid (And.intro H1 b1)
    clear H1 b1 c0 c1 c2 c3 c4 c5 c6 c7 f5 f6 f7
    go_wp2_with fail
    refine (HHX.out.2.1 _ _ (by simp) (by simp)).mono ?_
    rintro e w2 ⟨rfl, rfl⟩
    have B2 : Below w1.heap.size w1 (w1.alloc (.cells #[.int .u64 (T : Int), .int .u64 (c : Int)] 23)) := (Below.refl _ _).alloc (Nat.le_refl _) _
    have H2 := HB1.out.1.next B2
    have hsd := HHX.out.2.2.1 _ H2
    have HB2 := Lib.hid (And.intro H2 (HB1.out.2.trans (B2.mono HB1.out.2.size)))
    clear B2 H2 HB1 ho
    go_wp2_with fail
    refine hsd.mono ?_
    rintro e w3 ⟨rfl, b3⟩
    have H3 := HB2.out.1.next b3
    have hat := HHX.out.2.2.2.1 _ H3
    have HB3 := Lib.hid (And.intro H3 (HB2.out.2.trans (b3.mono HB2.out.2.size)))
    clear H3 b3 HB2 hsd
    go_wp2_with fail
    refine hat.mono ?_
    rintro e w4 ⟨rfl, b4⟩
    have H4 := HB3.out.1.next b4
    have hln := HHX.out.2.2.2.2.2 _ H4
    have hen := hdr_ends w4 hb pb s0 s1 v0 v1 dg lim l0 l1 z lo hi H4 (by rw [← HH.out.2]; omega) x x
    rw [← HH.out.2] at hen
    have HB4 := Lib.hid (HB3.out.2.trans (b4.mono HB3.out.2.size))
    clear H4 b4 HB3 hat
    by_cases hq0 : q = 0
    · subst hq0
      go_wp2_with fail
      refine hln.mono ?_
      rintro e w5 ⟨rfl, rfl⟩
      clear hln
      go_wp2_with fail
      refine hen.mono ?_
      rintro e w5 ⟨rfl, H5, a5⟩
      have hadd := HHX.out.2.2.2.2.1 _ H5
      have HB5 := Lib.hid (And.intro H5 ((Away.of_below (F := OwnH hb pb s0 s1 v0 v1) HB4.out).trans' a5 (fun _ _ h => h) (fun k _ e => .inl e)))
      clear H5 a5 hen HB4
      go_wp2_with fail
      refine hadd.mono ?_
      rintro e w6 ⟨rfl, v', S6, a6, k6⟩
      have HF := Lib.hid (And.intro S6 (And.intro a6 k6))
      clear hadd S6 a6 k6
      go_wp2_with fail
      go_ret
      obtain ⟨S6, a6, k6⟩ := HF.out
      obtain ⟨H5, A5⟩ := HB5.out
      obtain ⟨H6, U6⟩ := H5.add1 S6 a6 k6
      refine ⟨rfl, v0, v', H6, fun k hk => (U6 k hk).imp id fun g => Nat.le_trans A5.size g, A5.trans' a6 (fun _ _ h => h) (fun k _ e => ?_)⟩
      rcases e with e | e
      · exact .inr (.inr (.inr (.inl e)))
      · exact .inr (.inr (.inr (.inr (.inr e))))
    · have gq : ((q : Int) == 0) = false := by simp; omega
      clear hln
      go_wp2_with fail
      refine hen.mono ?_
      rintro e w5 ⟨rfl, H5, a5⟩
      have hadd := HHX.out.2.2.2.2.1 _ H5
      have HB5 := Lib.hid (And.intro H5 ((Away.of_below (F := OwnH hb pb s0 s1 v0 v1) HB4.out).trans' a5 (fun _ _ h => h) (fun k _ e => .inl e)))
      clear H5 a5 hen HB4
      go_wp2_with fail
      refine hadd.mono ?_
      rintro e w6 ⟨rfl, v', S6, a6, k6⟩
      have HF := Lib.hid (And.intro S6 (And.intro a6 k6))
      clear hadd S6 a6 k6
      go_wp2_with fail
      go_ret
      obtain ⟨S6, a6, k6⟩ := HF.out
      obtain ⟨H5, A5⟩ := HB5.out
      obtain ⟨H6, U6⟩ := H5.add1 S6 a6 k6
      refine ⟨rfl, v0, v', H6, fun k hk => (U6 k hk).imp id fun g => Nat.le_trans A5.size g, A5.trans' a6 (fun _ _ h => h) (fun k _ e => ?_)⟩
      rcases e with e | e
      · exact .inr (.inr (.inr (.inl e)))
      · exact .inr (.inr (.inr (.inr (.inr e)))))
end Go.Proofs.YtbejdajkkoapgaaGreatDoor

/-
  suite.bare for every kind; suite.New, Put, Join, Quantile, Total by what the kind's own core does. Conditions: stated in each.
-/
set_option linter.unusedVariables false
set_option linter.unusedSimpArgs false
set_option maxRecDepth 100000
namespace Go.Proofs.YtbejdajkkoapgaaGreatDoor
open Go.RowKit Go.Lib

def keepI (c : Bool) (a : Int) : Int := if c then a else 0
/-- a config's fields that its kind asks for -/
def bare1 (k a : Int) : Int := keepI (k == 1 || k == 4) a
def bare3 (k a : Int) : Int := keepI (k == 1) a
def bare4 (k a : Int) : Int := keepI (k == 1 || k == 6) a
def bare5 (k a : Int) : Int := keepI (k == 2) a
def bare7 (k a : Int) : Int := keepI (k == 3) a
def bare9 (k a : Int) : Int := keepI (k == 5) a
theorem keep_yes {c : Bool} {a : Int} (h : c = true) : keepI c a = a := by unfold keepI; rw [if_pos h]
theorem keep_no {c : Bool} {a : Int} (h : c = false) : keepI c a = 0 := by unfold keepI; rw [h]; rfl

theorem bare_1 (w : World) (a1 a2 a3 a4 a5 a6 a7 a8 a9 a10 : Int) :
    Calls Tryz.prog 29 #[.agg #[.int .i64 1, .int .u64 a1, .int .u64 a2, .int .i64 a3, .int .i64 a4, .int .i64 a5, .int .u64 a6, .int .i64 a7, .int .i64 a8, .int .i64 a9, .int .u64 a10]] w fun e w' => e = .returned (.agg #[.int .i64 1, .int .u64 a1, .int .u64 a2, .int .i64 a3, .int .i64 a4, .int .i64 0, .int .u64 0, .int .i64 0, .int .i64 0, .int .i64 0, .int .u64 0]) ∧ Below w.heap.size w w' := by
  go_enter Tryz.func29, Tryz.ntmps29
  go_wp2
  go_region
  all_goals (try go_wp2)
  all_goals (
    refine bodyPost_ret (v := .agg #[.int .i64 1, .int .u64 a1, .int .u64 a2, .int .i64 a3, .int .i64 a4, .int .i64 0, .int .u64 0, .int .i64 0, .int .i64 0, .int .i64 0, .int .u64 0]) (by simp [results, Tryz.results29, go_sem]) rfl ?_
    exact ⟨rfl, ((((Below.refl _ w).alloc (Nat.le_refl _) _).alloc (by simp) _).alloc (by simp; omega) _).drew⟩)

theorem bare_2 (w : World) (a1 a2 a3 a4 a5 a6 a7 a8 a9 a10 : Int) :
    Calls Tryz.prog 29 #[.agg #[.int .i64 2, .int .u64 a1, .int .u64 a2, .int .i64 a3, .int .i64 a4, .int .i64 a5, .int .u64 a6, .int .i64 a7, .int .i64 a8, .int .i64 a9, .int .u64 a10]] w fun e w' => e = .returned (.agg #[.int .i64 2, .int .u64 0, .int .u64 0, .int .i64 0, .int .i64 0, .int .i64 a5, .int .u64 a6, .int .i64 0, .int .i64 0, .int .i64 0, .int .u64 0]) ∧ Below w.heap.size w w' := by
  go_enter Tryz.func29, Tryz.ntmps29
  go_wp2
  go_region
  all_goals (try go_wp2)
  all_goals (
    refine bodyPost_ret (v := .agg #[.int .i64 2, .int .u64 0, .int .u64 0, .int .i64 0, .int .i64 0, .int .i64 a5, .int .u64 a6, .int .i64 0, .int .i64 0, .int .i64 0, .int .u64 0]) (by simp [results, Tryz.results29, go_sem]) rfl ?_
    exact ⟨rfl, ((((Below.refl _ w).alloc (Nat.le_refl _) _).alloc (by simp) _).alloc (by simp; omega) _).drew⟩)

theorem bare_3 (w : World) (a1 a2 a3 a4 a5 a6 a7 a8 a9 a10 : Int) :
    Calls Tryz.prog 29 #[.agg #[.int .i64 3, .int .u64 a1, .int .u64 a2, .int .i64 a3, .int .i64 a4, .int .i64 a5, .int .u64 a6, .int .i64 a7, .int .i64 a8, .int .i64 a9, .int .u64 a10]] w fun e w' => e = .returned (.agg #[.int .i64 3, .int .u64 0, .int .u64 0, .int .i64 0, .int .i64 0, .int .i64 0, .int .u64 0, .int .i64 a7, .int .i64 a8, .int .i64 0, .int .u64 0]) ∧ Below w.heap.size w w' := by
  go_enter Tryz.func29, Tryz.ntmps29
  go_wp2
  go_region
  all_goals (try go_wp2)
  all_goals (
    refine bodyPost_ret (v := .agg #[.int .i64 3, .int .u64 0, .int .u64 0, .int .i64 0, .int .i64 0, .int .i64 0, .int .u64 0, .int .i64 a7, .int .i64 a8, .int .i64 0, .int .u64 0]) (by simp [results, Tryz.results29, go_sem]) rfl ?_
    exact ⟨rfl, ((((Below.refl _ w).alloc (Nat.le_refl _) _).alloc (by simp) _).alloc (by simp; omega) _).drew⟩)

theorem bare_4 (w : World) (a1 a2 a3 a4 a5 a6 a7 a8 a9 a10 : Int) :
    Calls Tryz.prog 29 #[.agg #[.int .i64 4, .int .u64 a1, .int .u64 a2, .int .i64 a3, .int .i64 a4, .int .i64 a5, .int .u64 a6, .int .i64 a7, .int .i64 a8, .int .i64 a9, .int .u64 a10]] w fun e w' => e = .returned (.agg #[.int .i64 4, .int .u64 a1, .int .u64 a2, .int .i64 0, .int .i64 0, .int .i64 0, .int .u64 0, .int .i64 0, .int .i64 0, .int .i64 0, .int .u64 0]) ∧ Below w.heap.size w w' := by
  go_enter Tryz.func29, Tryz.ntmps29
  go_wp2
  refine bodyPost_ret (v := .agg #[.int .i64 4, .int .u64 a1, .int .u64 a2, .int .i64 0, .int .i64 0, .int .i64 0, .int .u64 0, .int .i64 0, .int .i64 0, .int .i64 0, .int .u64 0]) (by simp [results, Tryz.results29, go_sem]) rfl ?_
  exact ⟨rfl, (((Below.refl _ w).alloc (Nat.le_refl _) _).alloc (by simp) _).alloc (by simp; omega) _⟩

theorem bare_5 (w : World) (a1 a2 a3 a4 a5 a6 a7 a8 a9 a10 : Int) :
    Calls Tryz.prog 29 #[.agg #[.int .i64 5, .int .u64 a1, .int .u64 a2, .int .i64 a3, .int .i64 a4, .int .i64 a5, .int .u64 a6, .int .i64 a7, .int .i64 a8, .int .i64 a9, .int .u64 a10]] w fun e w' => e = .returned (.agg #[.int .i64 5, .int .u64 0, .int .u64 0, .int .i64 0, .int .i64 0, .int .i64 0, .int .u64 0, .int .i64 0, .int .i64 0, .int .i64 a9, .int .u64 a10]) ∧ Below w.heap.size w w' := by
  go_enter Tryz.func29, Tryz.ntmps29
  go_wp2
  go_region
  all_goals (try go_wp2)
  all_goals (
    refine bodyPost_ret (v := .agg #[.int .i64 5, .int .u64 0, .int .u64 0, .int .i64 0, .int .i64 0, .int .i64 0, .int .u64 0, .int .i64 0, .int .i64 0, .int .i64 a9, .int .u64 a10]) (by simp [results, Tryz.results29, go_sem]) rfl ?_
    exact ⟨rfl, ((((Below.refl _ w).alloc (Nat.le_refl _) _).alloc (by simp) _).alloc (by simp; omega) _).drew⟩)

theorem bare_6 (w : World) (a1 a2 a3 a4 a5 a6 a7 a8 a9 a10 : Int) :
    Calls Tryz.prog 29 #[.agg #[.int .i64 6, .int .u64 a1, .int .u64 a2, .int .i64 a3, .int .i64 a4, .int .i64 a5, .int .u64 a6, .int .i64 a7, .int .i64 a8, .int .i64 a9, .int .u64 a10]] w fun e w' => e = .returned (.agg #[.int .i64 6, .int .u64 0, .int .u64 0, .int .i64 0, .int .i64 a4, .int .i64 0, .int .u64 0, .int .i64 0, .int .i64 0, .int .i64 0, .int .u64 0]) ∧ Below w.heap.size w w' := by
  go_enter Tryz.func29, Tryz.ntmps29
  go_wp2
  refine bodyPost_ret (v := .agg #[.int .i64 6, .int .u64 0, .int .u64 0, .int .i64 0, .int .i64 a4, .int .i64 0, .int .u64 0, .int .i64 0, .int .i64 0, .int .i64 0, .int .u64 0]) (by simp [results, Tryz.results29, go_sem]) rfl ?_
  exact ⟨rfl, (((Below.refl _ w).alloc (Nat.le_refl _) _).alloc (by simp) _).alloc (by simp; omega) _⟩

theorem bare_0 (w : World) (a0 a1 a2 a3 a4 a5 a6 a7 a8 a9 a10 : Int) (h1 : (a0 == 1) = false) (h2 : (a0 == 2) = false) (h3 : (a0 == 3) = false) (h4 : (a0 == 4) = false) (h5 : (a0 == 5) = false) (h6 : (a0 == 6) = false) :
    Calls Tryz.prog 29 #[.agg #[.int .i64 a0, .int .u64 a1, .int .u64 a2, .int .i64 a3, .int .i64 a4, .int .i64 a5, .int .u64 a6, .int .i64 a7, .int .i64 a8, .int .i64 a9, .int .u64 a10]] w fun e w' => e = .returned (.agg #[.int .i64 a0, .int .u64 0, .int .u64 0, .int .i64 0, .int .i64 0, .int .i64 0, .int .u64 0, .int .i64 0, .int .i64 0, .int .i64 0, .int .u64 0]) ∧ Below w.heap.size w w' := by
  go_enter Tryz.func29, Tryz.ntmps29
  go_wp2
  refine bodyPost_ret (v := .agg #[.int .i64 a0, .int .u64 0, .int .u64 0, .int .i64 0, .int .i64 0, .int .i64 0, .int .u64 0, .int .i64 0, .int .i64 0, .int .i64 0, .int .u64 0]) (by simp [results, Tryz.results29, go_sem]) rfl ?_
  exact ⟨rfl, (((Below.refl _ w).alloc (Nat.le_refl _) _).alloc (by simp) _).alloc (by simp; omega) _⟩

theorem bare_all (w : World) (a0 a1 a2 a3 a4 a5 a6 a7 a8 a9 a10 : Int) :
    Calls Tryz.prog 29 #[.agg #[.int .i64 a0, .int .u64 a1, .int .u64 a2, .int .i64 a3, .int .i64 a4, .int .i64 a5, .int .u64 a6, .int .i64 a7, .int .i64 a8, .int .i64 a9, .int .u64 a10]] w fun e w' => e = .returned (.agg #[.int .i64 a0, .int .u64 (bare1 a0 a1), .int .u64 (bare1 a0 a2), .int .i64 (bare3 a0 a3), .int .i64 (bare4 a0 a4), .int .i64 (bare5 a0 a5), .int .u64 (bare5 a0 a6), .int .i64 (bare7 a0 a7), .int .i64 (bare7 a0 a8), .int .i64 (bare9 a0 a9), .int .u64 (bare9 a0 a10)]) ∧ Below w.heap.size w w' := by
  by_cases h1 : a0 = 1
  · subst h1; exact bare_1 w a1 a2 a3 a4 a5 a6 a7 a8 a9 a10
  by_cases h2 : a0 = 2
  · subst h2; exact bare_2 w a1 a2 a3 a4 a5 a6 a7 a8 a9 a10
  by_cases h3 : a0 = 3
  · subst h3; exact bare_3 w a1 a2 a3 a4 a5 a6 a7 a8 a9 a10
  by_cases h4 : a0 = 4
  · subst h4; exact bare_4 w a1 a2 a3 a4 a5 a6 a7 a8 a9 a10
  by_cases h5 : a0 = 5
  · subst h5; exact bare_5 w a1 a2 a3 a4 a5 a6 a7 a8 a9 a10
  by_cases h6 : a0 = 6
  · subst h6; exact bare_6 w a1 a2 a3 a4 a5 a6 a7 a8 a9 a10
  have g1 : (a0 == 1) = false := by simp [h1]
  have g2 : (a0 == 2) = false := by simp [h2]
  have g3 : (a0 == 3) = false := by simp [h3]
  have g4 : (a0 == 4) = false := by simp [h4]
  have g5 : (a0 == 5) = false := by simp [h5]
  have g6 : (a0 == 6) = false := by simp [h6]
  have h := bare_0 w a0 a1 a2 a3 a4 a5 a6 a7 a8 a9 a10 g1 g2 g3 g4 g5 g6
  unfold bare1 bare3 bare4 bare5 bare7 bare9 keepI
  rw [g1, g2, g3, g4, g5, g6]
  exact h

/-- a sketch of any kind -/
def skG (a0 a1 a2 a3 a4 a5 a6 a7 a8 a9 a10 : Int) (T : TypeId) (db : Nat) : Array Value := #[.int .i64 a0, .int .u64 a1, .int .u64 a2, .int .i64 a3, .int .i64 a4, .int .i64 a5, .int .u64 a6, .int .i64 a7, .int .i64 a8, .int .i64 a9, .int .u64 a10, .iface T (.agg #[.pointer (some ⟨db, 0, none⟩)])]
/-- a config in memory -/
structure CfA (w : World) (b : Nat) (a0 a1 a2 a3 a4 a5 a6 a7 a8 a9 a10 : Int) (W : World) : Prop where
  blk : Blk W b #[.int .i64 a0, .int .u64 a1, .int .u64 a2, .int .i64 a3, .int .i64 a4, .int .i64 a5, .int .u64 a6, .int .i64 a7, .int .i64 a8, .int .i64 a9, .int .u64 a10] 28
  below : Below w.heap.size w W
section
variable {w : World} {b : Nat} {a0 a1 a2 a3 a4 a5 a6 a7 a8 a9 a10 : Int} {W W' : World}
theorem CfA.next (h : CfA w b a0 a1 a2 a3 a4 a5 a6 a7 a8 a9 a10 W) (hb : Below W.heap.size W W') : CfA w b a0 a1 a2 a3 a4 a5 a6 a7 a8 a9 a10 W' := ⟨h.blk.below hb h.blk.lt, h.below.trans (hb.mono h.below.size)⟩
theorem CfA.drew (h : CfA w b a0 a1 a2 a3 a4 a5 a6 a7 a8 a9 a10 W) : CfA w b a0 a1 a2 a3 a4 a5 a6 a7 a8 a9 a10 W.drew := ⟨h.blk.drew, h.below.drew⟩
theorem CfA.cells (h : CfA w b a0 a1 a2 a3 a4 a5 a6 a7 a8 a9 a10 W) : W.cell? ⟨b, 0, none⟩ = some (.int .i64 a0) ∧ W.cell? ⟨b, 1, none⟩ = some (.int .u64 a1) ∧ W.cell? ⟨b, 2, none⟩ = some (.int .u64 a2) ∧ W.cell? ⟨b, 3, none⟩ = some (.int .i64 a3) ∧ W.cell? ⟨b, 4, none⟩ = some (.int .i64 a4) ∧ W.cell? ⟨b, 5, none⟩ = some (.int .i64 a5) ∧ W.cell? ⟨b, 6, none⟩ = some (.int .u64 a6) ∧ W.cell? ⟨b, 7, none⟩ = some (.int .i64 a7) ∧ W.cell? ⟨b, 8, none⟩ = some (.int .i64 a8) ∧ W.cell? ⟨b, 9, none⟩ = some (.int .i64 a9) ∧ W.cell? ⟨b, 10, none⟩ = some (.int .u64 a10) :=
  ⟨h.blk.cell rfl, h.blk.cell rfl, h.blk.cell rfl, h.blk.cell rfl, h.blk.cell rfl, h.blk.cell rfl, h.blk.cell rfl, h.blk.cell rfl, h.blk.cell rfl, h.blk.cell rfl, h.blk.cell rfl⟩
end
/-- what fresh answers -/
def FreshK (T : TypeId) (Q : World → Nat → (Nat → Prop) → Prop) (ok : Prop) (w : World) (e : Ending) (w' : World) : Prop := ∃ (v : Value) (code : Int), e = .returned (.tuple #[v, .int .i64 code]) ∧ Below w.heap.size w w' ∧
  (code = 0 → ∃ db O, v = .iface T (.agg #[.pointer (some ⟨db, 0, none⟩)]) ∧ Q w' db O ∧ ∀ k, O k → w.heap.size ≤ k) ∧ (ok → code = 0)
/-- what New answers -/
def NewG (a0 a1 a2 a3 a4 a5 a6 a7 a8 a9 a10 : Int) (T : TypeId) (Q : World → Nat → (Nat → Prop) → Prop) (ok : Prop) (w : World) (e : Ending) (w' : World) : Prop := ∃ (po : Option Addr) (code : Int), e = .returned (.tuple #[.pointer po, .int .i64 code]) ∧ Below w.heap.size w w' ∧
  (code = 0 → sameB a0 a1 a2 a3 a4 a5 a6 a7 a8 a9 a10 a0 (bare1 a0 a1) (bare1 a0 a2) (bare3 a0 a3) (bare4 a0 a4) (bare5 a0 a5) (bare5 a0 a6) (bare7 a0 a7) (bare7 a0 a8) (bare9 a0 a9) (bare9 a0 a10) = true ∧ ∃ kb db O, po = some ⟨kb, 0, none⟩ ∧ Blk w' kb (skG a0 a1 a2 a3 a4 a5 a6 a7 a8 a9 a10 T db) 76 ∧ Q w' db O ∧ (∀ k, O k → w.heap.size ≤ k ∧ k < kb) ∧ w.heap.size ≤ kb) ∧ (sameB a0 a1 a2 a3 a4 a5 a6 a7 a8 a9 a10 a0 (bare1 a0 a1) (bare1 a0 a2) (bare3 a0 a3) (bare4 a0 a4) (bare5 a0 a5) (bare5 a0 a6) (bare7 a0 a7) (bare7 a0 a8) (bare9 a0 a9) (bare9 a0 a10) = true → ok → code = 0)

set_option maxHeartbeats 4000000 in
theorem new_gen (w : World) (a0 a1 a2 a3 a4 a5 a6 a7 a8 a9 a10 : Int) (T : TypeId) (Q : World → Nat → (Nat → Prop) → Prop) (ok : Prop) (hQ : ∀ W W' db O, Q W db O → Below W.heap.size W W' → Q W' db O) (hL : ∀ W db O, Q W db O → ∀ k, O k → k < W.heap.size)
    (hf : ∀ W, Below w.heap.size w W → Calls Tryz.prog 30 #[.agg #[.int .i64 a0, .int .u64 a1, .int .u64 a2, .int .i64 a3, .int .i64 a4, .int .i64 a5, .int .u64 a6, .int .i64 a7, .int .i64 a8, .int .i64 a9, .int .u64 a10]] W (FreshK T Q ok W)) :
    Calls Tryz.prog 17 #[.agg #[.int .i64 a0, .int .u64 a1, .int .u64 a2, .int .i64 a3, .int .i64 a4, .int .i64 a5, .int .u64 a6, .int .i64 a7, .int .i64 a8, .int .i64 a9, .int .u64 a10]] w (NewG a0 a1 a2 a3 a4 a5 a6 a7 a8 a9 a10 T Q ok w) := by
  have H : CfA w w.heap.size a0 a1 a2 a3 a4 a5 a6 a7 a8 a9 a10 (w.alloc (.cells #[.int .i64 a0, .int .u64 a1, .int .u64 a2, .int .i64 a3, .int .i64 a4, .int .i64 a5, .int .u64 a6, .int .i64 a7, .int .i64 a8, .int .i64 a9, .int .u64 a10] 28)) := ⟨Blk.newAt rfl, (Below.refl _ _).alloc (Nat.le_refl _) _⟩
  have hbare := fun W => bare_all W a0 a1 a2 a3 a4 a5 a6 a7 a8 a9 a10
  have hne := fun W => neq28 W a0 a1 a2 a3 a4 a5 a6 a7 a8 a9 a10 a0 (bare1 a0 a1) (bare1 a0 a2) (bare3 a0 a3) (bare4 a0 a4) (bare5 a0 a5) (bare5 a0 a6) (bare7 a0 a7) (bare7 a0 a8) (bare9 a0 a9) (bare9 a0 a10)
  obtain ⟨sm, hsm⟩ : ∃ b, b = sameB a0 a1 a2 a3 a4 a5 a6 a7 a8 a9 a10 a0 (bare1 a0 a1) (bare1 a0 a2) (bare3 a0 a3) (bare4 a0 a4) (bare5 a0 a5) (bare5 a0 a6) (bare7 a0 a7) (bare7 a0 a8) (bare9 a0 a9) (bare9 a0 a10) := ⟨_, rfl⟩
  have HS := Lib.hid hsm
  rw [← hsm] at hne
  generalize hb1 : bare1 a0 a1 = b1 at hbare hne
  generalize hb2 : bare1 a0 a2 = b2 at hbare hne
  generalize hb3 : bare3 a0 a3 = b3 at hbare hne
  generalize hb4 : bare4 a0 a4 = b4 at hbare hne
  generalize hb5 : bare5 a0 a5 = b5 at hbare hne
  generalize hb6 : bare5 a0 a6 = b6 at hbare hne
  generalize hb7 : bare7 a0 a7 = b7 at hbare hne
  generalize hb8 : bare7 a0 a8 = b8 at hbare hne
  generalize hb9 : bare9 a0 a9 = b9 at hbare hne
  generalize hb10 : bare9 a0 a10 = b10 at hbare hne
  have HF := Lib.hid hf
  clear hsm hf hb1 hb2 hb3 hb4 hb5 hb6 hb7 hb8 hb9 hb10
  go_enter Tryz.func17, Tryz.ntmps17
  go_upto_region 1 with fail
  refine wp_region_quiet_litC (C := CfA w w.heap.size a0 a1 a2 a3 a4 a5 a6 a7 a8 a9 a10) (by kernel_rfl) (by kernel_rfl) H.drew ?_
  repeat (first | go_big_quiet_skip | (go_big_quiet_want; go_big_quiet_op; first | go_big_quiet_on | (refine quiet_const ?_; go_big_quiet_on)))
  go_big_quiet_want
  refine ⟨.agg #[.int .i64 a0, .int .u64 a1, .int .u64 a2, .int .i64 a3, .int .i64 a4, .int .i64 a5, .int .u64 a6, .int .i64 a7, .int .i64 a8, .int .i64 a9, .int .u64 a10], fun wx hx => ?_, ?_⟩
  · obtain ⟨k0, k1, k2, k3, k4, k5, k6, k7, k8, k9, k10⟩ := hx.cells
    go_simp
  go_big_quiet_on
  simp only [Act.put, List.setIfInBounds_toArray, List.set_cons_zero, List.set_cons_succ]
  repeat (first | go_big_quiet_skip | (go_big_quiet_want; go_big_quiet_op; first | go_big_quiet_on | (refine quiet_const ?_; go_big_quiet_on)))
  go_big_quiet_want
  refine ⟨.agg #[.int .i64 a0, .int .u64 a1, .int .u64 a2, .int .i64 a3, .int .i64 a4, .int .i64 a5, .int .u64 a6, .int .i64 a7, .int .i64 a8, .int .i64 a9, .int .u64 a10], fun wx hx => ?_, ?_⟩
  · obtain ⟨k0, k1, k2, k3, k4, k5, k6, k7, k8, k9, k10⟩ := hx.cells
    go_simp
  go_big_quiet_on
  simp only [Act.put, List.setIfInBounds_toArray, List.set_cons_zero, List.set_cons_succ]
  repeat (first | go_big_quiet_skip | (go_big_quiet_want; go_big_quiet_op; first | go_big_quiet_on | (refine quiet_const ?_; go_big_quiet_on)))
  go_big_quiet_want
  go_big_quiet_op
  refine ⟨.agg #[.int .i64 a0, .int .u64 b1, .int .u64 b2, .int .i64 b3, .int .i64 b4, .int .i64 b5, .int .u64 b6, .int .i64 b7, .int .i64 b8, .int .i64 b9, .int .u64 b10], fun wx hx => ?_, ?_⟩
  · exact (hbare wx).mono fun _ _ hm => ⟨hm.1, hx.next hm.2⟩
  go_big_quiet_on
  repeat (first | go_big_quiet_skip | (go_big_quiet_want; go_big_quiet_op; first | go_big_quiet_on | (refine quiet_const ?_; go_big_quiet_on)))
  refine wpQuiet_nil ?_
  intro W1 H1
  clear hne hbare
  have hlt := H1.below.size
  cases sm with
  | false =>
    have HB := Lib.hid H1.below
    clear H1
    go_wp2_with fail
    go_ret2
    exact ⟨_, 1, rfl, HB.out, fun h => absurd h (by decide), fun h => absurd (h.symm.trans HS.out.symm) (by decide)⟩
  | true =>
    obtain ⟨k0, k1, k2, k3, k4, k5, k6, k7, k8, k9, k10⟩ := H1.cells
    have hf := HF.out W1 H1.below
    have HH := Lib.hid H1
    clear H1
    go_wp2_with fail
    refine hf.mono ?_
    rintro e w2 ⟨v, code, rfl, b2, h2, hok⟩
    have H2 := HH.out.next b2
    obtain ⟨k0, k1, k2, k3, k4, k5, k6, k7, k8, k9, k10⟩ := H2.cells
    have HT := Lib.hid (And.intro h2 (And.intro H2 HH.out.below.size))
    have HOK := Lib.hid hok
    clear hf h2 H2 HH b2 hok
    by_cases hc : code = 0
    · subst hc
      obtain ⟨db, O, rfl, hq, hO⟩ := HT.out.1 rfl
      have HQ2 := Lib.hid (And.intro hq hO)
      clear hq hO
      go_wp2_with fail
      go_ret2
      obtain ⟨_, H2, hz⟩ := HT.out
      obtain ⟨hq, hO⟩ := HQ2.out
      have hz2 := H2.below.size
      refine ⟨_, 0, rfl, H2.below.alloc hz2 _, fun _ => ⟨HS.out.symm, w2.heap.size, db, O, rfl, Blk.newAt rfl, hQ _ _ _ _ hq ((Below.refl _ _).alloc (Nat.le_refl _) _), fun k hk => ⟨Nat.le_trans hz (hO k hk), hL _ _ _ hq k hk⟩, hz2⟩, fun _ _ => rfl⟩
    · have hc1 : (code == 0) = false := by simp [hc]
      have hc2 : (code != 0) = true := by simp [hc]
      go_wp2_with fail
      go_ret2
      exact ⟨_, code, rfl, HT.out.2.1.below, fun h => absurd h hc, fun _ h => HOK.out h⟩
end Go.Proofs.YtbejdajkkoapgaaGreatDoor

/-
  A hdr sketch behind values, and contracts of hdr.Put and of the suite's methods at it. Conditions: few values.
-/
set_option linter.unusedVariables false
set_option linter.unusedSimpArgs false
set_option maxRecDepth 100000
namespace Go.Proofs.YtbejdajkkoapgaaGreatDoor
open Go.RowKit Go.Lib

/-- values in their range, none of them no time -/
def InP (l : Vals) : Prop := ∀ x ∈ l, I64 x.1 ∧ 1 ≤ x.2 ∧ x.2 ≤ 20
theorem InP.snoc {l : Vals} (h : InP l) {x : Int × Nat} (hx : I64 x.1 ∧ 1 ≤ x.2 ∧ x.2 ≤ 20) : InP (l ++ [x]) := fun y hy => by
  rcases List.mem_append.1 hy with hy | hy
  · exact h y hy
  · rw [List.mem_singleton.1 hy]; exact hx
theorem InP.le {l : Vals} (h : InP l) : l.length ≤ allL l ∧ allL l ≤ 20 * l.length := by
  induction l with
  | nil => exact ⟨Nat.le_refl _, Nat.le_refl _⟩
  | cons x l ih =>
    have h1 := ih fun y hy => h y (List.mem_cons_of_mem _ hy)
    have h2 := (h x (List.mem_cons_self ..)).2
    simp only [allL, List.length_cons]; omega
theorem hf_split (dg : Nat) (l : Vals) : someOf (hf0 dg) l + someOf hfz l + someOf (hf1 dg) l = allL l := by
  induction l with
  | nil => rfl
  | cons x l ih =>
    simp only [someOf, allL]
    rcases Int.lt_trichotomy x.1 0 with h | h | h
    · have e0 : hf0 dg x.1 = some (ixH dg x.1) := by unfold hf0; rw [if_pos h]
      have e1 : hfz x.1 = none := by unfold hfz; rw [if_neg (by omega)]
      have e2 : hf1 dg x.1 = none := by unfold hf1; rw [if_neg (by omega)]
      rw [e0, e1, e2]; simp; omega
    · have e0 : hf0 dg x.1 = none := by unfold hf0; rw [if_neg (by omega)]
      have e1 : hfz x.1 = some 0 := by unfold hfz; rw [if_pos h]
      have e2 : hf1 dg x.1 = none := by unfold hf1; rw [if_neg (by omega)]
      rw [e0, e1, e2]; simp; omega
    · have e0 : hf0 dg x.1 = none := by unfold hf0; rw [if_neg (by omega)]
      have e1 : hfz x.1 = none := by unfold hfz; rw [if_neg (by omega)]
      have e2 : hf1 dg x.1 = some (ixH dg x.1) := by unfold hf1; rw [if_pos h]
      rw [e0, e1, e2]; simp; omega
/-- a hdr sketch behind values, and the blocks that are its own -/
def HdV (dg : Nat) (lim : Int) (vals : Vals) (W : World) (db : Nat) (O : Nat → Prop) : Prop :=
  ∃ pb s0 s1 v0 v1, HdO W db pb s0 s1 v0 v1 dg lim (rowOf (hf0 dg) vals) (rowOf (hf1 dg) vals) (someOf hfz vals) (loOf vals) (hiOf vals) ∧ O = OwnH db pb s0 s1 v0 v1
theorem hdT_vals (dg : Nat) (vals : Vals) : hdT (rowOf (hf0 dg) vals) (rowOf (hf1 dg) vals) (someOf hfz vals) = allL vals := by
  unfold hdT; rw [total_of, total_of]; exact hf_split dg vals
theorem loF_vals {vals : Vals} (h : InP vals) (x : Int × Nat) : loF (allL vals) (loOf vals) x.1 = loOf (vals ++ [x]) := by
  have h1 := h.le
  rw [loOf_snoc]; unfold loF
  by_cases hv : vals = []
  · subst hv; rfl
  · rw [if_neg hv, if_neg]
    have : 1 ≤ vals.length := by cases vals with | nil => exact absurd rfl hv | cons x l => simp
    omega
theorem hiF_vals {vals : Vals} (h : InP vals) (x : Int × Nat) : hiF (allL vals) (hiOf vals) x.1 = hiOf (vals ++ [x]) := by
  have h1 := h.le
  rw [hiOf_snoc]; unfold hiF
  by_cases hv : vals = []
  · subst hv; rfl
  · rw [if_neg hv, if_neg]
    have : 1 ≤ vals.length := by cases vals with | nil => exact absurd rfl hv | cons x l => simp
    omega
theorem someOf_snoc (f : Int → Option Nat) (l : Vals) (x : Int × Nat) : someOf f (l ++ [x]) = someOf f l + (if (f x.1).isSome then x.2 else 0) := by
  rw [someOf_append]; simp [someOf]
/-- which values a hdr sketch takes -/
def HdP (lim : Int) (x : Int × Nat) : Bool := decide (1 ≤ x.2) && (decide (lim = 0) || decide (Sg.mag x.1 ≤ lim))
theorem HdP_iff (lim : Int) (x : Int × Nat) : HdP lim x = true ↔ 1 ≤ x.2 ∧ (lim = 0 ∨ Sg.mag x.1 ≤ lim) := by unfold HdP; simp
/-- what Put of a core answers -/
def PutC (Q : Vals → World → Nat → (Nat → Prop) → Prop) (P : Int × Nat → Bool) (w : World) (db : Nat) (O : Nat → Prop) (vals : Vals) (x : Int × Nat) (e : Ending) (w' : World) : Prop := ∃ (code : Int) (O' : Nat → Prop), e = .returned (.int .i64 code) ∧
  (code = 0 ↔ P x = true) ∧ Q (if P x then vals ++ [x] else vals) w' db O' ∧ SubO w O O' ∧ Away O w w'
theorem HdV.next {dg : Nat} {lim : Int} {vals : Vals} {W W' : World} {db : Nat} {O : Nat → Prop} (h : HdV dg lim vals W db O) (hb : Below W.heap.size W W') : HdV dg lim vals W' db O := by
  obtain ⟨pb, s0, s1, v0, v1, h, ho⟩ := h
  exact ⟨pb, s0, s1, v0, v1, h.next hb, ho⟩
theorem HdO.lt {w : World} {hb pb s0 s1 : Nat} {v0 v1 : Value} {dg : Nat} {lim : Int} {l0 l1 : Row} {z : Nat} {lo hi : Int} (h : HdO w hb pb s0 s1 v0 v1 dg lim l0 l1 z lo hi) : ∀ k, OwnH hb pb s0 s1 v0 v1 k → k < w.heap.size := by
  rintro k (rfl | rfl | rfl | rfl | e | e)
  · exact h.blk.lt
  · exact h.plt
  · exact h.st0.blk.lt
  · exact h.st1.blk.lt
  · exact (h.st0.own.lt k e).2
  · exact (h.st1.own.lt k e).2
theorem HdV.lt {dg : Nat} {lim : Int} {vals : Vals} {W : World} {db : Nat} {O : Nat → Prop} (h : HdV dg lim vals W db O) : ∀ k, O k → k < W.heap.size := by
  obtain ⟨pb, s0, s1, v0, v1, h, rfl⟩ := h
  exact h.lt
theorem hdr_put (w : World) (dg : Nat) (lim : Int) (hl : 0 ≤ lim) (vals : Vals) (db : Nat) (O : Nat → Prop) (h : HdV dg lim vals w db O) (hv : InP vals) (hlen : vals.length < 360) (x : Int × Nat) (hx : I64 x.1) (hc : x.2 ≤ 20) :
    Calls Tryz.prog 236 #[.pointer (some ⟨db, 0, none⟩), .int .i64 x.1, .int .u64 (x.2 : Nat)] w (PutC (HdV dg lim) (HdP lim) w db O vals x) := by
  have h0 := h
  obtain ⟨pb, s0, s1, v0, v1, hd, rfl⟩ := h
  have hT := hdT_vals dg vals
  have hle := hv.le
  have hlo := loF_vals hv x
  have hhi := hiF_vals hv x
  by_cases hc0 : x.2 = 0
  · refine (by rw [hc0]; exact hdr_put_none w hd x.1 : Calls Tryz.prog 236 #[.pointer (some ⟨db, 0, none⟩), .int .i64 x.1, .int .u64 (x.2 : Nat)] w _).mono ?_
    rintro e w' ⟨rfl, rfl⟩
    have hp : HdP lim x = false := by unfold HdP; simp [hc0]
    exact ⟨1, _, rfl, by rw [hp]; simp, by rw [hp]; exact h0, fun _ h => .inl h, Away.refl _ _⟩
  by_cases hf : 0 < lim ∧ lim < Sg.mag x.1
  · refine (hdr_put_far w hd x.1 hx x.2 (by omega) hf.1 hf.2).mono ?_
    rintro e w' ⟨rfl, rfl⟩
    have hp : HdP lim x = false := by
      have h1 : decide (lim = 0) = false := by simp; omega
      have h2 : decide (Sg.mag x.1 ≤ lim) = false := by simp; omega
      unfold HdP; rw [h1, h2]; simp
    exact ⟨7, _, rfl, by rw [hp]; simp, by rw [hp]; exact h0, fun _ h => .inl h, Away.refl _ _⟩
  have hp : HdP lim x = true := by rw [HdP_iff]; omega
  have hlim : lim = 0 ∨ Sg.mag x.1 ≤ lim := by omega
  rcases Int.lt_trichotomy x.1 0 with h1 | h1 | h1
  · refine (hdr_put_neg w db pb s0 s1 v0 v1 dg lim _ _ _ _ _ hd x.1 hx h1 hlim hl x.2 (by omega) (by rw [hT]; omega) (by have := len_of (hf0 dg) vals; omega)).mono ?_
    rintro e w' ⟨rfl, v0', v1', hd', hs, ha⟩
    refine ⟨0, _, rfl, by rw [hp]; simp, ?_, hs, ha⟩
    rw [hp, if_pos rfl]
    refine ⟨pb, s0, s1, v0', v1', ?_, rfl⟩
    rw [hT, hlo, hhi] at hd'
    rw [rowOf_snoc, rowOf_snoc, someOf_snoc]
    have e0 : hf0 dg x.1 = some (ixH dg x.1) := by unfold hf0; rw [if_pos h1]
    have e1 : hfz x.1 = none := by unfold hfz; rw [if_neg (by omega)]
    have e2 : hf1 dg x.1 = none := by unfold hf1; rw [if_neg (by omega)]
    unfold putRow; rw [e0, e1, e2]; exact hd'
  · obtain ⟨X, c⟩ := x
    simp only at h1
    subst h1
    refine (hdr_put_zero w db pb s0 s1 v0 v1 dg lim _ _ _ _ _ hd hl c (by simp at hc0; omega) (by rw [hT]; simp at hc; omega)).mono ?_
    rintro e w' ⟨rfl, v0', v1', hd', hs, ha⟩
    refine ⟨0, _, rfl, by rw [hp]; simp, ?_, hs, ha⟩
    rw [hp, if_pos rfl]
    refine ⟨pb, s0, s1, v0', v1', ?_, rfl⟩
    simp only at hlo hhi
    rw [hT, hlo, hhi] at hd'
    rw [rowOf_snoc, rowOf_snoc, someOf_snoc]
    exact hd'
  · refine (hdr_put_pos w db pb s0 s1 v0 v1 dg lim _ _ _ _ _ hd x.1 hx h1 hlim hl x.2 (by omega) (by rw [hT]; omega) (by have := len_of (hf1 dg) vals; omega)).mono ?_
    rintro e w' ⟨rfl, v0', v1', hd', hs, ha⟩
    refine ⟨0, _, rfl, by rw [hp]; simp, ?_, hs, ha⟩
    rw [hp, if_pos rfl]
    refine ⟨pb, s0, s1, v0', v1', ?_, rfl⟩
    rw [hT, hlo, hhi] at hd'
    rw [rowOf_snoc, rowOf_snoc, someOf_snoc]
    have e0 : hf0 dg x.1 = none := by unfold hf0; rw [if_neg (by omega)]
    have e1 : hfz x.1 = none := by unfold hfz; rw [if_neg (by omega)]
    have e2 : hf1 dg x.1 = some (ixH dg x.1) := by unfold hf1; rw [if_pos h1]
    unfold putRow; rw [e0, e1, e2]; exact hd'
theorem hdV_new {dg : Nat} {lim : Int} {W : World} {hb pb s0 s1 : Nat} (h : HdO W hb pb s0 s1 (.slice none 0 0) (.slice none 0 0) dg lim [] [] 0 0 0) : HdV dg lim [] W hb (OwnH hb pb s0 s1 (.slice none 0 0) (.slice none 0 0)) := ⟨pb, s0, s1, _, _, h, rfl⟩

theorem methh_put (db : Nat) (w : World) : (method 524 129 (.agg #[.pointer (some ⟨db, 0, none⟩)]) "Put").run Tryz.prog w = .ok (236, .pointer (some ⟨db, 0, none⟩)) w := by kernel_rfl
theorem methh_quant (db : Nat) (w : World) : (method 524 129 (.agg #[.pointer (some ⟨db, 0, none⟩)]) "Quantile").run Tryz.prog w = .ok (237, .pointer (some ⟨db, 0, none⟩)) w := by kernel_rfl
theorem methh_total (db : Nat) (w : World) : (method 524 129 (.agg #[.pointer (some ⟨db, 0, none⟩)]) "ogive/suite.total").run Tryz.prog w = .ok (244, .agg #[.pointer (some ⟨db, 0, none⟩)]) w := by kernel_rfl
theorem methh_join (db : Nat) (w : World) : (method 524 129 (.agg #[.pointer (some ⟨db, 0, none⟩)]) "ogive/suite.join").run Tryz.prog w = .ok (242, .agg #[.pointer (some ⟨db, 0, none⟩)]) w := by kernel_rfl
theorem methh_write (db : Nat) (w : World) : (method 524 129 (.agg #[.pointer (some ⟨db, 0, none⟩)]) "ogive/suite.write").run Tryz.prog w = .ok (245, .agg #[.pointer (some ⟨db, 0, none⟩)]) w := by kernel_rfl

/-- hdr.New where the config can't be -/
theorem hdr_new_bad (w : World) (ht : Sp.Tens w) (dg lim : Int) (h : dg < 1 ∨ 4 < dg ∨ 9223372036854775808 < lim) :
    Calls Tryz.prog 42 #[.agg #[.int .i64 dg, .int .u64 lim]] w fun e w' => e = .returned (.tuple #[.pointer none, .int .i64 1]) ∧ Below w.heap.size w w' := by
  have b0 : Below w.heap.size w (w.alloc (.cells #[.int .i64 dg, .int .u64 lim] 127)) := (Below.refl _ _).alloc (Nat.le_refl _) _
  have B0 : Blk (w.alloc (.cells #[.int .i64 dg, .int .u64 lim] 127)) w.heap.size #[.int .i64 dg, .int .u64 lim] 127 := Blk.newAt rfl
  by_cases hd : dg < 1 ∨ 4 < dg
  · have hs := fun W => Sp.new_bad dg W hd
    clear h hd ht B0
    go_enter Tryz.func42, Tryz.ntmps42
    go_wp2_with (go_at_call 65; refine (hs _).mono ?_; rintro e w1 ⟨rfl, rfl⟩)
    go_ret2
    exact ⟨rfl, b0⟩
  · obtain ⟨d, rfl⟩ : ∃ d : Nat, dg = (d : Int) := ⟨dg.toNat, by omega⟩
    have hsp := Sp.new_good d (w.alloc (.cells #[.int .i64 (d : Int), .int .u64 lim] 127)) (by omega) (by omega) (ht.next b0)
    have f1 : 9223372036854775808 < lim := by omega
    clear h hd ht
    go_enter Tryz.func42, Tryz.ntmps42
    go_wp2_with fail
    refine hsp.mono ?_
    rintro e w1 ⟨rfl, S1⟩
    have B1 := B0.below S1.below B0.lt
    have c1 : w1.cell? ⟨w.heap.size, 1, none⟩ = some (.int .u64 lim) := B1.cell rfl
    have HB := Lib.hid (b0.trans (S1.below.mono (by simp)))
    clear S1 B1 B0 hsp b0
    go_wp2_with fail
    go_ret2
    exact ⟨rfl, HB.out⟩
end Go.Proofs.YtbejdajkkoapgaaGreatDoor

