/-
  Several texts in one: Lm. What each proves, and on which conditions, stands at its head. Conditions: stated in each.
-/
import Derived.Test.YtbejdajkkoapgaaGreatDoorS10
/-
  Contracts of runs.Good, and of the stores' Merge and Load (lowcap, highcap). Conditions: stated in each.
-/
set_option linter.unusedVariables false
set_option linter.unusedSimpArgs false
set_option maxRecDepth 100000
namespace Go.Proofs.YtbejdajkkoapgaaGreatDoor
open Go.RowKit Go.Lib

set_option maxHeartbeats 4000000 in
theorem good_row (w : World) (v : Value) (l : Row) (M : Int) (h : w.ownsRow 0 228 2 v l.length (rowC l)) (hr : Rising l) (hf : Full l) (hc : ∀ x ∈ l, x.2 ≤ 9223372036854775807) (hl : l.length ≤ 1000000) :
    Calls Tryz.prog 119 #[v, .int .i64 M] w fun e w' => e = .returned (.bool (decide ((l.length : Int) ≤ M))) ∧ Below w.heap.size w w' := by
  obtain ⟨A, cap, hv⟩ := owns_slice h
  subst hv
  obtain ⟨n, hn⟩ : ∃ n, n = l.length := ⟨_, rfl⟩
  have H := Lib.hid (And.intro h (And.intro hr (And.intro hf (And.intro hc hl))))
  rw [← hn]
  have HN := Lib.hid hn
  have hnb : n ≤ 1000000 := by omega
  clear h hr hf hc hl hn
  go_enter Tryz.func119, Tryz.ntmps119
  go_wp2_with fail
  go_loopg [5, 6, 9] n (fun g _ _ i wr => ∃ q : Nat, i = .int .i64 (q : Int) ∧ q ≤ n ∧ n - q ≤ g ∧ Below w.heap.size w wr)
  case atStart => exact ⟨0, rfl, Nat.zero_le _, Nat.le_refl _, Below.refl _ _⟩
  case round =>
    obtain ⟨q, rfl, hq, hg, hB⟩ := hrel
    by_cases hqn : q < n
    · have g0 : (q : Int) < (n : Int) := by omega
      have hql : q < l.length := by rw [← HN.out]; exact hqn
      obtain ⟨ix, hix⟩ : ∃ i, i = (l[q]'hql).1 := ⟨_, rfl⟩
      obtain ⟨ct, hct⟩ : ∃ i, i = (l[q]'hql).2 := ⟨_, rfl⟩
      have hc1 := H.out.2.2.1 _ (List.getElem_mem hql)
      have hc2 := H.out.2.2.2.1 _ (List.getElem_mem hql)
      rw [← hct] at hc1 hc2
      have O := owns_below H.out.1 hB fun g hg => (H.out.1.lt g hg).2
      rcases owns_shape O with ⟨hv0, hn0, _⟩ | ⟨g, cap', hv0, hnc, hcap, _, hgl⟩
      · omega
      simp only [Value.slice.injEq] at hv0
      obtain ⟨rfl, hnn, rfl⟩ := hv0
      have p0 : wr.cell? ⟨g, q * 2, none⟩ = some (.int .i64 (ix : Int)) := by rw [O.cellAt _ (by omega), rowC_fst l q hql, hix]
      have p1 : wr.cell? ⟨g, q * 2 + 1, none⟩ = some (.int .u64 (ct : Int)) := by rw [O.cellAt _ (by omega), rowC_snd l q hql, hct]
      have t1 : ((ct : Int) == 0) = false := by simp; omega
      have t2 : decide ((9223372036854775807 : Int) < (ct : Int)) = false := by simp; omega
      have B1 := Lib.hid (show Below w.heap.size w (wr.alloc (.cells #[.int .i64 (ix : Int), .int .u64 (ct : Int)] 228)) from hB.alloc hB.size _)
      have hsz := hB.size
      have hqg := hqn
      clear hc1 hc2
      match q, hql, hqn with
      | 0, hql, hqn =>
        clear O hgl hnc hcap hix hct hB
        go_wp2_with fail
        go_quiet (fail)
        go_wp2_with fail
        go_roundg (n - 1)
        case measure => omega
        exact ⟨1, by go_num, by omega, Nat.le_refl _, below_drewN B1.out _⟩
      | r + 1, hql, hqn =>
        have hrn : r < l.length := by omega
        have hlt := rising_lt H.out.2.1 hrn hql (Nat.lt_succ_self r)
        rw [← hix] at hlt
        obtain ⟨px, hpx⟩ : ∃ i, i = (l[r]'hrn).1 := ⟨_, rfl⟩
        rw [← hpx] at hlt
        have d0 : wr.cell? ⟨g, r * 2, none⟩ = some (.int .i64 (px : Int)) := by rw [O.cellAt _ (by omega), rowC_fst l r hrn, hpx]
        have f1 : (r : Int) < (n : Int) := by omega
        have f2 : r < n := by omega
        have f3 : (0 : Int) ≤ (r : Int) := by omega
        have f4 : IntKind.i64.wrap (r : Int) = (r : Int) := by have := H.out.2.2.2.2; rw [IntKind.wrap_i64]; omega
        have f5 : (r : Int) + 1 < (n : Int) := by omega
        have t3 : decide ((ix : Int) ≤ (px : Int)) = false := by simp; omega
        have t4 : decide (ix ≤ px) = false := by simp; omega
        have hgb : g < wr.heap.size := (O.lt g rfl).2
        have e0 : (wr.alloc (.cells #[.int .i64 (ix : Int), .int .u64 (ct : Int)] 228)).cell? ⟨g, r * 2, none⟩ = some (.int .i64 (px : Int)) := by
          rw [((Below.refl wr.heap.size wr).alloc (Nat.le_refl _) (.cells #[.int .i64 (ix : Int), .int .u64 (ct : Int)] 228)).cell (p := ⟨g, r * 2, none⟩) hgb]; exact d0
        clear O hgl hnc hcap hix hct hlt hpx hB d0
        go_wp2_with fail
        go_quiet (fail)
        go_wp2_with fail
        go_roundg (n - (r + 1 + 1))
        case measure => omega
        exact ⟨r + 1 + 1, by go_num, by omega, Nat.le_refl _, below_drewN B1.out _⟩
    · have hqe : q = n := by omega
      subst hqe
      have g0 : ¬ (q : Int) < (q : Int) := by omega
      have HB := Lib.hid hB
      clear hB hqn hq hg
      go_wp2_with fail
      go_ret
      exact ⟨rfl, HB.out⟩

/-- a store that takes a row's pairs, one by one -/
structure StoL (hi : Bool) (M : Nat) (w : World) (cb : Nat) (O : Nat → Prop) (k : Row) (T : Nat) (vp : Value) (m : Row) (W : World) : Prop where
  st : ∃ O', StoQ hi M k T W cb O' ∧ SubO w O O' ∧ Away O w W ∧ ∀ g, vp.ownBlock = some g → ¬ O' g
  own : W.ownsRow 0 228 2 vp m.length (rowC m)
section
variable {hi : Bool} {M : Nat} {w : World} {cb : Nat} {O : Nat → Prop} {k k2 : Row} {T T2 : Nat} {vp : Value} {m : Row} {W W' : World}
theorem StoL.next (h : StoL hi M w cb O k T vp m W) (b : Below W.heap.size W W') : StoL hi M w cb O k T vp m W' := by
  obtain ⟨⟨O', h1, h2, h3, h4⟩, h5⟩ := h
  exact ⟨⟨O', h1.next b, h2, h3.trans' (Away.of_below (F := O) b) (fun _ _ h => h) (fun _ _ h => h), h4⟩, owns_below h5 b fun g hg => (h5.lt g hg).2⟩
theorem StoL.put (h : StoL hi M w cb O k T vp m W) (g : ∀ O', StoQ hi M k T W cb O' → StoR hi M W cb O' k2 T2 W') : StoL hi M w cb O k2 T2 vp m W' := by
  obtain ⟨⟨O', h1, h2, h3, h4⟩, h5⟩ := h
  obtain ⟨P, p1, p2, p3⟩ := g O' h1
  refine ⟨⟨P, p1, fun j hj => ?_, h3.trans' p3 (fun _ _ h => h) fun j hj hO => ?_, fun g hg hP => ?_⟩, owns_away h5 p3 h4⟩
  · rcases p2 j hj with e | e
    · exact h2 j e
    · exact .inr (Nat.le_trans h3.size e)
  · rcases h2 j hO with e | e
    · exact e
    · omega
  · rcases p2 g hP with e | e
    · exact h4 g hg e
    · have := (h5.lt g hg).2; omega
theorem StoL.call (h : StoL hi M w cb O k T vp m W) {f : FuncId} {args : Array Value} {r : Ending} (c : ∀ O', StoQ hi M k T W cb O' → Calls Tryz.prog f args W fun e w' => e = r ∧ StoR hi M W cb O' k2 T2 w') : Calls Tryz.prog f args W fun e w' => e = r ∧ StoL hi M w cb O k2 T2 vp m w' := by
  obtain ⟨O', h1, h2, h3, h4⟩ := h.st
  refine (c O' h1).mono fun e w' hh => ⟨hh.1, ?_⟩
  obtain ⟨P, p1, p2, p3⟩ := hh.2
  refine ⟨⟨P, p1, fun j hj => ?_, h3.trans' p3 (fun _ _ h => h) fun j hj hO => ?_, fun g hg hP => ?_⟩, owns_away h.own p3 h4⟩
  · rcases p2 j hj with e | e
    · exact h2 j e
    · exact .inr (Nat.le_trans h3.size e)
  · rcases h2 j hO with e | e
    · exact e
    · omega
  · rcases p2 g hP with e | e
    · exact h4 g hg e
    · have := (h.own.lt g hg).2; omega
theorem StoL.toR (h : StoL hi M w cb O k T vp m W) : StoR hi M w cb O k T W := by
  obtain ⟨O', h1, h2, h3, h4⟩ := h.st; exact ⟨O', h1, h2, h3⟩
theorem StoR.toL (h : StoR hi M w cb O k T W) (b : Below W.heap.size W W') (o : W'.ownsRow W.heap.size 228 2 vp m.length (rowC m)) : StoL hi M w cb O k T vp m W' := by
  obtain ⟨O', h1, h2, h3⟩ := h
  exact ⟨⟨O', h1.next b, h2, h3.trans' (Away.of_below (F := O) b) (fun _ _ h => h) (fun _ _ h => h), fun g hg hO => by have := (o.lt g hg).1; have := h1.lt g hO; omega⟩, owns_base o fun g _ => Nat.zero_le _⟩
theorem StoR.lose (h : StoR hi M w cb O k T W) : ∃ l, l = T - rowTotal k ∧ W.cell? ⟨cb, 2, none⟩ = some (.int .u64 (l : Int)) ∧ W.frozen? ⟨cb, 2, none⟩ = false ∧ ∀ c l2 : Nat, l2 = l + c → StoR hi M w cb O k (T + c) (W.setCell ⟨cb, 2, none⟩ (.int .u64 (l2 : Int))) := by
  obtain ⟨O', ⟨sb, v, S, rfl⟩, h2, h3⟩ := h
  obtain ⟨c0, c1, c2, f2⟩ := S.cells
  refine ⟨_, rfl, c2, f2, fun c l2 e => ?_⟩
  obtain ⟨k1, k2⟩ := S.lose (c := c)
  rw [← e] at k1 k2
  exact StoR.made h3 h2 (Below.refl _ _) k1 (fun j hj => .inl hj) k2 (Below.refl _ _)
end
theorem take_total {m : Row} {q : Nat} (hql : q < m.length) : rowTotal (m.take (q + 1)) = rowTotal (m.take q) + (m[q]'hql).2 ∧ rowTotal (m.take q) + (m[q]'hql).2 ≤ rowTotal m := by
  have e : m = m.take q ++ ((m[q]'hql) :: m.drop (q + 1)) := by rw [← List.drop_eq_getElem_cons hql, List.take_append_drop]
  have e2 : rowTotal m = rowTotal (m.take q) + rowTotal ((m[q]'hql) :: m.drop (q + 1)) := by
    conv => lhs; rw [e]
    exact sumIf_append _ _ _
  have e3 : rowTotal ((m[q]'hql) :: m.drop (q + 1)) = (m[q]'hql).2 + rowTotal (m.drop (q + 1)) := by unfold rowTotal; rw [sumIf_cons]; simp
  refine ⟨?_, by omega⟩
  rw [List.take_succ_eq_append_getElem hql]
  show sumIf _ _ = _
  rw [sumIf_append]
  have : sumIf (fun _ => true) [m[q]'hql] = (m[q]'hql).2 := by rw [sumIf_cons]; simp [sumIf]
  rw [this]; rfl

set_option maxHeartbeats 4000000 in
theorem smerge_L {M : Nat} (hM1 : 1 ≤ M) (hM2 : M ≤ 4096) (w : World) (cb ob : Nat) (O N : Nat → Prop) (k m : Row) (T U : Nat) (h : StoQ false M k T w cb O) (g : StoQ false M m U w ob N) (hT : T + U ≤ 9223372036854775807) (hlen : ∀ q, (joinK false M k (m.take q)).length ≤ M) (hml : m.length ≤ 4096) :
    Calls Tryz.prog 233 #[.pointer (some ⟨cb, 0, none⟩), .pointer (some ⟨ob, 0, none⟩)] w fun e w' => e = .returned (.int .i64 0) ∧ StoR false M w cb O (joinK false M k m) (T + U) w' := by
  have hto := Lib.hid (fun W (b : Below w.heap.size w W) => stot_L W cb O k T (h.next b) (by omega))
  have htoo := Lib.hid (fun W (b : Below w.heap.size w W) => stot_L W ob N m U (g.next b) (by omega))
  have hpl := Lib.hid (fun W b => plus_any W b T U hT)
  obtain ⟨rm, fm, lm, xm⟩ := g.rising
  have HT := Lib.hid (And.intro hT (And.intro hlen (And.intro hml (And.intro fm (And.intro lm xm)))))
  have HG := Lib.hid (And.intro h g)
  have hkl := hlen 0
  rw [List.take_zero] at hkl
  have HM := Lib.hid (And.intro hM1 (And.intro hM2 hkl))
  obtain ⟨sb, v, S, hO⟩ := h
  obtain ⟨so, u, P, hN⟩ := g
  obtain ⟨c0, _, _, _⟩ := S.cells
  obtain ⟨d0, _, _, _⟩ := P.cells
  have HP := Lib.hid P
  obtain ⟨l, hl⟩ : ∃ l, l = U - rowTotal m := ⟨_, rfl⟩
  have HL := Lib.hid hl
  have e0 : ((M : Int) != (M : Int)) = false := by simp
  obtain ⟨n, hn⟩ : ∃ n, n = m.length := ⟨_, rfl⟩
  have HN := Lib.hid hn
  have hnb : n ≤ 4096 := by omega
  have hcl := Lib.hid (show ∀ W, Below w.heap.size w W → W.cell? ⟨ob, 1, none⟩ = some (.pointer (some ⟨so, 0, none⟩)) ∧ W.cell? ⟨ob, 2, none⟩ = some (.int .u64 (l : Int)) ∧ ∀ W', Below w.heap.size w W' → Calls Tryz.prog 177 #[.pointer (some ⟨so, 0, none⟩)] W' fun e w' => ∃ vp, e = .returned vp ∧ w'.ownsRow W'.heap.size 228 2 vp m.length (rowC m) ∧ Below W'.heap.size W' w' from fun W b => by
    have k := (P.next b).cells
    refine ⟨k.2.1, by rw [hl]; exact k.2.2.1, fun W' b' => pairs_M W' so u m (P.next b').st (by omega)⟩)
  clear S P hO hN hT hlen hml fm lm xm rm hl hn hM1 hM2 hkl
  have HB0 := Lib.hid (show ∀ n, Below w.heap.size w (w.drewN n) from fun n => below_drewN (Below.refl _ _) n)
  go_enter Tryz.func233, Tryz.ntmps233
  go_wp2_with fail
  go_quiet (fail)
  rename_i nq
  have B1 := HB0.out nq
  have t1 := hto.out _ B1
  have B1 := Lib.hid B1
  clear HB0 c0 d0 hto
  go_wp2_with fail
  refine t1.mono ?_
  rintro e w1 ⟨rfl, b1⟩
  have B2 := B1.out.trans (b1.mono B1.out.size)
  have t2 := htoo.out _ B2
  have B2 := Lib.hid B2
  clear B1 t1 b1 htoo
  go_wp2_with fail
  refine t2.mono ?_
  rintro e w2 ⟨rfl, b2⟩
  have B3 := Lib.hid (B2.out.trans (b2.mono B2.out.size))
  clear B2 t2 b2
  go_wp2_with fail
  refine (hpl.out _ _ (by simp) (by simp)).mono ?_
  rintro e w3 ⟨rfl, rfl⟩
  have B4 : Hid (Below w.heap.size w (w2.alloc (.cells #[.int .u64 (T : Int), .int .u64 (U : Int)] 23))) := Lib.hid (B3.out.alloc B3.out.size _)
  generalize w2.alloc (.cells #[.int .u64 (T : Int), .int .u64 (U : Int)] 23) = w4 at B4 ⊢
  obtain ⟨c1, c2, c3⟩ := hcl.out w4 B4.out
  have t3 := c3 w4 B4.out
  clear B3 hpl c3 hcl
  go_wp2_with fail
  refine t3.mono ?_
  rintro e w5 ⟨vp, rfl, o5, b5⟩
  have J5 : StoL false M w cb O k T vp m w5 := ((StoR.start HG.out.1).next B4.out).toL b5 o5
  obtain ⟨Ap, cp, hvp⟩ := owns_slice o5
  rw [← HN.out] at hvp
  subst hvp
  have HJ := Lib.hid J5
  clear J5 o5 b5 t3 B4 c1 c2
  go_wp2_with fail
  go_loopg [9, 48] n (fun g p i wr => ∃ q : Nat, i = .int .i64 (q : Int) ∧ q ≤ n ∧ n - q ≤ g ∧ StoL false M w cb O (joinK false M k (m.take q)) (T + rowTotal (m.take q)) (.slice Ap n cp) m wr)
  case atStart => exact ⟨0, rfl, Nat.zero_le _, Nat.le_refl _, by rw [List.take_zero]; exact HJ.out⟩
  case round =>
    clear HJ
    obtain ⟨q, rfl, hq, hg, J⟩ := hrel
    have HJ := Lib.hid J
    by_cases hqn : q < n
    · have g0 : (q : Int) < (n : Int) := by omega
      have hql : q < m.length := by rw [← HN.out]; exact hqn
      obtain ⟨ix, hix⟩ : ∃ i, i = (m[q]'hql).1 := ⟨_, rfl⟩
      obtain ⟨ct, hct⟩ : ∃ i, i = (m[q]'hql).2 := ⟨_, rfl⟩
      obtain ⟨T1, T2⟩ := take_total hql
      rw [← hct] at T1 T2
      have hc1 := HT.out.2.2.2.1 _ (List.getElem_mem hql)
      have hx4 := HT.out.2.2.2.2.2 _ (List.getElem_mem hql)
      rw [← hct] at hc1
      rw [← hix] at hx4
      have hsn : joinK false M k (m.take (q + 1)) = putK false M (joinK false M k (m.take q)) ix ct := by
        rw [List.take_succ_eq_append_getElem hql, joinK_snoc, hix, hct]
      have hl1 := HT.out.2.1 q
      have hl2 := HT.out.2.1 (q + 1)
      rw [hsn] at hl2
      have hU := HT.out.1
      have hmU := HT.out.2.2.2.2.1
      rcases owns_shape J.own with ⟨hv0, hn0, _⟩ | ⟨g, cap, hv0, hnc, hcap, _, hgl⟩
      · omega
      simp only [Value.slice.injEq] at hv0
      obtain ⟨rfl, hnn, rfl⟩ := hv0
      have O2 := J.own
      have en : n = m.length := HN.out
      rw [en] at O2
      clear en
      have p0 : wr.cell? ⟨g, q * 2, none⟩ = some (.int .i64 (ix : Int)) := by rw [O2.cellAt _ (by omega), rowC_fst m q hql, hix]
      have p1 : wr.cell? ⟨g, q * 2 + 1, none⟩ = some (.int .u64 (ct : Int)) := by rw [O2.cellAt _ (by omega), rowC_snd m q hql, hct]
      have J2 := J.next ((Below.refl _ _).alloc (Nat.le_refl _) (.cells #[.int .i64 (ix : Int), .int .u64 (ct : Int)] 228))
      have hpu := J2.call (r := .returned (.tuple #[])) fun O' hO' => put_L HM.out.1 HM.out.2.1 _ cb O' _ _ hO' ix ct hx4 hc1 (by omega) hl2 hl1
      rw [← hsn, show T + rowTotal (m.take q) + ct = T + rowTotal (m.take (q + 1)) from by omega] at hpu
      clear hnn O2 J J2 hgl hnc hcap hix hct hsn hl1 hl2 hU hmU T1 T2 hc1 hx4
      go_wp2_with fail
      refine hpu.mono ?_
      rintro e w6 ⟨rfl, J6⟩
      have HK := Lib.hid J6
      clear hpu J6
      go_wp2_with fail
      go_roundg (n - (q + 1))
      case measure => omega
      exact ⟨q + 1, by go_num, by omega, Nat.le_refl _, HK.out⟩
    · have hqe : q = n := by omega
      have g0 : ¬ (q : Int) < (n : Int) := by omega
      rw [hqe, HN.out, List.take_length] at J
      obtain ⟨l1, hl1, k1, k2, k3⟩ := J.toR.lose
      obtain ⟨l2, hl2⟩ : ∃ l2, l2 = l1 + l := ⟨_, rfl⟩
      have hU := HT.out.1
      have hmU := HT.out.2.2.2.2.1
      have hwr : IntKind.u64.wrap ((l1 : Int) + (l : Int)) = (l2 : Int) := by have := HL.out; rw [IntKind.wrap_u64]; omega
      have k4 := k3 l l2 hl2
      rw [HL.out, show T + rowTotal m + (U - rowTotal m) = T + U from by omega] at k4
      have HK := Lib.hid k4
      clear J HJ hl1 k3 hl2 hU hmU k4 hqe hqn hq hg
      go_wp2_with fail
      go_ret
      exact ⟨rfl, HK.out⟩

/-- what Load answers -/
def LoadPL (M : Nat) (row : Row) (T : Nat) (w : World) (e : Ending) (w' : World) : Prop := ∃ (po : Option Addr) (code : Int), e = .returned (.tuple #[.pointer po, .int .i64 code]) ∧ Below w.heap.size w w' ∧
  (code = 0 → ∃ cb O, po = some ⟨cb, 0, none⟩ ∧ StoQ false M row T w' cb O ∧ ∀ j, O j → w.heap.size ≤ j)
set_option maxHeartbeats 4000000 in
theorem sload_L {M : Nat} (hM1 : 1 ≤ M) (hM2 : M ≤ 4096) (w : World) (va : Value) (m : Row) (l : Nat) (h : w.ownsRow 0 228 2 va m.length (rowC m)) (rm : Rising m) (fm : Full m) (xm : ∀ x ∈ m, x.1 < 4096) (hT : rowTotal m + l ≤ 9223372036854775807) (hlen : ∀ q, (joinK false M [] (m.take q)).length ≤ M) (hj : joinK false M [] m = m) (hml : m.length ≤ 4096) :
    Calls Tryz.prog 112 #[.int .i64 (M : Int), va, .int .u64 (l : Int)] w (LoadPL M m (rowTotal m + l) w) := by
  obtain ⟨A, cap, hv⟩ := owns_slice h
  subst hv
  have hnw := snew_L hM1 hM2 w
  have hcm : ∀ x ∈ m, x.2 ≤ 9223372036854775807 := fun x hx => by
    have := rowAt_mem rm hx
    have := rowAt_le_total m x.1
    omega
  have hgd := Lib.hid (fun W (b : Below w.heap.size w W) => good_row W (.slice A m.length cap) m (M : Int) (owns_below h b fun g hg => (h.lt g hg).2) rm fm hcm (by omega))
  have hpl := Lib.hid (fun W b (t : Nat) (ht : t + l ≤ 9223372036854775807) => plus_any W b t l ht)
  obtain ⟨n, hn⟩ : ∃ n, n = m.length := ⟨_, rfl⟩
  have HN := Lib.hid hn
  have hnb : n ≤ 4096 := by omega
  have HT := Lib.hid (And.intro hT (And.intro hlen (And.intro hml (And.intro fm (And.intro xm (And.intro hj h))))))
  have HM := Lib.hid (And.intro hM1 hM2)
  rw [← hn] at hgd ⊢
  clear h rm fm xm hT hlen hj hml hn hM1 hM2 hcm
  go_enter Tryz.func112, Tryz.ntmps112
  go_wp2_with fail
  refine hnw.mono ?_
  rintro e w1 ⟨cb, O, rfl, Q1, b1, hO⟩
  have hg1 := hgd.out w1 b1
  have H1 := Lib.hid (And.intro Q1 (And.intro b1 hO))
  clear hnw Q1 b1 hO hgd
  go_wp2_with fail
  refine hg1.mono ?_
  rintro e w2 ⟨rfl, b2⟩
  have J2 : StoL false M w1 cb O [] 0 (.slice A m.length cap) m w2 := ⟨⟨O, H1.out.1.next b2, fun j hj => .inl hj, Away.of_below b2, fun g hg hO => by have := (HT.out.2.2.2.2.2.2.lt g hg).2; have := H1.out.2.2 g hO; omega⟩, owns_below (owns_below HT.out.2.2.2.2.2.2 H1.out.2.1 fun g hg => (HT.out.2.2.2.2.2.2.lt g hg).2) b2 fun g hg => by have := (HT.out.2.2.2.2.2.2.lt g hg).2; have := H1.out.2.1.size; omega⟩
  have FIN := Lib.hid (show ∀ k T W, StoL false M w1 cb O k T (.slice A m.length cap) m W → Below w.heap.size w W from fun k T W J => by
    obtain ⟨O', q1, q2, q3, q4⟩ := J.st
    exact H1.out.2.1.trans (q3.below (B := w.heap.size) H1.out.2.1.size fun j hj hO => by have := H1.out.2.2 j hO; omega))
  rw [← HN.out] at J2 FIN
  have HJ := Lib.hid J2
  clear hg1 b2 J2
  by_cases hle : (n : Int) ≤ (M : Int)
  · have hd : decide ((n : Int) ≤ (M : Int)) = true := by simpa using hle
    rw [hd]
    go_wp2_with fail
    go_loopg [11, 28] n (fun g p i wr => ∃ q : Nat, i = .int .i64 (q : Int) ∧ q ≤ n ∧ n - q ≤ g ∧ StoL false M w1 cb O (joinK false M [] (m.take q)) (rowTotal (m.take q)) (.slice A n cap) m wr)
    case atStart => exact ⟨0, rfl, Nat.zero_le _, Nat.le_refl _, by rw [List.take_zero]; exact HJ.out⟩
    case round =>
      clear HJ hd hle
      obtain ⟨q, rfl, hq, hg, J⟩ := hrel
      by_cases hqn : q < n
      · have g0 : (q : Int) < (n : Int) := by omega
        have hql : q < m.length := by rw [← HN.out]; exact hqn
        obtain ⟨ix, hix⟩ : ∃ i, i = (m[q]'hql).1 := ⟨_, rfl⟩
        obtain ⟨ct, hct⟩ : ∃ i, i = (m[q]'hql).2 := ⟨_, rfl⟩
        obtain ⟨T1, T2⟩ := take_total hql
        rw [← hct] at T1 T2
        have hc1 := HT.out.2.2.2.1 _ (List.getElem_mem hql)
        have hx4 := HT.out.2.2.2.2.1 _ (List.getElem_mem hql)
        rw [← hct] at hc1
        rw [← hix] at hx4
        have hsn : joinK false M [] (m.take (q + 1)) = putK false M (joinK false M [] (m.take q)) ix ct := by
          rw [List.take_succ_eq_append_getElem hql, joinK_snoc, hix, hct]
        have hl1 := HT.out.2.1 q
        have hl2 := HT.out.2.1 (q + 1)
        rw [hsn] at hl2
        have hU := HT.out.1
        rcases owns_shape J.own with ⟨hv0, hn0, _⟩ | ⟨g, cap', hv0, hnc, hcap, _, hgl⟩
        · omega
        simp only [Value.slice.injEq] at hv0
        obtain ⟨rfl, hnn, rfl⟩ := hv0
        have O2 := J.own
        have en : n = m.length := HN.out
        rw [en] at O2
        clear en
        have p0 : wr.cell? ⟨g, q * 2, none⟩ = some (.int .i64 (ix : Int)) := by rw [O2.cellAt _ (by omega), rowC_fst m q hql, hix]
        have p1 : wr.cell? ⟨g, q * 2 + 1, none⟩ = some (.int .u64 (ct : Int)) := by rw [O2.cellAt _ (by omega), rowC_snd m q hql, hct]
        have J2 := J.next ((Below.refl _ _).alloc (Nat.le_refl _) (.cells #[.int .i64 (ix : Int), .int .u64 (ct : Int)] 228))
        have hpu := J2.call (r := .returned (.int .i64 0)) fun O' hO' => sadd_L HM.out.1 HM.out.2 _ cb O' _ _ hO' ix ct hx4 hc1 (by omega) hl2 hl1
        rw [← hsn, show rowTotal (m.take q) + ct = rowTotal (m.take (q + 1)) from by omega] at hpu
        clear hnn O2 J J2 hgl hnc hcap hix hct hsn hl1 hl2 hU T1 T2 hc1 hx4
        go_wp2_with fail
        refine hpu.mono ?_
        rintro e w6 ⟨rfl, J6⟩
        have HK := Lib.hid J6
        clear hpu J6
        go_wp2_with fail
        go_roundg (n - (q + 1))
        case measure => omega
        exact ⟨q + 1, by go_num, by omega, Nat.le_refl _, HK.out⟩
      · have hqe : q = n := by omega
        have g0 : ¬ (q : Int) < (n : Int) := by omega
        rw [hqe, HN.out, List.take_length, HT.out.2.2.2.2.2.1] at J
        obtain ⟨O', q1, q2, q3, q4⟩ := J.st
        have hto := stot_L wr cb O' m (rowTotal m) q1 (by have := HT.out.1; omega)
        have FR := Lib.hid (show ∀ W, Below wr.heap.size wr W → W.cell? ⟨cb, 2, none⟩ = some (.int .u64 0) ∧ W.frozen? ⟨cb, 2, none⟩ = false ∧ LoadPL M m (rowTotal m + l) w (.returned (.tuple #[.pointer (some ⟨cb, 0, none⟩), .int .i64 0])) (W.setCell ⟨cb, 2, none⟩ (.int .u64 (l : Int))) ∧ ∀ po c, c ≠ 0 → LoadPL M m (rowTotal m + l) w (.returned (.tuple #[.pointer po, .int .i64 c])) W from fun W b => by
          have R : StoR false M w1 cb O m (rowTotal m) W := ⟨O', q1.next b, q2, q3.trans' (Away.of_below (F := O) b) (fun _ _ h => h) (fun _ _ h => h)⟩
          obtain ⟨l1, hl1, k1, k2, k3⟩ := R.lose
          have hb : Below w.heap.size w W := FIN.out _ _ W (by rw [HN.out]; exact J.next b)
          have z0 : l1 = 0 := by omega
          rw [z0] at k1
          have k4 := k3 l l (by omega)
          refine ⟨k1, k2, ⟨_, 0, rfl, ?_, fun _ => ?_⟩, fun po c hc => ⟨po, c, rfl, hb, fun h => absurd h hc⟩⟩
          · obtain ⟨P, p1, p2, p3⟩ := k4
            exact H1.out.2.1.trans (p3.below (B := w.heap.size) H1.out.2.1.size fun j hj hO => by have := H1.out.2.2 j hO; omega)
          · obtain ⟨P, p1, p2, p3⟩ := k4
            refine ⟨cb, P, rfl, p1, fun j hj => ?_⟩
            rcases p2 j hj with e | e
            · exact H1.out.2.2 j e
            · exact Nat.le_trans H1.out.2.1.size e)
        obtain ⟨t, ht⟩ : ∃ t, t = rowTotal m := ⟨_, rfl⟩
        have hTl := HT.out.1
        rw [← ht] at hto hTl
        have hp3 := fun W b => hpl.out W b t hTl
        clear J q1 q2 q3 q4 hqe hqn hq hg ht hTl hpl
        go_wp2_with fail
        refine hto.mono ?_
        rintro e w3 ⟨rfl, b3⟩
        have HB3 := Lib.hid b3
        clear hto b3
        go_wp2_with fail
        refine (hp3 _ _ (by simp) (by simp)).mono ?_
        rintro e w4 ⟨rfl, rfl⟩
        obtain ⟨r1, r2, r3, r4⟩ := FR.out _ (HB3.out.alloc HB3.out.size (.cells #[.int .u64 (t : Int), .int .u64 (l : Int)] 23))
        have HR := Lib.hid (And.intro r3 r4)
        clear hp3 HB3 r3 r4 FR
        by_cases h0 : 0 < (l : Int)
        · have d1 : decide (0 < (l : Int)) = true := by simpa using h0
          have d0 : decide (0 < l) = true := by simpa using h0
          by_cases hz : n = 0
          · subst hz
            clear h0
            go_wp2_with fail
            go_ret2
            exact HR.out.2 _ _ (by decide)
          · have d2 : ((n : Int) == 0) = false := by simp; omega
            have d3 : (n == 0) = false := by simp; omega
            clear h0 hz
            go_wp2_with fail
            go_ret2
            exact HR.out.1
        · have d1 : decide (0 < (l : Int)) = false := by simpa using h0
          have d0 : decide (0 < l) = false := by simpa using h0
          clear h0
          go_wp2_with fail
          go_ret2
          exact HR.out.1
  · have hd : decide ((n : Int) ≤ (M : Int)) = false := by simpa using hle
    rw [hd]
    have HB := Lib.hid (FIN.out _ _ _ HJ.out)
    clear hd hle
    go_wp2_with fail
    go_ret2
    exact ⟨none, 1, rfl, HB.out, fun h => absurd h (by decide)⟩

set_option maxHeartbeats 4000000 in
theorem smerge_H {M : Nat} (hM1 : 1 ≤ M) (hM2 : M ≤ 4096) (w : World) (cb ob : Nat) (O N : Nat → Prop) (k m : Row) (T U : Nat) (h : StoQ true M k T w cb O) (g : StoQ true M m U w ob N) (hT : T + U ≤ 9223372036854775807) (hlen : ∀ q, (joinK true M k (m.take q)).length ≤ M) (hml : m.length ≤ 4096) :
    Calls Tryz.prog 234 #[.pointer (some ⟨cb, 0, none⟩), .pointer (some ⟨ob, 0, none⟩)] w fun e w' => e = .returned (.int .i64 0) ∧ StoR true M w cb O (joinK true M k m) (T + U) w' := by
  have hto := Lib.hid (fun W (b : Below w.heap.size w W) => stot_H W cb O k T (h.next b) (by omega))
  have htoo := Lib.hid (fun W (b : Below w.heap.size w W) => stot_H W ob N m U (g.next b) (by omega))
  have hpl := Lib.hid (fun W b => plus_any W b T U hT)
  obtain ⟨rm, fm, lm, xm⟩ := g.rising
  have HT := Lib.hid (And.intro hT (And.intro hlen (And.intro hml (And.intro fm (And.intro lm xm)))))
  have HG := Lib.hid (And.intro h g)
  have hkl := hlen 0
  rw [List.take_zero] at hkl
  have HM := Lib.hid (And.intro hM1 (And.intro hM2 hkl))
  obtain ⟨sb, v, S, hO⟩ := h
  obtain ⟨so, u, P, hN⟩ := g
  obtain ⟨c0, _, _, _⟩ := S.cells
  obtain ⟨d0, _, _, _⟩ := P.cells
  have HP := Lib.hid P
  obtain ⟨l, hl⟩ : ∃ l, l = U - rowTotal m := ⟨_, rfl⟩
  have HL := Lib.hid hl
  have e0 : ((M : Int) != (M : Int)) = false := by simp
  obtain ⟨n, hn⟩ : ∃ n, n = m.length := ⟨_, rfl⟩
  have HN := Lib.hid hn
  have hnb : n ≤ 4096 := by omega
  have hcl := Lib.hid (show ∀ W, Below w.heap.size w W → W.cell? ⟨ob, 1, none⟩ = some (.pointer (some ⟨so, 0, none⟩)) ∧ W.cell? ⟨ob, 2, none⟩ = some (.int .u64 (l : Int)) ∧ ∀ W', Below w.heap.size w W' → Calls Tryz.prog 177 #[.pointer (some ⟨so, 0, none⟩)] W' fun e w' => ∃ vp, e = .returned vp ∧ w'.ownsRow W'.heap.size 228 2 vp m.length (rowC m) ∧ Below W'.heap.size W' w' from fun W b => by
    have k := (P.next b).cells
    refine ⟨k.2.1, by rw [hl]; exact k.2.2.1, fun W' b' => pairs_M W' so u m (P.next b').st (by omega)⟩)
  clear S P hO hN hT hlen hml fm lm xm rm hl hn hM1 hM2 hkl
  have HB0 := Lib.hid (show ∀ n, Below w.heap.size w (w.drewN n) from fun n => below_drewN (Below.refl _ _) n)
  go_enter Tryz.func234, Tryz.ntmps234
  go_wp2_with fail
  go_quiet (fail)
  rename_i nq
  have B1 := HB0.out nq
  have t1 := hto.out _ B1
  have B1 := Lib.hid B1
  clear HB0 c0 d0 hto
  go_wp2_with fail
  refine t1.mono ?_
  rintro e w1 ⟨rfl, b1⟩
  have B2 := B1.out.trans (b1.mono B1.out.size)
  have t2 := htoo.out _ B2
  have B2 := Lib.hid B2
  clear B1 t1 b1 htoo
  go_wp2_with fail
  refine t2.mono ?_
  rintro e w2 ⟨rfl, b2⟩
  have B3 := Lib.hid (B2.out.trans (b2.mono B2.out.size))
  clear B2 t2 b2
  go_wp2_with fail
  refine (hpl.out _ _ (by simp) (by simp)).mono ?_
  rintro e w3 ⟨rfl, rfl⟩
  have B4 : Hid (Below w.heap.size w (w2.alloc (.cells #[.int .u64 (T : Int), .int .u64 (U : Int)] 23))) := Lib.hid (B3.out.alloc B3.out.size _)
  generalize w2.alloc (.cells #[.int .u64 (T : Int), .int .u64 (U : Int)] 23) = w4 at B4 ⊢
  obtain ⟨c1, c2, c3⟩ := hcl.out w4 B4.out
  have t3 := c3 w4 B4.out
  clear B3 hpl c3 hcl
  go_wp2_with fail
  refine t3.mono ?_
  rintro e w5 ⟨vp, rfl, o5, b5⟩
  have J5 : StoL true M w cb O k T vp m w5 := ((StoR.start HG.out.1).next B4.out).toL b5 o5
  obtain ⟨Ap, cp, hvp⟩ := owns_slice o5
  rw [← HN.out] at hvp
  subst hvp
  have HJ := Lib.hid J5
  clear J5 o5 b5 t3 B4 c1 c2
  go_wp2_with fail
  go_loopg [9, 48] n (fun g p i wr => ∃ q : Nat, i = .int .i64 (q : Int) ∧ q ≤ n ∧ n - q ≤ g ∧ StoL true M w cb O (joinK true M k (m.take q)) (T + rowTotal (m.take q)) (.slice Ap n cp) m wr)
  case atStart => exact ⟨0, rfl, Nat.zero_le _, Nat.le_refl _, by rw [List.take_zero]; exact HJ.out⟩
  case round =>
    clear HJ
    obtain ⟨q, rfl, hq, hg, J⟩ := hrel
    have HJ := Lib.hid J
    by_cases hqn : q < n
    · have g0 : (q : Int) < (n : Int) := by omega
      have hql : q < m.length := by rw [← HN.out]; exact hqn
      obtain ⟨ix, hix⟩ : ∃ i, i = (m[q]'hql).1 := ⟨_, rfl⟩
      obtain ⟨ct, hct⟩ : ∃ i, i = (m[q]'hql).2 := ⟨_, rfl⟩
      obtain ⟨T1, T2⟩ := take_total hql
      rw [← hct] at T1 T2
      have hc1 := HT.out.2.2.2.1 _ (List.getElem_mem hql)
      have hx4 := HT.out.2.2.2.2.2 _ (List.getElem_mem hql)
      rw [← hct] at hc1
      rw [← hix] at hx4
      have hsn : joinK true M k (m.take (q + 1)) = putK true M (joinK true M k (m.take q)) ix ct := by
        rw [List.take_succ_eq_append_getElem hql, joinK_snoc, hix, hct]
      have hl1 := HT.out.2.1 q
      have hl2 := HT.out.2.1 (q + 1)
      rw [hsn] at hl2
      have hU := HT.out.1
      have hmU := HT.out.2.2.2.2.1
      rcases owns_shape J.own with ⟨hv0, hn0, _⟩ | ⟨g, cap, hv0, hnc, hcap, _, hgl⟩
      · omega
      simp only [Value.slice.injEq] at hv0
      obtain ⟨rfl, hnn, rfl⟩ := hv0
      have O2 := J.own
      have en : n = m.length := HN.out
      rw [en] at O2
      clear en
      have p0 : wr.cell? ⟨g, q * 2, none⟩ = some (.int .i64 (ix : Int)) := by rw [O2.cellAt _ (by omega), rowC_fst m q hql, hix]
      have p1 : wr.cell? ⟨g, q * 2 + 1, none⟩ = some (.int .u64 (ct : Int)) := by rw [O2.cellAt _ (by omega), rowC_snd m q hql, hct]
      have J2 := J.next ((Below.refl _ _).alloc (Nat.le_refl _) (.cells #[.int .i64 (ix : Int), .int .u64 (ct : Int)] 228))
      have hpu := J2.call (r := .returned (.tuple #[])) fun O' hO' => put_H HM.out.1 HM.out.2.1 _ cb O' _ _ hO' ix ct hx4 hc1 (by omega) hl2 hl1
      rw [← hsn, show T + rowTotal (m.take q) + ct = T + rowTotal (m.take (q + 1)) from by omega] at hpu
      clear hnn O2 J J2 hgl hnc hcap hix hct hsn hl1 hl2 hU hmU T1 T2 hc1 hx4
      go_wp2_with fail
      refine hpu.mono ?_
      rintro e w6 ⟨rfl, J6⟩
      have HK := Lib.hid J6
      clear hpu J6
      go_wp2_with fail
      go_roundg (n - (q + 1))
      case measure => omega
      exact ⟨q + 1, by go_num, by omega, Nat.le_refl _, HK.out⟩
    · have hqe : q = n := by omega
      have g0 : ¬ (q : Int) < (n : Int) := by omega
      rw [hqe, HN.out, List.take_length] at J
      obtain ⟨l1, hl1, k1, k2, k3⟩ := J.toR.lose
      obtain ⟨l2, hl2⟩ : ∃ l2, l2 = l1 + l := ⟨_, rfl⟩
      have hU := HT.out.1
      have hmU := HT.out.2.2.2.2.1
      have hwr : IntKind.u64.wrap ((l1 : Int) + (l : Int)) = (l2 : Int) := by have := HL.out; rw [IntKind.wrap_u64]; omega
      have k4 := k3 l l2 hl2
      rw [HL.out, show T + rowTotal m + (U - rowTotal m) = T + U from by omega] at k4
      have HK := Lib.hid k4
      clear J HJ hl1 k3 hl2 hU hmU k4 hqe hqn hq hg
      go_wp2_with fail
      go_ret
      exact ⟨rfl, HK.out⟩

/-- what Load answers -/
def LoadPH (M : Nat) (row : Row) (T : Nat) (w : World) (e : Ending) (w' : World) : Prop := ∃ (po : Option Addr) (code : Int), e = .returned (.tuple #[.pointer po, .int .i64 code]) ∧ Below w.heap.size w w' ∧
  (code = 0 → ∃ cb O, po = some ⟨cb, 0, none⟩ ∧ StoQ true M row T w' cb O ∧ ∀ j, O j → w.heap.size ≤ j)
set_option maxHeartbeats 4000000 in
theorem sload_H {M : Nat} (hM1 : 1 ≤ M) (hM2 : M ≤ 4096) (w : World) (va : Value) (m : Row) (l : Nat) (h : w.ownsRow 0 228 2 va m.length (rowC m)) (rm : Rising m) (fm : Full m) (xm : ∀ x ∈ m, x.1 < 4096) (hT : rowTotal m + l ≤ 9223372036854775807) (hlen : ∀ q, (joinK true M [] (m.take q)).length ≤ M) (hj : joinK true M [] m = m) (hml : m.length ≤ 4096) :
    Calls Tryz.prog 111 #[.int .i64 (M : Int), va, .int .u64 (l : Int)] w (LoadPH M m (rowTotal m + l) w) := by
  obtain ⟨A, cap, hv⟩ := owns_slice h
  subst hv
  have hnw := snew_H hM1 hM2 w
  have hcm : ∀ x ∈ m, x.2 ≤ 9223372036854775807 := fun x hx => by
    have := rowAt_mem rm hx
    have := rowAt_le_total m x.1
    omega
  have hgd := Lib.hid (fun W (b : Below w.heap.size w W) => good_row W (.slice A m.length cap) m (M : Int) (owns_below h b fun g hg => (h.lt g hg).2) rm fm hcm (by omega))
  have hpl := Lib.hid (fun W b (t : Nat) (ht : t + l ≤ 9223372036854775807) => plus_any W b t l ht)
  obtain ⟨n, hn⟩ : ∃ n, n = m.length := ⟨_, rfl⟩
  have HN := Lib.hid hn
  have hnb : n ≤ 4096 := by omega
  have HT := Lib.hid (And.intro hT (And.intro hlen (And.intro hml (And.intro fm (And.intro xm (And.intro hj h))))))
  have HM := Lib.hid (And.intro hM1 hM2)
  rw [← hn] at hgd ⊢
  clear h rm fm xm hT hlen hj hml hn hM1 hM2 hcm
  go_enter Tryz.func111, Tryz.ntmps111
  go_wp2_with fail
  refine hnw.mono ?_
  rintro e w1 ⟨cb, O, rfl, Q1, b1, hO⟩
  have hg1 := hgd.out w1 b1
  have H1 := Lib.hid (And.intro Q1 (And.intro b1 hO))
  clear hnw Q1 b1 hO hgd
  go_wp2_with fail
  refine hg1.mono ?_
  rintro e w2 ⟨rfl, b2⟩
  have J2 : StoL true M w1 cb O [] 0 (.slice A m.length cap) m w2 := ⟨⟨O, H1.out.1.next b2, fun j hj => .inl hj, Away.of_below b2, fun g hg hO => by have := (HT.out.2.2.2.2.2.2.lt g hg).2; have := H1.out.2.2 g hO; omega⟩, owns_below (owns_below HT.out.2.2.2.2.2.2 H1.out.2.1 fun g hg => (HT.out.2.2.2.2.2.2.lt g hg).2) b2 fun g hg => by have := (HT.out.2.2.2.2.2.2.lt g hg).2; have := H1.out.2.1.size; omega⟩
  have FIN := Lib.hid (show ∀ k T W, StoL true M w1 cb O k T (.slice A m.length cap) m W → Below w.heap.size w W from fun k T W J => by
    obtain ⟨O', q1, q2, q3, q4⟩ := J.st
    exact H1.out.2.1.trans (q3.below (B := w.heap.size) H1.out.2.1.size fun j hj hO => by have := H1.out.2.2 j hO; omega))
  rw [← HN.out] at J2 FIN
  have HJ := Lib.hid J2
  clear hg1 b2 J2
  by_cases hle : (n : Int) ≤ (M : Int)
  · have hd : decide ((n : Int) ≤ (M : Int)) = true := by simpa using hle
    rw [hd]
    go_wp2_with fail
    go_loopg [11, 28] n (fun g p i wr => ∃ q : Nat, i = .int .i64 (q : Int) ∧ q ≤ n ∧ n - q ≤ g ∧ StoL true M w1 cb O (joinK true M [] (m.take q)) (rowTotal (m.take q)) (.slice A n cap) m wr)
    case atStart => exact ⟨0, rfl, Nat.zero_le _, Nat.le_refl _, by rw [List.take_zero]; exact HJ.out⟩
    case round =>
      clear HJ hd hle
      obtain ⟨q, rfl, hq, hg, J⟩ := hrel
      by_cases hqn : q < n
      · have g0 : (q : Int) < (n : Int) := by omega
        have hql : q < m.length := by rw [← HN.out]; exact hqn
        obtain ⟨ix, hix⟩ : ∃ i, i = (m[q]'hql).1 := ⟨_, rfl⟩
        obtain ⟨ct, hct⟩ : ∃ i, i = (m[q]'hql).2 := ⟨_, rfl⟩
        obtain ⟨T1, T2⟩ := take_total hql
        rw [← hct] at T1 T2
        have hc1 := HT.out.2.2.2.1 _ (List.getElem_mem hql)
        have hx4 := HT.out.2.2.2.2.1 _ (List.getElem_mem hql)
        rw [← hct] at hc1
        rw [← hix] at hx4
        have hsn : joinK true M [] (m.take (q + 1)) = putK true M (joinK true M [] (m.take q)) ix ct := by
          rw [List.take_succ_eq_append_getElem hql, joinK_snoc, hix, hct]
        have hl1 := HT.out.2.1 q
        have hl2 := HT.out.2.1 (q + 1)
        rw [hsn] at hl2
        have hU := HT.out.1
        rcases owns_shape J.own with ⟨hv0, hn0, _⟩ | ⟨g, cap', hv0, hnc, hcap, _, hgl⟩
        · omega
        simp only [Value.slice.injEq] at hv0
        obtain ⟨rfl, hnn, rfl⟩ := hv0
        have O2 := J.own
        have en : n = m.length := HN.out
        rw [en] at O2
        clear en
        have p0 : wr.cell? ⟨g, q * 2, none⟩ = some (.int .i64 (ix : Int)) := by rw [O2.cellAt _ (by omega), rowC_fst m q hql, hix]
        have p1 : wr.cell? ⟨g, q * 2 + 1, none⟩ = some (.int .u64 (ct : Int)) := by rw [O2.cellAt _ (by omega), rowC_snd m q hql, hct]
        have J2 := J.next ((Below.refl _ _).alloc (Nat.le_refl _) (.cells #[.int .i64 (ix : Int), .int .u64 (ct : Int)] 228))
        have hpu := J2.call (r := .returned (.int .i64 0)) fun O' hO' => sadd_H HM.out.1 HM.out.2 _ cb O' _ _ hO' ix ct hx4 hc1 (by omega) hl2 hl1
        rw [← hsn, show rowTotal (m.take q) + ct = rowTotal (m.take (q + 1)) from by omega] at hpu
        clear hnn O2 J J2 hgl hnc hcap hix hct hsn hl1 hl2 hU T1 T2 hc1 hx4
        go_wp2_with fail
        refine hpu.mono ?_
        rintro e w6 ⟨rfl, J6⟩
        have HK := Lib.hid J6
        clear hpu J6
        go_wp2_with fail
        go_roundg (n - (q + 1))
        case measure => omega
        exact ⟨q + 1, by go_num, by omega, Nat.le_refl _, HK.out⟩
      · have hqe : q = n := by omega
        have g0 : ¬ (q : Int) < (n : Int) := by omega
        rw [hqe, HN.out, List.take_length, HT.out.2.2.2.2.2.1] at J
        obtain ⟨O', q1, q2, q3, q4⟩ := J.st
        have hto := stot_H wr cb O' m (rowTotal m) q1 (by have := HT.out.1; omega)
        have FR := Lib.hid (show ∀ W, Below wr.heap.size wr W → W.cell? ⟨cb, 2, none⟩ = some (.int .u64 0) ∧ W.frozen? ⟨cb, 2, none⟩ = false ∧ LoadPH M m (rowTotal m + l) w (.returned (.tuple #[.pointer (some ⟨cb, 0, none⟩), .int .i64 0])) (W.setCell ⟨cb, 2, none⟩ (.int .u64 (l : Int))) ∧ ∀ po c, c ≠ 0 → LoadPH M m (rowTotal m + l) w (.returned (.tuple #[.pointer po, .int .i64 c])) W from fun W b => by
          have R : StoR true M w1 cb O m (rowTotal m) W := ⟨O', q1.next b, q2, q3.trans' (Away.of_below (F := O) b) (fun _ _ h => h) (fun _ _ h => h)⟩
          obtain ⟨l1, hl1, k1, k2, k3⟩ := R.lose
          have hb : Below w.heap.size w W := FIN.out _ _ W (by rw [HN.out]; exact J.next b)
          have z0 : l1 = 0 := by omega
          rw [z0] at k1
          have k4 := k3 l l (by omega)
          refine ⟨k1, k2, ⟨_, 0, rfl, ?_, fun _ => ?_⟩, fun po c hc => ⟨po, c, rfl, hb, fun h => absurd h hc⟩⟩
          · obtain ⟨P, p1, p2, p3⟩ := k4
            exact H1.out.2.1.trans (p3.below (B := w.heap.size) H1.out.2.1.size fun j hj hO => by have := H1.out.2.2 j hO; omega)
          · obtain ⟨P, p1, p2, p3⟩ := k4
            refine ⟨cb, P, rfl, p1, fun j hj => ?_⟩
            rcases p2 j hj with e | e
            · exact H1.out.2.2 j e
            · exact Nat.le_trans H1.out.2.1.size e)
        obtain ⟨t, ht⟩ : ∃ t, t = rowTotal m := ⟨_, rfl⟩
        have hTl := HT.out.1
        rw [← ht] at hto hTl
        have hp3 := fun W b => hpl.out W b t hTl
        clear J q1 q2 q3 q4 hqe hqn hq hg ht hTl hpl
        go_wp2_with fail
        refine hto.mono ?_
        rintro e w3 ⟨rfl, b3⟩
        have HB3 := Lib.hid b3
        clear hto b3
        go_wp2_with fail
        refine (hp3 _ _ (by simp) (by simp)).mono ?_
        rintro e w4 ⟨rfl, rfl⟩
        obtain ⟨r1, r2, r3, r4⟩ := FR.out _ (HB3.out.alloc HB3.out.size (.cells #[.int .u64 (t : Int), .int .u64 (l : Int)] 23))
        have HR := Lib.hid (And.intro r3 r4)
        clear hp3 HB3 r3 r4 FR
        by_cases h0 : 0 < (l : Int)
        · have d1 : decide (0 < (l : Int)) = true := by simpa using h0
          have d0 : decide (0 < l) = true := by simpa using h0
          by_cases hz : n = 0
          · subst hz
            clear h0
            go_wp2_with fail
            go_ret2
            exact HR.out.2 _ _ (by decide)
          · have d2 : ((n : Int) == 0) = false := by simp; omega
            have d3 : (n == 0) = false := by simp; omega
            clear h0 hz
            go_wp2_with fail
            go_ret2
            exact HR.out.1
        · have d1 : decide (0 < (l : Int)) = false := by simpa using h0
          have d0 : decide (0 < l) = false := by simpa using h0
          clear h0
          go_wp2_with fail
          go_ret2
          exact HR.out.1
  · have hd : decide ((n : Int) ≤ (M : Int)) = false := by simpa using hle
    rw [hd]
    have HB := Lib.hid (FIN.out _ _ _ HJ.out)
    clear hd hle
    go_wp2_with fail
    go_ret2
    exact ⟨none, 1, rfl, HB.out, fun h => absurd h (by decide)⟩
end Go.Proofs.YtbejdajkkoapgaaGreatDoor

