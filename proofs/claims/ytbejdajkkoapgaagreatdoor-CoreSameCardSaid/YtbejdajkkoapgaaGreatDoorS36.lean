/-
  Several texts in one: Cs, Kh. What each proves, and on which conditions, stands at its head. Conditions: stated in each.
-/
import Derived.Test.YtbejdajkkoapgaaGreatDoorS25
import Derived.Test.YtbejdajkkoapgaaGreatDoorS34
import Derived.Test.YtbejdajkkoapgaaGreatDoorS35
/-
  The walk of CoreSame for any kind whose bytes are told by its values. Conditions: the kind's laws, and that New takes its config.
-/
set_option linter.unusedVariables false
set_option linter.unusedSimpArgs false
set_option maxRecDepth 100000
namespace Go.Proofs.YtbejdajkkoapgaaGreatDoor
open Go.RowKit Go.Lib

theorem ints_below {w w' : World} {v : Value} {zs : List Int} (h : IntsR w v zs) (hb : Below w.heap.size w w') : IntsR w' v zs := by
  obtain ⟨h1, h2, h3⟩ := h
  refine ⟨h1, h2, h3.imp id ?_⟩
  rintro ⟨b, o, c, rfl, hb1, hc⟩
  exact ⟨b, o, c, rfl, Nat.lt_of_lt_of_le hb1 hb.size, fun i hi => by rw [hb.cell (p := ⟨b, _, none⟩) hb1]; exact hc i hi⟩
theorem allOf_meets (P : Int × Nat → Bool) (L : Leaves) (q : Nat) : ∀ x ∈ allOf P L q, P x = true := fun x hx => by
  unfold allOf at hx
  obtain ⟨y, _, hy⟩ := List.mem_flatMap.1 hx
  exact (List.mem_filter.1 hy).2

/-- leaves as cells: where the values lie, and whether they go by bytes -/
abbrev LfV := List (Value × Bool)
def leafC (x : Value × Bool) : List Value := [x.1, .bool x.2]
def leafsC (l : LfV) : List Value := l.flatMap leafC
theorem leafsC_append (l m : LfV) : leafsC (l ++ m) = leafsC l ++ leafsC m := List.flatMap_append
theorem leafsC_get (l : LfV) (i : Nat) (h : i < l.length) : (leafsC l)[i * 2]? = some (l[i]'h).1 ∧ (leafsC l)[i * 2 + 1]? = some (.bool (l[i]'h).2) := by
  induction l generalizing i with
  | nil => simp at h
  | cons x l ih =>
    have e : leafsC (x :: l) = x.1 :: .bool x.2 :: leafsC l := rfl
    rw [e]
    cases i with
    | zero => exact ⟨rfl, rfl⟩
    | succ i =>
      obtain ⟨h1, h2⟩ := ih i (by simpa using h)
      rw [show (i + 1) * 2 = i * 2 + 1 + 1 from by omega]
      exact ⟨h1, h2⟩
theorem info55 : (Tryz.prog.info? 55).map (fun i => (i.zero, i.size, i.bytes)) = some (some (.agg #[.slice none 0 0, .bool false]), 2, 32) := by kernel_rfl

theorem LeavesR.row {w : World} {v : Value} {L : Leaves} (h : LeavesR w v L) : ∃ us : LfV, us.length = L.length ∧ (∀ i (h1 : i < us.length) (h2 : i < L.length), (us[i]'h1).2 = (L[i]'h2).2 ∧ ValsR w (us[i]'h1).1 (L[i]'h2).1) ∧
    ((us = [] ∧ ∃ A c, v = .slice A 0 c) ∨ ∃ b o c, v = .slice (some ⟨b, o, none⟩) us.length c ∧ b < w.heap.size ∧ ∀ i (h1 : i < us.length), w.cell? ⟨b, o + i * 2, none⟩ = some (us[i]'h1).1 ∧ w.cell? ⟨b, o + i * 2 + 1, none⟩ = some (.bool (us[i]'h1).2)) := by
  rcases h.2 with ⟨rfl, A, c, rfl⟩ | ⟨b, o, c, rfl, hb, hc⟩
  · exact ⟨[], rfl, fun i h1 => by simp at h1, .inl ⟨rfl, A, c, rfl⟩⟩
  · refine ⟨List.ofFn fun i : Fin L.length => (Classical.choose (hc i.1 i.2), (L[i.1]'i.2).2), by simp, fun i h1 h2 => ?_, .inr ⟨b, o, c, by simp, hb, fun i h1 => ?_⟩⟩
    · have := Classical.choose_spec (hc i h2)
      refine ⟨by simp [List.getElem_ofFn], ?_⟩
      simp only [List.getElem_ofFn]
      exact this.2.2
    · have h2 : i < L.length := by simpa using h1
      have := Classical.choose_spec (hc i h2)
      simp only [List.getElem_ofFn]
      exact ⟨this.1, this.2.1⟩

theorem leaves_of_own {w : World} {B : Nat} {v : Value} {us : LfV} {L : Leaves} (h : w.ownsRow B 55 2 v us.length (leafsC us)) (hl : us.length = L.length)
    (hv : ∀ i (h1 : i < us.length) (h2 : i < L.length), (us[i]'h1).2 = (L[i]'h2).2 ∧ ValsR w (us[i]'h1).1 (L[i]'h2).1) : LeavesR w v L := by
  rcases owns_shape h with ⟨rfl, h1, h2⟩ | ⟨g, cap, rfl, h1, h2, h3, h4⟩
  · have : us = [] := List.eq_nil_of_length_eq_zero h1
    subst this
    have : L = [] := List.eq_nil_of_length_eq_zero (by rw [← hl]; rfl)
    subst this
    exact ⟨Nat.zero_le _, .inl ⟨rfl, none, 0, rfl⟩⟩
  · refine ⟨by rw [← hl]; exact Nat.le_trans h1 h2, .inr ⟨g, 0, cap, by rw [hl], h4, fun i hi => ?_⟩⟩
    have hi' : i < us.length := by omega
    obtain ⟨k1, k2⟩ := leafsC_get us i hi'
    obtain ⟨e1, e2⟩ := hv i hi' hi
    rw [Nat.zero_add]
    exact ⟨_, by rw [h.cellAt _ (by omega)]; exact k1, by rw [h.cellAt _ (by omega), ← e1]; exact k2, e2⟩

/-- one leaf more in a row of leaves -/
theorem wpList_leaf {ops : Array Oper} {rest : List Oper} {o : Oper} {a : Act} {Q : Exit → Act → World → Prop} (hgd : o.guard = none) (s x : Operand) (ho : o.op = .call { callee := .builtin .append, args := #[s, x], argTypes := #[29, 29] })
    {W : World} {us : LfV} {A : Option Addr} {c n B : Nat} (hn : us.length = n) (hown : W.ownsRow B 55 2 (.slice A n c) us.length (leafsC us)) (hB : B ≤ W.heap.size) (hlen : n ≤ 100000) (u : Value) (b : Bool) (hu : u.oneCell' = true) (hs : a.eval s = .slice A n c) (hx : a.eval x = .slice (some ⟨W.heap.size, 0, none⟩) 1 1)
    (h : ∀ A' c' w1, w1.ownsRow B 55 2 (.slice A' (n + 1) c') (us ++ [(u, b)]).length (leafsC (us ++ [(u, b)])) → Below B W w1 → wpList Tryz.prog ops Q rest (a.put o.dst (.slice A' (n + 1) c')) w1) :
    wpList Tryz.prog ops Q (o :: rest) a (W.alloc (.cells #[u, .bool b] 55)) := by
  subst hn
  obtain ⟨i0, hi, hz0, hz1, hz2⟩ := info_parts info55
  have b1 : Below B W (W.alloc (.cells #[u, .bool b] 55)) := (Below.refl _ _).alloc hB _
  have o1 : (W.alloc (.cells #[u, .bool b] 55)).ownsRow B 55 2 (.slice A us.length c) us.length (leafsC us) := owns_below hown ((Below.refl _ _).alloc (Nat.le_refl _) _) fun g hg => (hown.lt g hg).2
  refine wpList_append_own _ hgd s x 29 ho B 55 i0 _ 2 32 Tryz.underlying29 hi hz0 hz1 hz2 rfl (by decide) _ _ _ hs o1 _ 1 1 (leafC (u, b)) hx rfl ?_ ?_ (by unfold maxLen; omega) (by omega) (by simp; omega) ?_
  · intro j y hj
    rw [Addr.add_lit, Nat.zero_add]
    exact (Blk.newAt rfl).cell (by simpa [leafC] using hj)
  · intro y hy; simp [leafC] at hy; rcases hy with rfl | rfl
    · exact hu
    · rfl
  intro v' w1 hown2 hgrow _
  have e1 : us.length + 1 = (us ++ [(u, b)]).length := by simp
  have e2 : leafsC us ++ leafC (u, b) = leafsC (us ++ [(u, b)]) := by rw [leafsC_append]; rfl
  have hown3 := hown2
  rw [e1, e2] at hown3
  obtain ⟨A', c', hv⟩ := owns_slice hown2
  subst hv
  have ha : Away (fun k => (Value.slice A us.length c).ownBlock = some k) (W.alloc (.cells #[u, .bool b] 55)) w1 := Away.of_grown hgrow fun k hk => hk
  exact h A' c' w1 hown3 (b1.trans (ha.below (by simp; omega) fun k hk e => by have := (hown.lt k e).1; omega))

/-- the config of CoreSame -/
structure CsC (w : World) (a0 a1 a2 a3 a4 a5 a6 a7 a8 a9 a10 : Int) (W : World) : Prop where
  cfg : Blk W w.heap.size (cfgV a0 a1 a2 a3 a4 a5 a6 a7 a8 a9 a10) 28
  below : Below w.heap.size w W
theorem CsC.next {w : World} {a0 a1 a2 a3 a4 a5 a6 a7 a8 a9 a10 : Int} {W W' : World} (h : CsC w a0 a1 a2 a3 a4 a5 a6 a7 a8 a9 a10 W) (hb : Below W.heap.size W W') : CsC w a0 a1 a2 a3 a4 a5 a6 a7 a8 a9 a10 W' := ⟨h.cfg.below hb h.cfg.lt, h.below.trans (hb.mono h.below.size)⟩

theorem allOf_rev (P : Int × Nat → Bool) (L : Leaves) : (allOf P L L.length).Perm (allOf P L.reverse L.reverse.length) := by
  unfold allOf
  rw [List.take_length, List.take_length]
  exact (List.reverse_perm L).symm.flatMap_right _

/-- what is asked of a kind whose bytes hang on the values alone -/
structure Same (cv : Array Value) (Sk : World → Nat → (Nat → Prop) → Vals → Prop) (Enc : List UInt8 → Vals → Prop) (P : Int × Nat → Bool) : Prop extends Kind cv Sk Enc P where
  uniq : ∀ {s t : List UInt8} {l m : Vals}, Enc s l → Enc t m → l.Perm m → s = t
  again : ∀ {w : World} {kb : Nat} {O : Nat → Prop} {vals : Vals}, Sk w kb O vals → ∀ W, Sp.Tens W → Calls Tryz.prog 17 #[.agg cv] W fun e w' => ∃ kb O, e = .returned (.tuple #[.pointer (some ⟨kb, 0, none⟩), .int .i64 0]) ∧ Below W.heap.size W w' ∧ Sk w' kb O [] ∧ ∀ k, O k → W.heap.size ≤ k

/-- while all values are put into one sketch: all that was, and that sketch -/
structure CsP (Sk : World → Nat → (Nat → Prop) → Vals → Prop) (W0 : World) (ob : Nat) (vals : Vals) (W : World) : Prop where
  sk : ∃ O, Sk W ob O vals ∧ ∀ k, O k → W0.heap.size ≤ k
  below : Below W0.heap.size W0 W
section
variable {Sk : World → Nat → (Nat → Prop) → Vals → Prop} {Enc : List UInt8 → Vals → Prop} {P : Int × Nat → Bool} {a0 a1 a2 a3 a4 a5 a6 a7 a8 a9 a10 : Int}
theorem CsP.next {cv : Array Value} (K : Kind cv Sk Enc P) {W0 W W' : World} {ob : Nat} {vals : Vals} (h : CsP Sk W0 ob vals W) (hb : Below W.heap.size W W') : CsP Sk W0 ob vals W' := by
  obtain ⟨⟨O, h1, h2⟩, h3⟩ := h
  exact ⟨⟨O, K.next h1 hb, h2⟩, h3.trans (hb.mono h3.size)⟩
theorem CsP.put {cv : Array Value} (K : Kind cv Sk Enc P) {W0 W : World} {ob : Nat} {vals : Vals} (h : CsP Sk W0 ob vals W) (x : Int × Nat) (hin : InV vals) (hlen : vals.length < 360) (h1 : I64 x.1) (h2 : x.2 ≤ 20) (hP : P x = true) :
    Calls Tryz.prog 18 #[.pointer (some ⟨ob, 0, none⟩), .int .i64 x.1, .int .u64 (x.2 : Nat)] W fun e w' => e = .returned (.int .i64 0) ∧ CsP Sk W0 ob (vals ++ [x]) w' := by
  obtain ⟨⟨O, k1, k2⟩, k3⟩ := h
  refine (K.put W ob O vals x k1 hin hlen h1 h2).mono fun e w' hh => ?_
  obtain ⟨code, O', rfl, hc, hs, hsub, haw⟩ := hh
  have h0 : code = 0 := hc.2 hP
  subst h0
  rw [if_pos hP] at hs
  refine ⟨rfl, ⟨O', hs, fun k hk => ?_⟩, k3.trans (haw.below k3.size fun k hk hO => by have := k2 k hO; omega)⟩
  rcases hsub k hk with e | e
  · exact k2 k e
  · exact Nat.le_trans k3.size e

set_option maxHeartbeats 16000000 in
theorem same_kind (halive : ∀ W, Sp.Tens W → Calls Tryz.prog 6 #[] W fun e w' => e = .returned (.bool true) ∧ Below W.heap.size W w') (K : Same (cfgV a0 a1 a2 a3 a4 a5 a6 a7 a8 a9 a10) Sk Enc P) (hk : (a0 != 1) = false ∨ ((a0 != 1) = true ∧ (a0 != 2) = false)) (w : World) (ht : Sp.Tens w) (v pv qv : Value) (L : Leaves) (zs ys : List Int)
    (hv : LeavesR w v L) (hp : IntsR w pv zs) (hq : IntsR w qv ys) (hI : ∀ x ∈ L, ∀ y ∈ x.1, I64 y.1) :
    Calls Tryz.prog 4 #[.agg #[.int .i64 a0, .int .u64 a1, .int .u64 a2, .int .i64 a3, .int .i64 a4, .int .i64 a5, .int .u64 a6, .int .i64 a7, .int .i64 a8, .int .i64 a9, .int .u64 a10], v, pv, qv] w fun e w' => e = .returned (.bool true) ∧ Below w.heap.size w w' := by
  obtain ⟨w0, hw0⟩ : ∃ w0, w0 = (w.alloc (.cells #[.int .i64 a0, .int .u64 a1, .int .u64 a2, .int .i64 a3, .int .i64 a4, .int .i64 a5, .int .u64 a6, .int .i64 a7, .int .i64 a8, .int .i64 a9, .int .u64 a10] 28)) := ⟨_, rfl⟩
  have C0 : CsC w a0 a1 a2 a3 a4 a5 a6 a7 a8 a9 a10 w0 := by
    rw [hw0]
    exact ⟨Blk.newAt rfl, (Below.refl _ w).alloc (Nat.le_refl _) _⟩
  have hal := halive w0 (ht.next C0.below)
  have HV := Lib.hid (And.intro hv (And.intro hp (And.intro hq hI)))
  obtain ⟨us, hul, huv, hus⟩ := hv.row
  have HU := Lib.hid (And.intro hul (And.intro huv hus))
  obtain ⟨Av, cv, hvv⟩ := hv.slice
  obtain ⟨Ap, cp, hpp⟩ := hp.slice
  obtain ⟨Aq, cq, hqq⟩ := hq.slice
  subst hvv
  subst hpp
  subst hqq
  obtain ⟨m, hm⟩ : ∃ m, m = L.length := ⟨_, rfl⟩
  have HM := Lib.hid hm
  have hml : m ≤ maxLen := by rw [hm]; exact hv.1
  unfold maxLen at hml
  have HTEN := Lib.hid ht
  rw [← hm]
  clear hv hp hq hI ht hm hul huv hus
  rw [hw0] at hal
  go_enter Tryz.func4, Tryz.ntmps4
  go_wp2_with fail
  refine hal.mono ?_
  rintro e w1 ⟨rfl, b1⟩
  rw [← hw0] at b1
  have C1 := C0.next b1
  clear hal b1 C0 hw0
  obtain ⟨k0, k1, k2, k3, k4, k5, k6, k7, k8, k9, k10⟩ := cfgV_cells C1.cfg
  have hgr := great_any w1 _ L (HV.out.1.below C1.below) a0 a1 a2 a3 a4 a5 a6 a7 a8 a9 a10
  rw [← HM.out] at hgr
  go_wp2_with fail
  refine hgr.mono ?_
  rintro e w2 ⟨g, rfl, b2, hg⟩
  have C2 := C1.next b2
  clear hgr b2 k0 k1 k2 k3 k4 k5 k6 k7 k8 k9 k10 C1
  obtain ⟨k0, k1, k2, k3, k4, k5, k6, k7, k8, k9, k10⟩ := cfgV_cells C2.cfg
  have HC2 := Lib.hid C2
  clear C2
  cases g with
  | true =>
    clear hg
    rcases hk with e1 | ⟨e1, e2⟩
    all_goals (
      go_wp2_with fail
      go_ret
      exact ⟨rfl, HC2.out.below⟩)
  | false =>
    obtain ⟨hfew, _⟩ := hg rfl
    have hIn : ∀ x ∈ L, InV x.1 := fun x hx y hy => ⟨HV.out.2.2.2 x hx y hy, (hfew.2 x hx).2 y hy⟩
    have hp2 : IntsR w2 _ zs := ints_below HV.out.2.1 HC2.out.below
    have htr := tree_any K.toKind w2 (HTEN.out.next HC2.out.below) _ _ L zs (HV.out.1.below HC2.out.below) hp2 hfew hIn
    rw [← HM.out] at htr
    have hm12 : m ≤ 12 := by rw [HM.out]; exact hfew.1
    have HF := Lib.hid (And.intro hfew hIn)
    have HK := Lib.hid K
    clear hg hfew hIn hp2 K
    rcases hk with e1 | ⟨e1, e2⟩
    all_goals (
      go_wp2_with fail
      refine htr.mono ?_
      rintro e w4 ⟨po, vv, ok, rfl, b4, h4⟩
      have C4 := HC2.out.next b4
      clear htr b4 k0 k1 k2 k3 k4 k5 k6 k7 k8 k9 k10
      try clear e1
      try clear e2
      have HC4 := Lib.hid C4
      have H4 := Lib.hid h4
      clear C4 HC2 h4
      go_wp2_with fail
      go_loopg [12, 46] m (fun g r i wr => ∃ (q : Nat) (A : Option Addr) (c : Nat), i = .int .i64 (q : Int) ∧ q ≤ m ∧ m - q ≤ g ∧ r = .slice A q c ∧ wr.ownsRow w4.heap.size 55 2 (.slice A q c) (us.reverse.take q).length (leafsC (us.reverse.take q)) ∧ Below w4.heap.size w4 wr)
      case atStart => exact ⟨0, none, 0, rfl, Nat.zero_le _, Nat.le_refl _, rfl, World.ownsRow_nil _ _ _ _, Below.refl _ _⟩
      case round =>
        obtain ⟨q, A, c, rfl, hq, hg, rfl, hown, hb⟩ := hrel
        by_cases hqm : q < m
        · have g1 : (q : Int) < (m : Int) := by omega
          have hum : us.length = m := by rw [HM.out]; exact HU.out.1
          have hqu : q < us.reverse.length := by rw [List.length_reverse]; omega
          rcases HU.out.2.2 with ⟨hu0, _⟩ | ⟨b, o, c', hv', hb1, hcc⟩
          · rw [hu0] at hum; simp at hum; omega
          rw [hum] at hv'
          simp only [Value.slice.injEq] at hv'
          obtain ⟨rfl, _, rfl⟩ := hv'
          obtain ⟨j, hj⟩ : ∃ j, j = m - 1 - q := ⟨_, rfl⟩
          have hju : j < us.length := by omega
          obtain ⟨d0, d1⟩ := hcc j hju
          have hBw : Below w.heap.size w wr := HC4.out.below.trans (hb.mono HC4.out.below.size)
          rw [← hBw.cell (p := ⟨b, _, none⟩) hb1] at d0 d1
          have hrev : us.reverse[q]'hqu = us[j]'hju := by rw [List.getElem_reverse]; congr 1; omega
          have htk : us.reverse.take (q + 1) = us.reverse.take q ++ [us[j]'hju] := by rw [List.take_succ_eq_append_getElem hqu, hrev]
          have hvr := (HU.out.2.1 j hju (by rw [← HM.out]; omega)).2
          obtain ⟨A', c'', hu⟩ := hvr.slice
          have hlen : (us.reverse.take q).length = q := by rw [List.length_take]; omega
          obtain ⟨x, hx⟩ : ∃ x, x = us[j]'hju := ⟨_, rfl⟩
          rw [← hx] at d0 d1 htk hu
          obtain ⟨u, bt⟩ := x
          simp only at d0 d1 hu
          obtain ⟨n', hn'⟩ : ∃ n', n' = (L[j]'(by rw [← HM.out]; omega)).1.length := ⟨_, rfl⟩
          rw [← hn'] at hu
          have hone : u.oneCell' = true := by rw [hu]; rfl
          have HT := Lib.hid (And.intro htk (And.intro hone hlen))
          have HO := Lib.hid (And.intro hown hb)
          have f0 : (m : Int) - 1 = ((m - 1 : Nat) : Int) := by omega
          have f1 : ((m - 1 : Nat) : Int) - (q : Int) = (j : Int) := by omega
          have f2 : (j : Int) < (m : Int) := by omega
          subst hu
          clear hx hn' hvr hrev htk hlen hcc hown hb hBw hqu hone hum hju
          clear hj
          go_wp2_with (at_builtin; refine wpList_leaf rfl _ _ rfl HT.out.2.2 HO.out.1 HO.out.2.size (by omega) _ bt HT.out.2.1 rfl rfl ?_)
          intro A3 c3 w3 o3 b3
          have H3 := Lib.hid (And.intro o3 b3)
          clear o3 b3
          go_wp2_with fail
          go_roundg (m - (q + 1))
          case measure => omega
          refine ⟨q + 1, A3, c3, by go_num, by omega, Nat.le_refl _, rfl, ?_, HO.out.2.trans H3.out.2⟩
          rw [HT.out.1]; simpa using H3.out.1
        · have g1 : ¬ (q : Int) < (m : Int) := by omega
          have hqe : q = m := by omega
          subst hqe
          have hum : us.length = q := by rw [HM.out]; exact HU.out.1
          have htk : us.reverse.take q = us.reverse := List.take_of_length_le (by rw [List.length_reverse]; omega)
          rw [htk] at hown
          have hrl : us.reverse.length = L.reverse.length := by rw [List.length_reverse, List.length_reverse]; exact HU.out.1
          have hLr : LeavesR wr (.slice A q c) L.reverse := by
            refine leaves_of_own hown hrl fun i h1 h2 => ?_
            have h1' : us.length - 1 - i < us.length := by have := h1; rw [List.length_reverse] at this; omega
            have h2' : L.length - 1 - i < L.length := by have := h2; rw [List.length_reverse] at this; omega
            have k := HU.out.2.1 (us.length - 1 - i) h1' (by have := HU.out.1; omega)
            rw [List.getElem_reverse, List.getElem_reverse]
            have e : L[us.length - 1 - i]'(by have := HU.out.1; omega) = L[L.length - 1 - i]'h2' := by congr 1; have := HU.out.1; omega
            rw [e] at k
            exact ⟨k.1, k.2.below (HC4.out.below.trans (hb.mono HC4.out.below.size))⟩
          have hfewR : FewAll L.reverse := ⟨by rw [List.length_reverse]; exact HF.out.1.1, fun x hx => HF.out.1.2 x (List.mem_reverse.1 hx)⟩
          have hInR : ∀ x ∈ L.reverse, InV x.1 := fun x hx => HF.out.2 x (List.mem_reverse.1 hx)
          have CR := HC4.out.next hb
          have hq5 : IntsR wr (.slice Aq ys.length cq) ys := ints_below HV.out.2.2.1 CR.below
          have htr2 := tree_any HK.out.toKind wr (HTEN.out.next CR.below) _ _ L.reverse ys hLr hq5 hfewR hInR
          obtain ⟨k0, k1, k2, k3, k4, k5, k6, k7, k8, k9, k10⟩ := cfgV_cells CR.cfg
          have HCR := Lib.hid (And.intro CR hb)
          have HFR := Lib.hid (And.intro hfewR hInR)
          have eRL : L.reverse.length = q := by rw [List.length_reverse]; exact HM.out.symm
          clear hown htk hrl hLr hfewR hInR hq5 CR hb hum
          go_wp2_with fail
          refine htr2.mono ?_
          rintro e w5 ⟨po2, vv2, ok2, rfl, b5, h5⟩
          have C5 := HCR.out.1.next b5
          have HB5 := Lib.hid (HCR.out.2.trans (b5.mono HCR.out.2.size))
          have H5 := Lib.hid h5
          have HC5 := Lib.hid C5
          have HS5 := Lib.hid (HCR.out.2.size)
          clear htr2 b5 h5 C5 k0 k1 k2 k3 k4 k5 k6 k7 k8 k9 k10 HCR
          cases ok with
          | false =>
            go_wp2_with fail
            go_ret
            exact ⟨rfl, HC5.out.below⟩
          | true =>
            cases ok2 with
            | false =>
              go_wp2_with fail
              go_ret
              exact ⟨rfl, HC5.out.below⟩
            | true =>
              obtain ⟨kb, O, rfl, hsk, hown, hnew⟩ := H4.out rfl
              obtain ⟨kb2, O2, rfl, hsk2, hown2, hnew2⟩ := H5.out rfl
              have hperm := allOf_rev P L
              have hlen := allOf_len P L HF.out.1 L.length
              have hin := allOf_in P L HF.out.2 L.length
              have hmt := allOf_meets P L L.length
              have hlenR := allOf_len P L.reverse HFR.out.1 L.reverse.length
              have hinR := allOf_in P L.reverse HFR.out.2 L.reverse.length
              generalize allOf P L L.length = al at hsk hown hlen hin hperm hmt
              generalize allOf P L.reverse L.reverse.length = bl at hsk2 hlenR hinR hperm
              have sk5 := HK.out.next hsk HB5.out
              have own5 := owns_below hown HB5.out fun g hg => (hown.lt g hg).2
              have hag := HK.out.again hsk w5 (HTEN.out.next HC5.out.below)
              obtain ⟨Aa, ca, hvv⟩ := owns_slice hown
              subst hvv
              obtain ⟨k0, k1, k2, k3, k4, k5, k6, k7, k8, k9, k10⟩ := cfgV_cells HC5.out.cfg
              obtain ⟨n, hn⟩ : ∃ n, n = al.length := ⟨_, rfl⟩
              have hn360 : n ≤ 360 := by rw [hn]; have := HF.out.1.1; omega
              have HN := Lib.hid hn
              have HS := Lib.hid (And.intro sk5 (And.intro hsk2 (And.intro own5 (And.intro hperm (And.intro hin (And.intro hinR hmt))))))
              have hbl : bl.length ≤ 360 := by have := HM.out; omega
              unfold cfgV at hag
              rw [← hn] at own5 ⊢
              clear hsk hown hnew hsk2 hown2 hnew2 hperm hlen hin hmt hlenR hinR sk5 own5 hn
              go_wp2_with fail
              refine hag.mono ?_
              rintro e w6 ⟨ob, OO, rfl, b6, s6, n6⟩
              have P6 : CsP Sk w5 ob (al.reverse.take 0) w6 := ⟨⟨OO, s6, n6⟩, b6⟩
              have HP6 := Lib.hid P6
              clear hag b6 s6 n6 P6 k0 k1 k2 k3 k4 k5 k6 k7 k8 k9 k10
              go_wp2_with fail
              go_loopg [82] n (fun g i wr => ∃ r : Nat, i = .int .i64 (r : Int) ∧ r ≤ n ∧ n - r ≤ g ∧ CsP Sk w5 ob (al.reverse.take r) wr)
              case atStart => exact ⟨0, rfl, Nat.zero_le _, Nat.le_refl _, HP6.out⟩
              case round =>
                clear HP6
                obtain ⟨r, rfl, hr, hgr, S⟩ := hrel
                by_cases hrn : r < n
                · have g1 : (r : Int) < (n : Int) := by omega
                  have hrl : r < al.reverse.length := by rw [List.length_reverse, ← HN.out]; exact hrn
                  obtain ⟨j, hj⟩ : ∃ j, j = n - 1 - r := ⟨_, rfl⟩
                  have hja : j < al.length := by rw [← HN.out]; omega
                  have hrev : al.reverse[r]'hrl = al[j]'hja := by rw [List.getElem_reverse]; congr 1; rw [← HN.out]; omega
                  have htk : al.reverse.take (r + 1) = al.reverse.take r ++ [al[j]'hja] := by rw [List.take_succ_eq_append_getElem hrl, hrev]
                  have ownr := owns_below HS.out.2.2.1 S.below fun g hg => (HS.out.2.2.1.lt g hg).2
                  rcases owns_shape ownr with ⟨_, hn0, _⟩ | ⟨g', cap, hv0, hnc, hcap, _, hgl⟩
                  · have := HN.out; omega
                  simp only [Value.slice.injEq] at hv0
                  obtain ⟨rfl, _, rfl⟩ := hv0
                  obtain ⟨y1, y2⟩ := valsC_get al j hja
                  have d0 : wr.cell? ⟨g', j * 2, none⟩ = some (.int .i64 (al[j]'hja).1) := by rw [ownr.cellAt _ (by omega)]; exact y1
                  have d1 : wr.cell? ⟨g', j * 2 + 1, none⟩ = some (.int .u64 ((al[j]'hja).2 : Nat)) := by rw [ownr.cellAt _ (by omega)]; exact y2
                  have hxi := HS.out.2.2.2.2.1 _ (List.getElem_mem hja)
                  have hPx := HS.out.2.2.2.2.2.2 _ (List.getElem_mem hja)
                  have hinT : InV (al.reverse.take r) := fun x hx => HS.out.2.2.2.2.1 x (List.mem_reverse.1 (List.mem_of_mem_take hx))
                  have hltT : (al.reverse.take r).length < 360 := by rw [List.length_take]; omega
                  have b1 : Below wr.heap.size wr (wr.alloc (.cells #[.int .i64 (al[j]'hja).1, .int .u64 ((al[j]'hja).2 : Int)] 59)) := (Below.refl _ _).alloc (Nat.le_refl _) _
                  have hput := (S.next HK.out.toKind b1).put HK.out.toKind (al[j]'hja) hinT hltT hxi.1 hxi.2 hPx
                  obtain ⟨x, hx⟩ : ∃ x, x = al[j]'hja := ⟨_, rfl⟩
                  rw [← hx] at d0 d1 htk hput
                  obtain ⟨X, C⟩ := x
                  simp only at d0 d1 hput
                  have f0 : (n : Int) - 1 = ((n - 1 : Nat) : Int) := by omega
                  have f1 : ((n - 1 : Nat) : Int) - (r : Int) = (j : Int) := by omega
                  have f2 : (j : Int) < (n : Int) := by omega
                  have HT := Lib.hid htk
                  clear hrev htk ownr y1 y2 hxi hPx hinT hltT b1 hx S hrl hja hj
                  go_wp2_with fail
                  refine hput.mono ?_
                  rintro e w7 ⟨rfl, S7⟩
                  have HS7 := Lib.hid S7
                  clear hput S7
                  go_wp2_with fail
                  go_roundg (n - (r + 1))
                  case measure => omega
                  exact ⟨r + 1, by go_num, by omega, Nat.le_refl _, by rw [HT.out]; exact HS7.out⟩
                · have g1 : ¬ (r : Int) < (n : Int) := by omega
                  have hre : al.reverse.take r = al.reverse := List.take_of_length_le (by rw [List.length_reverse, ← HN.out]; omega)
                  rw [hre] at S
                  obtain ⟨⟨OS, so, sn⟩, sb⟩ := S
                  have sl := HK.out.next HS.out.1 sb
                  have sr := HK.out.next HS.out.2.1 sb
                  have hinr : InV al.reverse := fun x hx => HS.out.2.2.2.2.1 x (List.mem_reverse.1 hx)
                  have hb1 := HK.out.bytes wr kb O al sl HS.out.2.2.2.2.1 (by rw [← HN.out]; exact hn360)
                  have HW := Lib.hid (And.intro so (And.intro sl (And.intro sr (And.intro hinr (HC5.out.below.trans (sb.mono HC5.out.below.size))))))
                  clear hre so sn sb sl sr hinr
                  go_wp2_with fail
                  refine hb1.mono ?_
                  rintro e w7 ⟨s1, rfl, en1, b7⟩
                  have hb2 := HK.out.bytes w7 kb2 O2 bl (HK.out.next HW.out.2.2.1 b7) HS.out.2.2.2.2.2.1 hbl
                  have HB7 := Lib.hid b7
                  clear hb1 b7
                  go_wp2_with fail
                  refine hb2.mono ?_
                  rintro e w8 ⟨s2, rfl, en2, b8⟩
                  have B8 := HB7.out.trans (b8.mono HB7.out.size)
                  have hb3 := HK.out.bytes w8 kb O al (HK.out.next HW.out.2.1 B8) HS.out.2.2.2.2.1 (by rw [← HN.out]; exact hn360)
                  obtain rfl : s1 = s2 := HK.out.uniq en1 en2 HS.out.2.2.2.1
                  have HB8 := Lib.hid B8
                  clear hb2 b8 B8 HB7
                  go_wp2_with fail
                  refine hb3.mono ?_
                  rintro e w9 ⟨s3, rfl, en3, b9⟩
                  have B9 := HB8.out.trans (b9.mono HB8.out.size)
                  have hb4 := HK.out.bytes w9 ob OS al.reverse (HK.out.next HW.out.1 B9) HW.out.2.2.2.1 (by rw [List.length_reverse, ← HN.out]; exact hn360)
                  obtain rfl : s1 = s3 := HK.out.uniq en1 en3 (List.Perm.refl _)
                  have HB9 := Lib.hid B9
                  clear hb3 b9 B9 HB8
                  go_wp2_with fail
                  refine hb4.mono ?_
                  rintro e w10 ⟨s4, rfl, en4, b10⟩
                  obtain rfl : s1 = s4 := HK.out.uniq en1 en4 (List.reverse_perm _).symm
                  have HB10 := Lib.hid (HW.out.2.2.2.2.trans ((HB9.out.trans (b10.mono HB9.out.size)).mono HW.out.2.2.2.2.size))
                  clear hb4 b10
                  go_wp2_with fail
                  go_ret
                  exact ⟨by simp, HB10.out⟩)
end
end Go.Proofs.YtbejdajkkoapgaaGreatDoor

/-
  The hdr kind keeps the laws of a kind, and its bytes hang on the values alone. Conditions: the limit is no negative number.
-/
set_option linter.unusedVariables false
set_option linter.unusedSimpArgs false
set_option maxRecDepth 100000
namespace Go.Proofs.YtbejdajkkoapgaaGreatDoor
open Go.RowKit Go.Lib

set_option maxHeartbeats 4000000 in
/-- reads at the kind 2, from its own reader -/
theorem reads_hdr {Q : CoreZ} (C : CoreQ Q) {vals : Vals} (T : TypeId) (x1 x2 x3 x4 x5 x6 x7 x8 x9 x10 : Int) (w : World) (eb : Nat) (hlt : eb < w.heap.size) (hc : Calls Tryz.prog 51 #[.pointer (some ⟨eb, 0, none⟩)] (w.alloc (.cells zeroA 28)) (RdG (cfgV 2 x1 x2 x3 x4 x5 x6 x7 x8 x9 x10) T (Q vals) (w.alloc (.cells zeroA 28)) eb)) :
    Calls Tryz.prog 33 #[.int .i64 2, .pointer (some ⟨eb, 0, none⟩)] w (RdG (cfgV 2 x1 x2 x3 x4 x5 x6 x7 x8 x9 x10) T (Q vals) w eb) := by
  have R0 : Blk (w.alloc (.cells zeroA 28)) w.heap.size zeroA 28 := Blk.newAt rfl
  have RR := Lib.hid R0
  clear R0
  unfold zeroA at hc
  go_enter Tryz.func33, Tryz.ntmps33
  go_wp2_with fail
  refine hc.mono ?_
  rintro e w1 ⟨ok, po, rfl, A1, E1, D1⟩
  have R0 := RR.out
  unfold zeroA at R0
  have R1 := R0.away A1 (by omega)
  obtain ⟨⟨m0, m1, m2, m3, m4, m5, m6, m7, m8, m9, m10⟩, ⟨f0, f1, f2, f3, f4, f5, f6, f7, f8, f9, f10⟩⟩ := zero_cells R1
  have hp := putA_blk (a0 := 2) (a1 := x1) (a2 := x2) (a3 := x3) (a4 := x4) (a5 := x5) (a6 := x6) (a7 := x7) (a8 := x8) (a9 := x9) (a10 := x10) R1
  have hfin := Lib.hid (RdG.on C (a0 := 2) (a1 := x1) (a2 := x2) (a3 := x3) (a4 := x4) (a5 := x5) (a6 := x6) (a7 := x7) (a8 := x8) (a9 := x9) (a10 := x10) (T := T) hlt A1 E1 D1)
  clear hc A1 E1 D1 R1 R0 RR
  unfold cfgV
  go_wp2_with fail
  change bodyPost Tryz.prog Tryz.f33 (RdG (cfgV 2 x1 x2 x3 x4 x5 x6 x7 x8 x9 x10) T (Q vals) w eb) Exit.ret _ (putA w1 w.heap.size 2 x1 x2 x3 x4 x5 x6 x7 x8 x9 x10)
  generalize putA w1 w.heap.size 2 x1 x2 x3 x4 x5 x6 x7 x8 x9 x10 = WW at hp hfin ⊢
  have c0 := hp.cell (j := 0) rfl
  have c1 := hp.cell (j := 1) rfl
  have c2 := hp.cell (j := 2) rfl
  have c3 := hp.cell (j := 3) rfl
  have c4 := hp.cell (j := 4) rfl
  have c5 := hp.cell (j := 5) rfl
  have c6 := hp.cell (j := 6) rfl
  have c7 := hp.cell (j := 7) rfl
  have c8 := hp.cell (j := 8) rfl
  have c9 := hp.cell (j := 9) rfl
  have c10 := hp.cell (j := 10) rfl
  refine bodyPost_ret (v := .tuple #[.agg (cfgV 2 x1 x2 x3 x4 x5 x6 x7 x8 x9 x10), .iface T (.agg #[.pointer po]), .bool ok]) ?_ rfl hfin.out
  simp [results, Tryz.results33, go_sem, cfgV, c0, c1, c2, c3, c4, c5, c6, c7, c8, c9, c10]

theorem enters236 (args : Array Value) (w : World) : (callFunc 236 args).run Tryz.prog w = .ok (.enter 236 args) w := by kernel_rfl
theorem enters242 (args : Array Value) (w : World) : (callFunc 242 args).run Tryz.prog w = .ok (.enter 242 args) w := by kernel_rfl
theorem enters245 (args : Array Value) (w : World) : (callFunc 245 args).run Tryz.prog w = .ok (.enter 245 args) w := by kernel_rfl
section
variable {a1 a2 a3 a4 a5 a6 a7 a8 a9 a10 : Int}
/-- which values a hdr sketch of a config can have -/
def HdG (a1 a2 a3 a4 a5 a6 a7 a8 a9 a10 : Int) (vals : Vals) : Prop := (a1 = 0 ∧ a2 = 0 ∧ a3 = 0 ∧ a4 = 0 ∧ a7 = 0 ∧ a8 = 0 ∧ a9 = 0 ∧ a10 = 0) ∧ (1 ≤ a5 ∧ a5 ≤ 4 ∧ 0 ≤ a6 ∧ a6 ≤ 9223372036854775808) ∧ ∀ x ∈ vals, I64 x.1 ∧ HdP a6 x = true
def HdL (a5 a6 : Int) (vals : Vals) : List UInt8 := loadH a5.toNat a6.toNat (zigN (loOf vals)) (zigN (hiOf vals)) (someOf hfz vals) (rowOf (hf0 a5.toNat) vals) (rowOf (hf1 a5.toNat) vals)
theorem same_hdr : sameB 2 a1 a2 a3 a4 a5 a6 a7 a8 a9 a10 2 (bare1 2 a1) (bare1 2 a2) (bare3 2 a3) (bare4 2 a4) (bare5 2 a5) (bare5 2 a6) (bare7 2 a7) (bare7 2 a8) (bare9 2 a9) (bare9 2 a10) = true ↔ a1 = 0 ∧ a2 = 0 ∧ a3 = 0 ∧ a4 = 0 ∧ a7 = 0 ∧ a8 = 0 ∧ a9 = 0 ∧ a10 = 0 := by
  have e1 : ∀ a, bare1 2 a = 0 := fun a => keep_no (by decide)
  have e3 : ∀ a, bare3 2 a = 0 := fun a => keep_no (by decide)
  have e4 : ∀ a, bare4 2 a = 0 := fun a => keep_no (by decide)
  have e5 : ∀ a, bare5 2 a = a := fun a => keep_yes (by decide)
  have e7 : ∀ a, bare7 2 a = 0 := fun a => keep_no (by decide)
  have e9 : ∀ a, bare9 2 a = 0 := fun a => keep_no (by decide)
  rw [e1, e1, e3, e4, e5, e5, e7, e7, e9, e9]
  unfold sameB
  simp [and_assoc]
theorem HdG.inP {vals : Vals} (h : HdG a1 a2 a3 a4 a5 a6 a7 a8 a9 a10 vals) (hi : InV vals) : InP vals := fun x hx => ⟨(h.2.2 x hx).1, ((HdP_iff a6 x).1 (h.2.2 x hx).2).1, (hi x hx).2⟩
theorem hf0_ix {dg : Nat} {x : Int} (hx : I64 x) {i : Nat} (h : hf0 dg x = some i) : i ≤ 1064960 := by
  unfold hf0 at h
  split at h
  · injection h with h; rw [← h]; exact (ixH_eq dg x hx (by omega)).2.2
  · cases h
theorem hf1_ix {dg : Nat} {x : Int} (hx : I64 x) {i : Nat} (h : hf1 dg x = some i) : i ≤ 1064960 := by
  unfold hf1 at h
  split at h
  · injection h with h; rw [← h]; exact (ixH_eq dg x hx (by omega)).2.2
  · cases h
/-- rows behind few values are short ones with small indexes and counts -/
theorem row_small (f : Int → Option Nat) (hf : ∀ x, I64 x → ∀ i, f x = some i → i ≤ 1064960) {vals : Vals} (h : InP vals) (hl : vals.length ≤ 360) : (rowOf f vals).length ≤ 360 ∧ ∀ y ∈ rowOf f vals, y.1 ≤ 1064960 ∧ 1 ≤ y.2 ∧ y.2 ≤ 7200 := by
  have z := len_of f vals
  have hle := h.le
  refine ⟨by omega, fun y hy => ?_⟩
  obtain ⟨x, hx, e⟩ := mem_of f vals y hy
  have h1 := full_of f vals (fun x hx => (h x hx).2.1) y hy
  have h2 := rowAt_mem (rising_of f vals) hy
  have h3 := rowAt_le_total (rowOf f vals) y.1
  have h4 : rowTotal (rowOf f vals) ≤ allL vals := by
    rw [total_of]
    have : ∀ l : Vals, someOf f l ≤ allL l := fun l => by
      induction l with
      | nil => exact Nat.le_refl _
      | cons x l ih => simp only [someOf, allL]; split <;> omega
    exact this vals
  exact ⟨hf x.1 (h x hx).1 y.1 e, h1, by omega⟩

set_option maxHeartbeats 4000000 in
theorem kind_hdr (h6 : 0 ≤ a6) : Same (cfgV 2 a1 a2 a3 a4 a5 a6 a7 a8 a9 a10) (SkW 2 a1 a2 a3 a4 a5 a6 a7 a8 a9 a10 129 (HdV a5.toNat a6) (HdG a1 a2 a3 a4 a5 a6 a7 a8 a9 a10)) (fun s vals => s = frameB 2 (HdL a5 a6 vals) ∧ HdG a1 a2 a3 a4 a5 a6 a7 a8 a9 a10 vals) (HdP a6) := by
  have C := coreQ_hdr a5.toNat a6
  have hld : ∀ vals, HdG a1 a2 a3 a4 a5 a6 a7 a8 a9 a10 vals → InV vals → vals.length ≤ 360 → (HdL a5 a6 vals).length ≤ 190000 := fun vals hg hi hl => by
    have hp := hg.inP hi
    obtain ⟨e1, e2⟩ := ends_in hp
    have hle := hp.le
    have hT := hdT_vals a5.toNat vals
    obtain ⟨s0, s1⟩ := row_small (hf0 a5.toNat) (fun x hx i h => hf0_ix hx h) hp hl
    obtain ⟨s2, s3⟩ := row_small (hf1 a5.toNat) (fun x hx i h => hf1_ix hx h) hp hl
    have r0 := rowB_len (rowOf (hf0 a5.toNat) vals) ⟨by omega, rising_of _ _, fun x hx => by have := s1 x hx; omega⟩
    have r1 := rowB_len (rowOf (hf1 a5.toNat) vals) ⟨by omega, rising_of _ _, fun x hx => by have := s3 x hx; omega⟩
    have g := hg.2.1
    have k10 := natB_len10 a5.toNat (by omega)
    have k11 := natB_len10 a6.toNat (by omega)
    have k12 := natB_len10 (zigN (loOf vals)) (zigN_eq _ e1).2
    have k13 := natB_len10 (zigN (hiOf vals)) (zigN_eq _ e2).2
    have k14 := natB_len10 (someOf hfz vals) (by unfold hdT at hT; omega)
    unfold HdL loadH
    simp only [List.length_append]
    omega
  have hwr : ∀ (B : Nat) (w : World) (db : Nat) (O : Nat → Prop) (vals : Vals) (qb : Nat) (A : Option Addr) (c : Nat), QuO B w qb (.slice A ([] : List UInt8).length c) [] → B ≤ w.heap.size → HdV a5.toNat a6 vals w db O → (∀ k, O k → k < B) → HdG a1 a2 a3 a4 a5 a6 a7 a8 a9 a10 vals → InV vals → vals.length ≤ 360 →
      Calls Tryz.prog 245 #[.agg #[.pointer (some ⟨db, 0, none⟩)], .pointer (some ⟨qb, 0, none⟩)] w fun e w' => e = .returned (.tuple #[]) ∧ ∃ A' c', NaS B w qb A' c' (HdL a5 a6 vals) w' := fun B w db O vals qb A c hq hB h hO hg hi hl => by
    have hp := hg.inP hi
    obtain ⟨e1, e2⟩ := ends_in hp
    have hle := hp.le
    have hT := hdT_vals a5.toNat vals
    obtain ⟨s0, s1⟩ := row_small (hf0 a5.toNat) (fun x hx i h => hf0_ix hx h) hp hl
    obtain ⟨s2, s3⟩ := row_small (hf1 a5.toNat) (fun x hx i h => hf1_ix hx h) hp hl
    have g := hg.2.1
    have e6 : ((a6.toNat : Nat) : Int) = a6 := by omega
    obtain ⟨pb, t0, t1, v0, v1, hd, rfl⟩ := h
    rw [← e6] at hd
    exact hdr_write B w db pb t0 t1 v0 v1 a5.toNat a6.toNat _ _ _ _ _ qb A c hq hB hd hO (by omega) (by omega) (by rw [hT]; omega) (fun h0 => by
      rw [hT] at h0
      have : vals = [] := List.eq_nil_of_length_eq_zero (by omega)
      subst this; exact ⟨rfl, rfl⟩) e1 e2 ⟨by omega, rising_of _ _, fun x hx => by have := s1 x hx; omega⟩ ⟨by omega, rising_of _ _, fun x hx => by have := s3 x hx; omega⟩
  have hnew := fun w ht => skw_new C (Gd := HdG a1 a2 a3 a4 a5 a6 a7 a8 a9 a10) (a0 := 2) (a1 := a1) (a2 := a2) (a3 := a3) (a4 := a4) (a5 := a5) (a6 := a6) (a7 := a7) (a8 := a8) (a9 := a9) (a10 := a10) (T := 129) (fun W db O => HdV a5.toNat a6 [] W db O ∧ 1 ≤ a5 ∧ a5 ≤ 4 ∧ a6 ≤ 9223372036854775808) (1 ≤ a5 ∧ a5 ≤ 4 ∧ a6 ≤ 9223372036854775808) (fun W W' db O h b => ⟨h.1.next b, h.2⟩) (fun W db O h => h.1.lt) (fun W db O hs h => ⟨h.1, same_hdr.1 hs, ⟨h.2.1, h.2.2.1, h6, h.2.2.2⟩, fun x hx => by cases hx⟩) (fun W ht => fresh_hdr W ht a1 a2 a3 a4 a5 a6 a7 a8 a9 a10 h6) w ht
  have hdec : ∀ (vals : Vals) (w : World), Sp.Tens w → HdG a1 a2 a3 a4 a5 a6 a7 a8 a9 a10 vals → InV vals → vals.length ≤ 360 → Calls Tryz.prog 19 #[.string (bs (frameB 2 (HdL a5 a6 vals)))] w (NewK (SkW 2 a1 a2 a3 a4 a5 a6 a7 a8 a9 a10 129 (HdV a5.toNat a6) (HdG a1 a2 a3 a4 a5 a6 a7 a8 a9 a10)) vals w) := fun vals w ht hg hi hl => by
    have hp := hg.inP hi
    obtain ⟨e1, e2⟩ := ends_in hp
    have hle := hp.le
    have hT := hdT_vals a5.toNat vals
    obtain ⟨s0, s1⟩ := row_small (hf0 a5.toNat) (fun x hx i h => hf0_ix hx h) hp hl
    obtain ⟨s2, s3⟩ := row_small (hf1 a5.toNat) (fun x hx i h => hf1_ix hx h) hp hl
    have g := hg.2.1
    have e5 : ((a5.toNat : Nat) : Int) = a5 := by omega
    have e6 : ((a6.toNat : Nat) : Int) = a6 := by omega
    obtain ⟨rfl, rfl, rfl, rfl, rfl, rfl, rfl, rfl⟩ := hg.1
    refine skw_decode C (a0 := 2) (T := 129) 2 rfl vals hg (HdL a5 a6 vals) (hld vals hg hi hl) (fun W eb hW hE => ?_) w ht
    refine reads_hdr C 129 0 0 0 0 a5 a6 0 0 0 0 W eb (Blk.lt hE) ?_
    have hE2 : EyO (W.alloc (.cells zeroA 28)) eb (loadHE a5.toNat a6.toNat (zigN (loOf vals)) (zigN (hiOf vals)) (someOf hfz vals) (rowOf (hf0 a5.toNat) vals) (rowOf (hf1 a5.toNat) vals)) := by
      rw [← loadHE_eq]; exact Blk.alloc hE _
    have key := rd_hdr (W.alloc (.cells zeroA 28)) (hW.next ((Below.refl _ _).alloc (Nat.le_refl _) _)) eb a5.toNat a6.toNat (someOf hfz vals) (loOf vals) (hiOf vals) (rowOf (hf0 a5.toNat) vals) (rowOf (hf1 a5.toNat) vals) vals ⟨rfl, rfl, rfl, rfl, rfl⟩ hE2 (by omega) (by omega) (by omega) e1 e2 (by unfold hdT at hT; omega)
      (rising_of _ _) (full_of _ _ fun x hx => (hp x hx).2.1) (fun x hx => by have := s1 x hx; omega) (by omega) (rising_of _ _) (full_of _ _ fun x hx => (hp x hx).2.1) (fun x hx => by have := s3 x hx; omega) (by omega) (by rw [hT]; omega)
    rw [e5, e6] at key
    exact key
  exact
  { next := fun h b => h.next C b
    away := fun h a n => h.away C a n
    lt := fun h => h.lt C
    ty := fun h => h.ty C
    new := fun w ht => (hnew w ht).mono fun _ _ hh => hh.1
    put := fun w kb O vals x h hi hl hx hc => skw_put C 236 enters236 methh_put (fun vals x g h1 h2 hP => ⟨g.1, g.2.1, fun y hy => by
        rcases List.mem_append.1 hy with hy | hy
        · exact g.2.2 y hy
        · rw [List.mem_singleton.1 hy]; exact ⟨h1, hP⟩⟩)
      (fun w db O vals x h g hi hl hx hc => hdr_put w a5.toNat a6 h6 vals db O h (g.inP hi) hl x hx hc) w kb O vals x h hi hl hx hc
    bytes := fun w kb O vals h hi hl => by
      have hg : HdG a1 a2 a3 a4 a5 a6 a7 a8 a9 a10 vals := by obtain ⟨_, _, _, _, g, _⟩ := h; exact g
      refine (bytes_of w kb _ (skw_encode C 245 enters245 2 rfl methh_write hwr hld w kb O vals h hi hl)).mono fun e w' hh => ?_
      exact ⟨_, hh.1, ⟨rfl, hg⟩, hh.2⟩
    decode := fun w s vals ht he hi hl => by
      obtain ⟨rfl, hg⟩ := he
      exact hdec vals w ht hg hi hl
    join := fun w kb nb O N vals more h k hap hi hj hl => skw_join C 242 enters242 methh_join (fun vals more g g2 => ⟨g.1, g.2.1, fun y hy => by
        rcases List.mem_append.1 hy with hy | hy
        · exact g.2.2 y hy
        · exact g2.2.2 y hy⟩)
      (fun w db ob O N vals more h k g g2 hap hi hj hl => by
        have key := hdr_corejoin w db ob (JoinC (HdV a5.toNat a6) w db O vals more) fun W b => (hdr_join W a5.toNat a6 h6 vals more db ob O N (h.next b) (k.next b) hap (g.inP hi) (g2.inP hj) (fun x hx => (g2.2.2 x hx).2) hl).mono fun e w' hh => by
          obtain ⟨code, O', rfl, h1, h2, h3⟩ := hh
          exact ⟨⟨code, rfl⟩, code, O', rfl, h1, fun k hk => (h2 k hk).imp id fun e => Nat.le_trans b.size e, (Away.of_below (F := O) b).trans' h3 (fun _ _ h => h) (fun _ _ h => h)⟩
        exact key) w kb nb O N vals more h k hap hi hj hl
    uniq := fun h k hp => by
      obtain ⟨rfl, g⟩ := h
      obtain ⟨rfl, g2⟩ := k
      rename_i l m
      have e : HdL a5 a6 l = HdL a5 a6 m := by
        unfold HdL
        have h1 : ∀ x ∈ l, 1 ≤ x.2 := fun x hx => ((HdP_iff a6 x).1 (g.2.2 x hx).2).1
        rw [loOf_perm hp, hiOf_perm hp, someOf_perm hfz hp, rowOf_perm (hf0 a5.toNat) hp h1, rowOf_perm (hf1 a5.toNat) hp h1]
      rw [e]
    again := fun h W ht => by
      obtain ⟨_, _, _, _, g, _⟩ := h
      refine (hnew W ht).mono fun e w' hh => ?_
      exact hh.2 (same_hdr.2 g.1) ⟨g.2.1.1, g.2.1.2.1, g.2.1.2.2.2⟩ }
end
end Go.Proofs.YtbejdajkkoapgaaGreatDoor

