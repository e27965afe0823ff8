/-
  Several texts in one: Cp, La. What each proves, and on which conditions, stands at its head. Conditions: stated in each.
-/
import Derived.Test.YtbejdajkkoapgaaGreatDoorS06
/-
  Rows that keep what lies close to their end alone, plain: what is kept hangs on all counts alone. No program. Conditions: stated in each law.
-/
set_option linter.unusedVariables false
set_option linter.unusedSimpArgs false
namespace Go.Proofs.YtbejdajkkoapgaaGreatDoor

/-- the pairs whose indexes meet p -/
def capR (p : Nat → Bool) (r : Row) : Row := r.filter fun x => p x.1
theorem rowAt_cap (p : Nat → Bool) (r : Row) (v : Nat) : rowAt (capR p r) v = if p v then rowAt r v else 0 := by
  induction r with
  | nil => unfold rowAt capR; simp [sumIf]
  | cons x r ih =>
    unfold rowAt capR at ih ⊢
    rw [List.filter_cons]
    by_cases hx : p x.1 = true
    · rw [if_pos hx, sumIf_cons, sumIf_cons, ih]
      by_cases hv : p v = true
      · rw [if_pos hv, if_pos hv]
      · rw [if_neg hv, if_neg hv, if_neg]
        simp only [beq_iff_eq]
        rintro rfl
        exact hv hx
    · rw [if_neg hx, sumIf_cons, ih]
      by_cases hv : p v = true
      · rw [if_pos hv, if_pos hv, if_neg, Nat.zero_add]
        simp only [beq_iff_eq]
        rintro rfl
        exact hx hv
      · rw [if_neg hv, if_neg hv]
theorem rising_cap {p : Nat → Bool} {r : Row} (h : Rising r) : Rising (capR p r) := by
  induction r with
  | nil => trivial
  | cons x r ih =>
    unfold capR at ih ⊢
    rw [List.filter_cons]
    split
    · exact ⟨fun y hy => h.1 y (List.mem_filter.1 hy).1, ih h.2⟩
    · exact ih h.2
theorem full_cap {p : Nat → Bool} {r : Row} (h : Full r) : Full (capR p r) := fun x hx => h x (List.mem_filter.1 hx).1
theorem len_cap (p : Nat → Bool) (r : Row) : (capR p r).length ≤ r.length := List.length_filter_le _ _
theorem has_iff {r : Row} (h : Full r) (v : Nat) : 1 ≤ rowAt r v ↔ ∃ x ∈ r, x.1 = v := by
  induction r with
  | nil =>
    constructor
    · intro h1; have h0 : rowAt [] v = 0 := rfl; omega
    · rintro ⟨x, hx, _⟩; cases hx
  | cons x r ih =>
    have ih := ih fun y hy => h y (List.mem_cons_of_mem _ hy)
    have hx := h x (List.mem_cons_self ..)
    unfold rowAt at ih ⊢
    rw [sumIf_cons]
    by_cases e : x.1 = v
    · exact ⟨fun _ => ⟨x, List.mem_cons_self .., e⟩, fun _ => by rw [if_pos (by simpa using e)]; omega⟩
    · rw [if_neg (by simpa using e), Nat.zero_add]
      rw [ih]
      constructor
      · rintro ⟨y, hy, he⟩; exact ⟨y, List.mem_cons_of_mem _ hy, he⟩
      · rintro ⟨y, hy, he⟩
        rcases List.mem_cons.1 hy with rfl | hy
        · exact absurd he e
        · exact ⟨y, hy, he⟩

/-- too far from an end: hi: above it, else below it -/
def farB (hi : Bool) (most i e : Nat) : Bool := if hi then decide (e + most ≤ i) else decide (i + most ≤ e)
/-- an index that is an end rather -/
def betB (hi : Bool) (i e : Nat) : Bool := if hi then decide (i < e) else decide (e < i)
/-- a row's end: hi: its least index, else its greatest one -/
def endN (hi : Bool) (r : Row) : Nat := if hi then (r.head?.map (·.1)).getD 0 else (r.getLast?.map (·.1)).getD 0
/-- what is kept of a row -/
def capK (hi : Bool) (most : Nat) (r : Row) : Row := capR (fun i => !farB hi most i (endN hi r)) r
/-- what is kept of one, behind so many more of an index -/
def putK (hi : Bool) (most : Nat) (k : Row) (i c : Nat) : Row :=
  if k = [] then addL k i c else if farB hi most i (endN hi k) then k else if betB hi i (endN hi k) then addL (capR (fun j => !farB hi most j i) k) i c else addL k i c
def joinK (hi : Bool) (most : Nat) (k m : Row) : Row := m.foldl (fun k x => putK hi most k x.1 x.2) k

def IsEnd (hi : Bool) (r : Row) (e : Nat) : Prop := 1 ≤ rowAt r e ∧ ∀ v, 1 ≤ rowAt r v → if hi then e ≤ v else v ≤ e
theorem IsEnd.uniq {hi : Bool} {r : Row} {a b : Nat} (h : IsEnd hi r a) (k : IsEnd hi r b) : a = b := by
  have h1 := h.2 b k.1
  have h2 := k.2 a h.1
  cases hi <;> simp at h1 h2 <;> omega
theorem rising_getLast : ∀ {r : Row}, Rising r → ∀ (h : r ≠ []) (x), x ∈ r → x.1 ≤ (r.getLast h).1
  | [], _, h, _, _ => absurd rfl h
  | [y], _, _, x, hx => by rw [List.mem_singleton.1 hx]; exact Nat.le_refl _
  | y :: z :: r, hr, _, x, hx => by
    rw [List.getLast_cons (by simp)]
    rcases List.mem_cons.1 hx with rfl | hx
    · have := hr.1 _ (List.getLast_mem (l := z :: r) (by simp)); omega
    · exact rising_getLast hr.2 (by simp) x hx
theorem endN_is (hi : Bool) {r : Row} (hr : Rising r) (hf : Full r) (hn : r ≠ []) : IsEnd hi r (endN hi r) := by
  cases hi with
  | true =>
    cases r with
    | nil => exact absurd rfl hn
    | cons x r =>
      refine ⟨(has_iff hf _).2 ⟨x, List.mem_cons_self .., rfl⟩, fun v hv => ?_⟩
      obtain ⟨y, hy, rfl⟩ := (has_iff hf _).1 hv
      show x.1 ≤ y.1
      rcases List.mem_cons.1 hy with rfl | hy
      · exact Nat.le_refl _
      · have := hr.1 y hy; omega
  | false =>
    have e : endN false r = (r.getLast hn).1 := by unfold endN; rw [List.getLast?_eq_some_getLast hn]; rfl
    rw [e]
    refine ⟨(has_iff hf _).2 ⟨_, List.getLast_mem hn, rfl⟩, fun v hv => ?_⟩
    obtain ⟨y, hy, rfl⟩ := (has_iff hf _).1 hv
    exact rising_getLast hr hn y hy
theorem endN_eq {hi : Bool} {r : Row} {e : Nat} (hr : Rising r) (hf : Full r) (h : IsEnd hi r e) : endN hi r = e := by
  have hn : r ≠ [] := fun e' => by subst e'; have h1 := h.1; have h0 : rowAt [] e = 0 := rfl; omega
  exact (endN_is hi hr hf hn).uniq h
theorem far_self (hi : Bool) (most i : Nat) (h : 1 ≤ most) : farB hi most i i = false := by unfold farB; cases hi <;> simp <;> omega
theorem rowAt_capK (hi : Bool) (most : Nat) (r : Row) (v : Nat) : rowAt (capK hi most r) v = if farB hi most v (endN hi r) then 0 else rowAt r v := by
  unfold capK; rw [rowAt_cap]; cases farB hi most v (endN hi r) <;> simp
theorem rising_capK {hi : Bool} {most : Nat} {r : Row} (h : Rising r) : Rising (capK hi most r) := rising_cap h
theorem full_capK {hi : Bool} {most : Nat} {r : Row} (h : Full r) : Full (capK hi most r) := full_cap h
theorem capK_nil (hi : Bool) (most : Nat) : capK hi most [] = [] := rfl
theorem end_capK {hi : Bool} {most : Nat} {r : Row} (hm : 1 ≤ most) (hr : Rising r) (hf : Full r) (hn : r ≠ []) : capK hi most r ≠ [] ∧ endN hi (capK hi most r) = endN hi r := by
  have h := endN_is hi hr hf hn
  have h1 : IsEnd hi (capK hi most r) (endN hi r) := by
    refine ⟨by rw [rowAt_capK, far_self hi most _ hm]; exact h.1, fun v hv => h.2 v ?_⟩
    rw [rowAt_capK] at hv
    split at hv
    · omega
    · exact hv
  refine ⟨fun e => ?_, endN_eq (rising_capK hr) (full_capK hf) h1⟩
  rw [e] at h1; have h2 := h1.1; have h0 : rowAt [] (endN hi r) = 0 := rfl; omega
theorem put_cap {hi : Bool} {most : Nat} {r : Row} (hm : 1 ≤ most) (hr : Rising r) (hf : Full r) (i c : Nat) (hc : 1 ≤ c) : putK hi most (capK hi most r) i c = capK hi most (addL r i c) := by
  have ra := rising_addL (v := i) (c := c) hr
  have fa := full_addL (v := i) hf hc
  by_cases hn : r = []
  · subst hn
    unfold putK
    rw [capK_nil, if_pos rfl]
    show [(i, c)] = capK hi most [(i, c)]
    have e : endN hi [(i, c)] = i := by cases hi <;> rfl
    unfold capK capR
    rw [e, List.filter_cons]
    simp [far_self hi most i hm]
  · obtain ⟨h1, h2⟩ := end_capK (hi := hi) hm hr hf hn
    have he := endN_is hi hr hf hn
    have h0 : rowAt r (endN hi r) + 0 ≥ 1 := he.1
    generalize hE : endN hi r = e at *
    have hadd : ∀ v, rowAt (addL r i c) v = rowAt r v + if i = v then c else 0 := fun v => rowAt_add r i c v
    unfold putK
    rw [if_neg h1, h2]
    have rk := rising_capK (hi := hi) (most := most) hr
    have fk := full_capK (hi := hi) (most := most) hf
    have hk : ∀ v, rowAt (capK hi most r) v = if farB hi most v e then 0 else rowAt r v := fun v => by rw [rowAt_capK, hE]
    by_cases hfar : farB hi most i e = true
    · rw [if_pos hfar]
      have e2 : endN hi (addL r i c) = e := endN_eq ra fa ⟨by rw [hadd]; omega, fun v hv => by
        rw [hadd] at hv
        by_cases hv2 : i = v
        · subst hv2; unfold farB at hfar; cases hi <;> simp at hfar ⊢ <;> omega
        · rw [if_neg hv2] at hv; exact he.2 v hv⟩
      refine row_ext rk fk (rising_capK ra) (full_capK fa) fun v => ?_
      rw [hk, rowAt_capK, e2, hadd]
      split
      · rfl
      · rename_i hv
        rw [if_neg, Nat.add_zero]
        rintro rfl
        exact hv hfar
    · rw [if_neg hfar]
      by_cases hb : betB hi i e = true
      · rw [if_pos hb]
        have e2 : endN hi (addL r i c) = i := endN_eq ra fa ⟨by rw [hadd, if_pos rfl]; omega, fun v hv => by
          rw [hadd] at hv
          by_cases hv2 : i = v
          · subst hv2; cases hi <;> simp
          · rw [if_neg hv2] at hv
            have := he.2 v hv
            unfold betB at hb
            cases hi <;> simp at hb this ⊢ <;> omega⟩
        refine row_ext (rising_addL (rising_cap rk)) (full_addL (full_cap fk) hc) (rising_capK ra) (full_capK fa) fun v => ?_
        rw [rowAt_add, rowAt_cap, hk, rowAt_capK, e2, hadd]
        by_cases hv : farB hi most v i = true
        · rw [if_pos hv]
          simp only [hv, Bool.not_true, Bool.false_eq_true, if_false, Nat.zero_add]
          rw [if_neg]
          rintro rfl
          rw [far_self hi most _ hm] at hv
          cases hv
        · have hv' : farB hi most v i = false := by simpa using hv
          have hv2 : farB hi most v e = false := by
            unfold betB at hb
            unfold farB at hv' ⊢
            cases hi <;> simp at hb hv' ⊢ <;> omega
          simp [hv', hv2]
      · rw [if_neg hb]
        have e2 : endN hi (addL r i c) = e := endN_eq ra fa ⟨by rw [hadd]; omega, fun v hv => by
          rw [hadd] at hv
          by_cases hv2 : i = v
          · subst hv2; unfold betB at hb; cases hi <;> simp at hb ⊢ <;> omega
          · rw [if_neg hv2] at hv; exact he.2 v hv⟩
        refine row_ext (rising_addL rk) (full_addL fk hc) (rising_capK ra) (full_capK fa) fun v => ?_
        rw [rowAt_add, hk, rowAt_capK, e2, hadd]
        split
        · rename_i hv
          rw [if_neg]
          rintro rfl
          exact hfar hv
        · rfl
theorem join_cap {hi : Bool} {most : Nat} (hm : 1 ≤ most) : ∀ (m r : Row), Rising r → Full r → Full m → joinK hi most (capK hi most r) m = capK hi most (joinL r m)
  | [], r, _, _, _ => rfl
  | x :: m, r, hr, hf, hfm => by
    have h1 := hfm x (List.mem_cons_self ..)
    show joinK hi most (putK hi most (capK hi most r) x.1 x.2) m = capK hi most (joinL (addL r x.1 x.2) m)
    rw [put_cap hm hr hf x.1 x.2 h1]
    exact join_cap hm m _ (rising_addL hr) (full_addL hf h1) fun y hy => hfm y (List.mem_cons_of_mem _ hy)
theorem join_capped {hi : Bool} {most : Nat} {a b : Row} (hm : 1 ≤ most) (ra : Rising a) (fa : Full a) (rb : Rising b) (fb : Full b) : capK hi most (joinL a (capK hi most b)) = capK hi most (joinL a b) := by
  by_cases hb : b = []
  · subst hb; rfl
  have rj := rising_join (m := b) ra
  have fj := full_join fa fb
  have rk := rising_join (m := capK hi most b) ra
  have fk := full_join fa (full_capK (hi := hi) (most := most) fb)
  have eb := endN_is hi rb fb hb
  have hne : joinL a b ≠ [] := fun e => by
    have := rowAt_join a b (endN hi b)
    rw [e] at this
    have h0 : rowAt [] (endN hi b) = 0 := rfl
    have := eb.1
    omega
  have ej := endN_is hi rj fj hne
  have hbest : if hi then endN hi (joinL a b) ≤ endN hi b else endN hi b ≤ endN hi (joinL a b) := ej.2 _ (by rw [rowAt_join]; have := eb.1; omega)
  have e2 : endN hi (joinL a (capK hi most b)) = endN hi (joinL a b) := by
    refine endN_eq rk fk ⟨?_, fun v hv => ej.2 v ?_⟩
    · rw [rowAt_join, rowAt_capK]
      have h1 := ej.1
      rw [rowAt_join] at h1
      by_cases h2 : 1 ≤ rowAt b (endN hi (joinL a b))
      · have h3 : endN hi (joinL a b) = endN hi b := by
          have := eb.2 _ h2
          cases hi <;> simp at this hbest <;> omega
        rw [h3, far_self hi most _ hm]
        simp
        rw [h3] at h1; omega
      · split <;> omega
    · rw [rowAt_join, rowAt_capK] at hv
      rw [rowAt_join]
      split at hv <;> omega
  refine row_ext (rising_capK rk) (full_capK fk) (rising_capK rj) (full_capK fj) fun v => ?_
  rw [rowAt_capK, rowAt_capK, e2, rowAt_join, rowAt_join, rowAt_capK]
  split
  · rfl
  · rename_i hv
    split
    · rename_i hv2
      exfalso
      unfold farB at hv hv2
      cases hi <;> simp at hv hv2 hbest <;> omega
    · rfl
/-- of the kept rows alone -/
theorem join_both {hi : Bool} {most : Nat} {a b : Row} (hm : 1 ≤ most) (ra : Rising a) (fa : Full a) (rb : Rising b) (fb : Full b) : joinK hi most (capK hi most a) (capK hi most b) = capK hi most (joinL a b) := by
  rw [join_cap hm _ _ ra fa (full_capK fb), join_capped hm ra fa rb fb]
theorem join_nil {m : Row} (hr : Rising m) (hf : Full m) : joinL [] m = m :=
  row_ext (rising_join trivial) (full_join (fun x hx => by cases hx) hf) hr hf fun v => by rw [rowAt_join]; show 0 + _ = _; omega
/-- a rising row within so many indexes has no more pairs -/
theorem len_window : ∀ {r : Row} (a n : Nat), Rising r → (∀ x ∈ r, a ≤ x.1 ∧ x.1 < a + n) → r.length ≤ n
  | [], _, _, _, _ => Nat.zero_le _
  | x :: r, a, n, hr, h => by
    obtain ⟨h1, h2⟩ := h x (List.mem_cons_self ..)
    have := len_window (r := r) (x.1 + 1) (a + n - (x.1 + 1)) hr.2 fun y hy => by
      have := hr.1 y hy
      have := h y (List.mem_cons_of_mem _ hy)
      omega
    rw [List.length_cons]; omega
theorem far_end {hi : Bool} {most : Nat} {r : Row} {x : Nat × Nat} (hx : x ∈ capK hi most r) : farB hi most x.1 (endN hi r) = false := by
  have := (List.mem_filter.1 hx).2
  simpa using this
theorem len_capK {hi : Bool} {most : Nat} {r : Row} (hm : 1 ≤ most) (hr : Rising r) (hf : Full r) : (capK hi most r).length ≤ most := by
  by_cases hn : r = []
  · subst hn; exact Nat.zero_le _
  have he := endN_is hi hr hf hn
  cases hi with
  | true =>
    refine len_window (endN true r) most (rising_capK hr) fun x hx => ?_
    have h1 := far_end hx
    have h2 := he.2 x.1 ((has_iff hf _).2 ⟨x, (List.mem_filter.1 hx).1, rfl⟩)
    unfold farB at h1
    simp at h1 h2
    omega
  | false =>
    have hw : ∀ x ∈ capK false most r, endN false r + 1 - most ≤ x.1 ∧ x.1 < endN false r + 1 - most + most := fun x hx => by
      have h1 := far_end hx
      have h2 := he.2 x.1 ((has_iff hf _).2 ⟨x, (List.mem_filter.1 hx).1, rfl⟩)
      unfold farB at h1
      simp at h1 h2
      omega
    exact len_window _ most (rising_capK hr) hw
end Go.Proofs.YtbejdajkkoapgaaGreatDoor

/-
  Cells of magnitudes, plain: floors, where a cell ends, where each begins, and which one a magnitude lies in; and what is kept of a row while it is shed. No program. Conditions: stated in each law.
-/
set_option linter.unusedVariables false
set_option linter.unusedSimpArgs false
namespace Go.Proofs.YtbejdajkkoapgaaGreatDoor
open Go.RowKit Go.Lib

/-- a product divided, rounded down; false: more than 64 bits -/
def flN (a b y : Nat) : Nat × Bool := if y ≤ a * b / 18446744073709551616 then (0, false) else (a * b / y, true)
theorem flN_lt (a b y : Nat) (hy : 1 ≤ y) : (flN a b y).1 < 18446744073709551616 := by
  unfold flN
  split
  · decide
  · rename_i h
    show a * b / y < _
    have h1 : a * b / 18446744073709551616 < y := by omega
    rw [Nat.div_lt_iff_lt_mul (by omega)] at h1 ⊢
    omega
/-- where the cell of a number that stands for it ends -/
def cEnd (num den r : Nat) : Nat := if (flN r den (den - num)).2 = false ∨ 9223372036854775808 < (flN r den (den - num)).1 then 9223372036854775808 else (flN r den (den - num)).1
/-- what stands for a cell, and where it ends -/
def cnx (num den low : Nat) : Nat × Nat := if (flN low (den + num) den).2 = false ∨ 9223372036854775808 < (flN low (den + num) den).1 then (9223372036854775807, 9223372036854775808) else (min (flN low (den + num) den).1 9223372036854775807, cEnd num den (flN low (den + num) den).1)
theorem cEnd_le (num den r : Nat) : cEnd num den r ≤ 9223372036854775808 := by unfold cEnd; split <;> omega
theorem cnx_le (num den low : Nat) : (cnx num den low).1 ≤ 9223372036854775807 ∧ (cnx num den low).2 ≤ 9223372036854775808 := by
  unfold cnx
  split
  · exact ⟨Nat.le_refl _, Nat.le_refl _⟩
  · exact ⟨Nat.min_le_right _ _, cEnd_le _ _ _⟩
/-- where each cell begins -/
def tlow (num den : Nat) : Nat → Nat
  | 0 => 1
  | k + 1 => (cnx num den (tlow num den k)).2 + 1
theorem tlow_le (num den k : Nat) : tlow num den k ≤ 9223372036854775809 := by
  cases k with
  | zero => show 1 ≤ _; omega
  | succ k => have := (cnx_le num den (tlow num den k)).2; show (cnx num den (tlow num den k)).2 + 1 ≤ _; omega
def tlows (num den n : Nat) : List Nat := (List.range n).map (tlow num den)
def treps (num den n : Nat) : List Nat := (List.range n).map fun k => (cnx num den (tlow num den k)).1
theorem tlows_len (num den n : Nat) : (tlows num den n).length = n := by unfold tlows; simp
theorem treps_len (num den n : Nat) : (treps num den n).length = n := by unfold treps; simp
theorem tlows_snoc (num den n : Nat) : tlows num den (n + 1) = tlows num den n ++ [tlow num den n] := by unfold tlows; rw [List.range_succ, List.map_append]; rfl
theorem treps_snoc (num den n : Nat) : treps num den (n + 1) = treps num den n ++ [(cnx num den (tlow num den n)).1] := by unfold treps; rw [List.range_succ, List.map_append]; rfl
/-- so many cells there are -/
def CTab (num den n : Nat) : Prop := n ≤ 4096 ∧ 9223372036854775808 < tlow num den n ∧ ∀ j, j < n → tlow num den j ≤ 9223372036854775808
theorem CTab.uniq {num den n m : Nat} (h : CTab num den n) (k : CTab num den m) : n = m := by
  rcases Nat.lt_trichotomy n m with e | e | e
  · have := k.2.2 n e; have := h.2.1; omega
  · exact e
  · have := h.2.2 m e; have := k.2.1; omega
theorem CTab.pos {num den n : Nat} (h : CTab num den n) : 1 ≤ n := by
  rcases Nat.eq_zero_or_pos n with rfl | e
  · have := h.2.1; have e : tlow num den 0 = 1 := rfl; omega
  · exact e
/-- where a magnitude is looked for, by halves -/
def bsF (l : List Nat) (m i j : Nat) : Nat :=
  if i < j then if l.getD ((i + j) / 2) 0 < m then bsF l m ((i + j) / 2 + 1) j else bsF l m i ((i + j) / 2) else i
termination_by j - i
decreasing_by all_goals omega
theorem bsF_end {l : List Nat} {m i j : Nat} (h : ¬ i < j) : bsF l m i j = i := by rw [bsF, if_neg h]
theorem bsF_up {l : List Nat} {m i j : Nat} (h : i < j) (h1 : l.getD ((i + j) / 2) 0 < m) : bsF l m i j = bsF l m ((i + j) / 2 + 1) j := by rw [bsF, if_pos h, if_pos h1]
theorem bsF_down {l : List Nat} {m i j : Nat} (h : i < j) (h1 : ¬ l.getD ((i + j) / 2) 0 < m) : bsF l m i j = bsF l m i ((i + j) / 2) := by rw [bsF, if_pos h, if_neg h1]
theorem bsF_in (l : List Nat) (m : Nat) : ∀ (d i j : Nat), j - i ≤ d → i ≤ j → i ≤ bsF l m i j ∧ bsF l m i j ≤ j ∧ ∀ n, (j = n ∨ m ≤ l.getD j 0) → (bsF l m i j = n ∨ m ≤ l.getD (bsF l m i j) 0)
  | d, i, j, hd, hij => by
    by_cases h : i < j
    · by_cases h1 : l.getD ((i + j) / 2) 0 < m
      · rw [bsF_up h h1]
        cases d with
        | zero => omega
        | succ d =>
          have k := bsF_in l m d ((i + j) / 2 + 1) j (by omega) (by omega)
          exact ⟨by omega, k.2.1, k.2.2⟩
      · rw [bsF_down h h1]
        cases d with
        | zero => omega
        | succ d =>
          have k := bsF_in l m d i ((i + j) / 2) (by omega) (by omega)
          exact ⟨k.1, by omega, fun n _ => k.2.2 n (.inr (by omega))⟩
    · rw [bsF_end h]
      have : i = j := by omega
      subst this
      exact ⟨Nat.le_refl _, Nat.le_refl _, fun n hn => hn⟩
/-- whether a magnitude begins a cell -/
def cHas (num den n m : Nat) : Bool := decide (bsF (tlows num den n) m 0 n < n) && ((tlows num den n).getD (bsF (tlows num den n) m 0 n) 0 == m)
/-- the cell of a magnitude -/
def cix (num den n m : Nat) : Nat := if cHas num den n m then bsF (tlows num den n) m 0 n else bsF (tlows num den n) m 0 n - 1
theorem tlows_get (num den : Nat) {n k : Nat} (h : k < n) : (tlows num den n).getD k 0 = tlow num den k := by
  unfold tlows
  rw [List.getD_eq_getElem?_getD, List.getElem?_map, List.getElem?_range h]
  rfl
theorem cix_pos {num den n m : Nat} (hn : 1 ≤ n) (hm : 1 ≤ m) (h : cHas num den n m = false) : 1 ≤ bsF (tlows num den n) m 0 n := by
  have k := bsF_in (tlows num den n) m n 0 n (by omega) (by omega)
  rcases Nat.eq_zero_or_pos (bsF (tlows num den n) m 0 n) with e | e
  · exfalso
    have h2 := k.2.2 n (.inl rfl)
    unfold cHas at h
    rw [e] at h2 h
    rw [tlows_get num den (show 0 < n by omega)] at h2 h
    have e1 : tlow num den 0 = 1 := rfl
    rw [e1] at h2 h
    simp at h
    omega
  · exact e
theorem cix_lt {num den n m : Nat} (hn : 1 ≤ n) (hm : 1 ≤ m) : cix num den n m < n := by
  have k := bsF_in (tlows num den n) m n 0 n (by omega) (by omega)
  unfold cix
  split
  · rename_i h
    unfold cHas at h
    simp at h
    exact h.1
  · rename_i h
    have := cix_pos (num := num) (den := den) hn hm (by simpa using h)
    omega

/-- counts of a row, kept so: how many there are -/
theorem total_cap (p : Nat → Bool) (r : Row) : rowTotal (capR p r) ≤ rowTotal r := by
  unfold rowTotal capR
  induction r with
  | nil => exact Nat.le_refl _
  | cons x r ih =>
    rw [List.filter_cons]
    split
    · rw [sumIf_cons, sumIf_cons]; simp; omega
    · rw [sumIf_cons]; simp; omega
theorem cap_all {p : Nat → Bool} {r : Row} (h : ∀ x ∈ r, p x.1 = true) : capR p r = r := List.filter_eq_self.2 h
theorem cap_cons_not {p : Nat → Bool} {x : Nat × Nat} {r : Row} (h : p x.1 = false) : capR p (x :: r) = capR p r := by unfold capR; rw [List.filter_cons, if_neg (by rw [h]; decide)]
theorem cap_snoc_not {p : Nat → Bool} {x : Nat × Nat} {r : Row} (h : p x.1 = false) : capR p (r ++ [x]) = capR p r := by unfold capR; rw [List.filter_append, List.filter_cons, if_neg (by rw [h]; decide)]; simp
/-- the far end of a row: hi: its greatest index, else its least one -/
def farN (hi : Bool) (r : Row) : Nat := endN (!hi) r
/-- a row without its far end -/
def cutN (hi : Bool) (r : Row) : Row := if hi then r.dropLast else r.tail
theorem cut_cap {hi : Bool} {p : Nat → Bool} {r : Row} (hn : r ≠ []) (h : p (farN hi r) = false) : capR p (cutN hi r) = capR p r := by
  cases hi with
  | true =>
    have e : r = r.dropLast ++ [r.getLast hn] := (List.dropLast_concat_getLast hn).symm
    have e2 : farN true r = (r.getLast hn).1 := by unfold farN endN; rw [List.getLast?_eq_some_getLast hn]; rfl
    show capR p r.dropLast = _
    conv => rhs; rw [e]
    rw [cap_snoc_not (by rw [← e2]; exact h)]
  | false =>
    cases r with
    | nil => exact absurd rfl hn
    | cons x r => exact (cap_cons_not h).symm
/-- the far end is not far: nothing is -/
theorem far_all {hi : Bool} {most i : Nat} {r : Row} (hr : Rising r) (h : farB hi most (farN hi r) i = false) : ∀ x ∈ r, (!farB hi most x.1 i) = true := fun x hx => by
  cases hi with
  | true =>
    have hn : r ≠ [] := fun e => by subst e; cases hx
    have e2 : farN true r = (r.getLast hn).1 := by unfold farN endN; rw [List.getLast?_eq_some_getLast hn]; rfl
    have := rising_getLast hr hn x hx
    rw [e2] at h
    unfold farB at h ⊢
    simp at h ⊢
    omega
  | false =>
    cases r with
    | nil => cases hx
    | cons y r =>
      have e2 : farN false (y :: r) = y.1 := rfl
      rw [e2] at h
      have h3 : y.1 ≤ x.1 := by
        rcases List.mem_cons.1 hx with rfl | hx
        · exact Nat.le_refl _
        · have := hr.1 x hx; omega
      unfold farB at h ⊢
      simp at h ⊢
      omega
/-- rows as kept, joined so far: each is as short -/
theorem joinK_take {hi : Bool} {most : Nat} {a b : Row} (hm : 1 ≤ most) (ra : Rising a) (fa : Full a) (fb : Full b) (q : Nat) : (joinK hi most (capK hi most a) (b.take q)).length ≤ most := by
  have fq : Full (b.take q) := fun x hx => fb x (List.mem_of_mem_take hx)
  rw [join_cap hm _ _ ra fa fq]
  exact len_capK hm (rising_join ra) (full_join fa fq)
theorem joinK_snoc (hi : Bool) (most : Nat) (k m : Row) (x : Nat × Nat) : joinK hi most k (m ++ [x]) = putK hi most (joinK hi most k m) x.1 x.2 := by unfold joinK; rw [List.foldl_append]; rfl
/-- numbers as cells -/
def natC (l : List Nat) : List Value := l.map fun x : Nat => Value.int .u64 (x : Int)
theorem natC_append (l m : List Nat) : natC (l ++ m) = natC l ++ natC m := by unfold natC; simp
theorem natC_get (l : List Nat) {i : Nat} (h : i < l.length) : (natC l)[i]? = some (.int .u64 ((l.getD i 0 : Nat) : Int)) := by
  unfold natC
  rw [List.getElem?_map, List.getD_eq_getElem?_getD, List.getElem?_eq_getElem h]
  rfl
end Go.Proofs.YtbejdajkkoapgaaGreatDoor

