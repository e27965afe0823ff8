/-
  Several texts in one: Row, Qd, Hp, SgFns, WdWide, WdTimes. What each proves, and on which conditions, stands at its head. Conditions: stated in each.
-/
import Derived.Below
import Derived.WalkKit
import Derived.Test.YtbejdajkkoapgaaGreatDoorRows
import Derived.WalkSpells
import Derived.WalkLawsBesides
import Derived.Lib.Mul64
import Derived.Laws.Bits64b
import Derived.BigQuiet
import Derived.Deep.QuietTactic
import Derived.Deep.RegionHeld3
import Derived.Laws.StructEq
import Derived.LoopN
import Derived.Lib.Hide
/-
  Rows of pairs (an index, a count) whose indexes rise: what adding, parting and summing does to them. Plain; no program. Conditions: none.
-/
set_option linter.unusedVariables false
set_option linter.unusedSimpArgs false
namespace Go.Proofs.YtbejdajkkoapgaaGreatDoor

abbrev Row := List (Nat × Nat)

/-- how many there are of the indexes that meet p -/
def sumIf (p : Nat → Bool) : Row → Nat
  | [] => 0
  | x :: l => (if p x.1 then x.2 else 0) + sumIf p l
def rowTotal (l : Row) : Nat := sumIf (fun _ => true) l
def rowAt (l : Row) (v : Nat) : Nat := sumIf (fun i => i == v) l
/-- a row with so many more of an index -/
def addL : Row → Nat → Nat → Row
  | [], v, c => [(v, c)]
  | x :: l, v, c => if x.1 < v then x :: addL l v c else if x.1 = v then (x.1, x.2 + c) :: l else (v, c) :: x :: l
/-- where an index stands, or would -/
def posL : Row → Nat → Nat
  | [], _ => 0
  | x :: l, v => if x.1 < v then posL l v + 1 else 0
def hasL (l : Row) (v : Nat) : Bool := l.any (fun x => x.1 == v)

/-- indexes rise -/
def Rising : Row → Prop
  | [] => True
  | x :: l => (∀ y ∈ l, x.1 < y.1) ∧ Rising l
/-- no count is nought -/
def Full (l : Row) : Prop := ∀ x ∈ l, 1 ≤ x.2

theorem sumIf_nil (p : Nat → Bool) : sumIf p [] = 0 := rfl
theorem sumIf_cons (p : Nat → Bool) (x : Nat × Nat) (l : Row) : sumIf p (x :: l) = (if p x.1 then x.2 else 0) + sumIf p l := rfl
theorem sumIf_add (p : Nat → Bool) (l : Row) (v c : Nat) : sumIf p (addL l v c) = sumIf p l + (if p v then c else 0) := by
  induction l with
  | nil => simp [addL, sumIf]
  | cons x l ih =>
    unfold addL
    split
    · rw [sumIf_cons, sumIf_cons, ih]; omega
    · split
      · rename_i h; rw [sumIf_cons, sumIf_cons, ← h]; split <;> omega
      · rw [sumIf_cons, sumIf_cons]; simp only; omega
theorem sumIf_append (p : Nat → Bool) (l m : Row) : sumIf p (l ++ m) = sumIf p l + sumIf p m := by
  induction l with
  | nil => simp [sumIf]
  | cons x l ih => rw [List.cons_append, sumIf_cons, sumIf_cons, ih]; omega
theorem sumIf_le (p q : Nat → Bool) (l : Row) (h : ∀ x ∈ l, p x.1 = true → q x.1 = true) : sumIf p l ≤ sumIf q l := by
  induction l with
  | nil => exact Nat.le_refl _
  | cons x l ih =>
    have h1 := ih fun y hy => h y (List.mem_cons_of_mem _ hy)
    have h2 := h x List.mem_cons_self
    rw [sumIf_cons, sumIf_cons]
    cases hp : p x.1
    · simp; omega
    · rw [h2 hp]; simp; omega
theorem sumIf_congr (p q : Nat → Bool) (l : Row) (h : ∀ x ∈ l, p x.1 = q x.1) : sumIf p l = sumIf q l := by
  induction l with
  | nil => rfl
  | cons x l ih => rw [sumIf_cons, sumIf_cons, ih fun y hy => h y (List.mem_cons_of_mem _ hy), h x List.mem_cons_self]
theorem sumIf_none (p : Nat → Bool) (l : Row) (h : ∀ x ∈ l, p x.1 = false) : sumIf p l = 0 := by
  induction l with
  | nil => rfl
  | cons x l ih => rw [sumIf_cons, ih fun y hy => h y (List.mem_cons_of_mem _ hy), h x List.mem_cons_self]; rfl
theorem sumIf_split (p q : Nat → Bool) (l : Row) : sumIf p l = sumIf (fun i => p i && q i) l + sumIf (fun i => p i && !q i) l := by
  induction l with
  | nil => rfl
  | cons x l ih =>
    rw [sumIf_cons, sumIf_cons, sumIf_cons, ih]
    cases p x.1 <;> cases q x.1 <;> simp <;> omega
theorem sumIf_perm {l m : Row} (h : l.Perm m) (p : Nat → Bool) : sumIf p l = sumIf p m := by
  induction h with
  | nil => rfl
  | cons x _ ih => rw [sumIf_cons, sumIf_cons, ih]
  | swap x y l => simp only [sumIf_cons]; omega
  | trans _ _ h1 h2 => rw [h1, h2]

theorem rowAt_zero {l : Row} (hf : Full l) {v : Nat} (h : ∀ x ∈ l, x.1 ≠ v) : rowAt l v = 0 :=
  sumIf_none _ _ fun x hx => by simp [h x hx]
theorem mem_addL {l : Row} {v c : Nat} {x : Nat × Nat} (h : x ∈ addL l v c) : x ∈ l ∨ x.1 = v := by
  induction l with
  | nil => simp [addL] at h; exact .inr (by rw [h])
  | cons y l ih =>
    unfold addL at h
    split at h
    · rcases List.mem_cons.1 h with rfl | h
      · exact .inl List.mem_cons_self
      · rcases ih h with h | h
        · exact .inl (List.mem_cons_of_mem _ h)
        · exact .inr h
    · split at h
      · rcases List.mem_cons.1 h with rfl | h
        · rename_i e; exact .inr e
        · exact .inl (List.mem_cons_of_mem _ h)
      · rcases List.mem_cons.1 h with rfl | h
        · exact .inr rfl
        · exact .inl h
theorem full_addL {l : Row} {v c : Nat} (h : Full l) (hc : 1 ≤ c) : Full (addL l v c) := by
  induction l with
  | nil => intro x hx; simp [addL] at hx; rw [hx]; exact hc
  | cons y l ih =>
    have hl : Full l := fun x hx => h x (List.mem_cons_of_mem _ hx)
    have hy := h y List.mem_cons_self
    intro x hx
    unfold addL at hx
    split at hx
    · rcases List.mem_cons.1 hx with rfl | hx
      · exact hy
      · exact ih hl x hx
    · split at hx
      · rcases List.mem_cons.1 hx with rfl | hx
        · show 1 ≤ y.2 + c; omega
        · exact hl x hx
      · rcases List.mem_cons.1 hx with rfl | hx
        · exact hc
        · exact h x hx
theorem rising_addL {l : Row} {v c : Nat} (h : Rising l) : Rising (addL l v c) := by
  induction l with
  | nil => exact ⟨fun y hy => by simp at hy, trivial⟩
  | cons y l ih =>
    obtain ⟨h1, h2⟩ := h
    unfold addL
    split
    · rename_i hlt
      refine ⟨fun x hx => ?_, ih h2⟩
      rcases mem_addL hx with hx | hx
      · exact h1 x hx
      · omega
    · split
      · exact ⟨h1, h2⟩
      · refine ⟨fun x hx => ?_, h1, h2⟩
        show v < x.1
        rcases List.mem_cons.1 hx with rfl | hx
        · omega
        · have := h1 x hx; omega
theorem length_addL (l : Row) (v c : Nat) : (addL l v c).length = l.length + (if hasL l v then 0 else 1) ∨ ¬ Rising l := by
  induction l with
  | nil => left; simp [addL, hasL]
  | cons y l ih =>
    by_cases hr : Rising (y :: l)
    · obtain ⟨h1, h2⟩ := hr
      rcases ih with ih | ih
      · left
        unfold addL
        split
        · rename_i hlt
          have e : hasL (y :: l) v = hasL l v := by unfold hasL; rw [List.any_cons]; simp; intro h; omega
          rw [List.length_cons, ih, e, List.length_cons]; omega
        · split
          · rename_i e; simp [hasL, e]
          · have e : hasL (y :: l) v = false := by
              unfold hasL
              rw [List.any_eq_false]
              intro x hx
              rcases List.mem_cons.1 hx with rfl | hx
              · simp; omega
              · have := h1 x hx; simp; omega
            rw [e]; simp
      · exact absurd h2 ih
    · exact .inr hr
theorem length_addL_le (l : Row) (v c : Nat) : (addL l v c).length ≤ l.length + 1 := by
  induction l with
  | nil => simp [addL]
  | cons y l ih =>
    unfold addL
    split
    · simp; omega
    · split <;> simp

/-- in a row that rises an index stands once -/
theorem rowAt_cons_ne {x : Nat × Nat} {l : Row} {v : Nat} (h : x.1 ≠ v) : rowAt (x :: l) v = rowAt l v := by
  unfold rowAt; rw [sumIf_cons]; simp [h]
theorem rowAt_low {l : Row} {v : Nat} (h : ∀ y ∈ l, v < y.1) : rowAt l v = 0 :=
  sumIf_none _ _ fun y hy => by have := h y hy; simp; omega
theorem rowAt_mem {l : Row} (h : Rising l) {x : Nat × Nat} (hx : x ∈ l) : rowAt l x.1 = x.2 := by
  induction l with
  | nil => simp at hx
  | cons y l ih =>
    obtain ⟨h1, h2⟩ := h
    rcases List.mem_cons.1 hx with rfl | hx
    · unfold rowAt; rw [sumIf_cons]
      have := rowAt_low (v := x.1) h1
      unfold rowAt at this
      rw [this]; simp
    · rw [rowAt_cons_ne (by have := h1 x hx; omega)]; exact ih h2 hx

/-- the sum over some indexes is at most the sum over a list in which they all stand -/
theorem sumIf_list (l : Row) (p : Nat → Bool) (ks : List Nat) (h : ∀ x ∈ l, p x.1 = true → x.1 ∈ ks) : sumIf p l ≤ (ks.map (rowAt l)).sum := by
  induction l with
  | nil => exact Nat.zero_le _
  | cons x l ih =>
    have h1 := ih fun y hy => h y (List.mem_cons_of_mem _ hy)
    have h2 := h x List.mem_cons_self
    rw [sumIf_cons]
    have mono : ∀ ks : List Nat, (ks.map (rowAt l)).sum ≤ (ks.map (rowAt (x :: l))).sum := fun ks => by
      induction ks with
      | nil => exact Nat.le_refl _
      | cons k ks ih => simp only [List.map_cons, List.sum_cons]; unfold rowAt at *; rw [sumIf_cons]; omega
    have more : ∀ ks : List Nat, x.1 ∈ ks → x.2 + (ks.map (rowAt l)).sum ≤ (ks.map (rowAt (x :: l))).sum := fun ks => by
      induction ks with
      | nil => intro hk; simp at hk
      | cons k ks ih =>
        intro hk
        simp only [List.map_cons, List.sum_cons]
        have hm := mono ks
        have hm1 := mono [k]
        simp only [List.map_cons, List.sum_cons, List.map_nil, List.sum_nil] at hm1
        by_cases e : x.1 = k
        · have : rowAt (x :: l) k = x.2 + rowAt l k := by unfold rowAt; rw [sumIf_cons]; simp [e]
          omega
        · rcases List.mem_cons.1 hk with rfl | hk
          · exact absurd rfl e
          · have := ih hk; omega
    cases hp : p x.1
    · have := mono ks; simp; omega
    · have := more ks (h2 hp); simp; omega
theorem sum_le_mul (f : Nat → Nat) (b : Nat) : ∀ ks : List Nat, (∀ k ∈ ks, f k ≤ b) → (ks.map f).sum ≤ ks.length * b
  | [], _ => by simp
  | k :: ks, h => by
    have h1 := sum_le_mul f b ks fun j hj => h j (List.mem_cons_of_mem _ hj)
    have h2 := h k List.mem_cons_self
    simp only [List.map_cons, List.sum_cons, List.length_cons, Nat.add_mul]; omega
end Go.Proofs.YtbejdajkkoapgaaGreatDoor

/-
  A tree's digest, plain: what a row of nodes tells of the values that were put, what lifting a node keeps, and how close a quantile's answer is. No program. Conditions: none.
-/
set_option linter.unusedVariables false
set_option linter.unusedSimpArgs false
namespace Go.Proofs.YtbejdajkkoapgaaGreatDoor

abbrev Vals := List (Int × Nat)
/-- how many values there are up to one -/
def upL : Vals → Int → Nat
  | [], _ => 0
  | v :: l, x => (if v.1 ≤ x then v.2 else 0) + upL l x
def allL : Vals → Nat
  | [] => 0
  | v :: l => v.2 + allL l
theorem upL_append (l m : Vals) (x : Int) : upL (l ++ m) x = upL l x + upL m x := by
  induction l with
  | nil => simp [upL]
  | cons v l ih => simp only [List.cons_append, upL, ih]; omega
theorem allL_append (l m : Vals) : allL (l ++ m) = allL l + allL m := by
  induction l with
  | nil => simp [allL]
  | cons v l ih => simp only [List.cons_append, allL, ih]; omega

/-- the least and the greatest value below a node -/
def wid (d v : Nat) : Nat := 2 ^ (d - Nat.log2 v)
def loN (d v : Nat) : Nat := v * wid d v - 2 ^ d
def hiN (d v : Nat) : Nat := v * wid d v + wid d v - 1 - 2 ^ d
def bro (v : Nat) : Nat := if v % 2 = 0 then v + 1 else v - 1

theorem log2_bd (d v : Nat) (h : 1 ≤ v) (h' : v < 2 * 2 ^ d) : 2 ^ Nat.log2 v ≤ v ∧ v < 2 ^ (Nat.log2 v + 1) ∧ Nat.log2 v ≤ d := by
  have h1 := Nat.log2_self_le (n := v) (by omega)
  have h2 := Nat.lt_log2_self (n := v)
  refine ⟨h1, h2, ?_⟩
  refine Nat.le_of_not_lt fun hlt => ?_
  have h3 : 2 ^ (d + 1) ≤ 2 ^ Nat.log2 v := Nat.pow_le_pow_right (by decide) hlt
  rw [Nat.pow_succ] at h3; omega
theorem node_bd (d v : Nat) (h : 1 ≤ v) (h' : v < 2 * 2 ^ d) : 1 ≤ wid d v ∧ 2 ^ d ≤ v * wid d v ∧ v * wid d v + wid d v ≤ 2 * 2 ^ d := by
  obtain ⟨h1, h2, h3⟩ := log2_bd d v h h'
  have e : 2 ^ d = 2 ^ Nat.log2 v * 2 ^ (d - Nat.log2 v) := by rw [← Nat.pow_add]; congr 1; omega
  have q : 1 ≤ 2 ^ (d - Nat.log2 v) := Nat.one_le_two_pow
  have m1 := Nat.mul_le_mul_right (2 ^ (d - Nat.log2 v)) h1
  have m2 : (v + 1) * 2 ^ (d - Nat.log2 v) ≤ 2 ^ (Nat.log2 v + 1) * 2 ^ (d - Nat.log2 v) := Nat.mul_le_mul_right _ h2
  rw [Nat.pow_succ, Nat.mul_right_comm, ← e, Nat.add_mul] at m2
  rw [← e] at m1
  unfold wid
  omega
theorem lo_hi (d v : Nat) (h : 1 ≤ v) (h' : v < 2 * 2 ^ d) : loN d v ≤ hiN d v ∧ hiN d v < 2 ^ d := by
  obtain ⟨h1, h2, h3⟩ := node_bd d v h h'
  unfold loN hiN; omega
theorem leaf_lo (d x : Nat) (h : x < 2 ^ d) : loN d (2 ^ d + x) = x ∧ hiN d (2 ^ d + x) = x := by
  have hp : 1 ≤ 2 ^ d := Nat.one_le_two_pow
  obtain ⟨h1, h2, h3⟩ := log2_bd d (2 ^ d + x) (by omega) (by omega)
  have e : Nat.log2 (2 ^ d + x) = d := by
    refine Nat.le_antisymm h3 (Nat.le_of_not_lt fun hlt => ?_)
    have : 2 ^ (Nat.log2 (2 ^ d + x) + 1) ≤ 2 ^ d := Nat.pow_le_pow_right (by decide) hlt
    omega
  unfold loN hiN wid
  rw [e]; simp
theorem bro_bd (d v : Nat) (h : 2 ≤ v) (h' : v < 2 * 2 ^ d) : 2 ≤ bro v ∧ bro v < 2 * 2 ^ d ∧ bro v / 2 = v / 2 ∧ bro v ≠ v := by
  unfold bro
  have : 1 ≤ 2 ^ d := Nat.one_le_two_pow
  split <;> omega
theorem log2_half (v : Nat) (h : 2 ≤ v) : Nat.log2 v = Nat.log2 (v / 2) + 1 := by
  rw [Nat.log2_def]; simp [h]
theorem up_range (d v : Nat) (h : 2 ≤ v) (h' : v < 2 * 2 ^ d) : loN d (v / 2) ≤ loN d v ∧ hiN d v ≤ hiN d (v / 2) := by
  obtain ⟨g1, g2, g3⟩ := log2_bd d v (by omega) h'
  obtain ⟨h1, h2, h3⟩ := node_bd d v (by omega) h'
  obtain ⟨k1, k2, k3⟩ := node_bd d (v / 2) (by omega) (by omega)
  have e := log2_half v h
  have ew : wid d (v / 2) = 2 * wid d v := by
    unfold wid
    rw [show d - Nat.log2 (v / 2) = d - Nat.log2 v + 1 from by omega, Nat.pow_succ]; omega
  unfold loN hiN
  rw [ew] at *
  generalize wid d v = x at *
  have m1 : v / 2 * (2 * x) = 2 * (v / 2) * x := by rw [Nat.mul_comm 2 (v / 2), Nat.mul_assoc]
  rw [m1] at *
  have m2 : 2 * (v / 2) * x ≤ v * x := Nat.mul_le_mul_right _ (by omega)
  have m3 : (v + 1) * x ≤ (2 * (v / 2) + 2) * x := Nat.mul_le_mul_right _ (by omega)
  rw [Nat.add_mul, Nat.add_mul] at m3
  omega
/-- a node above a value's leaf is on its way up -/
theorem on_way (d v w : Nat) (h : 1 ≤ v) (h' : v < 2 * 2 ^ d) (h1 : loN d v < w) (h2 : w ≤ hiN d v) : v < 2 ^ d ∧ ∃ j, j < d ∧ v = (2 ^ d + w) / 2 ^ (j + 1) := by
  obtain ⟨g1, g2, g3⟩ := log2_bd d v h h'
  obtain ⟨b1, b2, b3⟩ := node_bd d v h h'
  unfold loN at h1; unfold hiN at h2
  have hne : Nat.log2 v ≠ d := by
    intro e
    have : wid d v = 1 := by unfold wid; rw [e]; simp
    rw [this] at h1 h2; omega
  have hin : v < 2 ^ d := Nat.lt_of_lt_of_le g2 (Nat.pow_le_pow_right (by decide) (by omega))
  refine ⟨hin, d - Nat.log2 v - 1, by omega, ?_⟩
  rw [show d - Nat.log2 v - 1 + 1 = d - Nat.log2 v from by omega]
  show v = (2 ^ d + w) / wid d v
  symm
  refine Nat.div_eq_of_lt_le ?_ ?_
  · omega
  · rw [Nat.add_mul]; omega

/-- what is told of how many values there are up to one: at least, and at most -/
def lowR (d : Nat) (l : Row) (x : Int) : Nat := sumIf (fun v => decide ((hiN d v : Int) ≤ x)) l
def highR (d : Nat) (l : Row) (x : Int) : Nat := sumIf (fun v => decide ((loN d v : Int) ≤ x)) l
def Nodes (d : Nat) (l : Row) : Prop := ∀ x ∈ l, 1 ≤ x.1 ∧ x.1 < 2 * 2 ^ d
/-- inner nodes have few values -/
def Thin (d F : Nat) (l : Row) : Prop := ∀ x ∈ l, x.1 < 2 ^ d → x.2 ≤ rowTotal l / F

structure Told (d : Nat) (l : Row) (vals : Vals) : Prop where
  rising : Rising l
  full : Full l
  nodes : Nodes d l
  total : rowTotal l = allL vals
  low : ∀ x, lowR d l x ≤ upL vals x
  high : ∀ x, upL vals x ≤ highR d l x
structure QInv (d F : Nat) (l : Row) (vals : Vals) : Prop extends Told d l vals where
  thin : Thin d F l

theorem nodes_add {d : Nat} {l : Row} {v c : Nat} (h : Nodes d l) (h1 : 1 ≤ v) (h2 : v < 2 * 2 ^ d) : Nodes d (addL l v c) := fun x hx => by
  rcases mem_addL hx with hx | hx
  · exact h x hx
  · omega
theorem told_nil (d : Nat) : Told d [] [] := ⟨trivial, fun _ h => by simp at h, fun _ h => by simp at h, rfl, fun _ => Nat.le_refl _, fun _ => Nat.le_refl _⟩
theorem qinv_nil (d F : Nat) : QInv d F [] [] := ⟨told_nil d, fun _ h => by simp at h⟩
theorem rowTotal_add (l : Row) (v c : Nat) : rowTotal (addL l v c) = rowTotal l + c := by unfold rowTotal; rw [sumIf_add]; simp
theorem mem_addL_count {l : Row} {v c : Nat} {x : Nat × Nat} (hr : Rising l) (h : x ∈ addL l v c) : x ∈ l ∨ x.1 = v ∧ x.2 = rowAt l v + c := by
  have hs : rowAt (addL l v c) x.1 = x.2 := rowAt_mem (rising_addL hr) h
  rcases mem_addL h with h | h
  · exact .inl h
  · right
    refine ⟨h, ?_⟩
    rw [← hs]; unfold rowAt; rw [sumIf_add, h]; simp
/-- a value is put at its leaf -/
theorem qinv_put {d F : Nat} {l : Row} {vals : Vals} (h : QInv d F l vals) (x : Nat) (c : Nat) (hx : x < 2 ^ d) (hc : 1 ≤ c) (hF : 1 ≤ F) : QInv d F (addL l (2 ^ d + x) c) (vals ++ [((x : Int), c)]) := by
  obtain ⟨e1, e2⟩ := leaf_lo d x hx
  have hp : 1 ≤ 2 ^ d := Nat.one_le_two_pow
  refine ⟨⟨rising_addL h.rising, full_addL h.full hc, nodes_add h.nodes (by omega) (by omega), ?_, fun y => ?_, fun y => ?_⟩, fun y hy hlt => ?_⟩
  · rw [rowTotal_add, allL_append, h.total]; simp [allL]
  · have := h.low y
    unfold lowR at *
    rw [sumIf_add, upL_append, e2]; simp only [upL, decide_eq_true_eq]; omega
  · have := h.high y
    unfold highR at *
    rw [sumIf_add, upL_append, e1]; simp only [upL, decide_eq_true_eq]; omega
  · rw [rowTotal_add]
    rcases mem_addL_count h.rising hy with hy | hy
    · exact Nat.le_trans (h.thin y hy hlt) (Nat.div_le_div_right (by omega))
    · omega
def joinL (l m : Row) : Row := m.foldl (fun l x => addL l x.1 x.2) l
theorem sumIf_join (p : Nat → Bool) (l m : Row) : sumIf p (joinL l m) = sumIf p l + sumIf p m := by
  unfold joinL
  induction m generalizing l with
  | nil => simp [sumIf]
  | cons x m ih => rw [List.foldl_cons, ih, sumIf_add, sumIf_cons]; omega
theorem join_keeps (d : Nat) (l m : Row) (h : Rising l) (hf : Full l) (hn : Nodes d l) (hm : Full m) (hk : Nodes d m) : Rising (joinL l m) ∧ Full (joinL l m) ∧ Nodes d (joinL l m) := by
  unfold joinL
  induction m generalizing l with
  | nil => exact ⟨h, hf, hn⟩
  | cons x m ih =>
    rw [List.foldl_cons]
    have := hk x List.mem_cons_self
    exact ih _ (rising_addL h) (full_addL hf (hm x List.mem_cons_self)) (nodes_add hn this.1 this.2) (fun y hy => hm y (List.mem_cons_of_mem _ hy)) (fun y hy => hk y (List.mem_cons_of_mem _ hy))
theorem rowAt_le {l : Row} (hr : Rising l) {v b : Nat} (h : ∀ x ∈ l, x.1 = v → x.2 ≤ b) : rowAt l v ≤ b := by
  by_cases hv : ∃ x ∈ l, x.1 = v
  · obtain ⟨x, hx, rfl⟩ := hv
    rw [rowAt_mem hr hx]; exact h x hx rfl
  · have : rowAt l v = 0 := sumIf_none _ _ fun x hx => by simp; intro e; exact hv ⟨x, hx, e⟩
    omega
theorem qinv_join {d F : Nat} {l m : Row} {vals more : Vals} (h : QInv d F l vals) (k : QInv d F m more) (hF : 1 ≤ F) : QInv d F (joinL l m) (vals ++ more) := by
  obtain ⟨j1, j2, j3⟩ := join_keeps d l m h.rising h.full h.nodes k.full k.nodes
  have ht : rowTotal (joinL l m) = rowTotal l + rowTotal m := sumIf_join _ _ _
  refine ⟨⟨j1, j2, j3, ?_, fun y => ?_, fun y => ?_⟩, fun y hy hlt => ?_⟩
  · rw [ht, allL_append, h.total, k.total]
  · have a := h.low y; have b := k.low y
    unfold lowR at *; rw [sumIf_join, upL_append]; omega
  · have a := h.high y; have b := k.high y
    unfold highR at *; rw [sumIf_join, upL_append]; omega
  · have e1 : y.2 = rowAt l y.1 + rowAt m y.1 := by rw [← rowAt_mem j1 hy]; exact sumIf_join _ _ _
    have a : rowAt l y.1 ≤ rowTotal l / F := rowAt_le h.rising fun x hx hx1 => h.thin x hx (by omega)
    have b : rowAt m y.1 ≤ rowTotal m / F := rowAt_le k.rising fun x hx hx1 => k.thin x hx (by omega)
    rw [ht, Nat.le_div_iff_mul_le hF]
    have a' : rowAt l y.1 * F ≤ rowTotal l := (Nat.le_div_iff_mul_le hF).1 a
    have b' : rowAt m y.1 * F ≤ rowTotal m := (Nat.le_div_iff_mul_le hF).1 b
    rw [e1, Nat.add_mul]; omega
end Go.Proofs.YtbejdajkkoapgaaGreatDoor

/-
  What a call leaves of memory: all old blocks but those of a set are as they were. Blocks by their content. Rows of pairs in memory. Conditions: stated in each law.
-/
set_option linter.unusedVariables false
set_option linter.unusedSimpArgs false
namespace Go.Proofs.YtbejdajkkoapgaaGreatDoor
open Go.RowKit

structure Away (F : Nat → Prop) (w w' : World) : Prop where
  os : w'.os = w.os
  tape : w'.tape = w.tape
  output : w'.output = w.output
  size : w.heap.size ≤ w'.heap.size
  block : ∀ k, k < w.heap.size → ¬ F k → w'.heap[k]? = w.heap[k]?

theorem Away.refl (F : Nat → Prop) (w : World) : Away F w w := ⟨rfl, rfl, rfl, Nat.le_refl _, fun _ _ _ => rfl⟩
theorem Away.trans' {F G H : Nat → Prop} {a b c : World} (h : Away F a b) (k : Away G b c) (hF : ∀ i, i < a.heap.size → F i → H i) (hG : ∀ i, i < a.heap.size → G i → H i) : Away H a c :=
  ⟨k.os.trans h.os, k.tape.trans h.tape, k.output.trans h.output, Nat.le_trans h.size k.size, fun i hi hn => (k.block i (Nat.lt_of_lt_of_le hi h.size) fun hg => hn (hG i hi hg)).trans (h.block i hi fun hf => hn (hF i hi hf))⟩
theorem Away.mono {F G : Nat → Prop} {a b : World} (h : Away F a b) (hF : ∀ i, i < a.heap.size → F i → G i) : Away G a b :=
  ⟨h.os, h.tape, h.output, h.size, fun i hi hn => h.block i hi fun hf => hn (hF i hi hf)⟩
theorem Away.of_below {F : Nat → Prop} {w w' : World} (h : Below w.heap.size w w') : Away F w w' := ⟨h.os, h.tape, h.output, h.size, fun k hk _ => h.block k hk⟩
theorem Away.below {F : Nat → Prop} {B : Nat} {w w' : World} (h : Away F w w') (hB : B ≤ w.heap.size) (hF : ∀ k, k < B → ¬ F k) : Below B w w' :=
  ⟨h.os, h.tape, h.output, h.size, fun k hk => h.block k (Nat.lt_of_lt_of_le hk hB) (hF k hk)⟩
theorem Away.drew {F : Nat → Prop} {a w : World} (h : Away F a w) : Away F a w.drew := ⟨h.os, h.tape, h.output, h.size, h.block⟩
theorem Away.alloc {F : Nat → Prop} {a w : World} (h : Away F a w) (o : Obj) : Away F a (w.alloc o) :=
  ⟨h.os, h.tape, h.output, Nat.le_trans h.size (by simp), fun k hk hn => (Below.heap_alloc _ _ _ (Nat.lt_of_lt_of_le hk h.size)).trans (h.block k hk hn)⟩
theorem Away.setCell {F : Nat → Prop} {a w : World} (h : Away F a w) (p : Addr) (u : Value) (hp : F p.block ∨ a.heap.size ≤ p.block) : Away F a (w.setCell p u) :=
  ⟨h.os, h.tape, h.output, Nat.le_trans h.size (by simp [World.setCell]), fun k hk hn => by
    rw [Below.heap_setCell _ _ _ _ (by rintro rfl; rcases hp with hp | hp; exact hn hp; omega)]; exact h.block k hk hn⟩
theorem Away.cell {F : Nat → Prop} {w w' : World} (h : Away F w w') {p : Addr} (hp : p.block < w.heap.size) (hn : ¬ F p.block) : w'.cell? p = w.cell? p := World.cell?_of_block (w := w) (h.block p.block hp hn)
theorem Away.frozen {F : Nat → Prop} {w w' : World} (h : Away F w w') {p : Addr} (hp : p.block < w.heap.size) (hn : ¬ F p.block) : w'.frozen? p = w.frozen? p := World.frozen?_of_block (w := w) (h.block p.block hp hn)
theorem Away.of_grown {F : Nat → Prop} {w w' : World} {row : Option Nat} (h : w.grownBy w' row) (hr : ∀ k, row = some k → F k) : Away F w w' :=
  ⟨h.os, h.tape, h.output, h.size, fun k hk hn => h.block k hk fun e => hn (hr k e.symm)⟩

/-- a block's content -/
def Blk (w : World) (b : Nat) (cs : Array Value) (T : TypeId) : Prop := w.heap[b]? = some (.cells cs T (0, 0))
theorem Blk.lt {w : World} {b : Nat} {cs : Array Value} {T : TypeId} (h : Blk w b cs T) : b < w.heap.size := (Array.getElem?_eq_some_iff.1 h).1
theorem Blk.cell {w : World} {b : Nat} {cs : Array Value} {T : TypeId} (h : Blk w b cs T) {j : Nat} {u : Value} (hj : cs[j]? = some u) : w.cell? ⟨b, j, none⟩ = some u := by rw [cell_of_row w b j cs T (0, 0) h]; exact hj
theorem Blk.frozen {w : World} {b : Nat} {cs : Array Value} {T : TypeId} (h : Blk w b cs T) (j : Nat) : w.frozen? ⟨b, j, none⟩ = false := frozen_of_row w b j cs T h
theorem Blk.set {w : World} {b : Nat} {cs : Array Value} {T : TypeId} (h : Blk w b cs T) (j : Nat) (u : Value) : Blk (w.setCell ⟨b, j, none⟩ u) b (cs.setIfInBounds j u) T := heap_setCell_same w b j cs T u h
theorem Blk.other {w : World} {b : Nat} {cs : Array Value} {T : TypeId} (h : Blk w b cs T) (p : Addr) (u : Value) (hp : b ≠ p.block) : Blk (w.setCell p u) b cs T := (heap_setCell_other w p b u hp).trans h
theorem Blk.alloc {w : World} {b : Nat} {cs : Array Value} {T : TypeId} (h : Blk w b cs T) (o : Obj) : Blk (w.alloc o) b cs T := (Below.heap_alloc w o b h.lt).trans h
theorem Blk.drew {w : World} {b : Nat} {cs : Array Value} {T : TypeId} (h : Blk w b cs T) : Blk w.drew b cs T := h
theorem Blk.new (w : World) (cs : Array Value) (T : TypeId) : Blk (w.alloc (.cells cs T)) w.heap.size cs T := heap_alloc_new w _
theorem Blk.newAt {w : World} {n : Nat} {cs : Array Value} {T : TypeId} (h : n = w.heap.size) : Blk (w.alloc (.cells cs T)) n cs T := by subst h; exact heap_alloc_new w _
theorem Blk.away {F : Nat → Prop} {w w' : World} {b : Nat} {cs : Array Value} {T : TypeId} (h : Blk w b cs T) (k : Away F w w') (hn : ¬ F b) : Blk w' b cs T := (k.block b h.lt hn).trans h
theorem Blk.below {B : Nat} {w w' : World} {b : Nat} {cs : Array Value} {T : TypeId} (h : Blk w b cs T) (k : Below B w w') (hn : b < B) : Blk w' b cs T := (k.block b hn).trans h
theorem Blk.ne {w : World} {a b : Nat} {cs ds : Array Value} {T U : TypeId} (h : Blk w a cs T) (k : Blk w b ds U) (hT : T ≠ U) : a ≠ b := by
  rintro rfl
  have := (Option.some.inj (h.symm.trans k))
  injection this with _ h2
  exact hT h2

theorem owns_blk {w : World} {base : Nat} {e : TypeId} {size : Nat} {v : Value} {n : Nat} {xs : List Value} (h : w.ownsRow base e size v n xs) {g : Nat} (hg : v.ownBlock = some g) : ∃ cur, Blk w g cur e := by
  rcases h.2 with ⟨rfl, _⟩ | ⟨g', cap, cur, rfl, _, hgg, _⟩
  · simp [Value.ownBlock] at hg
  · simp [Value.ownBlock] at hg
    subst hg
    exact ⟨cur, hgg⟩
theorem owns_of_block {w w' : World} {base : Nat} {e : TypeId} {size : Nat} {v : Value} {n : Nat} {xs : List Value} (h : w.ownsRow base e size v n xs) (hb : ∀ g, v.ownBlock = some g → w'.heap[g]? = w.heap[g]?) : w'.ownsRow base e size v n xs := by
  refine ⟨h.1, ?_⟩
  rcases h.2 with hn | ⟨g, cap, cur, rfl, hb', hgg, rest⟩
  · exact .inl hn
  · exact .inr ⟨g, cap, cur, rfl, hb', (hb g rfl).trans hgg, rest⟩
theorem owns_away {F : Nat → Prop} {w w' : World} {base : Nat} {e : TypeId} {size : Nat} {v : Value} {n : Nat} {xs : List Value} (h : w.ownsRow base e size v n xs) (k : Away F w w') (hn : ∀ g, v.ownBlock = some g → ¬ F g) : w'.ownsRow base e size v n xs :=
  owns_of_block h fun g hg => k.block g (h.lt g hg).2 (hn g hg)
theorem owns_below {B : Nat} {w w' : World} {base : Nat} {e : TypeId} {size : Nat} {v : Value} {n : Nat} {xs : List Value} (h : w.ownsRow base e size v n xs) (k : Below B w w') (hn : ∀ g, v.ownBlock = some g → g < B) : w'.ownsRow base e size v n xs :=
  owns_of_block h fun g hg => k.block g (hn g hg)
theorem owns_other {w : World} {base : Nat} {e : TypeId} {size : Nat} {v : Value} {n : Nat} {xs : List Value} (h : w.ownsRow base e size v n xs) (p : Addr) (u : Value) (hp : v.ownBlock ≠ some p.block) : (w.setCell p u).ownsRow base e size v n xs :=
  owns_of_block h fun g hg => heap_setCell_other w p g u (by rintro rfl; exact hp hg)
theorem owns_base {w : World} {base base' : Nat} {e : TypeId} {size : Nat} {v : Value} {n : Nat} {xs : List Value} (h : w.ownsRow base e size v n xs) (hb : ∀ g, v.ownBlock = some g → base' ≤ g) : w.ownsRow base' e size v n xs := by
  refine ⟨h.1, ?_⟩
  rcases h.2 with hn | ⟨g, cap, cur, rfl, _, rest⟩
  · exact .inl hn
  · exact .inr ⟨g, cap, cur, rfl, hb g rfl, rest⟩
/-- the shape of what is owned -/
theorem owns_shape {w : World} {base : Nat} {e : TypeId} {size : Nat} {v : Value} {n : Nat} {xs : List Value} (h : w.ownsRow base e size v n xs) :
    (v = .slice none 0 0 ∧ n = 0 ∧ xs = []) ∨ ∃ g cap, v = .slice (some ⟨g, 0, none⟩) n cap ∧ n ≤ cap ∧ cap ≤ maxLen ∧ base ≤ g ∧ g < w.heap.size := by
  rcases h.2 with ⟨rfl, rfl⟩ | ⟨g, cap, cur, rfl, hb, hgg, hn, hc, _⟩
  · exact .inl ⟨rfl, rfl, List.eq_nil_of_length_eq_zero (by simpa using h.1)⟩
  · exact .inr ⟨g, cap, rfl, hn, hc, hb, (Array.getElem?_eq_some_iff.1 hgg).1⟩

/-- a row of pairs, in cells -/
def pairC (x : Nat × Nat) : List Value := [.int .i64 (x.1 : Int), .int .u64 (x.2 : Int)]
def rowC (l : Row) : List Value := l.flatMap pairC
theorem rowC_nil : rowC [] = [] := rfl
theorem rowC_cons (x : Nat × Nat) (l : Row) : rowC (x :: l) = .int .i64 (x.1 : Int) :: .int .u64 (x.2 : Int) :: rowC l := rfl
theorem rowC_append (l m : Row) : rowC (l ++ m) = rowC l ++ rowC m := List.flatMap_append
theorem rowC_length (l : Row) : (rowC l).length = l.length * 2 := by
  induction l with
  | nil => rfl
  | cons x l ih => rw [rowC_cons]; simp only [List.length_cons, ih]; omega
theorem rowC_fst (l : Row) (i : Nat) (h : i < l.length) : (rowC l)[i * 2]? = some (.int .i64 ((l[i]'h).1 : Int)) := by
  induction l generalizing i with
  | nil => simp at h
  | cons x l ih =>
    rw [rowC_cons]
    match i, h with
    | 0, _ => rfl
    | i + 1, h => rw [show (i + 1) * 2 = i * 2 + 1 + 1 from by omega, List.getElem?_cons_succ, List.getElem?_cons_succ]; exact ih i (by simpa using h)
theorem rowC_snd (l : Row) (i : Nat) (h : i < l.length) : (rowC l)[i * 2 + 1]? = some (.int .u64 ((l[i]'h).2 : Int)) := by
  induction l generalizing i with
  | nil => simp at h
  | cons x l ih =>
    rw [rowC_cons]
    match i, h with
    | 0, _ => rfl
    | i + 1, h => rw [show (i + 1) * 2 + 1 = i * 2 + 1 + 1 + 1 from by omega, List.getElem?_cons_succ, List.getElem?_cons_succ]; exact ih i (by simpa using h)
theorem rowC_set (l : Row) (i : Nat) (h : i < l.length) (c : Nat) : rowC (l.set i ((l[i]'h).1, c)) = (rowC l).set (i * 2 + 1) (.int .u64 (c : Int)) := by
  induction l generalizing i with
  | nil => simp at h
  | cons x l ih =>
    match i, h with
    | 0, _ => rfl
    | i + 1, h =>
      rw [rowC_cons, List.set_cons_succ, rowC_cons, show (i + 1) * 2 + 1 = i * 2 + 1 + 1 + 1 from by omega, List.set_cons_succ, List.set_cons_succ]
      rw [show ((x :: l)[i + 1]'h) = l[i]'(by simpa using h) from rfl, ih i (by simpa using h)]
theorem rowC_take (l : Row) (k : Nat) : rowC (l.take k) = (rowC l).take (k * 2) := by
  induction l generalizing k with
  | nil => simp [rowC]
  | cons x l ih =>
    match k with
    | 0 => simp [rowC]
    | k + 1 => rw [List.take_succ_cons, rowC_cons, rowC_cons, show (k + 1) * 2 = k * 2 + 1 + 1 from by omega, List.take_succ_cons, List.take_succ_cons, ih]
theorem rowC_drop (l : Row) (k : Nat) : rowC (l.drop k) = (rowC l).drop (k * 2) := by
  induction l generalizing k with
  | nil => simp [rowC]
  | cons x l ih =>
    match k with
    | 0 => simp [rowC]
    | k + 1 => rw [List.drop_succ_cons, ih, rowC_cons, show (k + 1) * 2 = k * 2 + 1 + 1 from by omega, List.drop_succ_cons, List.drop_succ_cons]
theorem rowC_one (l : Row) : ∀ u ∈ rowC l, u.oneCell' = true := by
  intro u hu
  obtain ⟨x, _, hx⟩ := List.mem_flatMap.1 hu
  simp [pairC] at hx
  rcases hx with rfl | rfl <;> rfl

/-- where an index stands -/
theorem posL_le (l : Row) (v : Nat) : posL l v ≤ l.length := by
  induction l with
  | nil => exact Nat.le_refl _
  | cons x l ih => unfold posL; split <;> simp <;> omega
theorem posL_before {l : Row} {v : Nat} (h : Rising l) : ∀ i (hi : i < l.length), i < posL l v ↔ (l[i]'hi).1 < v := by
  induction l with
  | nil => intro i hi; simp at hi
  | cons x l ih =>
    intro i hi
    obtain ⟨h1, h2⟩ := h
    unfold posL
    by_cases hx : x.1 < v
    · rw [if_pos hx]
      match i, hi with
      | 0, _ => simp; exact hx
      | i + 1, hi => rw [List.getElem_cons_succ]; have := ih h2 i (by simpa using hi); omega
    · rw [if_neg hx]
      match i, hi with
      | 0, _ => simp; omega
      | i + 1, hi =>
        rw [List.getElem_cons_succ]
        have := h1 _ (List.getElem_mem (by simpa using hi : i < l.length))
        omega
theorem addL_has {l : Row} {v : Nat} (h : Rising l) (c : Nat) (hp : posL l v < l.length) (he : (l[posL l v]'hp).1 = v) : addL l v c = l.set (posL l v) ((l[posL l v]'hp).1, (l[posL l v]'hp).2 + c) := by
  induction l with
  | nil => simp at hp
  | cons x l ih =>
    obtain ⟨h1, h2⟩ := h
    unfold addL
    by_cases hx : x.1 < v
    · have e : posL (x :: l) v = posL l v + 1 := by conv => lhs; unfold posL; rw [if_pos hx]
      rw [if_pos hx]
      have hp' : posL l v < l.length := by rw [e] at hp; simpa using hp
      simp only [e, List.getElem_cons_succ, List.set_cons_succ] at *
      rw [ih h2 hp' he]
    · have e : posL (x :: l) v = 0 := by conv => lhs; unfold posL; rw [if_neg hx]
      rw [if_neg hx]
      simp only [e, List.getElem_cons_zero, List.set_cons_zero] at *
      rw [if_pos he]
theorem addL_new {l : Row} {v : Nat} (h : Rising l) (c : Nat) (he : ∀ (hp : posL l v < l.length), (l[posL l v]'hp).1 ≠ v) : addL l v c = l.take (posL l v) ++ (v, c) :: l.drop (posL l v) := by
  induction l with
  | nil => rfl
  | cons x l ih =>
    obtain ⟨h1, h2⟩ := h
    unfold addL
    by_cases hx : x.1 < v
    · have e : posL (x :: l) v = posL l v + 1 := by conv => lhs; unfold posL; rw [if_pos hx]
      rw [if_pos hx]
      have he' : ∀ (hp : posL l v < l.length), (l[posL l v]'hp).1 ≠ v := fun hp => by
        have := he (by rw [e]; simpa using hp)
        simp only [e, List.getElem_cons_succ] at this
        exact this
      simp only [e, List.take_succ_cons, List.drop_succ_cons, List.cons_append]
      rw [ih h2 he']
    · have e : posL (x :: l) v = 0 := by conv => lhs; unfold posL; rw [if_neg hx]
      rw [if_neg hx]
      have he' : x.1 ≠ v := by
        have := he (by rw [e]; simp)
        simp only [e, List.getElem_cons_zero] at this
        exact this
      simp only [e, List.take_zero, List.drop_zero, List.nil_append]
      rw [if_neg he']
/-- whether the index stands there -/
def isL (l : Row) (v : Nat) : Bool := if hp : posL l v < l.length then (l[posL l v]'hp).1 == v else false
theorem rowAt_is {l : Row} {v : Nat} (h : Rising l) (hp : posL l v < l.length) (he : (l[posL l v]'hp).1 = v) : rowAt l v = (l[posL l v]'hp).2 := by
  have := rowAt_mem h (List.getElem_mem hp)
  rw [he] at this; exact this
theorem rising_lt {l : Row} (h : Rising l) : ∀ {a b : Nat} (ha : a < l.length) (hb : b < l.length), a < b → (l[a]'ha).1 < (l[b]'hb).1 := by
  induction l with
  | nil => intro a b ha; simp at ha
  | cons y l ih =>
    intro a b ha hb hab
    obtain ⟨k1, k2⟩ := h
    match a, b, ha, hb with
    | 0, b + 1, _, hb => exact k1 _ (List.getElem_mem _)
    | a + 1, b + 1, ha, hb => exact ih k2 (by simpa using ha) (by simpa using hb) (by omega)
theorem rowAt_not {l : Row} {v : Nat} (h : Rising l) (he : ∀ (hp : posL l v < l.length), (l[posL l v]'hp).1 ≠ v) : rowAt l v = 0 := by
  refine sumIf_none _ _ fun x hx => ?_
  obtain ⟨i, hi, rfl⟩ := List.getElem_of_mem hx
  have h1 := posL_before (v := v) h i hi
  simp only [beq_eq_false_iff_ne, ne_eq]
  intro e
  by_cases hlt : i < posL l v
  · have := h1.1 hlt; omega
  · by_cases heq : i = posL l v
    · subst heq; exact he hi e
    · have hp : posL l v < l.length := by omega
      have h2 := posL_before (v := v) h (posL l v) hp
      have := rising_lt h hp hi (by omega)
      have := he hp
      omega
end Go.Proofs.YtbejdajkkoapgaaGreatDoor

/-
  Contracts of the functions of package sign and of its reference that the statements of layer 2 call: what each returns, as plain integers; nothing in memory changes. Conditions: each argument fits its kind.
-/
namespace Go.Proofs.YtbejdajkkoapgaaGreatDoor.Sg
open Go.RowKit

theorem ret_int {k : IntKind} {a b : Int} (h : a = b) : Ending.returned (.int k a) = .returned (.int k b) := by rw [h]
theorem ret_bool {a b : Bool} (h : a = b) : Ending.returned (.bool a) = .returned (.bool b) := by rw [h]

/-- how far two numbers are from one another -/
def gapD (a b : Int) : Int := if a < b then b - a else a - b
/-- a number's magnitude -/
def mag (x : Int) : Int := if x < 0 then -x else x
/-- is it below nought -/
def neg (x : Int) : Bool := decide (x < 0)

theorem mag_or (x : Int) : x < 0 ∧ mag x = -x ∨ 0 ≤ x ∧ mag x = x := by unfold mag; omega
theorem gapD_or (a b : Int) : a < b ∧ gapD a b = b - a ∨ b ≤ a ∧ gapD a b = a - b := by unfold gapD; omega
theorem mag_neg {x : Int} (h : x < 0) : mag x = -x := by unfold mag; rw [if_pos h]
theorem mag_pos {x : Int} (h : 0 ≤ x) : mag x = x := by unfold mag; rw [if_neg (by omega)]
theorem gapD_lt {a b : Int} (h : a < b) : gapD a b = b - a := by unfold gapD; rw [if_pos h]
theorem gapD_ge {a b : Int} (h : b ≤ a) : gapD a b = a - b := by unfold gapD; rw [if_neg (by omega)]
theorem neg_yes {x : Int} (h : x < 0) : neg x = true := by simp [neg, h]
theorem neg_no {x : Int} (h : 0 ≤ x) : neg x = false := by simp [neg]; omega

theorem gapD_bd (a b : Int) (h : -9223372036854775808 ≤ a) (hl : a ≤ 9223372036854775807) (h' : -9223372036854775808 ≤ b) (hl' : b ≤ 9223372036854775807) : 0 ≤ gapD a b ∧ gapD a b ≤ 18446744073709551615 := by
  have := gapD_or a b; omega
theorem gapD_tri (a b c : Int) : gapD a b ≤ gapD a c + gapD c b := by
  have := gapD_or a b; have := gapD_or a c; have := gapD_or c b; omega

theorem of_any (x : Int) (w : World) (h : -9223372036854775808 ≤ x) (hl : x ≤ 9223372036854775807) :
    Calls Tryz.prog 215 #[.int .i64 x] w fun e w' => e = .returned (.tuple #[.int .u64 (mag x), .bool (neg x)]) ∧ w = w' := by
  by_cases hx : x < 0
  · have e1 : IntKind.u64.wrap (-IntKind.u64.wrap x) = -x := by simp only [IntKind.wrap_u64]; omega
    go_enter Tryz.func215, Tryz.ntmps215
    go_wp2
    go_ret2
    exact ⟨by rw [mag_neg hx, neg_yes hx]; rfl, rfl⟩
  · have hx' : 0 ≤ x := by omega
    go_enter Tryz.func215, Tryz.ntmps215
    go_wp2
    go_ret2
    exact ⟨by rw [mag_pos hx', neg_no hx']; rfl, rfl⟩

end Go.Proofs.YtbejdajkkoapgaaGreatDoor.Sg

/-
  Contracts of Mul64, Times, Compare of package wide and of Less, Add, Times of the reference of layer 1: what each returns, as plain integers; below the heap's size at the call nothing in memory changes. Conditions: each number fits its kind.
-/
namespace Go.Proofs.YtbejdajkkoapgaaGreatDoor.Wd
open Go.RowKit Go.Lib

theorem maskN (a : Nat) (ha : a < 18446744073709551616) : bits .and .u64 (a : Int) 4294967295 = ((a % 4294967296 : Nat) : Int) := by
  have h := bits_and_u64_nat a 4294967295 ha (by omega)
  have e : a &&& 4294967295 = a % 4294967296 := Nat.and_two_pow_sub_one_eq_mod a 32
  rw [e] at h
  exact h
theorem divN (a : Nat) : (a : Int) / 4294967296 = ((a / 4294967296 : Nat) : Int) := by omega
theorem mulN (a b : Nat) : (a : Int) * (b : Int) = ((a * b : Nat) : Int) := (Int.natCast_mul a b).symm
theorem addN (a b : Nat) : (a : Int) + (b : Int) = ((a + b : Nat) : Int) := (Int.natCast_add a b).symm
theorem wrapN (a : Nat) (ha : a < 18446744073709551616) : IntKind.u64.wrap (a : Int) = (a : Int) := by rw [IntKind.wrap_u64]; omega
theorem wrapM (a : Nat) : IntKind.u64.wrap (a : Int) = ((a % 18446744073709551616 : Nat) : Int) := by rw [IntKind.wrap_u64]; omega

/-- the upper and the lower half of a product -/
def hiD (a b : Int) : Int := a * b / 18446744073709551616
def loD (a b : Int) : Int := a * b % 18446744073709551616

theorem hiD_nat (x y : Nat) : ((x * y / 18446744073709551616 : Nat) : Int) = hiD x y := by unfold hiD; rw [mulN]; omega
theorem loD_nat (x y : Nat) : ((x * y % 18446744073709551616 : Nat) : Int) = loD x y := by unfold loD; rw [mulN]; omega

set_option maxHeartbeats 1000000 in
theorem mul64_nat (x y : Nat) (hx : x < 18446744073709551616) (hy : y < 18446744073709551616) (w : World) :
    Calls Tryz.prog 129 #[.int .u64 x, .int .u64 y] w fun e w' => e = .returned (.tuple #[.int .u64 ((x * y / 18446744073709551616 : Nat) : Int), .int .u64 ((x * y % 18446744073709551616 : Nat) : Int)]) ∧ w = w' := by
  obtain ⟨bd, bt, bw, hhi⟩ := Lib.mul64_hi x y hx hy
  have ba := Lib.half_mul_le (a := x / 4294967296) (b := y / 4294967296) (by omega) (by omega)
  have bb := Lib.half_mul_le (a := x / 4294967296) (b := y % 4294967296) (by omega) (by omega)
  have bc := Lib.half_mul_le (a := x % 4294967296) (b := y / 4294967296) (by omega) (by omega)
  have ba' : x / 4294967296 * (y / 4294967296) < 18446744073709551616 := by omega
  have bb' : x / 4294967296 * (y % 4294967296) < 18446744073709551616 := by omega
  have bc' : x % 4294967296 * (y / 4294967296) < 18446744073709551616 := by omega
  have bh1 : x / 4294967296 * (y / 4294967296) + (x / 4294967296 * (y % 4294967296) + x % 4294967296 * (y % 4294967296) / 4294967296) / 4294967296 < 18446744073709551616 := by omega
  have bh : x / 4294967296 * (y / 4294967296) + (x / 4294967296 * (y % 4294967296) + x % 4294967296 * (y % 4294967296) / 4294967296) / 4294967296 + ((x / 4294967296 * (y % 4294967296) + x % 4294967296 * (y % 4294967296) / 4294967296) % 4294967296 + x % 4294967296 * (y / 4294967296)) / 4294967296 < 18446744073709551616 := by omega
  go_enter Tryz.func129, Tryz.ntmps129
  go_wp2
  simp only [maskN x hx, maskN y hy, divN, mulN, addN, wrapN _ bd, wrapN _ bb', wrapN _ bt, maskN _ bt, wrapN _ bc', wrapN _ bw, wrapN _ ba', wrapN _ bh1, wrapN _ bh, wrapM (x * y)]
  rw [hhi]
  go_ret2
  exact ⟨rfl, rfl⟩

theorem mul64_any (a b : Int) (w : World) (ha : 0 ≤ a) (ha' : a ≤ 18446744073709551615) (hb : 0 ≤ b) (hb' : b ≤ 18446744073709551615) :
    Calls Tryz.prog 129 #[.int .u64 a, .int .u64 b] w fun e w' => e = .returned (.tuple #[.int .u64 (hiD a b), .int .u64 (loD a b)]) ∧ w = w' := by
  obtain ⟨x, rfl⟩ := Int.eq_ofNat_of_zero_le ha
  obtain ⟨y, rfl⟩ := Int.eq_ofNat_of_zero_le hb
  rw [← hiD_nat, ← loD_nat]
  exact mul64_nat x y (by omega) (by omega) w

theorem times_any (a b : Int) (w : World) (ha : 0 ≤ a) (ha' : a ≤ 18446744073709551615) (hb : 0 ≤ b) (hb' : b ≤ 18446744073709551615) :
    Calls Tryz.prog 118 #[.int .u64 a, .int .u64 b] w fun e w' => e = .returned (.agg #[.int .u64 (hiD a b), .int .u64 (loD a b)]) ∧ Below w.heap.size w w' := by
  go_enter Tryz.func118, Tryz.ntmps118
  go_wp2_with (go_at_call 129; refine (mul64_any _ _ _ (by omega) (by omega) (by omega) (by omega)).mono ?_; rintro e w' ⟨rfl, rfl⟩)
  exact bodyPost_ret (v := .agg #[.int .u64 (hiD a b), .int .u64 (loD a b)]) (by simp [results, Tryz.results118, go_sem]) rfl ⟨rfl, (Below.refl _ _).alloc (Nat.le_refl _) _⟩

def lessB (a b c d : Int) : Bool := if a = c then decide (b < d) else decide (a < c)
theorem less_any (a b c d : Int) (w : World) :
    Calls Tryz.prog 58 #[.agg #[.int .u64 a, .int .u64 b], .agg #[.int .u64 c, .int .u64 d]] w fun e w' => e = .returned (.bool (lessB a b c d)) ∧ Below w.heap.size w w' := by
  by_cases h : a = c
  · have h1 : (a == c) = true := beq_iff_eq.2 h
    have h2 : (a != c) = false := by simp [h]
    have h3 : lessB a b c d = decide (b < d) := by unfold lessB; rw [if_pos h]
    rw [h3]; clear h3 h
    go_enter Tryz.func58, Tryz.ntmps58
    go_wp2
    go_ret
    exact ⟨rfl, ((Below.refl _ _).alloc (Nat.le_refl _) _).alloc (by simp) _⟩
  · have h1 : (a == c) = false := beq_eq_false_iff_ne.2 h
    have h2 : (a != c) = true := by simp [h]
    have h3 : lessB a b c d = decide (a < c) := by unfold lessB; rw [if_neg h]
    rw [h3]; clear h3 h
    go_enter Tryz.func58, Tryz.ntmps58
    go_wp2
    go_ret
    exact ⟨rfl, ((Below.refl _ _).alloc (Nat.le_refl _) _).alloc (by simp) _⟩
def cmpD (a b c d : Int) : Int := if lessB a b c d then -1 else if a = c ∧ b = d then 0 else 1
/-- the sum of two numbers of two halves each: the lower half, the upper half, whether there is no room -/
def addLo (b d : Int) : Int := (b + d) % 18446744073709551616
def addHi (a b c d : Int) : Int := (a + c + (if addLo b d < b then 1 else 0)) % 18446744073709551616
def addOv (a b c d : Int) : Bool := decide ((a + c) % 18446744073709551616 < a) || (decide (addLo b d < b) && (addHi a b c d == 0))
theorem addLo_is (b d : Int) : IntKind.u64.wrap (b + d) = addLo b d := by rw [IntKind.wrap_u64]; rfl

theorem add_any (a b c d : Int) (w : World) :
    Calls Tryz.prog 60 #[.agg #[.int .u64 a, .int .u64 b], .agg #[.int .u64 c, .int .u64 d]] w fun e w' => e = .returned (.tuple #[.agg #[.int .u64 (addHi a b c d), .int .u64 (addLo b d)], .bool (addOv a b c d)]) ∧ Below w.heap.size w w' := by
  have e1 := addLo_is b d
  have hb3 : Below w.heap.size w (((w.alloc (Obj.cells #[.int .u64 a, .int .u64 b] 103)).alloc (Obj.cells #[.int .u64 c, .int .u64 d] 103)).alloc (Obj.cells #[.int .u64 (addHi a b c d), .int .u64 (addLo b d)] 103)) :=
    (((Below.refl _ _).alloc (Nat.le_refl _) _).alloc (by simp) _).alloc (by simp; omega) _
  by_cases h : addLo b d < b
  · have e2 : IntKind.u64.wrap (IntKind.u64.wrap (a + c) + 1) = addHi a b c d := by unfold addHi; simp only [IntKind.wrap_u64]; rw [if_pos h]; omega
    have e3 : addOv a b c d = (decide (IntKind.u64.wrap (a + c) < a) || (addHi a b c d == 0)) := by unfold addOv; rw [IntKind.wrap_u64]; simp [h]
    by_cases h2 : IntKind.u64.wrap (a + c) < a
    · have e4 : addOv a b c d = true := by rw [e3]; simp [h2]
      have H4 : Hid _ := e4
      clear e3 e4
      go_enter Tryz.func60, Tryz.ntmps60
      go_wp2
      exact bodyPost_ret (v := .tuple #[.agg #[.int .u64 (addHi a b c d), .int .u64 (addLo b d)], .bool (addOv a b c d)]) (by simp [results, Tryz.results60, go_sem, H4.out]) rfl ⟨rfl, hb3⟩
    · have e5 : decide (IntKind.u64.wrap (a + c) < a) = false := decide_eq_false h2
      have e4 : addOv a b c d = (addHi a b c d == 0) := by rw [e3, e5]; simp
      have H4 : Hid _ := e4
      clear e3 e4
      go_enter Tryz.func60, Tryz.ntmps60
      go_wp2
      exact bodyPost_ret (v := .tuple #[.agg #[.int .u64 (addHi a b c d), .int .u64 (addLo b d)], .bool (addOv a b c d)]) (by simp [results, Tryz.results60, go_sem, H4.out]) rfl ⟨rfl, hb3⟩
  · have e2 : IntKind.u64.wrap (a + c) = addHi a b c d := by unfold addHi; rw [IntKind.wrap_u64, if_neg h]; omega
    have e4 : addOv a b c d = decide (addHi a b c d < a) := by unfold addOv; rw [← e2, IntKind.wrap_u64]; simp [h]
    have H4 : Hid _ := e4
    clear e4
    go_enter Tryz.func60, Tryz.ntmps60
    go_wp2
    exact bodyPost_ret (v := .tuple #[.agg #[.int .u64 (addHi a b c d), .int .u64 (addLo b d)], .bool (addOv a b c d)]) (by simp [results, Tryz.results60, go_sem, H4.out]) rfl ⟨rfl, hb3⟩
end Go.Proofs.YtbejdajkkoapgaaGreatDoor.Wd

/-
  Contract of Times of the reference of layer 1: the product's two halves; below the heap's size at the call nothing in memory changes. Conditions: both numbers fit uint64.
-/
namespace Go.Proofs.YtbejdajkkoapgaaGreatDoor.Wd
open Go.RowKit Go.Lib

theorem bcell {W w1 : World} {B : Nat} (hb : Below B W w1) : (∀ b o, b < B → w1.cell? ⟨b, o, none⟩ = W.cell? ⟨b, o, none⟩) ∧ (∀ b o, b < B → w1.frozen? ⟨b, o, none⟩ = W.frozen? ⟨b, o, none⟩) :=
  ⟨fun b o h => hb.cell (p := ⟨b, o, none⟩) h, fun b o h => hb.frozen (p := ⟨b, o, none⟩) h⟩

theorem mul_half (a b : Int) (ha : 0 ≤ a) (ha' : a ≤ 4294967295) (hb : 0 ≤ b) (hb' : b ≤ 4294967295) : 0 ≤ a * b ∧ a * b ≤ 18446744065119617025 := by
  refine ⟨Int.mul_nonneg ha hb, ?_⟩
  have h1 : a * b ≤ 4294967295 * b := Int.mul_le_mul_of_nonneg_right ha' hb
  omega

/-- the plain law: halves of 32 bits, the two middle products added one by one -/
theorem times_law (a b : Int) (ha : 0 ≤ a) (ha' : a ≤ 18446744073709551615) (hb : 0 ≤ b) (hb' : b ≤ 18446744073709551615) (P Q R S : Int)
    (hP : P = a / 4294967296 * (b / 4294967296)) (hQ : Q = a / 4294967296 * (b % 4294967296)) (hR : R = a % 4294967296 * (b / 4294967296)) (hS : S = a % 4294967296 * (b % 4294967296)) :
    addLo (addLo S (Q % 4294967296 * 4294967296)) (R % 4294967296 * 4294967296) = loD a b ∧
    addHi (addHi P S (Q / 4294967296) (Q % 4294967296 * 4294967296)) (addLo S (Q % 4294967296 * 4294967296)) (R / 4294967296) (R % 4294967296 * 4294967296) = hiD a b := by
  have p := mul_half (a / 4294967296) (b / 4294967296) (by omega) (by omega) (by omega) (by omega)
  have q := mul_half (a / 4294967296) (b % 4294967296) (by omega) (by omega) (by omega) (by omega)
  have r := mul_half (a % 4294967296) (b / 4294967296) (by omega) (by omega) (by omega) (by omega)
  have s := mul_half (a % 4294967296) (b % 4294967296) (by omega) (by omega) (by omega) (by omega)
  rw [← hP] at p
  rw [← hQ] at q
  rw [← hR] at r
  rw [← hS] at s
  have t : a * b = P * 18446744073709551616 + (Q + R) * 4294967296 + S := by
    have e1 : a = a / 4294967296 * 4294967296 + a % 4294967296 := by omega
    have e2 : b = b / 4294967296 * 4294967296 + b % 4294967296 := by omega
    rw [hP, hQ, hR, hS]
    generalize a / 4294967296 = x at *
    generalize a % 4294967296 = y at *
    generalize b / 4294967296 = u at *
    generalize b % 4294967296 = v at *
    subst e1 e2
    have : (x * 4294967296 + y) * (u * 4294967296 + v) = x * u * 18446744073709551616 + (x * v + y * u) * 4294967296 + y * v := by
      rw [Int.add_mul, Int.mul_add, Int.mul_add]
      have h1 : x * 4294967296 * (u * 4294967296) = x * u * 18446744073709551616 := by
        rw [Int.mul_assoc, Int.mul_comm 4294967296, Int.mul_assoc u, ← Int.mul_assoc x]; rfl
      have h2 : x * 4294967296 * v = x * v * 4294967296 := by rw [Int.mul_assoc, Int.mul_comm 4294967296, ← Int.mul_assoc]
      have h3 : y * (u * 4294967296) = y * u * 4294967296 := by rw [← Int.mul_assoc]
      rw [h1, h2, h3]; omega
    exact this
  unfold hiD loD
  rw [t]
  clear hP hQ hR hS t
  unfold addHi addLo
  refine ⟨by omega, ?_⟩
  split <;> split <;> omega

theorem ratio_wrap (x : Int) (h : 0 ≤ x ∧ x ≤ 18446744065119617025) : IntKind.u64.wrap x = x := by rw [IntKind.wrap_u64]; omega

set_option maxHeartbeats 1000000 in
theorem reftimes_any (a b : Int) (w : World) (ha : 0 ≤ a) (ha' : a ≤ 18446744073709551615) (hb : 0 ≤ b) (hb' : b ≤ 18446744073709551615) :
    Calls Tryz.prog 36 #[.int .u64 a, .int .u64 b] w fun e w' => e = .returned (.agg #[.int .u64 (hiD a b), .int .u64 (loD a b)]) ∧ Below w.heap.size w w' := by
  have p := mul_half (a / 4294967296) (b / 4294967296) (by omega) (by omega) (by omega) (by omega)
  have q := mul_half (a / 4294967296) (b % 4294967296) (by omega) (by omega) (by omega) (by omega)
  have r := mul_half (a % 4294967296) (b / 4294967296) (by omega) (by omega) (by omega) (by omega)
  have s := mul_half (a % 4294967296) (b % 4294967296) (by omega) (by omega) (by omega) (by omega)
  obtain ⟨P, hP⟩ : ∃ P, P = a / 4294967296 * (b / 4294967296) := ⟨_, rfl⟩
  obtain ⟨Q, hQ⟩ : ∃ P, P = a / 4294967296 * (b % 4294967296) := ⟨_, rfl⟩
  obtain ⟨R, hR⟩ : ∃ P, P = a % 4294967296 * (b / 4294967296) := ⟨_, rfl⟩
  obtain ⟨S, hS⟩ : ∃ P, P = a % 4294967296 * (b % 4294967296) := ⟨_, rfl⟩
  have fin := times_law a b ha ha' hb hb' P Q R S hP hQ hR hS
  have Fin := Lib.hid fin
  clear fin
  rw [← hP] at p
  rw [← hQ] at q
  rw [← hR] at r
  rw [← hS] at s
  have eP : IntKind.u64.wrap (a / 4294967296 * (b / 4294967296)) = P := by rw [← hP]; exact ratio_wrap _ p
  have eQ : IntKind.u64.wrap (a / 4294967296 * (b % 4294967296)) = Q := by rw [← hQ]; exact ratio_wrap _ q
  have eR : IntKind.u64.wrap (a % 4294967296 * (b / 4294967296)) = R := by rw [← hR]; exact ratio_wrap _ r
  have eS : IntKind.u64.wrap (a % 4294967296 * (b % 4294967296)) = S := by rw [← hS]; exact ratio_wrap _ s
  clear hP hQ hR hS
  obtain ⟨p0, p1⟩ := p
  obtain ⟨q0, q1⟩ := q
  obtain ⟨r0, r1⟩ := r
  obtain ⟨s0, s1⟩ := s
  go_enter Tryz.func36, Tryz.ntmps36
  go_wp2
  refine wp_loop_rounds 3 ?_
  rw [rounds_succ]
  go_wp2_with fail
  refine (add_any _ _ _ _ _).mono ?_
  rintro e w1 ⟨rfl, hb1⟩
  obtain ⟨hc1, hf1⟩ := bcell hb1
  have z1 : w.heap.size + 1 + 1 < w1.heap.size := by have := hb1.size; simp at this; omega
  have z1' : w.heap.size + 1 < w1.heap.size := by omega
  have z1'' : w.heap.size < w1.heap.size := by omega
  go_wp2_with fail
  rw [rounds_succ]
  go_wp2_with fail
  refine (add_any _ _ _ _ _).mono ?_
  rintro e w2 ⟨rfl, hb2⟩
  obtain ⟨hc2, hf2⟩ := bcell hb2
  have z2 : w1.heap.size ≤ w2.heap.size := by have := hb2.size; simpa using this
  have y2' : w.heap.size + 1 < w2.heap.size := by omega
  have y2'' : w.heap.size < w2.heap.size := by omega
  have k0 := hc2 (w.heap.size + 1) 0 (by simp; omega)
  have k1 := hc2 (w.heap.size + 1) 1 (by simp; omega)
  have k2 := hc2 w.heap.size 0 (by simp; omega)
  have k3 := hc2 w.heap.size 1 (by simp; omega)
  have f0 := hf2 (w.heap.size + 1) 0 (by simp; omega)
  have f1 := hf2 (w.heap.size + 1) 1 (by simp; omega)
  have f2 := hf2 w.heap.size 0 (by simp; omega)
  have f3 := hf2 w.heap.size 1 (by simp; omega)
  clear hc2 hf2
  simp [hc1, hf1, go_sem] at k0 k1 k2 k3 f0 f1 f2 f3
  go_wp2_with fail
  rw [rounds_succ]
  go_wp2_with fail
  have hB : Below w.heap.size w w2 := by
    have b0 : Below w.heap.size w (((w.alloc (Obj.cells #[Value.int IntKind.u64 0, Value.int IntKind.u64 0] 103)).alloc (Obj.cells #[Value.int IntKind.u64 P, Value.int IntKind.u64 S] 103)).alloc (Obj.cells #[Value.int IntKind.u64 Q, Value.int IntKind.u64 R] 23)) :=
      (((Below.refl _ _).alloc (Nat.le_refl _) _).alloc (by simp) _).alloc (by simp; omega) _
    have b1 := b0.trans (hb1.mono (by simp; omega))
    exact ((b1.setCell (by simp) _).setCell (by simp) _).trans (hb2.mono (by simp; omega))
  have e1 := Fin.out.1
  have e2 := Fin.out.2
  exact bodyPost_ret (v := .agg #[.int .u64 (hiD a b), .int .u64 (loD a b)]) (by simp [results, Tryz.results36, go_sem, k2, k3, e1, e2]) rfl ⟨rfl, (((hB.setCell (by simp) _).setCell (by simp) _).setCell (by simp) _).setCell (by simp) _⟩

end Go.Proofs.YtbejdajkkoapgaaGreatDoor.Wd

