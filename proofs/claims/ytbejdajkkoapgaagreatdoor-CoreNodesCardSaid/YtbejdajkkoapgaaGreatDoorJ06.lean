/-
  Several texts in one: Ql, Qw, Lg, PlFns. What each proves, and on which conditions, stands at its head. Conditions: stated in each.
-/
import Derived.Test.YtbejdajkkoapgaaGreatDoorJ01
import Derived.Test.YtbejdajkkoapgaaGreatDoorJ05
import Derived.Laws.Externs
/-
  A tree's digest, plain: lifting a node keeps what the row tells, ends at last, and the answer to a quantile is close. No program. Conditions: none.
-/
set_option linter.unusedVariables false
set_option linter.unusedSimpArgs false
namespace Go.Proofs.YtbejdajkkoapgaaGreatDoor

def off (v : Nat) (i : Nat) : Bool := i != v && i != bro v
def rest (l : Row) (v : Nat) : Row := l.filter fun x => off v x.1
def liftL (l : Row) (v : Nat) : Row := addL (rest l v) (v / 2) (rowAt l v + rowAt l (bro v))
def liftB (F : Nat) (l : Row) (v : Nat) : Bool := v != 1 && rowAt l v != 0 && decide (rowAt l v + rowAt l (bro v) + rowAt l (v / 2) ≤ rowTotal l / F)

theorem sumIf_filter (p q : Nat → Bool) (l : Row) : sumIf p (l.filter fun x => q x.1) = sumIf (fun i => p i && q i) l := by
  induction l with
  | nil => rfl
  | cons x l ih =>
    rw [List.filter_cons]
    cases hq : q x.1
    · simp only [sumIf_cons, hq, ← ih]; simp
    · simp only [sumIf_cons, hq, ← ih, if_pos]; simp [sumIf_cons]
theorem sumIf_two (p : Nat → Bool) (v u : Nat) (h : v ≠ u) (l : Row) : sumIf (fun i => p i && !(i != v && i != u)) l = (if p v then rowAt l v else 0) + (if p u then rowAt l u else 0) := by
  induction l with
  | nil => simp [sumIf, rowAt]
  | cons x l ih =>
    rw [sumIf_cons, ih]
    have e1 : rowAt (x :: l) v = (if x.1 = v then x.2 else 0) + rowAt l v := by unfold rowAt; rw [sumIf_cons]; simp
    have e2 : rowAt (x :: l) u = (if x.1 = u then x.2 else 0) + rowAt l u := by unfold rowAt; rw [sumIf_cons]; simp
    rw [e1, e2]
    by_cases a : x.1 = v
    · subst a
      have : ¬ x.1 = u := h
      cases hp : p x.1 <;> simp [this] <;> omega
    · by_cases b : x.1 = u
      · subst b
        cases hp : p x.1 <;> simp [a] <;> omega
      · simp [a, b]
theorem sumIf_lift (p : Nat → Bool) (l : Row) (v : Nat) (h : bro v ≠ v) :
    sumIf p (liftL l v) + ((if p v then rowAt l v else 0) + (if p (bro v) then rowAt l (bro v) else 0)) = sumIf p l + (if p (v / 2) then rowAt l v + rowAt l (bro v) else 0) := by
  unfold liftL rest
  rw [sumIf_add, sumIf_filter, sumIf_split p (off v) l]
  have := sumIf_two p v (bro v) (fun e => h e.symm) l
  unfold off
  omega
theorem rising_filter {l : Row} (q : Nat × Nat → Bool) (h : Rising l) : Rising (l.filter q) := by
  induction l with
  | nil => trivial
  | cons x l ih =>
    obtain ⟨h1, h2⟩ := h
    rw [List.filter_cons]
    split
    · exact ⟨fun y hy => h1 y (List.mem_filter.1 hy).1, ih h2⟩
    · exact ih h2
theorem total_lift (l : Row) (v : Nat) (h : bro v ≠ v) : rowTotal (liftL l v) = rowTotal l := by
  have := sumIf_lift (fun _ => true) l v h
  unfold rowTotal; simp at this; omega
theorem length_lift_le {l : Row} {v : Nat} (h : rowAt l v ≠ 0) : (liftL l v).length ≤ l.length := by
  have h1 : (liftL l v).length ≤ (rest l v).length + 1 := length_addL_le _ _ _
  have h2 : (rest l v).length < l.length := by
    unfold rest
    refine Nat.lt_of_le_of_ne (List.length_filter_le _ _) fun e => ?_
    have := List.length_filter_eq_length_iff.1 e
    refine h (sumIf_none _ _ fun x hx => ?_)
    have := this x hx
    unfold off at this; simp at this ⊢; exact this.1
  omega
theorem qinv_lift {d F : Nat} {l : Row} {vals : Vals} (h : QInv d F l vals) (v : Nat) (h1 : 1 ≤ v) (h2 : v < 2 * 2 ^ d) (hl : liftB F l v = true) : QInv d F (liftL l v) vals := by
  unfold liftB at hl
  simp only [Bool.and_eq_true, bne_iff_ne, ne_eq, decide_eq_true_eq] at hl
  obtain ⟨⟨n1, n2⟩, n3⟩ := hl
  obtain ⟨b1, b2, b3, b4⟩ := bro_bd d v (by omega) h2
  obtain ⟨u1, u2⟩ := up_range d v (by omega) h2
  obtain ⟨w1, w2⟩ := up_range d (bro v) b1 b2
  rw [b3] at w1 w2
  have hr : Rising (rest l v) := rising_filter _ h.rising
  have hf : Full (rest l v) := fun x hx => h.full x (List.mem_filter.1 hx).1
  have hn : Nodes d (rest l v) := fun x hx => h.nodes x (List.mem_filter.1 hx).1
  have ht := total_lift l v b4
  refine ⟨⟨rising_addL hr, full_addL hf (by omega), nodes_add hn (by omega) (by omega), by rw [ht]; exact h.total, fun y => ?_, fun y => ?_⟩, fun y hy hlt => ?_⟩
  · have a := h.low y
    unfold lowR at *
    have e := sumIf_lift (fun v => decide ((hiN d v : Int) ≤ y)) l v b4
    simp only [decide_eq_true_eq] at e
    by_cases c : (hiN d (v / 2) : Int) ≤ y
    · rw [if_pos c, if_pos (by omega), if_pos (by omega)] at e; omega
    · rw [if_neg c] at e; omega
  · have a := h.high y
    unfold highR at *
    have e := sumIf_lift (fun v => decide ((loN d v : Int) ≤ y)) l v b4
    simp only [decide_eq_true_eq] at e
    by_cases c : (loN d (v / 2) : Int) ≤ y
    · rw [if_pos c] at e; split at e <;> split at e <;> omega
    · rw [if_neg c, if_neg (by omega), if_neg (by omega)] at e; omega
  · rw [ht]
    rcases mem_addL_count hr hy with hy | ⟨hy, hc⟩
    · exact h.thin y (List.mem_filter.1 hy).1 hlt
    · have e : rowAt (rest l v) (v / 2) ≤ rowAt l (v / 2) := by
        unfold rowAt rest
        rw [sumIf_filter]
        exact sumIf_le _ _ _ fun x _ hx => by simp at hx; simp [hx.1]
      omega
/-- what falls with each lift -/
def phi : Row → Nat
  | [] => 0
  | x :: l => x.2 * x.1 + phi l
theorem phi_add (l : Row) (v c : Nat) : phi (addL l v c) = phi l + c * v := by
  induction l with
  | nil => simp [addL, phi]
  | cons x l ih =>
    unfold addL
    split
    · simp only [phi, ih]; omega
    · split
      · rename_i e; simp only [phi, Nat.add_mul, e]; omega
      · simp only [phi]; omega
theorem phi_rest (l : Row) (v u : Nat) (h : v ≠ u) : phi l = phi (l.filter fun x => x.1 != v && x.1 != u) + rowAt l v * v + rowAt l u * u := by
  induction l with
  | nil => simp [phi, rowAt, sumIf]
  | cons x l ih =>
    have e1 : rowAt (x :: l) v = (if x.1 = v then x.2 else 0) + rowAt l v := by unfold rowAt; rw [sumIf_cons]; simp
    have e2 : rowAt (x :: l) u = (if x.1 = u then x.2 else 0) + rowAt l u := by unfold rowAt; rw [sumIf_cons]; simp
    rw [e1, e2, Nat.add_mul, Nat.add_mul, List.filter_cons]
    by_cases a : x.1 = v
    · subst a
      have : ¬ x.1 = u := h
      simp [this, phi]; omega
    · by_cases b : x.1 = u
      · subst b; simp [a, phi]; omega
      · simp [a, b, phi]; omega
theorem phi_lift {F : Nat} {l : Row} {v : Nat} (h1 : 1 ≤ v) (hl : liftB F l v = true) (hb : bro v ≠ v) (hb2 : bro v / 2 = v / 2) : phi (liftL l v) < phi l := by
  unfold liftB at hl
  simp only [Bool.and_eq_true, bne_iff_ne, ne_eq, decide_eq_true_eq] at hl
  obtain ⟨⟨n1, n2⟩, _⟩ := hl
  have e := phi_rest l v (bro v) (fun e => hb e.symm)
  unfold liftL
  rw [phi_add]
  have e2 : phi (rest l v) = phi (l.filter fun x => x.1 != v && x.1 != bro v) := rfl
  rw [e2, Nat.add_mul]
  have m1 : rowAt l v * (v / 2) < rowAt l v * v := Nat.mul_lt_mul_of_pos_left (by omega) (by omega)
  have m2 : rowAt l (bro v) * (v / 2) ≤ rowAt l (bro v) * bro v := Nat.mul_le_mul_left _ (by omega)
  omega

/-- told in order -/
def before (d : Nat) (x y : Nat × Nat) : Bool := decide (hiN d x.1 < hiN d y.1) || (hiN d x.1 == hiN d y.1 && decide (y.1 < x.1))
theorem quant_law {d F : Nat} {l pre post : Row} {y : Nat × Nat} {vals : Vals} (h : QInv d F l vals) (hp : (pre ++ y :: post).Perm l) (t : Nat)
    (ho1 : ∀ x ∈ pre, hiN d x.1 ≤ hiN d y.1) (ho2 : ∀ x ∈ post, hiN d y.1 ≤ hiN d x.1) (h1 : rowTotal pre < t) (h2 : t ≤ rowTotal pre + y.2) :
    t ≤ upL vals (hiN d y.1) ∧ upL vals ((hiN d y.1 : Int) - 1) ≤ t + d * (allL vals / F) := by
  constructor
  · refine Nat.le_trans ?_ (h.low _)
    unfold lowR
    rw [← sumIf_perm hp, sumIf_append, sumIf_cons]
    have e : sumIf (fun v => decide ((hiN d v : Int) ≤ hiN d y.1)) pre = rowTotal pre := sumIf_congr _ _ _ fun x hx => by
      have := ho1 x hx; simp; omega
    rw [e]; simp; omega
  · refine Nat.le_trans (h.high _) ?_
    unfold highR
    rw [sumIf_split _ (fun v => decide (hiN d v < hiN d y.1))]
    have a : sumIf (fun i => decide ((loN d i : Int) ≤ (hiN d y.1 : Int) - 1) && decide (hiN d i < hiN d y.1)) l ≤ rowTotal pre := by
      rw [← sumIf_perm hp, sumIf_append, sumIf_cons]
      have e : sumIf (fun i => decide ((loN d i : Int) ≤ (hiN d y.1 : Int) - 1) && decide (hiN d i < hiN d y.1)) post = 0 := sumIf_none _ _ fun x hx => by
        have := ho2 x hx; simp; omega
      have e2 : sumIf (fun i => decide ((loN d i : Int) ≤ (hiN d y.1 : Int) - 1) && decide (hiN d i < hiN d y.1)) pre ≤ rowTotal pre := sumIf_le _ _ _ fun _ _ _ => rfl
      rw [e]; simp; exact e2
    have hy : y ∈ l := hp.subset (by simp)
    obtain ⟨y1, y2⟩ := h.nodes y hy
    have b : sumIf (fun i => decide ((loN d i : Int) ≤ (hiN d y.1 : Int) - 1) && !decide (hiN d i < hiN d y.1)) l ≤ d * (allL vals / F) := by
      refine Nat.le_trans (sumIf_list l _ ((List.range d).map fun j => (2 ^ d + hiN d y.1) / 2 ^ (j + 1)) fun x hx hpx => ?_) ?_
      · simp at hpx
        obtain ⟨x1, x2⟩ := h.nodes x hx
        obtain ⟨_, j, j1, j2⟩ := on_way d x.1 (hiN d y.1) x1 x2 (by omega) hpx.2
        exact List.mem_map.2 ⟨j, List.mem_range.2 j1, j2.symm⟩
      · refine Nat.le_trans (sum_le_mul _ (allL vals / F) _ fun k hk => ?_) (by simp)
        obtain ⟨j, j1, rfl⟩ := List.mem_map.1 hk
        obtain ⟨_, q⟩ := lo_hi d y.1 y1 y2
        have hp2 : (2 ^ d + hiN d y.1) / 2 ^ (j + 1) < 2 ^ d := by
          have q2 : 2 ≤ 2 ^ (j + 1) := by
            have := Nat.one_le_two_pow (n := j)
            rw [Nat.pow_succ]; omega
          have e1 : (2 ^ d + hiN d y.1) / 2 ^ (j + 1) ≤ (2 ^ d + hiN d y.1) / 2 := Nat.div_le_div_left q2 (by decide)
          omega
        exact rowAt_le h.rising fun x hx e => by rw [← h.total]; exact h.thin x hx (by omega)
    omega
end Go.Proofs.YtbejdajkkoapgaaGreatDoor

/-
  Which place is asked for, and the walk over nodes in the order in which they are told, plain. No program. Conditions: stated in each law.
-/
set_option linter.unusedVariables false
set_option linter.unusedSimpArgs false
namespace Go.Proofs.YtbejdajkkoapgaaGreatDoor

def ceilN (a b by_ : Nat) : Nat := if a * b % by_ = 0 then a * b / by_ else a * b / by_ + 1
theorem ceilN_le (num n den : Nat) (h : num ≤ den) (h0 : 1 ≤ den) : ceilN num n den ≤ n := by
  unfold ceilN
  have h1 : num * n ≤ den * n := Nat.mul_le_mul_right n h
  have h2 := Nat.div_add_mod (num * n) den
  split
  · exact Nat.div_le_of_le_mul h1
  · rename_i hr
    refine Nat.succ_le_of_lt (Nat.div_lt_of_lt_mul ?_)
    refine Nat.lt_of_le_of_ne h1 fun e => hr ?_
    rw [e]; exact Nat.mul_mod_right _ _
def placeN (num n den : Nat) : Nat := max (ceilN num n den) 1
theorem placeN_bd (num n den : Nat) (h : num ≤ den) (h0 : 1 ≤ den) (hn : 1 ≤ n) : 1 ≤ placeN num n den ∧ placeN num n den ≤ n := by
  have := ceilN_le num n den h h0
  unfold placeN; omega

def walkQ (d t : Nat) : Nat → Int → Row → Int
  | _, x, [] => x
  | s, x, y :: l => if t ≤ s then x else walkQ d t (s + y.2) (hiN d y.1 : Int) l
theorem walkQ_done (d t s : Nat) (x : Int) (l : Row) (h : t ≤ s) : walkQ d t s x l = x := by
  cases l with
  | nil => rfl
  | cons y l => unfold walkQ; rw [if_pos h]
theorem walkQ_at (d t : Nat) : ∀ (l : Row) (s : Nat) (x : Int), s < t → t ≤ s + rowTotal l →
    ∃ pre y post, l = pre ++ y :: post ∧ s + rowTotal pre < t ∧ t ≤ s + rowTotal pre + y.2 ∧ walkQ d t s x l = (hiN d y.1 : Int)
  | [], s, x, h1, h2 => by unfold rowTotal at h2; rw [sumIf_nil] at h2; omega
  | y :: l, s, x, h1, h2 => by
    have e : rowTotal (y :: l) = y.2 + rowTotal l := by unfold rowTotal; rw [sumIf_cons]; simp
    rw [e] at h2
    by_cases h3 : t ≤ s + y.2
    · refine ⟨[], y, l, rfl, by unfold rowTotal; rw [sumIf_nil]; omega, by unfold rowTotal; rw [sumIf_nil]; omega, ?_⟩
      unfold walkQ
      rw [if_neg (by omega)]
      exact walkQ_done _ _ _ _ _ h3
    · obtain ⟨pre, z, post, rfl, a1, a2, a3⟩ := walkQ_at d t l (s + y.2) (hiN d y.1 : Int) (by omega) (by omega)
      have e2 : rowTotal (y :: pre) = y.2 + rowTotal pre := by unfold rowTotal; rw [sumIf_cons]; simp
      refine ⟨y :: pre, z, post, rfl, by omega, by omega, ?_⟩
      conv => lhs; unfold walkQ
      rw [if_neg (by omega)]
      exact a3

/-- told in order: nothing that stands later is told ahead -/
def InOrder (d : Nat) (l : Row) : Prop := l.Pairwise fun x y => hiN d x.1 ≤ hiN d y.1
theorem walkQ_law {d F : Nat} {l told : Row} {vals : Vals} (h : QInv d F l vals) (hp : told.Perm l) (ho : InOrder d told) (t : Nat) (h1 : 1 ≤ t) (h2 : t ≤ allL vals) :
    (0 ≤ walkQ d t 0 0 told ∧ walkQ d t 0 0 told < 2 ^ d) ∧ t ≤ upL vals (walkQ d t 0 0 told) ∧ upL vals (walkQ d t 0 0 told - 1) ≤ t + d * (allL vals / F) := by
  have ht : rowTotal told = allL vals := by unfold rowTotal; rw [sumIf_perm hp]; exact h.total
  obtain ⟨pre, y, post, rfl, a1, a2, a3⟩ := walkQ_at d t told 0 0 (by omega) (by omega)
  rw [a3]
  have hy : y ∈ l := hp.subset (by simp)
  obtain ⟨y1, y2⟩ := h.nodes y hy
  have hb := (lo_hi d y.1 y1 y2).2
  have ho' := List.pairwise_append.1 ho
  have q := quant_law h hp t (fun x hx => ho'.2.2 x hx y List.mem_cons_self) (fun x hx => (List.pairwise_cons.1 ho'.2.1).1 x hx) (by omega) (by omega)
  refine ⟨⟨by omega, ?_⟩, q⟩
  have : ((hiN d y.1 : Nat) : Int) < ((2 ^ d : Nat) : Int) := by omega
  simpa using this
end Go.Proofs.YtbejdajkkoapgaaGreatDoor

/-
  Long division bit by bit, plain. No program. Conditions: stated in each law.
-/
set_option linter.unusedVariables false
set_option linter.unusedSimpArgs false
namespace Go.Proofs.YtbejdajkkoapgaaGreatDoor

theorem long_up (A i : Nat) : A / 2 ^ i = 2 * (A / 2 ^ (i + 1)) + A / 2 ^ i % 2 := by
  rw [Nat.pow_succ, ← Nat.div_div_eq_div_mul]; omega
theorem long_no (A by_ i : Nat) (h : 2 * (A / 2 ^ (i + 1) % by_) + A / 2 ^ i % 2 < by_) :
    2 * (A / 2 ^ (i + 1) / by_) = A / 2 ^ i / by_ ∧ 2 * (A / 2 ^ (i + 1) % by_) + A / 2 ^ i % 2 = A / 2 ^ i % by_ := by
  have e := long_up A i
  have d := Nat.div_add_mod (A / 2 ^ (i + 1)) by_
  generalize A / 2 ^ (i + 1) / by_ = Q at *
  generalize A / 2 ^ (i + 1) % by_ = R at *
  have e2 : A / 2 ^ i = (2 * R + A / 2 ^ i % 2) + by_ * (2 * Q) := by
    have : by_ * (2 * Q) = 2 * (by_ * Q) := by rw [Nat.mul_left_comm]
    omega
  generalize hz : 2 * R + A / 2 ^ i % 2 = z at *
  rw [e2]
  constructor
  · rw [Nat.add_mul_div_left _ _ (by omega), Nat.div_eq_of_lt h]; omega
  · rw [Nat.add_mul_mod_self_left, Nat.mod_eq_of_lt h]
theorem long_yes (A by_ i : Nat) (h0 : 1 ≤ by_) (h : ¬ 2 * (A / 2 ^ (i + 1) % by_) + A / 2 ^ i % 2 < by_) :
    2 * (A / 2 ^ (i + 1) / by_) + 1 = A / 2 ^ i / by_ ∧ 2 * (A / 2 ^ (i + 1) % by_) + A / 2 ^ i % 2 - by_ = A / 2 ^ i % by_ := by
  have e := long_up A i
  have d := Nat.div_add_mod (A / 2 ^ (i + 1)) by_
  have l := Nat.mod_lt (A / 2 ^ (i + 1)) (show by_ > 0 from h0)
  generalize A / 2 ^ (i + 1) / by_ = Q at *
  generalize A / 2 ^ (i + 1) % by_ = R at *
  have e2 : A / 2 ^ i = (2 * R + A / 2 ^ i % 2 - by_) + by_ * (2 * Q + 1) := by
    have : by_ * (2 * Q + 1) = 2 * (by_ * Q) + by_ := by rw [Nat.mul_add, Nat.mul_one, Nat.mul_left_comm]
    omega
  have hlt : 2 * R + A / 2 ^ i % 2 - by_ < by_ := by omega
  generalize hz : 2 * R + A / 2 ^ i % 2 - by_ = z at *
  rw [e2]
  constructor
  · rw [Nat.add_mul_div_left _ _ (by omega), Nat.div_eq_of_lt hlt]; omega
  · rw [Nat.add_mul_mod_self_left, Nat.mod_eq_of_lt hlt]
theorem bit_lo (Hi Lo i : Nat) (h : i < 64) : (Hi * 18446744073709551616 + Lo) / 2 ^ i % 2 = Lo / 2 ^ i % 2 := by
  have e : Hi * 18446744073709551616 = 2 ^ i * (Hi * 2 ^ (63 - i) * 2) := by
    have : (18446744073709551616 : Nat) = 2 ^ i * (2 ^ (63 - i) * 2) := by rw [← Nat.mul_assoc, ← Nat.pow_add, show i + (63 - i) = 63 from by omega]
    rw [this, ← Nat.mul_assoc, Nat.mul_comm Hi, Nat.mul_assoc, Nat.mul_assoc]
  rw [e, Nat.add_comm, Nat.add_mul_div_left _ _ (Nat.two_pow_pos _), Nat.add_mul_mod_self_right]
theorem bit_hi (Hi Lo i : Nat) (hl : Lo < 18446744073709551616) (h : 64 ≤ i) : (Hi * 18446744073709551616 + Lo) / 2 ^ i = Hi / 2 ^ (i - 64) := by
  have e : (2 : Nat) ^ i = 18446744073709551616 * 2 ^ (i - 64) := by
    rw [show (18446744073709551616 : Nat) = 2 ^ 64 from rfl, ← Nat.pow_add, show 64 + (i - 64) = i from by omega]
  rw [e, ← Nat.div_div_eq_div_mul, show (Hi * 18446744073709551616 + Lo) / 18446744073709551616 = Hi from by omega]
end Go.Proofs.YtbejdajkkoapgaaGreatDoor

/-
  Contracts of Over, Ceil of layer 1, Good, Place of layer 3: which place a part asks for. Conditions: the part can be, there are values.
-/
set_option linter.unusedVariables false
set_option linter.unusedSimpArgs false
set_option maxRecDepth 100000
namespace Go.Proofs.YtbejdajkkoapgaaGreatDoor.Wd
open Go.RowKit Go.Lib
open Sp (Drew)

theorem below_drewed {B : Nat} {a w w' : World} (h : Below B a w) (k : Drew w w') : Below B a w' := by
  obtain ⟨n, rfl⟩ := k
  exact ⟨h.os, h.tape, h.output, h.size, h.block⟩

theorem run_add64_189 (x y c : Nat) (hc : c ≤ 1) (hx : x < 18446744073709551616) (hy : y < 18446744073709551616) (w : World) :
    (callFunc 189 #[.int .u64 x, .int .u64 y, .int .u64 c]).run Tryz.prog w =
      .ok (.value (.tuple #[.int .u64 (((x + y + c) % 18446744073709551616 : Nat) : Int), .int .u64 (((x + y + c) / 18446744073709551616 : Nat) : Int)])) w := by
  rw [run_callFunc_extern Tryz.func189 (by kernel_rfl) (by kernel_rfl) (by kernel_rfl) (e := add64Entry) (by kernel_rfl), run_add64 x y c (by omega) (by omega) (by omega) (by omega)]
  simp only [Result.andThen]
  congr 5 <;> omega

theorem over_any (hi lo y : Nat) (w : World) (h1 : hi < y) (h2 : y < 18446744073709551616) (h3 : lo < 18446744073709551616) :
    Calls Tryz.prog 117 #[.agg #[.int .u64 hi, .int .u64 lo], .int .u64 y] w fun e w' => e = .returned (.tuple #[.int .u64 (((hi * 18446744073709551616 + lo) / y : Nat) : Int), .int .u64 (((hi * 18446744073709551616 + lo) % y : Nat) : Int), .bool true]) ∧ Below w.heap.size w w' := by
  have g1 : ¬ (y : Int) ≤ (hi : Int) := by omega
  go_enter Tryz.func117, Tryz.ntmps117
  go_wp2_with (go_at_call 128; refine (div64_nat hi lo y _ h1 h2 h3).mono ?_; rintro e w' ⟨rfl, n, rfl⟩)
  go_ret3
  exact ⟨rfl, below_drewed ((Below.refl _ _).alloc (Nat.le_refl _) _) (Drew.of _ _)⟩

theorem good_any (num den : Nat) (w : World) (h : num ≤ den) (h0 : 1 ≤ den) :
    Calls Tryz.prog 179 #[.agg #[.int .u64 num, .int .u64 den]] w fun e w' => e = .returned (.bool true) ∧ Below w.heap.size w w' := by
  have g1 : (0 : Int) < (den : Int) := by omega
  have g2 : (num : Int) ≤ (den : Int) := by omega
  go_enter Tryz.func179, Tryz.ntmps179
  go_wp2
  go_ret
  exact ⟨rfl, (Below.refl _ _).alloc (Nat.le_refl _) _⟩

theorem times_nat (a b : Nat) (w : World) (ha : a < 18446744073709551616) (hb : b < 18446744073709551616) :
    Calls Tryz.prog 118 #[.int .u64 a, .int .u64 b] w fun e w' => e = .returned (.agg #[.int .u64 ((a * b / 18446744073709551616 : Nat) : Int), .int .u64 ((a * b % 18446744073709551616 : Nat) : Int)]) ∧ Below w.heap.size w w' := by
  rw [hiD_nat, loD_nat]
  exact times_any a b w (by omega) (by omega) (by omega) (by omega)

theorem ceil_any (a b y : Nat) (w : World) (ha : a ≤ y) (h0 : 1 ≤ y) (h1 : y < 18446744073709551616) (hb : b < 18446744073709551616) :
    Calls Tryz.prog 180 #[.int .u64 a, .int .u64 b, .int .u64 y] w fun e w' => e = .returned (.tuple #[.int .u64 (ceilN a b y : Nat), .bool true]) ∧ Below w.heap.size w w' := by
  have hle := ceilN_le a b y ha h0
  have hhi : a * b / 18446744073709551616 < y := by
    rw [Nat.div_lt_iff_lt_mul (by decide)]
    exact Nat.lt_of_le_of_lt (Nat.mul_le_mul_right b ha) (Nat.mul_lt_mul_of_pos_left hb h0)
  have hlo : a * b % 18446744073709551616 < 18446744073709551616 := by omega
  have e : a * b / 18446744073709551616 * 18446744073709551616 + a * b % 18446744073709551616 = a * b := by omega
  obtain ⟨q, hq⟩ : ∃ q, q = a * b / y := ⟨_, rfl⟩
  obtain ⟨r, hr⟩ : ∃ r, r = a * b % y := ⟨_, rfl⟩
  have ho := fun W => over_any _ _ y W hhi h1 hlo
  rw [e, ← hq, ← hr] at ho
  have ht := fun W => times_nat a b W (by omega) hb
  have hc : ceilN a b y = if r = 0 then q else q + 1 := by unfold ceilN; rw [← hq, ← hr]
  by_cases h : r = 0
  · have g1 : ((r : Int) == 0) = true := by simp [h]
    have g2 : q = ceilN a b y := by rw [hc, if_pos h]
    clear hc h hq hr e hhi hlo hle
    have HG := Lib.hid g2
    clear g2
    go_enter Tryz.func180, Tryz.ntmps180
    go_wp2_with (first | (go_at_call 118; refine (ht _).mono ?_; rintro e w1 ⟨rfl, hb1⟩) | (go_at_call 117; refine (ho _).mono ?_; rintro e w2 ⟨rfl, hb2⟩))
    go_ret2
    exact ⟨by rw [← HG.out]; rfl, hb1.trans (hb2.mono hb1.size)⟩
  · have g1 : ((r : Int) == 0) = false := by simp [h]
    have g2 : q + 1 = ceilN a b y := by rw [hc, if_neg h]
    have hadd : ∀ W : World, (callFunc 189 #[.int .u64 (q : Int), .int .u64 1, .int .u64 0]).run Tryz.prog W = .ok (.value (.tuple #[.int .u64 (ceilN a b y : Nat), .int .u64 0])) W := fun W => by
      have k := run_add64_189 q 1 0 (by omega) (by omega) (by omega) W
      have k1 : (q + 1 + 0) % 18446744073709551616 = ceilN a b y := by omega
      have k2 : (q + 1 + 0) / 18446744073709551616 = 0 := by omega
      rw [k1, k2] at k
      exact k
    clear hc h hq hr e hhi hlo hle g2
    go_enter Tryz.func180, Tryz.ntmps180
    go_wp2_with (first | (go_at_call 118; refine (ht _).mono ?_; rintro e w1 ⟨rfl, hb1⟩) | (go_at_call 117; refine (ho _).mono ?_; rintro e w2 ⟨rfl, hb2⟩) | (simp only [hadd]))
    go_ret2
    exact ⟨rfl, hb1.trans (hb2.mono hb1.size)⟩

theorem place_any (num den n : Nat) (w : World) (h : num ≤ den) (h0 : 1 ≤ den) (h1 : den < 18446744073709551616) (hn : 1 ≤ n) (hn' : n < 18446744073709551616) :
    Calls Tryz.prog 174 #[.agg #[.int .u64 num, .int .u64 den], .int .u64 n] w fun e w' => e = .returned (.tuple #[.int .u64 (placeN num n den : Nat), .int .i64 0]) ∧ Below w.heap.size w w' := by
  have g1 : ((n : Int) == 0) = false := by simp; omega
  go_enter Tryz.func174, Tryz.ntmps174
  go_wp2_with (first
    | (go_at_call 179; refine (good_any num den _ h h0).mono ?_; rintro e w1 ⟨rfl, hb1⟩; obtain ⟨hc1, hf1⟩ := bcell hb1; have z1 : w.heap.size < w1.heap.size := by have := hb1.size; simp at this; omega)
    | (go_at_call 180; refine (ceil_any num n den _ h h0 h1 hn').mono ?_; rintro e w2 ⟨rfl, hb2⟩))
  go_ret2
  refine ⟨by rw [show ((placeN num n den : Nat) : Int) = max (ceilN num n den : Int) 1 from by unfold placeN; omega]; rfl, ?_⟩
  exact (((Below.refl _ _).alloc (Nat.le_refl _) _).trans (hb1.mono (by simp))).trans (hb2.mono (by omega))

theorem good_ref (num den : Nat) (w : World) (h : num ≤ den) (h0 : 1 ≤ den) :
    Calls Tryz.prog 8 #[.agg #[.int .u64 num, .int .u64 den]] w fun e w' => e = .returned (.bool true) ∧ Below w.heap.size w w' := by
  have g1 : ((den : Int) != 0) = true := by simp; omega
  have g2 : ¬ (den : Int) < (num : Int) := by omega
  go_enter Tryz.func8, Tryz.ntmps8
  go_wp2
  go_ret
  exact ⟨rfl, (Below.refl _ _).alloc (Nat.le_refl _) _⟩
def goodB (num den : Int) : Bool := (den != 0) && !decide (den < num)
theorem good_ref_b (num den : Int) (w : World) :
    Calls Tryz.prog 8 #[.agg #[.int .u64 num, .int .u64 den]] w fun e w' => e = .returned (.bool (goodB num den)) ∧ Below w.heap.size w w' := by
  by_cases h : den = 0
  · have g1 : (den != 0) = false := by simp [h]
    have g3 : goodB num den = false := by unfold goodB; rw [g1]; rfl
    rw [g3]
    clear h g3
    go_enter Tryz.func8, Tryz.ntmps8
    go_wp2
    go_ret
    exact ⟨rfl, (Below.refl _ _).alloc (Nat.le_refl _) _⟩
  · have g1 : (den != 0) = true := by simp [h]
    have g3 : goodB num den = !decide (den < num) := by unfold goodB; rw [g1]; rfl
    rw [g3]
    clear h g3
    go_enter Tryz.func8, Tryz.ntmps8
    go_wp2
    go_ret
    exact ⟨rfl, (Below.refl _ _).alloc (Nat.le_refl _) _⟩

theorem bit_any (hi lo i : Nat) (w : World) (h1 : lo < 18446744073709551616) (h2 : hi < 18446744073709551616) (h3 : i < 128) :
    Calls Tryz.prog 57 #[.agg #[.int .u64 hi, .int .u64 lo], .int .i64 i] w fun e w' => e = .returned (.int .u64 (((hi * 18446744073709551616 + lo) / 2 ^ i % 2 : Nat) : Int)) ∧ Below w.heap.size w w' := by
  by_cases h : i < 64
  · have g1 : (i : Int) < 64 := by omega
    rw [bit_lo _ _ _ h]
    obtain ⟨z, hz⟩ : ∃ z, z = lo / 2 ^ i := ⟨_, rfl⟩
    have e1 : (lo : Int) / 2 ^ i = (z : Int) := by rw [Sp.pow_cast, ← Int.natCast_ediv, ← hz]
    rw [← hz]
    have e2 : min i 64 = i := by omega
    clear hz
    go_enter Tryz.func57, Tryz.ntmps57
    go_wp2
    go_ret
    exact ⟨by simp, (Below.refl _ _).alloc (Nat.le_refl _) _⟩
  · have g1 : ¬ (i : Int) < 64 := by omega
    obtain ⟨j, hj⟩ : ∃ j, j + 64 = i := ⟨i - 64, by omega⟩
    rw [bit_hi _ _ _ h1 (by omega)]
    obtain ⟨z, hz⟩ : ∃ z, z = hi / 2 ^ j := ⟨_, rfl⟩
    have e0 : (i : Int) - 64 = (j : Int) := by omega
    have e1 : (hi : Int) / 2 ^ j = (z : Int) := by rw [Sp.pow_cast, ← Int.natCast_ediv, ← hz]
    rw [show i - 64 = j from by omega, ← hz]
    have e2 : min j 64 = j := by omega
    have e3 : j < 64 := by omega
    clear hz hj
    go_enter Tryz.func57, Tryz.ntmps57
    go_wp2
    go_ret
    exact ⟨by simp, (Below.refl _ _).alloc (Nat.le_refl _) _⟩

theorem double_any (X : Nat) (w : World) (h : X + X < 340282366920938463463374607431768211456) :
    Calls Tryz.prog 56 #[.agg #[.int .u64 (X / 18446744073709551616 : Nat), .int .u64 (X % 18446744073709551616 : Nat)]] w fun e w' =>
      (∃ b, e = .returned (.tuple #[.agg #[.int .u64 ((X + X) / 18446744073709551616 : Nat), .int .u64 ((X + X) % 18446744073709551616 : Nat)], .bool b])) ∧ Below w.heap.size w w' := by
  obtain ⟨a, ha⟩ : ∃ a, a = X / 18446744073709551616 := ⟨_, rfl⟩
  obtain ⟨b, hb⟩ : ∃ b, b = X % 18446744073709551616 := ⟨_, rfl⟩
  have e1 : addHi a b a b = ((X + X) / 18446744073709551616 : Nat) := by
    unfold addHi addLo
    split <;> omega
  have e2 : addLo b b = ((X + X) % 18446744073709551616 : Nat) := by unfold addLo; omega
  have ha' := fun W => add_any a b a b W
  rw [e1, e2] at ha'
  rw [← ha, ← hb]
  generalize ((X + X) / 18446744073709551616 : Nat) = u at *
  generalize ((X + X) % 18446744073709551616 : Nat) = v at *
  clear e1 e2 ha hb h
  go_enter Tryz.func56, Tryz.ntmps56
  go_wp2_with (go_at_call 60; refine (ha' _).mono ?_; rintro e w1 ⟨rfl, hb1⟩; have B1 : Blk w1 (w.heap.size + 1) #[.int .u64 0, .int .u64 0] 103 := (Blk.newAt (by simp)).below hb1 (by first | (simp; done) | (simp; omega) | omega); have B1c0 : w1.cell? ⟨w.heap.size + 1, 0, none⟩ = some (.int .u64 0) := B1.cell rfl; have B1c1 : w1.cell? ⟨w.heap.size + 1, 1, none⟩ = some (.int .u64 0) := B1.cell rfl; have B1f0 := B1.frozen 0; have B1f1 := B1.frozen 1)
  exact bodyPost_ret (v := .tuple #[.agg #[.int .u64 u, .int .u64 v], .bool (addOv a b a b)]) (by simp [results, Tryz.results56, go_sem, B1c0, B1c1]) rfl ⟨⟨_, rfl⟩, ((((Below.refl _ _).alloc (Nat.le_refl _) _).alloc (by simp) _).trans (hb1.mono (by simp; omega))).setCell (by simp) _ |>.setCell (by simp) _⟩

set_option maxHeartbeats 4000000 in
theorem sub_any (X Y : Nat) (w : World) (hX : X < 340282366920938463463374607431768211456) (hY : Y ≤ X) :
    Calls Tryz.prog 59 #[.agg #[.int .u64 (X / 18446744073709551616 : Nat), .int .u64 (X % 18446744073709551616 : Nat)], .agg #[.int .u64 (Y / 18446744073709551616 : Nat), .int .u64 (Y % 18446744073709551616 : Nat)]] w fun e w' =>
      (∃ b, e = .returned (.tuple #[.agg #[.int .u64 ((X - Y) / 18446744073709551616 : Nat), .int .u64 ((X - Y) % 18446744073709551616 : Nat)], .bool b])) ∧ Below w.heap.size w w' := by
  obtain ⟨a, ha⟩ : ∃ a, a = X / 18446744073709551616 := ⟨_, rfl⟩
  obtain ⟨b, hb⟩ : ∃ b, b = X % 18446744073709551616 := ⟨_, rfl⟩
  obtain ⟨c, hc⟩ : ∃ c, c = Y / 18446744073709551616 := ⟨_, rfl⟩
  obtain ⟨d, hd⟩ : ∃ d, d = Y % 18446744073709551616 := ⟨_, rfl⟩
  obtain ⟨c', hc'⟩ : ∃ c', c' = 18446744073709551615 - c := ⟨_, rfl⟩
  obtain ⟨d', hd'⟩ : ∃ d', d' = 18446744073709551615 - d := ⟨_, rfl⟩
  have f1 : IntKind.u64.wrap (18446744073709551615 - (c : Int)) = (c' : Int) := by rw [show 18446744073709551615 - (c : Int) = (c' : Int) from by omega]; exact wrapN _ (by omega)
  have f2 : IntKind.u64.wrap (18446744073709551615 - (d : Int)) = (d' : Int) := by rw [show 18446744073709551615 - (d : Int) = (d' : Int) from by omega]; exact wrapN _ (by omega)
  have f1' : 18446744073709551615 - (c : Int) = (c' : Int) := by omega
  have f2' : 18446744073709551615 - (d : Int) = (d' : Int) := by omega
  have e1 : addHi (addHi a b c' d') (addLo b d') 0 1 = ((X - Y) / 18446744073709551616 : Nat) := by
    unfold addHi addLo
    split <;> split <;> omega
  have e2 : addLo (addLo b d') 1 = ((X - Y) % 18446744073709551616 : Nat) := by unfold addLo; omega
  obtain ⟨p, hp⟩ : ∃ p, p = addHi a b c' d' := ⟨_, rfl⟩
  obtain ⟨q, hq⟩ : ∃ q, q = addLo (b : Int) d' := ⟨_, rfl⟩
  have ha1 := fun W => add_any a b c' d' W
  have ha2 := fun W => add_any p q 0 1 W
  rw [← hp, ← hq] at ha1
  rw [hp, hq, e1, e2, ← hp, ← hq] at ha2
  rw [← ha, ← hb, ← hc, ← hd]
  generalize ((X - Y) / 18446744073709551616 : Nat) = u at *
  generalize ((X - Y) % 18446744073709551616 : Nat) = v at *
  clear e1 e2 ha hb hc hd hc' hd' hp hq hX hY
  go_enter Tryz.func59, Tryz.ntmps59
  go_wp2_with fail
  refine (ha1 _).mono ?_
  rintro e w1 ⟨rfl, hb1⟩
  have z1 : w.heap.size + 1 + 1 + 1 < w1.heap.size := by have := hb1.size; simp at this; omega
  have A0 : Blk w1 (w.heap.size) #[.int .u64 (a : Int), .int .u64 (b : Int)] 103 := (((Blk.newAt rfl).alloc _ |>.alloc _ |>.alloc _)).below hb1 (by first | (simp; done) | (simp; omega) | omega)
  have A0c0 : w1.cell? ⟨w.heap.size, 0, none⟩ = some (.int .u64 (a : Int)) := A0.cell rfl
  have A0c1 : w1.cell? ⟨w.heap.size, 1, none⟩ = some (.int .u64 (b : Int)) := A0.cell rfl
  have A1 : Blk w1 (w.heap.size + 1) #[.int .u64 (c : Int), .int .u64 (d : Int)] 103 := (((Blk.newAt (by simp)).alloc _ |>.alloc _)).below hb1 (by first | (simp; done) | (simp; omega) | omega)
  have A1c0 : w1.cell? ⟨w.heap.size + 1, 0, none⟩ = some (.int .u64 (c : Int)) := A1.cell rfl
  have A1c1 : w1.cell? ⟨w.heap.size + 1, 1, none⟩ = some (.int .u64 (d : Int)) := A1.cell rfl
  have A2 : Blk w1 (w.heap.size + 1 + 1) #[.int .u64 0, .int .u64 0] 103 := (((Blk.newAt (by simp)).alloc _)).below hb1 (by first | (simp; done) | (simp; omega) | omega)
  have A2c0 : w1.cell? ⟨w.heap.size + 1 + 1, 0, none⟩ = some (.int .u64 0) := A2.cell rfl
  have A2c1 : w1.cell? ⟨w.heap.size + 1 + 1, 1, none⟩ = some (.int .u64 0) := A2.cell rfl
  have A2f0 := A2.frozen 0
  have A2f1 := A2.frozen 1
  have hB1 : Below w.heap.size w w1 := ((((Below.refl _ _).alloc (Nat.le_refl _) _).alloc (by simp) _).alloc (by simp; omega) _).alloc (by simp; omega) _ |>.trans (hb1.mono (by simp; omega))
  clear A0c0 A0c1 A1c0 A1c1 hb1
  go_wp2_with fail
  refine (ha2 _).mono ?_
  rintro e w2 ⟨rfl, hb2⟩
  have z2 : w1.heap.size < w2.heap.size := by have := hb2.size; simp at this; omega
  have C0 : Blk w2 (w.heap.size) #[.int .u64 (a : Int), .int .u64 (b : Int)] 103 := (A0.alloc _).below hb2 (by simp; omega)
  have C0c0 : w2.cell? ⟨w.heap.size, 0, none⟩ = some (.int .u64 (a : Int)) := C0.cell rfl
  have C0c1 : w2.cell? ⟨w.heap.size, 1, none⟩ = some (.int .u64 (b : Int)) := C0.cell rfl
  have C1 : Blk w2 (w.heap.size + 1) #[.int .u64 (c : Int), .int .u64 (d : Int)] 103 := (A1.alloc _).below hb2 (by simp; omega)
  have C1c0 : w2.cell? ⟨w.heap.size + 1, 0, none⟩ = some (.int .u64 (c : Int)) := C1.cell rfl
  have C1c1 : w2.cell? ⟨w.heap.size + 1, 1, none⟩ = some (.int .u64 (d : Int)) := C1.cell rfl
  have C2 : Blk w2 (w.heap.size + 1 + 1) #[.int .u64 0, .int .u64 0] 103 := (A2.alloc _).below hb2 (by simp; omega)
  have C2c0 : w2.cell? ⟨w.heap.size + 1 + 1, 0, none⟩ = some (.int .u64 0) := C2.cell rfl
  have C2c1 : w2.cell? ⟨w.heap.size + 1 + 1, 1, none⟩ = some (.int .u64 0) := C2.cell rfl
  have C2f0 := C2.frozen 0
  have C2f1 := C2.frozen 1
  have C3 : Blk w2 (w1.heap.size) #[.int .u64 p, .int .u64 q] 103 := (Blk.newAt rfl).below hb2 (by simp)
  have C3c0 : w2.cell? ⟨w1.heap.size, 0, none⟩ = some (.int .u64 p) := C3.cell rfl
  have C3c1 : w2.cell? ⟨w1.heap.size, 1, none⟩ = some (.int .u64 q) := C3.cell rfl
  have C3f0 := C3.frozen 0
  have C3f1 := C3.frozen 1
  have hB2 : Below w.heap.size w w2 := (hB1.alloc hB1.size _).trans (hb2.mono (by simp; omega))
  have D3 := (C3.set 0 (.int .u64 u)).set 1 (.int .u64 v)
  have D0 := (C0.other ⟨w1.heap.size, 0, none⟩ (.int .u64 u) (by first | (simp; done) | (simp; omega))).other ⟨w1.heap.size, 1, none⟩ (.int .u64 v) (by first | (simp; done) | (simp; omega))
  have D1 := (C1.other ⟨w1.heap.size, 0, none⟩ (.int .u64 u) (by first | (simp; done) | (simp; omega))).other ⟨w1.heap.size, 1, none⟩ (.int .u64 v) (by first | (simp; done) | (simp; omega))
  have D2 := (C2.other ⟨w1.heap.size, 0, none⟩ (.int .u64 u) (by first | (simp; done) | (simp; omega))).other ⟨w1.heap.size, 1, none⟩ (.int .u64 v) (by first | (simp; done) | (simp; omega))
  have hB3 := (hB2.setCell (p := ⟨w1.heap.size, 0, none⟩) (by show w.heap.size ≤ w1.heap.size; omega) (.int .u64 u)).setCell (p := ⟨w1.heap.size, 1, none⟩) (by show w.heap.size ≤ w1.heap.size; omega) (.int .u64 v)
  clear A0 A1 A2 A2c0 A2c1 A2f0 A2f1 hb2 ha1 ha2 hB1
  go_wp2_with fail
  generalize w1.heap.size = s1 at *
  clear C0 C0c0 C0c1 C1 C1c0 C1c1 C2 C2c0 C2c1 C2f0 C2f1 C3 C3c0 C3c1 C3f0 C3f1 hB2
  generalize (w2.setCell { block := s1, off := 0 } (Value.int IntKind.u64 u)).setCell { block := s1, off := 1 } (Value.int IntKind.u64 v) = W at *
  have d00 : W.cell? ⟨w.heap.size, 0, none⟩ = some (.int .u64 a) := D0.cell rfl
  have d01 : W.cell? ⟨w.heap.size, 1, none⟩ = some (.int .u64 b) := D0.cell rfl
  have d10 : W.cell? ⟨w.heap.size + 1, 0, none⟩ = some (.int .u64 c) := D1.cell rfl
  have d11 : W.cell? ⟨w.heap.size + 1, 1, none⟩ = some (.int .u64 d) := D1.cell rfl
  have d30 : W.cell? ⟨s1, 0, none⟩ = some (.int .u64 u) := D3.cell rfl
  have d31 : W.cell? ⟨s1, 1, none⟩ = some (.int .u64 v) := D3.cell rfl
  have z5 := D3.lt
  have z6 := D2.lt
  have z7 : w.heap.size ≤ W.drew.heap.size := hB3.size
  have hl : ∀ w3, Below W.drew.heap.size W.drew w3 → Blk w3 (w.heap.size + 1 + 1) #[.int .u64 0, .int .u64 0] 103 ∧ w3.cell? ⟨s1, 0, none⟩ = some (.int .u64 u) ∧ w3.cell? ⟨s1, 1, none⟩ = some (.int .u64 v) :=
    fun w3 h => ⟨D2.drew.below h z6, (D3.drew.below h z5).cell rfl, (D3.drew.below h z5).cell rfl⟩
  clear D0 D1
  go_region_with (go_at_call 58; refine (less_any _ _ _ _ _).mono ?_; rintro e w3 ⟨rfl, hb3⟩; obtain ⟨E2, e30, e31⟩ := hl w3 hb3; have e20 : w3.cell? ⟨w.heap.size + 1 + 1, 0, none⟩ = some (.int .u64 0) := E2.cell rfl; have e21 : w3.cell? ⟨w.heap.size + 1 + 1, 1, none⟩ = some (.int .u64 0) := E2.cell rfl; have f20 := E2.frozen 0; have f21 := E2.frozen 1)
  all_goals (try go_wp2)
  all_goals exact bodyPost_ret (v := .tuple #[.agg #[.int .u64 u, .int .u64 v], .bool (lessB a b c d)]) (by simp [results, Tryz.results59, go_sem, e20, e21]) rfl ⟨⟨_, rfl⟩, ((hB3.drew.trans (hb3.mono z7)).setCell (by simp; omega) _).setCell (by simp; omega) _⟩
end Go.Proofs.YtbejdajkkoapgaaGreatDoor.Wd

