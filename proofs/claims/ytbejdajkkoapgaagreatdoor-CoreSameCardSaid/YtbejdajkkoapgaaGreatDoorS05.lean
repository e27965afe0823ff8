/-
  Several texts in one: J06, J08, J09. What each proves, and on which conditions, stands at its head. Conditions: stated in each.
-/
import Derived.Test.YtbejdajkkoapgaaGreatDoorS01
import Derived.Test.YtbejdajkkoapgaaGreatDoorS02
import Derived.Laws.Externs
import Derived.Sort.Statements
import Derived.Deep.Quiet
import Derived.BigQuiet
import Derived.Test.YtbejdajkkoapgaaGreatDoorS04
import Derived.Deep.Cut
/-
  Several texts in one: Ql, Qw, Lg, PlFns. What each proves, and on which conditions, stands at its head. Conditions: stated in each.
-/
/-
  A tree's digest, plain: lifting a node keeps what the row tells, ends at last, and the answer to a quantile is close. No program. Conditions: none.
-/
set_option linter.unusedVariables false
set_option linter.unusedSimpArgs false
namespace Go.Proofs.YtbejdajkkoapgaaGreatDoor

def off (v : Nat) (i : Nat) : Bool := i != v && i != bro v
def rest (l : Row) (v : Nat) : Row := l.filter fun x => off v x.1
/-- told in order -/
def before (d : Nat) (x y : Nat × Nat) : Bool := decide (hiN d x.1 < hiN d y.1) || (hiN d x.1 == hiN d y.1 && decide (y.1 < x.1))
end Go.Proofs.YtbejdajkkoapgaaGreatDoor

/-
  Which place is asked for, and the walk over nodes in the order in which they are told, plain. No program. Conditions: stated in each law.
-/
set_option linter.unusedVariables false
set_option linter.unusedSimpArgs false
namespace Go.Proofs.YtbejdajkkoapgaaGreatDoor

def ceilN (a b by_ : Nat) : Nat := if a * b % by_ = 0 then a * b / by_ else a * b / by_ + 1
theorem ceilN_le (num n den : Nat) (h : num ≤ den) (h0 : 1 ≤ den) : ceilN num n den ≤ n := by
  unfold ceilN
  have h1 : num * n ≤ den * n := Nat.mul_le_mul_right n h
  have h2 := Nat.div_add_mod (num * n) den
  split
  · exact Nat.div_le_of_le_mul h1
  · rename_i hr
    refine Nat.succ_le_of_lt (Nat.div_lt_of_lt_mul ?_)
    refine Nat.lt_of_le_of_ne h1 fun e => hr ?_
    rw [e]; exact Nat.mul_mod_right _ _
def placeN (num n den : Nat) : Nat := max (ceilN num n den) 1
end Go.Proofs.YtbejdajkkoapgaaGreatDoor

/-
  Long division bit by bit, plain. No program. Conditions: stated in each law.
-/
set_option linter.unusedVariables false
set_option linter.unusedSimpArgs false
namespace Go.Proofs.YtbejdajkkoapgaaGreatDoor

end Go.Proofs.YtbejdajkkoapgaaGreatDoor

/-
  Contracts of Over, Ceil of layer 1, Good, Place of layer 3: which place a part asks for. Conditions: the part can be, there are values.
-/
set_option linter.unusedVariables false
set_option linter.unusedSimpArgs false
set_option maxRecDepth 100000
namespace Go.Proofs.YtbejdajkkoapgaaGreatDoor.Wd
open Go.RowKit Go.Lib
open Sp (Drew)

theorem below_drewed {B : Nat} {a w w' : World} (h : Below B a w) (k : Drew w w') : Below B a w' := by
  obtain ⟨n, rfl⟩ := k
  exact ⟨h.os, h.tape, h.output, h.size, h.block⟩

theorem run_add64_189 (x y c : Nat) (hc : c ≤ 1) (hx : x < 18446744073709551616) (hy : y < 18446744073709551616) (w : World) :
    (callFunc 189 #[.int .u64 x, .int .u64 y, .int .u64 c]).run Tryz.prog w =
      .ok (.value (.tuple #[.int .u64 (((x + y + c) % 18446744073709551616 : Nat) : Int), .int .u64 (((x + y + c) / 18446744073709551616 : Nat) : Int)])) w := by
  rw [run_callFunc_extern Tryz.func189 (by kernel_rfl) (by kernel_rfl) (by kernel_rfl) (e := add64Entry) (by kernel_rfl), run_add64 x y c (by omega) (by omega) (by omega) (by omega)]
  simp only [Result.andThen]
  congr 5 <;> omega

theorem over_any (hi lo y : Nat) (w : World) (h1 : hi < y) (h2 : y < 18446744073709551616) (h3 : lo < 18446744073709551616) :
    Calls Tryz.prog 117 #[.agg #[.int .u64 hi, .int .u64 lo], .int .u64 y] w fun e w' => e = .returned (.tuple #[.int .u64 (((hi * 18446744073709551616 + lo) / y : Nat) : Int), .int .u64 (((hi * 18446744073709551616 + lo) % y : Nat) : Int), .bool true]) ∧ Below w.heap.size w w' := by
  have g1 : ¬ (y : Int) ≤ (hi : Int) := by omega
  go_enter Tryz.func117, Tryz.ntmps117
  go_wp2_with (go_at_call 128; refine (div64_nat hi lo y _ h1 h2 h3).mono ?_; rintro e w' ⟨rfl, n, rfl⟩)
  go_ret3
  exact ⟨rfl, below_drewed ((Below.refl _ _).alloc (Nat.le_refl _) _) (Drew.of _ _)⟩

theorem good_any (num den : Nat) (w : World) (h : num ≤ den) (h0 : 1 ≤ den) :
    Calls Tryz.prog 179 #[.agg #[.int .u64 num, .int .u64 den]] w fun e w' => e = .returned (.bool true) ∧ Below w.heap.size w w' := by
  have g1 : (0 : Int) < (den : Int) := by omega
  have g2 : (num : Int) ≤ (den : Int) := by omega
  go_enter Tryz.func179, Tryz.ntmps179
  go_wp2
  go_ret
  exact ⟨rfl, (Below.refl _ _).alloc (Nat.le_refl _) _⟩

theorem times_nat (a b : Nat) (w : World) (ha : a < 18446744073709551616) (hb : b < 18446744073709551616) :
    Calls Tryz.prog 118 #[.int .u64 a, .int .u64 b] w fun e w' => e = .returned (.agg #[.int .u64 ((a * b / 18446744073709551616 : Nat) : Int), .int .u64 ((a * b % 18446744073709551616 : Nat) : Int)]) ∧ Below w.heap.size w w' := by
  rw [hiD_nat, loD_nat]
  exact times_any a b w (by omega) (by omega) (by omega) (by omega)

theorem ceil_any (a b y : Nat) (w : World) (ha : a ≤ y) (h0 : 1 ≤ y) (h1 : y < 18446744073709551616) (hb : b < 18446744073709551616) :
    Calls Tryz.prog 180 #[.int .u64 a, .int .u64 b, .int .u64 y] w fun e w' => e = .returned (.tuple #[.int .u64 (ceilN a b y : Nat), .bool true]) ∧ Below w.heap.size w w' := by
  have hle := ceilN_le a b y ha h0
  have hhi : a * b / 18446744073709551616 < y := by
    rw [Nat.div_lt_iff_lt_mul (by decide)]
    exact Nat.lt_of_le_of_lt (Nat.mul_le_mul_right b ha) (Nat.mul_lt_mul_of_pos_left hb h0)
  have hlo : a * b % 18446744073709551616 < 18446744073709551616 := by omega
  have e : a * b / 18446744073709551616 * 18446744073709551616 + a * b % 18446744073709551616 = a * b := by omega
  obtain ⟨q, hq⟩ : ∃ q, q = a * b / y := ⟨_, rfl⟩
  obtain ⟨r, hr⟩ : ∃ r, r = a * b % y := ⟨_, rfl⟩
  have ho := fun W => over_any _ _ y W hhi h1 hlo
  rw [e, ← hq, ← hr] at ho
  have ht := fun W => times_nat a b W (by omega) hb
  have hc : ceilN a b y = if r = 0 then q else q + 1 := by unfold ceilN; rw [← hq, ← hr]
  by_cases h : r = 0
  · have g1 : ((r : Int) == 0) = true := by simp [h]
    have g2 : q = ceilN a b y := by rw [hc, if_pos h]
    clear hc h hq hr e hhi hlo hle
    have HG := Lib.hid g2
    clear g2
    go_enter Tryz.func180, Tryz.ntmps180
    go_wp2_with (first | (go_at_call 118; refine (ht _).mono ?_; rintro e w1 ⟨rfl, hb1⟩) | (go_at_call 117; refine (ho _).mono ?_; rintro e w2 ⟨rfl, hb2⟩))
    go_ret2
    exact ⟨by rw [← HG.out]; rfl, hb1.trans (hb2.mono hb1.size)⟩
  · have g1 : ((r : Int) == 0) = false := by simp [h]
    have g2 : q + 1 = ceilN a b y := by rw [hc, if_neg h]
    have hadd : ∀ W : World, (callFunc 189 #[.int .u64 (q : Int), .int .u64 1, .int .u64 0]).run Tryz.prog W = .ok (.value (.tuple #[.int .u64 (ceilN a b y : Nat), .int .u64 0])) W := fun W => by
      have k := run_add64_189 q 1 0 (by omega) (by omega) (by omega) W
      have k1 : (q + 1 + 0) % 18446744073709551616 = ceilN a b y := by omega
      have k2 : (q + 1 + 0) / 18446744073709551616 = 0 := by omega
      rw [k1, k2] at k
      exact k
    clear hc h hq hr e hhi hlo hle g2
    go_enter Tryz.func180, Tryz.ntmps180
    go_wp2_with (first | (go_at_call 118; refine (ht _).mono ?_; rintro e w1 ⟨rfl, hb1⟩) | (go_at_call 117; refine (ho _).mono ?_; rintro e w2 ⟨rfl, hb2⟩) | (simp only [hadd]))
    go_ret2
    exact ⟨rfl, hb1.trans (hb2.mono hb1.size)⟩

theorem place_any (num den n : Nat) (w : World) (h : num ≤ den) (h0 : 1 ≤ den) (h1 : den < 18446744073709551616) (hn : 1 ≤ n) (hn' : n < 18446744073709551616) :
    Calls Tryz.prog 174 #[.agg #[.int .u64 num, .int .u64 den], .int .u64 n] w fun e w' => e = .returned (.tuple #[.int .u64 (placeN num n den : Nat), .int .i64 0]) ∧ Below w.heap.size w w' := by
  have g1 : ((n : Int) == 0) = false := by simp; omega
  go_enter Tryz.func174, Tryz.ntmps174
  go_wp2_with (first
    | (go_at_call 179; refine (good_any num den _ h h0).mono ?_; rintro e w1 ⟨rfl, hb1⟩; obtain ⟨hc1, hf1⟩ := bcell hb1; have z1 : w.heap.size < w1.heap.size := by have := hb1.size; simp at this; omega)
    | (go_at_call 180; refine (ceil_any num n den _ h h0 h1 hn').mono ?_; rintro e w2 ⟨rfl, hb2⟩))
  go_ret2
  refine ⟨by rw [show ((placeN num n den : Nat) : Int) = max (ceilN num n den : Int) 1 from by unfold placeN; omega]; rfl, ?_⟩
  exact (((Below.refl _ _).alloc (Nat.le_refl _) _).trans (hb1.mono (by simp))).trans (hb2.mono (by omega))

end Go.Proofs.YtbejdajkkoapgaaGreatDoor.Wd

/-
  Several texts in one: So, Br, Dg, Dn. What each proves, and on which conditions, stands at its head. Conditions: stated in each.
-/
/-
  The order in which a digest's nodes are told, as a function and as a sort. No program. Conditions: stated in each law.
-/
set_option linter.unusedVariables false
set_option linter.unusedSimpArgs false
namespace Go.Proofs.YtbejdajkkoapgaaGreatDoor

end Go.Proofs.YtbejdajkkoapgaaGreatDoor

/-
  The tree's functions in naturals: what the contracts of layer 16 answer is what the plain laws speak of. Conditions: a depth from 1 to 24, a node that can be.
-/
set_option linter.unusedVariables false
set_option linter.unusedSimpArgs false
namespace Go.Proofs.YtbejdajkkoapgaaGreatDoor
open Go.RowKit Go.Lib

theorem quiet_const {C : World → Prop} {x : Value} {K : Value → Prop} (h : K x) : ∃ v, (∀ w, C w → x = v) ∧ K v := ⟨x, fun _ _ => rfl, h⟩
theorem wp_region_quiet_litC {P : Program} {C : World → Prop} {id : Nat} {Q : Exit → Act → World → Prop} {a : Act} {w : World} {l : List Oper} (hm : P.follows .mixedOrders = true) (hB : Region.lexB .any l.toArray = true) (hC : C w.drew)
    (h : wpQuiet P l.toArray C (fun a' => ∀ w', C w' → Q .normal a' w') l a) : (Code.region id l.toArray true).wp P Q a w :=
  wp_region_quiet hm hB hC (by simpa using h)
end Go.Proofs.YtbejdajkkoapgaaGreatDoor

/-
  A digest in memory, and the contracts of New, Total, Most, limit, Ends, Config, Nodes, ends. Conditions: stated in each.
-/
set_option linter.unusedVariables false
set_option linter.unusedSimpArgs false
set_option maxRecDepth 100000
namespace Go.Proofs.YtbejdajkkoapgaaGreatDoor
open Go.RowKit Go.Lib

def I64 (x : Int) : Prop := -9223372036854775808 ≤ x ∧ x ≤ 9223372036854775807
section
variable {w w' : World} {db sb : Nat} {v : Value} {d F : Nat} {lo hi : Int} {l : Row}
end

end Go.Proofs.YtbejdajkkoapgaaGreatDoor

/-
  Contract of digest.New: an empty digest in new memory, or the error where the config can't be. Conditions: none.
-/
set_option linter.unusedVariables false
set_option linter.unusedSimpArgs false
set_option maxRecDepth 100000
namespace Go.Proofs.YtbejdajkkoapgaaGreatDoor
open Go.RowKit Go.Lib

theorem stripO_new (w : World) : StripO (w.alloc (.cells #[.int .i64 4096, .slice none 0 0, .int .u64 0] 115)) w.heap.size (.slice none 0 0) [] :=
  ⟨Blk.newAt rfl, World.ownsRow_nil _ _ _ _, trivial, fun x hx => by cases hx⟩

end Go.Proofs.YtbejdajkkoapgaaGreatDoor

/-
  Several texts in one: Lf, Ly. What each proves, and on which conditions, stands at its head. Conditions: stated in each.
-/
/-
  Contract of digest.lift: the values of a node and of the one beside go to the one above, where these are few enough; whether they did. Conditions: the node can be, the counts are small.
-/
set_option linter.unusedVariables false
set_option linter.unusedSimpArgs false
set_option maxRecDepth 100000
namespace Go.Proofs.YtbejdajkkoapgaaGreatDoor
open Go.RowKit Go.Lib

/-- what is its own behind a call: what was, or new -/
def SubO (w : World) (P Q : Nat → Prop) : Prop := ∀ k, Q k → P k ∨ w.heap.size ≤ k

end Go.Proofs.YtbejdajkkoapgaaGreatDoor

/-
  Contract of digest.lift where it lifts: a new strip without the two nodes, the one above with their counts. Conditions: the node can be and is not the first one, the counts are small.
-/
set_option linter.unusedVariables false
set_option linter.unusedSimpArgs false
set_option maxRecDepth 100000
namespace Go.Proofs.YtbejdajkkoapgaaGreatDoor
open Go.RowKit Go.Lib

section
variable {w W W' : World} {db sb : Nat} {v : Value} {d F : Nat} {lo hi : Int} {l : Row} {sn : Nat} {vk : Value} {m : Row} {vp : Value}
end

end Go.Proofs.YtbejdajkkoapgaaGreatDoor

