/-
  Several texts in one: Len, TrFns, TrRange. What each proves, and on which conditions, stands at its head. Conditions: stated in each.
-/
import Derived.Test.YtbejdajkkoapgaaGreatDoorRows
import Derived.WalkKit
import Derived.WalkSpells
import Derived.WalkLawsBesides
import Derived.Deep.Light
import Derived.Lib.Small
import Derived.Lib.Walk
import Derived.Lib.BitFns
import Derived.Lib.Hide
import Derived.Lib.Strings
import Derived.Lib.Slices
import Derived.BigQuiet
import Derived.Deep.QuietTactic
import Derived.Deep.RegionHeld3
/-
  Contract of Len64 of the library's math bits: how many bits a number has; the world is as it was. Conditions: the number fits uint64.
-/
namespace Go.Proofs.YtbejdajkkoapgaaGreatDoor
open Go.RowKit Go.Lib

set_option maxRecDepth 100000 in
theorem len8tab_size : (Lib.len8tab.size : Int) = 256 := by
  have : Lib.len8tab.size = 256 := by decide
  omega
theorem wrap_add (k a b : Nat) (hk : k ≤ 56) (ha : a ≤ 8) (hb : b = k + a) : RowKit.wrap64 ((k : Int) + RowKit.wrap64 (a : Int)) = (b : Int) := by
  unfold RowKit.wrap64
  omega
theorem wrap_wrap (a : Nat) (ha : a ≤ 8) : RowKit.wrap64 (RowKit.wrap64 (a : Int)) = (a : Int) := by
  unfold RowKit.wrap64
  omega
theorem len8_get (y : Int) (h : y.toNat < Lib.len8tab.size) : ((Lib.len8tab[y.toNat]'h).toNat : Int) = Lib.len8 y := by
  unfold Lib.len8
  rw [getElem?_pos Lib.len8tab y.toNat h]
  rfl

set_option maxHeartbeats 4000000 in
set_option maxRecDepth 1000000 in
theorem len64_any (x : Int) (w : World) (h0 : 0 ≤ x) (h1 : x ≤ 18446744073709551615) :
    Calls Tryz.prog 144 #[.int .u64 x] w fun e w' => e = .returned (.int .i64 (Lib.bitLen x.toNat)) ∧ w = w' := by
  go_enter Tryz.func144, Tryz.ntmps144
  go_wp2
  all_goals first
    | (go_ret; refine ⟨congrArg Ending.returned (congrArg (Value.int IntKind.i64) ?_), rfl⟩; go_light)
    | (exfalso
       go_light
       have hs := len8tab_size
       omega)
  all_goals first
    | (rw [len8_get (x / 4294967296 / 65536 / 256) _, Lib.len8_of (x / 4294967296 / 65536 / 256) (by omega) (by omega)]
       have e : (x / 4294967296 / 65536 / 256).toNat = x.toNat / 72057594037927936 := by omega
       have l := Lib.bitLen_le8' (x / 4294967296 / 65536 / 256) (by omega) (by omega)
       have s := Lib.bitLen_shift56 x.toNat (by omega) (by omega)
       rw [e] at l ⊢
       exact wrap_add 56 _ _ (by decide) l s)
    | (rw [len8_get (x / 4294967296 / 65536) _, Lib.len8_of (x / 4294967296 / 65536) (by omega) (by omega)]
       have e : (x / 4294967296 / 65536).toNat = x.toNat / 281474976710656 := by omega
       have l := Lib.bitLen_le8' (x / 4294967296 / 65536) (by omega) (by omega)
       have s := Lib.bitLen_shift48 x.toNat (by omega) (by omega)
       rw [e] at l ⊢
       exact wrap_add 48 _ _ (by decide) l s)
    | (rw [len8_get (x / 4294967296 / 256) _, Lib.len8_of (x / 4294967296 / 256) (by omega) (by omega)]
       have e : (x / 4294967296 / 256).toNat = x.toNat / 1099511627776 := by omega
       have l := Lib.bitLen_le8' (x / 4294967296 / 256) (by omega) (by omega)
       have s := Lib.bitLen_shift40 x.toNat (by omega) (by omega)
       rw [e] at l ⊢
       exact wrap_add 40 _ _ (by decide) l s)
    | (rw [len8_get (x / 4294967296) _, Lib.len8_of (x / 4294967296) (by omega) (by omega)]
       have e : (x / 4294967296).toNat = x.toNat / 4294967296 := by omega
       have l := Lib.bitLen_le8' (x / 4294967296) (by omega) (by omega)
       have s := Lib.bitLen_shift32 x.toNat (by omega) (by omega)
       rw [e] at l ⊢
       exact wrap_add 32 _ _ (by decide) l s)
    | (rw [len8_get (x / 65536 / 256) _, Lib.len8_of (x / 65536 / 256) (by omega) (by omega)]
       have e : (x / 65536 / 256).toNat = x.toNat / 16777216 := by omega
       have l := Lib.bitLen_le8' (x / 65536 / 256) (by omega) (by omega)
       have s := Lib.bitLen_shift24 x.toNat (by omega) (by omega)
       rw [e] at l ⊢
       exact wrap_add 24 _ _ (by decide) l s)
    | (rw [len8_get (x / 65536) _, Lib.len8_of (x / 65536) (by omega) (by omega)]
       have e : (x / 65536).toNat = x.toNat / 65536 := by omega
       have l := Lib.bitLen_le8' (x / 65536) (by omega) (by omega)
       have s := Lib.bitLen_shift16 x.toNat (by omega) (by omega)
       rw [e] at l ⊢
       exact wrap_add 16 _ _ (by decide) l s)
    | (rw [len8_get (x / 256) _, Lib.len8_of (x / 256) (by omega) (by omega)]
       have e : (x / 256).toNat = x.toNat / 256 := by omega
       have l := Lib.bitLen_le8' (x / 256) (by omega) (by omega)
       have s := Lib.bitLen_shift8 x.toNat (by omega) (by omega)
       rw [e] at l ⊢
       exact wrap_add 8 _ _ (by decide) l s)
    | (rw [len8_get x _, Lib.len8_of x (by omega) (by omega)]
       have l := Lib.bitLen_le8' x (by omega) (by omega)
       exact wrap_wrap _ l)

end Go.Proofs.YtbejdajkkoapgaaGreatDoor

/-
  Contracts of the small functions of package tree: what each returns, as plain integers; below the heap's size at the call nothing in memory changes. Conditions: the depth lies from 1 to 24, each number fits its kind.
-/
namespace Go.Proofs.YtbejdajkkoapgaaGreatDoor.Tr
open Go.RowKit Go.Lib

theorem ret_int {k : IntKind} {a b : Int} (h : a = b) : Ending.returned (.int k a) = .returned (.int k b) := by rw [h]
theorem ret_bool {a b : Bool} (h : a = b) : Ending.returned (.bool a) = .returned (.bool b) := by rw [h]

theorem new_bad (d : Int) (w : World) (h : d < 1 ∨ 24 < d) :
    Calls Tryz.prog 27 #[.int .i64 d] w fun e w' => e = .returned (.tuple #[.agg #[.int .i64 0], .int .i64 1]) ∧ Below w.heap.size w w' := by
  rcases h with h | h
  · go_enter Tryz.func27, Tryz.ntmps27
    go_wp2
    exact bodyPost_ret (v := .tuple #[.agg #[.int .i64 0], .int .i64 1]) (by simp [results, Tryz.results27, go_sem]) rfl ⟨rfl, (Below.refl _ _).alloc (Nat.le_refl _) _⟩
  · go_enter Tryz.func27, Tryz.ntmps27
    go_wp2
    exact bodyPost_ret (v := .tuple #[.agg #[.int .i64 0], .int .i64 1]) (by simp [results, Tryz.results27, go_sem]) rfl ⟨rfl, (Below.refl _ _).alloc (Nat.le_refl _) _⟩
theorem new_good (d : Int) (w : World) (h : 1 ≤ d) (h' : d ≤ 24) :
    Calls Tryz.prog 27 #[.int .i64 d] w fun e w' => e = .returned (.tuple #[.agg #[.int .i64 d], .int .i64 0]) ∧ Below w.heap.size w w' := by
  go_enter Tryz.func27, Tryz.ntmps27
  go_wp2
  exact bodyPost_ret (v := .tuple #[.agg #[.int .i64 d], .int .i64 0]) (by simp [results, Tryz.results27, go_sem]) rfl ⟨rfl, (Below.refl _ _).alloc (Nat.le_refl _) _⟩

/-- so many values -/
def pw (d : Int) : Int := 2 ^ d.toNat
theorem pw_bd (d : Int) (h : 1 ≤ d) (h' : d ≤ 24) : 2 ≤ pw d ∧ pw d ≤ 16777216 := by
  have h1 : 2 ^ 1 ≤ 2 ^ d.toNat := Nat.pow_le_pow_right (by decide) (by omega)
  have h2 : 2 ^ d.toNat ≤ 2 ^ 24 := Nat.pow_le_pow_right (by decide) (by omega)
  have e : pw d = ((2 ^ d.toNat : Nat) : Int) := by unfold pw; simp
  rw [e]; omega
theorem pw_wrap (d : Int) (h : 1 ≤ d) (h' : d ≤ 24) : wrap64 (2 ^ d.toNat) = pw d := by
  have := pw_bd d h h'
  show wrap64 (pw d) = pw d
  unfold wrap64; omega

theorem leaves_any (d : Int) (w : World) (h : 1 ≤ d) (h' : d ≤ 24) :
    Calls Tryz.prog 97 #[.agg #[.int .i64 d]] w fun e w' => e = .returned (.int .i64 (pw d)) ∧ Below w.heap.size w w' := by
  have e := pw_wrap d h h'
  go_enter Tryz.func97, Tryz.ntmps97
  go_wp2
  go_ret
  exact ⟨ret_int e, (Below.refl _ _).alloc (Nat.le_refl _) _⟩

/-- can a node be -/
def goodB (d v : Int) : Bool := decide (1 ≤ v) && decide (v < 2 * pw d)
theorem goodB_iff (d v : Int) : goodB d v = true ↔ 1 ≤ v ∧ v < 2 * pw d := by unfold goodB; simp
theorem goodB_no (d v : Int) : goodB d v = false ↔ ¬ (1 ≤ v ∧ v < 2 * pw d) := by rw [← goodB_iff]; simp

theorem good_any (d v : Int) (w : World) (h : 1 ≤ d) (h' : d ≤ 24) :
    Calls Tryz.prog 96 #[.agg #[.int .i64 d], .int .i64 v] w fun e w' => e = .returned (.bool (goodB d v)) ∧ Below w.heap.size w w' := by
  have ⟨p1, p2⟩ := pw_bd d h h'
  by_cases hv : 1 ≤ v
  · have Fin := Lib.hid (show decide (v < 2 * pw d) = goodB d v by unfold goodB; simp [hv])
    go_enter Tryz.func96, Tryz.ntmps96
    go_wp2_with (go_at_call 97; refine (leaves_any _ _ (by omega) (by omega)).mono ?_; rintro e w' ⟨rfl, hb⟩)
    go_ret
    exact ⟨ret_bool Fin.out, ((Below.refl _ _).alloc (Nat.le_refl _) _).trans (hb.mono (by simp))⟩
  · have Fin := Lib.hid (show false = goodB d v by unfold goodB; simp [hv])
    go_enter Tryz.func96, Tryz.ntmps96
    go_wp2
    go_ret
    exact ⟨ret_bool Fin.out, (Below.refl _ _).alloc (Nat.le_refl _) _⟩

/-- a value's node -/
def leafB (d x : Int) : Bool := decide (0 ≤ x) && decide (x < pw d)
def leafV (d x : Int) : Int := if leafB d x then pw d + x else 0
theorem leafB_iff (d v : Int) : leafB d v = true ↔ 0 ≤ v ∧ v < pw d := by unfold leafB; simp
theorem leafB_no (d v : Int) : leafB d v = false ↔ ¬ (0 ≤ v ∧ v < pw d) := by rw [← leafB_iff]; simp

theorem bcell {W w1 : World} {B : Nat} (hb : Below B W w1) : (∀ b o, b < B → w1.cell? ⟨b, o, none⟩ = W.cell? ⟨b, o, none⟩) ∧ (∀ b o, b < B → w1.frozen? ⟨b, o, none⟩ = W.frozen? ⟨b, o, none⟩) :=
  ⟨fun b o h => hb.cell (p := ⟨b, o, none⟩) h, fun b o h => hb.frozen (p := ⟨b, o, none⟩) h⟩

theorem leaf_any (d x : Int) (w : World) (h : 1 ≤ d) (h' : d ≤ 24) (hx : x ≤ 9223372036854775807) :
    Calls Tryz.prog 99 #[.agg #[.int .i64 d], .int .i64 x] w fun e w' => e = .returned (.tuple #[.int .i64 (leafV d x), .bool (leafB d x)]) ∧ Below w.heap.size w w' := by
  have ⟨p1, p2⟩ := pw_bd d h h'
  by_cases h0 : 0 ≤ x
  · by_cases h1 : x < pw d
    · have e1 : leafB d x = true := (leafB_iff d x).2 ⟨h0, h1⟩
      have e2 : leafV d x = pw d + x := by unfold leafV; rw [if_pos e1]
      rw [e1, e2]; clear e1 e2
      go_enter Tryz.func99, Tryz.ntmps99
      go_wp2_with fail
      refine (leaves_any _ _ (by omega) (by omega)).mono ?_
      rintro e w1 ⟨rfl, hb⟩
      obtain ⟨hc, hf⟩ := bcell hb
      have hz : w.heap.size < w1.heap.size := by have := hb.size; simp at this; omega
      go_wp2_with fail
      refine (leaves_any _ _ (by omega) (by omega)).mono ?_
      rintro e w2 ⟨rfl, hb2⟩
      go_wp2
      go_ret2
      exact ⟨rfl, (((Below.refl _ _).alloc (Nat.le_refl _) _).trans (hb.mono (by simp))).trans (hb2.mono (by omega))⟩
    · have e1 : leafB d x = false := (leafB_no d x).2 (by omega)
      have e2 : leafV d x = 0 := by unfold leafV; rw [e1]; rfl
      rw [e1, e2]; clear e1 e2
      go_enter Tryz.func99, Tryz.ntmps99
      go_wp2_with fail
      refine (leaves_any _ _ (by omega) (by omega)).mono ?_
      rintro e w1 ⟨rfl, hb⟩
      go_wp2
      go_ret2
      exact ⟨rfl, ((Below.refl _ _).alloc (Nat.le_refl _) _).trans (hb.mono (by simp))⟩
  · have e1 : leafB d x = false := (leafB_no d x).2 (by omega)
    have e2 : leafV d x = 0 := by unfold leafV; rw [e1]; rfl
    rw [e1, e2]; clear e1 e2
    go_enter Tryz.func99, Tryz.ntmps99
    go_wp2
    go_ret2
    exact ⟨rfl, (Below.refl _ _).alloc (Nat.le_refl _) _⟩

/-- the node above, the one beside -/
def upV (d v : Int) : Int := if goodB d v then v / 2 else 0
theorem up_any (d v : Int) (w : World) (h : 1 ≤ d) (h' : d ≤ 24) :
    Calls Tryz.prog 188 #[.agg #[.int .i64 d], .int .i64 v] w fun e w' => e = .returned (.int .i64 (upV d v)) ∧ Below w.heap.size w w' := by
  cases hg : goodB d v
  · have e2 : upV d v = 0 := by unfold upV; rw [hg]; rfl
    rw [e2]; clear e2
    go_enter Tryz.func188, Tryz.ntmps188
    go_wp2_with (go_at_call 96; refine (good_any _ _ _ (by omega) (by omega)).mono ?_; rintro e w' ⟨rfl, hb⟩)
    go_ret
    exact ⟨rfl, ((Below.refl _ _).alloc (Nat.le_refl _) _).trans (hb.mono (by simp))⟩
  · have e2 : upV d v = v / 2 := by unfold upV; rw [hg]; rfl
    have ⟨p1, p2⟩ := pw_bd d h h'
    rw [e2]; clear e2
    have ⟨g1, g2⟩ := (goodB_iff d v).1 hg
    go_enter Tryz.func188, Tryz.ntmps188
    go_wp2_with (go_at_call 96; refine (good_any _ _ _ (by omega) (by omega)).mono ?_; rintro e w' ⟨rfl, hb⟩)
    go_ret
    exact ⟨rfl, ((Below.refl _ _).alloc (Nat.le_refl _) _).trans (hb.mono (by simp))⟩

/-- how many bits a number has -/
def lenV (x : Int) : Int := Lib.bitLen x.toNat
theorem lenV_bd (x : Int) (h : x ≤ 4294967295) : 0 ≤ lenV x ∧ lenV x ≤ 32 := by
  have := Lib.bitLen_le x.toNat 32 (by decide) (by omega)
  unfold lenV; omega

theorem len_any (x : Int) (w : World) (h0 : 0 ≤ x) (h1 : x ≤ 4294967295) :
    Calls Tryz.prog 191 #[.int .u64 x] w fun e w' => e = .returned (.int .i64 (lenV x)) ∧ w = w' := by
  go_enter Tryz.func191, Tryz.ntmps191
  go_wp2_with (go_at_call 144; refine (len64_any _ _ (by omega) (by omega)).mono ?_; rintro e w' ⟨rfl, rfl⟩)
  go_ret
  exact ⟨rfl, rfl⟩

/-- how many lie above a node -/
def levV (d v : Int) : Int := if goodB d v then lenV v - 1 else -1
theorem level_any (d v : Int) (w : World) (h : 1 ≤ d) (h' : d ≤ 24) :
    Calls Tryz.prog 184 #[.agg #[.int .i64 d], .int .i64 v] w fun e w' => e = .returned (.int .i64 (levV d v)) ∧ Below w.heap.size w w' := by
  cases hg : goodB d v
  · have e2 : levV d v = -1 := by unfold levV; rw [hg]; rfl
    rw [e2]; clear e2
    go_enter Tryz.func184, Tryz.ntmps184
    go_wp2_with (go_at_call 96; refine (good_any _ _ _ (by omega) (by omega)).mono ?_; rintro e w' ⟨rfl, hb⟩)
    go_ret
    exact ⟨rfl, ((Below.refl _ _).alloc (Nat.le_refl _) _).trans (hb.mono (by simp))⟩
  · have e2 : levV d v = lenV v - 1 := by unfold levV; rw [hg]; rfl
    have ⟨p1, p2⟩ := pw_bd d h h'
    have ⟨g1, g2⟩ := (goodB_iff d v).1 hg
    have ⟨l1, l2⟩ := lenV_bd v (by omega)
    rw [e2]; clear e2
    go_enter Tryz.func184, Tryz.ntmps184
    go_wp2_with (first | (go_at_call 96; refine (good_any _ _ _ (by omega) (by omega)).mono ?_; rintro e w' ⟨rfl, hb⟩) | (go_at_call 191; refine (len_any _ _ (by omega) (by omega)).mono ?_; rintro e w' ⟨rfl, rfl⟩))
    go_ret
    exact ⟨rfl, ((Below.refl _ _).alloc (Nat.le_refl _) _).trans (hb.mono (by simp))⟩

def besV (d v : Int) : Int := if goodB d v && !(v == 1) then (if v % 2 = 0 then v + 1 else v - 1) else 0
theorem xor_one (v : Int) (h : 0 ≤ v) (h' : v ≤ 9223372036854775807) : bits .xor .i64 v 1 = if v % 2 = 0 then v + 1 else v - 1 := by
  show IntKind.i64.wrap ((BitVec.ofInt 64 v ^^^ BitVec.ofInt 64 1).toNat : Int) = _
  obtain ⟨n, rfl⟩ := Int.eq_ofNat_of_zero_le h
  have h1 : (BitVec.ofInt 64 (n : Int)).toNat = n := by
    rw [BitVec.ofInt_natCast, BitVec.toNat_ofNat]; exact Nat.mod_eq_of_lt (by omega)
  have h2 : (BitVec.ofInt 64 1).toNat = 1 := by decide
  rw [BitVec.toNat_xor, h1, h2]
  have d : (n ^^^ 1) / 2 ^ 1 = n / 2 ^ 1 ^^^ 1 / 2 ^ 1 := Nat.xor_div_two_pow
  have m : (n ^^^ 1) % 2 ^ 1 = n % 2 ^ 1 ^^^ 1 % 2 ^ 1 := Nat.xor_mod_two_pow
  have e2 : 1 / 2 ^ 1 = 0 := by decide
  have e3 : 1 % 2 ^ 1 = 1 := by decide
  rw [e2, Nat.xor_zero] at d
  rw [e3] at m
  have e4 : (0 : Nat) ^^^ 1 = 1 := by decide
  have e5 : (1 : Nat) ^^^ 1 = 0 := by decide
  simp only [IntKind.wrap, IntKind.bits, IntKind.signed]
  rcases (show n % 2 ^ 1 = 0 ∨ n % 2 ^ 1 = 1 by omega) with hz | hz
  · rw [hz, e4] at m
    rw [if_pos (by omega)]; simp; omega
  · rw [hz, e5] at m
    rw [if_neg (by omega)]; simp; omega

theorem beside_any (d v : Int) (w : World) (h : 1 ≤ d) (h' : d ≤ 24) :
    Calls Tryz.prog 187 #[.agg #[.int .i64 d], .int .i64 v] w fun e w' => e = .returned (.int .i64 (besV d v)) ∧ Below w.heap.size w w' := by
  cases hg : goodB d v
  · have e2 : besV d v = 0 := by unfold besV; rw [hg]; rfl
    rw [e2]; clear e2
    go_enter Tryz.func187, Tryz.ntmps187
    go_wp2_with (go_at_call 96; refine (good_any _ _ _ (by omega) (by omega)).mono ?_; rintro e w' ⟨rfl, hb⟩)
    go_ret
    exact ⟨rfl, ((Below.refl _ _).alloc (Nat.le_refl _) _).trans (hb.mono (by simp))⟩
  · have ⟨p1, p2⟩ := pw_bd d h h'
    have ⟨g1, g2⟩ := (goodB_iff d v).1 hg
    by_cases h1 : v = 1
    · have e2 : besV d v = 0 := by unfold besV; rw [hg, h1]; rfl
      have e3 : (v == 1) = true := beq_iff_eq.2 h1
      rw [e2]; clear e2 h1
      go_enter Tryz.func187, Tryz.ntmps187
      go_wp2_with (go_at_call 96; refine (good_any _ _ _ (by omega) (by omega)).mono ?_; rintro e w' ⟨rfl, hb⟩)
      go_ret
      exact ⟨rfl, ((Below.refl _ _).alloc (Nat.le_refl _) _).trans (hb.mono (by simp))⟩
    · have e3 : (v == 1) = false := beq_eq_false_iff_ne.2 h1
      have e2 : besV d v = bits .xor .i64 v 1 := by unfold besV; rw [hg, e3, xor_one v (by omega) (by omega)]; rfl
      rw [e2]; clear e2
      go_enter Tryz.func187, Tryz.ntmps187
      go_wp2_with (go_at_call 96; refine (good_any _ _ _ (by omega) (by omega)).mono ?_; rintro e w' ⟨rfl, hb⟩)
      go_ret
      exact ⟨rfl, ((Below.refl _ _).alloc (Nat.le_refl _) _).trans (hb.mono (by simp))⟩

end Go.Proofs.YtbejdajkkoapgaaGreatDoor.Tr

/-
  Contracts of Range, Above and Before of package tree: what each returns, as plain integers; below the heap's size at the call nothing in memory changes. Conditions: the depth lies from 1 to 24, each number fits its kind.
-/
namespace Go.Proofs.YtbejdajkkoapgaaGreatDoor.Tr
open Go.RowKit Go.Lib

theorem bitLen_pos (x : Nat) (h : 1 ≤ x) (h' : x < 2 ^ 64) : 1 ≤ Lib.bitLen x := by
  have := Lib.bitLen_half x (by omega) h'; omega
theorem bitLen_lo (x : Nat) (h : 1 ≤ x) (h' : x < 2 ^ 64) : 2 ^ (Lib.bitLen x - 1) ≤ x := by
  have hp := bitLen_pos x h h'
  have hl := Lib.bitLen_le x 64 (by decide) h'
  refine Nat.le_of_not_lt fun hlt => ?_
  have := Lib.bitLen_le x (Lib.bitLen x - 1) (by omega) hlt
  omega
theorem bitLen_hi (x : Nat) (h' : x < 2 ^ 64) : x < 2 ^ Lib.bitLen x := by
  refine Nat.lt_of_not_le fun hle => ?_
  have h1 := Lib.bitLen_shift (Lib.bitLen x) x hle h'
  have h2 : 1 ≤ x / 2 ^ Lib.bitLen x := (Nat.one_le_div_iff (Nat.two_pow_pos _)).2 hle
  have h3 := bitLen_pos (x / 2 ^ Lib.bitLen x) h2 (Nat.lt_of_le_of_lt (Nat.div_le_self _ _) h')
  omega

/-- the level of a node that can be, as a natural number -/
theorem level_is (d v : Int) (h : 1 ≤ d) (h' : d ≤ 24) (hg : goodB d v = true) : ∃ k : Nat, levV d v = k ∧ (k : Int) ≤ d ∧ 2 ^ k ≤ v.toNat ∧ v.toNat < 2 ^ (k + 1) := by
  have ⟨g1, g2⟩ := (goodB_iff d v).1 hg
  have ⟨p1, p2⟩ := pw_bd d h h'
  have hv : v.toNat < 2 ^ (d.toNat + 1) := by
    have e : pw d = ((2 ^ d.toNat : Nat) : Int) := by unfold pw; simp
    rw [Nat.pow_succ]; omega
  have hb : v.toNat < 2 ^ 64 := by
    have : (2 : Nat) ^ 64 = 18446744073709551616 := by decide
    omega
  have b1 := bitLen_pos v.toNat (by omega) hb
  have b2 := bitLen_lo v.toNat (by omega) hb
  have b3 := bitLen_hi v.toNat hb
  have b4 := Lib.bitLen_le v.toNat (d.toNat + 1) (by omega) hv
  refine ⟨Lib.bitLen v.toNat - 1, ?_, by omega, b2, ?_⟩
  · unfold levV lenV; rw [hg]
    show (Lib.bitLen v.toNat : Int) - 1 = _
    omega
  · rw [show Lib.bitLen v.toNat - 1 + 1 = Lib.bitLen v.toNat from by omega]; exact b3

/-- how many values lie below a node; the least one -/
def widV (d v : Int) : Int := 2 ^ (d - levV d v).toNat
def lowV (d v : Int) : Int := if goodB d v then v * widV d v - pw d else 0
def highV (d v : Int) : Int := if goodB d v then lowV d v + widV d v - 1 else 0

theorem lowV_good {d v : Int} (hg : goodB d v = true) : lowV d v = v * widV d v - pw d := by unfold lowV; rw [hg]; rfl
theorem highV_good {d v : Int} (hg : goodB d v = true) : highV d v = lowV d v + widV d v - 1 := by unfold highV; rw [hg]; rfl
theorem widV_nat {d v : Int} {k : Nat} (hk : levV d v = k) (hkd : (k : Int) ≤ d) : widV d v = ((2 ^ (d.toNat - k) : Nat) : Int) := by
  unfold widV; rw [hk, show (d - (k : Int)).toNat = d.toNat - k from by omega]; simp
theorem range_bd (d v : Int) (h : 1 ≤ d) (h' : d ≤ 24) (hg : goodB d v = true) : 1 ≤ widV d v ∧ widV d v ≤ pw d ∧ 0 ≤ lowV d v ∧ lowV d v + widV d v ≤ pw d := by
  obtain ⟨k, hk, hkd, k1, k2⟩ := level_is d v h h' hg
  have ⟨g1, g2⟩ := (goodB_iff d v).1 hg
  rw [lowV_good hg, widV_nat hk hkd]
  have e : pw d = ((2 ^ d.toNat : Nat) : Int) := by unfold pw; simp
  have e2 : 2 ^ d.toNat = 2 ^ k * 2 ^ (d.toNat - k) := by rw [← Nat.pow_add]; congr 1; omega
  have q1 : 1 ≤ 2 ^ (d.toNat - k) := Nat.one_le_two_pow
  have q2 : 2 ^ (d.toNat - k) ≤ 2 ^ d.toNat := Nat.pow_le_pow_right (by decide) (by omega)
  have q3 : 2 ^ k * 2 ^ (d.toNat - k) ≤ v.toNat * 2 ^ (d.toNat - k) := Nat.mul_le_mul_right _ k1
  have q4 : (v.toNat + 1) * 2 ^ (d.toNat - k) ≤ 2 ^ (k + 1) * 2 ^ (d.toNat - k) := Nat.mul_le_mul_right _ k2
  rw [Nat.add_mul, Nat.pow_succ, Nat.mul_right_comm, ← e2] at q4
  rw [← e2] at q3
  have e3 : v * ((2 ^ (d.toNat - k) : Nat) : Int) = ((v.toNat * 2 ^ (d.toNat - k) : Nat) : Int) := by
    rw [Int.natCast_mul, show ((v.toNat : Nat) : Int) = v from by omega]
  rw [e3, e]
  generalize v.toNat * 2 ^ (d.toNat - k) = x at *
  generalize 2 ^ (d.toNat - k) = y at *
  generalize 2 ^ d.toNat = z at *
  omega

theorem kp1 {w w1 : World} {x : Value} (h1 : w1.cell? ⟨w.heap.size, 0, none⟩ = some x) (h2 : Below w.heap.size w w1) (h3 : w.heap.size < w1.heap.size) :
    w1.drew.cell? ⟨w.heap.size, 0, none⟩ = some x ∧ Below w.heap.size w w1.drew ∧ w.heap.size < w1.drew.heap.size := ⟨h1, h2.drew, h3⟩
theorem kp2 {w W w1 : World} {x : Value} (hb : Below W.heap.size W w1) (h : W.cell? ⟨w.heap.size, 0, none⟩ = some x ∧ Below w.heap.size w W ∧ w.heap.size < W.heap.size) :
    w1.cell? ⟨w.heap.size, 0, none⟩ = some x ∧ Below w.heap.size w w1 ∧ w.heap.size < w1.heap.size :=
  ⟨by rw [hb.cell (p := ⟨w.heap.size, 0, none⟩) h.2.2]; exact h.1, h.2.1.trans (hb.mono (Nat.le_of_lt h.2.2)), Nat.lt_of_lt_of_le h.2.2 hb.size⟩

theorem range_any (d v : Int) (w : World) (h : 1 ≤ d) (h' : d ≤ 24) :
    Calls Tryz.prog 176 #[.agg #[.int .i64 d], .int .i64 v] w fun e w' => e = .returned (.tuple #[.int .i64 (lowV d v), .int .i64 (highV d v)]) ∧ Below w.heap.size w w' := by
  cases hg : goodB d v
  · have e1 : lowV d v = 0 := by unfold lowV; rw [hg]; rfl
    have e2 : highV d v = 0 := by unfold highV; rw [hg]; rfl
    have e3 : levV d v = -1 := by unfold levV; rw [hg]; rfl
    rw [e1, e2]; clear e1 e2
    go_enter Tryz.func176, Tryz.ntmps176
    go_wp2_with (go_at_call 184; refine (level_any _ _ _ (by omega) (by omega)).mono ?_; rintro e w' ⟨rfl, hb⟩)
    go_ret2
    exact ⟨rfl, ((Below.refl _ _).alloc (Nat.le_refl _) _).trans (hb.mono (by simp))⟩
  · obtain ⟨k, hk, hkd, k1, k2⟩ := level_is d v h h' hg
    have ⟨g1, g2⟩ := (goodB_iff d v).1 hg
    have ⟨p1, p2⟩ := pw_bd d h h'
    have L0 : 0 ≤ levV d v := by omega
    have L1 : levV d v ≤ d := by omega
    have HK := Lib.hid hk
    clear hk
    have ⟨b1, b2, b3, b4⟩ := range_bd d v h h' hg
    have f1 : IntKind.i64.wrap (v * 2 ^ (d - levV d v).toNat) = v * widV d v := by
      have e := lowV_good hg
      show IntKind.i64.wrap (v * widV d v) = _
      rw [IntKind.wrap_i64]; omega
    have f2 : IntKind.i64.wrap (v * widV d v - pw d) = lowV d v := by
      have e := lowV_good hg
      rw [IntKind.wrap_i64]; omega
    have f3 : IntKind.i64.wrap (2 ^ (d - levV d v).toNat) = widV d v := by
      show IntKind.i64.wrap (widV d v) = _
      rw [IntKind.wrap_i64]; omega
    have f4 : IntKind.i64.wrap (lowV d v + widV d v) = lowV d v + widV d v := by rw [IntKind.wrap_i64]; omega
    have f5 : IntKind.i64.wrap (lowV d v + widV d v - 1) = lowV d v + widV d v - 1 := by rw [IntKind.wrap_i64]; omega
    have Fin := Lib.hid (highV_good hg)
    go_enter Tryz.func176, Tryz.ntmps176
    go_wp2_with fail
    refine (level_any _ _ _ (by omega) (by omega)).mono ?_
    rintro e w1 ⟨rfl, hb⟩
    obtain ⟨hc, hf⟩ := bcell hb
    have hz : w.heap.size < w1.heap.size := by have := hb.size; simp at this; omega
    go_wp2_with fail
    have c0 : w1.cell? ⟨w.heap.size, 0, none⟩ = some (.int .i64 d) := by rw [hc _ _ (by simp)]; simp
    have B1 : Below w.heap.size w w1 := ((Below.refl _ _).alloc (Nat.le_refl _) _).trans (hb.mono (by simp))
    clear hc hf hb
    have C0 := Lib.hid (kp1 c0 B1 hz)
    go_region_held3 (fun w' => w'.cell? ⟨w.heap.size, 0, none⟩ = some (.int .i64 d) ∧ Below w.heap.size w w' ∧ w.heap.size < w'.heap.size) (first | exact C0.out | exact kp2 (by assumption) C0.out | exact kp2 (by assumption) (by assumption))
      (first
        | (go_at_call 97; refine (leaves_any _ _ (by omega) (by omega)).mono ?_; rintro e w' ⟨rfl, hb⟩))
    have hS : w'.cell? ⟨w.heap.size, 0, none⟩ = some (.int .i64 d) ∧ Below w.heap.size w w' ∧ w.heap.size < w'.heap.size := by assumption
    go_wp2
    go_quiet (fail)
    go_wp2
    go_ret2
    exact ⟨by rw [Fin.out]; rfl, below_drewN hS.2.1 _⟩

/-- whether one node lies above another one, or is it -/
def aboveB (d v u : Int) : Bool := goodB d v && goodB d u && decide (levV d v ≤ levV d u) && (u / 2 ^ (levV d u - levV d v).toNat == v)
theorem levV_bd (d v : Int) (h : 1 ≤ d) (h' : d ≤ 24) : -1 ≤ levV d v ∧ levV d v ≤ d := by
  cases hg : goodB d v
  · have : levV d v = -1 := by unfold levV; rw [hg]; rfl
    omega
  · obtain ⟨k, hk, hkd, _, _⟩ := level_is d v h h' hg
    omega

/-- whether one node is told ahead of another one -/
def beforeB (d v u : Int) : Bool := decide (highV d v < highV d u) || (highV d v == highV d u && decide (u < v))
theorem before_any (d v u : Int) (w : World) (h : 1 ≤ d) (h' : d ≤ 24) :
    Calls Tryz.prog 183 #[.agg #[.int .i64 d], .int .i64 v, .int .i64 u] w fun e w' => e = .returned (.bool (beforeB d v u)) ∧ Below w.heap.size w w' := by
  go_enter Tryz.func183, Tryz.ntmps183
  go_wp2_with fail
  refine (range_any _ _ _ (by omega) (by omega)).mono ?_
  rintro e w1 ⟨rfl, hb1⟩
  obtain ⟨hc1, hf1⟩ := bcell hb1
  go_wp2_with fail
  refine (range_any _ _ _ (by omega) (by omega)).mono ?_
  rintro e w2 ⟨rfl, hb2⟩
  have hB : Below w.heap.size w w2 := (((Below.refl _ _).alloc (Nat.le_refl _) _).trans (hb1.mono (by simp))).trans (hb2.mono (by have := hb1.size; simp at this; omega))
  go_wp2
  all_goals
    go_ret
    exact ⟨ret_bool (by unfold beforeB; simp [*]), hB⟩

end Go.Proofs.YtbejdajkkoapgaaGreatDoor.Tr

