/-
  Contracts of the small functions of package tree: what each returns, as plain integers; below the heap's size at the call nothing in memory changes. Conditions: the depth lies from 1 to 24, each number fits its kind.
-/
import Derived.Test.YtdmihnfhfpadkaaRows
import Derived.WalkKit
import Derived.WalkSpells
import Derived.WalkLawsBesides
import Derived.Test.YtdmihnfhfpadkaaLen
import Derived.Lib.Hide
import Derived.Lib.Strings
import Derived.Lib.Slices
import Derived.Lib.Small
import Derived.Lib.Walk
import Derived.Lib.BitFns
import Derived.BigQuiet
import Derived.Deep.QuietTactic
import Derived.Deep.RegionHeld3
namespace Go.Proofs.Ytdmihnfhfpadkaa
open Go.RowKit Go.Lib

theorem ret_int {k : IntKind} {a b : Int} (h : a = b) : Ending.returned (.int k a) = .returned (.int k b) := by rw [h]
theorem ret_bool {a b : Bool} (h : a = b) : Ending.returned (.bool a) = .returned (.bool b) := by rw [h]

theorem new_bad (d : Int) (w : World) (h : d < 1 ∨ 24 < d) :
    Calls Try.prog 9 #[.int .i64 d] w fun e w' => e = .returned (.tuple #[.agg #[.int .i64 0], .int .i64 1]) ∧ Below w.heap.size w w' := by
  rcases h with h | h
  · go_enter Try.func9, Try.ntmps9
    go_wp2
    exact bodyPost_ret (v := .tuple #[.agg #[.int .i64 0], .int .i64 1]) (by simp [results, Try.results9, go_sem]) rfl ⟨rfl, (Below.refl _ _).alloc (Nat.le_refl _) _⟩
  · go_enter Try.func9, Try.ntmps9
    go_wp2
    exact bodyPost_ret (v := .tuple #[.agg #[.int .i64 0], .int .i64 1]) (by simp [results, Try.results9, go_sem]) rfl ⟨rfl, (Below.refl _ _).alloc (Nat.le_refl _) _⟩
theorem new_good (d : Int) (w : World) (h : 1 ≤ d) (h' : d ≤ 24) :
    Calls Try.prog 9 #[.int .i64 d] w fun e w' => e = .returned (.tuple #[.agg #[.int .i64 d], .int .i64 0]) ∧ Below w.heap.size w w' := by
  go_enter Try.func9, Try.ntmps9
  go_wp2
  exact bodyPost_ret (v := .tuple #[.agg #[.int .i64 d], .int .i64 0]) (by simp [results, Try.results9, go_sem]) rfl ⟨rfl, (Below.refl _ _).alloc (Nat.le_refl _) _⟩

/-- so many values -/
def pw (d : Int) : Int := 2 ^ d.toNat
theorem pw_bd (d : Int) (h : 1 ≤ d) (h' : d ≤ 24) : 2 ≤ pw d ∧ pw d ≤ 16777216 := by
  have h1 : 2 ^ 1 ≤ 2 ^ d.toNat := Nat.pow_le_pow_right (by decide) (by omega)
  have h2 : 2 ^ d.toNat ≤ 2 ^ 24 := Nat.pow_le_pow_right (by decide) (by omega)
  have e : pw d = ((2 ^ d.toNat : Nat) : Int) := by unfold pw; simp
  rw [e]; omega
theorem pw_wrap (d : Int) (h : 1 ≤ d) (h' : d ≤ 24) : wrap64 (2 ^ d.toNat) = pw d := by
  have := pw_bd d h h'
  show wrap64 (pw d) = pw d
  unfold wrap64; omega

theorem leaves_any (d : Int) (w : World) (h : 1 ≤ d) (h' : d ≤ 24) :
    Calls Try.prog 11 #[.agg #[.int .i64 d]] w fun e w' => e = .returned (.int .i64 (pw d)) ∧ Below w.heap.size w w' := by
  have e := pw_wrap d h h'
  go_enter Try.func11, Try.ntmps11
  go_wp2
  go_ret
  exact ⟨ret_int e, (Below.refl _ _).alloc (Nat.le_refl _) _⟩

theorem depth_any (d : Int) (w : World) :
    Calls Try.prog 15 #[.agg #[.int .i64 d]] w fun e w' => e = .returned (.int .i64 d) ∧ Below w.heap.size w w' := by
  go_enter Try.func15, Try.ntmps15
  go_wp2
  go_ret
  exact ⟨rfl, (Below.refl _ _).alloc (Nat.le_refl _) _⟩

/-- can a node be -/
def goodB (d v : Int) : Bool := decide (1 ≤ v) && decide (v < 2 * pw d)
theorem goodB_iff (d v : Int) : goodB d v = true ↔ 1 ≤ v ∧ v < 2 * pw d := by unfold goodB; simp
theorem goodB_no (d v : Int) : goodB d v = false ↔ ¬ (1 ≤ v ∧ v < 2 * pw d) := by rw [← goodB_iff]; simp

theorem good_any (d v : Int) (w : World) (h : 1 ≤ d) (h' : d ≤ 24) :
    Calls Try.prog 16 #[.agg #[.int .i64 d], .int .i64 v] w fun e w' => e = .returned (.bool (goodB d v)) ∧ Below w.heap.size w w' := by
  have ⟨p1, p2⟩ := pw_bd d h h'
  by_cases hv : 1 ≤ v
  · have Fin := Lib.hid (show decide (v < 2 * pw d) = goodB d v by unfold goodB; simp [hv])
    go_enter Try.func16, Try.ntmps16
    go_wp2_with (go_at_call 11; refine (leaves_any _ _ (by omega) (by omega)).mono ?_; rintro e w' ⟨rfl, hb⟩)
    go_ret
    exact ⟨ret_bool Fin.out, ((Below.refl _ _).alloc (Nat.le_refl _) _).trans (hb.mono (by simp))⟩
  · have Fin := Lib.hid (show false = goodB d v by unfold goodB; simp [hv])
    go_enter Try.func16, Try.ntmps16
    go_wp2
    go_ret
    exact ⟨ret_bool Fin.out, (Below.refl _ _).alloc (Nat.le_refl _) _⟩

/-- a value's node -/
def leafB (d x : Int) : Bool := decide (0 ≤ x) && decide (x < pw d)
def leafV (d x : Int) : Int := if leafB d x then pw d + x else 0
theorem leafB_iff (d v : Int) : leafB d v = true ↔ 0 ≤ v ∧ v < pw d := by unfold leafB; simp
theorem leafB_no (d v : Int) : leafB d v = false ↔ ¬ (0 ≤ v ∧ v < pw d) := by rw [← leafB_iff]; simp

theorem bcell {W w1 : World} {B : Nat} (hb : Below B W w1) : (∀ b o, b < B → w1.cell? ⟨b, o, none⟩ = W.cell? ⟨b, o, none⟩) ∧ (∀ b o, b < B → w1.frozen? ⟨b, o, none⟩ = W.frozen? ⟨b, o, none⟩) :=
  ⟨fun b o h => hb.cell (p := ⟨b, o, none⟩) h, fun b o h => hb.frozen (p := ⟨b, o, none⟩) h⟩

theorem leaf_any (d x : Int) (w : World) (h : 1 ≤ d) (h' : d ≤ 24) (hx : x ≤ 9223372036854775807) :
    Calls Try.prog 10 #[.agg #[.int .i64 d], .int .i64 x] w fun e w' => e = .returned (.tuple #[.int .i64 (leafV d x), .bool (leafB d x)]) ∧ Below w.heap.size w w' := by
  have ⟨p1, p2⟩ := pw_bd d h h'
  by_cases h0 : 0 ≤ x
  · by_cases h1 : x < pw d
    · have e1 : leafB d x = true := (leafB_iff d x).2 ⟨h0, h1⟩
      have e2 : leafV d x = pw d + x := by unfold leafV; rw [if_pos e1]
      rw [e1, e2]; clear e1 e2
      go_enter Try.func10, Try.ntmps10
      go_wp2_with fail
      refine (leaves_any _ _ (by omega) (by omega)).mono ?_
      rintro e w1 ⟨rfl, hb⟩
      obtain ⟨hc, hf⟩ := bcell hb
      have hz : w.heap.size < w1.heap.size := by have := hb.size; simp at this; omega
      go_wp2_with fail
      refine (leaves_any _ _ (by omega) (by omega)).mono ?_
      rintro e w2 ⟨rfl, hb2⟩
      go_wp2
      go_ret2
      exact ⟨rfl, (((Below.refl _ _).alloc (Nat.le_refl _) _).trans (hb.mono (by simp))).trans (hb2.mono (by omega))⟩
    · have e1 : leafB d x = false := (leafB_no d x).2 (by omega)
      have e2 : leafV d x = 0 := by unfold leafV; rw [e1]; rfl
      rw [e1, e2]; clear e1 e2
      go_enter Try.func10, Try.ntmps10
      go_wp2_with fail
      refine (leaves_any _ _ (by omega) (by omega)).mono ?_
      rintro e w1 ⟨rfl, hb⟩
      go_wp2
      go_ret2
      exact ⟨rfl, ((Below.refl _ _).alloc (Nat.le_refl _) _).trans (hb.mono (by simp))⟩
  · have e1 : leafB d x = false := (leafB_no d x).2 (by omega)
    have e2 : leafV d x = 0 := by unfold leafV; rw [e1]; rfl
    rw [e1, e2]; clear e1 e2
    go_enter Try.func10, Try.ntmps10
    go_wp2
    go_ret2
    exact ⟨rfl, (Below.refl _ _).alloc (Nat.le_refl _) _⟩

/-- the node above, the one beside -/
def upV (d v : Int) : Int := if goodB d v then v / 2 else 0
theorem up_any (d v : Int) (w : World) (h : 1 ≤ d) (h' : d ≤ 24) :
    Calls Try.prog 18 #[.agg #[.int .i64 d], .int .i64 v] w fun e w' => e = .returned (.int .i64 (upV d v)) ∧ Below w.heap.size w w' := by
  cases hg : goodB d v
  · have e2 : upV d v = 0 := by unfold upV; rw [hg]; rfl
    rw [e2]; clear e2
    go_enter Try.func18, Try.ntmps18
    go_wp2_with (go_at_call 16; refine (good_any _ _ _ (by omega) (by omega)).mono ?_; rintro e w' ⟨rfl, hb⟩)
    go_ret
    exact ⟨rfl, ((Below.refl _ _).alloc (Nat.le_refl _) _).trans (hb.mono (by simp))⟩
  · have e2 : upV d v = v / 2 := by unfold upV; rw [hg]; rfl
    have ⟨p1, p2⟩ := pw_bd d h h'
    rw [e2]; clear e2
    have ⟨g1, g2⟩ := (goodB_iff d v).1 hg
    go_enter Try.func18, Try.ntmps18
    go_wp2_with (go_at_call 16; refine (good_any _ _ _ (by omega) (by omega)).mono ?_; rintro e w' ⟨rfl, hb⟩)
    go_ret
    exact ⟨rfl, ((Below.refl _ _).alloc (Nat.le_refl _) _).trans (hb.mono (by simp))⟩

/-- how many bits a number has -/
def lenV (x : Int) : Int := Lib.bitLen x.toNat
theorem lenV_bd (x : Int) (h : x ≤ 4294967295) : 0 ≤ lenV x ∧ lenV x ≤ 32 := by
  have := Lib.bitLen_le x.toNat 32 (by decide) (by omega)
  unfold lenV; omega

theorem len_any (x : Int) (w : World) (h0 : 0 ≤ x) (h1 : x ≤ 4294967295) :
    Calls Try.prog 25 #[.int .u64 x] w fun e w' => e = .returned (.int .i64 (lenV x)) ∧ w = w' := by
  go_enter Try.func25, Try.ntmps25
  go_wp2_with (go_at_call 27; refine (len64_any _ _ (by omega) (by omega)).mono ?_; rintro e w' ⟨rfl, rfl⟩)
  go_ret
  exact ⟨rfl, rfl⟩

/-- how many lie above a node -/
def levV (d v : Int) : Int := if goodB d v then lenV v - 1 else -1
theorem level_any (d v : Int) (w : World) (h : 1 ≤ d) (h' : d ≤ 24) :
    Calls Try.prog 13 #[.agg #[.int .i64 d], .int .i64 v] w fun e w' => e = .returned (.int .i64 (levV d v)) ∧ Below w.heap.size w w' := by
  cases hg : goodB d v
  · have e2 : levV d v = -1 := by unfold levV; rw [hg]; rfl
    rw [e2]; clear e2
    go_enter Try.func13, Try.ntmps13
    go_wp2_with (go_at_call 16; refine (good_any _ _ _ (by omega) (by omega)).mono ?_; rintro e w' ⟨rfl, hb⟩)
    go_ret
    exact ⟨rfl, ((Below.refl _ _).alloc (Nat.le_refl _) _).trans (hb.mono (by simp))⟩
  · have e2 : levV d v = lenV v - 1 := by unfold levV; rw [hg]; rfl
    have ⟨p1, p2⟩ := pw_bd d h h'
    have ⟨g1, g2⟩ := (goodB_iff d v).1 hg
    have ⟨l1, l2⟩ := lenV_bd v (by omega)
    rw [e2]; clear e2
    go_enter Try.func13, Try.ntmps13
    go_wp2_with (first | (go_at_call 16; refine (good_any _ _ _ (by omega) (by omega)).mono ?_; rintro e w' ⟨rfl, hb⟩) | (go_at_call 25; refine (len_any _ _ (by omega) (by omega)).mono ?_; rintro e w' ⟨rfl, rfl⟩))
    go_ret
    exact ⟨rfl, ((Below.refl _ _).alloc (Nat.le_refl _) _).trans (hb.mono (by simp))⟩

def besV (d v : Int) : Int := if goodB d v && !(v == 1) then (if v % 2 = 0 then v + 1 else v - 1) else 0
theorem xor_one (v : Int) (h : 0 ≤ v) (h' : v ≤ 9223372036854775807) : bits .xor .i64 v 1 = if v % 2 = 0 then v + 1 else v - 1 := by
  show IntKind.i64.wrap ((BitVec.ofInt 64 v ^^^ BitVec.ofInt 64 1).toNat : Int) = _
  obtain ⟨n, rfl⟩ := Int.eq_ofNat_of_zero_le h
  have h1 : (BitVec.ofInt 64 (n : Int)).toNat = n := by
    rw [BitVec.ofInt_natCast, BitVec.toNat_ofNat]; exact Nat.mod_eq_of_lt (by omega)
  have h2 : (BitVec.ofInt 64 1).toNat = 1 := by decide
  rw [BitVec.toNat_xor, h1, h2]
  have d : (n ^^^ 1) / 2 ^ 1 = n / 2 ^ 1 ^^^ 1 / 2 ^ 1 := Nat.xor_div_two_pow
  have m : (n ^^^ 1) % 2 ^ 1 = n % 2 ^ 1 ^^^ 1 % 2 ^ 1 := Nat.xor_mod_two_pow
  have e2 : 1 / 2 ^ 1 = 0 := by decide
  have e3 : 1 % 2 ^ 1 = 1 := by decide
  rw [e2, Nat.xor_zero] at d
  rw [e3] at m
  have e4 : (0 : Nat) ^^^ 1 = 1 := by decide
  have e5 : (1 : Nat) ^^^ 1 = 0 := by decide
  simp only [IntKind.wrap, IntKind.bits, IntKind.signed]
  rcases (show n % 2 ^ 1 = 0 ∨ n % 2 ^ 1 = 1 by omega) with hz | hz
  · rw [hz, e4] at m
    rw [if_pos (by omega)]; simp; omega
  · rw [hz, e5] at m
    rw [if_neg (by omega)]; simp; omega

theorem beside_any (d v : Int) (w : World) (h : 1 ≤ d) (h' : d ≤ 24) :
    Calls Try.prog 19 #[.agg #[.int .i64 d], .int .i64 v] w fun e w' => e = .returned (.int .i64 (besV d v)) ∧ Below w.heap.size w w' := by
  cases hg : goodB d v
  · have e2 : besV d v = 0 := by unfold besV; rw [hg]; rfl
    rw [e2]; clear e2
    go_enter Try.func19, Try.ntmps19
    go_wp2_with (go_at_call 16; refine (good_any _ _ _ (by omega) (by omega)).mono ?_; rintro e w' ⟨rfl, hb⟩)
    go_ret
    exact ⟨rfl, ((Below.refl _ _).alloc (Nat.le_refl _) _).trans (hb.mono (by simp))⟩
  · have ⟨p1, p2⟩ := pw_bd d h h'
    have ⟨g1, g2⟩ := (goodB_iff d v).1 hg
    by_cases h1 : v = 1
    · have e2 : besV d v = 0 := by unfold besV; rw [hg, h1]; rfl
      have e3 : (v == 1) = true := beq_iff_eq.2 h1
      rw [e2]; clear e2 h1
      go_enter Try.func19, Try.ntmps19
      go_wp2_with (go_at_call 16; refine (good_any _ _ _ (by omega) (by omega)).mono ?_; rintro e w' ⟨rfl, hb⟩)
      go_ret
      exact ⟨rfl, ((Below.refl _ _).alloc (Nat.le_refl _) _).trans (hb.mono (by simp))⟩
    · have e3 : (v == 1) = false := beq_eq_false_iff_ne.2 h1
      have e2 : besV d v = bits .xor .i64 v 1 := by unfold besV; rw [hg, e3, xor_one v (by omega) (by omega)]; rfl
      rw [e2]; clear e2
      go_enter Try.func19, Try.ntmps19
      go_wp2_with (go_at_call 16; refine (good_any _ _ _ (by omega) (by omega)).mono ?_; rintro e w' ⟨rfl, hb⟩)
      go_ret
      exact ⟨rfl, ((Below.refl _ _).alloc (Nat.le_refl _) _).trans (hb.mono (by simp))⟩

end Go.Proofs.Ytdmihnfhfpadkaa
