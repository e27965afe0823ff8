/-
  What the laws of layer 16 share: the struct variable that holds the tree stays as it was behind every call ('Has'); contract of alive. Conditions: none.
-/
import Derived.Test.YtdmihnfhfpadkaaRefs
namespace Go.Proofs.Ytdmihnfhfpadkaa
open Go.RowKit Go.Lib

/-- block B holds the tree of depth d; below the heap's size at the call's beginning nothing has changed -/
structure Has (w0 : World) (B : Nat) (d : Int) (w : World) : Prop where
  cell : w.cell? ⟨B, 0, none⟩ = some (.int .i64 d)
  below : Below w0.heap.size w0 w
  lt : B < w.heap.size
theorem Has.next {w0 w w' : World} {B : Nat} {d : Int} (h : Has w0 B d w) (hb : Below w.heap.size w w') : Has w0 B d w' :=
  ⟨by rw [hb.cell (p := ⟨B, 0, none⟩) h.lt]; exact h.cell, h.below.trans (hb.mono h.below.size), Nat.lt_of_lt_of_le h.lt hb.size⟩
theorem Has.start {w0 w : World} {d : Int} (hb : Below w0.heap.size w0 w) : Has w0 w.heap.size d (w.alloc (.cells #[.int .i64 d] 24)) :=
  ⟨by simp, hb.alloc hb.size _, by simp⟩
theorem Has.drew {w0 w : World} {B : Nat} {d : Int} (h : Has w0 B d w) : Has w0 B d w.drew := ⟨h.cell, h.below.drew, h.lt⟩
theorem Has.drewN {w0 w : World} {B : Nat} {d : Int} (h : Has w0 B d w) (n : Nat) : Has w0 B d (w.drewN n) := ⟨by simpa using h.cell, below_drewN h.below n, by simpa using h.lt⟩

theorem alive_any (w : World) :
    Calls Try.prog 8 #[] w fun e w' => e = .returned (.bool true) ∧ Below w.heap.size w w' := by
  have e1 : leafV 3 5 = 13 := by decide
  have e2 : leafB 3 5 = true := by decide
  have e3 : upV 3 13 = 6 := by decide
  have e4 : pw 3 = 8 := by decide
  go_enter Try.func8, Try.ntmps8
  go_wp2_with fail
  refine (new_good _ _ (by omega) (by omega)).mono ?_
  rintro e w1 ⟨rfl, hb1⟩
  have H := Has.start (d := 3) hb1
  obtain ⟨B, hB⟩ : ∃ B, B = w1.heap.size := ⟨_, rfl⟩
  go_wp2_with fail
  refine (leaf_any _ _ _ (by omega) (by omega) (by omega)).mono ?_
  rintro e w2 ⟨rfl, hb⟩
  replace H := H.next hb
  have c := H.cell
  clear hb
  go_wp2_with (first
    | (go_at_call 18; refine (up_any _ _ _ (by omega) (by omega)).mono ?_; rintro e w' ⟨rfl, hb⟩; replace H := H.next hb; have c := H.cell; clear hb)
    | (go_at_call 11; refine (leaves_any _ _ (by omega) (by omega)).mono ?_; rintro e w' ⟨rfl, hb⟩; replace H := H.next hb; have c := H.cell; clear hb))
  go_ret
  exact ⟨rfl, H.below⟩

/-- a value's node: deepest of all, that value alone lies below it -/
theorem leaf_node (d x : Int) (h : 1 ≤ d) (h' : d ≤ 24) (hl : leafB d x = true) : goodB d (pw d + x) = true ∧ levV d (pw d + x) = d ∧ widV d (pw d + x) = 1 ∧ lowV d (pw d + x) = x ∧ highV d (pw d + x) = x := by
  have ⟨l1, l2⟩ := (leafB_iff d x).1 hl
  have ⟨p1, p2⟩ := pw_bd d h h'
  have hg : goodB d (pw d + x) = true := (goodB_iff _ _).2 ⟨by omega, by omega⟩
  obtain ⟨k, hk, hkd, k1, k2⟩ := level_is d (pw d + x) h h' hg
  have e : pw d = ((2 ^ d.toNat : Nat) : Int) := by unfold pw; simp
  have hkd2 : d.toNat ≤ k := by
    refine Nat.le_of_not_lt fun hlt => ?_
    have : 2 ^ (k + 1) ≤ 2 ^ d.toNat := Nat.pow_le_pow_right (by decide) hlt
    omega
  have hL : levV d (pw d + x) = d := by omega
  have hW : widV d (pw d + x) = 1 := by rw [widV_nat hk hkd, show d.toNat - k = 0 from by omega]; rfl
  have hlow : lowV d (pw d + x) = x := by rw [lowV_good hg, hW]; omega
  exact ⟨hg, hL, hW, hlow, by rw [highV_good hg, hlow, hW]; omega⟩

theorem Has.one {w0 w : World} {B : Nat} {d : Int} (h : Has w0 B d w) : w.drew.cell? ⟨B, 0, none⟩ = some (.int .i64 d) ∧ Has w0 B d w.drew := ⟨h.drew.cell, h.drew⟩
theorem Has.two {w0 w w' : World} {B : Nat} {d : Int} (h : w.cell? ⟨B, 0, none⟩ = some (.int .i64 d) ∧ Has w0 B d w) (hb : Below w.heap.size w w') : w'.cell? ⟨B, 0, none⟩ = some (.int .i64 d) ∧ Has w0 B d w' := ⟨(h.2.next hb).cell, h.2.next hb⟩

end Go.Proofs.Ytdmihnfhfpadkaa
