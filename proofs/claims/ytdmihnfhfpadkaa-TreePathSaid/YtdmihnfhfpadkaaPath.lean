/-
  Contract of Path of the reference of layer 16: a new slice with the nodes from the first one down to the given one; below the heap's size at the call nothing in memory changes. Conditions: the node lies from 1 to 2^32 - 1.
-/
import Derived.Test.YtdmihnfhfpadkaaRange
import Derived.Laws.AppendOwnNone
import Derived.Lib.SmallJoins
namespace Go.Proofs.Ytdmihnfhfpadkaa
open Go.RowKit Go.Lib

/-- the last j nodes on the way down to v -/
def tailL (v : Int) : Nat → List Int
  | 0 => []
  | j + 1 => v / 2 ^ j :: tailL v j
theorem tailL_length (v : Int) (j : Nat) : (tailL v j).length = j := by
  induction j with
  | zero => rfl
  | succ j ih => simp [tailL, ih]
theorem tailL_get (v : Int) (j i : Nat) (h : i < j) : (tailL v j)[i]? = some (v / 2 ^ (j - 1 - i)) := by
  induction j generalizing i with
  | zero => omega
  | succ j ih =>
    cases i with
    | zero => simp [tailL]
    | succ i =>
      simp only [tailL, List.getElem?_cons_succ]
      rw [ih i (by omega)]
      rw [show j - 1 - i = j + 1 - 1 - (i + 1) from by omega]
theorem half_pow (v : Int) (j : Nat) : v / 2 ^ j / 2 = v / 2 ^ (j + 1) := by
  rw [Int.pow_succ, Int.ediv_ediv_of_nonneg (Int.pow_nonneg (by decide))]
def pathLen (v : Int) : Nat := Lib.bitLen v.toNat
def pathL (v : Int) : List Int := tailL v (pathLen v)

theorem pathLen_step (v : Int) (j : Nat) (h0 : 0 ≤ v) (h1 : v ≤ 4294967295) (h : 1 ≤ v / 2 ^ j) : j < pathLen v := by
  refine Nat.lt_of_not_le fun hle => ?_
  have hb := bitLen_hi v.toNat (by have : (2 : Nat) ^ 64 = 18446744073709551616 := by decide
                                   omega)
  have h2 : 2 ^ pathLen v ≤ 2 ^ j := Nat.pow_le_pow_right (by decide) hle
  have h3 : v.toNat < 2 ^ j := Nat.lt_of_lt_of_le hb h2
  have h4 : v < (2 : Int) ^ j := by
    have e : (2 : Int) ^ j = ((2 ^ j : Nat) : Int) := by simp
    rw [e]; omega
  have := Int.ediv_eq_zero_of_lt h0 h4
  omega
theorem pathLen_end (v : Int) (j : Nat) (h0 : 0 ≤ v) (h : v / 2 ^ j < 1) : pathLen v ≤ j ∨ 64 < j := by
  by_cases hj : j ≤ 64
  · left
    refine Lib.bitLen_le v.toNat j hj ?_
    refine Nat.lt_of_not_le fun hle => ?_
    have e : (2 : Int) ^ j = ((2 ^ j : Nat) : Int) := by simp
    have h1 : (2 : Int) ^ j ≤ v := by rw [e]; omega
    have h2 : 1 ≤ v / 2 ^ j := (Int.le_ediv_iff_mul_le (Int.pow_pos (by decide))).2 (by omega)
    omega
  · right; omega

def PathPost (v : Int) (w : World) (e : Ending) (w' : World) : Prop :=
  ∃ (g cap : Nat), e = .returned (.slice (some ⟨g, 0, none⟩) (pathLen v) cap) ∧ w'.ownsRow w.heap.size 3 1 (.slice (some ⟨g, 0, none⟩) (pathLen v) cap) (pathLen v) ((pathL v).map (Value.int .i64)) ∧ Below w.heap.size w w'

def PathRel (B : Nat) (w0 : World) (v : Int) (x out : Value) (wr : World) : Prop :=
  ∃ j : Nat, j ≤ pathLen v ∧ x = .int .i64 (v / 2 ^ j) ∧ wr.ownsRow B 3 1 out j ((tailL v j).map (Value.int .i64)) ∧ Below B w0 wr ∧ (j = 0 → out = .slice none 0 0)

theorem info3 : (Try.prog.info? 3).map (fun i => (i.zero, i.size, i.bytes)) = some (some (.int .i64 0), 1, 8) := by kernel_rfl

theorem ownsRow_one (w : World) (B : Nat) (x : Value) (h : B ≤ w.heap.size) : (w.alloc (.cells #[x] 3)).ownsRow B 3 1 (.slice (some ⟨w.heap.size, 0, none⟩) 1 1) 1 [x] :=
  ⟨rfl, .inr ⟨w.heap.size, 1, #[x], rfl, h, heap_alloc_new w _, Nat.le_refl _, by decide, rfl, rfl⟩⟩

set_option maxHeartbeats 400000 in
theorem path_any (v : Int) (w : World) (h0 : 1 ≤ v) (h1 : v ≤ 4294967295) :
    Calls Try.prog 20 #[.int .i64 v] w (PathPost v w) := by
  obtain ⟨i0, hi, hz0, hz1, hz2⟩ := info_parts info3
  go_enter Try.func20, Try.ntmps20
  go_wp2
  go_loopw [0, 3] (fun x out wr => PathRel w.heap.size w v x out wr) (fun x _ _ => (RowKit.intOf x).toNat)
  case atStart => exact ⟨0, Nat.zero_le _, by simp, World.ownsRow_nil _ _ _ _, Below.refl _ _, fun _ => rfl⟩
  case round =>
    obtain ⟨j, hj, rfl, hown, hB, hnil⟩ := hrel
    have hs := hB.size
    obtain ⟨x, hx⟩ : ∃ x, x = v / 2 ^ j := ⟨_, rfl⟩
    rw [← hx]
    have HX := Lib.hid hx
    clear hx
    have hone := ownsRow_one wr w.heap.size (.int .i64 x) hs
    have hB1 : Below w.heap.size w (wr.alloc (.cells #[.int .i64 x] 3)) := hB.alloc hs _
    by_cases hlt : 1 ≤ x
    · have hx4 : x ≤ 4294967295 := by
        rw [HX.out]
        have := Int.ediv_le_self (b := 2 ^ j) (show 0 ≤ v by omega)
        omega
      have hlen : j < pathLen v := pathLen_step v j (by omega) h1 (by rw [← HX.out]; exact hlt)
      have hp32 : pathLen v ≤ 32 := Lib.bitLen_le v.toNat 32 (by decide) (by omega)
      have HN := Lib.hid (show x / 2 = v / 2 ^ (j + 1) by rw [HX.out]; exact half_pow v j)
      rcases Nat.eq_zero_or_pos j with hj0 | hj0
      · obtain rfl := hnil hj0
        clear hnil
        go_wp2_with (at_builtin; refine wpList_append_own_none rfl _ _ 38 rfl w.heap.size 3 i0 1 Try.underlying38 hi _ 1 [.int .i64 x] rfl hone rfl ?_)
        go_roundw
        case rel =>
          refine ⟨j + 1, by omega, by rw [HN.out], ?_, hB1, fun h => by omega⟩
          subst hj0
          have ex : x = v := by rw [HX.out]; simp
          simpa [tailL, ex] using hone
        case measure => simp [RowKit.intOf]; omega
      · obtain ⟨g, cap, rfl⟩ := Joins.ownsRow_form hown hj0
        clear hnil
        go_wp2_with (at_builtin; refine wpList_append_own _ rfl _ _ 38 rfl w.heap.size 3 i0 (.int .i64 0) 1 8 Try.underlying38 hi hz0 hz1 hz2 rfl (by decide) _ 1 [.int .i64 x] rfl hone ⟨g, 0, none⟩ j cap ((tailL v j).map (Value.int .i64)) rfl ?c0 ?c1 ?c2 ?c3 ?c4 ?c5 ?_)
        case c0 => simp [tailL_length]
        case c1 => exact (hown.alloc _).cells rfl
        case c2 => intro u hu; obtain ⟨y, _, rfl⟩ := List.mem_map.1 hu; rfl
        case c3 => simp only [maxLen]; omega
        case c4 => omega
        case c5 => simp; omega
        intro v' w1 hown1 hgrow _
        clear hone hown
        have hB2 : Below w.heap.size w w1 := hB1.grown hgrow (by simp; omega) (fun k hk => by simp [Value.ownBlock] at hk; omega)
        go_wp2
        go_roundw
        case rel =>
          refine ⟨j + 1, by omega, by rw [HN.out], ?_, hB2, fun h => by omega⟩
          rw [Nat.add_comm j 1]
          simpa [tailL, ← HX.out, Nat.add_comm] using hown1
        case measure => simp [RowKit.intOf]; omega
    · have hx0 : x < 1 := by omega
      have hfin : pathLen v = j := by
        rcases pathLen_end v j (by omega) (by rw [← HX.out]; exact hx0) with h | h
        · omega
        · have := Lib.bitLen_le v.toNat 32 (by decide) (by omega)
          have e : pathLen v = Lib.bitLen v.toNat := rfl
          omega
      have hpos : 1 ≤ pathLen v := bitLen_pos v.toNat (by omega) (by have : (2 : Nat) ^ 64 = 18446744073709551616 := by decide
                                                                     omega)
      obtain ⟨g, cap, rfl⟩ := Joins.ownsRow_form hown (by omega)
      have Fin := Lib.hid (show PathPost v w (.returned (.slice (some ⟨g, 0, none⟩) j cap)) wr from ⟨g, cap, by rw [hfin], by unfold pathL; rw [hfin]; exact hown, hB⟩)
      clear hfin hown hone hB hB1 hnil hlt
      go_wp2
      go_ret
      exact Fin.out

end Go.Proofs.Ytdmihnfhfpadkaa
