/-
  Contracts of Good, Range, Above and Before of the reference of layer 16; below the heap's size at the call nothing in memory changes. Conditions: the depth lies from 1 to 24; for Range and Before the nodes can be; for Above the second node lies from 1 to 2^32 - 1.
-/
import Derived.Test.YtdmihnfhfpadkaaPath
namespace Go.Proofs.Ytdmihnfhfpadkaa
open Go.RowKit Go.Lib

theorem pw_succ (i : Nat) : pw ((i + 1 : Nat) : Int) = 2 * pw (i : Int) := by
  unfold pw; simp only [Int.toNat_natCast]; rw [Int.pow_succ]; omega
theorem pw_nat (i : Nat) : pw (i : Int) = ((2 ^ i : Nat) : Int) := by unfold pw; simp
theorem pw_zero : pw 0 = 1 := rfl
theorem pw_nn (i : Nat) (h : i ≤ 24) : 1 ≤ pw (i : Int) ∧ pw (i : Int) ≤ 16777216 := by
  rw [pw_nat]
  have h1 : 1 ≤ 2 ^ i := Nat.one_le_two_pow
  have h2 : 2 ^ i ≤ 2 ^ 24 := Nat.pow_le_pow_right (by decide) h
  omega

theorem refgood_any (d v : Int) (w : World) (h : 1 ≤ d) (h' : d ≤ 24) :
    Calls Try.prog 17 #[.int .i64 d, .int .i64 v] w fun e w' => e = .returned (.bool (goodB d v)) ∧ w = w' := by
  obtain ⟨n, rfl⟩ := Int.eq_ofNat_of_zero_le (show 0 ≤ d by omega)
  go_enter Try.func17, Try.ntmps17
  go_wp2
  go_loop [5, 6] (fun s i => ∃ k : Nat, k ≤ n ∧ i = .int .i64 k ∧ s = .int .i64 (2 * pw k)) (fun _ i => n - (RowKit.intOf i).toNat)
  case atStart => exact ⟨0, Nat.zero_le _, rfl, by rw [show ((0 : Nat) : Int) = 0 from rfl, pw_zero]; rfl⟩
  case round =>
    obtain ⟨k, hk, rfl, rfl⟩ := hrel
    have ⟨p1, p2⟩ := pw_nn k (by omega)
    by_cases hlt : k < n
    · have HS := Lib.hid (pw_succ k)
      go_wp2
      go_round
      case rel => exact ⟨k + 1, by omega, by go_num, by rw [HS.out]⟩
      case measure => simp [RowKit.intOf]; omega
    · obtain rfl : k = n := by omega
      by_cases h1 : 1 ≤ v
      · have Fin := Lib.hid (show decide (v < 2 * pw (k : Int)) = goodB k v by unfold goodB; simp [h1])
        go_wp2
        go_ret
        exact ⟨ret_bool Fin.out, rfl⟩
      · have Fin := Lib.hid (show false = goodB k v by unfold goodB; simp [h1])
        go_wp2
        go_ret
        exact ⟨ret_bool Fin.out, rfl⟩

/-- the width and the node on the way after m steps down -/
def sz (n m : Nat) : Int := ((2 ^ (n - m) : Nat) : Int)
def nd (v : Int) (m : Nat) : Int := v / 2 ^ (pathLen v - 1 - m)
theorem sz_half (n m : Nat) (h : m < n) : sz n m = 2 * sz n (m + 1) := by
  unfold sz
  rw [show n - m = (n - (m + 1)) + 1 from by omega, Nat.pow_succ]; omega
theorem nd_step (v : Int) (m : Nat) (h : m + 1 < pathLen v) : nd v m = nd v (m + 1) / 2 := by
  unfold nd
  rw [half_pow, show pathLen v - 1 - (m + 1) + 1 = pathLen v - 1 - m from by omega]
theorem nd_last (v : Int) : nd v (pathLen v - 1) = v := by
  unfold nd
  rw [show pathLen v - 1 - (pathLen v - 1) = 0 from by omega]
  simp
theorem nd_first (v : Int) (h0 : 1 ≤ v) (h1 : v ≤ 4294967295) : nd v 0 = 1 := by
  unfold nd
  have e64 : (2 : Nat) ^ 64 = 18446744073709551616 := by decide
  have b1 := bitLen_lo v.toNat (by omega) (by omega)
  have b2 := bitLen_hi v.toNat (by omega)
  have b3 := bitLen_pos v.toNat (by omega) (by omega)
  have e : (2 : Int) ^ (pathLen v - 1 - 0) = ((2 ^ (Lib.bitLen v.toNat - 1) : Nat) : Int) := by
    show (2 : Int) ^ (Lib.bitLen v.toNat - 1 - 0) = _
    simp
  rw [e]
  rw [show Lib.bitLen v.toNat = (Lib.bitLen v.toNat - 1) + 1 from by omega, Nat.pow_succ] at b2
  generalize 2 ^ (Lib.bitLen v.toNat - 1) = x at *
  have h2 : v / (x : Int) = 1 := by
    have h3 : 1 ≤ v / (x : Int) := (Int.le_ediv_iff_mul_le (by omega)).2 (by omega)
    have h4 : v / (x : Int) < 2 := (Int.ediv_lt_iff_lt_mul (by omega)).2 (by omega)
    omega
  exact h2
theorem pathL_get (v : Int) (m : Nat) (h : m < pathLen v) : ((pathL v).map (Value.int .i64))[m]? = some (.int .i64 (nd v m)) := by
  unfold pathL nd
  rw [List.getElem?_map, tailL_get v _ _ h]; rfl

theorem low_is (d v : Int) (h : 1 ≤ d) (h' : d ≤ 24) (hg : goodB d v = true) : 1 ≤ pathLen v ∧ (pathLen v : Int) ≤ d + 1 ∧ levV d v = (pathLen v : Int) - 1 ∧ widV d v = sz d.toNat (pathLen v - 1) ∧ lowV d v = nd v (pathLen v - 1) * sz d.toNat (pathLen v - 1) - pw d := by
  obtain ⟨k, hk, hkd, k1, k2⟩ := level_is d v h h' hg
  have ⟨g1, g2⟩ := (goodB_iff d v).1 hg
  have ⟨p1, p2⟩ := pw_bd d h h'
  have e64 : (2 : Nat) ^ 64 = 18446744073709551616 := by decide
  have b3 := bitLen_pos v.toNat (by omega) (by omega)
  have e1 : levV d v = (pathLen v : Int) - 1 := by unfold levV; rw [hg]; rfl
  have e2 : k = pathLen v - 1 := by omega
  have e3 : widV d v = sz d.toNat (pathLen v - 1) := by rw [widV_nat hk hkd, e2]; rfl
  refine ⟨b3, by omega, e1, e3, ?_⟩
  rw [lowV_good hg, e3, nd_last v]

theorem sz_last (n : Nat) : sz n 0 = pw n := by unfold sz; rw [pw_nat]; rfl
theorem sz_bd (n m : Nat) (h : n ≤ 24) : 1 ≤ sz n m ∧ sz n m ≤ 16777216 := by
  unfold sz
  have h1 : 1 ≤ 2 ^ (n - m) := Nat.one_le_two_pow
  have h2 : 2 ^ (n - m) ≤ 2 ^ 24 := Nat.pow_le_pow_right (by decide) (by omega)
  omega
/-- the least value of the node on the way after m steps down, and the step -/
def lw (n : Nat) (v : Int) (m : Nat) : Int := nd v m * sz n m - pw n
theorem lw_step (n : Nat) (v : Int) (m : Nat) (hm : m < n) (hL : m + 1 < pathLen v) : lw n v (m + 1) = lw n v m + nd v (m + 1) % 2 * sz n (m + 1) := by
  unfold lw
  rw [sz_half n m hm, nd_step v m hL]
  have e : nd v (m + 1) = nd v (m + 1) / 2 * 2 + nd v (m + 1) % 2 := by omega
  generalize nd v (m + 1) / 2 = q at *
  generalize nd v (m + 1) % 2 = r at *
  rw [e, Int.add_mul, Int.mul_assoc]
  omega

theorem refrange_any (d v : Int) (w : World) (h : 1 ≤ d) (h' : d ≤ 24) (hg : goodB d v = true) :
    Calls Try.prog 12 #[.int .i64 d, .int .i64 v] w fun e w' => e = .returned (.tuple #[.int .i64 (lowV d v), .int .i64 (highV d v)]) ∧ Below w.heap.size w w' := by
  obtain ⟨L1, L2, L3, L4, L5⟩ := low_is d v h h' hg
  have ⟨g1, g2⟩ := (goodB_iff d v).1 hg
  have ⟨p1, p2⟩ := pw_bd d h h'
  have HF := Lib.hid (show nd v 0 = 1 from nd_first v g1 (by omega))
  obtain ⟨n, rfl⟩ := Int.eq_ofNat_of_zero_le (show 0 ≤ d by omega)
  simp only [Int.toNat_natCast] at L4 L5
  have Fin1 := Lib.hid L5
  have Fin2 := Lib.hid (show highV n v = nd v (pathLen v - 1) * sz n (pathLen v - 1) - pw n + sz n (pathLen v - 1) - 1 by rw [highV_good hg, L5, L4])
  clear L4 L5 L3
  go_enter Try.func12, Try.ntmps12
  go_wp2
  go_loop [7, 8] (fun s i => ∃ k : Nat, k ≤ n ∧ i = .int .i64 k ∧ s = .int .i64 (pw k)) (fun _ i => n - (RowKit.intOf i).toNat)
  case atStart => exact ⟨0, Nat.zero_le _, rfl, by rw [show ((0 : Nat) : Int) = 0 from rfl, pw_zero]⟩
  case round =>
    obtain ⟨k, hk, rfl, rfl⟩ := hrel
    have ⟨p3, p4⟩ := pw_nn k (by omega)
    by_cases hlt : k < n
    · have HS := Lib.hid (pw_succ k)
      go_wp2
      go_round
      case rel => exact ⟨k + 1, by omega, by go_num, by rw [HS.out]⟩
      case measure => simp [RowKit.intOf]; omega
    · obtain rfl : k = n := by omega
      go_wp2_with fail
      refine (path_any v _ g1 (by omega)).mono ?_
      rintro e w1 ⟨g, cap, rfl, hown, hB⟩
      have hcell : ∀ m, m < pathLen v → w1.cell? ⟨g, m, none⟩ = some (.int .i64 (nd v m)) := fun m hm => by
        rw [hown.cellAt m (by omega), pathL_get v m hm]
      clear hown
      go_wp2_with fail
      go_loop [6, 7, 10] (fun lo s i => ∃ m : Nat, m + 1 ≤ pathLen v ∧ i = .int .i64 (m + 1 : Nat) ∧ s = .int .i64 (sz k m) ∧ lo = .int .i64 (lw k v m) ∧ 0 ≤ lw k v m ∧ lw k v m + sz k m ≤ pw k) (fun _ _ i => pathLen v - (RowKit.intOf i).toNat)
      case atStart =>
        have e1 := sz_last k
        have e2 : lw k v 0 = 0 := by unfold lw; rw [HF.out, e1]; omega
        exact ⟨0, by omega, rfl, by rw [e1], by rw [e2], by omega, by omega⟩
      case round =>
        obtain ⟨m, hm, rfl, rfl, rfl, q1, q2⟩ := hrel
        have ⟨s1, s2⟩ := sz_bd k m (by omega)
        by_cases hlt2 : m + 1 < pathLen v
        · have hc := hcell (m + 1) hlt2
          clear hcell
          have e1 := sz_half k m (by omega)
          have e2 := lw_step k v m (by omega) hlt2
          have ⟨s3, s4⟩ := sz_bd k (m + 1) (by omega)
          have hn : 0 ≤ nd v (m + 1) := Int.ediv_nonneg (by omega) (Int.pow_nonneg (by decide))
          have HS := Lib.hid (show sz k m / 2 = sz k (m + 1) by omega)
          by_cases hodd : nd v (m + 1) % 2 = 1
          · have ho : (nd v (m + 1) % 2 == 1) = true := beq_iff_eq.2 hodd
            rw [hodd] at e2
            have HL := Lib.hid (show lw k v m + sz k m / 2 = lw k v (m + 1) by omega)
            have q3 : 0 ≤ lw k v (m + 1) := by omega
            have q4 : lw k v (m + 1) + sz k (m + 1) ≤ pw k := by omega
            clear hodd e1 e2
            go_wp2
            go_round
            case rel => exact ⟨m + 1, by omega, by go_num, by rw [HS.out], by rw [HL.out], q3, q4⟩
            case measure => simp [RowKit.intOf]; omega
          · have ho : (nd v (m + 1) % 2 == 1) = false := beq_eq_false_iff_ne.2 hodd
            have e3 : nd v (m + 1) % 2 = 0 := by omega
            rw [e3] at e2
            have HL := Lib.hid (show lw k v m = lw k v (m + 1) by omega)
            have q3 : 0 ≤ lw k v (m + 1) := by omega
            have q4 : lw k v (m + 1) + sz k (m + 1) ≤ pw k := by omega
            clear hodd e1 e2 e3
            go_wp2
            go_round
            case rel => exact ⟨m + 1, by omega, by go_num, by rw [HS.out], by rw [HL.out], q3, q4⟩
            case measure => simp [RowKit.intOf]; omega
        · obtain rfl : m = pathLen v - 1 := by omega
          clear hcell
          go_wp2
          go_ret2
          exact ⟨by rw [Fin1.out, Fin2.out]; rfl, hB⟩

/-- does a node lie on the way down to another one: among the first so many -/
def onWay (v u : Int) : Nat → Bool
  | 0 => false
  | m + 1 => onWay v u m || (nd u m == v)
def inPath (v u : Int) : Bool := onWay v u (pathLen u)
theorem onWay_yes (v u : Int) (m k : Nat) (h : m < k) (e : nd u m = v) : onWay v u k = true := by
  induction k with
  | zero => omega
  | succ k ih =>
    unfold onWay
    rcases Nat.lt_or_ge m k with hlt | hge
    · rw [ih hlt]; rfl
    · obtain rfl : m = k := by omega
      rw [beq_iff_eq.2 e]; simp
theorem onWay_no (v u : Int) (k : Nat) (h : ∀ m, m < k → nd u m ≠ v) : onWay v u k = false := by
  induction k with
  | zero => rfl
  | succ k ih =>
    unfold onWay
    rw [ih fun m hm => h m (by omega), beq_eq_false_iff_ne.2 (h k (by omega))]; rfl

theorem refabove_any (v u : Int) (w : World) (h0 : 1 ≤ u) (h1 : u ≤ 4294967295) :
    Calls Try.prog 22 #[.int .i64 v, .int .i64 u] w fun e w' => e = .returned (.bool (inPath v u)) ∧ Below w.heap.size w w' := by
  go_enter Try.func22, Try.ntmps22
  go_wp2_with fail
  refine (path_any u _ h0 h1).mono ?_
  rintro e w1 ⟨g, cap, rfl, hown, hB⟩
  have hcell : ∀ m, m < pathLen u → w1.cell? ⟨g, m, none⟩ = some (.int .i64 (nd u m)) := fun m hm => by
    rw [hown.cellAt m (by omega), pathL_get u m hm]
  have hp32 : pathLen u ≤ 32 := Lib.bitLen_le u.toNat 32 (by decide) (by omega)
  clear hown
  go_wp2_with fail
  go_loop [10] (fun i => ∃ m : Nat, m ≤ pathLen u ∧ i = .int .i64 m ∧ onWay v u m = false) (fun i => pathLen u - (RowKit.intOf i).toNat)
  case atStart => exact ⟨0, by omega, rfl, rfl⟩
  case round =>
    obtain ⟨m, hm, rfl, hno⟩ := hrel
    have HN := Lib.hid hno
    clear hno
    by_cases hlt : m < pathLen u
    · have hc := hcell m hlt
      clear hcell
      by_cases he : nd u m = v
      · have hb : (nd u m == v) = true := beq_iff_eq.2 he
        have Fin := Lib.hid (onWay_yes v u m (pathLen u) hlt he)
        clear he
        go_wp2
        go_ret
        exact ⟨ret_bool Fin.out.symm, hB⟩
      · have hb : (nd u m == v) = false := beq_eq_false_iff_ne.2 he
        have HS := Lib.hid (show onWay v u (m + 1) = false by unfold onWay; rw [HN.out, hb]; rfl)
        clear he
        go_wp2
        go_round
        case rel => exact ⟨m + 1, by omega, by go_num, HS.out⟩
        case measure => simp [RowKit.intOf]; omega
    · obtain rfl : m = pathLen u := by omega
      clear hcell
      go_wp2
      go_ret
      exact ⟨ret_bool HN.out.symm, hB⟩

/-- told ahead, by the reference -/
def refBeforeB (d v u : Int) : Bool := if highV d v = highV d u then decide (pathLen u < pathLen v) else decide (highV d v < highV d u)
theorem refbefore_any (d v u : Int) (w : World) (h : 1 ≤ d) (h' : d ≤ 24) (hv : goodB d v = true) (hu : goodB d u = true) :
    Calls Try.prog 24 #[.int .i64 d, .int .i64 v, .int .i64 u] w fun e w' => e = .returned (.bool (refBeforeB d v u)) ∧ Below w.heap.size w w' := by
  have ⟨p1, p2⟩ := pw_bd d h h'
  have ⟨g1, g2⟩ := (goodB_iff d v).1 hv
  have ⟨k1, k2⟩ := (goodB_iff d u).1 hu
  by_cases he : highV d v = highV d u
  · have hb : (highV d v != highV d u) = false := by simp [he]
    have Fin := Lib.hid (show decide (pathLen u < pathLen v) = refBeforeB d v u by unfold refBeforeB; rw [if_pos he])
    clear he
    go_enter Try.func24, Try.ntmps24
    go_wp2_with fail
    refine (refrange_any _ _ _ h h' hv).mono ?_
    rintro e w1 ⟨rfl, hb1⟩
    go_wp2_with fail
    refine (refrange_any _ _ _ h h' hu).mono ?_
    rintro e w2 ⟨rfl, hb2⟩
    have hB2 : Below w.heap.size w w2 := hb1.trans (hb2.mono hb1.size)
    have hs2 := hB2.size
    go_wp2_with fail
    refine (path_any v _ g1 (by omega)).mono ?_
    rintro e w3 ⟨g, cap, rfl, hown, hb3⟩
    clear hown
    go_wp2_with fail
    refine (path_any u _ k1 (by omega)).mono ?_
    rintro e w4 ⟨g', cap', rfl, hown, hb4⟩
    clear hown
    have hB4 : Below w.heap.size w w4 := (hB2.trans (hb3.mono hs2)).trans (hb4.mono (by have := hb3.size; omega))
    go_wp2
    go_ret
    exact ⟨ret_bool Fin.out, hB4⟩
  · have hb : (highV d v != highV d u) = true := by simp [he]
    have Fin := Lib.hid (show decide (highV d v < highV d u) = refBeforeB d v u by unfold refBeforeB; rw [if_neg he])
    clear he
    go_enter Try.func24, Try.ntmps24
    go_wp2_with fail
    refine (refrange_any _ _ _ h h' hv).mono ?_
    rintro e w1 ⟨rfl, hb1⟩
    go_wp2_with fail
    refine (refrange_any _ _ _ h h' hu).mono ?_
    rintro e w2 ⟨rfl, hb2⟩
    have hB2 : Below w.heap.size w w2 := hb1.trans (hb2.mono hb1.size)
    go_wp2
    go_ret
    exact ⟨ret_bool Fin.out, hB2⟩

end Go.Proofs.Ytdmihnfhfpadkaa
