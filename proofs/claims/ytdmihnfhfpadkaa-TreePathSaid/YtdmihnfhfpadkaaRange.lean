/-
  Contracts of Range, Above and Before of package tree: what each returns, as plain integers; below the heap's size at the call nothing in memory changes. Conditions: the depth lies from 1 to 24, each number fits its kind.
-/
import Derived.Test.YtdmihnfhfpadkaaFns
namespace Go.Proofs.Ytdmihnfhfpadkaa
open Go.RowKit Go.Lib

theorem bitLen_pos (x : Nat) (h : 1 ≤ x) (h' : x < 2 ^ 64) : 1 ≤ Lib.bitLen x := by
  have := Lib.bitLen_half x (by omega) h'; omega
theorem bitLen_lo (x : Nat) (h : 1 ≤ x) (h' : x < 2 ^ 64) : 2 ^ (Lib.bitLen x - 1) ≤ x := by
  have hp := bitLen_pos x h h'
  have hl := Lib.bitLen_le x 64 (by decide) h'
  refine Nat.le_of_not_lt fun hlt => ?_
  have := Lib.bitLen_le x (Lib.bitLen x - 1) (by omega) hlt
  omega
theorem bitLen_hi (x : Nat) (h' : x < 2 ^ 64) : x < 2 ^ Lib.bitLen x := by
  refine Nat.lt_of_not_le fun hle => ?_
  have h1 := Lib.bitLen_shift (Lib.bitLen x) x hle h'
  have h2 : 1 ≤ x / 2 ^ Lib.bitLen x := (Nat.one_le_div_iff (Nat.two_pow_pos _)).2 hle
  have h3 := bitLen_pos (x / 2 ^ Lib.bitLen x) h2 (Nat.lt_of_le_of_lt (Nat.div_le_self _ _) h')
  omega

/-- the level of a node that can be, as a natural number -/
theorem level_is (d v : Int) (h : 1 ≤ d) (h' : d ≤ 24) (hg : goodB d v = true) : ∃ k : Nat, levV d v = k ∧ (k : Int) ≤ d ∧ 2 ^ k ≤ v.toNat ∧ v.toNat < 2 ^ (k + 1) := by
  have ⟨g1, g2⟩ := (goodB_iff d v).1 hg
  have ⟨p1, p2⟩ := pw_bd d h h'
  have hv : v.toNat < 2 ^ (d.toNat + 1) := by
    have e : pw d = ((2 ^ d.toNat : Nat) : Int) := by unfold pw; simp
    rw [Nat.pow_succ]; omega
  have hb : v.toNat < 2 ^ 64 := by
    have : (2 : Nat) ^ 64 = 18446744073709551616 := by decide
    omega
  have b1 := bitLen_pos v.toNat (by omega) hb
  have b2 := bitLen_lo v.toNat (by omega) hb
  have b3 := bitLen_hi v.toNat hb
  have b4 := Lib.bitLen_le v.toNat (d.toNat + 1) (by omega) hv
  refine ⟨Lib.bitLen v.toNat - 1, ?_, by omega, b2, ?_⟩
  · unfold levV lenV; rw [hg]
    show (Lib.bitLen v.toNat : Int) - 1 = _
    omega
  · rw [show Lib.bitLen v.toNat - 1 + 1 = Lib.bitLen v.toNat from by omega]; exact b3

/-- how many values lie below a node; the least one -/
def widV (d v : Int) : Int := 2 ^ (d - levV d v).toNat
def lowV (d v : Int) : Int := if goodB d v then v * widV d v - pw d else 0
def highV (d v : Int) : Int := if goodB d v then lowV d v + widV d v - 1 else 0

theorem lowV_good {d v : Int} (hg : goodB d v = true) : lowV d v = v * widV d v - pw d := by unfold lowV; rw [hg]; rfl
theorem highV_good {d v : Int} (hg : goodB d v = true) : highV d v = lowV d v + widV d v - 1 := by unfold highV; rw [hg]; rfl
theorem widV_nat {d v : Int} {k : Nat} (hk : levV d v = k) (hkd : (k : Int) ≤ d) : widV d v = ((2 ^ (d.toNat - k) : Nat) : Int) := by
  unfold widV; rw [hk, show (d - (k : Int)).toNat = d.toNat - k from by omega]; simp
theorem range_bd (d v : Int) (h : 1 ≤ d) (h' : d ≤ 24) (hg : goodB d v = true) : 1 ≤ widV d v ∧ widV d v ≤ pw d ∧ 0 ≤ lowV d v ∧ lowV d v + widV d v ≤ pw d := by
  obtain ⟨k, hk, hkd, k1, k2⟩ := level_is d v h h' hg
  have ⟨g1, g2⟩ := (goodB_iff d v).1 hg
  rw [lowV_good hg, widV_nat hk hkd]
  have e : pw d = ((2 ^ d.toNat : Nat) : Int) := by unfold pw; simp
  have e2 : 2 ^ d.toNat = 2 ^ k * 2 ^ (d.toNat - k) := by rw [← Nat.pow_add]; congr 1; omega
  have q1 : 1 ≤ 2 ^ (d.toNat - k) := Nat.one_le_two_pow
  have q2 : 2 ^ (d.toNat - k) ≤ 2 ^ d.toNat := Nat.pow_le_pow_right (by decide) (by omega)
  have q3 : 2 ^ k * 2 ^ (d.toNat - k) ≤ v.toNat * 2 ^ (d.toNat - k) := Nat.mul_le_mul_right _ k1
  have q4 : (v.toNat + 1) * 2 ^ (d.toNat - k) ≤ 2 ^ (k + 1) * 2 ^ (d.toNat - k) := Nat.mul_le_mul_right _ k2
  rw [Nat.add_mul, Nat.pow_succ, Nat.mul_right_comm, ← e2] at q4
  rw [← e2] at q3
  have e3 : v * ((2 ^ (d.toNat - k) : Nat) : Int) = ((v.toNat * 2 ^ (d.toNat - k) : Nat) : Int) := by
    rw [Int.natCast_mul, show ((v.toNat : Nat) : Int) = v from by omega]
  rw [e3, e]
  generalize v.toNat * 2 ^ (d.toNat - k) = x at *
  generalize 2 ^ (d.toNat - k) = y at *
  generalize 2 ^ d.toNat = z at *
  omega

theorem kp1 {w w1 : World} {x : Value} (h1 : w1.cell? ⟨w.heap.size, 0, none⟩ = some x) (h2 : Below w.heap.size w w1) (h3 : w.heap.size < w1.heap.size) :
    w1.drew.cell? ⟨w.heap.size, 0, none⟩ = some x ∧ Below w.heap.size w w1.drew ∧ w.heap.size < w1.drew.heap.size := ⟨h1, h2.drew, h3⟩
theorem kp2 {w W w1 : World} {x : Value} (hb : Below W.heap.size W w1) (h : W.cell? ⟨w.heap.size, 0, none⟩ = some x ∧ Below w.heap.size w W ∧ w.heap.size < W.heap.size) :
    w1.cell? ⟨w.heap.size, 0, none⟩ = some x ∧ Below w.heap.size w w1 ∧ w.heap.size < w1.heap.size :=
  ⟨by rw [hb.cell (p := ⟨w.heap.size, 0, none⟩) h.2.2]; exact h.1, h.2.1.trans (hb.mono (Nat.le_of_lt h.2.2)), Nat.lt_of_lt_of_le h.2.2 hb.size⟩

theorem range_any (d v : Int) (w : World) (h : 1 ≤ d) (h' : d ≤ 24) :
    Calls Try.prog 14 #[.agg #[.int .i64 d], .int .i64 v] w fun e w' => e = .returned (.tuple #[.int .i64 (lowV d v), .int .i64 (highV d v)]) ∧ Below w.heap.size w w' := by
  cases hg : goodB d v
  · have e1 : lowV d v = 0 := by unfold lowV; rw [hg]; rfl
    have e2 : highV d v = 0 := by unfold highV; rw [hg]; rfl
    have e3 : levV d v = -1 := by unfold levV; rw [hg]; rfl
    rw [e1, e2]; clear e1 e2
    go_enter Try.func14, Try.ntmps14
    go_wp2_with (go_at_call 13; refine (level_any _ _ _ (by omega) (by omega)).mono ?_; rintro e w' ⟨rfl, hb⟩)
    go_ret2
    exact ⟨rfl, ((Below.refl _ _).alloc (Nat.le_refl _) _).trans (hb.mono (by simp))⟩
  · obtain ⟨k, hk, hkd, k1, k2⟩ := level_is d v h h' hg
    have ⟨g1, g2⟩ := (goodB_iff d v).1 hg
    have ⟨p1, p2⟩ := pw_bd d h h'
    have L0 : 0 ≤ levV d v := by omega
    have L1 : levV d v ≤ d := by omega
    have HK := Lib.hid hk
    clear hk
    have ⟨b1, b2, b3, b4⟩ := range_bd d v h h' hg
    have f1 : IntKind.i64.wrap (v * 2 ^ (d - levV d v).toNat) = v * widV d v := by
      have e := lowV_good hg
      show IntKind.i64.wrap (v * widV d v) = _
      rw [IntKind.wrap_i64]; omega
    have f2 : IntKind.i64.wrap (v * widV d v - pw d) = lowV d v := by
      have e := lowV_good hg
      rw [IntKind.wrap_i64]; omega
    have f3 : IntKind.i64.wrap (2 ^ (d - levV d v).toNat) = widV d v := by
      show IntKind.i64.wrap (widV d v) = _
      rw [IntKind.wrap_i64]; omega
    have f4 : IntKind.i64.wrap (lowV d v + widV d v) = lowV d v + widV d v := by rw [IntKind.wrap_i64]; omega
    have f5 : IntKind.i64.wrap (lowV d v + widV d v - 1) = lowV d v + widV d v - 1 := by rw [IntKind.wrap_i64]; omega
    have Fin := Lib.hid (highV_good hg)
    go_enter Try.func14, Try.ntmps14
    go_wp2_with fail
    refine (level_any _ _ _ (by omega) (by omega)).mono ?_
    rintro e w1 ⟨rfl, hb⟩
    obtain ⟨hc, hf⟩ := bcell hb
    have hz : w.heap.size < w1.heap.size := by have := hb.size; simp at this; omega
    go_wp2_with fail
    have c0 : w1.cell? ⟨w.heap.size, 0, none⟩ = some (.int .i64 d) := by rw [hc _ _ (by simp)]; simp
    have B1 : Below w.heap.size w w1 := ((Below.refl _ _).alloc (Nat.le_refl _) _).trans (hb.mono (by simp))
    clear hc hf hb
    have C0 := Lib.hid (kp1 c0 B1 hz)
    go_region_held3 (fun w' => w'.cell? ⟨w.heap.size, 0, none⟩ = some (.int .i64 d) ∧ Below w.heap.size w w' ∧ w.heap.size < w'.heap.size) (first | exact C0.out | exact kp2 (by assumption) C0.out | exact kp2 (by assumption) (by assumption))
      (first
        | (go_at_call 11; refine (leaves_any _ _ (by omega) (by omega)).mono ?_; rintro e w' ⟨rfl, hb⟩))
    have hS : w'.cell? ⟨w.heap.size, 0, none⟩ = some (.int .i64 d) ∧ Below w.heap.size w w' ∧ w.heap.size < w'.heap.size := by assumption
    go_wp2
    go_quiet (fail)
    go_wp2
    go_ret2
    exact ⟨by rw [Fin.out]; rfl, below_drewN hS.2.1 _⟩

/-- whether one node lies above another one, or is it -/
def aboveB (d v u : Int) : Bool := goodB d v && goodB d u && decide (levV d v ≤ levV d u) && (u / 2 ^ (levV d u - levV d v).toNat == v)
theorem levV_bd (d v : Int) (h : 1 ≤ d) (h' : d ≤ 24) : -1 ≤ levV d v ∧ levV d v ≤ d := by
  cases hg : goodB d v
  · have : levV d v = -1 := by unfold levV; rw [hg]; rfl
    omega
  · obtain ⟨k, hk, hkd, _, _⟩ := level_is d v h h' hg
    omega

theorem above_any (d v u : Int) (w : World) (h : 1 ≤ d) (h' : d ≤ 24) :
    Calls Try.prog 21 #[.agg #[.int .i64 d], .int .i64 v, .int .i64 u] w fun e w' => e = .returned (.bool (aboveB d v u)) ∧ Below w.heap.size w w' := by
  have ⟨v1, v2⟩ := levV_bd d v h h'
  have ⟨u1, u2⟩ := levV_bd d u h h'
  have C0 : Hid (((w.alloc (.cells #[.int .i64 d] 24)).drew).cell? ⟨w.heap.size, 0, none⟩ = some (.int .i64 d) ∧ Below w.heap.size w (w.alloc (.cells #[.int .i64 d] 24)).drew ∧ w.heap.size < ((w.alloc (.cells #[.int .i64 d] 24)).drew).heap.size) :=
    kp1 (by simp) ((Below.refl _ _).alloc (Nat.le_refl _) _) (by simp)
  have fw : IntKind.i64.wrap (levV d u - levV d v) = levV d u - levV d v := by rw [IntKind.wrap_i64]; omega
  cases hg : goodB d v
  · have Fin := Lib.hid (show false = aboveB d v u by unfold aboveB; rw [hg]; rfl)
    go_enter Try.func21, Try.ntmps21
    go_wp2_with fail
    go_region_held3 (fun w' => w'.cell? ⟨w.heap.size, 0, none⟩ = some (.int .i64 d) ∧ Below w.heap.size w w' ∧ w.heap.size < w'.heap.size) (first | exact C0.out | exact kp2 (by assumption) C0.out | exact kp2 (by assumption) (by assumption))
      (first
        | (go_at_call 13; refine (level_any _ _ _ (by omega) (by omega)).mono ?_; rintro e w' ⟨rfl, hb⟩))
    obtain ⟨hS1, hS2, hS3⟩ : w'.cell? ⟨w.heap.size, 0, none⟩ = some (.int .i64 d) ∧ Below w.heap.size w w' ∧ w.heap.size < w'.heap.size := by assumption
    go_wp2_with (go_at_call 16; refine (good_any _ _ _ (by omega) (by omega)).mono ?_; rintro e w2 ⟨rfl, hb2⟩)
    go_ret
    exact ⟨ret_bool Fin.out, hS2.trans (hb2.mono (by omega))⟩
  · cases hu : goodB d u
    · have Fin := Lib.hid (show false = aboveB d v u by unfold aboveB; rw [hg, hu]; rfl)
      go_enter Try.func21, Try.ntmps21
      go_wp2_with fail
      go_region_held3 (fun w' => w'.cell? ⟨w.heap.size, 0, none⟩ = some (.int .i64 d) ∧ Below w.heap.size w w' ∧ w.heap.size < w'.heap.size) (first | exact C0.out | exact kp2 (by assumption) C0.out | exact kp2 (by assumption) (by assumption))
        (first
          | (go_at_call 13; refine (level_any _ _ _ (by omega) (by omega)).mono ?_; rintro e w' ⟨rfl, hb⟩))
      obtain ⟨hS1, hS2, hS3⟩ : w'.cell? ⟨w.heap.size, 0, none⟩ = some (.int .i64 d) ∧ Below w.heap.size w w' ∧ w.heap.size < w'.heap.size := by assumption
      go_wp2_with fail
      refine (good_any _ _ _ (by omega) (by omega)).mono ?_
      rintro e w2 ⟨rfl, hb2⟩
      obtain ⟨hc2, hf2⟩ := bcell hb2
      go_wp2_with fail
      refine (good_any _ _ _ (by omega) (by omega)).mono ?_
      rintro e w3 ⟨rfl, hb3⟩
      have hz := hb2.size
      go_wp2
      go_ret
      exact ⟨ret_bool Fin.out, (hS2.trans (hb2.mono (by omega))).trans (hb3.mono (by omega))⟩
    · by_cases hd : levV d v ≤ levV d u
      · have Fin := Lib.hid (show (u / 2 ^ (levV d u - levV d v).toNat == v) = aboveB d v u by unfold aboveB; rw [hg, hu, decide_eq_true hd]; rfl)
        have hd' : 0 ≤ levV d u - levV d v := by omega
        have ⟨g1, g2⟩ := (goodB_iff d u).1 hu
        have ⟨p1, p2⟩ := pw_bd d h h'
        go_enter Try.func21, Try.ntmps21
        go_wp2_with fail
        go_region_held3 (fun w' => w'.cell? ⟨w.heap.size, 0, none⟩ = some (.int .i64 d) ∧ Below w.heap.size w w' ∧ w.heap.size < w'.heap.size) (first | exact C0.out | exact kp2 (by assumption) C0.out | exact kp2 (by assumption) (by assumption))
          (first
            | (go_at_call 13; refine (level_any _ _ _ (by omega) (by omega)).mono ?_; rintro e w' ⟨rfl, hb⟩))
        obtain ⟨hS1, hS2, hS3⟩ : w'.cell? ⟨w.heap.size, 0, none⟩ = some (.int .i64 d) ∧ Below w.heap.size w w' ∧ w.heap.size < w'.heap.size := by assumption
        go_wp2_with fail
        refine (good_any _ _ _ (by omega) (by omega)).mono ?_
        rintro e w2 ⟨rfl, hb2⟩
        obtain ⟨hc2, hf2⟩ := bcell hb2
        go_wp2_with fail
        refine (good_any _ _ _ (by omega) (by omega)).mono ?_
        rintro e w3 ⟨rfl, hb3⟩
        have hz := hb2.size
        go_wp2
        go_ret
        exact ⟨ret_bool Fin.out, (hS2.trans (hb2.mono (by omega))).trans (hb3.mono (by omega))⟩
      · have Fin := Lib.hid (show false = aboveB d v u by unfold aboveB; rw [hg, hu, decide_eq_false hd]; rfl)
        have hd' : levV d u - levV d v < 0 := by omega
        go_enter Try.func21, Try.ntmps21
        go_wp2_with fail
        go_region_held3 (fun w' => w'.cell? ⟨w.heap.size, 0, none⟩ = some (.int .i64 d) ∧ Below w.heap.size w w' ∧ w.heap.size < w'.heap.size) (first | exact C0.out | exact kp2 (by assumption) C0.out | exact kp2 (by assumption) (by assumption))
          (first
            | (go_at_call 13; refine (level_any _ _ _ (by omega) (by omega)).mono ?_; rintro e w' ⟨rfl, hb⟩))
        obtain ⟨hS1, hS2, hS3⟩ : w'.cell? ⟨w.heap.size, 0, none⟩ = some (.int .i64 d) ∧ Below w.heap.size w w' ∧ w.heap.size < w'.heap.size := by assumption
        go_wp2_with fail
        refine (good_any _ _ _ (by omega) (by omega)).mono ?_
        rintro e w2 ⟨rfl, hb2⟩
        obtain ⟨hc2, hf2⟩ := bcell hb2
        go_wp2_with fail
        refine (good_any _ _ _ (by omega) (by omega)).mono ?_
        rintro e w3 ⟨rfl, hb3⟩
        have hz := hb2.size
        go_wp2
        go_ret
        exact ⟨ret_bool Fin.out, (hS2.trans (hb2.mono (by omega))).trans (hb3.mono (by omega))⟩

/-- whether one node is told ahead of another one -/
def beforeB (d v u : Int) : Bool := decide (highV d v < highV d u) || (highV d v == highV d u && decide (u < v))
theorem before_any (d v u : Int) (w : World) (h : 1 ≤ d) (h' : d ≤ 24) :
    Calls Try.prog 23 #[.agg #[.int .i64 d], .int .i64 v, .int .i64 u] w fun e w' => e = .returned (.bool (beforeB d v u)) ∧ Below w.heap.size w w' := by
  go_enter Try.func23, Try.ntmps23
  go_wp2_with fail
  refine (range_any _ _ _ (by omega) (by omega)).mono ?_
  rintro e w1 ⟨rfl, hb1⟩
  obtain ⟨hc1, hf1⟩ := bcell hb1
  go_wp2_with fail
  refine (range_any _ _ _ (by omega) (by omega)).mono ?_
  rintro e w2 ⟨rfl, hb2⟩
  have hB : Below w.heap.size w w2 := (((Below.refl _ _).alloc (Nat.le_refl _) _).trans (hb1.mono (by simp))).trans (hb2.mono (by have := hb1.size; simp at this; omega))
  go_wp2
  all_goals
    go_ret
    exact ⟨ret_bool (by unfold beforeB; simp [*]), hB⟩

end Go.Proofs.Ytdmihnfhfpadkaa
