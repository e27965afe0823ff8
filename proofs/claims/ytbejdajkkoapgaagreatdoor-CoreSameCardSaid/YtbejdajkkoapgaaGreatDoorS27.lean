/-
  Several texts in one: Lv, Hw. What each proves, and on which conditions, stands at its head. Conditions: stated in each.
-/
import Derived.Test.YtbejdajkkoapgaaGreatDoorS23
import Derived.Test.YtbejdajkkoapgaaGreatDoorS26
import Derived.Test.YtbejdajkkoapgaaGreatDoorS21
import Derived.Test.YtbejdajkkoapgaaGreatDoorS14
/-
  A log sketch behind values; contracts of logsk.Put, Join, logCore.join behind values. Conditions: few values, in their range.
-/
set_option linter.unusedVariables false
set_option linter.unusedSimpArgs false
set_option maxRecDepth 100000
namespace Go.Proofs.YtbejdajkkoapgaaGreatDoor
open Go.RowKit Go.Lib

/-- where a value below nought counts, where one above it does -/
def lf0 (num den n : Nat) (x : Int) : Option Nat := if x < 0 then some (cix num den n (Sg.mag x).toNat) else none
def lf1 (num den n : Nat) (x : Int) : Option Nat := if 0 < x then some (cix num den n (Sg.mag x).toNat) else none
theorem lf_split (num den n : Nat) (l : Vals) : someOf (lf0 num den n) l + someOf hfz l + someOf (lf1 num den n) l = allL l := by
  induction l with
  | nil => rfl
  | cons x l ih =>
    simp only [someOf, allL]
    rcases Int.lt_trichotomy x.1 0 with h | h | h
    · have e0 : lf0 num den n x.1 = some (cix num den n (Sg.mag x.1).toNat) := by unfold lf0; rw [if_pos h]
      have e1 : hfz x.1 = none := by unfold hfz; rw [if_neg (by omega)]
      have e2 : lf1 num den n x.1 = none := by unfold lf1; rw [if_neg (by omega)]
      rw [e0, e1, e2]; simp; omega
    · have e0 : lf0 num den n x.1 = none := by unfold lf0; rw [if_neg (by omega)]
      have e1 : hfz x.1 = some 0 := by unfold hfz; rw [if_pos h]
      have e2 : lf1 num den n x.1 = none := by unfold lf1; rw [if_neg (by omega)]
      rw [e0, e1, e2]; simp; omega
    · have e0 : lf0 num den n x.1 = none := by unfold lf0; rw [if_neg (by omega)]
      have e1 : hfz x.1 = none := by unfold hfz; rw [if_neg (by omega)]
      have e2 : lf1 num den n x.1 = some (cix num den n (Sg.mag x.1).toNat) := by unfold lf1; rw [if_pos h]
      rw [e0, e1, e2]; simp; omega
theorem lf0_low {num den n : Nat} (hc : CTab num den n) {x : Int} {i : Nat} (h : lf0 num den n x = some i) : i < 4096 := by
  unfold lf0 at h
  split at h
  · injection h with h
    have := Sg.mag_or x
    rw [← h]; exact Nat.lt_of_lt_of_le (cix_lt hc.pos (by omega)) hc.1
  · cases h
theorem lf1_low {num den n : Nat} (hc : CTab num den n) {x : Int} {i : Nat} (h : lf1 num den n x = some i) : i < 4096 := by
  unfold lf1 at h
  split at h
  · injection h with h
    have := Sg.mag_or x
    rw [← h]; exact Nat.lt_of_lt_of_le (cix_lt hc.pos (by omega)) hc.1
  · cases h
/-- a kept row of values -/
def kRow (hi : Bool) (M : Nat) (f : Int → Option Nat) (vals : Vals) : Row := capK hi M (rowOf f vals)
theorem kRow_len {hi : Bool} {M : Nat} (hM : 1 ≤ M) (f : Int → Option Nat) {vals : Vals} (h : InP vals) : (kRow hi M f vals).length ≤ M := len_capK hM (rising_of f vals) (full_of f vals fun x hx => (h x hx).2.1)
theorem kRow_snoc {hi : Bool} {M : Nat} (hM : 1 ≤ M) (f : Int → Option Nat) {vals : Vals} (h : InP vals) {x : Int × Nat} (hx : 1 ≤ x.2) {i : Nat} (e : f x.1 = some i) : putK hi M (kRow hi M f vals) i x.2 = kRow hi M f (vals ++ [x]) := by
  unfold kRow
  rw [put_cap hM (rising_of f vals) (full_of f vals fun x hx => (h x hx).2.1) i x.2 hx, rowOf_snoc]
  unfold putRow
  rw [e]
theorem kRow_same {hi : Bool} {M : Nat} (f : Int → Option Nat) (vals : Vals) {x : Int × Nat} (e : f x.1 = none) : kRow hi M f (vals ++ [x]) = kRow hi M f vals := by
  unfold kRow
  rw [rowOf_snoc]
  unfold putRow
  rw [e]
theorem kRow_join {hi : Bool} {M : Nat} (hM : 1 ≤ M) (f : Int → Option Nat) {a b : Vals} (ha : InP a) (hb : InP b) : joinK hi M (kRow hi M f a) (kRow hi M f b) = kRow hi M f (a ++ b) := by
  unfold kRow
  rw [rowOf_append f a b (fun x hx => (ha x hx).2.1) (fun x hx => (hb x hx).2.1)]
  exact join_both hM (rising_of f a) (full_of f a fun x hx => (ha x hx).2.1) (rising_of f b) (full_of f b fun x hx => (hb x hx).2.1)
theorem kRow_take {hi : Bool} {M : Nat} (hM : 1 ≤ M) (f : Int → Option Nat) {a b : Vals} (ha : InP a) (hb : InP b) (q : Nat) : (joinK hi M (kRow hi M f a) ((kRow hi M f b).take q)).length ≤ M :=
  joinK_take hM (rising_of f a) (full_of f a fun x hx => (ha x hx).2.1) (full_capK (full_of f b fun x hx => (hb x hx).2.1)) q
theorem someOf_snoc_some {f : Int → Option Nat} {vals : Vals} {x : Int × Nat} {i : Nat} (e : f x.1 = some i) : someOf f (vals ++ [x]) = someOf f vals + x.2 := by rw [someOf_snoc, e]; rfl
theorem someOf_snoc_none {f : Int → Option Nat} {vals : Vals} {x : Int × Nat} (e : f x.1 = none) : someOf f (vals ++ [x]) = someOf f vals := by rw [someOf_snoc, e]; rfl

/-- a log sketch behind values, and the blocks that are its own -/
def LgV (hi : Bool) (M num den : Nat) (vals : Vals) (W : World) (db : Nat) (O : Nat → Prop) : Prop :=
  ∃ n bb tb vl vr ca cc Oa Oc, CTab num den n ∧ LogO hi M num den n W db bb tb vl vr ca cc Oa Oc (kRow hi M (lf0 num den n) vals) (kRow hi M (lf1 num den n) vals) (someOf (lf0 num den n) vals) (someOf (lf1 num den n) vals) (someOf hfz vals) (loOf vals) (hiOf vals) ∧ O = OwnL db bb tb vl vr Oa Oc
/-- which values a log sketch takes -/
def LgP (x : Int × Nat) : Bool := decide (1 ≤ x.2)
theorem coreQ_log (hi : Bool) (M num den : Nat) : CoreQ (LgV hi M num den) where
  next := fun h b => by
    obtain ⟨n, bb, tb, vl, vr, ca, cc, Oa, Oc, h1, h2, h3⟩ := h
    exact ⟨n, bb, tb, vl, vr, ca, cc, Oa, Oc, h1, h2.next b, h3⟩
  away := fun h ha hn => by
    obtain ⟨n, bb, tb, vl, vr, ca, cc, Oa, Oc, h1, h2, rfl⟩ := h
    exact ⟨n, bb, tb, vl, vr, ca, cc, Oa, Oc, h1, h2.away ha hn, rfl⟩
  lt := fun h => by
    obtain ⟨n, bb, tb, vl, vr, ca, cc, Oa, Oc, h1, h2, rfl⟩ := h
    exact h2.lt
  ty := fun h k hk cs => by
    obtain ⟨n, bb, tb, vl, vr, ca, cc, Oa, Oc, h1, h2, rfl⟩ := h
    obtain ⟨cs2, t, k1, k2⟩ := h2.ty k hk
    have key : ∀ T, (T = 59 ∨ T = 34 ∨ T = 76) → ¬ Blk _ k cs T := fun T hT hb => by
      refine (k1.ne hb ?_) rfl
      rcases k2 with e | e | e | e | e | e | e <;> subst e <;> rcases hT with rfl | rfl | rfl <;> cases hi <;> decide
    exact ⟨key 59 (.inl rfl), key 34 (.inr (.inl rfl)), key 76 (.inr (.inr rfl))⟩

section
variable {M num den n n2 : Nat} {w : World} {lg bb tb : Nat} {vl vr : Value} {ca cc : Nat} {Oa Oc : Nat → Prop} {k0 k1 : Row} {T0 T1 z : Nat} {lo hh : Int}
theorem lput_any {hi : Bool} (h : LogO hi M num den n w lg bb tb vl vr ca cc Oa Oc k0 k1 T0 T1 z lo hh) (hT : T0 + z + T1 ≤ 9223372036854775807) (x : Int) (c : Nat) (a0 a1 : Row) (A0 A1 y : Nat)
    (ha : ∀ W, BinO hi M num den n W bb tb vl vr ca cc Oa Oc k0 k1 T0 T1 z → Calls Tryz.prog 213 #[.pointer (some ⟨bb, 0, none⟩), .int .i64 x, .int .u64 (c : Int)] W fun e w' => e = .returned (.int .i64 0) ∧ BinR hi M num den n W bb tb vl vr ca cc Oa Oc a0 a1 A0 A1 y w') :
    Calls Tryz.prog 209 #[.pointer (some ⟨lg, 0, none⟩), .int .i64 x, .int .u64 (c : Int)] w fun e w' => e = .returned (.int .i64 0) ∧ ∃ Pa Pc, LogO hi M num den n w' lg bb tb vl vr ca cc Pa Pc a0 a1 A0 A1 y (loF (T0 + z + T1) lo x) (hiF (T0 + z + T1) hh x) ∧ SubO w (OwnL lg bb tb vl vr Oa Oc) (OwnL lg bb tb vl vr Pa Pc) ∧ Away (OwnL lg bb tb vl vr Oa Oc) w w' := by
  cases hi
  · exact lput_L w lg bb tb vl vr ca cc Oa Oc k0 k1 T0 T1 z lo hh h hT x c a0 a1 A0 A1 y ha
  · exact lput_H w lg bb tb vl vr ca cc Oa Oc k0 k1 T0 T1 z lo hh h hT x c a0 a1 A0 A1 y ha
theorem lput_none_any {hi : Bool} (h : LogO hi M num den n w lg bb tb vl vr ca cc Oa Oc k0 k1 T0 T1 z lo hh) (hT : T0 + z + T1 ≤ 9223372036854775807) (x : Int) :
    Calls Tryz.prog 209 #[.pointer (some ⟨lg, 0, none⟩), .int .i64 x, .int .u64 0] w fun e w' => e = .returned (.int .i64 1) ∧ LogO hi M num den n w' lg bb tb vl vr ca cc Oa Oc k0 k1 T0 T1 z lo hh ∧ Away (fun k => k = lg) w w' := by
  cases hi
  · exact lput_none_L w lg bb tb vl vr ca cc Oa Oc k0 k1 T0 T1 z lo hh h hT x
  · exact lput_none_H w lg bb tb vl vr ca cc Oa Oc k0 k1 T0 T1 z lo hh h hT x
theorem badd_neg_any {hi : Bool} (hM1 : 1 ≤ M) (hM2 : M ≤ 4096) (hn : 1 ≤ n) (hn2 : n ≤ 4096) (h : BinO hi M num den n w bb tb vl vr ca cc Oa Oc k0 k1 T0 T1 z) (x : Int) (hx : I64 x) (hx0 : x < 0) (c : Nat) (hc : 1 ≤ c) (hT : T0 + z + T1 + c ≤ 9223372036854775807) (hlen : (putK hi M k0 (cix num den n (Sg.mag x).toNat) c).length ≤ M) (hkl : k0.length ≤ M) :
    Calls Tryz.prog 213 #[.pointer (some ⟨bb, 0, none⟩), .int .i64 x, .int .u64 (c : Int)] w fun e w' => e = .returned (.int .i64 0) ∧ BinR hi M num den n w bb tb vl vr ca cc Oa Oc (putK hi M k0 (cix num den n (Sg.mag x).toNat) c) k1 (T0 + c) T1 z w' := by
  cases hi
  · exact badd_neg_L hM1 hM2 hn hn2 w bb tb vl vr ca cc Oa Oc k0 k1 T0 T1 z h x hx hx0 c hc hT hlen hkl
  · exact badd_neg_H hM1 hM2 hn hn2 w bb tb vl vr ca cc Oa Oc k0 k1 T0 T1 z h x hx hx0 c hc hT hlen hkl
theorem badd_pos_any {hi : Bool} (hM1 : 1 ≤ M) (hM2 : M ≤ 4096) (hn : 1 ≤ n) (hn2 : n ≤ 4096) (h : BinO hi M num den n w bb tb vl vr ca cc Oa Oc k0 k1 T0 T1 z) (x : Int) (hx : I64 x) (hx0 : 0 < x) (c : Nat) (hc : 1 ≤ c) (hT : T0 + z + T1 + c ≤ 9223372036854775807) (hlen : (putK hi M k1 (cix num den n (Sg.mag x).toNat) c).length ≤ M) (hkl : k1.length ≤ M) :
    Calls Tryz.prog 213 #[.pointer (some ⟨bb, 0, none⟩), .int .i64 x, .int .u64 (c : Int)] w fun e w' => e = .returned (.int .i64 0) ∧ BinR hi M num den n w bb tb vl vr ca cc Oa Oc k0 (putK hi M k1 (cix num den n (Sg.mag x).toNat) c) T0 (T1 + c) z w' := by
  cases hi
  · exact badd_pos_L hM1 hM2 hn hn2 w bb tb vl vr ca cc Oa Oc k0 k1 T0 T1 z h x hx hx0 c hc hT hlen hkl
  · exact badd_pos_H hM1 hM2 hn hn2 w bb tb vl vr ca cc Oa Oc k0 k1 T0 T1 z h x hx hx0 c hc hT hlen hkl
theorem badd_zero_any {hi : Bool} (hM1 : 1 ≤ M) (hM2 : M ≤ 4096) (hn : 1 ≤ n) (hn2 : n ≤ 4096) (h : BinO hi M num den n w bb tb vl vr ca cc Oa Oc k0 k1 T0 T1 z) (x : Int) (hx : I64 x) (hx0 : x = 0) (c : Nat) (hc : 1 ≤ c) (hT : T0 + z + T1 + c ≤ 9223372036854775807) :
    Calls Tryz.prog 213 #[.pointer (some ⟨bb, 0, none⟩), .int .i64 x, .int .u64 (c : Int)] w fun e w' => e = .returned (.int .i64 0) ∧ BinR hi M num den n w bb tb vl vr ca cc Oa Oc k0 k1 T0 T1 (z + c) w' := by
  cases hi
  · exact badd_zero_L hM1 hM2 hn hn2 w bb tb vl vr ca cc Oa Oc k0 k1 T0 T1 z h x hx hx0 c hc hT
  · exact badd_zero_H hM1 hM2 hn hn2 w bb tb vl vr ca cc Oa Oc k0 k1 T0 T1 z h x hx hx0 c hc hT
end

theorem log_put (hi : Bool) (M num den : Nat) (hM1 : 1 ≤ M) (hM2 : M ≤ 4096) (w : World) (vals : Vals) (db : Nat) (O : Nat → Prop) (h : LgV hi M num den vals w db O) (hv : InP vals) (hlen : vals.length < 360) (x : Int × Nat) (hx : I64 x.1) (hc : x.2 ≤ 20) :
    Calls Tryz.prog 209 #[.pointer (some ⟨db, 0, none⟩), .int .i64 x.1, .int .u64 (x.2 : Nat)] w (PutC (LgV hi M num den) LgP w db O vals x) := by
  obtain ⟨n, bb, tb, vl, vr, ca, cc, Oa, Oc, ht, hd, rfl⟩ := h
  have hT := lf_split num den n vals
  have hle := hv.le
  have hlo := loF_vals hv x
  have hhi := hiF_vals hv x
  have hn1 := ht.pos
  have hn2 := ht.1
  have l0 := kRow_len (hi := hi) hM1 (lf0 num den n) hv
  have l1 := kRow_len (hi := hi) hM1 (lf1 num den n) hv
  by_cases hc0 : x.2 = 0
  · refine (by rw [hc0]; exact lput_none_any hd (by omega) x.1 : Calls Tryz.prog 209 #[.pointer (some ⟨db, 0, none⟩), .int .i64 x.1, .int .u64 (x.2 : Nat)] w _).mono ?_
    rintro e w' ⟨rfl, hd', ha⟩
    have hp : LgP x = false := by unfold LgP; simp [hc0]
    exact ⟨1, _, rfl, by rw [hp]; simp, by rw [hp]; exact ⟨n, bb, tb, vl, vr, ca, cc, Oa, Oc, ht, hd', rfl⟩, fun _ h => .inl h, ha.mono fun k _ e => .inl e⟩
  have hc1 : 1 ≤ x.2 := by omega
  have hp : LgP x = true := by unfold LgP; simp; omega
  have hv' : InP (vals ++ [x]) := hv.snoc ⟨hx, hc1, hc⟩
  rcases Int.lt_trichotomy x.1 0 with h1 | h1 | h1
  · have e0 : lf0 num den n x.1 = some (cix num den n (Sg.mag x.1).toNat) := by unfold lf0; rw [if_pos h1]
    have e1 : hfz x.1 = none := by unfold hfz; rw [if_neg (by omega)]
    have e2 : lf1 num den n x.1 = none := by unfold lf1; rw [if_neg (by omega)]
    have hk := kRow_snoc (hi := hi) hM1 (lf0 num den n) hv hc1 e0
    have hk2 := kRow_len (hi := hi) hM1 (lf0 num den n) hv'
    rw [← hk] at hk2
    refine (lput_any hd (by omega) x.1 x.2 _ _ _ _ _ fun W k => badd_neg_any hM1 hM2 hn1 hn2 k x.1 hx h1 x.2 hc1 (by omega) hk2 l0).mono ?_
    rintro e w' ⟨rfl, Pa, Pc, hd', hs, ha⟩
    refine ⟨0, _, rfl, by rw [hp]; simp, ?_, hs, ha⟩
    rw [hp, if_pos rfl]
    refine ⟨n, bb, tb, vl, vr, ca, cc, Pa, Pc, ht, ?_, rfl⟩
    rw [hT, hlo, hhi] at hd'
    rw [← hk, kRow_same _ _ e2, someOf_snoc_some e0, someOf_snoc_none e2, someOf_snoc_none e1]
    exact hd'
  · have e0 : lf0 num den n x.1 = none := by unfold lf0; rw [if_neg (by omega)]
    have e1 : hfz x.1 = some 0 := by unfold hfz; rw [if_pos h1]
    have e2 : lf1 num den n x.1 = none := by unfold lf1; rw [if_neg (by omega)]
    refine (lput_any hd (by omega) x.1 x.2 _ _ _ _ _ fun W k => badd_zero_any hM1 hM2 hn1 hn2 k x.1 hx h1 x.2 hc1 (by omega)).mono ?_
    rintro e w' ⟨rfl, Pa, Pc, hd', hs, ha⟩
    refine ⟨0, _, rfl, by rw [hp]; simp, ?_, hs, ha⟩
    rw [hp, if_pos rfl]
    refine ⟨n, bb, tb, vl, vr, ca, cc, Pa, Pc, ht, ?_, rfl⟩
    rw [hT, hlo, hhi] at hd'
    rw [kRow_same _ _ e0, kRow_same _ _ e2, someOf_snoc_none e0, someOf_snoc_none e2, someOf_snoc_some e1]
    exact hd'
  · have e0 : lf0 num den n x.1 = none := by unfold lf0; rw [if_neg (by omega)]
    have e1 : hfz x.1 = none := by unfold hfz; rw [if_neg (by omega)]
    have e2 : lf1 num den n x.1 = some (cix num den n (Sg.mag x.1).toNat) := by unfold lf1; rw [if_pos h1]
    have hk := kRow_snoc (hi := hi) hM1 (lf1 num den n) hv hc1 e2
    have hk2 := kRow_len (hi := hi) hM1 (lf1 num den n) hv'
    rw [← hk] at hk2
    refine (lput_any hd (by omega) x.1 x.2 _ _ _ _ _ fun W k => badd_pos_any hM1 hM2 hn1 hn2 k x.1 hx h1 x.2 hc1 (by omega) hk2 l1).mono ?_
    rintro e w' ⟨rfl, Pa, Pc, hd', hs, ha⟩
    refine ⟨0, _, rfl, by rw [hp]; simp, ?_, hs, ha⟩
    rw [hp, if_pos rfl]
    refine ⟨n, bb, tb, vl, vr, ca, cc, Pa, Pc, ht, ?_, rfl⟩
    rw [hT, hlo, hhi] at hd'
    rw [← hk, kRow_same _ _ e0, someOf_snoc_none e0, someOf_snoc_some e2, someOf_snoc_none e1]
    exact hd'

/-- logsk.Join behind values -/
theorem log_join (hi : Bool) (M num den : Nat) (hM1 : 1 ≤ M) (hM2 : M ≤ 4096) (w : World) (a b : Vals) (db ob : Nat) (O N : Nat → Prop) (h : LgV hi M num den a w db O) (k : LgV hi M num den b w ob N) (hap : ∀ i, O i → ¬ N i) (ha : InP a) (hb : InP b) (hlen : a.length + b.length ≤ 360) :
    Calls Tryz.prog 222 #[.pointer (some ⟨db, 0, none⟩), .pointer (some ⟨ob, 0, none⟩)] w (JoinC (LgV hi M num den) w db O a b) := by
  have h0 := h
  obtain ⟨n, bb, tb, vl, vr, ca, cc, Oa, Oc, ht, hd, rfl⟩ := h
  obtain ⟨n2, cb, ub, ul, ur, da, dc, Na, Nc, ht2, kd, rfl⟩ := k
  have e := ht2.uniq ht
  subst e
  have hTa := lf_split num den n2 a
  have hTb := lf_split num den n2 b
  have la := ha.le
  have lb := hb.le
  by_cases hn : b = []
  · subst hn
    have hz : allL ([] : Vals) = 0 := rfl
    have key : Calls Tryz.prog 222 #[.pointer (some ⟨db, 0, none⟩), .pointer (some ⟨ob, 0, none⟩)] w fun e w' => e = .returned (.int .i64 0) ∧ Below w.heap.size w w' := by
      cases hi
      · exact ljoin_none_L w db bb tb vl vr ca cc Oa Oc _ _ _ _ _ _ _ hd n2 ob cb ub ul ur da dc Na Nc _ _ _ _ _ _ _ kd (by omega)
      · exact ljoin_none_H w db bb tb vl vr ca cc Oa Oc _ _ _ _ _ _ _ hd n2 ob cb ub ul ur da dc Na Nc _ _ _ _ _ _ _ kd (by omega)
    refine key.mono fun e w' hh => ?_
    obtain ⟨rfl, bl⟩ := hh
    exact ⟨0, _, rfl, fun _ => by rw [List.append_nil]; exact (coreQ_log hi M num den).next h0 bl, fun _ h => .inl h, Away.of_below bl⟩
  · have hlen1 : 1 ≤ b.length := by cases b with | nil => exact absurd rfl hn | cons x l => simp
    have key : Calls Tryz.prog 222 #[.pointer (some ⟨db, 0, none⟩), .pointer (some ⟨ob, 0, none⟩)] w fun e w' => e = .returned (.int .i64 0) ∧ ∃ Pa Pc, LogO hi M num den n2 w' db bb tb vl vr ca cc Pa Pc (joinK hi M (kRow hi M (lf0 num den n2) a) (kRow hi M (lf0 num den n2) b)) (joinK hi M (kRow hi M (lf1 num den n2) a) (kRow hi M (lf1 num den n2) b)) (someOf (lf0 num den n2) a + someOf (lf0 num den n2) b) (someOf (lf1 num den n2) a + someOf (lf1 num den n2) b) (someOf hfz a + someOf hfz b) (loF (someOf (lf0 num den n2) a + someOf hfz a + someOf (lf1 num den n2) a) (loOf a) (loOf b)) (hiF (someOf (lf0 num den n2) a + someOf hfz a + someOf (lf1 num den n2) a) (hiOf a) (hiOf b)) ∧ SubO w (OwnL db bb tb vl vr Oa Oc) (OwnL db bb tb vl vr Pa Pc) ∧ Away (OwnL db bb tb vl vr Oa Oc) w w' := by
      have q0 := fun q => kRow_take (hi := hi) hM1 (lf0 num den n2) ha hb q
      have q1 := fun q => kRow_take (hi := hi) hM1 (lf1 num den n2) ha hb q
      have m0 := kRow_len (hi := hi) hM1 (lf0 num den n2) hb
      have m1 := kRow_len (hi := hi) hM1 (lf1 num den n2) hb
      cases hi
      · exact ljoin_L hM1 hM2 w db bb tb vl vr ca cc Oa Oc _ _ _ _ _ _ _ hd n2 ob cb ub ul ur da dc Na Nc _ _ _ _ _ _ _ kd hap (by omega) (by omega) q0 q1 (by omega) (by omega)
      · exact ljoin_H hM1 hM2 w db bb tb vl vr ca cc Oa Oc _ _ _ _ _ _ _ hd n2 ob cb ub ul ur da dc Na Nc _ _ _ _ _ _ _ kd hap (by omega) (by omega) q0 q1 (by omega) (by omega)
    refine key.mono fun e w' hh => ?_
    obtain ⟨rfl, Pa, Pc, hd', hs, haw⟩ := hh
    refine ⟨0, _, rfl, fun _ => ⟨n2, bb, tb, vl, vr, ca, cc, Pa, Pc, ht, ?_, rfl⟩, hs, haw⟩
    rw [hTa, loF_join ha hb hn, hiF_join ha hb hn, kRow_join hM1 _ ha hb, kRow_join hM1 _ ha hb] at hd'
    rw [someOf_append, someOf_append, someOf_append]
    exact hd'

theorem assert122 (ob : Nat) (w : World) : (Instr.typeAssert (.iface 122 (.agg #[.pointer (some ⟨ob, 0, none⟩)])) 74 122 false).run Tryz.prog w = .ok (.agg #[.pointer (some ⟨ob, 0, none⟩)]) w := by kernel_rfl
theorem field122 (ob : Nat) (w : World) : (Instr.field 122 (.agg #[.pointer (some ⟨ob, 0, none⟩)]) 0).run Tryz.prog w = .ok (.pointer (some ⟨ob, 0, none⟩)) w := by kernel_rfl
set_option maxHeartbeats 4000000 in
theorem log_corejoin (w : World) (db ob : Nat) (Q : Ending → World → Prop) (hq : ∀ W, Below w.heap.size w W → Calls Tryz.prog 222 #[.pointer (some ⟨db, 0, none⟩), .pointer (some ⟨ob, 0, none⟩)] W fun e w' => (∃ code, e = .returned (.int .i64 code)) ∧ Q e w') :
    Calls Tryz.prog 218 #[.agg #[.pointer (some ⟨db, 0, none⟩)], .iface 122 (.agg #[.pointer (some ⟨ob, 0, none⟩)])] w (PostM Q) := by
  have H : BxC w w.heap.size db 122 (w.alloc (.cells #[.pointer (some ⟨db, 0, none⟩)] 122)) := ⟨Blk.newAt rfl, (Below.refl _ _).alloc (Nat.le_refl _) _⟩
  have hta := assert122 ob
  have hfi := field122 ob
  have HQ := Lib.hid hq
  clear hq
  go_enter Tryz.func218, Tryz.ntmps218
  go_upto_region 1 with fail
  refine wp_region_quiet_tail 5 (C := BxC w w.heap.size db 122) (by kernel_rfl) (by kernel_rfl) H.drew ?_
  simp only [List.take_succ_cons, List.take_zero, List.drop_succ_cons, List.drop_zero]
  repeat (first | go_big_quiet_skip | (go_big_quiet_want; go_big_quiet_op; first | go_big_quiet_on | (refine quiet_const ?_; go_big_quiet_on)))
  go_big_quiet_want
  refine ⟨.pointer (some ⟨db, 0, none⟩), fun wx hx => ?_, ?_⟩
  · have p0 : wx.cell? ⟨w.heap.size, 0, none⟩ = some (.pointer (some ⟨db, 0, none⟩)) := hx.blk.cell rfl
    go_simp
  go_big_quiet_on
  simp only [Act.put, List.setIfInBounds_toArray, List.set_cons_zero, List.set_cons_succ]
  repeat (first | go_big_quiet_skip | (go_big_quiet_want; go_big_quiet_op; first | go_big_quiet_on | (refine quiet_const ?_; go_big_quiet_on)))
  refine wpQuiet_nil ?_
  intro w1 H1
  have hj := HQ.out w1 H1.below
  clear H H1
  go_wp2_with fail
  refine hj.mono ?_
  rintro e w2 ⟨⟨code, rfl⟩, q⟩
  have HR := Lib.hid q
  clear hj q
  go_wp2_with fail
  go_ret
  exact HR.out
end Go.Proofs.YtbejdajkkoapgaaGreatDoor

/-
  Contracts of hdr.Ends, Rows, Zero, Config, and of hdrCore.write. Conditions: few values.
-/
set_option linter.unusedVariables false
set_option linter.unusedSimpArgs false
set_option maxRecDepth 100000
namespace Go.Proofs.YtbejdajkkoapgaaGreatDoor
open Go.RowKit Go.Lib

theorem hdr_ends3 (w : World) (hb pb s0 s1 : Nat) (v0 v1 : Value) (dg : Nat) (lim : Int) (l0 l1 : Row) (z : Nat) (lo hi : Int) (h : HdO w hb pb s0 s1 v0 v1 dg lim l0 l1 z lo hi) (hT : hdT l0 l1 z ≤ 9223372036854775807) (h0 : hdT l0 l1 z = 0 → lo = 0 ∧ hi = 0) :
    Calls Tryz.prog 235 #[.pointer (some ⟨hb, 0, none⟩)] w fun e w' => e = .returned (.tuple #[.int .i64 lo, .int .i64 hi, .bool (hdT l0 l1 z != 0)]) ∧ Below w.heap.size w w' := by
  have hto := hdr_total w hb pb s0 s1 v0 v1 dg lim l0 l1 z lo hi h hT
  obtain ⟨T, hTT⟩ : ∃ T, T = hdT l0 l1 z := ⟨_, rfl⟩
  rw [← hTT] at hto h0 ⊢
  have HH := Lib.hid h
  clear h hTT hT
  by_cases hz : T = 0
  · obtain ⟨rfl, rfl⟩ := h0 hz
    subst hz
    clear h0
    go_enter Tryz.func235, Tryz.ntmps235
    go_wp2_with fail
    refine hto.mono ?_
    rintro e w1 ⟨rfl, b1⟩
    have HB := Lib.hid b1
    clear b1 hto
    go_wp2_with fail
    go_ret3
    exact ⟨rfl, HB.out⟩
  · have g1 : ((T : Int) == 0) = false := by simp; omega
    have g2 : (T != 0) = true := by simp; omega
    rw [g2]
    clear h0 g2
    go_enter Tryz.func235, Tryz.ntmps235
    go_wp2_with fail
    refine hto.mono ?_
    rintro e w1 ⟨rfl, b1⟩
    obtain ⟨c0, c1, c2, c3, c4, c5, c6, c7, f5, f6, f7⟩ := (HH.out.next b1).cells
    have HB := Lib.hid b1
    clear b1 hto
    go_wp2_with fail
    go_quiet (fail)
    go_wp2_with fail
    go_ret3
    exact ⟨rfl, below_drewN HB.out _⟩
theorem hdr_zero (w : World) (hb pb s0 s1 : Nat) (v0 v1 : Value) (dg : Nat) (lim : Int) (l0 l1 : Row) (z : Nat) (lo hi : Int) (h : HdO w hb pb s0 s1 v0 v1 dg lim l0 l1 z lo hi) :
    Calls Tryz.prog 249 #[.pointer (some ⟨hb, 0, none⟩)] w fun e w' => e = .returned (.int .u64 (z : Int)) ∧ w = w' := by
  obtain ⟨c0, c1, c2, c3, c4, c5, c6, c7, f5, f6, f7⟩ := h.cells
  clear h
  go_enter Tryz.func249, Tryz.ntmps249
  go_wp2_with fail
  go_ret
  exact ⟨rfl, rfl⟩
theorem hdr_config (w : World) (hb pb s0 s1 : Nat) (v0 v1 : Value) (dg : Nat) (lim : Int) (l0 l1 : Row) (z : Nat) (lo hi : Int) (h : HdO w hb pb s0 s1 v0 v1 dg lim l0 l1 z lo hi) :
    Calls Tryz.prog 248 #[.pointer (some ⟨hb, 0, none⟩)] w fun e w' => Below w.heap.size w w' ∧ e = .returned (.agg #[.int .i64 (dg : Int), .int .u64 lim]) := by
  obtain ⟨c0, c1, c2, c3, c4, c5, c6, c7, f5, f6, f7⟩ := h.cells
  have hlt := h.blk.lt
  clear h
  go_enter Tryz.func248, Tryz.ntmps248
  go_wp2_with fail
  refine bodyPost_ret (v := .agg #[.int .i64 (dg : Int), .int .u64 lim]) (by simp [results, Tryz.results248, go_sem]) rfl ?_
  refine ⟨?_, rfl⟩
  exact (Below.refl _ w).alloc (Nat.le_refl _) _
set_option maxHeartbeats 4000000 in
theorem hdr_rows (w : World) (hb pb s0 s1 : Nat) (v0 v1 : Value) (dg : Nat) (lim : Int) (l0 l1 : Row) (z : Nat) (lo hi : Int) (h : HdO w hb pb s0 s1 v0 v1 dg lim l0 l1 z lo hi) (hl0 : l0.length ≤ 4000) (hl1 : l1.length ≤ 4000) :
    Calls Tryz.prog 247 #[.pointer (some ⟨hb, 0, none⟩)] w fun e w' => ∃ a b, e = .returned (.tuple #[a, b]) ∧ w'.ownsRow 0 228 2 a l0.length (rowC l0) ∧ w'.ownsRow 0 228 2 b l1.length (rowC l1) ∧ Below w.heap.size w w' := by
  obtain ⟨c0, c1, c2, c3, c4, c5, c6, c7, f5, f6, f7⟩ := h.cells
  have hp0 := Lib.hid (show ∀ W, Below w.heap.size w W → _ from fun W (k : Below w.heap.size w W) => pairs_any W s0 v0 l0 (h.next k).st0 (by omega))
  have hp1 := Lib.hid (show ∀ W, Below w.heap.size w W → _ from fun W (k : Below w.heap.size w W) => pairs_any W s1 v1 l1 (h.next k).st1 (by omega))
  have hcl := Lib.hid (show ∀ W, Below w.heap.size w W → _ from fun W (k : Below w.heap.size w W) => And.intro (h.next k).cells.2.2.2.1 (h.next k).cells.2.2.2.2.1)
  have hB0 := Lib.hid (show Below w.heap.size w w.drew from (Below.refl _ _).drew)
  clear h c0 c1 c2 c5 c6 c7 f5 f6 f7 hl0 hl1
  go_enter Tryz.func247, Tryz.ntmps247
  go_upto_region 3 with fail
  rename_i KK
  go_region_with (first
    | (go_at_call 177; (with_reducible refine (hp0.out _ (Hid.out (by assumption))).mono ?_); rintro e w2 ⟨va, rfl, oa, ba⟩; have Ba : Hid (Below w.heap.size w w2) := Lib.hid (Below.trans (Hid.out (by assumption)) (ba.mono (Below.size (Hid.out (by assumption))))); obtain ⟨d3, d4⟩ := hcl.out _ Ba.out; have OA := Lib.hid (And.intro oa ba); clear oa ba)
    | (go_at_call 177; (with_reducible refine (hp1.out _ (Hid.out (by assumption))).mono ?_); rintro e w3 ⟨vb, rfl, ob, bb⟩; have Bb : Hid (Below w.heap.size w w3) := Lib.hid (Below.trans (Hid.out (by assumption)) (bb.mono (Below.size (Hid.out (by assumption))))); obtain ⟨d5, d6⟩ := hcl.out _ Bb.out; have OB := Lib.hid (And.intro ob bb); clear ob bb))
  all_goals (
    refine KK _ _ ?_
    go_wp2_with fail
    go_ret2
    first
      | exact ⟨va, vb, rfl, owns_below (owns_base OA.out.1 fun _ _ => Nat.zero_le _) OB.out.2 (fun g hg => (OA.out.1.lt g hg).2), owns_base OB.out.1 fun _ _ => Nat.zero_le _, Bb.out⟩
      | exact ⟨va, vb, rfl, owns_base OA.out.1 fun _ _ => Nat.zero_le _, owns_below (owns_base OB.out.1 fun _ _ => Nat.zero_le _) OA.out.2 (fun g hg => (OB.out.1.lt g hg).2), Ba.out⟩)

theorem NaS.nextH {B : Nat} {w : World} {qb : Nat} {A : Option Addr} {c : Nat} {out : List UInt8} {wr w2 : World} (h : NaS B w qb A c out wr) (hB : B ≤ w.heap.size) (b : Below wr.heap.size wr w2) : NaS B w qb A c out w2 :=
  ⟨h.qu.next b, h.below.trans (b.mono (Nat.le_trans hB h.below.size)), fun b' cs T h5 h109 hb => (h.keep b' cs T h5 h109 hb).below b (h.keep b' cs T h5 h109 hb).lt⟩
theorem NaS.owns {B : Nat} {w : World} {qb : Nat} {A : Option Addr} {c : Nat} {out : List UInt8} {W : World} (h : NaS B w qb A c out W) {b : Nat} {v : Value} {n : Nat} {xs : List Value} (o : w.ownsRow b 228 2 v n xs) : W.ownsRow b 228 2 v n xs :=
  owns_of_block o fun g hg => by
    obtain ⟨cur, hc⟩ := owns_blk o hg
    exact (h.keep g cur 228 (by decide) (by decide) hc).trans hc.symm
/-- a quill that writes, ahead of which a hdr sketch lies, and two rows -/
structure HwC (B : Nat) (w : World) (hb pb s0 s1 : Nat) (v0 v1 : Value) (dg : Nat) (lim : Int) (l0 l1 : Row) (z : Nat) (lo hi : Int) (va vb : Value) (qb : Nat) (A : Option Addr) (c : Nat) (out : List UInt8) (b : Nat) (W : World) : Prop where
  nas : NaS B w qb A c out W
  hd : HdO w hb pb s0 s1 v0 v1 dg lim l0 l1 z lo hi
  blk : Blk W b #[.pointer (some ⟨hb, 0, none⟩)] 129
  hB : B ≤ w.heap.size
  own : ∀ k, OwnH hb pb s0 s1 v0 v1 k → k < B
  ra : W.ownsRow 0 228 2 va l0.length (rowC l0)
  rb : W.ownsRow 0 228 2 vb l1.length (rowC l1)
section
variable {B : Nat} {w : World} {hb pb s0 s1 : Nat} {v0 v1 : Value} {dg : Nat} {lim : Int} {l0 l1 : Row} {z : Nat} {lo hi : Int} {va vb : Value} {qb : Nat} {A : Option Addr} {c : Nat} {out : List UInt8} {b : Nat} {W W' : World}
theorem HwC.hdW (h : HwC B w hb pb s0 s1 v0 v1 dg lim l0 l1 z lo hi va vb qb A c out b W) : HdO W hb pb s0 s1 v0 v1 dg lim l0 l1 z lo hi := by
  have ha : Away (fun k => B ≤ k) w W := ⟨h.nas.below.os, h.nas.below.tape, h.nas.below.output, h.nas.below.size, fun k _ hn => h.nas.below.block k (by omega)⟩
  exact h.hd.away ha fun k hk => by have := h.own k hk; omega
theorem HwC.next (h : HwC B w hb pb s0 s1 v0 v1 dg lim l0 l1 z lo hi va vb qb A c out b W) (k : Below W.heap.size W W') : HwC B w hb pb s0 s1 v0 v1 dg lim l0 l1 z lo hi va vb qb A c out b W' :=
  ⟨h.nas.nextH h.hB k, h.hd, h.blk.below k h.blk.lt, h.hB, h.own, owns_below h.ra k fun g hg => (h.ra.lt g hg).2, owns_below h.rb k fun g hg => (h.rb.lt g hg).2⟩
theorem HwC.drew (h : HwC B w hb pb s0 s1 v0 v1 dg lim l0 l1 z lo hi va vb qb A c out b W) : HwC B w hb pb s0 s1 v0 v1 dg lim l0 l1 z lo hi va vb qb A c out b W.drew := h.next (Below.refl _ _).drew
theorem HwC.put {A' : Option Addr} {c' : Nat} {out' : List UInt8} (h : HwC B w hb pb s0 s1 v0 v1 dg lim l0 l1 z lo hi va vb qb A c out b W) (k : NaS B W qb A' c' out' W') : HwC B w hb pb s0 s1 v0 v1 dg lim l0 l1 z lo hi va vb qb A' c' out' b W' :=
  ⟨h.nas.trans k, h.hd, k.keep _ _ _ (by decide) (by decide) h.blk, h.hB, h.own, k.owns h.ra, k.owns h.rb⟩
theorem HwC.cell (h : HwC B w hb pb s0 s1 v0 v1 dg lim l0 l1 z lo hi va vb qb A c out b W) : W.cell? ⟨b, 0, none⟩ = some (.pointer (some ⟨hb, 0, none⟩)) := h.blk.cell rfl
theorem HwC.size (h : HwC B w hb pb s0 s1 v0 v1 dg lim l0 l1 z lo hi va vb qb A c out b W) : B ≤ W.heap.size := Nat.le_trans h.hB h.nas.below.size
end
theorem field127_0 (u v : Value) (w : World) : (Instr.field 127 (.agg #[u, v]) 0).run Tryz.prog w = .ok u w := by kernel_rfl
theorem field127_1 (u v : Value) (w : World) : (Instr.field 127 (.agg #[u, v]) 1).run Tryz.prog w = .ok v w := by kernel_rfl
theorem nats1 (a : Nat) : [a].flatMap natB = natB a := by simp
theorem ints2h (a b : Int) : intsB [a, b] = natB (zigN a) ++ natB (zigN b) := by simp [intsB]
theorem nats2h (a b : Nat) : [a, b].flatMap natB = natB a ++ natB b := by simp
/-- a hdr sketch's load -/
def loadH (dg lim zl zh z : Nat) (l0 l1 : Row) : List UInt8 := natB dg ++ natB lim ++ (natB zl ++ natB zh) ++ natB z ++ rowB l0 ++ rowB l1
/-- a row that can be written -/
def WriR (l : Row) : Prop := l.length ≤ 3000 ∧ Rising l ∧ ∀ x ∈ l, x.1 < 9000000000000000000 ∧ x.2 < 18446744073709551616
theorem rowB_len (l : Row) (h : WriR l) : (rowB l).length ≤ 10 + 20 * l.length := by
  obtain ⟨h1, h2, h3⟩ := h
  have a5 := natB_len10 l.length (by omega)
  unfold rowB
  rw [List.length_append]
  have hix : ∀ j, ixAt l j < 9000000000000000000 := fun j => by
    by_cases hj : j < l.length
    · rw [ixAt_get l j hj]; exact (h3 _ (List.getElem_mem hj)).1
    · unfold ixAt; rw [List.getD_eq_getElem?_getD, List.getElem?_eq_none (by omega)]; simp
  have := itemsB_len l l.length fun i hi => by
    have h1 := stepN_le l i hi
    have h4 := hix 0
    have h5 := hix i
    have h6 := (h3 _ (List.getElem_mem hi)).2
    rw [ctAt_get l i hi]
    refine ⟨?_, h6⟩
    unfold stepN; split <;> omega
  omega

set_option maxHeartbeats 8000000 in
theorem hdr_write (B : Nat) (w : World) (hb pb s0 s1 : Nat) (v0 v1 : Value) (dg limN : Nat) (l0 l1 : Row) (z : Nat) (lo hi : Int) (qb : Nat) (A : Option Addr) (c : Nat) (hq : QuO B w qb (.slice A ([] : List UInt8).length c) []) (hB : B ≤ w.heap.size) (h : HdO w hb pb s0 s1 v0 v1 dg (limN : Int) l0 l1 z lo hi) (hown : ∀ k, OwnH hb pb s0 s1 v0 v1 k → k < B)
    (hdg : dg ≤ 4) (hlim : limN < 18446744073709551616) (hT : hdT l0 l1 z ≤ 9223372036854775807) (hT0 : hdT l0 l1 z = 0 → lo = 0 ∧ hi = 0) (hlo : I64 lo) (hhi : I64 hi) (w0 : WriR l0) (w1 : WriR l1) :
    Calls Tryz.prog 245 #[.agg #[.pointer (some ⟨hb, 0, none⟩)], .pointer (some ⟨qb, 0, none⟩)] w fun e w' => e = .returned (.tuple #[]) ∧ ∃ A' c', NaS B w qb A' c' (loadH dg limN (zigN lo) (zigN hi) z l0 l1) w' := by
  have S0 : NaS B w qb A c [] w := NaS.start hq
  have b0 : Below w.heap.size w (w.alloc (.cells #[.pointer (some ⟨hb, 0, none⟩)] 129)) := (Below.refl _ _).alloc (Nat.le_refl _) _
  have hz : z ≤ hdT l0 l1 z := by unfold hdT; omega
  have he := hdr_ends3 _ hb pb s0 s1 v0 v1 dg limN l0 l1 z lo hi (h.next b0) hT hT0
  have hro := fun W (k : Below w.heap.size w W) => hdr_rows W hb pb s0 s1 v0 v1 dg limN l0 l1 z lo hi (h.next k) (by have := w0.1; omega) (by have := w1.1; omega)
  have BX : Blk (w.alloc (.cells #[.pointer (some ⟨hb, 0, none⟩)] 129)) w.heap.size #[.pointer (some ⟨hb, 0, none⟩)] 129 := Blk.newAt rfl
  have MK := Lib.hid (show ∀ W va vb, Below w.heap.size w W → Blk W w.heap.size #[.pointer (some ⟨hb, 0, none⟩)] 129 → W.ownsRow 0 228 2 va l0.length (rowC l0) → W.ownsRow 0 228 2 vb l1.length (rowC l1) → HwC B w hb pb s0 s1 v0 v1 dg limN l0 l1 z lo hi va vb qb A c [] w.heap.size W from
    fun W va vb k hb' ra rb => ⟨S0.nextH hB k, h, hb', hB, hown, ra, rb⟩)
  have HR := Lib.hid (And.intro w0 (And.intro w1 (And.intro (rowB_len l0 w0) (rowB_len l1 w1))))
  generalize (hdT l0 l1 z != 0) = tb at he
  have k10 := natB_len10 dg (by omega)
  have k11 := natB_len10 limN hlim
  have k12 := natB_len10 (zigN lo) (zigN_eq lo hlo).2
  have k13 := natB_len10 (zigN hi) (zigN_eq hi hhi).2
  have k14 := natB_len10 z (by omega)
  have hwd : IntKind.u64.wrap (dg : Int) = (dg : Int) := by rw [IntKind.wrap_u64]; omega
  have HB0 := Lib.hid (And.intro b0 BX)
  clear S0 hown hq h b0 BX w0 w1 hT0
  go_enter Tryz.func245, Tryz.ntmps245
  go_wp2_with fail
  refine he.mono ?_
  rintro e w1 ⟨rfl, b1⟩
  have B1 := HB0.out.1.trans (b1.mono HB0.out.1.size)
  have X1 := HB0.out.2.below b1 HB0.out.2.lt
  have k0 : w1.cell? ⟨w.heap.size, 0, none⟩ = some (.pointer (some ⟨hb, 0, none⟩)) := X1.cell rfl
  have hr1 := hro w1 B1
  have HB1 := Lib.hid (And.intro B1 X1)
  clear he b1 B1 X1 HB0 hro
  go_wp2_with fail
  refine hr1.mono ?_
  rintro e w2 ⟨va, vb, rfl, ra, rb, b2⟩
  have C2 := MK.out w2 va vb (HB1.out.1.trans (b2.mono HB1.out.1.size)) (HB1.out.2.below b2 HB1.out.2.lt) ra rb
  obtain ⟨Aa, ca, hva⟩ := owns_slice ra
  obtain ⟨Ab, cb, hvb⟩ := owns_slice rb
  subst hva
  subst hvb
  obtain ⟨n0, hn0⟩ : ∃ n, n = l0.length := ⟨_, rfl⟩
  obtain ⟨n1, hn1⟩ : ∃ n, n = l1.length := ⟨_, rfl⟩
  have HN := Lib.hid (And.intro hn0 hn1)
  rw [← hn0, ← hn1] at C2 ⊢
  generalize w.heap.size = pb1 at C2 ⊢ k0
  clear hr1 ra rb b2 HB1 MK k0 hn0 hn1
  go_upto_region 3 with fail
  have C3 := C2.drew
  have c3 := C3.cell
  have hcfg := fun W (k : HwC B w hb pb s0 s1 v0 v1 dg limN l0 l1 z lo hi (.slice Aa n0 ca) (.slice Ab n1 cb) qb A c [] pb1 W) => hdr_config W hb pb s0 s1 v0 v1 dg limN l0 l1 z lo hi k.hdW
  have fe0 := fun W => field127_0 (.int .i64 (dg : Int)) (.int .u64 (limN : Int)) W
  have fe1 := fun W => field127_1 (.int .i64 (dg : Int)) (.int .u64 (limN : Int)) W
  have hnat := fun W (k : HwC B w hb pb s0 s1 v0 v1 dg limN l0 l1 z lo hi (.slice Aa n0 ca) (.slice Ab n1 cb) qb A c [] pb1 W) => qu_nat B (W.alloc (.cells (u64C [dg, limN]) 23)) qb W.heap.size 2 A c [] [dg, limN] (k.nas.qu.alloc _) (by have := k.size; simp; omega) (Blk.newAt rfl)
    (fun n hn => by simp at hn; omega) (by simp; omega) (by simp)
  clear C2
  rename_i KK
  go_region_with (first
    | (go_at_call 248; (with_reducible refine (hcfg _ (by assumption)).mono ?_); rintro e w2 ⟨b2, rfl⟩; have H2 := HwC.next (h := by assumption) b2; have k2 := H2.cell; clear b2)
    | (go_at_call 62; refine (hnat _ (by assumption)).mono ?_; rintro e w5 ⟨rfl, A5, k5, S5⟩; have H5 := HwC.put (HwC.next (h := by assumption) ((Below.refl _ _).alloc (Nat.le_refl _) _)) S5; clear S5))
  all_goals (
    clear hcfg hnat fe0 fe1 c3 C3
    refine KK _ _ ?_
    rw [nats2h, List.nil_append] at H5
    have hint := qu_int B (w5.alloc (.cells (i64C [lo, hi]) 2)) qb w5.heap.size 2 A5 k5 (natB dg ++ natB limN) [lo, hi] (H5.nas.qu.alloc _) (by have := H5.size; simp; omega) (Blk.newAt rfl)
      (fun x hx => by simp at hx; rcases hx with rfl | rfl; exact hlo; exact hhi) (by simp; omega) (by simp)
    go_wp2_with fail
    refine hint.mono ?_
    rintro e w6 ⟨rfl, A6, k6, S6⟩
    have H6 := (H5.next ((Below.refl _ _).alloc (Nat.le_refl _) _)).put S6
    have c6 := H6.cell
    rw [ints2h] at H6
    have hze := hdr_zero w6 hb pb s0 s1 v0 v1 dg limN l0 l1 z lo hi H6.hdW
    have HH6 := Lib.hid H6
    clear hint S6 H5 H6
    go_wp2_with fail
    refine hze.mono ?_
    rintro e w7 ⟨rfl, rfl⟩
    have hnz := qu_nat B (w6.alloc (.cells (u64C [z]) 23)) qb w6.heap.size 1 A6 k6 (natB dg ++ natB limN ++ (natB (zigN lo) ++ natB (zigN hi))) [z] (HH6.out.nas.qu.alloc _) (by have := HH6.out.size; simp; omega) (Blk.newAt rfl)
      (fun n hn => by simp at hn; omega) (by simp; omega) (by simp)
    clear hze
    go_wp2_with fail
    refine hnz.mono ?_
    rintro e w8 ⟨rfl, A8, k8, S8⟩
    have H8 := (HH6.out.next ((Below.refl _ _).alloc (Nat.le_refl _) _)).put S8
    rw [nats1] at H8
    have hpa := put_any B w8 qb A8 k8 (natB dg ++ natB limN ++ (natB (zigN lo) ++ natB (zigN hi)) ++ natB z) _ _ l0 H8.nas.qu H8.size H8.ra (by have := HR.out.1.1; omega) HR.out.1.2.1 HR.out.1.2.2 (by simp; omega)
    have HH8 := Lib.hid H8
    clear hnz S8 H8 HH6 c6
    go_wp2_with fail
    refine hpa.mono ?_
    rintro e w9 ⟨rfl, A9, k9, S9⟩
    have H9 := HH8.out.put S9
    have hpb := put_any B w9 qb A9 k9 (natB dg ++ natB limN ++ (natB (zigN lo) ++ natB (zigN hi)) ++ natB z ++ rowB l0) _ _ l1 H9.nas.qu H9.size H9.rb (by have := HR.out.2.1.1; omega) HR.out.2.1.2.1 HR.out.2.1.2.2 (by have := HR.out.2.2.1; have := HR.out.1.1; simp; omega)
    have HH9 := Lib.hid H9
    clear hpa S9 H9 HH8
    go_wp2_with fail
    refine hpb.mono ?_
    rintro e w10 ⟨rfl, A10, k10', S10⟩
    have H10 := Lib.hid (HH9.out.put S10)
    clear hpb S10 HH9
    go_wp2_with fail
    go_end0
    exact ⟨rfl, A10, k10', H10.out.nas⟩)
end Go.Proofs.YtbejdajkkoapgaaGreatDoor

