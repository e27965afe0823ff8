/-
  Several texts in one: So, Br, Dg, Dn. What each proves, and on which conditions, stands at its head. Conditions: stated in each.
-/
import Derived.Test.YtbejdajkkoapgaaGreatDoorJ06
import Derived.Sort.Statements
import Derived.Test.YtbejdajkkoapgaaGreatDoorJ04
import Derived.Deep.Quiet
import Derived.BigQuiet
import Derived.Test.YtbejdajkkoapgaaGreatDoorJ03
import Derived.Deep.Cut
/-
  The order in which a digest's nodes are told, as a function and as a sort. No program. Conditions: stated in each law.
-/
set_option linter.unusedVariables false
set_option linter.unusedSimpArgs false
namespace Go.Proofs.YtbejdajkkoapgaaGreatDoor

/-- what the comparison of two nodes says -/
def cfN (d : Nat) (x y : Nat × Nat) : Int := if x.1 = y.1 then 0 else if before d x y then -1 else 1
def ltN (d : Nat) (x y : Nat × Nat) : Bool := decide (cfN d x y < 0)
theorem ltN_iff (d : Nat) (x y : Nat × Nat) : ltN d x y = true ↔ hiN d x.1 < hiN d y.1 ∨ (hiN d x.1 = hiN d y.1 ∧ y.1 < x.1) := by
  unfold ltN cfN before
  by_cases h : x.1 = y.1
  · rw [if_pos h]; simp [h]
  · rw [if_neg h]
    by_cases h1 : hiN d x.1 < hiN d y.1
    · simp [h1]
    · by_cases h2 : hiN d x.1 = hiN d y.1
      · by_cases h3 : y.1 < x.1 <;> simp [h2, h3]
      · simp [h1, h2]
theorem ltN_false (d : Nat) (x y : Nat × Nat) : ltN d x y = false ↔ hiN d y.1 < hiN d x.1 ∨ (hiN d x.1 = hiN d y.1 ∧ x.1 ≤ y.1) := by
  have := ltN_iff d x y
  constructor
  · intro h
    rw [h] at this
    simp at this
    omega
  · intro h
    rw [← Bool.not_eq_true, this]
    omega
theorem ltN_swo (d : Nat) : Go.Sort.SWO (ltN d) where
  irrefl x := (ltN_false d x x).2 (by omega)
  trans x y z h1 h2 := by
    rw [ltN_iff] at *
    omega
  ntrans x y z h1 h2 := by
    rw [ltN_false] at *
    omega
end Go.Proofs.YtbejdajkkoapgaaGreatDoor

/-
  The tree's functions in naturals: what the contracts of layer 16 answer is what the plain laws speak of. Conditions: a depth from 1 to 24, a node that can be.
-/
set_option linter.unusedVariables false
set_option linter.unusedSimpArgs false
namespace Go.Proofs.YtbejdajkkoapgaaGreatDoor
open Go.RowKit Go.Lib

theorem pw_nat (d : Nat) : Tr.pw (d : Int) = ((2 ^ d : Nat) : Int) := by unfold Tr.pw; simp
theorem goodN (d v : Nat) (h : 1 ≤ v) (h' : v < 2 * 2 ^ d) : Tr.goodB (d : Int) (v : Int) = true := by
  rw [Tr.goodB_iff, pw_nat]; omega
theorem upN (d v : Nat) (h : 1 ≤ v) (h' : v < 2 * 2 ^ d) : Tr.upV (d : Int) (v : Int) = ((v / 2 : Nat) : Int) := by
  unfold Tr.upV; rw [goodN d v h h']; simp
theorem besN (d v : Nat) (h : 2 ≤ v) (h' : v < 2 * 2 ^ d) : Tr.besV (d : Int) (v : Int) = ((bro v : Nat) : Int) := by
  unfold Tr.besV bro
  have e : ((v : Int) == 1) = false := by simp; omega
  rw [goodN d v (by omega) h', e]
  by_cases hz : v % 2 = 0
  · rw [if_pos (by simp), if_pos (by omega), if_pos hz]; omega
  · rw [if_pos (by simp), if_neg (by omega), if_neg hz]; omega
theorem besN1 (d : Nat) : Tr.besV (d : Int) 1 = 0 := by unfold Tr.besV; simp
theorem levN (d v : Nat) (hd : 1 ≤ d) (hd' : d ≤ 24) (h : 1 ≤ v) (h' : v < 2 * 2 ^ d) : Tr.levV (d : Int) (v : Int) = ((Nat.log2 v : Nat) : Int) := by
  obtain ⟨k, hk, hkd, h1, h2⟩ := Tr.level_is (d : Int) (v : Int) (by omega) (by omega) (goodN d v h h')
  rw [hk]
  have e : ((v : Int)).toNat = v := by omega
  rw [e] at h1 h2
  have : Nat.log2 v = k := (Nat.log2_eq_iff (by omega)).2 ⟨h1, h2⟩
  omega
theorem widN (d v : Nat) (hd : 1 ≤ d) (hd' : d ≤ 24) (h : 1 ≤ v) (h' : v < 2 * 2 ^ d) : Tr.widV (d : Int) (v : Int) = ((wid d v : Nat) : Int) := by
  have h3 := (log2_bd d v h h').2.2
  rw [Tr.widV_nat (levN d v hd hd' h h') (by omega)]
  unfold wid; simp
theorem lowN (d v : Nat) (hd : 1 ≤ d) (hd' : d ≤ 24) (h : 1 ≤ v) (h' : v < 2 * 2 ^ d) : Tr.lowV (d : Int) (v : Int) = ((loN d v : Nat) : Int) := by
  rw [Tr.lowV_good (goodN d v h h'), widN d v hd hd' h h', pw_nat]
  have := (node_bd d v h h').2.1
  unfold loN
  rw [← Int.natCast_mul]; omega
theorem highN (d v : Nat) (hd : 1 ≤ d) (hd' : d ≤ 24) (h : 1 ≤ v) (h' : v < 2 * 2 ^ d) : Tr.highV (d : Int) (v : Int) = ((hiN d v : Nat) : Int) := by
  rw [Tr.highV_good (goodN d v h h'), lowN d v hd hd' h h', widN d v hd hd' h h']
  obtain ⟨h1, h2, h3⟩ := node_bd d v h h'
  unfold loN hiN; omega
theorem beforeN (d : Nat) (x y : Nat × Nat) (hd : 1 ≤ d) (hd' : d ≤ 24) (h : 1 ≤ x.1) (h' : x.1 < 2 * 2 ^ d) (k : 1 ≤ y.1) (k' : y.1 < 2 * 2 ^ d) : Tr.beforeB (d : Int) (x.1 : Int) (y.1 : Int) = before d x y := by
  unfold Tr.beforeB before
  rw [highN d x.1 hd hd' h h', highN d y.1 hd hd' k k']
  rw [Bool.eq_iff_iff]
  simp
  omega
theorem quiet_const {C : World → Prop} {x : Value} {K : Value → Prop} (h : K x) : ∃ v, (∀ w, C w → x = v) ∧ K v := ⟨x, fun _ _ => rfl, h⟩
theorem wp_region_quiet_litC {P : Program} {C : World → Prop} {id : Nat} {Q : Exit → Act → World → Prop} {a : Act} {w : World} {l : List Oper} (hm : P.follows .mixedOrders = true) (hB : Region.lexB .any l.toArray = true) (hC : C w.drew)
    (h : wpQuiet P l.toArray C (fun a' => ∀ w', C w' → Q .normal a' w') l a) : (Code.region id l.toArray true).wp P Q a w :=
  wp_region_quiet hm hB hC (by simpa using h)
end Go.Proofs.YtbejdajkkoapgaaGreatDoor

/-
  A digest in memory, and the contracts of New, Total, Most, limit, Ends, Config, Nodes, ends. Conditions: stated in each.
-/
set_option linter.unusedVariables false
set_option linter.unusedSimpArgs false
set_option maxRecDepth 100000
namespace Go.Proofs.YtbejdajkkoapgaaGreatDoor
open Go.RowKit Go.Lib

def I64 (x : Int) : Prop := -9223372036854775808 ≤ x ∧ x ≤ 9223372036854775807
def digC (d F : Nat) (sb : Nat) (lo hi : Int) : Array Value := #[.int .i64 (d : Int), .int .i64 (F : Int), .int .i64 (d : Int), .pointer (some ⟨sb, 0, none⟩), .int .i64 lo, .int .i64 hi]
/-- a digest: its block, its strip's block, its row -/
structure DigO (w : World) (db sb : Nat) (v : Value) (d F : Nat) (lo hi : Int) (l : Row) : Prop where
  blk : Blk w db (digC d F sb lo hi) 89
  strip : StripO w sb v l
/-- the blocks that are its own -/
def Own (db sb : Nat) (v : Value) (k : Nat) : Prop := k = db ∨ k = sb ∨ v.ownBlock = some k
section
variable {w w' : World} {db sb : Nat} {v : Value} {d F : Nat} {lo hi : Int} {l : Row}
theorem DigO.next (h : DigO w db sb v d F lo hi l) (hb : Below w.heap.size w w') : DigO w' db sb v d F lo hi l := ⟨h.blk.below hb h.blk.lt, h.strip.next hb⟩
theorem DigO.drew (h : DigO w db sb v d F lo hi l) : DigO w.drew db sb v d F lo hi l := ⟨h.blk, h.strip.drew⟩
theorem DigO.away {G : Nat → Prop} (h : DigO w db sb v d F lo hi l) (hb : Away G w w') (hn : ∀ k, Own db sb v k → ¬ G k) : DigO w' db sb v d F lo hi l :=
  ⟨h.blk.away hb (hn _ (.inl rfl)), h.strip.away hb (hn _ (.inr (.inl rfl))) fun g hg => hn _ (.inr (.inr hg))⟩
theorem DigO.lt (h : DigO w db sb v d F lo hi l) : ∀ k, Own db sb v k → k < w.heap.size := by
  rintro k (rfl | rfl | hk)
  · exact h.blk.lt
  · exact h.strip.blk.lt
  · exact (h.strip.own.lt k hk).2
theorem DigO.ne (h : DigO w db sb v d F lo hi l) : db ≠ sb ∧ v.ownBlock ≠ some db := by
  refine ⟨h.blk.ne h.strip.blk (by decide), fun e => ?_⟩
  obtain ⟨cur, hc⟩ := owns_blk h.strip.own e
  exact (h.blk.ne hc (by decide)) rfl
theorem DigO.cells (h : DigO w db sb v d F lo hi l) : w.cell? ⟨db, 0, none⟩ = some (.int .i64 (d : Int)) ∧ w.cell? ⟨db, 1, none⟩ = some (.int .i64 (F : Int)) ∧ w.cell? ⟨db, 2, none⟩ = some (.int .i64 (d : Int)) ∧
    w.cell? ⟨db, 3, none⟩ = some (.pointer (some ⟨sb, 0, none⟩)) ∧ w.cell? ⟨db, 4, none⟩ = some (.int .i64 lo) ∧ w.cell? ⟨db, 5, none⟩ = some (.int .i64 hi) ∧
    w.frozen? ⟨db, 3, none⟩ = false ∧ w.frozen? ⟨db, 4, none⟩ = false ∧ w.frozen? ⟨db, 5, none⟩ = false :=
  ⟨h.blk.cell rfl, h.blk.cell rfl, h.blk.cell rfl, h.blk.cell rfl, h.blk.cell rfl, h.blk.cell rfl, h.blk.frozen 3, h.blk.frozen 4, h.blk.frozen 5⟩
/-- least and greatest turned -/
theorem DigO.ends (h : DigO w db sb v d F lo hi l) (a b : Int) : DigO ((w.setCell ⟨db, 4, none⟩ (.int .i64 a)).setCell ⟨db, 5, none⟩ (.int .i64 b)) db sb v d F a b l := by
  obtain ⟨h1, h2⟩ := h.ne
  refine ⟨?_, (h.strip.other ⟨db, 4, none⟩ _ (Ne.symm h1) h2).other ⟨db, 5, none⟩ _ (Ne.symm h1) h2⟩
  have := (h.blk.set 4 (.int .i64 a)).set 5 (.int .i64 b)
  exact this
end

theorem dig_total (w : World) (db sb : Nat) (v : Value) (d F : Nat) (lo hi : Int) (l : Row) (h : DigO w db sb v d F lo hi l) :
    Calls Tryz.prog 116 #[.pointer (some ⟨db, 0, none⟩)] w fun e w' => e = .returned (.int .u64 (rowTotal l : Nat)) ∧ w = w' := by
  obtain ⟨c0, c1, c2, c3, c4, c5, f3, f4, f5⟩ := h.cells
  have hs := strip_total w sb (rowTotal l) h.strip.cells.2.2.1
  clear h
  go_enter Tryz.func116, Tryz.ntmps116
  go_wp2_with (go_at_call 94; refine hs.mono ?_; rintro e w1 ⟨rfl, rfl⟩)
  go_ret
  exact ⟨rfl, rfl⟩

theorem dig_most (w : World) (db sb : Nat) (v : Value) (d F : Nat) (lo hi : Int) (l : Row) (h : DigO w db sb v d F lo hi l) (hF : F ≤ 64) :
    Calls Tryz.prog 16 #[.pointer (some ⟨db, 0, none⟩)] w fun e w' => e = .returned (.int .i64 (4 * F : Nat)) ∧ w = w' := by
  obtain ⟨c0, c1, c2, c3, c4, c5, f3, f4, f5⟩ := h.cells
  clear h
  go_enter Tryz.func16, Tryz.ntmps16
  go_wp2
  go_ret
  exact ⟨by rw [Int.natCast_mul]; rfl, rfl⟩

theorem dig_limit (w : World) (db sb : Nat) (v : Value) (d F : Nat) (lo hi : Int) (l : Row) (h : DigO w db sb v d F lo hi l) (hF : 1 ≤ F) (hF' : F ≤ 64) (ht : rowTotal l < 18446744073709551616) :
    Calls Tryz.prog 98 #[.pointer (some ⟨db, 0, none⟩)] w fun e w' => e = .returned (.int .u64 (rowTotal l / F : Nat)) ∧ Below w.heap.size w w' := by
  obtain ⟨c0, c1, c2, c3, c4, c5, f3, f4, f5⟩ := h.cells
  have hs := fun n => dig_total (w.drewN n) db sb v d F lo hi l (h.next ⟨rfl, rfl, rfl, Nat.le_refl _, fun _ _ => rfl⟩)
  have z1 : ¬ ((F : Int) = 0) := by omega
  have z2 : ((F : Int) == 0) = false := by simp; omega
  obtain ⟨t, htt⟩ : ∃ t, t = rowTotal l := ⟨_, rfl⟩
  rw [← htt] at hs ht ⊢
  obtain ⟨q, hq⟩ : ∃ q, q = t / F := ⟨_, rfl⟩
  have hqt : q ≤ t := by rw [hq]; exact Nat.div_le_self _ _
  have e1 : IntKind.u64.wrap ((t : Int) / (F : Int)) = (q : Int) := by rw [← Int.natCast_ediv, ← hq]; exact Wd.wrapN q (by omega)
  rw [← hq]
  clear h htt hq
  go_enter Tryz.func98, Tryz.ntmps98
  go_wp2
  go_quiet ((go_at_call 116; refine Calls.quiet_of_same ((hs _).mono fun e w' hh => ⟨hh.1, hh.2.symm⟩)))
  go_wp2
  go_ret
  exact ⟨rfl, ⟨rfl, rfl, rfl, Nat.le_refl _, fun _ _ => rfl⟩⟩

theorem dig_ends_any (w : World) (db sb : Nat) (v : Value) (d F : Nat) (lo hi : Int) (l : Row) (h : DigO w db sb v d F lo hi l) (a b : Int) (ha : I64 a) (hb : I64 b) (hlo : I64 lo) (hhi : I64 hi) :
    Calls Tryz.prog 172 #[.pointer (some ⟨db, 0, none⟩), .int .i64 a, .int .i64 b] w fun e w' => e = .returned (.tuple #[]) ∧ ∃ a' b', I64 a' ∧ I64 b' ∧ DigO w' db sb v d F a' b' l ∧ Away (fun k => k = db) w w' := by
  obtain ⟨c0, c1, c2, c3, c4, c5, f3, f4, f5⟩ := h.cells
  have hs := dig_total w db sb v d F lo hi l h
  have FIN := Lib.hid (show ∀ (W : World) (a' b' : Int), W.heap = w.heap → W.os = w.os → W.tape = w.tape → W.output = w.output → DigO ((W.setCell ⟨db, 4, none⟩ (.int .i64 a')).setCell ⟨db, 5, none⟩ (.int .i64 b')) db sb v d F a' b' l ∧ Away (fun k => k = db) w ((W.setCell ⟨db, 4, none⟩ (.int .i64 a')).setCell ⟨db, 5, none⟩ (.int .i64 b')) from fun W a' b' e1 e2 e3 e4 => by
    have hb0 : Below w.heap.size w W := ⟨e2, e3, e4, by rw [e1]; exact Nat.le_refl _, fun k _ => by rw [e1]⟩
    exact ⟨(h.next hb0).ends a' b', ((Away.of_below (F := fun k => k = db) hb0).setCell ⟨db, 4, none⟩ _ (.inl rfl)).setCell ⟨db, 5, none⟩ _ (.inl rfl)⟩)
  clear h
  by_cases h0 : rowTotal l = 0
  · have g1 : (((rowTotal l : Nat) : Int) == 0) = true := by simp [h0]
    clear h0
    go_enter Tryz.func172, Tryz.ntmps172
    go_wp2_with (go_at_call 116; refine hs.mono ?_; rintro e w1 ⟨rfl, rfl⟩)
    refine bodyPost_ret (results_none rfl _ _ _) rfl ?_
    exact ⟨rfl, a, b, ha, hb, FIN.out w a b rfl rfl rfl rfl⟩
  · have g1 : (((rowTotal l : Nat) : Int) == 0) = false := by simp [h0]
    clear h0
    go_enter Tryz.func172, Tryz.ntmps172
    go_wp2_with (go_at_call 116; refine hs.mono ?_; rintro e w1 ⟨rfl, rfl⟩)
    go_region
    all_goals (try go_wp2)
    all_goals go_end0
    all_goals exact ⟨rfl, min lo a, max hi b, by unfold I64 at *; omega, by unfold I64 at *; omega, FIN.out w.drew _ _ rfl rfl rfl rfl⟩
end Go.Proofs.YtbejdajkkoapgaaGreatDoor

/-
  Contract of digest.New: an empty digest in new memory, or the error where the config can't be. Conditions: none.
-/
set_option linter.unusedVariables false
set_option linter.unusedSimpArgs false
set_option maxRecDepth 100000
namespace Go.Proofs.YtbejdajkkoapgaaGreatDoor
open Go.RowKit Go.Lib

theorem dig_new_bad (d F : Int) (w : World) (h : ¬ (1 ≤ d ∧ d ≤ 24 ∧ 1 ≤ F ∧ F ≤ 64)) :
    Calls Tryz.prog 15 #[.agg #[.int .i64 d, .int .i64 F]] w fun e w' => e = .returned (.tuple #[.pointer none, .int .i64 1]) ∧ Below w.heap.size w w' := by
  by_cases hd : d < 1 ∨ 24 < d
  · have ht := fun W => Tr.new_bad d W hd
    clear h hd
    go_enter Tryz.func15, Tryz.ntmps15
    go_wp2_with (go_at_call 27; refine (ht _).mono ?_; rintro e w1 ⟨rfl, hb1⟩)
    go_ret2
    exact ⟨rfl, ((((Below.refl _ _).alloc (Nat.le_refl _) _).trans (hb1.mono (by simp))).alloc (by have := hb1.size; simp at this; omega) _)⟩
  · have ht := fun W => Tr.new_good d W (by omega) (by omega)
    by_cases hF : F < 1
    · clear h hd
      go_enter Tryz.func15, Tryz.ntmps15
      go_wp2_with (go_at_call 27; refine (ht _).mono ?_; rintro e w1 ⟨rfl, hb1⟩; have B := (Blk.newAt (w := w) (n := w.heap.size) rfl).below hb1 (by simp); have k0 : w1.cell? ⟨w.heap.size, 0, none⟩ = some (.int .i64 d) := B.cell rfl; have k1 : w1.cell? ⟨w.heap.size, 1, none⟩ = some (.int .i64 F) := B.cell rfl; have z := B.lt)
      go_ret2
      exact ⟨rfl, ((((Below.refl _ _).alloc (Nat.le_refl _) _).trans (hb1.mono (by simp))).alloc (by have := hb1.size; simp at this; omega) _)⟩
    · have hF2 : 64 < F := by omega
      clear h hd
      go_enter Tryz.func15, Tryz.ntmps15
      go_wp2_with (go_at_call 27; refine (ht _).mono ?_; rintro e w1 ⟨rfl, hb1⟩; have B := (Blk.newAt (w := w) (n := w.heap.size) rfl).below hb1 (by simp); have k0 : w1.cell? ⟨w.heap.size, 0, none⟩ = some (.int .i64 d) := B.cell rfl; have k1 : w1.cell? ⟨w.heap.size, 1, none⟩ = some (.int .i64 F) := B.cell rfl; have z := B.lt)
      go_ret2
      exact ⟨rfl, ((((Below.refl _ _).alloc (Nat.le_refl _) _).trans (hb1.mono (by simp))).alloc (by have := hb1.size; simp at this; omega) _)⟩

theorem stripO_new (w : World) : StripO (w.alloc (.cells #[.int .i64 4096, .slice none 0 0, .int .u64 0] 115)) w.heap.size (.slice none 0 0) [] :=
  ⟨Blk.newAt rfl, World.ownsRow_nil _ _ _ _, trivial, fun x hx => by cases hx⟩

theorem dig_new (d F : Nat) (w : World) (h1 : 1 ≤ d) (h2 : d ≤ 24) (h3 : 1 ≤ F) (h4 : F ≤ 64) :
    Calls Tryz.prog 15 #[.agg #[.int .i64 (d : Int), .int .i64 (F : Int)]] w fun e w' => ∃ db sb, e = .returned (.tuple #[.pointer (some ⟨db, 0, none⟩), .int .i64 0]) ∧ DigO w' db sb (.slice none 0 0) d F 0 0 [] ∧
      w.heap.size ≤ db ∧ w.heap.size ≤ sb ∧ Below w.heap.size w w' := by
  have ht := fun W => Tr.new_good (d : Int) W (by omega) (by omega)
  have g1 : ¬ (F : Int) < 1 := by omega
  have g2 : ¬ 64 < (F : Int) := by omega
  clear h1 h2 h3 h4
  go_enter Tryz.func15, Tryz.ntmps15
  go_wp2_with (first
    | (go_at_call 27; refine (ht _).mono ?_; rintro e w1 ⟨rfl, hb1⟩; have B := (Blk.newAt (w := w) (n := w.heap.size) rfl).below hb1 (by simp); have k0 : w1.cell? ⟨w.heap.size, 0, none⟩ = some (.int .i64 (d : Int)) := B.cell rfl; have k1 : w1.cell? ⟨w.heap.size, 1, none⟩ = some (.int .i64 (F : Int)) := B.cell rfl; have z := B.lt)
    | (go_at_call 28; refine (strip_new _).mono ?_; rintro e w2 ⟨rfl, rfl⟩))
  go_ret2
  have hb2 : Below w.heap.size w w1 := ((Below.refl _ _).alloc (Nat.le_refl _) _).trans (hb1.mono (by simp))
  have S := ((stripO_new (w1.alloc (.cells #[.int .i64 (d : Int)] 82))).alloc (.cells #[.int .i64 (d : Int), .int .i64 (F : Int), .int .i64 (d : Int), .pointer (some ⟨w1.heap.size + 1, 0, none⟩), .int .i64 0, .int .i64 0] 89))
  have es : (w1.alloc (.cells #[.int .i64 (d : Int)] 82)).heap.size = w1.heap.size + 1 := by simp
  rw [es] at S
  have hsz := hb2.size
  refine ⟨w1.heap.size + 1 + 1, w1.heap.size + 1, rfl, ⟨Blk.newAt (by simp), S⟩, by omega, by omega, ?_⟩
  exact ((hb2.alloc hb2.size _).alloc (by simp; omega) _).alloc (by simp; omega) _
end Go.Proofs.YtbejdajkkoapgaaGreatDoor

