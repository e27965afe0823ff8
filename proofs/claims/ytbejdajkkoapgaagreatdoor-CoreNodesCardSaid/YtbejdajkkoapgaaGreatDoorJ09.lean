/-
  Several texts in one: Lf, Ly. What each proves, and on which conditions, stands at its head. Conditions: stated in each.
-/
import Derived.Test.YtbejdajkkoapgaaGreatDoorJ08
/-
  Contract of digest.lift: the values of a node and of the one beside go to the one above, where these are few enough; whether they did. Conditions: the node can be, the counts are small.
-/
set_option linter.unusedVariables false
set_option linter.unusedSimpArgs false
set_option maxRecDepth 100000
namespace Go.Proofs.YtbejdajkkoapgaaGreatDoor
open Go.RowKit Go.Lib

/-- the digest is there, and below the heap's size at the call nothing has turned -/
structure DgC (w : World) (db sb : Nat) (v : Value) (d F : Nat) (lo hi : Int) (l : Row) (W : World) : Prop where
  dig : DigO W db sb v d F lo hi l
  below : Below w.heap.size w W
theorem DgC.next {w W W' : World} {db sb : Nat} {v : Value} {d F : Nat} {lo hi : Int} {l : Row} (h : DgC w db sb v d F lo hi l W) (hb : Below W.heap.size W W') : DgC w db sb v d F lo hi l W' :=
  ⟨h.dig.next hb, h.below.trans (hb.mono h.below.size)⟩
theorem DgC.drew {w W : World} {db sb : Nat} {v : Value} {d F : Nat} {lo hi : Int} {l : Row} (h : DgC w db sb v d F lo hi l W) : DgC w db sb v d F lo hi l W.drew := ⟨h.dig.drew, h.below.drew⟩
/-- what is its own behind a call: what was, or new -/
def SubO (w : World) (P Q : Nat → Prop) : Prop := ∀ k, Q k → P k ∨ w.heap.size ≤ k

set_option maxHeartbeats 4000000 in
theorem lift_no (w : World) (db sb : Nat) (v : Value) (d F : Nat) (lo hi : Int) (l : Row) (x B U : Nat) (h : DigO w db sb v d F lo hi l) (h1 : 1 ≤ d) (h2 : d ≤ 24) (h3 : 1 ≤ F) (h4 : F ≤ 64)
    (hbes : ∀ W, Calls Tryz.prog 187 #[.agg #[.int .i64 (d : Int)], .int .i64 (x : Int)] W fun e w' => e = .returned (.int .i64 (B : Nat)) ∧ Below W.heap.size W w')
    (hup : ∀ W, Calls Tryz.prog 188 #[.agg #[.int .i64 (d : Int)], .int .i64 (x : Int)] W fun e w' => e = .returned (.int .i64 (U : Nat)) ∧ Below W.heap.size W w')
    (hlen : l.length ≤ 4000) (htot : rowTotal l ≤ 1000000) (hno : x = 1 ∨ rowAt l x = 0 ∨ rowTotal l / F < rowAt l x + rowAt l B + rowAt l U) :
    Calls Tryz.prog 178 #[.pointer (some ⟨db, 0, none⟩), .int .i64 (x : Int)] w fun e w' => e = .returned (.bool false) ∧ Below w.heap.size w w' := by
  have H : DgC w db sb v d F lo hi l w := ⟨h, Below.refl _ _⟩
  have ra := rowAt_le_total l x
  have rb := rowAt_le_total l B
  have rc := rowAt_le_total l U
  have hlim := fun W (k : DigO W db sb v d F lo hi l) => dig_limit W db sb v d F lo hi l k h3 h4 (by omega)
  obtain ⟨A1, hA1⟩ : ∃ a, a = rowAt l x := ⟨_, rfl⟩
  obtain ⟨A2, hA2⟩ : ∃ a, a = rowAt l B := ⟨_, rfl⟩
  obtain ⟨A3, hA3⟩ : ∃ a, a = rowAt l U := ⟨_, rfl⟩
  obtain ⟨T, hT⟩ : ∃ a, a = rowTotal l / F := ⟨_, rfl⟩
  have HA := Lib.hid (And.intro hA1 (And.intro hA2 hA3))
  rw [← hT] at hlim hno
  rw [← hA1, ← hA2, ← hA3] at hno
  rw [← hA1] at ra
  rw [← hA2] at rb
  rw [← hA3] at rc
  have ew1 : IntKind.u64.wrap ((A1 : Int) + (A2 : Int)) = (A1 : Int) + (A2 : Int) := by rw [IntKind.wrap_u64]; omega
  have ew2 : IntKind.u64.wrap ((A1 : Int) + (A2 : Int) + (A3 : Int)) = (A1 : Int) + (A2 : Int) + (A3 : Int) := by rw [IntKind.wrap_u64]; omega
  clear hA1 hA2 hA3 hT h
  go_enter Tryz.func178, Tryz.ntmps178
  go_upto_region 1 with fail
  refine wp_region_quiet_litC (C := DgC w db sb v d F lo hi l) (by kernel_rfl) (by kernel_rfl) H.drew ?_
  repeat (first | go_big_quiet_skip | (go_big_quiet_want; go_big_quiet_op; first | go_big_quiet_on | (refine quiet_const ?_; go_big_quiet_on)))
  go_big_quiet_want
  refine ⟨.pointer (some ⟨sb, 0, none⟩), fun wx hx => ?_, ?_⟩
  · obtain ⟨k0, k1, k2, k3, k4, k5, m3, m4, m5⟩ := hx.dig.cells
    go_simp
  go_big_quiet_on
  simp only [Act.put, List.setIfInBounds_toArray, List.set_cons_zero, List.set_cons_succ]
  repeat (first | go_big_quiet_skip | (go_big_quiet_want; go_big_quiet_op; first | go_big_quiet_on | (refine quiet_const ?_; go_big_quiet_on)))
  go_big_quiet_want
  go_big_quiet_op
  refine ⟨.int .u64 (rowAt l x : Nat), fun wx hx => ?_, ?_⟩
  · exact (at_any _ sb v l (x) hx.dig.strip (by omega)).mono fun _ _ hm => ⟨hm.1, hx.next hm.2⟩
  go_big_quiet_on
  repeat (first | go_big_quiet_skip | (go_big_quiet_want; go_big_quiet_op; first | go_big_quiet_on | (refine quiet_const ?_; go_big_quiet_on)))
  go_big_quiet_want
  refine ⟨.pointer (some ⟨sb, 0, none⟩), fun wx hx => ?_, ?_⟩
  · obtain ⟨k0, k1, k2, k3, k4, k5, m3, m4, m5⟩ := hx.dig.cells
    go_simp
  go_big_quiet_on
  simp only [Act.put, List.setIfInBounds_toArray, List.set_cons_zero, List.set_cons_succ]
  repeat (first | go_big_quiet_skip | (go_big_quiet_want; go_big_quiet_op; first | go_big_quiet_on | (refine quiet_const ?_; go_big_quiet_on)))
  go_big_quiet_want
  refine ⟨.agg #[.int .i64 (d : Int)], fun wx hx => ?_, ?_⟩
  · obtain ⟨k0, k1, k2, k3, k4, k5, m3, m4, m5⟩ := hx.dig.cells
    go_simp
  go_big_quiet_on
  simp only [Act.put, List.setIfInBounds_toArray, List.set_cons_zero, List.set_cons_succ]
  repeat (first | go_big_quiet_skip | (go_big_quiet_want; go_big_quiet_op; first | go_big_quiet_on | (refine quiet_const ?_; go_big_quiet_on)))
  go_big_quiet_want
  go_big_quiet_op
  refine ⟨.int .i64 (B : Nat), fun wx hx => ?_, ?_⟩
  · exact (hbes wx).mono fun _ _ hm => ⟨hm.1, hx.next hm.2⟩
  go_big_quiet_on
  repeat (first | go_big_quiet_skip | (go_big_quiet_want; go_big_quiet_op; first | go_big_quiet_on | (refine quiet_const ?_; go_big_quiet_on)))
  go_big_quiet_want
  go_big_quiet_op
  refine ⟨.int .u64 (rowAt l B : Nat), fun wx hx => ?_, ?_⟩
  · exact (at_any _ sb v l (B) hx.dig.strip (by omega)).mono fun _ _ hm => ⟨hm.1, hx.next hm.2⟩
  go_big_quiet_on
  repeat (first | go_big_quiet_skip | (go_big_quiet_want; go_big_quiet_op; first | go_big_quiet_on | (refine quiet_const ?_; go_big_quiet_on)))
  go_big_quiet_want
  refine ⟨.pointer (some ⟨sb, 0, none⟩), fun wx hx => ?_, ?_⟩
  · obtain ⟨k0, k1, k2, k3, k4, k5, m3, m4, m5⟩ := hx.dig.cells
    go_simp
  go_big_quiet_on
  simp only [Act.put, List.setIfInBounds_toArray, List.set_cons_zero, List.set_cons_succ]
  repeat (first | go_big_quiet_skip | (go_big_quiet_want; go_big_quiet_op; first | go_big_quiet_on | (refine quiet_const ?_; go_big_quiet_on)))
  go_big_quiet_want
  refine ⟨.agg #[.int .i64 (d : Int)], fun wx hx => ?_, ?_⟩
  · obtain ⟨k0, k1, k2, k3, k4, k5, m3, m4, m5⟩ := hx.dig.cells
    go_simp
  go_big_quiet_on
  simp only [Act.put, List.setIfInBounds_toArray, List.set_cons_zero, List.set_cons_succ]
  repeat (first | go_big_quiet_skip | (go_big_quiet_want; go_big_quiet_op; first | go_big_quiet_on | (refine quiet_const ?_; go_big_quiet_on)))
  go_big_quiet_want
  go_big_quiet_op
  refine ⟨.int .i64 (U : Nat), fun wx hx => ?_, ?_⟩
  · exact (hup wx).mono fun _ _ hm => ⟨hm.1, hx.next hm.2⟩
  go_big_quiet_on
  repeat (first | go_big_quiet_skip | (go_big_quiet_want; go_big_quiet_op; first | go_big_quiet_on | (refine quiet_const ?_; go_big_quiet_on)))
  go_big_quiet_want
  go_big_quiet_op
  refine ⟨.int .u64 (rowAt l U : Nat), fun wx hx => ?_, ?_⟩
  · exact (at_any _ sb v l (U) hx.dig.strip (by omega)).mono fun _ _ hm => ⟨hm.1, hx.next hm.2⟩
  go_big_quiet_on
  repeat (first | go_big_quiet_skip | (go_big_quiet_want; go_big_quiet_op; first | go_big_quiet_on | (refine quiet_const ?_; go_big_quiet_on)))
  refine wpQuiet_nil ?_
  rw [← HA.out.1, ← HA.out.2.1, ← HA.out.2.2]
  intro wx Hx
  obtain ⟨k0, k1, k2, k3, k4, k5, m3, m4, m5⟩ := Hx.dig.cells
  have hl := hlim wx Hx.dig
  have hbw := Hx.below
  clear H Hx hlim hbes hup
  by_cases e1 : x = 1
  · have g1 : ((x : Int) == 1) = true := by simp; omega
    clear e1 hno
    go_wp2_with fail
    go_ret
    exact ⟨rfl, hbw⟩
  · have g1 : ((x : Int) == 1) = false := by simp; omega
    by_cases e2 : A1 = 0
    · have g2 : ((A1 : Int) == 0) = true := by simp [e2]
      clear e1 e2 hno
      go_wp2_with fail
      go_ret
      exact ⟨rfl, hbw⟩
    · have g2 : ((A1 : Int) == 0) = false := by simp [e2]
      have g3 : (T : Int) < (A1 : Int) + (A2 : Int) + (A3 : Int) := by omega
      have g4 : decide ((T : Int) < (A1 : Int) + (A2 : Int) + (A3 : Int)) = true := by simp; omega
      clear e1 e2 hno
      go_wp2_with (go_at_call 98; refine hl.mono ?_; rintro e w2 ⟨rfl, hb2⟩)
      go_ret
      exact ⟨rfl, hbw.trans (hb2.mono hbw.size)⟩
end Go.Proofs.YtbejdajkkoapgaaGreatDoor

/-
  Contract of digest.lift where it lifts: a new strip without the two nodes, the one above with their counts. Conditions: the node can be and is not the first one, the counts are small.
-/
set_option linter.unusedVariables false
set_option linter.unusedSimpArgs false
set_option maxRecDepth 100000
namespace Go.Proofs.YtbejdajkkoapgaaGreatDoor
open Go.RowKit Go.Lib

theorem addL_end {m : Row} {i : Nat} (c : Nat) (h : ∀ y ∈ m, y.1 < i) : addL m i c = m ++ [(i, c)] := by
  induction m with
  | nil => rfl
  | cons x m ih =>
    unfold addL
    rw [if_pos (h x List.mem_cons_self), ih fun y hy => h y (List.mem_cons_of_mem _ hy)]; rfl
theorem filter_take (l : Row) (f : Nat × Nat → Bool) (k : Nat) (hk : k < l.length) : (l.take (k + 1)).filter f = (l.take k).filter f ++ (if f (l[k]'hk) then [l[k]'hk] else []) := by
  rw [List.take_succ_eq_append_getElem hk, List.filter_append]
  congr 1
  simp [List.filter_cons]
theorem filter_lt (l : Row) (f : Nat × Nat → Bool) (h : Rising l) (k : Nat) (hk : k < l.length) : ∀ y ∈ (l.take k).filter f, y.1 < (l[k]'hk).1 := by
  intro y hy
  have hy' := (List.mem_filter.1 hy).1
  obtain ⟨i, hi, rfl⟩ := List.getElem_of_mem hy'
  rw [List.length_take] at hi
  rw [List.getElem_take]
  exact rising_lt h (by omega) hk (by omega)
theorem rowTotal_filter_le (l : Row) (f : Nat × Nat → Bool) : rowTotal (l.filter f) ≤ rowTotal l := by
  induction l with
  | nil => exact Nat.le_refl _
  | cons x l ih =>
    rw [List.filter_cons]
    unfold rowTotal at *
    split
    · rw [sumIf_cons, sumIf_cons]; omega
    · rw [sumIf_cons]; omega
theorem rowTotal_take_le (l : Row) (k : Nat) : rowTotal (l.take k) ≤ rowTotal l := by
  have h : rowTotal (l.take k ++ l.drop k) = rowTotal (l.take k) + rowTotal (l.drop k) := sumIf_append _ _ _
  rw [List.take_append_drop] at h
  omega

/-- what lies in memory while a lift goes on -/
structure LfC (w : World) (db sb : Nat) (v : Value) (d F : Nat) (lo hi : Int) (l : Row) (sn : Nat) (vk : Value) (m : Row) (vp : Value) (W : World) : Prop where
  dig : DigO W db sb v d F lo hi l
  below : Below w.heap.size w W
  st : StripO W sn vk m
  own : W.ownsRow 0 228 2 vp l.length (rowC l)
  lt : ∀ k, Own db sb v k → k < w.heap.size
  fresh : w.heap.size ≤ sn ∧ ∀ g, vk.ownBlock = some g → w.heap.size ≤ g
  apart : ∀ g, vp.ownBlock = some g → g ≠ sn ∧ vk.ownBlock ≠ some g
section
variable {w W W' : World} {db sb : Nat} {v : Value} {d F : Nat} {lo hi : Int} {l : Row} {sn : Nat} {vk : Value} {m : Row} {vp : Value}
theorem LfC.next (h : LfC w db sb v d F lo hi l sn vk m vp W) (hb : Below W.heap.size W W') : LfC w db sb v d F lo hi l sn vk m vp W' :=
  ⟨h.dig.next hb, h.below.trans (hb.mono h.below.size), h.st.next hb, owns_below h.own hb fun g hg => (h.own.lt g hg).2, h.lt, h.fresh, h.apart⟩
theorem LfC.drew (h : LfC w db sb v d F lo hi l sn vk m vp W) : LfC w db sb v d F lo hi l sn vk m vp W.drew := ⟨h.dig.drew, h.below.drew, h.st.drew, h.own.drew, h.lt, h.fresh, h.apart⟩
theorem LfC.add {v' : Value} {m' : Row} (h : LfC w db sb v d F lo hi l sn vk m vp W) (hs : StripO W' sn v' m') (ha : Away (fun k => k = sn ∨ vk.ownBlock = some k) W W') (hk : Kin W vk v') : LfC w db sb v d F lo hi l sn v' m' vp W' := by
  have hnew : ∀ k, k < w.heap.size → ¬ (k = sn ∨ vk.ownBlock = some k) := by
    rintro k hk (rfl | h2)
    · have := h.fresh.1; omega
    · have := h.fresh.2 k h2; omega
  refine ⟨h.dig.away ha fun k hk => hnew k (h.lt k hk), h.below.trans (ha.below h.below.size hnew), hs, owns_away h.own ha fun g hg => ?_, h.lt, ⟨h.fresh.1, fun g hg => ?_⟩, fun g hg => ⟨(h.apart g hg).1, fun e => ?_⟩⟩
  · rintro (e | e)
    · exact (h.apart g hg).1 e
    · exact (h.apart g hg).2 e
  · rcases hk with hk | ⟨k, hk, hk2⟩
    · exact h.fresh.2 g (hk ▸ hg)
    · rw [hk] at hg; cases hg; exact Nat.le_trans h.below.size hk2
  · rcases hk with hk | ⟨k, hk, hk2⟩
    · exact (h.apart g hg).2 (hk ▸ e)
    · rw [hk] at e; cases e; have := (h.own.lt g hg).2; omega
end

/-- .. and the pair of the round -/
structure R8C (w : World) (db sb : Nat) (v : Value) (d F : Nat) (lo hi : Int) (l : Row) (sn : Nat) (vk : Value) (m : Row) (vp : Value) (b ix ct : Nat) (W : World) : Prop where
  lf : LfC w db sb v d F lo hi l sn vk m vp W
  p0 : W.cell? ⟨b, 0, none⟩ = some (.int .i64 (ix : Int))
  p1 : W.cell? ⟨b, 1, none⟩ = some (.int .u64 (ct : Int))
theorem R8C.next {w W W' : World} {db sb : Nat} {v : Value} {d F : Nat} {lo hi : Int} {l : Row} {sn : Nat} {vk : Value} {m : Row} {vp : Value} {b ix ct : Nat} (h : R8C w db sb v d F lo hi l sn vk m vp b ix ct W) (hb : Below W.heap.size W W') : R8C w db sb v d F lo hi l sn vk m vp b ix ct W' :=
  ⟨h.lf.next hb, (hb.cell (p := ⟨b, 0, none⟩) (block_lt_of_cell (a := ⟨b, 0, none⟩) h.p0)).trans h.p0, (hb.cell (p := ⟨b, 1, none⟩) (block_lt_of_cell (a := ⟨b, 1, none⟩) h.p1)).trans h.p1⟩

set_option maxHeartbeats 8000000 in
theorem lift_yes (w : World) (db sb : Nat) (v : Value) (d F : Nat) (lo hi : Int) (l : Row) (x B U : Nat) (h : DigO w db sb v d F lo hi l) (h1 : 1 ≤ d) (h2 : d ≤ 24) (h3 : 1 ≤ F) (h4 : F ≤ 64)
    (hbes : ∀ W, Calls Tryz.prog 187 #[.agg #[.int .i64 (d : Int)], .int .i64 (x : Int)] W fun e w' => e = .returned (.int .i64 (B : Nat)) ∧ Below W.heap.size W w')
    (hup : ∀ W, Calls Tryz.prog 188 #[.agg #[.int .i64 (d : Int)], .int .i64 (x : Int)] W fun e w' => e = .returned (.int .i64 (U : Nat)) ∧ Below W.heap.size W w')
    (hlen : l.length ≤ 4000) (htot : rowTotal l ≤ 1000000) (hx1 : x ≠ 1) (hx0 : rowAt l x ≠ 0) (hyes : rowAt l x + rowAt l B + rowAt l U ≤ rowTotal l / F) :
    Calls Tryz.prog 178 #[.pointer (some ⟨db, 0, none⟩), .int .i64 (x : Int)] w fun e w' => e = .returned (.bool true) ∧
      ∃ sb' v', DigO w' db sb' v' d F lo hi (addL (l.filter fun y => y.1 != x && y.1 != B) U (rowAt l x + rowAt l B)) ∧ w.heap.size ≤ sb' ∧ (∀ g, v'.ownBlock = some g → w.heap.size ≤ g) ∧ Away (fun k => k = db) w w' := by
  have H : DgC w db sb v d F lo hi l w := ⟨h, Below.refl _ _⟩
  have ra := rowAt_le_total l x
  have rb := rowAt_le_total l B
  have rc := rowAt_le_total l U
  have hrise := h.strip.rising
  have hfull := h.strip.full
  have hlt := h.lt
  have hlim := fun W (k : DigO W db sb v d F lo hi l) => dig_limit W db sb v d F lo hi l k h3 h4 (by omega)
  obtain ⟨A1, hA1⟩ : ∃ a, a = rowAt l x := ⟨_, rfl⟩
  obtain ⟨A2, hA2⟩ : ∃ a, a = rowAt l B := ⟨_, rfl⟩
  obtain ⟨A3, hA3⟩ : ∃ a, a = rowAt l U := ⟨_, rfl⟩
  obtain ⟨T, hT⟩ : ∃ a, a = rowTotal l / F := ⟨_, rfl⟩
  have hat1 := fun W (k : DigO W db sb v d F lo hi l) => at_any W sb v l x k.strip (by omega)
  have hat2 := fun W (k : DigO W db sb v d F lo hi l) => at_any W sb v l B k.strip (by omega)
  have hat3 := fun W (k : DigO W db sb v d F lo hi l) => at_any W sb v l U k.strip (by omega)
  rw [← hA1] at hat1 ra hx0 hyes ⊢
  rw [← hA2] at hat2 rb hyes ⊢
  rw [← hA3] at hat3 rc hyes
  rw [← hT] at hlim hyes
  have ew1 : IntKind.u64.wrap ((A1 : Int) + (A2 : Int)) = (A1 : Int) + (A2 : Int) := by rw [IntKind.wrap_u64]; omega
  have ew2 : IntKind.u64.wrap ((A1 : Int) + (A2 : Int) + (A3 : Int)) = (A1 : Int) + (A2 : Int) + (A3 : Int) := by rw [IntKind.wrap_u64]; omega
  have hpairs := fun W (k : DigO W db sb v d F lo hi l) => pairs_any W sb v l k.strip (by omega)
  have g1 : ((x : Int) == 1) = false := by simp; omega
  have g2 : ((A1 : Int) == 0) = false := by simp; omega
  have g3 : ¬ (T : Int) < (A1 : Int) + (A2 : Int) + (A3 : Int) := by omega
  have g4 : decide ((T : Int) < (A1 : Int) + (A2 : Int) + (A3 : Int)) = false := by simp; omega
  clear hA1 hA2 hA3 hT h
  go_enter Tryz.func178, Tryz.ntmps178
  go_upto_region 1 with fail
  refine wp_region_quiet_litC (C := DgC w db sb v d F lo hi l) (by kernel_rfl) (by kernel_rfl) H.drew ?_
  repeat (first | go_big_quiet_skip | (go_big_quiet_want; go_big_quiet_op; first | go_big_quiet_on | (refine quiet_const ?_; go_big_quiet_on)))
  go_big_quiet_want
  refine ⟨.pointer (some ⟨sb, 0, none⟩), fun wx hx => ?_, ?_⟩
  · obtain ⟨k0, k1, k2, k3, k4, k5, m3, m4, m5⟩ := hx.dig.cells
    go_simp
  go_big_quiet_on
  simp only [Act.put, List.setIfInBounds_toArray, List.set_cons_zero, List.set_cons_succ]
  repeat (first | go_big_quiet_skip | (go_big_quiet_want; go_big_quiet_op; first | go_big_quiet_on | (refine quiet_const ?_; go_big_quiet_on)))
  go_big_quiet_want
  go_big_quiet_op
  refine ⟨.int .u64 (A1 : Nat), fun wx hx => ?_, ?_⟩
  · exact (hat1 _ hx.dig).mono fun _ _ hm => ⟨hm.1, hx.next hm.2⟩
  go_big_quiet_on
  repeat (first | go_big_quiet_skip | (go_big_quiet_want; go_big_quiet_op; first | go_big_quiet_on | (refine quiet_const ?_; go_big_quiet_on)))
  go_big_quiet_want
  refine ⟨.pointer (some ⟨sb, 0, none⟩), fun wx hx => ?_, ?_⟩
  · obtain ⟨k0, k1, k2, k3, k4, k5, m3, m4, m5⟩ := hx.dig.cells
    go_simp
  go_big_quiet_on
  simp only [Act.put, List.setIfInBounds_toArray, List.set_cons_zero, List.set_cons_succ]
  repeat (first | go_big_quiet_skip | (go_big_quiet_want; go_big_quiet_op; first | go_big_quiet_on | (refine quiet_const ?_; go_big_quiet_on)))
  go_big_quiet_want
  refine ⟨.agg #[.int .i64 (d : Int)], fun wx hx => ?_, ?_⟩
  · obtain ⟨k0, k1, k2, k3, k4, k5, m3, m4, m5⟩ := hx.dig.cells
    go_simp
  go_big_quiet_on
  simp only [Act.put, List.setIfInBounds_toArray, List.set_cons_zero, List.set_cons_succ]
  repeat (first | go_big_quiet_skip | (go_big_quiet_want; go_big_quiet_op; first | go_big_quiet_on | (refine quiet_const ?_; go_big_quiet_on)))
  go_big_quiet_want
  go_big_quiet_op
  refine ⟨.int .i64 (B : Nat), fun wx hx => ?_, ?_⟩
  · exact (hbes wx).mono fun _ _ hm => ⟨hm.1, hx.next hm.2⟩
  go_big_quiet_on
  repeat (first | go_big_quiet_skip | (go_big_quiet_want; go_big_quiet_op; first | go_big_quiet_on | (refine quiet_const ?_; go_big_quiet_on)))
  go_big_quiet_want
  go_big_quiet_op
  refine ⟨.int .u64 (A2 : Nat), fun wx hx => ?_, ?_⟩
  · exact (hat2 _ hx.dig).mono fun _ _ hm => ⟨hm.1, hx.next hm.2⟩
  go_big_quiet_on
  repeat (first | go_big_quiet_skip | (go_big_quiet_want; go_big_quiet_op; first | go_big_quiet_on | (refine quiet_const ?_; go_big_quiet_on)))
  go_big_quiet_want
  refine ⟨.pointer (some ⟨sb, 0, none⟩), fun wx hx => ?_, ?_⟩
  · obtain ⟨k0, k1, k2, k3, k4, k5, m3, m4, m5⟩ := hx.dig.cells
    go_simp
  go_big_quiet_on
  simp only [Act.put, List.setIfInBounds_toArray, List.set_cons_zero, List.set_cons_succ]
  repeat (first | go_big_quiet_skip | (go_big_quiet_want; go_big_quiet_op; first | go_big_quiet_on | (refine quiet_const ?_; go_big_quiet_on)))
  go_big_quiet_want
  refine ⟨.agg #[.int .i64 (d : Int)], fun wx hx => ?_, ?_⟩
  · obtain ⟨k0, k1, k2, k3, k4, k5, m3, m4, m5⟩ := hx.dig.cells
    go_simp
  go_big_quiet_on
  simp only [Act.put, List.setIfInBounds_toArray, List.set_cons_zero, List.set_cons_succ]
  repeat (first | go_big_quiet_skip | (go_big_quiet_want; go_big_quiet_op; first | go_big_quiet_on | (refine quiet_const ?_; go_big_quiet_on)))
  go_big_quiet_want
  go_big_quiet_op
  refine ⟨.int .i64 (U : Nat), fun wx hx => ?_, ?_⟩
  · exact (hup wx).mono fun _ _ hm => ⟨hm.1, hx.next hm.2⟩
  go_big_quiet_on
  repeat (first | go_big_quiet_skip | (go_big_quiet_want; go_big_quiet_op; first | go_big_quiet_on | (refine quiet_const ?_; go_big_quiet_on)))
  go_big_quiet_want
  go_big_quiet_op
  refine ⟨.int .u64 (A3 : Nat), fun wx hx => ?_, ?_⟩
  · exact (hat3 _ hx.dig).mono fun _ _ hm => ⟨hm.1, hx.next hm.2⟩
  go_big_quiet_on
  repeat (first | go_big_quiet_skip | (go_big_quiet_want; go_big_quiet_op; first | go_big_quiet_on | (refine quiet_const ?_; go_big_quiet_on)))
  refine wpQuiet_nil ?_
  intro wx Hx
  clear H
  obtain ⟨k0, k1, k2, k3, k4, k5, m3, m4, m5⟩ := Hx.dig.cells
  go_wp2_with fail
  refine (hlim wx Hx.dig).mono ?_
  rintro e w2 ⟨rfl, hb2⟩
  have H2 := Hx.next hb2
  clear k0 k1 k2 k3 k4 k5 m3 m4 m5 Hx hb2 hlim hat1 hat2 hat3
  go_wp2_with fail
  refine (strip_new _).mono ?_
  rintro e w3 ⟨rfl, rfl⟩
  have H3 := H2.next ((Below.refl _ _).alloc (Nat.le_refl _) (.cells #[.int .i64 4096, .slice none 0 0, .int .u64 0] 115))
  have S3 := stripO_new w2
  have hsn : w.heap.size ≤ w2.heap.size := H2.below.size
  generalize w2.heap.size = sn at S3 hsn ⊢
  generalize w2.alloc (.cells #[.int .i64 4096, .slice none 0 0, .int .u64 0] 115) = W3 at H3 S3 ⊢
  clear H2
  obtain ⟨k0, k1, k2, k3, k4, k5, m3, m4, m5⟩ := H3.dig.cells
  go_wp2_with fail
  refine (hpairs W3 H3.dig).mono ?_
  rintro e w4 ⟨vp, rfl, ho4, hb4⟩
  have L4 : LfC w db sb v d F lo hi l sn (.slice none 0 0) [] vp w4 :=
    ⟨H3.dig.next hb4, H3.below.trans (hb4.mono H3.below.size), S3.next hb4, owns_base ho4 fun g _ => Nat.zero_le _, hlt, ⟨hsn, fun g hg => by cases hg⟩, fun g hg => ⟨fun e => by have := (ho4.lt g hg).1; have := S3.blk.lt; omega, fun e => by cases e⟩⟩
  clear k0 k1 k2 k3 k4 k5 m3 m4 m5 H3 S3 hpairs ho4 hb4
  obtain ⟨Ap, cp, hvp⟩ := owns_slice L4.own
  subst hvp
  clear hlt hsn g1 g2 g3 g4 hyes
  go_wp2_with fail
  go_loopg [11, 66] l.length (fun g p i wr => ∃ k vk, i = .int .i64 (k : Nat) ∧ k ≤ l.length ∧ l.length - k ≤ g ∧ LfC w db sb v d F lo hi l sn vk ((l.take k).filter fun y => y.1 != x && y.1 != B) (.slice Ap l.length cp) wr)
  case atStart => exact ⟨0, .slice none 0 0, rfl, Nat.zero_le _, Nat.le_refl _, L4⟩
  case round =>
    clear L4
    obtain ⟨k, vk, rfl, hk, hg, L⟩ := hrel
    by_cases hlt' : k < l.length
    · have hm1 := rowTotal_filter_le (l.take k) fun y => y.1 != x && y.1 != B
      have hm2 := rowTotal_take_le l k
      have hm3 : ((l.take k).filter fun y => y.1 != x && y.1 != B).length < 4096 := by
        have := List.length_filter_le (fun y => y.1 != x && y.1 != B) (l.take k)
        rw [List.length_take] at this
        omega
      have hft := filter_take l (fun y => y.1 != x && y.1 != B) k hlt'
      have hfl := filter_lt l (fun y => y.1 != x && y.1 != B) hrise k hlt'
      have hc1 := hfull _ (List.getElem_mem hlt')
      obtain ⟨ix, hix⟩ : ∃ i, i = (l[k]'hlt').1 := ⟨_, rfl⟩
      obtain ⟨ct, hct⟩ : ∃ i, i = (l[k]'hlt').2 := ⟨_, rfl⟩
      have hct2 : ct ≤ rowTotal l := by
        have := rowAt_le_total l ix
        rw [hix, rowAt_mem hrise (List.getElem_mem hlt')] at this
        omega
      have hpr : (l[k]'hlt') = (ix, ct) := by rw [hix, hct]
      rw [hpr] at hft hfl hc1
      simp only at hft hfl hc1
      have e0 : (rowC l)[k * 2]? = some (.int .i64 (ix : Int)) := by rw [rowC_fst l k hlt', hix]
      have e1 : (rowC l)[k * 2 + 1]? = some (.int .u64 (ct : Int)) := by rw [rowC_snd l k hlt', hct]
      generalize hm : ((l.take k).filter fun y => y.1 != x && y.1 != B) = m at *
      generalize hmm : ((l.take (k + 1)).filter fun y => y.1 != x && y.1 != B) = m' at *
      rcases owns_shape L.own with ⟨hv0, hn0, _⟩ | ⟨g, cap, hv0, hnc, hcap, _, hgl⟩
      · omega
      · simp only [Value.slice.injEq, true_and] at hv0
        obtain ⟨rfl, rfl⟩ := hv0
        have c0 : wr.cell? ⟨g, k * 2, none⟩ = some (.int .i64 (ix : Int)) := by rw [L.own.cellAt _ (by omega)]; exact e0
        have c1 : wr.cell? ⟨g, k * 2 + 1, none⟩ = some (.int .u64 (ct : Int)) := by rw [L.own.cellAt _ (by omega)]; exact e1
        have L1 := L.next ((Below.refl _ _).alloc (Nat.le_refl _) (.cells #[.int .i64 (ix : Int), .int .u64 (ct : Int)] 228))
        have B1 := Blk.new wr #[.int .i64 (ix : Int), .int .u64 (ct : Int)] 228
        have hLT : (k : Int) < (l.length : Int) := by omega
        have HFT := Lib.hid (And.intro hft (And.intro hm hmm))
        clear L hix hct hpr e0 e1 hft hm hmm hnc hcap hgl
        go_upto_region 8 with fail
        generalize wr.heap.size = b at B1 ⊢
        generalize wr.alloc (.cells #[.int .i64 (ix : Int), .int .u64 (ct : Int)] 228) = W1 at L1 B1 ⊢
        have HC : R8C w db sb v d F lo hi l sn vk m (.slice (some ⟨g, 0, none⟩) l.length cp) b ix ct W1.drew := ⟨L1.drew, B1.drew.cell rfl, B1.drew.cell rfl⟩
        clear L1 B1 c0 c1
        by_cases hA : ix = x
        · have gA : ((ix : Int) != (x : Int)) = false := by simp [hA]
          have gA2 : ((ix : Int) == (x : Int)) = true := by simp [hA]
          have gA3 : (ix == x) = true := by simp [hA]
          have hm' : m' = m := by rw [HFT.out.1]; simp [hA]
          have HM := Lib.hid hm'
          clear hA hm'
          refine wp_region_quiet_litC (C := R8C w db sb v d F lo hi l sn vk m (.slice (some ⟨g, 0, none⟩) l.length cp) b ix ct) (by kernel_rfl) (by kernel_rfl) HC ?_
          repeat (first | go_big_quiet_skip | (go_big_quiet_want; go_big_quiet_op; first | go_big_quiet_on | (refine quiet_const ?_; go_big_quiet_on)))
          go_big_quiet_want
          refine ⟨.int .i64 (ix : Int), fun wx hx => ?_, ?_⟩
          · have q0 := hx.p0
            go_simp
          go_big_quiet_on
          simp only [Act.put, List.setIfInBounds_toArray, List.set_cons_zero, List.set_cons_succ]
          repeat (first | go_big_quiet_skip | (go_big_quiet_want; go_big_quiet_op; first | go_big_quiet_on | (refine quiet_const ?_; go_big_quiet_on)))
          refine wpQuiet_nil ?_
          intro wx Hx
          clear HC
          go_wp2_with fail
          go_roundg (l.length - (k + 1))
          case measure => omega
          case rel => exact ⟨k + 1, vk, by go_num, by omega, Nat.le_refl _, by rw [HFT.out.2.2, HM.out]; exact Hx.lf⟩
        · have gA : ((ix : Int) != (x : Int)) = true := by simp; omega
          have gA2 : ((ix : Int) == (x : Int)) = false := by simp; omega
          have gA3 : (ix == x) = false := by simp; omega
          by_cases hB : ix = B
          · have gB : ((ix : Int) != (B : Int)) = false := by simp [hB]
            have gB2 : ((ix : Int) == (B : Int)) = true := by simp [hB]
            have hm' : m' = m := by rw [HFT.out.1]; simp [hB]
            have HM := Lib.hid hm'
            clear hA hB hm'
            refine wp_region_quiet_litC (C := R8C w db sb v d F lo hi l sn vk m (.slice (some ⟨g, 0, none⟩) l.length cp) b ix ct) (by kernel_rfl) (by kernel_rfl) HC ?_
            repeat (first | go_big_quiet_skip | (go_big_quiet_want; go_big_quiet_op; first | go_big_quiet_on | (refine quiet_const ?_; go_big_quiet_on)))
            go_big_quiet_want
            refine ⟨.int .i64 (ix : Int), fun wx hx => ?_, ?_⟩
            · have q0 := hx.p0
              go_simp
            go_big_quiet_on
            simp only [Act.put, List.setIfInBounds_toArray, List.set_cons_zero, List.set_cons_succ]
            repeat (first | go_big_quiet_skip | (go_big_quiet_want; go_big_quiet_op; first | go_big_quiet_on | (refine quiet_const ?_; go_big_quiet_on)))
            go_big_quiet_want
            refine ⟨.int .i64 (ix : Int), fun wx hx => ?_, ?_⟩
            · have q0 := hx.p0
              go_simp
            go_big_quiet_on
            simp only [Act.put, List.setIfInBounds_toArray, List.set_cons_zero, List.set_cons_succ]
            repeat (first | go_big_quiet_skip | (go_big_quiet_want; go_big_quiet_op; first | go_big_quiet_on | (refine quiet_const ?_; go_big_quiet_on)))
            go_big_quiet_want
            refine ⟨.agg #[.int .i64 (d : Int)], fun wx hx => ?_, ?_⟩
            · obtain ⟨k0, k1, k2, k3, k4, k5, m3, m4, m5⟩ := hx.lf.dig.cells
              go_simp
            go_big_quiet_on
            simp only [Act.put, List.setIfInBounds_toArray, List.set_cons_zero, List.set_cons_succ]
            repeat (first | go_big_quiet_skip | (go_big_quiet_want; go_big_quiet_op; first | go_big_quiet_on | (refine quiet_const ?_; go_big_quiet_on)))
            go_big_quiet_want
            go_big_quiet_op
            refine ⟨.int .i64 (B : Nat), fun wx hx => ?_, ?_⟩
            · exact (hbes wx).mono fun _ _ hm => ⟨hm.1, hx.next hm.2⟩
            go_big_quiet_on
            repeat (first | go_big_quiet_skip | (go_big_quiet_want; go_big_quiet_op; first | go_big_quiet_on | (refine quiet_const ?_; go_big_quiet_on)))
            refine wpQuiet_nil ?_
            intro wx Hx
            clear HC
            go_wp2_with fail
            go_roundg (l.length - (k + 1))
            case measure => omega
            case rel => exact ⟨k + 1, vk, by go_num, by omega, Nat.le_refl _, by rw [HFT.out.2.2, HM.out]; exact Hx.lf⟩
          · have gB : ((ix : Int) != (B : Int)) = true := by simp; omega
            have gB2 : ((ix : Int) == (B : Int)) = false := by simp; omega
            have hm' : m' = m ++ [(ix, ct)] := by rw [HFT.out.1]; simp [hA, hB]
            have hm2' : addL m ix ct = m' := by rw [hm', addL_end ct hfl]
            have HM := Lib.hid hm2'
            clear hA hB hm' hm2'
            refine wp_region_quiet_litC (C := R8C w db sb v d F lo hi l sn vk m (.slice (some ⟨g, 0, none⟩) l.length cp) b ix ct) (by kernel_rfl) (by kernel_rfl) HC ?_
            repeat (first | go_big_quiet_skip | (go_big_quiet_want; go_big_quiet_op; first | go_big_quiet_on | (refine quiet_const ?_; go_big_quiet_on)))
            go_big_quiet_want
            refine ⟨.int .i64 (ix : Int), fun wx hx => ?_, ?_⟩
            · have q0 := hx.p0
              go_simp
            go_big_quiet_on
            simp only [Act.put, List.setIfInBounds_toArray, List.set_cons_zero, List.set_cons_succ]
            repeat (first | go_big_quiet_skip | (go_big_quiet_want; go_big_quiet_op; first | go_big_quiet_on | (refine quiet_const ?_; go_big_quiet_on)))
            go_big_quiet_want
            refine ⟨.int .i64 (ix : Int), fun wx hx => ?_, ?_⟩
            · have q0 := hx.p0
              go_simp
            go_big_quiet_on
            simp only [Act.put, List.setIfInBounds_toArray, List.set_cons_zero, List.set_cons_succ]
            repeat (first | go_big_quiet_skip | (go_big_quiet_want; go_big_quiet_op; first | go_big_quiet_on | (refine quiet_const ?_; go_big_quiet_on)))
            go_big_quiet_want
            refine ⟨.agg #[.int .i64 (d : Int)], fun wx hx => ?_, ?_⟩
            · obtain ⟨k0, k1, k2, k3, k4, k5, m3, m4, m5⟩ := hx.lf.dig.cells
              go_simp
            go_big_quiet_on
            simp only [Act.put, List.setIfInBounds_toArray, List.set_cons_zero, List.set_cons_succ]
            repeat (first | go_big_quiet_skip | (go_big_quiet_want; go_big_quiet_op; first | go_big_quiet_on | (refine quiet_const ?_; go_big_quiet_on)))
            go_big_quiet_want
            go_big_quiet_op
            refine ⟨.int .i64 (B : Nat), fun wx hx => ?_, ?_⟩
            · exact (hbes wx).mono fun _ _ hm => ⟨hm.1, hx.next hm.2⟩
            go_big_quiet_on
            repeat (first | go_big_quiet_skip | (go_big_quiet_want; go_big_quiet_op; first | go_big_quiet_on | (refine quiet_const ?_; go_big_quiet_on)))
            refine wpQuiet_nil ?_
            intro wx Hx
            clear HC
            have q0 := Hx.p0
            have q1 := Hx.p1
            have hsa := strip_add wx sn vk m ix ct Hx.lf.st hc1 (by omega) hm3
            rw [HM.out] at hsa
            go_wp2_with (go_at_call 93; refine hsa.mono ?_; rintro e w5 ⟨rfl, v5, s5, a5, i5⟩)
            have L5 := Hx.lf.add s5 a5 i5
            go_roundg (l.length - (k + 1))
            case measure => omega
            case rel => exact ⟨k + 1, v5, by go_num, by omega, Nat.le_refl _, by rw [HFT.out.2.2]; exact L5⟩
    · have hkl : k = l.length := by omega
      have hLT : ¬ (k : Int) < (l.length : Int) := by omega
      rw [hkl, List.take_length] at L
      obtain ⟨k0, k1, k2, k3, k4, k5, m3, m4, m5⟩ := L.dig.cells
      have hm1 := rowTotal_filter_le l fun y => y.1 != x && y.1 != B
      have hm3 : (l.filter fun y => y.1 != x && y.1 != B).length < 4096 := by
        have := List.length_filter_le (fun y => y.1 != x && y.1 != B) l
        omega
      clear hkl hlt' hk hg
      go_wp2_with fail
      refine (hup wr).mono ?_
      rintro e w5 ⟨rfl, hb5⟩
      have L5 := L.next hb5
      clear k0 k1 k2 k3 k4 k5 m3 m4 m5 L hb5
      have hsa := strip_add w5 sn vk _ U (A1 + A2) L5.st (by omega) (by omega) hm3
      rw [Int.natCast_add] at hsa
      go_wp2_with fail
      refine hsa.mono ?_
      rintro e w6 ⟨rfl, v6, s6, a6, i6⟩
      have L6 := L5.add s6 a6 i6
      clear L5 s6 a6 i6 hsa
      obtain ⟨k0, k1, k2, k3, k4, k5, m3, m4, m5⟩ := L6.dig.cells
      have hdb : db ≠ sn := by have := L6.lt db (.inl rfl); have := L6.fresh.1; omega
      have hvd : v6.ownBlock ≠ some db := fun e => by have := L6.lt db (.inl rfl); have := L6.fresh.2 db e; omega
      have hfin : DigO (w6.setCell ⟨db, 3, none⟩ (.pointer (some ⟨sn, 0, none⟩))) db sn v6 d F lo hi (addL (l.filter fun y => y.1 != x && y.1 != B) U (A1 + A2)) :=
        ⟨L6.dig.blk.set 3 (.pointer (some ⟨sn, 0, none⟩)), L6.st.other ⟨db, 3, none⟩ _ (Ne.symm hdb) hvd⟩
      have HF := Lib.hid (And.intro hfin (And.intro L6.fresh ((Away.of_below (F := fun k => k = db) L6.below).setCell ⟨db, 3, none⟩ (.pointer (some ⟨sn, 0, none⟩)) (.inl rfl))))
      clear hfin hdb hvd L6
      go_wp2_with fail
      go_ret
      exact ⟨rfl, sn, v6, HF.out.1, HF.out.2.1.1, HF.out.2.1.2, HF.out.2.2⟩

/-- whether it lifts, and what is there then -/
theorem lift_any (w : World) (db sb : Nat) (v : Value) (d F : Nat) (lo hi : Int) (l : Row) (x : Nat) (h : DigO w db sb v d F lo hi l) (h1 : 1 ≤ d) (h2 : d ≤ 24) (h3 : 1 ≤ F) (h4 : F ≤ 64)
    (hx : 1 ≤ x) (hx' : x < 2 * 2 ^ d) (hlen : l.length ≤ 4000) (htot : rowTotal l ≤ 1000000) :
    Calls Tryz.prog 178 #[.pointer (some ⟨db, 0, none⟩), .int .i64 (x : Int)] w fun e w' => e = .returned (.bool (liftB F l x)) ∧
      ∃ sb' v', DigO w' db sb' v' d F lo hi (if liftB F l x then liftL l x else l) ∧ SubO w (Own db sb v) (Own db sb' v') ∧ Away (fun k => k = db) w w' := by
  have key : ∀ B U : Nat, (∀ W, Calls Tryz.prog 187 #[.agg #[.int .i64 (d : Int)], .int .i64 (x : Int)] W fun e w' => e = .returned (.int .i64 (B : Nat)) ∧ Below W.heap.size W w') →
      (∀ W, Calls Tryz.prog 188 #[.agg #[.int .i64 (d : Int)], .int .i64 (x : Int)] W fun e w' => e = .returned (.int .i64 (U : Nat)) ∧ Below W.heap.size W w') →
      (x ≠ 1 → B = bro x ∧ U = x / 2) → Calls Tryz.prog 178 #[.pointer (some ⟨db, 0, none⟩), .int .i64 (x : Int)] w fun e w' => e = .returned (.bool (liftB F l x)) ∧
      ∃ sb' v', DigO w' db sb' v' d F lo hi (if liftB F l x then liftL l x else l) ∧ SubO w (Own db sb v) (Own db sb' v') ∧ Away (fun k => k = db) w w' := by
    intro B U hb hu hBU
    by_cases hl : x ≠ 1 ∧ rowAt l x ≠ 0 ∧ rowAt l x + rowAt l B + rowAt l U ≤ rowTotal l / F
    · obtain ⟨n1, n2, n3⟩ := hl
      obtain ⟨rfl, rfl⟩ := hBU n1
      have hb2 : liftB F l x = true := by unfold liftB; simp [n1, n2, n3]
      rw [hb2]
      refine (lift_yes w db sb v d F lo hi l x _ _ h h1 h2 h3 h4 hb hu hlen htot n1 n2 n3).mono fun e w' ⟨he, sb', v', a1, a2, a3, a4⟩ => ⟨he, sb', v', a1, ?_, a4⟩
      rintro k (rfl | rfl | hk)
      · exact .inl (.inl rfl)
      · exact .inr a2
      · exact .inr (a3 k hk)
    · have hb2 : liftB F l x = false := by
        unfold liftB
        by_cases n1 : x = 1
        · simp [n1]
        · obtain ⟨rfl, rfl⟩ := hBU n1
          by_cases n2 : rowAt l x = 0
          · simp [n2]
          · have : ¬ rowAt l x + rowAt l (bro x) + rowAt l (x / 2) ≤ rowTotal l / F := fun n3 => hl ⟨n1, n2, n3⟩
            simp [n2, this]
      rw [hb2]
      refine (lift_no w db sb v d F lo hi l x B U h h1 h2 h3 h4 hb hu hlen htot ?_).mono fun e w' ⟨he, hbw⟩ => ⟨he, sb, v, h.next hbw, fun k hk => .inl hk, Away.of_below hbw⟩
      by_cases n1 : x = 1
      · exact .inl n1
      · by_cases n2 : rowAt l x = 0
        · exact .inr (.inl n2)
        · exact .inr (.inr (Nat.lt_of_not_le fun n3 => hl ⟨n1, n2, n3⟩))
  by_cases n1 : x = 1
  · refine key 0 0 (fun W => ?_) (fun W => ?_) (fun hne => absurd n1 hne)
    · have k := Tr.beside_any (d : Int) (x : Int) W (by omega) (by omega)
      rw [n1, show ((1 : Nat) : Int) = 1 from rfl, besN1] at k
      rw [n1]; exact k
    · have k := Tr.up_any (d : Int) (x : Int) W (by omega) (by omega)
      rw [upN d x hx hx', n1] at k
      rw [n1]; exact k
  · refine key (bro x) (x / 2) (fun W => ?_) (fun W => ?_) (fun _ => ⟨rfl, rfl⟩)
    · have k := Tr.beside_any (d : Int) (x : Int) W (by omega) (by omega)
      rw [besN d x (by omega) hx'] at k
      exact k
    · have k := Tr.up_any (d : Int) (x : Int) W (by omega) (by omega)
      rw [upN d x hx hx'] at k
      exact k
end Go.Proofs.YtbejdajkkoapgaaGreatDoor

