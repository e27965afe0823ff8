/-
  Several texts in one: Ln. What each proves, and on which conditions, stands at its head. Conditions: stated in each.
-/
import Derived.Test.YtbejdajkkoapgaaGreatDoorS15
import Derived.Deep.AppendLies
/-
  Contract of cells.New: the cells for a closeness, or an error. Conditions: none.
-/
set_option linter.unusedVariables false
set_option linter.unusedSimpArgs false
set_option maxRecDepth 100000
namespace Go.Proofs.YtbejdajkkoapgaaGreatDoor
open Go.RowKit Go.Lib

section
variable {a : Act} {w : World} {K : Act → World → Prop} {Q : Exit → Act → World → Prop}
theorem wpo_load160 {o : Oper} {s : Nat} (ho : o.op = .load 160 (.tmp s)) {p : Addr} {v : Value} (he : a.eval (.tmp s) = .pointer (some p)) (hc : w.cell? p = some v) (h : K (a.put o.dst v) w) : o.wp Tryz.prog a w K Q := by
  refine wp_value (v := v) (w' := w) ?_ h
  clear h
  generalize a.eval = ev at he ⊢
  simp [execOp, ho, he, hc, go_sem]
theorem wpo_store160 {o : Oper} {s t : Nat} (ho : o.op = .store 160 (.tmp s) (.tmp t)) {p : Addr} {A : Option Addr} {n c : Nat} (he : a.eval (.tmp s) = .pointer (some p)) (hv : a.eval (.tmp t) = .slice A n c) (u : Value) (hc : w.cell? p = some u) (hf : w.frozen? p = false) (h : K (a.put o.dst undef) (w.setCell p (.slice A n c))) : o.wp Tryz.prog a w K Q := by
  refine wp_skip (w' := w.setCell p (.slice A n c)) ?_ h
  clear h
  generalize a.eval = ev at he hv ⊢
  simp [execOp, ho, he, hv, hc, hf, go_sem]
theorem wpo_nil {o : Oper} {s : Nat} (ho : o.op = .nilCheck (.tmp s)) {p : Addr} (he : a.eval (.tmp s) = .pointer (some p)) (h : K (a.put o.dst (.pointer (some p))) w) : o.wp Tryz.prog a w K Q := by
  refine wp_value (v := .pointer (some p)) (w' := w) ?_ h
  clear h
  generalize a.eval = ev at he ⊢
  simp [execOp, ho, he, go_sem]
theorem wpo_field210 {o : Oper} {s : Nat} (j n : Nat) (ho : o.op = .fieldAddr 210 (.tmp s) j) (hj : j = 1 ∧ n = 2 ∨ j = 2 ∧ n = 3) {tb : Nat} (he : a.eval (.tmp s) = .pointer (some ⟨tb, 0, none⟩)) (h : K (a.put o.dst (.pointer (some ⟨tb, n, none⟩))) w) : o.wp Tryz.prog a w K Q := by
  refine wp_value (v := .pointer (some ⟨tb, n, none⟩)) (w' := w) ?_ h
  clear h
  generalize a.eval = ev at he ⊢
  rcases hj with ⟨rfl, rfl⟩ | ⟨rfl, rfl⟩
  · simp [execOp, ho, he, go_sem]
  · simp [execOp, ho, he, go_sem]
theorem wpo_box160 {o : Oper} {s : Nat} (ho : o.op = .buildSlice 160 1 #[(0, .tmp s)]) {x : Int} (he : a.eval (.tmp s) = .int .u64 x) (h : K (a.put o.dst (.slice (some ⟨w.heap.size, 0, none⟩) 1 1)) (w.alloc (.cells #[.int .u64 x] 23))) : o.wp Tryz.prog a w K Q := by
  refine wp_value (v := .slice (some ⟨w.heap.size, 0, none⟩) 1 1) (w' := w.alloc (.cells #[.int .u64 x] 23)) ?_ h
  clear h
  generalize a.eval = ev at he ⊢
  simp [execOp, ho, he, go_sem]
end
theorem info23n : (Tryz.prog.info? 23).map (fun i => (i.zero, i.size, i.bytes)) = some (some (.int .u64 0), 1, 8) := by kernel_rfl
/-- a table that is being filled -/
structure TabN (B : Nat) (tb : Nat) (num den k : Nat) (vl vr : Value) (W : World) : Prop where
  blk : Blk W tb #[.int .u64 (num : Int), .int .u64 (den : Int), vl, vr] 210
  lows : W.ownsRow B 23 1 vl k (natC (tlows num den k))
  reps : W.ownsRow B 23 1 vr k (natC (treps num den k))
  ap : ∀ g, vl.ownBlock = some g → vr.ownBlock ≠ some g
theorem TabN.next {B tb num den k : Nat} {vl vr : Value} {W W' : World} (h : TabN B tb num den k vl vr W) (b : Below W.heap.size W W') : TabN B tb num den k vl vr W' :=
  ⟨h.blk.below b h.blk.lt, owns_below h.lows b fun g hg => (h.lows.lt g hg).2, owns_below h.reps b fun g hg => (h.reps.lt g hg).2, h.ap⟩
theorem upd_of {L : Nat → Bool} {i j : Nat} (h : L j = true) : upd L i j = true := by unfold upd; split <;> simp_all
/-- what is made while the next cell is put down -/
structure ThN where
  xl : Value
  xr : Value
  bA : Nat
  bB : Nat
/-- the row of lows, the row of reps, as they stand -/
def thL (L : Nat → Bool) (vl : Value) (θ : ThN) : Value := if L 8 then θ.xl else vl
def thR (L : Nat → Bool) (vr : Value) (θ : ThN) : Value := if L 15 then θ.xr else vr
def thK (b : Bool) (k : Nat) : Nat := if b then k + 1 else k
/-- what holds while the next cell is put down, whatever has come up -/
structure NwN (w : World) (tb num den k : Nat) (vl vr : Value) (L : Nat → Bool) (θ : ThN) (W : World) : Prop where
  d1 : L 8 = true → L 5 = true
  d2 : L 18 = true → L 8 = true
  d3 : L 15 = true → L 12 = true
  d4 : L 21 = true → L 15 = true
  blk : Blk W tb #[.int .u64 (num : Int), .int .u64 (den : Int), if L 18 then θ.xl else vl, if L 21 then θ.xr else vr] 210
  bxA : L 7 = true → Blk W θ.bA #[.int .u64 (tlow num den k : Nat)] 23
  bxB : L 14 = true → Blk W θ.bB #[.int .u64 ((cnx num den (tlow num den k)).1 : Nat)] 23
  lows : W.ownsRow (w.heap.size + 1) 23 1 (thL L vl θ) (thK (L 8) k) (natC (tlows num den (thK (L 8) k)))
  reps : W.ownsRow (w.heap.size + 1) 23 1 (thR L vr θ) (thK (L 15) k) (natC (treps num den (thK (L 15) k)))
  ap : ∀ g, (thL L vl θ).ownBlock = some g → (thR L vr θ).ownBlock ≠ some g
  nA : L 7 = true → (thL L vl θ).ownBlock ≠ some θ.bA ∧ (thR L vr θ).ownBlock ≠ some θ.bA
  nB : L 14 = true → (thL L vl θ).ownBlock ≠ some θ.bB ∧ (thR L vr θ).ownBlock ≠ some θ.bB
  below : Below w.heap.size w W
  tbn : w.heap.size + 1 ≤ tb
  bx : Blk W w.heap.size #[.int .u64 (num : Int), .int .u64 (den : Int)] 25
  tk : ∀ j ∈ [0, 1, 2, 3, 4, 6, 9, 10, 11, 13], L j = true
section
variable {w : World} {tb num den k : Nat} {vl vr : Value} {L : Nat → Bool} {θ : ThN} {W W' : World}
theorem NwN.tl (h : NwN w tb num den k vl vr L θ W) : (thL L vl θ).ownBlock ≠ some tb := fun e => by
  obtain ⟨cur, hc⟩ := owns_blk h.lows e
  exact (h.blk.ne hc (by decide)) rfl
theorem NwN.tr (h : NwN w tb num den k vl vr L θ W) : (thR L vr θ).ownBlock ≠ some tb := fun e => by
  obtain ⟨cur, hc⟩ := owns_blk h.reps e
  exact (h.blk.ne hc (by decide)) rfl
/-- another flag that nothing hangs on -/
theorem NwN.flag (h : NwN w tb num den k vl vr L θ W) (i : Nat) (h5 : i ≠ 7 ∧ i ≠ 8 ∧ i ≠ 14 ∧ i ≠ 15 ∧ i ≠ 18 ∧ i ≠ 21) : NwN w tb num den k vl vr (upd L i) θ W := by
  have e7 : upd L i 7 = L 7 := upd_ne (by omega)
  have e8 : upd L i 8 = L 8 := upd_ne (by omega)
  have e14 : upd L i 14 = L 14 := upd_ne (by omega)
  have e15 : upd L i 15 = L 15 := upd_ne (by omega)
  have e18 : upd L i 18 = L 18 := upd_ne (by omega)
  have e21 : upd L i 21 = L 21 := upd_ne (by omega)
  have h6 : ∀ j, L j = true → upd L i j = true := fun j hj => by unfold upd; split <;> simp_all
  obtain ⟨d1, d2, d3, d4, k1, k2, k3, k4, k5, k6, k7, k8, k9, k10, k11, k12⟩ := h
  refine ⟨fun hh => h6 _ (d1 (e8 ▸ hh)), fun hh => h6 _ (d2 (e18 ▸ hh)), fun hh => h6 _ (d3 (e15 ▸ hh)), fun hh => h6 _ (d4 (e21 ▸ hh)), ?_, ?_, ?_, ?_, ?_, ?_, ?_, ?_, k9, k10, k11, fun j hj => h6 j (k12 j hj)⟩
  · rw [e18, e21]; exact k1
  · rw [e7]; exact k2
  · rw [e14]; exact k3
  · unfold thL at k4 ⊢; rw [e8]; exact k4
  · unfold thR at k5 ⊢; rw [e15]; exact k5
  · unfold thL thR at k6 ⊢; rw [e8, e15]; exact k6
  · unfold thL thR at k7 ⊢; rw [e7, e8, e15]; exact k7
  · unfold thL thR at k8 ⊢; rw [e14, e8, e15]; exact k8
/-- a box for the low -/
theorem NwN.boxA (h : NwN w tb num den k vl vr L θ W) (h7 : L 7 = false) : NwN w tb num den k vl vr (upd L 7) { θ with bA := W.heap.size } (W.alloc (.cells #[.int .u64 (tlow num den k : Nat)] 23)) := by
  have b : Below W.heap.size W (W.alloc (.cells #[.int .u64 (tlow num den k : Nat)] 23)) := (Below.refl _ _).alloc (Nat.le_refl _) _
  obtain ⟨d1, d2, d3, d4, k1, k2, k3, k4, k5, k6, k7, k8, k9, k10, k11, k12⟩ := h
  refine ⟨d1, d2, d3, d4, k1.below b k1.lt, fun _ => Blk.newAt rfl, fun hh => (k3 hh).below b (k3 hh).lt, owns_below k4 b fun g hg => (k4.lt g hg).2, owns_below k5 b fun g hg => (k5.lt g hg).2, k6, fun _ => ⟨fun e => ?_, fun e => ?_⟩, k8, k9.alloc k9.size _, k10, k11.below b k11.lt, fun j hj => upd_of (k12 j hj)⟩
  · have h1 : (thL L vl θ).ownBlock = some W.heap.size := e
    have := (k4.lt _ h1).2; omega
  · have h1 : (thR L vr θ).ownBlock = some W.heap.size := e
    have := (k5.lt _ h1).2; omega
theorem NwN.boxB (h : NwN w tb num den k vl vr L θ W) (h7 : L 14 = false) : NwN w tb num den k vl vr (upd L 14) { θ with bB := W.heap.size } (W.alloc (.cells #[.int .u64 ((cnx num den (tlow num den k)).1 : Nat)] 23)) := by
  have b : Below W.heap.size W (W.alloc (.cells #[.int .u64 ((cnx num den (tlow num den k)).1 : Nat)] 23)) := (Below.refl _ _).alloc (Nat.le_refl _) _
  obtain ⟨d1, d2, d3, d4, k1, k2, k3, k4, k5, k6, k7, k8, k9, k10, k11, k12⟩ := h
  refine ⟨d1, d2, d3, d4, k1.below b k1.lt, fun hh => (k2 hh).below b (k2 hh).lt, fun _ => Blk.newAt rfl, owns_below k4 b fun g hg => (k4.lt g hg).2, owns_below k5 b fun g hg => (k5.lt g hg).2, k6, k7, fun _ => ⟨fun e => ?_, fun e => ?_⟩, k9.alloc k9.size _, k10, k11.below b k11.lt, fun j hj => upd_of (k12 j hj)⟩
  · have h1 : (thL L vl θ).ownBlock = some W.heap.size := e
    have := (k4.lt _ h1).2; omega
  · have h1 : (thR L vr θ).ownBlock = some W.heap.size := e
    have := (k5.lt _ h1).2; omega
/-- the low appended -/
theorem NwN.appA (h : NwN w tb num den k vl vr L θ W) (h8 : L 8 = false) (h5 : L 5 = true) {g cap : Nat} (o : W'.ownsRow (w.heap.size + 1) 23 1 (.slice (some ⟨g, 0, none⟩) (k + 1) cap) (k + 1) (natC (tlows num den k) ++ [.int .u64 (tlow num den k : Nat)])) (gr : W.grownBy W' vl.ownBlock) (hat : vl.ownBlock = some g ∨ g = W.heap.size) :
    NwN w tb num den k vl vr (upd L 8) { θ with xl := .slice (some ⟨g, 0, none⟩) (k + 1) cap } W' := by
  have h18 : L 18 = false := by cases e : L 18 with
    | false => rfl
    | true => have := h.d2 e; rw [h8] at this; cases this
  have htl := h.tl
  have htr := h.tr
  obtain ⟨d1, d2, d3, d4, k1, k2, k3, k4, k5, k6, k7, k8, k9, k10, k11, k12⟩ := h
  have eL : thL L vl θ = vl := by unfold thL; rw [h8]; rfl
  rw [eL] at k4 k6 k7 k8 htl
  rw [h8] at k4
  have a : Away (fun j => vl.ownBlock = some j) W W' := Away.of_grown gr fun j hj => hj
  have e1 : natC (tlows num den k) ++ [.int .u64 (tlow num den k : Nat)] = natC (tlows num den (k + 1)) := by rw [tlows_snoc, natC_append]; rfl
  rw [e1] at o
  have f18 : upd L 8 18 = false := by rw [upd_ne (by decide)]; exact h18
  have hB : w.heap.size ≤ W.heap.size := k9.size
  refine ⟨fun _ => by rw [upd_ne (by decide)]; exact h5, fun hh => by rw [f18] at hh; (cases hh), fun hh => d3 hh, fun hh => d4 hh, ?_, fun hh => (k2 hh).away a (fun e => (k7 hh).1 e), fun hh => (k3 hh).away a (fun e => (k8 hh).1 e), o, owns_away k5 a fun j hj e => k6 j e hj, fun j hj e => ?_, fun hh => ⟨fun e => ?_, (k7 hh).2⟩, fun hh => ⟨fun e => ?_, (k8 hh).2⟩, k9.trans (a.below k9.size fun j hj e => by have := (k4.lt _ e).1; omega), k10, k11.away a (fun e => by have := (k4.lt _ e).1; omega), fun j hj => upd_of (k12 j hj)⟩
  · have b1 := k1.away a htl
    rw [f18, upd_ne (by decide)]
    rw [h18] at b1; exact b1
  · have hj : some g = some j := hj
    injection hj with hj
    subst hj
    have e : (thR L vr θ).ownBlock = some g := e
    rcases hat with x | x
    · exact k6 _ x e
    · have := (k5.lt _ e).2; omega
  · have e : some g = some θ.bA := e
    injection e with e
    rcases hat with x | x
    · exact (k7 hh).1 (e ▸ x)
    · have := (k2 hh).lt; omega
  · have e : some g = some θ.bB := e
    injection e with e
    rcases hat with x | x
    · exact (k8 hh).1 (e ▸ x)
    · have := (k3 hh).lt; omega
/-- the rep appended -/
theorem NwN.appB (h : NwN w tb num den k vl vr L θ W) (h8 : L 15 = false) (h5 : L 12 = true) {g cap : Nat} (o : W'.ownsRow (w.heap.size + 1) 23 1 (.slice (some ⟨g, 0, none⟩) (k + 1) cap) (k + 1) (natC (treps num den k) ++ [.int .u64 ((cnx num den (tlow num den k)).1 : Nat)])) (gr : W.grownBy W' vr.ownBlock) (hat : vr.ownBlock = some g ∨ g = W.heap.size) :
    NwN w tb num den k vl vr (upd L 15) { θ with xr := .slice (some ⟨g, 0, none⟩) (k + 1) cap } W' := by
  have h18 : L 21 = false := by cases e : L 21 with
    | false => rfl
    | true => have := h.d4 e; rw [h8] at this; cases this
  have htl := h.tl
  have htr := h.tr
  obtain ⟨d1, d2, d3, d4, k1, k2, k3, k4, k5, k6, k7, k8, k9, k10, k11, k12⟩ := h
  have eL : thR L vr θ = vr := by unfold thR; rw [h8]; rfl
  rw [eL] at k5 k6 k7 k8 htr
  rw [h8] at k5
  have a : Away (fun j => vr.ownBlock = some j) W W' := Away.of_grown gr fun j hj => hj
  have e1 : natC (treps num den k) ++ [.int .u64 ((cnx num den (tlow num den k)).1 : Nat)] = natC (treps num den (k + 1)) := by rw [treps_snoc, natC_append]; rfl
  rw [e1] at o
  have f18 : upd L 15 21 = false := by rw [upd_ne (by decide)]; exact h18
  have hB : w.heap.size ≤ W.heap.size := k9.size
  refine ⟨fun hh => d1 hh, fun hh => d2 hh, fun _ => by rw [upd_ne (by decide)]; exact h5, fun hh => by rw [f18] at hh; (cases hh), ?_, fun hh => (k2 hh).away a (fun e => (k7 hh).2 e), fun hh => (k3 hh).away a (fun e => (k8 hh).2 e), owns_away k4 a fun j hj e => k6 j hj e, o, fun j hj e => ?_, fun hh => ⟨(k7 hh).1, fun e => ?_⟩, fun hh => ⟨(k8 hh).1, fun e => ?_⟩, k9.trans (a.below k9.size fun j hj e => by have := (k5.lt _ e).1; omega), k10, k11.away a (fun e => by have := (k5.lt _ e).1; omega), fun j hj => upd_of (k12 j hj)⟩
  · have b1 := k1.away a htr
    rw [f18, upd_ne (by decide)]
    rw [h18] at b1; exact b1
  · have e : some g = some j := e
    injection e with e
    subst e
    have hj : (thL L vl θ).ownBlock = some g := hj
    rcases hat with x | x
    · exact k6 _ hj x
    · have := (k4.lt _ hj).2; omega
  · have e : some g = some θ.bA := e
    injection e with e
    rcases hat with x | x
    · exact (k7 hh).2 (e ▸ x)
    · have := (k2 hh).lt; omega
  · have e : some g = some θ.bB := e
    injection e with e
    rcases hat with x | x
    · exact (k8 hh).2 (e ▸ x)
    · have := (k3 hh).lt; omega
/-- the row of lows stored -/
theorem NwN.stA (h : NwN w tb num den k vl vr L θ W) (h18 : L 18 = false) (h8 : L 8 = true) : NwN w tb num den k vl vr (upd L 18) θ (W.setCell ⟨tb, 2, none⟩ θ.xl) := by
  have htl := h.tl
  have htr := h.tr
  obtain ⟨d1, d2, d3, d4, k1, k2, k3, k4, k5, k6, k7, k8, k9, k10, k11, k12⟩ := h
  refine ⟨d1, fun _ => h8, d3, d4, ?_, fun hh => (k2 hh).other _ _ ((k2 hh).ne k1 (by decide)), fun hh => (k3 hh).other _ _ ((k3 hh).ne k1 (by decide)), owns_other k4 _ _ htl, owns_other k5 _ _ htr, k6, k7, k8, ?_, k10, k11.other _ _ (k11.ne k1 (by decide)), fun j hj => upd_of (k12 j hj)⟩
  · have e := k1.set 2 θ.xl
    rw [upd_self, upd_ne (by decide)]
    exact e
  · exact k9.setCell (show w.heap.size ≤ tb from Nat.le_of_succ_le k10) _
theorem NwN.stB (h : NwN w tb num den k vl vr L θ W) (h18 : L 21 = false) (h8 : L 15 = true) : NwN w tb num den k vl vr (upd L 21) θ (W.setCell ⟨tb, 3, none⟩ θ.xr) := by
  have htl := h.tl
  have htr := h.tr
  obtain ⟨d1, d2, d3, d4, k1, k2, k3, k4, k5, k6, k7, k8, k9, k10, k11, k12⟩ := h
  refine ⟨d1, d2, d3, fun _ => h8, ?_, fun hh => (k2 hh).other _ _ ((k2 hh).ne k1 (by decide)), fun hh => (k3 hh).other _ _ ((k3 hh).ne k1 (by decide)), owns_other k4 _ _ htl, owns_other k5 _ _ htr, k6, k7, k8, ?_, k10, k11.other _ _ (k11.ne k1 (by decide)), fun j hj => upd_of (k12 j hj)⟩
  · have e := k1.set 3 θ.xr
    rw [upd_self, upd_ne (by decide)]
    exact e
  · exact k9.setCell (show w.heap.size ≤ tb from Nat.le_of_succ_le k10) _
end
/-- the slots of the row of operations that put down the next cell -/
def tabN (tb : Nat) (vl vr : Value) (L : Nat → Bool) (θ : ThN) : List (Nat × Bool × Value) := [(33, L 5, vl), (35, L 7, .slice (some ⟨θ.bA, 0, none⟩) 1 1), (36, L 8, θ.xl), (40, L 12, vr), (42, L 14, .slice (some ⟨θ.bB, 0, none⟩) 1 1), (43, L 15, θ.xr), (44, L 16, .pointer (some ⟨tb, 0, none⟩)), (45, L 17, .pointer (some ⟨tb, 2, none⟩)), (46, L 19, .pointer (some ⟨tb, 0, none⟩)), (47, L 20, .pointer (some ⟨tb, 3, none⟩))]
theorem tabN_nodup (tb : Nat) (vl vr : Value) (L : Nat → Bool) (θ : ThN) : ((tabN tb vl vr L θ).map (·.1)).Nodup := by simp [tabN]

/-- what New answers -/
def NewT (num den : Nat) (w : World) (e : Ending) (w' : World) : Prop :=
  (∃ n tb vl vr, CTab num den n ∧ e = .returned (.tuple #[.pointer (some ⟨tb, 0, none⟩), .int .i64 0]) ∧ Below w.heap.size w w' ∧ TabO w' tb vl vr num den n ∧ ∀ j, OwnT tb vl vr j → w.heap.size ≤ j)
  ∨ (∃ code : Int, code ≠ 0 ∧ e = .returned (.tuple #[.pointer none, .int .i64 code]) ∧ Below w.heap.size w w' ∧ ∀ n, ¬ CTab num den n)
theorem cnew_bad (num den : Int) (w : World) (hg : goodC num den = false) :
    Calls Tryz.prog 63 #[.agg #[.int .u64 num, .int .u64 den]] w fun e w' => e = .returned (.tuple #[.pointer none, .int .i64 1]) ∧ Below w.heap.size w w' := by
  have hgd := fun W => cgood_any num den W
  rw [hg] at hgd
  have b0 := Lib.hid (show Below w.heap.size w (w.alloc (.cells #[.int .u64 num, .int .u64 den] 25)) from (Below.refl _ _).alloc (Nat.le_refl _) _)
  clear hg
  go_enter Tryz.func63, Tryz.ntmps63
  go_wp2_with fail
  refine (hgd _).mono ?_
  rintro e w1 ⟨rfl, b1⟩
  have HB := Lib.hid (b0.out.trans (b1.mono b0.out.size))
  clear hgd b1
  go_wp2_with fail
  go_ret2
  exact ⟨rfl, HB.out⟩
set_option maxHeartbeats 8000000 in
theorem cnew_any (num den : Nat) (w : World) (hg : goodC num den = true) :
    Calls Tryz.prog 63 #[.agg #[.int .u64 (num : Int), .int .u64 (den : Int)]] w (NewT num den w) := by
  have hgd := fun W => cgood_any num den W
  rw [hg] at hgd
  unfold goodC at hg
  simp only [Bool.and_eq_true, decide_eq_true_eq] at hg
  have hnx := Lib.hid (fun W low h => cnext_any num den low W (by omega) (by omega) (by omega) h)
  have B0 : Blk (w.alloc (.cells #[.int .u64 (num : Int), .int .u64 (den : Int)] 25)) w.heap.size #[.int .u64 (num : Int), .int .u64 (den : Int)] 25 := Blk.newAt rfl
  have b0 : Below w.heap.size w (w.alloc (.cells #[.int .u64 (num : Int), .int .u64 (den : Int)] 25)) := (Below.refl _ _).alloc (Nat.le_refl _) _
  have H0 := Lib.hid (And.intro B0 b0)
  clear hg B0 b0
  go_enter Tryz.func63, Tryz.ntmps63
  go_wp2_with fail
  refine (hgd _).mono ?_
  rintro e w1 ⟨rfl, b1⟩
  have B1 := H0.out.1.below b1 H0.out.1.lt
  have hb1 := H0.out.2.trans (b1.mono H0.out.2.size)
  have c0 : w1.cell? ⟨w.heap.size, 0, none⟩ = some (.int .u64 (num : Int)) := B1.cell rfl
  have c1 : w1.cell? ⟨w.heap.size, 1, none⟩ = some (.int .u64 (den : Int)) := B1.cell rfl
  have N1 : TabN (w.heap.size + 1) w1.heap.size num den 0 (.slice none 0 0) (.slice none 0 0) (w1.alloc (.cells #[.int .u64 (num : Int), .int .u64 (den : Int), .slice none 0 0, .slice none 0 0] 210)) := ⟨Blk.newAt rfl, World.ownsRow_nil _ _ _ _, World.ownsRow_nil _ _ _ _, fun g hg => by simp [Value.ownBlock] at hg⟩
  have hz1 := B1.lt
  have H1 := Lib.hid (And.intro N1 (And.intro (B1.alloc (.cells #[.int .u64 (num : Int), .int .u64 (den : Int), .slice none 0 0, .slice none 0 0] 210)) (And.intro (hb1.alloc hb1.size (.cells #[.int .u64 (num : Int), .int .u64 (den : Int), .slice none 0 0, .slice none 0 0] 210)) (show w.heap.size + 1 ≤ w1.heap.size from hz1))))
  clear hgd b1 B1 hb1 N1 H0 hz1
  go_wp2_with fail
  generalize w1.heap.size = tb at H1 ⊢
  go_loopg [5, 6, 7] 4097 (fun g lo _ _ wr => ∃ (k : Nat) (vl vr : Value), lo = .int .u64 (tlow num den k : Nat) ∧ k ≤ 4096 ∧ 4097 - k ≤ g ∧ (∀ j, j < k → tlow num den j ≤ 9223372036854775808) ∧ TabN (w.heap.size + 1) tb num den k vl vr wr ∧ Blk wr w.heap.size #[.int .u64 (num : Int), .int .u64 (den : Int)] 25 ∧ Below w.heap.size w wr ∧ w.heap.size + 1 ≤ tb)
  case atStart => exact ⟨0, .slice none 0 0, .slice none 0 0, rfl, by omega, by omega, fun j hj => by omega, H1.out.1, H1.out.2.1, H1.out.2.2.1, H1.out.2.2.2⟩
  case round =>
    clear H1 c0 c1
    obtain ⟨k, vl, vr, rfl, hk, hgk, hlo, N, BX, hB, htb⟩ := hrel
    have hle := tlow_le num den k
    obtain ⟨lo, hlw⟩ : ∃ lo, lo = tlow num den k := ⟨_, rfl⟩
    have c0 : wr.cell? ⟨w.heap.size, 0, none⟩ = some (.int .u64 (num : Int)) := BX.cell rfl
    have c1 : wr.cell? ⟨w.heap.size, 1, none⟩ = some (.int .u64 (den : Int)) := BX.cell rfl
    have n2 : wr.cell? ⟨tb, 2, none⟩ = some vl := N.blk.cell rfl
    obtain ⟨Al, cl, hvl⟩ := owns_slice N.lows
    obtain ⟨Ar, cr, hvr⟩ := owns_slice N.reps
    by_cases hend : lo ≤ 9223372036854775808
    · have g0 : (lo : Int) ≤ 9223372036854775808 := by omega
      by_cases hful : 4096 ≤ k
      · have g1 : (4096 : Int) ≤ (k : Int) := by omega
        have HB := Lib.hid (show NewT num den w (.returned (.tuple #[.pointer none, .int .i64 6])) wr from .inr ⟨6, by decide, rfl, hB, fun n hn => by
          rcases Nat.lt_or_ge n k with e | e
          · have := hlo n e; have := hn.2.1; omega
          · have : n = k := by have := hn.1; omega
            subst this; have := hn.2.1; omega⟩)
        subst hvl
        rw [← hlw]
        clear N BX hB hlo hle hlw hgk hend hful
        go_wp2_with fail
        go_ret2
        exact HB.out
      · have g1 : ¬ (4096 : Int) ≤ (k : Int) := by omega
        have hnx1 := fun W => hnx.out W lo (by omega)
        have HN := Lib.hid (And.intro N (And.intro BX (And.intro hB hlo)))
        have HK := Lib.hid (And.intro hlw (And.intro hend (And.intro hk hgk)))
        subst hvl
        subst hvr
        rw [← hlw]
        clear N BX hB hlo hle hlw hgk hend hk
        go_wp2_with fail
        refine (hnx1 _).mono ?_
        rintro e w2 ⟨rfl, b2⟩
        have N2 := HN.out.1.next b2
        have hB2 := HN.out.2.2.1.trans (b2.mono HN.out.2.2.1.size)
        have BX2 := HN.out.2.1.below b2 HN.out.2.1.lt
        have H2 := Lib.hid (And.intro N2 (And.intro BX2 hB2))
        obtain ⟨rp, hrp⟩ : ∃ rp, rp = (cnx num den lo).1 := ⟨_, rfl⟩
        obtain ⟨hi, hhi⟩ : ∃ hi, hi = (cnx num den lo).2 := ⟨_, rfl⟩
        have hcl := (cnx_le num den lo).2
        rw [← hrp, ← hhi]
        rw [← hhi] at hcl
        have HR := Lib.hid (And.intro hrp hhi)
        clear hnx1 b2 N2 hB2 BX2 hrp hhi c0 c1 n2
        go_upto_region 9 with fail
        refine wp_region_any (by kernel_rfl) ?_
        try (change wpAny _ _ _ _ _ _ _ (World.drew _))
        refine wpAny_take (i := 0) (v := ?_) rfl (by kernel_rfl) (by kernel_rfl) (by kernel_rfl) (fun _ _ _ h => h) (Or.inl ⟨by rfl, ?_⟩) ?_
        rotate_left
        · intro wz; go_simp; try with_reducible rfl
        refine wpAny_take (i := 1) (v := ?_) rfl (by kernel_rfl) (by kernel_rfl) (by kernel_rfl) (fun _ _ _ h => h) (Or.inl ⟨by rfl, ?_⟩) ?_
        rotate_left
        · intro wz; go_simp; try with_reducible rfl
        refine wpAny_take (i := 2) (v := ?_) rfl (by kernel_rfl) (by kernel_rfl) (by kernel_rfl) (fun _ _ _ h => h) (Or.inl ⟨by rfl, ?_⟩) ?_
        rotate_left
        · intro wz; go_simp; try with_reducible rfl
        refine wpAny_take (i := 3) (v := ?_) rfl (by kernel_rfl) (by kernel_rfl) (by kernel_rfl) (fun _ _ _ h => h) (Or.inl ⟨by rfl, ?_⟩) ?_
        rotate_left
        · intro wz; go_simp; try with_reducible rfl
        refine wpAny_take (i := 4) (v := ?_) rfl (by kernel_rfl) (by kernel_rfl) (by kernel_rfl) (fun _ _ _ h => h) (Or.inl ⟨by rfl, ?_⟩) ?_
        rotate_left
        · intro wz; go_simp; try with_reducible rfl
        refine wpAny_take (i := 6) (v := ?_) rfl (by kernel_rfl) (by kernel_rfl) (by kernel_rfl) (fun _ _ _ h => h) (Or.inl ⟨by rfl, ?_⟩) ?_
        rotate_left
        · intro wz; go_simp; try with_reducible rfl
        refine wpAny_take (i := 9) (v := ?_) rfl (by kernel_rfl) (by kernel_rfl) (by kernel_rfl) (fun _ _ _ h => h) (Or.inl ⟨by rfl, ?_⟩) ?_
        rotate_left
        · intro wz; go_simp; try with_reducible rfl
        refine wpAny_take (i := 10) (v := ?_) rfl (by kernel_rfl) (by kernel_rfl) (by kernel_rfl) (fun _ _ _ h => h) (Or.inl ⟨by rfl, ?_⟩) ?_
        rotate_left
        · intro wz; go_simp; try with_reducible rfl
        refine wpAny_take (i := 11) (v := ?_) rfl (by kernel_rfl) (by kernel_rfl) (by kernel_rfl) (fun _ _ _ h => h) (Or.inl ⟨by rfl, ?_⟩) ?_
        rotate_left
        · intro wz; go_simp; try with_reducible rfl
        refine wpAny_take (i := 13) (v := ?_) rfl (by kernel_rfl) (by kernel_rfl) (by kernel_rfl) (fun _ _ _ h => h) (Or.inl ⟨by rfl, ?_⟩) ?_
        rotate_left
        · intro wz; go_simp; try with_reducible rfl
        simp only [List.getElem_toArray, List.getElem_cons_zero, List.getElem_cons_succ, Act.put, List.setIfInBounds_toArray, List.set_cons_zero, List.set_cons_succ]
        refine wpAny_acts2 (tabN tb (.slice Al k cl) (.slice Ar k cr)) (NwN w tb num den k (.slice Al k cl) (.slice Ar k cr)) [true, true, true, true, true, false, true, false, false, true, true, true, false, true, false, false, false, false, false, false, false, false] ⟨.slice none 0 0, .slice none 0 0, 0, 0⟩ (by kernel_rfl) (by kernel_rfl) rfl (by kernel_rfl) (by kernel_rfl) ?_ ?_ ?_
        · obtain ⟨N2, BX2, hB2⟩ := H2.out
          have e5 : ∀ j, (fun j => [true, true, true, true, true, false, true, false, false, true, true, true, false, true, false, false, false, false, false, false, false, false].getD j false) j = [true, true, true, true, true, false, true, false, false, true, true, true, false, true, false, false, false, false, false, false, false, false].getD j false := fun _ => rfl
          refine ⟨fun h => absurd h (by decide), fun h => absurd h (by decide), fun h => absurd h (by decide), fun h => absurd h (by decide), N2.blk, fun h => absurd h (by decide), fun h => absurd h (by decide), N2.lows, N2.reps, N2.ap, fun h => absurd h (by decide), fun h => absurd h (by decide), hB2.drew, htb, BX2, ?_⟩
          intro j hj
          simp only [List.mem_cons, List.not_mem_nil, or_false] at hj
          rcases hj with rfl | rfl | rfl | rfl | rfl | rfl | rfl | rfl | rfl | rfl <;> rfl
        · intro L θ W hN i o hi hLi hd
          have hil : i < 22 := (List.getElem?_eq_some_iff.1 hi).1
          have ht : i ∉ [0, 1, 2, 3, 4, 6, 9, 10, 11, 13] := fun hm => by have := hN.tk i hm; rw [hLi] at this; cases this
          have hcase : i = 5 ∨ i = 7 ∨ i = 8 ∨ i = 12 ∨ i = 14 ∨ i = 15 ∨ i = 16 ∨ i = 17 ∨ i = 18 ∨ i = 19 ∨ i = 20 ∨ i = 21 := by
            simp only [List.mem_cons, List.not_mem_nil, or_false, not_or] at ht; omega
          obtain ⟨i0, hi0, hz0, hz1, hz2⟩ := info_parts info23n
          have hnd := tabN_nodup tb (.slice Al k cl) (.slice Ar k cr) L θ
          have hKK := HK.out
          have hRR := HR.out
          clear ht
          rcases hcase with rfl | rfl | rfl | rfl | rfl | rfl | rfl | rfl | rfl | rfl | rfl | rfl
          · -- 5
            have ho := Option.some.inj hi
            subst ho
            have h18 : L 18 = false := by cases e : L 18 with
              | false => rfl
              | true => have := hN.d1 (hN.d2 e); rw [hLi] at this; cases this
            have hc := hN.blk.cell (j := 2) (u := .slice Al k cl) (by rw [h18]; rfl)
            refine wpOp_on rfl rfl (wpo_load160 rfl ((acts_other (by simp [tabN])).trans rfl) hc ⟨θ, acts_step 0 (by simp only [tabN, hLi]; rfl) hnd ?_, hN.flag 5 (by decide)⟩)
            rfl
          · -- 7
            have ho := Option.some.inj hi
            subst ho
            have hb := hN.boxA hLi
            rw [← hKK.1] at hb
            refine wpOp_on rfl rfl (wpo_box160 rfl ((acts_other (by simp [tabN])).trans rfl) ⟨_, acts_step 1 (by simp only [tabN, hLi]; rfl) hnd ?_, hb⟩)
            rfl
          · -- 8
            have ho := Option.some.inj hi
            subst ho
            have h5 : L 5 = true := hd ⟨5, .data⟩ (by simp) rfl
            have h7 : L 7 = true := hd ⟨7, .data⟩ (by simp) rfl
            have hown := hN.lows
            unfold thL thK at hown
            rw [hLi] at hown
            have hbx := hN.bxA h7
            rw [← hKK.1] at hbx
            refine wpOp_on rfl rfl (wp_append_lies W (.tmp 33) (.tmp 35) 160 rfl (w.heap.size + 1) 23 i0 _ 1 8 Tryz.underlying160 hi0 hz0 hz1 hz2 rfl (by decide) (.slice Al k cl) k (natC (tlows num den k)) (acts_eval (k := 0) (by simp only [tabN, h5]; rfl) hnd (by simp)) hown ⟨θ.bA, 0, none⟩ 1 1 [.int .u64 (lo : Int)] (acts_eval (k := 1) (by simp only [tabN, h7]; rfl) hnd (by simp)) rfl (World.news_of_block hbx) (fun u hu => by rw [List.mem_singleton.1 hu]; rfl) (by decide) (by unfold maxLen; omega) (by omega) (Nat.le_trans (show w.heap.size + 1 ≤ tb + 1 by omega) hN.blk.lt) _ rfl ?_)
            intro g cap w' o' gr hat hlt
            rw [hKK.1] at o'
            refine ⟨_, acts_step 2 (by simp only [tabN, hLi]; rfl) hnd ?_, hN.appA hLi h5 o' gr hat⟩
            rfl
          · -- 12
            have ho := Option.some.inj hi
            subst ho
            have h18 : L 21 = false := by cases e : L 21 with
              | false => rfl
              | true => have := hN.d3 (hN.d4 e); rw [hLi] at this; cases this
            have hc := hN.blk.cell (j := 3) (u := .slice Ar k cr) (by rw [h18]; rfl)
            refine wpOp_on rfl rfl (wpo_load160 rfl ((acts_other (by simp [tabN])).trans rfl) hc ⟨θ, acts_step 3 (by simp only [tabN, hLi]; rfl) hnd ?_, hN.flag 12 (by decide)⟩)
            rfl
          · -- 14
            have ho := Option.some.inj hi
            subst ho
            have hb := hN.boxB hLi
            rw [← hKK.1, ← hRR.1] at hb
            refine wpOp_on rfl rfl (wpo_box160 rfl ((acts_other (by simp [tabN])).trans rfl) ⟨_, acts_step 4 (by simp only [tabN, hLi]; rfl) hnd ?_, hb⟩)
            rfl
          · -- 15
            have ho := Option.some.inj hi
            subst ho
            have h5 : L 12 = true := hd ⟨12, .data⟩ (by simp) rfl
            have h7 : L 14 = true := hd ⟨14, .data⟩ (by simp) rfl
            have hown := hN.reps
            unfold thR thK at hown
            rw [hLi] at hown
            have hbx := hN.bxB h7
            rw [← hKK.1, ← hRR.1] at hbx
            refine wpOp_on rfl rfl (wp_append_lies W (.tmp 40) (.tmp 42) 160 rfl (w.heap.size + 1) 23 i0 _ 1 8 Tryz.underlying160 hi0 hz0 hz1 hz2 rfl (by decide) (.slice Ar k cr) k (natC (treps num den k)) (acts_eval (k := 3) (by simp only [tabN, h5]; rfl) hnd (by simp)) hown ⟨θ.bB, 0, none⟩ 1 1 [.int .u64 (rp : Int)] (acts_eval (k := 4) (by simp only [tabN, h7]; rfl) hnd (by simp)) rfl (World.news_of_block hbx) (fun u hu => by rw [List.mem_singleton.1 hu]; rfl) (by decide) (by unfold maxLen; omega) (by omega) (Nat.le_trans (show w.heap.size + 1 ≤ tb + 1 by omega) hN.blk.lt) _ rfl ?_)
            intro g cap w' o' gr hat hlt
            rw [hRR.1, hKK.1] at o'
            refine ⟨_, acts_step 5 (by simp only [tabN, hLi]; rfl) hnd ?_, hN.appB hLi h5 o' gr hat⟩
            rfl
          · -- 16
            have ho := Option.some.inj hi
            subst ho
            refine wpOp_on rfl rfl (wpo_nil rfl ((acts_other (by simp [tabN])).trans rfl) ⟨θ, acts_step 6 (by simp only [tabN, hLi]; rfl) hnd ?_, hN.flag 16 (by decide)⟩)
            rfl
          · -- 17
            have ho := Option.some.inj hi
            subst ho
            have h16 : L 16 = true := hd ⟨16, .data⟩ (by simp) rfl
            refine wpOp_on rfl rfl (wpo_field210 1 2 rfl (.inl ⟨rfl, rfl⟩) (acts_eval (k := 6) (by simp only [tabN, h16]; rfl) hnd (by simp)) ⟨θ, acts_step 7 (by simp only [tabN, hLi]; rfl) hnd ?_, hN.flag 17 (by decide)⟩)
            rfl
          · -- 18
            have ho := Option.some.inj hi
            subst ho
            have h17 : L 17 = true := hd ⟨17, .data⟩ (by simp) rfl
            have h8 : L 8 = true := hd ⟨8, .data⟩ (by simp) rfl
            have hown := hN.lows
            unfold thL at hown
            rw [h8] at hown
            obtain ⟨Ax, cx, hvx⟩ := owns_slice hown
            have hst := hN.stA hLi h8
            have hvx' : θ.xl = .slice Ax (thK true k) cx := hvx
            rw [hvx'] at hst
            refine wpOp_on rfl rfl (wpo_store160 rfl (acts_eval (k := 7) (by simp only [tabN, h17]; rfl) hnd (by simp)) (acts_eval (k := 2) (by simp only [tabN, h8, hvx']; rfl) hnd (by simp)) _ (hN.blk.cell (j := 2) rfl) (hN.blk.frozen 2) ⟨θ, ?_, hst⟩)
            rfl
          · -- 19
            have ho := Option.some.inj hi
            subst ho
            refine wpOp_on rfl rfl (wpo_nil rfl ((acts_other (by simp [tabN])).trans rfl) ⟨θ, acts_step 8 (by simp only [tabN, hLi]; rfl) hnd ?_, hN.flag 19 (by decide)⟩)
            rfl
          · -- 20
            have ho := Option.some.inj hi
            subst ho
            have h16 : L 19 = true := hd ⟨19, .data⟩ (by simp) rfl
            refine wpOp_on rfl rfl (wpo_field210 2 3 rfl (.inr ⟨rfl, rfl⟩) (acts_eval (k := 8) (by simp only [tabN, h16]; rfl) hnd (by simp)) ⟨θ, acts_step 9 (by simp only [tabN, hLi]; rfl) hnd ?_, hN.flag 20 (by decide)⟩)
            rfl
          · -- 21
            have ho := Option.some.inj hi
            subst ho
            have h17 : L 20 = true := hd ⟨20, .data⟩ (by simp) rfl
            have h8 : L 15 = true := hd ⟨15, .data⟩ (by simp) rfl
            have hown := hN.reps
            unfold thR at hown
            rw [h8] at hown
            obtain ⟨Ax, cx, hvx⟩ := owns_slice hown
            have hst := hN.stB hLi h8
            have hvx' : θ.xr = .slice Ax (thK true k) cx := hvx
            rw [hvx'] at hst
            refine wpOp_on rfl rfl (wpo_store160 rfl (acts_eval (k := 9) (by simp only [tabN, h17]; rfl) hnd (by simp)) (acts_eval (k := 5) (by simp only [tabN, h8, hvx']; rfl) hnd (by simp)) _ (hN.blk.cell (j := 3) rfl) (hN.blk.frozen 3) ⟨θ, ?_, hst⟩)
            rfl
        · intro L θ W hN hall
          have h5 := hall 5 (by decide)
          have h7 := hall 7 (by decide)
          have h8 := hall 8 (by decide)
          have h12 := hall 12 (by decide)
          have h14 := hall 14 (by decide)
          have h15 := hall 15 (by decide)
          have h16 := hall 16 (by decide)
          have h17 := hall 17 (by decide)
          have h18 := hall 18 (by decide)
          have h19 := hall 19 (by decide)
          have h20 := hall 20 (by decide)
          have h21 := hall 21 (by decide)
          have hbl := hN.blk
          have hlw := hN.lows
          have hrw := hN.reps
          have hap := hN.ap
          unfold thL thK at hlw
          unfold thR thK at hrw
          unfold thL thR at hap
          rw [h8] at hlw
          rw [h15] at hrw
          rw [h8, h15] at hap
          rw [h18, h21] at hbl
          have HE := Lib.hid (show TabN (w.heap.size + 1) tb num den (k + 1) θ.xl θ.xr W ∧ Blk W w.heap.size #[.int .u64 (num : Int), .int .u64 (den : Int)] 25 ∧ Below w.heap.size w W from ⟨⟨hbl, hlw, hrw, hap⟩, hN.bx, hN.below⟩)
          simp only [acts, tabN, h5, h7, h8, h12, h14, h15, h16, h17, h19, h20, List.foldl_cons, List.foldl_nil, if_true, List.setIfInBounds_toArray, List.set_cons_succ, List.set_cons_zero]
          clear hN hall h5 h7 h8 h12 h14 h15 h16 h17 h18 h19 h20 h21 hbl hlw hrw hap
          rename_i KK
          refine KK _ _ ?_
          have hhi := HR.out.2
          have HT := Lib.hid (show tlow num den (k + 1) = hi + 1 from by rw [hhi, HK.out.1]; rfl)
          clear hhi
          go_wp2_with fail
          go_roundg (4097 - (k + 1))
          case measure => have := HK.out; omega
          case rel => exact ⟨k + 1, θ.xl, θ.xr, by rw [HT.out]; go_num, by omega, Nat.le_refl _, fun j hj => by
            rcases Nat.lt_or_ge j k with e | e
            · exact HN.out.2.2.2 j e
            · have e2 : j = k := by omega
              rw [e2, ← HK.out.1]; exact HK.out.2.1, HE.out.1, HE.out.2.1, HE.out.2.2, htb⟩
    · have g0 : ¬ (lo : Int) ≤ 9223372036854775808 := by omega
      have HB := Lib.hid (show NewT num den w (.returned (.tuple #[.pointer (some ⟨tb, 0, none⟩), .int .i64 0])) wr from .inl ⟨k, tb, vl, vr, ⟨by omega, by omega, hlo⟩, rfl, hB, ⟨N.blk, owns_base N.lows fun _ _ => Nat.zero_le _, owns_base N.reps fun _ _ => Nat.zero_le _⟩, by
        rintro j (rfl | e | e)
        · omega
        · have := (N.lows.lt _ e).1; omega
        · have := (N.reps.lt _ e).1; omega⟩)
      rw [← hlw]
      clear N BX hB hlo hle hlw hgk hend hk c0 c1 n2 hvl hvr
      go_wp2_with fail
      go_ret2
      exact HB.out
end Go.Proofs.YtbejdajkkoapgaaGreatDoor

