/-
  Several texts in one: Lx. What each proves, and on which conditions, stands at its head. Conditions: stated in each.
-/
import Derived.Test.YtbejdajkkoapgaaGreatDoorS19
import Derived.Test.YtbejdajkkoapgaaGreatDoorS29
import Derived.Test.YtbejdajkkoapgaaGreatDoorS30
/-
  Contracts of bins.load, Load. Conditions: rows that bins had.
-/
set_option linter.unusedVariables false
set_option linter.unusedSimpArgs false
set_option maxRecDepth 100000
namespace Go.Proofs.YtbejdajkkoapgaaGreatDoor
open Go.RowKit Go.Lib

theorem rep_same (w : World) (tb : Nat) (vl vr : Value) (num den n : Nat) (h : TabO w tb vl vr num den n) (hn2 : n ≤ 4096) (i : Nat) :
    Calls Tryz.prog 370 #[.pointer (some ⟨tb, 0, none⟩), .int .i64 (i : Int)] w fun e w' => e = .returned (.int .u64 (repN num den n i : Nat)) ∧ w = w' := by
  have c1 : w.cell? ⟨tb, 3, none⟩ = some vr := h.blk.cell rfl
  obtain ⟨A, cap, hv⟩ := owns_slice h.reps
  subst hv
  have g0 : ¬ (i : Int) < 0 := by omega
  by_cases hi : i < n
  · have e : repN num den n i = (treps num den n).getD i 0 := by unfold repN; rw [if_pos hi]
    rcases owns_shape h.reps with ⟨_, h0, _⟩ | ⟨g, cap', hv, hnc, hcap, _, hgl⟩
    · omega
    simp only [Value.slice.injEq, true_and] at hv
    obtain ⟨rfl, rfl⟩ := hv
    have c0 : w.cell? ⟨g, i, none⟩ = some (.int .u64 (((treps num den n).getD i 0 : Nat) : Int)) := by rw [h.reps.cellAt _ (by omega)]; exact natC_get _ (by rw [treps_len]; exact hi)
    rw [e]
    generalize (treps num den n).getD i 0 = r at *
    have g1 : ¬ (n : Int) ≤ (i : Int) := by omega
    have g2 : (i : Int) < (n : Int) := by omega
    clear h e hnc hcap hgl
    go_enter Tryz.func370, Tryz.ntmps370
    go_wp2_with fail
    go_ret
    exact ⟨rfl, rfl⟩
  · have e : repN num den n i = 0 := by unfold repN; rw [if_neg hi]
    rw [e]
    have g1 : (n : Int) ≤ (i : Int) := by omega
    clear h e
    go_enter Tryz.func370, Tryz.ntmps370
    go_wp2_with fail
    go_ret
    exact ⟨rfl, rfl⟩
/-- what load answers -/
def LoadB (hi : Bool) (M : Nat) (row : Row) (T : Nat) (w : World) (e : Ending) (w' : World) : Prop := ∃ (v : Value) (code : Int), e = .returned (.tuple #[v, .int .i64 code]) ∧ Below w.heap.size w w' ∧ (v = .nilIface ∨ ∃ T x, v = .iface T x) ∧
  (code = 0 → ∃ cb O, v = .iface (PT hi) (.pointer (some ⟨cb, 0, none⟩)) ∧ StoQ hi M row T w' cb O ∧ ∀ j, O j → w.heap.size ≤ j)
/-- behind that call -/
def LdPost (hi : Bool) (M : Nat) (row : Row) (T : Nat) (W0 w' : World) (v : Value) (code : Int) : Prop := Below W0.heap.size W0 w' ∧ (v = .nilIface ∨ ∃ T x, v = .iface T x) ∧
  (code = 0 → ∃ cb O, v = .iface (PT hi) (.pointer (some ⟨cb, 0, none⟩)) ∧ StoQ hi M row T w' cb O ∧ ∀ j, O j → W0.heap.size ≤ j)
/-- a row that a store had -/
structure RowK (hi : Bool) (M : Nat) (m : Row) (l : Nat) : Prop where
  rising : Rising m
  full : Full m
  low : ∀ x ∈ m, x.1 < 4096
  tot : rowTotal m + l ≤ 9223372036854775807
  fit : ∀ q, (joinK hi M [] (m.take q)).length ≤ M
  same : joinK hi M [] m = m
  len : m.length ≤ 4096
/-- stores that are being loaded -/
def LxS (hi : Bool) (M : Nat) (w : World) (sb : Nat) (m0 m1 : Row) (T0 T1 : Nat) (r : Nat) (W : World) : Prop :=
  (r = 0 ∧ Blk W sb #[.nilIface, .nilIface] 229) ∨
  (r = 1 ∧ ∃ c0 O0, Blk W sb #[.iface (PT hi) (.pointer (some ⟨c0, 0, none⟩)), .nilIface] 229 ∧ StoQ hi M m0 T0 W c0 O0 ∧ ∀ j, O0 j → w.heap.size ≤ j) ∨
  (r = 2 ∧ ∃ c0 O0 c1 O1, Blk W sb #[.iface (PT hi) (.pointer (some ⟨c0, 0, none⟩)), .iface (PT hi) (.pointer (some ⟨c1, 0, none⟩))] 229 ∧ StoQ hi M m0 T0 W c0 O0 ∧ StoQ hi M m1 T1 W c1 O1 ∧ (∀ j, O0 j → w.heap.size ≤ j) ∧ (∀ j, O1 j → w.heap.size ≤ j) ∧ ∀ j, O0 j → ¬ O1 j)
structure LxC (hi : Bool) (M num den n : Nat) (w : World) (bb tb : Nat) (vl vr : Value) (ca cc : Nat) (Oa Oc : Nat → Prop) (va vb : Value) (m0 m1 : Row) (l0 l1 : Nat) (rb lb sb : Nat) (r : Nat) (W : World) : Prop where
  bn : BinO hi M num den n W bb tb vl vr ca cc Oa Oc [] [] 0 0 0
  rows : Blk W rb #[va, vb] 195
  lost : Blk W lb #[.int .u64 (l0 : Int), .int .u64 (l1 : Int)] 193
  oa : W.ownsRow 0 228 2 va m0.length (rowC m0)
  ob : W.ownsRow 0 228 2 vb m1.length (rowC m1)
  below : Below w.heap.size w W
  st : LxS hi M w sb m0 m1 (rowTotal m0 + l0) (rowTotal m1 + l1) r W
  sbn : w.heap.size ≤ sb
section
variable {hi : Bool} {M num den n : Nat} {w : World} {bb tb : Nat} {vl vr : Value} {ca cc : Nat} {Oa Oc : Nat → Prop} {va vb : Value} {m0 m1 : Row} {l0 l1 rb lb sb r : Nat} {W W' : World}
theorem LxC.next (h : LxC hi M num den n w bb tb vl vr ca cc Oa Oc va vb m0 m1 l0 l1 rb lb sb r W) (b : Below W.heap.size W W') : LxC hi M num den n w bb tb vl vr ca cc Oa Oc va vb m0 m1 l0 l1 rb lb sb r W' := by
  refine ⟨h.bn.next b, h.rows.below b h.rows.lt, h.lost.below b h.lost.lt, owns_below h.oa b fun g hg => (h.oa.lt g hg).2, owns_below h.ob b fun g hg => (h.ob.lt g hg).2, h.below.trans (b.mono h.below.size), ?_, h.sbn⟩
  rcases h.st with ⟨e, h1⟩ | ⟨e, c0, O0, h1, h2, h3⟩ | ⟨e, c0, O0, c1, O1, h1, h2, h3, h4, h5, h6⟩
  · exact .inl ⟨e, h1.below b h1.lt⟩
  · exact .inr (.inl ⟨e, c0, O0, h1.below b h1.lt, h2.next b, h3⟩)
  · exact .inr (.inr ⟨e, c0, O0, c1, O1, h1.below b h1.lt, h2.next b, h3.next b, h4, h5, h6⟩)
theorem LxC.sblt (h : LxC hi M num den n w bb tb vl vr ca cc Oa Oc va vb m0 m1 l0 l1 rb lb sb r W) : ∃ cs, Blk W sb cs 229 := by
  rcases h.st with ⟨e, h1⟩ | ⟨e, c0, O0, h1, h2, h3⟩ | ⟨e, c0, O0, c1, O1, h1, h2, h3, h4, h5, h6⟩
  · exact ⟨_, h1⟩
  · exact ⟨_, h1⟩
  · exact ⟨_, h1⟩
theorem LxC.nilAt (h : LxC hi M num den n w bb tb vl vr ca cc Oa Oc va vb m0 m1 l0 l1 rb lb sb r W) (hr : r < 2) : W.cell? ⟨sb, r, none⟩ = some .nilIface ∧ W.frozen? ⟨sb, r, none⟩ = false := by
  obtain ⟨cs, hsb⟩ := h.sblt
  refine ⟨?_, hsb.frozen r⟩
  rcases h.st with ⟨rfl, h1⟩ | ⟨rfl, c0, O0, h1, h2, h3⟩ | ⟨rfl, _⟩
  · exact h1.cell rfl
  · exact h1.cell rfl
  · omega
theorem LxC.turn (h : LxC hi M num den n w bb tb vl vr ca cc Oa Oc va vb m0 m1 l0 l1 rb lb sb r W) (i : Nat) (v : Value) {r2 : Nat} (hs : LxS hi M w sb m0 m1 (rowTotal m0 + l0) (rowTotal m1 + l1) r2 (W.setCell ⟨sb, i, none⟩ v)) : LxC hi M num den n w bb tb vl vr ca cc Oa Oc va vb m0 m1 l0 l1 rb lb sb r2 (W.setCell ⟨sb, i, none⟩ v) := by
  obtain ⟨cs, hsb⟩ := h.sblt
  have a : Away (fun j => j = sb) W (W.setCell ⟨sb, i, none⟩ v) := (Away.refl _ _).setCell _ _ (.inl rfl)
  have ho : ∀ {v : Value} {nn : Nat} {xs : List Value}, W.ownsRow 0 228 2 v nn xs → ∀ g, v.ownBlock = some g → ¬ g = sb := fun o g hg e => by
    obtain ⟨cur, hc⟩ := owns_blk o hg
    rw [e] at hc
    exact (hc.ne hsb (by decide)) rfl
  refine ⟨h.bn.away a fun j hj e => ?_, h.rows.away a (h.rows.ne hsb (by decide)), h.lost.away a (h.lost.ne hsb (by decide)), owns_away h.oa a (ho h.oa), owns_away h.ob a (ho h.ob), h.below.trans (a.below h.below.size fun k hk e => by have := h.sbn; omega), hs, h.sbn⟩
  obtain ⟨cs2, t, k1, k2⟩ := h.bn.ty j hj
  rw [e] at k1
  refine (hsb.ne k1 ?_) rfl
  rcases k2 with k2 | k2 | k2 | k2 | k2 | k2 <;> subst k2 <;> cases hi <;> decide
/-- what stays when a place among the stores is turned -/
structure LxK (hi : Bool) (M num den n : Nat) (w : World) (bb tb : Nat) (vl vr : Value) (ca cc : Nat) (Oa Oc : Nat → Prop) (va vb : Value) (l0 l1 : Nat) (rb lb : Nat) (W : World) : Prop where
  bn : BinO hi M num den n W bb tb vl vr ca cc Oa Oc [] [] 0 0 0
  rows : Blk W rb #[va, vb] 195
  lost : Blk W lb #[.int .u64 (l0 : Int), .int .u64 (l1 : Int)] 193
theorem LxC.poke (h : LxC hi M num den n w bb tb vl vr ca cc Oa Oc va vb m0 m1 l0 l1 rb lb sb r W) (i : Nat) (v : Value) : LxK hi M num den n w bb tb vl vr ca cc Oa Oc va vb l0 l1 rb lb (W.setCell ⟨sb, i, none⟩ v) := by
  obtain ⟨cs, hsb⟩ := h.sblt
  have a : Away (fun j => j = sb) W (W.setCell ⟨sb, i, none⟩ v) := (Away.refl _ _).setCell _ _ (.inl rfl)
  refine ⟨h.bn.away a fun j hj e => ?_, h.rows.away a (h.rows.ne hsb (by decide)), h.lost.away a (h.lost.ne hsb (by decide))⟩
  obtain ⟨cs2, t, k1, k2⟩ := h.bn.ty j hj
  rw [e] at k1
  refine (hsb.ne k1 ?_) rfl
  rcases k2 with k2 | k2 | k2 | k2 | k2 | k2 <;> subst k2 <;> cases hi <;> decide
/-- a store put into its place -/
theorem LxC.put0 (h : LxC hi M num den n w bb tb vl vr ca cc Oa Oc va vb m0 m1 l0 l1 rb lb sb 0 W) (b : Below W.heap.size W W') {c0 : Nat} {O0 : Nat → Prop} (q : StoQ hi M m0 (rowTotal m0 + l0) W' c0 O0) (hO : ∀ j, O0 j → W.heap.size ≤ j) : LxC hi M num den n w bb tb vl vr ca cc Oa Oc va vb m0 m1 l0 l1 rb lb sb 1 (W'.setCell ⟨sb, 0, none⟩ (.iface (PT hi) (.pointer (some ⟨c0, 0, none⟩)))) := by
  have hz := h.below.size
  obtain ⟨cs, hsb⟩ := (h.next b).sblt
  have a : Away (fun j => j = sb) W' (W'.setCell ⟨sb, 0, none⟩ (.iface (PT hi) (.pointer (some ⟨c0, 0, none⟩)))) := (Away.refl _ _).setCell _ _ (.inl rfl)
  refine (h.next b).turn 0 _ ?_
  rcases (h.next b).st with ⟨e, h1⟩ | ⟨e, _⟩ | ⟨e, _⟩
  · exact .inr (.inl ⟨rfl, c0, O0, h1.set 0 _, q.away a fun j hj e => q.not hsb (by cases hi <;> decide) (e ▸ hj), fun j hj => Nat.le_trans hz (hO j hj)⟩)
  · omega
  · omega
theorem LxC.put1 (h : LxC hi M num den n w bb tb vl vr ca cc Oa Oc va vb m0 m1 l0 l1 rb lb sb 1 W) (b : Below W.heap.size W W') {c1 : Nat} {O1 : Nat → Prop} (q : StoQ hi M m1 (rowTotal m1 + l1) W' c1 O1) (hO : ∀ j, O1 j → W.heap.size ≤ j) : LxC hi M num den n w bb tb vl vr ca cc Oa Oc va vb m0 m1 l0 l1 rb lb sb 2 (W'.setCell ⟨sb, 1, none⟩ (.iface (PT hi) (.pointer (some ⟨c1, 0, none⟩)))) := by
  have hz := h.below.size
  obtain ⟨cs, hsb⟩ := (h.next b).sblt
  have a : Away (fun j => j = sb) W' (W'.setCell ⟨sb, 1, none⟩ (.iface (PT hi) (.pointer (some ⟨c1, 0, none⟩)))) := (Away.refl _ _).setCell _ _ (.inl rfl)
  refine (h.next b).turn 1 _ ?_
  rcases h.st with ⟨e, _⟩ | ⟨e, c0, O0, h1, h2, h3⟩ | ⟨e, _⟩
  · omega
  · have h4 := h2.next b
    refine .inr (.inr ⟨rfl, c0, O0, c1, O1, (h1.below b h1.lt).set 1 _, h4.away a fun j hj e => h4.not hsb (by cases hi <;> decide) (e ▸ hj), q.away a fun j hj e => q.not hsb (by cases hi <;> decide) (e ▸ hj), h3, fun j hj => Nat.le_trans hz (hO j hj), fun j hj hk => ?_⟩)
    have := h2.lt j hj
    have := hO j hk
    omega
  · omega
end
/-- what Load answers -/
def LdBP (hi : Bool) (M num den n : Nat) (w : World) (bb tb : Nat) (vl vr : Value) (m0 m1 : Row) (T0 T1 z : Nat) (e : Ending) (w' : World) : Prop := ∃ code : Int, e = .returned (.int .i64 code) ∧ Away (fun j => j = bb) w w' ∧
  (code = 0 → ∃ ca cc Oa Oc, BinO hi M num den n w' bb tb vl vr ca cc Oa Oc m0 m1 T0 T1 z ∧ (∀ j, Oa j → w.heap.size ≤ j) ∧ ∀ j, Oc j → w.heap.size ≤ j)
/-- with a pair in its box -/
structure LxP (hi : Bool) (M num den n : Nat) (w : World) (bb tb : Nat) (vl vr : Value) (ca cc : Nat) (Oa Oc : Nat → Prop) (va vb : Value) (m0 m1 : Row) (l0 l1 : Nat) (rb lb sb : Nat) (r : Nat) (xb ix ct : Nat) (W : World) : Prop where
  lx : LxC hi M num den n w bb tb vl vr ca cc Oa Oc va vb m0 m1 l0 l1 rb lb sb r W
  px : Blk W xb #[.int .i64 (ix : Int), .int .u64 (ct : Int)] 228
section
variable {hi : Bool} {M num den n : Nat} {w : World} {bb tb : Nat} {vl vr : Value} {ca cc : Nat} {Oa Oc : Nat → Prop} {va vb : Value} {m0 m1 : Row} {l0 l1 rb lb sb r xb ix ct : Nat} {W W' : World}
theorem LxP.next (h : LxP hi M num den n w bb tb vl vr ca cc Oa Oc va vb m0 m1 l0 l1 rb lb sb r xb ix ct W) (b : Below W.heap.size W W') : LxP hi M num den n w bb tb vl vr ca cc Oa Oc va vb m0 m1 l0 l1 rb lb sb r xb ix ct W' := ⟨h.lx.next b, h.px.below b h.px.lt⟩
theorem LxP.pc (h : LxP hi M num den n w bb tb vl vr ca cc Oa Oc va vb m0 m1 l0 l1 rb lb sb r xb ix ct W) : W.cell? ⟨xb, 0, none⟩ = some (.int .i64 (ix : Int)) ∧ W.cell? ⟨xb, 1, none⟩ = some (.int .u64 (ct : Int)) := ⟨h.px.cell rfl, h.px.cell rfl⟩
theorem LxC.fail (h : LxC hi M num den n w bb tb vl vr ca cc Oa Oc va vb m0 m1 l0 l1 rb lb sb r W) {T0 T1 z : Nat} {c : Int} (hc : c ≠ 0) : LdBP hi M num den n w bb tb vl vr m0 m1 T0 T1 z (.returned (.int .i64 c)) W := ⟨c, rfl, Away.of_below h.below, fun e => absurd e hc⟩
theorem LxC.failAt (h : LxC hi M num den n w bb tb vl vr ca cc Oa Oc va vb m0 m1 l0 l1 rb lb sb r W) {T0 T1 z : Nat} {c : Int} (hc : c ≠ 0) (i : Nat) (v : Value) : LdBP hi M num den n w bb tb vl vr m0 m1 T0 T1 z (.returned (.int .i64 c)) (W.setCell ⟨sb, i, none⟩ v) := ⟨c, rfl, Away.of_below (h.below.setCell h.sbn v), fun e => absurd e hc⟩
end
/-- both stores loaded -/
structure Lx2 (hi : Bool) (M num den n : Nat) (w : World) (bb tb : Nat) (vl vr : Value) (ca cc : Nat) (Oa Oc : Nat → Prop) (m0 m1 : Row) (T0 T1 : Nat) (sb c0 c1 : Nat) (O0 O1 : Nat → Prop) (W : World) : Prop where
  bn : BinO hi M num den n W bb tb vl vr ca cc Oa Oc [] [] 0 0 0
  st : Blk W sb #[.iface (PT hi) (.pointer (some ⟨c0, 0, none⟩)), .iface (PT hi) (.pointer (some ⟨c1, 0, none⟩))] 229
  s0 : StoQ hi M m0 T0 W c0 O0
  s1 : StoQ hi M m1 T1 W c1 O1
  h0 : ∀ j, O0 j → w.heap.size ≤ j
  h1 : ∀ j, O1 j → w.heap.size ≤ j
  ap : ∀ j, O0 j → ¬ O1 j
  below : Below w.heap.size w W
  sbn : w.heap.size ≤ sb
section
variable {hi : Bool} {M num den n : Nat} {w : World} {bb tb : Nat} {vl vr : Value} {ca cc : Nat} {Oa Oc : Nat → Prop} {m0 m1 : Row} {T0 T1 sb c0 c1 : Nat} {O0 O1 : Nat → Prop} {W W' : World}
theorem Lx2.next (h : Lx2 hi M num den n w bb tb vl vr ca cc Oa Oc m0 m1 T0 T1 sb c0 c1 O0 O1 W) (b : Below W.heap.size W W') : Lx2 hi M num den n w bb tb vl vr ca cc Oa Oc m0 m1 T0 T1 sb c0 c1 O0 O1 W' :=
  ⟨h.bn.next b, h.st.below b h.st.lt, h.s0.next b, h.s1.next b, h.h0, h.h1, h.ap, h.below.trans (b.mono h.below.size), h.sbn⟩
theorem Lx2.fin (h : Lx2 hi M num den n w bb tb vl vr ca cc Oa Oc m0 m1 T0 T1 sb c0 c1 O0 O1 W) (hb : bb < w.heap.size) (z : Nat) : LdBP hi M num den n w bb tb vl vr m0 m1 T0 T1 z (.returned (.int .i64 0)) (((W.setCell ⟨bb, 3, none⟩ (.iface (PT hi) (.pointer (some ⟨c0, 0, none⟩)))).setCell ⟨bb, 4, none⟩ (.iface (PT hi) (.pointer (some ⟨c1, 0, none⟩)))).setCell ⟨bb, 5, none⟩ (.int .u64 (z : Int))).drew := by
  have a : Away (fun j => j = bb) W (((W.setCell ⟨bb, 3, none⟩ (.iface (PT hi) (.pointer (some ⟨c0, 0, none⟩)))).setCell ⟨bb, 4, none⟩ (.iface (PT hi) (.pointer (some ⟨c1, 0, none⟩)))).setCell ⟨bb, 5, none⟩ (.int .u64 (z : Int))).drew := (Away.setCell (Away.setCell (Away.setCell (Away.refl (fun j => j = bb) W) ⟨bb, 3, none⟩ _ (.inl rfl)) ⟨bb, 4, none⟩ _ (.inl rfl)) ⟨bb, 5, none⟩ _ (.inl rfl)).drew
  have hT : ∀ j, OwnT tb vl vr j → ¬ j = bb := fun j hj e => by
    obtain ⟨cs, t, h1, h2⟩ := h.bn.tab.ty j hj
    rw [e] at h1
    exact (h.bn.blk.ne h1 (by rcases h2 with rfl | rfl <;> decide)) rfl
  refine ⟨0, rfl, (Away.of_below (F := fun j => j = bb) h.below).trans' a (fun _ _ h => h) (fun _ _ h => h), fun _ => ⟨c0, c1, O0, O1, ⟨?_, h.bn.tab.away a hT, h.s0.away a fun j hj e => h.bn.binNot h.s0 (e ▸ hj), h.s1.away a fun j hj e => h.bn.binNot h.s1 (e ▸ hj), h.ap⟩, h.h0, h.h1⟩⟩
  exact (((h.bn.blk.set 3 _).set 4 _).set 5 _).drew
theorem LxC.to2 {va vb : Value} {l0 l1 rb lb : Nat} (h : LxC hi M num den n w bb tb vl vr ca cc Oa Oc va vb m0 m1 l0 l1 rb lb sb 2 W) : ∃ c0 c1 O0 O1, Lx2 hi M num den n w bb tb vl vr ca cc Oa Oc m0 m1 (rowTotal m0 + l0) (rowTotal m1 + l1) sb c0 c1 O0 O1 W := by
  rcases h.st with ⟨e, _⟩ | ⟨e, _⟩ | ⟨_, c0, O0, c1, O1, h1, h2, h3, h4, h5, h6⟩
  · omega
  · omega
  · exact ⟨c0, c1, O0, O1, h.bn, h1, h2, h3, h4, h5, h6, h.below, h.sbn⟩
end

theorem lload_L {M : Nat} (hM1 : 1 ≤ M) (hM2 : M ≤ 4096) (w : World) (va : Value) (m : Row) (l : Nat) (h : w.ownsRow 0 228 2 va m.length (rowC m)) (k : RowK false M m l) :
    Calls Tryz.prog 89 #[.int .i64 0, .int .i64 (M : Int), va, .int .u64 (l : Int)] w (LoadB false M m (rowTotal m + l) w) := by
  have hs := sload_L hM1 hM2 w va m l h k.rising k.full k.low k.tot k.fit k.same k.len
  obtain ⟨A, cap, hv⟩ := owns_slice h
  subst hv
  clear h k hM1 hM2
  go_enter Tryz.func89, Tryz.ntmps89
  go_wp2_with fail
  refine hs.mono ?_
  rintro e w1 ⟨po, code, rfl, b1, q⟩
  have HQ := Lib.hid (And.intro b1 q)
  clear hs b1 q
  by_cases hc : code = 0
  · subst hc
    go_wp2_with fail
    go_ret2
    obtain ⟨b1, q⟩ := HQ.out
    obtain ⟨cb, O, rfl, h1, h2⟩ := q (by simp)
    exact ⟨_, 0, rfl, b1, .inr ⟨_, _, rfl⟩, fun _ => ⟨cb, O, rfl, h1, h2⟩⟩
  · have hc1 : (code == 0) = false := by simp [hc]
    have hc2 : (code != 0) = true := by simp [hc]
    go_wp2_with fail
    go_ret2
    exact ⟨_, code, rfl, HQ.out.1, .inl rfl, fun h => absurd h hc⟩

theorem lx2_L {M num den n : Nat} {w : World} {bb tb : Nat} {vl vr : Value} {ca cc : Nat} {Oa Oc : Nat → Prop} {m0 m1 : Row} {T0 T1 sb c0 c1 : Nat} {O0 O1 : Nat → Prop} {W : World} (h : Lx2 false M num den n w bb tb vl vr ca cc Oa Oc m0 m1 T0 T1 sb c0 c1 O0 O1 W) : W.cell? ⟨sb, 0, none⟩ = some (.iface 246 (.pointer (some ⟨c0, 0, none⟩))) ∧ W.cell? ⟨sb, 1, none⟩ = some (.iface 246 (.pointer (some ⟨c1, 0, none⟩))) := ⟨h.st.cell rfl, h.st.cell rfl⟩
set_option maxHeartbeats 16000000 in
theorem bload_L {M num den n : Nat} (hM1 : 1 ≤ M) (hM2 : M ≤ 4096) (hn2 : n ≤ 4096) (w : World) (bb tb : Nat) (vl vr : Value) (ca cc : Nat) (Oa Oc : Nat → Prop) (h : BinO false M num den n w bb tb vl vr ca cc Oa Oc [] [] 0 0 0)
    (va vb : Value) (m0 m1 : Row) (l0 l1 z : Nat) (oa : w.ownsRow 0 228 2 va m0.length (rowC m0)) (ob : w.ownsRow 0 228 2 vb m1.length (rowC m1)) (r0 : RowK false M m0 l0) (r1 : RowK false M m1 l1) (hT : rowTotal m0 + l0 + (rowTotal m1 + l1) + z ≤ 9223372036854775807) :
    Calls Tryz.prog 76 #[.pointer (some ⟨bb, 0, none⟩), .agg #[va, vb], .agg #[.int .u64 (l0 : Int), .int .u64 (l1 : Int)], .int .u64 (z : Int)] w (LdBP false M num den n w bb tb vl vr m0 m1 (rowTotal m0 + l0) (rowTotal m1 + l1) z) := by
  obtain ⟨Aa, pa, hva⟩ := owns_slice oa
  obtain ⟨Ab, pb, hvb⟩ := owns_slice ob
  subst hva
  subst hvb
  obtain ⟨n0, hn0⟩ : ∃ n, n = m0.length := ⟨_, rfl⟩
  obtain ⟨n1, hn1⟩ : ∃ n, n = m1.length := ⟨_, rfl⟩
  rw [← hn0] at oa ⊢
  rw [← hn1] at ob ⊢
  have n0l : n0 ≤ 4096 := by have := r0.len; omega
  have n1l : n1 ≤ 4096 := by have := r1.len; omega
  have b1 : Below w.heap.size w (w.alloc (.cells #[.slice Aa n0 pa, .slice Ab n1 pb] 195)) := (Below.refl _ _).alloc (Nat.le_refl _) _
  have b2 := b1.alloc b1.size (.cells #[.int .u64 (l0 : Int), .int .u64 (l1 : Int)] 193)
  have b3 := b2.alloc b2.size (.cells #[.nilIface, .nilIface] 229)
  have C0 : LxC false M num den n w bb tb vl vr ca cc Oa Oc (.slice Aa n0 pa) (.slice Ab n1 pb) m0 m1 l0 l1 w.heap.size (w.heap.size + 1) (w.heap.size + 1 + 1) 0 (((w.alloc (.cells #[.slice Aa n0 pa, .slice Ab n1 pb] 195)).alloc (.cells #[.int .u64 (l0 : Int), .int .u64 (l1 : Int)] 193)).alloc (.cells #[.nilIface, .nilIface] 229)) :=
    ⟨h.next b3, ((Blk.newAt rfl).alloc _).alloc _, (Blk.newAt (by simp)).alloc _, by rw [← hn0]; exact owns_below oa b3 fun g hg => (oa.lt g hg).2, by rw [← hn1]; exact owns_below ob b3 fun g hg => (ob.lt g hg).2, b3, .inl ⟨rfl, Blk.newAt (by simp)⟩, by omega⟩
  have HC := Lib.hid C0
  have HR := Lib.hid (And.intro r0 (And.intro r1 (And.intro hn0 (And.intro hn1 hT))))
  have HM := Lib.hid (And.intro hM1 (And.intro hM2 hn2))
  have HB := Lib.hid (And.intro h.blk.lt h)
  clear h oa ob r0 r1 hn0 hn1 b1 b2 b3 C0 hM1 hM2 hn2 hT
  go_enter Tryz.func76, Tryz.ntmps76
  go_wp2_with fail
  go_loopg [10, 12, 13, 18] 2 (fun g _ _ _ i wr => ∃ r : Nat, i = .int .i64 (r : Int) ∧ r ≤ 2 ∧ 2 - r ≤ g ∧ LxC false M num den n w bb tb vl vr ca cc Oa Oc (.slice Aa n0 pa) (.slice Ab n1 pb) m0 m1 l0 l1 w.heap.size (w.heap.size + 1) (w.heap.size + 1 + 1) r wr)
  case atStart => exact ⟨0, rfl, by decide, by decide, HC.out⟩
  case round =>
    clear HC
    obtain ⟨r, rfl, hr, hgr, H⟩ := hrel
    by_cases k0 : r = 0
    · subst k0
      have HX := Lib.hid H
      have x0 : wr.cell? ⟨w.heap.size, 0, none⟩ = some (.slice Aa n0 pa) := H.rows.cell rfl
      clear H
      go_wp2_with fail
      clear x0
      go_loopg [12, 25] n0 (fun g _ i wr => ∃ q : Nat, i = .int .i64 (q : Int) ∧ q ≤ n0 ∧ n0 - q ≤ g ∧ LxC false M num den n w bb tb vl vr ca cc Oa Oc (.slice Aa n0 pa) (.slice Ab n1 pb) m0 m1 l0 l1 w.heap.size (w.heap.size + 1) (w.heap.size + 1 + 1) 0 wr)
      case atStart => exact ⟨0, rfl, Nat.zero_le _, Nat.le_refl _, HX.out⟩
      case round =>
        clear HX
        obtain ⟨q, rfl, hq, hg, H⟩ := hrel
        have HX := Lib.hid H
        by_cases hqn : q < n0
        · have g0 : (q : Int) < (n0 : Int) := by omega
          have hql : q < m0.length := by rw [← HR.out.2.2.1]; exact hqn
          obtain ⟨ix, hix⟩ : ∃ i, i = (m0[q]'hql).1 := ⟨_, rfl⟩
          obtain ⟨ct, hct⟩ : ∃ i, i = (m0[q]'hql).2 := ⟨_, rfl⟩
          have O2 := H.oa
          rcases owns_shape O2 with ⟨hv0, hn0, _⟩ | ⟨g, cap, hv0, hnc, hcap, _, hgl⟩
          · have := HR.out.2.2.1; omega
          simp only [Value.slice.injEq] at hv0
          obtain ⟨rfl, hnn, rfl⟩ := hv0
          have en : n0 = m0.length := HR.out.2.2.1
          have O3 : wr.ownsRow 0 228 2 (.slice (some ⟨g, 0, none⟩) m0.length pa) m0.length (rowC m0) := by rw [← en]; rw [← en] at O2; exact O2
          have p0 : wr.cell? ⟨g, q * 2, none⟩ = some (.int .i64 (ix : Int)) := by rw [O3.cellAt _ (by omega), rowC_fst m0 q hql, hix]
          have p1 : wr.cell? ⟨g, q * 2 + 1, none⟩ = some (.int .u64 (ct : Int)) := by rw [O3.cellAt _ (by omega), rowC_snd m0 q hql, hct]
          have J2 : LxP false M num den n w bb tb vl vr ca cc Oa Oc (.slice (some ⟨g, 0, none⟩) n0 pa) (.slice Ab n1 pb) m0 m1 l0 l1 w.heap.size (w.heap.size + 1) (w.heap.size + 1 + 1) 0 wr.heap.size ix ct (wr.alloc (.cells #[.int .i64 (ix : Int), .int .u64 (ct : Int)] 228)) := ⟨H.next ((Below.refl _ _).alloc (Nat.le_refl _) _), Blk.newAt rfl⟩
          obtain ⟨rv, hrv⟩ : ∃ rv, rv = repN num den n ix := ⟨_, rfl⟩
          have hrp := fun W (k : LxP false M num den n w bb tb vl vr ca cc Oa Oc (.slice (some ⟨g, 0, none⟩) n0 pa) (.slice Ab n1 pb) m0 m1 l0 l1 w.heap.size (w.heap.size + 1) (w.heap.size + 1 + 1) 0 wr.heap.size ix ct W) => rep_same W tb vl vr num den n k.lx.bn.tab HM.out.2.2 ix
          rw [← hrv] at hrp
          have hmr := fun W => mrep tb W
          have t1 : decide ((ix : Int) < 0) = false := by first | (simp; done) | (simp; omega)
          have HJ := Lib.hid J2
          clear O2 O3 H J2 hgl hnc hcap hnn en hix hct hrv
          go_upto_region 10 with fail
          by_cases hz : rv = 0
          · have z1 : ((rv : Int) == 0) = true := by simp [hz]
            have z2 : (rv == 0) = true := by simp [hz]
            clear hz
            refine wp_region_quiet_litC (C := LxP false M num den n w bb tb vl vr ca cc Oa Oc (.slice (some ⟨g, 0, none⟩) n0 pa) (.slice Ab n1 pb) m0 m1 l0 l1 w.heap.size (w.heap.size + 1) (w.heap.size + 1 + 1) 0 wr.heap.size ix ct) (by kernel_rfl) (by kernel_rfl) (HJ.out.next (Below.refl _ _).drew) ?_
            repeat (first | go_big_quiet_skip | (go_big_quiet_want; go_big_quiet_op; first | go_big_quiet_on | (refine quiet_const ?_; go_big_quiet_on)))
            go_big_quiet_want
            refine ⟨.int .i64 (ix : Int), fun wx hx => ?_, ?_⟩
            · obtain ⟨p0, p1⟩ := hx.pc
              go_simp
            go_big_quiet_on
            simp only [Act.put, List.setIfInBounds_toArray, List.set_cons_zero, List.set_cons_succ]
            repeat (first | go_big_quiet_skip | (go_big_quiet_want; go_big_quiet_op; first | go_big_quiet_on | (refine quiet_const ?_; go_big_quiet_on)))
            go_big_quiet_want
            refine ⟨.iface 163 (.pointer (some ⟨tb, 0, none⟩)), fun wx hx => ?_, ?_⟩
            · obtain ⟨c0, c1, c2, c3, c4, c5, f3, f4, f5⟩ := bcells_L hx.lx.bn
              go_simp
            go_big_quiet_on
            simp only [Act.put, List.setIfInBounds_toArray, List.set_cons_zero, List.set_cons_succ]
            repeat (first | go_big_quiet_skip | (go_big_quiet_want; go_big_quiet_op; first | go_big_quiet_on | (refine quiet_const ?_; go_big_quiet_on)))
            go_big_quiet_want
            refine ⟨.int .i64 (ix : Int), fun wx hx => ?_, ?_⟩
            · obtain ⟨p0, p1⟩ := hx.pc
              go_simp
            go_big_quiet_on
            simp only [Act.put, List.setIfInBounds_toArray, List.set_cons_zero, List.set_cons_succ]
            repeat (first | go_big_quiet_skip | (go_big_quiet_want; go_big_quiet_op; first | go_big_quiet_on | (refine quiet_const ?_; go_big_quiet_on)))
            go_big_quiet_want
            go_big_quiet_op
            refine ⟨.int .u64 (rv : Int), fun wx hx => ?_, ?_⟩
            · exact (hrp wx hx).mono fun _ _ hm => ⟨hm.1, hm.2 ▸ hx⟩
            go_big_quiet_on
            repeat (first | go_big_quiet_skip | (go_big_quiet_want; go_big_quiet_op; first | go_big_quiet_on | (refine quiet_const ?_; go_big_quiet_on)))
            refine wpQuiet_nil ?_
            intro w5 H5
            have HF := Lib.hid (show LdBP false M num den n w bb tb vl vr m0 m1 (rowTotal m0 + l0) (rowTotal m1 + l1) z (.returned (.int .i64 1)) w5 from H5.lx.fail (by decide))
            clear H5 hrp hmr
            go_wp2_with fail
            go_ret
            exact HF.out
          · have z1 : ((rv : Int) == 0) = false := by simp [hz]
            have z2 : (rv == 0) = false := by simp [hz]
            clear hz
            refine wp_region_quiet_litC (C := LxP false M num den n w bb tb vl vr ca cc Oa Oc (.slice (some ⟨g, 0, none⟩) n0 pa) (.slice Ab n1 pb) m0 m1 l0 l1 w.heap.size (w.heap.size + 1) (w.heap.size + 1 + 1) 0 wr.heap.size ix ct) (by kernel_rfl) (by kernel_rfl) (HJ.out.next (Below.refl _ _).drew) ?_
            repeat (first | go_big_quiet_skip | (go_big_quiet_want; go_big_quiet_op; first | go_big_quiet_on | (refine quiet_const ?_; go_big_quiet_on)))
            go_big_quiet_want
            refine ⟨.int .i64 (ix : Int), fun wx hx => ?_, ?_⟩
            · obtain ⟨p0, p1⟩ := hx.pc
              go_simp
            go_big_quiet_on
            simp only [Act.put, List.setIfInBounds_toArray, List.set_cons_zero, List.set_cons_succ]
            repeat (first | go_big_quiet_skip | (go_big_quiet_want; go_big_quiet_op; first | go_big_quiet_on | (refine quiet_const ?_; go_big_quiet_on)))
            go_big_quiet_want
            refine ⟨.iface 163 (.pointer (some ⟨tb, 0, none⟩)), fun wx hx => ?_, ?_⟩
            · obtain ⟨c0, c1, c2, c3, c4, c5, f3, f4, f5⟩ := bcells_L hx.lx.bn
              go_simp
            go_big_quiet_on
            simp only [Act.put, List.setIfInBounds_toArray, List.set_cons_zero, List.set_cons_succ]
            repeat (first | go_big_quiet_skip | (go_big_quiet_want; go_big_quiet_op; first | go_big_quiet_on | (refine quiet_const ?_; go_big_quiet_on)))
            go_big_quiet_want
            refine ⟨.int .i64 (ix : Int), fun wx hx => ?_, ?_⟩
            · obtain ⟨p0, p1⟩ := hx.pc
              go_simp
            go_big_quiet_on
            simp only [Act.put, List.setIfInBounds_toArray, List.set_cons_zero, List.set_cons_succ]
            repeat (first | go_big_quiet_skip | (go_big_quiet_want; go_big_quiet_op; first | go_big_quiet_on | (refine quiet_const ?_; go_big_quiet_on)))
            go_big_quiet_want
            go_big_quiet_op
            refine ⟨.int .u64 (rv : Int), fun wx hx => ?_, ?_⟩
            · exact (hrp wx hx).mono fun _ _ hm => ⟨hm.1, hm.2 ▸ hx⟩
            go_big_quiet_on
            repeat (first | go_big_quiet_skip | (go_big_quiet_want; go_big_quiet_op; first | go_big_quiet_on | (refine quiet_const ?_; go_big_quiet_on)))
            refine wpQuiet_nil ?_
            intro w5 H5
            have HF := Lib.hid H5.lx
            clear H5 hrp hmr
            go_wp2_with fail
            go_roundg (n0 - (q + 1))
            case measure => omega
            exact ⟨q + 1, by go_num, by omega, Nat.le_refl _, HF.out⟩
        · have hqe : q = n0 := by omega
          have g0 : ¬ (q : Int) < (n0 : Int) := by omega
          have HK := H.next (Below.refl _ _).drew
          have hlo := fun W (k : LxC false M num den n w bb tb vl vr ca cc Oa Oc (.slice Aa n0 pa) (.slice Ab n1 pb) m0 m1 l0 l1 w.heap.size (w.heap.size + 1) (w.heap.size + 1 + 1) 0 W) => lload_L HM.out.1 HM.out.2.1 W (.slice Aa n0 pa) m0 l0 k.oa HR.out.1
          clear H hqe hqn hq hg
          go_upto_region 14 with fail
          have hl5 := hlo _ HK
          obtain ⟨c0, c1, c2, c3, c4, c5, f3, f4, f5⟩ := bcells_L HK.bn
          have x0 := HK.rows.cell (j := 0) rfl
          have y0 := HK.lost.cell (j := 0) rfl
          have H5 := Lib.hid HK
          clear hlo HK c0 c3 c4 c5 f3 f4 f5
          rename_i KK
          have FIN := Lib.hid (show ∀ (w6 : World) (v : Value) (code : Int), Below wr.drew.heap.size wr.drew w6 → (v = .nilIface ∨ ∃ T x, v = .iface T x) → (code = 0 → ∃ cb O, v = .iface 246 (.pointer (some ⟨cb, 0, none⟩)) ∧ StoQ false M m0 (rowTotal m0 + l0) w6 cb O ∧ ∀ j, O j → wr.drew.heap.size ≤ j) → w6.cell? ⟨w.heap.size + 1 + 1, 0, none⟩ = some .nilIface ∧ w6.frozen? ⟨w.heap.size + 1 + 1, 0, none⟩ = false ∧ v.cells = #[v] ∧ (Go.store ⟨w.heap.size + 1 + 1, 0, none⟩ v).run Tryz.prog w6 = .ok () (w6.setCell ⟨w.heap.size + 1 + 1, 0, none⟩ v) ∧ (w6.cell? ⟨bb, 1, none⟩ = some (.int .i64 0) ∧ w6.cell? ⟨bb, 2, none⟩ = some (.int .i64 (M : Int)) ∧ w6.cell? ⟨w.heap.size, 0, none⟩ = some (.slice Aa n0 pa) ∧ w6.cell? ⟨w.heap.size + 1, 0, none⟩ = some (.int .u64 (l0 : Int))) ∧ ((w6.setCell ⟨w.heap.size + 1 + 1, 0, none⟩ v).cell? ⟨bb, 1, none⟩ = some (.int .i64 0) ∧ (w6.setCell ⟨w.heap.size + 1 + 1, 0, none⟩ v).cell? ⟨bb, 2, none⟩ = some (.int .i64 (M : Int)) ∧ (w6.setCell ⟨w.heap.size + 1 + 1, 0, none⟩ v).cell? ⟨w.heap.size, 0, none⟩ = some (.slice Aa n0 pa) ∧ (w6.setCell ⟨w.heap.size + 1 + 1, 0, none⟩ v).cell? ⟨w.heap.size + 1, 0, none⟩ = some (.int .u64 (l0 : Int))) ∧ (code = 0 → LxC false M num den n w bb tb vl vr ca cc Oa Oc (.slice Aa n0 pa) (.slice Ab n1 pb) m0 m1 l0 l1 w.heap.size (w.heap.size + 1) (w.heap.size + 1 + 1) 1 (w6.setCell ⟨w.heap.size + 1 + 1, 0, none⟩ v)) ∧ (code ≠ 0 → LdBP false M num den n w bb tb vl vr m0 m1 (rowTotal m0 + l0) (rowTotal m1 + l1) z (.returned (.int .i64 code)) (w6.setCell ⟨w.heap.size + 1 + 1, 0, none⟩ v)) from fun w6 v code b6 hvc q6 => by
            have H6 := H5.out.next b6
            obtain ⟨s6, f6⟩ := H6.nilAt (by decide)
            have H7 := H6.poke 0 v
            refine ⟨s6, f6, by rcases hvc with rfl | ⟨T, x, rfl⟩ <;> rfl, by rcases hvc with rfl | ⟨T, x, rfl⟩ <;> simp [go_sem, s6, f6], ⟨(bcells_L H6.bn).2.1, (bcells_L H6.bn).2.2.1, H6.rows.cell rfl, H6.lost.cell rfl⟩, ⟨(bcells_L H7.bn).2.1, (bcells_L H7.bn).2.2.1, H7.rows.cell rfl, H7.lost.cell rfl⟩, fun hc => ?_, fun hc => H6.failAt hc 0 v⟩
            obtain ⟨cb, O, rfl, q7, hO7⟩ := q6 hc
            exact H5.out.put0 b6 q7 hO7)
          clear H5
          have HS0 : wr.drew.cell? ⟨bb, 1, none⟩ = some (.int .i64 0) ∧ wr.drew.cell? ⟨bb, 2, none⟩ = some (.int .i64 (M : Int)) ∧ wr.drew.cell? ⟨w.heap.size, 0, none⟩ = some (.slice Aa n0 pa) ∧ wr.drew.cell? ⟨w.heap.size + 1, 0, none⟩ = some (.int .u64 (l0 : Int)) := ⟨c1, c2, x0, y0⟩
          clear c1 c2 x0 y0
          obtain ⟨W0, hW0⟩ : ∃ W0, W0 = wr.drew := ⟨_, rfl⟩
          rw [← hW0] at HS0 FIN hl5
          obtain ⟨c1, c2, x0, y0⟩ := HS0
          refine wp_region_any (by kernel_rfl) ?_
          try (change wpAny _ _ _ _ _ _ _ (World.drew _))
          refine wpAny_take (i := 0) (v := ?_) rfl (by kernel_rfl) (by kernel_rfl) (by kernel_rfl) (fun _ _ _ h => h) (Or.inl ⟨by rfl, ?_⟩) ?_
          rotate_left
          · intro wz; go_simp; try with_reducible rfl
          refine wpAny_take (i := 1) (v := ?_) rfl (by kernel_rfl) (by kernel_rfl) (by kernel_rfl) (fun _ _ _ h => h) (Or.inl ⟨by rfl, ?_⟩) ?_
          rotate_left
          · intro wz; go_simp; try with_reducible rfl
          refine wpAny_take (i := 2) (v := ?_) rfl (by kernel_rfl) (by kernel_rfl) (by kernel_rfl) (fun _ _ _ h => h) (Or.inl ⟨by rfl, ?_⟩) ?_
          rotate_left
          · intro wz; go_simp; try with_reducible rfl
          refine wpAny_take (i := 3) (v := ?_) rfl (by kernel_rfl) (by kernel_rfl) (by kernel_rfl) (fun _ _ _ h => h) (Or.inl ⟨by rfl, ?_⟩) ?_
          rotate_left
          · intro wz; go_simp; try with_reducible rfl
          refine wpAny_take (i := 5) (v := ?_) rfl (by kernel_rfl) (by kernel_rfl) (by kernel_rfl) (fun _ _ _ h => h) (Or.inl ⟨by rfl, ?_⟩) ?_
          rotate_left
          · intro wz; go_simp; try with_reducible rfl
          refine wpAny_take (i := 6) (v := ?_) rfl (by kernel_rfl) (by kernel_rfl) (by kernel_rfl) (fun _ _ _ h => h) (Or.inl ⟨by rfl, ?_⟩) ?_
          rotate_left
          · intro wz; go_simp; try with_reducible rfl
          refine wpAny_take (i := 7) (v := ?_) rfl (by kernel_rfl) (by kernel_rfl) (by kernel_rfl) (fun _ _ _ h => h) (Or.inl ⟨by rfl, ?_⟩) ?_
          rotate_left
          · intro wz; go_simp; try with_reducible rfl
          refine wpAny_take (i := 9) (v := ?_) rfl (by kernel_rfl) (by kernel_rfl) (by kernel_rfl) (fun _ _ _ h => h) (Or.inl ⟨by rfl, ?_⟩) ?_
          rotate_left
          · intro wz; go_simp; try with_reducible rfl
          refine wpAny_take (i := 10) (v := ?_) rfl (by kernel_rfl) (by kernel_rfl) (by kernel_rfl) (fun _ _ _ h => h) (Or.inl ⟨by rfl, ?_⟩) ?_
          rotate_left
          · intro wz; go_simp; try with_reducible rfl
          refine wpAny_take (i := 12) (v := ?_) rfl (by kernel_rfl) (by kernel_rfl) (by kernel_rfl) (fun _ _ _ h => h) (Or.inl ⟨by rfl, ?_⟩) ?_
          rotate_left
          · intro wz; go_simp; try with_reducible rfl
          refine wpAny_take (i := 13) (v := ?_) rfl (by kernel_rfl) (by kernel_rfl) (by kernel_rfl) (fun _ _ _ h => h) (Or.inl ⟨by rfl, ?_⟩) ?_
          rotate_left
          · intro wz; go_simp; try with_reducible rfl
          simp only [List.getElem_toArray, List.getElem_cons_zero, List.getElem_cons_succ, Act.put, List.setIfInBounds_toArray, List.set_cons_zero, List.set_cons_succ]
          rw [← hW0]
          have hP := Lib.hid (show ∀ (w6 : World) (v : Value) (code : Int), LoadB false M m0 (rowTotal m0 + l0) W0 (.returned (.tuple #[v, .int .i64 code])) w6 → LdPost false M m0 (rowTotal m0 + l0) W0 w6 v code from fun w6 v code hh => by
            obtain ⟨v', code', e, h1, h2, h3⟩ := hh
            injection e with e
            injection e with e
            simp at e
            obtain ⟨rfl, rfl⟩ := e
            exact ⟨h1, h2, h3⟩)
          refine wpAny_acts2 (fun L θ => [(48, L 4, .int .i64 0), (52, L 8, .int .i64 (M : Int)), (55, L 11, .slice Aa n0 pa), (58, L 14, .int .u64 (l0 : Int)), (59, L 15, .tuple #[θ.1, .int .i64 θ.2]), (43, L 16, .tuple #[θ.1, .int .i64 θ.2]), (60, L 17, θ.1), (61, L 18, .int .i64 θ.2), (62, L 19, .pointer (some ⟨w.heap.size + 1 + 1, 0, none⟩)), (13, L 21, .int .i64 θ.2)]) (RgL 22 [0, 1, 2, 3, 5, 6, 7, 9, 10, 12, 13] W0 (LdPost false M m0 (rowTotal m0 + l0) W0) (w.heap.size + 1 + 1) 0 [4, 8, 11, 14] [16, 17, 18, 21] 15 20) [true, true, true, true, false, true, true, true, false, true, true, false, true, true, false, false, false, false, false, false, false, false] (.nilIface, 0) (by kernel_rfl) (by kernel_rfl) rfl (by kernel_rfl) (by kernel_rfl) ?_ ?_ ?_
          · refine ⟨fun _ => rfl, fun h => absurd h (by decide), fun h => absurd h (by decide), fun h => absurd h (by decide), fun h => absurd h (by decide), ?_, ?_⟩
            rotate_left
            · intro _ j hj
              simp only [List.mem_cons, List.not_mem_nil, or_false] at hj
              rcases hj with rfl | rfl | rfl | rfl <;> rfl
            intro j hj
            simp only [List.mem_cons, List.not_mem_nil, or_false] at hj
            rcases hj with rfl | rfl | rfl | rfl | rfl | rfl | rfl | rfl | rfl | rfl | rfl <;> rfl
          · intro L θ W hN i o hi hLi hd
            have hil : i < 22 := (List.getElem?_eq_some_iff.1 hi).1
            have ht : i ∉ [0, 1, 2, 3, 5, 6, 7, 9, 10, 12, 13] := fun hm => by have := hN.tk i hm; rw [hLi] at this; cases this
            have hcase : i = 4 ∨ i = 8 ∨ i = 11 ∨ i = 14 ∨ i = 15 ∨ i = 16 ∨ i = 17 ∨ i = 18 ∨ i = 19 ∨ i = 20 ∨ i = 21 := by
              simp only [List.mem_cons, List.not_mem_nil, or_false, not_or] at ht; omega
            have hW : ∀ k, k ∈ [4, 8, 11, 14] → L k = false → W = W0 := fun k hk hf => hN.a (by
              cases e : L 15 with
              | false => rfl
              | true => have := hN.e e k hk; rw [hf] at this; cases this)
            clear ht
            rcases hcase with rfl | rfl | rfl | rfl | rfl | rfl | rfl | rfl | rfl | rfl | rfl
            · have ho := Option.some.inj hi
              subst ho
              have e := hW 4 (by decide) hLi
              subst e
              refine wpOp_on rfl rfl (wpo_load rfl ((acts_other (by simp)).trans rfl) (v := .int .i64 0) (by simp [go_sem, c1]) ⟨θ, acts_step 0 (by simp only [hLi]; rfl) (by simp) ?_, hN.flag 4 (by decide) (by decide) (fun h => absurd h (by decide))⟩)
              rfl
            · have ho := Option.some.inj hi
              subst ho
              have e := hW 8 (by decide) hLi
              subst e
              refine wpOp_on rfl rfl (wpo_load rfl ((acts_other (by simp)).trans rfl) (v := .int .i64 (M : Int)) (by simp [go_sem, c2]) ⟨θ, acts_step 1 (by simp only [hLi]; rfl) (by simp) ?_, hN.flag 8 (by decide) (by decide) (fun h => absurd h (by decide))⟩)
              rfl
            · have ho := Option.some.inj hi
              subst ho
              have e := hW 11 (by decide) hLi
              subst e
              refine wpOp_on rfl rfl (wpo_load rfl ((acts_other (by simp)).trans rfl) (v := .slice Aa n0 pa) (by simp [go_sem, x0]) ⟨θ, acts_step 2 (by simp only [hLi]; rfl) (by simp) ?_, hN.flag 11 (by decide) (by decide) (fun h => absurd h (by decide))⟩)
              rfl
            · have ho := Option.some.inj hi
              subst ho
              have e := hW 14 (by decide) hLi
              subst e
              refine wpOp_on rfl rfl (wpo_load rfl ((acts_other (by simp)).trans rfl) (v := .int .u64 (l0 : Int)) (by simp [go_sem, y0]) ⟨θ, acts_step 3 (by simp only [hLi]; rfl) (by simp) ?_, hN.flag 14 (by decide) (by decide) (fun h => absurd h (by decide))⟩)
              rfl
            · have ho := Option.some.inj hi
              subst ho
              have e := hN.a hLi
              subst e
              have k4 : L 4 = true := hd ⟨4, .data⟩ (by simp) rfl
              have k8 : L 8 = true := hd ⟨8, .data⟩ (by simp) rfl
              have k11 : L 11 = true := hd ⟨11, .data⟩ (by simp) rfl
              have k14 : L 14 = true := hd ⟨14, .data⟩ (by simp) rfl
              refine wpOp_on rfl rfl (wpo_call1 (f := 89) rfl #[.int .i64 0, .int .i64 (M : Int), .slice Aa n0 pa, .int .u64 (l0 : Int)] ?_ (by kernel_rfl) (hl5.mono fun e w6 hh => ?_))
              · simp only [List.map_toArray, List.map_cons, List.map_nil]
                rw [acts_eval (k := 0) (d := 48) (v := .int .i64 0) (by simp only [k4]; rfl) (by simp) (by simp), acts_eval (k := 1) (d := 52) (v := .int .i64 (M : Int)) (by simp only [k8]; rfl) (by simp) (by simp), acts_eval (k := 2) (d := 55) (v := .slice Aa n0 pa) (by simp only [k11]; rfl) (by simp) (by simp), acts_eval (k := 3) (d := 58) (v := .int .u64 (l0 : Int)) (by simp only [k14]; rfl) (by simp) (by simp)]
              · obtain ⟨v, code, rfl, hh'⟩ := hh
                have hp := hP.out w6 v code ⟨v, code, rfl, hh'⟩
                have f16 := hN.f hLi 16 (by decide)
                have f17 := hN.f hLi 17 (by decide)
                have f18 := hN.f hLi 18 (by decide)
                have f21 := hN.f hLi 21 (by decide)
                refine ⟨_, rfl, (v, code), (acts_put (k := 4) (by simp only [hLi]; rfl) (by simp)).trans (acts_same ?_), hN.called hLi (by decide) (fun i hi => ?_) hp⟩
                · simp [maskT, upd, f16, f17, f18, f21]
                · simp only [List.mem_cons, List.not_mem_nil, or_false] at hi
                  rcases hi with rfl | rfl | rfl | rfl <;> assumption
            · have ho := Option.some.inj hi
              subst ho
              have k15 : L 15 = true := hd ⟨15, .data⟩ (by simp) rfl
              refine wpOp_on rfl rfl (wpo_move rfl (acts_eval (k := 4) (by simp only [k15]; rfl) (by simp) (by simp)) ⟨θ, acts_step 5 (by simp only [hLi]; rfl) (by simp) ?_, hN.flag 16 (by decide) (by decide) (fun _ => k15)⟩)
              rfl
            · have ho := Option.some.inj hi
              subst ho
              have k16 : L 16 = true := hd ⟨16, .data⟩ (by simp) rfl
              have k15 : L 15 = true := by
                cases e : L 15 with
                | true => rfl
                | false => have := hN.f e 16 (by decide); rw [k16] at this; cases this
              refine wpOp_on rfl rfl (wpo_extract rfl (acts_eval (k := 5) (by simp only [k16]; rfl) (by simp) (by simp)) rfl ⟨θ, acts_step 6 (by simp only [hLi]; rfl) (by simp) ?_, hN.flag 17 (by decide) (by decide) (fun _ => k15)⟩)
              rfl
            · have ho := Option.some.inj hi
              subst ho
              have k16 : L 16 = true := hd ⟨16, .data⟩ (by simp) rfl
              have k15 : L 15 = true := by
                cases e : L 15 with
                | true => rfl
                | false => have := hN.f e 16 (by decide); rw [k16] at this; cases this
              refine wpOp_on rfl rfl (wpo_extract rfl (acts_eval (k := 5) (by simp only [k16]; rfl) (by simp) (by simp)) rfl ⟨θ, acts_step 7 (by simp only [hLi]; rfl) (by simp) ?_, hN.flag 18 (by decide) (by decide) (fun _ => k15)⟩)
              rfl
            · have ho := Option.some.inj hi
              subst ho
              refine wpOp_on rfl rfl (wpo_index rfl ((acts_other (by simp)).trans rfl) ((acts_other (by simp)).trans rfl) (v := .pointer (some ⟨w.heap.size + 1 + 1, 0, none⟩)) (by kernel_rfl) ⟨θ, acts_step 8 (by simp only [hLi]; rfl) (by simp) ?_, hN.flag 19 (by decide) (by decide) (fun h => absurd h (by decide))⟩)
              rfl
            · have ho := Option.some.inj hi
              subst ho
              have k19 : L 19 = true := hd ⟨19, .data⟩ (by simp) rfl
              have k17 : L 17 = true := hd ⟨17, .data⟩ (by simp) rfl
              have k15 : L 15 = true := hd ⟨15, .chain⟩ (by simp) rfl
              obtain ⟨p1, p2, p3⟩ := hN.b k15 hLi
              obtain ⟨s6, f6, _, hst6, _, _⟩ := FIN.out W θ.1 θ.2 p1 p2 p3
              refine wpOp_on rfl rfl (wpo_store rfl (acts_eval (k := 8) (by simp only [k19]; rfl) (by simp) (by simp)) (acts_eval (k := 6) (by simp only [k17]; rfl) (by simp) (by simp)) (w' := W.setCell ⟨w.heap.size + 1 + 1, 0, none⟩ θ.1) ?_ ⟨θ, ?_, hN.stored hLi k15 (by decide)⟩)
              · rcases p2 with e | ⟨T', x', e⟩ <;> rw [e] <;> simp [go_sem, s6, f6]
              · rfl
            · have ho := Option.some.inj hi
              subst ho
              have k18 : L 18 = true := hd ⟨18, .data⟩ (by simp) rfl
              have k15 : L 15 = true := by
                cases e : L 15 with
                | true => rfl
                | false => have := hN.f e 18 (by decide); rw [k18] at this; cases this
              refine wpOp_on rfl rfl (wpo_assign rfl (acts_eval (k := 7) (by simp only [k18]; rfl) (by simp) (by simp)) ⟨θ, acts_step 9 (by simp only [hLi]; rfl) (by simp) ?_, hN.flag 21 (by decide) (by decide) (fun _ => k15)⟩)
              rfl
          · intro L θ W hN hall
            obtain ⟨v, code⟩ := θ
            obtain ⟨w6, ⟨p1, p2, p3⟩, rfl⟩ := hN.c (hall 20 (by decide))
            obtain ⟨_, _, _, _, _, _, g6, k6⟩ := FIN.out w6 v code p1 p2 p3
            have h4 := hall 4 (by decide)
            have h8 := hall 8 (by decide)
            have h11 := hall 11 (by decide)
            have h14 := hall 14 (by decide)
            have h15 := hall 15 (by decide)
            have h16 := hall 16 (by decide)
            have h17 := hall 17 (by decide)
            have h18 := hall 18 (by decide)
            have h19 := hall 19 (by decide)
            have h21 := hall 21 (by decide)
            simp only [acts, h4, h8, h11, h14, h15, h16, h17, h18, h19, h21, List.foldl_cons, List.foldl_nil, if_true, List.setIfInBounds_toArray, List.set_cons_succ, List.set_cons_zero]
            clear h4 h8 h11 h14 h15 h16 h17 h18 h19 h21 hN hall hP FIN hl5 c1 c2 x0 y0 hW0
            refine KK _ _ ?_
            by_cases hc : code = 0
            · have HN := Lib.hid (g6 hc)
              have hc1 : (code == 0) = true := by simp [hc]
              have hc2 : (code != 0) = false := by simp [hc]
              clear g6 k6 hc p1 p2 p3
              go_wp2_with fail
              go_roundg 1
              case measure => omega
              exact ⟨1, by go_num, by decide, by decide, HN.out⟩
            · have hc1 : (code == 0) = false := by simp [hc]
              have hc2 : (code != 0) = true := by simp [hc]
              have HN := Lib.hid (k6 hc)
              clear g6 k6 hc p1 p2 p3
              go_wp2_with fail
              go_ret
              exact HN.out
    · by_cases k1 : r = 1
      · subst k1
        clear k0
        have HX := Lib.hid H
        have x0 : wr.cell? ⟨w.heap.size, 1, none⟩ = some (.slice Ab n1 pb) := H.rows.cell rfl
        clear H
        go_wp2_with fail
        clear x0
        go_loopg [12, 25] n1 (fun g _ i wr => ∃ q : Nat, i = .int .i64 (q : Int) ∧ q ≤ n1 ∧ n1 - q ≤ g ∧ LxC false M num den n w bb tb vl vr ca cc Oa Oc (.slice Aa n0 pa) (.slice Ab n1 pb) m0 m1 l0 l1 w.heap.size (w.heap.size + 1) (w.heap.size + 1 + 1) 1 wr)
        case atStart => exact ⟨0, rfl, Nat.zero_le _, Nat.le_refl _, HX.out⟩
        case round =>
          clear HX
          obtain ⟨q, rfl, hq, hg, H⟩ := hrel
          have HX := Lib.hid H
          by_cases hqn : q < n1
          · have g0 : (q : Int) < (n1 : Int) := by omega
            have hql : q < m1.length := by rw [← HR.out.2.2.2.1]; exact hqn
            obtain ⟨ix, hix⟩ : ∃ i, i = (m1[q]'hql).1 := ⟨_, rfl⟩
            obtain ⟨ct, hct⟩ : ∃ i, i = (m1[q]'hql).2 := ⟨_, rfl⟩
            have O2 := H.ob
            rcases owns_shape O2 with ⟨hv0, hn0, _⟩ | ⟨g, cap, hv0, hnc, hcap, _, hgl⟩
            · have := HR.out.2.2.2.1; omega
            simp only [Value.slice.injEq] at hv0
            obtain ⟨rfl, hnn, rfl⟩ := hv0
            have en : n1 = m1.length := HR.out.2.2.2.1
            have O3 : wr.ownsRow 0 228 2 (.slice (some ⟨g, 0, none⟩) m1.length pb) m1.length (rowC m1) := by rw [← en]; rw [← en] at O2; exact O2
            have p0 : wr.cell? ⟨g, q * 2, none⟩ = some (.int .i64 (ix : Int)) := by rw [O3.cellAt _ (by omega), rowC_fst m1 q hql, hix]
            have p1 : wr.cell? ⟨g, q * 2 + 1, none⟩ = some (.int .u64 (ct : Int)) := by rw [O3.cellAt _ (by omega), rowC_snd m1 q hql, hct]
            have J2 : LxP false M num den n w bb tb vl vr ca cc Oa Oc (.slice Aa n0 pa) (.slice (some ⟨g, 0, none⟩) n1 pb) m0 m1 l0 l1 w.heap.size (w.heap.size + 1) (w.heap.size + 1 + 1) 1 wr.heap.size ix ct (wr.alloc (.cells #[.int .i64 (ix : Int), .int .u64 (ct : Int)] 228)) := ⟨H.next ((Below.refl _ _).alloc (Nat.le_refl _) _), Blk.newAt rfl⟩
            obtain ⟨rv, hrv⟩ : ∃ rv, rv = repN num den n ix := ⟨_, rfl⟩
            have hrp := fun W (k : LxP false M num den n w bb tb vl vr ca cc Oa Oc (.slice Aa n0 pa) (.slice (some ⟨g, 0, none⟩) n1 pb) m0 m1 l0 l1 w.heap.size (w.heap.size + 1) (w.heap.size + 1 + 1) 1 wr.heap.size ix ct W) => rep_same W tb vl vr num den n k.lx.bn.tab HM.out.2.2 ix
            rw [← hrv] at hrp
            have hmr := fun W => mrep tb W
            have t1 : decide ((ix : Int) < 0) = false := by first | (simp; done) | (simp; omega)
            have HJ := Lib.hid J2
            clear O2 O3 H J2 hgl hnc hcap hnn en hix hct hrv
            go_upto_region 10 with fail
            by_cases hz : rv = 0
            · have z1 : ((rv : Int) == 0) = true := by simp [hz]
              have z2 : (rv == 0) = true := by simp [hz]
              clear hz
              refine wp_region_quiet_litC (C := LxP false M num den n w bb tb vl vr ca cc Oa Oc (.slice Aa n0 pa) (.slice (some ⟨g, 0, none⟩) n1 pb) m0 m1 l0 l1 w.heap.size (w.heap.size + 1) (w.heap.size + 1 + 1) 1 wr.heap.size ix ct) (by kernel_rfl) (by kernel_rfl) (HJ.out.next (Below.refl _ _).drew) ?_
              repeat (first | go_big_quiet_skip | (go_big_quiet_want; go_big_quiet_op; first | go_big_quiet_on | (refine quiet_const ?_; go_big_quiet_on)))
              go_big_quiet_want
              refine ⟨.int .i64 (ix : Int), fun wx hx => ?_, ?_⟩
              · obtain ⟨p0, p1⟩ := hx.pc
                go_simp
              go_big_quiet_on
              simp only [Act.put, List.setIfInBounds_toArray, List.set_cons_zero, List.set_cons_succ]
              repeat (first | go_big_quiet_skip | (go_big_quiet_want; go_big_quiet_op; first | go_big_quiet_on | (refine quiet_const ?_; go_big_quiet_on)))
              go_big_quiet_want
              refine ⟨.iface 163 (.pointer (some ⟨tb, 0, none⟩)), fun wx hx => ?_, ?_⟩
              · obtain ⟨c0, c1, c2, c3, c4, c5, f3, f4, f5⟩ := bcells_L hx.lx.bn
                go_simp
              go_big_quiet_on
              simp only [Act.put, List.setIfInBounds_toArray, List.set_cons_zero, List.set_cons_succ]
              repeat (first | go_big_quiet_skip | (go_big_quiet_want; go_big_quiet_op; first | go_big_quiet_on | (refine quiet_const ?_; go_big_quiet_on)))
              go_big_quiet_want
              refine ⟨.int .i64 (ix : Int), fun wx hx => ?_, ?_⟩
              · obtain ⟨p0, p1⟩ := hx.pc
                go_simp
              go_big_quiet_on
              simp only [Act.put, List.setIfInBounds_toArray, List.set_cons_zero, List.set_cons_succ]
              repeat (first | go_big_quiet_skip | (go_big_quiet_want; go_big_quiet_op; first | go_big_quiet_on | (refine quiet_const ?_; go_big_quiet_on)))
              go_big_quiet_want
              go_big_quiet_op
              refine ⟨.int .u64 (rv : Int), fun wx hx => ?_, ?_⟩
              · exact (hrp wx hx).mono fun _ _ hm => ⟨hm.1, hm.2 ▸ hx⟩
              go_big_quiet_on
              repeat (first | go_big_quiet_skip | (go_big_quiet_want; go_big_quiet_op; first | go_big_quiet_on | (refine quiet_const ?_; go_big_quiet_on)))
              refine wpQuiet_nil ?_
              intro w5 H5
              have HF := Lib.hid (show LdBP false M num den n w bb tb vl vr m0 m1 (rowTotal m0 + l0) (rowTotal m1 + l1) z (.returned (.int .i64 1)) w5 from H5.lx.fail (by decide))
              clear H5 hrp hmr
              go_wp2_with fail
              go_ret
              exact HF.out
            · have z1 : ((rv : Int) == 0) = false := by simp [hz]
              have z2 : (rv == 0) = false := by simp [hz]
              clear hz
              refine wp_region_quiet_litC (C := LxP false M num den n w bb tb vl vr ca cc Oa Oc (.slice Aa n0 pa) (.slice (some ⟨g, 0, none⟩) n1 pb) m0 m1 l0 l1 w.heap.size (w.heap.size + 1) (w.heap.size + 1 + 1) 1 wr.heap.size ix ct) (by kernel_rfl) (by kernel_rfl) (HJ.out.next (Below.refl _ _).drew) ?_
              repeat (first | go_big_quiet_skip | (go_big_quiet_want; go_big_quiet_op; first | go_big_quiet_on | (refine quiet_const ?_; go_big_quiet_on)))
              go_big_quiet_want
              refine ⟨.int .i64 (ix : Int), fun wx hx => ?_, ?_⟩
              · obtain ⟨p0, p1⟩ := hx.pc
                go_simp
              go_big_quiet_on
              simp only [Act.put, List.setIfInBounds_toArray, List.set_cons_zero, List.set_cons_succ]
              repeat (first | go_big_quiet_skip | (go_big_quiet_want; go_big_quiet_op; first | go_big_quiet_on | (refine quiet_const ?_; go_big_quiet_on)))
              go_big_quiet_want
              refine ⟨.iface 163 (.pointer (some ⟨tb, 0, none⟩)), fun wx hx => ?_, ?_⟩
              · obtain ⟨c0, c1, c2, c3, c4, c5, f3, f4, f5⟩ := bcells_L hx.lx.bn
                go_simp
              go_big_quiet_on
              simp only [Act.put, List.setIfInBounds_toArray, List.set_cons_zero, List.set_cons_succ]
              repeat (first | go_big_quiet_skip | (go_big_quiet_want; go_big_quiet_op; first | go_big_quiet_on | (refine quiet_const ?_; go_big_quiet_on)))
              go_big_quiet_want
              refine ⟨.int .i64 (ix : Int), fun wx hx => ?_, ?_⟩
              · obtain ⟨p0, p1⟩ := hx.pc
                go_simp
              go_big_quiet_on
              simp only [Act.put, List.setIfInBounds_toArray, List.set_cons_zero, List.set_cons_succ]
              repeat (first | go_big_quiet_skip | (go_big_quiet_want; go_big_quiet_op; first | go_big_quiet_on | (refine quiet_const ?_; go_big_quiet_on)))
              go_big_quiet_want
              go_big_quiet_op
              refine ⟨.int .u64 (rv : Int), fun wx hx => ?_, ?_⟩
              · exact (hrp wx hx).mono fun _ _ hm => ⟨hm.1, hm.2 ▸ hx⟩
              go_big_quiet_on
              repeat (first | go_big_quiet_skip | (go_big_quiet_want; go_big_quiet_op; first | go_big_quiet_on | (refine quiet_const ?_; go_big_quiet_on)))
              refine wpQuiet_nil ?_
              intro w5 H5
              have HF := Lib.hid H5.lx
              clear H5 hrp hmr
              go_wp2_with fail
              go_roundg (n1 - (q + 1))
              case measure => omega
              exact ⟨q + 1, by go_num, by omega, Nat.le_refl _, HF.out⟩
          · have hqe : q = n1 := by omega
            have g0 : ¬ (q : Int) < (n1 : Int) := by omega
            have HK := H.next (Below.refl _ _).drew
            have hlo := fun W (k : LxC false M num den n w bb tb vl vr ca cc Oa Oc (.slice Aa n0 pa) (.slice Ab n1 pb) m0 m1 l0 l1 w.heap.size (w.heap.size + 1) (w.heap.size + 1 + 1) 1 W) => lload_L HM.out.1 HM.out.2.1 W (.slice Ab n1 pb) m1 l1 k.ob HR.out.2.1
            clear H hqe hqn hq hg
            go_upto_region 14 with fail
            have hl5 := hlo _ HK
            obtain ⟨c0, c1, c2, c3, c4, c5, f3, f4, f5⟩ := bcells_L HK.bn
            have x0 := HK.rows.cell (j := 1) rfl
            have y0 := HK.lost.cell (j := 1) rfl
            have H5 := Lib.hid HK
            clear hlo HK c0 c3 c4 c5 f3 f4 f5
            rename_i KK
            have FIN := Lib.hid (show ∀ (w6 : World) (v : Value) (code : Int), Below wr.drew.heap.size wr.drew w6 → (v = .nilIface ∨ ∃ T x, v = .iface T x) → (code = 0 → ∃ cb O, v = .iface 246 (.pointer (some ⟨cb, 0, none⟩)) ∧ StoQ false M m1 (rowTotal m1 + l1) w6 cb O ∧ ∀ j, O j → wr.drew.heap.size ≤ j) → w6.cell? ⟨w.heap.size + 1 + 1, 1, none⟩ = some .nilIface ∧ w6.frozen? ⟨w.heap.size + 1 + 1, 1, none⟩ = false ∧ v.cells = #[v] ∧ (Go.store ⟨w.heap.size + 1 + 1, 1, none⟩ v).run Tryz.prog w6 = .ok () (w6.setCell ⟨w.heap.size + 1 + 1, 1, none⟩ v) ∧ (w6.cell? ⟨bb, 1, none⟩ = some (.int .i64 0) ∧ w6.cell? ⟨bb, 2, none⟩ = some (.int .i64 (M : Int)) ∧ w6.cell? ⟨w.heap.size, 1, none⟩ = some (.slice Ab n1 pb) ∧ w6.cell? ⟨w.heap.size + 1, 1, none⟩ = some (.int .u64 (l1 : Int))) ∧ ((w6.setCell ⟨w.heap.size + 1 + 1, 1, none⟩ v).cell? ⟨bb, 1, none⟩ = some (.int .i64 0) ∧ (w6.setCell ⟨w.heap.size + 1 + 1, 1, none⟩ v).cell? ⟨bb, 2, none⟩ = some (.int .i64 (M : Int)) ∧ (w6.setCell ⟨w.heap.size + 1 + 1, 1, none⟩ v).cell? ⟨w.heap.size, 1, none⟩ = some (.slice Ab n1 pb) ∧ (w6.setCell ⟨w.heap.size + 1 + 1, 1, none⟩ v).cell? ⟨w.heap.size + 1, 1, none⟩ = some (.int .u64 (l1 : Int))) ∧ (code = 0 → LxC false M num den n w bb tb vl vr ca cc Oa Oc (.slice Aa n0 pa) (.slice Ab n1 pb) m0 m1 l0 l1 w.heap.size (w.heap.size + 1) (w.heap.size + 1 + 1) 2 (w6.setCell ⟨w.heap.size + 1 + 1, 1, none⟩ v)) ∧ (code ≠ 0 → LdBP false M num den n w bb tb vl vr m0 m1 (rowTotal m0 + l0) (rowTotal m1 + l1) z (.returned (.int .i64 code)) (w6.setCell ⟨w.heap.size + 1 + 1, 1, none⟩ v)) from fun w6 v code b6 hvc q6 => by
              have H6 := H5.out.next b6
              obtain ⟨s6, f6⟩ := H6.nilAt (by decide)
              have H7 := H6.poke 1 v
              refine ⟨s6, f6, by rcases hvc with rfl | ⟨T, x, rfl⟩ <;> rfl, by rcases hvc with rfl | ⟨T, x, rfl⟩ <;> simp [go_sem, s6, f6], ⟨(bcells_L H6.bn).2.1, (bcells_L H6.bn).2.2.1, H6.rows.cell rfl, H6.lost.cell rfl⟩, ⟨(bcells_L H7.bn).2.1, (bcells_L H7.bn).2.2.1, H7.rows.cell rfl, H7.lost.cell rfl⟩, fun hc => ?_, fun hc => H6.failAt hc 1 v⟩
              obtain ⟨cb, O, rfl, q7, hO7⟩ := q6 hc
              exact H5.out.put1 b6 q7 hO7)
            clear H5
            have HS0 : wr.drew.cell? ⟨bb, 1, none⟩ = some (.int .i64 0) ∧ wr.drew.cell? ⟨bb, 2, none⟩ = some (.int .i64 (M : Int)) ∧ wr.drew.cell? ⟨w.heap.size, 1, none⟩ = some (.slice Ab n1 pb) ∧ wr.drew.cell? ⟨w.heap.size + 1, 1, none⟩ = some (.int .u64 (l1 : Int)) := ⟨c1, c2, x0, y0⟩
            clear c1 c2 x0 y0
            obtain ⟨W0, hW0⟩ : ∃ W0, W0 = wr.drew := ⟨_, rfl⟩
            rw [← hW0] at HS0 FIN hl5
            obtain ⟨c1, c2, x0, y0⟩ := HS0
            refine wp_region_any (by kernel_rfl) ?_
            try (change wpAny _ _ _ _ _ _ _ (World.drew _))
            refine wpAny_take (i := 0) (v := ?_) rfl (by kernel_rfl) (by kernel_rfl) (by kernel_rfl) (fun _ _ _ h => h) (Or.inl ⟨by rfl, ?_⟩) ?_
            rotate_left
            · intro wz; go_simp; try with_reducible rfl
            refine wpAny_take (i := 1) (v := ?_) rfl (by kernel_rfl) (by kernel_rfl) (by kernel_rfl) (fun _ _ _ h => h) (Or.inl ⟨by rfl, ?_⟩) ?_
            rotate_left
            · intro wz; go_simp; try with_reducible rfl
            refine wpAny_take (i := 2) (v := ?_) rfl (by kernel_rfl) (by kernel_rfl) (by kernel_rfl) (fun _ _ _ h => h) (Or.inl ⟨by rfl, ?_⟩) ?_
            rotate_left
            · intro wz; go_simp; try with_reducible rfl
            refine wpAny_take (i := 3) (v := ?_) rfl (by kernel_rfl) (by kernel_rfl) (by kernel_rfl) (fun _ _ _ h => h) (Or.inl ⟨by rfl, ?_⟩) ?_
            rotate_left
            · intro wz; go_simp; try with_reducible rfl
            refine wpAny_take (i := 5) (v := ?_) rfl (by kernel_rfl) (by kernel_rfl) (by kernel_rfl) (fun _ _ _ h => h) (Or.inl ⟨by rfl, ?_⟩) ?_
            rotate_left
            · intro wz; go_simp; try with_reducible rfl
            refine wpAny_take (i := 6) (v := ?_) rfl (by kernel_rfl) (by kernel_rfl) (by kernel_rfl) (fun _ _ _ h => h) (Or.inl ⟨by rfl, ?_⟩) ?_
            rotate_left
            · intro wz; go_simp; try with_reducible rfl
            refine wpAny_take (i := 7) (v := ?_) rfl (by kernel_rfl) (by kernel_rfl) (by kernel_rfl) (fun _ _ _ h => h) (Or.inl ⟨by rfl, ?_⟩) ?_
            rotate_left
            · intro wz; go_simp; try with_reducible rfl
            refine wpAny_take (i := 9) (v := ?_) rfl (by kernel_rfl) (by kernel_rfl) (by kernel_rfl) (fun _ _ _ h => h) (Or.inl ⟨by rfl, ?_⟩) ?_
            rotate_left
            · intro wz; go_simp; try with_reducible rfl
            refine wpAny_take (i := 10) (v := ?_) rfl (by kernel_rfl) (by kernel_rfl) (by kernel_rfl) (fun _ _ _ h => h) (Or.inl ⟨by rfl, ?_⟩) ?_
            rotate_left
            · intro wz; go_simp; try with_reducible rfl
            refine wpAny_take (i := 12) (v := ?_) rfl (by kernel_rfl) (by kernel_rfl) (by kernel_rfl) (fun _ _ _ h => h) (Or.inl ⟨by rfl, ?_⟩) ?_
            rotate_left
            · intro wz; go_simp; try with_reducible rfl
            refine wpAny_take (i := 13) (v := ?_) rfl (by kernel_rfl) (by kernel_rfl) (by kernel_rfl) (fun _ _ _ h => h) (Or.inl ⟨by rfl, ?_⟩) ?_
            rotate_left
            · intro wz; go_simp; try with_reducible rfl
            simp only [List.getElem_toArray, List.getElem_cons_zero, List.getElem_cons_succ, Act.put, List.setIfInBounds_toArray, List.set_cons_zero, List.set_cons_succ]
            rw [← hW0]
            have hP := Lib.hid (show ∀ (w6 : World) (v : Value) (code : Int), LoadB false M m1 (rowTotal m1 + l1) W0 (.returned (.tuple #[v, .int .i64 code])) w6 → LdPost false M m1 (rowTotal m1 + l1) W0 w6 v code from fun w6 v code hh => by
              obtain ⟨v', code', e, h1, h2, h3⟩ := hh
              injection e with e
              injection e with e
              simp at e
              obtain ⟨rfl, rfl⟩ := e
              exact ⟨h1, h2, h3⟩)
            refine wpAny_acts2 (fun L θ => [(48, L 4, .int .i64 0), (52, L 8, .int .i64 (M : Int)), (55, L 11, .slice Ab n1 pb), (58, L 14, .int .u64 (l1 : Int)), (59, L 15, .tuple #[θ.1, .int .i64 θ.2]), (43, L 16, .tuple #[θ.1, .int .i64 θ.2]), (60, L 17, θ.1), (61, L 18, .int .i64 θ.2), (62, L 19, .pointer (some ⟨w.heap.size + 1 + 1, 1, none⟩)), (13, L 21, .int .i64 θ.2)]) (RgL 22 [0, 1, 2, 3, 5, 6, 7, 9, 10, 12, 13] W0 (LdPost false M m1 (rowTotal m1 + l1) W0) (w.heap.size + 1 + 1) 1 [4, 8, 11, 14] [16, 17, 18, 21] 15 20) [true, true, true, true, false, true, true, true, false, true, true, false, true, true, false, false, false, false, false, false, false, false] (.nilIface, 0) (by kernel_rfl) (by kernel_rfl) rfl (by kernel_rfl) (by kernel_rfl) ?_ ?_ ?_
            · refine ⟨fun _ => rfl, fun h => absurd h (by decide), fun h => absurd h (by decide), fun h => absurd h (by decide), fun h => absurd h (by decide), ?_, ?_⟩
              rotate_left
              · intro _ j hj
                simp only [List.mem_cons, List.not_mem_nil, or_false] at hj
                rcases hj with rfl | rfl | rfl | rfl <;> rfl
              intro j hj
              simp only [List.mem_cons, List.not_mem_nil, or_false] at hj
              rcases hj with rfl | rfl | rfl | rfl | rfl | rfl | rfl | rfl | rfl | rfl | rfl <;> rfl
            · intro L θ W hN i o hi hLi hd
              have hil : i < 22 := (List.getElem?_eq_some_iff.1 hi).1
              have ht : i ∉ [0, 1, 2, 3, 5, 6, 7, 9, 10, 12, 13] := fun hm => by have := hN.tk i hm; rw [hLi] at this; cases this
              have hcase : i = 4 ∨ i = 8 ∨ i = 11 ∨ i = 14 ∨ i = 15 ∨ i = 16 ∨ i = 17 ∨ i = 18 ∨ i = 19 ∨ i = 20 ∨ i = 21 := by
                simp only [List.mem_cons, List.not_mem_nil, or_false, not_or] at ht; omega
              have hW : ∀ k, k ∈ [4, 8, 11, 14] → L k = false → W = W0 := fun k hk hf => hN.a (by
                cases e : L 15 with
                | false => rfl
                | true => have := hN.e e k hk; rw [hf] at this; cases this)
              clear ht
              rcases hcase with rfl | rfl | rfl | rfl | rfl | rfl | rfl | rfl | rfl | rfl | rfl
              · have ho := Option.some.inj hi
                subst ho
                have e := hW 4 (by decide) hLi
                subst e
                refine wpOp_on rfl rfl (wpo_load rfl ((acts_other (by simp)).trans rfl) (v := .int .i64 0) (by simp [go_sem, c1]) ⟨θ, acts_step 0 (by simp only [hLi]; rfl) (by simp) ?_, hN.flag 4 (by decide) (by decide) (fun h => absurd h (by decide))⟩)
                rfl
              · have ho := Option.some.inj hi
                subst ho
                have e := hW 8 (by decide) hLi
                subst e
                refine wpOp_on rfl rfl (wpo_load rfl ((acts_other (by simp)).trans rfl) (v := .int .i64 (M : Int)) (by simp [go_sem, c2]) ⟨θ, acts_step 1 (by simp only [hLi]; rfl) (by simp) ?_, hN.flag 8 (by decide) (by decide) (fun h => absurd h (by decide))⟩)
                rfl
              · have ho := Option.some.inj hi
                subst ho
                have e := hW 11 (by decide) hLi
                subst e
                refine wpOp_on rfl rfl (wpo_load rfl ((acts_other (by simp)).trans rfl) (v := .slice Ab n1 pb) (by simp [go_sem, x0]) ⟨θ, acts_step 2 (by simp only [hLi]; rfl) (by simp) ?_, hN.flag 11 (by decide) (by decide) (fun h => absurd h (by decide))⟩)
                rfl
              · have ho := Option.some.inj hi
                subst ho
                have e := hW 14 (by decide) hLi
                subst e
                refine wpOp_on rfl rfl (wpo_load rfl ((acts_other (by simp)).trans rfl) (v := .int .u64 (l1 : Int)) (by simp [go_sem, y0]) ⟨θ, acts_step 3 (by simp only [hLi]; rfl) (by simp) ?_, hN.flag 14 (by decide) (by decide) (fun h => absurd h (by decide))⟩)
                rfl
              · have ho := Option.some.inj hi
                subst ho
                have e := hN.a hLi
                subst e
                have k4 : L 4 = true := hd ⟨4, .data⟩ (by simp) rfl
                have k8 : L 8 = true := hd ⟨8, .data⟩ (by simp) rfl
                have k11 : L 11 = true := hd ⟨11, .data⟩ (by simp) rfl
                have k14 : L 14 = true := hd ⟨14, .data⟩ (by simp) rfl
                refine wpOp_on rfl rfl (wpo_call1 (f := 89) rfl #[.int .i64 0, .int .i64 (M : Int), .slice Ab n1 pb, .int .u64 (l1 : Int)] ?_ (by kernel_rfl) (hl5.mono fun e w6 hh => ?_))
                · simp only [List.map_toArray, List.map_cons, List.map_nil]
                  rw [acts_eval (k := 0) (d := 48) (v := .int .i64 0) (by simp only [k4]; rfl) (by simp) (by simp), acts_eval (k := 1) (d := 52) (v := .int .i64 (M : Int)) (by simp only [k8]; rfl) (by simp) (by simp), acts_eval (k := 2) (d := 55) (v := .slice Ab n1 pb) (by simp only [k11]; rfl) (by simp) (by simp), acts_eval (k := 3) (d := 58) (v := .int .u64 (l1 : Int)) (by simp only [k14]; rfl) (by simp) (by simp)]
                · obtain ⟨v, code, rfl, hh'⟩ := hh
                  have hp := hP.out w6 v code ⟨v, code, rfl, hh'⟩
                  have f16 := hN.f hLi 16 (by decide)
                  have f17 := hN.f hLi 17 (by decide)
                  have f18 := hN.f hLi 18 (by decide)
                  have f21 := hN.f hLi 21 (by decide)
                  refine ⟨_, rfl, (v, code), (acts_put (k := 4) (by simp only [hLi]; rfl) (by simp)).trans (acts_same ?_), hN.called hLi (by decide) (fun i hi => ?_) hp⟩
                  · simp [maskT, upd, f16, f17, f18, f21]
                  · simp only [List.mem_cons, List.not_mem_nil, or_false] at hi
                    rcases hi with rfl | rfl | rfl | rfl <;> assumption
              · have ho := Option.some.inj hi
                subst ho
                have k15 : L 15 = true := hd ⟨15, .data⟩ (by simp) rfl
                refine wpOp_on rfl rfl (wpo_move rfl (acts_eval (k := 4) (by simp only [k15]; rfl) (by simp) (by simp)) ⟨θ, acts_step 5 (by simp only [hLi]; rfl) (by simp) ?_, hN.flag 16 (by decide) (by decide) (fun _ => k15)⟩)
                rfl
              · have ho := Option.some.inj hi
                subst ho
                have k16 : L 16 = true := hd ⟨16, .data⟩ (by simp) rfl
                have k15 : L 15 = true := by
                  cases e : L 15 with
                  | true => rfl
                  | false => have := hN.f e 16 (by decide); rw [k16] at this; cases this
                refine wpOp_on rfl rfl (wpo_extract rfl (acts_eval (k := 5) (by simp only [k16]; rfl) (by simp) (by simp)) rfl ⟨θ, acts_step 6 (by simp only [hLi]; rfl) (by simp) ?_, hN.flag 17 (by decide) (by decide) (fun _ => k15)⟩)
                rfl
              · have ho := Option.some.inj hi
                subst ho
                have k16 : L 16 = true := hd ⟨16, .data⟩ (by simp) rfl
                have k15 : L 15 = true := by
                  cases e : L 15 with
                  | true => rfl
                  | false => have := hN.f e 16 (by decide); rw [k16] at this; cases this
                refine wpOp_on rfl rfl (wpo_extract rfl (acts_eval (k := 5) (by simp only [k16]; rfl) (by simp) (by simp)) rfl ⟨θ, acts_step 7 (by simp only [hLi]; rfl) (by simp) ?_, hN.flag 18 (by decide) (by decide) (fun _ => k15)⟩)
                rfl
              · have ho := Option.some.inj hi
                subst ho
                refine wpOp_on rfl rfl (wpo_index rfl ((acts_other (by simp)).trans rfl) ((acts_other (by simp)).trans rfl) (v := .pointer (some ⟨w.heap.size + 1 + 1, 1, none⟩)) (by kernel_rfl) ⟨θ, acts_step 8 (by simp only [hLi]; rfl) (by simp) ?_, hN.flag 19 (by decide) (by decide) (fun h => absurd h (by decide))⟩)
                rfl
              · have ho := Option.some.inj hi
                subst ho
                have k19 : L 19 = true := hd ⟨19, .data⟩ (by simp) rfl
                have k17 : L 17 = true := hd ⟨17, .data⟩ (by simp) rfl
                have k15 : L 15 = true := hd ⟨15, .chain⟩ (by simp) rfl
                obtain ⟨p1, p2, p3⟩ := hN.b k15 hLi
                obtain ⟨s6, f6, _, hst6, _, _⟩ := FIN.out W θ.1 θ.2 p1 p2 p3
                refine wpOp_on rfl rfl (wpo_store rfl (acts_eval (k := 8) (by simp only [k19]; rfl) (by simp) (by simp)) (acts_eval (k := 6) (by simp only [k17]; rfl) (by simp) (by simp)) (w' := W.setCell ⟨w.heap.size + 1 + 1, 1, none⟩ θ.1) ?_ ⟨θ, ?_, hN.stored hLi k15 (by decide)⟩)
                · rcases p2 with e | ⟨T', x', e⟩ <;> rw [e] <;> simp [go_sem, s6, f6]
                · rfl
              · have ho := Option.some.inj hi
                subst ho
                have k18 : L 18 = true := hd ⟨18, .data⟩ (by simp) rfl
                have k15 : L 15 = true := by
                  cases e : L 15 with
                  | true => rfl
                  | false => have := hN.f e 18 (by decide); rw [k18] at this; cases this
                refine wpOp_on rfl rfl (wpo_assign rfl (acts_eval (k := 7) (by simp only [k18]; rfl) (by simp) (by simp)) ⟨θ, acts_step 9 (by simp only [hLi]; rfl) (by simp) ?_, hN.flag 21 (by decide) (by decide) (fun _ => k15)⟩)
                rfl
            · intro L θ W hN hall
              obtain ⟨v, code⟩ := θ
              obtain ⟨w6, ⟨p1, p2, p3⟩, rfl⟩ := hN.c (hall 20 (by decide))
              obtain ⟨_, _, _, _, _, _, g6, k6⟩ := FIN.out w6 v code p1 p2 p3
              have h4 := hall 4 (by decide)
              have h8 := hall 8 (by decide)
              have h11 := hall 11 (by decide)
              have h14 := hall 14 (by decide)
              have h15 := hall 15 (by decide)
              have h16 := hall 16 (by decide)
              have h17 := hall 17 (by decide)
              have h18 := hall 18 (by decide)
              have h19 := hall 19 (by decide)
              have h21 := hall 21 (by decide)
              simp only [acts, h4, h8, h11, h14, h15, h16, h17, h18, h19, h21, List.foldl_cons, List.foldl_nil, if_true, List.setIfInBounds_toArray, List.set_cons_succ, List.set_cons_zero]
              clear h4 h8 h11 h14 h15 h16 h17 h18 h19 h21 hN hall hP FIN hl5 c1 c2 x0 y0 hW0
              refine KK _ _ ?_
              by_cases hc : code = 0
              · have HN := Lib.hid (g6 hc)
                have hc1 : (code == 0) = true := by simp [hc]
                have hc2 : (code != 0) = false := by simp [hc]
                clear g6 k6 hc p1 p2 p3
                go_wp2_with fail
                go_roundg 0
                case measure => omega
                exact ⟨2, by go_num, by decide, by decide, HN.out⟩
              · have hc1 : (code == 0) = false := by simp [hc]
                have hc2 : (code != 0) = true := by simp [hc]
                have HN := Lib.hid (k6 hc)
                clear g6 k6 hc p1 p2 p3
                go_wp2_with fail
                go_ret
                exact HN.out
      · have hr2 : r = 2 := by omega
        subst hr2
        clear k0 k1
        obtain ⟨d0, d1, O0, O1, H2⟩ := H.to2
        clear H
        obtain ⟨T0, hT0⟩ : ∃ T, T = rowTotal m0 + l0 := ⟨_, rfl⟩
        obtain ⟨T1, hT1⟩ : ∃ T, T = rowTotal m1 + l1 := ⟨_, rfl⟩
        have hT3 : T0 + T1 + z ≤ 9223372036854775807 := by have := HR.out.2.2.2.2; omega
        rw [← hT0, ← hT1] at H2
        have HT := Lib.hid (And.intro hT0 hT1)
        have ht0 := fun W (k : Lx2 false M num den n w bb tb vl vr ca cc Oa Oc m0 m1 T0 T1 (w.heap.size + 1 + 1) d0 d1 O0 O1 W) => stot_L W d0 O0 m0 T0 k.s0 (by omega)
        have ht1 := fun W (k : Lx2 false M num den n w bb tb vl vr ca cc Oa Oc m0 m1 T0 T1 (w.heap.size + 1 + 1) d0 d1 O0 O1 W) => stot_L W d1 O1 m1 T1 k.s1 (by omega)
        have hm0 := fun W => mtot_L d0 W
        have hm1 := fun W => mtot_L d1 W
        have hp3 := Lib.hid (fun W b => plus3_any W b T0 T1 z hT3)
        have H3 := H2.next (Below.refl _ _).drew
        clear H2 hT0 hT1 hT3 HR
        have HH3 := Lib.hid H3
        obtain ⟨x0, x1⟩ := lx2_L H3
        clear H3
        go_upto_region 18 with fail
        rename_i KK
        go_region_with (first
          | (go_at_call 90; refine (hp3.out _ _ (by simp) (by simp) (by simp)).mono ?_; rintro e w7 ⟨rfl, rfl⟩)
          | ((with_reducible refine (ht0 _ (Hid.out (by assumption))).mono ?_); rintro e w5 ⟨rfl, b5⟩; have H5 : Hid (Lx2 false M num den n w bb tb vl vr ca cc Oa Oc m0 m1 T0 T1 (w.heap.size + 1 + 1) d0 d1 O0 O1 w5) := Lib.hid (Lx2.next (Hid.out (by assumption)) b5); obtain ⟨x50, x51⟩ := lx2_L H5.out; clear b5)
          | ((with_reducible refine (ht1 _ (Hid.out (by assumption))).mono ?_); rintro e w6 ⟨rfl, b6⟩; have H6' : Hid (Lx2 false M num den n w bb tb vl vr ca cc Oa Oc m0 m1 T0 T1 (w.heap.size + 1 + 1) d0 d1 O0 O1 w6) := Lib.hid (Lx2.next (Hid.out (by assumption)) b6); obtain ⟨x60, x61⟩ := lx2_L H6'.out; clear b6))
        all_goals (
          refine KK _ _ ?_
          have H6 : Hid (Lx2 false M num den n w bb tb vl vr ca cc Oa Oc m0 m1 T0 T1 (w.heap.size + 1 + 1) d0 d1 O0 O1 (w6.alloc (.cells #[.int .u64 (T0 : Int), .int .u64 (T1 : Int), .int .u64 (z : Int)] 23))) := Lib.hid (H6'.out.next ((Below.refl _ _).alloc (Nat.le_refl _) _))
          generalize w6.alloc (.cells #[.int .u64 (T0 : Int), .int .u64 (T1 : Int), .int .u64 (z : Int)] 23) = w9 at H6 ⊢
          clear ht0 ht1 hm0 hm1 hp3 x0 x1 x50 x51 x60 x61 H5 H6' HH3 KK
          obtain ⟨c0, c1, c2, c3, c4, c5, f3, f4, f5⟩ := bcells_L H6.out.bn
          obtain ⟨x0, x1⟩ := lx2_L H6.out
          have HF := Lib.hid (H6.out.fin HB.out.1 z)
          have hlt : bb < w.heap.size := HB.out.1
          have hne1 : bb ≠ w.heap.size + 1 + 1 := by omega
          clear H6 c0 c1 c2
          go_upto_region 21 with fail
          rename_i KK
          go_region
          all_goals (
            refine KK _ _ ?_
            go_wp2_with fail
            go_ret
            rw [← HT.out.1, ← HT.out.2]
            exact HF.out))

theorem lload_H {M : Nat} (hM1 : 1 ≤ M) (hM2 : M ≤ 4096) (w : World) (va : Value) (m : Row) (l : Nat) (h : w.ownsRow 0 228 2 va m.length (rowC m)) (k : RowK true M m l) :
    Calls Tryz.prog 89 #[.int .i64 1, .int .i64 (M : Int), va, .int .u64 (l : Int)] w (LoadB true M m (rowTotal m + l) w) := by
  have hs := sload_H hM1 hM2 w va m l h k.rising k.full k.low k.tot k.fit k.same k.len
  obtain ⟨A, cap, hv⟩ := owns_slice h
  subst hv
  clear h k hM1 hM2
  go_enter Tryz.func89, Tryz.ntmps89
  go_wp2_with fail
  refine hs.mono ?_
  rintro e w1 ⟨po, code, rfl, b1, q⟩
  have HQ := Lib.hid (And.intro b1 q)
  clear hs b1 q
  by_cases hc : code = 0
  · subst hc
    go_wp2_with fail
    go_ret2
    obtain ⟨b1, q⟩ := HQ.out
    obtain ⟨cb, O, rfl, h1, h2⟩ := q (by simp)
    exact ⟨_, 0, rfl, b1, .inr ⟨_, _, rfl⟩, fun _ => ⟨cb, O, rfl, h1, h2⟩⟩
  · have hc1 : (code == 0) = false := by simp [hc]
    have hc2 : (code != 0) = true := by simp [hc]
    go_wp2_with fail
    go_ret2
    exact ⟨_, code, rfl, HQ.out.1, .inl rfl, fun h => absurd h hc⟩

theorem lx2_H {M num den n : Nat} {w : World} {bb tb : Nat} {vl vr : Value} {ca cc : Nat} {Oa Oc : Nat → Prop} {m0 m1 : Row} {T0 T1 sb c0 c1 : Nat} {O0 O1 : Nat → Prop} {W : World} (h : Lx2 true M num den n w bb tb vl vr ca cc Oa Oc m0 m1 T0 T1 sb c0 c1 O0 O1 W) : W.cell? ⟨sb, 0, none⟩ = some (.iface 243 (.pointer (some ⟨c0, 0, none⟩))) ∧ W.cell? ⟨sb, 1, none⟩ = some (.iface 243 (.pointer (some ⟨c1, 0, none⟩))) := ⟨h.st.cell rfl, h.st.cell rfl⟩
set_option maxHeartbeats 16000000 in
theorem bload_H {M num den n : Nat} (hM1 : 1 ≤ M) (hM2 : M ≤ 4096) (hn2 : n ≤ 4096) (w : World) (bb tb : Nat) (vl vr : Value) (ca cc : Nat) (Oa Oc : Nat → Prop) (h : BinO true M num den n w bb tb vl vr ca cc Oa Oc [] [] 0 0 0)
    (va vb : Value) (m0 m1 : Row) (l0 l1 z : Nat) (oa : w.ownsRow 0 228 2 va m0.length (rowC m0)) (ob : w.ownsRow 0 228 2 vb m1.length (rowC m1)) (r0 : RowK true M m0 l0) (r1 : RowK true M m1 l1) (hT : rowTotal m0 + l0 + (rowTotal m1 + l1) + z ≤ 9223372036854775807) :
    Calls Tryz.prog 76 #[.pointer (some ⟨bb, 0, none⟩), .agg #[va, vb], .agg #[.int .u64 (l0 : Int), .int .u64 (l1 : Int)], .int .u64 (z : Int)] w (LdBP true M num den n w bb tb vl vr m0 m1 (rowTotal m0 + l0) (rowTotal m1 + l1) z) := by
  obtain ⟨Aa, pa, hva⟩ := owns_slice oa
  obtain ⟨Ab, pb, hvb⟩ := owns_slice ob
  subst hva
  subst hvb
  obtain ⟨n0, hn0⟩ : ∃ n, n = m0.length := ⟨_, rfl⟩
  obtain ⟨n1, hn1⟩ : ∃ n, n = m1.length := ⟨_, rfl⟩
  rw [← hn0] at oa ⊢
  rw [← hn1] at ob ⊢
  have n0l : n0 ≤ 4096 := by have := r0.len; omega
  have n1l : n1 ≤ 4096 := by have := r1.len; omega
  have b1 : Below w.heap.size w (w.alloc (.cells #[.slice Aa n0 pa, .slice Ab n1 pb] 195)) := (Below.refl _ _).alloc (Nat.le_refl _) _
  have b2 := b1.alloc b1.size (.cells #[.int .u64 (l0 : Int), .int .u64 (l1 : Int)] 193)
  have b3 := b2.alloc b2.size (.cells #[.nilIface, .nilIface] 229)
  have C0 : LxC true M num den n w bb tb vl vr ca cc Oa Oc (.slice Aa n0 pa) (.slice Ab n1 pb) m0 m1 l0 l1 w.heap.size (w.heap.size + 1) (w.heap.size + 1 + 1) 0 (((w.alloc (.cells #[.slice Aa n0 pa, .slice Ab n1 pb] 195)).alloc (.cells #[.int .u64 (l0 : Int), .int .u64 (l1 : Int)] 193)).alloc (.cells #[.nilIface, .nilIface] 229)) :=
    ⟨h.next b3, ((Blk.newAt rfl).alloc _).alloc _, (Blk.newAt (by simp)).alloc _, by rw [← hn0]; exact owns_below oa b3 fun g hg => (oa.lt g hg).2, by rw [← hn1]; exact owns_below ob b3 fun g hg => (ob.lt g hg).2, b3, .inl ⟨rfl, Blk.newAt (by simp)⟩, by omega⟩
  have HC := Lib.hid C0
  have HR := Lib.hid (And.intro r0 (And.intro r1 (And.intro hn0 (And.intro hn1 hT))))
  have HM := Lib.hid (And.intro hM1 (And.intro hM2 hn2))
  have HB := Lib.hid (And.intro h.blk.lt h)
  clear h oa ob r0 r1 hn0 hn1 b1 b2 b3 C0 hM1 hM2 hn2 hT
  go_enter Tryz.func76, Tryz.ntmps76
  go_wp2_with fail
  go_loopg [10, 12, 13, 18] 2 (fun g _ _ _ i wr => ∃ r : Nat, i = .int .i64 (r : Int) ∧ r ≤ 2 ∧ 2 - r ≤ g ∧ LxC true M num den n w bb tb vl vr ca cc Oa Oc (.slice Aa n0 pa) (.slice Ab n1 pb) m0 m1 l0 l1 w.heap.size (w.heap.size + 1) (w.heap.size + 1 + 1) r wr)
  case atStart => exact ⟨0, rfl, by decide, by decide, HC.out⟩
  case round =>
    clear HC
    obtain ⟨r, rfl, hr, hgr, H⟩ := hrel
    by_cases k0 : r = 0
    · subst k0
      have HX := Lib.hid H
      have x0 : wr.cell? ⟨w.heap.size, 0, none⟩ = some (.slice Aa n0 pa) := H.rows.cell rfl
      clear H
      go_wp2_with fail
      clear x0
      go_loopg [12, 25] n0 (fun g _ i wr => ∃ q : Nat, i = .int .i64 (q : Int) ∧ q ≤ n0 ∧ n0 - q ≤ g ∧ LxC true M num den n w bb tb vl vr ca cc Oa Oc (.slice Aa n0 pa) (.slice Ab n1 pb) m0 m1 l0 l1 w.heap.size (w.heap.size + 1) (w.heap.size + 1 + 1) 0 wr)
      case atStart => exact ⟨0, rfl, Nat.zero_le _, Nat.le_refl _, HX.out⟩
      case round =>
        clear HX
        obtain ⟨q, rfl, hq, hg, H⟩ := hrel
        have HX := Lib.hid H
        by_cases hqn : q < n0
        · have g0 : (q : Int) < (n0 : Int) := by omega
          have hql : q < m0.length := by rw [← HR.out.2.2.1]; exact hqn
          obtain ⟨ix, hix⟩ : ∃ i, i = (m0[q]'hql).1 := ⟨_, rfl⟩
          obtain ⟨ct, hct⟩ : ∃ i, i = (m0[q]'hql).2 := ⟨_, rfl⟩
          have O2 := H.oa
          rcases owns_shape O2 with ⟨hv0, hn0, _⟩ | ⟨g, cap, hv0, hnc, hcap, _, hgl⟩
          · have := HR.out.2.2.1; omega
          simp only [Value.slice.injEq] at hv0
          obtain ⟨rfl, hnn, rfl⟩ := hv0
          have en : n0 = m0.length := HR.out.2.2.1
          have O3 : wr.ownsRow 0 228 2 (.slice (some ⟨g, 0, none⟩) m0.length pa) m0.length (rowC m0) := by rw [← en]; rw [← en] at O2; exact O2
          have p0 : wr.cell? ⟨g, q * 2, none⟩ = some (.int .i64 (ix : Int)) := by rw [O3.cellAt _ (by omega), rowC_fst m0 q hql, hix]
          have p1 : wr.cell? ⟨g, q * 2 + 1, none⟩ = some (.int .u64 (ct : Int)) := by rw [O3.cellAt _ (by omega), rowC_snd m0 q hql, hct]
          have J2 : LxP true M num den n w bb tb vl vr ca cc Oa Oc (.slice (some ⟨g, 0, none⟩) n0 pa) (.slice Ab n1 pb) m0 m1 l0 l1 w.heap.size (w.heap.size + 1) (w.heap.size + 1 + 1) 0 wr.heap.size ix ct (wr.alloc (.cells #[.int .i64 (ix : Int), .int .u64 (ct : Int)] 228)) := ⟨H.next ((Below.refl _ _).alloc (Nat.le_refl _) _), Blk.newAt rfl⟩
          obtain ⟨rv, hrv⟩ : ∃ rv, rv = repN num den n ix := ⟨_, rfl⟩
          have hrp := fun W (k : LxP true M num den n w bb tb vl vr ca cc Oa Oc (.slice (some ⟨g, 0, none⟩) n0 pa) (.slice Ab n1 pb) m0 m1 l0 l1 w.heap.size (w.heap.size + 1) (w.heap.size + 1 + 1) 0 wr.heap.size ix ct W) => rep_same W tb vl vr num den n k.lx.bn.tab HM.out.2.2 ix
          rw [← hrv] at hrp
          have hmr := fun W => mrep tb W
          have t1 : decide ((ix : Int) < 0) = false := by first | (simp; done) | (simp; omega)
          have HJ := Lib.hid J2
          clear O2 O3 H J2 hgl hnc hcap hnn en hix hct hrv
          go_upto_region 10 with fail
          by_cases hz : rv = 0
          · have z1 : ((rv : Int) == 0) = true := by simp [hz]
            have z2 : (rv == 0) = true := by simp [hz]
            clear hz
            refine wp_region_quiet_litC (C := LxP true M num den n w bb tb vl vr ca cc Oa Oc (.slice (some ⟨g, 0, none⟩) n0 pa) (.slice Ab n1 pb) m0 m1 l0 l1 w.heap.size (w.heap.size + 1) (w.heap.size + 1 + 1) 0 wr.heap.size ix ct) (by kernel_rfl) (by kernel_rfl) (HJ.out.next (Below.refl _ _).drew) ?_
            repeat (first | go_big_quiet_skip | (go_big_quiet_want; go_big_quiet_op; first | go_big_quiet_on | (refine quiet_const ?_; go_big_quiet_on)))
            go_big_quiet_want
            refine ⟨.int .i64 (ix : Int), fun wx hx => ?_, ?_⟩
            · obtain ⟨p0, p1⟩ := hx.pc
              go_simp
            go_big_quiet_on
            simp only [Act.put, List.setIfInBounds_toArray, List.set_cons_zero, List.set_cons_succ]
            repeat (first | go_big_quiet_skip | (go_big_quiet_want; go_big_quiet_op; first | go_big_quiet_on | (refine quiet_const ?_; go_big_quiet_on)))
            go_big_quiet_want
            refine ⟨.iface 163 (.pointer (some ⟨tb, 0, none⟩)), fun wx hx => ?_, ?_⟩
            · obtain ⟨c0, c1, c2, c3, c4, c5, f3, f4, f5⟩ := bcells_H hx.lx.bn
              go_simp
            go_big_quiet_on
            simp only [Act.put, List.setIfInBounds_toArray, List.set_cons_zero, List.set_cons_succ]
            repeat (first | go_big_quiet_skip | (go_big_quiet_want; go_big_quiet_op; first | go_big_quiet_on | (refine quiet_const ?_; go_big_quiet_on)))
            go_big_quiet_want
            refine ⟨.int .i64 (ix : Int), fun wx hx => ?_, ?_⟩
            · obtain ⟨p0, p1⟩ := hx.pc
              go_simp
            go_big_quiet_on
            simp only [Act.put, List.setIfInBounds_toArray, List.set_cons_zero, List.set_cons_succ]
            repeat (first | go_big_quiet_skip | (go_big_quiet_want; go_big_quiet_op; first | go_big_quiet_on | (refine quiet_const ?_; go_big_quiet_on)))
            go_big_quiet_want
            go_big_quiet_op
            refine ⟨.int .u64 (rv : Int), fun wx hx => ?_, ?_⟩
            · exact (hrp wx hx).mono fun _ _ hm => ⟨hm.1, hm.2 ▸ hx⟩
            go_big_quiet_on
            repeat (first | go_big_quiet_skip | (go_big_quiet_want; go_big_quiet_op; first | go_big_quiet_on | (refine quiet_const ?_; go_big_quiet_on)))
            refine wpQuiet_nil ?_
            intro w5 H5
            have HF := Lib.hid (show LdBP true M num den n w bb tb vl vr m0 m1 (rowTotal m0 + l0) (rowTotal m1 + l1) z (.returned (.int .i64 1)) w5 from H5.lx.fail (by decide))
            clear H5 hrp hmr
            go_wp2_with fail
            go_ret
            exact HF.out
          · have z1 : ((rv : Int) == 0) = false := by simp [hz]
            have z2 : (rv == 0) = false := by simp [hz]
            clear hz
            refine wp_region_quiet_litC (C := LxP true M num den n w bb tb vl vr ca cc Oa Oc (.slice (some ⟨g, 0, none⟩) n0 pa) (.slice Ab n1 pb) m0 m1 l0 l1 w.heap.size (w.heap.size + 1) (w.heap.size + 1 + 1) 0 wr.heap.size ix ct) (by kernel_rfl) (by kernel_rfl) (HJ.out.next (Below.refl _ _).drew) ?_
            repeat (first | go_big_quiet_skip | (go_big_quiet_want; go_big_quiet_op; first | go_big_quiet_on | (refine quiet_const ?_; go_big_quiet_on)))
            go_big_quiet_want
            refine ⟨.int .i64 (ix : Int), fun wx hx => ?_, ?_⟩
            · obtain ⟨p0, p1⟩ := hx.pc
              go_simp
            go_big_quiet_on
            simp only [Act.put, List.setIfInBounds_toArray, List.set_cons_zero, List.set_cons_succ]
            repeat (first | go_big_quiet_skip | (go_big_quiet_want; go_big_quiet_op; first | go_big_quiet_on | (refine quiet_const ?_; go_big_quiet_on)))
            go_big_quiet_want
            refine ⟨.iface 163 (.pointer (some ⟨tb, 0, none⟩)), fun wx hx => ?_, ?_⟩
            · obtain ⟨c0, c1, c2, c3, c4, c5, f3, f4, f5⟩ := bcells_H hx.lx.bn
              go_simp
            go_big_quiet_on
            simp only [Act.put, List.setIfInBounds_toArray, List.set_cons_zero, List.set_cons_succ]
            repeat (first | go_big_quiet_skip | (go_big_quiet_want; go_big_quiet_op; first | go_big_quiet_on | (refine quiet_const ?_; go_big_quiet_on)))
            go_big_quiet_want
            refine ⟨.int .i64 (ix : Int), fun wx hx => ?_, ?_⟩
            · obtain ⟨p0, p1⟩ := hx.pc
              go_simp
            go_big_quiet_on
            simp only [Act.put, List.setIfInBounds_toArray, List.set_cons_zero, List.set_cons_succ]
            repeat (first | go_big_quiet_skip | (go_big_quiet_want; go_big_quiet_op; first | go_big_quiet_on | (refine quiet_const ?_; go_big_quiet_on)))
            go_big_quiet_want
            go_big_quiet_op
            refine ⟨.int .u64 (rv : Int), fun wx hx => ?_, ?_⟩
            · exact (hrp wx hx).mono fun _ _ hm => ⟨hm.1, hm.2 ▸ hx⟩
            go_big_quiet_on
            repeat (first | go_big_quiet_skip | (go_big_quiet_want; go_big_quiet_op; first | go_big_quiet_on | (refine quiet_const ?_; go_big_quiet_on)))
            refine wpQuiet_nil ?_
            intro w5 H5
            have HF := Lib.hid H5.lx
            clear H5 hrp hmr
            go_wp2_with fail
            go_roundg (n0 - (q + 1))
            case measure => omega
            exact ⟨q + 1, by go_num, by omega, Nat.le_refl _, HF.out⟩
        · have hqe : q = n0 := by omega
          have g0 : ¬ (q : Int) < (n0 : Int) := by omega
          have HK := H.next (Below.refl _ _).drew
          have hlo := fun W (k : LxC true M num den n w bb tb vl vr ca cc Oa Oc (.slice Aa n0 pa) (.slice Ab n1 pb) m0 m1 l0 l1 w.heap.size (w.heap.size + 1) (w.heap.size + 1 + 1) 0 W) => lload_H HM.out.1 HM.out.2.1 W (.slice Aa n0 pa) m0 l0 k.oa HR.out.1
          clear H hqe hqn hq hg
          go_upto_region 14 with fail
          have hl5 := hlo _ HK
          obtain ⟨c0, c1, c2, c3, c4, c5, f3, f4, f5⟩ := bcells_H HK.bn
          have x0 := HK.rows.cell (j := 0) rfl
          have y0 := HK.lost.cell (j := 0) rfl
          have H5 := Lib.hid HK
          clear hlo HK c0 c3 c4 c5 f3 f4 f5
          rename_i KK
          have FIN := Lib.hid (show ∀ (w6 : World) (v : Value) (code : Int), Below wr.drew.heap.size wr.drew w6 → (v = .nilIface ∨ ∃ T x, v = .iface T x) → (code = 0 → ∃ cb O, v = .iface 243 (.pointer (some ⟨cb, 0, none⟩)) ∧ StoQ true M m0 (rowTotal m0 + l0) w6 cb O ∧ ∀ j, O j → wr.drew.heap.size ≤ j) → w6.cell? ⟨w.heap.size + 1 + 1, 0, none⟩ = some .nilIface ∧ w6.frozen? ⟨w.heap.size + 1 + 1, 0, none⟩ = false ∧ v.cells = #[v] ∧ (Go.store ⟨w.heap.size + 1 + 1, 0, none⟩ v).run Tryz.prog w6 = .ok () (w6.setCell ⟨w.heap.size + 1 + 1, 0, none⟩ v) ∧ (w6.cell? ⟨bb, 1, none⟩ = some (.int .i64 1) ∧ w6.cell? ⟨bb, 2, none⟩ = some (.int .i64 (M : Int)) ∧ w6.cell? ⟨w.heap.size, 0, none⟩ = some (.slice Aa n0 pa) ∧ w6.cell? ⟨w.heap.size + 1, 0, none⟩ = some (.int .u64 (l0 : Int))) ∧ ((w6.setCell ⟨w.heap.size + 1 + 1, 0, none⟩ v).cell? ⟨bb, 1, none⟩ = some (.int .i64 1) ∧ (w6.setCell ⟨w.heap.size + 1 + 1, 0, none⟩ v).cell? ⟨bb, 2, none⟩ = some (.int .i64 (M : Int)) ∧ (w6.setCell ⟨w.heap.size + 1 + 1, 0, none⟩ v).cell? ⟨w.heap.size, 0, none⟩ = some (.slice Aa n0 pa) ∧ (w6.setCell ⟨w.heap.size + 1 + 1, 0, none⟩ v).cell? ⟨w.heap.size + 1, 0, none⟩ = some (.int .u64 (l0 : Int))) ∧ (code = 0 → LxC true M num den n w bb tb vl vr ca cc Oa Oc (.slice Aa n0 pa) (.slice Ab n1 pb) m0 m1 l0 l1 w.heap.size (w.heap.size + 1) (w.heap.size + 1 + 1) 1 (w6.setCell ⟨w.heap.size + 1 + 1, 0, none⟩ v)) ∧ (code ≠ 0 → LdBP true M num den n w bb tb vl vr m0 m1 (rowTotal m0 + l0) (rowTotal m1 + l1) z (.returned (.int .i64 code)) (w6.setCell ⟨w.heap.size + 1 + 1, 0, none⟩ v)) from fun w6 v code b6 hvc q6 => by
            have H6 := H5.out.next b6
            obtain ⟨s6, f6⟩ := H6.nilAt (by decide)
            have H7 := H6.poke 0 v
            refine ⟨s6, f6, by rcases hvc with rfl | ⟨T, x, rfl⟩ <;> rfl, by rcases hvc with rfl | ⟨T, x, rfl⟩ <;> simp [go_sem, s6, f6], ⟨(bcells_H H6.bn).2.1, (bcells_H H6.bn).2.2.1, H6.rows.cell rfl, H6.lost.cell rfl⟩, ⟨(bcells_H H7.bn).2.1, (bcells_H H7.bn).2.2.1, H7.rows.cell rfl, H7.lost.cell rfl⟩, fun hc => ?_, fun hc => H6.failAt hc 0 v⟩
            obtain ⟨cb, O, rfl, q7, hO7⟩ := q6 hc
            exact H5.out.put0 b6 q7 hO7)
          clear H5
          have HS0 : wr.drew.cell? ⟨bb, 1, none⟩ = some (.int .i64 1) ∧ wr.drew.cell? ⟨bb, 2, none⟩ = some (.int .i64 (M : Int)) ∧ wr.drew.cell? ⟨w.heap.size, 0, none⟩ = some (.slice Aa n0 pa) ∧ wr.drew.cell? ⟨w.heap.size + 1, 0, none⟩ = some (.int .u64 (l0 : Int)) := ⟨c1, c2, x0, y0⟩
          clear c1 c2 x0 y0
          obtain ⟨W0, hW0⟩ : ∃ W0, W0 = wr.drew := ⟨_, rfl⟩
          rw [← hW0] at HS0 FIN hl5
          obtain ⟨c1, c2, x0, y0⟩ := HS0
          refine wp_region_any (by kernel_rfl) ?_
          try (change wpAny _ _ _ _ _ _ _ (World.drew _))
          refine wpAny_take (i := 0) (v := ?_) rfl (by kernel_rfl) (by kernel_rfl) (by kernel_rfl) (fun _ _ _ h => h) (Or.inl ⟨by rfl, ?_⟩) ?_
          rotate_left
          · intro wz; go_simp; try with_reducible rfl
          refine wpAny_take (i := 1) (v := ?_) rfl (by kernel_rfl) (by kernel_rfl) (by kernel_rfl) (fun _ _ _ h => h) (Or.inl ⟨by rfl, ?_⟩) ?_
          rotate_left
          · intro wz; go_simp; try with_reducible rfl
          refine wpAny_take (i := 2) (v := ?_) rfl (by kernel_rfl) (by kernel_rfl) (by kernel_rfl) (fun _ _ _ h => h) (Or.inl ⟨by rfl, ?_⟩) ?_
          rotate_left
          · intro wz; go_simp; try with_reducible rfl
          refine wpAny_take (i := 3) (v := ?_) rfl (by kernel_rfl) (by kernel_rfl) (by kernel_rfl) (fun _ _ _ h => h) (Or.inl ⟨by rfl, ?_⟩) ?_
          rotate_left
          · intro wz; go_simp; try with_reducible rfl
          refine wpAny_take (i := 5) (v := ?_) rfl (by kernel_rfl) (by kernel_rfl) (by kernel_rfl) (fun _ _ _ h => h) (Or.inl ⟨by rfl, ?_⟩) ?_
          rotate_left
          · intro wz; go_simp; try with_reducible rfl
          refine wpAny_take (i := 6) (v := ?_) rfl (by kernel_rfl) (by kernel_rfl) (by kernel_rfl) (fun _ _ _ h => h) (Or.inl ⟨by rfl, ?_⟩) ?_
          rotate_left
          · intro wz; go_simp; try with_reducible rfl
          refine wpAny_take (i := 7) (v := ?_) rfl (by kernel_rfl) (by kernel_rfl) (by kernel_rfl) (fun _ _ _ h => h) (Or.inl ⟨by rfl, ?_⟩) ?_
          rotate_left
          · intro wz; go_simp; try with_reducible rfl
          refine wpAny_take (i := 9) (v := ?_) rfl (by kernel_rfl) (by kernel_rfl) (by kernel_rfl) (fun _ _ _ h => h) (Or.inl ⟨by rfl, ?_⟩) ?_
          rotate_left
          · intro wz; go_simp; try with_reducible rfl
          refine wpAny_take (i := 10) (v := ?_) rfl (by kernel_rfl) (by kernel_rfl) (by kernel_rfl) (fun _ _ _ h => h) (Or.inl ⟨by rfl, ?_⟩) ?_
          rotate_left
          · intro wz; go_simp; try with_reducible rfl
          refine wpAny_take (i := 12) (v := ?_) rfl (by kernel_rfl) (by kernel_rfl) (by kernel_rfl) (fun _ _ _ h => h) (Or.inl ⟨by rfl, ?_⟩) ?_
          rotate_left
          · intro wz; go_simp; try with_reducible rfl
          refine wpAny_take (i := 13) (v := ?_) rfl (by kernel_rfl) (by kernel_rfl) (by kernel_rfl) (fun _ _ _ h => h) (Or.inl ⟨by rfl, ?_⟩) ?_
          rotate_left
          · intro wz; go_simp; try with_reducible rfl
          simp only [List.getElem_toArray, List.getElem_cons_zero, List.getElem_cons_succ, Act.put, List.setIfInBounds_toArray, List.set_cons_zero, List.set_cons_succ]
          rw [← hW0]
          have hP := Lib.hid (show ∀ (w6 : World) (v : Value) (code : Int), LoadB true M m0 (rowTotal m0 + l0) W0 (.returned (.tuple #[v, .int .i64 code])) w6 → LdPost true M m0 (rowTotal m0 + l0) W0 w6 v code from fun w6 v code hh => by
            obtain ⟨v', code', e, h1, h2, h3⟩ := hh
            injection e with e
            injection e with e
            simp at e
            obtain ⟨rfl, rfl⟩ := e
            exact ⟨h1, h2, h3⟩)
          refine wpAny_acts2 (fun L θ => [(48, L 4, .int .i64 1), (52, L 8, .int .i64 (M : Int)), (55, L 11, .slice Aa n0 pa), (58, L 14, .int .u64 (l0 : Int)), (59, L 15, .tuple #[θ.1, .int .i64 θ.2]), (43, L 16, .tuple #[θ.1, .int .i64 θ.2]), (60, L 17, θ.1), (61, L 18, .int .i64 θ.2), (62, L 19, .pointer (some ⟨w.heap.size + 1 + 1, 0, none⟩)), (13, L 21, .int .i64 θ.2)]) (RgL 22 [0, 1, 2, 3, 5, 6, 7, 9, 10, 12, 13] W0 (LdPost true M m0 (rowTotal m0 + l0) W0) (w.heap.size + 1 + 1) 0 [4, 8, 11, 14] [16, 17, 18, 21] 15 20) [true, true, true, true, false, true, true, true, false, true, true, false, true, true, false, false, false, false, false, false, false, false] (.nilIface, 0) (by kernel_rfl) (by kernel_rfl) rfl (by kernel_rfl) (by kernel_rfl) ?_ ?_ ?_
          · refine ⟨fun _ => rfl, fun h => absurd h (by decide), fun h => absurd h (by decide), fun h => absurd h (by decide), fun h => absurd h (by decide), ?_, ?_⟩
            rotate_left
            · intro _ j hj
              simp only [List.mem_cons, List.not_mem_nil, or_false] at hj
              rcases hj with rfl | rfl | rfl | rfl <;> rfl
            intro j hj
            simp only [List.mem_cons, List.not_mem_nil, or_false] at hj
            rcases hj with rfl | rfl | rfl | rfl | rfl | rfl | rfl | rfl | rfl | rfl | rfl <;> rfl
          · intro L θ W hN i o hi hLi hd
            have hil : i < 22 := (List.getElem?_eq_some_iff.1 hi).1
            have ht : i ∉ [0, 1, 2, 3, 5, 6, 7, 9, 10, 12, 13] := fun hm => by have := hN.tk i hm; rw [hLi] at this; cases this
            have hcase : i = 4 ∨ i = 8 ∨ i = 11 ∨ i = 14 ∨ i = 15 ∨ i = 16 ∨ i = 17 ∨ i = 18 ∨ i = 19 ∨ i = 20 ∨ i = 21 := by
              simp only [List.mem_cons, List.not_mem_nil, or_false, not_or] at ht; omega
            have hW : ∀ k, k ∈ [4, 8, 11, 14] → L k = false → W = W0 := fun k hk hf => hN.a (by
              cases e : L 15 with
              | false => rfl
              | true => have := hN.e e k hk; rw [hf] at this; cases this)
            clear ht
            rcases hcase with rfl | rfl | rfl | rfl | rfl | rfl | rfl | rfl | rfl | rfl | rfl
            · have ho := Option.some.inj hi
              subst ho
              have e := hW 4 (by decide) hLi
              subst e
              refine wpOp_on rfl rfl (wpo_load rfl ((acts_other (by simp)).trans rfl) (v := .int .i64 1) (by simp [go_sem, c1]) ⟨θ, acts_step 0 (by simp only [hLi]; rfl) (by simp) ?_, hN.flag 4 (by decide) (by decide) (fun h => absurd h (by decide))⟩)
              rfl
            · have ho := Option.some.inj hi
              subst ho
              have e := hW 8 (by decide) hLi
              subst e
              refine wpOp_on rfl rfl (wpo_load rfl ((acts_other (by simp)).trans rfl) (v := .int .i64 (M : Int)) (by simp [go_sem, c2]) ⟨θ, acts_step 1 (by simp only [hLi]; rfl) (by simp) ?_, hN.flag 8 (by decide) (by decide) (fun h => absurd h (by decide))⟩)
              rfl
            · have ho := Option.some.inj hi
              subst ho
              have e := hW 11 (by decide) hLi
              subst e
              refine wpOp_on rfl rfl (wpo_load rfl ((acts_other (by simp)).trans rfl) (v := .slice Aa n0 pa) (by simp [go_sem, x0]) ⟨θ, acts_step 2 (by simp only [hLi]; rfl) (by simp) ?_, hN.flag 11 (by decide) (by decide) (fun h => absurd h (by decide))⟩)
              rfl
            · have ho := Option.some.inj hi
              subst ho
              have e := hW 14 (by decide) hLi
              subst e
              refine wpOp_on rfl rfl (wpo_load rfl ((acts_other (by simp)).trans rfl) (v := .int .u64 (l0 : Int)) (by simp [go_sem, y0]) ⟨θ, acts_step 3 (by simp only [hLi]; rfl) (by simp) ?_, hN.flag 14 (by decide) (by decide) (fun h => absurd h (by decide))⟩)
              rfl
            · have ho := Option.some.inj hi
              subst ho
              have e := hN.a hLi
              subst e
              have k4 : L 4 = true := hd ⟨4, .data⟩ (by simp) rfl
              have k8 : L 8 = true := hd ⟨8, .data⟩ (by simp) rfl
              have k11 : L 11 = true := hd ⟨11, .data⟩ (by simp) rfl
              have k14 : L 14 = true := hd ⟨14, .data⟩ (by simp) rfl
              refine wpOp_on rfl rfl (wpo_call1 (f := 89) rfl #[.int .i64 1, .int .i64 (M : Int), .slice Aa n0 pa, .int .u64 (l0 : Int)] ?_ (by kernel_rfl) (hl5.mono fun e w6 hh => ?_))
              · simp only [List.map_toArray, List.map_cons, List.map_nil]
                rw [acts_eval (k := 0) (d := 48) (v := .int .i64 1) (by simp only [k4]; rfl) (by simp) (by simp), acts_eval (k := 1) (d := 52) (v := .int .i64 (M : Int)) (by simp only [k8]; rfl) (by simp) (by simp), acts_eval (k := 2) (d := 55) (v := .slice Aa n0 pa) (by simp only [k11]; rfl) (by simp) (by simp), acts_eval (k := 3) (d := 58) (v := .int .u64 (l0 : Int)) (by simp only [k14]; rfl) (by simp) (by simp)]
              · obtain ⟨v, code, rfl, hh'⟩ := hh
                have hp := hP.out w6 v code ⟨v, code, rfl, hh'⟩
                have f16 := hN.f hLi 16 (by decide)
                have f17 := hN.f hLi 17 (by decide)
                have f18 := hN.f hLi 18 (by decide)
                have f21 := hN.f hLi 21 (by decide)
                refine ⟨_, rfl, (v, code), (acts_put (k := 4) (by simp only [hLi]; rfl) (by simp)).trans (acts_same ?_), hN.called hLi (by decide) (fun i hi => ?_) hp⟩
                · simp [maskT, upd, f16, f17, f18, f21]
                · simp only [List.mem_cons, List.not_mem_nil, or_false] at hi
                  rcases hi with rfl | rfl | rfl | rfl <;> assumption
            · have ho := Option.some.inj hi
              subst ho
              have k15 : L 15 = true := hd ⟨15, .data⟩ (by simp) rfl
              refine wpOp_on rfl rfl (wpo_move rfl (acts_eval (k := 4) (by simp only [k15]; rfl) (by simp) (by simp)) ⟨θ, acts_step 5 (by simp only [hLi]; rfl) (by simp) ?_, hN.flag 16 (by decide) (by decide) (fun _ => k15)⟩)
              rfl
            · have ho := Option.some.inj hi
              subst ho
              have k16 : L 16 = true := hd ⟨16, .data⟩ (by simp) rfl
              have k15 : L 15 = true := by
                cases e : L 15 with
                | true => rfl
                | false => have := hN.f e 16 (by decide); rw [k16] at this; cases this
              refine wpOp_on rfl rfl (wpo_extract rfl (acts_eval (k := 5) (by simp only [k16]; rfl) (by simp) (by simp)) rfl ⟨θ, acts_step 6 (by simp only [hLi]; rfl) (by simp) ?_, hN.flag 17 (by decide) (by decide) (fun _ => k15)⟩)
              rfl
            · have ho := Option.some.inj hi
              subst ho
              have k16 : L 16 = true := hd ⟨16, .data⟩ (by simp) rfl
              have k15 : L 15 = true := by
                cases e : L 15 with
                | true => rfl
                | false => have := hN.f e 16 (by decide); rw [k16] at this; cases this
              refine wpOp_on rfl rfl (wpo_extract rfl (acts_eval (k := 5) (by simp only [k16]; rfl) (by simp) (by simp)) rfl ⟨θ, acts_step 7 (by simp only [hLi]; rfl) (by simp) ?_, hN.flag 18 (by decide) (by decide) (fun _ => k15)⟩)
              rfl
            · have ho := Option.some.inj hi
              subst ho
              refine wpOp_on rfl rfl (wpo_index rfl ((acts_other (by simp)).trans rfl) ((acts_other (by simp)).trans rfl) (v := .pointer (some ⟨w.heap.size + 1 + 1, 0, none⟩)) (by kernel_rfl) ⟨θ, acts_step 8 (by simp only [hLi]; rfl) (by simp) ?_, hN.flag 19 (by decide) (by decide) (fun h => absurd h (by decide))⟩)
              rfl
            · have ho := Option.some.inj hi
              subst ho
              have k19 : L 19 = true := hd ⟨19, .data⟩ (by simp) rfl
              have k17 : L 17 = true := hd ⟨17, .data⟩ (by simp) rfl
              have k15 : L 15 = true := hd ⟨15, .chain⟩ (by simp) rfl
              obtain ⟨p1, p2, p3⟩ := hN.b k15 hLi
              obtain ⟨s6, f6, _, hst6, _, _⟩ := FIN.out W θ.1 θ.2 p1 p2 p3
              refine wpOp_on rfl rfl (wpo_store rfl (acts_eval (k := 8) (by simp only [k19]; rfl) (by simp) (by simp)) (acts_eval (k := 6) (by simp only [k17]; rfl) (by simp) (by simp)) (w' := W.setCell ⟨w.heap.size + 1 + 1, 0, none⟩ θ.1) ?_ ⟨θ, ?_, hN.stored hLi k15 (by decide)⟩)
              · rcases p2 with e | ⟨T', x', e⟩ <;> rw [e] <;> simp [go_sem, s6, f6]
              · rfl
            · have ho := Option.some.inj hi
              subst ho
              have k18 : L 18 = true := hd ⟨18, .data⟩ (by simp) rfl
              have k15 : L 15 = true := by
                cases e : L 15 with
                | true => rfl
                | false => have := hN.f e 18 (by decide); rw [k18] at this; cases this
              refine wpOp_on rfl rfl (wpo_assign rfl (acts_eval (k := 7) (by simp only [k18]; rfl) (by simp) (by simp)) ⟨θ, acts_step 9 (by simp only [hLi]; rfl) (by simp) ?_, hN.flag 21 (by decide) (by decide) (fun _ => k15)⟩)
              rfl
          · intro L θ W hN hall
            obtain ⟨v, code⟩ := θ
            obtain ⟨w6, ⟨p1, p2, p3⟩, rfl⟩ := hN.c (hall 20 (by decide))
            obtain ⟨_, _, _, _, _, _, g6, k6⟩ := FIN.out w6 v code p1 p2 p3
            have h4 := hall 4 (by decide)
            have h8 := hall 8 (by decide)
            have h11 := hall 11 (by decide)
            have h14 := hall 14 (by decide)
            have h15 := hall 15 (by decide)
            have h16 := hall 16 (by decide)
            have h17 := hall 17 (by decide)
            have h18 := hall 18 (by decide)
            have h19 := hall 19 (by decide)
            have h21 := hall 21 (by decide)
            simp only [acts, h4, h8, h11, h14, h15, h16, h17, h18, h19, h21, List.foldl_cons, List.foldl_nil, if_true, List.setIfInBounds_toArray, List.set_cons_succ, List.set_cons_zero]
            clear h4 h8 h11 h14 h15 h16 h17 h18 h19 h21 hN hall hP FIN hl5 c1 c2 x0 y0 hW0
            refine KK _ _ ?_
            by_cases hc : code = 0
            · have HN := Lib.hid (g6 hc)
              have hc1 : (code == 0) = true := by simp [hc]
              have hc2 : (code != 0) = false := by simp [hc]
              clear g6 k6 hc p1 p2 p3
              go_wp2_with fail
              go_roundg 1
              case measure => omega
              exact ⟨1, by go_num, by decide, by decide, HN.out⟩
            · have hc1 : (code == 0) = false := by simp [hc]
              have hc2 : (code != 0) = true := by simp [hc]
              have HN := Lib.hid (k6 hc)
              clear g6 k6 hc p1 p2 p3
              go_wp2_with fail
              go_ret
              exact HN.out
    · by_cases k1 : r = 1
      · subst k1
        clear k0
        have HX := Lib.hid H
        have x0 : wr.cell? ⟨w.heap.size, 1, none⟩ = some (.slice Ab n1 pb) := H.rows.cell rfl
        clear H
        go_wp2_with fail
        clear x0
        go_loopg [12, 25] n1 (fun g _ i wr => ∃ q : Nat, i = .int .i64 (q : Int) ∧ q ≤ n1 ∧ n1 - q ≤ g ∧ LxC true M num den n w bb tb vl vr ca cc Oa Oc (.slice Aa n0 pa) (.slice Ab n1 pb) m0 m1 l0 l1 w.heap.size (w.heap.size + 1) (w.heap.size + 1 + 1) 1 wr)
        case atStart => exact ⟨0, rfl, Nat.zero_le _, Nat.le_refl _, HX.out⟩
        case round =>
          clear HX
          obtain ⟨q, rfl, hq, hg, H⟩ := hrel
          have HX := Lib.hid H
          by_cases hqn : q < n1
          · have g0 : (q : Int) < (n1 : Int) := by omega
            have hql : q < m1.length := by rw [← HR.out.2.2.2.1]; exact hqn
            obtain ⟨ix, hix⟩ : ∃ i, i = (m1[q]'hql).1 := ⟨_, rfl⟩
            obtain ⟨ct, hct⟩ : ∃ i, i = (m1[q]'hql).2 := ⟨_, rfl⟩
            have O2 := H.ob
            rcases owns_shape O2 with ⟨hv0, hn0, _⟩ | ⟨g, cap, hv0, hnc, hcap, _, hgl⟩
            · have := HR.out.2.2.2.1; omega
            simp only [Value.slice.injEq] at hv0
            obtain ⟨rfl, hnn, rfl⟩ := hv0
            have en : n1 = m1.length := HR.out.2.2.2.1
            have O3 : wr.ownsRow 0 228 2 (.slice (some ⟨g, 0, none⟩) m1.length pb) m1.length (rowC m1) := by rw [← en]; rw [← en] at O2; exact O2
            have p0 : wr.cell? ⟨g, q * 2, none⟩ = some (.int .i64 (ix : Int)) := by rw [O3.cellAt _ (by omega), rowC_fst m1 q hql, hix]
            have p1 : wr.cell? ⟨g, q * 2 + 1, none⟩ = some (.int .u64 (ct : Int)) := by rw [O3.cellAt _ (by omega), rowC_snd m1 q hql, hct]
            have J2 : LxP true M num den n w bb tb vl vr ca cc Oa Oc (.slice Aa n0 pa) (.slice (some ⟨g, 0, none⟩) n1 pb) m0 m1 l0 l1 w.heap.size (w.heap.size + 1) (w.heap.size + 1 + 1) 1 wr.heap.size ix ct (wr.alloc (.cells #[.int .i64 (ix : Int), .int .u64 (ct : Int)] 228)) := ⟨H.next ((Below.refl _ _).alloc (Nat.le_refl _) _), Blk.newAt rfl⟩
            obtain ⟨rv, hrv⟩ : ∃ rv, rv = repN num den n ix := ⟨_, rfl⟩
            have hrp := fun W (k : LxP true M num den n w bb tb vl vr ca cc Oa Oc (.slice Aa n0 pa) (.slice (some ⟨g, 0, none⟩) n1 pb) m0 m1 l0 l1 w.heap.size (w.heap.size + 1) (w.heap.size + 1 + 1) 1 wr.heap.size ix ct W) => rep_same W tb vl vr num den n k.lx.bn.tab HM.out.2.2 ix
            rw [← hrv] at hrp
            have hmr := fun W => mrep tb W
            have t1 : decide ((ix : Int) < 0) = false := by first | (simp; done) | (simp; omega)
            have HJ := Lib.hid J2
            clear O2 O3 H J2 hgl hnc hcap hnn en hix hct hrv
            go_upto_region 10 with fail
            by_cases hz : rv = 0
            · have z1 : ((rv : Int) == 0) = true := by simp [hz]
              have z2 : (rv == 0) = true := by simp [hz]
              clear hz
              refine wp_region_quiet_litC (C := LxP true M num den n w bb tb vl vr ca cc Oa Oc (.slice Aa n0 pa) (.slice (some ⟨g, 0, none⟩) n1 pb) m0 m1 l0 l1 w.heap.size (w.heap.size + 1) (w.heap.size + 1 + 1) 1 wr.heap.size ix ct) (by kernel_rfl) (by kernel_rfl) (HJ.out.next (Below.refl _ _).drew) ?_
              repeat (first | go_big_quiet_skip | (go_big_quiet_want; go_big_quiet_op; first | go_big_quiet_on | (refine quiet_const ?_; go_big_quiet_on)))
              go_big_quiet_want
              refine ⟨.int .i64 (ix : Int), fun wx hx => ?_, ?_⟩
              · obtain ⟨p0, p1⟩ := hx.pc
                go_simp
              go_big_quiet_on
              simp only [Act.put, List.setIfInBounds_toArray, List.set_cons_zero, List.set_cons_succ]
              repeat (first | go_big_quiet_skip | (go_big_quiet_want; go_big_quiet_op; first | go_big_quiet_on | (refine quiet_const ?_; go_big_quiet_on)))
              go_big_quiet_want
              refine ⟨.iface 163 (.pointer (some ⟨tb, 0, none⟩)), fun wx hx => ?_, ?_⟩
              · obtain ⟨c0, c1, c2, c3, c4, c5, f3, f4, f5⟩ := bcells_H hx.lx.bn
                go_simp
              go_big_quiet_on
              simp only [Act.put, List.setIfInBounds_toArray, List.set_cons_zero, List.set_cons_succ]
              repeat (first | go_big_quiet_skip | (go_big_quiet_want; go_big_quiet_op; first | go_big_quiet_on | (refine quiet_const ?_; go_big_quiet_on)))
              go_big_quiet_want
              refine ⟨.int .i64 (ix : Int), fun wx hx => ?_, ?_⟩
              · obtain ⟨p0, p1⟩ := hx.pc
                go_simp
              go_big_quiet_on
              simp only [Act.put, List.setIfInBounds_toArray, List.set_cons_zero, List.set_cons_succ]
              repeat (first | go_big_quiet_skip | (go_big_quiet_want; go_big_quiet_op; first | go_big_quiet_on | (refine quiet_const ?_; go_big_quiet_on)))
              go_big_quiet_want
              go_big_quiet_op
              refine ⟨.int .u64 (rv : Int), fun wx hx => ?_, ?_⟩
              · exact (hrp wx hx).mono fun _ _ hm => ⟨hm.1, hm.2 ▸ hx⟩
              go_big_quiet_on
              repeat (first | go_big_quiet_skip | (go_big_quiet_want; go_big_quiet_op; first | go_big_quiet_on | (refine quiet_const ?_; go_big_quiet_on)))
              refine wpQuiet_nil ?_
              intro w5 H5
              have HF := Lib.hid (show LdBP true M num den n w bb tb vl vr m0 m1 (rowTotal m0 + l0) (rowTotal m1 + l1) z (.returned (.int .i64 1)) w5 from H5.lx.fail (by decide))
              clear H5 hrp hmr
              go_wp2_with fail
              go_ret
              exact HF.out
            · have z1 : ((rv : Int) == 0) = false := by simp [hz]
              have z2 : (rv == 0) = false := by simp [hz]
              clear hz
              refine wp_region_quiet_litC (C := LxP true M num den n w bb tb vl vr ca cc Oa Oc (.slice Aa n0 pa) (.slice (some ⟨g, 0, none⟩) n1 pb) m0 m1 l0 l1 w.heap.size (w.heap.size + 1) (w.heap.size + 1 + 1) 1 wr.heap.size ix ct) (by kernel_rfl) (by kernel_rfl) (HJ.out.next (Below.refl _ _).drew) ?_
              repeat (first | go_big_quiet_skip | (go_big_quiet_want; go_big_quiet_op; first | go_big_quiet_on | (refine quiet_const ?_; go_big_quiet_on)))
              go_big_quiet_want
              refine ⟨.int .i64 (ix : Int), fun wx hx => ?_, ?_⟩
              · obtain ⟨p0, p1⟩ := hx.pc
                go_simp
              go_big_quiet_on
              simp only [Act.put, List.setIfInBounds_toArray, List.set_cons_zero, List.set_cons_succ]
              repeat (first | go_big_quiet_skip | (go_big_quiet_want; go_big_quiet_op; first | go_big_quiet_on | (refine quiet_const ?_; go_big_quiet_on)))
              go_big_quiet_want
              refine ⟨.iface 163 (.pointer (some ⟨tb, 0, none⟩)), fun wx hx => ?_, ?_⟩
              · obtain ⟨c0, c1, c2, c3, c4, c5, f3, f4, f5⟩ := bcells_H hx.lx.bn
                go_simp
              go_big_quiet_on
              simp only [Act.put, List.setIfInBounds_toArray, List.set_cons_zero, List.set_cons_succ]
              repeat (first | go_big_quiet_skip | (go_big_quiet_want; go_big_quiet_op; first | go_big_quiet_on | (refine quiet_const ?_; go_big_quiet_on)))
              go_big_quiet_want
              refine ⟨.int .i64 (ix : Int), fun wx hx => ?_, ?_⟩
              · obtain ⟨p0, p1⟩ := hx.pc
                go_simp
              go_big_quiet_on
              simp only [Act.put, List.setIfInBounds_toArray, List.set_cons_zero, List.set_cons_succ]
              repeat (first | go_big_quiet_skip | (go_big_quiet_want; go_big_quiet_op; first | go_big_quiet_on | (refine quiet_const ?_; go_big_quiet_on)))
              go_big_quiet_want
              go_big_quiet_op
              refine ⟨.int .u64 (rv : Int), fun wx hx => ?_, ?_⟩
              · exact (hrp wx hx).mono fun _ _ hm => ⟨hm.1, hm.2 ▸ hx⟩
              go_big_quiet_on
              repeat (first | go_big_quiet_skip | (go_big_quiet_want; go_big_quiet_op; first | go_big_quiet_on | (refine quiet_const ?_; go_big_quiet_on)))
              refine wpQuiet_nil ?_
              intro w5 H5
              have HF := Lib.hid H5.lx
              clear H5 hrp hmr
              go_wp2_with fail
              go_roundg (n1 - (q + 1))
              case measure => omega
              exact ⟨q + 1, by go_num, by omega, Nat.le_refl _, HF.out⟩
          · have hqe : q = n1 := by omega
            have g0 : ¬ (q : Int) < (n1 : Int) := by omega
            have HK := H.next (Below.refl _ _).drew
            have hlo := fun W (k : LxC true M num den n w bb tb vl vr ca cc Oa Oc (.slice Aa n0 pa) (.slice Ab n1 pb) m0 m1 l0 l1 w.heap.size (w.heap.size + 1) (w.heap.size + 1 + 1) 1 W) => lload_H HM.out.1 HM.out.2.1 W (.slice Ab n1 pb) m1 l1 k.ob HR.out.2.1
            clear H hqe hqn hq hg
            go_upto_region 14 with fail
            have hl5 := hlo _ HK
            obtain ⟨c0, c1, c2, c3, c4, c5, f3, f4, f5⟩ := bcells_H HK.bn
            have x0 := HK.rows.cell (j := 1) rfl
            have y0 := HK.lost.cell (j := 1) rfl
            have H5 := Lib.hid HK
            clear hlo HK c0 c3 c4 c5 f3 f4 f5
            rename_i KK
            have FIN := Lib.hid (show ∀ (w6 : World) (v : Value) (code : Int), Below wr.drew.heap.size wr.drew w6 → (v = .nilIface ∨ ∃ T x, v = .iface T x) → (code = 0 → ∃ cb O, v = .iface 243 (.pointer (some ⟨cb, 0, none⟩)) ∧ StoQ true M m1 (rowTotal m1 + l1) w6 cb O ∧ ∀ j, O j → wr.drew.heap.size ≤ j) → w6.cell? ⟨w.heap.size + 1 + 1, 1, none⟩ = some .nilIface ∧ w6.frozen? ⟨w.heap.size + 1 + 1, 1, none⟩ = false ∧ v.cells = #[v] ∧ (Go.store ⟨w.heap.size + 1 + 1, 1, none⟩ v).run Tryz.prog w6 = .ok () (w6.setCell ⟨w.heap.size + 1 + 1, 1, none⟩ v) ∧ (w6.cell? ⟨bb, 1, none⟩ = some (.int .i64 1) ∧ w6.cell? ⟨bb, 2, none⟩ = some (.int .i64 (M : Int)) ∧ w6.cell? ⟨w.heap.size, 1, none⟩ = some (.slice Ab n1 pb) ∧ w6.cell? ⟨w.heap.size + 1, 1, none⟩ = some (.int .u64 (l1 : Int))) ∧ ((w6.setCell ⟨w.heap.size + 1 + 1, 1, none⟩ v).cell? ⟨bb, 1, none⟩ = some (.int .i64 1) ∧ (w6.setCell ⟨w.heap.size + 1 + 1, 1, none⟩ v).cell? ⟨bb, 2, none⟩ = some (.int .i64 (M : Int)) ∧ (w6.setCell ⟨w.heap.size + 1 + 1, 1, none⟩ v).cell? ⟨w.heap.size, 1, none⟩ = some (.slice Ab n1 pb) ∧ (w6.setCell ⟨w.heap.size + 1 + 1, 1, none⟩ v).cell? ⟨w.heap.size + 1, 1, none⟩ = some (.int .u64 (l1 : Int))) ∧ (code = 0 → LxC true M num den n w bb tb vl vr ca cc Oa Oc (.slice Aa n0 pa) (.slice Ab n1 pb) m0 m1 l0 l1 w.heap.size (w.heap.size + 1) (w.heap.size + 1 + 1) 2 (w6.setCell ⟨w.heap.size + 1 + 1, 1, none⟩ v)) ∧ (code ≠ 0 → LdBP true M num den n w bb tb vl vr m0 m1 (rowTotal m0 + l0) (rowTotal m1 + l1) z (.returned (.int .i64 code)) (w6.setCell ⟨w.heap.size + 1 + 1, 1, none⟩ v)) from fun w6 v code b6 hvc q6 => by
              have H6 := H5.out.next b6
              obtain ⟨s6, f6⟩ := H6.nilAt (by decide)
              have H7 := H6.poke 1 v
              refine ⟨s6, f6, by rcases hvc with rfl | ⟨T, x, rfl⟩ <;> rfl, by rcases hvc with rfl | ⟨T, x, rfl⟩ <;> simp [go_sem, s6, f6], ⟨(bcells_H H6.bn).2.1, (bcells_H H6.bn).2.2.1, H6.rows.cell rfl, H6.lost.cell rfl⟩, ⟨(bcells_H H7.bn).2.1, (bcells_H H7.bn).2.2.1, H7.rows.cell rfl, H7.lost.cell rfl⟩, fun hc => ?_, fun hc => H6.failAt hc 1 v⟩
              obtain ⟨cb, O, rfl, q7, hO7⟩ := q6 hc
              exact H5.out.put1 b6 q7 hO7)
            clear H5
            have HS0 : wr.drew.cell? ⟨bb, 1, none⟩ = some (.int .i64 1) ∧ wr.drew.cell? ⟨bb, 2, none⟩ = some (.int .i64 (M : Int)) ∧ wr.drew.cell? ⟨w.heap.size, 1, none⟩ = some (.slice Ab n1 pb) ∧ wr.drew.cell? ⟨w.heap.size + 1, 1, none⟩ = some (.int .u64 (l1 : Int)) := ⟨c1, c2, x0, y0⟩
            clear c1 c2 x0 y0
            obtain ⟨W0, hW0⟩ : ∃ W0, W0 = wr.drew := ⟨_, rfl⟩
            rw [← hW0] at HS0 FIN hl5
            obtain ⟨c1, c2, x0, y0⟩ := HS0
            refine wp_region_any (by kernel_rfl) ?_
            try (change wpAny _ _ _ _ _ _ _ (World.drew _))
            refine wpAny_take (i := 0) (v := ?_) rfl (by kernel_rfl) (by kernel_rfl) (by kernel_rfl) (fun _ _ _ h => h) (Or.inl ⟨by rfl, ?_⟩) ?_
            rotate_left
            · intro wz; go_simp; try with_reducible rfl
            refine wpAny_take (i := 1) (v := ?_) rfl (by kernel_rfl) (by kernel_rfl) (by kernel_rfl) (fun _ _ _ h => h) (Or.inl ⟨by rfl, ?_⟩) ?_
            rotate_left
            · intro wz; go_simp; try with_reducible rfl
            refine wpAny_take (i := 2) (v := ?_) rfl (by kernel_rfl) (by kernel_rfl) (by kernel_rfl) (fun _ _ _ h => h) (Or.inl ⟨by rfl, ?_⟩) ?_
            rotate_left
            · intro wz; go_simp; try with_reducible rfl
            refine wpAny_take (i := 3) (v := ?_) rfl (by kernel_rfl) (by kernel_rfl) (by kernel_rfl) (fun _ _ _ h => h) (Or.inl ⟨by rfl, ?_⟩) ?_
            rotate_left
            · intro wz; go_simp; try with_reducible rfl
            refine wpAny_take (i := 5) (v := ?_) rfl (by kernel_rfl) (by kernel_rfl) (by kernel_rfl) (fun _ _ _ h => h) (Or.inl ⟨by rfl, ?_⟩) ?_
            rotate_left
            · intro wz; go_simp; try with_reducible rfl
            refine wpAny_take (i := 6) (v := ?_) rfl (by kernel_rfl) (by kernel_rfl) (by kernel_rfl) (fun _ _ _ h => h) (Or.inl ⟨by rfl, ?_⟩) ?_
            rotate_left
            · intro wz; go_simp; try with_reducible rfl
            refine wpAny_take (i := 7) (v := ?_) rfl (by kernel_rfl) (by kernel_rfl) (by kernel_rfl) (fun _ _ _ h => h) (Or.inl ⟨by rfl, ?_⟩) ?_
            rotate_left
            · intro wz; go_simp; try with_reducible rfl
            refine wpAny_take (i := 9) (v := ?_) rfl (by kernel_rfl) (by kernel_rfl) (by kernel_rfl) (fun _ _ _ h => h) (Or.inl ⟨by rfl, ?_⟩) ?_
            rotate_left
            · intro wz; go_simp; try with_reducible rfl
            refine wpAny_take (i := 10) (v := ?_) rfl (by kernel_rfl) (by kernel_rfl) (by kernel_rfl) (fun _ _ _ h => h) (Or.inl ⟨by rfl, ?_⟩) ?_
            rotate_left
            · intro wz; go_simp; try with_reducible rfl
            refine wpAny_take (i := 12) (v := ?_) rfl (by kernel_rfl) (by kernel_rfl) (by kernel_rfl) (fun _ _ _ h => h) (Or.inl ⟨by rfl, ?_⟩) ?_
            rotate_left
            · intro wz; go_simp; try with_reducible rfl
            refine wpAny_take (i := 13) (v := ?_) rfl (by kernel_rfl) (by kernel_rfl) (by kernel_rfl) (fun _ _ _ h => h) (Or.inl ⟨by rfl, ?_⟩) ?_
            rotate_left
            · intro wz; go_simp; try with_reducible rfl
            simp only [List.getElem_toArray, List.getElem_cons_zero, List.getElem_cons_succ, Act.put, List.setIfInBounds_toArray, List.set_cons_zero, List.set_cons_succ]
            rw [← hW0]
            have hP := Lib.hid (show ∀ (w6 : World) (v : Value) (code : Int), LoadB true M m1 (rowTotal m1 + l1) W0 (.returned (.tuple #[v, .int .i64 code])) w6 → LdPost true M m1 (rowTotal m1 + l1) W0 w6 v code from fun w6 v code hh => by
              obtain ⟨v', code', e, h1, h2, h3⟩ := hh
              injection e with e
              injection e with e
              simp at e
              obtain ⟨rfl, rfl⟩ := e
              exact ⟨h1, h2, h3⟩)
            refine wpAny_acts2 (fun L θ => [(48, L 4, .int .i64 1), (52, L 8, .int .i64 (M : Int)), (55, L 11, .slice Ab n1 pb), (58, L 14, .int .u64 (l1 : Int)), (59, L 15, .tuple #[θ.1, .int .i64 θ.2]), (43, L 16, .tuple #[θ.1, .int .i64 θ.2]), (60, L 17, θ.1), (61, L 18, .int .i64 θ.2), (62, L 19, .pointer (some ⟨w.heap.size + 1 + 1, 1, none⟩)), (13, L 21, .int .i64 θ.2)]) (RgL 22 [0, 1, 2, 3, 5, 6, 7, 9, 10, 12, 13] W0 (LdPost true M m1 (rowTotal m1 + l1) W0) (w.heap.size + 1 + 1) 1 [4, 8, 11, 14] [16, 17, 18, 21] 15 20) [true, true, true, true, false, true, true, true, false, true, true, false, true, true, false, false, false, false, false, false, false, false] (.nilIface, 0) (by kernel_rfl) (by kernel_rfl) rfl (by kernel_rfl) (by kernel_rfl) ?_ ?_ ?_
            · refine ⟨fun _ => rfl, fun h => absurd h (by decide), fun h => absurd h (by decide), fun h => absurd h (by decide), fun h => absurd h (by decide), ?_, ?_⟩
              rotate_left
              · intro _ j hj
                simp only [List.mem_cons, List.not_mem_nil, or_false] at hj
                rcases hj with rfl | rfl | rfl | rfl <;> rfl
              intro j hj
              simp only [List.mem_cons, List.not_mem_nil, or_false] at hj
              rcases hj with rfl | rfl | rfl | rfl | rfl | rfl | rfl | rfl | rfl | rfl | rfl <;> rfl
            · intro L θ W hN i o hi hLi hd
              have hil : i < 22 := (List.getElem?_eq_some_iff.1 hi).1
              have ht : i ∉ [0, 1, 2, 3, 5, 6, 7, 9, 10, 12, 13] := fun hm => by have := hN.tk i hm; rw [hLi] at this; cases this
              have hcase : i = 4 ∨ i = 8 ∨ i = 11 ∨ i = 14 ∨ i = 15 ∨ i = 16 ∨ i = 17 ∨ i = 18 ∨ i = 19 ∨ i = 20 ∨ i = 21 := by
                simp only [List.mem_cons, List.not_mem_nil, or_false, not_or] at ht; omega
              have hW : ∀ k, k ∈ [4, 8, 11, 14] → L k = false → W = W0 := fun k hk hf => hN.a (by
                cases e : L 15 with
                | false => rfl
                | true => have := hN.e e k hk; rw [hf] at this; cases this)
              clear ht
              rcases hcase with rfl | rfl | rfl | rfl | rfl | rfl | rfl | rfl | rfl | rfl | rfl
              · have ho := Option.some.inj hi
                subst ho
                have e := hW 4 (by decide) hLi
                subst e
                refine wpOp_on rfl rfl (wpo_load rfl ((acts_other (by simp)).trans rfl) (v := .int .i64 1) (by simp [go_sem, c1]) ⟨θ, acts_step 0 (by simp only [hLi]; rfl) (by simp) ?_, hN.flag 4 (by decide) (by decide) (fun h => absurd h (by decide))⟩)
                rfl
              · have ho := Option.some.inj hi
                subst ho
                have e := hW 8 (by decide) hLi
                subst e
                refine wpOp_on rfl rfl (wpo_load rfl ((acts_other (by simp)).trans rfl) (v := .int .i64 (M : Int)) (by simp [go_sem, c2]) ⟨θ, acts_step 1 (by simp only [hLi]; rfl) (by simp) ?_, hN.flag 8 (by decide) (by decide) (fun h => absurd h (by decide))⟩)
                rfl
              · have ho := Option.some.inj hi
                subst ho
                have e := hW 11 (by decide) hLi
                subst e
                refine wpOp_on rfl rfl (wpo_load rfl ((acts_other (by simp)).trans rfl) (v := .slice Ab n1 pb) (by simp [go_sem, x0]) ⟨θ, acts_step 2 (by simp only [hLi]; rfl) (by simp) ?_, hN.flag 11 (by decide) (by decide) (fun h => absurd h (by decide))⟩)
                rfl
              · have ho := Option.some.inj hi
                subst ho
                have e := hW 14 (by decide) hLi
                subst e
                refine wpOp_on rfl rfl (wpo_load rfl ((acts_other (by simp)).trans rfl) (v := .int .u64 (l1 : Int)) (by simp [go_sem, y0]) ⟨θ, acts_step 3 (by simp only [hLi]; rfl) (by simp) ?_, hN.flag 14 (by decide) (by decide) (fun h => absurd h (by decide))⟩)
                rfl
              · have ho := Option.some.inj hi
                subst ho
                have e := hN.a hLi
                subst e
                have k4 : L 4 = true := hd ⟨4, .data⟩ (by simp) rfl
                have k8 : L 8 = true := hd ⟨8, .data⟩ (by simp) rfl
                have k11 : L 11 = true := hd ⟨11, .data⟩ (by simp) rfl
                have k14 : L 14 = true := hd ⟨14, .data⟩ (by simp) rfl
                refine wpOp_on rfl rfl (wpo_call1 (f := 89) rfl #[.int .i64 1, .int .i64 (M : Int), .slice Ab n1 pb, .int .u64 (l1 : Int)] ?_ (by kernel_rfl) (hl5.mono fun e w6 hh => ?_))
                · simp only [List.map_toArray, List.map_cons, List.map_nil]
                  rw [acts_eval (k := 0) (d := 48) (v := .int .i64 1) (by simp only [k4]; rfl) (by simp) (by simp), acts_eval (k := 1) (d := 52) (v := .int .i64 (M : Int)) (by simp only [k8]; rfl) (by simp) (by simp), acts_eval (k := 2) (d := 55) (v := .slice Ab n1 pb) (by simp only [k11]; rfl) (by simp) (by simp), acts_eval (k := 3) (d := 58) (v := .int .u64 (l1 : Int)) (by simp only [k14]; rfl) (by simp) (by simp)]
                · obtain ⟨v, code, rfl, hh'⟩ := hh
                  have hp := hP.out w6 v code ⟨v, code, rfl, hh'⟩
                  have f16 := hN.f hLi 16 (by decide)
                  have f17 := hN.f hLi 17 (by decide)
                  have f18 := hN.f hLi 18 (by decide)
                  have f21 := hN.f hLi 21 (by decide)
                  refine ⟨_, rfl, (v, code), (acts_put (k := 4) (by simp only [hLi]; rfl) (by simp)).trans (acts_same ?_), hN.called hLi (by decide) (fun i hi => ?_) hp⟩
                  · simp [maskT, upd, f16, f17, f18, f21]
                  · simp only [List.mem_cons, List.not_mem_nil, or_false] at hi
                    rcases hi with rfl | rfl | rfl | rfl <;> assumption
              · have ho := Option.some.inj hi
                subst ho
                have k15 : L 15 = true := hd ⟨15, .data⟩ (by simp) rfl
                refine wpOp_on rfl rfl (wpo_move rfl (acts_eval (k := 4) (by simp only [k15]; rfl) (by simp) (by simp)) ⟨θ, acts_step 5 (by simp only [hLi]; rfl) (by simp) ?_, hN.flag 16 (by decide) (by decide) (fun _ => k15)⟩)
                rfl
              · have ho := Option.some.inj hi
                subst ho
                have k16 : L 16 = true := hd ⟨16, .data⟩ (by simp) rfl
                have k15 : L 15 = true := by
                  cases e : L 15 with
                  | true => rfl
                  | false => have := hN.f e 16 (by decide); rw [k16] at this; cases this
                refine wpOp_on rfl rfl (wpo_extract rfl (acts_eval (k := 5) (by simp only [k16]; rfl) (by simp) (by simp)) rfl ⟨θ, acts_step 6 (by simp only [hLi]; rfl) (by simp) ?_, hN.flag 17 (by decide) (by decide) (fun _ => k15)⟩)
                rfl
              · have ho := Option.some.inj hi
                subst ho
                have k16 : L 16 = true := hd ⟨16, .data⟩ (by simp) rfl
                have k15 : L 15 = true := by
                  cases e : L 15 with
                  | true => rfl
                  | false => have := hN.f e 16 (by decide); rw [k16] at this; cases this
                refine wpOp_on rfl rfl (wpo_extract rfl (acts_eval (k := 5) (by simp only [k16]; rfl) (by simp) (by simp)) rfl ⟨θ, acts_step 7 (by simp only [hLi]; rfl) (by simp) ?_, hN.flag 18 (by decide) (by decide) (fun _ => k15)⟩)
                rfl
              · have ho := Option.some.inj hi
                subst ho
                refine wpOp_on rfl rfl (wpo_index rfl ((acts_other (by simp)).trans rfl) ((acts_other (by simp)).trans rfl) (v := .pointer (some ⟨w.heap.size + 1 + 1, 1, none⟩)) (by kernel_rfl) ⟨θ, acts_step 8 (by simp only [hLi]; rfl) (by simp) ?_, hN.flag 19 (by decide) (by decide) (fun h => absurd h (by decide))⟩)
                rfl
              · have ho := Option.some.inj hi
                subst ho
                have k19 : L 19 = true := hd ⟨19, .data⟩ (by simp) rfl
                have k17 : L 17 = true := hd ⟨17, .data⟩ (by simp) rfl
                have k15 : L 15 = true := hd ⟨15, .chain⟩ (by simp) rfl
                obtain ⟨p1, p2, p3⟩ := hN.b k15 hLi
                obtain ⟨s6, f6, _, hst6, _, _⟩ := FIN.out W θ.1 θ.2 p1 p2 p3
                refine wpOp_on rfl rfl (wpo_store rfl (acts_eval (k := 8) (by simp only [k19]; rfl) (by simp) (by simp)) (acts_eval (k := 6) (by simp only [k17]; rfl) (by simp) (by simp)) (w' := W.setCell ⟨w.heap.size + 1 + 1, 1, none⟩ θ.1) ?_ ⟨θ, ?_, hN.stored hLi k15 (by decide)⟩)
                · rcases p2 with e | ⟨T', x', e⟩ <;> rw [e] <;> simp [go_sem, s6, f6]
                · rfl
              · have ho := Option.some.inj hi
                subst ho
                have k18 : L 18 = true := hd ⟨18, .data⟩ (by simp) rfl
                have k15 : L 15 = true := by
                  cases e : L 15 with
                  | true => rfl
                  | false => have := hN.f e 18 (by decide); rw [k18] at this; cases this
                refine wpOp_on rfl rfl (wpo_assign rfl (acts_eval (k := 7) (by simp only [k18]; rfl) (by simp) (by simp)) ⟨θ, acts_step 9 (by simp only [hLi]; rfl) (by simp) ?_, hN.flag 21 (by decide) (by decide) (fun _ => k15)⟩)
                rfl
            · intro L θ W hN hall
              obtain ⟨v, code⟩ := θ
              obtain ⟨w6, ⟨p1, p2, p3⟩, rfl⟩ := hN.c (hall 20 (by decide))
              obtain ⟨_, _, _, _, _, _, g6, k6⟩ := FIN.out w6 v code p1 p2 p3
              have h4 := hall 4 (by decide)
              have h8 := hall 8 (by decide)
              have h11 := hall 11 (by decide)
              have h14 := hall 14 (by decide)
              have h15 := hall 15 (by decide)
              have h16 := hall 16 (by decide)
              have h17 := hall 17 (by decide)
              have h18 := hall 18 (by decide)
              have h19 := hall 19 (by decide)
              have h21 := hall 21 (by decide)
              simp only [acts, h4, h8, h11, h14, h15, h16, h17, h18, h19, h21, List.foldl_cons, List.foldl_nil, if_true, List.setIfInBounds_toArray, List.set_cons_succ, List.set_cons_zero]
              clear h4 h8 h11 h14 h15 h16 h17 h18 h19 h21 hN hall hP FIN hl5 c1 c2 x0 y0 hW0
              refine KK _ _ ?_
              by_cases hc : code = 0
              · have HN := Lib.hid (g6 hc)
                have hc1 : (code == 0) = true := by simp [hc]
                have hc2 : (code != 0) = false := by simp [hc]
                clear g6 k6 hc p1 p2 p3
                go_wp2_with fail
                go_roundg 0
                case measure => omega
                exact ⟨2, by go_num, by decide, by decide, HN.out⟩
              · have hc1 : (code == 0) = false := by simp [hc]
                have hc2 : (code != 0) = true := by simp [hc]
                have HN := Lib.hid (k6 hc)
                clear g6 k6 hc p1 p2 p3
                go_wp2_with fail
                go_ret
                exact HN.out
      · have hr2 : r = 2 := by omega
        subst hr2
        clear k0 k1
        obtain ⟨d0, d1, O0, O1, H2⟩ := H.to2
        clear H
        obtain ⟨T0, hT0⟩ : ∃ T, T = rowTotal m0 + l0 := ⟨_, rfl⟩
        obtain ⟨T1, hT1⟩ : ∃ T, T = rowTotal m1 + l1 := ⟨_, rfl⟩
        have hT3 : T0 + T1 + z ≤ 9223372036854775807 := by have := HR.out.2.2.2.2; omega
        rw [← hT0, ← hT1] at H2
        have HT := Lib.hid (And.intro hT0 hT1)
        have ht0 := fun W (k : Lx2 true M num den n w bb tb vl vr ca cc Oa Oc m0 m1 T0 T1 (w.heap.size + 1 + 1) d0 d1 O0 O1 W) => stot_H W d0 O0 m0 T0 k.s0 (by omega)
        have ht1 := fun W (k : Lx2 true M num den n w bb tb vl vr ca cc Oa Oc m0 m1 T0 T1 (w.heap.size + 1 + 1) d0 d1 O0 O1 W) => stot_H W d1 O1 m1 T1 k.s1 (by omega)
        have hm0 := fun W => mtot_H d0 W
        have hm1 := fun W => mtot_H d1 W
        have hp3 := Lib.hid (fun W b => plus3_any W b T0 T1 z hT3)
        have H3 := H2.next (Below.refl _ _).drew
        clear H2 hT0 hT1 hT3 HR
        have HH3 := Lib.hid H3
        obtain ⟨x0, x1⟩ := lx2_H H3
        clear H3
        go_upto_region 18 with fail
        rename_i KK
        go_region_with (first
          | (go_at_call 90; refine (hp3.out _ _ (by simp) (by simp) (by simp)).mono ?_; rintro e w7 ⟨rfl, rfl⟩)
          | ((with_reducible refine (ht0 _ (Hid.out (by assumption))).mono ?_); rintro e w5 ⟨rfl, b5⟩; have H5 : Hid (Lx2 true M num den n w bb tb vl vr ca cc Oa Oc m0 m1 T0 T1 (w.heap.size + 1 + 1) d0 d1 O0 O1 w5) := Lib.hid (Lx2.next (Hid.out (by assumption)) b5); obtain ⟨x50, x51⟩ := lx2_H H5.out; clear b5)
          | ((with_reducible refine (ht1 _ (Hid.out (by assumption))).mono ?_); rintro e w6 ⟨rfl, b6⟩; have H6' : Hid (Lx2 true M num den n w bb tb vl vr ca cc Oa Oc m0 m1 T0 T1 (w.heap.size + 1 + 1) d0 d1 O0 O1 w6) := Lib.hid (Lx2.next (Hid.out (by assumption)) b6); obtain ⟨x60, x61⟩ := lx2_H H6'.out; clear b6))
        all_goals (
          refine KK _ _ ?_
          have H6 : Hid (Lx2 true M num den n w bb tb vl vr ca cc Oa Oc m0 m1 T0 T1 (w.heap.size + 1 + 1) d0 d1 O0 O1 (w6.alloc (.cells #[.int .u64 (T0 : Int), .int .u64 (T1 : Int), .int .u64 (z : Int)] 23))) := Lib.hid (H6'.out.next ((Below.refl _ _).alloc (Nat.le_refl _) _))
          generalize w6.alloc (.cells #[.int .u64 (T0 : Int), .int .u64 (T1 : Int), .int .u64 (z : Int)] 23) = w9 at H6 ⊢
          clear ht0 ht1 hm0 hm1 hp3 x0 x1 x50 x51 x60 x61 H5 H6' HH3 KK
          obtain ⟨c0, c1, c2, c3, c4, c5, f3, f4, f5⟩ := bcells_H H6.out.bn
          obtain ⟨x0, x1⟩ := lx2_H H6.out
          have HF := Lib.hid (H6.out.fin HB.out.1 z)
          have hlt : bb < w.heap.size := HB.out.1
          have hne1 : bb ≠ w.heap.size + 1 + 1 := by omega
          clear H6 c0 c1 c2
          go_upto_region 21 with fail
          rename_i KK
          go_region
          all_goals (
            refine KK _ _ ?_
            go_wp2_with fail
            go_ret
            rw [← HT.out.1, ← HT.out.2]
            exact HF.out))
end Go.Proofs.YtbejdajkkoapgaaGreatDoor

