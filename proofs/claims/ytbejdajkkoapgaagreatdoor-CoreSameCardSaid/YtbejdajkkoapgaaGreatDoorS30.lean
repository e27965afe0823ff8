/-
  Several texts in one: Rk. What each proves, and on which conditions, stands at its head. Conditions: stated in each.
-/
import Derived.Test.YtbejdajkkoapgaaGreatDoorS15
/-
  Single operations of a region that draws its order: moves, extracts, loads, stores, places, calls. Conditions: stated in each.
-/
set_option linter.unusedVariables false
set_option linter.unusedSimpArgs false
set_option maxRecDepth 100000
namespace Go.Proofs.YtbejdajkkoapgaaGreatDoor
open Go.RowKit Go.Lib
section
variable {a : Act} {w : World} {K : Act → World → Prop} {Q : Exit → Act → World → Prop}
theorem wpo_move {o : Oper} {x : Operand} (ho : o.op = .move x) {v : Value} (he : a.eval x = v) (h : K (a.put o.dst v) w) : o.wp Tryz.prog a w K Q := by
  refine wp_value (v := v) (w' := w) ?_ h
  clear h
  generalize a.eval = ev at he ⊢
  simp [execOp, ho, he, go_sem]
theorem wpo_assign {o : Oper} {x : Operand} (ho : o.op = .assign x) {v : Value} (he : a.eval x = v) (h : K (a.put o.dst v) w) : o.wp Tryz.prog a w K Q := by
  refine wp_value (v := v) (w' := w) ?_ h
  clear h
  generalize a.eval = ev at he ⊢
  simp [execOp, ho, he, go_sem]
theorem wpo_extract {o : Oper} {x : Operand} {j : Nat} (ho : o.op = .extract x j) {vs : Array Value} {v : Value} (he : a.eval x = .tuple vs) (hj : vs[j]? = some v) (h : K (a.put o.dst v) w) : o.wp Tryz.prog a w K Q := by
  refine wp_value (v := v) (w' := w) ?_ h
  clear h
  generalize a.eval = ev at he ⊢
  simp [execOp, ho, he, hj, go_sem]
theorem wpo_call1 {o : Oper} {f : FuncId} {args : Array Operand} {tys : Array TypeId} (ho : o.op = .call { callee := .value (.func f), args := args, argTypes := tys }) (vs : Array Value) (hv : args.map a.eval = vs) (hent : (callFunc f vs).run Tryz.prog w = .ok (.enter f vs) w) (hc : Calls Tryz.prog f vs w fun e w' => ∃ v, e = .returned v ∧ K (a.put o.dst v) w') : o.wp Tryz.prog a w K Q := by
  unfold Oper.wp
  have hr : (execOp a.eval o).run Tryz.prog w = .ok (.enter f vs) w := by
    subst hv
    simp [execOp, ho, go_sem]
    exact hent
  rw [hr]
  refine hc.mono fun e w' hh => ?_
  obtain ⟨v, rfl, h⟩ := hh
  exact h
theorem wpo_load {o : Oper} {t : TypeId} {x : Operand} (ho : o.op = .load t x) {p : Addr} {v : Value} (he : a.eval x = .pointer (some p)) (hr : (Instr.loadAt t (.pointer (some p))).run Tryz.prog w = .ok v w) (h : K (a.put o.dst v) w) : o.wp Tryz.prog a w K Q := by
  refine wp_value (v := v) (w' := w) ?_ h
  simp [execOp, ho, he, hr]
theorem wpo_store {o : Oper} {t : TypeId} {x y : Operand} (ho : o.op = .store t x y) {p : Addr} {v : Value} {w' : World} (he : a.eval x = .pointer (some p)) (hv : a.eval y = v) (hr : (Instr.storeAt t (.pointer (some p)) v).run Tryz.prog w = .ok () w') (h : K (a.put o.dst undef) w') : o.wp Tryz.prog a w K Q := by
  refine wp_skip (w' := w') ?_ h
  simp [execOp, ho, he, hv, hr]
theorem wpo_index {o : Oper} {t : TypeId} {x y : Operand} (ho : o.op = .indexAddr t x y) {u i v : Value} (he : a.eval x = u) (hi : a.eval y = i) (hr : (Instr.indexAt t u i).run Tryz.prog w = .ok v w) (h : K (a.put o.dst v) w) : o.wp Tryz.prog a w K Q := by
  refine wp_value (v := v) (w' := w) ?_ h
  simp [execOp, ho, he, hi, hr]
/-- values of slots that have not come up do not count -/
def maskT (t : List (Nat × Bool × Value)) : List (Nat × Bool × Value) := t.map fun e => if e.2.1 then e else (e.1, false, undef)
theorem acts_mask (a0 : Act) (t : List (Nat × Bool × Value)) : acts a0 t = acts a0 (maskT t) := by
  have key : ∀ (t : List (Nat × Bool × Value)) (arr : Array Value), t.foldl (fun arr e => if e.2.1 then arr.setIfInBounds e.1 e.2.2 else arr) arr = (maskT t).foldl (fun arr e => if e.2.1 then arr.setIfInBounds e.1 e.2.2 else arr) arr := fun t => by
    induction t with
    | nil => intro arr; rfl
    | cons e t ih =>
      intro arr
      show _ = (maskT (e :: t)).foldl _ arr
      unfold maskT
      rw [List.map_cons, List.foldl_cons, List.foldl_cons]
      cases h : e.2.1 with
      | true => simp only [h, if_true]; exact ih _
      | false => simp only [Bool.false_eq_true, if_false]; exact ih _
  unfold acts
  rw [key]
theorem acts_same {a0 : Act} {t u : List (Nat × Bool × Value)} (h : maskT t = maskT u) : acts a0 t = acts a0 u := by rw [acts_mask a0 t, acts_mask a0 u, h]
/-- a region whose one call makes memory, and whose one store follows it -/
structure RgL (n : Nat) (tkn : List Nat) (W0 : World) (Post : World → Value → Int → Prop) (sb r : Nat) (lds aft : List Nat) (cal sto : Nat) (L : Nat → Bool) (θ : Value × Int) (W : World) : Prop where
  a : L cal = false → W = W0
  b : L cal = true → L sto = false → Post W θ.1 θ.2
  c : L sto = true → ∃ W', Post W' θ.1 θ.2 ∧ W = W'.setCell ⟨sb, r, none⟩ θ.1
  d : L sto = true → L cal = true
  e : L cal = true → ∀ i ∈ lds, L i = true
  tk : ∀ i ∈ tkn, L i = true
  f : L cal = false → ∀ i ∈ aft, L i = false
theorem RgL.flag {n : Nat} {tkn : List Nat} {W0 : World} {Post : World → Value → Int → Prop} {sb r : Nat} {lds aft : List Nat} {cal sto : Nat} {L : Nat → Bool} {θ : Value × Int} {W : World} (h : RgL n tkn W0 Post sb r lds aft cal sto L θ W) (i : Nat) (h1 : i ≠ cal) (h2 : i ≠ sto) (h3 : i ∈ aft → L cal = true) : RgL n tkn W0 Post sb r lds aft cal sto (upd L i) θ W := by
  have e1 : upd L i cal = L cal := upd_ne (Ne.symm h1)
  have e2 : upd L i sto = L sto := upd_ne (Ne.symm h2)
  have e3 : ∀ j, L j = true → upd L i j = true := fun j hj => by unfold upd; split <;> simp_all
  refine ⟨fun k => h.a (e1 ▸ k), fun k l => h.b (e1 ▸ k) (e2 ▸ l), fun k => h.c (e2 ▸ k), fun k => e1.trans (h.d (e2 ▸ k)), fun k j hj => e3 j (h.e (e1 ▸ k) j hj), fun j hj => e3 j (h.tk j hj), fun k j hj => by
    by_cases hji : j = i
    · subst hji; rw [e1, h3 hj] at k; cases k
    · rw [upd_ne hji]; exact h.f (e1 ▸ k) j hj⟩
theorem RgL.called {n : Nat} {tkn : List Nat} {W0 : World} {Post : World → Value → Int → Prop} {sb r : Nat} {lds aft : List Nat} {cal sto : Nat} {L : Nat → Bool} {θ : Value × Int} {W W' : World} (h : RgL n tkn W0 Post sb r lds aft cal sto L θ W) (hc : L cal = false) (hne : sto ≠ cal) (hl : ∀ i ∈ lds, L i = true) {v : Value} {c : Int} (p : Post W' v c) : RgL n tkn W0 Post sb r lds aft cal sto (upd L cal) (v, c) W' := by
  have e2 : upd L cal sto = L sto := upd_ne hne
  have hs : L sto = false := by cases e : L sto with
    | false => rfl
    | true => have := h.d e; rw [hc] at this; cases this
  have e3 : ∀ j, L j = true → upd L cal j = true := fun j hj => by unfold upd; split <;> simp_all
  exact ⟨fun k => (by rw [upd_self] at k; cases k), fun _ _ => p, fun k => (by rw [e2, hs] at k; cases k), fun k => upd_self _ _, fun _ j hj => e3 j (hl j hj), fun j hj => e3 j (h.tk j hj), fun k => (by rw [upd_self] at k; cases k)⟩
theorem RgL.stored {n : Nat} {tkn : List Nat} {W0 : World} {Post : World → Value → Int → Prop} {sb r : Nat} {lds aft : List Nat} {cal sto : Nat} {L : Nat → Bool} {θ : Value × Int} {W : World} (h : RgL n tkn W0 Post sb r lds aft cal sto L θ W) (hs : L sto = false) (hc : L cal = true) (hne : sto ≠ cal) : RgL n tkn W0 Post sb r lds aft cal sto (upd L sto) θ (W.setCell ⟨sb, r, none⟩ θ.1) := by
  have e1 : upd L sto cal = L cal := upd_ne (Ne.symm hne)
  have e3 : ∀ j, L j = true → upd L sto j = true := fun j hj => by unfold upd; split <;> simp_all
  exact ⟨fun k => (by rw [e1, hc] at k; cases k), fun _ k => (by rw [upd_self] at k; cases k), fun _ => ⟨W, h.b hc hs, rfl⟩, fun _ => e1.trans hc, fun _ j hj => e3 j (h.e hc j hj), fun j hj => e3 j (h.tk j hj), fun k => (by rw [e1, hc] at k; cases k)⟩
end
end Go.Proofs.YtbejdajkkoapgaaGreatDoor

