/-
  Several texts in one: J14, Lt. What each proves, and on which conditions, stands at its head. Conditions: stated in each.
-/
import Derived.Test.YtbejdajkkoapgaaGreatDoorS13
import Derived.Test.YtbejdajkkoapgaaGreatDoorS12
import Derived.Test.YtbejdajkkoapgaaGreatDoorS08
import Derived.Test.YtbejdajkkoapgaaGreatDoorS05
/-
  Several texts in one: Rp, Gt. What each proves, and on which conditions, stands at its head. Conditions: stated in each.
-/
/-
  Contracts of package runs: Put, Get. Conditions: the row rises, its counts are at least one and small.
-/
set_option linter.unusedVariables false
set_option linter.unusedSimpArgs false
set_option maxRecDepth 100000
namespace Go.Proofs.YtbejdajkkoapgaaGreatDoor
open Go.RowKit Go.Lib

theorem QuO.drew {B : Nat} {w : World} {qb : Nat} {v : Value} {out : List UInt8} (h : QuO B w qb v out) : QuO B w.drew qb v out := ⟨h.blk, h.own, h.base⟩
theorem NaS.drew {B : Nat} {w : World} {qb : Nat} {A : Option Addr} {c : Nat} {out : List UInt8} {wr : World} (h : NaS B w qb A c out wr) : NaS B w qb A c out wr.drew := ⟨h.qu.drew, h.below.drew, h.keep⟩
theorem zigN_nat (x : Nat) : zigN (x : Int) = 2 * x := by unfold zigN; have := Sg.zigF_or (x : Int); omega
theorem ixAt_get (l : Row) (i : Nat) (h : i < l.length) : ixAt l i = (l[i]'h).1 := by unfold ixAt; rw [List.getD_eq_getElem?_getD, List.getElem?_eq_getElem h]; rfl
theorem ctAt_get (l : Row) (i : Nat) (h : i < l.length) : ctAt l i = (l[i]'h).2 := by unfold ctAt; rw [List.getD_eq_getElem?_getD, List.getElem?_eq_getElem h]; rfl
/-- the row's cells, by its block -/
theorem row_cell {w W : World} {B g n cap : Nat} {l : Row} {cur : Array Value} (h : w.ownsRow B 228 2 (.slice (some ⟨g, 0, none⟩) n cap) l.length (rowC l)) (hc : Blk w g cur 228) (hW : Blk W g cur 228) (i : Nat) (hi : i < l.length) :
    W.cell? ⟨g, i * 2, none⟩ = some (.int .i64 (ixAt l i : Int)) ∧ W.cell? ⟨g, i * 2 + 1, none⟩ = some (.int .u64 (ctAt l i : Int)) := by
  have e : ∀ j, W.cell? ⟨g, j, none⟩ = w.cell? ⟨g, j, none⟩ := fun j => by rw [cell_of_row w g j cur 228 (0, 0) hc, cell_of_row W g j cur 228 (0, 0) hW]
  have hl := h.1
  rcases owns_shape h with ⟨h0, hn, _⟩ | ⟨g', cap', hv, _⟩
  · omega
  · simp only [Value.slice.injEq, Option.some.injEq, Addr.mk.injEq] at hv
    obtain ⟨⟨rfl, _⟩, rfl, rfl⟩ := hv
    rw [e, e, h.cellAt _ (by omega), h.cellAt _ (by omega), ixAt_get l i hi, ctAt_get l i hi]
    exact ⟨rowC_fst l i hi, rowC_snd l i hi⟩

set_option maxHeartbeats 4000000 in
theorem put_any (B : Nat) (w : World) (qb : Nat) (A : Option Addr) (c1 : Nat) (out : List UInt8) (v : Value) (B2 : Nat) (l : Row) (h : QuO B w qb (.slice A out.length c1) out) (hB : B ≤ w.heap.size) (ho : w.ownsRow B2 228 2 v l.length (rowC l))
    (hl : l.length ≤ 4096) (hr : Rising l) (hx : ∀ x ∈ l, x.1 < 9000000000000000000 ∧ x.2 < 18446744073709551616) (hout : out.length ≤ 100000) :
    Calls Tryz.prog 228 #[.pointer (some ⟨qb, 0, none⟩), v] w fun e w' => e = .returned (.tuple #[]) ∧ ∃ A' c', NaS B w qb A' c' (out ++ rowB l) w' := by
  obtain ⟨Av, cv, hv⟩ := owns_slice ho
  subst hv
  obtain ⟨m, hm⟩ : ∃ m, m = l.length := ⟨_, rfl⟩
  have HM := Lib.hid hm
  rw [← hm] at hl ho ⊢
  have S0 := NaS.start h
  have c1 := qu_nat B (w.alloc (.cells (u64C [m]) 23)) qb w.heap.size 1 A c1 out [m] (h.alloc _) (by simp; omega) (Blk.newAt rfl) (by simp; omega) (by have := natB_len10 m (by omega); simp; omega) (by simp)
  have HX := Lib.hid hx
  have HR := Lib.hid hr
  clear hm hx hr
  go_enter Tryz.func228, Tryz.ntmps228
  go_wp2_with fail
  refine c1.mono ?_
  rintro e w1 ⟨rfl, A1, k1, S1⟩
  clear c1
  have S1 := (S0.alloc hB (.cells (u64C [m]) 23)).trans S1
  have hnl := natB_len10 m (by omega)
  simp only [List.flatMap_cons, List.flatMap_nil, List.append_nil] at S1
  go_wp2_with fail
  go_loopg [4, 5, 14] m (fun g _ _ i wr => ∃ (q : Nat) (A : Option Addr) (c : Nat) (pr : List UInt8), i = .int .i64 (q : Int) ∧ q ≤ m ∧ m - q ≤ g ∧ pr = out ++ natB m ++ itemsB l q ∧ pr.length ≤ 100010 + 20 * q ∧ NaS B w qb A c pr wr)
  case atStart => exact ⟨0, A1, k1, _, rfl, Nat.zero_le _, Nat.le_refl _, by rw [itemsB_zero, List.append_nil], by rw [List.length_append]; omega, S1⟩
  case round =>
    clear S1 S0 h
    obtain ⟨q, A, c, pr, rfl, hq, hg, hpr, hprl, S⟩ := hrel
    by_cases hql : q < m
    · have hqn : q < l.length := by rw [← HM.out]; exact hql
      have g1 : (q : Int) < (m : Int) := by omega
      rcases owns_shape ho with ⟨h0, hn, _⟩ | ⟨g, cap, hv, _, _, _, hgl⟩
      · omega
      simp only [Value.slice.injEq, true_and] at hv
      obtain ⟨rfl, rfl⟩ := hv
      obtain ⟨cur, hcur⟩ := owns_blk ho rfl
      have hcells : ∀ W, NaS B w qb A c pr W → ∀ i, i < m → W.cell? ⟨g, i * 2, none⟩ = some (.int .i64 (ixAt l i : Int)) ∧ W.cell? ⟨g, i * 2 + 1, none⟩ = some (.int .u64 (ctAt l i : Int)) := fun W hW i hi =>
        row_cell (by rw [HM.out] at ho; exact ho) hcur (hW.keep g cur 228 (by decide) (by decide) hcur) i (by rw [← HM.out]; exact hi)
      have hx1 := HX.out _ (List.getElem_mem hqn)
      rw [← ixAt_get l q hqn, ← ctAt_get l q hqn] at hx1
      have hit : itemsB l (q + 1) = itemsB l q ++ natB (stepN l q) ++ natB (ctAt l q) := by rw [itemsB_succ]; simp [itemB]
      obtain ⟨c0, c1⟩ := hcells wr S q hql
      have SX := S.alloc hB (.cells #[.int .i64 (ixAt l q : Int), .int .u64 (ctAt l q : Int)] 228)
      have hBr : B ≤ (wr.alloc (.cells #[.int .i64 (ixAt l q : Int), .int .u64 (ctAt l q : Int)] 228)).heap.size := Nat.le_trans hB SX.below.size
      have PB : Blk (wr.alloc (.cells #[.int .i64 (ixAt l q : Int), .int .u64 (ctAt l q : Int)] 228)) wr.heap.size #[.int .i64 (ixAt l q : Int), .int .u64 (ctAt l q : Int)] 228 := Blk.newAt rfl
      have p0 : (wr.alloc (.cells #[.int .i64 (ixAt l q : Int), .int .u64 (ctAt l q : Int)] 228)).cell? ⟨wr.heap.size, 0, none⟩ = some (.int .i64 (ixAt l q : Int)) := PB.cell rfl
      have hnc := natB_len10 (ctAt l q) hx1.2
      have hpr2 : pr.length ≤ 200000 := by omega
      have FIN : ∀ (B' : Nat) (w2 : World) (A2 : Option Addr) (k2 : Nat) (n : Nat), n = stepN l q → n < 18446744073709551616 → NaS B w qb A2 k2 (pr ++ natB n) w2 → 
          ∀ w3 A3 k3, NaS B (w2.alloc (.cells (u64C [ctAt l q]) 23)) qb A3 k3 (pr ++ natB n ++ [ctAt l q].flatMap natB) w3 →
          ∃ (q' : Nat) (A : Option Addr) (c : Nat) (pr : List UInt8), Value.int IntKind.i64 ((q : Int) + 1) = .int .i64 (q' : Int) ∧ q' ≤ m ∧ m - q' ≤ m - (q + 1) ∧ pr = out ++ natB m ++ itemsB l q' ∧ pr.length ≤ 100010 + 20 * q' ∧ NaS B w qb A c pr w3 := fun B' w2 A2 k2 n hn hns S2 w3 A3 k3 S3 => by
        have hns2 := natB_len10 n hns
        refine ⟨q + 1, A3, k3, pr ++ natB n ++ natB (ctAt l q), by go_num, by omega, by omega, ?_, ?_, ?_⟩
        · rw [hit, hpr, hn]; simp only [List.append_assoc]
        · simp only [List.length_append]; omega
        · simp only [List.flatMap_cons, List.flatMap_nil, List.append_nil] at S3
          exact (S2.alloc hB _).trans S3
      have HF := Lib.hid FIN
      clear FIN hit hpr hprl
      by_cases hq0 : q = 0
      · subst hq0
        have hix : ixAt l 0 < 9000000000000000000 := hx1.1
        have c2 := qu_int B ((wr.alloc (.cells #[.int .i64 (ixAt l 0 : Int), .int .u64 (ctAt l 0 : Int)] 228)).alloc (.cells (i64C [(ixAt l 0 : Int)]) 2)) qb (wr.heap.size + 1) 1 A c pr [(ixAt l 0 : Int)] (SX.qu.alloc _) (by simp at hBr ⊢; omega) (Blk.newAt (by simp)) (by simp; omega) (by simp; omega) (by simp)
        have hst : 2 * ixAt l 0 = stepN l 0 := by unfold stepN; rfl
        have hi0 : intsB [(ixAt l 0 : Int)] = natB (2 * ixAt l 0) := by simp [intsB, zigN_nat]
        rw [hi0] at c2
        have HS := Lib.hid hst
        go_wp2_with fail
        refine c2.mono ?_
        rintro e w2 ⟨rfl, A2, k2, S2⟩
        clear c2 hst hi0
        have PB2 := S2.keep wr.heap.size _ 228 (by decide) (by decide) (PB.alloc _)
        have S2' := (SX.alloc hB (.cells (i64C [(ixAt l 0 : Int)]) 2)).trans S2
        have p1 : w2.cell? ⟨wr.heap.size, 1, none⟩ = some (.int .u64 (ctAt l 0 : Int)) := PB2.cell rfl
        have hns : 2 * ixAt l 0 < 18446744073709551616 := by omega
        have hns2 := natB_len10 _ hns
        have c3 := qu_nat B (w2.alloc (.cells (u64C [ctAt l 0]) 23)) qb w2.heap.size 1 A2 k2 _ [ctAt l 0] (S2'.qu.alloc _) (by have := S2'.below.size; simp; omega) (Blk.newAt rfl) (by simp; omega) (by simp; omega) (by simp)
        go_wp2_with fail
        refine c3.mono ?_
        rintro e w3 ⟨rfl, A3, k3, S3⟩
        clear c3
        go_wp2_with fail
        go_roundg (m - (0 + 1))
        case measure => omega
        exact HF.out B w2 A2 k2 _ HS.out hns S2' w3 A3 k3 S3
      · obtain ⟨r, rfl⟩ : ∃ r, q = r + 1 := ⟨q - 1, by omega⟩
        have hrn : r < l.length := by omega
        have hlt := rising_lt HR.out hrn hqn (Nat.lt_succ_self r)
        rw [← ixAt_get l r hrn, ← ixAt_get l (r + 1) hqn] at hlt
        have hst : ixAt l (r + 1) - ixAt l r - 1 = stepN l (r + 1) := by unfold stepN; rw [if_neg (by omega)]; rfl
        obtain ⟨X, hX⟩ : ∃ X, X = ixAt l (r + 1) := ⟨_, rfl⟩
        obtain ⟨Y, hY⟩ : ∃ Y, Y = ixAt l r := ⟨_, rfl⟩
        obtain ⟨n, hn⟩ : ∃ n, n = X - Y - 1 := ⟨_, rfl⟩
        rw [← hX, ← hY, ← hn] at hst
        rw [← hX, ← hY] at hlt
        rw [← hX] at hx1
        have hXl : X < 9000000000000000000 := hx1.1
        have hYX : Y < X := hlt
        have hnI : (X : Int) - (Y : Int) - 1 = (n : Int) := by omega
        have hns : n < 18446744073709551616 := by omega
        have hns2 := natB_len10 _ hns
        rw [← hX] at SX PB p0 c0 hBr
        have SD : NaS B w qb A c pr (wr.alloc (.cells #[.int .i64 (X : Int), .int .u64 (ctAt l (r + 1) : Int)] 228)).drew := SX.drew
        have c2 := qu_nat B ((wr.alloc (.cells #[.int .i64 (X : Int), .int .u64 (ctAt l (r + 1) : Int)] 228)).alloc (.cells (u64C [n]) 23)).drew qb (wr.heap.size + 1) 1 A c pr [n] (SX.alloc hB _).drew.qu (by simp at hBr ⊢; omega) (Blk.newAt (by simp)) (by simp; omega) (by simp; omega) (by simp)
        obtain ⟨d0, d1⟩ := hcells _ SX r (by omega)
        rw [← hY] at d0
        clear d1
        have HS := Lib.hid (And.intro hst (And.intro hX hcells))
        clear hst hX hY hn hcells
        go_upto_region 6 with fail
        have f1 : (r : Int) < (m : Int) := by omega
        have f2 : r < m := by omega
        have f3 : (0 : Int) ≤ (r : Int) := by omega
        have f4 : IntKind.i64.wrap (r : Int) = (r : Int) := by rw [IntKind.wrap_i64]; omega
        have f5 : IntKind.u64.wrap (X : Int) = (X : Int) := by rw [IntKind.wrap_u64]; omega
        have f6 : IntKind.u64.wrap (Y : Int) = (Y : Int) := by rw [IntKind.wrap_u64]; omega
        have f7 : IntKind.u64.wrap ((X : Int) - (Y : Int)) = (X : Int) - (Y : Int) := by rw [IntKind.wrap_u64]; omega
        have f8 : IntKind.u64.wrap (n : Int) = (n : Int) := by rw [IntKind.wrap_u64]; omega
        go_region_with (go_at_call 62; refine c2.mono ?_; rintro e w2 ⟨rfl, A2, k2, S2⟩)
        all_goals (
          clear c2
          have PB2 := S2.keep wr.heap.size _ 228 (by decide) (by decide) (PB.alloc _)
          have S2' := (SX.alloc hB (.cells (u64C [n]) 23)).drew.trans S2
          have p1 : w2.cell? ⟨wr.heap.size, 1, none⟩ = some (.int .u64 (ctAt l (r + 1) : Int)) := PB2.cell rfl
          simp only [List.flatMap_cons, List.flatMap_nil, List.append_nil] at S2'
          have c3 := qu_nat B (w2.alloc (.cells (u64C [ctAt l (r + 1)]) 23)) qb w2.heap.size 1 A2 k2 _ [ctAt l (r + 1)] (S2'.qu.alloc _) (by have := S2'.below.size; simp; omega) (Blk.newAt rfl) (by simp; omega) (by simp; omega) (by simp)
          go_wp2_with fail
          refine c3.mono ?_
          rintro e w3 ⟨rfl, A3, k3, S3⟩
          clear c3
          go_wp2_with fail
          go_roundg (m - (r + 1 + 1))
          case measure => omega
          exact HF.out B w2 A2 k2 _ HS.out.1 hns S2' w3 A3 k3 S3)
    · have hqe : q = m := by omega
      have hLT : ¬ (q : Int) < (m : Int) := by omega
      have HS := Lib.hid S
      have he : pr = out ++ rowB l := by rw [hpr, hqe, HM.out]; simp [rowB]
      have HE := Lib.hid he
      clear S hqe hq hql he hpr
      go_wp2
      go_end0
      have S := HS.out
      rw [HE.out] at S
      exact ⟨rfl, _, _, S⟩
end Go.Proofs.YtbejdajkkoapgaaGreatDoor

/-
  Contract of runs.Get. Conditions: the text starts with a row that Put wrote.
-/
set_option linter.unusedVariables false
set_option linter.unusedSimpArgs false
set_option maxRecDepth 100000
namespace Go.Proofs.YtbejdajkkoapgaaGreatDoor
open Go.RowKit Go.Lib

theorem Away.then_below {F : Nat → Prop} {w W w1 : World} (h : Away F w W) (k : Below w.heap.size W w1) : Away F w w1 :=
  ⟨k.os.trans h.os, k.tape.trans h.tape, k.output.trans h.output, Nat.le_trans h.size k.size, fun i hi hn => (k.block i hi).trans (h.block i hi hn)⟩
/-- what Get has read so far -/
structure GeS (w : World) (eb : Nat) (s : List UInt8) (A : Option Addr) (q c : Nat) (lq : Row) (wr : World) : Prop where
  own : wr.ownsRow w.heap.size 228 2 (.slice A q c) q (rowC lq)
  eye : EyO wr eb s
  away : Away (fun k => k = eb) w wr
  lt : eb < w.heap.size
theorem GeS.alloc {w : World} {eb : Nat} {s : List UInt8} {A : Option Addr} {q c : Nat} {lq : Row} {wr : World} (h : GeS w eb s A q c lq wr) (o : Obj) : GeS w eb s A q c lq (wr.alloc o) :=
  ⟨owns_below h.own ((Below.refl wr.heap.size wr).alloc (Nat.le_refl _) o) fun g hg => (h.own.lt g hg).2, Blk.alloc h.eye o, h.away.alloc o, h.lt⟩
theorem GeS.look {w : World} {eb : Nat} {s s' : List UInt8} {A : Option Addr} {q c : Nat} {lq : Row} {wr w2 : World} (h : GeS w eb s A q c lq wr) (e : EyO w2 eb s') (a : Away (fun k => k = eb) wr w2) : GeS w eb s' A q c lq w2 :=
  ⟨owns_away h.own a fun g hg e => by have := (h.own.lt g hg).1; have := h.lt; omega, e, h.away.trans' a (fun _ _ h => h) (fun _ _ h => h), h.lt⟩
theorem GeS.set {w : World} {eb : Nat} {s : List UInt8} {A : Option Addr} {q c : Nat} {lq : Row} {wr : World} (h : GeS w eb s A q c lq wr) (pb j : Nat) (u : Value) (hn : (Value.slice A q c).ownBlock ≠ some pb) (hp : w.heap.size ≤ pb) : GeS w eb s A q c lq (wr.setCell ⟨pb, j, none⟩ u) :=
  ⟨owns_other h.own _ _ hn, Blk.other h.eye _ _ (by have := h.lt; show eb ≠ pb; omega), h.away.setCell _ _ (.inr hp), h.lt⟩

theorem wpList_pair {ops : Array Oper} {rest : List Oper} {o : Oper} {a : Act} {Q : Exit → Act → World → Prop} (hgd : o.guard = none) (s x : Operand) (ho : o.op = .call { callee := .builtin .append, args := #[s, x], argTypes := #[113, 113] })
    {w : World} {eb : Nat} {t : List UInt8} {A : Option Addr} {q c : Nat} {lq : Row} {W : World} (S : GeS w eb t A q c lq W) (hlen : q ≤ 100000) (X C : Nat) (hs : a.eval s = .slice A q c) (hx : a.eval x = .slice (some ⟨W.heap.size, 0, none⟩) 1 1)
    (h : ∀ A' c' w1, GeS w eb t A' (q + 1) c' (lq ++ [(X, C)]) w1 → wpList Tryz.prog ops Q rest (a.put o.dst (.slice A' (q + 1) c')) w1) :
    wpList Tryz.prog ops Q (o :: rest) a (W.alloc (.cells #[.int .i64 (X : Int), .int .u64 (C : Int)] 228)) := by
  obtain ⟨i0, hi, hz0, hz1, hz2⟩ := info_parts info228
  have hsz := S.away.size
  refine wpList_append_own _ hgd s x 113 ho w.heap.size 228 i0 _ 2 16 Tryz.underlying113 hi hz0 hz1 hz2 rfl (by decide) _ _ _ hs (S.alloc _).own _ 1 1 [.int .i64 (X : Int), .int .u64 (C : Int)] hx rfl ?_ ?_ (by unfold maxLen; omega) (by omega) (by simp; omega) ?_
  · intro j y hj
    rw [Addr.add_lit, Nat.zero_add]
    exact (Blk.newAt rfl).cell (by simpa using hj)
  · intro y hy; simp at hy; rcases hy with rfl | rfl <;> rfl
  intro v' w1 hown hgrow _
  obtain ⟨A', c', hv⟩ := owns_slice hown
  subst hv
  refine h A' c' w1 ⟨by rw [rowC_append]; exact hown, ?_, ?_, S.lt⟩
  · exact (hgrow.block eb (Nat.lt_of_lt_of_le S.lt (by simp; omega)) (fun e => by have := (S.own.lt eb e.symm).1; have := S.lt; omega)).trans (Blk.alloc S.eye _)
  · exact (S.away.alloc _).then_below ((Below.refl w.heap.size _).grown hgrow (by simp; omega) (fun k hk => (S.own.lt k hk).1))

theorem stepN_le (l : Row) (i : Nat) (h : i < l.length) : stepN l i ≤ 2 * ixAt l 0 + ixAt l i := by unfold stepN; split <;> omega
theorem leftB_len (l : Row) (h : ∀ i, i < l.length → stepN l i < 18446744073709551616 ∧ ctAt l i < 18446744073709551616) : ∀ n k, l.length - k = n → k ≤ l.length → (leftB l k).length ≤ 20 * n
  | 0, k, hn, hk => by rw [show k = l.length from by omega, leftB_all]; simp
  | n + 1, k, hn, hk => by
    have ih := leftB_len l h n (k + 1) (by omega) (by omega)
    obtain ⟨h2, h3⟩ := h k (by omega)
    have a := natB_len10 _ h2
    have b := natB_len10 _ h3
    rw [leftB_step l k (by omega)]
    unfold itemB
    simp only [List.length_append]
    omega
theorem get_any (w : World) (eb M : Nat) (l : Row) (rest : List UInt8) (h : EyO w eb (rowB l ++ rest)) (hl : l.length ≤ M) (hM : M ≤ 100000) (hr : Rising l) (hx : ∀ x ∈ l, x.1 < 4000000000000000000 ∧ 1 ≤ x.2 ∧ x.2 < 9223372036854775808) (hrest : rest.length ≤ 1000000) :
    Calls Tryz.prog 73 #[.pointer (some ⟨eb, 0, none⟩), .int .i64 (M : Int)] w fun e w' => ∃ v, e = .returned v ∧ w'.ownsRow w.heap.size 228 2 v l.length (rowC l) ∧ EyO w' eb rest ∧ Away (fun k => k = eb) w w' := by
  obtain ⟨m, hm⟩ : ∃ m, m = l.length := ⟨_, rfl⟩
  have HM := Lib.hid hm
  have hnm := natB_len10 m (by omega)
  have hst : ∀ k, k ≤ l.length → (leftB l k).length ≤ 20 * (l.length - k) := fun k hk => leftB_len l (fun i hi => by
    have hx1 := hx _ (List.getElem_mem hi)
    have := stepN_le l i hi
    rw [← ctAt_get l i hi, ← ixAt_get l i hi] at hx1
    have := hx _ (List.getElem_mem (show 0 < l.length by omega))
    rw [← ixAt_get l 0 (by omega)] at this
    omega) _ k rfl hk
  have e0 : rowB l ++ rest = natB m ++ (leftB l 0 ++ rest) := by rw [hm, leftB_zero]; simp [rowB]
  rw [e0] at h
  have c1 := eye_small w eb m M (leftB l 0 ++ rest) h (by omega) (by omega) (by have := hst 0 (by omega); simp only [List.length_append]; omega)
  have HR := Lib.hid hr
  have HX := Lib.hid hx
  have hlt := h.lt
  have HST := Lib.hid hst
  rw [← hm] at hl ⊢
  clear e0 hr hx hm hst
  go_enter Tryz.func73, Tryz.ntmps73
  go_wp2_with fail
  refine c1.mono ?_
  rintro e w1 ⟨rfl, E1, A1⟩
  clear c1
  have S1 : GeS w eb (leftB l 0 ++ rest) none 0 0 [] w1 := ⟨World.ownsRow_nil _ _ _ _, E1, A1, hlt⟩
  clear E1 A1 h
  go_wp2_with fail
  go_loopg [5, 6, 7, 8, 12] m (fun g row _ _ _ i wr => ∃ (q : Nat) (A : Option Addr) (c : Nat), i = .int .i64 (q : Int) ∧ row = .slice A q c ∧ q ≤ m ∧ m - q ≤ g ∧ GeS w eb (leftB l q ++ rest) A q c (l.take q) wr)
  case atStart => exact ⟨0, none, 0, rfl, rfl, Nat.zero_le _, Nat.le_refl _, by simpa using S1⟩
  case round =>
    clear S1
    obtain ⟨q, A, c, rfl, rfl, hq, hg, S⟩ := hrel
    by_cases hql : q < m
    · have hqn : q < l.length := by rw [← HM.out]; exact hql
      have g1 : (q : Int) < (m : Int) := by omega
      have hx1 := HX.out _ (List.getElem_mem hqn)
      rw [← ixAt_get l q hqn, ← ctAt_get l q hqn] at hx1
      have htk : l.take (q + 1) = l.take q ++ [(ixAt l q, ctAt l q)] := by rw [List.take_succ_eq_append_getElem hqn, ixAt_get l q hqn, ctAt_get l q hqn]
      have hle := HST.out (q + 1) (by omega)
      have hlen2 : (leftB l (q + 1) ++ rest).length ≤ 3000000 := by rw [List.length_append]; have := HM.out; omega
      have hls : leftB l q ++ rest = natB (stepN l q) ++ (natB (ctAt l q) ++ (leftB l (q + 1) ++ rest)) := by rw [leftB_step l q hqn]; simp [itemB]
      rw [hls] at S
      have HT := Lib.hid htk
      obtain ⟨X, hX⟩ : ∃ X, X = ixAt l q := ⟨_, rfl⟩
      obtain ⟨C, hC⟩ : ∃ C, C = ctAt l q := ⟨_, rfl⟩
      rw [← hX, ← hC] at HT hx1
      rw [← hC] at S
      generalize hr2 : leftB l (q + 1) ++ rest = r2 at *
      have HR2 := Lib.hid hr2
      clear hr2
      obtain ⟨hx1a, hx1b, hx1c⟩ := hx1
      have hnc := natB_len10 C (by omega)
      have S2 := S.alloc (.cells #[.int .i64 0, .int .u64 0] 228)
      have PB : Blk (wr.alloc (.cells #[.int .i64 0, .int .u64 0] 228)) wr.heap.size #[.int .i64 0, .int .u64 0] 228 := Blk.newAt rfl
      have hpn : (Value.slice A q c).ownBlock ≠ some wr.heap.size := fun e => by have := (S.own.lt _ e).2; omega
      have hps : w.heap.size ≤ wr.heap.size := S.away.size
      have hpe : wr.heap.size ≠ eb := by have := S.lt; omega
      by_cases hq0 : q = 0
      · subst hq0
        have hst0 : stepN l 0 = zigN (X : Int) := by rw [zigN_nat]; unfold stepN; rw [if_pos rfl, hX]
        rw [hst0] at S2 S
        clear hX hC hst0
        have c2 := eye_int _ eb (X : Int) _ S2.eye (by omega) (by simp only [List.length_append]; omega)
        go_wp2_with fail
        refine c2.mono ?_
        rintro e w2 ⟨rfl, E2, A2⟩
        have P2 := PB.away A2 hpe
        have S3 := (S2.look E2 A2).set wr.heap.size 0 (.int .i64 (X : Int)) hpn hps
        have p0 : w2.cell? ⟨wr.heap.size, 0, none⟩ = some (.int .i64 0) := P2.cell rfl
        have pf := P2.frozen 0
        have P3 := P2.set 0 (.int .i64 (X : Int))
        clear c2
        have c3 := eye_count _ eb C r2 S3.eye hx1b hx1c (by omega)
        go_wp2_with fail
        refine c3.mono ?_
        rintro e w3 ⟨rfl, E3, A3⟩
        clear c3
        have P4 := P3.away A3 hpe
        have S4 := (S3.look E3 A3).set wr.heap.size 1 (.int .u64 (C : Int)) hpn hps
        have p4 : w3.cell? ⟨wr.heap.size, 1, none⟩ = some (.int .u64 0) := P4.cell rfl
        have pf4 := P4.frozen 1
        have P5 := P4.set 1 (.int .u64 (C : Int))
        have c4 := eye_bad _ eb _ S4.eye
        go_wp2_with fail
        refine c4.mono ?_
        rintro e w4 ⟨rfl, rfl⟩
        clear c4
        have p5 : (w3.setCell ⟨wr.heap.size, 1, none⟩ (.int .u64 (C : Int))).cell? ⟨wr.heap.size, 0, none⟩ = some (.int .i64 (X : Int)) := P5.cell rfl
        have p6 : (w3.setCell ⟨wr.heap.size, 1, none⟩ (.int .u64 (C : Int))).cell? ⟨wr.heap.size, 1, none⟩ = some (.int .u64 (C : Int)) := P5.cell rfl
        generalize w3.setCell ⟨wr.heap.size, 1, none⟩ (.int .u64 (C : Int)) = W at *
        have SH := Lib.hid S4
        clear S S2 S3 S4 P2 P3 P4 P5 PB A2 A3 E2 E3 p0 pf p4 pf4
        go_wp2_with (at_builtin; refine wpList_pair rfl _ _ rfl SH.out (by omega) X C rfl rfl ?_)
        intro A5 c5 w5 S5
        have SH5 := Lib.hid S5
        clear S5
        go_wp2
        go_roundg (m - (0 + 1))
        case measure => omega
        exact ⟨0 + 1, A5, c5, by go_num, rfl, by omega, by omega, by rw [HT.out, HR2.out]; simpa using SH5.out⟩
      · obtain ⟨r, rfl⟩ : ∃ r, q = r + 1 := ⟨q - 1, by omega⟩
        have hrn : r < l.length := by omega
        have hlt2 := rising_lt HR.out hrn hqn (Nat.lt_succ_self r)
        rw [← ixAt_get l r hrn, ← ixAt_get l (r + 1) hqn] at hlt2
        have hstp : stepN l (r + 1) = ixAt l (r + 1) - ixAt l r - 1 := by unfold stepN; rw [if_neg (by omega)]; rfl
        obtain ⟨Y, hY⟩ : ∃ Y, Y = ixAt l r := ⟨_, rfl⟩
        obtain ⟨n, hn⟩ : ∃ n, n = stepN l (r + 1) := ⟨_, rfl⟩
        rw [← hX, ← hY] at hlt2
        rw [← hX, ← hY, ← hn] at hstp
        have hYX : Y < X := hlt2
        have hXe : (Y : Int) + (n : Int) + 1 = (X : Int) := by omega
        obtain ⟨L, hL⟩ : ∃ L : Nat, L = 9223372036854775806 - Y := ⟨_, rfl⟩
        have hLI : (9223372036854775806 : Int) - (Y : Int) = (L : Int) := by omega
        have hnL : n ≤ L := by omega
        have hLl : L < 9223372036854775807 := by omega
        have hnX : n < 4000000000000000000 := by omega
        have hYl : Y < 4000000000000000000 := by omega
        have hsum : Y + n + 1 < 4000000000000000000 := by omega
        have hYM : ¬ (Y : Int) = 9223372036854775807 := by omega
        rw [← hn] at S2 S
        rcases owns_shape S2.own with ⟨h0, hn0, _⟩ | ⟨g, cap, hv, hqc, hcm, hgB, hgl⟩
        · omega
        simp only [Value.slice.injEq, true_and] at hv
        obtain ⟨rfl, rfl⟩ := hv
        have k0 : (wr.alloc (.cells #[.int .i64 0, .int .u64 0] 228)).cell? ⟨g, r * 2, none⟩ = some (.int .i64 (Y : Int)) := by
          rw [S2.own.cellAt _ (by omega), rowC_fst _ r (by rw [List.length_take]; omega), hY, List.getElem_take, ixAt_get l r hrn]
        have c2 := eye_nat _ eb n L _ S2.eye hnL (by omega) (by simp only [List.length_append]; omega)
        have HY := Lib.hid (And.intro hX (And.intro hY (And.intro hn hstp)))
        clear hX hC hY hn hstp hL hlt2
        have h0r : (0 : Int) ≤ (r : Int) := by omega
        go_wp2_with fail
        refine c2.mono ?_
        rintro e w2 ⟨rfl, E2, A2⟩
        have P2 := PB.away A2 hpe
        have S3 := (S2.look E2 A2).set wr.heap.size 0 (.int .i64 (X : Int)) hpn hps
        have p0 : w2.cell? ⟨wr.heap.size, 0, none⟩ = some (.int .i64 0) := P2.cell rfl
        have pf := P2.frozen 0
        have P3 := P2.set 0 (.int .i64 (X : Int))
        clear c2
        have c3 := eye_count _ eb C r2 S3.eye hx1b hx1c (by omega)
        go_wp2_with fail
        refine c3.mono ?_
        rintro e w3 ⟨rfl, E3, A3⟩
        clear c3
        have P4 := P3.away A3 hpe
        have S4 := (S3.look E3 A3).set wr.heap.size 1 (.int .u64 (C : Int)) hpn hps
        have p4 : w3.cell? ⟨wr.heap.size, 1, none⟩ = some (.int .u64 0) := P4.cell rfl
        have pf4 := P4.frozen 1
        have P5 := P4.set 1 (.int .u64 (C : Int))
        have c4 := eye_bad _ eb _ S4.eye
        go_wp2_with fail
        refine c4.mono ?_
        rintro e w4 ⟨rfl, rfl⟩
        clear c4
        have p5 : (w3.setCell ⟨wr.heap.size, 1, none⟩ (.int .u64 (C : Int))).cell? ⟨wr.heap.size, 0, none⟩ = some (.int .i64 (X : Int)) := P5.cell rfl
        have p6 : (w3.setCell ⟨wr.heap.size, 1, none⟩ (.int .u64 (C : Int))).cell? ⟨wr.heap.size, 1, none⟩ = some (.int .u64 (C : Int)) := P5.cell rfl
        generalize w3.setCell ⟨wr.heap.size, 1, none⟩ (.int .u64 (C : Int)) = W at *
        have SH := Lib.hid S4
        clear S S2 S3 S4 P2 P3 P4 P5 PB A2 A3 E2 E3 p0 pf p4 pf4
        go_wp2_with (at_builtin; refine wpList_pair rfl _ _ rfl SH.out (by omega) X C rfl rfl ?_)
        intro A5 c5 w5 S5
        have SH5 := Lib.hid S5
        clear S5
        go_wp2
        go_roundg (m - (r + 1 + 1))
        case measure => omega
        exact ⟨r + 1 + 1, A5, c5, by go_num, rfl, by omega, by omega, by rw [HT.out, HR2.out]; exact SH5.out⟩
    · have hqe : q = m := by omega
      have hLT : ¬ (q : Int) < (m : Int) := by omega
      have hle : leftB l q = [] := by rw [hqe, HM.out, leftB_all]
      have htk : l.take q = l := by rw [hqe, HM.out, List.take_length]
      rw [hle, htk, List.nil_append] at S
      have HS := Lib.hid S
      subst hqe
      clear S hql hle htk
      go_wp2
      go_ret
      exact ⟨_, rfl, HS.out.own, HS.out.eye, HS.out.away⟩
end Go.Proofs.YtbejdajkkoapgaaGreatDoor

/-
  Contracts of cells: Good, next, New, Index, Rep; a table in memory. Conditions: stated in each.
-/
set_option linter.unusedVariables false
set_option linter.unusedSimpArgs false
set_option maxRecDepth 100000
namespace Go.Proofs.YtbejdajkkoapgaaGreatDoor
open Go.RowKit Go.Lib

theorem over_no (hi lo y : Nat) (w : World) (h1 : y ≤ hi) :
    Calls Tryz.prog 117 #[.agg #[.int .u64 hi, .int .u64 lo], .int .u64 y] w fun e w' => e = .returned (.tuple #[.int .u64 0, .int .u64 0, .bool false]) ∧ Below w.heap.size w w' := by
  have g1 : (y : Int) ≤ (hi : Int) := by omega
  go_enter Tryz.func117, Tryz.ntmps117
  go_wp2_with fail
  go_ret3
  exact ⟨rfl, (Below.refl _ _).alloc (Nat.le_refl _) _⟩
theorem floor_any (a b y : Nat) (w : World) (ha : a < 18446744073709551616) (hb : b < 18446744073709551616) (h1 : y < 18446744073709551616) :
    Calls Tryz.prog 108 #[.int .u64 a, .int .u64 b, .int .u64 y] w fun e w' => e = .returned (.tuple #[.int .u64 ((flN a b y).1 : Nat), .bool (flN a b y).2]) ∧ Below w.heap.size w w' := by
  have ht := fun W => Wd.times_nat a b W ha hb
  by_cases h : y ≤ a * b / 18446744073709551616
  · have ho := fun W => over_no (a * b / 18446744073709551616) (a * b % 18446744073709551616) y W h
    have e : flN a b y = (0, false) := by unfold flN; rw [if_pos h]
    rw [e]
    clear e h
    go_enter Tryz.func108, Tryz.ntmps108
    go_wp2_with (first | (go_at_call 118; refine (ht _).mono ?_; rintro e w1 ⟨rfl, hb1⟩) | (go_at_call 117; refine (ho _).mono ?_; rintro e w2 ⟨rfl, hb2⟩))
    go_ret2
    exact ⟨rfl, hb1.trans (hb2.mono hb1.size)⟩
  · have hlo : a * b % 18446744073709551616 < 18446744073709551616 := by omega
    have ho := fun W => Wd.over_any (a * b / 18446744073709551616) (a * b % 18446744073709551616) y W (by omega) h1 hlo
    have e : a * b / 18446744073709551616 * 18446744073709551616 + a * b % 18446744073709551616 = a * b := by omega
    rw [e] at ho
    have e2 : flN a b y = (a * b / y, true) := by unfold flN; rw [if_neg h]
    rw [e2]
    generalize a * b / y = q at *
    generalize a * b % y = r at *
    clear e2 e h hlo
    go_enter Tryz.func108, Tryz.ntmps108
    go_wp2_with (first | (go_at_call 118; refine (ht _).mono ?_; rintro e w1 ⟨rfl, hb1⟩) | (go_at_call 117; refine (ho _).mono ?_; rintro e w2 ⟨rfl, hb2⟩))
    go_ret2
    exact ⟨rfl, hb1.trans (hb2.mono hb1.size)⟩

/-- a closeness that can be -/
def goodC (num den : Int) : Bool := decide (0 < num) && decide (num < den) && decide (den ≤ 2147483648)
theorem cgood_any (num den : Int) (w : World) :
    Calls Tryz.prog 85 #[.agg #[.int .u64 num, .int .u64 den]] w fun e w' => e = .returned (.bool (goodC num den)) ∧ Below w.heap.size w w' := by
  unfold goodC
  by_cases g1 : 0 < num
  · by_cases g2 : num < den
    · have e : (decide (0 < num) && decide (num < den) && decide (den ≤ 2147483648)) = decide (den ≤ 2147483648) := by simp [g1, g2]
      rw [e]; clear e
      go_enter Tryz.func85, Tryz.ntmps85
      go_wp2_with fail
      go_ret
      exact ⟨rfl, (Below.refl _ _).alloc (Nat.le_refl _) _⟩
    · have e : (decide (0 < num) && decide (num < den) && decide (den ≤ 2147483648)) = false := by simp [g1, g2]
      rw [e]; clear e
      go_enter Tryz.func85, Tryz.ntmps85
      go_wp2_with fail
      go_ret
      exact ⟨rfl, (Below.refl _ _).alloc (Nat.le_refl _) _⟩
  · have e : (decide (0 < num) && decide (num < den) && decide (den ≤ 2147483648)) = false := by simp [g1]
    rw [e]; clear e
    go_enter Tryz.func85, Tryz.ntmps85
    go_wp2_with fail
    go_ret
    exact ⟨rfl, (Below.refl _ _).alloc (Nat.le_refl _) _⟩

theorem cnext_any (num den low : Nat) (w : World) (h1 : 1 ≤ num) (h2 : num < den) (h3 : den ≤ 2147483648) (hlow : low ≤ 9223372036854775809) :
    Calls Tryz.prog 86 #[.agg #[.int .u64 (num : Int), .int .u64 (den : Int)], .int .u64 (low : Int)] w fun e w' => e = .returned (.tuple #[.int .u64 ((cnx num den low).1 : Nat), .int .u64 ((cnx num den low).2 : Nat)]) ∧ Below w.heap.size w w' := by
  have B0 : Blk (w.alloc (.cells #[.int .u64 (num : Int), .int .u64 (den : Int)] 25)) w.heap.size #[.int .u64 (num : Int), .int .u64 (den : Int)] 25 := Blk.newAt rfl
  have b0 : Below w.heap.size w (w.alloc (.cells #[.int .u64 (num : Int), .int .u64 (den : Int)] 25)) := (Below.refl _ _).alloc (Nat.le_refl _) _
  have hf1 := fun W => floor_any low (den + num) den W (by omega) (by omega) (by omega)
  have hq1 := flN_lt low (den + num) den (by omega)
  have e1 : IntKind.u64.wrap ((den : Int) + (num : Int)) = ((den + num : Nat) : Int) := by rw [IntKind.wrap_u64]; omega
  have e2 : IntKind.u64.wrap ((den : Int) - (num : Int)) = ((den - num : Nat) : Int) := by rw [IntKind.wrap_u64]; omega
  unfold cnx cEnd
  obtain ⟨q1, hq⟩ : ∃ q, q = (flN low (den + num) den).1 := ⟨_, rfl⟩
  obtain ⟨o1, ho⟩ : ∃ q, q = (flN low (den + num) den).2 := ⟨_, rfl⟩
  rw [← hq] at hf1 hq1 ⊢
  rw [← ho] at hf1 ⊢
  have hf2 := fun W => floor_any q1 den (den - num) W hq1 (by omega) (by omega)
  obtain ⟨q2, hqq⟩ : ∃ q, q = (flN q1 den (den - num)).1 := ⟨_, rfl⟩
  obtain ⟨o2, hoo⟩ : ∃ q, q = (flN q1 den (den - num)).2 := ⟨_, rfl⟩
  rw [← hqq] at hf2 ⊢
  rw [← hoo] at hf2 ⊢
  have HB := Lib.hid (And.intro B0 b0)
  clear hq ho hqq hoo hq1 B0 b0 h1 h2 h3 hlow
  have emin : ((min q1 9223372036854775807 : Nat) : Int) = min (q1 : Int) 9223372036854775807 := by omega
  cases o1 with
  | false =>
    rw [if_pos (.inl rfl)]
    go_enter Tryz.func86, Tryz.ntmps86
    go_wp2_with fail
    refine (hf1 _).mono ?_
    rintro e w1 ⟨rfl, b1⟩
    have HC := Lib.hid b1
    clear hf1 hf2 b1
    go_wp2_with fail
    go_ret2
    exact ⟨rfl, HB.out.2.trans (HC.out.mono (by simp))⟩
  | true =>
    by_cases k1 : 9223372036854775808 < q1
    · rw [if_pos (.inr k1)]
      have k2 : (9223372036854775808 : Int) < (q1 : Int) := by omega
      clear k1
      go_enter Tryz.func86, Tryz.ntmps86
      go_wp2_with fail
      refine (hf1 _).mono ?_
      rintro e w1 ⟨rfl, b1⟩
      have HC := Lib.hid b1
      clear hf1 hf2 b1
      go_wp2_with fail
      go_ret2
      exact ⟨rfl, HB.out.2.trans (HC.out.mono (by simp))⟩
    · rw [if_neg (by simp; omega)]
      have k2 : ¬ (9223372036854775808 : Int) < (q1 : Int) := by omega
      rw [emin]
      have FIN := Lib.hid (show ∀ w1 w2, Below (w.alloc (.cells #[.int .u64 (num : Int), .int .u64 (den : Int)] 25)).heap.size (w.alloc (.cells #[.int .u64 (num : Int), .int .u64 (den : Int)] 25)) w1 → Below w1.heap.size w1 w2 → Below w.heap.size w w2 from fun w1 w2 b1 b2 => by
        have k := HB.out.2.trans (b1.mono (by simp)); exact k.trans (b2.mono k.size))
      cases o2 with
      | false =>
        rw [if_pos (.inl rfl)]
        go_enter Tryz.func86, Tryz.ntmps86
        go_wp2_with fail
        refine (hf1 _).mono ?_
        rintro e w1 ⟨rfl, b1⟩
        have B1 := HB.out.1.below b1 HB.out.1.lt
        have c0 : w1.cell? ⟨w.heap.size, 0, none⟩ = some (.int .u64 (num : Int)) := B1.cell rfl
        have c1 : w1.cell? ⟨w.heap.size, 1, none⟩ = some (.int .u64 (den : Int)) := B1.cell rfl
        have HC := Lib.hid b1
        clear hf1 b1 B1
        go_wp2_with fail
        refine (hf2 _).mono ?_
        rintro e w2 ⟨rfl, b2⟩
        have HD := Lib.hid (FIN.out _ _ HC.out b2)
        clear hf2 b2 c0 c1
        go_wp2_with fail
        go_ret2
        exact ⟨rfl, HD.out⟩
      | true =>
        by_cases k3 : 9223372036854775808 < q2
        · rw [if_pos (.inr k3)]
          have k4 : (9223372036854775808 : Int) < (q2 : Int) := by omega
          clear k3
          go_enter Tryz.func86, Tryz.ntmps86
          go_wp2_with fail
          refine (hf1 _).mono ?_
          rintro e w1 ⟨rfl, b1⟩
          have B1 := HB.out.1.below b1 HB.out.1.lt
          have c0 : w1.cell? ⟨w.heap.size, 0, none⟩ = some (.int .u64 (num : Int)) := B1.cell rfl
          have c1 : w1.cell? ⟨w.heap.size, 1, none⟩ = some (.int .u64 (den : Int)) := B1.cell rfl
          have HC := Lib.hid b1
          clear hf1 b1 B1
          go_wp2_with fail
          refine (hf2 _).mono ?_
          rintro e w2 ⟨rfl, b2⟩
          have HD := Lib.hid (FIN.out _ _ HC.out b2)
          clear hf2 b2 c0 c1
          go_wp2_with fail
          go_ret2
          exact ⟨rfl, HD.out⟩
        · rw [if_neg (by simp; omega)]
          have k4 : ¬ (9223372036854775808 : Int) < (q2 : Int) := by omega
          clear k3
          go_enter Tryz.func86, Tryz.ntmps86
          go_wp2_with fail
          refine (hf1 _).mono ?_
          rintro e w1 ⟨rfl, b1⟩
          have B1 := HB.out.1.below b1 HB.out.1.lt
          have c0 : w1.cell? ⟨w.heap.size, 0, none⟩ = some (.int .u64 (num : Int)) := B1.cell rfl
          have c1 : w1.cell? ⟨w.heap.size, 1, none⟩ = some (.int .u64 (den : Int)) := B1.cell rfl
          have HC := Lib.hid b1
          clear hf1 b1 B1
          go_wp2_with fail
          refine (hf2 _).mono ?_
          rintro e w2 ⟨rfl, b2⟩
          have HD := Lib.hid (FIN.out _ _ HC.out b2)
          clear hf2 b2 c0 c1
          go_wp2_with fail
          go_ret2
          exact ⟨rfl, HD.out⟩

/-- a table of cells in memory -/
structure TabO (w : World) (tb : Nat) (vl vr : Value) (num den n : Nat) : Prop where
  blk : Blk w tb #[.int .u64 (num : Int), .int .u64 (den : Int), vl, vr] 210
  lows : w.ownsRow 0 23 1 vl n (natC (tlows num den n))
  reps : w.ownsRow 0 23 1 vr n (natC (treps num den n))
/-- its blocks -/
def OwnT (tb : Nat) (vl vr : Value) (j : Nat) : Prop := j = tb ∨ vl.ownBlock = some j ∨ vr.ownBlock = some j
section
variable {w w' : World} {tb : Nat} {vl vr : Value} {num den n : Nat}
theorem TabO.next (h : TabO w tb vl vr num den n) (b : Below w.heap.size w w') : TabO w' tb vl vr num den n := ⟨h.blk.below b h.blk.lt, owns_below h.lows b fun g hg => (h.lows.lt g hg).2, owns_below h.reps b fun g hg => (h.reps.lt g hg).2⟩
theorem TabO.away {G : Nat → Prop} (h : TabO w tb vl vr num den n) (a : Away G w w') (k : ∀ j, OwnT tb vl vr j → ¬ G j) : TabO w' tb vl vr num den n :=
  ⟨h.blk.away a (k _ (.inl rfl)), owns_away h.lows a fun g hg => k _ (.inr (.inl hg)), owns_away h.reps a fun g hg => k _ (.inr (.inr hg))⟩
theorem TabO.lt (h : TabO w tb vl vr num den n) : ∀ j, OwnT tb vl vr j → j < w.heap.size := by
  rintro j (rfl | e | e)
  · exact h.blk.lt
  · exact (h.lows.lt _ e).2
  · exact (h.reps.lt _ e).2
theorem TabO.ty (h : TabO w tb vl vr num den n) : ∀ j, OwnT tb vl vr j → ∃ cs t, Blk w j cs t ∧ (t = 210 ∨ t = 23) := by
  rintro j (rfl | e | e)
  · exact ⟨_, _, h.blk, .inl rfl⟩
  · obtain ⟨cur, hc⟩ := owns_blk h.lows e; exact ⟨_, _, hc, .inr rfl⟩
  · obtain ⟨cur, hc⟩ := owns_blk h.reps e; exact ⟨_, _, hc, .inr rfl⟩
end
end Go.Proofs.YtbejdajkkoapgaaGreatDoor

