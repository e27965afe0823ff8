/-
  Several texts in one: Lc, Ld. What each proves, and on which conditions, stands at its head. Conditions: stated in each.
-/
import Derived.Test.YtbejdajkkoapgaaGreatDoorS07
import Derived.Test.YtbejdajkkoapgaaGreatDoorS04
import Derived.Test.YtbejdajkkoapgaaGreatDoorS05
/-
  Strips of any size: New, Add, Pairs, Ends, and a pair of an end taken away. Conditions: stated in each.
-/
set_option linter.unusedVariables false
set_option linter.unusedSimpArgs false
set_option maxRecDepth 100000
namespace Go.Proofs.YtbejdajkkoapgaaGreatDoor
open Go.RowKit Go.Lib

theorem length_addL_ge (l : Row) (x c : Nat) : l.length ≤ (addL l x c).length := by
  induction l with
  | nil => exact Nat.zero_le _
  | cons y l ih =>
    unfold addL
    repeat' split
    all_goals simp_all <;> omega
/-- a strip: its row, and all of them together -/
structure StripM (M : Nat) (w : World) (sb : Nat) (v : Value) (l : Row) : Prop where
  blk : Blk w sb #[.int .i64 (M : Int), v, .int .u64 (rowTotal l : Nat)] 115
  own : w.ownsRow 0 228 2 v l.length (rowC l)
  rising : Rising l
  full : Full l
theorem StripM.ne {M : Nat} {w : World} {sb : Nat} {v : Value} {l : Row} (h : StripM M w sb v l) : v.ownBlock ≠ some sb := by
  intro he
  obtain ⟨cur, hc⟩ := owns_blk h.own he
  exact (h.blk.ne hc (by decide)) rfl
theorem StripM.next {M : Nat} {w w' : World} {sb : Nat} {v : Value} {l : Row} (h : StripM M w sb v l) (hb : Below w.heap.size w w') : StripM M w' sb v l :=
  ⟨h.blk.below hb h.blk.lt, owns_below h.own hb fun g hg => (h.own.lt g hg).2, h.rising, h.full⟩
theorem StripM.away {M : Nat} {F : Nat → Prop} {w w' : World} {sb : Nat} {v : Value} {l : Row} (h : StripM M w sb v l) (hb : Away F w w') (h1 : ¬ F sb) (h2 : ∀ g, v.ownBlock = some g → ¬ F g) : StripM M w' sb v l :=
  ⟨h.blk.away hb h1, owns_away h.own hb h2, h.rising, h.full⟩
theorem StripM.drew {M : Nat} {w : World} {sb : Nat} {v : Value} {l : Row} (h : StripM M w sb v l) : StripM M w.drew sb v l := ⟨h.blk, h.own, h.rising, h.full⟩
theorem StripM.alloc {M : Nat} {w : World} {sb : Nat} {v : Value} {l : Row} (h : StripM M w sb v l) (o : Obj) : StripM M (w.alloc o) sb v l :=
  h.next ((Below.refl _ _).alloc (Nat.le_refl _) o)
theorem StripM.other {M : Nat} {w : World} {sb : Nat} {v : Value} {l : Row} (h : StripM M w sb v l) (p : Addr) (u : Value) (h1 : sb ≠ p.block) (h2 : v.ownBlock ≠ some p.block) : StripM M (w.setCell p u) sb v l :=
  ⟨h.blk.other p u h1, owns_other h.own p u h2, h.rising, h.full⟩
theorem StripM.cells {M : Nat} {w : World} {sb : Nat} {v : Value} {l : Row} (h : StripM M w sb v l) : w.cell? ⟨sb, 0, none⟩ = some (.int .i64 (M : Int)) ∧ w.cell? ⟨sb, 1, none⟩ = some v ∧ w.cell? ⟨sb, 2, none⟩ = some (.int .u64 (rowTotal l : Nat)) ∧ w.frozen? ⟨sb, 1, none⟩ = false ∧ w.frozen? ⟨sb, 2, none⟩ = false :=
  ⟨h.blk.cell rfl, h.blk.cell rfl, h.blk.cell rfl, h.blk.frozen 1, h.blk.frozen 2⟩

theorem pairs_M {M : Nat} (w : World) (sb : Nat) (v : Value) (l : Row) (h : StripM M w sb v l) (hlen : l.length ≤ 1000000) :
    Calls Tryz.prog 177 #[.pointer (some ⟨sb, 0, none⟩)] w fun e w' => ∃ v', e = .returned v' ∧ w'.ownsRow w.heap.size 228 2 v' l.length (rowC l) ∧ Below w.heap.size w w' := by
  obtain ⟨c0, c1, c2, f1, f2⟩ := h.cells
  have hc := clone_any w v l h.own hlen
  clear h
  go_enter Tryz.func177, Tryz.ntmps177
  go_wp2_with (go_at_call 185; refine hc.mono ?_; rintro e w1 ⟨v', rfl, hown, hb1⟩)
  go_ret
  exact ⟨v', rfl, hown, hb1⟩

set_option maxHeartbeats 4000000 in
theorem strip_addM {M : Nat} (hM : M ≤ 4096) (w : World) (sb : Nat) (v : Value) (l : Row) (x c : Nat) (h : StripM M w sb v l) (hc : 1 ≤ c) (hs : rowTotal l + c ≤ 9223372036854775807) (hlen : (addL l x c).length ≤ M) :
    Calls Tryz.prog 93 #[.pointer (some ⟨sb, 0, none⟩), .int .i64 (x : Int), .int .u64 (c : Int)] w fun e w' => e = .returned (.int .i64 0) ∧ ∃ v', StripM M w' sb v' (addL l x c) ∧
      Away (fun k => k = sb ∨ v.ownBlock = some k) w w' ∧ Kin w v v' := by
  obtain ⟨c0, c1, c2, f1, f2⟩ := h.cells
  have g1 : ((c : Int) == 0) = false := by simp; omega
  have hra := rowAt_le_total l x
  obtain ⟨t, ht⟩ : ∃ t, t = rowTotal l := ⟨_, rfl⟩
  have hpl := fun W b h0 h1 => plus_any W b t c (by omega) h0 h1
  have hfi := fun (W : World) (hb : Below w.heap.size w W) => find_any W 0 v l x (h.next hb).own h.rising (by have := length_addL_ge l x c; omega)
  rw [← ht] at c2
  have H := Lib.hid h
  obtain ⟨A, n, cap, hv, hn⟩ : ∃ A n cap, v = .slice A n cap ∧ n = l.length := by
    rcases owns_shape h.own with ⟨hv, hn, _⟩ | ⟨g, cap, hv, _⟩
    · exact ⟨none, 0, 0, hv, hn.symm⟩
    · exact ⟨_, _, _, hv, rfl⟩
  have hlen0 : l.length ≤ M := Nat.le_trans (length_addL_ge l x c) hlen
  have hn96 := Lib.hid (show isL l x = false → ¬ (M : Int) ≤ (n : Int) from fun hi => by have := addL_length_not (v := x) c h.rising (isL_false hi); omega)
  have FIN := Lib.hid (show ∀ (w1 w2 : World) (v2 : Value), Below w.heap.size w w1 → w2.ownsRow 0 228 2 v2 (addL l x c).length (rowC (addL l x c)) → Away (fun k => v.ownBlock = some k) w1 w2 → Kin w1 v v2 →
      (∃ v', StripM M ((w2.setCell ⟨sb, 1, none⟩ v2).setCell ⟨sb, 2, none⟩ (.int .u64 ((t + c : Nat) : Int))) sb v' (addL l x c) ∧ Away (fun k => k = sb ∨ v.ownBlock = some k) w ((w2.setCell ⟨sb, 1, none⟩ v2).setCell ⟨sb, 2, none⟩ (.int .u64 ((t + c : Nat) : Int))) ∧ Kin w v v') ∧
      w2.cell? ⟨sb, 1, none⟩ = some v ∧ w2.cell? ⟨sb, 2, none⟩ = some (.int .u64 (t : Int)) ∧ w2.frozen? ⟨sb, 1, none⟩ = false ∧ w2.frozen? ⟨sb, 2, none⟩ = false from fun w1 w2 v2 b1 o2 a2 k2 => by
    have hs1 := h.blk.below b1 h.blk.lt
    have hne := h.ne
    have hs2 := hs1.away a2 hne
    have hsz : sb < w.heap.size := h.blk.lt
    have hv2 : v2.ownBlock ≠ some sb := by
      intro e
      obtain ⟨cur, hcur⟩ := owns_blk o2 e
      exact (hs2.ne hcur (by decide)) rfl
    refine ⟨⟨v2, ⟨?_, owns_other (owns_other o2 _ _ hv2) _ _ hv2, rising_addL h.rising, full_addL h.full hc⟩, ?_, ?_⟩, hs2.cell rfl, by rw [ht]; exact hs2.cell rfl, hs2.frozen 1, hs2.frozen 2⟩
    · rw [rowTotal_adds, ← ht]
      exact (hs2.set 1 v2).set 2 _
    · refine Away.setCell (Away.setCell ?_ _ _ (.inl (.inl rfl))) _ _ (.inl (.inl rfl))
      exact (Away.of_below (F := fun k => k = sb ∨ v.ownBlock = some k) b1).trans' a2 (fun k _ hk => hk) (fun k _ hk => .inr hk)
    · rcases k2 with k2 | ⟨k, k2, k3⟩
      · exact .inl k2
      · exact .inr ⟨k, k2, Nat.le_trans b1.size k3⟩)
  have hadd := Lib.hid (show ∀ w1 : World, Below w.heap.size w w1 → Calls Tryz.prog 115 #[v, .int .i64 (x : Int), .int .u64 (c : Int)] w1 fun e w' => ∃ v', e = .returned v' ∧ w'.ownsRow 0 228 2 v' (addL l x c).length (rowC (addL l x c)) ∧
      Away (fun k => v.ownBlock = some k) w1 w' ∧ Kin w1 v v' from fun w1 b1 => runs_add w1 v l x c (h.next b1).own h.rising (by omega) hc (by omega))
  have hfi' := Lib.hid hfi
  have hpl' := Lib.hid hpl
  have hcl := Lib.hid (show ∀ w1 : World, Below w.heap.size w w1 → w1.cell? ⟨sb, 0, none⟩ = some (.int .i64 (M : Int)) ∧ w1.cell? ⟨sb, 1, none⟩ = some v ∧ w1.cell? ⟨sb, 2, none⟩ = some (.int .u64 (t : Int)) from fun w1 b1 => ⟨(b1.cell (p := ⟨sb, 0, none⟩) h.blk.lt).trans c0, (b1.cell (p := ⟨sb, 1, none⟩) h.blk.lt).trans c1, (b1.cell (p := ⟨sb, 2, none⟩) h.blk.lt).trans c2⟩)
  subst hv
  clear hfi hpl h hra hs ht hn hc hlen hlen0 hM
  go_enter Tryz.func93, Tryz.ntmps93
  go_wp2_with fail
  refine (hpl'.out _ _ (by simp) (by simp)).mono ?_
  rintro e w1 ⟨rfl, rfl⟩
  have hsb := H.out.blk.lt
  have hB1 : Below w.heap.size w (w.alloc (.cells #[.int .u64 (t : Int), .int .u64 (c : Int)] 23)) := (Below.refl _ _).alloc (Nat.le_refl _) _
  go_wp2_with fail
  refine (hfi'.out _ hB1).mono ?_
  rintro e w2 ⟨rfl, hb2⟩
  have hB2 := hB1.trans (hb2.mono hB1.size)
  clear hb2 hB1
  obtain ⟨k0, k1, k2⟩ := hcl.out w2 hB2
  have hB3 : ∀ q, Below w.heap.size w (w2.drewN q) := fun q => ⟨hB2.os, hB2.tape, hB2.output, hB2.size, hB2.block⟩
  cases his : isL l x with
  | true =>
    clear his
    go_wp2_with fail
    go_quiet (fail)
    go_wp2_with (go_at_call 115; refine (hadd.out _ (hB3 _)).mono ?_; rintro e w3 ⟨v3, rfl, o3, a3, q3⟩; obtain ⟨A3, n3, hv3⟩ := owns_slice o3; subst hv3; obtain ⟨r1, r2, r3, r4, r5⟩ := FIN.out _ w3 _ (hB3 _) o3 a3 q3)
    go_ret
    exact ⟨rfl, r1⟩
  | false =>
    have hn97 := hn96.out his
    clear his
    go_wp2_with fail
    go_quiet (fail)
    go_wp2_with (go_at_call 115; refine (hadd.out _ (hB3 _)).mono ?_; rintro e w3 ⟨v3, rfl, o3, a3, q3⟩; obtain ⟨A3, n3, hv3⟩ := owns_slice o3; subst hv3; obtain ⟨r1, r2, r3, r4, r5⟩ := FIN.out _ w3 _ (hB3 _) o3 a3 q3)
    go_ret
    exact ⟨rfl, r1⟩

theorem stripM_new (w : World) (M : Nat) (h1 : 1 ≤ M) (h2 : M ≤ 4096) :
    Calls Tryz.prog 28 #[.int .i64 (M : Int)] w fun e w' => e = .returned (.tuple #[.pointer (some ⟨w.heap.size, 0, none⟩), .int .i64 0]) ∧ w.alloc (.cells #[.int .i64 (M : Int), .slice none 0 0, .int .u64 0] 115) = w' := by
  have g1 : ¬ (M : Int) < 1 := by omega
  have g2 : ¬ (4096 : Int) < (M : Int) := by omega
  go_enter Tryz.func28, Tryz.ntmps28
  go_wp2
  go_ret2
  exact ⟨rfl, rfl⟩
theorem stripM_bad (w : World) (M : Int) (h : M < 1 ∨ 4096 < M) :
    Calls Tryz.prog 28 #[.int .i64 M] w fun e w' => e = .returned (.tuple #[.pointer none, .int .i64 1]) ∧ w = w' := by
  by_cases g1 : M < 1
  · go_enter Tryz.func28, Tryz.ntmps28
    go_wp2
    go_ret2
    exact ⟨rfl, rfl⟩
  · have g2 : 4096 < M := by omega
    clear h
    go_enter Tryz.func28, Tryz.ntmps28
    go_wp2
    go_ret2
    exact ⟨rfl, rfl⟩
theorem StripM.fresh (w : World) (M : Nat) : StripM M (w.alloc (.cells #[.int .i64 (M : Int), .slice none 0 0, .int .u64 0] 115)) w.heap.size (.slice none 0 0) [] :=
  ⟨Blk.newAt rfl, World.ownsRow_nil _ _ _ _, trivial, fun x hx => by cases hx⟩

/-- the pair of a row's far end: hi: the last one, else the first -/
def farP (hi : Bool) (l : Row) : Nat × Nat := if hi then l.getLast?.getD (0, 0) else l.head?.getD (0, 0)
theorem farP_ix (hi : Bool) (l : Row) : (farP hi l).1 = farN hi l := by
  unfold farP farN endN
  cases hi with
  | true => cases h : l.getLast? <;> simp [h]
  | false => cases h : l.head? <;> simp [h]
theorem cutN_total {hi : Bool} {l : Row} (hn : l ≠ []) : rowTotal l = rowTotal (cutN hi l) + (farP hi l).2 := by
  cases hi with
  | true =>
    have e : l = l.dropLast ++ [l.getLast hn] := (List.dropLast_concat_getLast hn).symm
    have e2 : farP true l = l.getLast hn := by unfold farP; rw [List.getLast?_eq_some_getLast hn]; rfl
    have e3 : rowTotal l = rowTotal (l.dropLast ++ [l.getLast hn]) := congrArg rowTotal e
    rw [e3, e2]
    show _ = rowTotal l.dropLast + _
    unfold rowTotal
    rw [sumIf_append, sumIf_cons]; simp [sumIf]
  | false =>
    cases l with
    | nil => exact absurd rfl hn
    | cons x l => show rowTotal (x :: l) = rowTotal l + x.2; unfold rowTotal; rw [sumIf_cons]; simp; omega
/-- where the far end stands -/
def farI (hi : Bool) (l : Row) : Nat := if hi then l.length - 1 else 0
theorem cutN_take (hi : Bool) {l : Row} (hn : l ≠ []) : cutN hi l = l.take (farI hi l) ++ l.drop (farI hi l + 1) := by
  have := List.length_pos_iff.2 hn
  cases hi with
  | true => show l.dropLast = l.take (l.length - 1) ++ l.drop (l.length - 1 + 1); rw [List.dropLast_eq_take, show l.length - 1 + 1 = l.length from by omega, List.drop_length, List.append_nil]
  | false => show l.tail = l.take 0 ++ l.drop (0 + 1); rw [List.take_zero, List.nil_append, List.drop_one]
theorem farI_lt (hi : Bool) {l : Row} (hn : l ≠ []) : farI hi l < l.length := by
  have := List.length_pos_iff.2 hn
  unfold farI; cases hi <;> simp <;> omega
theorem farI_get (hi : Bool) {l : Row} (hn : l ≠ []) : l[farI hi l]'(farI_lt hi hn) = farP hi l := by
  cases hi with
  | true =>
    have e2 : farP true l = l.getLast hn := by unfold farP; rw [List.getLast?_eq_some_getLast hn]; rfl
    rw [e2, List.getLast_eq_getElem hn]; rfl
  | false =>
    cases l with
    | nil => exact absurd rfl hn
    | cons x l => rfl
theorem rising_sub {l m : Row} (h : m.Sublist l) (hr : Rising l) : Rising m := by
  induction h with
  | slnil => trivial
  | cons x _ ih => exact ih hr.2
  | cons_cons x h ih => exact ⟨fun y hy => hr.1 y (h.subset hy), ih hr.2⟩
theorem cutN_sub (hi : Bool) (l : Row) : (cutN hi l).Sublist l := by
  cases hi with
  | true => exact List.dropLast_sublist l
  | false => exact List.tail_sublist l
theorem cutN_len (hi : Bool) (l : Row) : (cutN hi l).length = l.length - 1 := by unfold cutN; cases hi <;> simp

/-- the least and the greatest index of a row -/
def endsV (l : Row) : Value := .tuple #[.int .i64 ((endN true l : Nat) : Int), .int .i64 ((endN false l : Nat) : Int), .bool (!l.isEmpty)]
theorem stripM_ends {M : Nat} (w : World) (sb : Nat) (v : Value) (l : Row) (h : StripM M w sb v l) :
    Calls Tryz.prog 145 #[.pointer (some ⟨sb, 0, none⟩)] w fun e w' => e = .returned (endsV l) ∧ Below w.heap.size w w' := by
  obtain ⟨A, cap, hv⟩ := owns_slice h.own
  subst hv
  obtain ⟨c0, c1, c2, f1, f2⟩ := h.cells
  have hlen := fun W (k : W.cell? ⟨sb, 1, none⟩ = some (.slice A l.length cap)) => strip_len W sb A l.length cap k
  have hl1 := hlen w c1
  by_cases hn : l = []
  · subst hn
    clear h
    go_enter Tryz.func145, Tryz.ntmps145
    go_wp2_with (go_at_call 150; refine hl1.mono ?_; rintro e w1 ⟨rfl, rfl⟩)
    go_ret3
    exact ⟨rfl, Below.refl _ _⟩
  · have hp := List.length_pos_iff.2 hn
    rcases owns_shape h.own with ⟨_, h0, _⟩ | ⟨g, cap', hv0, hnc, hcap, _, hg⟩
    · omega
    simp only [Value.slice.injEq] at hv0
    obtain ⟨rfl, _, rfl⟩ := hv0
    unfold maxLen at hcap
    have e0 : w.cell? ⟨g, 0, none⟩ = some (.int .i64 ((endN true l : Nat) : Int)) := by
      have k := h.own.cellAt (0 * 2) (by omega)
      rw [rowC_fst l 0 hp] at k
      rw [Nat.zero_mul] at k
      rw [k]
      cases l with
      | nil => exact absurd rfl hn
      | cons x l => rfl
    have e1 : w.cell? ⟨g, (l.length - 1) * 2, none⟩ = some (.int .i64 ((endN false l : Nat) : Int)) := by
      rw [h.own.cellAt _ (by omega), rowC_fst l (l.length - 1) (by omega)]
      have e : endN false l = (l.getLast hn).1 := by unfold endN; rw [List.getLast?_eq_some_getLast hn]; rfl
      rw [e, List.getLast_eq_getElem hn]
    have hb : (!l.isEmpty) = true := by cases l <;> simp_all
    have FIN := Lib.hid (show endsV l = .tuple #[.int .i64 ((endN true l : Nat) : Int), .int .i64 ((endN false l : Nat) : Int), .bool true] by unfold endsV; rw [hb])
    obtain ⟨x0, hx0⟩ : ∃ x : Int, x = ((endN true l : Nat) : Int) := ⟨_, rfl⟩
    obtain ⟨x1, hx1⟩ : ∃ x : Int, x = ((endN false l : Nat) : Int) := ⟨_, rfl⟩
    rw [← hx0, ← hx1] at FIN
    rw [← hx0] at e0
    rw [← hx1] at e1
    obtain ⟨n, hnn⟩ : ∃ n, n = l.length := ⟨_, rfl⟩
    rw [← hnn] at hl1 c1 e1 hp hnc
    have g1 : ((n : Int) == 0) = false := by simp; omega
    have g2 : IntKind.i64.wrap ((n : Int) - 1) = ((n - 1 : Nat) : Int) := by rw [IntKind.wrap_i64]; omega
    rw [FIN.out]
    clear h hlen hn hx0 hx1 hnn hb
    go_enter Tryz.func145, Tryz.ntmps145
    go_wp2_with (go_at_call 150; refine hl1.mono ?_; rintro e w1 ⟨rfl, rfl⟩)
    go_quiet (fail)
    go_wp2_with fail
    go_ret3
    exact ⟨rfl, ⟨rfl, rfl, rfl, Nat.le_refl _, fun _ _ => rfl⟩⟩

/-- clear of one pair -/
theorem run_clear_pair (w : World) (ty : TypeId) (g o c : Nat) (cur : Array Value) (hg : w.heap[g]? = some (.cells cur 228 (0, 0))) (hfit : o + 2 ≤ cur.size) :
    (Builtin.clear_ #[113] ty #[.slice (some ⟨g, o, none⟩) 1 c]).run Tryz.prog w = .ok (.tuple #[]) (w.setRow g (cur.toList.take o ++ [Value.int .i64 0, Value.int .u64 0] ++ cur.toList.drop (o + 2)).toArray) := by
  have hst := run_storeCells_at Tryz.prog g o 228 [.int .i64 0, .int .u64 0] 0 cur w hg (by simpa using hfit) (fun u hu => by simp at hu; rcases hu with rfl | rfl <;> rfl)
  obtain ⟨i0, hi, hz0, hz1, hz2⟩ := info_parts info228
  have hz : (Builtin.zeroCells (Value.agg #[.int .i64 0, .int .u64 0]).cells 1).toList = [.int .i64 0, .int .u64 0] := by simp [Builtin.zeroCells, Value.cells]; rfl
  simp [Builtin.clear_, run_underlying Tryz.underlying113, zeroValue, typeInfo, hi, hz0, hz, hst]
theorem wp_clear_run {P : Program} (w : World) {o : Oper} {a : Act} {K : Act → World → Prop} {Q : Exit → Act → World → Prop} (s : Operand) (t : TypeId)
    (ho : o.op = .call { callee := .builtin .clear, args := #[s], argTypes := #[t] }) (vs : Value) (hs : a.eval s = vs)
    (v' : Value) (w' : World) (hr : (Builtin.clear_ #[t] o.type #[vs]).run P w = .ok v' w') (h : K (a.put o.dst v') w') : o.wp P a w K Q := by
  unfold Oper.wp execOp
  simp only [ho, resolve, invoke, builtin, Sem.run_bind, Sem.run_pure, Result.andThen_ok, List.map_toArray, List.map_cons, List.map_nil, hs, hr]
  exact h
theorem wpList_clear_run {P : Program} (w : World) {ops : Array Oper} {rest : List Oper} {o : Oper} {a : Act} {Q : Exit → Act → World → Prop} (hgd : o.guard = none) (s : Operand) (t : TypeId)
    (ho : o.op = .call { callee := .builtin .clear, args := #[s], argTypes := #[t] }) (vs : Value) (hs : a.eval s = vs)
    (v' : Value) (w' : World) (hr : (Builtin.clear_ #[t] o.type #[vs]).run P w = .ok v' w') (h : wpList P ops Q rest (a.put o.dst v') w') : wpList P ops Q (o :: rest) a w :=
  wpList_plain hgd fun _ hK => wp_clear_run w s t ho vs hs v' w' hr (hK _ _ h)

theorem step_append_runI {P : Program} {ops : Array Oper} {o : Oper} {a : Act} {w : World} {K : Act → World → Prop} {Q : Exit → Act → World → Prop} {E : Prop}
    (hg : o.guard = none) (d x : Operand) (dT sT : TypeId) (hop : o.op = Op.call { callee := Callee.builtin Builtin.append, args := #[d, x], argTypes := #[dT, sT] })
    (v u : Value) (hd : a.eval d = v) (hx : a.eval x = u) {v' : Value} {w' : World} (hr : (Builtin.append_ #[dT, sT] o.type #[v, u]).run P w = .ok v' w') (hK : K (a.put o.dst v') w') :
    if Region.wanted o (yielded ops a.tmps) = true then Oper.wp P o a w K Q else E := by
  have hw : Region.wanted o (yielded ops a.tmps) = true := by simp [Region.wanted, hg]
  rw [if_pos hw]
  unfold Oper.wp
  simp [execOp, hop, resolve, invoke, builtin, hd, hx, hr, Result.andThen]
  exact hK
/-- the cells behind: what stood behind the pair moved up; the last pair cleared -/
def delC (cur : Array Value) (i : Nat) (xs : List Value) : Array Value := (cur.toList.take (i * 2) ++ xs.drop ((i + 1) * 2) ++ cur.toList.drop (i * 2 + (xs.drop ((i + 1) * 2)).length)).toArray
def clrC (cur : Array Value) (n : Nat) : Array Value := (cur.toList.take ((n - 1) * 2) ++ [Value.int .i64 0, Value.int .u64 0] ++ cur.toList.drop ((n - 1) * 2 + 2)).toArray
theorem del_size (cur : Array Value) (n i : Nat) (xs : List Value) (hx : xs.length = n * 2) (hi : i < n) (hc : n * 2 ≤ cur.size) : (delC cur i xs).size = cur.size := by
  have hl : cur.toList.length = cur.size := Array.length_toList
  unfold delC
  rw [List.size_toArray]
  simp only [List.length_append, List.length_take, List.length_drop]
  omega
theorem clr_size (cur : Array Value) (n : Nat) (h1 : 1 ≤ n) (hc : n * 2 ≤ cur.size) : (clrC cur n).size = cur.size := by
  have hl : cur.toList.length = cur.size := Array.length_toList
  unfold clrC
  rw [List.size_toArray]
  simp only [List.length_append, List.length_take, List.length_drop, List.length_cons, List.length_nil]
  omega
theorem del_take (cur : Array Value) (n i : Nat) (xs : List Value) (h : cur.toList.take (n * 2) = xs) (hx : xs.length = n * 2) (hi : i < n) (hc : n * 2 ≤ cur.size) :
    (clrC (delC cur i xs) n).toList.take ((n - 1) * 2) = xs.take (i * 2) ++ xs.drop ((i + 1) * 2) := by
  have hl : cur.toList.length = cur.size := Array.length_toList
  have e1 : cur.toList.take (i * 2) = xs.take (i * 2) := by rw [← h, List.take_take, show min (i * 2) (n * 2) = i * 2 from by omega]
  unfold clrC
  rw [List.toList_toArray, List.append_assoc, List.take_append_of_le_length (by rw [List.length_take, Array.length_toList, del_size cur n i xs hx hi hc]; omega), List.take_take, Nat.min_self]
  unfold delC
  rw [List.toList_toArray, e1, List.take_append_of_le_length (by simp only [List.length_append, List.length_take, List.length_drop]; omega)]
  exact List.take_of_length_le (by simp only [List.length_append, List.length_take, List.length_drop]; omega)

set_option maxHeartbeats 4000000 in
theorem delete_any (w : World) (g n cap i : Nat) (l : Row) (h : w.ownsRow 0 228 2 (.slice (some ⟨g, 0, none⟩) n cap) n (rowC l)) (hlen : n ≤ 1000000) (hin : i < n) :
    Calls Tryz.prog 152 #[.slice (some ⟨g, 0, none⟩) n cap, .int .i64 (i : Int), .int .i64 ((i + 1 : Nat) : Int)] w fun e w' => e = .returned (.slice (some ⟨g, 0, none⟩) (n - 1) cap) ∧
      w'.ownsRow 0 228 2 (.slice (some ⟨g, 0, none⟩) (n - 1) cap) (n - 1) ((rowC l).take (i * 2) ++ (rowC l).drop ((i + 1) * 2)) ∧ Away (fun k => k = g) w w' := by
  obtain ⟨hxl, h⟩ := h
  rcases h with ⟨h, _⟩ | ⟨g', cap', cur, hv, -, hg, hnc, hcap, hcs, htake⟩
  · cases h
  simp only [Value.slice.injEq, Option.some.injEq, Addr.mk.injEq, and_true, true_and] at hv
  obtain ⟨rfl, rfl⟩ := hv
  have hl : cur.toList.length = cur.size := Array.length_toList
  obtain ⟨A1, hA1⟩ : ∃ A, A = delC cur i (rowC l) := ⟨_, rfl⟩
  obtain ⟨A2, hA2⟩ : ∃ A, A = clrC A1 n := ⟨_, rfl⟩
  have s1 : A1.size = cur.size := by rw [hA1]; exact del_size cur n i _ hxl hin (by omega)
  have s2 : A2.size = cur.size := by rw [hA2, clr_size _ _ (by omega) (by omega), s1]
  have hcap63 : cap ≤ 9223372036854775807 := by unfold maxLen at hcap; omega
  obtain ⟨i0, hi, hz0, hz1, hz2⟩ := info_parts info228
  have hap : ∀ ty c a, (n = i + 1 ∨ a = (⟨g, (i + 1) * 2, none⟩ : Addr)) → (Builtin.append_ #[113, 113] ty #[.slice (some ⟨g, 0, none⟩) i cap, .slice (some a) (n - (i + 1)) c]).run Tryz.prog w.drew = .ok (.slice (some ⟨g, 0, none⟩) (n - 1) cap) (w.drew.setRow g A1) := fun ty c a ha => by
    have k := run_append_room (P := Tryz.prog) w.drew 113 ty 228 i0 Tryz.underlying113 hi g i cap cur hg a (n - (i + 1)) c ((rowC l).drop ((i + 1) * 2)) (by rw [List.length_drop, hxl, hz1]; omega)
      (fun j u hj => by
        rcases ha with ha | ha
        · rw [List.drop_of_length_le (by omega)] at hj; cases hj
        · subst ha
          rw [Addr.add_lit, cell_of_row w.drew g _ cur 228 (0, 0) hg]
          rw [List.getElem?_drop, ← htake, List.getElem?_take] at hj
          split at hj
          · simpa using hj
          · cases hj)
      (fun u hu => rowC_one l u (List.mem_of_mem_drop hu)) (by omega) (by rw [List.length_drop, hxl, hz1]; omega)
    rw [k, hA1, show i + (n - (i + 1)) = n - 1 from by omega, hz1]; rfl
  have hg1 : (w.drew.setRow g A1).heap[g]? = some (.cells A1 228 (0, 0)) := setRow_heap w.drew g cur _ 228 _ hg
  have hcl : ∀ ty c, (Builtin.clear_ #[113] ty #[.slice (some ⟨g, (n - 1) * 2, none⟩) 1 c]).run Tryz.prog (w.drew.setRow g A1) = .ok (.tuple #[]) ((w.drew.setRow g A1).setRow g A2) := fun ty c => by
    rw [run_clear_pair _ ty g ((n - 1) * 2) c A1 hg1 (by omega), hA2]; rfl
  have mixed : Tryz.prog.follows Departure.mixedOrders = true := by kernel_rfl
  have z0 : (0 : Int) ≤ (i : Int) + 1 := by omega
  have z1 : ((i : Int) == (i : Int) + 1) = false := by simp; omega
  have z2 : (i : Int) + 1 ≤ (n : Int) := by omega
  have z3 : (i : Int) ≤ (i : Int) + 1 := by omega
  have z4 : ¬ cap = n - 1 := by omega
  have z5 : n - (n - 1) = 1 := by omega
  have z6 : ((n - 1 : Nat) : Int) ≤ (n : Int) := by omega
  have z7 : (n : Int) ≤ (cap : Int) := by omega
  have z8 : (i : Int) ≤ (cap : Int) := by omega
  have z9 : ((i : Int) + 1).toNat = i + 1 := by omega
  have FIN := Lib.hid (show ((w.drew.setRow g A1).setRow g A2).ownsRow 0 228 2 (.slice (some ⟨g, 0, none⟩) (n - 1) cap) (n - 1) ((rowC l).take (i * 2) ++ (rowC l).drop ((i + 1) * 2)) ∧ Away (fun k => k = g) w ((w.drew.setRow g A1).setRow g A2) from by
    refine ⟨⟨?_, .inr ⟨g, cap, A2, rfl, Nat.zero_le _, setRow_heap _ g A1 _ 228 _ hg1, by omega, hcap, by rw [s2, hcs], ?_⟩⟩, ⟨rfl, rfl, rfl, ?_, fun k hk hn => ?_⟩⟩
    · simp only [List.length_append, List.length_take, List.length_drop, hxl]; omega
    · rw [hA2, hA1]; exact del_take cur n i _ htake hxl hin (by omega)
    · rw [size_setRow, size_setRow]; exact Nat.le_refl _
    · rw [setRow_other _ g k A2 hn]; exact setRow_other w.drew g k A1 hn)
  by_cases hc : cap = i + 1
  · have hni : n = i + 1 := by omega
    have hap' := fun ty => hap ty 0 ⟨g, 0, none⟩ (.inl hni)
    have e1 : i + 1 - 1 = i := rfl
    have e2 : i + 1 - (i + 1) = 0 := Nat.sub_self _
    clear hap hg1 hcs htake hA1 hA2 s1 s2 hg hxl hl hi hz0 hz1 hz2
    subst hc
    subst hni
    rw [e1] at FIN hcl ⊢
    rw [e1, e2] at hap'
    clear z4 z5 z6 z7 e1 e2
    go_enter Tryz.func152, Tryz.ntmps152
    go_wp2_with fail
    go_region_law_o (refine step_append_runI rfl _ _ 113 113 rfl _ _ (by simp [Act.eval, Act.put]) (by simp [Act.eval, Act.put]) (hap' _) ?_)
    go_wp2_with (at_builtin; refine wpList_clear_run _ rfl _ _ rfl _ rfl _ _ (hcl _ _) ?_)
    go_ret
    exact ⟨rfl, FIN.out⟩
  · have hap' := fun ty => hap ty (cap - (i + 1)) _ (.inr rfl)
    clear hap hg1 hcs htake hA1 hA2 s1 s2 hg hxl hl hi hz0 hz1 hz2
    go_enter Tryz.func152, Tryz.ntmps152
    go_wp2_with fail
    go_region_law_o (refine step_append_runI rfl _ _ 113 113 rfl _ _ (by simp [Act.eval, Act.put]) (by simp [Act.eval, Act.put]) (hap' _) ?_)
    go_wp2_with (at_builtin; refine wpList_clear_run _ rfl _ _ rfl _ rfl _ _ (hcl _ _) ?_)
    go_ret
    exact ⟨rfl, FIN.out⟩
end Go.Proofs.YtbejdajkkoapgaaGreatDoor

/-
  A store of counts that keeps what lies close to its end (lowcap, highcap), in memory. Conditions: stated in each.
-/
set_option linter.unusedVariables false
set_option linter.unusedSimpArgs false
set_option maxRecDepth 100000
namespace Go.Proofs.YtbejdajkkoapgaaGreatDoor
open Go.RowKit Go.Lib

/-- a store's type, and its pointer's; hi: highcap -/
def CT (hi : Bool) : TypeId := if hi then 255 else 257
def PT (hi : Bool) : TypeId := if hi then 243 else 246
structure StoO (hi : Bool) (M : Nat) (w : World) (cb sb : Nat) (v : Value) (k : Row) (T : Nat) : Prop where
  blk : Blk w cb #[.int .i64 (M : Int), .pointer (some ⟨sb, 0, none⟩), .int .u64 ((T - rowTotal k : Nat) : Int)] (CT hi)
  st : StripM M w sb v k
  le : rowTotal k ≤ T
  low : ∀ x ∈ k, x.1 < 4096
/-- its blocks -/
def OwnC (cb sb : Nat) (v : Value) (j : Nat) : Prop := j = cb ∨ j = sb ∨ v.ownBlock = some j
theorem CT_ne (hi : Bool) : CT hi ≠ 115 ∧ CT hi ≠ 228 ∧ CT hi ≠ 59 ∧ CT hi ≠ 34 ∧ CT hi ≠ 76 ∧ CT hi ≠ 170 ∧ CT hi ≠ 220 ∧ CT hi ≠ 210 ∧ CT hi ≠ 23 := by cases hi <;> decide
section
variable {hi : Bool} {M : Nat} {w w' : World} {cb sb : Nat} {v : Value} {k : Row} {T : Nat}
theorem StoO.next (h : StoO hi M w cb sb v k T) (b : Below w.heap.size w w') : StoO hi M w' cb sb v k T := ⟨h.blk.below b h.blk.lt, h.st.next b, h.le, h.low⟩
theorem StoO.away {G : Nat → Prop} (h : StoO hi M w cb sb v k T) (a : Away G w w') (n : ∀ j, OwnC cb sb v j → ¬ G j) : StoO hi M w' cb sb v k T :=
  ⟨h.blk.away a (n _ (.inl rfl)), h.st.away a (n _ (.inr (.inl rfl))) fun g hg => n _ (.inr (.inr hg)), h.le, h.low⟩
theorem StoO.ne1 (h : StoO hi M w cb sb v k T) : cb ≠ sb := h.blk.ne h.st.blk (CT_ne hi).1
theorem StoO.ne2 (h : StoO hi M w cb sb v k T) : v.ownBlock ≠ some cb := fun he => by
  obtain ⟨cur, hc⟩ := owns_blk h.st.own he
  exact (h.blk.ne hc fun e => (CT_ne hi).2.1 e) rfl
theorem StoO.lt (h : StoO hi M w cb sb v k T) : ∀ j, OwnC cb sb v j → j < w.heap.size := by
  rintro j (rfl | rfl | e)
  · exact h.blk.lt
  · exact h.st.blk.lt
  · exact (h.st.own.lt _ e).2
/-- each of its blocks is of one of these types -/
theorem StoO.ty (h : StoO hi M w cb sb v k T) : ∀ j, OwnC cb sb v j → ∃ cs t, Blk w j cs t ∧ (t = CT hi ∨ t = 115 ∨ t = 228) := by
  rintro j (rfl | rfl | e)
  · exact ⟨_, _, h.blk, .inl rfl⟩
  · exact ⟨_, _, h.st.blk, .inr (.inl rfl)⟩
  · obtain ⟨cur, hc⟩ := owns_blk h.st.own e
    exact ⟨_, _, hc, .inr (.inr rfl)⟩
theorem StoO.cells (h : StoO hi M w cb sb v k T) : w.cell? ⟨cb, 0, none⟩ = some (.int .i64 (M : Int)) ∧ w.cell? ⟨cb, 1, none⟩ = some (.pointer (some ⟨sb, 0, none⟩)) ∧ w.cell? ⟨cb, 2, none⟩ = some (.int .u64 ((T - rowTotal k : Nat) : Int)) ∧ w.frozen? ⟨cb, 2, none⟩ = false :=
  ⟨h.blk.cell rfl, h.blk.cell rfl, h.blk.cell rfl, h.blk.frozen 2⟩
/-- behind more of an index -/
theorem StoO.adds {i c : Nat} {v2 : Value} (h : StoO hi M w cb sb v k T) (hi4 : i < 4096) (s : StripM M w' sb v2 (addL k i c)) (a : Away (fun j => j = sb ∨ v.ownBlock = some j) w w') (q : Kin w v v2) :
    StoO hi M w' cb sb v2 (addL k i c) (T + c) ∧ (∀ j, OwnC cb sb v2 j → OwnC cb sb v j ∨ w.heap.size ≤ j) ∧ Away (OwnC cb sb v) w w' := by
  have hl := h.le
  refine ⟨⟨?_, s, by rw [rowTotal_adds]; omega, fun x hx => ?_⟩, ?_, a.mono fun j _ hj => .inr hj⟩
  · rw [rowTotal_adds, show T + c - (rowTotal k + c) = T - rowTotal k from by omega]
    exact h.blk.away a fun hj => by
      rcases hj with e | e
      · exact h.ne1 e
      · exact h.ne2 e
  · rcases mem_addL hx with e | e
    · exact h.low x e
    · rw [e]; exact hi4
  · rintro j (rfl | rfl | e)
    · exact .inl (.inl rfl)
    · exact .inl (.inr (.inl rfl))
    · rcases q with q | ⟨g, q, hg⟩
      · exact .inl (.inr (.inr (q ▸ e)))
      · rw [q] at e; injection e with e; exact .inr (e ▸ hg)
/-- so many more are lost -/
theorem StoO.lose {c : Nat} (h : StoO hi M w cb sb v k T) : StoO hi M (w.setCell ⟨cb, 2, none⟩ (.int .u64 ((T - rowTotal k + c : Nat) : Int))) cb sb v k (T + c) ∧ Away (OwnC cb sb v) w (w.setCell ⟨cb, 2, none⟩ (.int .u64 ((T - rowTotal k + c : Nat) : Int))) := by
  have hl := h.le
  refine ⟨⟨?_, h.st.other _ _ (Ne.symm h.ne1) h.ne2, by omega, h.low⟩, (Away.refl _ _).setCell _ _ (.inl (.inl rfl))⟩
  rw [show T + c - rowTotal k = T - rowTotal k + c from by omega]
  exact h.blk.set 2 _
/-- behind a pair of the far end that left it -/
theorem StoO.cut {v2 : Value} (h : StoO hi M w cb sb v k T) (hn : k ≠ []) (s : StripM M w' sb v2 (cutN hi k)) (a : Away (fun j => j = sb ∨ v.ownBlock = some j) w w') (q : Kin w v v2) :
    StoO hi M (w'.setCell ⟨cb, 2, none⟩ (.int .u64 ((T - rowTotal k + (farP hi k).2 : Nat) : Int))) cb sb v2 (cutN hi k) T ∧ (∀ j, OwnC cb sb v2 j → OwnC cb sb v j ∨ w.heap.size ≤ j) ∧ Away (OwnC cb sb v) w (w'.setCell ⟨cb, 2, none⟩ (.int .u64 ((T - rowTotal k + (farP hi k).2 : Nat) : Int))) ∧
    w'.cell? ⟨cb, 2, none⟩ = some (.int .u64 ((T - rowTotal k : Nat) : Int)) ∧ w'.frozen? ⟨cb, 2, none⟩ = false := by
  have hl := h.le
  have ht := cutN_total (hi := hi) hn
  have B1 := h.blk.away a fun hj => by
      rcases hj with e | e
      · exact h.ne1 e
      · exact h.ne2 e
  have n2 : v2.ownBlock ≠ some cb := fun he => by
    obtain ⟨cur, hc⟩ := owns_blk s.own he
    exact (B1.ne hc fun e => (CT_ne hi).2.1 e) rfl
  refine ⟨⟨?_, s.other _ _ (Ne.symm h.ne1) n2, by omega, fun x hx => h.low x ((cutN_sub hi k).subset hx)⟩, ?_, (a.mono fun j _ hj => .inr hj).setCell _ _ (.inl (.inl rfl)), B1.cell rfl, B1.frozen 2⟩
  · rw [show T - rowTotal (cutN hi k) = T - rowTotal k + (farP hi k).2 from by omega]
    exact B1.set 2 _
  · rintro j (rfl | rfl | e)
    · exact .inl (.inl rfl)
    · exact .inl (.inr (.inl rfl))
    · rcases q with q | ⟨g, q, hg⟩
      · exact .inl (.inr (.inr (q ▸ e)))
      · rw [q] at e; injection e with e; exact .inr (e ▸ hg)
end

/-- a store at a block, with the blocks that are its own -/
def StoQ (hi : Bool) (M : Nat) (k : Row) (T : Nat) (w : World) (cb : Nat) (O : Nat → Prop) : Prop := ∃ sb v, StoO hi M w cb sb v k T ∧ O = OwnC cb sb v
/-- a store that has come from a world in which these blocks were its own -/
def StoR (hi : Bool) (M : Nat) (w : World) (cb : Nat) (O : Nat → Prop) (k : Row) (T : Nat) (w' : World) : Prop := ∃ O', StoQ hi M k T w' cb O' ∧ SubO w O O' ∧ Away O w w'
section
variable {hi : Bool} {M : Nat} {w w' w2 : World} {cb : Nat} {k k2 : Row} {T T2 : Nat} {O O2 : Nat → Prop}
theorem StoQ.next (h : StoQ hi M k T w cb O) (b : Below w.heap.size w w') : StoQ hi M k T w' cb O := by
  obtain ⟨sb, v, h, rfl⟩ := h; exact ⟨sb, v, h.next b, rfl⟩
theorem StoQ.away {G : Nat → Prop} (h : StoQ hi M k T w cb O) (a : Away G w w') (n : ∀ j, O j → ¬ G j) : StoQ hi M k T w' cb O := by
  obtain ⟨sb, v, h, rfl⟩ := h; exact ⟨sb, v, h.away a n, rfl⟩
theorem StoQ.lt (h : StoQ hi M k T w cb O) : ∀ j, O j → j < w.heap.size := by
  obtain ⟨sb, v, h, rfl⟩ := h; exact h.lt
theorem StoQ.ty (h : StoQ hi M k T w cb O) : ∀ j, O j → ∃ cs t, Blk w j cs t ∧ (t = CT hi ∨ t = 115 ∨ t = 228) := by
  obtain ⟨sb, v, h, rfl⟩ := h; exact h.ty
theorem StoQ.rising (h : StoQ hi M k T w cb O) : Rising k ∧ Full k ∧ rowTotal k ≤ T ∧ ∀ x ∈ k, x.1 < 4096 := by
  obtain ⟨sb, v, h, rfl⟩ := h; exact ⟨h.st.rising, h.st.full, h.le, h.low⟩
theorem StoR.start (h : StoQ hi M k T w cb O) : StoR hi M w cb O k T w := ⟨O, h, fun j hj => .inl hj, Away.refl _ _⟩
theorem StoR.next (h : StoR hi M w cb O k T w2) (b : Below w2.heap.size w2 w') : StoR hi M w cb O k T w' := by
  obtain ⟨O', h1, h2, h3⟩ := h
  exact ⟨O', h1.next b, h2, h3.trans' (Away.of_below (F := O) b) (fun _ _ h => h) (fun _ _ h => h)⟩
theorem StoR.made {wr w1 w3 : World} {sb : Nat} {v : Value} {sb2 : Nat} {v2 : Value} (ha : Away O w wr) (hs : SubO w O (OwnC cb sb v)) (b : Below wr.heap.size wr w1) (q : StoO hi M w2 cb sb2 v2 k2 T2) (q2 : ∀ j, OwnC cb sb2 v2 j → OwnC cb sb v j ∨ w1.heap.size ≤ j) (q3 : Away (OwnC cb sb v) w1 w2) (b2 : Below w2.heap.size w2 w3) : StoR hi M w cb O k2 T2 w3 := by
  have hz : w.heap.size ≤ w1.heap.size := Nat.le_trans ha.size b.size
  have a1 : Away O w w1 := ha.trans' (Away.of_below (F := O) b) (fun _ _ h => h) (fun _ _ h => h)
  have a2 : Away O w w2 := a1.trans' q3 (fun _ _ h => h) fun j hj hO => by
    rcases hs j hO with e | e
    · exact e
    · omega
  refine ⟨OwnC cb sb2 v2, ⟨sb2, v2, q.next b2, rfl⟩, fun j hj => ?_, a2.trans' (Away.of_below (F := O) b2) (fun _ _ h => h) (fun _ _ h => h)⟩
  rcases q2 j hj with e | e
  · exact hs j e
  · exact .inr (Nat.le_trans hz e)
end
end Go.Proofs.YtbejdajkkoapgaaGreatDoor

