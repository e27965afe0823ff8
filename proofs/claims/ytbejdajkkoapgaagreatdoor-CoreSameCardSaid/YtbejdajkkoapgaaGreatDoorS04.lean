/-
  Several texts in one: J03. What each proves, and on which conditions, stands at its head. Conditions: stated in each.
-/
import Derived.Test.YtbejdajkkoapgaaGreatDoorS03
import Derived.Shelf.Spec.SlicesInsertGrow
import Derived.Maps.AppendAt
import Derived.Deep.QuietTactic
/-
  Several texts in one: In, Sa. What each proves, and on which conditions, stands at its head. Conditions: stated in each.
-/
/-
  Contract of slices.Insert at rows of pairs, one pair put in: in place where there is room, else in a new row; all old blocks but the row's own are as they were. Conditions: the place is within the row, the pair lies in a block of its own.
-/
set_option linter.unusedVariables false
set_option linter.unusedSimpArgs false
set_option maxRecDepth 100000
namespace Go.Proofs.YtbejdajkkoapgaaGreatDoor
open Go.RowKit Go.Lib Go.Shelf

theorem run_copy2 (w : World) (ty : TypeId) (g o dLen dCap : Nat) (a : Addr) (sLen sCap : Nat) (cur : Array Value) (cs : List Value)
    (hg : w.heap[g]? = some (.cells cur 228 (0, 0))) (hn : cs.length = Nat.min sLen dLen * 2)
    (hsrc : ∀ j v, cs[j]? = some v → w.cell? (a.add j) = some v) (hfit : o + cs.length ≤ cur.size) (h1 : ∀ v ∈ cs, v.oneCell' = true) :
    (Builtin.copy_ #[113, 113] ty #[.slice (some ⟨g, o, none⟩) dLen dCap, .slice (some a) sLen sCap]).run Tryz.prog w =
      .ok (goInt (Nat.min sLen dLen)) (w.setRow g (cur.toList.take o ++ cs ++ cur.toList.drop (o + cs.length)).toArray) := by
  have hl := run_loadCells_list (P := Tryz.prog) w a cs hsrc
  have hst := run_storeCells_at Tryz.prog g o 228 cs 0 cur w hg (by simpa using hfit) h1
  obtain ⟨i0, hi, hz0, hz1, hz2⟩ := info_parts info228
  simp [Builtin.copy_, run_underlying Tryz.underlying113, Builtin.lenOf, Builtin.firstCells, sizeOf, typeInfo, hi, hz1, ← hn, hl, hst]

theorem insert_end (w : World) (v : Value) (l : Row) (vb x c : Nat) (h : w.ownsRow 0 228 2 v l.length (rowC l)) (hlen : l.length ≤ 1000000) (hb : Blk w vb #[.int .i64 (x : Int), .int .u64 (c : Int)] 228) :
    Calls Tryz.prog 127 #[v, .int .i64 (l.length : Int), .slice (some ⟨vb, 0, none⟩) 1 1] w fun e w' => ∃ v', e = .returned v' ∧ w'.ownsRow 0 228 2 v' (l.length + 1) (rowC (l ++ [(x, c)])) ∧
      Away (fun k => v.ownBlock = some k) w w' ∧ (v'.ownBlock = v.ownBlock ∨ v'.ownBlock = some w.heap.size) := by
  obtain ⟨i0, hi, hz0, hz1, hz2⟩ := info_parts info228
  have news : ∀ j u, (pairC (x, c))[j]? = some u → w.cell? ((⟨vb, 0, none⟩ : Addr).add j) = some u := by
    intro j u hj
    rw [Addr.add_lit, Nat.zero_add]
    match j, hj with
    | 0, hj => simp [pairC] at hj; subst hj; exact hb.cell rfl
    | 1, hj => simp [pairC] at hj; subst hj; exact hb.cell rfl
  have H1 := Lib.hid (show ∀ u ∈ pairC (x, c), u.oneCell' = true from fun u hu => by simp [pairC] at hu; rcases hu with rfl | rfl <;> rfl)
  have HN := Lib.hid news
  have H := Lib.hid h
  have fin : ∀ (v' : Value) (w' : World), w'.ownsRow 0 228 2 v' (l.length + 1) (rowC l ++ pairC (x, c)) → w.grownBy w' v.ownBlock → (v'.ownBlock = v.ownBlock ∨ v'.ownBlock = some w.heap.size) →
      w'.ownsRow 0 228 2 v' (l.length + 1) (rowC (l ++ [(x, c)])) ∧ Away (fun k => v.ownBlock = some k) w w' ∧ (v'.ownBlock = v.ownBlock ∨ v'.ownBlock = some w.heap.size) := fun v' w' a b d =>
    ⟨by rw [rowC_append]; exact a, Away.of_grown b fun k hk => hk, d⟩
  have FIN := Lib.hid fin
  clear hb news fin
  rcases owns_shape h with ⟨hv, hn, _⟩ | ⟨g, cap, hv, hnc, hcap, _, hg⟩
  · rw [hn] at H FIN ⊢
    rw [hv] at H FIN ⊢
    clear h hv hn
    go_enter Tryz.func127, Tryz.ntmps127
    go_wp2_with (at_builtin; refine wpList_append_own_at _ rfl _ _ 113 rfl 0 228 i0 _ 2 16 Tryz.underlying113 hi hz0 hz1 hz2 rfl (by decide) _ _ _ rfl H.out ⟨vb, 0, none⟩ 1 1 (pairC (x, c)) rfl rfl HN.out H1.out (by decide) (by decide) (Nat.zero_le _) ?_; intro v' w' a1 a2 _ a3)
    go_ret
    exact ⟨_, rfl, FIN.out v' w' a1 a2 a3⟩
  · obtain ⟨n, hn⟩ : ∃ n, n = l.length := ⟨_, rfl⟩
    rw [← hn] at H FIN hlen hnc hv ⊢
    rw [hv] at H FIN ⊢
    clear h hv hn
    by_cases hcn : cap = n
    · subst hcn
      go_enter Tryz.func127, Tryz.ntmps127
      go_wp2_with (at_builtin; refine wpList_append_own_at _ rfl _ _ 113 rfl 0 228 i0 _ 2 16 Tryz.underlying113 hi hz0 hz1 hz2 rfl (by decide) _ _ _ rfl H.out ⟨vb, 0, none⟩ 1 1 (pairC (x, c)) rfl rfl HN.out H1.out ?q1 ?q2 (Nat.zero_le _) ?_)
      case q1 => unfold maxLen; omega
      case q2 => omega
      intro v' w' a1 a2 _ a3
      go_wp2
      go_ret
      exact ⟨_, rfl, FIN.out v' w' a1 a2 a3⟩
    · go_enter Tryz.func127, Tryz.ntmps127
      go_wp2_with (at_builtin; refine wpList_append_own_at _ rfl _ _ 113 rfl 0 228 i0 _ 2 16 Tryz.underlying113 hi hz0 hz1 hz2 rfl (by decide) _ _ _ rfl H.out ⟨vb, 0, none⟩ 1 1 (pairC (x, c)) rfl rfl HN.out H1.out ?q1 ?q2 (Nat.zero_le _) ?_)
      case q1 => unfold maxLen; omega
      case q2 => omega
      intro v' w' a1 a2 _ a3
      go_wp2
      go_ret
      exact ⟨_, rfl, FIN.out v' w' a1 a2 a3⟩

/-- the cells behind the shift -/
def shiftC (cur : Array Value) (n i : Nat) (xs : List Value) : Array Value := (cur.toList.take ((i + 1) * 2) ++ xs.drop (i * 2) ++ cur.toList.drop ((i + 1) * 2 + (xs.drop (i * 2)).length)).toArray
def putC (cur : Array Value) (i : Nat) (p : List Value) : Array Value := (cur.toList.take (i * 2) ++ p ++ cur.toList.drop (i * 2 + p.length)).toArray
theorem shift_size (cur : Array Value) (n i : Nat) (xs : List Value) (h : cur.toList.take (n * 2) = xs) (hx : xs.length = n * 2) (hi : i < n) (hc : (n + 1) * 2 ≤ cur.size) : (shiftC cur n i xs).size = cur.size := by
  unfold shiftC
  have : cur.toList.length = cur.size := Array.length_toList
  simp only [List.size_toArray, List.length_append, List.length_take, List.length_drop]
  omega
theorem put_size (cur : Array Value) (i : Nat) (p : List Value) (hp : p.length = 2) (h : (i + 1) * 2 ≤ cur.size) : (putC cur i p).size = cur.size := by
  unfold putC
  have : cur.toList.length = cur.size := Array.length_toList
  simp only [List.size_toArray, List.length_append, List.length_take, List.length_drop]
  omega
theorem shift_take (cur : Array Value) (n i : Nat) (xs p : List Value) (h : cur.toList.take (n * 2) = xs) (hx : xs.length = n * 2) (hi : i < n) (hp : p.length = 2) (hc : (n + 1) * 2 ≤ cur.size) :
    (putC (shiftC cur n i xs) i p).toList.take ((n + 1) * 2) = xs.take (i * 2) ++ (p ++ xs.drop (i * 2)) := by
  have hl : cur.toList.length = cur.size := Array.length_toList
  have e1 : (shiftC cur n i xs).toList.take (i * 2) = xs.take (i * 2) := by
    unfold shiftC
    rw [List.toList_toArray, List.append_assoc, List.take_append_of_le_length (by rw [List.length_take]; omega), List.take_take, ← h, List.take_take]
    congr 1
    omega
  have e2 : (shiftC cur n i xs).toList.drop (i * 2 + p.length) = xs.drop (i * 2) ++ cur.toList.drop ((i + 1) * 2 + (xs.drop (i * 2)).length) := by
    unfold shiftC
    rw [List.toList_toArray, List.append_assoc, List.drop_append, List.drop_of_length_le (by rw [List.length_take]; omega), List.nil_append, List.length_take, show i * 2 + p.length - min ((i + 1) * 2) cur.toList.length = 0 from by omega, List.drop_zero]
  unfold putC
  rw [List.toList_toArray, e1, e2, List.append_assoc, ← List.append_assoc p, ← List.append_assoc (xs.take (i * 2))]
  rw [List.take_append_of_le_length (by simp only [List.length_append, List.length_take, List.length_drop]; omega)]
  exact List.take_of_length_le (by simp only [List.length_append, List.length_take, List.length_drop]; omega)

set_option maxHeartbeats 4000000 in
theorem insert_shift (w : World) (g n cap i : Nat) (l : Row) (vb x c : Nat) (h : w.ownsRow 0 228 2 (.slice (some ⟨g, 0, none⟩) n cap) n (rowC l)) (hlen : n ≤ 1000000) (hin : i < n) (hroom : n + 1 ≤ cap) (hb : Blk w vb #[.int .i64 (x : Int), .int .u64 (c : Int)] 228) (hne : vb ≠ g) :
    Calls Tryz.prog 127 #[.slice (some ⟨g, 0, none⟩) n cap, .int .i64 (i : Int), .slice (some ⟨vb, 0, none⟩) 1 1] w fun e w' => e = .returned (.slice (some ⟨g, 0, none⟩) (n + 1) cap) ∧
      w'.ownsRow 0 228 2 (.slice (some ⟨g, 0, none⟩) (n + 1) cap) (n + 1) ((rowC l).take (i * 2) ++ (pairC (x, c) ++ (rowC l).drop (i * 2))) ∧ Away (fun k => k = g) w w' := by
  obtain ⟨hxl, h⟩ := h
  rcases h with ⟨h, _⟩ | ⟨g', cap', cur, hv, -, hg, hnc, hcap, hcs, htake⟩
  · cases h
  simp only [Value.slice.injEq, Option.some.injEq, Addr.mk.injEq, and_true, true_and] at hv
  obtain ⟨rfl, rfl⟩ := hv
  have hl : cur.toList.length = cur.size := Array.length_toList
  obtain ⟨A1, hA1⟩ : ∃ A, A = shiftC cur n i (rowC l) := ⟨_, rfl⟩
  obtain ⟨A2, hA2⟩ : ∃ A, A = putC A1 i (pairC (x, c)) := ⟨_, rfl⟩
  have s1 : A1.size = cur.size := by rw [hA1]; exact shift_size cur n i _ htake hxl hin (by omega)
  have s2 : A2.size = cur.size := by rw [hA2, put_size _ _ _ rfl (by omega), s1]
  have hcap63 : cap ≤ 9223372036854775807 := by unfold maxLen at hcap; omega
  have hcp1 : ∀ ty dc sc, (Builtin.copy_ #[113, 113] ty #[.slice (some ⟨g, (i + 1) * 2, none⟩) (n - i) dc, .slice (some ⟨g, i * 2, none⟩) (n + 1 - i) sc]).run Tryz.prog w.drew = .ok (goInt (Nat.min (n + 1 - i) (n - i))) (w.drew.setRow g A1) := fun ty dc sc => by
    have k := run_copy2 w.drew ty g ((i + 1) * 2) (n - i) dc ⟨g, i * 2, none⟩ (n + 1 - i) sc cur ((rowC l).drop (i * 2)) hg (by rw [List.length_drop, hxl, show Nat.min (n + 1 - i) (n - i) = n - i from by simp only [Nat.min_def]; split <;> omega]; omega)
      (fun j u hj => by
        rw [Addr.add_lit, cell_of_row w.drew g _ cur 228 (0, 0) hg]
        rw [List.getElem?_drop, ← htake, List.getElem?_take] at hj
        split at hj
        · simpa using hj
        · cases hj)
      (by rw [List.length_drop, hxl]; omega) (fun u hu => rowC_one l u (List.mem_of_mem_drop hu))
    rw [k, hA1]; rfl
  have hg1 : ∀ W : World, W.heap = (w.drew.setRow g A1).heap → W.heap[g]? = some (.cells A1 228 (0, 0)) := fun W hW => by rw [hW]; exact setRow_heap w.drew g cur _ 228 _ hg
  have hcp2 : ∀ W : World, W.heap = (w.drew.setRow g A1).heap → ∀ ty dc, (Builtin.copy_ #[113, 113] ty #[.slice (some ⟨g, i * 2, none⟩) (n + 1 - i) dc, .slice (some ⟨vb, 0, none⟩) 1 1]).run Tryz.prog W = .ok (goInt (Nat.min 1 (n + 1 - i))) (W.setRow g A2) := fun W hW ty dc => by
    have hm : Nat.min 1 (n + 1 - i) = 1 := by simp only [Nat.min_def]; split <;> omega
    have k := run_copy2 W ty g (i * 2) (n + 1 - i) dc ⟨vb, 0, none⟩ 1 1 A1 (pairC (x, c)) (hg1 W hW) (by rw [hm]; rfl)
      (fun j u hj => by
        have hvb : W.heap[vb]? = w.heap[vb]? := by rw [hW]; exact setRow_other w.drew g vb A1 hne
        rw [Addr.add_lit, Nat.zero_add, World.cell?_of_block (w := w) hvb]
        match j, hj with
        | 0, hj => simp [pairC] at hj; subst hj; exact hb.cell rfl
        | 1, hj => simp [pairC] at hj; subst hj; exact hb.cell rfl)
      (by rw [s1]; show i * 2 + 2 ≤ _; omega) (fun u hu => by simp [pairC] at hu; rcases hu with rfl | rfl <;> rfl)
    rw [k, hA2]; rfl
  have hov : ∀ lb cb, (callFunc 133 #[.slice (some ⟨vb, 0, none⟩) 1 1, .slice (some ⟨g, (i + 1) * 2, none⟩) lb cb]).run Tryz.prog w = .ok (.value (.bool false)) w := fun lb cb => by
    have hs1 : w.shape? vb = some (228, 2) := by unfold World.shape?; rw [show w.heap[vb]? = _ from hb]; rfl
    have hs2 : w.shape? g = some (228, cur.size) := by unfold World.shape?; rw [hg]
    rw [run_callFunc_extern Tryz.func133 (by kernel_rfl) (by kernel_rfl) (by kernel_rfl) (e := Extern.SlicesOverlaps.overlaps #[113, 113] #[4]) (by kernel_rfl),
      Lib.run_overlaps_apart w 113 4 228 Tryz.underlying113 2 Tryz.sizeOf228 ⟨vb, 0, none⟩ ⟨g, (i + 1) * 2, none⟩ 1 1 lb cb hne 228 228 2 cur.size hs1 hs2 (by omega) (hb.frozen 0) (hb.frozen 2)]
    rfl
  have z1 : ¬ ((i : Int) = (n : Int)) := by omega
  have z2 : ¬ ((cap : Int) < (n : Int) + 1) := by omega
  have z3 : ¬ (cap = i) := by omega
  have z4 : ¬ (cap = i + 1) := by omega
  have z5 : (i : Int) ≤ (n : Int) := by omega
  have z6 : (i : Int) + 1 ≤ (n : Int) + 1 := by omega
  have FIN := Lib.hid (show ∀ W : World, W.heap = (w.drew.setRow g A1).heap → W.os = w.os → W.tape = w.tape → W.output = w.output → (W.setRow g A2).ownsRow 0 228 2 (.slice (some ⟨g, 0, none⟩) (n + 1) cap) (n + 1) ((rowC l).take (i * 2) ++ (pairC (x, c) ++ (rowC l).drop (i * 2))) ∧ Away (fun k => k = g) w (W.setRow g A2) from fun W hW o1 o2 o3 => by
    refine ⟨⟨?_, .inr ⟨g, cap, A2, rfl, Nat.zero_le _, setRow_heap W g A1 _ 228 _ (hg1 W hW), hroom, hcap, by rw [s2, hcs], ?_⟩⟩, ⟨o1, o2, o3, ?_, fun k hk hn => ?_⟩⟩
    · simp only [List.length_append, List.length_take, List.length_drop, hxl, pairC, List.length_cons, List.length_nil]; omega
    · rw [hA2, hA1]; exact shift_take cur n i _ _ htake hxl hin rfl (by omega)
    · rw [size_setRow, hW, size_setRow]; exact Nat.le_refl _
    · rw [setRow_other W g k A2 hn, hW]; exact setRow_other w.drew g k A1 hn)
  have mixed : Tryz.prog.follows Departure.mixedOrders = true := by kernel_rfl
  have hw1 : IntKind.i64.wrap ((i : Int) + 1) = (i : Int) + 1 := by rw [IntKind.wrap_i64]; omega
  have htn : ((i : Int) + 1).toNat = i + 1 := by omega
  have hb1 : (0 : Int) ≤ (i : Int) + 1 := by omega
  have hb3 : (i : Int) ≤ (n : Int) + 1 := by omega
  clear hg1 hcs htake hA1 hA2 s1 s2 hg hb hxl hl
  go_enter Tryz.func127, Tryz.ntmps127
  go_wp2_with (simp only [hov])
  go_region_law_o (refine Go.Proofs.step_copy_runI rfl _ _ 113 113 rfl _ _ (by simp [Act.eval, Act.put]) (by simp [Act.eval, Act.put]) (hcp1 _ _ _) ?_)
  go_wp2_with (at_builtin; refine Go.Proofs.wpList_copy_runI _ rfl _ _ 113 113 rfl _ _ rfl rfl (hcp2 _ rfl _ _) ?_)
  go_ret
  exact ⟨rfl, FIN.out _ rfl rfl rfl rfl⟩

def tailC (cur : Array Value) (i : Nat) (ys : List Value) : Array Value := (cur.toList.take ((i + 1) * 2) ++ ys ++ cur.toList.drop ((i + 1) * 2 + ys.length)).toArray
theorem grow_take (cur : Array Value) (n i : Nat) (xs p : List Value) (h : cur.toList.take (i * 2) = xs.take (i * 2)) (hx : xs.length = n * 2) (hi : i < n) (hp : p.length = 2) (hc : (n + 1) * 2 ≤ cur.size) :
    (tailC (putC cur i p) i (xs.drop (i * 2))).toList.take ((n + 1) * 2) = xs.take (i * 2) ++ (p ++ xs.drop (i * 2)) := by
  have hl : cur.toList.length = cur.size := Array.length_toList
  have e1 : (putC cur i p).toList.take ((i + 1) * 2) = xs.take (i * 2) ++ p := by
    unfold putC
    rw [List.toList_toArray, h, List.take_append_of_le_length (by simp only [List.length_append, List.length_take]; omega)]
    exact List.take_of_length_le (by simp only [List.length_append, List.length_take]; omega)
  unfold tailC
  rw [List.toList_toArray, e1, List.append_assoc, List.append_assoc, ← List.append_assoc p, ← List.append_assoc (xs.take (i * 2))]
  rw [List.take_append_of_le_length (by simp only [List.length_append, List.length_take, List.length_drop]; omega)]
  exact List.take_of_length_le (by simp only [List.length_append, List.length_take, List.length_drop]; omega)
theorem tail_size (cur : Array Value) (i : Nat) (ys : List Value) (h : (i + 1) * 2 + ys.length ≤ cur.size) : (tailC cur i ys).size = cur.size := by
  unfold tailC
  have : cur.toList.length = cur.size := Array.length_toList
  simp only [List.size_toArray, List.length_append, List.length_take, List.length_drop]
  omega

set_option maxHeartbeats 4000000 in
theorem insert_grow (w : World) (g n cap i : Nat) (l : Row) (vb x c : Nat) (h : w.ownsRow 0 228 2 (.slice (some ⟨g, 0, none⟩) n cap) n (rowC l)) (hlen : n ≤ 1000000) (hin : i < n) (hroom : cap < n + 1) (hb : Blk w vb #[.int .i64 (x : Int), .int .u64 (c : Int)] 228) :
    Calls Tryz.prog 127 #[.slice (some ⟨g, 0, none⟩) n cap, .int .i64 (i : Int), .slice (some ⟨vb, 0, none⟩) 1 1] w fun e w' => ∃ v', e = .returned v' ∧
      w'.ownsRow 0 228 2 v' (n + 1) ((rowC l).take (i * 2) ++ (pairC (x, c) ++ (rowC l).drop (i * 2))) ∧ Below w.heap.size w w' ∧ v'.ownBlock = some w.heap.size := by
  have hcells := fun j u (hj : (rowC l)[j]? = some u) => (show w.cell? ⟨g, j, none⟩ = some u by have := h.cells (g := g) rfl j u hj; rwa [Addr.add_lit, Nat.zero_add] at this)
  have hgw : g < w.heap.size := (h.lt g rfl).2
  obtain ⟨hxl, h⟩ := h
  have hnc : n ≤ cap := by
    rcases h with ⟨h, _⟩ | ⟨g', cap', cur, hv, -, hg, hnc, hcap, hcs, htake⟩
    · cases h
    · simp only [Value.slice.injEq, Option.some.injEq, Addr.mk.injEq, and_true, true_and] at hv
      obtain ⟨rfl, rfl⟩ := hv
      exact hnc
  clear h
  obtain ⟨i0, hi0, hz0, hzs, hzb⟩ := info_parts info228
  have hvw : vb < w.heap.size := hb.lt
  have hik : i + (n + 1 - i) = n + 1 := by omega
  have hold : (Builtin.firstCells i0.size i (.slice (some ⟨g, 0, none⟩) i cap)).run Tryz.prog w.drew = .ok ((rowC l).take (i * 2)).toArray w.drew := by
    rw [hzs]
    exact run_firstCells_some w.drew 2 i ⟨g, 0, none⟩ i cap ((rowC l).take (i * 2)) (by rw [List.length_take]; omega) (fun j v hj => by
      rw [Addr.add_lit, Nat.zero_add]
      rw [List.getElem?_take] at hj
      split at hj
      · exact hcells j v hj
      · cases hj)
  obtain ⟨G, hG⟩ : ∃ G, G = grownCap w (n + 1) cap 228 := ⟨_, rfl⟩
  obtain ⟨ROW, hROW⟩ : ∃ ROW : Array Value, ROW = ((rowC l).take (i * 2)).toArray ++ Builtin.zeroCells (Value.agg #[.int .i64 0, .int .u64 0]).cells (n + 1 - i) ++ Builtin.zeroCells (Value.agg #[.int .i64 0, .int .u64 0]).cells (G - (n + 1)) := ⟨_, rfl⟩
  have hrz : ∀ ty, (Builtin.append_ #[113, 3] ty #[.slice (some ⟨g, 0, none⟩) i cap, .int .i64 ((n : Int) + 1 - (i : Int))]).run Tryz.prog w =
      .ok (.slice (some ⟨w.heap.size, 0, none⟩) (n + 1) G) (w.drew.alloc (.cells ROW 228)) := fun ty => by
    have h := Lib.run_append_grow_zeros w 113 3 ty 228 i0 _ .i64 .i64 Tryz.underlying113 Tryz.underlying3 hi0 hz0 (some ⟨g, 0, none⟩) i cap ((rowC l).take (i * 2)) hold (n + 1 - i) (by omega) (by omega) (by omega) (by omega) (by rw [hzb]; omega) (by rw [hzb, hik]; exact growslice_fits (by omega) (by omega))
    rw [hik, ← hG, ← hROW] at h
    rw [show (n : Int) + 1 - (i : Int) = ((n + 1 - i : Nat) : Int) from by omega]
    exact h
  have hGn : n + 1 ≤ G := by rw [hG]; exact grownCap_ge w _ _ _
  have hGm : G ≤ maxLen := by rw [hG]; exact grownCap_le_maxLen w (n + 1) cap 228 (by unfold maxLen; omega)
  have hG63 : G ≤ 9223372036854775807 := by unfold maxLen at hGm; omega
  have hRs : ROW.size = G * 2 := by
    rw [hROW]
    simp only [Array.size_append, List.size_toArray, List.length_take, size_zeroCells, Value.cells, hxl, List.size_toArray, List.length_cons, List.length_nil]
    omega
  have hRt : ROW.toList.take (i * 2) = (rowC l).take (i * 2) := by
    rw [hROW]
    simp only [Array.toList_append, List.append_assoc]
    rw [List.take_append_of_le_length (by simp only [List.length_take]; omega)]
    exact List.take_of_length_le (by simp only [List.length_take]; omega)
  obtain ⟨A1, hA1⟩ : ∃ A, A = putC ROW i (pairC (x, c)) := ⟨_, rfl⟩
  obtain ⟨A2, hA2⟩ : ∃ A, A = tailC A1 i ((rowC l).drop (i * 2)) := ⟨_, rfl⟩
  have s1 : A1.size = G * 2 := by rw [hA1, put_size _ _ _ rfl (by omega), hRs]
  have s2 : A2.size = G * 2 := by rw [hA2, tail_size _ _ _ (by rw [List.length_drop, hxl]; omega), s1]
  have hgR : ∀ W : World, W.heap = (w.drew.alloc (.cells ROW 228)).heap → W.heap[w.heap.size]? = some (.cells ROW 228 (0, 0)) := fun W hW => by rw [hW]; exact heap_alloc_new w.drew _
  have hold2 : ∀ W : World, W.heap = (w.drew.alloc (.cells ROW 228)).heap → ∀ b o, b < w.heap.size → W.cell? ⟨b, o, none⟩ = w.cell? ⟨b, o, none⟩ := fun W hW b o hb => World.cell?_of_block (w := w) (a := ⟨b, o, none⟩) (by rw [hW]; exact Below.heap_alloc w.drew _ b hb)
  have hcpA : ∀ W : World, W.heap = (w.drew.alloc (.cells ROW 228)).heap → ∀ ty dc, (Builtin.copy_ #[113, 113] ty #[.slice (some ⟨w.heap.size, i * 2, none⟩) (n + 1 - i) dc, .slice (some ⟨vb, 0, none⟩) 1 1]).run Tryz.prog W = .ok (goInt (Nat.min 1 (n + 1 - i))) (W.setRow w.heap.size A1) := fun W hW ty dc => by
    have hm : Nat.min 1 (n + 1 - i) = 1 := by simp only [Nat.min_def]; split <;> omega
    have k := run_copy2 W ty w.heap.size (i * 2) (n + 1 - i) dc ⟨vb, 0, none⟩ 1 1 ROW (pairC (x, c)) (hgR W hW) (by rw [hm]; rfl)
      (fun j u hj => by
        rw [Addr.add_lit, Nat.zero_add, hold2 W hW vb _ hvw]
        match j, hj with
        | 0, hj => simp [pairC] at hj; subst hj; exact hb.cell rfl
        | 1, hj => simp [pairC] at hj; subst hj; exact hb.cell rfl)
      (by rw [hRs]; show i * 2 + 2 ≤ _; omega) (fun u hu => by simp [pairC] at hu; rcases hu with rfl | rfl <;> rfl)
    rw [k, hA1]; rfl
  have hcpB : ∀ W : World, W.heap = ((w.drew.alloc (.cells ROW 228)).setRow w.heap.size A1).heap → ∀ ty dc sc, (Builtin.copy_ #[113, 113] ty #[.slice (some ⟨w.heap.size, (i + 1) * 2, none⟩) (n - i) dc, .slice (some ⟨g, i * 2, none⟩) (n - i) sc]).run Tryz.prog W = .ok (goInt (Nat.min (n - i) (n - i))) (W.setRow w.heap.size A2) := fun W hW ty dc sc => by
    have k := run_copy2 W ty w.heap.size ((i + 1) * 2) (n - i) dc ⟨g, i * 2, none⟩ (n - i) sc A1 ((rowC l).drop (i * 2)) (by rw [hW]; exact setRow_heap (w.drew.alloc _) w.heap.size ROW _ 228 _ (heap_alloc_new w.drew _)) (by rw [List.length_drop, hxl, show Nat.min (n - i) (n - i) = n - i from Nat.min_self _]; omega)
      (fun j u hj => by
        have hgg : W.heap[g]? = w.heap[g]? := by rw [hW, setRow_other (w.drew.alloc _) w.heap.size g A1 (by omega)]; exact Below.heap_alloc w.drew _ g hgw
        rw [Addr.add_lit, World.cell?_of_block (w := w) (a := ⟨g, i * 2 + j, none⟩) hgg]
        rw [List.getElem?_drop] at hj
        exact hcells _ u hj)
      (by rw [List.length_drop, hxl, s1]; omega) (fun u hu => rowC_one l u (List.mem_of_mem_drop hu))
    rw [k, hA2]; rfl
  have FIN := Lib.hid (show ∀ W : World, W.heap = ((w.drew.alloc (.cells ROW 228)).setRow w.heap.size A1).heap → W.os = w.os → W.tape = w.tape → W.output = w.output → (W.setRow w.heap.size A2).ownsRow 0 228 2 (.slice (some ⟨w.heap.size, 0, none⟩) (n + 1) G) (n + 1) ((rowC l).take (i * 2) ++ (pairC (x, c) ++ (rowC l).drop (i * 2))) ∧ Below w.heap.size w (W.setRow w.heap.size A2) from fun W hW o1 o2 o3 => by
    have hWN : W.heap[w.heap.size]? = some (.cells A1 228 (0, 0)) := by rw [hW]; exact setRow_heap (w.drew.alloc _) w.heap.size ROW _ 228 _ (heap_alloc_new w.drew _)
    refine ⟨⟨?_, .inr ⟨w.heap.size, G, A2, rfl, Nat.zero_le _, setRow_heap W w.heap.size A1 _ 228 _ hWN, hGn, hGm, by rw [s2], ?_⟩⟩, ⟨o1, o2, o3, ?_, fun k hk => ?_⟩⟩
    · simp only [List.length_append, List.length_take, List.length_drop, hxl, pairC, List.length_cons, List.length_nil]; omega
    · rw [hA2, hA1]; exact grow_take ROW n i _ _ hRt hxl hin rfl (by omega)
    · rw [size_setRow, hW, size_setRow]; simp
    · rw [setRow_other W w.heap.size k A2 (by omega), hW, setRow_other (w.drew.alloc _) w.heap.size k A1 (by omega)]; exact Below.heap_alloc w.drew _ k hk)
  have z1 : ¬ ((i : Int) = (n : Int)) := by omega
  have z2 : (cap : Int) < (n : Int) + 1 := by omega
  have z3 : ¬ (G = i) := by omega
  have z4 : ¬ (G = i + 1) := by omega
  have z5 : ¬ (cap = i) := by omega
  have mixed : Tryz.prog.follows Departure.mixedOrders = true := by kernel_rfl
  have hw1 : IntKind.i64.wrap ((i : Int) + 1) = (i : Int) + 1 := by rw [IntKind.wrap_i64]; omega
  have htn : ((i : Int) + 1).toNat = i + 1 := by omega
  have hb1 : (0 : Int) ≤ (i : Int) + 1 := by omega
  have hb3 : (i : Int) ≤ (n : Int) := by omega
  have hb4 : (i : Int) + 1 ≤ (n : Int) + 1 := by omega
  have hb5 : (i : Int) ≤ (n : Int) + 1 := by omega
  have hcpA' : ∀ ty dc, (Builtin.copy_ #[113, 113] ty #[.slice (some ⟨w.heap.size, i * 2, none⟩) (n + 1 - i) dc, .slice (some ⟨vb, 0, none⟩) 1 1]).run Tryz.prog (w.alloc (.cells ROW 228)).drew = .ok (goInt (Nat.min 1 (n + 1 - i))) ((w.alloc (.cells ROW 228)).drew.setRow w.heap.size A1) := fun ty dc => hcpA _ rfl ty dc
  have hcpB' : ∀ ty dc sc, (Builtin.copy_ #[113, 113] ty #[.slice (some ⟨w.heap.size, (i + 1) * 2, none⟩) (n - i) dc, .slice (some ⟨g, i * 2, none⟩) (n - i) sc]).run Tryz.prog ((w.alloc (.cells ROW 228)).drew.setRow w.heap.size A1).drew = .ok (goInt (Nat.min (n - i) (n - i))) (((w.alloc (.cells ROW 228)).drew.setRow w.heap.size A1).drew.setRow w.heap.size A2) := fun ty dc sc => hcpB ((w.alloc (.cells ROW 228)).drew.setRow w.heap.size A1).drew rfl ty dc sc
  clear hcpA hcpB
  clear hcells hik hold hROW hG hRs hRt hA1 hA2 s1 s2 hgR hold2 hb hxl hGm
  go_enter Tryz.func127, Tryz.ntmps127
  go_wp2_with (at_builtin; refine Lib.wpList_append_run _ rfl _ _ _ _ rfl _ _ rfl rfl _ _ (hrz _) ?_)
  go_region
  all_goals (try go_wp2)
  all_goals go_ret
  all_goals obtain ⟨f1, f2⟩ := FIN.out ((w.alloc (.cells ROW 228)).drew.setRow w.heap.size A1).drew rfl rfl rfl rfl
  all_goals exact ⟨_, rfl, f1, f2, rfl⟩

/-- a row's block behind a call: its own one, or a new one -/
def Kin (w : World) (v v' : Value) : Prop := v'.ownBlock = v.ownBlock ∨ ∃ k, v'.ownBlock = some k ∧ w.heap.size ≤ k

theorem insert_any (w : World) (v : Value) (l : Row) (p vb x c : Nat) (h : w.ownsRow 0 228 2 v l.length (rowC l)) (hlen : l.length ≤ 1000000) (hp : p ≤ l.length) (hb : Blk w vb #[.int .i64 (x : Int), .int .u64 (c : Int)] 228) (hne : v.ownBlock ≠ some vb) :
    Calls Tryz.prog 127 #[v, .int .i64 (p : Int), .slice (some ⟨vb, 0, none⟩) 1 1] w fun e w' => ∃ v', e = .returned v' ∧ w'.ownsRow 0 228 2 v' (l.length + 1) (rowC (l.take p ++ (x, c) :: l.drop p)) ∧
      Away (fun k => v.ownBlock = some k) w w' ∧ Kin w v v' := by
  have ec : rowC (l.take p ++ (x, c) :: l.drop p) = (rowC l).take (p * 2) ++ (pairC (x, c) ++ (rowC l).drop (p * 2)) := by
    rw [rowC_append, rowC_take, ← rowC_drop]; rfl
  by_cases he : p = l.length
  · subst he
    refine (insert_end w v l vb x c h hlen hb).mono fun e w' ⟨v', h1, h2, h3, h4⟩ => ⟨v', h1, ?_, h3, ?_⟩
    · rw [List.take_length, List.drop_length]; exact h2
    · rcases h4 with h4 | h4
      · exact .inl h4
      · exact .inr ⟨_, h4, Nat.le_refl _⟩
  · rcases owns_shape h with ⟨hv, hn, _⟩ | ⟨g, cap, hv, hnc, hcap, _, hg⟩
    · omega
    · subst hv
      rw [ec]
      by_cases hr : l.length + 1 ≤ cap
      · refine (insert_shift w g l.length cap p l vb x c h hlen (by omega) hr hb (fun e => hne (by rw [e]; rfl))).mono fun e w' ⟨h1, h2, h3⟩ => ⟨_, h1, h2, ?_, .inl rfl⟩
        exact h3.mono fun k _ hk => by subst hk; rfl
      · exact (insert_grow w g l.length cap p l vb x c h hlen (by omega) (by omega) hb).mono fun e w' ⟨v', h1, h2, h3, h4⟩ => ⟨v', h1, h2, Away.of_below h3, .inr ⟨_, h4, Nat.le_refl _⟩⟩

theorem addL_length_is {l : Row} {v : Nat} (c : Nat) (h : Rising l) (hp : posL l v < l.length) (he : (l[posL l v]'hp).1 = v) : (addL l v c).length = l.length := by
  rw [addL_has h c hp he]; simp
theorem addL_length_not {l : Row} {v : Nat} (c : Nat) (h : Rising l) (he : ∀ (hp : posL l v < l.length), (l[posL l v]'hp).1 ≠ v) : (addL l v c).length = l.length + 1 := by
  have := posL_le l v
  rw [addL_new h c he]; simp; omega
theorem isL_true {l : Row} {x : Nat} (h : isL l x = true) : ∃ hp : posL l x < l.length, (l[posL l x]'hp).1 = x := by
  unfold isL at h
  split at h
  · rename_i hp; exact ⟨hp, by simpa using h⟩
  · cases h
theorem isL_false {l : Row} {x : Nat} (h : isL l x = false) : ∀ hp : posL l x < l.length, (l[posL l x]'hp).1 ≠ x := by
  intro hp he
  unfold isL at h
  rw [dif_pos hp] at h
  simp [he] at h

theorem runs_add (w : World) (v : Value) (l : Row) (x c : Nat) (h : w.ownsRow 0 228 2 v l.length (rowC l)) (hr : Rising l) (hlen : l.length ≤ 1000000) (hc : 1 ≤ c) (hs : rowAt l x + c < 18446744073709551616) :
    Calls Tryz.prog 115 #[v, .int .i64 (x : Int), .int .u64 (c : Int)] w fun e w' => ∃ v', e = .returned v' ∧ w'.ownsRow 0 228 2 v' (addL l x c).length (rowC (addL l x c)) ∧
      Away (fun k => v.ownBlock = some k) w w' ∧ Kin w v v' := by
  have hf := find_any w 0 v l x h hr hlen
  have g1 : ((c : Int) == 0) = false := by simp; omega
  cases his : isL l x with
  | true =>
    obtain ⟨hp, he⟩ := isL_true his
    rw [his] at hf
    have hat := rowAt_is hr hp he
    rw [addL_length_is c hr hp he, addL_has hr c hp he]
    rw [rowC_set l (posL l x) hp]
    obtain ⟨p, hpp⟩ : ∃ p, p = posL l x := ⟨_, rfl⟩
    obtain ⟨c0, hc0⟩ : ∃ c0, c0 = (l[posL l x]'hp).2 := ⟨_, rfl⟩
    rw [← hc0] at hat ⊢
    rw [← hpp] at hf ⊢
    have hpl : p < l.length := by omega
    have hcc : (rowC l)[p * 2 + 1]? = some (.int .u64 (c0 : Int)) := by
      have := rowC_snd l (posL l x) hp
      rw [← hc0, ← hpp] at this
      exact this
    rcases owns_shape h with ⟨hv, hn, _⟩ | ⟨g, cap, hv, hnc, hcap, _, hg⟩
    · omega
    · subst hv
      obtain ⟨n, hn⟩ : ∃ n, n = l.length := ⟨_, rfl⟩
      rw [← hn] at h hf hpl hnc ⊢
      obtain ⟨z, hz⟩ : ∃ z, z = c0 + c := ⟨_, rfl⟩
      have f1 : IntKind.u64.wrap ((c0 : Int) + (c : Int)) = (z : Int) := by rw [show (c0 : Int) + (c : Int) = (z : Int) from by omega, IntKind.wrap_u64]; omega
      rw [← hz]
      have hl : ∀ w1, Below w.heap.size w w1 → w1.cell? ⟨g, p * 2 + 1, none⟩ = some (.int .u64 (c0 : Int)) ∧ w1.frozen? ⟨g, p * 2 + 1, none⟩ = false ∧ w1.ownsRow 0 228 2 (.slice (some ⟨g, 0, none⟩) n cap) n (rowC l) := fun w1 hb =>
        have h1 := owns_below h hb fun k hk => (h.lt k hk).2
        ⟨by rw [h1.cellAt _ (by omega)]; exact hcc, h1.frozenAt _, h1⟩
      have HL := Lib.hid hl
      have hnc' : n ≤ cap := hnc
      clear h hr hlen hc hs hp he hat hpp hc0 hcc hn his hz hl hcap hg
      go_enter Tryz.func115, Tryz.ntmps115
      go_wp2_with (go_at_call 114; refine hf.mono ?_; rintro e w1 ⟨rfl, hb1⟩; obtain ⟨k1, k2, k3⟩ := HL.out w1 hb1)
      go_ret
      obtain ⟨j1, j2⟩ := k3.stored (p * 2 + 1) (.int .u64 (z : Int))
      refine ⟨_, rfl, j1, ?_, .inl rfl⟩
      exact (Away.of_below hb1).trans' (Away.of_grown j2 fun k hk => hk) (fun k _ hk => hk) (fun k _ hk => hk)
  | false =>
    have hno := isL_false his
    rw [his] at hf
    rw [addL_length_not c hr hno, addL_new hr c hno]
    have hp := posL_le l x
    obtain ⟨p, hpp⟩ : ∃ p, p = posL l x := ⟨_, rfl⟩
    rw [← hpp] at hf hp ⊢
    have hins : ∀ w1, Below w.heap.size w w1 → Calls Tryz.prog 127 #[v, .int .i64 (p : Int), .slice (some ⟨w1.heap.size, 0, none⟩) 1 1] (w1.alloc (.cells #[.int .i64 (x : Int), .int .u64 (c : Int)] 228)) fun e w' => ∃ v', e = .returned v' ∧ w'.ownsRow 0 228 2 v' (l.length + 1) (rowC (l.take p ++ (x, c) :: l.drop p)) ∧
      Away (fun k => v.ownBlock = some k) w w' ∧ Kin w v v' := fun w1 hb => by
      have h1 := owns_below h hb fun k hk => (h.lt k hk).2
      refine (insert_any (w1.alloc _) v l p w1.heap.size x c (h1.alloc _) hlen hp (Blk.new w1 _ _) (fun e => absurd (h1.lt _ e).2 (Nat.lt_irrefl _))).mono fun e w' ⟨v', a1, a2, a3, a4⟩ => ⟨v', a1, a2, ?_, ?_⟩
      · exact ((Away.of_below hb).alloc _).trans' a3 (fun k _ hk => hk) (fun k _ hk => hk)
      · rcases a4 with a4 | ⟨k, a4, a5⟩
        · exact .inl a4
        · exact .inr ⟨k, a4, by have := hb.size; simp at a5; omega⟩
    clear h hr hno hpp his hs
    go_enter Tryz.func115, Tryz.ntmps115
    go_wp2_with (first | (go_at_call 114; refine hf.mono ?_; rintro e w1 ⟨rfl, hb1⟩) | (go_at_call 127; refine (hins _ hb1).mono ?_; rintro e w2 ⟨v2, rfl, r1, r2, r3⟩))
    go_ret
    exact ⟨v2, rfl, r1, r2, r3⟩
end Go.Proofs.YtbejdajkkoapgaaGreatDoor

/-
  Contract of strip.Add: so many more of an index; the strip's two blocks alone have turned. Conditions: there is room, the sum is a count.
-/
set_option linter.unusedVariables false
set_option linter.unusedSimpArgs false
set_option maxRecDepth 100000
namespace Go.Proofs.YtbejdajkkoapgaaGreatDoor
open Go.RowKit Go.Lib

theorem owns_slice {w : World} {base : Nat} {e : TypeId} {size : Nat} {v : Value} {n : Nat} {xs : List Value} (h : w.ownsRow base e size v n xs) : ∃ A c, v = .slice A n c := by
  rcases owns_shape h with ⟨hv, hn, _⟩ | ⟨g, cap, hv, _⟩
  · exact ⟨none, 0, by rw [hv, hn]⟩
  · exact ⟨_, _, hv⟩
theorem rowTotal_adds (l : Row) (x c : Nat) : rowTotal (addL l x c) = rowTotal l + c := by unfold rowTotal; rw [sumIf_add]; simp
theorem rowAt_le_total (l : Row) (x : Nat) : rowAt l x ≤ rowTotal l := sumIf_le _ _ _ fun _ _ _ => rfl

set_option maxHeartbeats 4000000 in
theorem strip_add (w : World) (sb : Nat) (v : Value) (l : Row) (x c : Nat) (h : StripO w sb v l) (hc : 1 ≤ c) (hs : rowTotal l + c ≤ 9223372036854775807) (hlen : l.length < 4096) :
    Calls Tryz.prog 93 #[.pointer (some ⟨sb, 0, none⟩), .int .i64 (x : Int), .int .u64 (c : Int)] w fun e w' => e = .returned (.int .i64 0) ∧ ∃ v', StripO w' sb v' (addL l x c) ∧
      Away (fun k => k = sb ∨ v.ownBlock = some k) w w' ∧ Kin w v v' := by
  obtain ⟨c0, c1, c2, f1, f2⟩ := h.cells
  have g1 : ((c : Int) == 0) = false := by simp; omega
  have hra := rowAt_le_total l x
  obtain ⟨t, ht⟩ : ∃ t, t = rowTotal l := ⟨_, rfl⟩
  have hpl := fun W b h0 h1 => plus_any W b t c (by omega) h0 h1
  have hfi := fun (W : World) (hb : Below w.heap.size w W) => find_any W 0 v l x (h.next hb).own h.rising (by omega)
  rw [← ht] at c2
  have H := Lib.hid h
  obtain ⟨A, n, cap, hv, hn⟩ : ∃ A n cap, v = .slice A n cap ∧ n = l.length := by
    rcases owns_shape h.own with ⟨hv, hn, _⟩ | ⟨g, cap, hv, _⟩
    · exact ⟨none, 0, 0, hv, hn.symm⟩
    · exact ⟨_, _, _, hv, rfl⟩
  have hn96 : ¬ (4096 : Int) ≤ (n : Int) := by omega
  have FIN := Lib.hid (show ∀ (w1 w2 : World) (v2 : Value), Below w.heap.size w w1 → w2.ownsRow 0 228 2 v2 (addL l x c).length (rowC (addL l x c)) → Away (fun k => v.ownBlock = some k) w1 w2 → Kin w1 v v2 →
      (∃ v', StripO ((w2.setCell ⟨sb, 1, none⟩ v2).setCell ⟨sb, 2, none⟩ (.int .u64 ((t + c : Nat) : Int))) sb v' (addL l x c) ∧ Away (fun k => k = sb ∨ v.ownBlock = some k) w ((w2.setCell ⟨sb, 1, none⟩ v2).setCell ⟨sb, 2, none⟩ (.int .u64 ((t + c : Nat) : Int))) ∧ Kin w v v') ∧
      w2.cell? ⟨sb, 1, none⟩ = some v ∧ w2.cell? ⟨sb, 2, none⟩ = some (.int .u64 (t : Int)) ∧ w2.frozen? ⟨sb, 1, none⟩ = false ∧ w2.frozen? ⟨sb, 2, none⟩ = false from fun w1 w2 v2 b1 o2 a2 k2 => by
    have hs1 := h.blk.below b1 h.blk.lt
    have hne := h.ne
    have hs2 := hs1.away a2 hne
    have hsz : sb < w.heap.size := h.blk.lt
    have hv2 : v2.ownBlock ≠ some sb := by
      intro e
      obtain ⟨cur, hcur⟩ := owns_blk o2 e
      exact (hs2.ne hcur (by decide)) rfl
    refine ⟨⟨v2, ⟨?_, owns_other (owns_other o2 _ _ hv2) _ _ hv2, rising_addL h.rising, full_addL h.full hc⟩, ?_, ?_⟩, hs2.cell rfl, by rw [ht]; exact hs2.cell rfl, hs2.frozen 1, hs2.frozen 2⟩
    · rw [rowTotal_adds, ← ht]
      exact (hs2.set 1 v2).set 2 _
    · refine Away.setCell (Away.setCell ?_ _ _ (.inl (.inl rfl))) _ _ (.inl (.inl rfl))
      exact (Away.of_below (F := fun k => k = sb ∨ v.ownBlock = some k) b1).trans' a2 (fun k _ hk => hk) (fun k _ hk => .inr hk)
    · rcases k2 with k2 | ⟨k, k2, k3⟩
      · exact .inl k2
      · exact .inr ⟨k, k2, Nat.le_trans b1.size k3⟩)
  have hadd := Lib.hid (show ∀ w1 : World, Below w.heap.size w w1 → Calls Tryz.prog 115 #[v, .int .i64 (x : Int), .int .u64 (c : Int)] w1 fun e w' => ∃ v', e = .returned v' ∧ w'.ownsRow 0 228 2 v' (addL l x c).length (rowC (addL l x c)) ∧
      Away (fun k => v.ownBlock = some k) w1 w' ∧ Kin w1 v v' from fun w1 b1 => runs_add w1 v l x c (h.next b1).own h.rising (by omega) hc (by omega))
  have hfi' := Lib.hid hfi
  have hpl' := Lib.hid hpl
  have hcl := Lib.hid (show ∀ w1 : World, Below w.heap.size w w1 → w1.cell? ⟨sb, 0, none⟩ = some (.int .i64 4096) ∧ w1.cell? ⟨sb, 1, none⟩ = some v ∧ w1.cell? ⟨sb, 2, none⟩ = some (.int .u64 (t : Int)) from fun w1 b1 => ⟨(b1.cell (p := ⟨sb, 0, none⟩) h.blk.lt).trans c0, (b1.cell (p := ⟨sb, 1, none⟩) h.blk.lt).trans c1, (b1.cell (p := ⟨sb, 2, none⟩) h.blk.lt).trans c2⟩)
  subst hv
  clear hfi hpl h hra hs ht hn hc hlen
  go_enter Tryz.func93, Tryz.ntmps93
  go_wp2_with fail
  refine (hpl'.out _ _ (by simp) (by simp)).mono ?_
  rintro e w1 ⟨rfl, rfl⟩
  have hsb := H.out.blk.lt
  have hB1 : Below w.heap.size w (w.alloc (.cells #[.int .u64 (t : Int), .int .u64 (c : Int)] 23)) := (Below.refl _ _).alloc (Nat.le_refl _) _
  go_wp2_with fail
  refine (hfi'.out _ hB1).mono ?_
  rintro e w2 ⟨rfl, hb2⟩
  have hB2 := hB1.trans (hb2.mono hB1.size)
  clear hb2 hB1
  obtain ⟨k0, k1, k2⟩ := hcl.out w2 hB2
  have hB3 : ∀ q, Below w.heap.size w (w2.drewN q) := fun q => ⟨hB2.os, hB2.tape, hB2.output, hB2.size, hB2.block⟩
  cases his : isL l x with
  | true =>
    clear his
    go_wp2_with fail
    go_quiet (fail)
    go_wp2_with (go_at_call 115; refine (hadd.out _ (hB3 _)).mono ?_; rintro e w3 ⟨v3, rfl, o3, a3, q3⟩; obtain ⟨A3, n3, hv3⟩ := owns_slice o3; subst hv3; obtain ⟨r1, r2, r3, r4, r5⟩ := FIN.out _ w3 _ (hB3 _) o3 a3 q3)
    go_ret
    exact ⟨rfl, r1⟩
  | false =>
    clear his
    go_wp2_with fail
    go_quiet (fail)
    go_wp2_with (go_at_call 115; refine (hadd.out _ (hB3 _)).mono ?_; rintro e w3 ⟨v3, rfl, o3, a3, q3⟩; obtain ⟨A3, n3, hv3⟩ := owns_slice o3; subst hv3; obtain ⟨r1, r2, r3, r4, r5⟩ := FIN.out _ w3 _ (hB3 _) o3 a3 q3)
    go_ret
    exact ⟨rfl, r1⟩
end Go.Proofs.YtbejdajkkoapgaaGreatDoor

