/-
  Several texts in one: J16. What each proves, and on which conditions, stands at its head. Conditions: stated in each.
-/
import Derived.Test.YtbejdajkkoapgaaGreatDoorS18
import Derived.Deep.LoopGhost
/-
  Several texts in one: Md, Tn. What each proves, and on which conditions, stands at its head. Conditions: stated in each.
-/
/-
  Contract of made, for any kind that keeps its laws. Conditions: few values, in their range.
-/
set_option linter.unusedVariables false
set_option linter.unusedSimpArgs false
set_option maxRecDepth 100000
namespace Go.Proofs.YtbejdajkkoapgaaGreatDoor
open Go.RowKit Go.Lib

/-- what made answers -/
def MadeP (Sk : World → Nat → (Nat → Prop) → Vals → Prop) (P : Int × Nat → Bool) (l : Vals) (w : World) (e : Ending) (w' : World) : Prop := ∃ (po : Option Addr) (vv : Value) (ok : Bool), e = .returned (.tuple #[.pointer po, vv, .bool ok]) ∧ Below w.heap.size w w' ∧
  (ok = true → ∃ kb O, po = some ⟨kb, 0, none⟩ ∧ Sk w' kb O (l.filter P) ∧ w'.ownsRow 0 59 2 vv (l.filter P).length (valsC (l.filter P)) ∧ ∀ k, O k → w.heap.size ≤ k)
theorem filt_take {α : Type} (P : α → Bool) (l : List α) (q : Nat) (h : q < l.length) : (l.take (q + 1)).filter P = (l.take q).filter P ++ (if P (l[q]'h) then [l[q]'h] else []) := by
  rw [List.take_succ_eq_append_getElem h, List.filter_append]
  congr 1
  by_cases hp : P (l[q]'h) = true
  · simp [hp]
  · simp [hp]
section
variable {Sk : World → Nat → (Nat → Prop) → Vals → Prop} {Enc : List UInt8 → Vals → Prop} {P : Int × Nat → Bool} {a0 a1 a2 a3 a4 a5 a6 a7 a8 a9 a10 : Int}

set_option maxHeartbeats 4000000 in
theorem made_any (K : Kind (cfgV a0 a1 a2 a3 a4 a5 a6 a7 a8 a9 a10) Sk Enc P) (w : World) (ht : Sp.Tens w) (v : Value) (l : Vals) (bt : Bool) (hv : ValsR w v l) (hl : Few l) (hi : InV l) :
    Calls Tryz.prog 21 #[.agg #[.int .i64 a0, .int .u64 a1, .int .u64 a2, .int .i64 a3, .int .i64 a4, .int .i64 a5, .int .u64 a6, .int .i64 a7, .int .i64 a8, .int .i64 a9, .int .u64 a10], .agg #[v, .bool bt]] w (MadeP Sk P l w) := by
  obtain ⟨Av, cv, hvv⟩ := hv.slice
  subst hvv
  obtain ⟨n, hn⟩ : ∃ n, n = l.length := ⟨_, rfl⟩
  have HN := Lib.hid hn
  have HV := Lib.hid hv
  have hn30 : n ≤ 30 := by rw [hn]; exact hl.1
  rw [← hn]
  have hnew := fun W (k : Below w.heap.size w W) => K.new W (ht.next k)
  unfold cfgV at hnew
  have w0e : w.heap.size + 1 = (w.alloc (.cells #[.int .i64 a0, .int .u64 a1, .int .u64 a2, .int .i64 a3, .int .i64 a4, .int .i64 a5, .int .u64 a6, .int .i64 a7, .int .i64 a8, .int .i64 a9, .int .u64 a10] 28)).heap.size := by simp
  have L0 : Blk ((w.alloc (.cells #[.int .i64 a0, .int .u64 a1, .int .u64 a2, .int .i64 a3, .int .i64 a4, .int .i64 a5, .int .u64 a6, .int .i64 a7, .int .i64 a8, .int .i64 a9, .int .u64 a10] 28)).alloc (.cells #[.slice Av n cv, .bool bt] 55)) (w.heap.size + 1) #[.slice Av n cv, .bool bt] 55 := Blk.newAt w0e
  have hb0 : Below w.heap.size w ((w.alloc (.cells #[.int .i64 a0, .int .u64 a1, .int .u64 a2, .int .i64 a3, .int .i64 a4, .int .i64 a5, .int .u64 a6, .int .i64 a7, .int .i64 a8, .int .i64 a9, .int .u64 a10] 28)).alloc (.cells #[.slice Av n cv, .bool bt] 55)) := ((Below.refl _ w).alloc (Nat.le_refl _) _).alloc (by simp) _
  have HL := Lib.hid (And.intro L0 hb0)
  clear hn hv L0 hb0 w0e
  go_enter Tryz.func21, Tryz.ntmps21
  go_wp2_with fail
  refine (hnew _ HL.out.2).mono ?_
  rintro e w1 ⟨po, code, rfl, b1, h1⟩
  clear hnew
  obtain ⟨L0, b0⟩ := HL.out
  have L1 := L0.below b1 L0.lt
  have B1 := b0.trans (b1.mono b0.size)
  have HS := Lib.hid (show code = 0 → ∃ kb O, po = some ⟨kb, 0, none⟩ ∧ MdS Sk w kb O [] [] none 0 #[.slice Av n cv, .bool bt] w1 from fun hc => by
    obtain ⟨kb, O, hpo, hsk, hO⟩ := h1 hc
    exact ⟨kb, O, hpo, hsk, World.ownsRow_nil _ _ _ _, B1, fun k hk => by have := hO k hk; simp at this; omega, L1⟩)
  have HB := Lib.hid B1
  clear h1 L0 L1 b0 b1 HL B1
  by_cases hc : code = 0
  · subst hc
    obtain ⟨kb, O, rfl, S⟩ := HS.out rfl
    clear HS HB
    have c0 : w1.cell? ⟨w.heap.size + 1, 0, none⟩ = some (.slice Av n cv) := S.leaf.cell rfl
    go_wp2_with fail
    go_loopg [9, 24] n (fun g r i wr => ∃ (q : Nat) (A : Option Addr) (c : Nat) (O : Nat → Prop), i = .int .i64 (q : Int) ∧ q ≤ n ∧ n - q ≤ g ∧ r = .slice A ((l.take q).filter P).length c ∧ MdS Sk w kb O ((l.take q).filter P) ((l.take q).filter P) A c #[.slice Av n cv, .bool bt] wr)
    case atStart => exact ⟨0, none, 0, O, rfl, Nat.zero_le _, Nat.le_refl _, rfl, S⟩
    case round =>
      clear S c0
      obtain ⟨q, A, c, O, rfl, hq, hg, rfl, S⟩ := hrel
      have hfl : ((l.take q).filter P).length ≤ q := Nat.le_trans (List.length_filter_le _ _) (List.length_take_le _ _)
      by_cases hqn : q < n
      · have g1 : (q : Int) < (n : Int) := by omega
        have hql : q < l.length := by rw [← HN.out]; exact hqn
        rcases HV.out.2 with ⟨rfl, _⟩ | ⟨b, o, c', hv', hb1, hcc⟩
        · simp at hql
        simp only [Value.slice.injEq] at hv'
        obtain ⟨rfl, _, rfl⟩ := hv'
        obtain ⟨d0, d1⟩ := hcc q hql
        rw [← S.below.cell (p := ⟨b, _, none⟩) hb1] at d0 d1
        have hft := filt_take P l q hql
        have hxi := hi _ (List.getElem_mem hql)
        have hin : InV ((l.take q).filter P) := fun x hx => hi x (List.mem_of_mem_take (List.mem_filter.1 hx).1)
        obtain ⟨x, hx⟩ : ∃ x, x = l[q]'hql := ⟨_, rfl⟩
        rw [← hx] at d0 d1 hft hxi
        obtain ⟨X, C⟩ := x
        simp only at d0 d1 hxi
        have S1 := S.next K ((Below.refl _ _).alloc (Nat.le_refl _) (.cells #[.int .i64 X, .int .u64 (C : Int)] 59))
        have hput := K.put _ kb O _ (X, C) S1.sk hin (by omega) hxi.1 hxi.2
        obtain ⟨vs, hvs⟩ : ∃ vs, vs = (l.take q).filter P := ⟨_, rfl⟩
        rw [← hvs] at S S1 hput hft hfl ⊢
        have X1 : Blk (wr.alloc (.cells #[.int .i64 X, .int .u64 (C : Int)] 59)) wr.heap.size #[.int .i64 X, .int .u64 (C : Int)] 59 := Blk.newAt rfl
        have HF := Lib.hid hft
        clear hx hvs hft hcc S hin
        have hlast := X1.lt
        go_wp2_with fail
        refine hput.mono ?_
        rintro e w2 ⟨code2, O', rfl, hcd, hsk, hsub, haw⟩
        have S2 := S1.put K hsk hsub haw
        have X2 := X1.away haw fun hO => (K.ty S1.sk _ hO _).1 X1
        have x0 : w2.cell? ⟨wr.heap.size, 0, none⟩ = some (.int .i64 X) := X2.cell rfl
        have x1 : w2.cell? ⟨wr.heap.size, 1, none⟩ = some (.int .u64 (C : Int)) := X2.cell rfl
        clear hput hsk hsub haw X1 X2 S1
        by_cases hP : P (X, C) = true
        · have h0 : code2 = 0 := hcd.2 hP
          subst h0
          rw [if_pos hP] at S2
          rw [if_pos hP] at HF
          have HS := Lib.hid S2
          clear S2 hcd
          go_wp2_with (at_builtin; refine wpList_val K rfl _ _ rfl HS.out (by omega) X C rfl rfl ?_)
          intro A3 c3 w3 S3
          have H3 := Lib.hid S3
          clear S3
          go_wp2_with fail
          go_roundg (n - (q + 1))
          case measure => omega
          exact ⟨q + 1, A3, c3, O', by go_num, by omega, by omega, by rw [HF.out]; simp, by rw [HF.out]; exact H3.out⟩
        · have h0 : ¬ code2 = 0 := fun h => hP (hcd.1 h)
          have h1 : (code2 == 0) = false := by simp [h0]
          rw [if_neg hP] at S2
          rw [if_neg hP, List.append_nil] at HF
          have HS := Lib.hid S2
          clear S2 hcd
          go_wp2_with fail
          go_roundg (n - (q + 1))
          case measure => omega
          exact ⟨q + 1, A, c, O', by go_num, by omega, by omega, by rw [HF.out], by rw [HF.out]; exact HS.out⟩
      · have g1 : ¬ (q : Int) < (n : Int) := by omega
        have hqe : l.take q = l := by rw [show q = l.length by have := HN.out; omega, List.take_length]
        rw [hqe] at S hfl ⊢
        have hin : InV (l.filter P) := fun x hx => hi x (List.mem_filter.1 hx).1
        generalize hvs : l.filter P = vs at S hfl hin ⊢
        have HW := Lib.hid hvs
        have c1 : wr.cell? ⟨w.heap.size + 1, 1, none⟩ = some (.bool bt) := S.leaf.cell rfl
        clear hqe hvs
        have FIN := Lib.hid (show ∀ (W : World) (kb' : Nat) (O' : Nat → Prop) (vv : Value) (e : Ending), e = .returned (.tuple #[.pointer (some ⟨kb', 0, none⟩), vv, .bool true]) → Below w.heap.size w W → Sk W kb' O' vs → W.ownsRow 0 59 2 vv vs.length (valsC vs) → (∀ k, O' k → w.heap.size ≤ k) → MadeP Sk P l w e W from
          fun W kb' O' vv e he hb hs hv ho => ⟨_, _, true, he, hb, fun _ => ⟨kb', O', rfl, by rw [HW.out]; exact hs, by rw [HW.out]; exact hv, ho⟩⟩)
        cases bt with
        | false =>
          have HS := Lib.hid S
          clear S
          go_wp2_with fail
          go_ret3
          exact FIN.out _ kb O _ _ rfl HS.out.below HS.out.sk (owns_base HS.out.own fun _ _ => Nat.zero_le _) fun k hk => by have := HS.out.new k hk; omega
        | true =>
          have hby := K.bytes wr kb O vs S.sk hin (by omega)
          have HS := Lib.hid S
          clear S
          go_wp2_with fail
          refine hby.mono ?_
          rintro e w2 ⟨s, rfl, henc, b2⟩
          have hde := K.decode w2 s vs (ht.next (HS.out.below.trans (b2.mono HS.out.below.size))) henc hin (by omega)
          have HS2 := Lib.hid (HS.out.next K b2)
          clear hby HS b2
          go_wp2_with fail
          refine hde.mono ?_
          rintro e w3 ⟨po, code3, rfl, b3, h3⟩
          have HS3 := Lib.hid (And.intro (HS2.out.next K b3) (And.intro h3 HS2.out.below.size))
          clear hde HS2 b3 h3
          by_cases hc3 : code3 = 0
          · subst hc3
            go_wp2_with fail
            go_ret3
            obtain ⟨s1, h3, hz⟩ := HS3.out
            obtain ⟨kb', O', rfl, hsk, hnew⟩ := h3 (by first | rfl | trivial)
            exact FIN.out _ kb' O' _ _ rfl s1.below hsk (owns_base s1.own fun _ _ => Nat.zero_le _) fun k hk => by have := hnew k hk; omega
          · have h0 : (code3 == 0) = false := by simp [hc3]
            go_wp2_with fail
            go_ret3
            exact ⟨_, _, false, rfl, HS3.out.1.below, fun h => by cases h⟩
  · have hc1 : (code != 0) = true := by simp [hc]
    go_wp2_with fail
    go_ret3
    exact ⟨none, _, false, rfl, HB.out, fun h => by cases h⟩
end
end Go.Proofs.YtbejdajkkoapgaaGreatDoor

/-
  Contract of tree, for any kind that keeps its laws. Conditions: few leaves, few values, in their range.
-/
set_option linter.unusedVariables false
set_option linter.unusedSimpArgs false
set_option maxRecDepth 100000
namespace Go.Proofs.YtbejdajkkoapgaaGreatDoor
open Go.RowKit Go.Lib

theorem cfgV_cells {W : World} {b : Nat} {a0 a1 a2 a3 a4 a5 a6 a7 a8 a9 a10 : Int} (h : Blk W b (cfgV a0 a1 a2 a3 a4 a5 a6 a7 a8 a9 a10) 28) : W.cell? ⟨b, 0, none⟩ = some (.int .i64 a0) ∧ W.cell? ⟨b, 1, none⟩ = some (.int .u64 a1) ∧ W.cell? ⟨b, 2, none⟩ = some (.int .u64 a2) ∧ W.cell? ⟨b, 3, none⟩ = some (.int .i64 a3) ∧ W.cell? ⟨b, 4, none⟩ = some (.int .i64 a4) ∧ W.cell? ⟨b, 5, none⟩ = some (.int .i64 a5) ∧
    W.cell? ⟨b, 6, none⟩ = some (.int .u64 a6) ∧ W.cell? ⟨b, 7, none⟩ = some (.int .i64 a7) ∧ W.cell? ⟨b, 8, none⟩ = some (.int .i64 a8) ∧ W.cell? ⟨b, 9, none⟩ = some (.int .i64 a9) ∧ W.cell? ⟨b, 10, none⟩ = some (.int .u64 a10) :=
  ⟨h.cell rfl, h.cell rfl, h.cell rfl, h.cell rfl, h.cell rfl, h.cell rfl, h.cell rfl, h.cell rfl, h.cell rfl, h.cell rfl, h.cell rfl⟩
theorem pick_at (z : Int) (n : Nat) (hn : 1 < n) (h : n ≤ 1000) : ∃ t : Nat, wrap64 ((IntKind.u64.wrap z).tmod ((n : Int) - 1)) = (t : Int) ∧ t + 1 < n := by
  have h0 : 0 ≤ IntKind.u64.wrap z := by rw [IntKind.wrap_u64]; omega
  rw [Int.tmod_eq_emod_of_nonneg h0]
  have h1 := Int.emod_nonneg (IntKind.u64.wrap z) (b := (n : Int) - 1) (by omega)
  have h2 := Int.emod_lt_of_pos (IntKind.u64.wrap z) (b := (n : Int) - 1) (by omega)
  generalize IntKind.u64.wrap z % ((n : Int) - 1) = y at *
  refine ⟨y.toNat, ?_, by omega⟩
  unfold wrap64
  omega
theorem rk_merge {α : Type} (pre post : List α) (a b : α) (t : Nat) (h : pre.length = t) : (pre ++ a :: b :: post).take (t + 1) ++ (pre ++ a :: b :: post).drop (t + 2) = pre ++ a :: post := by
  subst h
  have e1 : (pre ++ a :: b :: post).take (pre.length + 1) = pre ++ [a] := by
    rw [show pre ++ a :: b :: post = (pre ++ [a]) ++ b :: post by simp, show pre.length + 1 = (pre ++ [a]).length by simp, List.take_left]
  have e2 : (pre ++ a :: b :: post).drop (pre.length + 2) = post := by
    rw [show pre ++ a :: b :: post = (pre ++ [a, b]) ++ post by simp, show pre.length + 2 = (pre ++ [a, b]).length by simp, List.drop_left]
  rw [e1, e2]; simp
/-- a row of numbers, somewhere in memory -/
def IntsR (w : World) (v : Value) (zs : List Int) : Prop :=
  zs.length ≤ maxLen ∧ (∀ z ∈ zs, I64 z) ∧ ((zs = [] ∧ ∃ A c, v = .slice A 0 c) ∨ ∃ b o c, v = .slice (some ⟨b, o, none⟩) zs.length c ∧ b < w.heap.size ∧ ∀ i (h : i < zs.length), w.cell? ⟨b, o + i, none⟩ = some (.int .i64 (zs[i]'h)))
theorem IntsR.slice {w : World} {v : Value} {zs : List Int} (h : IntsR w v zs) : ∃ A c, v = .slice A zs.length c := by
  rcases h.2.2 with ⟨rfl, A, c, rfl⟩ | ⟨b, o, c, rfl, _⟩
  · exact ⟨A, c, rfl⟩
  · exact ⟨_, c, rfl⟩
/-- all values that are taken, of the first leaves -/
def allOf (P : Int × Nat → Bool) (L : Leaves) (q : Nat) : Vals := (L.take q).flatMap fun x => x.1.filter P
theorem allOf_succ (P : Int × Nat → Bool) (L : Leaves) (q : Nat) (h : q < L.length) : allOf P L (q + 1) = allOf P L q ++ (L[q]'h).1.filter P := by
  unfold allOf; rw [List.take_succ_eq_append_getElem h, List.flatMap_append]; simp
theorem allOf_len (P : Int × Nat → Bool) (L : Leaves) (hL : FewAll L) (q : Nat) : (allOf P L q).length ≤ 30 * q := by
  induction q with
  | zero => simp [allOf]
  | succ q ih =>
    by_cases h : q < L.length
    · rw [allOf_succ P L q h, List.length_append]
      have h1 := (hL.2 _ (List.getElem_mem h)).1
      have h2 := List.length_filter_le P (L[q]'h).1
      omega
    · have : allOf P L (q + 1) = allOf P L q := by unfold allOf; rw [List.take_of_length_le (by omega), List.take_of_length_le (by omega)]
      rw [this]; omega
theorem allOf_in (P : Int × Nat → Bool) (L : Leaves) (hi : ∀ x ∈ L, InV x.1) (q : Nat) : InV (allOf P L q) := fun y hy => by
  unfold allOf at hy
  obtain ⟨x, hx, hy⟩ := List.mem_flatMap.1 hy
  exact hi x (List.mem_of_mem_take hx) y (List.mem_filter.1 hy).1

/-- what tree answers -/
def TreeP (Sk : World → Nat → (Nat → Prop) → Vals → Prop) (P : Int × Nat → Bool) (L : Leaves) (w : World) (e : Ending) (w' : World) : Prop := ∃ (po : Option Addr) (vv : Value) (ok : Bool), e = .returned (.tuple #[.pointer po, vv, .bool ok]) ∧ Below w.heap.size w w' ∧
  (ok = true → ∃ kb O, po = some ⟨kb, 0, none⟩ ∧ Sk w' kb O (allOf P L L.length) ∧ w'.ownsRow 0 59 2 vv (allOf P L L.length).length (valsC (allOf P L L.length)) ∧ ∀ k, O k → w.heap.size ≤ k)
section
variable {Sk : World → Nat → (Nat → Prop) → Vals → Prop} {Enc : List UInt8 → Vals → Prop} {P : Int × Nat → Bool} {a0 a1 a2 a3 a4 a5 a6 a7 a8 a9 a10 : Int}

set_option maxHeartbeats 8000000 in
theorem tree_any (K : Kind (cfgV a0 a1 a2 a3 a4 a5 a6 a7 a8 a9 a10) Sk Enc P) (w : World) (ht : Sp.Tens w) (v pv : Value) (L : Leaves) (zs : List Int) (hv : LeavesR w v L) (hp : IntsR w pv zs) (hL : FewAll L) (hi : ∀ x ∈ L, InV x.1) :
    Calls Tryz.prog 9 #[.agg #[.int .i64 a0, .int .u64 a1, .int .u64 a2, .int .i64 a3, .int .i64 a4, .int .i64 a5, .int .u64 a6, .int .i64 a7, .int .i64 a8, .int .i64 a9, .int .u64 a10], v, pv] w (TreeP Sk P L w) := by
  obtain ⟨Av, cv, hvv⟩ := hv.slice
  subst hvv
  obtain ⟨Ap, cp, hpp⟩ := hp.slice
  subst hpp
  obtain ⟨m, hm⟩ : ∃ m, m = L.length := ⟨_, rfl⟩
  have HM := Lib.hid hm
  have HV := Lib.hid hv
  have HP := Lib.hid hp
  have hm12 : m ≤ 12 := by rw [hm]; exact hL.1
  rw [← hm]
  obtain ⟨pn, hpn⟩ : ∃ pn, pn = zs.length := ⟨_, rfl⟩
  have HPN := Lib.hid hpn
  have hpl : pn ≤ maxLen := by rw [hpn]; exact hp.1
  unfold maxLen at hpl
  rw [← hpn]
  have C0 : Blk (w.alloc (.cells #[.int .i64 a0, .int .u64 a1, .int .u64 a2, .int .i64 a3, .int .i64 a4, .int .i64 a5, .int .u64 a6, .int .i64 a7, .int .i64 a8, .int .i64 a9, .int .u64 a10] 28)) w.heap.size (cfgV a0 a1 a2 a3 a4 a5 a6 a7 a8 a9 a10) 28 := Blk.newAt rfl
  have S0 : TrS Sk w (cfgV a0 a1 a2 a3 a4 a5 a6 a7 a8 a9 a10) [] [] [] (.slice none 0 0) (.slice none 0 0) (w.alloc (.cells #[.int .i64 a0, .int .u64 a1, .int .u64 a2, .int .i64 a3, .int .i64 a4, .int .i64 a5, .int .u64 a6, .int .i64 a7, .int .i64 a8, .int .i64 a9, .int .u64 a10] 28)) :=
    ⟨fun x hx => by simp at hx, List.Pairwise.nil, fun x hx => by simp at hx, World.ownsRow_nil _ _ _ _, World.ownsRow_nil _ _ _ _, (Below.refl _ _).alloc (Nat.le_refl _) _, C0⟩
  have HTW := Lib.hid ht
  clear hm hv hp hpn C0 ht
  go_enter Tryz.func9, Tryz.ntmps9
  go_wp2_with fail
  go_loopg [9, 10, 20] m (fun g r a i wr => ∃ (q : Nat) (ks : List It) (rk : List Nat) (al : Vals) (Ar Aa : Option Addr) (cr ca : Nat), i = .int .i64 (q : Int) ∧ q ≤ m ∧ m - q ≤ g ∧ r = .slice Ar rk.length cr ∧ a = .slice Aa al.length ca ∧ TrS Sk w (cfgV a0 a1 a2 a3 a4 a5 a6 a7 a8 a9 a10) ks rk al (.slice Ar rk.length cr) (.slice Aa al.length ca) wr ∧ rk = ks.map It.kb ∧ al = allOf P L q ∧ ks.length = q ∧ ks.flatMap It.vals = allOf P L q)
  case atStart => exact ⟨0, [], [], [], none, none, 0, 0, rfl, Nat.zero_le _, Nat.le_refl _, rfl, rfl, S0, rfl, rfl, rfl, rfl⟩
  case round =>
    clear S0
    obtain ⟨q, ks, rk, al, Ar, Aa, cr, ca, rfl, hq, hg, rfl, rfl, S, hrk, hal0, hkl, hkv⟩ := hrel
    have HK := Lib.hid (And.intro hrk (And.intro hal0 (And.intro hkl hkv)))
    have hrl : rk.length = q := by rw [hrk, List.length_map, hkl]
    have HRL := Lib.hid hrl
    clear hkl hkv hrk hal0 hrl
    by_cases hqm : q < m
    · have g1 : (q : Int) < (m : Int) := by omega
      have hql : q < L.length := by rw [← HM.out]; exact hqm
      rcases HV.out.2 with ⟨rfl, _⟩ | ⟨b, o, c', hv', hb1, hcc⟩
      · simp at hql
      simp only [Value.slice.injEq] at hv'
      obtain ⟨rfl, _, rfl⟩ := hv'
      obtain ⟨u, d0, d1, hvr⟩ := hcc q hql
      rw [← S.below.cell (p := ⟨b, _, none⟩) hb1] at d0 d1
      have hvr2 := hvr.below S.below
      obtain ⟨A', c'', hu⟩ := hvr.slice
      subst hu
      have hfew := hL.2 _ (List.getElem_mem hql)
      have hin := hi _ (List.getElem_mem hql)
      have hsucc := allOf_succ P L q hql
      have hal := allOf_len P L hL q
      have hfl := List.length_filter_le P (L[q]'hql).1
      have hlen30 := hfew.1
      generalize (L[q]'hql).2 = bt at *
      generalize (L[q]'hql).1 = lf at *
      obtain ⟨n, hn⟩ : ∃ n, n = lf.length := ⟨_, rfl⟩
      have S1 := S.next K ((Below.refl _ _).alloc (Nat.le_refl _) (.cells #[.slice A' lf.length c'', .bool bt] 55))
      have hmade := made_any K (wr.alloc (.cells #[.slice A' lf.length c'', .bool bt] 55)) (HTW.out.next (S.below.alloc S.below.size _)) _ lf bt (hvr2.below ((Below.refl _ _).alloc (Nat.le_refl _) _)) hfew hin
      rw [← hn] at hmade S1 d0
      obtain ⟨k0, k1, k2, k3, k4, k5, k6, k7, k8, k9, k10⟩ := cfgV_cells S1.cfg
      have hclt := S1.cfg.lt
      have HS := Lib.hid (And.intro hsucc (And.intro hal (And.intro hfl hlen30)))
      have HS1 := Lib.hid S1
      clear hn hvr hvr2 hfew hin hsucc hal hfl hlen30 hcc S S1
      go_wp2_with fail
      refine hmade.mono ?_
      rintro e w2 ⟨po, vv, ok, rfl, b2, h2⟩
      have HB2 := Lib.hid b2
      clear hmade b2
      cases ok with
      | false =>
        clear h2
        go_wp2_with fail
        go_ret3
        exact ⟨none, _, false, rfl, (HS1.out.next K HB2.out).below, fun h => by cases h⟩
      | true =>
        obtain ⟨kb, O, rfl, hsk, hvo, hnew⟩ := h2 rfl
        have S2 := HS1.out.add K HB2.out ⟨kb, O, lf.filter P⟩ hsk hnew
        have H2 := Lib.hid S2
        have HVO := Lib.hid hvo
        clear hsk hnew S2 hvo h2
        have hrl := HRL.out
        have hall : al.length ≤ 30 * q := by rw [HK.out.2.1]; exact HS.out.2.1
        have hvl : (lf.filter P).length ≤ 30 := Nat.le_trans HS.out.2.2.1 HS.out.2.2.2
        have HH := Lib.hid (And.intro hrl (And.intro hall hvl))
        clear hrl hall hvl
        have SA := H2.out.next K ((Below.refl _ _).alloc (Nat.le_refl _) (.cells #[.pointer (some ⟨kb, 0, none⟩)] 34))
        have HSA := Lib.hid SA
        clear SA
        go_wp2_with (at_builtin; refine wpList_ptrs K rfl _ _ rfl HSA.out w.heap.size (Nat.le_refl _) HSA.out.below.size HSA.out.row [kb] ⟨w2.heap.size, 0, none⟩ 1 (by have := HH.out.1; simp; omega) rfl rfl (fun i hi => ?_) ?_)
        · have : i = 0 := by simpa using hi
          subst this
          exact (Blk.newAt rfl).cell rfl
        intro A3 c3 w3 S3 _ hg3
        have hv3 : w3.ownsRow 0 59 2 vv (lf.filter P).length (valsC (lf.filter P)) := (HVO.out.alloc _).kept hg3 (by
          rcases hvo : vv.ownBlock with _ | g
          · exact .inl rfl
          · refine .inr fun e => ?_
            obtain ⟨cur, hc⟩ := owns_blk (HVO.out.alloc (.cells #[.pointer (some ⟨kb, 0, none⟩)] 34)) hvo
            obtain ⟨cur2, hc2⟩ := owns_blk HSA.out.row e.symm
            exact (hc.ne hc2 (by decide)) rfl)
        have HS3 := Lib.hid S3
        have HV3 := Lib.hid hv3
        clear hg3 S3 hv3 HVO HSA
        go_wp2_with (at_builtin; refine wpList_vals K rfl _ _ rfl HS3.out HV3.out (by have := HH.out.2; omega) rfl rfl ?_)
        intro A4 c4 w4 S4
        have HS4 := Lib.hid S4
        clear S4 HS3 HV3
        go_wp2_with fail
        go_roundg (m - (q + 1))
        case measure => omega
        obtain ⟨e1, e2, e3, e4⟩ := HK.out
        refine ⟨q + 1, ks ++ [⟨kb, O, lf.filter P⟩], rk ++ [kb], al ++ lf.filter P, A3, A4, c3, c4, by go_num, by omega, by omega, by simp, by simp, by simp only [List.length_append, List.length_cons, List.length_nil, Nat.zero_add]; exact HS4.out, by rw [e1]; simp, by rw [e2, HS.out.1], by simp [e3], by rw [List.flatMap_append, e4, HS.out.1]; simp⟩
    · have hqe : q = m := by omega
      have g1 : ¬ (q : Int) < (m : Int) := by omega
      obtain ⟨e1, e2, e3, e4⟩ := HK.out
      rw [hqe] at e2 e3 e4
      have hal := allOf_len P L hL m
      have hain := allOf_in P L hi m
      rw [← e2] at e4 hal hain
      have HAL := Lib.hid (And.intro e2 (And.intro hal hain))
      have hks12 : ks.length ≤ 12 := by omega
      have HE := Lib.hid (And.intro e1 (And.intro e4 hks12))
      have HS := Lib.hid S
      have hin0 : ∀ x ∈ ks, InV x.vals := fun x hx y hy => hain y (by rw [← e4]; exact List.mem_flatMap.2 ⟨x, hx, hy⟩)
      have HIN := Lib.hid hin0
      clear e1 e2 e3 e4 hal hain S hqe HK hks12 hin0 HRL hqm hg
      have hrl : rk.length ≤ 12 := by rw [HE.out.1, List.length_map]; exact HE.out.2.2
      go_wp2_with fail
      go_loopg [9, 16] rk.length (fun g r k wr => ∃ (ks2 : List It) (rk2 : List Nat) (n2 kk : Nat) (A2 : Option Addr) (c2 : Nat), k = .int .i64 (kk : Int) ∧ kk + g ≤ 100 ∧ r = .slice A2 n2 c2 ∧ n2 = rk2.length ∧ n2 ≤ g ∧ n2 ≤ 12 ∧ TrS Sk w (cfgV a0 a1 a2 a3 a4 a5 a6 a7 a8 a9 a10) ks2 rk2 al (.slice A2 n2 c2) (.slice Aa al.length ca) wr ∧ rk2 = ks2.map It.kb ∧ ks2.flatMap It.vals = al)
      case atStart => exact ⟨ks, rk, rk.length, 0, Ar, cr, rfl, by omega, rfl, rfl, Nat.le_refl _, hrl, HS.out, HE.out.1, HE.out.2.1⟩
      case round =>
        clear HS HE HIN hrl
        obtain ⟨ks, rk, n, kk, Ar, cr, rfl, hkk, rfl, hn, hg, hn12, S, hrk, hvs⟩ := hrel
        have HE := Lib.hid (And.intro hn (And.intro hrk hvs))
        clear hn hrk hvs
        by_cases hn1 : 1 < n
        · have f1 : (1 : Int) < (n : Int) := by omega
          have HS := Lib.hid S
          have f3 : (1 : Int) ≤ (n : Int) - 1 := by omega
          have f4 : IntKind.u64.wrap ((n : Int) - 1) = (n : Int) - 1 := by rw [IntKind.wrap_u64]; omega
          clear S
          go_upto_if 49 with fail
          go_cut [17, 49] from 50 to 60 (fun x _ wx => (∃ t : Nat, x = .int .i64 (t : Int) ∧ t + 1 < n) ∧ wx = wr)
          case first =>
            by_cases hkp : kk < pn
            · have f2 : (kk : Int) < (pn : Int) := by omega
              rcases HP.out.2.2 with ⟨h0, _⟩ | ⟨b2, o2, c2, hv2, hb2, hc2⟩
              · have := HPN.out; rw [h0] at this; simp at this; omega
              simp only [Value.slice.injEq] at hv2
              obtain ⟨rfl, _, rfl⟩ := hv2
              have hkz : kk < zs.length := by rw [← HPN.out]; exact hkp
              have d0 := hc2 kk hkz
              rw [← HS.out.below.cell (p := ⟨b2, _, none⟩) hb2] at d0
              generalize zs[kk]'hkz = z at d0
              have hz := Lib.hid (pick_at z n hn1 (by omega))
              clear hc2
              go_wp2_with fail
              go_meet
              refine ⟨?_, rfl⟩
              obtain ⟨t, h1, h2⟩ := hz.out
              exact ⟨t, congrArg (Value.int IntKind.i64) h1, h2⟩
            · have f2 : ¬ (kk : Int) < (pn : Int) := by omega
              go_wp2_with fail
              go_meet
              exact ⟨⟨0, rfl, by omega⟩, rfl⟩
          case rest =>
            obtain ⟨⟨t, rfl, ht⟩, rfl⟩ := hcut
            have S := HS.out
            clear HS f3 f4
            obtain ⟨hn, hrk, hvs⟩ := HE.out
            have hkl : ks.length = n := by rw [hn, hrk, List.length_map]
            obtain ⟨pre, x, y, post, hks, hpre⟩ : ∃ (pre : List It) (x y : It) (post : List It), ks = pre ++ x :: y :: post ∧ pre.length = t := by
              have h1 : t < ks.length := by omega
              have h2 : t + 1 < ks.length := by omega
              refine ⟨ks.take t, ks[t], ks[t + 1], ks.drop (t + 2), ?_, by simp; omega⟩
              conv => lhs; rw [← List.take_append_drop t ks]
              rw [List.drop_eq_getElem_cons h1, List.drop_eq_getElem_cons h2]
            subst hks
            rcases owns_shape S.row with ⟨_, h0, _⟩ | ⟨g, cap, hsl, hcap, hcm, hgb, hgl⟩
            · omega
            simp only [Value.slice.injEq] at hsl
            obtain ⟨rfl, hnn, rfl⟩ := hsl
            have hrow : wc.ownsRow w.heap.size 34 1 (.slice (some ⟨g, 0, none⟩) rk.length cr) rk.length (ptrC rk) := by
              have := S.row
              rwa [hn] at this
            have hcell : ∀ i (h : i < rk.length), wc.cell? ⟨g, i, none⟩ = some (.pointer (some ⟨rk[i]'h, 0, none⟩)) := fun i h => by
              rw [hrow.cellAt i (by omega)]; exact ptrC_get rk i h
            have c1 : wc.cell? ⟨g, t, none⟩ = some (.pointer (some ⟨x.kb, 0, none⟩)) := by
              rw [hcell t (by omega)]; simp [hrk, ← hpre]
            have c2 : wc.cell? ⟨g, t + 1, none⟩ = some (.pointer (some ⟨y.kb, 0, none⟩)) := by
              rw [hcell (t + 1) (by omega)]; simp [hrk, ← hpre]
            have hin : ∀ z ∈ pre ++ x :: y :: post, InV z.vals := fun z hz u hu => HAL.out.2.2 u (by rw [← hvs]; exact List.mem_flatMap.2 ⟨z, hz, hu⟩)
            have hlen : x.vals.length + y.vals.length ≤ 360 := by
              have h1 := HAL.out.2.1
              rw [← hvs, List.flatMap_append, List.flatMap_cons, List.flatMap_cons] at h1
              simp only [List.length_append] at h1
              omega
            have hdis : ∀ k, x.own k → ¬ y.own k := (List.pairwise_cons.1 (List.pairwise_append.1 S.ap).2.1).1 y (List.mem_cons_self ..)
            have hjoin := K.join wc.drew x.kb y.kb x.own y.own x.vals y.vals (K.drew (S.sk x (by simp))) (K.drew (S.sk y (by simp))) hdis (hin x (by simp)) (hin y (by simp)) hlen
            have HS := Lib.hid (And.intro S (And.intro hcell (And.intro hgb hgl)))
            have HP2 := Lib.hid (And.intro hpre (And.intro hn (And.intro hrk hvs)))
            clear S hin hlen hdis hn hrk hvs hnn hkl hcell HE hrow
            have g2 : (t : Int) < (n : Int) := by omega
            have g3 : (t : Int) + 1 < (n : Int) := by omega
            obtain ⟨w1, hw1⟩ : ∃ w1, w1 = wc := ⟨_, rfl⟩
            subst hw1
            go_upto_region 18 with fail
            go_cut [71] from 61 to 70 (fun v wx => ∃ (code : Int) (O' : Nat → Prop), v = .bool (code != 0) ∧ (code = 0 → Sk wx x.kb O' (x.vals ++ y.vals)) ∧ SubO w1.drew x.own O' ∧ Away x.own w1.drew wx)
            case first =>
              refine wp_region_quiet_tail 9 (C := fun W => W = w1.drew) (by kernel_rfl) (by kernel_rfl) rfl ?_
              simp only [List.take_succ_cons, List.take_zero, List.drop_succ_cons, List.drop_zero]
              repeat (first | go_big_quiet_skip | (go_big_quiet_want; go_big_quiet_op; first | go_big_quiet_on | (refine quiet_const ?_; go_big_quiet_on)))
              refine wpQuiet_nil ?_
              intro w2 hw2
              subst hw2
              go_wp2_with fail
              refine hjoin.mono ?_
              rintro e w3 ⟨code, O', rfl, hjr⟩
              have HJ := Lib.hid hjr
              clear hjr hjoin
              go_wp2_with fail
              go_meet
              exact ⟨code, O', rfl, HJ.out⟩
            case rest =>
            obtain ⟨code, O', rfl, hsk, hsub, haw⟩ := hcut
            clear hjoin c1 c2
            have SD := HS.out.1.drew K
            have hnewx : ∀ k, x.own k → w.heap.size + 1 ≤ k := HS.out.1.new x (by simp)
            have HBF := Lib.hid (SD.below.trans (haw.below SD.below.size fun k hk e => by have := hnewx k e; omega))
            by_cases hc0 : code = 0
            · subst hc0
              have SJ := SD.join K (hsk (by first | rfl | trivial)) hsub haw
              have hgx : ¬ x.own g := fun e => by
                obtain ⟨cur, hc⟩ := owns_blk SD.row rfl
                exact (K.ty (SD.sk x (by simp)) g e cur).2 hc
              have hcell : ∀ i (h : i < rk.length), wc.cell? ⟨g, i, none⟩ = some (.pointer (some ⟨rk[i]'h, 0, none⟩)) := fun i h => by
                rw [haw.cell (p := ⟨g, i, none⟩) HS.out.2.2.2 hgx]; exact HS.out.2.1 i h
              have hgl : g < wc.heap.size := Nat.lt_of_lt_of_le HS.out.2.2.2 haw.size
              have E0 : (wc.alloc (.cells #[] 34)).drew.ownsRow wc.heap.size 34 1 (.slice (some ⟨wc.heap.size, 0, none⟩) 0 0) ([] : List Nat).length (ptrC []) :=
                World.ownsRow_made wc #[] 0 (Nat.le_refl _) (Nat.zero_le _) rfl
              have S20 := (SJ.next K ((Below.refl _ _).alloc (Nat.le_refl _) (.cells #[] 34))).drew K
              have HX := Lib.hid (And.intro hcell (And.intro E0 S20))
              clear hcell E0 S20 SJ SD hsk hsub haw
              have hr0 : rk.length = n := by rw [← HP2.out.2.1]
              have g4 : (t : Int) + 2 ≤ (n : Int) := by omega
              have g5 : (n : Int) ≤ (cr : Int) := by omega
              have g6 : (t : Int) + 1 ≤ (cr : Int) := by omega
              have g7 : t + 1 ≤ cr := by omega
              have g8 : t + 2 ≤ n := by omega
              have g9 : n ≤ cr := by omega
              have i1 : ((t : Int) + 1).toNat = t + 1 := by omega
              have i2 : ((t : Int) + 2).toNat = t + 2 := by omega
              have v1 : IntKind.i64.wrap ((t : Int) + 1) = (t : Int) + 1 := by rw [IntKind.wrap_i64]; omega
              have v2 : IntKind.i64.wrap ((t : Int) + 2) = (t : Int) + 2 := by rw [IntKind.wrap_i64]; omega
              have v3 : (0 : Int) ≤ (t : Int) + 1 := by omega
              have v4 : (0 : Int) ≤ (t : Int) + 2 := by omega
              go_upto_region 20 with fail
              have htl : (rk.take (t + 1)).length = t + 1 := by rw [List.length_take]; omega
              have hdl : (rk.drop (t + 2)).length = n - (t + 2) := by rw [List.length_drop]; omega
              have hHT := Lib.hid (And.intro htl hdl)
              clear htl hdl hr0
              have HC1 := Lib.hid (show ∀ i (h : i < (rk.take (t + 1)).length), (wc.alloc (.cells #[] 34)).drew.cell? ((⟨g, 0, none⟩ : Addr).add i) = some (.pointer (some ⟨(rk.take (t + 1))[i]'h, 0, none⟩)) from fun i h => by
                rw [List.length_take] at h
                have hb : Below wc.heap.size wc (wc.alloc (.cells #[] 34)).drew := ((Below.refl _ wc).alloc (Nat.le_refl _) _).drew
                rw [Addr.add_lit, Nat.zero_add, hb.cell (p := ⟨g, i, none⟩) hgl, HX.out.1 i (by omega), List.getElem_take])
              have HC2 := Lib.hid (show ∀ (o : Nat) (w5 : World), (o = t + 2 ∨ rk.drop (t + 2) = []) → (wc.alloc (.cells #[] 34)).drew.grownBy w5 (Value.slice (some ⟨wc.heap.size, 0, none⟩) 0 0).ownBlock → ∀ i (h : i < (rk.drop (t + 2)).length), w5.cell? ((⟨g, o, none⟩ : Addr).add i) = some (.pointer (some ⟨(rk.drop (t + 2))[i]'h, 0, none⟩)) from fun o w5 ho hg i h => by
                rcases ho with rfl | ho
                · have hb : Below wc.heap.size wc (wc.alloc (.cells #[] 34)).drew := ((Below.refl _ wc).alloc (Nat.le_refl _) _).drew
                  have hg2 := hg.block g (Nat.lt_of_lt_of_le hgl hb.size) (fun e => by have e' : g = wc.heap.size := Option.some.inj e; omega)
                  have hl : t + 2 + i < rk.length := by rw [List.length_drop] at h; omega
                  rw [Addr.add_lit, World.cell?_of_block (w := (wc.alloc (.cells #[] 34)).drew) hg2, hb.cell (p := ⟨g, t + 2 + i, none⟩) hgl, HX.out.1 (t + 2 + i) hl, List.getElem_drop]
                · rw [ho] at h; simp at h)
              have hz20 : wc.heap.size ≤ (wc.alloc (.cells #[] 34)).drew.heap.size := by show wc.heap.size ≤ (wc.alloc (.cells #[] 34)).heap.size; simp
              have hl20 : ([] : List Nat).length + (rk.take (t + 1)).length ≤ 100000 := by rw [hHT.out.1]; simp; omega
              have hl21 : (rk.take (t + 1)).length + (rk.drop (t + 2)).length ≤ 100000 := by rw [hHT.out.1, hHT.out.2]; omega
              have hl22 : (rk.take (t + 1) ++ rk.drop (t + 2)).length = n - 1 := by rw [List.length_append, hHT.out.1, hHT.out.2]; omega
              have HL22 := Lib.hid hl22
              clear hl22
              have FIN := Lib.hid (show ∀ (A6 : Option Addr) (c6 : Nat) (w6 : World), TrS Sk w (cfgV a0 a1 a2 a3 a4 a5 a6 a7 a8 a9 a10) (pre ++ ⟨x.kb, O', x.vals ++ y.vals⟩ :: post) (rk.take (t + 1) ++ rk.drop (t + 2)) al (.slice A6 (n - 1) c6) (.slice Aa al.length ca) w6 →
                  ∃ (ks2 : List It) (rk2 : List Nat) (n2 k2 : Nat) (A2 : Option Addr) (c2 : Nat), Value.int IntKind.i64 ((kk : Int) + 1) = .int .i64 (k2 : Int) ∧ k2 + (n - 1) ≤ 100 ∧ Value.slice A6 (n - 1) c6 = .slice A2 n2 c2 ∧ n2 = rk2.length ∧ n2 ≤ n - 1 ∧ n2 ≤ 12 ∧ TrS Sk w (cfgV a0 a1 a2 a3 a4 a5 a6 a7 a8 a9 a10) ks2 rk2 al (.slice A2 n2 c2) (.slice Aa al.length ca) w6 ∧ rk2 = ks2.map It.kb ∧ ks2.flatMap It.vals = al from fun A6 c6 w6 S6 => by
                obtain ⟨p1, p2, p3, p4⟩ := HP2.out
                refine ⟨_, _, n - 1, kk + 1, A6, c6, by go_num, by omega, rfl, HL22.out.symm, Nat.le_refl _, by omega, S6, ?_, ?_⟩
                · rw [p3, List.map_append, List.map_cons, List.map_cons, rk_merge _ _ _ _ t (by rw [List.length_map]; exact p1)]; simp
                · rw [← p4]; simp)
              by_cases hcr : cr = t + 2
              · have hde : rk.drop (t + 2) = [] := List.drop_eq_nil_of_le (by rw [← HP2.out.2.1]; omega)
                have HDE := Lib.hid hde
                clear hde
                go_region_law (first
                  | (refine step_ptrs K rfl _ _ rfl HX.out.2.2 wc.heap.size HBF.out.size hz20 HX.out.2.1 (rk.take (t + 1)) ⟨g, 0, none⟩ (t + 1) _ hHT.out.1 (rk.take (t + 1)) (t + 1) (List.nil_append _) hHT.out.1 hl20 rfl rfl HC1.out ?_
                     rintro A5 c5 w5 ⟨S5, o5, g5'⟩
                     have H5 := Lib.hid (And.intro S5 (And.intro o5 g5'))
                     clear S5 o5 g5')
                  | (refine step_ptrs K rfl _ _ rfl H5.out.1 wc.heap.size HBF.out.size (Nat.le_trans hz20 H5.out.2.2.size) H5.out.2.1 (rk.drop (t + 2)) ⟨g, 0, none⟩ (n - (t + 2)) _ hHT.out.2 (rk.take (t + 1) ++ rk.drop (t + 2)) (n - 1) rfl HL22.out hl21 rfl rfl (HC2.out 0 w5 (.inr HDE.out) H5.out.2.2) ?_
                     rintro A6 c6 w6 ⟨S6, o6, g6'⟩
                     have H6 := Lib.hid S6
                     clear S6 o6 g6'))
                all_goals (
                  go_wp2_with fail
                  go_roundg (n - 1)
                  case measure => omega
                  exact FIN.out A6 c6 w6 H6.out)
              · go_region_law (first
                  | (refine step_ptrs K rfl _ _ rfl HX.out.2.2 wc.heap.size HBF.out.size hz20 HX.out.2.1 (rk.take (t + 1)) ⟨g, 0, none⟩ (t + 1) _ hHT.out.1 (rk.take (t + 1)) (t + 1) (List.nil_append _) hHT.out.1 hl20 rfl rfl HC1.out ?_
                     rintro A5 c5 w5 ⟨S5, o5, g5'⟩
                     have H5 := Lib.hid (And.intro S5 (And.intro o5 g5'))
                     clear S5 o5 g5')
                  | (refine step_ptrs K rfl _ _ rfl H5.out.1 wc.heap.size HBF.out.size (Nat.le_trans hz20 H5.out.2.2.size) H5.out.2.1 (rk.drop (t + 2)) ⟨g, t + 2, none⟩ (n - (t + 2)) _ hHT.out.2 (rk.take (t + 1) ++ rk.drop (t + 2)) (n - 1) rfl HL22.out hl21 rfl rfl (HC2.out (t + 2) w5 (.inl rfl) H5.out.2.2) ?_
                     rintro A6 c6 w6 ⟨S6, o6, g6'⟩
                     have H6 := Lib.hid S6
                     clear S6 o6 g6'))
                all_goals (
                  go_wp2_with fail
                  go_roundg (n - 1)
                  case measure => omega
                  exact FIN.out A6 c6 w6 H6.out)
            · have hc1 : (code != 0) = true := by simp [hc0]
              clear hsk hsub haw SD
              go_wp2_with fail
              go_ret3
              exact ⟨none, _, false, rfl, HBF.out, fun h => by cases h⟩
        · have f1 : ¬ (1 : Int) < (n : Int) := by omega
          by_cases hn0 : n = 0
          · subst hn0
            have HS := Lib.hid S
            clear S
            go_wp2_with fail
            go_ret3
            exact ⟨none, _, false, rfl, HS.out.below, fun h => by cases h⟩
          · have hn1' : n = 1 := by omega
            have f2 : (0 : Int) < (n : Int) := by omega
            have f3 : 0 < n := by omega
            have f4 : ((n : Int) == 0) = false := by simp; omega
            obtain ⟨hn, hrk, hvs⟩ := HE.out
            have hkl : ks.length = 1 := by rw [← List.length_map (f := It.kb), ← hrk, ← hn]; exact hn1'
            obtain ⟨x, rfl⟩ := List.length_eq_one_iff.1 hkl
            rcases owns_shape S.row with ⟨_, h0, _⟩ | ⟨g, cap, hsl, hcap, hcm, hgb, hgl⟩
            · omega
            simp only [Value.slice.injEq] at hsl
            obtain ⟨rfl, hnn, rfl⟩ := hsl
            have hrow : wr.ownsRow w.heap.size 34 1 (.slice (some ⟨g, 0, none⟩) rk.length cr) rk.length (ptrC rk) := by
              have := S.row
              rwa [hn] at this
            have c1 : wr.cell? ⟨g, 0, none⟩ = some (.pointer (some ⟨x.kb, 0, none⟩)) := by
              rw [hrow.cellAt 0 (by omega), hrk]; rfl
            have hfin := Lib.hid (show TreeP Sk P L w (.returned (.tuple #[.pointer (some ⟨x.kb, 0, none⟩), .slice Aa al.length ca, .bool true])) wr from by
              have e : al = allOf P L L.length := by rw [HAL.out.1, HM.out]
              have e2 : x.vals = allOf P L L.length := by rw [← e, ← hvs]; simp
              refine ⟨_, _, true, rfl, S.below, fun _ => ⟨x.kb, x.own, rfl, ?_, ?_, fun k hk => Nat.le_of_succ_le (S.new x (by simp) k hk)⟩⟩
              · rw [← e2]; exact S.sk x (by simp)
              · rw [← e]; exact owns_base S.all fun _ _ => Nat.zero_le _)
            clear S hvs hrk hn hkl hrow hnn HE hn1' hn0
            go_wp2_with fail
            go_ret3
            exact hfin.out
end
end Go.Proofs.YtbejdajkkoapgaaGreatDoor

