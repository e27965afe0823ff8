/-
  Several texts in one: J15. What each proves, and on which conditions, stands at its head. Conditions: stated in each.
-/
import Derived.Test.YtbejdajkkoapgaaGreatDoorS01
import Derived.Deep.LoopGhost
import Derived.Lib.Hide
import Derived.Deep.Cut
import Derived.BigQuiet
import Derived.StillTail
import Derived.Test.YtbejdajkkoapgaaGreatDoorS12
import Derived.Test.YtbejdajkkoapgaaGreatDoorS04
import Derived.Test.YtbejdajkkoapgaaGreatDoorS05
import Derived.Test.YtbejdajkkoapgaaGreatDoorS02
import Derived.Laws.AppendOwnNone
import Derived.Deep.RegionLaw
/-
  Several texts in one: Ag, Qt, Kd, Ts. What each proves, and on which conditions, stands at its head. Conditions: stated in each.
-/
/-
  How the arguments read: rows of values and counts, rows of leaves; contracts of ogiveref13.Up and of great. Conditions: stated in each.
-/
set_option linter.unusedVariables false
set_option linter.unusedSimpArgs false
set_option maxRecDepth 100000
namespace Go.Proofs.YtbejdajkkoapgaaGreatDoor
open Go.RowKit Go.Lib

/-- a row of values and counts, somewhere in memory -/
def ValsR (w : World) (v : Value) (l : Vals) : Prop :=
  l.length ≤ maxLen ∧ ((l = [] ∧ ∃ A c, v = .slice A 0 c) ∨ ∃ b o c, v = .slice (some ⟨b, o, none⟩) l.length c ∧ b < w.heap.size ∧
    ∀ i (h : i < l.length), w.cell? ⟨b, o + i * 2, none⟩ = some (.int .i64 (l[i]'h).1) ∧ w.cell? ⟨b, o + i * 2 + 1, none⟩ = some (.int .u64 ((l[i]'h).2 : Nat)))
theorem ValsR.below {w w' : World} {v : Value} {l : Vals} (h : ValsR w v l) (hb : Below w.heap.size w w') : ValsR w' v l := by
  obtain ⟨h1, h2⟩ := h
  refine ⟨h1, h2.imp id ?_⟩
  rintro ⟨b, o, c, rfl, hb1, hc⟩
  exact ⟨b, o, c, rfl, Nat.lt_of_lt_of_le hb1 hb.size, fun i hi => by rw [hb.cell (p := ⟨b, _, none⟩) hb1, hb.cell (p := ⟨b, _, none⟩) hb1]; exact hc i hi⟩

theorem upL_take (l : Vals) (x : Int) (q : Nat) (h : q < l.length) : upL (l.take (q + 1)) x = upL (l.take q) x + (if (l[q]'h).1 ≤ x then (l[q]'h).2 else 0) := by
  rw [List.take_succ_eq_append_getElem h, upL_append]
  simp [upL]
theorem upL_take_le (l : Vals) (x : Int) (q : Nat) : upL (l.take q) x ≤ upL l x := by
  conv => rhs; rw [← List.take_append_drop q l, upL_append]
  omega
theorem upL_le_all (l : Vals) (x : Int) : upL l x ≤ allL l := by
  induction l with
  | nil => exact Nat.le_refl _
  | cons v l ih => simp only [upL, allL]; split <;> omega

set_option maxHeartbeats 2000000 in
theorem up_any (w : World) (v : Value) (l : Vals) (x : Int) (h : ValsR w v l) (hl : allL l < 1000000000) :
    Calls Tryz.prog 10 #[v, .int .i64 x] w fun e w' => e = .returned (.int .u64 (upL l x : Nat)) ∧ Below w.heap.size w w' := by
  obtain ⟨A, c, hv⟩ : ∃ A c, v = .slice A l.length c := by
    rcases h.2 with ⟨rfl, A, c, rfl⟩ | ⟨b, o, c, rfl, _⟩
    · exact ⟨A, c, rfl⟩
    · exact ⟨_, c, rfl⟩
  subst hv
  obtain ⟨m, hm⟩ : ∃ m, m = l.length := ⟨_, rfl⟩
  have HM := Lib.hid hm
  have HH := Lib.hid h
  have hml : m ≤ maxLen := by rw [hm]; exact h.1
  unfold maxLen at hml
  rw [← hm]
  have hup := upL_le_all l x
  clear hm h
  go_enter Tryz.func10, Tryz.ntmps10
  go_wp2
  go_loopg [5, 10] m (fun g n i wr => ∃ q : Nat, i = .int .i64 (q : Int) ∧ n = .int .u64 ((upL (l.take q) x : Nat) : Int) ∧ q ≤ m ∧ m - q ≤ g ∧ Below w.heap.size w wr)
  case atStart => exact ⟨0, rfl, rfl, Nat.zero_le _, Nat.le_refl _, Below.refl _ _⟩
  case round =>
    obtain ⟨q, rfl, rfl, hq, hg, hb⟩ := hrel
    by_cases hqm : q < m
    · have g1 : (q : Int) < (m : Int) := by omega
      have hql : q < l.length := by rw [← HM.out]; exact hqm
      rcases HH.out.2 with ⟨rfl, _⟩ | ⟨b, o, c', hv, hb1, hc⟩
      · simp at hql
      · simp only [Value.slice.injEq] at hv
        obtain ⟨rfl, _, rfl⟩ := hv
        obtain ⟨c0, c1⟩ := hc q hql
        rw [← hb.cell (p := ⟨b, _, none⟩) hb1] at c0 c1
        have ht := upL_take l x q hql
        have hle := upL_take_le l x (q + 1)
        have hle0 := upL_take_le l x q
        have hz := hb.size
        generalize hX : (l[q]'hql).1 = X at *
        generalize hC : (l[q]'hql).2 = C at *
        have HX := Lib.hid (And.intro hX hC)
        obtain ⟨u, hu⟩ : ∃ u, u = upL (l.take q) x := ⟨_, rfl⟩
        rw [← hu] at ht hle0 ⊢
        have hB := Lib.hid hb
        clear hX hC hb hc
        by_cases hx : X ≤ x
        · rw [if_pos hx] at ht
          have HT := Lib.hid ht
          have hs : u + C < 18446744073709551616 := by omega
          clear ht hu
          go_wp2
          go_roundg (m - (q + 1))
          case measure => omega
          exact ⟨q + 1, by go_num, by rw [HT.out]; go_num, by omega, by omega, hB.out.alloc hz _⟩
        · rw [if_neg hx] at ht
          have HT := Lib.hid ht
          clear ht hu
          go_wp2
          go_roundg (m - (q + 1))
          case measure => omega
          exact ⟨q + 1, by go_num, by rw [HT.out]; go_num, by omega, by omega, hB.out.alloc hz _⟩
    · have g1 : ¬ (q : Int) < (m : Int) := by omega
      have hqe : l.take q = l := by rw [show q = l.length by have := HM.out; omega, List.take_length]
      rw [hqe]
      have hB := Lib.hid hb
      clear hb hqe hup
      go_wp2
      go_ret
      exact ⟨rfl, hB.out⟩

/-- leaves: values, and whether they go by bytes -/
abbrev Leaves := List (Vals × Bool)
def LeavesR (w : World) (v : Value) (L : Leaves) : Prop :=
  L.length ≤ maxLen ∧ ((L = [] ∧ ∃ A c, v = .slice A 0 c) ∨ ∃ b o c, v = .slice (some ⟨b, o, none⟩) L.length c ∧ b < w.heap.size ∧
    ∀ i (h : i < L.length), ∃ u, w.cell? ⟨b, o + i * 2, none⟩ = some u ∧ w.cell? ⟨b, o + i * 2 + 1, none⟩ = some (.bool (L[i]'h).2) ∧ ValsR w u (L[i]'h).1)
theorem LeavesR.below {w w' : World} {v : Value} {L : Leaves} (h : LeavesR w v L) (hb : Below w.heap.size w w') : LeavesR w' v L := by
  obtain ⟨h1, h2⟩ := h
  refine ⟨h1, h2.imp id ?_⟩
  rintro ⟨b, o, c, rfl, hb1, hc⟩
  exact ⟨b, o, c, rfl, Nat.lt_of_lt_of_le hb1 hb.size, fun i hi => by
    obtain ⟨u, k1, k2, k3⟩ := hc i hi
    exact ⟨u, by rw [hb.cell (p := ⟨b, _, none⟩) hb1]; exact k1, by rw [hb.cell (p := ⟨b, _, none⟩) hb1]; exact k2, k3.below hb⟩⟩
theorem LeavesR.slice {w : World} {v : Value} {L : Leaves} (h : LeavesR w v L) : ∃ A c, v = .slice A L.length c := by
  rcases h.2 with ⟨rfl, A, c, rfl⟩ | ⟨b, o, c, rfl, _⟩
  · exact ⟨A, c, rfl⟩
  · exact ⟨_, c, rfl⟩
theorem ValsR.slice {w : World} {v : Value} {l : Vals} (h : ValsR w v l) : ∃ A c, v = .slice A l.length c := by
  rcases h.2 with ⟨rfl, A, c, rfl⟩ | ⟨b, o, c, rfl, _⟩
  · exact ⟨A, c, rfl⟩
  · exact ⟨_, c, rfl⟩
/-- few values, no count above 20 -/
def Few (l : Vals) : Prop := l.length ≤ 30 ∧ ∀ x ∈ l, x.2 ≤ 20
def FewAll (L : Leaves) : Prop := L.length ≤ 12 ∧ ∀ x ∈ L, Few x.1

/-- what great answers -/
def GreatP (w : World) (L : Leaves) (a0 a2 : Int) (e : Ending) (w' : World) : Prop := ∃ g : Bool, e = .returned (.bool g) ∧ Below w.heap.size w w' ∧ (g = false → FewAll L ∧ (a0 = 1 → a2 ≤ 100))
set_option maxHeartbeats 4000000 in
theorem great_any (w : World) (v : Value) (L : Leaves) (h : LeavesR w v L) (a0 a1 a2 a3 a4 a5 a6 a7 a8 a9 a10 : Int) :
    Calls Tryz.prog 7 #[.agg #[.int .i64 a0, .int .u64 a1, .int .u64 a2, .int .i64 a3, .int .i64 a4, .int .i64 a5, .int .u64 a6, .int .i64 a7, .int .i64 a8, .int .i64 a9, .int .u64 a10], v] w (GreatP w L a0 a2) := by
  obtain ⟨A, c, hv⟩ := h.slice
  subst hv
  obtain ⟨m, hm⟩ : ∃ m, m = L.length := ⟨_, rfl⟩
  have HM := Lib.hid hm
  have HH := Lib.hid h
  have hml : m ≤ maxLen := by rw [hm]; exact h.1
  unfold maxLen at hml
  rw [← hm]
  clear hm h
  have b0 : Below w.heap.size w (w.alloc (.cells #[.int .i64 a0, .int .u64 a1, .int .u64 a2, .int .i64 a3, .int .i64 a4, .int .i64 a5, .int .u64 a6, .int .i64 a7, .int .i64 a8, .int .i64 a9, .int .u64 a10] 28)) := (Below.refl _ _).alloc (Nat.le_refl _) _
  have k0 : Blk (w.alloc (.cells #[.int .i64 a0, .int .u64 a1, .int .u64 a2, .int .i64 a3, .int .i64 a4, .int .i64 a5, .int .u64 a6, .int .i64 a7, .int .i64 a8, .int .i64 a9, .int .u64 a10] 28)) w.heap.size #[.int .i64 a0, .int .u64 a1, .int .u64 a2, .int .i64 a3, .int .i64 a4, .int .i64 a5, .int .u64 a6, .int .i64 a7, .int .i64 a8, .int .i64 a9, .int .u64 a10] 28 := Blk.newAt rfl
  go_enter Tryz.func7, Tryz.ntmps7
  go_wp2
  go_loopg [11] m (fun g i wr => ∃ q : Nat, i = .int .i64 (q : Int) ∧ q ≤ m ∧ m - q ≤ g ∧ Below w.heap.size w wr ∧ Blk wr w.heap.size #[.int .i64 a0, .int .u64 a1, .int .u64 a2, .int .i64 a3, .int .i64 a4, .int .i64 a5, .int .u64 a6, .int .i64 a7, .int .i64 a8, .int .i64 a9, .int .u64 a10] 28 ∧ ∀ x ∈ L.take q, Few x.1)
  case atStart => exact ⟨0, rfl, Nat.zero_le _, Nat.le_refl _, b0, k0, fun x hx => by simp at hx⟩
  case round =>
    clear b0 k0
    obtain ⟨q, rfl, hq, hg, hb, hk, hf⟩ := hrel
    have HF := Lib.hid hf
    clear hf
    by_cases hqm : q < m
    · have g1 : (q : Int) < (m : Int) := by omega
      have hql : q < L.length := by rw [← HM.out]; exact hqm
      rcases HH.out.2 with ⟨rfl, _⟩ | ⟨b, o, c', hv, hb1, hc⟩
      · simp at hql
      · simp only [Value.slice.injEq] at hv
        obtain ⟨rfl, _, rfl⟩ := hv
        obtain ⟨u, c0, c1, hvr⟩ := hc q hql
        rw [← hb.cell (p := ⟨b, _, none⟩) hb1] at c0 c1
        obtain ⟨A', c'', hu⟩ := hvr.slice
        subst hu
        have HV := Lib.hid hvr
        have hz := hb.size
        obtain ⟨n, hn⟩ : ∃ n, n = (L[q]'hql).1.length := ⟨_, rfl⟩
        have HN := Lib.hid hn
        have hnl : n ≤ maxLen := by rw [hn]; exact hvr.1
        unfold maxLen at hnl
        rw [← hn] at c0
        generalize (L[q]'hql).2 = bt at *
        have hB := Lib.hid hb
        have hK := Lib.hid hk
        clear hn hvr hc hb hk
        have SB : Below w.heap.size w (wr.alloc (.cells #[.slice A' n c'', .bool bt] 55)) := hB.out.alloc hz _
        have SK : Blk (wr.alloc (.cells #[.slice A' n c'', .bool bt] 55)) w.heap.size #[.int .i64 a0, .int .u64 a1, .int .u64 a2, .int .i64 a3, .int .i64 a4, .int .i64 a5, .int .u64 a6, .int .i64 a7, .int .i64 a8, .int .i64 a9, .int .u64 a10] 28 := Blk.alloc hK.out _
        have hs2 := hK.out.lt
        have SL : Blk (wr.alloc (.cells #[.slice A' n c'', .bool bt] 55)) wr.heap.size #[.slice A' n c'', .bool bt] 55 := Blk.newAt rfl
        by_cases h30 : 30 < n
        · have g2 : (30 : Int) < (n : Int) := by omega
          go_wp2
          go_ret
          exact ⟨true, rfl, SB, fun h => by cases h⟩
        · have g2 : ¬ (30 : Int) < (n : Int) := by omega
          clear SL
          go_wp2_with fail
          go_loopg [22] n (fun g2 i2 w2 => ∃ r : Nat, i2 = .int .i64 (r : Int) ∧ r ≤ n ∧ n - r ≤ g2 ∧ Below w.heap.size w w2 ∧ Blk w2 w.heap.size #[.int .i64 a0, .int .u64 a1, .int .u64 a2, .int .i64 a3, .int .i64 a4, .int .i64 a5, .int .u64 a6, .int .i64 a7, .int .i64 a8, .int .i64 a9, .int .u64 a10] 28 ∧ ∀ x ∈ (L[q]'hql).1.take r, x.2 ≤ 20)
          case atStart => exact ⟨0, rfl, Nat.zero_le _, Nat.le_refl _, SB, SK, fun x hx => by simp at hx⟩
          case round =>
            clear SB SK
            obtain ⟨r, rfl, hr, hg3, hb2, hk2, hf2⟩ := hrel
            have HF2 := Lib.hid hf2
            clear hf2
            by_cases hrn : r < n
            · have g3 : (r : Int) < (n : Int) := by omega
              have hrl : r < (L[q]'hql).1.length := by rw [← HN.out]; exact hrn
              rcases HV.out.2 with ⟨h0, _⟩ | ⟨b', o', c3, hv', hb3, hc3⟩
              · rw [h0] at hrl; simp at hrl
              · simp only [Value.slice.injEq] at hv'
                obtain ⟨rfl, _, rfl⟩ := hv'
                obtain ⟨d0, d1⟩ := hc3 r hrl
                rw [← hb2.cell (p := ⟨b', _, none⟩) hb3] at d0 d1
                have hz2 := hb2.size
                obtain ⟨C, hC⟩ : ∃ C, C = ((L[q]'hql).1[r]'hrl).2 := ⟨_, rfl⟩
                have HC := Lib.hid hC
                rw [← hC] at d1
                generalize ((L[q]'hql).1[r]'hrl).1 = X at d0
                have SB2 : Below w.heap.size w (wr.alloc (.cells #[.int .i64 X, .int .u64 (C : Int)] 59)) := hb2.alloc hz2 _
                have SK2 : Blk (wr.alloc (.cells #[.int .i64 X, .int .u64 (C : Int)] 59)) w.heap.size #[.int .i64 a0, .int .u64 a1, .int .u64 a2, .int .i64 a3, .int .i64 a4, .int .i64 a5, .int .u64 a6, .int .i64 a7, .int .i64 a8, .int .i64 a9, .int .u64 a10] 28 := Blk.alloc hk2 _
                have hB2 := Lib.hid hb2
                have hK2 := Lib.hid hk2
                clear hC hc3 hb2 hk2
                by_cases h20 : 20 < C
                · have g4 : (20 : Int) < (C : Int) := by omega
                  go_wp2
                  go_ret
                  exact ⟨true, rfl, SB2, fun h => by cases h⟩
                · have g4 : ¬ (20 : Int) < (C : Int) := by omega
                  go_wp2
                  go_roundg (n - (r + 1))
                  case measure => omega
                  refine ⟨r + 1, by go_num, by omega, by omega, SB2, SK2, ?_⟩
                  intro x hx
                  rw [List.take_succ_eq_append_getElem hrl, List.mem_append, List.mem_singleton] at hx
                  rcases hx with hx | rfl
                  · exact HF2.out x hx
                  · have := HC.out; omega
            · have g3 : ¬ (r : Int) < (n : Int) := by omega
              have hB2 := Lib.hid hb2
              have hK2 := Lib.hid hk2
              clear hb2 hk2
              go_wp2
              go_roundg (m - (q + 1))
              case measure => omega
              refine ⟨q + 1, by go_num, by omega, by omega, hB2.out, hK2.out, ?_⟩
              intro x hx
              rw [List.take_succ_eq_append_getElem hql, List.mem_append, List.mem_singleton] at hx
              rcases hx with hx | rfl
              · exact HF.out x hx
              · refine ⟨by rw [← HN.out]; omega, ?_⟩
                have := HF2.out
                rw [show r = (L[q]'hql).1.length by have := HN.out; omega, List.take_length] at this
                exact this
    · have g1 : ¬ (q : Int) < (m : Int) := by omega
      have HF2 := Lib.hid (show ∀ x ∈ L, Few x.1 by have := HF.out; rw [show q = L.length by have := HM.out; omega, List.take_length] at this; exact this)
      have HC := Lib.hid (show wr.cell? ⟨w.heap.size, 0, none⟩ = some (.int .i64 a0) ∧ wr.cell? ⟨w.heap.size, 2, none⟩ = some (.int .u64 a2) from ⟨hk.cell rfl, hk.cell rfl⟩)
      obtain ⟨k0, k2⟩ := HC.out
      have hB := Lib.hid hb
      have hfin : ∀ g : Bool, (g = false → m ≤ 12 ∧ (a0 = 1 → a2 ≤ 100)) → (g = false → FewAll L ∧ (a0 = 1 → a2 ≤ 100)) := fun g h hg => ⟨⟨by rw [← HM.out]; exact (h hg).1, HF2.out⟩, (h hg).2⟩
      have HFIN := Lib.hid hfin
      clear hb hk HC HF HF2 hfin hq hg
      by_cases e1 : 12 < m
      · have f1 : decide ((12 : Int) < (m : Int)) = true := by simp; omega
        go_wp2_with fail
        go_ret
        exact ⟨true, rfl, hB.out, fun h => by cases h⟩
      · have f1 : decide ((12 : Int) < (m : Int)) = false := by simp; omega
        by_cases e2 : a0 = 1
        · have f2 : (a0 == 1) = true := by simp [e2]
          have HE := Lib.hid e2
          clear e2
          by_cases e3 : 100 < a2
          · have f3 : decide ((100 : Int) < a2) = true := by simp; omega
            go_wp2_with fail
            go_ret
            exact ⟨true, rfl, hB.out, fun h => by cases h⟩
          · have f3 : decide ((100 : Int) < a2) = false := by simp; omega
            go_wp2_with fail
            go_ret
            exact ⟨false, rfl, hB.out, HFIN.out false fun _ => ⟨by omega, fun _ => by omega⟩⟩
        · have f2 : (a0 == 1) = false := by simp [e2]
          go_wp2_with fail
          go_ret
          exact ⟨false, rfl, hB.out, HFIN.out false fun _ => ⟨by omega, fun h => absurd h e2⟩⟩
end Go.Proofs.YtbejdajkkoapgaaGreatDoor

/-
  Own work, on top of the library's Still, StillTail and Quiet: A DRAWN REGION WHOSE LAST OPERATIONS ARE FORCED: all operations ahead of number n are quiet in a class of worlds, from number n on the order is the text's: one walk serves all orders. Conditions: the closed fact 'lexTailB'.
-/
set_option linter.unusedVariables false
set_option linter.unusedSimpArgs false
namespace Go.Proofs.YtbejdajkkoapgaaGreatDoor
open Go

section
variable {P : Program} {ops : Array Oper} {md : Region.Mode} {C : World → Prop}

/-- the head in any order, L at its end -/
def headQ (P : Program) (md : Region.Mode) (ops : Array Oper) (C : World → Prop) (n : Nat) (L : Array Bool → Act → Prop) : Nat → Array Bool → Act → Prop
  | 0, s, a => L s a
  | f + 1, s, a => Region.ready md ops s ≠ [] ∧ ∀ i ∈ Region.ready md ops s, i < n ∧ qOp P ops C i (headQ P md ops C n L f (s.setIfInBounds i true)) a

theorem any_of_headQ {n g : Nat} {L : Array Bool → Act → Prop} {Q : Exit → Act → World → Prop} (hL : ∀ s a w, C w → L s a → wpAny P md ops Q g s a w) :
    ∀ (f : Nat) (s : Array Bool) (a : Act) (w : World), C w → headQ P md ops C n L f s a → wpAny P md ops Q (f + g) s a w := by
  intro f
  induction f with
  | zero => intro s a w hw h; rw [Nat.zero_add]; exact hL s a w hw h
  | succ f ih =>
    intro s a w hw h
    rw [show f + 1 + g = (f + g) + 1 from by omega]
    exact ⟨fun h0 => absurd h0 h.1, fun i hi => wpOp_of_qOp hw (fun a' w' hw' h' => ih _ a' w' hw' h') (h.2 i hi).2⟩

theorem headQ_first {n i : Nat} {oi : Oper} {v : Value} {L : Array Bool → Act → Prop} (hi : ops[i]? = some oi) (hsel : ∀ (j : Nat) (o : Oper) cs b, ops[j]? = some o → o.op ≠ .select cs b)
    (hs : Region.sinkB md ops n = true) (hc : Region.chainB md ops n = true) (hn : n < ops.size) (hin : i < n) (hdone : ∀ s a, L s a → ∀ j ∈ Region.ready md ops s, n ≤ j) :
    ∀ (f : Nat) (s : Array Bool) (a : Act), HeadInv md ops n s →
      (∀ j oj, ops[j]? = some oj → j ≠ i → s.getD j true = false → (∀ e ∈ oj.after, Region.binds md e = true → e.on ≠ i) → oi.apart ops oj = true) →
      i ∈ Region.ready md ops s → YieldsIn P ops C oi v a → headQ P md ops C n L f (s.setIfInBounds i true) (a.put oi.dst v) → headQ P md ops C n L (f + 1) s a := by
  intro f
  induction f with
  | zero =>
    intro s a inv _ hr hy H
    have hun := (mem_ready.1 hr).1
    refine ⟨fun h => (by rw [h] at hr; cases hr), fun j hj => ?_⟩
    have hjn : j < n := Nat.lt_of_not_le fun h => tail_waits hs hc hn inv _ i rfl hin hun j h hj
    refine ⟨hjn, ?_⟩
    by_cases hji : j = i
    · subst hji; exact hy.qOp hi H
    · have := hdone _ _ H j (ready_mono hj hji); omega
  | succ f ih =>
    intro s a inv hfree hr hy H
    have hun := (mem_ready.1 hr).1
    refine ⟨fun h => (by rw [h] at hr; cases hr), fun j hj => ?_⟩
    have hjn : j < n := Nat.lt_of_not_le fun h => tail_waits hs hc hn inv _ i rfl hin hun j h hj
    refine ⟨hjn, ?_⟩
    by_cases hji : j = i
    · subst hji; exact hy.qOp hi H
    · obtain ⟨hjun, oj, hoj, hall⟩ := mem_ready.1 hj
      have hnot : ∀ e ∈ oj.after, Region.binds md e = true → e.on ≠ i := fun e he hb heq => by
        have h1 := hall e he hb
        rw [heq, getD_both hun] at h1
        cases h1
      have h2 := qOp_put hoj (hfree j oj hoj hji hjun hnot) (fun cs b => hsel i oi cs b hi) (fun cs b => hsel j oj cs b hoj) hy (H.2 j (ready_mono hj hji)).2
      refine qOp_mono (fun a' h3 => ih (s.setIfInBounds j true) a' (inv.set hj hjn) (fun k ok hk hki hku hno => hfree k ok hk hki ?_ hno) (ready_mono hr (Ne.symm hji)) h3.1 ?_) h2
      · by_cases hjk : j = k
        · subst hjk; exact hjun
        · rw [getD_set_ne true hjk] at hku; exact hku
      · rw [Array.setIfInBounds_comm _ _ hji]; exact h3.2

theorem headQ_lex {n g : Nat} {R : Act → Prop} (hsel : Region.noSelect ops = true) (hs : Region.sinkB md ops n = true) (hc : Region.chainB md ops n = true) (hn : n < ops.size) :
    ∀ (l : List Oper) (k : Nat) (s : Array Bool) (a : Act), (∀ j, j < l.length → l[j]? = ops[k + j]?) → k + l.length = n → HeadInv md ops n s →
    Region.lexHead md ops g l.length k s = true → wpQuiet P ops C R l a → headQ P md ops C n (fun s' a' => Region.seqB md ops g n s' = true ∧ R a') l.length s a := by
  intro l
  induction l with
  | nil =>
    intro k s a _ hk _ hB h
    have hk' : k = n := by simpa using hk
    rw [hk'] at hB
    exact ⟨hB, h⟩
  | cons o l ih =>
    intro k s a hl hk inv hB h
    have h0 : ops[k]? = some o := by simpa using (hl 0 (by simp)).symm
    simp only [List.length_cons, Region.lexHead, Bool.and_eq_true] at hB
    obtain ⟨⟨hr, hf⟩, hB'⟩ := hB
    simp only [List.length_cons] at hk
    have hr' : k ∈ Region.ready md ops s := by simpa using hr
    have hst : qOp P ops C k (wpQuiet P ops C R l) a := by unfold qOp; simp only [h0]; exact h
    obtain ⟨v, hy, hK⟩ := yieldsIn_of_qOp h0 hst
    refine headQ_first h0 (Region.noSelect_spec hsel) hs hc hn (by omega) (fun s' a' hL => seqB_ready hL.1) l.length s a inv (Region.free_spec h0 hf) hr' hy ?_
    exact ih (k + 1) _ _ (fun j hj => by have := hl (j + 1) (by simp; omega); simpa [Nat.add_assoc, Nat.add_comm 1 j] using this) (by omega) (inv.set hr' (by omega)) hB' hK

theorem wp_region_quiet_tail {id : Nat} {Q : Exit → Act → World → Prop} {a : Act} {w : World} {l : List Oper} (n : Nat) (hm : P.follows .mixedOrders = true) (hB : Region.lexTailB .any l.toArray n = true) (hC : C w.drew)
    (h : wpQuiet P l.toArray C (fun a' => ∀ w', C w' → wpList P l.toArray Q (l.drop n) a' w') (l.take n) a) : (Code.region id l.toArray true).wp P Q a w := by
  simp only [Region.lexTailB, Bool.and_eq_true, decide_eq_true_eq] at hB
  obtain ⟨⟨⟨⟨hsel, hn⟩, hs⟩, hc⟩, hlex⟩ := hB
  have hn' : n < l.length := by simpa using hn
  have htl : (l.take n).length = n := by simp; omega
  have hdl : (l.drop n).length = l.toArray.size - n := by simp
  have inv0 : HeadInv .any l.toArray n (Array.replicate l.toArray.size false) :=
    ⟨by simp, fun j oj _ hl => (by rw [getD_replicate_false] at hl; cases hl), fun t _ ht => getD_in (by simpa using ht) (getD_replicate_false _ _)⟩
  have H := headQ_lex (md := .any) (g := l.toArray.size - n) hsel hs hc hn (l.take n) 0 _ a (fun j hj => by
    have hj' : j < n := by rw [htl] at hj; exact hj
    simp [hj']) (by simpa using htl) inv0 (by rw [htl]; exact hlex) h
  refine wp_region_any hm ?_
  have k := any_of_headQ (Q := Q) (g := l.toArray.size - n) (fun s a' w' hw' hL => by
    have := wpAny_of_seq (md := .any) (Q' := Q) (l.drop n) n s a' w' (fun j => by simp [List.getElem?_drop]) (by rw [hdl]; exact hL.1) (hL.2 w' hw')
    rwa [hdl] at this) _ _ _ _ hC H
  rw [htl, show n + (l.toArray.size - n) = l.toArray.size from by omega] at k
  exact k
end
end Go.Proofs.YtbejdajkkoapgaaGreatDoor

/-
  What a kind of sketch is to the theorems over the whole: how one lies in memory, and what its methods do. Contract of made for any such kind. Conditions: the kind's own laws.
-/
set_option linter.unusedVariables false
set_option linter.unusedSimpArgs false
set_option maxRecDepth 100000
namespace Go.Proofs.YtbejdajkkoapgaaGreatDoor
open Go.RowKit Go.Lib

/-- a config as a value -/
def cfgV (a0 a1 a2 a3 a4 a5 a6 a7 a8 a9 a10 : Int) : Array Value := #[.int .i64 a0, .int .u64 a1, .int .u64 a2, .int .i64 a3, .int .i64 a4, .int .i64 a5, .int .u64 a6, .int .i64 a7, .int .i64 a8, .int .i64 a9, .int .u64 a10]
/-- values in their range -/
def InV (l : Vals) : Prop := ∀ x ∈ l, I64 x.1 ∧ x.2 ≤ 20
/-- what a kind's New answers -/
def NewK (Sk : World → Nat → (Nat → Prop) → Vals → Prop) (vals : Vals) (w : World) (e : Ending) (w' : World) : Prop := ∃ (po : Option Addr) (code : Int), e = .returned (.tuple #[.pointer po, .int .i64 code]) ∧ Below w.heap.size w w' ∧
  (code = 0 → ∃ kb O, po = some ⟨kb, 0, none⟩ ∧ Sk w' kb O vals ∧ ∀ k, O k → w.heap.size ≤ k)
/-- what a kind's Put answers -/
def PutK (Sk : World → Nat → (Nat → Prop) → Vals → Prop) (P : Int × Nat → Bool) (w : World) (kb : Nat) (O : Nat → Prop) (vals : Vals) (x : Int × Nat) (e : Ending) (w' : World) : Prop := ∃ (code : Int) (O' : Nat → Prop), e = .returned (.int .i64 code) ∧
  (code = 0 ↔ P x = true) ∧ Sk w' kb O' (if P x then vals ++ [x] else vals) ∧ SubO w O O' ∧ Away O w w'
/-- what a kind's Join answers -/
def JoinK (Sk : World → Nat → (Nat → Prop) → Vals → Prop) (w : World) (kb : Nat) (O : Nat → Prop) (vals more : Vals) (e : Ending) (w' : World) : Prop := ∃ (code : Int) (O' : Nat → Prop), e = .returned (.int .i64 code) ∧
  (code = 0 → Sk w' kb O' (vals ++ more)) ∧ SubO w O O' ∧ Away O w w'
/-- what bytes answers -/
def BytesK (Enc : List UInt8 → Vals → Prop) (vals : Vals) (w : World) (e : Ending) (w' : World) : Prop := ∃ s, e = .returned (.string (bs s)) ∧ Enc s vals ∧ Below w.heap.size w w'

structure Kind (cv : Array Value) (Sk : World → Nat → (Nat → Prop) → Vals → Prop) (Enc : List UInt8 → Vals → Prop) (P : Int × Nat → Bool) : Prop where
  next : ∀ {w w' : World} {kb : Nat} {O : Nat → Prop} {vals : Vals}, Sk w kb O vals → Below w.heap.size w w' → Sk w' kb O vals
  away : ∀ {w w' : World} {kb : Nat} {O G : Nat → Prop} {vals : Vals}, Sk w kb O vals → Away G w w' → (∀ k, O k → ¬ G k) → Sk w' kb O vals
  lt : ∀ {w : World} {kb : Nat} {O : Nat → Prop} {vals : Vals}, Sk w kb O vals → ∀ k, O k → k < w.heap.size
  ty : ∀ {w : World} {kb : Nat} {O : Nat → Prop} {vals : Vals}, Sk w kb O vals → ∀ k, O k → ∀ cs, ¬ Blk w k cs 59 ∧ ¬ Blk w k cs 34
  new : ∀ w, Sp.Tens w → Calls Tryz.prog 17 #[.agg cv] w (NewK Sk [] w)
  put : ∀ (w : World) (kb : Nat) (O : Nat → Prop) (vals : Vals) (x : Int × Nat), Sk w kb O vals → InV vals → vals.length < 360 → I64 x.1 → x.2 ≤ 20 → Calls Tryz.prog 18 #[.pointer (some ⟨kb, 0, none⟩), .int .i64 x.1, .int .u64 (x.2 : Nat)] w (PutK Sk P w kb O vals x)
  bytes : ∀ (w : World) (kb : Nat) (O : Nat → Prop) (vals : Vals), Sk w kb O vals → InV vals → vals.length ≤ 360 → Calls Tryz.prog 14 #[.pointer (some ⟨kb, 0, none⟩)] w (BytesK Enc vals w)
  decode : ∀ (w : World) (s : List UInt8) (vals : Vals), Sp.Tens w → Enc s vals → InV vals → vals.length ≤ 360 → Calls Tryz.prog 19 #[.string (bs s)] w (NewK Sk vals w)
  join : ∀ (w : World) (kb nb : Nat) (O N : Nat → Prop) (vals more : Vals), Sk w kb O vals → Sk w nb N more → (∀ k, O k → ¬ N k) → InV vals → InV more → vals.length + more.length ≤ 360 →
    Calls Tryz.prog 22 #[.pointer (some ⟨kb, 0, none⟩), .pointer (some ⟨nb, 0, none⟩)] w (JoinK Sk w kb O vals more)
theorem Kind.drew {cv : Array Value} {Sk : World → Nat → (Nat → Prop) → Vals → Prop} {Enc : List UInt8 → Vals → Prop} {P : Int × Nat → Bool} (K : Kind cv Sk Enc P) {w : World} {kb : Nat} {O : Nat → Prop} {vals : Vals} (h : Sk w kb O vals) : Sk w.drew kb O vals :=
  K.next h (Below.refl _ _).drew

/-- values as cells -/
def valC (x : Int × Nat) : List Value := [.int .i64 x.1, .int .u64 (x.2 : Int)]
def valsC (l : Vals) : List Value := l.flatMap valC
theorem valsC_append (l m : Vals) : valsC (l ++ m) = valsC l ++ valsC m := List.flatMap_append
theorem valsC_length (l : Vals) : (valsC l).length = l.length * 2 := by
  induction l with
  | nil => rfl
  | cons x l ih => unfold valsC at ih ⊢; rw [List.flatMap_cons, List.length_append, ih]; simp [valC]; omega
theorem valsC_get (l : Vals) (i : Nat) (h : i < l.length) : (valsC l)[i * 2]? = some (.int .i64 (l[i]'h).1) ∧ (valsC l)[i * 2 + 1]? = some (.int .u64 ((l[i]'h).2 : Nat)) := by
  induction l generalizing i with
  | nil => simp at h
  | cons x l ih =>
    have e : valsC (x :: l) = .int .i64 x.1 :: .int .u64 (x.2 : Int) :: valsC l := rfl
    rw [e]
    cases i with
    | zero => exact ⟨rfl, rfl⟩
    | succ i =>
      obtain ⟨h1, h2⟩ := ih i (by simpa using h)
      rw [show (i + 1) * 2 = i * 2 + 1 + 1 from by omega]
      exact ⟨h1, h2⟩
theorem valsC_one (l : Vals) : ∀ u ∈ valsC l, u.oneCell' = true := fun u hu => by
  unfold valsC at hu
  obtain ⟨x, _, hx⟩ := List.mem_flatMap.1 hu
  simp [valC] at hx
  rcases hx with rfl | rfl <;> rfl
theorem info59 : (Tryz.prog.info? 59).map (fun i => (i.zero, i.size, i.bytes)) = some (some (.agg #[.int .i64 0, .int .u64 0]), 2, 16) := by kernel_rfl

/-- what made has so far: a sketch (and what that took), the row of values, the leaf -/
structure MdS (Sk : World → Nat → (Nat → Prop) → Vals → Prop) (w : World) (kb : Nat) (O : Nat → Prop) (sv vals : Vals) (A : Option Addr) (c : Nat) (lf : Array Value) (W : World) : Prop where
  sk : Sk W kb O sv
  own : W.ownsRow w.heap.size 59 2 (.slice A vals.length c) vals.length (valsC vals)
  below : Below w.heap.size w W
  new : ∀ k, O k → w.heap.size + 2 ≤ k
  leaf : Blk W (w.heap.size + 1) lf 55
section
variable {cv : Array Value} {Sk : World → Nat → (Nat → Prop) → Vals → Prop} {Enc : List UInt8 → Vals → Prop} {P : Int × Nat → Bool} {w : World} {kb : Nat} {O : Nat → Prop} {sv vals : Vals} {A : Option Addr} {c : Nat} {lf : Array Value} {W W' : World}
theorem MdS.ap (K : Kind cv Sk Enc P) (h : MdS Sk w kb O sv vals A c lf W) : ∀ g, (Value.slice A vals.length c).ownBlock = some g → ¬ O g := fun g hg hO => by
  obtain ⟨cur, hc⟩ := owns_blk h.own hg
  exact (K.ty h.sk g hO cur).1 hc
theorem MdS.next (K : Kind cv Sk Enc P) (h : MdS Sk w kb O sv vals A c lf W) (hb : Below W.heap.size W W') : MdS Sk w kb O sv vals A c lf W' :=
  ⟨K.next h.sk hb, owns_below h.own hb fun g hg => (h.own.lt g hg).2, h.below.trans (hb.mono h.below.size), h.new, h.leaf.below hb h.leaf.lt⟩
theorem MdS.put (K : Kind cv Sk Enc P) (h : MdS Sk w kb O sv vals A c lf W) {O' : Nat → Prop} {sv' : Vals} (hs : Sk W' kb O' sv') (hsub : SubO W O O') (ha : Away O W W') : MdS Sk w kb O' sv' vals A c lf W' := by
  have hz := h.leaf.lt
  refine ⟨hs, owns_away h.own ha (h.ap K), h.below.trans (ha.below h.below.size fun k hk hO => by have := h.new k hO; omega), fun k hk => ?_, h.leaf.away ha fun hO => by have := h.new _ hO; omega⟩
  rcases hsub k hk with hO | hO
  · exact h.new k hO
  · omega
/-- one value more in the row of those that were taken -/
theorem wpList_val (K : Kind cv Sk Enc P) {ops : Array Oper} {rest : List Oper} {o : Oper} {a : Act} {Q : Exit → Act → World → Prop} (hgd : o.guard = none) (s x : Operand) (ho : o.op = .call { callee := .builtin .append, args := #[s, x], argTypes := #[35, 35] })
    (S : MdS Sk w kb O sv vals A c lf W) (hlen : vals.length ≤ 100000) (X : Int) (C : Nat) (hs : a.eval s = .slice A vals.length c) (hx : a.eval x = .slice (some ⟨W.heap.size, 0, none⟩) 1 1)
    (h : ∀ A' c' w1, MdS Sk w kb O sv (vals ++ [(X, C)]) A' c' lf w1 → wpList Tryz.prog ops Q rest (a.put o.dst (.slice A' (vals ++ [(X, C)]).length c')) w1) :
    wpList Tryz.prog ops Q (o :: rest) a (W.alloc (.cells #[.int .i64 X, .int .u64 (C : Int)] 59)) := by
  obtain ⟨i0, hi, hz0, hz1, hz2⟩ := info_parts info59
  have hsz := S.below.size
  have S1 := S.next K ((Below.refl _ _).alloc (Nat.le_refl _) (.cells #[.int .i64 X, .int .u64 (C : Int)] 59))
  refine wpList_append_own _ hgd s x 35 ho w.heap.size 59 i0 _ 2 16 Tryz.underlying35 hi hz0 hz1 hz2 rfl (by decide) _ _ _ hs S1.own _ 1 1 (valC (X, C)) hx rfl ?_ ?_ (by unfold maxLen; omega) (by omega) (by simp; omega) ?_
  · intro j y hj
    rw [Addr.add_lit, Nat.zero_add]
    exact (Blk.newAt rfl).cell (by simpa [valC] using hj)
  · intro y hy; simp [valC] at hy; rcases hy with rfl | rfl <;> rfl
  intro v' w1 hown hgrow _
  have e1 : vals.length + 1 = (vals ++ [(X, C)]).length := by simp
  have e2 : valsC vals ++ valC (X, C) = valsC (vals ++ [(X, C)]) := by rw [valsC_append]; rfl
  rw [e1, e2] at hown
  obtain ⟨A', c', hv⟩ := owns_slice hown
  subst hv
  have ha : Away (fun k => (Value.slice A vals.length c).ownBlock = some k) (W.alloc (.cells #[.int .i64 X, .int .u64 (C : Int)] 59)) w1 := Away.of_grown hgrow fun k hk => hk
  refine h A' c' w1 ⟨K.away S1.sk ha fun k hO hk => S1.ap K k hk hO, hown, S1.below.trans (ha.below (by simp; omega) fun k hk e => by have := (S.own.lt k e).1; omega), S.new, S1.leaf.away ha fun e => ?_⟩
  obtain ⟨cur, hc⟩ := owns_blk S1.own e
  exact (hc.ne S1.leaf (by decide)) rfl
end
end Go.Proofs.YtbejdajkkoapgaaGreatDoor

/-
  What tree has in memory while it works: sketches apart from one another, the row of pointers to them, all values. For any kind that keeps its laws. Conditions: the kind's own laws.
-/
set_option linter.unusedVariables false
set_option linter.unusedSimpArgs false
set_option maxRecDepth 100000
namespace Go.Proofs.YtbejdajkkoapgaaGreatDoor
open Go.RowKit Go.Lib

/-- a sketch of the row: where it lies, which blocks are its own, what it took -/
structure It where
  kb : Nat
  own : Nat → Prop
  vals : Vals
def ptrC (rk : List Nat) : List Value := rk.map fun k => .pointer (some ⟨k, 0, none⟩)
theorem ptrC_append (a b : List Nat) : ptrC (a ++ b) = ptrC a ++ ptrC b := List.map_append
theorem ptrC_length (a : List Nat) : (ptrC a).length = a.length := by simp [ptrC]
theorem ptrC_one (a : List Nat) : ∀ u ∈ ptrC a, u.oneCell' = true := fun u hu => by
  unfold ptrC at hu
  obtain ⟨k, _, rfl⟩ := List.mem_map.1 hu
  rfl
theorem ptrC_get (a : List Nat) (i : Nat) (h : i < a.length) : (ptrC a)[i]? = some (.pointer (some ⟨a[i]'h, 0, none⟩)) := by simp [ptrC, h]
theorem info34 : (Tryz.prog.info? 34).map (fun i => (i.zero, i.size, i.bytes)) = some (some (.pointer none), 1, 8) := by kernel_rfl

structure TrS (Sk : World → Nat → (Nat → Prop) → Vals → Prop) (w : World) (cv : Array Value) (ks : List It) (rk : List Nat) (al : Vals) (rv av : Value) (W : World) : Prop where
  sk : ∀ x ∈ ks, Sk W x.kb x.own x.vals
  ap : ks.Pairwise fun x y => ∀ k, x.own k → ¬ y.own k
  new : ∀ x ∈ ks, ∀ k, x.own k → w.heap.size + 1 ≤ k
  row : W.ownsRow w.heap.size 34 1 rv rk.length (ptrC rk)
  all : W.ownsRow w.heap.size 59 2 av al.length (valsC al)
  below : Below w.heap.size w W
  cfg : Blk W w.heap.size cv 28
section
variable {cv : Array Value} {Sk : World → Nat → (Nat → Prop) → Vals → Prop} {Enc : List UInt8 → Vals → Prop} {P : Int × Nat → Bool} {w : World} {ks : List It} {rk : List Nat} {al : Vals} {rv av : Value} {W W' : World}
theorem TrS.next (K : Kind cv Sk Enc P) (h : TrS Sk w cv ks rk al rv av W) (hb : Below W.heap.size W W') : TrS Sk w cv ks rk al rv av W' :=
  ⟨fun x hx => K.next (h.sk x hx) hb, h.ap, h.new, owns_below h.row hb fun g hg => (h.row.lt g hg).2, owns_below h.all hb fun g hg => (h.all.lt g hg).2, h.below.trans (hb.mono h.below.size), h.cfg.below hb h.cfg.lt⟩
theorem TrS.drew (h : TrS Sk w cv ks rk al rv av W) (K : Kind cv Sk Enc P) : TrS Sk w cv ks rk al rv av W.drew := h.next K (Below.refl _ _).drew
/-- one sketch more -/
theorem TrS.add (K : Kind cv Sk Enc P) (h : TrS Sk w cv ks rk al rv av W) (hb : Below W.heap.size W W') (y : It) (hy : Sk W' y.kb y.own y.vals) (hn : ∀ k, y.own k → W.heap.size ≤ k) : TrS Sk w cv (ks ++ [y]) rk al rv av W' := by
  have h' := h.next K hb
  have hz := h.cfg.lt
  refine ⟨fun x hx => ?_, List.pairwise_append.2 ⟨h.ap, by simp, fun x hx z hz k hk hk2 => ?_⟩, fun x hx k hk => ?_, h'.row, h'.all, h'.below, h'.cfg⟩
  · rcases List.mem_append.1 hx with hx | hx
    · exact h'.sk x hx
    · rw [List.mem_singleton.1 hx]; exact hy
  · rw [List.mem_singleton.1 hz] at hk2
    have h1 := K.lt (h.sk x hx) k hk
    have h2 := hn k hk2
    omega
  · rcases List.mem_append.1 hx with hx | hx
    · exact h.new x hx k hk
    · rw [List.mem_singleton.1 hx] at hk
      have := hn k hk; omega
/-- behind an append to the row -/
theorem TrS.rowTo (K : Kind cv Sk Enc P) (h : TrS Sk w cv ks rk al rv av W) {rk' : List Nat} {rv' : Value} (ho : W'.ownsRow w.heap.size 34 1 rv' rk'.length (ptrC rk')) (hg : W.grownBy W' rv.ownBlock) : TrS Sk w cv ks rk' al rv' av W' := by
  have ha : Away (fun k => rv.ownBlock = some k) W W' := Away.of_grown hg fun k hk => hk
  refine ⟨fun x hx => K.away (h.sk x hx) ha fun k hk e => ?_, h.ap, h.new, ho, owns_away h.all ha fun g hg e => ?_, h.below.trans (ha.below h.below.size fun k hk e => by have := (h.row.lt k e).1; omega), h.cfg.away ha fun e => ?_⟩
  · obtain ⟨cur, hc⟩ := owns_blk h.row e
    exact (K.ty (h.sk x hx) k hk cur).2 hc
  · obtain ⟨cur, hc⟩ := owns_blk h.row e
    obtain ⟨cur2, hc2⟩ := owns_blk h.all hg
    exact (hc.ne hc2 (by decide)) rfl
  · obtain ⟨cur, hc⟩ := owns_blk h.row e
    exact (hc.ne h.cfg (by decide)) rfl
/-- behind an append to all values -/
theorem TrS.allTo (K : Kind cv Sk Enc P) (h : TrS Sk w cv ks rk al rv av W) {al' : Vals} {av' : Value} (ho : W'.ownsRow w.heap.size 59 2 av' al'.length (valsC al')) (hg : W.grownBy W' av.ownBlock) : TrS Sk w cv ks rk al' rv av' W' := by
  have ha : Away (fun k => av.ownBlock = some k) W W' := Away.of_grown hg fun k hk => hk
  refine ⟨fun x hx => K.away (h.sk x hx) ha fun k hk e => ?_, h.ap, h.new, owns_away h.row ha fun g hg e => ?_, ho, h.below.trans (ha.below h.below.size fun k hk e => by have := (h.all.lt k e).1; omega), h.cfg.away ha fun e => ?_⟩
  · obtain ⟨cur, hc⟩ := owns_blk h.all e
    exact (K.ty (h.sk x hx) k hk cur).1 hc
  · obtain ⟨cur, hc⟩ := owns_blk h.all e
    obtain ⟨cur2, hc2⟩ := owns_blk h.row hg
    exact (hc.ne hc2 (by decide)) rfl
  · obtain ⟨cur, hc⟩ := owns_blk h.all e
    exact (hc.ne h.cfg (by decide)) rfl
/-- the row's value anew -/
theorem TrS.rowNew (h : TrS Sk w cv ks rk al rv av W) {rk' : List Nat} {rv' : Value} (ho : W.ownsRow w.heap.size 34 1 rv' rk'.length (ptrC rk')) : TrS Sk w cv ks rk' al rv' av W := ⟨h.sk, h.ap, h.new, ho, h.all, h.below, h.cfg⟩
/-- behind a Join of two neighbours -/
theorem TrS.join (K : Kind cv Sk Enc P) {pre post : List It} {x y : It} (h : TrS Sk w cv (pre ++ x :: y :: post) rk al rv av W) {O' : Nat → Prop} {vs : Vals} (hs : Sk W' x.kb O' vs) (hsub : SubO W x.own O') (ha : Away x.own W W') : TrS Sk w cv (pre ++ ⟨x.kb, O', vs⟩ :: post) rk al rv av W' := by
  have hz := h.cfg.lt
  have hx : x ∈ pre ++ x :: y :: post := by simp
  have hap := List.pairwise_append.1 h.ap
  have hap2 := List.pairwise_cons.1 hap.2.1
  have hap3 := List.pairwise_cons.1 hap2.2
  have hxs := h.sk x hx
  have mpre : ∀ z ∈ pre, z ∈ pre ++ x :: y :: post := fun z hz => List.mem_append_left _ hz
  have mpost : ∀ z ∈ post, z ∈ pre ++ x :: y :: post := fun z hz => List.mem_append_right _ (List.mem_cons_of_mem _ (List.mem_cons_of_mem _ hz))
  have far : ∀ z, z ∈ pre ++ x :: y :: post → (∀ k, z.own k → ¬ x.own k) → ∀ k, z.own k → ¬ O' k := fun z hz hd k hk hO => by
    rcases hsub k hO with e | e
    · exact hd k hk e
    · have := K.lt (h.sk z hz) k hk; omega
  have dpre : ∀ z ∈ pre, ∀ k, z.own k → ¬ x.own k := fun z hz => hap.2.2 z hz x (List.mem_cons_self ..)
  have dpost : ∀ z ∈ post, ∀ k, z.own k → ¬ x.own k := fun z hz k hk e => hap2.1 z (List.mem_cons_of_mem _ hz) k e hk
  refine ⟨fun z hz => ?_, List.pairwise_append.2 ⟨hap.1, List.pairwise_cons.2 ⟨fun z hz k hO hk => far z (mpost z hz) (dpost z hz) k hk hO, hap3.2⟩, fun z hz u hu => ?_⟩, fun z hz' k hk => ?_, owns_away h.row ha fun g hg e => ?_, owns_away h.all ha fun g hg e => ?_, h.below.trans (ha.below h.below.size fun k hk e => by have := h.new x hx k e; omega), h.cfg.away ha fun e => by have := h.new x hx _ e; omega⟩
  · rcases List.mem_append.1 hz with hz | hz
    · exact K.away (h.sk z (mpre z hz)) ha (dpre z hz)
    · rcases List.mem_cons.1 hz with rfl | hz
      · exact hs
      · exact K.away (h.sk z (mpost z hz)) ha (dpost z hz)
  · rcases List.mem_cons.1 hu with rfl | hu
    · exact far z (mpre z hz) (dpre z hz)
    · exact hap.2.2 z hz u (List.mem_cons_of_mem _ (List.mem_cons_of_mem _ hu))
  · rcases List.mem_append.1 hz' with hz' | hz'
    · exact h.new z (mpre z hz') k hk
    · rcases List.mem_cons.1 hz' with rfl | hz'
      · rcases hsub k hk with e | e
        · exact h.new x hx k e
        · omega
      · exact h.new z (mpost z hz') k hk
  · obtain ⟨cur, hc⟩ := owns_blk h.row hg
    exact (K.ty hxs g e cur).2 hc
  · obtain ⟨cur, hc⟩ := owns_blk h.all hg
    exact (K.ty hxs g e cur).1 hc
/-- an append of pointers that lie in memory to a row of pointers -/
theorem wpList_ptrs (K : Kind cv Sk Enc P) {ops : Array Oper} {rest : List Oper} {o : Oper} {a : Act} {Q : Exit → Act → World → Prop} (hgd : o.guard = none) (s x : Operand) (ho : o.op = .call { callee := .builtin .append, args := #[s, x], argTypes := #[68, 68] })
    {mk : List Nat} {tv : Value} (S : TrS Sk w cv ks rk al rv av W) (B : Nat) (hB : w.heap.size ≤ B) (hB2 : B ≤ W.heap.size) (hrow : W.ownsRow B 34 1 tv mk.length (ptrC mk)) (ps : List Nat) (ad : Addr) (c : Nat) (hlen : mk.length + ps.length ≤ 100000) (hs : a.eval s = tv) (hx : a.eval x = .slice (some ad) ps.length c)
    (hc : ∀ i (h : i < ps.length), W.cell? (ad.add i) = some (.pointer (some ⟨ps[i]'h, 0, none⟩)))
    (h : ∀ A' c' w1, TrS Sk w cv ks (mk ++ ps) al (.slice A' (mk ++ ps).length c') av w1 → w1.ownsRow B 34 1 (.slice A' (mk ++ ps).length c') (mk ++ ps).length (ptrC (mk ++ ps)) → W.grownBy w1 tv.ownBlock → wpList Tryz.prog ops Q rest (a.put o.dst (.slice A' (mk ++ ps).length c')) w1) : wpList Tryz.prog ops Q (o :: rest) a W := by
  obtain ⟨i0, hi, hz0, hz1, hz2⟩ := info_parts info34
  have S1 := S.rowNew (owns_base hrow fun g hg => Nat.le_trans hB (hrow.lt g hg).1)
  refine wpList_append_own _ hgd s x 68 ho B 34 i0 _ 1 8 Tryz.underlying68 hi hz0 hz1 hz2 rfl (by decide) _ _ _ hs hrow ad ps.length c (ptrC ps) hx (by rw [ptrC_length]; omega) ?_ (ptrC_one ps) (by unfold maxLen; omega) (by omega) hB2 ?_
  · intro j u hj
    have hj2 : j < ps.length := by have := (List.getElem?_eq_some_iff.1 hj).1; rwa [ptrC_length] at this
    rw [ptrC_get ps j hj2] at hj
    rw [hc j hj2]; exact hj
  intro v' w1 hown hgrow _
  rw [← ptrC_append, ← List.length_append] at hown
  obtain ⟨A', c', hv⟩ := owns_slice hown
  subst hv
  exact h A' c' w1 (S1.rowTo K (owns_base hown fun g hg => Nat.le_trans hB (hown.lt g hg).1) hgrow) hown hgrow
/-- the same as one step of a region that draws -/
theorem step_ptrs (K : Kind cv Sk Enc P) {ops : Array Oper} {o : Oper} {a : Act} {L : Act → World → Prop} {Q : Exit → Act → World → Prop} {E : Prop} (hgd : o.guard = none) (s x : Operand) (ho : o.op = .call { callee := .builtin .append, args := #[s, x], argTypes := #[68, 68] })
    {mk : List Nat} {tv : Value} (S : TrS Sk w cv ks rk al rv av W) (B : Nat) (hB : w.heap.size ≤ B) (hB2 : B ≤ W.heap.size) (hrow : W.ownsRow B 34 1 tv mk.length (ptrC mk)) (ps : List Nat) (ad : Addr) (n c : Nat) (hn : ps.length = n) (res : List Nat) (N : Nat) (hres : mk ++ ps = res) (hN : res.length = N) (hlen : mk.length + ps.length ≤ 100000) (hs : a.eval s = tv) (hx : a.eval x = .slice (some ad) n c)
    (hc : ∀ i (h : i < ps.length), W.cell? (ad.add i) = some (.pointer (some ⟨ps[i]'h, 0, none⟩)))
    (h : ∀ A' c' w1, TrS Sk w cv ks res al (.slice A' N c') av w1 ∧ w1.ownsRow B 34 1 (.slice A' N c') res.length (ptrC res) ∧ W.grownBy w1 tv.ownBlock → L (a.put o.dst (.slice A' N c')) w1) :
    if Region.wanted o (yielded ops a.tmps) = true then Oper.wp Tryz.prog o a W L Q else E := by
  have hw : Region.wanted o (yielded ops a.tmps) = true := by simp [Region.wanted, hgd]
  rw [if_pos hw]
  subst hn hres hN
  obtain ⟨i0, hi, hz0, hz1, hz2⟩ := info_parts info34
  have S1 := S.rowNew (owns_base hrow fun g hg => Nat.le_trans hB (hrow.lt g hg).1)
  refine wp_append_own W s x 68 ho B 34 i0 _ 1 8 Tryz.underlying68 hi hz0 hz1 hz2 rfl (by decide) _ _ _ hs hrow ad ps.length c (ptrC ps) hx (by rw [ptrC_length]; omega) ?_ (ptrC_one ps) (by unfold maxLen; omega) (by omega) hB2 ?_
  · intro j u hj
    have hj2 : j < ps.length := by have := (List.getElem?_eq_some_iff.1 hj).1; rwa [ptrC_length] at this
    rw [ptrC_get ps j hj2] at hj
    rw [hc j hj2]; exact hj
  intro v' w1 hown hgrow _
  rw [← ptrC_append, ← List.length_append] at hown
  obtain ⟨A', c', hv⟩ := owns_slice hown
  subst hv
  exact h A' c' w1 ⟨S1.rowTo K (owns_base hown fun g hg => Nat.le_trans hB (hown.lt g hg).1) hgrow, hown, hgrow⟩
/-- an append of values that lie in memory to all values -/
theorem wpList_vals (K : Kind cv Sk Enc P) {ops : Array Oper} {rest : List Oper} {o : Oper} {a : Act} {Q : Exit → Act → World → Prop} (hgd : o.guard = none) (s x : Operand) (ho : o.op = .call { callee := .builtin .append, args := #[s, x], argTypes := #[35, 35] })
    (S : TrS Sk w cv ks rk al rv av W) {m : Vals} {vv : Value} (hm : W.ownsRow 0 59 2 vv m.length (valsC m)) (hlen : al.length + m.length ≤ 100000) (hs : a.eval s = av) (hx : a.eval x = vv)
    (h : ∀ A' c' w1, TrS Sk w cv ks rk (al ++ m) rv (.slice A' (al ++ m).length c') w1 → wpList Tryz.prog ops Q rest (a.put o.dst (.slice A' (al ++ m).length c')) w1) : wpList Tryz.prog ops Q (o :: rest) a W := by
  obtain ⟨i0, hi, hz0, hz1, hz2⟩ := info_parts info59
  rcases owns_shape hm with ⟨rfl, h1, h2⟩ | ⟨g, cap, rfl, h1, h2, h3, h4⟩
  · have : m = [] := List.eq_nil_of_length_eq_zero h1
    subst this
    rw [List.append_nil] at h
    obtain ⟨A', c', hv⟩ := owns_slice S.all
    subst hv
    exact wpList_append_own_none hgd s x 35 ho w.heap.size 59 i0 2 Tryz.underlying35 hi _ al.length (valsC al) hs S.all hx (h A' c' W S)
  · refine wpList_append_own _ hgd s x 35 ho w.heap.size 59 i0 _ 2 16 Tryz.underlying35 hi hz0 hz1 hz2 rfl (by decide) _ _ _ hs S.all ⟨g, 0, none⟩ m.length cap (valsC m) hx (valsC_length m) ?_ (valsC_one m) (by unfold maxLen; omega) (by omega) S.below.size ?_
    · intro j u hj
      exact hm.cells rfl j u hj
    intro v' w1 hown hgrow _
    rw [← valsC_append, ← List.length_append] at hown
    obtain ⟨A', c', hv⟩ := owns_slice hown
    subst hv
    exact h A' c' w1 (S.allTo K hown hgrow)
end
end Go.Proofs.YtbejdajkkoapgaaGreatDoor

