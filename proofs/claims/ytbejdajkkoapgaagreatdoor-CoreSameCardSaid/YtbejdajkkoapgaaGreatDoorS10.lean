/-
  Several texts in one: Lp. What each proves, and on which conditions, stands at its head. Conditions: stated in each.
-/
import Derived.Test.YtbejdajkkoapgaaGreatDoorS09
/-
  Contracts of the stores (lowcap, highcap): put, Add, Total, Lost, Pairs, New. Conditions: stated in each.
-/
set_option linter.unusedVariables false
set_option linter.unusedSimpArgs false
set_option maxRecDepth 100000
namespace Go.Proofs.YtbejdajkkoapgaaGreatDoor
open Go.RowKit Go.Lib

/-- more of an index, where the row has room -/
theorem sto_addrow {hi : Bool} {M : Nat} (hM2 : M ≤ 4096) {w wr : World} {cb sb : Nat} {v : Value} {k : Row} {T : Nat} {O : Nat → Prop} (S : StoO hi M wr cb sb v k T) (hs : SubO w O (OwnC cb sb v)) (ha : Away O w wr) (i c : Nat) (hi4 : i < 4096) (hc : 1 ≤ c) (hT : T + c ≤ 9223372036854775807) (hlen : (addL k i c).length ≤ M) :
    Calls Tryz.prog 93 #[.pointer (some ⟨sb, 0, none⟩), .int .i64 (i : Int), .int .u64 (c : Int)] wr fun e w' => e = .returned (.int .i64 0) ∧ StoR hi M w cb O (addL k i c) (T + c) w' := by
  have hle := S.le
  refine (strip_addM hM2 wr sb v k i c S.st hc (by omega) hlen).mono fun e w' hh => ?_
  obtain ⟨he, v2, s2, a2, q2⟩ := hh
  obtain ⟨k1, k2, k3⟩ := S.adds hi4 s2 a2 q2
  exact ⟨he, StoR.made ha hs (Below.refl _ _) k1 k2 k3 (Below.refl _ _)⟩

set_option maxHeartbeats 4000000 in
theorem put_L {M : Nat} (hM1 : 1 ≤ M) (hM2 : M ≤ 4096) (w : World) (cb : Nat) (O : Nat → Prop) (k : Row) (T : Nat) (h : StoQ false M k T w cb O) (i c : Nat) (hi4 : i < 4096) (hc : 1 ≤ c) (hT : T + c ≤ 9223372036854775807) (hlen : (putK false M k i c).length ≤ M) (hkl : k.length ≤ M) :
    Calls Tryz.prog 131 #[.pointer (some ⟨cb, 0, none⟩), .int .i64 (i : Int), .int .u64 (c : Int)] w fun e w' => e = .returned (.tuple #[]) ∧ StoR false M w cb O (putK false M k i c) (T + c) w' := by
  have hQ := Lib.hid h
  obtain ⟨sb, v, S, rfl⟩ := h
  have hen := end_L w cb sb v k T S
  have HS := Lib.hid S
  have hrt := S.le
  by_cases hn : k = []
  · subst hn
    have e1 : putK false M [] i c = addL [] i c := by unfold putK; rw [if_pos rfl]
    rw [e1] at hlen ⊢
    have hadd := Lib.hid (show ∀ W, Below w.heap.size w W → _ from fun W (b : Below w.heap.size w W) => sto_addrow hM2 (HS.out.next b) (fun j hj => .inl hj) (Away.of_below (F := OwnC cb sb v) b) i c hi4 hc hT hlen)
    have hb : (!(([] : Row).isEmpty)) = false := rfl
    rw [hb] at hen
    clear S hrt e1
    go_enter Tryz.func131, Tryz.ntmps131
    go_wp2_with fail
    refine hen.mono ?_
    rintro e w1 ⟨rfl, b1⟩
    have ha1 := hadd.out w1 b1
    obtain ⟨c0, c1, c2, f2⟩ := (HS.out.next b1).cells
    clear hen hadd b1 c0 c2 f2
    go_wp2_with fail
    refine ha1.mono ?_
    rintro e w2 ⟨rfl, r2⟩
    have HR := Lib.hid r2
    clear ha1 r2
    go_wp2_with fail
    refine bodyPost_end (results_none rfl _ _ _) rfl ?_
    exact ⟨rfl, HR.out⟩
  · have hb : (!k.isEmpty) = true := by cases k <;> simp_all
    have hend : endN false k < 4096 := endN_low hn S.low
    rw [hb] at hen
    obtain ⟨en, hne⟩ : ∃ en, en = endN false k := ⟨_, rfl⟩
    rw [← hne] at hen hend
    have ho := fun W (c : W.cell? ⟨cb, 0, none⟩ = some (.int .i64 (M : Int))) => out_L W cb i en M c hM1 hM2 hi4 hend
    by_cases hfar : farB false M i en = true
    · have e1 : putK false M k i c = k := by unfold putK; rw [if_neg hn, if_pos (by rw [← hne]; exact hfar)]
      rw [e1]
      rw [hfar] at ho
      obtain ⟨l1, hl1⟩ : ∃ l1, l1 = T - rowTotal k := ⟨_, rfl⟩
      obtain ⟨l2, hl2⟩ : ∃ l2, l2 = l1 + c := ⟨_, rfl⟩
      have hwr : IntKind.u64.wrap ((l1 : Int) + (c : Int)) = (l2 : Int) := by rw [IntKind.wrap_u64]; omega
      have FIN := Lib.hid (show ∀ W, Below w.heap.size w W → StoR false M w cb (OwnC cb sb v) k (T + c) (W.setCell ⟨cb, 2, none⟩ (.int .u64 (l2 : Int))) from fun W b => by
        obtain ⟨k1, k2⟩ := (HS.out.next b).lose (c := c)
        rw [← hl1, ← hl2] at k1 k2
        exact StoR.made (Away.refl _ _) (fun j hj => .inl hj) b k1 (fun j hj => .inl hj) k2 (Below.refl _ _))
      have hc2 := fun W b => hl1 ▸ (HS.out.next (w' := W) b).cells.2.2.1
      have hc2' := Lib.hid hc2
      clear S hrt e1 hfar hlen hb hn hl1 hl2 hne hc2
      go_enter Tryz.func131, Tryz.ntmps131
      go_wp2_with fail
      refine hen.mono ?_
      rintro e w1 ⟨rfl, b1⟩
      obtain ⟨c0, c1, c2', f2⟩ := (HS.out.next b1).cells
      have c2 := hc2'.out w1 b1
      have ho1 := ho w1 c0
      clear c2' hc2'
      have HF := Lib.hid (FIN.out w1 b1)
      clear hen ho b1 FIN
      go_wp2_with fail
      refine ho1.mono ?_
      rintro e w2 ⟨rfl, rfl⟩
      go_wp2_with fail
      refine bodyPost_ret (results_none rfl _ _ _) rfl ?_
      exact ⟨rfl, HF.out⟩
    · have hfar' : farB false M i en = false := by simpa using hfar
      rw [hfar'] at ho
      by_cases hbet : betB false i en = true
      · have e1 : putK false M k i c = addL (capR (fun j => !farB false M j i) k) i c := by unfold putK; rw [if_neg hn, if_neg (by rw [← hne]; exact hfar), if_pos (by rw [← hne]; exact hbet)]
        rw [e1] at hlen ⊢
        have g : (en : Int) < (i : Int) := by unfold betB at hbet; simp at hbet; omega
        have hsh := Lib.hid (show ∀ W, Below w.heap.size w W → _ from fun W (b : Below w.heap.size w W) => shed_L hM1 hM2 W cb (OwnC cb sb v) k T (hQ.out.next b) i hi4 (by omega) (by omega))
        have FIN := Lib.hid (show ∀ W W2, Below w.heap.size w W → StoR false M W cb (OwnC cb sb v) (capR (fun j => !farB false M j i) k) T W2 → ∃ sb2, W2.cell? ⟨cb, 1, none⟩ = some (.pointer (some ⟨sb2, 0, none⟩)) ∧ Calls Tryz.prog 93 #[.pointer (some ⟨sb2, 0, none⟩), .int .i64 (i : Int), .int .u64 (c : Int)] W2 fun e w' => e = .returned (.int .i64 0) ∧ StoR false M w cb (OwnC cb sb v) (addL (capR (fun j => !farB false M j i) k) i c) (T + c) w' from fun W W2 b r => by
          obtain ⟨O', ⟨sb2, v2, S2, rfl⟩, hs, ha⟩ := r
          refine ⟨sb2, S2.cells.2.1, sto_addrow hM2 S2 (fun j hj => (hs j hj).imp id fun e => Nat.le_trans b.size e) ((Away.of_below (F := OwnC cb sb v) b).trans' ha (fun _ _ h => h) (fun _ _ h => h)) i c hi4 hc hT hlen⟩)
        clear S hrt e1 hfar hfar' hbet hlen hb hn hne
        go_enter Tryz.func131, Tryz.ntmps131
        go_wp2_with fail
        refine hen.mono ?_
        rintro e w1 ⟨rfl, b1⟩
        obtain ⟨c0, c1, c2, f2⟩ := (HS.out.next b1).cells
        have ho1 := ho w1 c0
        have hsh1 := hsh.out w1 b1
        have HF := Lib.hid (fun W2 => FIN.out w1 W2 b1)
        clear hen ho b1 FIN hsh c0 c1 c2 f2
        go_wp2_with fail
        refine ho1.mono ?_
        rintro e w2 ⟨rfl, rfl⟩
        clear ho1
        go_wp2_with fail
        refine hsh1.mono ?_
        rintro e w2 ⟨rfl, r2⟩
        obtain ⟨sb2, c1, ha1⟩ := HF.out w2 r2
        clear hsh1 HF r2
        go_wp2_with fail
        refine ha1.mono ?_
        rintro e w3 ⟨rfl, r3⟩
        have HR := Lib.hid r3
        clear ha1 r3
        go_wp2_with fail
        refine bodyPost_end (results_none rfl _ _ _) rfl ?_
        exact ⟨rfl, HR.out⟩
      · have e1 : putK false M k i c = addL k i c := by unfold putK; rw [if_neg hn, if_neg (by rw [← hne]; exact hfar), if_neg (by rw [← hne]; exact hbet)]
        rw [e1] at hlen ⊢
        have g : ¬ (en : Int) < (i : Int) := by unfold betB at hbet; simp at hbet; omega
        have hadd := Lib.hid (show ∀ W, Below w.heap.size w W → _ from fun W (b : Below w.heap.size w W) => sto_addrow hM2 (HS.out.next b) (fun j hj => .inl hj) (Away.of_below (F := OwnC cb sb v) b) i c hi4 hc hT hlen)
        clear S hrt e1 hfar hfar' hbet hlen hb hn hne
        go_enter Tryz.func131, Tryz.ntmps131
        go_wp2_with fail
        refine hen.mono ?_
        rintro e w1 ⟨rfl, b1⟩
        obtain ⟨c0, c1, c2, f2⟩ := (HS.out.next b1).cells
        have ho1 := ho w1 c0
        have ha1 := hadd.out w1 b1
        clear hen ho b1 hadd c0 c2 f2
        go_wp2_with fail
        refine ho1.mono ?_
        rintro e w2 ⟨rfl, rfl⟩
        clear ho1
        go_wp2_with fail
        refine ha1.mono ?_
        rintro e w3 ⟨rfl, r3⟩
        have HR := Lib.hid r3
        clear ha1 r3
        go_wp2_with fail
        refine bodyPost_end (results_none rfl _ _ _) rfl ?_
        exact ⟨rfl, HR.out⟩

theorem stot_L {M : Nat} (w : World) (cb : Nat) (O : Nat → Prop) (k : Row) (T : Nat) (h : StoQ false M k T w cb O) (hT : T ≤ 9223372036854775807) :
    Calls Tryz.prog 123 #[.pointer (some ⟨cb, 0, none⟩)] w fun e w' => e = .returned (.int .u64 (T : Int)) ∧ Below w.heap.size w w' := by
  obtain ⟨sb, v, S, rfl⟩ := h
  obtain ⟨c0, c1, c2, f2⟩ := S.cells
  have hle := S.le
  obtain ⟨t, ht⟩ : ∃ t, t = rowTotal k := ⟨_, rfl⟩
  have hs := fun W (c : W.cell? ⟨sb, 2, none⟩ = some (.int .u64 (t : Int))) => strip_total W sb t c
  have c3 : w.cell? ⟨sb, 2, none⟩ = some (.int .u64 (t : Int)) := by rw [ht]; exact S.st.cells.2.2.1
  rw [← ht] at c2 hle
  obtain ⟨l, hl⟩ : ∃ l, l = T - t := ⟨_, rfl⟩
  rw [← hl] at c2
  have hwr : IntKind.u64.wrap ((t : Int) + (l : Int)) = (T : Int) := by rw [IntKind.wrap_u64]; omega
  have HB := Lib.hid (Below.refl w.heap.size w)
  clear S hl ht hle c0 f2 hT
  go_enter Tryz.func123, Tryz.ntmps123
  go_upto_region 3 with fail
  go_quiet ((go_at_call 94; refine Calls.quiet_of_same ((hs _ (by simpa using c3)).mono fun e w' hh => ⟨hh.1, hh.2.symm⟩)))
  go_wp2_with fail
  go_ret
  exact ⟨rfl, below_drewN HB.out _⟩

theorem slost_L {M : Nat} (w : World) (cb : Nat) (O : Nat → Prop) (k : Row) (T : Nat) (h : StoQ false M k T w cb O) :
    Calls Tryz.prog 383 #[.pointer (some ⟨cb, 0, none⟩)] w fun e w' => e = .returned (.int .u64 ((T - rowTotal k : Nat) : Int)) ∧ w = w' := by
  obtain ⟨sb, v, S, rfl⟩ := h
  obtain ⟨c0, c1, c2, f2⟩ := S.cells
  clear S c0 c1 f2
  go_enter Tryz.func383, Tryz.ntmps383
  go_wp2_with fail
  go_ret
  exact ⟨rfl, rfl⟩

theorem spairs_L {M : Nat} (w : World) (cb : Nat) (O : Nat → Prop) (k : Row) (T : Nat) (h : StoQ false M k T w cb O) (hlen : k.length ≤ 1000000) :
    Calls Tryz.prog 384 #[.pointer (some ⟨cb, 0, none⟩)] w fun e w' => ∃ v', e = .returned v' ∧ w'.ownsRow w.heap.size 228 2 v' k.length (rowC k) ∧ Below w.heap.size w w' := by
  obtain ⟨sb, v, S, rfl⟩ := h
  obtain ⟨c0, c1, c2, f2⟩ := S.cells
  have hp := pairs_M w sb v k S.st hlen
  clear S c0 c2 f2
  go_enter Tryz.func384, Tryz.ntmps384
  go_wp2_with (go_at_call 177; refine hp.mono ?_; rintro e w1 ⟨v', rfl, hown, hb1⟩)
  go_ret
  exact ⟨v', rfl, hown, hb1⟩

theorem snew_L {M : Nat} (hM1 : 1 ≤ M) (hM2 : M ≤ 4096) (w : World) :
    Calls Tryz.prog 110 #[.int .i64 (M : Int)] w fun e w' => ∃ cb O, e = .returned (.tuple #[.pointer (some ⟨cb, 0, none⟩), .int .i64 0]) ∧ StoQ false M [] 0 w' cb O ∧ Below w.heap.size w w' ∧ ∀ j, O j → w.heap.size ≤ j := by
  have hn := stripM_new w M hM1 hM2
  have b0 : Below w.heap.size w (w.alloc (.cells #[.int .i64 (M : Int), .slice none 0 0, .int .u64 0] 115)) := (Below.refl _ _).alloc (Nat.le_refl _) _
  have b1 : Below w.heap.size w ((w.alloc (.cells #[.int .i64 (M : Int), .slice none 0 0, .int .u64 0] 115)).alloc (.cells #[.int .i64 (M : Int), .pointer (some ⟨w.heap.size, 0, none⟩), .int .u64 0] 257)) := b0.alloc b0.size _
  have S : StoO false M ((w.alloc (.cells #[.int .i64 (M : Int), .slice none 0 0, .int .u64 0] 115)).alloc (.cells #[.int .i64 (M : Int), .pointer (some ⟨w.heap.size, 0, none⟩), .int .u64 0] 257)) (w.heap.size + 1) w.heap.size (.slice none 0 0) [] 0 :=
    ⟨Blk.newAt (by simp), (StripM.fresh w M).alloc _, Nat.le_refl _, fun x hx => by cases hx⟩
  have HF := Lib.hid (And.intro b1 S)
  clear b0 b1 S hM1 hM2
  go_enter Tryz.func110, Tryz.ntmps110
  go_wp2_with (go_at_call 28; refine hn.mono ?_; rintro e w1 ⟨rfl, rfl⟩)
  go_ret2
  refine ⟨w.heap.size + 1, OwnC (w.heap.size + 1) w.heap.size (.slice none 0 0), ?_, ⟨_, _, HF.out.2, rfl⟩, HF.out.1, ?_⟩
  · simp
  · rintro j (rfl | rfl | e)
    · omega
    · omega
    · simp [Value.ownBlock] at e

theorem snew_bad_L (w : World) (M : Int) (h : M < 1 ∨ 4096 < M) :
    Calls Tryz.prog 110 #[.int .i64 M] w fun e w' => e = .returned (.tuple #[.pointer none, .int .i64 1]) ∧ w = w' := by
  have hn := stripM_bad w M h
  clear h
  go_enter Tryz.func110, Tryz.ntmps110
  go_wp2_with (go_at_call 28; refine hn.mono ?_; rintro e w1 ⟨rfl, rfl⟩)
  go_ret2
  exact ⟨rfl, rfl⟩

set_option maxHeartbeats 4000000 in
theorem sadd_L {M : Nat} (hM1 : 1 ≤ M) (hM2 : M ≤ 4096) (w : World) (cb : Nat) (O : Nat → Prop) (k : Row) (T : Nat) (h : StoQ false M k T w cb O) (i c : Nat) (hi4 : i < 4096) (hc : 1 ≤ c) (hT : T + c ≤ 9223372036854775807) (hlen : (putK false M k i c).length ≤ M) (hkl : k.length ≤ M) :
    Calls Tryz.prog 122 #[.pointer (some ⟨cb, 0, none⟩), .int .i64 (i : Int), .int .u64 (c : Int)] w fun e w' => e = .returned (.int .i64 0) ∧ StoR false M w cb O (putK false M k i c) (T + c) w' := by
  have hto := stot_L w cb O k T h (by omega)
  have hpl := fun W b => plus_any W b T c hT
  have g1 : ((c : Int) == 0) = false := by simp; omega
  have FIN := Lib.hid (show ∀ W, Below w.heap.size w W → Calls Tryz.prog 131 #[.pointer (some ⟨cb, 0, none⟩), .int .i64 (i : Int), .int .u64 (c : Int)] W fun e w' => e = .returned (.tuple #[]) ∧ StoR false M w cb O (putK false M k i c) (T + c) w' from fun W b => (put_L hM1 hM2 W cb O k T (h.next b) i c hi4 hc hT hlen hkl).mono fun e w' hh => ⟨hh.1, by
    obtain ⟨P, p1, p2, p3⟩ := hh.2
    exact ⟨P, p1, fun j hj => (p2 j hj).imp id fun e => Nat.le_trans b.size e, (Away.of_below (F := O) b).trans' p3 (fun _ _ h => h) (fun _ _ h => h)⟩⟩)
  have hpl' := Lib.hid hpl
  clear h hpl hlen hkl hc hT hM1 hM2 hi4
  go_enter Tryz.func122, Tryz.ntmps122
  go_wp2_with fail
  refine hto.mono ?_
  rintro e w1 ⟨rfl, b1⟩
  have HB := Lib.hid b1
  clear hto b1
  go_wp2_with fail
  refine (hpl'.out _ _ (by simp) (by simp)).mono ?_
  rintro e w2 ⟨rfl, rfl⟩
  have hp := FIN.out _ (HB.out.alloc HB.out.size (.cells #[.int .u64 (T : Int), .int .u64 (c : Int)] 23))
  clear FIN hpl' HB
  go_wp2_with fail
  refine hp.mono ?_
  rintro e w3 ⟨rfl, r3⟩
  have HR := Lib.hid r3
  clear hp r3
  go_wp2_with fail
  go_ret
  exact ⟨rfl, HR.out⟩

set_option maxHeartbeats 4000000 in
theorem put_H {M : Nat} (hM1 : 1 ≤ M) (hM2 : M ≤ 4096) (w : World) (cb : Nat) (O : Nat → Prop) (k : Row) (T : Nat) (h : StoQ true M k T w cb O) (i c : Nat) (hi4 : i < 4096) (hc : 1 ≤ c) (hT : T + c ≤ 9223372036854775807) (hlen : (putK true M k i c).length ≤ M) (hkl : k.length ≤ M) :
    Calls Tryz.prog 130 #[.pointer (some ⟨cb, 0, none⟩), .int .i64 (i : Int), .int .u64 (c : Int)] w fun e w' => e = .returned (.tuple #[]) ∧ StoR true M w cb O (putK true M k i c) (T + c) w' := by
  have hQ := Lib.hid h
  obtain ⟨sb, v, S, rfl⟩ := h
  have hen := end_H w cb sb v k T S
  have HS := Lib.hid S
  have hrt := S.le
  by_cases hn : k = []
  · subst hn
    have e1 : putK true M [] i c = addL [] i c := by unfold putK; rw [if_pos rfl]
    rw [e1] at hlen ⊢
    have hadd := Lib.hid (show ∀ W, Below w.heap.size w W → _ from fun W (b : Below w.heap.size w W) => sto_addrow hM2 (HS.out.next b) (fun j hj => .inl hj) (Away.of_below (F := OwnC cb sb v) b) i c hi4 hc hT hlen)
    have hb : (!(([] : Row).isEmpty)) = false := rfl
    rw [hb] at hen
    clear S hrt e1
    go_enter Tryz.func130, Tryz.ntmps130
    go_wp2_with fail
    refine hen.mono ?_
    rintro e w1 ⟨rfl, b1⟩
    have ha1 := hadd.out w1 b1
    obtain ⟨c0, c1, c2, f2⟩ := (HS.out.next b1).cells
    clear hen hadd b1 c0 c2 f2
    go_wp2_with fail
    refine ha1.mono ?_
    rintro e w2 ⟨rfl, r2⟩
    have HR := Lib.hid r2
    clear ha1 r2
    go_wp2_with fail
    refine bodyPost_end (results_none rfl _ _ _) rfl ?_
    exact ⟨rfl, HR.out⟩
  · have hb : (!k.isEmpty) = true := by cases k <;> simp_all
    have hend : endN true k < 4096 := endN_low hn S.low
    rw [hb] at hen
    obtain ⟨en, hne⟩ : ∃ en, en = endN true k := ⟨_, rfl⟩
    rw [← hne] at hen hend
    have ho := fun W (c : W.cell? ⟨cb, 0, none⟩ = some (.int .i64 (M : Int))) => out_H W cb i en M c hM1 hM2 hi4 hend
    by_cases hfar : farB true M i en = true
    · have e1 : putK true M k i c = k := by unfold putK; rw [if_neg hn, if_pos (by rw [← hne]; exact hfar)]
      rw [e1]
      rw [hfar] at ho
      obtain ⟨l1, hl1⟩ : ∃ l1, l1 = T - rowTotal k := ⟨_, rfl⟩
      obtain ⟨l2, hl2⟩ : ∃ l2, l2 = l1 + c := ⟨_, rfl⟩
      have hwr : IntKind.u64.wrap ((l1 : Int) + (c : Int)) = (l2 : Int) := by rw [IntKind.wrap_u64]; omega
      have FIN := Lib.hid (show ∀ W, Below w.heap.size w W → StoR true M w cb (OwnC cb sb v) k (T + c) (W.setCell ⟨cb, 2, none⟩ (.int .u64 (l2 : Int))) from fun W b => by
        obtain ⟨k1, k2⟩ := (HS.out.next b).lose (c := c)
        rw [← hl1, ← hl2] at k1 k2
        exact StoR.made (Away.refl _ _) (fun j hj => .inl hj) b k1 (fun j hj => .inl hj) k2 (Below.refl _ _))
      have hc2 := fun W b => hl1 ▸ (HS.out.next (w' := W) b).cells.2.2.1
      have hc2' := Lib.hid hc2
      clear S hrt e1 hfar hlen hb hn hl1 hl2 hne hc2
      go_enter Tryz.func130, Tryz.ntmps130
      go_wp2_with fail
      refine hen.mono ?_
      rintro e w1 ⟨rfl, b1⟩
      obtain ⟨c0, c1, c2', f2⟩ := (HS.out.next b1).cells
      have c2 := hc2'.out w1 b1
      have ho1 := ho w1 c0
      clear c2' hc2'
      have HF := Lib.hid (FIN.out w1 b1)
      clear hen ho b1 FIN
      go_wp2_with fail
      refine ho1.mono ?_
      rintro e w2 ⟨rfl, rfl⟩
      go_wp2_with fail
      refine bodyPost_ret (results_none rfl _ _ _) rfl ?_
      exact ⟨rfl, HF.out⟩
    · have hfar' : farB true M i en = false := by simpa using hfar
      rw [hfar'] at ho
      by_cases hbet : betB true i en = true
      · have e1 : putK true M k i c = addL (capR (fun j => !farB true M j i) k) i c := by unfold putK; rw [if_neg hn, if_neg (by rw [← hne]; exact hfar), if_pos (by rw [← hne]; exact hbet)]
        rw [e1] at hlen ⊢
        have g : (i : Int) < (en : Int) := by unfold betB at hbet; simp at hbet; omega
        have hsh := Lib.hid (show ∀ W, Below w.heap.size w W → _ from fun W (b : Below w.heap.size w W) => shed_H hM1 hM2 W cb (OwnC cb sb v) k T (hQ.out.next b) i hi4 (by omega) (by omega))
        have FIN := Lib.hid (show ∀ W W2, Below w.heap.size w W → StoR true M W cb (OwnC cb sb v) (capR (fun j => !farB true M j i) k) T W2 → ∃ sb2, W2.cell? ⟨cb, 1, none⟩ = some (.pointer (some ⟨sb2, 0, none⟩)) ∧ Calls Tryz.prog 93 #[.pointer (some ⟨sb2, 0, none⟩), .int .i64 (i : Int), .int .u64 (c : Int)] W2 fun e w' => e = .returned (.int .i64 0) ∧ StoR true M w cb (OwnC cb sb v) (addL (capR (fun j => !farB true M j i) k) i c) (T + c) w' from fun W W2 b r => by
          obtain ⟨O', ⟨sb2, v2, S2, rfl⟩, hs, ha⟩ := r
          refine ⟨sb2, S2.cells.2.1, sto_addrow hM2 S2 (fun j hj => (hs j hj).imp id fun e => Nat.le_trans b.size e) ((Away.of_below (F := OwnC cb sb v) b).trans' ha (fun _ _ h => h) (fun _ _ h => h)) i c hi4 hc hT hlen⟩)
        clear S hrt e1 hfar hfar' hbet hlen hb hn hne
        go_enter Tryz.func130, Tryz.ntmps130
        go_wp2_with fail
        refine hen.mono ?_
        rintro e w1 ⟨rfl, b1⟩
        obtain ⟨c0, c1, c2, f2⟩ := (HS.out.next b1).cells
        have ho1 := ho w1 c0
        have hsh1 := hsh.out w1 b1
        have HF := Lib.hid (fun W2 => FIN.out w1 W2 b1)
        clear hen ho b1 FIN hsh c0 c1 c2 f2
        go_wp2_with fail
        refine ho1.mono ?_
        rintro e w2 ⟨rfl, rfl⟩
        clear ho1
        go_wp2_with fail
        refine hsh1.mono ?_
        rintro e w2 ⟨rfl, r2⟩
        obtain ⟨sb2, c1, ha1⟩ := HF.out w2 r2
        clear hsh1 HF r2
        go_wp2_with fail
        refine ha1.mono ?_
        rintro e w3 ⟨rfl, r3⟩
        have HR := Lib.hid r3
        clear ha1 r3
        go_wp2_with fail
        refine bodyPost_end (results_none rfl _ _ _) rfl ?_
        exact ⟨rfl, HR.out⟩
      · have e1 : putK true M k i c = addL k i c := by unfold putK; rw [if_neg hn, if_neg (by rw [← hne]; exact hfar), if_neg (by rw [← hne]; exact hbet)]
        rw [e1] at hlen ⊢
        have g : ¬ (i : Int) < (en : Int) := by unfold betB at hbet; simp at hbet; omega
        have hadd := Lib.hid (show ∀ W, Below w.heap.size w W → _ from fun W (b : Below w.heap.size w W) => sto_addrow hM2 (HS.out.next b) (fun j hj => .inl hj) (Away.of_below (F := OwnC cb sb v) b) i c hi4 hc hT hlen)
        clear S hrt e1 hfar hfar' hbet hlen hb hn hne
        go_enter Tryz.func130, Tryz.ntmps130
        go_wp2_with fail
        refine hen.mono ?_
        rintro e w1 ⟨rfl, b1⟩
        obtain ⟨c0, c1, c2, f2⟩ := (HS.out.next b1).cells
        have ho1 := ho w1 c0
        have ha1 := hadd.out w1 b1
        clear hen ho b1 hadd c0 c2 f2
        go_wp2_with fail
        refine ho1.mono ?_
        rintro e w2 ⟨rfl, rfl⟩
        clear ho1
        go_wp2_with fail
        refine ha1.mono ?_
        rintro e w3 ⟨rfl, r3⟩
        have HR := Lib.hid r3
        clear ha1 r3
        go_wp2_with fail
        refine bodyPost_end (results_none rfl _ _ _) rfl ?_
        exact ⟨rfl, HR.out⟩

theorem stot_H {M : Nat} (w : World) (cb : Nat) (O : Nat → Prop) (k : Row) (T : Nat) (h : StoQ true M k T w cb O) (hT : T ≤ 9223372036854775807) :
    Calls Tryz.prog 121 #[.pointer (some ⟨cb, 0, none⟩)] w fun e w' => e = .returned (.int .u64 (T : Int)) ∧ Below w.heap.size w w' := by
  obtain ⟨sb, v, S, rfl⟩ := h
  obtain ⟨c0, c1, c2, f2⟩ := S.cells
  have hle := S.le
  obtain ⟨t, ht⟩ : ∃ t, t = rowTotal k := ⟨_, rfl⟩
  have hs := fun W (c : W.cell? ⟨sb, 2, none⟩ = some (.int .u64 (t : Int))) => strip_total W sb t c
  have c3 : w.cell? ⟨sb, 2, none⟩ = some (.int .u64 (t : Int)) := by rw [ht]; exact S.st.cells.2.2.1
  rw [← ht] at c2 hle
  obtain ⟨l, hl⟩ : ∃ l, l = T - t := ⟨_, rfl⟩
  rw [← hl] at c2
  have hwr : IntKind.u64.wrap ((t : Int) + (l : Int)) = (T : Int) := by rw [IntKind.wrap_u64]; omega
  have HB := Lib.hid (Below.refl w.heap.size w)
  clear S hl ht hle c0 f2 hT
  go_enter Tryz.func121, Tryz.ntmps121
  go_upto_region 3 with fail
  go_quiet ((go_at_call 94; refine Calls.quiet_of_same ((hs _ (by simpa using c3)).mono fun e w' hh => ⟨hh.1, hh.2.symm⟩)))
  go_wp2_with fail
  go_ret
  exact ⟨rfl, below_drewN HB.out _⟩

theorem slost_H {M : Nat} (w : World) (cb : Nat) (O : Nat → Prop) (k : Row) (T : Nat) (h : StoQ true M k T w cb O) :
    Calls Tryz.prog 379 #[.pointer (some ⟨cb, 0, none⟩)] w fun e w' => e = .returned (.int .u64 ((T - rowTotal k : Nat) : Int)) ∧ w = w' := by
  obtain ⟨sb, v, S, rfl⟩ := h
  obtain ⟨c0, c1, c2, f2⟩ := S.cells
  clear S c0 c1 f2
  go_enter Tryz.func379, Tryz.ntmps379
  go_wp2_with fail
  go_ret
  exact ⟨rfl, rfl⟩

theorem spairs_H {M : Nat} (w : World) (cb : Nat) (O : Nat → Prop) (k : Row) (T : Nat) (h : StoQ true M k T w cb O) (hlen : k.length ≤ 1000000) :
    Calls Tryz.prog 380 #[.pointer (some ⟨cb, 0, none⟩)] w fun e w' => ∃ v', e = .returned v' ∧ w'.ownsRow w.heap.size 228 2 v' k.length (rowC k) ∧ Below w.heap.size w w' := by
  obtain ⟨sb, v, S, rfl⟩ := h
  obtain ⟨c0, c1, c2, f2⟩ := S.cells
  have hp := pairs_M w sb v k S.st hlen
  clear S c0 c2 f2
  go_enter Tryz.func380, Tryz.ntmps380
  go_wp2_with (go_at_call 177; refine hp.mono ?_; rintro e w1 ⟨v', rfl, hown, hb1⟩)
  go_ret
  exact ⟨v', rfl, hown, hb1⟩

theorem snew_H {M : Nat} (hM1 : 1 ≤ M) (hM2 : M ≤ 4096) (w : World) :
    Calls Tryz.prog 109 #[.int .i64 (M : Int)] w fun e w' => ∃ cb O, e = .returned (.tuple #[.pointer (some ⟨cb, 0, none⟩), .int .i64 0]) ∧ StoQ true M [] 0 w' cb O ∧ Below w.heap.size w w' ∧ ∀ j, O j → w.heap.size ≤ j := by
  have hn := stripM_new w M hM1 hM2
  have b0 : Below w.heap.size w (w.alloc (.cells #[.int .i64 (M : Int), .slice none 0 0, .int .u64 0] 115)) := (Below.refl _ _).alloc (Nat.le_refl _) _
  have b1 : Below w.heap.size w ((w.alloc (.cells #[.int .i64 (M : Int), .slice none 0 0, .int .u64 0] 115)).alloc (.cells #[.int .i64 (M : Int), .pointer (some ⟨w.heap.size, 0, none⟩), .int .u64 0] 255)) := b0.alloc b0.size _
  have S : StoO true M ((w.alloc (.cells #[.int .i64 (M : Int), .slice none 0 0, .int .u64 0] 115)).alloc (.cells #[.int .i64 (M : Int), .pointer (some ⟨w.heap.size, 0, none⟩), .int .u64 0] 255)) (w.heap.size + 1) w.heap.size (.slice none 0 0) [] 0 :=
    ⟨Blk.newAt (by simp), (StripM.fresh w M).alloc _, Nat.le_refl _, fun x hx => by cases hx⟩
  have HF := Lib.hid (And.intro b1 S)
  clear b0 b1 S hM1 hM2
  go_enter Tryz.func109, Tryz.ntmps109
  go_wp2_with (go_at_call 28; refine hn.mono ?_; rintro e w1 ⟨rfl, rfl⟩)
  go_ret2
  refine ⟨w.heap.size + 1, OwnC (w.heap.size + 1) w.heap.size (.slice none 0 0), ?_, ⟨_, _, HF.out.2, rfl⟩, HF.out.1, ?_⟩
  · simp
  · rintro j (rfl | rfl | e)
    · omega
    · omega
    · simp [Value.ownBlock] at e

theorem snew_bad_H (w : World) (M : Int) (h : M < 1 ∨ 4096 < M) :
    Calls Tryz.prog 109 #[.int .i64 M] w fun e w' => e = .returned (.tuple #[.pointer none, .int .i64 1]) ∧ w = w' := by
  have hn := stripM_bad w M h
  clear h
  go_enter Tryz.func109, Tryz.ntmps109
  go_wp2_with (go_at_call 28; refine hn.mono ?_; rintro e w1 ⟨rfl, rfl⟩)
  go_ret2
  exact ⟨rfl, rfl⟩

set_option maxHeartbeats 4000000 in
theorem sadd_H {M : Nat} (hM1 : 1 ≤ M) (hM2 : M ≤ 4096) (w : World) (cb : Nat) (O : Nat → Prop) (k : Row) (T : Nat) (h : StoQ true M k T w cb O) (i c : Nat) (hi4 : i < 4096) (hc : 1 ≤ c) (hT : T + c ≤ 9223372036854775807) (hlen : (putK true M k i c).length ≤ M) (hkl : k.length ≤ M) :
    Calls Tryz.prog 120 #[.pointer (some ⟨cb, 0, none⟩), .int .i64 (i : Int), .int .u64 (c : Int)] w fun e w' => e = .returned (.int .i64 0) ∧ StoR true M w cb O (putK true M k i c) (T + c) w' := by
  have hto := stot_H w cb O k T h (by omega)
  have hpl := fun W b => plus_any W b T c hT
  have g1 : ((c : Int) == 0) = false := by simp; omega
  have FIN := Lib.hid (show ∀ W, Below w.heap.size w W → Calls Tryz.prog 130 #[.pointer (some ⟨cb, 0, none⟩), .int .i64 (i : Int), .int .u64 (c : Int)] W fun e w' => e = .returned (.tuple #[]) ∧ StoR true M w cb O (putK true M k i c) (T + c) w' from fun W b => (put_H hM1 hM2 W cb O k T (h.next b) i c hi4 hc hT hlen hkl).mono fun e w' hh => ⟨hh.1, by
    obtain ⟨P, p1, p2, p3⟩ := hh.2
    exact ⟨P, p1, fun j hj => (p2 j hj).imp id fun e => Nat.le_trans b.size e, (Away.of_below (F := O) b).trans' p3 (fun _ _ h => h) (fun _ _ h => h)⟩⟩)
  have hpl' := Lib.hid hpl
  clear h hpl hlen hkl hc hT hM1 hM2 hi4
  go_enter Tryz.func120, Tryz.ntmps120
  go_wp2_with fail
  refine hto.mono ?_
  rintro e w1 ⟨rfl, b1⟩
  have HB := Lib.hid b1
  clear hto b1
  go_wp2_with fail
  refine (hpl'.out _ _ (by simp) (by simp)).mono ?_
  rintro e w2 ⟨rfl, rfl⟩
  have hp := FIN.out _ (HB.out.alloc HB.out.size (.cells #[.int .u64 (T : Int), .int .u64 (c : Int)] 23))
  clear FIN hpl' HB
  go_wp2_with fail
  refine hp.mono ?_
  rintro e w3 ⟨rfl, r3⟩
  have HR := Lib.hid r3
  clear hp r3
  go_wp2_with fail
  go_ret
  exact ⟨rfl, HR.out⟩
end Go.Proofs.YtbejdajkkoapgaaGreatDoor

