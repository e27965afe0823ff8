/-
  Several texts in one: J02. What each proves, and on which conditions, stands at its head. Conditions: stated in each.
-/
import Derived.Test.YtbejdajkkoapgaaGreatDoorS01
import Derived.Deep.LoopGhost
import Derived.Deep.CutBlock
import Derived.Deep.CutRange
import Derived.Lib.SliceRun
import Derived.OwnWalk
/-
  Several texts in one: Rn, St. What each proves, and on which conditions, stands at its head. Conditions: stated in each.
-/
/-
  Contracts over rows of pairs: a sum of two counts, where an index stands. Conditions: stated in each.
-/
set_option linter.unusedVariables false
set_option linter.unusedSimpArgs false
set_option maxRecDepth 100000
namespace Go.Proofs.YtbejdajkkoapgaaGreatDoor
open Go.RowKit Go.Lib

theorem plus_any (w : World) (b : Nat) (x y : Nat) (h : x + y ≤ 9223372036854775807) (h0 : w.cell? ⟨b, 0, none⟩ = some (.int .u64 (x : Int))) (h1 : w.cell? ⟨b, 1, none⟩ = some (.int .u64 (y : Int))) :
    Calls Tryz.prog 90 #[.slice (some ⟨b, 0, none⟩) 2 2] w fun e w' => e = .returned (.tuple #[.int .u64 (x + y : Nat), .bool true]) ∧ w = w' := by
  have g1 : ¬ 9223372036854775807 < (x : Int) := by omega
  have g2 : ¬ 9223372036854775807 - (x : Int) < (y : Int) := by omega
  have e1 : IntKind.u64.wrap (9223372036854775807 - (x : Int)) = 9223372036854775807 - (x : Int) := by rw [IntKind.wrap_u64]; omega
  have e2 : IntKind.u64.wrap ((x : Int) + (y : Int)) = (x : Int) + (y : Int) := by rw [IntKind.wrap_u64]; omega
  have e3 : IntKind.u64.wrap (x : Int) = (x : Int) := by rw [IntKind.wrap_u64]; omega
  go_enter Tryz.func90, Tryz.ntmps90
  go_wp2
  refine wp_loop_rounds 3 ?_
  rw [rounds_succ]
  go_wp2_with fail
  rw [rounds_succ]
  go_wp2_with fail
  rw [rounds_succ]
  go_wp2_with fail
  go_ret2
  exact ⟨by rw [Int.natCast_add]; rfl, rfl⟩

def cmpI (a x : Int) : Int := if a < x then -1 else if x < a then 1 else 0
theorem by_any (a x : Int) (c : Int) (w : World) :
    Calls Tryz.prog 126 #[.agg #[.int .i64 a, .int .u64 c], .int .i64 x] w fun e w' => e = .returned (.int .i64 (cmpI a x)) ∧ Below w.heap.size w w' := by
  by_cases h : a < x
  · rw [show cmpI a x = -1 from by unfold cmpI; rw [if_pos h]]
    go_enter Tryz.func126, Tryz.ntmps126
    go_wp2
    go_ret
    exact ⟨rfl, (Below.refl _ _).alloc (Nat.le_refl _) _⟩
  · by_cases h2 : x < a
    · rw [show cmpI a x = 1 from by unfold cmpI; rw [if_neg h, if_pos h2]]
      go_enter Tryz.func126, Tryz.ntmps126
      go_wp2
      go_ret
      exact ⟨rfl, (Below.refl _ _).alloc (Nat.le_refl _) _⟩
    · rw [show cmpI a x = 0 from by unfold cmpI; rw [if_neg h, if_neg h2]]
      go_enter Tryz.func126, Tryz.ntmps126
      go_wp2
      go_ret
      exact ⟨rfl, (Below.refl _ _).alloc (Nat.le_refl _) _⟩

theorem search_nil (x : Int) (w : World) :
    Calls Tryz.prog 125 #[.slice none 0 0, .int .i64 x, .func (.func 126) #[] #[]] w fun e w' => e = .returned (.tuple #[.int .i64 0, .bool false]) ∧ w = w' := by
  go_enter Tryz.func125, Tryz.ntmps125
  go_wp2
  refine wp_loop_rounds 1 ?_
  rw [rounds_succ]
  go_wp2_with fail
  go_ret2
  exact ⟨rfl, rfl⟩

set_option maxHeartbeats 4000000 in
theorem search_row (w : World) (g cap : Nat) (l : Row) (x : Nat) (hr : Rising l) (hlen : l.length ≤ 1000000)
    (hc : ∀ i (hi : i < l.length), w.cell? ⟨g, i * 2, none⟩ = some (.int .i64 ((l[i]'hi).1 : Int)) ∧ w.cell? ⟨g, i * 2 + 1, none⟩ = some (.int .u64 ((l[i]'hi).2 : Int))) (hg : g < w.heap.size) :
    Calls Tryz.prog 125 #[.slice (some ⟨g, 0, none⟩) l.length cap, .int .i64 x, .func (.func 126) #[] #[]] w fun e w' => e = .returned (.tuple #[.int .i64 (posL l x : Nat), .bool (isL l x)]) ∧ Below w.heap.size w w' := by
  have hb := posL_before (v := x) hr
  have hle := posL_le l x
  obtain ⟨p, hp⟩ : ∃ p, p = posL l x := ⟨_, rfl⟩
  obtain ⟨n, hn⟩ : ∃ n, n = l.length := ⟨_, rfl⟩
  have Hc := Lib.hid hc
  have Hb := Lib.hid hb
  have HP := Lib.hid hp
  have HN := Lib.hid hn
  rw [← hp, ← hn] at hle
  rw [← hn] at hlen ⊢
  clear hc hb hp hn
  go_enter Tryz.func125, Tryz.ntmps125
  go_wp2
  go_loopg [9, 10] n (fun k a b wr => ∃ lo hi : Nat, a = .int .i64 lo ∧ b = .int .i64 hi ∧ lo ≤ p ∧ p ≤ hi ∧ hi ≤ n ∧ hi - lo ≤ k ∧ Below w.heap.size w wr)
  case atStart => exact ⟨0, n, rfl, rfl, Nat.zero_le _, hle, Nat.le_refl _, by omega, Below.refl _ _⟩
  case round =>
    obtain ⟨lo, hi, rfl, rfl, h1, h2, h3, h4, hB⟩ := hrel
    obtain ⟨hc1, hf1⟩ := Wd.bcell hB
    by_cases hlt : lo < hi
    · have hm : (lo + hi) / 2 < l.length := by rw [← HN.out]; omega
      obtain ⟨m, hmm⟩ : ∃ m, m = (lo + hi) / 2 := ⟨_, rfl⟩
      rw [← hmm] at hm
      obtain ⟨c0, c1⟩ := Hc.out m hm
      have cb := Hb.out m hm
      obtain ⟨a, ha⟩ : ∃ a, a = (l[m]'hm).1 := ⟨_, rfl⟩
      obtain ⟨c, hcc⟩ : ∃ c, c = (l[m]'hm).2 := ⟨_, rfl⟩
      rw [← ha] at c0 cb
      rw [← hcc] at c1
      rw [← hc1 g _ hg] at c0 c1
      have e1 : ((lo : Int) + (hi : Int)) / 2 = (m : Int) := by omega
      have e2 : (lo : Int) < (hi : Int) := by omega
      have m1 : m < n := by omega
      have HM := Lib.hid (And.intro hmm HP.out)
      clear hmm ha hcc hc1 hf1
      have hby := fun W => by_any (a : Int) (x : Int) (c : Int) W
      by_cases hax : a < x
      · have e3 : cmpI (a : Int) (x : Int) = -1 := by unfold cmpI; rw [if_pos (by omega)]
        rw [e3] at hby
        have mp : m < p := by rw [HP.out]; exact cb.2 hax
        clear e3 cb hax
        go_wp2_with (go_at_call 126; refine (hby _).mono ?_; rintro e w1 ⟨rfl, hb1⟩)
        go_roundg (hi - (m + 1))
        case measure => have := HM.out.1; omega
        case rel => exact ⟨m + 1, hi, by go_num, rfl, by omega, h2, h3, Nat.le_refl _, hB.trans (hb1.mono hB.size)⟩
      · have e3 : cmpI (a : Int) (x : Int) = if (x : Int) < (a : Int) then 1 else 0 := by unfold cmpI; rw [if_neg (by omega)]
        obtain ⟨z, hz⟩ : ∃ z, z = cmpI (a : Int) (x : Int) := ⟨_, rfl⟩
        have e4 : ¬ z < 0 := by rw [hz, e3]; split <;> omega
        rw [← hz] at hby
        have mp : p ≤ m := by rw [HP.out]; exact Nat.le_of_not_lt fun h => hax (cb.1 h)
        clear e3 cb hax hz
        go_wp2_with (go_at_call 126; refine (hby _).mono ?_; rintro e w1 ⟨rfl, hb1⟩)
        go_roundg (m - lo)
        case measure => have := HM.out.1; omega
        case rel => exact ⟨lo, m, rfl, rfl, h1, mp, by omega, Nat.le_refl _, hB.trans (hb1.mono hB.size)⟩
    · have e2 : ¬ (lo : Int) < (hi : Int) := by omega
      have ep : lo = p := by omega
      have ep2 : lo = posL l x := ep.trans HP.out
      have HL := Lib.hid ep2
      by_cases hn : lo < n
      · have hm : lo < l.length := by rw [← HN.out]; omega
        obtain ⟨c0, c1⟩ := Hc.out lo hm
        obtain ⟨a, ha⟩ : ∃ a, a = (l[lo]'hm).1 := ⟨_, rfl⟩
        obtain ⟨c, hcc⟩ : ∃ c, c = (l[lo]'hm).2 := ⟨_, rfl⟩
        have hi1 : isL l x = (a == x) := by
          unfold isL
          rw [dif_pos (by rw [← ep2]; exact hm), ha]
          simp only [ep2]
        rw [← ha] at c0
        rw [← hcc] at c1
        rw [← hc1 g _ hg] at c0 c1
        have hby := fun W => by_any (a : Int) (x : Int) (c : Int) W
        have e3 : cmpI (a : Int) (x : Int) = 0 ↔ a = x := by unfold cmpI; split <;> (try split) <;> omega
        obtain ⟨z, hz⟩ : ∃ z, z = cmpI (a : Int) (x : Int) := ⟨_, rfl⟩
        rw [← hz] at hby e3
        have g1 : (z == 0) = isL l x := by
          rw [hi1, Bool.eq_iff_iff]; simp [e3]
        have g2 : (lo : Int) < (n : Int) := by omega
        have G1 := Lib.hid g1
        clear hi1 e3 hz ha hcc hc1 hf1 ep ep2 g1
        go_wp2_with (go_at_call 126; refine (hby _).mono ?_; rintro e w1 ⟨rfl, hb1⟩)
        go_ret2
        exact ⟨by rw [← G1.out, ← HL.out]; rfl, hB.trans (hb1.mono hB.size)⟩
      · have g2 : ¬ (lo : Int) < (n : Int) := by omega
        have hi1 : isL l x = false := by
          unfold isL
          rw [dif_neg (by rw [← ep2, ← HN.out]; exact hn)]
        have HI := Lib.hid hi1
        clear hi1 ep ep2 hc1 hf1
        go_wp2_with fail
        go_ret2
        exact ⟨by rw [HI.out, ← HL.out]; rfl, hB⟩

theorem find_any (w : World) (base : Nat) (v : Value) (l : Row) (x : Nat) (h : w.ownsRow base 228 2 v l.length (rowC l)) (hr : Rising l) (hlen : l.length ≤ 1000000) :
    Calls Tryz.prog 114 #[v, .int .i64 x] w fun e w' => e = .returned (.tuple #[.int .i64 (posL l x : Nat), .bool (isL l x)]) ∧ Below w.heap.size w w' := by
  have hs : Calls Tryz.prog 125 #[v, .int .i64 x, .func (.func 126) #[] #[]] w fun e w' => e = .returned (.tuple #[.int .i64 (posL l x : Nat), .bool (isL l x)]) ∧ Below w.heap.size w w' := by
    rcases owns_shape h with ⟨rfl, hn, _⟩ | ⟨g, cap, rfl, _, _, _, hg⟩
    · obtain rfl : l = [] := List.eq_nil_of_length_eq_zero hn
      exact (search_nil x w).mono fun e w' ⟨he, hw⟩ => ⟨he, hw ▸ Below.refl _ _⟩
    · refine search_row w g cap l x hr hlen (fun i hi => ?_) hg
      rw [h.cellAt (i * 2) (by omega), h.cellAt (i * 2 + 1) (by omega)]
      exact ⟨rowC_fst l i hi, rowC_snd l i hi⟩
  clear h hr
  go_enter Tryz.func114, Tryz.ntmps114
  go_wp2_with (go_at_call 125; refine hs.mono ?_; rintro e w1 ⟨rfl, hb1⟩)
  go_ret2
  exact ⟨rfl, hb1⟩
end Go.Proofs.YtbejdajkkoapgaaGreatDoor

/-
  A strip in memory, and the contracts of what only reads it: New, Total, Len, At, Pairs, and slices.Clone at rows of pairs. Conditions: stated in each.
-/
set_option linter.unusedVariables false
set_option linter.unusedSimpArgs false
set_option maxRecDepth 100000
namespace Go.Proofs.YtbejdajkkoapgaaGreatDoor
open Go.RowKit Go.Lib

/-- a strip: its row, and all of them together -/
structure StripO (w : World) (sb : Nat) (v : Value) (l : Row) : Prop where
  blk : Blk w sb #[.int .i64 4096, v, .int .u64 (rowTotal l : Nat)] 115
  own : w.ownsRow 0 228 2 v l.length (rowC l)
  rising : Rising l
  full : Full l
theorem StripO.ne {w : World} {sb : Nat} {v : Value} {l : Row} (h : StripO w sb v l) : v.ownBlock ≠ some sb := by
  intro he
  obtain ⟨cur, hc⟩ := owns_blk h.own he
  exact (h.blk.ne hc (by decide)) rfl
theorem StripO.next {w w' : World} {sb : Nat} {v : Value} {l : Row} (h : StripO w sb v l) (hb : Below w.heap.size w w') : StripO w' sb v l :=
  ⟨h.blk.below hb h.blk.lt, owns_below h.own hb fun g hg => (h.own.lt g hg).2, h.rising, h.full⟩
theorem StripO.away {F : Nat → Prop} {w w' : World} {sb : Nat} {v : Value} {l : Row} (h : StripO w sb v l) (hb : Away F w w') (h1 : ¬ F sb) (h2 : ∀ g, v.ownBlock = some g → ¬ F g) : StripO w' sb v l :=
  ⟨h.blk.away hb h1, owns_away h.own hb h2, h.rising, h.full⟩
theorem StripO.drew {w : World} {sb : Nat} {v : Value} {l : Row} (h : StripO w sb v l) : StripO w.drew sb v l := ⟨h.blk, h.own, h.rising, h.full⟩
theorem StripO.other {w : World} {sb : Nat} {v : Value} {l : Row} (h : StripO w sb v l) (p : Addr) (u : Value) (h1 : sb ≠ p.block) (h2 : v.ownBlock ≠ some p.block) : StripO (w.setCell p u) sb v l :=
  ⟨h.blk.other p u h1, owns_other h.own p u h2, h.rising, h.full⟩
theorem StripO.cells {w : World} {sb : Nat} {v : Value} {l : Row} (h : StripO w sb v l) : w.cell? ⟨sb, 0, none⟩ = some (.int .i64 4096) ∧ w.cell? ⟨sb, 1, none⟩ = some v ∧ w.cell? ⟨sb, 2, none⟩ = some (.int .u64 (rowTotal l : Nat)) ∧ w.frozen? ⟨sb, 1, none⟩ = false ∧ w.frozen? ⟨sb, 2, none⟩ = false :=
  ⟨h.blk.cell rfl, h.blk.cell rfl, h.blk.cell rfl, h.blk.frozen 1, h.blk.frozen 2⟩

theorem info228 : (Tryz.prog.info? 228).map (fun i => (i.zero, i.size, i.bytes)) = some (some (.agg #[.int .i64 0, .int .u64 0]), 2, 16) := by kernel_rfl

theorem strip_new (w : World) :
    Calls Tryz.prog 28 #[.int .i64 4096] w fun e w' => e = .returned (.tuple #[.pointer (some ⟨w.heap.size, 0, none⟩), .int .i64 0]) ∧ w.alloc (.cells #[.int .i64 4096, .slice none 0 0, .int .u64 0] 115) = w' := by
  go_enter Tryz.func28, Tryz.ntmps28
  go_wp2
  go_ret2
  exact ⟨rfl, rfl⟩

theorem strip_total (w : World) (sb : Nat) (n : Nat) (h : w.cell? ⟨sb, 2, none⟩ = some (.int .u64 (n : Int))) :
    Calls Tryz.prog 94 #[.pointer (some ⟨sb, 0, none⟩)] w fun e w' => e = .returned (.int .u64 (n : Int)) ∧ w = w' := by
  go_enter Tryz.func94, Tryz.ntmps94
  go_wp2
  go_ret
  exact ⟨rfl, rfl⟩

theorem strip_len (w : World) (sb : Nat) (A : Option Addr) (n c : Nat) (h : w.cell? ⟨sb, 1, none⟩ = some (.slice A n c)) :
    Calls Tryz.prog 150 #[.pointer (some ⟨sb, 0, none⟩)] w fun e w' => e = .returned (.int .i64 (n : Int)) ∧ w = w' := by
  go_enter Tryz.func150, Tryz.ntmps150
  go_wp2
  go_ret
  exact ⟨rfl, rfl⟩

theorem clone_any (w : World) (v : Value) (l : Row) (h : w.ownsRow 0 228 2 v l.length (rowC l)) (hlen : l.length ≤ 1000000) :
    Calls Tryz.prog 185 #[v] w fun e w' => ∃ v', e = .returned v' ∧ w'.ownsRow w.heap.size 228 2 v' l.length (rowC l) ∧ Below w.heap.size w w' := by
  have q22 : ∀ (w : World) (a : Option Addr) (n c n' c' : Nat), (binOp .eql 113 (.slice a n c) (.slice none n' c')).run Tryz.prog w = .ok (.bool a.isNone) w := fun w a n c n' c' => Lib.run_eql_slice_nil w _ _ a n c n' c' Tryz.underlying113
  rcases owns_shape h with ⟨rfl, hn, _⟩ | ⟨g, cap, rfl, hnc, hcap, _, hg⟩
  · obtain rfl : l = [] := List.eq_nil_of_length_eq_zero hn
    go_enter Tryz.func185, Tryz.ntmps185
    go_wp2
    go_ret
    exact ⟨_, rfl, World.ownsRow_nil _ _ _ _, Below.refl _ _⟩
  · have H := Lib.hid h
    clear h
    obtain ⟨i0, hi, hz0, hz1, hz2⟩ := info_parts info228
    obtain ⟨n, hn⟩ : ∃ n, n = l.length := ⟨_, rfl⟩
    rw [← hn] at hlen hnc ⊢
    have HN := Lib.hid hn
    clear hn
    go_enter Tryz.func185, Tryz.ntmps185
    go_wp2_with (at_builtin; refine wpList_append_own _ rfl _ _ 113 rfl w.heap.size 228 i0 _ 2 16 Tryz.underlying113 hi hz0 hz1 hz2 rfl (by decide) _ _ _ rfl (World.ownsRow_made w #[] 0 (Nat.le_refl _) (Nat.zero_le _) (by simp)) ⟨g, 0, none⟩ n cap (rowC l) rfl ?qc1 ?qc2 ?qc3 ?qc4 ?qc5 ?qc6 ?_)
    case qc1 => rw [rowC_length, HN.out]
    case qc2 =>
      intro j u hj
      rw [Addr.add_lit]
      exact Lib.cell?_alloc_some _ (by rw [Nat.zero_add]; have := H.out.cells (g := g) rfl j u hj; rwa [Addr.add_lit, Nat.zero_add] at this)
    case qc3 => exact rowC_one l
    case qc4 => unfold maxLen; omega
    case qc5 => omega
    case qc6 => simp
    intro v' w1 hown hgrow hnil
    go_wp2
    go_ret
    refine ⟨v', rfl, by simpa using hown, ?_⟩
    exact ((Below.refl _ w).alloc (Nat.le_refl _) _).grown hgrow (by simp) (by intro k hk; simp [Value.ownBlock] at hk; omega)

theorem pairs_any (w : World) (sb : Nat) (v : Value) (l : Row) (h : StripO w sb v l) (hlen : l.length ≤ 1000000) :
    Calls Tryz.prog 177 #[.pointer (some ⟨sb, 0, none⟩)] w fun e w' => ∃ v', e = .returned v' ∧ w'.ownsRow w.heap.size 228 2 v' l.length (rowC l) ∧ Below w.heap.size w w' := by
  obtain ⟨c0, c1, c2, f1, f2⟩ := h.cells
  have hc := clone_any w v l h.own hlen
  clear h
  go_enter Tryz.func177, Tryz.ntmps177
  go_wp2_with (go_at_call 185; refine hc.mono ?_; rintro e w1 ⟨v', rfl, hown, hb1⟩)
  go_ret
  exact ⟨v', rfl, hown, hb1⟩

theorem at_any (w : World) (sb : Nat) (v : Value) (l : Row) (x : Nat) (h : StripO w sb v l) (hlen : l.length ≤ 1000000) :
    Calls Tryz.prog 186 #[.pointer (some ⟨sb, 0, none⟩), .int .i64 x] w fun e w' => e = .returned (.int .u64 (rowAt l x : Nat)) ∧ Below w.heap.size w w' := by
  obtain ⟨c0, c1, c2, f1, f2⟩ := h.cells
  have hf := find_any w 0 v l x h.own h.rising hlen
  have H := Lib.hid h
  clear h
  by_cases his : isL l x = true
  · have hp : posL l x < l.length := by
      unfold isL at his
      split at his
      · assumption
      · cases his
    have he : (l[posL l x]'hp).1 = x := by unfold isL at his; rw [dif_pos hp] at his; simpa using his
    rw [rowAt_is H.out.rising hp he]
    rw [his] at hf
    obtain ⟨p, hpp⟩ : ∃ p, p = posL l x := ⟨_, rfl⟩
    have hpl : p < l.length := by omega
    have e1 : (l[posL l x]'hp).2 = (l[p]'hpl).2 := by simp only [hpp]
    rw [e1]
    rw [← hpp] at hf
    obtain ⟨c, hc⟩ : ∃ c, c = (l[p]'hpl).2 := ⟨_, rfl⟩
    rw [← hc]
    rcases owns_shape H.out.own with ⟨_, hn, _⟩ | ⟨g, cap, hv, hnc, hcap, _, hg⟩
    · omega
    · subst hv
      have c1' : w.cell? ⟨g, p * 2 + 1, none⟩ = some (.int .u64 (c : Int)) := by rw [H.out.own.cellAt _ (by omega), rowC_snd l p hpl, hc]
      obtain ⟨n, hn⟩ : ∃ n, n = l.length := ⟨_, rfl⟩
      rw [← hn] at c1 hf hnc
      have hpn : p < n := by omega
      have hl : ∀ w1, Below w.heap.size w w1 → w1.cell? ⟨sb, 1, none⟩ = some (.slice (some ⟨g, 0, none⟩) n cap) ∧ w1.cell? ⟨g, p * 2 + 1, none⟩ = some (.int .u64 (c : Int)) := fun w1 hb => ⟨(hb.cell (p := ⟨sb, 1, none⟩) H.out.blk.lt).trans c1, (hb.cell (p := ⟨g, p * 2 + 1, none⟩) hg).trans c1'⟩
      clear hpp hp he e1 his hc hn c1'
      go_enter Tryz.func186, Tryz.ntmps186
      go_wp2_with (go_at_call 114; refine hf.mono ?_; rintro e w1 ⟨rfl, hb1⟩; obtain ⟨k1, k2⟩ := hl w1 hb1)
      go_ret
      exact ⟨rfl, hb1⟩
  · have hz : rowAt l x = 0 := rowAt_not H.out.rising fun hp he => his (by unfold isL; rw [dif_pos hp]; simpa using he)
    rw [hz]
    have his' : isL l x = false := by simpa using his
    rw [his'] at hf
    clear his hz his'
    go_enter Tryz.func186, Tryz.ntmps186
    go_wp2_with (go_at_call 114; refine hf.mono ?_; rintro e w1 ⟨rfl, hb1⟩)
    go_ret
    exact ⟨rfl, hb1⟩
end Go.Proofs.YtbejdajkkoapgaaGreatDoor

