/-
  Several texts in one: Lk, Le. What each proves, and on which conditions, stands at its head. Conditions: stated in each.
-/
import Derived.Test.YtbejdajkkoapgaaGreatDoorS08
/-
  Contract of strip.take: the pair of an end leaves the strip. Conditions: it is there.
-/
set_option linter.unusedVariables false
set_option linter.unusedSimpArgs false
set_option maxRecDepth 100000
namespace Go.Proofs.YtbejdajkkoapgaaGreatDoor
open Go.RowKit Go.Lib

set_option maxHeartbeats 4000000 in
theorem take_any {M : Nat} (w : World) (sb : Nat) (v : Value) (l : Row) (h : StripM M w sb v l) (p : Nat) (hp : p < l.length) (hlen : l.length ≤ 1000000) (hs : rowTotal l ≤ 9223372036854775807) (ix ct : Nat) (hx : l[p]'hp = (ix, ct)) (l' : Row) (hl' : l' = l.take p ++ l.drop (p + 1)) (htot : rowTotal l = rowTotal l' + ct) (hsub : l'.Sublist l) (hln : l'.length = l.length - 1) :
    Calls Tryz.prog 151 #[.pointer (some ⟨sb, 0, none⟩), .int .i64 (p : Int)] w fun e w' => e = .returned (.tuple #[.agg #[.int .i64 (ix : Int), .int .u64 (ct : Int)], .bool true]) ∧ ∃ v2, StripM M w' sb v2 l' ∧ Away (fun j => j = sb ∨ v.ownBlock = some j) w w' ∧ Kin w v v2 := by
  obtain ⟨c0, c1, c2, f1, f2⟩ := h.cells
  have hne := h.ne
  have H := Lib.hid h
  rcases owns_shape h.own with ⟨_, h0, _⟩ | ⟨g, cap, hv, hnc, hcap, _, hg⟩
  · omega
  subst hv
  have e0 : w.cell? ⟨g, p * 2, none⟩ = some (.int .i64 (ix : Int)) := by rw [h.own.cellAt _ (by omega), rowC_fst l p hp, hx]
  have e1 : w.cell? ⟨g, p * 2 + 1, none⟩ = some (.int .u64 (ct : Int)) := by rw [h.own.cellAt _ (by omega), rowC_snd l p hp, hx]
  have hdel := Lib.hid (show ∀ W, Below w.heap.size w W → Calls Tryz.prog 152 #[.slice (some ⟨g, 0, none⟩) l.length cap, .int .i64 (p : Int), .int .i64 ((p : Int) + 1)] W fun e w' => e = .returned (.slice (some ⟨g, 0, none⟩) (l.length - 1) cap) ∧
      w'.ownsRow 0 228 2 (.slice (some ⟨g, 0, none⟩) (l.length - 1) cap) (l.length - 1) ((rowC l).take (p * 2) ++ (rowC l).drop ((p + 1) * 2)) ∧ Away (fun k => k = g) W w' from fun W b => by
    have k := delete_any W g l.length cap p l (h.next b).own hlen hp
    have ec : ((p + 1 : Nat) : Int) = (p : Int) + 1 := by omega
    rw [ec] at k
    exact k)
  have hrc : (rowC l).take (p * 2) ++ (rowC l).drop ((p + 1) * 2) = rowC l' := by rw [hl', rowC_append, rowC_take, ← rowC_drop]
  obtain ⟨t', ht'⟩ : ∃ t', t' = rowTotal l' := ⟨_, rfl⟩
  rw [← ht'] at htot
  have hwr : IntKind.u64.wrap ((rowTotal l : Int) - (ct : Int)) = (t' : Int) := by rw [IntKind.wrap_u64]; omega
  have hsg : sb ≠ g := fun e => hne (by rw [e]; rfl)
  have hsz := h.blk.lt
  have FIN := Lib.hid (show ∀ W W2, Below w.heap.size w W → Away (fun k => k = g) W W2 → w.heap.size + 1 < W.heap.size → W.cell? ⟨w.heap.size + 1, 0, none⟩ = some (.int .i64 (ix : Int)) → W.cell? ⟨w.heap.size + 1, 1, none⟩ = some (.int .u64 (ct : Int)) → W.cell? ⟨w.heap.size, 0, none⟩ = some (.int .i64 0) → W.cell? ⟨w.heap.size, 1, none⟩ = some (.int .u64 0) → W.frozen? ⟨w.heap.size, 0, none⟩ = false → W.frozen? ⟨w.heap.size, 1, none⟩ = false →
      W2.cell? ⟨sb, 1, none⟩ = some (.slice (some ⟨g, 0, none⟩) l.length cap) ∧ W2.cell? ⟨sb, 2, none⟩ = some (.int .u64 (rowTotal l : Int)) ∧ W2.frozen? ⟨sb, 1, none⟩ = false ∧ W2.frozen? ⟨sb, 2, none⟩ = false ∧ W2.cell? ⟨w.heap.size + 1, 0, none⟩ = some (.int .i64 (ix : Int)) ∧ W2.cell? ⟨w.heap.size + 1, 1, none⟩ = some (.int .u64 (ct : Int)) ∧ W2.cell? ⟨w.heap.size, 0, none⟩ = some (.int .i64 0) ∧ W2.cell? ⟨w.heap.size, 1, none⟩ = some (.int .u64 0) ∧ W2.frozen? ⟨w.heap.size, 0, none⟩ = false ∧ W2.frozen? ⟨w.heap.size, 1, none⟩ = false from fun W W2 b a hlt k0 k1 k2 k3 k4 k5 => by
    have B2 := (h.blk.below b h.blk.lt).away a hsg
    refine ⟨B2.cell rfl, B2.cell rfl, B2.frozen 1, B2.frozen 2, ?_, ?_, ?_, ?_, ?_, ?_⟩
    · exact (a.cell (p := ⟨w.heap.size + 1, 0, none⟩) hlt (show ¬ w.heap.size + 1 = g by omega)).trans k0
    · exact (a.cell (p := ⟨w.heap.size + 1, 1, none⟩) hlt (show ¬ w.heap.size + 1 = g by omega)).trans k1
    · exact (a.cell (p := ⟨w.heap.size, 0, none⟩) (show w.heap.size < _ by omega) (show ¬ w.heap.size = g by omega)).trans k2
    · exact (a.cell (p := ⟨w.heap.size, 1, none⟩) (show w.heap.size < _ by omega) (show ¬ w.heap.size = g by omega)).trans k3
    · exact (a.frozen (p := ⟨w.heap.size, 0, none⟩) (show w.heap.size < _ by omega) (show ¬ w.heap.size = g by omega)).trans k4
    · exact (a.frozen (p := ⟨w.heap.size, 1, none⟩) (show w.heap.size < _ by omega) (show ¬ w.heap.size = g by omega)).trans k5)
  obtain ⟨n, hn⟩ : ∃ n, n = l.length := ⟨_, rfl⟩
  have hnp : 0 < n := by omega
  have gn : ((n : Int) == 0) = false := by simp; omega
  have gp : (p : Int) < (n : Int) := by omega
  have gw : IntKind.i64.wrap ((p : Int) + 1) = (p : Int) + 1 := by rw [IntKind.wrap_i64]; omega
  rw [← hn] at c1 hdel FIN hnc
  have HN := Lib.hid hn
  have HL := Lib.hid hln
  have HS := Lib.hid hsub
  have HT := Lib.hid ht'
  clear h hne hl' hx hs hlen hp htot hsub hn hln ht'
  obtain ⟨W0, hW0⟩ : ∃ W0, W0 = (w.alloc (.cells #[.int .i64 0, .int .u64 0] 228)).alloc (.cells #[.int .i64 (ix : Int), .int .u64 (ct : Int)] 228) := ⟨_, rfl⟩
  have B0 : Below w.heap.size w W0 := by rw [hW0]; exact ((Below.refl _ w).alloc (Nat.le_refl _) _).alloc (by simp) _
  have Z0 : Blk W0 w.heap.size #[.int .i64 0, .int .u64 0] 228 := by rw [hW0]; exact (Blk.newAt rfl).alloc _
  have Z1 : Blk W0 (w.heap.size + 1) #[.int .i64 (ix : Int), .int .u64 (ct : Int)] 228 := by rw [hW0]; exact Blk.newAt (by simp)
  have K0 := H.out.next B0
  obtain ⟨d0, d1, d2, d3, d4⟩ := K0.cells
  rw [← HN.out] at d1
  have z0 := Z1.cell (j := 0) rfl
  have z1 := Z1.cell (j := 1) rfl
  have z2 := Z0.cell (j := 0) rfl
  have z3 := Z0.cell (j := 1) rfl
  have z4 := Z0.frozen 0
  have z5 := Z0.frozen 1
  have hdl := hdel.out W0.drew B0.drew
  have hfin := Lib.hid (fun W2 a => FIN.out W0.drew W2 B0.drew a Z1.lt z0 z1 z2 z3 z4 z5)
  have LAST := Lib.hid (show ∀ W2, W2.ownsRow 0 228 2 (.slice (some ⟨g, 0, none⟩) (n - 1) cap) (n - 1) ((rowC l).take (p * 2) ++ (rowC l).drop ((p + 1) * 2)) → Away (fun k => k = g) W0.drew W2 →
      ∀ W3 : World, W3 = ((((W2.setCell ⟨sb, 1, none⟩ (.slice (some ⟨g, 0, none⟩) (n - 1) cap)).setCell ⟨sb, 2, none⟩ (.int .u64 (t' : Int))).setCell ⟨w.heap.size, 0, none⟩ (.int .i64 (ix : Int))).setCell ⟨w.heap.size, 1, none⟩ (.int .u64 (ct : Int))) → ∃ v2, StripM M W3 sb v2 l' ∧ Away (fun j => j = sb ∨ (Value.slice (some ⟨g, 0, none⟩) n cap).ownBlock = some j) w W3 ∧ Kin w (.slice (some ⟨g, 0, none⟩) n cap) v2 from fun W2 o a W3 hW3 => by
    have hll : n - 1 = l'.length := by rw [HL.out, HN.out]
    have o' : W2.ownsRow 0 228 2 (.slice (some ⟨g, 0, none⟩) l'.length cap) l'.length (rowC l') := by rw [hrc, hll] at o; exact o
    have hne2 : (Value.slice (some ⟨g, 0, none⟩) l'.length cap).ownBlock ≠ some sb := fun e => by injection e with e; exact hsg e.symm
    have hne3 : (Value.slice (some ⟨g, 0, none⟩) l'.length cap).ownBlock ≠ some w.heap.size := fun e => by injection e with e; have e : g = w.heap.size := e; omega
    have S2 := ((H.out.next B0).drew.blk.away a hsg)
    rw [hll] at hW3
    refine ⟨.slice (some ⟨g, 0, none⟩) l'.length cap, ?_, ?_, .inl rfl⟩
    · rw [hW3]
      refine ⟨?_, owns_other (owns_other (owns_other (owns_other o' _ _ hne2) _ _ hne2) _ _ hne3) _ _ hne3, rising_sub HS.out H.out.rising, fun x hx => H.out.full x (HS.out.subset hx)⟩
      rw [← HT.out]
      exact (((S2.set 1 _).set 2 _).other _ _ (show sb ≠ w.heap.size by omega)).other _ _ (show sb ≠ w.heap.size by omega)
    · rw [hW3]
      refine Away.setCell (Away.setCell (Away.setCell (Away.setCell ?_ _ _ (.inl (.inl rfl))) _ _ (.inl (.inl rfl))) _ _ (.inr (Nat.le_refl _))) _ _ (.inr (Nat.le_refl _))
      exact (Away.of_below (F := fun j => j = sb ∨ (Value.slice (some ⟨g, 0, none⟩) n cap).ownBlock = some j) B0.drew).trans' a (fun k _ hk => hk) (fun k _ hk => .inr (by rw [hk]; rfl)))
  clear FIN hdel
  go_enter Tryz.func151, Tryz.ntmps151
  go_wp2_with fail
  rw [← hW0]
  clear hW0 c0 c1 c2 f1 f2 d0 e0 e1 Z0 Z1 K0 B0 gn hrc
  rename_i KK
  go_region_with (go_at_call 152; refine hdl.mono ?_; rintro e w1 ⟨rfl, o1, a1⟩; obtain ⟨r1, r2, r3, r4, r5, r6, r7, r8, r9, r10⟩ := hfin.out _ a1)
  all_goals (
    refine KK _ _ ?_
    clear hdl
    go_wp2_with fail
    refine bodyPost_ret (v := .tuple #[.agg #[.int .i64 (ix : Int), .int .u64 (ct : Int)], .bool true]) (by simp [results, Tryz.results151, go_sem, r7, r8, r9, r10]) rfl ⟨rfl, ?_⟩
    rw [← HN.out]; exact LAST.out w1 o1 a1 _ rfl)

set_option maxHeartbeats 4000000 in
theorem strip_first {M : Nat} (w : World) (sb : Nat) (v : Value) (l : Row) (h : StripM M w sb v l) (hn : l ≠ []) (hlen : l.length ≤ 1000000) (hs : rowTotal l ≤ 9223372036854775807) :
    Calls Tryz.prog 147 #[.pointer (some ⟨sb, 0, none⟩)] w fun e w' => e = .returned (.tuple #[.agg #[.int .i64 ((farN false l : Nat) : Int), .int .u64 ((farP false l).2 : Nat)], .bool true]) ∧ ∃ v2, StripM M w' sb v2 (cutN false l) ∧ Away (fun j => j = sb ∨ v.ownBlock = some j) w w' ∧ Kin w v v2 := by
  have hl0 := List.length_pos_iff.2 hn
  have hx := farI_get false hn
  have e1 : farP false l = (farN false l, (farP false l).2) := by rw [← farP_ix]
  rw [e1] at hx
  have b0 : Below w.heap.size w (w.alloc (.cells #[.int .i64 0, .int .u64 0] 228)) := (Below.refl _ w).alloc (Nat.le_refl _) _
  have key : Calls Tryz.prog 151 #[.pointer (some ⟨sb, 0, none⟩), .int .i64 0] (w.alloc (.cells #[.int .i64 0, .int .u64 0] 228)) _ := take_any _ sb v l (h.next b0) (farI false l) (farI_lt false hn) hlen hs (farN false l) (farP false l).2 hx (cutN false l) (cutN_take false hn) (cutN_total hn) (cutN_sub false l) (cutN_len false l)
  obtain ⟨c0, c1, c2, f1, f2⟩ := h.cells
  have hsz := h.blk.lt
  obtain ⟨A, cap, hv⟩ := owns_slice h.own
  have FIN := Lib.hid (show ∀ (w1 : World) (v2 : Value), StripM M w1 sb v2 (cutN false l) → Away (fun j => j = sb ∨ v.ownBlock = some j) (w.alloc (.cells #[.int .i64 0, .int .u64 0] 228)) w1 → Kin (w.alloc (.cells #[.int .i64 0, .int .u64 0] 228)) v v2 →
      (∀ u1 u2, ∃ v2, StripM M ((w1.setCell ⟨w.heap.size, 0, none⟩ u1).setCell ⟨w.heap.size, 1, none⟩ u2) sb v2 (cutN false l) ∧ Away (fun j => j = sb ∨ v.ownBlock = some j) w ((w1.setCell ⟨w.heap.size, 0, none⟩ u1).setCell ⟨w.heap.size, 1, none⟩ u2) ∧ Kin w v v2) ∧
      w1.cell? ⟨w.heap.size, 0, none⟩ = some (.int .i64 0) ∧ w1.cell? ⟨w.heap.size, 1, none⟩ = some (.int .u64 0) ∧ w1.frozen? ⟨w.heap.size, 0, none⟩ = false ∧ w1.frozen? ⟨w.heap.size, 1, none⟩ = false from fun w1 v2 s a k => by
    have Z : Blk w1 w.heap.size #[.int .i64 0, .int .u64 0] 228 := (Blk.newAt rfl).away a fun hj => by
      rcases hj with e | e
      · omega
      · have := (h.own.lt _ e).2; omega
    have hv2 : v2.ownBlock ≠ some w.heap.size := fun e => by
      rcases k with k | ⟨g, k, hg⟩
      · rw [k] at e; have := (h.own.lt _ e).2; omega
      · rw [k] at e; injection e with e; simp at hg; omega
    refine ⟨fun u1 u2 => ⟨v2, (s.other _ _ (show sb ≠ w.heap.size by omega) hv2).other _ _ (show sb ≠ w.heap.size by omega) hv2, ?_, ?_⟩, Z.cell rfl, Z.cell rfl, Z.frozen 0, Z.frozen 1⟩
    · refine Away.setCell (Away.setCell ?_ _ _ (.inr (Nat.le_refl _))) _ _ (.inr (Nat.le_refl _))
      exact (Away.of_below (F := fun j => j = sb ∨ v.ownBlock = some j) b0).trans' a (fun _ _ h => h) (fun _ _ h => h)
    · rcases k with k | ⟨g, k, hg⟩
      · exact .inl k
      · exact .inr ⟨g, k, by simp at hg; omega⟩)
  subst hv
  generalize farN false l = ix at *
  generalize (farP false l).2 = ct at *
  clear hx e1 hlen hs hn hsz b0 h
  go_enter Tryz.func147, Tryz.ntmps147
  go_wp2_with (go_at_call 151; refine key.mono ?_; rintro e w1 ⟨rfl, v2, s2, a2, k2⟩; obtain ⟨r0, r1, r2, r3, r4⟩ := FIN.out w1 v2 s2 a2 k2)
  exact bodyPost_ret (v := .tuple #[.agg #[.int .i64 (ix : Int), .int .u64 (ct : Int)], .bool true]) (by simp [results, Tryz.results147, go_sem, r1, r2, r3, r4]) rfl ⟨rfl, r0 _ _⟩

set_option maxHeartbeats 4000000 in
theorem strip_last {M : Nat} (w : World) (sb : Nat) (v : Value) (l : Row) (h : StripM M w sb v l) (hn : l ≠ []) (hlen : l.length ≤ 1000000) (hs : rowTotal l ≤ 9223372036854775807) :
    Calls Tryz.prog 146 #[.pointer (some ⟨sb, 0, none⟩)] w fun e w' => e = .returned (.tuple #[.agg #[.int .i64 ((farN true l : Nat) : Int), .int .u64 ((farP true l).2 : Nat)], .bool true]) ∧ ∃ v2, StripM M w' sb v2 (cutN true l) ∧ Away (fun j => j = sb ∨ v.ownBlock = some j) w w' ∧ Kin w v v2 := by
  have hl0 := List.length_pos_iff.2 hn
  have hx := farI_get true hn
  have e1 : farP true l = (farN true l, (farP true l).2) := by rw [← farP_ix]
  rw [e1] at hx
  have b0 : Below w.heap.size w (w.alloc (.cells #[.int .i64 0, .int .u64 0] 228)) := (Below.refl _ w).alloc (Nat.le_refl _) _
  have key : Calls Tryz.prog 151 #[.pointer (some ⟨sb, 0, none⟩), .int .i64 ((l.length - 1 : Nat) : Int)] (w.alloc (.cells #[.int .i64 0, .int .u64 0] 228)) _ := take_any _ sb v l (h.next b0) (farI true l) (farI_lt true hn) hlen hs (farN true l) (farP true l).2 hx (cutN true l) (cutN_take true hn) (cutN_total hn) (cutN_sub true l) (cutN_len true l)
  obtain ⟨c0, c1, c2, f1, f2⟩ := h.cells
  have hsz := h.blk.lt
  obtain ⟨A, cap, hv⟩ := owns_slice h.own
  have g2 : IntKind.i64.wrap ((l.length : Int) - 1) = ((l.length - 1 : Nat) : Int) := by rw [IntKind.wrap_i64]; omega
  have FIN := Lib.hid (show ∀ (w1 : World) (v2 : Value), StripM M w1 sb v2 (cutN true l) → Away (fun j => j = sb ∨ v.ownBlock = some j) (w.alloc (.cells #[.int .i64 0, .int .u64 0] 228)) w1 → Kin (w.alloc (.cells #[.int .i64 0, .int .u64 0] 228)) v v2 →
      (∀ u1 u2, ∃ v2, StripM M ((w1.setCell ⟨w.heap.size, 0, none⟩ u1).setCell ⟨w.heap.size, 1, none⟩ u2) sb v2 (cutN true l) ∧ Away (fun j => j = sb ∨ v.ownBlock = some j) w ((w1.setCell ⟨w.heap.size, 0, none⟩ u1).setCell ⟨w.heap.size, 1, none⟩ u2) ∧ Kin w v v2) ∧
      w1.cell? ⟨w.heap.size, 0, none⟩ = some (.int .i64 0) ∧ w1.cell? ⟨w.heap.size, 1, none⟩ = some (.int .u64 0) ∧ w1.frozen? ⟨w.heap.size, 0, none⟩ = false ∧ w1.frozen? ⟨w.heap.size, 1, none⟩ = false from fun w1 v2 s a k => by
    have Z : Blk w1 w.heap.size #[.int .i64 0, .int .u64 0] 228 := (Blk.newAt rfl).away a fun hj => by
      rcases hj with e | e
      · omega
      · have := (h.own.lt _ e).2; omega
    have hv2 : v2.ownBlock ≠ some w.heap.size := fun e => by
      rcases k with k | ⟨g, k, hg⟩
      · rw [k] at e; have := (h.own.lt _ e).2; omega
      · rw [k] at e; injection e with e; simp at hg; omega
    refine ⟨fun u1 u2 => ⟨v2, (s.other _ _ (show sb ≠ w.heap.size by omega) hv2).other _ _ (show sb ≠ w.heap.size by omega) hv2, ?_, ?_⟩, Z.cell rfl, Z.cell rfl, Z.frozen 0, Z.frozen 1⟩
    · refine Away.setCell (Away.setCell ?_ _ _ (.inr (Nat.le_refl _))) _ _ (.inr (Nat.le_refl _))
      exact (Away.of_below (F := fun j => j = sb ∨ v.ownBlock = some j) b0).trans' a (fun _ _ h => h) (fun _ _ h => h)
    · rcases k with k | ⟨g, k, hg⟩
      · exact .inl k
      · exact .inr ⟨g, k, by simp at hg; omega⟩)
  subst hv
  generalize farN true l = ix at *
  generalize (farP true l).2 = ct at *
  clear hx e1 hlen hs hn b0 h
  go_enter Tryz.func146, Tryz.ntmps146
  go_wp2_with fail
  refine key.mono ?_
  rintro e w1 ⟨rfl, v2, s2, a2, k2⟩
  obtain ⟨r0, r1, r2, r3, r4⟩ := FIN.out w1 v2 s2 a2 k2
  go_wp2_with fail
  exact bodyPost_ret (v := .tuple #[.agg #[.int .i64 (ix : Int), .int .u64 (ct : Int)], .bool true]) (by simp [results, Tryz.results146, go_sem, r1, r2, r3, r4]) rfl ⟨rfl, r0 _ _⟩
end Go.Proofs.YtbejdajkkoapgaaGreatDoor

/-
  Contracts of the stores that keep what lies close to their end (lowcap, highcap): out, end, shed, put. Conditions: stated in each.
-/
set_option linter.unusedVariables false
set_option linter.unusedSimpArgs false
set_option maxRecDepth 100000
namespace Go.Proofs.YtbejdajkkoapgaaGreatDoor
open Go.RowKit Go.Lib

theorem endsV_nil : endsV [] = .tuple #[.int .i64 0, .int .i64 0, .bool false] := rfl
theorem endsV_some {l : Row} (hn : l ≠ []) : endsV l = .tuple #[.int .i64 ((endN true l : Nat) : Int), .int .i64 ((endN false l : Nat) : Int), .bool true] := by
  have hb : (!l.isEmpty) = true := by cases l <;> simp_all
  unfold endsV; rw [hb]
theorem endN_low {hi : Bool} {l : Row} (hn : l ≠ []) (h : ∀ x ∈ l, x.1 < 4096) : endN hi l < 4096 := by
  cases hi with
  | true => cases l with
    | nil => exact absurd rfl hn
    | cons x l => exact h x List.mem_cons_self
  | false =>
    have e : endN false l = (l.getLast hn).1 := by unfold endN; rw [List.getLast?_eq_some_getLast hn]; rfl
    rw [e]; exact h _ (List.getLast_mem hn)
theorem cut_lt (hi : Bool) {l : Row} (hn : l ≠ []) : (cutN hi l).length < l.length := by
  have := List.length_pos_iff.2 hn
  rw [cutN_len]; omega

theorem out_L (w : World) (cb i e M : Nat) (h0 : w.cell? ⟨cb, 0, none⟩ = some (.int .i64 (M : Int))) (hM1 : 1 ≤ M) (hM2 : M ≤ 4096) (hi : i < 4096) (he : e < 4096) :
    Calls Tryz.prog 140 #[.pointer (some ⟨cb, 0, none⟩), .int .i64 (i : Int), .int .i64 (e : Int)] w fun r w' => r = .returned (.bool (farB false M i e)) ∧ w = w' := by
  have e1 : IntKind.u64.wrap (e : Int) = (e : Int) := by rw [IntKind.wrap_u64]; omega
  have e2 : IntKind.u64.wrap (i : Int) = (i : Int) := by rw [IntKind.wrap_u64]; omega
  have e3 : IntKind.u64.wrap (M : Int) = (M : Int) := by rw [IntKind.wrap_u64]; omega
  by_cases g : (i : Int) < (e : Int)
  · have e4 : IntKind.u64.wrap ((e : Int) - (i : Int)) = (e : Int) - (i : Int) := by rw [IntKind.wrap_u64]; omega
    have f : farB false M i e = decide ((M : Int) ≤ (e : Int) - (i : Int)) := by
      unfold farB; simp only [Bool.false_eq_true, if_false, if_true]; exact decide_eq_decide.2 (by omega)
    rw [f]
    clear f hM1 hM2 hi he
    go_enter Tryz.func140, Tryz.ntmps140
    go_wp2_with fail
    go_ret
    exact ⟨rfl, rfl⟩
  · have f : farB false M i e = false := by unfold farB; simp; omega
    rw [f]
    clear f hM1 hM2 hi he
    go_enter Tryz.func140, Tryz.ntmps140
    go_wp2_with fail
    go_ret
    exact ⟨rfl, rfl⟩

theorem end_L {M : Nat} (w : World) (cb sb : Nat) (v : Value) (k : Row) (T : Nat) (S : StoO false M w cb sb v k T) :
    Calls Tryz.prog 139 #[.pointer (some ⟨cb, 0, none⟩)] w fun r w' => r = .returned (.tuple #[.int .i64 ((endN false k : Nat) : Int), .bool (!k.isEmpty)]) ∧ Below w.heap.size w w' := by
  obtain ⟨c0, c1, c2, f2⟩ := S.cells
  have hen := stripM_ends w sb v k S.st
  unfold endsV at hen
  generalize ((endN true k : Nat) : Int) = x0 at *
  generalize ((endN false k : Nat) : Int) = x1 at *
  generalize (!k.isEmpty) = ne at *
  clear S
  go_enter Tryz.func139, Tryz.ntmps139
  go_wp2_with (go_at_call 145; refine hen.mono ?_; rintro e w1 ⟨rfl, b1⟩)
  go_ret2
  exact ⟨rfl, b1⟩

set_option maxHeartbeats 4000000 in
theorem shed_L {M : Nat} (hM1 : 1 ≤ M) (hM2 : M ≤ 4096) (w : World) (cb : Nat) (O : Nat → Prop) (k : Row) (T : Nat) (h : StoQ false M k T w cb O) (i : Nat) (hi4 : i < 4096) (hlen : k.length ≤ 1000000) (hT : T ≤ 9223372036854775807) :
    Calls Tryz.prog 141 #[.pointer (some ⟨cb, 0, none⟩), .int .i64 (i : Int)] w fun e w' => e = .returned (.tuple #[]) ∧ StoR false M w cb O (capR (fun j => !farB false M j i) k) T w' := by
  have R0 := StoR.start h
  have HI4 := Lib.hid (And.intro hi4 (And.intro hlen hT))
  clear h hi4 hlen hT
  go_enter Tryz.func141, Tryz.ntmps141
  go_wp2_with fail
  go_loopg [4, 5, 6, 7, 8] k.length (fun g _ _ _ _ _ wr => ∃ k', StoR false M w cb O k' T wr ∧ capR (fun j => !farB false M j i) k' = capR (fun j => !farB false M j i) k ∧ k'.length ≤ g ∧ k'.length ≤ k.length)
  case atStart => exact ⟨k, R0, rfl, Nat.le_refl _, Nat.le_refl _⟩
  case round =>
    clear R0
    obtain ⟨k', hR, hc, hg, hgk⟩ := hrel
    have hR0 := Lib.hid hR
    obtain ⟨O', ⟨sb, v, S, rfl⟩, hs, ha⟩ := hR
    obtain ⟨c0, c1, c2, f2⟩ := S.cells
    have hen := stripM_ends wr sb v k' S.st
    by_cases hn : k' = []
    · subst hn
      rw [endsV_nil] at hen
      have HC := Lib.hid hc
      clear S hs ha hc c2 f2
      go_wp2_with (go_at_call 145; refine hen.mono ?_; rintro e w1 ⟨rfl, b1⟩)
      refine bodyPost_ret (results_none rfl _ _ _) rfl ?_
      exact ⟨rfl, HC.out ▸ hR0.out.next b1⟩
    · rw [endsV_some hn] at hen
      have hlow := S.low
      have hfar : farN false k' < 4096 := endN_low hn hlow
      obtain ⟨fr, hfr⟩ : ∃ fr, fr = farN false k' := ⟨_, rfl⟩
      have hx : ((endN true k' : Nat) : Int) = (fr : Int) := by rw [hfr]; rfl
      rw [hx] at hen
      generalize ((endN false k' : Nat) : Int) = x1 at hen
      rw [← hfr] at hfar
      have ho := fun W (c : W.cell? ⟨cb, 0, none⟩ = some (.int .i64 (M : Int))) => out_L W cb fr i M c hM1 hM2 hfar HI4.out.1
      obtain ⟨fb, hfb⟩ : ∃ fb, fb = farB false M fr i := ⟨_, rfl⟩
      rw [← hfb] at ho
      have S0 := Lib.hid (And.intro S (And.intro hs ha))
      have HC := Lib.hid hc
      cases fb with
      | false =>
        have hall := cap_all (p := fun j => !farB false M j i) (far_all S.st.rising (by rw [← hfr]; exact hfb.symm))
        have FIN := Lib.hid (show ∀ W, Below wr.heap.size wr W → StoR false M w cb O (capR (fun j => !farB false M j i) k) T W from fun W b => by
          have e : k' = capR (fun j => !farB false M j i) k := hall.symm.trans HC.out
          exact e ▸ hR0.out.next b)
        clear S hs ha hc c2 f2 hall hR0 HC hfr hfb hx hlow hn
        go_wp2_with fail
        refine hen.mono ?_
        rintro e w1 ⟨rfl, b1⟩
        have ho1 := ho w1 ((S0.out.1.next b1).cells.1)
        clear ho hen
        have HB := Lib.hid b1
        clear b1
        go_wp2_with fail
        refine ho1.mono ?_
        rintro e w2 ⟨rfl, rfl⟩
        go_wp2_with fail
        refine bodyPost_ret (results_none rfl _ _ _) rfl ?_
        exact ⟨rfl, FIN.out _ HB.out⟩
      | true =>
        have hrt := S.le
        have hfp := cutN_total (hi := false) hn
        have hlk : k'.length ≤ 1000000 := by have := HI4.out; omega
        have hTT : T ≤ 9223372036854775807 := HI4.out.2.2
        have hta := fun W (b : Below wr.heap.size wr W) => strip_first W sb v k' (S.next b).st hn hlk (by omega)
        rw [← hfr] at hta
        obtain ⟨ct, hct⟩ : ∃ ct, ct = (farP false k').2 := ⟨_, rfl⟩
        rw [← hct] at hta hfp
        obtain ⟨l1, hl1⟩ : ∃ l1, l1 = T - rowTotal k' := ⟨_, rfl⟩
        obtain ⟨l2, hl2⟩ : ∃ l2, l2 = l1 + ct := ⟨_, rfl⟩
        have hwr : IntKind.u64.wrap ((l1 : Int) + (ct : Int)) = (l2 : Int) := by rw [IntKind.wrap_u64]; omega
        have hcap : capR (fun j => !farB false M j i) (cutN false k') = capR (fun j => !farB false M j i) k := (cut_cap hn (by rw [← hfr, ← hfb]; rfl)).trans hc
        have hcl := cut_lt false hn
        have FIN := Lib.hid (show ∀ (w1 w2 : World) (v2 : Value) (ob : Obj), Below wr.heap.size wr w1 → StripM M w2 sb v2 (cutN false k') → Away (fun j => j = sb ∨ v.ownBlock = some j) w1 w2 → Kin w1 v v2 →
            ∃ W, W = w2.alloc ob ∧ StoR false M w cb O (cutN false k') T (W.setCell ⟨cb, 2, none⟩ (.int .u64 (l2 : Int))).drew ∧ W.drew.cell? ⟨cb, 2, none⟩ = some (.int .u64 (l1 : Int)) ∧ W.drew.frozen? ⟨cb, 2, none⟩ = false from fun w1 w2 v2 ob b1 s2 a2 q2 => by
          have b2 : Below w2.heap.size w2 (w2.alloc ob) := (Below.refl _ _).alloc (Nat.le_refl _) ob
          have S1 := S0.out.1.next b1
          obtain ⟨k1, k2, k3, k4, k5⟩ := S1.cut hn (s2.next b2) (a2.trans' (Away.of_below (F := fun j => j = sb ∨ v.ownBlock = some j) b2) (fun _ _ h => h) (fun _ _ h => h)) q2
          rw [← hct, ← hl1, ← hl2] at k1 k3
          rw [← hl1] at k4
          exact ⟨_, rfl, StoR.made S0.out.2.2 S0.out.2.1 b1 k1 (fun j hj => k2 j hj) k3 (Below.refl _ _).drew, k4, k5⟩)
        have HG := Lib.hid (And.intro hcap (And.intro hcl (And.intro hg hgk)))
        clear S hs ha hc c2 f2 hrt hfp hlk hTT hcap hcl hR0 HC hg hgk hl1 hl2 hct hfr hfb hx hlow hn
        go_wp2_with fail
        refine hen.mono ?_
        rintro e w1 ⟨rfl, b1⟩
        have S1 := S0.out.1.next b1
        obtain ⟨c0, c1, c2, f2⟩ := S1.cells
        have ho1 := ho w1 c0
        have hta1 := hta w1 b1
        have HF := Lib.hid (fun w2 v2 ob => FIN.out w1 w2 v2 ob b1)
        clear ho hen FIN hta S1 b1 c2 f2
        go_wp2_with fail
        refine ho1.mono ?_
        rintro e w2 ⟨rfl, rfl⟩
        clear ho1
        go_wp2_with fail
        refine hta1.mono ?_
        rintro e w2 ⟨rfl, v2, s2, a2, q2⟩
        obtain ⟨W, hW, r1, r2, r3⟩ := HF.out w2 v2 (.cells #[.int .i64 (fr : Int), .int .u64 (ct : Int)] 228) s2 a2 q2
        have p1 : W.drew.cell? ⟨w2.heap.size, 1, none⟩ = some (.int .u64 (ct : Int)) := by rw [hW]; exact (Blk.newAt rfl : Blk (w2.alloc (.cells #[.int .i64 (fr : Int), .int .u64 (ct : Int)] 228)) w2.heap.size _ 228).cell rfl
        have HR := Lib.hid r1
        clear hta1 HF s2 a2 q2 r1 c0 c1
        go_upto_region 3 with fail
        rw [← hW]
        clear hW
        rename_i KK
        go_region_with fail
        all_goals (
          refine KK _ _ ?_
          go_wp2_with fail
          go_roundg (cutN false k').length
          case measure => have := HG.out; omega
          case rel => exact ⟨cutN false k', HR.out, HG.out.1, Nat.le_refl _, by have := HG.out; omega⟩)

theorem out_H (w : World) (cb i e M : Nat) (h0 : w.cell? ⟨cb, 0, none⟩ = some (.int .i64 (M : Int))) (hM1 : 1 ≤ M) (hM2 : M ≤ 4096) (hi : i < 4096) (he : e < 4096) :
    Calls Tryz.prog 137 #[.pointer (some ⟨cb, 0, none⟩), .int .i64 (i : Int), .int .i64 (e : Int)] w fun r w' => r = .returned (.bool (farB true M i e)) ∧ w = w' := by
  have e1 : IntKind.u64.wrap (e : Int) = (e : Int) := by rw [IntKind.wrap_u64]; omega
  have e2 : IntKind.u64.wrap (i : Int) = (i : Int) := by rw [IntKind.wrap_u64]; omega
  have e3 : IntKind.u64.wrap (M : Int) = (M : Int) := by rw [IntKind.wrap_u64]; omega
  by_cases g : (e : Int) < (i : Int)
  · have e4 : IntKind.u64.wrap ((i : Int) - (e : Int)) = (i : Int) - (e : Int) := by rw [IntKind.wrap_u64]; omega
    have f : farB true M i e = decide ((M : Int) ≤ (i : Int) - (e : Int)) := by
      unfold farB; simp only [Bool.false_eq_true, if_false, if_true]; exact decide_eq_decide.2 (by omega)
    rw [f]
    clear f hM1 hM2 hi he
    go_enter Tryz.func137, Tryz.ntmps137
    go_wp2_with fail
    go_ret
    exact ⟨rfl, rfl⟩
  · have f : farB true M i e = false := by unfold farB; simp; omega
    rw [f]
    clear f hM1 hM2 hi he
    go_enter Tryz.func137, Tryz.ntmps137
    go_wp2_with fail
    go_ret
    exact ⟨rfl, rfl⟩

theorem end_H {M : Nat} (w : World) (cb sb : Nat) (v : Value) (k : Row) (T : Nat) (S : StoO true M w cb sb v k T) :
    Calls Tryz.prog 136 #[.pointer (some ⟨cb, 0, none⟩)] w fun r w' => r = .returned (.tuple #[.int .i64 ((endN true k : Nat) : Int), .bool (!k.isEmpty)]) ∧ Below w.heap.size w w' := by
  obtain ⟨c0, c1, c2, f2⟩ := S.cells
  have hen := stripM_ends w sb v k S.st
  unfold endsV at hen
  generalize ((endN true k : Nat) : Int) = x0 at *
  generalize ((endN false k : Nat) : Int) = x1 at *
  generalize (!k.isEmpty) = ne at *
  clear S
  go_enter Tryz.func136, Tryz.ntmps136
  go_wp2_with (go_at_call 145; refine hen.mono ?_; rintro e w1 ⟨rfl, b1⟩)
  go_ret2
  exact ⟨rfl, b1⟩

set_option maxHeartbeats 4000000 in
theorem shed_H {M : Nat} (hM1 : 1 ≤ M) (hM2 : M ≤ 4096) (w : World) (cb : Nat) (O : Nat → Prop) (k : Row) (T : Nat) (h : StoQ true M k T w cb O) (i : Nat) (hi4 : i < 4096) (hlen : k.length ≤ 1000000) (hT : T ≤ 9223372036854775807) :
    Calls Tryz.prog 138 #[.pointer (some ⟨cb, 0, none⟩), .int .i64 (i : Int)] w fun e w' => e = .returned (.tuple #[]) ∧ StoR true M w cb O (capR (fun j => !farB true M j i) k) T w' := by
  have R0 := StoR.start h
  have HI4 := Lib.hid (And.intro hi4 (And.intro hlen hT))
  clear h hi4 hlen hT
  go_enter Tryz.func138, Tryz.ntmps138
  go_wp2_with fail
  go_loopg [4, 5, 6, 7, 8] k.length (fun g _ _ _ _ _ wr => ∃ k', StoR true M w cb O k' T wr ∧ capR (fun j => !farB true M j i) k' = capR (fun j => !farB true M j i) k ∧ k'.length ≤ g ∧ k'.length ≤ k.length)
  case atStart => exact ⟨k, R0, rfl, Nat.le_refl _, Nat.le_refl _⟩
  case round =>
    clear R0
    obtain ⟨k', hR, hc, hg, hgk⟩ := hrel
    have hR0 := Lib.hid hR
    obtain ⟨O', ⟨sb, v, S, rfl⟩, hs, ha⟩ := hR
    obtain ⟨c0, c1, c2, f2⟩ := S.cells
    have hen := stripM_ends wr sb v k' S.st
    by_cases hn : k' = []
    · subst hn
      rw [endsV_nil] at hen
      have HC := Lib.hid hc
      clear S hs ha hc c2 f2
      go_wp2_with (go_at_call 145; refine hen.mono ?_; rintro e w1 ⟨rfl, b1⟩)
      refine bodyPost_ret (results_none rfl _ _ _) rfl ?_
      exact ⟨rfl, HC.out ▸ hR0.out.next b1⟩
    · rw [endsV_some hn] at hen
      have hlow := S.low
      have hfar : farN true k' < 4096 := endN_low hn hlow
      obtain ⟨fr, hfr⟩ : ∃ fr, fr = farN true k' := ⟨_, rfl⟩
      have hx : ((endN false k' : Nat) : Int) = (fr : Int) := by rw [hfr]; rfl
      rw [hx] at hen
      generalize ((endN true k' : Nat) : Int) = x1 at hen
      rw [← hfr] at hfar
      have ho := fun W (c : W.cell? ⟨cb, 0, none⟩ = some (.int .i64 (M : Int))) => out_H W cb fr i M c hM1 hM2 hfar HI4.out.1
      obtain ⟨fb, hfb⟩ : ∃ fb, fb = farB true M fr i := ⟨_, rfl⟩
      rw [← hfb] at ho
      have S0 := Lib.hid (And.intro S (And.intro hs ha))
      have HC := Lib.hid hc
      cases fb with
      | false =>
        have hall := cap_all (p := fun j => !farB true M j i) (far_all S.st.rising (by rw [← hfr]; exact hfb.symm))
        have FIN := Lib.hid (show ∀ W, Below wr.heap.size wr W → StoR true M w cb O (capR (fun j => !farB true M j i) k) T W from fun W b => by
          have e : k' = capR (fun j => !farB true M j i) k := hall.symm.trans HC.out
          exact e ▸ hR0.out.next b)
        clear S hs ha hc c2 f2 hall hR0 HC hfr hfb hx hlow hn
        go_wp2_with fail
        refine hen.mono ?_
        rintro e w1 ⟨rfl, b1⟩
        have ho1 := ho w1 ((S0.out.1.next b1).cells.1)
        clear ho hen
        have HB := Lib.hid b1
        clear b1
        go_wp2_with fail
        refine ho1.mono ?_
        rintro e w2 ⟨rfl, rfl⟩
        go_wp2_with fail
        refine bodyPost_ret (results_none rfl _ _ _) rfl ?_
        exact ⟨rfl, FIN.out _ HB.out⟩
      | true =>
        have hrt := S.le
        have hfp := cutN_total (hi := true) hn
        have hlk : k'.length ≤ 1000000 := by have := HI4.out; omega
        have hTT : T ≤ 9223372036854775807 := HI4.out.2.2
        have hta := fun W (b : Below wr.heap.size wr W) => strip_last W sb v k' (S.next b).st hn hlk (by omega)
        rw [← hfr] at hta
        obtain ⟨ct, hct⟩ : ∃ ct, ct = (farP true k').2 := ⟨_, rfl⟩
        rw [← hct] at hta hfp
        obtain ⟨l1, hl1⟩ : ∃ l1, l1 = T - rowTotal k' := ⟨_, rfl⟩
        obtain ⟨l2, hl2⟩ : ∃ l2, l2 = l1 + ct := ⟨_, rfl⟩
        have hwr : IntKind.u64.wrap ((l1 : Int) + (ct : Int)) = (l2 : Int) := by rw [IntKind.wrap_u64]; omega
        have hcap : capR (fun j => !farB true M j i) (cutN true k') = capR (fun j => !farB true M j i) k := (cut_cap hn (by rw [← hfr, ← hfb]; rfl)).trans hc
        have hcl := cut_lt true hn
        have FIN := Lib.hid (show ∀ (w1 w2 : World) (v2 : Value) (ob : Obj), Below wr.heap.size wr w1 → StripM M w2 sb v2 (cutN true k') → Away (fun j => j = sb ∨ v.ownBlock = some j) w1 w2 → Kin w1 v v2 →
            ∃ W, W = w2.alloc ob ∧ StoR true M w cb O (cutN true k') T (W.setCell ⟨cb, 2, none⟩ (.int .u64 (l2 : Int))).drew ∧ W.drew.cell? ⟨cb, 2, none⟩ = some (.int .u64 (l1 : Int)) ∧ W.drew.frozen? ⟨cb, 2, none⟩ = false from fun w1 w2 v2 ob b1 s2 a2 q2 => by
          have b2 : Below w2.heap.size w2 (w2.alloc ob) := (Below.refl _ _).alloc (Nat.le_refl _) ob
          have S1 := S0.out.1.next b1
          obtain ⟨k1, k2, k3, k4, k5⟩ := S1.cut hn (s2.next b2) (a2.trans' (Away.of_below (F := fun j => j = sb ∨ v.ownBlock = some j) b2) (fun _ _ h => h) (fun _ _ h => h)) q2
          rw [← hct, ← hl1, ← hl2] at k1 k3
          rw [← hl1] at k4
          exact ⟨_, rfl, StoR.made S0.out.2.2 S0.out.2.1 b1 k1 (fun j hj => k2 j hj) k3 (Below.refl _ _).drew, k4, k5⟩)
        have HG := Lib.hid (And.intro hcap (And.intro hcl (And.intro hg hgk)))
        clear S hs ha hc c2 f2 hrt hfp hlk hTT hcap hcl hR0 HC hg hgk hl1 hl2 hct hfr hfb hx hlow hn
        go_wp2_with fail
        refine hen.mono ?_
        rintro e w1 ⟨rfl, b1⟩
        have S1 := S0.out.1.next b1
        obtain ⟨c0, c1, c2, f2⟩ := S1.cells
        have ho1 := ho w1 c0
        have hta1 := hta w1 b1
        have HF := Lib.hid (fun w2 v2 ob => FIN.out w1 w2 v2 ob b1)
        clear ho hen FIN hta S1 b1 c2 f2
        go_wp2_with fail
        refine ho1.mono ?_
        rintro e w2 ⟨rfl, rfl⟩
        clear ho1
        go_wp2_with fail
        refine hta1.mono ?_
        rintro e w2 ⟨rfl, v2, s2, a2, q2⟩
        obtain ⟨W, hW, r1, r2, r3⟩ := HF.out w2 v2 (.cells #[.int .i64 (fr : Int), .int .u64 (ct : Int)] 228) s2 a2 q2
        have p1 : W.drew.cell? ⟨w2.heap.size, 1, none⟩ = some (.int .u64 (ct : Int)) := by rw [hW]; exact (Blk.newAt rfl : Blk (w2.alloc (.cells #[.int .i64 (fr : Int), .int .u64 (ct : Int)] 228)) w2.heap.size _ 228).cell rfl
        have HR := Lib.hid r1
        clear hta1 HF s2 a2 q2 r1 c0 c1
        go_upto_region 3 with fail
        rw [← hW]
        clear hW
        rename_i KK
        go_region_with fail
        all_goals (
          refine KK _ _ ?_
          go_wp2_with fail
          go_roundg (cutN true k').length
          case measure => have := HG.out; omega
          case rel => exact ⟨cutN true k', HR.out, HG.out.1, Nat.le_refl _, by have := HG.out; omega⟩)
end Go.Proofs.YtbejdajkkoapgaaGreatDoor

