/-
  Several texts in one: Dx, Ld, Sk. What each proves, and on which conditions, stands at its head. Conditions: stated in each.
-/
import Derived.Test.YtbejdajkkoapgaaGreatDoorJ20
import Derived.Test.YtbejdajkkoapgaaGreatDoorJ14
import Derived.Test.YtbejdajkkoapgaaGreatDoorJ15
import Derived.Test.YtbejdajkkoapgaaGreatDoorJ10
/-
  Contracts of digest.Ends, Config, Nodes. Conditions: the digest is there.
-/
set_option linter.unusedVariables false
set_option linter.unusedSimpArgs false
set_option maxRecDepth 100000
namespace Go.Proofs.YtbejdajkkoapgaaGreatDoor
open Go.RowKit Go.Lib

theorem dig_ends (w : World) (db sb : Nat) (v : Value) (d F : Nat) (lo hi : Int) (l : Row) (h : DigO w db sb v d F lo hi l) :
    Calls Tryz.prog 251 #[.pointer (some ⟨db, 0, none⟩)] w fun e w' => Below w.heap.size w w' ∧ (e = .returned (.tuple #[.int .i64 0, .int .i64 0, .bool false]) ∨ e = .returned (.tuple #[.int .i64 lo, .int .i64 hi, .bool true])) := by
  obtain ⟨c0, c1, c2, c3, c4, c5, f3, f4, f5⟩ := h.cells
  have hs := dig_total w db sb v d F lo hi l h
  by_cases h0 : rowTotal l = 0
  · have g1 : (((rowTotal l : Nat) : Int) == 0) = true := by simp [h0]
    clear h0 h
    go_enter Tryz.func251, Tryz.ntmps251
    go_wp2_with (go_at_call 116; refine hs.mono ?_; rintro e w1 ⟨rfl, rfl⟩)
    go_ret3
    exact ⟨Below.refl _ _, .inl rfl⟩
  · have g1 : (((rowTotal l : Nat) : Int) == 0) = false := by simp [h0]
    clear h0 h
    go_enter Tryz.func251, Tryz.ntmps251
    go_wp2_with (go_at_call 116; refine hs.mono ?_; rintro e w1 ⟨rfl, rfl⟩)
    go_region
    all_goals (try go_wp2)
    all_goals go_ret3
    all_goals exact ⟨(Below.refl _ _).drew, .inr rfl⟩

theorem dig_config (w : World) (db sb : Nat) (v : Value) (d F : Nat) (lo hi : Int) (l : Row) (h : DigO w db sb v d F lo hi l) :
    Calls Tryz.prog 257 #[.pointer (some ⟨db, 0, none⟩)] w fun e w' => Below w.heap.size w w' ∧ e = .returned (.agg #[.int .i64 (d : Int), .int .i64 (F : Int)]) := by
  obtain ⟨c0, c1, c2, c3, c4, c5, f3, f4, f5⟩ := h.cells
  have hlt := h.blk.lt
  have hne : db ≠ w.heap.size := by omega
  clear h
  go_enter Tryz.func257, Tryz.ntmps257
  go_wp2
  refine bodyPost_ret (v := .agg #[.int .i64 (d : Int), .int .i64 (F : Int)]) (by simp [results, Tryz.results257, go_sem]) rfl ?_
  exact ⟨(Below.refl _ _).alloc (Nat.le_refl _) _, rfl⟩

theorem dig_nodes (w : World) (db sb : Nat) (v : Value) (d F : Nat) (lo hi : Int) (l : Row) (h : DigO w db sb v d F lo hi l) (hl : l.length ≤ 100000) :
    Calls Tryz.prog 258 #[.pointer (some ⟨db, 0, none⟩)] w fun e w' => ∃ u, e = .returned u ∧ w'.ownsRow w.heap.size 228 2 u l.length (rowC l) ∧ Below w.heap.size w w' := by
  obtain ⟨c0, c1, c2, c3, c4, c5, f3, f4, f5⟩ := h.cells
  have hp := pairs_any w sb v l h.strip (by omega)
  clear h
  go_enter Tryz.func258, Tryz.ntmps258
  go_wp2_with (go_at_call 177; refine hp.mono ?_; rintro e w1 ⟨u, rfl, o1, b1⟩)
  go_ret
  exact ⟨u, rfl, o1, b1⟩
end Go.Proofs.YtbejdajkkoapgaaGreatDoor

/-
  Contract of digest.Load: the digest whose row was given, or an error. Conditions: the row was a digest's own.
-/
set_option linter.unusedVariables false
set_option linter.unusedSimpArgs false
set_option maxRecDepth 100000
namespace Go.Proofs.YtbejdajkkoapgaaGreatDoor
open Go.RowKit Go.Lib

theorem addL_last (l : Row) (v c : Nat) (h : ∀ x ∈ l, x.1 < v) : addL l v c = l ++ [(v, c)] := by
  induction l with
  | nil => rfl
  | cons x l ih =>
    unfold addL
    rw [if_pos (h x (List.mem_cons_self ..)), ih fun y hy => h y (List.mem_cons_of_mem _ hy)]
    rfl
theorem take_add (l : Row) (q : Nat) (h : q < l.length) (hr : Rising l) : addL (l.take q) (ixAt l q) (ctAt l q) = l.take (q + 1) := by
  rw [addL_last _ _ _ fun x hx => ?_, List.take_succ_eq_append_getElem h, ixAt_get l q h, ctAt_get l q h]
  obtain ⟨i, hi, rfl⟩ := List.getElem_of_mem hx
  rw [List.length_take] at hi
  rw [List.getElem_take, ixAt_get l q h]
  exact rising_lt hr (by omega) h (by omega)

/-- what Load has made so far -/
structure LdC (w : World) (db sb : Nat) (v : Value) (d F : Nat) (lq : Row) (wr : World) : Prop where
  dig : DigO wr db sb v d F 0 0 lq
  new : ∀ g, v.ownBlock = some g → w.heap.size ≤ g
  below : Below w.heap.size w wr
  db : w.heap.size ≤ db
  sb : w.heap.size ≤ sb
theorem LdC.alloc {w : World} {db sb : Nat} {v : Value} {d F : Nat} {lq : Row} {wr : World} (h : LdC w db sb v d F lq wr) (o : Obj) : LdC w db sb v d F lq (wr.alloc o) :=
  ⟨h.dig.next ((Below.refl _ _).alloc (Nat.le_refl _) _), h.new, h.below.alloc h.below.size _, h.db, h.sb⟩
theorem LdC.drew {w : World} {db sb : Nat} {v : Value} {d F : Nat} {lq : Row} {wr : World} (h : LdC w db sb v d F lq wr) : LdC w db sb v d F lq wr.drew := ⟨h.dig.drew, h.new, h.below.drew, h.db, h.sb⟩
theorem LdC.next {w : World} {db sb : Nat} {v : Value} {d F : Nat} {lq : Row} {wr w2 : World} (h : LdC w db sb v d F lq wr) (b : Below wr.heap.size wr w2) : LdC w db sb v d F lq w2 :=
  ⟨h.dig.next b, h.new, h.below.trans (b.mono h.below.size), h.db, h.sb⟩
theorem LdC.add {w : World} {db sb : Nat} {v v' : Value} {d F : Nat} {lq l' : Row} {wr w2 : World} (h : LdC w db sb v d F lq wr) (s : StripO w2 sb v' l') (a : Away (fun k => k = sb ∨ v.ownBlock = some k) wr w2) (k : Kin wr v v') : LdC w db sb v' d F l' w2 := by
  obtain ⟨y1, y2, y3⟩ := h.dig.add s a k
  refine ⟨y1, fun g hg => ?_, h.below.trans (a.below h.below.size fun k hk e => ?_), h.db, h.sb⟩
  · rcases k with k | ⟨j, k1, k2⟩
    · exact h.new g (k ▸ hg)
    · rw [k1] at hg; cases hg; have := h.below.size; omega
  · rcases e with e | e
    · have := h.sb; omega
    · have := h.new k e; omega

/-- the made digest, and a pair of cells -/
structure LgC (w : World) (db sb : Nat) (v : Value) (d F : Nat) (lq : Row) (b : Nat) (u0 u1 : Value) (W : World) : Prop where
  ld : LdC w db sb v d F lq W
  blk : Blk W b #[u0, u1] 228
theorem LgC.next {w : World} {db sb : Nat} {v : Value} {d F : Nat} {lq : Row} {b : Nat} {u0 u1 : Value} {W W' : World} (h : LgC w db sb v d F lq b u0 u1 W) (hb : Below W.heap.size W W') : LgC w db sb v d F lq b u0 u1 W' := ⟨h.ld.next hb, h.blk.below hb h.blk.lt⟩
theorem LgC.drew {w : World} {db sb : Nat} {v : Value} {d F : Nat} {lq : Row} {b : Nat} {u0 u1 : Value} {W : World} (h : LgC w db sb v d F lq b u0 u1 W) : LgC w db sb v d F lq b u0 u1 W.drew := ⟨h.ld.drew, h.blk.drew⟩

set_option maxHeartbeats 8000000 in
theorem load_any (w : World) (cv : Value) (d F : Nat) (lo hi : Int) (l : Row) (h1 : 1 ≤ d) (h2 : d ≤ 24) (h3 : 1 ≤ F) (h4 : F ≤ 64) (hlo : I64 lo) (hhi : I64 hi)
    (hr : Rising l) (hf : Full l) (hn : Nodes d l) (hlen : l.length ≤ 3000) (htot : rowTotal l ≤ 900000) (ho : w.ownsRow 0 228 2 cv l.length (rowC l)) :
    Calls Tryz.prog 79 #[.agg #[.int .i64 (d : Int), .int .i64 (F : Int)], cv, .int .i64 lo, .int .i64 hi] w fun e w' => Below w.heap.size w w' ∧ ((∃ code, code ≠ 0 ∧ e = .returned (.tuple #[.pointer none, .int .i64 code])) ∨
      ∃ db sb v, e = .returned (.tuple #[.pointer (some ⟨db, 0, none⟩), .int .i64 0]) ∧ DigO w' db sb v d F lo hi l ∧ w.heap.size ≤ db ∧ w.heap.size ≤ sb ∧ ∀ g, v.ownBlock = some g → w.heap.size ≤ g) := by
  obtain ⟨Ac, cc, hcv⟩ := owns_slice ho
  subst hcv
  obtain ⟨m, hm⟩ : ∃ m, m = l.length := ⟨_, rfl⟩
  have HM := Lib.hid hm
  rw [← hm] at hlen ho ⊢
  clear hm
  have HH := Lib.hid (And.intro hr (And.intro hf hn))
  have hnew := fun W => dig_new d F W h1 h2 h3 h4
  clear hr hf hn
  go_enter Tryz.func79, Tryz.ntmps79
  go_wp2_with fail
  refine (hnew _).mono ?_
  rintro e w1 ⟨db, sb, rfl, D1, hdb, hsb, b1⟩
  have B1 : Below w.heap.size w w1 := ((Below.refl _ w).alloc (Nat.le_refl _) (.cells #[.int .i64 (d : Int), .int .i64 (F : Int)] 51)).trans (b1.mono (by simp))
  have L1 : LdC w db sb (.slice none 0 0) d F [] w1 := ⟨D1, fun g hg => by simp [Value.ownBlock] at hg, B1, by simp at hdb; omega, by simp at hsb; omega⟩
  clear hnew D1 hdb hsb b1 B1
  go_wp2_with fail
  go_loopg [12, 14, 31] m (fun g la _ i wr => ∃ (q last : Nat) (v : Value), i = .int .i64 (q : Int) ∧ la = .int .i64 (last : Int) ∧ q ≤ m ∧ m - q ≤ g ∧ (q = 0 ∧ last = 0 ∨ 1 ≤ q ∧ last = ixAt l (q - 1)) ∧ LdC w db sb v d F (l.take q) wr)
  case atStart => exact ⟨0, 0, _, rfl, rfl, Nat.zero_le _, Nat.le_refl _, .inl ⟨rfl, rfl⟩, by simpa using L1⟩
  case round =>
    clear L1
    obtain ⟨q, last, v, rfl, rfl, hq, hg, hla, S⟩ := hrel
    by_cases hql : q < m
    · have hqn : q < l.length := by rw [← HM.out]; exact hql
      have g1 : (q : Int) < (m : Int) := by omega
      rcases owns_shape ho with ⟨h0, hn0, _⟩ | ⟨g, cap, hv, _, _, _, hgl⟩
      · omega
      simp only [Value.slice.injEq, true_and] at hv
      obtain ⟨rfl, rfl⟩ := hv
      obtain ⟨cur, hcur⟩ := owns_blk ho rfl
      have hcl : Blk wr g cur 228 := hcur.below S.below hgl
      obtain ⟨c0, c1⟩ := row_cell (by rw [HM.out] at ho; exact ho) hcur hcl q hqn
      have hix := HH.out.2.2 _ (List.getElem_mem hqn)
      have hct := HH.out.2.1 _ (List.getElem_mem hqn)
      rw [← ixAt_get l q hqn] at hix
      rw [← ctAt_get l q hqn] at hct
      have hlx : last < ixAt l q := by
        rcases hla with ⟨_, h⟩ | ⟨h, h'⟩
        · omega
        · rw [h', ixAt_get l (q - 1) (by omega), ixAt_get l q hqn]; exact rising_lt HH.out.1 (by omega) hqn (by omega)
      have htk := take_add l q hqn HH.out.1
      have htt : rowTotal (l.take q) + ctAt l q ≤ rowTotal l := by
        have e1 : rowTotal (l.take (q + 1)) = rowTotal (l.take q) + ctAt l q := by rw [← htk, rowTotal_add]
        have := rowTotal_take_le l (q + 1)
        omega
      have hgood := fun W => Tr.good_any (d : Int) (ixAt l q : Int) W (by omega) (by omega)
      rw [goodN d _ hix.1 hix.2] at hgood
      have hadd := fun W v (k : StripO W sb v (l.take q)) => strip_add W sb v (l.take q) (ixAt l q) (ctAt l q) k hct (by omega) (by rw [List.length_take]; omega)
      rw [htk] at hadd
      have HT := Lib.hid (And.intro hlx htk)
      obtain ⟨X, hX⟩ : ∃ X, X = ixAt l q := ⟨_, rfl⟩
      obtain ⟨C, hC⟩ : ∃ C, C = ctAt l q := ⟨_, rfl⟩
      rw [← hX] at hgood hadd c0 hlx
      rw [← hC] at hadd c1
      have HX := Lib.hid hX
      clear hX hC htk htt hix hct
      have f1 : decide ((X : Int) ≤ (last : Int)) = false := by simp; omega
      have f2 : decide (X ≤ last) = false := by simp; omega
      have f3 : ¬ X ≤ last := by omega
      have SX := S.alloc (.cells #[.int .i64 (X : Int), .int .u64 (C : Int)] 228)
      have PB : Blk (wr.alloc (.cells #[.int .i64 (X : Int), .int .u64 (C : Int)] 228)) wr.heap.size #[.int .i64 (X : Int), .int .u64 (C : Int)] 228 := Blk.newAt rfl
      have G : LgC w db sb v d F (l.take q) wr.heap.size (.int .i64 (X : Int)) (.int .u64 (C : Int)) (wr.alloc (.cells #[.int .i64 (X : Int), .int .u64 (C : Int)] 228)) := ⟨SX, PB⟩
      have hps1 : wr.heap.size ≠ sb := by have := S.dig.strip.blk.lt; omega
      have hps2 : ∀ g, v.ownBlock = some g → wr.heap.size ≠ g := fun g hg => by have := (S.dig.strip.own.lt g hg).2; omega
      clear hla hcl hlx
      go_upto_region 8 with fail
      generalize wr.heap.size = pb at G hps1 hps2 ⊢
      generalize wr.alloc (.cells #[.int .i64 (X : Int), .int .u64 (C : Int)] 228) = W1 at G ⊢
      clear SX PB c0 c1
      refine wp_region_quiet_tail 23 (C := LgC w db sb v d F (l.take q) pb (.int .i64 (X : Int)) (.int .u64 (C : Int))) (by kernel_rfl) (by kernel_rfl) G.drew ?_
      simp only [List.take_succ_cons, List.take_zero, List.drop_succ_cons, List.drop_zero]
      repeat (first | go_big_quiet_skip | (go_big_quiet_want; go_big_quiet_op; first | go_big_quiet_on | (refine quiet_const ?_; go_big_quiet_on)))
      go_big_quiet_want
      refine ⟨.int .i64 (X : Int), fun wx hx => ?_, ?_⟩
      · have q0 : wx.cell? ⟨pb, 0, none⟩ = some (.int .i64 (X : Int)) := hx.blk.cell rfl
        go_simp
      go_big_quiet_on
      simp only [Act.put, List.setIfInBounds_toArray, List.set_cons_zero, List.set_cons_succ]
      repeat (first | go_big_quiet_skip | (go_big_quiet_want; go_big_quiet_op; first | go_big_quiet_on | (refine quiet_const ?_; go_big_quiet_on)))
      go_big_quiet_want
      refine ⟨.agg #[.int .i64 (d : Int)], fun wx hx => ?_, ?_⟩
      · obtain ⟨k0, k1, k2, k3, k4, k5, m3, m4, m5⟩ := hx.ld.dig.cells
        go_simp
      go_big_quiet_on
      simp only [Act.put, List.setIfInBounds_toArray, List.set_cons_zero, List.set_cons_succ]
      repeat (first | go_big_quiet_skip | (go_big_quiet_want; go_big_quiet_op; first | go_big_quiet_on | (refine quiet_const ?_; go_big_quiet_on)))
      go_big_quiet_want
      refine ⟨.int .i64 (X : Int), fun wx hx => ?_, ?_⟩
      · have q0 : wx.cell? ⟨pb, 0, none⟩ = some (.int .i64 (X : Int)) := hx.blk.cell rfl
        go_simp
      go_big_quiet_on
      simp only [Act.put, List.setIfInBounds_toArray, List.set_cons_zero, List.set_cons_succ]
      repeat (first | go_big_quiet_skip | (go_big_quiet_want; go_big_quiet_op; first | go_big_quiet_on | (refine quiet_const ?_; go_big_quiet_on)))
      go_big_quiet_want
      go_big_quiet_op
      refine ⟨.bool true, fun wx hx => ?_, ?_⟩
      · exact (hgood wx).mono fun _ _ hm => ⟨hm.1, hx.next hm.2⟩
      go_big_quiet_on
      repeat (first | go_big_quiet_skip | (go_big_quiet_want; go_big_quiet_op; first | go_big_quiet_on | (refine quiet_const ?_; go_big_quiet_on)))
      go_big_quiet_want
      refine ⟨.pointer (some ⟨sb, 0, none⟩), fun wx hx => ?_, ?_⟩
      · obtain ⟨k0, k1, k2, k3, k4, k5, m3, m4, m5⟩ := hx.ld.dig.cells
        go_simp
      go_big_quiet_on
      simp only [Act.put, List.setIfInBounds_toArray, List.set_cons_zero, List.set_cons_succ]
      repeat (first | go_big_quiet_skip | (go_big_quiet_want; go_big_quiet_op; first | go_big_quiet_on | (refine quiet_const ?_; go_big_quiet_on)))
      go_big_quiet_want
      refine ⟨.int .i64 (X : Int), fun wx hx => ?_, ?_⟩
      · have q0 : wx.cell? ⟨pb, 0, none⟩ = some (.int .i64 (X : Int)) := hx.blk.cell rfl
        go_simp
      go_big_quiet_on
      simp only [Act.put, List.setIfInBounds_toArray, List.set_cons_zero, List.set_cons_succ]
      repeat (first | go_big_quiet_skip | (go_big_quiet_want; go_big_quiet_op; first | go_big_quiet_on | (refine quiet_const ?_; go_big_quiet_on)))
      go_big_quiet_want
      refine ⟨.int .u64 (C : Int), fun wx hx => ?_, ?_⟩
      · have q1 : wx.cell? ⟨pb, 1, none⟩ = some (.int .u64 (C : Int)) := hx.blk.cell rfl
        go_simp
      go_big_quiet_on
      simp only [Act.put, List.setIfInBounds_toArray, List.set_cons_zero, List.set_cons_succ]
      repeat (first | go_big_quiet_skip | (go_big_quiet_want; go_big_quiet_op; first | go_big_quiet_on | (refine quiet_const ?_; go_big_quiet_on)))
      refine wpQuiet_nil ?_
      intro w2 G2
      go_wp2_with (go_at_call 93; refine (hadd _ _ G2.ld.dig.strip).mono ?_; rintro e w5 ⟨rfl, v5, s5', a5, x5⟩; have S5 := G2.ld.add s5' a5 x5; have P5 := G2.blk.away a5 (by rintro (e | e); exact hps1 e; exact hps2 _ e rfl); have t0 : w5.cell? ⟨pb, 0, none⟩ = some (.int .i64 (X : Int)) := P5.cell rfl)
      go_roundg (m - (q + 1))
      case measure => omega
      exact ⟨q + 1, X, v5, by go_num, rfl, by omega, by omega, .inr ⟨by omega, by rw [HX.out, Nat.add_sub_cancel]⟩, S5⟩
    · have hqe : q = m := by omega
      have hLT : ¬ (q : Int) < (m : Int) := by omega
      have htk : l.take q = l := by rw [hqe, HM.out, List.take_length]
      rw [htk] at S
      subst hqe
      clear htk hla hql
      have hleaves := fun W => Tr.leaves_any (d : Int) W (by omega) (by omega)
      obtain ⟨T, hT⟩ : ∃ T, T = rowTotal l / F := ⟨_, rfl⟩
      have hlimit := fun W (k : DigO W db sb v d F 0 0 l) => dig_limit W db sb v d F 0 0 l k h3 h4 (by omega)
      rw [← hT] at hlimit
      clear hT
      go_wp2_with fail
      go_loopg [16, 66] q (fun g _ i wr => ∃ (k : Nat), i = .int .i64 (k : Int) ∧ k ≤ q ∧ q - k ≤ g ∧ LdC w db sb v d F l wr)
      case atStart => exact ⟨0, rfl, Nat.zero_le _, Nat.le_refl _, S⟩
      case round =>
        clear S
        obtain ⟨k, rfl, hk, hg2, S⟩ := hrel
        by_cases hkl : k < q
        · have hqn : k < l.length := by rw [← HM.out]; exact hkl
          have g1 : (k : Int) < (q : Int) := by omega
          rcases owns_shape ho with ⟨h0, hn0, _⟩ | ⟨g, cap, hv, _, _, _, hgl⟩
          · omega
          simp only [Value.slice.injEq, true_and] at hv
          obtain ⟨rfl, rfl⟩ := hv
          obtain ⟨cur, hcur⟩ := owns_blk ho rfl
          have hcl : Blk wr g cur 228 := hcur.below S.below hgl
          obtain ⟨c0, c1⟩ := row_cell (by rw [HM.out] at ho; exact ho) hcur hcl k hqn
          generalize ixAt l k = X at *
          generalize ctAt l k = C at *
          have G : LgC w db sb v d F l wr.heap.size (.int .i64 (X : Int)) (.int .u64 (C : Int)) (wr.alloc (.cells #[.int .i64 (X : Int), .int .u64 (C : Int)] 228)) := ⟨S.alloc _, Blk.newAt rfl⟩
          clear hcl
          by_cases e1 : (X : Int) < Tr.pw (d : Int)
          · have f1 : decide ((X : Int) < Tr.pw (d : Int)) = true := by simp; omega
            go_upto_region 15 with fail
            generalize wr.heap.size = pb at G ⊢
            generalize wr.alloc (.cells #[.int .i64 (X : Int), .int .u64 (C : Int)] 228) = W1 at G ⊢
            clear S c0 c1
            refine wp_region_quiet_litC (C := LgC w db sb v d F l pb (.int .i64 (X : Int)) (.int .u64 (C : Int))) (by kernel_rfl) (by kernel_rfl) G.drew ?_
            repeat (first | go_big_quiet_skip | (go_big_quiet_want; go_big_quiet_op; first | go_big_quiet_on | (refine quiet_const ?_; go_big_quiet_on)))
            go_big_quiet_want
            refine ⟨.int .i64 (X : Int), fun wx hx => ?_, ?_⟩
            · have q0 : wx.cell? ⟨pb, 0, none⟩ = some (.int .i64 (X : Int)) := hx.blk.cell rfl
              go_simp
            go_big_quiet_on
            simp only [Act.put, List.setIfInBounds_toArray, List.set_cons_zero, List.set_cons_succ]
            repeat (first | go_big_quiet_skip | (go_big_quiet_want; go_big_quiet_op; first | go_big_quiet_on | (refine quiet_const ?_; go_big_quiet_on)))
            go_big_quiet_want
            refine ⟨.agg #[.int .i64 (d : Int)], fun wx hx => ?_, ?_⟩
            · obtain ⟨k0, k1, k2, k3, k4, k5, m3, m4, m5⟩ := hx.ld.dig.cells
              go_simp
            go_big_quiet_on
            simp only [Act.put, List.setIfInBounds_toArray, List.set_cons_zero, List.set_cons_succ]
            repeat (first | go_big_quiet_skip | (go_big_quiet_want; go_big_quiet_op; first | go_big_quiet_on | (refine quiet_const ?_; go_big_quiet_on)))
            go_big_quiet_want
            go_big_quiet_op
            refine ⟨.int .i64 (Tr.pw (d : Int)), fun wx hx => ?_, ?_⟩
            · exact (hleaves wx).mono fun _ _ hm => ⟨hm.1, hx.next hm.2⟩
            go_big_quiet_on
            repeat (first | go_big_quiet_skip | (go_big_quiet_want; go_big_quiet_op; first | go_big_quiet_on | (refine quiet_const ?_; go_big_quiet_on)))
            go_big_quiet_want
            refine ⟨.int .u64 (C : Int), fun wx hx => ?_, ?_⟩
            · have q1 : wx.cell? ⟨pb, 1, none⟩ = some (.int .u64 (C : Int)) := hx.blk.cell rfl
              go_simp
            go_big_quiet_on
            simp only [Act.put, List.setIfInBounds_toArray, List.set_cons_zero, List.set_cons_succ]
            repeat (first | go_big_quiet_skip | (go_big_quiet_want; go_big_quiet_op; first | go_big_quiet_on | (refine quiet_const ?_; go_big_quiet_on)))
            go_big_quiet_want
            go_big_quiet_op
            refine ⟨.int .u64 (T : Nat), fun wx hx => ?_, ?_⟩
            · exact (hlimit wx hx.ld.dig).mono fun _ _ hm => ⟨hm.1, hx.next hm.2⟩
            go_big_quiet_on
            repeat (first | go_big_quiet_skip | (go_big_quiet_want; go_big_quiet_op; first | go_big_quiet_on | (refine quiet_const ?_; go_big_quiet_on)))
            refine wpQuiet_nil ?_
            intro w2 G2
            have S2 := G2.ld
            by_cases e2 : (T : Int) < (C : Int)
            · have f2 : decide ((T : Int) < (C : Int)) = true := by simp; omega
              have f3 : T < C := by omega
              clear hleaves hlimit
              go_wp2_with fail
              go_ret2
              exact ⟨S2.below, .inl ⟨1, by decide, rfl⟩⟩
            · have f2 : decide ((T : Int) < (C : Int)) = false := by simp; omega
              have f3 : ¬ T < C := by omega
              go_wp2_with fail
              go_roundg (q - (k + 1))
              case measure => omega
              exact ⟨k + 1, by go_num, by omega, by omega, S2⟩
          · have f1 : decide ((X : Int) < Tr.pw (d : Int)) = false := by simp; omega
            go_upto_region 15 with fail
            generalize wr.heap.size = pb at G ⊢
            generalize wr.alloc (.cells #[.int .i64 (X : Int), .int .u64 (C : Int)] 228) = W1 at G ⊢
            clear S c0 c1
            refine wp_region_quiet_litC (C := LgC w db sb v d F l pb (.int .i64 (X : Int)) (.int .u64 (C : Int))) (by kernel_rfl) (by kernel_rfl) G.drew ?_
            repeat (first | go_big_quiet_skip | (go_big_quiet_want; go_big_quiet_op; first | go_big_quiet_on | (refine quiet_const ?_; go_big_quiet_on)))
            go_big_quiet_want
            refine ⟨.int .i64 (X : Int), fun wx hx => ?_, ?_⟩
            · have q0 : wx.cell? ⟨pb, 0, none⟩ = some (.int .i64 (X : Int)) := hx.blk.cell rfl
              go_simp
            go_big_quiet_on
            simp only [Act.put, List.setIfInBounds_toArray, List.set_cons_zero, List.set_cons_succ]
            repeat (first | go_big_quiet_skip | (go_big_quiet_want; go_big_quiet_op; first | go_big_quiet_on | (refine quiet_const ?_; go_big_quiet_on)))
            go_big_quiet_want
            refine ⟨.agg #[.int .i64 (d : Int)], fun wx hx => ?_, ?_⟩
            · obtain ⟨k0, k1, k2, k3, k4, k5, m3, m4, m5⟩ := hx.ld.dig.cells
              go_simp
            go_big_quiet_on
            simp only [Act.put, List.setIfInBounds_toArray, List.set_cons_zero, List.set_cons_succ]
            repeat (first | go_big_quiet_skip | (go_big_quiet_want; go_big_quiet_op; first | go_big_quiet_on | (refine quiet_const ?_; go_big_quiet_on)))
            go_big_quiet_want
            go_big_quiet_op
            refine ⟨.int .i64 (Tr.pw (d : Int)), fun wx hx => ?_, ?_⟩
            · exact (hleaves wx).mono fun _ _ hm => ⟨hm.1, hx.next hm.2⟩
            go_big_quiet_on
            repeat (first | go_big_quiet_skip | (go_big_quiet_want; go_big_quiet_op; first | go_big_quiet_on | (refine quiet_const ?_; go_big_quiet_on)))
            refine wpQuiet_nil ?_
            intro w2 G2
            have S2 := G2.ld
            go_wp2_with fail
            go_roundg (q - (k + 1))
            case measure => omega
            exact ⟨k + 1, by go_num, by omega, by omega, S2⟩
        · have hke : k = q := by omega
          have hLT : ¬ (k : Int) < (q : Int) := by omega
          subst hke
          clear hleaves hlimit hkl
          have hl1 := fun W => Tr.leaf_any (d : Int) lo W (by omega) (by omega) hlo.2
          have hl2 := fun W => Tr.leaf_any (d : Int) hi W (by omega) (by omega) hhi.2
          generalize Tr.leafB (d : Int) lo = y1 at hl1
          generalize Tr.leafB (d : Int) hi = y2 at hl2
          generalize Tr.leafV (d : Int) lo = z1 at hl1
          generalize Tr.leafV (d : Int) hi = z2 at hl2
          have hmo := fun W (k : DigO W db sb v d F 0 0 l) => dig_most W db sb v d F 0 0 l k h4
          obtain ⟨k0, k1, k2, k3, k4, k5, m3, m4, m5⟩ := S.dig.cells
          go_wp2_with fail
          refine (hl1 _).mono ?_
          rintro e w3 ⟨rfl, b3⟩
          have S3 := S.next b3
          clear hl1 S k0 k1 k2 k3 k4 k5 m3 m4 m5 b3
          obtain ⟨k0, k1, k2, k3, k4, k5, m3, m4, m5⟩ := S3.dig.cells
          go_wp2_with fail
          refine (hl2 _).mono ?_
          rintro e w4 ⟨rfl, b4⟩
          have S4 := S3.next b4
          clear hl2 S3 k0 k1 k2 k3 k4 k5 m3 m4 m5 b4
          obtain ⟨k0, k1, k2, k3, k4, k5, m3, m4, m5⟩ := S4.dig.cells
          go_wp2_with fail
          refine (hmo _ S4.dig).mono ?_
          rintro e w5 ⟨rfl, rfl⟩
          clear hmo
          have HL := Lib.hid S4
          have HE := Lib.hid (show DigO ((w4.setCell ⟨db, 4, none⟩ (.int .i64 lo)).setCell ⟨db, 5, none⟩ (.int .i64 hi)) db sb v d F lo hi l ∧ Below w.heap.size w ((w4.setCell ⟨db, 4, none⟩ (.int .i64 lo)).setCell ⟨db, 5, none⟩ (.int .i64 hi)) from ⟨S4.dig.ends lo hi, (S4.below.setCell S4.db _).setCell S4.db _⟩)
          clear S4
          obtain ⟨M, hM⟩ : ∃ M, M = 4 * F := ⟨_, rfl⟩
          rw [← hM]
          clear hM
          by_cases e1 : M < k
          · have f1 : (M : Int) < (k : Int) := by omega
            go_wp2_with fail
            go_ret2
            exact ⟨HL.out.below, .inl ⟨1, by decide, rfl⟩⟩
          · have f1 : ¬ (M : Int) < (k : Int) := by omega
            by_cases e2 : hi < lo
            · go_wp2_with fail
              go_ret2
              exact ⟨HL.out.below, .inl ⟨1, by decide, rfl⟩⟩
            · cases y1
              · go_wp2_with fail
                go_ret2
                exact ⟨HL.out.below, .inl ⟨1, by decide, rfl⟩⟩
              · cases y2
                · go_wp2_with fail
                  go_ret2
                  exact ⟨HL.out.below, .inl ⟨1, by decide, rfl⟩⟩
                · by_cases e3 : k = 0
                  · have f3 : ((k : Int) == 0) = true := by simp [e3]
                    by_cases e4 : hi = 0
                    · have f4 : (hi != 0) = false := by simp [e4]
                      clear e4 e3
                      go_wp2_with fail
                      go_ret2
                      refine ⟨HE.out.2, .inr ⟨db, sb, v, rfl, HE.out.1, HL.out.db, HL.out.sb, HL.out.new⟩⟩
                    · have f4 : (hi != 0) = true := by simp [e4]
                      go_wp2_with fail
                      go_ret2
                      exact ⟨HL.out.below, .inl ⟨1, by decide, rfl⟩⟩
                  · have f3 : ((k : Int) == 0) = false := by simp [e3]
                    go_wp2_with fail
                    go_ret2
                    refine ⟨HE.out.2, .inr ⟨db, sb, v, rfl, HE.out.1, HL.out.db, HL.out.sb, HL.out.new⟩⟩
end Go.Proofs.YtbejdajkkoapgaaGreatDoor

/-
  Contracts of suite.bare, fresh, New where the kind is the digest's. Conditions: none.
-/
set_option linter.unusedVariables false
set_option linter.unusedSimpArgs false
set_option maxRecDepth 100000
namespace Go.Proofs.YtbejdajkkoapgaaGreatDoor
open Go.RowKit Go.Lib

/-- a config of the digest's kind, as cells -/
def cfgC (a1 a2 a3 a4 a5 a6 a7 a8 a9 a10 : Int) : Array Value := #[.int .i64 3, .int .u64 a1, .int .u64 a2, .int .i64 a3, .int .i64 a4, .int .i64 a5, .int .u64 a6, .int .i64 a7, .int .i64 a8, .int .i64 a9, .int .u64 a10]

theorem bare_any (w : World) (a1 a2 a3 a4 a5 a6 a7 a8 a9 a10 : Int) :
    Calls Tryz.prog 29 #[.agg #[.int .i64 3, .int .u64 a1, .int .u64 a2, .int .i64 a3, .int .i64 a4, .int .i64 a5, .int .u64 a6, .int .i64 a7, .int .i64 a8, .int .i64 a9, .int .u64 a10]] w fun e w' => e = .returned (.agg (cfgC 0 0 0 0 0 0 a7 a8 0 0)) ∧ Below w.heap.size w w' := by
  go_enter Tryz.func29, Tryz.ntmps29
  go_wp2
  go_region
  all_goals (try go_wp2)
  all_goals (
    refine bodyPost_ret (v := .agg (cfgC 0 0 0 0 0 0 a7 a8 0 0)) (by simp [results, Tryz.results29, go_sem, cfgC]) rfl ?_
    exact ⟨rfl, ((((Below.refl _ w).alloc (Nat.le_refl _) _).alloc (by simp) _).alloc (by simp; omega) _).drew⟩)

theorem fresh_bad (w : World) (a1 a2 a3 a4 a5 a6 a7 a8 a9 a10 : Int) (h : ¬ (1 ≤ a7 ∧ a7 ≤ 24 ∧ 1 ≤ a8 ∧ a8 ≤ 64)) :
    Calls Tryz.prog 30 #[.agg #[.int .i64 3, .int .u64 a1, .int .u64 a2, .int .i64 a3, .int .i64 a4, .int .i64 a5, .int .u64 a6, .int .i64 a7, .int .i64 a8, .int .i64 a9, .int .u64 a10]] w fun e w' => (∃ v, e = .returned (.tuple #[v, .int .i64 1])) ∧ Below w.heap.size w w' := by
  have hn := fun W => dig_new_bad a7 a8 W h
  clear h
  go_enter Tryz.func30, Tryz.ntmps30
  go_wp2_with (go_at_call 15; refine (hn _).mono ?_; rintro e w1 ⟨rfl, b1⟩)
  go_ret2
  exact ⟨⟨_, rfl⟩, ((Below.refl _ w).alloc (Nat.le_refl _) _).trans (b1.mono (by simp))⟩

theorem fresh_good (w : World) (a1 a2 a3 a4 a5 a6 a9 a10 : Int) (d F : Nat) (h1 : 1 ≤ d) (h2 : d ≤ 24) (h3 : 1 ≤ F) (h4 : F ≤ 64) :
    Calls Tryz.prog 30 #[.agg #[.int .i64 3, .int .u64 a1, .int .u64 a2, .int .i64 a3, .int .i64 a4, .int .i64 a5, .int .u64 a6, .int .i64 (d : Int), .int .i64 (F : Int), .int .i64 a9, .int .u64 a10]] w fun e w' => ∃ db sb,
      e = .returned (.tuple #[.iface 131 (.agg #[.pointer (some ⟨db, 0, none⟩)]), .int .i64 0]) ∧ DigO w' db sb (.slice none 0 0) d F 0 0 [] ∧
      w.heap.size ≤ db ∧ w.heap.size ≤ sb ∧ Below w.heap.size w w' := by
  have hn := fun W => dig_new d F W h1 h2 h3 h4
  clear h1 h2 h3 h4
  go_enter Tryz.func30, Tryz.ntmps30
  go_wp2_with (go_at_call 15; refine (hn _).mono ?_; rintro e w1 ⟨db, sb, rfl, D1, hdb, hsb, b1⟩)
  go_ret2
  exact ⟨db, sb, rfl, D1, by simp at hdb; omega, by simp at hsb; omega, ((Below.refl _ w).alloc (Nat.le_refl _) _).trans (b1.mono (by simp))⟩

/-- a config in memory -/
structure CfC (w : World) (b : Nat) (a1 a2 a3 a4 a5 a6 a7 a8 a9 a10 : Int) (W : World) : Prop where
  blk : Blk W b (cfgC a1 a2 a3 a4 a5 a6 a7 a8 a9 a10) 28
  below : Below w.heap.size w W
theorem CfC.next {w : World} {b : Nat} {a1 a2 a3 a4 a5 a6 a7 a8 a9 a10 : Int} {W W' : World} (h : CfC w b a1 a2 a3 a4 a5 a6 a7 a8 a9 a10 W) (hb : Below W.heap.size W W') : CfC w b a1 a2 a3 a4 a5 a6 a7 a8 a9 a10 W' := ⟨h.blk.below hb h.blk.lt, h.below.trans (hb.mono h.below.size)⟩
theorem CfC.drew {w : World} {b : Nat} {a1 a2 a3 a4 a5 a6 a7 a8 a9 a10 : Int} {W : World} (h : CfC w b a1 a2 a3 a4 a5 a6 a7 a8 a9 a10 W) : CfC w b a1 a2 a3 a4 a5 a6 a7 a8 a9 a10 W.drew := ⟨h.blk.drew, h.below.drew⟩
theorem CfC.cells {w : World} {b : Nat} {a1 a2 a3 a4 a5 a6 a7 a8 a9 a10 : Int} {W : World} (h : CfC w b a1 a2 a3 a4 a5 a6 a7 a8 a9 a10 W) : W.cell? ⟨b, 0, none⟩ = some (.int .i64 3) ∧ W.cell? ⟨b, 1, none⟩ = some (.int .u64 a1) ∧ W.cell? ⟨b, 2, none⟩ = some (.int .u64 a2) ∧ W.cell? ⟨b, 3, none⟩ = some (.int .i64 a3) ∧ W.cell? ⟨b, 4, none⟩ = some (.int .i64 a4) ∧ W.cell? ⟨b, 5, none⟩ = some (.int .i64 a5) ∧
    W.cell? ⟨b, 6, none⟩ = some (.int .u64 a6) ∧ W.cell? ⟨b, 7, none⟩ = some (.int .i64 a7) ∧ W.cell? ⟨b, 8, none⟩ = some (.int .i64 a8) ∧ W.cell? ⟨b, 9, none⟩ = some (.int .i64 a9) ∧ W.cell? ⟨b, 10, none⟩ = some (.int .u64 a10) :=
  ⟨h.blk.cell rfl, h.blk.cell rfl, h.blk.cell rfl, h.blk.cell rfl, h.blk.cell rfl, h.blk.cell rfl, h.blk.cell rfl, h.blk.cell rfl, h.blk.cell rfl, h.blk.cell rfl, h.blk.cell rfl⟩

/-- a sketch of the digest's kind -/
def skC (d F db : Nat) : Array Value := #[.int .i64 3, .int .u64 0, .int .u64 0, .int .i64 0, .int .i64 0, .int .i64 0, .int .u64 0, .int .i64 (d : Int), .int .i64 (F : Int), .int .i64 0, .int .u64 0, .iface 131 (.agg #[.pointer (some ⟨db, 0, none⟩)])]
structure SkO (w : World) (kb db sb : Nat) (v : Value) (d F : Nat) (lo hi : Int) (l : Row) : Prop where
  blk : Blk w kb (skC d F db) 76
  dig : DigO w db sb v d F lo hi l

theorem new_any (w : World) (a1 a2 a3 a4 a5 a6 a7 a8 a9 a10 : Int) :
    Calls Tryz.prog 17 #[.agg #[.int .i64 3, .int .u64 a1, .int .u64 a2, .int .i64 a3, .int .i64 a4, .int .i64 a5, .int .u64 a6, .int .i64 a7, .int .i64 a8, .int .i64 a9, .int .u64 a10]] w fun e w' => Below w.heap.size w w' ∧
      ((∃ code, code ≠ 0 ∧ e = .returned (.tuple #[.pointer none, .int .i64 code])) ∨ ∃ (d F kb db sb : Nat), a7 = (d : Int) ∧ a8 = (F : Int) ∧ 1 ≤ d ∧ d ≤ 24 ∧ 1 ≤ F ∧ F ≤ 64 ∧ e = .returned (.tuple #[.pointer (some ⟨kb, 0, none⟩), .int .i64 0]) ∧
        SkO w' kb db sb (.slice none 0 0) d F 0 0 [] ∧ w.heap.size ≤ kb ∧ w.heap.size ≤ db ∧ w.heap.size ≤ sb) := by
  have H : CfC w w.heap.size a1 a2 a3 a4 a5 a6 a7 a8 a9 a10 (w.alloc (.cells (cfgC a1 a2 a3 a4 a5 a6 a7 a8 a9 a10) 28)) := ⟨Blk.newAt rfl, (Below.refl _ _).alloc (Nat.le_refl _) _⟩
  have hne := fun W => neq28 W 3 a1 a2 a3 a4 a5 a6 a7 a8 a9 a10 3 0 0 0 0 0 0 a7 a8 0 0
  obtain ⟨sm, hsm⟩ : ∃ b, b = sameB 3 a1 a2 a3 a4 a5 a6 a7 a8 a9 a10 3 0 0 0 0 0 0 a7 a8 0 0 := ⟨_, rfl⟩
  have HS := Lib.hid hsm
  rw [← hsm] at hne
  clear hsm
  go_enter Tryz.func17, Tryz.ntmps17
  go_upto_region 1 with fail
  refine wp_region_quiet_litC (C := CfC w w.heap.size a1 a2 a3 a4 a5 a6 a7 a8 a9 a10) (by kernel_rfl) (by kernel_rfl) H.drew ?_
  repeat (first | go_big_quiet_skip | (go_big_quiet_want; go_big_quiet_op; first | go_big_quiet_on | (refine quiet_const ?_; go_big_quiet_on)))
  go_big_quiet_want
  refine ⟨.agg #[.int .i64 3, .int .u64 a1, .int .u64 a2, .int .i64 a3, .int .i64 a4, .int .i64 a5, .int .u64 a6, .int .i64 a7, .int .i64 a8, .int .i64 a9, .int .u64 a10], fun wx hx => ?_, ?_⟩
  · obtain ⟨k0, k1, k2, k3, k4, k5, k6, k7, k8, k9, k10⟩ := hx.cells
    go_simp
  go_big_quiet_on
  simp only [Act.put, List.setIfInBounds_toArray, List.set_cons_zero, List.set_cons_succ]
  repeat (first | go_big_quiet_skip | (go_big_quiet_want; go_big_quiet_op; first | go_big_quiet_on | (refine quiet_const ?_; go_big_quiet_on)))
  go_big_quiet_want
  refine ⟨.agg #[.int .i64 3, .int .u64 a1, .int .u64 a2, .int .i64 a3, .int .i64 a4, .int .i64 a5, .int .u64 a6, .int .i64 a7, .int .i64 a8, .int .i64 a9, .int .u64 a10], fun wx hx => ?_, ?_⟩
  · obtain ⟨k0, k1, k2, k3, k4, k5, k6, k7, k8, k9, k10⟩ := hx.cells
    go_simp
  go_big_quiet_on
  simp only [Act.put, List.setIfInBounds_toArray, List.set_cons_zero, List.set_cons_succ]
  repeat (first | go_big_quiet_skip | (go_big_quiet_want; go_big_quiet_op; first | go_big_quiet_on | (refine quiet_const ?_; go_big_quiet_on)))
  go_big_quiet_want
  go_big_quiet_op
  refine ⟨.agg #[.int .i64 3, .int .u64 0, .int .u64 0, .int .i64 0, .int .i64 0, .int .i64 0, .int .u64 0, .int .i64 a7, .int .i64 a8, .int .i64 0, .int .u64 0], fun wx hx => ?_, ?_⟩
  · exact (bare_any wx a1 a2 a3 a4 a5 a6 a7 a8 a9 a10).mono fun _ _ hm => ⟨hm.1, hx.next hm.2⟩
  go_big_quiet_on
  repeat (first | go_big_quiet_skip | (go_big_quiet_want; go_big_quiet_op; first | go_big_quiet_on | (refine quiet_const ?_; go_big_quiet_on)))
  refine wpQuiet_nil ?_
  intro W1 H1
  clear hne
  have hlt := H1.below.size
  cases sm with
  | false =>
    go_wp2_with fail
    go_ret2
    exact ⟨H1.below, .inl ⟨1, by decide, rfl⟩⟩
  | true =>
    have e := HS.out
    unfold sameB at e
    simp only [beq_self_eq_true, Bool.true_and, Bool.and_true] at e
    have e2 := e.symm
    simp only [Bool.and_eq_true, beq_iff_eq] at e2
    obtain ⟨⟨⟨⟨⟨⟨⟨e1, e3⟩, e4⟩, e5⟩, e6⟩, e7⟩, e8⟩, e9⟩ := e2
    subst e1 e3 e4 e5 e6 e7 e8 e9
    clear HS e
    obtain ⟨k0, k1, k2, k3, k4, k5, k6, k7, k8, k9, k10⟩ := H1.cells
    by_cases hg : 1 ≤ a7 ∧ a7 ≤ 24 ∧ 1 ≤ a8 ∧ a8 ≤ 64
    · obtain ⟨d, rfl⟩ : ∃ d : Nat, a7 = (d : Int) := ⟨a7.toNat, by omega⟩
      obtain ⟨F, rfl⟩ : ∃ F : Nat, a8 = (F : Int) := ⟨a8.toNat, by omega⟩
      have hf := fresh_good W1 0 0 0 0 0 0 0 0 d F (by omega) (by omega) (by omega) (by omega)
      go_wp2_with fail
      refine hf.mono ?_
      rintro e w2 ⟨db, sb, rfl, D2, hdb, hsb, b2⟩
      have H2 := H1.next b2
      obtain ⟨k0, k1, k2, k3, k4, k5, k6, k7, k8, k9, k10⟩ := H2.cells
      clear hf
      go_wp2_with fail
      go_ret2
      have s1 := H1.below.size
      have s2 := H2.below.size
      exact ⟨H2.below.alloc s2 _, .inr ⟨d, F, w2.heap.size, db, sb, rfl, rfl, by omega, by omega, by omega, by omega, rfl, ⟨Blk.newAt rfl, D2.next ((Below.refl _ _).alloc (Nat.le_refl _) _)⟩, s2, by omega, by omega⟩⟩
    · have hf := fresh_bad W1 0 0 0 0 0 0 a7 a8 0 0 hg
      go_wp2_with fail
      refine hf.mono ?_
      rintro e w2 ⟨⟨v, rfl⟩, b2⟩
      have H2 := H1.next b2
      clear hf
      go_wp2_with fail
      go_ret2
      exact ⟨H2.below, .inl ⟨1, by decide, rfl⟩⟩
end Go.Proofs.YtbejdajkkoapgaaGreatDoor

