/-
  Several texts in one: Jn. What each proves, and on which conditions, stands at its head. Conditions: stated in each.
-/
import Derived.Test.YtbejdajkkoapgaaGreatDoorJ10
/-
  Contract of digest.Join: all nodes of another one, too; then nodes are lifted. Conditions: of one config, apart from one another, the counts are small.
-/
set_option linter.unusedVariables false
set_option linter.unusedSimpArgs false
set_option maxRecDepth 100000
namespace Go.Proofs.YtbejdajkkoapgaaGreatDoor
open Go.RowKit Go.Lib

theorem joinL_snoc (l m : Row) (p : Nat × Nat) : joinL l (m ++ [p]) = addL (joinL l m) p.1 p.2 := by unfold joinL; rw [List.foldl_append]; rfl
theorem joinL_total (l m : Row) : rowTotal (joinL l m) = rowTotal l + rowTotal m := sumIf_join _ _ _
theorem joinL_len (l m : Row) : (joinL l m).length ≤ l.length + m.length := by
  unfold joinL
  induction m generalizing l with
  | nil => exact Nat.le_refl _
  | cons x m ih =>
    have := ih (addL l x.1 x.2)
    have := length_addL_le l x.1 x.2
    simp only [List.foldl_cons, List.length_cons]; omega
theorem row_nil {l : Row} (h : Full l) (h0 : rowTotal l = 0) : l = [] := by
  cases l with
  | nil => rfl
  | cons x l =>
    have := h x List.mem_cons_self
    unfold rowTotal at h0
    rw [sumIf_cons] at h0
    simp at h0; omega

/-- the two digests, apart from one another -/
structure JnC (w : World) (db sb : Nat) (v : Value) (ob so : Nat) (u : Value) (d F : Nat) (lo hi lo2 hi2 : Int) (l m : Row) (W : World) : Prop where
  dig : DigO W db sb v d F lo hi l
  oth : DigO W ob so u d F lo2 hi2 m
  below : Below w.heap.size w W
theorem JnC.next {w W W' : World} {db sb : Nat} {v : Value} {ob so : Nat} {u : Value} {d F : Nat} {lo hi lo2 hi2 : Int} {l m : Row} (h : JnC w db sb v ob so u d F lo hi lo2 hi2 l m W) (hb : Below W.heap.size W W') : JnC w db sb v ob so u d F lo hi lo2 hi2 l m W' :=
  ⟨h.dig.next hb, h.oth.next hb, h.below.trans (hb.mono h.below.size)⟩
theorem JnC.drew {w W : World} {db sb : Nat} {v : Value} {ob so : Nat} {u : Value} {d F : Nat} {lo hi lo2 hi2 : Int} {l m : Row} (h : JnC w db sb v ob so u d F lo hi lo2 hi2 l m W) : JnC w db sb v ob so u d F lo hi lo2 hi2 l m W.drew := ⟨h.dig.drew, h.oth.drew, h.below.drew⟩

/-- while the other one's pairs are added -/
structure JaC (w : World) (db sb : Nat) (v : Value) (d F : Nat) (l' : Row) (lo hi : Int) (m : Row) (vp : Value) (W : World) : Prop where
  dg : ∃ v', DigO W db sb v' d F lo hi l' ∧ SubO w (Own db sb v) (Own db sb v') ∧ (∀ g, vp.ownBlock = some g → v'.ownBlock ≠ some g)
  away : Away (Own db sb v) w W
  own : W.ownsRow 0 228 2 vp m.length (rowC m)
  ilo : I64 lo
  ihi : I64 hi

set_option maxHeartbeats 8000000 in
theorem dig_join (w : World) (db sb : Nat) (v : Value) (ob so : Nat) (u : Value) (d F : Nat) (lo hi lo2 hi2 : Int) (l m : Row) (h : DigO w db sb v d F lo hi l) (k : DigO w ob so u d F lo2 hi2 m) (hap : ∀ i, Own db sb v i → ¬ Own ob so u i)
    (h1 : 1 ≤ d) (h2 : d ≤ 24) (h3 : 1 ≤ F) (h4 : F ≤ 64) (hlo : I64 lo) (hhi : I64 hi) (hlo2 : I64 lo2) (hhi2 : I64 hi2)
    (hn : Nodes d l) (hn2 : Nodes d m) (hlen : l.length + m.length ≤ 3000) (htot : rowTotal l + rowTotal m ≤ 900000) :
    Calls Tryz.prog 256 #[.pointer (some ⟨db, 0, none⟩), .pointer (some ⟨ob, 0, none⟩)] w fun e w' => ∃ l', e = .returned (.int .i64 0) ∧ DgTo w db sb v d F l' w' ∧ Lifts d F (joinL l m) l' := by
  have H : JnC w db sb v ob so u d F lo hi lo2 hi2 l m w := ⟨h, k, Below.refl _ _⟩
  have nb : (!(((d : Int) == (d : Int)) && ((F : Int) == (F : Int)))) = false := by simp
  have hq := guard51
  have hj := join_keeps d l m h.strip.rising h.strip.full hn k.strip.full hn2
  have hto := fun W (x : DigO W ob so u d F lo2 hi2 m) => dig_total W ob so u d F lo2 hi2 m x
  have htd0 := fun W (x : DigO W db sb v d F lo hi l) => dig_total W db sb v d F lo hi l x
  have hen := fun W (x : DigO W db sb v d F lo hi l) => dig_ends_any W db sb v d F lo hi l x lo2 hi2 hlo2 hhi2 hlo hhi
  have hpl := fun W b h0 h1 => plus_any W b (rowTotal l) (rowTotal m) (by omega) h0 h1
  have hpr := fun W (x : DigO W ob so u d F lo2 hi2 m) => pairs_any W so u m x.strip (by omega)
  have hmr := k.strip.rising
  have hmf := k.strip.full
  have hlt := h.lt
  have hrl := h.strip.rising
  have hfl := h.strip.full
  have HD := Lib.hid h
  clear h k
  go_enter Tryz.func256, Tryz.ntmps256
  go_upto_region 3 with fail
  refine wp_region_quiet_litC (C := JnC w db sb v ob so u d F lo hi lo2 hi2 l m) (by kernel_rfl) (by kernel_rfl) H.drew ?_
  repeat (first | go_big_quiet_skip | (go_big_quiet_want; go_big_quiet_op; first | go_big_quiet_on | (refine quiet_const ?_; go_big_quiet_on)))
  go_big_quiet_want
  refine ⟨.agg #[.int .i64 (d : Int), .int .i64 (F : Int)], fun wx hx => ?_, ?_⟩
  · obtain ⟨k0, k1, k2, k3, k4, k5, m3, m4, m5⟩ := hx.dig.cells
    go_simp
  go_big_quiet_on
  simp only [Act.put, List.setIfInBounds_toArray, List.set_cons_zero, List.set_cons_succ]
  repeat (first | go_big_quiet_skip | (go_big_quiet_want; go_big_quiet_op; first | go_big_quiet_on | (refine quiet_const ?_; go_big_quiet_on)))
  go_big_quiet_want
  refine ⟨.agg #[.int .i64 (d : Int), .int .i64 (F : Int)], fun wx hx => ?_, ?_⟩
  · obtain ⟨k0, k1, k2, k3, k4, k5, m3, m4, m5⟩ := hx.oth.cells
    go_simp
  go_big_quiet_on
  simp only [Act.put, List.setIfInBounds_toArray, List.set_cons_zero, List.set_cons_succ]
  repeat (first | go_big_quiet_skip | (go_big_quiet_want; go_big_quiet_op; first | go_big_quiet_on | (refine quiet_const ?_; go_big_quiet_on)))
  refine wpQuiet_nil ?_
  intro W1 H1
  clear H
  go_wp2_with fail
  refine (hto W1 H1.oth).mono ?_
  rintro e w2 ⟨rfl, rfl⟩
  by_cases hm0 : rowTotal m = 0
  · have g1 : (((rowTotal m : Nat) : Int) == 0) = true := by simp [hm0]
    have hm1 : m = [] := row_nil hmf hm0
    have HM := Lib.hid hm1
    clear hm0 hm1
    go_wp2_with fail
    go_ret
    exact ⟨l, rfl, DgTo.of_below (lo := lo) (hi := hi) HD.out hlo hhi H1.below, by rw [HM.out]; exact .refl⟩
  · have g1 : (((rowTotal m : Nat) : Int) == 0) = false := by simp [hm0]
    clear hm0
    go_wp2_with fail
    refine (htd0 W1 H1.dig).mono ?_
    rintro e w2 ⟨rfl, rfl⟩
    go_wp2_with fail
    refine (hto W1 H1.oth).mono ?_
    rintro e w2 ⟨rfl, rfl⟩
    go_wp2_with fail
    refine (hpl _ _ (by simp) (by simp)).mono ?_
    rintro e w2 ⟨rfl, rfl⟩
    have H2 := H1.next ((Below.refl _ _).alloc (Nat.le_refl _) (.cells #[.int .u64 ((rowTotal l : Nat) : Int), .int .u64 ((rowTotal m : Nat) : Int)] 23))
    generalize W1.alloc (.cells #[.int .u64 ((rowTotal l : Nat) : Int), .int .u64 ((rowTotal m : Nat) : Int)] 23) = W2 at H2 ⊢
    clear H1
    go_upto_region 10 with fail
    obtain ⟨k0, k1, k2, k3, k4, k5, m3, m4, m5⟩ := H2.oth.cells
    have hen2 := hen W2.drew H2.dig.drew
    have H2' := Lib.hid H2
    clear H2 hen hto htd0 hpl
    have hob : ∀ i, Own ob so u i → ¬ i = db := fun i hi e => hap db (.inl rfl) (e ▸ hi)
    have hO : ∀ w3, Away (fun k => k = db) W2.drew w3 → DigO w3 ob so u d F lo2 hi2 m := fun w3 A3 => H2'.out.oth.drew.away A3 hob
    go_cut [4] from 41 to 50 (fun x wx => x = .int .i64 0 ∧ ∃ a3 z3, I64 a3 ∧ I64 z3 ∧ DigO wx db sb v d F a3 z3 l ∧ Away (fun k => k = db) W2.drew wx)
    case first =>
      go_region_with (go_at_call 172; refine hen2.mono ?_; rintro e w3 ⟨rfl, a3, z3, i3, j3, D3, A3⟩)
      all_goals (go_wp2_with fail)
      all_goals go_meet
      all_goals exact ⟨rfl, a3, z3, i3, j3, D3, A3⟩
    case rest =>
    obtain ⟨rfl, a3, z3, i3, j3, D3, A3⟩ := hcut
    generalize wc = w3 at D3 A3 ⊢
    have O3 := hO w3 A3
    obtain ⟨n0, n1, n2, n3, n4, n5, s3, s4, s5⟩ := O3.cells
    have B3 : Away (Own db sb v) w w3 := (Away.of_below (F := Own db sb v) H2'.out.below).drew.trans' A3 (fun k _ hk => hk) (fun k _ hk => .inl hk)
    have B3s : w.heap.size ≤ w3.heap.size := B3.size
    clear H2' k0 k1 k2 k3 k4 k5 m3 m4 m5 A3 hen2 hob hO
    have hp3 := hpr w3 O3
    clear hpr
    go_wp2_with (go_at_call 177; refine hp3.mono ?_; rintro e w4 ⟨vp, rfl, o4, b4⟩; obtain ⟨Ap, cp, hvp⟩ := owns_slice o4; subst hvp)
    have J4 : JaC w db sb v d F l a3 z3 m (.slice Ap m.length cp) w4 :=
      ⟨⟨v, D3.next b4, SubO.refl _ _, fun g hg e => by have := (o4.lt g hg).1; have := (D3.strip.own.lt g e).2; omega⟩, B3.trans' (Away.of_below b4) (fun k _ hk => hk) (fun k _ hk => hk), owns_base o4 fun g _ => Nat.zero_le _, i3, j3⟩
    clear n0 n1 n2 n3 n4 n5 s3 s4 s5 O3 hp3 D3 B3 o4 b4 hlt
    go_loopg [8, 57] m.length (fun g p i wr => ∃ q : Nat, i = .int .i64 (q : Int) ∧ q ≤ m.length ∧ m.length - q ≤ g ∧ JaC w db sb v d F (joinL l (m.take q)) a3 z3 m (.slice Ap m.length cp) wr)
    case atStart => exact ⟨0, rfl, Nat.zero_le _, Nat.le_refl _, by rw [List.take_zero]; exact J4⟩
    case round =>
      clear J4
      obtain ⟨q, rfl, hq, hg, J⟩ := hrel
      by_cases hql : q < m.length
      · have hc1 := hmf _ (List.getElem_mem hql)
        obtain ⟨ix, hix⟩ : ∃ i, i = (m[q]'hql).1 := ⟨_, rfl⟩
        obtain ⟨ct, hct⟩ : ∃ i, i = (m[q]'hql).2 := ⟨_, rfl⟩
        have hct2 : rowTotal (m.take q) + ct ≤ rowTotal m := by
          have e : m = m.take q ++ ((m[q]'hql) :: m.drop (q + 1)) := by rw [← List.drop_eq_getElem_cons hql, List.take_append_drop]
          have e2 : rowTotal m = rowTotal (m.take q) + rowTotal ((m[q]'hql) :: m.drop (q + 1)) := by
            conv => lhs; rw [e]
            exact sumIf_append _ _ _
          have e3 : rowTotal ((m[q]'hql) :: m.drop (q + 1)) = (m[q]'hql).2 + rowTotal (m.drop (q + 1)) := by unfold rowTotal; rw [sumIf_cons]; simp
          omega
        have hjt := joinL_total l (m.take q)
        have hjl := joinL_len l (m.take q)
        rw [List.length_take] at hjl
        have hsn : joinL l (m.take (q + 1)) = addL (joinL l (m.take q)) ix ct := by
          rw [List.take_succ_eq_append_getElem hql, joinL_snoc, hix, hct]
        rw [← hct] at hc1
        have e0 : (rowC m)[q * 2]? = some (.int .i64 (ix : Int)) := by rw [rowC_fst m q hql, hix]
        have e1 : (rowC m)[q * 2 + 1]? = some (.int .u64 (ct : Int)) := by rw [rowC_snd m q hql, hct]
        obtain ⟨⟨v1, D1, S1, X1⟩, A1, O1, _, _⟩ := J
        generalize joinL l (m.take q) = lq at *
        rcases owns_shape O1 with ⟨hv0, hn0, _⟩ | ⟨g, cap, hv0, hnc, hcap, _, hgl⟩
        · omega
        · simp only [Value.slice.injEq, true_and] at hv0
          obtain ⟨rfl, rfl⟩ := hv0
          have c0 : wr.cell? ⟨g, q * 2, none⟩ = some (.int .i64 (ix : Int)) := by rw [O1.cellAt _ (by omega)]; exact e0
          have c1 : wr.cell? ⟨g, q * 2 + 1, none⟩ = some (.int .u64 (ct : Int)) := by rw [O1.cellAt _ (by omega)]; exact e1
          have hLT : (q : Int) < (m.length : Int) := by omega
          have D2 := D1.next ((Below.refl _ _).alloc (Nat.le_refl _) (.cells #[.int .i64 (ix : Int), .int .u64 (ct : Int)] 228))
          have hsa := strip_add (wr.alloc (.cells #[.int .i64 (ix : Int), .int .u64 (ct : Int)] 228)).drew sb v1 lq ix ct D2.drew.strip hc1 (by omega) (by omega)
          obtain ⟨k0, k1, k2, k3, k4, k5, m3, m4, m5⟩ := D1.cells
          have hdl := D1.blk.lt
          have FIN := Lib.hid (show ∀ (w5 : World) (v5 : Value), StripO w5 sb v5 (addL lq ix ct) → Away (fun k => k = sb ∨ v1.ownBlock = some k) (wr.alloc (.cells #[.int .i64 (ix : Int), .int .u64 (ct : Int)] 228)).drew w5 → Kin (wr.alloc (.cells #[.int .i64 (ix : Int), .int .u64 (ct : Int)] 228)).drew v1 v5 → JaC w db sb v d F (joinL l (m.take (q + 1))) a3 z3 m (.slice (some ⟨g, 0, none⟩) m.length cp) w5 from fun w5 v5 s5 a5 x5 => by
            obtain ⟨y1, y2, y3⟩ := D2.drew.add s5 a5 x5
            have hsz : wr.heap.size ≤ (wr.alloc (.cells #[.int .i64 (ix : Int), .int .u64 (ct : Int)] 228)).drew.heap.size := by simp
            have O2 : (wr.alloc (.cells #[.int .i64 (ix : Int), .int .u64 (ct : Int)] 228)).drew.ownsRow 0 228 2 (.slice (some ⟨g, 0, none⟩) m.length cp) m.length (rowC m) := (O1.alloc _).drew
            have hgs : g ≠ sb := by
              obtain ⟨cur, hcur⟩ := owns_blk O1 rfl
              exact hcur.ne D1.strip.blk (by decide)
            have hgv : v1.ownBlock ≠ some g := X1 g rfl
            refine ⟨⟨v5, by rw [hsn]; exact y1, S1.trans (fun k hk => ?_) A1.size, fun g' hg' e => ?_⟩, (A1.trans' ((Away.of_below (F := Own db sb v) ((Below.refl _ _).alloc (Nat.le_refl _) _)).drew) (fun k _ hk => hk) (fun k _ hk => hk)).trans' a5 (fun k _ hk => hk) (fun k hk1 hk => ?_), owns_away O2 a5 fun g' hg' => ?_, i3, j3⟩
            · rcases y2 k hk with y | y
              · exact .inl y
              · exact .inr (Nat.le_trans hsz y)
            · simp [Value.ownBlock] at hg'; subst hg'
              rcases x5 with x5 | ⟨k, x5, x6⟩
              · exact hgv (x5 ▸ e)
              · rw [x5] at e; cases e; simp at x6; omega
            · rcases hk with rfl | e
              · exact .inr (.inl rfl)
              · rcases S1 k (.inr (.inr e)) with y | y
                · exact y
                · omega
            · simp [Value.ownBlock] at hg'; subst hg'
              rintro (e | e)
              · exact hgs e
              · exact hgv e)
          clear D1 S1 X1 A1 O1 D2 hix hct hct2 hsn e0 e1 hc1 hjt hjl hgl hnc hcap
          go_upto_region 14 with fail
          go_region_with (go_at_call 93; refine hsa.mono ?_; rintro e w5 ⟨rfl, v5, s5, a5, x5⟩)
          all_goals (go_wp2_with fail)
          all_goals (go_roundg (m.length - (q + 1)))
          all_goals (first | (exact ⟨q + 1, by go_num, by omega, Nat.le_refl _, FIN.out w5 v5 s5 a5 x5⟩) | omega)
      · have hqe : q = m.length := by omega
        have hLT : ¬ (q : Int) < (m.length : Int) := by omega
        rw [hqe, List.take_length] at J
        obtain ⟨⟨v1, D1, S1, X1⟩, A1, O1, _, _⟩ := J
        have ht := tidy_any wr db sb v1 d F a3 z3 _ D1 h1 h2 h3 h4 hj.2.2 (by have := joinL_len l m; omega) (by rw [joinL_total]; omega)
        have HX := Lib.hid (And.intro S1 A1)
        clear hqe hql hq hg D1 S1 X1 A1 O1
        go_wp2_with (go_at_call 173; refine ht.mono ?_; rintro e w5 ⟨rfl, l5, L5, A5, sb5, v5, D5, O5⟩)
        go_ret
        exact ⟨l5, rfl, ⟨a3, z3, sb5, v5, D5, i3, j3, HX.out.1.trans O5 HX.out.2.size, HX.out.2.trans' A5 (fun k _ hk => hk) (fun k _ hk => .inl hk)⟩, L5⟩
end Go.Proofs.YtbejdajkkoapgaaGreatDoor

