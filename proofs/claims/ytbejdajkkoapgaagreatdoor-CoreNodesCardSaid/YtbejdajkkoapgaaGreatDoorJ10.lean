/-
  Several texts in one: Sq, Pu, Eq. What each proves, and on which conditions, stands at its head. Conditions: stated in each.
-/
import Derived.Test.YtbejdajkkoapgaaGreatDoorJ09
import Derived.Laws.StructEq
/-
  Contracts of digest.squeeze and tidy: nodes are lifted again and again, till none is. Conditions: the nodes can be, the counts are small.
-/
set_option linter.unusedVariables false
set_option linter.unusedSimpArgs false
set_option maxRecDepth 100000
namespace Go.Proofs.YtbejdajkkoapgaaGreatDoor
open Go.RowKit Go.Lib

/-- one row comes from another one by lifts -/
inductive Lifts (d F : Nat) (l : Row) : Row → Prop
  | refl : Lifts d F l l
  | step {l' : Row} (h : Lifts d F l l') (x : Nat) (h1 : 1 ≤ x) (h2 : x < 2 * 2 ^ d) (hb : liftB F l' x = true) : Lifts d F l (liftL l' x)
theorem liftB_two {F : Nat} {l : Row} {x : Nat} (h1 : 1 ≤ x) (h : liftB F l x = true) : 2 ≤ x ∧ rowAt l x ≠ 0 := by
  unfold liftB at h
  simp only [Bool.and_eq_true, bne_iff_ne, ne_eq, decide_eq_true_eq] at h
  omega
theorem nodes_lift {d F : Nat} {l : Row} {x : Nat} (hn : Nodes d l) (h1 : 1 ≤ x) (h2 : x < 2 * 2 ^ d) (h : liftB F l x = true) : Nodes d (liftL l x) := by
  obtain ⟨h3, _⟩ := liftB_two h1 h
  have hr : Nodes d (rest l x) := fun y hy => hn y (List.mem_filter.1 hy).1
  exact nodes_add hr (by omega) (by omega)
theorem Lifts.keeps {d F : Nat} {l l' : Row} (h : Lifts d F l l') (hn : Nodes d l) : Nodes d l' ∧ rowTotal l' = rowTotal l ∧ l'.length ≤ l.length := by
  induction h with
  | refl => exact ⟨hn, rfl, Nat.le_refl _⟩
  | step h x h1 h2 hb ih =>
    obtain ⟨i1, i2, i3⟩ := ih
    obtain ⟨k1, k2⟩ := liftB_two h1 hb
    exact ⟨nodes_lift i1 h1 h2 hb, by rw [total_lift _ _ (bro_bd d x k1 h2).2.2.2, i2], Nat.le_trans (length_lift_le k2) i3⟩
theorem Lifts.qinv {d F : Nat} {l l' : Row} {vals : Vals} (h : Lifts d F l l') (hq : QInv d F l vals) : QInv d F l' vals := by
  induction h with
  | refl => exact hq
  | step h x h1 h2 hb ih => exact qinv_lift ih x h1 h2 hb
theorem Lifts.trans {d F : Nat} {a b c : Row} (h : Lifts d F a b) (k : Lifts d F b c) : Lifts d F a c := by
  induction k with
  | refl => exact h
  | step _ x h1 h2 hb ih => exact .step ih x h1 h2 hb
/-- what is there behind lifts -/
def Sq (w : World) (db sb : Nat) (v : Value) (d F : Nat) (lo hi : Int) (l l' : Row) (W : World) : Prop :=
  Lifts d F l l' ∧ Away (fun k => k = db) w W ∧ ∃ sb' v', DigO W db sb' v' d F lo hi l' ∧ SubO w (Own db sb v) (Own db sb' v')
theorem SubO.refl (w : World) (P : Nat → Prop) : SubO w P P := fun _ h => .inl h
theorem SubO.trans {w W : World} {P Q R : Nat → Prop} (h : SubO w P Q) (k : SubO W Q R) (hs : w.heap.size ≤ W.heap.size) : SubO w P R := fun i hi => by
  rcases k i hi with hq | hq
  · exact h i hq
  · exact .inr (Nat.le_trans hs hq)

set_option maxHeartbeats 4000000 in
theorem squeeze_any (w : World) (db sb : Nat) (v : Value) (d F : Nat) (lo hi : Int) (l : Row) (h : DigO w db sb v d F lo hi l) (h1 : 1 ≤ d) (h2 : d ≤ 24) (h3 : 1 ≤ F) (h4 : F ≤ 64)
    (hn : Nodes d l) (hlen : l.length ≤ 4000) (htot : rowTotal l ≤ 1000000) :
    Calls Tryz.prog 171 #[.pointer (some ⟨db, 0, none⟩)] w fun e w' => e = .returned (.tuple #[]) ∧ ∃ l', Sq w db sb v d F lo hi l l' w' := by
  have HS : Sq w db sb v d F lo hi l l w := ⟨.refl, Away.refl _ _, sb, v, h, SubO.refl _ _⟩
  clear h
  go_enter Tryz.func171, Tryz.ntmps171
  go_wp2_with fail
  go_loopg [2, 3, 4] (2 * phi l + 1) (fun g m r i wr => ∃ (mv : Bool) (l' : Row), m = .bool mv ∧ Sq w db sb v d F lo hi l l' wr ∧ 2 * phi l' + (if mv then 1 else 0) ≤ g)
  case atStart => exact ⟨true, l, rfl, HS, by simp⟩
  case round =>
    clear HS
    obtain ⟨mv, l1, rfl, HS, hg⟩ := hrel
    cases mv with
    | false =>
      go_wp2_with fail
      refine bodyPost_end (results_none rfl _ _ _) rfl ?_
      exact ⟨rfl, l1, HS⟩
    | true =>
      obtain ⟨hl1, ha1, sb1, v1, hd1, hs1⟩ := HS
      obtain ⟨kn, kt, kl⟩ := hl1.keeps hn
      obtain ⟨c0, c1, c2, c3, c4, c5, f3, f4, f5⟩ := hd1.cells
      have hp := pairs_any wr sb1 v1 l1 hd1.strip (by omega)
      have hg' : 2 * phi l1 + 1 ≤ gk := by simpa using hg
      have HD := Lib.hid (And.intro hd1 (And.intro hs1 (And.intro ha1 hl1)))
      clear hg hd1 hs1 ha1 hl1 c0 c1 c2 c4 c5 f3 f4 f5
      go_wp2_with (go_at_call 177; refine hp.mono ?_; rintro e w2 ⟨vp, rfl, o2, b2⟩; obtain ⟨Ap, cp, hvp⟩ := owns_slice o2; subst hvp)
      have hq2 : Sq w db sb v d F lo hi l l1 w2 := ⟨HD.out.2.2.2, HD.out.2.2.1.trans' (Away.of_below b2) (fun k _ hk => hk) (fun k _ hk => hk), sb1, v1, HD.out.1.next b2, HD.out.2.1⟩
      have ho2 : w2.ownsRow 0 228 2 (.slice Ap l1.length cp) l1.length (rowC l1) := owns_base o2 fun g _ => Nat.zero_le _
      clear HD hp o2 b2 c3
      go_loopg [2, 4] l1.length (fun g m i wr => ∃ (mv : Bool) (l2 : Row) (q : Nat), m = .bool mv ∧ i = .int .i64 ((q : Int) - 1) ∧ q ≤ g ∧ q ≤ l1.length ∧ Sq w db sb v d F lo hi l l2 wr ∧
        wr.ownsRow 0 228 2 (.slice Ap l1.length cp) l1.length (rowC l1) ∧ (mv = false → l2 = l1) ∧ (mv = true → phi l2 < phi l1))
      case atStart => exact ⟨false, l1, l1.length, rfl, by first | rfl | (congr 1; done), Nat.le_refl _, Nat.le_refl _, hq2, ho2, fun _ => rfl, fun h => by cases h⟩
      case round =>
        clear hq2 ho2
        obtain ⟨mv, l2, q, rfl, rfl, hqg, hql, HS, ho, hm1, hm2⟩ := hrel
        match q, hqg, hql with
        | 0, _, _ =>
          have HH := Lib.hid (And.intro HS (And.intro hm1 hm2))
          clear HS hm1 hm2 ho
          go_wp2_with fail
          go_roundg (2 * phi l2 + (if mv then 1 else 0))
          case measure =>
            cases mv with
            | true => have := HH.out.2.2 rfl; simp; omega
            | false => have := HH.out.2.1 rfl; rw [this]; simp; omega
          case rel => exact ⟨mv, l2, rfl, HH.out.1, Nat.le_refl _⟩
        | j + 1, hqg, hql =>
          obtain ⟨hl2, ha2, sb2, v2, hd2, hs2⟩ := HS
          obtain ⟨jn, jt, jl⟩ := hl2.keeps hn
          have hj : j < l1.length := by omega
          obtain ⟨x1, x2⟩ := kn _ (List.getElem_mem hj)
          obtain ⟨x, hx⟩ : ∃ x, x = (l1[j]'hj).1 := ⟨_, rfl⟩
          have e0 : (rowC l1)[j * 2]? = some (.int .i64 (x : Int)) := by rw [rowC_fst l1 j hj, hx]
          rw [← hx] at x1 x2
          have hlf := lift_any wr db sb2 v2 d F lo hi l2 x hd2 h1 h2 h3 h4 x1 x2 (by omega) (by omega)
          rcases owns_shape ho with ⟨hv0, hn0, _⟩ | ⟨g, cap, hv0, hnc, hcap, _, hgl⟩
          · omega
          · simp only [Value.slice.injEq, true_and] at hv0
            obtain ⟨rfl, rfl⟩ := hv0
            have c0 : wr.cell? ⟨g, j * 2, none⟩ = some (.int .i64 (x : Int)) := by rw [ho.cellAt _ (by omega)]; exact e0
            have hgd : g ≠ db := by
              obtain ⟨cur, hcur⟩ := owns_blk ho rfl
              exact hcur.ne hd2.blk (by decide)
            have hj1 : ((j + 1 : Nat) : Int) - 1 = (j : Int) := by omega
            have hj2 : (0 : Int) ≤ (j : Int) := by omega
            have hjl : (j : Int) < (l1.length : Int) := by omega
            have ew : wrap64 ((j : Int) - 1) = (j : Int) - 1 := by unfold wrap64; omega
            have fin : ∀ w5 : World, (∃ sb' v', DigO w5 db sb' v' d F lo hi (if liftB F l2 x then liftL l2 x else l2) ∧ SubO wr (Own db sb2 v2) (Own db sb' v') ∧ Away (fun k => k = db) wr w5) →
                Sq w db sb v d F lo hi l (if liftB F l2 x then liftL l2 x else l2) w5 ∧ w5.ownsRow 0 228 2 (.slice (some ⟨g, 0, none⟩) l1.length cp) l1.length (rowC l1) := by
              rintro w5 ⟨sb', v', d5, s5, a5⟩
              refine ⟨⟨?_, ha2.trans' a5 (fun k _ hk => hk) (fun k _ hk => hk), sb', v', d5, hs2.trans s5 ha2.size⟩, owns_away ho a5 fun k hk => ?_⟩
              · split
                · rename_i hb; exact .step hl2 x x1 x2 hb
                · exact hl2
              · simp [Value.ownBlock] at hk; subst hk; exact hgd
            have hphi : liftB F l2 x = true → phi (liftL l2 x) < phi l2 := fun hb => by
              obtain ⟨y1, _⟩ := liftB_two x1 hb
              have hbd := bro_bd d x y1 x2
              exact phi_lift x1 hb hbd.2.2.2 hbd.2.2.1
            have hle : phi l2 ≤ phi l1 := by
              cases mv with
              | true => exact Nat.le_of_lt (hm2 rfl)
              | false => rw [hm1 rfl]; exact Nat.le_refl _
            have HF := Lib.hid (And.intro fin (And.intro hphi (And.intro hle (And.intro hm1 hm2))))
            rw [hj1]
            clear hl2 ha2 hd2 hs2 jn jt jl hj x1 x2 hx e0 ho hnc hcap hgl hgd hj1 fin hphi hle hm1 hm2 kn kt kl
            cases hb : liftB F l2 x with
            | true =>
              rw [hb] at hlf
              have HB := Lib.hid hb
              clear hb
              go_wp2_with (go_at_call 178; refine hlf.mono ?_; rintro e w5 ⟨rfl, hd5⟩)
              obtain ⟨k1, k2⟩ := HF.out.1 w5 (by rw [HB.out]; exact hd5)
              rw [if_pos HB.out] at k1
              go_roundg j
              case measure => omega
              case rel => exact ⟨true, liftL l2 x, j, rfl, by go_num, Nat.le_refl _, by omega, k1, k2, (fun h => by cases h), fun _ => Nat.lt_of_lt_of_le (HF.out.2.1 HB.out) HF.out.2.2.1⟩
            | false =>
              rw [hb] at hlf
              have HB := Lib.hid hb
              clear hb
              go_wp2_with (go_at_call 178; refine hlf.mono ?_; rintro e w5 ⟨rfl, hd5⟩)
              obtain ⟨k1, k2⟩ := HF.out.1 w5 (by rw [HB.out]; exact hd5)
              rw [HB.out, if_neg (by decide)] at k1
              go_roundg j
              case measure => omega
              case rel => exact ⟨mv, l2, j, rfl, by go_num, Nat.le_refl _, by omega, k1, k2, HF.out.2.2.2.1, HF.out.2.2.2.2⟩

theorem tidy_any (w : World) (db sb : Nat) (v : Value) (d F : Nat) (lo hi : Int) (l : Row) (h : DigO w db sb v d F lo hi l) (h1 : 1 ≤ d) (h2 : d ≤ 24) (h3 : 1 ≤ F) (h4 : F ≤ 64)
    (hn : Nodes d l) (hlen : l.length ≤ 4000) (htot : rowTotal l ≤ 1000000) :
    Calls Tryz.prog 173 #[.pointer (some ⟨db, 0, none⟩)] w fun e w' => e = .returned (.tuple #[]) ∧ ∃ l', Sq w db sb v d F lo hi l l' w' := by
  have HS : Sq w db sb v d F lo hi l l w := ⟨.refl, Away.refl _ _, sb, v, h, SubO.refl _ _⟩
  obtain ⟨c0, c1, c2, c3, c4, c5, f3, f4, f5⟩ := h.cells
  obtain ⟨A, c, hv⟩ := owns_slice h.strip.own
  have hsl := strip_len w sb A l.length c (by rw [← hv]; exact h.strip.cells.2.1)
  have hmo := dig_most w db sb v d F lo hi l h h4
  have hsq := squeeze_any w db sb v d F lo hi l h h1 h2 h3 h4 hn hlen htot
  clear h hv
  by_cases hm : 4 * F < l.length
  · have g1 : ((4 * F : Nat) : Int) < (l.length : Int) := by omega
    clear hm
    go_enter Tryz.func173, Tryz.ntmps173
    go_wp2_with (first | (go_at_call 150; refine hsl.mono ?_; rintro e w1 ⟨rfl, rfl⟩) | (go_at_call 16; refine hmo.mono ?_; rintro e w1 ⟨rfl, rfl⟩) | (go_at_call 171; refine hsq.mono ?_; rintro e w1 ⟨rfl, l', hq⟩))
    go_end0
    exact ⟨rfl, l', hq⟩
  · have g1 : ¬ ((4 * F : Nat) : Int) < (l.length : Int) := by omega
    clear hm hsq
    go_enter Tryz.func173, Tryz.ntmps173
    go_wp2_with (first | (go_at_call 150; refine hsl.mono ?_; rintro e w1 ⟨rfl, rfl⟩) | (go_at_call 16; refine hmo.mono ?_; rintro e w1 ⟨rfl, rfl⟩))
    go_end0
    exact ⟨rfl, l, HS⟩
end Go.Proofs.YtbejdajkkoapgaaGreatDoor

/-
  Contract of digest.Put: the value's leaf has so many more, then nodes are lifted; or an error, and the digest is as it was. Conditions: the counts are small.
-/
set_option linter.unusedVariables false
set_option linter.unusedSimpArgs false
set_option maxRecDepth 100000
namespace Go.Proofs.YtbejdajkkoapgaaGreatDoor
open Go.RowKit Go.Lib

/-- a digest that has turned: its new row, in its own blocks or new ones -/
def DgTo (w : World) (db sb : Nat) (v : Value) (d F : Nat) (l' : Row) (W : World) : Prop :=
  ∃ lo' hi' sb' v', DigO W db sb' v' d F lo' hi' l' ∧ I64 lo' ∧ I64 hi' ∧ SubO w (Own db sb v) (Own db sb' v') ∧ Away (Own db sb v) w W
theorem DgTo.of_below {w W : World} {db sb : Nat} {v : Value} {d F : Nat} {lo hi : Int} {l : Row} (h : DigO w db sb v d F lo hi l) (h1 : I64 lo) (h2 : I64 hi) (hb : Below w.heap.size w W) : DgTo w db sb v d F l W :=
  ⟨lo, hi, sb, v, h.next hb, h1, h2, SubO.refl _ _, Away.of_below hb⟩
/-- strip.Add on a digest's own strip -/
theorem DigO.add {w W : World} {db sb : Nat} {v v' : Value} {d F : Nat} {lo hi : Int} {l l' : Row} (h : DigO w db sb v d F lo hi l) (hs : StripO W sb v' l') (ha : Away (fun k => k = sb ∨ v.ownBlock = some k) w W) (hk : Kin w v v') :
    DigO W db sb v' d F lo hi l' ∧ SubO w (Own db sb v) (Own db sb v') ∧ Away (Own db sb v) w W := by
  obtain ⟨n1, n2⟩ := h.ne
  refine ⟨⟨h.blk.away ha ?_, hs⟩, ?_, ha.mono fun k _ hk => ?_⟩
  · rintro (e | e)
    · exact n1 e
    · exact n2 e
  · rintro k (rfl | rfl | e)
    · exact .inl (.inl rfl)
    · exact .inl (.inr (.inl rfl))
    · rcases hk with hk | ⟨j, hj, hj2⟩
      · exact .inl (.inr (.inr (hk ▸ e)))
      · rw [hj] at e; cases e; exact .inr hj2
  · rcases hk with rfl | e
    · exact .inr (.inl rfl)
    · exact .inr (.inr e)

set_option maxHeartbeats 4000000 in
theorem dig_put (w : World) (db sb : Nat) (v : Value) (d F : Nat) (lo hi : Int) (l : Row) (h : DigO w db sb v d F lo hi l) (h1 : 1 ≤ d) (h2 : d ≤ 24) (h3 : 1 ≤ F) (h4 : F ≤ 64) (hlo : I64 lo) (hhi : I64 hi)
    (hn : Nodes d l) (hlen : l.length ≤ 3000) (htot : rowTotal l ≤ 900000) (x : Int) (hx : I64 x) (c : Nat) (hc : c ≤ 1000) :
    Calls Tryz.prog 169 #[.pointer (some ⟨db, 0, none⟩), .int .i64 x, .int .u64 (c : Int)] w fun e w' => ∃ (code : Int) (l' : Row), e = .returned (.int .i64 code) ∧ DgTo w db sb v d F l' w' ∧
      ((code = 0 ∧ 0 ≤ x ∧ x < ((2 ^ d : Nat) : Int) ∧ 1 ≤ c ∧ Lifts d F (addL l (2 ^ d + x.toNat) c) l') ∨ (code ≠ 0 ∧ l' = l ∧ ¬ (0 ≤ x ∧ x < ((2 ^ d : Nat) : Int) ∧ 1 ≤ c))) := by
  obtain ⟨c0, c1, c2, c3, c4, c5, f3, f4, f5⟩ := h.cells
  by_cases hc0 : c = 0
  · have g1 : ((c : Int) == 0) = true := by simp [hc0]
    have HH := Lib.hid h
    have HC := Lib.hid hc0
    clear h hc0
    go_enter Tryz.func169, Tryz.ntmps169
    go_wp2_with fail
    go_ret
    exact ⟨1, l, rfl, DgTo.of_below HH.out hlo hhi (Below.refl _ _), .inr ⟨by decide, rfl, fun hh => by have := HC.out; omega⟩⟩
  · have g1 : ((c : Int) == 0) = false := by simp [hc0]
    have hlf := Tr.leaf_any (d : Int) x w (by omega) (by omega) hx.2
    by_cases hr : 0 ≤ x ∧ x < ((2 ^ d : Nat) : Int)
    · have e1 : Tr.leafB (d : Int) x = true := by rw [Tr.leafB_iff, pw_nat]; exact hr
      have e2 : Tr.leafV (d : Int) x = ((2 ^ d + x.toNat : Nat) : Int) := by unfold Tr.leafV; rw [if_pos e1, pw_nat]; omega
      rw [e1, e2] at hlf
      obtain ⟨y, hy⟩ : ∃ y, y = 2 ^ d + x.toNat := ⟨_, rfl⟩
      have hy1 : 1 ≤ y := by have := Nat.one_le_two_pow (n := d); omega
      have hy2 : y < 2 * 2 ^ d := by omega
      rw [← hy] at hlf ⊢
      have hpl := fun W b h0 h1 => plus_any W b (rowTotal l) c (by omega) h0 h1
      have ht1 := fun W (k : DigO W db sb v d F lo hi l) => dig_total W db sb v d F lo hi l k
      have hen := fun W (k : DigO W db sb v d F lo hi l) => dig_ends_any W db sb v d F lo hi l k x x hx hx hlo hhi
      have hsa := fun W a b (k : DigO W db sb v d F a b l) => strip_add W sb v l y c k.strip (by omega) (by omega) (by omega)
      have hla : (addL l y c).length ≤ 4000 := by have := length_addL_le l y c; omega
      have hta : rowTotal (addL l y c) ≤ 1000000 := by rw [rowTotal_add]; omega
      have htd := fun W a b v' (k : DigO W db sb v' d F a b (addL l y c)) => tidy_any W db sb v' d F a b _ k h1 h2 h3 h4 (nodes_add hn hy1 hy2) hla hta
      have HR := Lib.hid (And.intro hr (show 1 ≤ c by omega))
      have HH := Lib.hid h
      clear h e1 e2 hr hy hla hta
      go_enter Tryz.func169, Tryz.ntmps169
      go_wp2_with fail
      refine hlf.mono ?_
      rintro e w1 ⟨rfl, b1⟩
      have D1 := HH.out.next b1
      clear hlf c0 c1 c2 c3 c4 c5 f3 f4 f5
      go_wp2_with fail
      refine (ht1 w1 D1).mono ?_
      rintro e w2 ⟨rfl, rfl⟩
      go_wp2_with fail
      refine (hpl _ _ (by simp) (by simp)).mono ?_
      rintro e w2 ⟨rfl, rfl⟩
      have b2 : Below w.heap.size w (w1.alloc (.cells #[.int .u64 ((rowTotal l : Nat) : Int), .int .u64 (c : Int)] 23)) := b1.alloc b1.size _
      have D2 := HH.out.next b2
      generalize w1.alloc (.cells #[.int .u64 ((rowTotal l : Nat) : Int), .int .u64 (c : Int)] 23) = w2 at D2 b2 ⊢
      clear D1 b1
      go_wp2_with fail
      refine (hen w2 D2).mono ?_
      rintro e w3 ⟨rfl, a3, z3, i3, j3, D3, A3⟩
      obtain ⟨c0, c1, c2, c3, c4, c5, f3, f4, f5⟩ := D3.cells
      go_wp2_with fail
      refine (hsa w3 a3 z3 D3).mono ?_
      rintro e w4 ⟨rfl, v4, S4, A4, K4⟩
      obtain ⟨D4, O4, B4⟩ := D3.add S4 A4 K4
      clear c0 c1 c2 c3 c4 c5 f3 f4 f5
      go_wp2_with fail
      refine (htd w4 a3 z3 v4 D4).mono ?_
      rintro e w5 ⟨rfl, l5, L5, A5, sb5, v5, D5, O5⟩
      go_wp2_with fail
      go_ret
      refine ⟨0, l5, rfl, ⟨a3, z3, sb5, v5, D5, i3, j3, ?_, ?_⟩, .inl ⟨rfl, HR.out.1.1, HR.out.1.2, HR.out.2, L5⟩⟩
      · have s23 : w2.heap.size ≤ w3.heap.size := A3.size
        have s3 : w.heap.size ≤ w3.heap.size := Nat.le_trans b2.size s23
        have s4 : w.heap.size ≤ w4.heap.size := Nat.le_trans s3 A4.size
        refine SubO.trans (SubO.trans (SubO.refl w _) O4 s3) O5 s4
      · refine Away.trans' (Away.trans' (Away.trans' (Away.of_below (F := Own db sb v) b2) A3 (fun k _ hk => hk) (fun k _ hk => .inl hk)) B4 (fun k _ hk => hk) (fun k _ hk => hk)) A5 (fun k _ hk => hk) (fun k _ hk => .inl hk)
    · have e1 : Tr.leafB (d : Int) x = false := by rw [Tr.leafB_no, pw_nat]; exact hr
      have HRN := Lib.hid hr
      have e2 : Tr.leafV (d : Int) x = 0 := by unfold Tr.leafV; rw [e1]; rfl
      rw [e1, e2] at hlf
      have HH := Lib.hid h
      clear h e1 e2 hr
      go_enter Tryz.func169, Tryz.ntmps169
      go_wp2_with (go_at_call 99; refine hlf.mono ?_; rintro e w1 ⟨rfl, b1⟩)
      go_ret
      exact ⟨7, l, rfl, DgTo.of_below HH.out hlo hhi b1, .inr ⟨by decide, rfl, fun hh => HRN.out ⟨hh.1, hh.2.1⟩⟩⟩
end Go.Proofs.YtbejdajkkoapgaaGreatDoor

/-
  Two configs compared, field by field. Conditions: none.
-/
set_option linter.unusedVariables false
set_option linter.unusedSimpArgs false
set_option maxRecDepth 100000
namespace Go.Proofs.YtbejdajkkoapgaaGreatDoor
open Go.RowKit Go.Lib

theorem fields51 : Tryz.prog.fieldsOf 51 = #[{ name := "Depth", type := 3, offset := 0, embedded := false, tag := "", pkgPath := "", byteOffset := 0 }, { name := "Factor", type := 3, offset := 1, embedded := false, tag := "", pkgPath := "", byteOffset := 8 }] := by
  unfold Program.fieldsOf; rw [Tryz.underlying51]
theorem fields25 : Tryz.prog.fieldsOf 25 = #[{ name := "Num", type := 23, offset := 0, embedded := false, tag := "", pkgPath := "", byteOffset := 0 }, { name := "Den", type := 23, offset := 1, embedded := false, tag := "", pkgPath := "", byteOffset := 8 }] := by
  unfold Program.fieldsOf; rw [Tryz.underlying25]
theorem guard51 : Tryz.prog.eqGuardType Tryz.prog.depth 51 = false := by kernel_rfl
theorem guard28 : Tryz.prog.eqGuardType Tryz.prog.depth 28 = false := by kernel_rfl
theorem stood51 : Tryz.prog.stoodInHeld 51 = false := by kernel_rfl
theorem stood28 : Tryz.prog.stoodInHeld 28 = false := by kernel_rfl
theorem stood25 : Tryz.prog.stoodInHeld 25 = false := by kernel_rfl

theorem neq51 (w : World) (a b c d : Int) : (binOp .neq 51 (.agg #[.int .i64 a, .int .i64 b]) (.agg #[.int .i64 c, .int .i64 d])).run Tryz.prog w = .ok (.bool !((a == c) && (b == d))) w := by
  have h51 : Tryz.prog.underlying 51 = some (.struct (Tryz.prog.fieldsOf 51)) := by rw [fields51, Tryz.underlying51]
  have ag := fun w => Tryz.isAgg3 w
  rw [run_neq_struct, show (10000 : Nat) = 9999 + 1 from rfl, run_equalIn_agg w 9999 51 _ _ h51 stood51, fields51]
  simp [Op.eqFields, part, ag, run_equalIn_int (P := Tryz.prog) _ 9998 3 .i64 .i64 _ _ Tryz.underlying3]
  by_cases h1 : a = c <;> by_cases h2 : b = d <;> simp [h1, h2]
theorem eq25 (w : World) (n : Nat) (a b c d : Int) : (Op.equalIn (n + 2) 25 (.agg #[.int .u64 a, .int .u64 b]) (.agg #[.int .u64 c, .int .u64 d])).run Tryz.prog w = .ok ((a == c) && (b == d)) w := by
  have h25 : Tryz.prog.underlying 25 = some (.struct (Tryz.prog.fieldsOf 25)) := by rw [fields25, Tryz.underlying25]
  have ag := fun w => Tryz.isAgg23 w
  rw [run_equalIn_agg w (n + 1) 25 _ _ h25 stood25, fields25]
  simp [Op.eqFields, part, ag, run_equalIn_int (P := Tryz.prog) _ n 23 .u64 .u64 _ _ Tryz.underlying23]
  by_cases h1 : a = c <;> by_cases h2 : b = d <;> simp [h1, h2]
theorem fields28 : Tryz.prog.fieldsOf 28 = #[{ name := "Kind", type := 22, offset := 0, embedded := false, tag := "", pkgPath := "", byteOffset := 0 }, { name := "Part", type := 25, offset := 1, embedded := false, tag := "", pkgPath := "", byteOffset := 8 }, { name := "Side", type := 26, offset := 3, embedded := false, tag := "", pkgPath := "", byteOffset := 24 }, { name := "Most", type := 3, offset := 4, embedded := false, tag := "", pkgPath := "", byteOffset := 32 }, { name := "Digits", type := 3, offset := 5, embedded := false, tag := "", pkgPath := "", byteOffset := 40 }, { name := "Limit", type := 23, offset := 6, embedded := false, tag := "", pkgPath := "", byteOffset := 48 }, { name := "Depth", type := 3, offset := 7, embedded := false, tag := "", pkgPath := "", byteOffset := 56 }, { name := "Factor", type := 3, offset := 8, embedded := false, tag := "", pkgPath := "", byteOffset := 64 }, { name := "Width", type := 3, offset := 9, embedded := false, tag := "", pkgPath := "", byteOffset := 72 }, { name := "Word", type := 23, offset := 10, embedded := false, tag := "", pkgPath := "", byteOffset := 80 }] := by
  unfold Program.fieldsOf; rw [Tryz.underlying28]
/-- whether two configs of the suite are the same -/
def sameB (a0 a1 a2 a3 a4 a5 a6 a7 a8 a9 a10 b0 b1 b2 b3 b4 b5 b6 b7 b8 b9 b10 : Int) : Bool := (a0 == b0) && (a1 == b1) && (a2 == b2) && (a3 == b3) && (a4 == b4) && (a5 == b5) && (a6 == b6) && (a7 == b7) && (a8 == b8) && (a9 == b9) && (a10 == b10)
set_option maxHeartbeats 4000000 in
theorem neq28 (w : World) (a0 a1 a2 a3 a4 a5 a6 a7 a8 a9 a10 b0 b1 b2 b3 b4 b5 b6 b7 b8 b9 b10 : Int) : (binOp .neq 28 (.agg #[.int .i64 a0, .int .u64 a1, .int .u64 a2, .int .i64 a3, .int .i64 a4, .int .i64 a5, .int .u64 a6, .int .i64 a7, .int .i64 a8, .int .i64 a9, .int .u64 a10]) (.agg #[.int .i64 b0, .int .u64 b1, .int .u64 b2, .int .i64 b3, .int .i64 b4, .int .i64 b5, .int .u64 b6, .int .i64 b7, .int .i64 b8, .int .i64 b9, .int .u64 b10])).run Tryz.prog w = .ok (.bool !(sameB a0 a1 a2 a3 a4 a5 a6 a7 a8 a9 a10 b0 b1 b2 b3 b4 b5 b6 b7 b8 b9 b10)) w := by
  have h28 : Tryz.prog.underlying 28 = some (.struct (Tryz.prog.fieldsOf 28)) := by rw [fields28, Tryz.underlying28]
  have ag3 := fun w => Tryz.isAgg3 w
  have ag22 := fun w => Tryz.isAgg22 w
  have ag23 := fun w => Tryz.isAgg23 w
  have ag25 := fun w => Tryz.isAgg25 w
  have ag26 := fun w => Tryz.isAgg26 w
  have sz25 := fun w => Tryz.sizeOf25 w
  rw [run_neq_struct, show (10000 : Nat) = 9999 + 1 from rfl, run_equalIn_agg w 9999 28 _ _ h28 stood28, fields28]
  simp [Op.eqFields, part, ag3, ag22, ag23, ag25, ag26, sz25, eq25 _ 9997, run_equalIn_int (P := Tryz.prog) _ 9998 3 .i64 .i64 _ _ Tryz.underlying3, run_equalIn_int (P := Tryz.prog) _ 9998 22 .i64 .i64 _ _ Tryz.underlying22, run_equalIn_int (P := Tryz.prog) _ 9998 23 .u64 .u64 _ _ Tryz.underlying23, run_equalIn_int (P := Tryz.prog) _ 9998 26 .i64 .i64 _ _ Tryz.underlying26]
  clear h28 ag3 ag22 ag23 ag25 ag26 sz25
  unfold sameB
  by_cases k1 : a1 = b1 <;> by_cases k2 : a2 = b2 <;> simp only [k1, k2, not_true, not_false_iff, imp_false, forall_const, if_true, if_false] <;> (repeat' split) <;> simp_all
end Go.Proofs.YtbejdajkkoapgaaGreatDoor

