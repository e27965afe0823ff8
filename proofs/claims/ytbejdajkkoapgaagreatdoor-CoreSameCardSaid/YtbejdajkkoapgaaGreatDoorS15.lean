/-
  Several texts in one: Lu, Ri. What each proves, and on which conditions, stands at its head. Conditions: stated in each.
-/
import Derived.Test.YtbejdajkkoapgaaGreatDoorS14
import Derived.Test.YtbejdajkkoapgaaGreatDoorS01
/-
  Contracts of slices.BinarySearch at numbers, and of cells: Index, Rep. Conditions: stated in each.
-/
set_option linter.unusedVariables false
set_option linter.unusedSimpArgs false
set_option maxRecDepth 100000
namespace Go.Proofs.YtbejdajkkoapgaaGreatDoor
open Go.RowKit Go.Lib

theorem nan373 (x : Int) (w : World) : Calls Tryz.prog 373 #[.int .u64 x] w fun e w' => e = .returned (.bool false) ∧ w = w' := by
  have e : (x != x) = false := by simp
  go_enter Tryz.func373, Tryz.ntmps373
  go_wp2_with fail
  go_ret
  exact ⟨rfl, rfl⟩
theorem nan374 (x : Int) (w : World) : Calls Tryz.prog 374 #[.int .u64 x] w fun e w' => e = .returned (.bool false) ∧ w = w' := by
  have e : (x != x) = false := by simp
  go_enter Tryz.func374, Tryz.ntmps374
  go_wp2_with fail
  go_ret
  exact ⟨rfl, rfl⟩
theorem less64 (a b : Int) (w : World) : Calls Tryz.prog 372 #[.int .u64 a, .int .u64 b] w fun e w' => e = .returned (.bool (decide (a < b))) ∧ w = w' := by
  have hn := fun x W => nan374 x W
  go_enter Tryz.func372, Tryz.ntmps372
  go_wp2_with (go_at_call 374; refine (hn _ _).mono ?_; rintro e w1 ⟨rfl, rfl⟩)
  go_ret
  exact ⟨rfl, rfl⟩

/-- whether a number stands there -/
def bsHas (l : List Nat) (m n : Nat) : Bool := decide (bsF l m 0 n < n) && (l.getD (bsF l m 0 n) 0 == m)
set_option maxHeartbeats 4000000 in
theorem bsearch64 (w : World) (v : Value) (l : List Nat) (h : w.ownsRow 0 23 1 v l.length (natC l)) (h1 : 1 ≤ l.length) (hlen : l.length ≤ 1000000) (m : Nat) :
    Calls Tryz.prog 371 #[v, .int .u64 (m : Int)] w fun e w' => e = .returned (.tuple #[.int .i64 (bsF l m 0 l.length : Nat), .bool (bsHas l m l.length)]) ∧ Below w.heap.size w w' := by
  rcases owns_shape h with ⟨_, h0, _⟩ | ⟨g, cap, hv, hnc, hcap, _, hgl⟩
  · omega
  subst hv
  have hc : ∀ i, i < l.length → w.cell? ⟨g, i, none⟩ = some (.int .u64 ((l.getD i 0 : Nat) : Int)) := fun i hi => by rw [h.cellAt _ (by omega)]; exact natC_get l hi
  have Hc := Lib.hid hc
  obtain ⟨n, hn⟩ : ∃ n, n = l.length := ⟨_, rfl⟩
  have HN := Lib.hid hn
  rw [← hn] at hlen h1 ⊢
  have hg : g < w.heap.size := (h.lt g rfl).2
  clear h hc hn hnc hcap hgl
  have hle := fun W a b => less64 a b W
  have hna := fun W a => nan373 a W
  go_enter Tryz.func371, Tryz.ntmps371
  go_wp2
  go_loopg [7, 8, 9] n (fun k a b _ wr => ∃ lo hi : Nat, a = .int .i64 lo ∧ b = .int .i64 hi ∧ lo ≤ hi ∧ hi ≤ n ∧ bsF l m 0 n = bsF l m lo hi ∧ hi - lo ≤ k ∧ Below w.heap.size w wr)
  case atStart => exact ⟨0, n, rfl, rfl, Nat.zero_le _, Nat.le_refl _, rfl, by omega, Below.refl _ _⟩
  case round =>
    obtain ⟨lo, hi, rfl, rfl, k1, k2, k3, k4, hB⟩ := hrel
    obtain ⟨hc1, hf1⟩ := Wd.bcell hB
    by_cases hlt : lo < hi
    · have hm : (lo + hi) / 2 < l.length := by rw [← HN.out]; omega
      obtain ⟨d, hd⟩ : ∃ d, d = (lo + hi) / 2 := ⟨_, rfl⟩
      have c0 := Hc.out _ hm
      rw [← hc1 g _ hg, ← hd] at c0
      obtain ⟨a, ha⟩ : ∃ a, a = l.getD d 0 := ⟨_, rfl⟩
      rw [← ha] at c0
      have e1 : ((lo : Int) + (hi : Int)) / 2 = (d : Int) := by omega
      have e2 : (lo : Int) < (hi : Int) := by omega
      have m1 : d < n := by omega
      have HD := Lib.hid hd
      by_cases hax : a < m
      · have e3 : bsF l m lo hi = bsF l m (d + 1) hi := by rw [bsF_up hlt (by rw [← hd, ← ha]; exact hax), ← hd]
        have hl1 : ∀ W, Calls Tryz.prog 372 #[.int .u64 (a : Int), .int .u64 (m : Int)] W fun e w' => e = .returned (.bool true) ∧ W = w' := fun W => by
          have k := hle W a m
          rw [show decide ((a : Int) < (m : Int)) = true by simpa using hax] at k; exact k
        have HE := Lib.hid (k3.trans e3)
        clear e3 k3 ha hax hd hm hc1 hf1 hle
        go_wp2_with (go_at_call 372; refine (hl1 _).mono ?_; rintro e w1 ⟨rfl, rfl⟩)
        go_roundg (hi - (d + 1))
        case measure => have := HD.out; omega
        case rel => exact ⟨d + 1, hi, by go_num, rfl, by have := HD.out; omega, k2, HE.out, Nat.le_refl _, hB⟩
      · have e3 : bsF l m lo hi = bsF l m lo d := by rw [bsF_down hlt (by rw [← hd, ← ha]; exact hax), ← hd]
        have hl1 : ∀ W, Calls Tryz.prog 372 #[.int .u64 (a : Int), .int .u64 (m : Int)] W fun e w' => e = .returned (.bool false) ∧ W = w' := fun W => by
          have k := hle W a m
          rw [show decide ((a : Int) < (m : Int)) = false by simpa using hax] at k; exact k
        have HE := Lib.hid (k3.trans e3)
        clear e3 k3 ha hax hd hm hc1 hf1 hle
        go_wp2_with (go_at_call 372; refine (hl1 _).mono ?_; rintro e w1 ⟨rfl, rfl⟩)
        go_roundg (d - lo)
        case measure => have := HD.out; omega
        case rel => exact ⟨lo, d, rfl, rfl, by have := HD.out; omega, by omega, HE.out, Nat.le_refl _, hB⟩
    · have e2 : ¬ (lo : Int) < (hi : Int) := by omega
      have e3 : bsF l m 0 n = lo := k3.trans (bsF_end hlt)
      have HE := Lib.hid e3
      clear k3
      by_cases hn : lo < n
      · have hm : lo < l.length := by rw [← HN.out]; exact hn
        have c0 := Hc.out _ hm
        rw [← hc1 g _ hg] at c0
        obtain ⟨a, ha⟩ : ∃ a, a = l.getD lo 0 := ⟨_, rfl⟩
        rw [← ha] at c0
        have HA := Lib.hid ha
        have g2 : (lo : Int) < (n : Int) := by omega
        have g3 : decide (lo < n) = true := by simpa using hn
        have HB := Lib.hid hB
        by_cases hq : a = m
        · have q1 : ((a : Int) == (m : Int)) = true := by simp [hq]
          have q2 : bsHas l m n = true := by unfold bsHas; rw [e3, g3, ← ha]; simp [hq]
          have HQ := Lib.hid q2
          clear q2 hq ha hc1 hf1 hm e3 hB g3 hn hlt k1 k2 k4 hle
          go_wp2_with (go_at_call 373; refine (hna _ _).mono ?_; rintro e w1 ⟨rfl, rfl⟩)
          go_ret2
          exact ⟨by rw [HE.out, HQ.out]; rfl, HB.out⟩
        · have q1 : ((a : Int) == (m : Int)) = false := by simp; omega
          have q2 : bsHas l m n = false := by unfold bsHas; rw [e3, g3, ← ha]; simp; omega
          have HQ := Lib.hid q2
          clear q2 hq ha hc1 hf1 hm e3 hB g3 hn hlt k1 k2 k4 hle
          go_wp2_with (go_at_call 373; refine (hna _ _).mono ?_; rintro e w1 ⟨rfl, rfl⟩)
          go_ret2
          exact ⟨by rw [HE.out, HQ.out]; rfl, HB.out⟩
      · have g2 : ¬ (lo : Int) < (n : Int) := by omega
        have g3 : decide (lo < n) = false := by simpa using hn
        have q2 : bsHas l m n = false := by unfold bsHas; rw [e3, g3]; rfl
        have HQ := Lib.hid q2
        have HB := Lib.hid hB
        clear q2 hc1 hf1 e3 hB g3 hn hlt k1 k2 k4 hle
        go_wp2_with fail
        go_ret2
        exact ⟨by rw [HE.out, HQ.out]; rfl, HB.out⟩

theorem index_zero (w : World) (tb : Nat) :
    Calls Tryz.prog 368 #[.pointer (some ⟨tb, 0, none⟩), .int .u64 0] w fun e w' => e = .returned (.tuple #[.int .i64 0, .bool false]) ∧ w = w' := by
  go_enter Tryz.func368, Tryz.ntmps368
  go_wp2_with fail
  go_ret2
  exact ⟨rfl, rfl⟩
theorem index_any (w : World) (tb : Nat) (vl vr : Value) (num den n : Nat) (h : TabO w tb vl vr num den n) (hn : 1 ≤ n) (hn2 : n ≤ 4096) (m : Nat) (hm : 1 ≤ m) (hm2 : m ≤ 9223372036854775808) :
    Calls Tryz.prog 368 #[.pointer (some ⟨tb, 0, none⟩), .int .u64 (m : Int)] w fun e w' => e = .returned (.tuple #[.int .i64 (cix num den n m : Nat), .bool true]) ∧ Below w.heap.size w w' := by
  have c1 : w.cell? ⟨tb, 2, none⟩ = some vl := h.blk.cell rfl
  have g1 : ((m : Int) == 0) = false := by simp; omega
  have g2 : ¬ (9223372036854775808 : Int) < (m : Int) := by omega
  have hb := bsearch64 w vl (tlows num den n) (by rw [tlows_len]; exact h.lows) (by rw [tlows_len]; exact hn) (by rw [tlows_len]; omega) m
  rw [tlows_len] at hb
  obtain ⟨A, cap, hv⟩ := owns_slice h.lows
  subst hv
  have hp := cix_pos (num := num) (den := den) hn hm
  have hx : bsHas (tlows num den n) m n = cHas num den n m := rfl
  rw [hx] at hb
  unfold cix
  clear hx
  have hle := (bsF_in (tlows num den n) m n 0 n (by omega) (by omega)).2.1
  generalize bsF (tlows num den n) m 0 n = p at *
  generalize cHas num den n m = b at *
  clear h hn hm hm2
  cases b with
  | true =>
    clear hp
    go_enter Tryz.func368, Tryz.ntmps368
    go_wp2_with fail
    refine hb.mono ?_
    rintro e w1 ⟨rfl, b1⟩
    have HB := Lib.hid b1
    clear hb b1
    go_wp2_with fail
    go_ret2
    exact ⟨rfl, HB.out⟩
  | false =>
    have h1 := hp rfl
    have e1 : IntKind.i64.wrap ((p : Int) - 1) = ((p - 1 : Nat) : Int) := by rw [IntKind.wrap_i64]; omega
    obtain ⟨q, hq⟩ : ∃ q, q = p - 1 := ⟨_, rfl⟩
    have e2 : IntKind.i64.wrap ((p : Int) - 1) = (q : Int) := by rw [e1, hq]
    have HQ := Lib.hid hq
    clear hp e1 hq h1
    go_enter Tryz.func368, Tryz.ntmps368
    go_wp2_with fail
    refine hb.mono ?_
    rintro e w1 ⟨rfl, b1⟩
    have HB := Lib.hid b1
    clear hb b1
    go_wp2_with fail
    go_ret2
    exact ⟨by rw [HQ.out]; rfl, HB.out⟩

/-- what stands for a cell; 0: there is none such -/
def repN (num den n i : Nat) : Nat := if i < n then (treps num den n).getD i 0 else 0
theorem rep_any (w : World) (tb : Nat) (vl vr : Value) (num den n : Nat) (h : TabO w tb vl vr num den n) (hn2 : n ≤ 4096) (i : Nat) :
    Calls Tryz.prog 370 #[.pointer (some ⟨tb, 0, none⟩), .int .i64 (i : Int)] w fun e w' => e = .returned (.int .u64 (repN num den n i : Nat)) ∧ Below w.heap.size w w' := by
  have c1 : w.cell? ⟨tb, 3, none⟩ = some vr := h.blk.cell rfl
  obtain ⟨A, cap, hv⟩ := owns_slice h.reps
  subst hv
  have g0 : ¬ (i : Int) < 0 := by omega
  have HB := Lib.hid (Below.refl w.heap.size w)
  by_cases hi : i < n
  · have e : repN num den n i = (treps num den n).getD i 0 := by unfold repN; rw [if_pos hi]
    rcases owns_shape h.reps with ⟨_, h0, _⟩ | ⟨g, cap', hv, hnc, hcap, _, hgl⟩
    · omega
    simp only [Value.slice.injEq, true_and] at hv
    obtain ⟨rfl, rfl⟩ := hv
    have c0 : w.cell? ⟨g, i, none⟩ = some (.int .u64 (((treps num den n).getD i 0 : Nat) : Int)) := by rw [h.reps.cellAt _ (by omega)]; exact natC_get _ (by rw [treps_len]; exact hi)
    rw [e]
    generalize (treps num den n).getD i 0 = r at *
    have g1 : ¬ (n : Int) ≤ (i : Int) := by omega
    have g2 : (i : Int) < (n : Int) := by omega
    clear h e hnc hcap hgl
    go_enter Tryz.func370, Tryz.ntmps370
    go_wp2_with fail
    go_ret
    exact ⟨rfl, HB.out⟩
  · have e : repN num den n i = 0 := by unfold repN; rw [if_neg hi]
    rw [e]
    have g1 : (n : Int) ≤ (i : Int) := by omega
    clear h e
    go_enter Tryz.func370, Tryz.ntmps370
    go_wp2_with fail
    go_ret
    exact ⟨rfl, HB.out⟩
end Go.Proofs.YtbejdajkkoapgaaGreatDoor

/-
  A region that draws its order, walked by what holds of the frame and the world at any set of operations that have come up: one step for each operation serves all orders. Conditions: stated in each law.
-/
set_option linter.unusedVariables false
set_option linter.unusedSimpArgs false
namespace Go.Proofs.YtbejdajkkoapgaaGreatDoor
open Go.RowKit Go.Lib

/-- one more has come up -/
def upd (L : Nat → Bool) (i j : Nat) : Bool := if j = i then true else L j
theorem upd_self (L : Nat → Bool) (i : Nat) : upd L i i = true := by simp [upd]
theorem upd_ne {L : Nat → Bool} {i j : Nat} (h : j ≠ i) : upd L i j = L j := by simp [upd, h]
/-- how many have not come up -/
def leftN : Nat → (Nat → Bool) → Nat
  | 0, _ => 0
  | n + 1, L => (if L n then 0 else 1) + leftN n L
theorem leftN_congr {L M : Nat → Bool} : ∀ n, (∀ j, j < n → L j = M j) → leftN n L = leftN n M
  | 0, _ => rfl
  | n + 1, h => by
    simp only [leftN, h n (Nat.lt_succ_self n), leftN_congr n fun j hj => h j (by omega)]
theorem leftN_upd {L : Nat → Bool} {i : Nat} : ∀ n, i < n → L i = false → leftN n (upd L i) + 1 = leftN n L
  | n + 1, hi, h => by
    rcases Nat.lt_or_ge i n with e | e
    · have ih := leftN_upd (L := L) n e h
      simp only [leftN, upd_ne (L := L) (i := i) (j := n) (by omega)]
      omega
    · have e2 : i = n := by omega
      subst e2
      have : leftN i (upd L i) = leftN i L := leftN_congr i fun j hj => upd_ne (by omega)
      simp only [leftN, upd_self, h, this]
      simp; omega
theorem leftN_zero {L : Nat → Bool} : ∀ n, leftN n L = 0 → ∀ i, i < n → L i = true
  | n + 1, h, i, hi => by
    simp only [leftN] at h
    rcases Nat.lt_or_ge i n with e | e
    · exact leftN_zero n (by omega) i e
    · have e2 : i = n := by omega
      subst e2
      cases hL : L i with
      | true => rfl
      | false => rw [hL] at h; simp at h
/-- what an operation waits for stands ahead of it -/
def lowB (l : List Oper) : Bool := (List.range l.length).all fun i => ((l[i]?).map (·.after.all fun e => !Region.binds .any e || decide (e.on < i))).getD true
theorem lowB_spec {l : List Oper} (h : lowB l = true) {i : Nat} {o : Oper} (hi : l[i]? = some o) : ∀ e ∈ o.after, Region.binds .any e = true → e.on < i := fun e he hb => by
  unfold lowB at h
  have hl : i < l.length := (List.getElem?_eq_some_iff.1 hi).1
  have h1 := List.all_eq_true.1 h i (List.mem_range.2 hl)
  rw [hi] at h1
  simp only [Option.map_some, Option.getD_some] at h1
  have h2 := Array.all_eq_true'.1 h1 e he
  rw [hb] at h2
  simpa using h2

section
variable {P : Program} {l : List Oper} {Q : Exit → Act → World → Prop}
theorem wpAny_inv (Inv : (Nat → Bool) → Act → World → Prop) (hlow : lowB l = true)
    (hstep : ∀ L a w, Inv L a w → ∀ i o, l[i]? = some o → L i = false → (∀ e ∈ o.after, Region.binds .any e = true → L e.on = true) → wpOp P l.toArray Q i (fun a' w' => Inv (upd L i) a' w') a w)
    (hend : ∀ L a w, Inv L a w → (∀ i, i < l.length → L i = true) → Q .normal a w) : ∀ (fuel : Nat) (listed : Array Bool) (L : Nat → Bool) (a : Act) (w : World), listed.size = l.length → (∀ j, j < l.length → listed.getD j false = L j) → leftN l.length L ≤ fuel → Inv L a w → wpAny P .any l.toArray Q fuel listed a w := by
  have hnone : ∀ (listed : Array Bool) (L : Nat → Bool), listed.size = l.length → (∀ j, j < l.length → listed.getD j false = L j) → Region.ready .any l.toArray listed = [] → ∀ i, i < l.length → L i = true := fun listed L hs hL hr i => by
    refine Nat.strongRecOn i fun i ih hi => ?_
    cases hLi : L i with
    | true => rfl
    | false =>
      exfalso
      have hm : i ∈ Region.ready .any l.toArray listed := by
        refine mem_ready.2 ⟨?_, l[i]'hi, by simp, fun e he hb => ?_⟩
        · have h1 := hL i hi
          rw [hLi] at h1
          rw [Array.getD_eq_getD_getElem?, Array.getElem?_eq_getElem (by omega)] at h1 ⊢
          exact h1
        · have h1 := lowB_spec hlow (List.getElem?_eq_getElem hi) e he hb
          have h2 := ih e.on h1 (by omega)
          rw [hL _ (by omega)]; exact h2
      rw [hr] at hm
      cases hm
  intro fuel
  induction fuel with
  | zero =>
    intro listed L a w hs hL hf hI
    have hall := leftN_zero _ (Nat.le_zero.1 hf)
    refine ⟨?_, hend L a w hI hall⟩
    cases hr : Region.ready .any l.toArray listed with
    | nil => rfl
    | cons j rest =>
      exfalso
      have hj : j ∈ Region.ready .any l.toArray listed := by rw [hr]; exact List.mem_cons_self
      obtain ⟨h1, o, ho, _⟩ := mem_ready.1 hj
      have hjl : j < l.length := by simpa using (Array.getElem?_eq_some_iff.1 ho).1
      have h2 := hL j hjl
      rw [hall j hjl] at h2
      rw [Array.getD_eq_getD_getElem?, Array.getElem?_eq_getElem (by omega)] at h1 h2
      simp only [Option.getD_some] at h1 h2
      rw [h1] at h2; cases h2
  | succ fuel ih =>
    intro listed L a w hs hL hf hI
    refine ⟨fun hr => hend L a w hI (hnone listed L hs hL hr), fun i hi => ?_⟩
    obtain ⟨h1, o, ho, hd⟩ := mem_ready.1 hi
    have hil : i < l.length := by simpa using (Array.getElem?_eq_some_iff.1 ho).1
    have hLi : L i = false := by
      rw [← hL i hil]
      rw [Array.getD_eq_getD_getElem?, Array.getElem?_eq_getElem (by omega)] at h1 ⊢
      exact h1
    have ho' : l[i]? = some o := by simpa using ho
    refine wpOp_mono (fun a' w' h' => ?_) (hstep L a w hI i o ho' hLi fun e he hb => ?_)
    · refine ih (listed.setIfInBounds i true) (upd L i) a' w' (by simp [hs]) (fun j hj => ?_) ?_ h'
      · by_cases hji : j = i
        · subst hji
          rw [upd_self, Array.getD_eq_getD_getElem?, Array.getElem?_setIfInBounds_self_of_lt (by omega)]; rfl
        · rw [upd_ne hji, ← hL j hj, Array.getD_eq_getD_getElem?, Array.getD_eq_getD_getElem?, Array.getElem?_setIfInBounds_ne (Ne.symm hji)]
      · have := leftN_upd l.length hil hLi
        omega
    · have h2 := hd e he hb
      have h3 := lowB_spec hlow ho' e he hb
      rw [hL _ (by omega)] at h2; exact h2

/-- one operation that is wanted -/
theorem wpOp_on {ops : Array Oper} {i : Nat} {o : Oper} (hi : ops[i]? = some o) (hg : o.guard = none) {a : Act} {w : World} {K : Act → World → Prop} (h : o.wp P a w K Q) : wpOp P ops Q i K a w := by
  unfold wpOp
  rw [hi]
  have hw : Region.wanted o (yielded ops a.tmps) = true := by simp [Region.wanted, hg]
  simp only [hw, if_true]
  exact .inl h
/-- an operation that hands back a value -/
theorem wp_value {o : Oper} {a : Act} {w w' : World} {v : Value} {K : Act → World → Prop} (hr : (execOp a.eval o).run P w = .ok (.value v) w') (h : K (a.put o.dst v) w') : o.wp P a w K Q := by
  unfold Oper.wp
  rw [hr]
  exact h
theorem wp_skip {o : Oper} {a : Act} {w w' : World} {K : Act → World → Prop} (hr : (execOp a.eval o).run P w = .ok .skip w') (h : K (a.put o.dst undef) w') : o.wp P a w K Q := by
  unfold Oper.wp
  rw [hr]
  exact h
/-- the frame, once these have come up: a slot, whether it has, and its value -/
def acts (a0 : Act) (t : List (Nat × Bool × Value)) : Act := { a0 with tmps := t.foldl (fun arr e => if e.2.1 then arr.setIfInBounds e.1 e.2.2 else arr) a0.tmps }
theorem acts_get_other {d : Nat} (t : List (Nat × Bool × Value)) (h : ∀ e ∈ t, e.1 ≠ d) : ∀ arr : Array Value, (t.foldl (fun arr e => if e.2.1 then arr.setIfInBounds e.1 e.2.2 else arr) arr)[d]? = arr[d]? := by
  induction t with
  | nil => intro arr; rfl
  | cons e t ih =>
    intro arr
    rw [List.foldl_cons, ih fun x hx => h x (List.mem_cons_of_mem _ hx)]
    split
    · exact Array.getElem?_setIfInBounds_ne (h e List.mem_cons_self)
    · rfl
theorem acts_get {d : Nat} {v : Value} : ∀ (t : List (Nat × Bool × Value)) (k : Nat), t[k]? = some (d, true, v) → (t.map (·.1)).Nodup → ∀ arr : Array Value, d < arr.size → (t.foldl (fun arr e => if e.2.1 then arr.setIfInBounds e.1 e.2.2 else arr) arr)[d]? = some v
  | [], k, h, _, _, _ => by simp at h
  | e :: t, 0, h, hn, arr, hd => by
    simp only [List.getElem?_cons_zero, Option.some.injEq] at h
    subst h
    rw [List.foldl_cons, acts_get_other t fun x hx e => by
      have h1 := (List.nodup_cons.1 hn).1
      exact h1 (List.mem_map.2 ⟨x, hx, e⟩)]
    simp [hd]
  | e :: t, k + 1, h, hn, arr, hd => by
    rw [List.foldl_cons]
    refine acts_get t k (by simpa using h) (List.nodup_cons.1 hn).2 _ ?_
    split <;> simpa using hd
theorem acts_set {d : Nat} {u v : Value} : ∀ (t : List (Nat × Bool × Value)) (k : Nat), t[k]? = some (d, false, u) → (t.map (·.1)).Nodup → ∀ arr : Array Value, (t.foldl (fun arr e => if e.2.1 then arr.setIfInBounds e.1 e.2.2 else arr) arr).setIfInBounds d v = ((t.set k (d, true, v)).foldl (fun arr e => if e.2.1 then arr.setIfInBounds e.1 e.2.2 else arr) arr)
  | [], k, h, _, _ => by simp at h
  | e :: t, 0, h, hn, arr => by
    simp only [List.getElem?_cons_zero, Option.some.injEq] at h
    subst h
    have h1 := (List.nodup_cons.1 hn).1
    rw [List.set_cons_zero, List.foldl_cons, List.foldl_cons]
    simp only [Bool.false_eq_true, if_false, if_true]
    have key : ∀ (t : List (Nat × Bool × Value)), (∀ x ∈ t, x.1 ≠ d) → ∀ arr : Array Value, (t.foldl (fun arr e => if e.2.1 then arr.setIfInBounds e.1 e.2.2 else arr) arr).setIfInBounds d v = t.foldl (fun arr e => if e.2.1 then arr.setIfInBounds e.1 e.2.2 else arr) (arr.setIfInBounds d v) := fun t => by
      induction t with
      | nil => intro _ arr; rfl
      | cons x t ih =>
        intro hx arr
        rw [List.foldl_cons, List.foldl_cons, ih fun y hy => hx y (List.mem_cons_of_mem _ hy)]
        split
        · rw [Array.setIfInBounds_comm _ _ (hx x List.mem_cons_self)]
        · rfl
    exact key t (fun x hx e => h1 (List.mem_map.2 ⟨x, hx, e⟩)) arr
  | e :: t, k + 1, h, hn, arr => by
    rw [List.set_cons_succ, List.foldl_cons, List.foldl_cons]
    exact acts_set t k (by simpa using h) (List.nodup_cons.1 hn).2 _
theorem acts_put {a0 : Act} {t : List (Nat × Bool × Value)} {k d : Nat} {u v : Value} (hk : t[k]? = some (d, false, u)) (hn : (t.map (·.1)).Nodup) : (acts a0 t).put (some d) v = acts a0 (t.set k (d, true, v)) := by
  unfold acts Act.put
  simp only []
  rw [acts_set t k hk hn]
theorem acts_eval {a0 : Act} {t : List (Nat × Bool × Value)} {k d : Nat} {v : Value} (hk : t[k]? = some (d, true, v)) (hn : (t.map (·.1)).Nodup) (hd : d < a0.tmps.size) : (acts a0 t).eval (.tmp d) = v := by
  unfold acts Act.eval
  simp only []
  rw [Array.getD_eq_getD_getElem?, acts_get t k hk hn _ hd]; rfl
theorem acts_other {a0 : Act} {t : List (Nat × Bool × Value)} {d : Nat} (h : ∀ e ∈ t, e.1 ≠ d) : (acts a0 t).eval (.tmp d) = a0.eval (.tmp d) := by
  unfold acts Act.eval
  simp only []
  rw [Array.getD_eq_getD_getElem?, acts_get_other t h, ← Array.getD_eq_getD_getElem?]
/-- the same with the frame told by its slots -/
theorem wpAny_acts {Θ : Type} (tab : (Nat → Bool) → Θ → List (Nat × Bool × Value)) (NW : (Nat → Bool) → Θ → World → Prop) (L0 : Nat → Bool) (θ0 : Θ) {fuel : Nat} {listed : Array Bool} {a : Act} {w : World} (hlow : lowB l = true)
    (hs : listed.size = l.length) (hL : ∀ j, j < l.length → listed.getD j false = L0 j) (hf : leftN l.length L0 ≤ fuel) (h0 : acts a (tab L0 θ0) = a) (hw : NW L0 θ0 w)
    (hstep : ∀ L θ w, NW L θ w → ∀ i o, l[i]? = some o → L i = false → (∀ e ∈ o.after, Region.binds .any e = true → L e.on = true) → wpOp P l.toArray Q i (fun a' w' => ∃ θ', a' = acts a (tab (upd L i) θ') ∧ NW (upd L i) θ' w') (acts a (tab L θ)) w)
    (hend : ∀ L θ w, NW L θ w → (∀ i, i < l.length → L i = true) → Q .normal (acts a (tab L θ)) w) : wpAny P .any l.toArray Q fuel listed a w := by
  refine wpAny_inv (fun L a' w' => ∃ θ, a' = acts a (tab L θ) ∧ NW L θ w') hlow ?_ ?_ fuel listed L0 a w hs hL hf ⟨θ0, h0.symm, hw⟩
  · rintro L a' w' ⟨θ, rfl, h⟩ i o hi hLi hd
    exact hstep L θ w' h i o hi hLi hd
  · rintro L a' w' ⟨θ, rfl, h⟩ hall
    exact hend L θ w' h hall
/-- the same, the operations that have come up told by a list -/
theorem wpAny_acts2 {Θ : Type} (tab : (Nat → Bool) → Θ → List (Nat × Bool × Value)) (NW : (Nat → Bool) → Θ → World → Prop) (l0 : List Bool) (θ0 : Θ) {fuel : Nat} {listed : Array Bool} {a : Act} {w : World} (hl : listed = l0.toArray) (hlow : lowB l = true)
    (hs : l0.length = l.length) (hf : Nat.ble (leftN l.length (fun j => l0.getD j false)) fuel = true) (h0 : acts a (tab (fun j => l0.getD j false) θ0) = a) (hw : NW (fun j => l0.getD j false) θ0 w)
    (hstep : ∀ L θ w, NW L θ w → ∀ i o, l[i]? = some o → L i = false → (∀ e ∈ o.after, Region.binds .any e = true → L e.on = true) → wpOp P l.toArray Q i (fun a' w' => ∃ θ', a' = acts a (tab (upd L i) θ') ∧ NW (upd L i) θ' w') (acts a (tab L θ)) w)
    (hend : ∀ L θ w, NW L θ w → (∀ i, i < l.length → L i = true) → Q .normal (acts a (tab L θ)) w) : wpAny P .any l.toArray Q fuel listed a w := by
  subst hl
  refine wpAny_acts tab NW (fun j => l0.getD j false) θ0 hlow (by simpa using hs) (fun j hj => ?_) (Nat.le_of_ble_eq_true hf) h0 hw hstep hend
  rw [Array.getD_eq_getD_getElem?, List.getElem?_toArray, ← List.getD_eq_getElem?_getD]
/-- a value to a slot of the frame -/
theorem acts_step {a0 : Act} {t t' : List (Nat × Bool × Value)} (k : Nat) {d : Nat} {u v : Value} (hk : t[k]? = some (d, false, u)) (hn : (t.map (·.1)).Nodup) (ht : t.set k (d, true, v) = t') : (acts a0 t).put (some d) v = acts a0 t' := by
  subst ht; exact acts_put hk hn
end
end Go.Proofs.YtbejdajkkoapgaaGreatDoor

