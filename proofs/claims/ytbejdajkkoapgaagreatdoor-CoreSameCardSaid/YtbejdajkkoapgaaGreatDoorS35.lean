/-
  Several texts in one: J19. What each proves, and on which conditions, stands at its head. Conditions: stated in each.
-/
import Derived.Test.YtbejdajkkoapgaaGreatDoorS06
import Derived.Test.YtbejdajkkoapgaaGreatDoorS34
import Derived.Test.YtbejdajkkoapgaaGreatDoorS12
import Derived.Test.YtbejdajkkoapgaaGreatDoorS18
import Derived.Test.YtbejdajkkoapgaaGreatDoorS13
import Derived.Test.YtbejdajkkoapgaaGreatDoorS21
import Derived.Test.YtbejdajkkoapgaaGreatDoorS02
import Derived.Test.YtbejdajkkoapgaaGreatDoorTie
import Derived.ProofKit
import Derived.LaidMore
import Derived.OpenShut
import Derived.Stop.Joined
import Derived.SevenTiedAt
import Derived.Test.YtbejdajkkoapgaaGreatDoorS25
import Derived.Test.YtbejdajkkoapgaaGreatDoorS20
import Derived.Deep.SlicePairs
import Derived.ChangeSlices
import Derived.Lib.SmallJoins
/-
  Several texts in one: Hq, Ha, Ty, Op. What each proves, and on which conditions, stands at its head. Conditions: stated in each.
-/
/-
  Contract of hdr.Quantile of a half of a sketch that has the value 5 twice. Conditions: none beyond.
-/
set_option linter.unusedVariables false
set_option linter.unusedSimpArgs false
set_option maxRecDepth 100000
namespace Go.Proofs.YtbejdajkkoapgaaGreatDoor
open Go.RowKit Go.Lib

theorem find_first (w : World) (sb : Nat) (v : Value) (i c t : Nat) (l : Row) (h : StripO w sb v ((i, c) :: l)) (h1 : 1 ≤ t) (h2 : t ≤ c) (hs : rowTotal ((i, c) :: l) ≤ 9223372036854775807) :
    Calls Tryz.prog 241 #[.pointer (some ⟨sb, 0, none⟩), .int .u64 (t : Int)] w fun e w' => e = .returned (.tuple #[.int .i64 (i : Int), .bool true]) ∧ w = w' := by
  obtain ⟨c0, c1, c2, f1, f2⟩ := h.cells
  have hc : c ≤ rowTotal ((i, c) :: l) := by unfold rowTotal; rw [sumIf_cons]; simp
  generalize rowTotal ((i, c) :: l) = T at c2 hs hc
  rcases owns_shape h.own with ⟨_, hn, _⟩ | ⟨g, cap, hv, hnc, hcap, _, hg⟩
  · simp at hn
  · subst hv
    have k0 : w.cell? ⟨g, 0, none⟩ = some (.int .i64 (i : Int)) := by rw [h.own.cellAt 0 (by simp)]; rfl
    have k1 : w.cell? ⟨g, 1, none⟩ = some (.int .u64 (c : Int)) := by rw [h.own.cellAt 1 (by simp; omega)]; rfl
    have hn : 0 < ((i, c) :: l).length := by simp
    generalize ((i, c) :: l).length = n at c1 hn hnc
    have g1 : ((t : Int) == 0) = false := by simp; omega
    have g2 : ¬ (T : Int) < (t : Int) := by omega
    have g3 : ¬ (c : Int) < (t : Int) := by omega
    clear h
    have g4 : decide (T < t) = false := by simp; omega
    go_enter Tryz.func241, Tryz.ntmps241
    go_wp2
    refine wp_scope_loop 0 (fun a' wr => a' = { tmps := #[.pointer (some ⟨sb, 0, none⟩), .int .u64 (t : Int), undef, undef, .int .i64 0, .bool false, .int .i64 0, .pointer (some ⟨sb, 0, none⟩), .bool false, .bool false, .int .u64 (t : Int), .bool false, .bool false, .bool false, .int .u64 (t : Int), .pointer (some ⟨sb, 0, none⟩), .pointer (some ⟨sb, 0, none⟩), .pointer (some ⟨sb, 2, none⟩), .int .u64 (T : Int), .bool false, .bool false, undef, undef, undef, undef, undef, undef, undef, undef, undef, undef, undef, undef, undef, undef, undef, undef, undef, undef, undef, undef, undef, undef, undef, undef, undef, undef, undef, undef, undef, undef], defers := [] } ∧ w = wr) (fun _ _ => 0) rfl ?pass ?first
    case pass =>
      rintro a' wr ⟨rfl, rfl⟩
      go_wp2_with fail
      simp only [Exit.jump]
      go_ret2
      exact ⟨rfl, rfl⟩
    case first =>
      intro hp
      go_wp2
      go_step3
      rename_i hK
      exact hK _ _ (hp _ _ ⟨rfl, rfl⟩)

theorem rep5 : Sp.repS (Sp.logD 1) 5 = 5 := by decide
theorem val5 : Sg.valF 5 false = 5 ∧ Sg.canF 5 false = true := by decide

set_option maxHeartbeats 4000000 in
theorem hdr_find5 (w : World) (hb pb s0 s1 : Nat) (v0 v1 : Value) (h : HdO w hb pb s0 s1 v0 v1 1 0 [] [(5, 2)] 0 5 5) :
    Calls Tryz.prog 240 #[.pointer (some ⟨hb, 0, none⟩), .int .u64 1] w fun e w' => e = .returned (.int .i64 5) ∧ Below w.heap.size w w' := by
  obtain ⟨c0, c1, c2, c3, c4, c5, c6, c7, f5, f6, f7⟩ := h.cells
  have ht : w.cell? ⟨s0, 2, none⟩ = some (.int .u64 ((0 : Nat) : Int)) := h.st0.cells.2.2.1
  have hto := strip_total w s0 0 ht
  have hfi := fun q => find_first (w.drewN q) s1 v1 5 2 1 [] (h.next (w' := w.drewN q) ⟨rfl, rfl, rfl, Nat.le_refl _, fun _ _ => rfl⟩).st1 (by decide) (by decide) (by decide)
  have hre := fun q => Sp.rep_any pb (Sp.logD 1) 5 (w.drewN q) (Sp.logD_le 1).2 (by simpa using h.span)
  rw [rep5] at hre
  have hva := fun W => Sg.value_any 5 false W (by decide) (by decide)
  rw [val5.1, val5.2] at hva
  clear h ht
  go_enter Tryz.func240, Tryz.ntmps240
  go_wp2_with (go_at_call 94; refine hto.mono ?_; rintro e w1 ⟨rfl, rfl⟩)
  go_quiet ((go_at_call 241; refine Calls.quiet_of_same ((hfi _).mono fun e w' hh => ⟨hh.1, hh.2.symm⟩)))
  go_wp2_with fail
  refine (hre _).mono ?_
  rintro e w2 ⟨rfl, n, rfl⟩
  go_wp2_with fail
  refine (hva _).mono ?_
  rintro e w3 ⟨rfl, rfl⟩
  go_wp2_with fail
  go_ret
  exact ⟨rfl, by first | exact ⟨rfl, rfl, rfl, Nat.le_refl _, fun _ _ => rfl⟩ | exact Below.refl _ _⟩

/-- a sketch, and a ratio's box -/
structure HqC (w : World) (hb pb s0 s1 : Nat) (v0 v1 : Value) (dg : Nat) (lim : Int) (l0 l1 : Row) (z : Nat) (lo hi : Int) (b : Nat) (u0 u1 : Value) (W : World) : Prop where
  hd : HdO W hb pb s0 s1 v0 v1 dg lim l0 l1 z lo hi
  below : Below w.heap.size w W
  p0 : W.cell? ⟨b, 0, none⟩ = some u0
  p1 : W.cell? ⟨b, 1, none⟩ = some u1
theorem HqC.next {w W W' : World} {hb pb s0 s1 : Nat} {v0 v1 : Value} {dg : Nat} {lim : Int} {l0 l1 : Row} {z : Nat} {lo hi : Int} {b : Nat} {u0 u1 : Value} (h : HqC w hb pb s0 s1 v0 v1 dg lim l0 l1 z lo hi b u0 u1 W) (hb' : Below W.heap.size W W') : HqC w hb pb s0 s1 v0 v1 dg lim l0 l1 z lo hi b u0 u1 W' :=
  ⟨h.hd.next hb', h.below.trans (hb'.mono h.below.size), (hb'.cell (p := ⟨b, 0, none⟩) (block_lt_of_cell (a := ⟨b, 0, none⟩) h.p0)).trans h.p0, (hb'.cell (p := ⟨b, 1, none⟩) (block_lt_of_cell (a := ⟨b, 1, none⟩) h.p1)).trans h.p1⟩
theorem HqC.drew {w W : World} {hb pb s0 s1 : Nat} {v0 v1 : Value} {dg : Nat} {lim : Int} {l0 l1 : Row} {z : Nat} {lo hi : Int} {b : Nat} {u0 u1 : Value} (h : HqC w hb pb s0 s1 v0 v1 dg lim l0 l1 z lo hi b u0 u1 W) : HqC w hb pb s0 s1 v0 v1 dg lim l0 l1 z lo hi b u0 u1 W.drew := h.next (Below.refl _ _).drew
set_option maxHeartbeats 4000000 in
theorem hdr_quant5 (w : World) (hb pb s0 s1 : Nat) (v0 v1 : Value) (h : HdO w hb pb s0 s1 v0 v1 1 0 [] [(5, 2)] 0 5 5) :
    Calls Tryz.prog 237 #[.pointer (some ⟨hb, 0, none⟩), .agg #[.int .u64 1, .int .u64 2]] w fun e w' => e = .returned (.tuple #[.int .i64 5, .int .i64 0]) ∧ Below w.heap.size w w' := by
  have H : HqC w hb pb s0 s1 v0 v1 1 0 [] [(5, 2)] 0 5 5 w.heap.size (.int .u64 1) (.int .u64 2) (w.alloc (.cells #[.int .u64 1, .int .u64 2] 25)) :=
    ⟨h.next ((Below.refl _ _).alloc (Nat.le_refl _) _), (Below.refl _ _).alloc (Nat.le_refl _) _, (Blk.new w _ _).cell rfl, (Blk.new w _ _).cell rfl⟩
  have hto := fun W (k : HdO W hb pb s0 s1 v0 v1 1 0 [] [(5, 2)] 0 5 5) => hdr_total W hb pb s0 s1 v0 v1 1 0 [] [(5, 2)] 0 5 5 k (by decide)
  have hpl := fun W => Wd.place_any 1 2 2 W (by decide) (by decide) (by decide) (by decide) (by decide)
  have e1 : hdT [] [(5, 2)] 0 = 2 := by decide
  have e2 : placeN 1 2 2 = 1 := by decide
  rw [e1] at hto
  rw [e2] at hpl
  have hfi := fun W (k : HdO W hb pb s0 s1 v0 v1 1 0 [] [(5, 2)] 0 5 5) => hdr_find5 W hb pb s0 s1 v0 v1 k
  clear h e1 e2
  go_enter Tryz.func237, Tryz.ntmps237
  go_upto_region 3 with fail
  refine wp_region_quiet_litC (C := HqC w hb pb s0 s1 v0 v1 1 0 [] [(5, 2)] 0 5 5 w.heap.size (.int .u64 1) (.int .u64 2)) (by kernel_rfl) (by kernel_rfl) H.drew ?_
  repeat (first | go_big_quiet_skip | (go_big_quiet_want; go_big_quiet_op; first | go_big_quiet_on | (refine quiet_const ?_; go_big_quiet_on)))
  go_big_quiet_want
  refine ⟨.agg #[.int .u64 1, .int .u64 2], fun wx hx => ?_, ?_⟩
  · have q0 := hx.p0; have q1 := hx.p1
    go_simp
  go_big_quiet_on
  simp only [Act.put, List.setIfInBounds_toArray, List.set_cons_zero, List.set_cons_succ]
  repeat (first | go_big_quiet_skip | (go_big_quiet_want; go_big_quiet_op; first | go_big_quiet_on | (refine quiet_const ?_; go_big_quiet_on)))
  go_big_quiet_want
  go_big_quiet_op
  refine ⟨.int .u64 2, fun wx hx => ?_, ?_⟩
  · exact (hto wx hx.hd).mono fun _ _ hm => ⟨hm.1, hx.next hm.2⟩
  go_big_quiet_on
  repeat (first | go_big_quiet_skip | (go_big_quiet_want; go_big_quiet_op; first | go_big_quiet_on | (refine quiet_const ?_; go_big_quiet_on)))
  go_big_quiet_want
  go_big_quiet_op
  refine ⟨.tuple #[.int .u64 1, .int .i64 0], fun wx hx => ?_, ?_⟩
  · exact (hpl wx).mono fun _ _ hm => ⟨hm.1, hx.next hm.2⟩
  go_big_quiet_on
  repeat (first | go_big_quiet_skip | (go_big_quiet_want; go_big_quiet_op; first | go_big_quiet_on | (refine quiet_const ?_; go_big_quiet_on)))
  refine wpQuiet_nil ?_
  intro W1 H1
  clear H hto hpl
  go_upto_region 6 with fail
  refine wp_region_quiet_litC (C := HqC w hb pb s0 s1 v0 v1 1 0 [] [(5, 2)] 0 5 5 w.heap.size (.int .u64 1) (.int .u64 2)) (by kernel_rfl) (by kernel_rfl) H1.drew ?_
  repeat (first | go_big_quiet_skip | (go_big_quiet_want; go_big_quiet_op; first | go_big_quiet_on | (refine quiet_const ?_; go_big_quiet_on)))
  go_big_quiet_want
  go_big_quiet_op
  refine ⟨.int .i64 5, fun wx hx => ?_, ?_⟩
  · exact (hfi wx hx.hd).mono fun _ _ hm => ⟨hm.1, hx.next hm.2⟩
  go_big_quiet_on
  repeat (first | go_big_quiet_skip | (go_big_quiet_want; go_big_quiet_op; first | go_big_quiet_on | (refine quiet_const ?_; go_big_quiet_on)))
  go_big_quiet_want
  refine ⟨.int .i64 5, fun wx hx => ?_, ?_⟩
  · obtain ⟨c0, c1, c2, c3, c4, c5, c6, c7, f5, f6, f7⟩ := hx.hd.cells
    go_simp
  go_big_quiet_on
  simp only [Act.put, List.setIfInBounds_toArray, List.set_cons_zero, List.set_cons_succ]
  repeat (first | go_big_quiet_skip | (go_big_quiet_want; go_big_quiet_op; first | go_big_quiet_on | (refine quiet_const ?_; go_big_quiet_on)))
  go_big_quiet_want
  refine ⟨.int .i64 5, fun wx hx => ?_, ?_⟩
  · obtain ⟨c0, c1, c2, c3, c4, c5, c6, c7, f5, f6, f7⟩ := hx.hd.cells
    go_simp
  go_big_quiet_on
  simp only [Act.put, List.setIfInBounds_toArray, List.set_cons_zero, List.set_cons_succ]
  repeat (first | go_big_quiet_skip | (go_big_quiet_want; go_big_quiet_op; first | go_big_quiet_on | (refine quiet_const ?_; go_big_quiet_on)))
  refine wpQuiet_nil ?_
  intro W2 H2
  have HB := Lib.hid H2.below
  clear H1 H2 hfi
  go_wp2_with fail
  go_ret2
  exact ⟨rfl, HB.out⟩
end Go.Proofs.YtbejdajkkoapgaaGreatDoor

/-
  Contracts of suite.fresh and New at a hdr config, of the suite's methods at a hdr sketch; alive answers true. Conditions: the table of tens is there.
-/
set_option linter.unusedVariables false
set_option linter.unusedSimpArgs false
set_option maxRecDepth 100000
namespace Go.Proofs.YtbejdajkkoapgaaGreatDoor
open Go.RowKit Go.Lib

theorem fresh_hdr (w : World) (ht : Sp.Tens w) (a1 a2 a3 a4 a5 a6 a7 a8 a9 a10 : Int) (h6 : 0 ≤ a6) :
    Calls Tryz.prog 30 #[.agg #[.int .i64 2, .int .u64 a1, .int .u64 a2, .int .i64 a3, .int .i64 a4, .int .i64 a5, .int .u64 a6, .int .i64 a7, .int .i64 a8, .int .i64 a9, .int .u64 a10]] w (FreshK 129 (fun W db O => HdV a5.toNat a6 [] W db O ∧ 1 ≤ a5 ∧ a5 ≤ 4 ∧ a6 ≤ 9223372036854775808) (1 ≤ a5 ∧ a5 ≤ 4 ∧ a6 ≤ 9223372036854775808) w) := by
  have b0 : Below w.heap.size w (w.alloc (.cells #[.int .i64 2, .int .u64 a1, .int .u64 a2, .int .i64 a3, .int .i64 a4, .int .i64 a5, .int .u64 a6, .int .i64 a7, .int .i64 a8, .int .i64 a9, .int .u64 a10] 28)) := (Below.refl _ w).alloc (Nat.le_refl _) _
  by_cases hg : 1 ≤ a5 ∧ a5 ≤ 4 ∧ a6 ≤ 9223372036854775808
  · obtain ⟨g1, g2, g3⟩ := hg
    obtain ⟨d, rfl⟩ : ∃ d : Nat, a5 = (d : Int) := ⟨a5.toNat, by omega⟩
    have hn := hdr_new _ (ht.next b0) d a6 (by omega) (by omega) h6 g3
    clear ht h6
    go_enter Tryz.func30, Tryz.ntmps30
    go_wp2_with fail
    refine hn.mono ?_
    rintro e w1 ⟨hb, pb, s0, s1, rfl, H1, z1, z2, z3, z4, b1⟩
    have HH := Lib.hid (And.intro H1 (And.intro b1 (And.intro z1 (And.intro z2 (And.intro z3 z4)))))
    clear hn H1 b1 z1 z2 z3 z4
    go_wp2_with fail
    go_ret2
    obtain ⟨H1, b1, z1, z2, z3, z4⟩ := HH.out
    have hsz : (w.alloc (.cells #[.int .i64 2, .int .u64 a1, .int .u64 a2, .int .i64 a3, .int .i64 a4, .int .i64 (d : Int), .int .u64 a6, .int .i64 a7, .int .i64 a8, .int .i64 a9, .int .u64 a10] 28)).heap.size = w.heap.size + 1 := by simp
    rw [hsz] at z1 z2 z3 z4
    refine ⟨_, 0, rfl, b0.trans (b1.mono b0.size), fun _ => ⟨hb, _, rfl, ⟨by rw [Int.toNat_natCast]; exact hdV_new H1, by omega, by omega, g3⟩, ?_⟩, fun _ => rfl⟩
    rintro k (rfl | rfl | rfl | rfl | e | e)
    · omega
    · omega
    · omega
    · omega
    · simp [Value.ownBlock] at e
    · simp [Value.ownBlock] at e
  · have hn := hdr_new_bad _ (ht.next b0) a5 a6 (by omega)
    have HG := Lib.hid hg
    clear ht h6 hg
    go_enter Tryz.func30, Tryz.ntmps30
    go_wp2_with fail
    refine hn.mono ?_
    rintro e w1 ⟨rfl, b1⟩
    have HB := Lib.hid (b0.trans (b1.mono b0.size))
    clear hn b1
    go_wp2_with fail
    go_ret2
    exact ⟨_, 1, rfl, HB.out, fun h => absurd h (by decide), fun h => absurd h HG.out⟩

section
variable {a0 a1 a2 a3 a4 a5 a6 a7 a8 a9 a10 : Int}
theorem skG_cells {w : World} {kb : Nat} {T : TypeId} {db : Nat} (h : Blk w kb (skG a0 a1 a2 a3 a4 a5 a6 a7 a8 a9 a10 T db) 76) : w.cell? ⟨kb, 0, none⟩ = some (.int .i64 a0) ∧ w.cell? ⟨kb, 11, none⟩ = some (.iface T (.agg #[.pointer (some ⟨db, 0, none⟩)])) ∧ kb < w.heap.size := ⟨h.cell rfl, h.cell rfl, h.lt⟩
/-- a post by its name -/
def PostN (Q : Ending → World → Prop) (e : Ending) (w : World) : Prop := Q e w
theorem sk_putH (w : World) (kb db : Nat) (h : Blk w kb (skG a0 a1 a2 a3 a4 a5 a6 a7 a8 a9 a10 129 db) 76) (x : Int) (c : Int) (Q : Ending → World → Prop) (hq : Calls Tryz.prog 236 #[.pointer (some ⟨db, 0, none⟩), .int .i64 x, .int .u64 c] w fun e w' => (∃ code, e = .returned (.int .i64 code)) ∧ Q e w') :
    Calls Tryz.prog 18 #[.pointer (some ⟨kb, 0, none⟩), .int .i64 x, .int .u64 c] w (PostN Q) := by
  obtain ⟨c0, c1, hl⟩ := skG_cells h
  have hm := methh_put db
  clear h
  go_enter Tryz.func18, Tryz.ntmps18
  go_wp2_with fail
  refine hq.mono ?_
  rintro e w1 ⟨⟨code, rfl⟩, H⟩
  have HH := Lib.hid H
  clear H hq
  go_wp2_with fail
  go_ret
  exact HH.out
theorem sk_totalH (w : World) (kb db : Nat) (h : Blk w kb (skG a0 a1 a2 a3 a4 a5 a6 a7 a8 a9 a10 129 db) 76) (T : Nat) (hq : ∀ W, Below w.heap.size w W → Calls Tryz.prog 95 #[.pointer (some ⟨db, 0, none⟩)] W fun e w' => e = .returned (.int .u64 (T : Int)) ∧ Below W.heap.size W w') :
    Calls Tryz.prog 20 #[.pointer (some ⟨kb, 0, none⟩)] w fun e w' => e = .returned (.int .u64 (T : Int)) ∧ Below w.heap.size w w' := by
  obtain ⟨c0, c1, hl⟩ := skG_cells h
  have hm := methh_total db
  have b0 : Below w.heap.size w (w.alloc (.cells #[.pointer (some ⟨db, 0, none⟩)] 129)) := (Below.refl _ w).alloc (Nat.le_refl _) _
  have ht := hq _ b0
  have hc : Calls Tryz.prog 244 #[.agg #[.pointer (some ⟨db, 0, none⟩)]] w fun e w' => e = .returned (.int .u64 (T : Int)) ∧ Below w.heap.size w w' := by
    clear h hm c0 c1 hq
    go_enter Tryz.func244, Tryz.ntmps244
    go_wp2_with (go_at_call 95; refine ht.mono ?_; rintro e w1 ⟨rfl, b1⟩)
    go_ret
    exact ⟨rfl, b0.trans (b1.mono (by simp))⟩
  clear h ht hq
  go_enter Tryz.func20, Tryz.ntmps20
  go_wp2_with (go_at_call 244; refine hc.mono ?_; rintro e w1 ⟨rfl, b1⟩)
  go_ret
  exact ⟨rfl, b1⟩
theorem sk_quantH (w : World) (kb db : Nat) (h : Blk w kb (skG a0 a1 a2 a3 a4 a5 a6 a7 a8 a9 a10 129 db) 76) (num den : Int) (x : Int) (hq : ∀ W, Below w.heap.size w W → Calls Tryz.prog 237 #[.pointer (some ⟨db, 0, none⟩), .agg #[.int .u64 num, .int .u64 den]] W fun e w' => e = .returned (.tuple #[.int .i64 x, .int .i64 0]) ∧ Below W.heap.size W w') :
    Calls Tryz.prog 12 #[.pointer (some ⟨kb, 0, none⟩), .agg #[.int .u64 num, .int .u64 den]] w fun e w' => e = .returned (.tuple #[.int .i64 x, .int .i64 0]) ∧ Below w.heap.size w w' := by
  have hb0 : Below w.heap.size w (w.alloc (.cells #[.int .u64 num, .int .u64 den] 25)) := (Below.refl _ _).alloc (Nat.le_refl _) _
  obtain ⟨c0, c1, hl⟩ := skG_cells h
  have hm := methh_quant db
  have hq1 := hq _ hb0.drew
  clear h hq
  go_enter Tryz.func12, Tryz.ntmps12
  go_upto_region 3 with fail
  go_region_with (go_at_call 237; refine hq1.mono ?_; rintro e w3 ⟨rfl, b3⟩)
  all_goals (go_wp2_with fail)
  all_goals go_ret2
  all_goals (exact ⟨rfl, hb0.drew.trans (b3.mono (by simp))⟩)
end

/-- a sketch that has two fives -/
structure AlC (w : World) (kb hb pb s0 s1 : Nat) (v0 v1 : Value) (W : World) : Prop where
  blk : Blk W kb (skG 2 0 0 0 0 1 0 0 0 0 0 129 hb) 76
  hd : HdO W hb pb s0 s1 v0 v1 1 0 [] [(5, 2)] 0 5 5
  below : Below w.heap.size w W
theorem AlC.next {w : World} {kb hb pb s0 s1 : Nat} {v0 v1 : Value} {W W' : World} (h : AlC w kb hb pb s0 s1 v0 v1 W) (b : Below W.heap.size W W') : AlC w kb hb pb s0 s1 v0 v1 W' := ⟨h.blk.below b h.blk.lt, h.hd.next b, h.below.trans (b.mono h.below.size)⟩

set_option maxHeartbeats 4000000 in
theorem alive_any (w : World) (ht : Sp.Tens w) : Calls Tryz.prog 6 #[] w fun e w' => e = .returned (.bool true) ∧ Below w.heap.size w w' := by
  have hnew := (new_gen w 2 0 0 0 0 1 0 0 0 0 0 129 (fun W db O => HdV 1 0 [] W db O ∧ (1 : Int) ≤ 1 ∧ (1 : Int) ≤ 4 ∧ (0 : Int) ≤ 9223372036854775808) ((1 : Int) ≤ 1 ∧ (1 : Int) ≤ 4 ∧ (0 : Int) ≤ 9223372036854775808) (fun W W' db O hq hb => ⟨hq.1.next hb, hq.2⟩) (fun W db O hq => hq.1.lt) fun W hb => fresh_hdr W (ht.next hb) 0 0 0 0 1 0 0 0 0 0 (by decide)).mono
    (fun e w' (hh : NewG _ _ _ _ _ _ _ _ _ _ _ _ _ _ _ _ _) => show ∃ kb db O, e = .returned (.tuple #[.pointer (some ⟨kb, 0, none⟩), .int .i64 0]) ∧ Blk w' kb (skG 2 0 0 0 0 1 0 0 0 0 0 129 db) 76 ∧ HdV 1 0 [] w' db O ∧ (∀ k, O k → w.heap.size ≤ k ∧ k < kb) ∧ Below w.heap.size w w' from by
      obtain ⟨po, code, he, hb, h0, h1⟩ := hh
      have hc : code = 0 := h1 (by decide) (by decide)
      subst hc
      obtain ⟨_, kb, db, O, rfl, hbk, hq, hO, _⟩ := h0 rfl
      exact ⟨kb, db, O, he, hbk, hq.1, hO, hb⟩)
  clear ht
  go_enter Tryz.func6, Tryz.ntmps6
  go_wp2_with fail
  refine hnew.mono ?_
  rintro e w1 ⟨kb, hb, O, rfl, B1, V1, O1, b1⟩
  have hput := hdr_put w1 1 0 (by decide) [] hb O V1 (fun x hx => by cases hx) (by decide) (5, 2) (by unfold I64; decide) (by decide)
  have hpk := sk_putH w1 kb hb B1 5 2 (fun e w' => e = .returned (.int .i64 0) ∧ ∃ pb s0 s1 v0 v1, AlC w kb hb pb s0 s1 v0 v1 w') (hput.mono fun e w' hh => by
    obtain ⟨code, O', he, hc, hv, hsub, haw⟩ := hh
    have hp : HdP 0 (5, 2) = true := by decide
    have hc0 := hc.2 hp
    rw [hp, if_pos rfl] at hv
    obtain ⟨pb, s0, s1, v0, v1, hd, _⟩ := hv
    refine ⟨⟨code, he⟩, by rw [he, hc0], pb, s0, s1, v0, v1, B1.away haw ?_, hd, b1.trans (haw.below b1.size fun k hk e => by have := O1 k e; omega)⟩
    intro e
    have := (O1 kb e).2
    omega)
  clear hnew hput V1 O1 B1 b1
  go_wp2_with fail
  refine hpk.mono ?_
  rintro e w2 ⟨rfl, pb, s0, s1, v0, v1, A2⟩
  have hqu := sk_quantH w2 kb hb A2.blk 1 2 5 fun W b => hdr_quant5 W hb pb s0 s1 v0 v1 (A2.hd.next b)
  have HA2 := Lib.hid A2
  clear hpk A2
  go_wp2_with fail
  refine hqu.mono ?_
  rintro e w3 ⟨rfl, b3⟩
  have A3 := HA2.out.next b3
  have hto := sk_totalH w3 kb hb A3.blk 2 fun W b => hdr_total W hb pb s0 s1 v0 v1 1 0 [] [(5, 2)] 0 5 5 (A3.hd.next b) (by decide)
  have HA3 := Lib.hid A3.below
  clear hqu b3 A3 HA2
  go_wp2_with fail
  refine hto.mono ?_
  rintro e w4 ⟨rfl, b4⟩
  have HB4 := Lib.hid (HA3.out.trans (b4.mono HA3.out.size))
  clear hto b4 HA3
  go_wp2_with fail
  go_ret
  exact ⟨rfl, HB4.out⟩
end Go.Proofs.YtbejdajkkoapgaaGreatDoor

/-
  The table of tens, as the rows list it, gives the walks its five cells. Conditions: none.
-/
set_option maxRecDepth 100000
namespace Go.Proofs.YtbejdajkkoapgaaGreatDoor
open Go.RowKit Go.Lib Go.ChangeShapes Go.WideShapes
theorem tens_of_laid {W : World} (h : laidMetH Tryz.prog Rows.coreNodesRow.laid W) : Sp.Tens W := by
  rw [MakeChecks.laidMetH_plain _ _ _ (by kernel_rfl)] at h
  obtain ⟨ps, ⟨g0, t0, cs0, f0, p0, q0, hg0, ht0, hv0, hd0, _, _⟩, _, _⟩ := h
  obtain rfl : g0 = 0 := Option.some.inj (hg0.symm.trans (by kernel_rfl))
  obtain rfl : t0 = 223 := Option.some.inj (ht0.symm.trans (by kernel_rfl))
  obtain ⟨xs, m1, hN, hx1, hlen, hn3, hel⟩ := DataW.trod_array Tryz.underlying223 hd0
  have c22 : Tryz.prog.cellsOf 23 = 1 := by kernel_rfl
  have hxs := (Prod.mk.inj hx1).1
  have hmap : xs.map (fun x => x.1) = [.lit (.int .u64 1), .lit (.int .u64 10), .lit (.int .u64 100), .lit (.int .u64 1000), .lit (.int .u64 10000)] := (DataW.agg.inj hxs).symm
  have key : ∀ (i : Nat) (n : Int), i < 5 → (xs.map (fun x => x.1))[i]? = some (.lit (.int .u64 n)) → W.cell? ⟨0, i, none⟩ = some (.int .u64 n) := by
    intro i n hi hn
    have h0 := hel i hi
    obtain ⟨x, hx⟩ : ∃ x, xs[i]? = some x := ⟨xs[i], List.getElem?_eq_getElem (by omega)⟩
    rw [c22, Nat.mul_one, hx] at h0
    obtain ⟨k, e1, e2, _⟩ := DataW.trod_int Tryz.underlying23 h0
    rw [List.getElem?_map, hx] at hn
    have hk : k = n := by rw [e2] at hn; simpa using hn
    subst hk
    have hv := World.var?_cell hg0 hv0 i
    have hg : cs0[i]? = some (.int .u64 k) := by
      have h1 := congrArg (fun l => l[0]?) e1
      simpa [List.getElem?_take, List.getElem?_drop] using h1
    rw [hg] at hv
    simpa using hv
  refine ⟨key 0 1 (by decide) ?_, key 1 10 (by decide) ?_, key 2 100 (by decide) ?_, key 3 1000 (by decide) ?_, key 4 10000 (by decide) ?_⟩ <;> rw [hmap] <;> rfl
end Go.Proofs.YtbejdajkkoapgaaGreatDoor

/-
  The arguments of the theorems over the whole, opened: a config, leaves, numbers. Conditions: they can be read.
-/
set_option linter.unusedVariables false
set_option linter.unusedSimpArgs false
set_option maxRecDepth 100000
namespace Go.Proofs.YtbejdajkkoapgaaGreatDoor
open Go.RowKit Go.Lib Go.ChangeShapes Go.WideShapes

theorem cells28n : Tryz.prog.cellsOf 28 = 11 := by kernel_rfl
theorem cells22 : Tryz.prog.cellsOf 22 = 1 := by kernel_rfl
theorem cells23 : Tryz.prog.cellsOf 23 = 1 := by kernel_rfl
theorem cells25 : Tryz.prog.cellsOf 25 = 2 := by kernel_rfl
theorem cells26 : Tryz.prog.cellsOf 26 = 1 := by kernel_rfl
theorem cells2 : Tryz.prog.cellsOf 2 = 1 := by kernel_rfl
theorem cells3 : Tryz.prog.cellsOf 3 = 1 := by kernel_rfl
theorem cells4 : Tryz.prog.cellsOf 4 = 1 := by kernel_rfl
theorem cells35 : Tryz.prog.cellsOf 35 = 1 := by kernel_rfl
theorem cells55 : Tryz.prog.cellsOf 55 = 2 := by kernel_rfl
theorem cells59 : Tryz.prog.cellsOf 59 = 2 := by kernel_rfl
section
variable {H : Type} {enc : TypeId × Value → H} {w : World} {base : Nat} {spare : Nat → Bool} {held : Bool}
theorem open_int1 {n : Nat} {t : TypeId} {k : IntKind} {v : Value} {y : Option (DataW H × List MemPlace)} (ht : Tryz.prog.underlying t = some (.int k)) (h : DataW.trod enc Tryz.prog w base spare held n t [v] = y) (hy : y.isSome = true) : ∃ a, v = .int k a ∧ (Lit.int k a).wf = true := by
  obtain ⟨x, rfl⟩ := Option.isSome_iff_exists.1 hy
  obtain ⟨a, h1, _, h3⟩ := DataW.trod_int ht h
  exact ⟨a, by simpa using h1, h3⟩
theorem open_cfg {r : Reach} {b0 : Nat} {v : Value} {d : DataW H} {p : List MemPlace} (hv : Value.okWide Tryz.prog w r b0 28 v) (h : DataW.Trod enc Tryz.prog w base spare held 28 v d p) :
    ∃ a0 a1 a2 a3 a4 a5 a6 a7 a8 a9 a10 : Int, v = .agg #[.int .i64 a0, .int .u64 a1, .int .u64 a2, .int .i64 a3, .int .i64 a4, .int .i64 a5, .int .u64 a6, .int .i64 a7, .int .i64 a8, .int .i64 a9, .int .u64 a10] ∧
      (Lit.int .i64 a0).wf = true ∧ (Lit.int .u64 a1).wf = true ∧ (Lit.int .u64 a2).wf = true ∧ (Lit.int .i64 a3).wf = true ∧ (Lit.int .i64 a4).wf = true ∧ (Lit.int .i64 a5).wf = true ∧ (Lit.int .u64 a6).wf = true ∧ (Lit.int .i64 a7).wf = true ∧ (Lit.int .i64 a8).wf = true ∧ (Lit.int .i64 a9).wf = true ∧ (Lit.int .u64 a10).wf = true := by
  have h28 : Tryz.prog.underlying 28 = some (.struct (Tryz.prog.fieldsOf 28)) := by rw [fields28, Tryz.underlying28]
  have h25 : Tryz.prog.underlying 25 = some (.struct (Tryz.prog.fieldsOf 25)) := by rw [fields25, Tryz.underlying25]
  obtain ⟨cs, rfl, hsz⟩ := okWide_struct h28 hv
  obtain ⟨l⟩ := cs
  match l, hsz.trans cells28n with
  | [c0, c1, c2, c3, c4, c5, c6, c7, c8, c9, c10], _ =>
    obtain ⟨fuel, hf⟩ := h
    obtain ⟨xs, n, _, hx, _, hlen, hg⟩ := DataW.trod_struct h28 hf
    rw [fields28] at hlen hg
    have hlen : xs.length = 10 := hlen
    have hs : ∀ i, i < 10 → (xs[i]?).isSome = true := fun i hi => by simp; omega
    have g0 := hg 0 { name := "Kind", type := 22, offset := 0, embedded := false, tag := "", pkgPath := "", byteOffset := 0 } rfl
    have g1 := hg 1 { name := "Part", type := 25, offset := 1, embedded := false, tag := "", pkgPath := "", byteOffset := 8 } rfl
    have g2 := hg 2 { name := "Side", type := 26, offset := 3, embedded := false, tag := "", pkgPath := "", byteOffset := 24 } rfl
    have g3 := hg 3 { name := "Most", type := 3, offset := 4, embedded := false, tag := "", pkgPath := "", byteOffset := 32 } rfl
    have g4 := hg 4 { name := "Digits", type := 3, offset := 5, embedded := false, tag := "", pkgPath := "", byteOffset := 40 } rfl
    have g5 := hg 5 { name := "Limit", type := 23, offset := 6, embedded := false, tag := "", pkgPath := "", byteOffset := 48 } rfl
    have g6 := hg 6 { name := "Depth", type := 3, offset := 7, embedded := false, tag := "", pkgPath := "", byteOffset := 56 } rfl
    have g7 := hg 7 { name := "Factor", type := 3, offset := 8, embedded := false, tag := "", pkgPath := "", byteOffset := 64 } rfl
    have g8 := hg 8 { name := "Width", type := 3, offset := 9, embedded := false, tag := "", pkgPath := "", byteOffset := 72 } rfl
    have g9 := hg 9 { name := "Word", type := 23, offset := 10, embedded := false, tag := "", pkgPath := "", byteOffset := 80 } rfl
    simp only [cells22, cells25, cells26, cells3, cells23, Value.cells, List.drop_succ_cons, List.drop_zero, List.take_succ_cons, List.take_zero] at g0 g1 g2 g3 g4 g5 g6 g7 g8 g9
    obtain ⟨a0, rfl, w0⟩ := open_int1 Tryz.underlying22 g0 (hs 0 (by decide))
    obtain ⟨a3, rfl, w3⟩ := open_int1 Tryz.underlying26 g2 (hs 2 (by decide))
    obtain ⟨a4, rfl, w4⟩ := open_int1 Tryz.underlying3 g3 (hs 3 (by decide))
    obtain ⟨a5, rfl, w5⟩ := open_int1 Tryz.underlying3 g4 (hs 4 (by decide))
    obtain ⟨a6, rfl, w6⟩ := open_int1 Tryz.underlying23 g5 (hs 5 (by decide))
    obtain ⟨a7, rfl, w7⟩ := open_int1 Tryz.underlying3 g6 (hs 6 (by decide))
    obtain ⟨a8, rfl, w8⟩ := open_int1 Tryz.underlying3 g7 (hs 7 (by decide))
    obtain ⟨a9, rfl, w9⟩ := open_int1 Tryz.underlying3 g8 (hs 8 (by decide))
    obtain ⟨a10, rfl, w10⟩ := open_int1 Tryz.underlying23 g9 (hs 9 (by decide))
    obtain ⟨y, hy⟩ := Option.isSome_iff_exists.1 (hs 1 (by decide))
    rw [hy] at g1
    obtain ⟨ys, m, _, _, _, hyl, hk⟩ := DataW.trod_struct h25 g1
    rw [fields25] at hyl hk
    have hyl : ys.length = 2 := hyl
    have hs2 : ∀ i, i < 2 → (ys[i]?).isSome = true := fun i hi => by simp; omega
    have k0 := hk 0 { name := "Num", type := 23, offset := 0, embedded := false, tag := "", pkgPath := "", byteOffset := 0 } rfl
    have k1 := hk 1 { name := "Den", type := 23, offset := 1, embedded := false, tag := "", pkgPath := "", byteOffset := 8 } rfl
    simp only [cells23, List.drop_succ_cons, List.drop_zero, List.take_succ_cons, List.take_zero] at k0 k1
    obtain ⟨a1, rfl, w1⟩ := open_int1 Tryz.underlying23 k0 (hs2 0 (by decide))
    obtain ⟨a2, rfl, w2⟩ := open_int1 Tryz.underlying23 k1 (hs2 1 (by decide))
    exact ⟨a0, a1, a2, a3, a4, a5, a6, a7, a8, a9, a10, rfl, w0, w1, w2, w3, w4, w5, w6, w7, w8, w9, w10⟩

theorem i64_of {a : Int} (h : (Lit.int .i64 a).wf = true) : I64 a := by have := bounds_i64 h; unfold I64; omega
/-- values that came in -/
theorem open_vals {n : Nat} {v : Value} {x : DataW H × List MemPlace} (h : DataW.trod enc Tryz.prog w base spare held n 35 [v] = some x) : ∃ l : Vals, ValsR w v l ∧ ∀ x ∈ l, I64 x.1 := by
  rcases Deep.open_slice_pairs (f0 := { name := "X", type := 2, offset := 0, embedded := false, tag := "", pkgPath := "", byteOffset := 0 }) (f1 := { name := "N", type := 23, offset := 1, embedded := false, tag := "", pkgPath := "", byteOffset := 8 }) Tryz.underlying35 Tryz.underlying59 cells59 rfl rfl cells2 cells23 h with ⟨h1, _⟩ | ⟨a, len, cap, m, n, V0, V1, D0, D1, P0, P1, h1, hb, hl, hm, hmm, hx, hi⟩
  · simp only [List.cons.injEq, and_true] at h1
    exact ⟨[], ⟨Nat.zero_le _, .inl ⟨rfl, none, 0, h1⟩⟩, fun x hx => by cases hx⟩
  · simp only [List.cons.injEq, and_true] at h1
    have hlm : len ≤ m := by rw [hmm]; split <;> omega
    by_cases h0 : len = 0
    · subst h0
      exact ⟨[], ⟨Nat.zero_le _, .inl ⟨rfl, _, cap, h1⟩⟩, fun x hx => by cases hx⟩
    obtain ⟨b, o, spot⟩ := a
    have hspot : spot = none := World.cell?_spot (hi 0 (by omega)).1
    subst hspot
    have each : ∀ i, i < len → ∃ X N : Int, V0 i = .int .i64 X ∧ V1 i = .int .u64 N ∧ (Lit.int .i64 X).wf = true ∧ (Lit.int .u64 N).wf = true := fun i him => by
      obtain ⟨_, _, t0, t1⟩ := hi i (by omega)
      obtain ⟨X, e0, w0⟩ := open_int1 Tryz.underlying2 t0 rfl
      obtain ⟨N, e1, w1⟩ := open_int1 Tryz.underlying23 t1 rfl
      exact ⟨X, N, e0, e1, w0, w1⟩
    let f : Nat → Int × Nat := fun i => ((match V0 i with | .int _ X => X | _ => 0), (match V1 i with | .int _ N => N.toNat | _ => 0))
    have hf : ∀ i, i < len → V0 i = .int .i64 (f i).1 ∧ V1 i = .int .u64 ((f i).2 : Nat) ∧ I64 (f i).1 := fun i him => by
      obtain ⟨X, N, e0, e1, w0, w1⟩ := each i him
      have := bounds_u64 w1
      refine ⟨by simp only [f, e0], ?_, by simp only [f, e0]; exact i64_of w0⟩
      simp only [f, e1]
      rw [show ((N.toNat : Nat) : Int) = N by omega]
    refine ⟨(List.range len).map f, ⟨by simp; omega, .inr ⟨b, o, cap, by simpa using h1, ?_, fun i h => ?_⟩⟩, fun x hx => ?_⟩
    · exact block_lt_of_cell (hi 0 (by omega)).1
    · have him : i < len := by simpa using h
      obtain ⟨k0, k1, _, _⟩ := hi i (by omega)
      obtain ⟨e0, e1, _⟩ := hf i him
      rw [Addr.add_lit] at k0 k1
      simp only [List.getElem_map, List.getElem_range]
      rw [e0] at k0
      rw [e1] at k1
      exact ⟨k0, k1⟩
    · obtain ⟨i, hi', rfl⟩ := List.mem_map.1 hx
      exact (hf i (List.mem_range.1 hi')).2.2
/-- leaves that came in -/
theorem open_leaves {n : Nat} {v : Value} {x : DataW H × List MemPlace} (h : DataW.trod enc Tryz.prog w base spare held n 29 [v] = some x) : ∃ L : Leaves, LeavesR w v L ∧ ∀ x ∈ L, ∀ y ∈ x.1, I64 y.1 := by
  rcases Deep.open_slice_pairs (f0 := { name := "Vals", type := 35, offset := 0, embedded := false, tag := "", pkgPath := "", byteOffset := 0 }) (f1 := { name := "Bytes", type := 4, offset := 1, embedded := false, tag := "", pkgPath := "", byteOffset := 24 }) Tryz.underlying29 Tryz.underlying55 cells55 rfl rfl cells35 cells4 h with ⟨h1, _⟩ | ⟨a, len, cap, m, n, V0, V1, D0, D1, P0, P1, h1, hb, hl, hm, hmm, hx, hi⟩
  · simp only [List.cons.injEq, and_true] at h1
    exact ⟨[], ⟨Nat.zero_le _, .inl ⟨rfl, none, 0, h1⟩⟩, fun x hx => by cases hx⟩
  · simp only [List.cons.injEq, and_true] at h1
    have hlm : len ≤ m := by rw [hmm]; split <;> omega
    by_cases h0 : len = 0
    · subst h0
      exact ⟨[], ⟨Nat.zero_le _, .inl ⟨rfl, _, cap, h1⟩⟩, fun x hx => by cases hx⟩
    obtain ⟨b, o, spot⟩ := a
    have hspot : spot = none := World.cell?_spot (hi 0 (by omega)).1
    subst hspot
    have each : ∀ i, i < len → ∃ q : Vals × Bool, ValsR w (V0 i) q.1 ∧ (∀ y ∈ q.1, I64 y.1) ∧ V1 i = .bool q.2 := fun i him => by
      obtain ⟨_, _, t0, t1⟩ := hi i (by omega)
      obtain ⟨l, hl, hi64⟩ := open_vals t0
      obtain ⟨q, hq, _⟩ := DataW.trod_bool Tryz.underlying4 t1
      exact ⟨(l, q), hl, hi64, by simpa using hq⟩
    obtain ⟨f, hf⟩ := Deep.choose_lt each
    refine ⟨(List.range len).map f, ⟨by simp; omega, .inr ⟨b, o, cap, by simpa using h1, ?_, fun i h => ?_⟩⟩, fun x hx => ?_⟩
    · exact block_lt_of_cell (hi 0 (by omega)).1
    · have him : i < len := by simpa using h
      obtain ⟨k0, k1, _, _⟩ := hi i (by omega)
      obtain ⟨e0, _, e1⟩ := hf i him
      rw [Addr.add_lit] at k0 k1
      simp only [List.getElem_map, List.getElem_range]
      rw [e1] at k1
      exact ⟨V0 i, k0, k1, e0⟩
    · obtain ⟨i, hi', rfl⟩ := List.mem_map.1 hx
      exact (hf i (List.mem_range.1 hi')).2.1
/-- numbers that came in -/
theorem open_picks {n : Nat} {v : Value} {x : DataW H × List MemPlace} (h : DataW.trod enc Tryz.prog w base spare held n 30 [v] = some x) : ∃ zs : List Int, IntsR w v zs := by
  rcases open_ints Tryz.underlying30 Tryz.underlying3 cells3 h with ⟨h1, _⟩ | ⟨a, len, cap, zs, h1, hb, hl, hm, hz, hx, hc, hw⟩
  · simp only [List.cons.injEq, and_true] at h1
    exact ⟨[], Nat.zero_le _, (fun z hz => by cases hz), .inl ⟨rfl, none, 0, h1⟩⟩
  · simp only [List.cons.injEq, and_true] at h1
    have hlm : len ≤ zs.length := by rw [hz]; split <;> omega
    by_cases h0 : len = 0
    · subst h0
      exact ⟨[], Nat.zero_le _, (fun z hz => by cases hz), .inl ⟨rfl, _, cap, h1⟩⟩
    obtain ⟨b, o, spot⟩ := a
    have hspot : spot = none := by have := World.cell?_spot (hc 0 (by omega)); simpa [Addr.add] using this
    subst hspot
    have hl2 : (zs.take len).length = len := by simp; omega
    refine ⟨zs.take len, by rw [hl2]; omega, fun z hz => i64_of (hw z (List.mem_of_mem_take hz)), .inr ⟨b, o, cap, by rw [hl2]; exact h1, ?_, fun i hi => ?_⟩⟩
    · have := block_lt_of_cell (hc 0 (by omega)); simpa [Addr.add] using this
    · have hi2 : i < zs.length := by rw [hl2] at hi; omega
      have := hc i hi2
      rw [Addr.add_lit] at this
      rw [List.getElem_take, this, List.getD_eq_getElem?_getD, List.getElem?_eq_getElem hi2]
      rfl
end
end Go.Proofs.YtbejdajkkoapgaaGreatDoor

