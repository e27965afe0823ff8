/-
  Several texts in one: J17. What each proves, and on which conditions, stands at its head. Conditions: stated in each.
-/
import Derived.Test.YtbejdajkkoapgaaGreatDoorS02
import Derived.Test.YtbejdajkkoapgaaGreatDoorS01
import Derived.Test.YtbejdajkkoapgaaGreatDoorS04
import Derived.Test.YtbejdajkkoapgaaGreatDoorS05
import Derived.Deep.LoopGhost
/-
  Several texts in one: Hd, Rx, He, Hf. What each proves, and on which conditions, stands at its head. Conditions: stated in each.
-/
/-
  A hdr sketch in memory; contracts of hdr.New, Total, ends. Conditions: stated in each.
-/
set_option linter.unusedVariables false
set_option linter.unusedSimpArgs false
set_option maxRecDepth 100000
namespace Go.Proofs.YtbejdajkkoapgaaGreatDoor
open Go.RowKit Go.Lib

/-- spans.New with the block's own type -/
theorem spans_new (d : Nat) (w : World) (h1 : 1 ≤ d) (h2 : d ≤ 4) (ht : Sp.Tens w) :
    Calls Tryz.prog 65 #[.int .i64 d] w fun e w' => e = .returned (.tuple #[.pointer (some ⟨w.heap.size, 0, none⟩), .int .i64 0]) ∧ Sp.Sp w w.heap.size d (Sp.logD d) w' ∧ ∃ ps, Blk w' w.heap.size ps 222 := by
  have ⟨g1, g2⟩ := Sp.logD_le d
  have hl := ht.lt
  go_enter Tryz.func65, Tryz.ntmps65
  go_wp2
  go_loopw [17] (fun _ wr => ∃ k : Nat, k ≤ Sp.logD d ∧ Sp.Sp w w.heap.size d k wr ∧ wr.frozen? ⟨w.heap.size, 1, none⟩ = false ∧ ∃ ps, Blk wr w.heap.size ps 222) (fun _ wr => Sp.logD d - (RowKit.intOf ((wr.cell? ⟨w.heap.size, 1, none⟩).getD (.int .i64 0))).toNat)
  case atStart =>
    refine ⟨0, by omega, ⟨by simp, by simp, ?_, (Below.refl _ _).alloc (Nat.le_refl _) _, by simp, Nat.le_refl _⟩, by simp, _, Blk.newAt rfl⟩
    exact ht.next ((Below.refl _ _).alloc (Nat.le_refl _) _)
  case round =>
    obtain ⟨k, hk, H, hf, ps, HB⟩ := hrel
    have c1 := H.c1
    have c := H.tens.at d h2
    have hlt := H.lt
    have HB := Lib.hid HB
    have f2 : IntKind.u64.wrap (2 ^ k) = 2 ^ k := by
      have h14 : 2 ^ k ≤ 2 ^ 14 := Nat.pow_le_pow_right (by decide) (by omega)
      have hp : (0 : Int) ≤ ((2 ^ k : Nat) : Int) := Int.natCast_nonneg _
      rw [IntKind.wrap_u64, Sp.pow_cast]; omega
    by_cases hlt2 : k < Sp.logD d
    · have f3 : decide ((2 : Int) ^ k < Sp.ten d) = true := by rw [Sp.ten_log d k h1 h2 hk]; simp [hlt2]
      go_wp2_with fail
      go_quiet (fail)
      go_wp2
      have H2 : Sp.Sp w w.heap.size d k (wr.drewN nq) := H.next (below_drewN (Below.refl _ _) _)
      have hm : (wr.cell? ⟨w.heap.size, 1, none⟩).getD (.int .i64 0) = .int .i64 k := by rw [c1]; rfl
      have hm2 : (((wr.drewN nq).setCell ⟨w.heap.size, 1, none⟩ (.int .i64 ((k : Int) + 1))).cell? ⟨w.heap.size, 1, none⟩).getD (.int .i64 0) = .int .i64 ((k + 1 : Nat) : Int) := by rw [(H2.put hl).c1]; rfl
      refine ⟨⟨k + 1, by omega, H2.put hl, ?_, _, (HB.out.below (below_drewN (Below.refl _ _) _) HB.out.lt).set 1 _⟩, ?_⟩
      · rw [World.frozen?_setCell]; simpa using hf
      · rw [hm, hm2]; simp [RowKit.intOf]; omega
    · have f3 : decide ((2 : Int) ^ k < Sp.ten d) = false := by rw [Sp.ten_log d k h1 h2 hk]; simp [hlt2]
      obtain rfl : k = Sp.logD d := by omega
      go_wp2_with fail
      go_quiet (fail)
      go_wp2
      go_ret2
      exact ⟨rfl, H.next (below_drewN (Below.refl _ _) _), ps, HB.out.below (below_drewN (Below.refl _ _) _) HB.out.lt⟩

def hdC (dg : Nat) (lim : Int) (pb : Nat) (p0 p1 : Value) (z : Nat) (lo hi : Int) : Array Value := #[.int .i64 (dg : Int), .int .u64 lim, .pointer (some ⟨pb, 0, none⟩), p0, p1, .int .u64 (z : Int), .int .i64 lo, .int .i64 hi]
/-- the sketch, while its strips are made -/
structure HnC (w : World) (hb pb dg : Nat) (lim : Int) (p0 p1 : Value) (W : World) : Prop where
  blk : Blk W hb (hdC dg lim pb p0 p1 0 0 0) 176
  span : W.cell? ⟨pb, 1, none⟩ = some (.int .i64 (Sp.logD dg : Nat))
  plt : pb < W.heap.size
  pty : ∃ ps, Blk W pb ps 222
  ne : pb ≠ hb
  below : Below w.heap.size w W
  hbg : w.heap.size ≤ hb
  pbg : w.heap.size ≤ pb
section
variable {w : World} {hb pb dg : Nat} {lim : Int} {p0 p1 : Value} {W W' : World}
theorem HnC.next (h : HnC w hb pb dg lim p0 p1 W) (b : Below W.heap.size W W') : HnC w hb pb dg lim p0 p1 W' :=
  ⟨h.blk.below b h.blk.lt, by rw [b.cell (p := ⟨pb, 1, none⟩) h.plt]; exact h.span, Nat.lt_of_lt_of_le h.plt b.size, h.pty.imp fun _ k => k.below b h.plt, h.ne, h.below.trans (b.mono h.below.size), h.hbg, h.pbg⟩
theorem HnC.set0 (h : HnC w hb pb dg lim p0 p1 W) (u : Value) : HnC w hb pb dg lim u p1 (W.setCell ⟨hb, 3, none⟩ u) :=
  ⟨h.blk.set 3 u, by rw [((Away.refl (fun k => k = hb) W).setCell ⟨hb, 3, none⟩ u (.inl rfl)).cell (p := ⟨pb, 1, none⟩) h.plt h.ne]; exact h.span, by simpa using h.plt, h.pty.imp fun _ k => k.other ⟨hb, 3, none⟩ u h.ne, h.ne, h.below.setCell h.hbg _, h.hbg, h.pbg⟩
theorem HnC.set1 (h : HnC w hb pb dg lim p0 p1 W) (u : Value) : HnC w hb pb dg lim p0 u (W.setCell ⟨hb, 4, none⟩ u) :=
  ⟨h.blk.set 4 u, by rw [((Away.refl (fun k => k = hb) W).setCell ⟨hb, 4, none⟩ u (.inl rfl)).cell (p := ⟨pb, 1, none⟩) h.plt h.ne]; exact h.span, by simpa using h.plt, h.pty.imp fun _ k => k.other ⟨hb, 4, none⟩ u h.ne, h.ne, h.below.setCell h.hbg _, h.hbg, h.pbg⟩
end
/-- a hdr sketch -/
structure HdO (w : World) (hb pb s0 s1 : Nat) (v0 v1 : Value) (dg : Nat) (lim : Int) (l0 l1 : Row) (z : Nat) (lo hi : Int) : Prop where
  blk : Blk w hb (hdC dg lim pb (.pointer (some ⟨s0, 0, none⟩)) (.pointer (some ⟨s1, 0, none⟩)) z lo hi) 176
  span : w.cell? ⟨pb, 1, none⟩ = some (.int .i64 (Sp.logD dg : Nat))
  plt : pb < w.heap.size
  pty : ∃ ps, Blk w pb ps 222
  pne : pb ≠ hb ∧ pb ≠ s0 ∧ pb ≠ s1 ∧ v0.ownBlock ≠ some pb ∧ v1.ownBlock ≠ some pb
  st0 : StripO w s0 v0 l0
  st1 : StripO w s1 v1 l1
  ap : s0 ≠ s1 ∧ ∀ g, v0.ownBlock = some g → v1.ownBlock ≠ some g
section
variable {w w' : World} {hb pb s0 s1 : Nat} {v0 v1 : Value} {dg : Nat} {lim : Int} {l0 l1 : Row} {z : Nat} {lo hi : Int}
theorem HdO.next (h : HdO w hb pb s0 s1 v0 v1 dg lim l0 l1 z lo hi) (b : Below w.heap.size w w') : HdO w' hb pb s0 s1 v0 v1 dg lim l0 l1 z lo hi :=
  ⟨h.blk.below b h.blk.lt, by rw [b.cell (p := ⟨pb, 1, none⟩) h.plt]; exact h.span, Nat.lt_of_lt_of_le h.plt b.size, h.pty.imp fun _ k => k.below b h.plt, h.pne, h.st0.next b, h.st1.next b, h.ap⟩
/-- the blocks that are its own -/
def OwnH (hb pb s0 s1 : Nat) (v0 v1 : Value) (k : Nat) : Prop := k = hb ∨ k = pb ∨ k = s0 ∨ k = s1 ∨ v0.ownBlock = some k ∨ v1.ownBlock = some k
theorem HdO.away {G : Nat → Prop} (h : HdO w hb pb s0 s1 v0 v1 dg lim l0 l1 z lo hi) (b : Away G w w') (hn : ∀ k, OwnH hb pb s0 s1 v0 v1 k → ¬ G k) : HdO w' hb pb s0 s1 v0 v1 dg lim l0 l1 z lo hi :=
  ⟨h.blk.away b (hn _ (.inl rfl)), by rw [b.cell (p := ⟨pb, 1, none⟩) h.plt (hn _ (.inr (.inl rfl)))]; exact h.span, Nat.lt_of_lt_of_le h.plt b.size, h.pty.imp fun _ k => k.away b (hn _ (.inr (.inl rfl))), h.pne, h.st0.away b (hn _ (.inr (.inr (.inl rfl)))) fun g hg => hn _ (.inr (.inr (.inr (.inr (.inl hg))))),
    h.st1.away b (hn _ (.inr (.inr (.inr (.inl rfl))))) fun g hg => hn _ (.inr (.inr (.inr (.inr (.inr hg))))), h.ap⟩
theorem HdO.drew (h : HdO w hb pb s0 s1 v0 v1 dg lim l0 l1 z lo hi) : HdO w.drew hb pb s0 s1 v0 v1 dg lim l0 l1 z lo hi := h.next (Below.refl _ _).drew
theorem HdO.cells (h : HdO w hb pb s0 s1 v0 v1 dg lim l0 l1 z lo hi) : w.cell? ⟨hb, 0, none⟩ = some (.int .i64 (dg : Int)) ∧ w.cell? ⟨hb, 1, none⟩ = some (.int .u64 lim) ∧ w.cell? ⟨hb, 2, none⟩ = some (.pointer (some ⟨pb, 0, none⟩)) ∧ w.cell? ⟨hb, 3, none⟩ = some (.pointer (some ⟨s0, 0, none⟩)) ∧
    w.cell? ⟨hb, 4, none⟩ = some (.pointer (some ⟨s1, 0, none⟩)) ∧ w.cell? ⟨hb, 5, none⟩ = some (.int .u64 (z : Int)) ∧ w.cell? ⟨hb, 6, none⟩ = some (.int .i64 lo) ∧ w.cell? ⟨hb, 7, none⟩ = some (.int .i64 hi) ∧
    w.frozen? ⟨hb, 5, none⟩ = false ∧ w.frozen? ⟨hb, 6, none⟩ = false ∧ w.frozen? ⟨hb, 7, none⟩ = false :=
  ⟨h.blk.cell rfl, h.blk.cell rfl, h.blk.cell rfl, h.blk.cell rfl, h.blk.cell rfl, h.blk.cell rfl, h.blk.cell rfl, h.blk.cell rfl, h.blk.frozen 5, h.blk.frozen 6, h.blk.frozen 7⟩
end

set_option maxHeartbeats 4000000 in
theorem hdr_new (w : World) (ht : Sp.Tens w) (dg : Nat) (lim : Int) (h1 : 1 ≤ dg) (h2 : dg ≤ 4) (hl0 : 0 ≤ lim) (hl : lim ≤ 9223372036854775808) :
    Calls Tryz.prog 42 #[.agg #[.int .i64 (dg : Int), .int .u64 lim]] w fun e w' => ∃ hb pb s0 s1, e = .returned (.tuple #[.pointer (some ⟨hb, 0, none⟩), .int .i64 0]) ∧ HdO w' hb pb s0 s1 (.slice none 0 0) (.slice none 0 0) dg lim [] [] 0 0 0 ∧
      w.heap.size ≤ hb ∧ w.heap.size ≤ pb ∧ w.heap.size ≤ s0 ∧ w.heap.size ≤ s1 ∧ Below w.heap.size w w' := by
  have b0 : Below w.heap.size w (w.alloc (.cells #[.int .i64 (dg : Int), .int .u64 lim] 127)) := (Below.refl _ _).alloc (Nat.le_refl _) _
  have B0 : Blk (w.alloc (.cells #[.int .i64 (dg : Int), .int .u64 lim] 127)) w.heap.size #[.int .i64 (dg : Int), .int .u64 lim] 127 := Blk.newAt rfl
  have hsp := spans_new dg (w.alloc (.cells #[.int .i64 (dg : Int), .int .u64 lim] 127)) h1 h2 (ht.next b0)
  clear ht
  go_enter Tryz.func42, Tryz.ntmps42
  go_wp2_with fail
  refine hsp.mono ?_
  rintro e w1 ⟨rfl, S1, PB⟩
  have B1 := B0.below S1.below B0.lt
  have c0 : w1.cell? ⟨w.heap.size, 0, none⟩ = some (.int .i64 (dg : Int)) := B1.cell rfl
  have c1 : w1.cell? ⟨w.heap.size, 1, none⟩ = some (.int .u64 lim) := B1.cell rfl
  have f1 : ¬ 9223372036854775808 < lim := by omega
  have hz : (w.alloc (.cells #[.int .i64 (dg : Int), .int .u64 lim] 127)).heap.size = w.heap.size + 1 := by simp
  have s2 := S1.c1
  have s3 := S1.lt
  have s4 := S1.below
  rw [hz] at s2 s3 s4 PB
  have b1 : Below w.heap.size w w1 := b0.trans (s4.mono (by omega))
  have H1 : HnC w w1.heap.size (w.heap.size + 1) dg lim (.pointer none) (.pointer none) (w1.alloc (.cells (hdC dg lim (w.heap.size + 1) (.pointer none) (.pointer none) 0 0 0) 176)) := by
    refine ⟨Blk.newAt rfl, ?_, by simp; omega, PB.imp fun _ k => k.alloc _, by omega, b1.alloc b1.size _, b1.size, by omega⟩
    rw [((Below.refl _ w1).alloc (Nat.le_refl _) (.cells (hdC dg lim (w.heap.size + 1) (.pointer none) (.pointer none) 0 0 0) 176)).cell (p := ⟨w.heap.size + 1, 1, none⟩) s3]
    exact s2
  have hb1 := b1.size
  clear hsp S1 B0 B1 b0 s2 s4 hz PB
  go_wp2_with fail
  generalize w.heap.size + 1 = pb at H1 s3 ⊢
  have HH := Lib.hid H1
  clear H1
  go_loopg [7, 25, 28, 29, 30, 31, 32, 33, 34, 35, 36] 2 (fun g _ i _ _ _ _ _ _ _ _ _ wr => ∃ (k : Nat) (p0 p1 : Value), i = .int .i64 (k : Int) ∧ k ≤ 2 ∧ 2 - k ≤ g ∧ HnC w w1.heap.size pb dg lim p0 p1 wr ∧
    (k = 0 ∨ ∃ s0, p0 = .pointer (some ⟨s0, 0, none⟩) ∧ StripO wr s0 (.slice none 0 0) [] ∧ w1.heap.size < s0 ∧ pb ≠ s0 ∧ (k = 1 ∨ ∃ s1, p1 = .pointer (some ⟨s1, 0, none⟩) ∧ StripO wr s1 (.slice none 0 0) [] ∧ s0 < s1 ∧ pb ≠ s1)))
  case atStart => exact ⟨0, _, _, rfl, by decide, by decide, HH.out, .inl rfl⟩
  case round =>
    clear HH
    obtain ⟨k, p0, p1, rfl, hk, hg, H, hcase⟩ := hrel
    have c3 : wr.cell? ⟨w1.heap.size, 3, none⟩ = some p0 := H.blk.cell rfl
    have c4 : wr.cell? ⟨w1.heap.size, 4, none⟩ = some p1 := H.blk.cell rfl
    have f3 := H.blk.frozen 3
    have f4 := H.blk.frozen 4
    have hlt := H.blk.lt
    have hpl := H.plt
    have HH := Lib.hid (And.intro H hcase)
    clear H
    by_cases k0 : k = 0
    · subst k0
      clear hcase
      go_upto_region 8 with fail
      go_region_with (go_at_call 28; refine (strip_new _).mono ?_; rintro e w2 ⟨rfl, rfl⟩)
      all_goals (
        have SK : StripO ((wr.setCell ⟨w1.heap.size, 3, none⟩ (.pointer (some ⟨wr.heap.size, 0, none⟩))).alloc (.cells #[.int .i64 4096, .slice none 0 0, .int .u64 0] 115)).drew wr.heap.size (.slice none 0 0) [] := by
          have := stripO_new (wr.setCell ⟨w1.heap.size, 3, none⟩ (.pointer (some ⟨wr.heap.size, 0, none⟩)))
          rw [show (wr.setCell ⟨w1.heap.size, 3, none⟩ (.pointer (some ⟨wr.heap.size, 0, none⟩))).heap.size = wr.heap.size by simp] at this
          exact this.drew
        have HN := ((HH.out.1.set0 (.pointer (some ⟨wr.heap.size, 0, none⟩))).next ((Below.refl _ _).alloc (Nat.le_refl _) (.cells #[.int .i64 4096, .slice none 0 0, .int .u64 0] 115))).next (Below.refl _ _).drew
        have HX := Lib.hid (And.intro SK HN)
        clear SK HN
        go_wp2_with fail
        go_roundg 1
        case measure => omega
        exact ⟨1, _, p1, by go_num, by decide, by decide, HX.out.2, .inr ⟨_, rfl, HX.out.1, hlt, by omega, .inl rfl⟩⟩)
    · by_cases k1 : k = 1
      · subst k1
        rcases hcase with h | ⟨s0, rfl, T0, g0, n0, _⟩
        · exact absurd h k0
        have hs0 := T0.blk.lt
        have HT := Lib.hid T0
        clear T0
        go_upto_region 8 with fail
        go_region_with (go_at_call 28; refine (strip_new _).mono ?_; rintro e w2 ⟨rfl, rfl⟩)
        all_goals (
          have SK : StripO ((wr.setCell ⟨w1.heap.size, 4, none⟩ (.pointer (some ⟨wr.heap.size, 0, none⟩))).alloc (.cells #[.int .i64 4096, .slice none 0 0, .int .u64 0] 115)).drew wr.heap.size (.slice none 0 0) [] := by
            have := stripO_new (wr.setCell ⟨w1.heap.size, 4, none⟩ (.pointer (some ⟨wr.heap.size, 0, none⟩)))
            rw [show (wr.setCell ⟨w1.heap.size, 4, none⟩ (.pointer (some ⟨wr.heap.size, 0, none⟩))).heap.size = wr.heap.size by simp] at this
            exact this.drew
          have HN := ((HH.out.1.set1 (.pointer (some ⟨wr.heap.size, 0, none⟩))).next ((Below.refl _ _).alloc (Nat.le_refl _) (.cells #[.int .i64 4096, .slice none 0 0, .int .u64 0] 115))).next (Below.refl _ _).drew
          have T0' := ((HT.out.other ⟨w1.heap.size, 4, none⟩ (.pointer (some ⟨wr.heap.size, 0, none⟩)) (by simp; omega) (by simp [Value.ownBlock])).next ((Below.refl _ _).alloc (Nat.le_refl _) (.cells #[.int .i64 4096, .slice none 0 0, .int .u64 0] 115))).drew
          have HX := Lib.hid (And.intro SK (And.intro HN T0'))
          clear SK HN T0'
          go_wp2_with fail
          go_roundg 0
          case measure => omega
          exact ⟨2, _, _, by go_num, by decide, by decide, HX.out.2.1, .inr ⟨s0, rfl, HX.out.2.2, g0, n0, .inr ⟨_, rfl, HX.out.1, hs0, by omega⟩⟩⟩)
      · have hk2 : k = 2 := by omega
        subst hk2
        rcases hcase with h | ⟨s0, rfl, T0, g0, n0, h | ⟨s1, rfl, T1, g1, n1⟩⟩
        · omega
        · omega
        have HF := Lib.hid (And.intro T0 T1)
        clear T0 T1 c3 c4 f3 f4
        go_wp2_with fail
        go_ret2
        have H := HH.out.1
        have g2 := H.hbg
        refine ⟨w1.heap.size, pb, s0, s1, rfl, ⟨H.blk, H.span, H.plt, H.pty, ⟨H.ne, n0, n1, by simp [Value.ownBlock], by simp [Value.ownBlock]⟩, HF.out.1, HF.out.2, by omega, fun g hg => by simp [Value.ownBlock] at hg⟩, g2, H.pbg, by omega, by omega, H.below⟩

/-- a hdr sketch, and how far the world went on -/
structure HdB (w : World) (hb pb s0 s1 : Nat) (v0 v1 : Value) (dg : Nat) (lim : Int) (l0 l1 : Row) (z : Nat) (lo hi : Int) (W : World) : Prop where
  hd : HdO W hb pb s0 s1 v0 v1 dg lim l0 l1 z lo hi
  below : Below w.heap.size w W
/-- how many values there are -/
def hdT (l0 l1 : Row) (z : Nat) : Nat := rowTotal l0 + z + rowTotal l1
theorem hdr_total (w : World) (hb pb s0 s1 : Nat) (v0 v1 : Value) (dg : Nat) (lim : Int) (l0 l1 : Row) (z : Nat) (lo hi : Int) (h : HdO w hb pb s0 s1 v0 v1 dg lim l0 l1 z lo hi) (hT : hdT l0 l1 z ≤ 9223372036854775807) :
    Calls Tryz.prog 95 #[.pointer (some ⟨hb, 0, none⟩)] w fun e w' => e = .returned (.int .u64 (hdT l0 l1 z : Nat)) ∧ Below w.heap.size w w' := by
  obtain ⟨T0, hT0⟩ : ∃ T0, T0 = rowTotal l0 := ⟨_, rfl⟩
  obtain ⟨T1, hT1⟩ : ∃ T1, T1 = rowTotal l1 := ⟨_, rfl⟩
  unfold hdT at hT ⊢
  have hs0 := fun W (k : HdO W hb pb s0 s1 v0 v1 dg lim l0 l1 z lo hi) => strip_total W s0 (rowTotal l0) k.st0.cells.2.2.1
  have hs1 := fun W (k : HdO W hb pb s0 s1 v0 v1 dg lim l0 l1 z lo hi) => strip_total W s1 (rowTotal l1) k.st1.cells.2.2.1
  rw [← hT0] at hs0 hT ⊢
  rw [← hT1] at hs1 hT ⊢
  have e1 : IntKind.u64.wrap ((T0 : Int) + (z : Int)) = ((T0 + z : Nat) : Int) := by rw [← Int.natCast_add]; exact Wd.wrapN _ (by omega)
  have e2 : IntKind.u64.wrap (((T0 + z : Nat) : Int) + (T1 : Int)) = ((T0 + z + T1 : Nat) : Int) := by rw [← Int.natCast_add]; exact Wd.wrapN _ (by omega)
  have HE := Lib.hid (And.intro e1 e2)
  clear hT0 hT1 e1 e2
  go_enter Tryz.func95, Tryz.ntmps95
  go_upto_region 3 with fail
  refine wp_region_quiet_litC (C := HdB w hb pb s0 s1 v0 v1 dg lim l0 l1 z lo hi) (by kernel_rfl) (by kernel_rfl) ⟨h.drew, (Below.refl _ _).drew⟩ ?_
  clear h
  repeat (first | go_big_quiet_skip | (go_big_quiet_want; go_big_quiet_op; first | go_big_quiet_on | (refine quiet_const ?_; go_big_quiet_on)))
  go_big_quiet_want
  refine ⟨.pointer (some ⟨s0, 0, none⟩), fun wx hx => ?_, ?_⟩
  · obtain ⟨c0, c1, c2, c3, c4, c5, c6, c7, f5, f6, f7⟩ := hx.hd.cells
    go_simp
  go_big_quiet_on
  simp only [Act.put, List.setIfInBounds_toArray, List.set_cons_zero, List.set_cons_succ]
  repeat (first | go_big_quiet_skip | (go_big_quiet_want; go_big_quiet_op; first | go_big_quiet_on | (refine quiet_const ?_; go_big_quiet_on)))
  go_big_quiet_want
  go_big_quiet_op
  refine ⟨.int .u64 (T0 : Int), fun wx hx => ?_, ?_⟩
  · exact (hs0 wx hx.hd).mono fun _ _ hm => ⟨hm.1, hm.2 ▸ hx⟩
  go_big_quiet_on
  repeat (first | go_big_quiet_skip | (go_big_quiet_want; go_big_quiet_op; first | go_big_quiet_on | (refine quiet_const ?_; go_big_quiet_on)))
  go_big_quiet_want
  refine ⟨.int .u64 (z : Int), fun wx hx => ?_, ?_⟩
  · obtain ⟨c0, c1, c2, c3, c4, c5, c6, c7, f5, f6, f7⟩ := hx.hd.cells
    go_simp
  go_big_quiet_on
  simp only [Act.put, List.setIfInBounds_toArray, List.set_cons_zero, List.set_cons_succ]
  repeat (first | go_big_quiet_skip | (go_big_quiet_want; go_big_quiet_op; first | go_big_quiet_on | (refine quiet_const ?_; go_big_quiet_on)))
  go_big_quiet_want
  refine ⟨.pointer (some ⟨s1, 0, none⟩), fun wx hx => ?_, ?_⟩
  · obtain ⟨c0, c1, c2, c3, c4, c5, c6, c7, f5, f6, f7⟩ := hx.hd.cells
    go_simp
  go_big_quiet_on
  simp only [Act.put, List.setIfInBounds_toArray, List.set_cons_zero, List.set_cons_succ]
  repeat (first | go_big_quiet_skip | (go_big_quiet_want; go_big_quiet_op; first | go_big_quiet_on | (refine quiet_const ?_; go_big_quiet_on)))
  go_big_quiet_want
  go_big_quiet_op
  refine ⟨.int .u64 (T1 : Int), fun wx hx => ?_, ?_⟩
  · exact (hs1 wx hx.hd).mono fun _ _ hm => ⟨hm.1, hm.2 ▸ hx⟩
  go_big_quiet_on
  repeat (first | go_big_quiet_skip | (go_big_quiet_want; go_big_quiet_op; first | go_big_quiet_on | (refine quiet_const ?_; go_big_quiet_on)))
  refine wpQuiet_nil ?_
  intro W1 H1
  have HB := Lib.hid H1.below
  clear H1 hs0 hs1
  go_wp2_with fail
  go_ret
  refine ⟨?_, HB.out⟩
  have e : ((T0 : Int) + (z : Int) + (T1 : Int)) = ((T0 + z + T1 : Nat) : Int) := by omega
  exact congrArg (fun q => Ending.returned (.int .u64 q)) e
theorem HdO.neb {w : World} {hb pb s0 s1 : Nat} {v0 v1 : Value} {dg : Nat} {lim : Int} {l0 l1 : Row} {z : Nat} {lo hi : Int} (h : HdO w hb pb s0 s1 v0 v1 dg lim l0 l1 z lo hi) : s0 ≠ hb ∧ s1 ≠ hb ∧ v0.ownBlock ≠ some hb ∧ v1.ownBlock ≠ some hb := by
  refine ⟨h.st0.blk.ne h.blk (by decide), h.st1.blk.ne h.blk (by decide), fun e => ?_, fun e => ?_⟩
  · obtain ⟨cur, hc⟩ := owns_blk h.st0.own e
    exact (h.blk.ne hc (by decide)) rfl
  · obtain ⟨cur, hc⟩ := owns_blk h.st1.own e
    exact (h.blk.ne hc (by decide)) rfl
/-- a cell of the sketch's own block turned -/
theorem HdO.turn {w : World} {hb pb s0 s1 : Nat} {v0 v1 : Value} {dg : Nat} {lim : Int} {l0 l1 : Row} {z z' : Nat} {lo hi lo' hi' : Int} (h : HdO w hb pb s0 s1 v0 v1 dg lim l0 l1 z lo hi) (j : Nat) (u : Value)
    (e : (hdC dg lim pb (.pointer (some ⟨s0, 0, none⟩)) (.pointer (some ⟨s1, 0, none⟩)) z lo hi).setIfInBounds j u = hdC dg lim pb (.pointer (some ⟨s0, 0, none⟩)) (.pointer (some ⟨s1, 0, none⟩)) z' lo' hi') : HdO (w.setCell ⟨hb, j, none⟩ u) hb pb s0 s1 v0 v1 dg lim l0 l1 z' lo' hi' := by
  obtain ⟨n0, n1, n2, n3⟩ := h.neb
  have hB := h.blk.set j u
  rw [e] at hB
  refine ⟨hB, ?_, by simpa using h.plt, h.pty.imp fun _ k => k.other ⟨hb, j, none⟩ u h.pne.1, h.pne, h.st0.other _ _ n0 n2, h.st1.other _ _ n1 n3, h.ap⟩
  rw [((Away.refl (fun k => k = hb) w).setCell ⟨hb, j, none⟩ u (.inl rfl)).cell (p := ⟨pb, 1, none⟩) h.plt h.pne.1]; exact h.span
def loF (T : Nat) (lo a : Int) : Int := if T = 0 then a else min lo a
def hiF (T : Nat) (hi a : Int) : Int := if T = 0 then a else max hi a
theorem hdr_ends (w : World) (hb pb s0 s1 : Nat) (v0 v1 : Value) (dg : Nat) (lim : Int) (l0 l1 : Row) (z : Nat) (lo hi : Int) (h : HdO w hb pb s0 s1 v0 v1 dg lim l0 l1 z lo hi) (hT : hdT l0 l1 z ≤ 9223372036854775807) (a b : Int) :
    Calls Tryz.prog 239 #[.pointer (some ⟨hb, 0, none⟩), .int .i64 a, .int .i64 b] w fun e w' => e = .returned (.tuple #[]) ∧ HdO w' hb pb s0 s1 v0 v1 dg lim l0 l1 z (loF (hdT l0 l1 z) lo a) (hiF (hdT l0 l1 z) hi b) ∧ Away (fun k => k = hb) w w' := by
  have hs := hdr_total w hb pb s0 s1 v0 v1 dg lim l0 l1 z lo hi h hT
  have FIN := Lib.hid (show ∀ (W : World) (a' b' : Int), Below w.heap.size w W → HdO ((W.setCell ⟨hb, 6, none⟩ (.int .i64 a')).setCell ⟨hb, 7, none⟩ (.int .i64 b')) hb pb s0 s1 v0 v1 dg lim l0 l1 z a' b' ∧ Away (fun k => k = hb) w ((W.setCell ⟨hb, 6, none⟩ (.int .i64 a')).setCell ⟨hb, 7, none⟩ (.int .i64 b')) from fun W a' b' hbl =>
    ⟨((h.next hbl).turn 6 _ rfl).turn 7 _ rfl, ((Away.of_below (F := fun k => k = hb) hbl).setCell ⟨hb, 6, none⟩ _ (.inl rfl)).setCell ⟨hb, 7, none⟩ _ (.inl rfl)⟩)
  have HH := Lib.hid h
  clear h
  by_cases h0 : hdT l0 l1 z = 0
  · have g1 : (((hdT l0 l1 z : Nat) : Int) == 0) = true := by simp [h0]
    have e1 : loF (hdT l0 l1 z) lo a = a := by unfold loF; rw [if_pos h0]
    have e2 : hiF (hdT l0 l1 z) hi b = b := by unfold hiF; rw [if_pos h0]
    rw [e1, e2]
    clear h0 e1 e2
    go_enter Tryz.func239, Tryz.ntmps239
    go_wp2_with fail
    refine hs.mono ?_
    rintro e w1 ⟨rfl, b1⟩
    obtain ⟨c0, c1, c2, c3, c4, c5, c6, c7, f5, f6, f7⟩ := (HH.out.next b1).cells
    have hF := Lib.hid (FIN.out w1 a b b1)
    clear b1 FIN hs
    go_wp2_with fail
    refine bodyPost_ret (results_none rfl _ _ _) rfl ?_
    exact ⟨rfl, hF.out⟩
  · have g1 : (((hdT l0 l1 z : Nat) : Int) == 0) = false := by simp [h0]
    have e1 : loF (hdT l0 l1 z) lo a = min lo a := by unfold loF; rw [if_neg h0]
    have e2 : hiF (hdT l0 l1 z) hi b = max hi b := by unfold hiF; rw [if_neg h0]
    rw [e1, e2]
    clear h0 e1 e2
    go_enter Tryz.func239, Tryz.ntmps239
    go_wp2_with fail
    refine hs.mono ?_
    rintro e w1 ⟨rfl, b1⟩
    obtain ⟨c0, c1, c2, c3, c4, c5, c6, c7, f5, f6, f7⟩ := (HH.out.next b1).cells
    have hF := Lib.hid (FIN.out w1.drew (min lo a) (max hi b) b1.drew)
    clear b1 FIN hs
    go_upto_region 2 with fail
    go_region
    all_goals (try go_wp2)
    all_goals go_end0
    all_goals exact ⟨rfl, hF.out⟩
end Go.Proofs.YtbejdajkkoapgaaGreatDoor

/-
  Rows of pairs are told by their counts, plain: two rows with the same counts are the same; the row of a list of values; least and greatest. No program. Conditions: stated in each law.
-/
set_option linter.unusedVariables false
set_option linter.unusedSimpArgs false
namespace Go.Proofs.YtbejdajkkoapgaaGreatDoor

theorem row_ext : ∀ {l m : Row}, Rising l → Full l → Rising m → Full m → (∀ v, rowAt l v = rowAt m v) → l = m
  | [], [], _, _, _, _, _ => rfl
  | [], y :: m, _, _, rm, fm, h => by
    have h1 := h y.1
    rw [rowAt_mem rm (List.mem_cons_self ..)] at h1
    have h2 := fm y (List.mem_cons_self ..)
    have h3 : rowAt [] y.1 = 0 := rfl
    omega
  | x :: l, [], rl, fl, _, _, h => by
    have h1 := h x.1
    rw [rowAt_mem rl (List.mem_cons_self ..)] at h1
    have h2 := fl x (List.mem_cons_self ..)
    have h3 : rowAt [] x.1 = 0 := rfl
    omega
  | x :: l, y :: m, rl, fl, rm, fm, h => by
    have hx := h x.1
    have hy := h y.1
    rw [rowAt_mem rl (List.mem_cons_self ..)] at hx
    rw [rowAt_mem rm (List.mem_cons_self ..)] at hy
    have fx := fl x (List.mem_cons_self ..)
    have fy := fm y (List.mem_cons_self ..)
    have e : x.1 = y.1 := by
      rcases Nat.lt_trichotomy x.1 y.1 with hlt | he | hgt
      · exfalso
        rw [rowAt_low (l := y :: m) (v := x.1)] at hx
        · omega
        · intro z hz
          rcases List.mem_cons.1 hz with rfl | hz
          · exact hlt
          · have := rm.1 z hz; omega
      · exact he
      · exfalso
        rw [rowAt_low (l := x :: l) (v := y.1)] at hy
        · omega
        · intro z hz
          rcases List.mem_cons.1 hz with rfl | hz
          · exact hgt
          · have := rl.1 z hz; omega
    have e2 : x.2 = y.2 := by
      rw [e] at hx
      rw [rowAt_mem rm (List.mem_cons_self ..)] at hx
      exact hx
    have exy : x = y := Prod.ext e e2
    subst exy
    have ht : ∀ v, rowAt l v = rowAt m v := fun v => by
      by_cases hv : x.1 = v
      · subst hv
        rw [rowAt_low (l := l) rl.1, rowAt_low (l := m) rm.1]
      · have := h v
        rwa [rowAt_cons_ne hv, rowAt_cons_ne hv] at this
    rw [row_ext rl.2 (fun z hz => fl z (List.mem_cons_of_mem _ hz)) rm.2 (fun z hz => fm z (List.mem_cons_of_mem _ hz)) ht]

theorem rowAt_add (l : Row) (i c v : Nat) : rowAt (addL l i c) v = rowAt l v + (if i = v then c else 0) := by
  unfold rowAt; rw [sumIf_add]; simp
theorem rising_join {l m : Row} (h : Rising l) : Rising (joinL l m) := by
  unfold joinL
  induction m generalizing l with
  | nil => exact h
  | cons x m ih => exact ih (rising_addL h)
theorem full_join {l m : Row} (h : Full l) (k : Full m) : Full (joinL l m) := by
  unfold joinL
  induction m generalizing l with
  | nil => exact h
  | cons x m ih => exact ih (full_addL h (k x (List.mem_cons_self ..))) fun z hz => k z (List.mem_cons_of_mem _ hz)

/-- the row of values, by where each counts -/
def putRow (f : Int → Option Nat) (l : Row) (x : Int × Nat) : Row := match f x.1 with
  | some i => addL l i x.2
  | none => l
def rowOf (f : Int → Option Nat) (vals : Vals) : Row := vals.foldl (putRow f) []
/-- how many values count there -/
def atOf (f : Int → Option Nat) (v : Nat) : Vals → Nat
  | [] => 0
  | x :: l => (if f x.1 = some v then x.2 else 0) + atOf f v l
theorem rowOf_snoc (f : Int → Option Nat) (vals : Vals) (x : Int × Nat) : rowOf f (vals ++ [x]) = putRow f (rowOf f vals) x := by unfold rowOf; rw [List.foldl_append]; rfl
theorem rowAt_put (f : Int → Option Nat) (l : Row) (x : Int × Nat) (v : Nat) : rowAt (putRow f l x) v = rowAt l v + (if f x.1 = some v then x.2 else 0) := by
  unfold putRow
  cases h : f x.1 with
  | none => simp
  | some i => simp only [rowAt_add, Option.some.injEq]
theorem rowAt_fold (f : Int → Option Nat) (v : Nat) (vals : Vals) : ∀ l, rowAt (vals.foldl (putRow f) l) v = rowAt l v + atOf f v vals := by
  induction vals with
  | nil => intro l; rfl
  | cons x vals ih => intro l; rw [List.foldl_cons, ih, rowAt_put]; simp only [atOf]; omega
theorem rowAt_of (f : Int → Option Nat) (vals : Vals) (v : Nat) : rowAt (rowOf f vals) v = atOf f v vals := by
  unfold rowOf; rw [rowAt_fold]
  have : rowAt [] v = 0 := rfl
  omega
theorem rising_put {f : Int → Option Nat} {l : Row} {x : Int × Nat} (h : Rising l) : Rising (putRow f l x) := by
  unfold putRow; split
  · exact rising_addL h
  · exact h
theorem full_put {f : Int → Option Nat} {l : Row} {x : Int × Nat} (h : Full l) (hx : 1 ≤ x.2) : Full (putRow f l x) := by
  unfold putRow; split
  · exact full_addL h hx
  · exact h
theorem rising_of (f : Int → Option Nat) (vals : Vals) : Rising (rowOf f vals) := by
  unfold rowOf
  suffices ∀ l, Rising l → Rising (vals.foldl (putRow f) l) from this [] trivial
  induction vals with
  | nil => exact fun l h => h
  | cons x vals ih => exact fun l h => ih _ (rising_put h)
theorem full_of (f : Int → Option Nat) (vals : Vals) (hv : ∀ x ∈ vals, 1 ≤ x.2) : Full (rowOf f vals) := by
  unfold rowOf
  suffices ∀ l, Full l → Full (vals.foldl (putRow f) l) from this [] fun x hx => by cases hx
  induction vals with
  | nil => exact fun l h => h
  | cons x vals ih => exact fun l h => ih (fun y hy => hv y (List.mem_cons_of_mem _ hy)) _ (full_put h (hv x (List.mem_cons_self ..)))
theorem atOf_append (f : Int → Option Nat) (v : Nat) (a b : Vals) : atOf f v (a ++ b) = atOf f v a + atOf f v b := by
  induction a with
  | nil => simp [atOf]
  | cons x a ih => rw [List.cons_append]; simp only [atOf, ih]; omega
theorem atOf_perm (f : Int → Option Nat) (v : Nat) {a b : Vals} (h : a.Perm b) : atOf f v a = atOf f v b := by
  induction h with
  | nil => rfl
  | cons x _ ih => simp only [atOf, ih]
  | swap x y l => simp only [atOf]; omega
  | trans _ _ h1 h2 => exact h1.trans h2
theorem rowOf_perm (f : Int → Option Nat) {a b : Vals} (h : a.Perm b) (hv : ∀ x ∈ a, 1 ≤ x.2) : rowOf f a = rowOf f b :=
  row_ext (rising_of f a) (full_of f a hv) (rising_of f b) (full_of f b fun x hx => hv x (h.mem_iff.2 hx)) fun v => by rw [rowAt_of, rowAt_of, atOf_perm f v h]
theorem rowAt_join (l m : Row) (v : Nat) : rowAt (joinL l m) v = rowAt l v + rowAt m v := sumIf_join _ _ _
theorem rowOf_append (f : Int → Option Nat) (a b : Vals) (ha : ∀ x ∈ a, 1 ≤ x.2) (hb : ∀ x ∈ b, 1 ≤ x.2) : rowOf f (a ++ b) = joinL (rowOf f a) (rowOf f b) :=
  row_ext (rising_of f _) (full_of f _ fun x hx => (List.mem_append.1 hx).elim (ha x) (hb x)) (rising_join (rising_of f a)) (full_join (full_of f a ha) (full_of f b hb)) fun v => by
    rw [rowAt_join, rowAt_of, rowAt_of, rowAt_of, atOf_append]
theorem len_put (f : Int → Option Nat) (l : Row) (x : Int × Nat) : (putRow f l x).length ≤ l.length + 1 := by
  unfold putRow; split
  · exact length_addL_le _ _ _
  · omega
theorem len_of (f : Int → Option Nat) (vals : Vals) : (rowOf f vals).length ≤ vals.length := by
  unfold rowOf
  suffices ∀ l : Row, (vals.foldl (putRow f) l).length ≤ l.length + vals.length by simpa using this []
  induction vals with
  | nil => exact fun l => Nat.le_refl _
  | cons x vals ih => exact fun l => by rw [List.foldl_cons, List.length_cons]; have := ih (putRow f l x); have := len_put f l x; omega
/-- how many values count at all -/
def someOf (f : Int → Option Nat) : Vals → Nat
  | [] => 0
  | x :: l => (if (f x.1).isSome then x.2 else 0) + someOf f l
theorem total_put (f : Int → Option Nat) (l : Row) (x : Int × Nat) : rowTotal (putRow f l x) = rowTotal l + (if (f x.1).isSome then x.2 else 0) := by
  unfold putRow rowTotal
  cases h : f x.1 with
  | none => simp
  | some i => simp only [sumIf_add]; simp
theorem total_of (f : Int → Option Nat) (vals : Vals) : rowTotal (rowOf f vals) = someOf f vals := by
  unfold rowOf
  suffices ∀ l, rowTotal (vals.foldl (putRow f) l) = rowTotal l + someOf f vals by rw [this]; show 0 + _ = _; omega
  induction vals with
  | nil => exact fun l => rfl
  | cons x vals ih => exact fun l => by rw [List.foldl_cons, ih, total_put]; simp only [someOf]; omega
theorem mem_of (f : Int → Option Nat) (vals : Vals) : ∀ y ∈ rowOf f vals, ∃ x ∈ vals, f x.1 = some y.1 := by
  unfold rowOf
  suffices ∀ l : Row, ∀ y ∈ vals.foldl (putRow f) l, y ∈ vals.foldl (putRow f) l → (∃ z ∈ l, z.1 = y.1) ∨ ∃ x ∈ vals, f x.1 = some y.1 from fun y hy => by
    rcases this [] y hy hy with ⟨z, hz, _⟩ | h
    · cases hz
    · exact h
  induction vals with
  | nil => exact fun l y hy _ => .inl ⟨y, hy, rfl⟩
  | cons x vals ih =>
    intro l y hy _
    rw [List.foldl_cons] at hy
    rcases ih _ y hy hy with ⟨z, hz, hzy⟩ | ⟨x', hx', he⟩
    · unfold putRow at hz
      split at hz
      · rename_i i hi
        rcases mem_addL hz with hz | hz
        · exact .inl ⟨z, hz, hzy⟩
        · exact .inr ⟨x, List.mem_cons_self .., by rw [hi, ← hzy, hz]⟩
      · exact .inl ⟨z, hz, hzy⟩
    · exact .inr ⟨x', List.mem_cons_of_mem _ hx', he⟩

/-- the least and the greatest value -/
def loOf : Vals → Int
  | [] => 0
  | x :: l => l.foldl (fun a y => min a y.1) x.1
def hiOf : Vals → Int
  | [] => 0
  | x :: l => l.foldl (fun a y => max a y.1) x.1
theorem loOf_cons (x : Int × Nat) (l : Vals) : loOf (x :: l) = l.foldl (fun a y => min a y.1) x.1 := rfl
theorem hiOf_cons (x : Int × Nat) (l : Vals) : hiOf (x :: l) = l.foldl (fun a y => max a y.1) x.1 := rfl
theorem loOf_snoc (l : Vals) (x : Int × Nat) : loOf (l ++ [x]) = if l = [] then x.1 else min (loOf l) x.1 := by
  cases l with
  | nil => rfl
  | cons y l => rw [if_neg (by simp), List.cons_append, loOf_cons, loOf_cons, List.foldl_append]; rfl
theorem hiOf_snoc (l : Vals) (x : Int × Nat) : hiOf (l ++ [x]) = if l = [] then x.1 else max (hiOf l) x.1 := by
  cases l with
  | nil => rfl
  | cons y l => rw [if_neg (by simp), List.cons_append, hiOf_cons, hiOf_cons, List.foldl_append]; rfl
theorem lo_fold (l : Vals) : ∀ a b : Int, l.foldl (fun a y => min a y.1) (min a b) = min a (l.foldl (fun a y => min a y.1) b) := by
  induction l with
  | nil => intro a b; rfl
  | cons x l ih => intro a b; rw [List.foldl_cons, List.foldl_cons, ← ih]; congr 1; omega
theorem hi_fold (l : Vals) : ∀ a b : Int, l.foldl (fun a y => max a y.1) (max a b) = max a (l.foldl (fun a y => max a y.1) b) := by
  induction l with
  | nil => intro a b; rfl
  | cons x l ih => intro a b; rw [List.foldl_cons, List.foldl_cons, ← ih]; congr 1; omega
theorem loOf_append (a b : Vals) (ha : a ≠ []) (hb : b ≠ []) : loOf (a ++ b) = min (loOf a) (loOf b) := by
  cases a with
  | nil => exact absurd rfl ha
  | cons x a =>
    cases b with
    | nil => exact absurd rfl hb
    | cons y b => rw [List.cons_append, loOf_cons, loOf_cons, loOf_cons, List.foldl_append, List.foldl_cons, lo_fold]
theorem hiOf_append (a b : Vals) (ha : a ≠ []) (hb : b ≠ []) : hiOf (a ++ b) = max (hiOf a) (hiOf b) := by
  cases a with
  | nil => exact absurd rfl ha
  | cons x a =>
    cases b with
    | nil => exact absurd rfl hb
    | cons y b => rw [List.cons_append, hiOf_cons, hiOf_cons, hiOf_cons, List.foldl_append, List.foldl_cons, hi_fold]
theorem loOf_two (x y : Int × Nat) (l : Vals) : loOf (x :: y :: l) = min x.1 (loOf (y :: l)) := by rw [loOf_cons, loOf_cons, List.foldl_cons, lo_fold]
theorem hiOf_two (x y : Int × Nat) (l : Vals) : hiOf (x :: y :: l) = max x.1 (hiOf (y :: l)) := by rw [hiOf_cons, hiOf_cons, List.foldl_cons, hi_fold]
theorem loOf_spec : ∀ (l : Vals), l ≠ [] → (∃ x ∈ l, x.1 = loOf l) ∧ ∀ x ∈ l, loOf l ≤ x.1
  | [], h => absurd rfl h
  | [x], _ => ⟨⟨x, List.mem_cons_self .., rfl⟩, fun y hy => by rw [List.mem_singleton.1 hy]; exact Int.le_refl _⟩
  | x :: y :: l, _ => by
    obtain ⟨⟨z, hz, he⟩, h2⟩ := loOf_spec (y :: l) (by simp)
    rw [loOf_two]
    refine ⟨?_, fun u hu => ?_⟩
    · by_cases hx : x.1 ≤ loOf (y :: l)
      · exact ⟨x, List.mem_cons_self .., by omega⟩
      · exact ⟨z, List.mem_cons_of_mem _ hz, by omega⟩
    · rcases List.mem_cons.1 hu with rfl | hu
      · omega
      · have := h2 u hu; omega
theorem hiOf_spec : ∀ (l : Vals), l ≠ [] → (∃ x ∈ l, x.1 = hiOf l) ∧ ∀ x ∈ l, x.1 ≤ hiOf l
  | [], h => absurd rfl h
  | [x], _ => ⟨⟨x, List.mem_cons_self .., rfl⟩, fun y hy => by rw [List.mem_singleton.1 hy]; exact Int.le_refl _⟩
  | x :: y :: l, _ => by
    obtain ⟨⟨z, hz, he⟩, h2⟩ := hiOf_spec (y :: l) (by simp)
    rw [hiOf_two]
    refine ⟨?_, fun u hu => ?_⟩
    · by_cases hx : hiOf (y :: l) ≤ x.1
      · exact ⟨x, List.mem_cons_self .., by omega⟩
      · exact ⟨z, List.mem_cons_of_mem _ hz, by omega⟩
    · rcases List.mem_cons.1 hu with rfl | hu
      · omega
      · have := h2 u hu; omega
theorem loOf_perm {a b : Vals} (h : a.Perm b) : loOf a = loOf b := by
  by_cases ha : a = []
  · subst ha; rw [h.nil_eq]
  · have hb : b ≠ [] := fun e => by subst e; exact ha h.symm.nil_eq.symm
    obtain ⟨⟨x, hx, ex⟩, h1⟩ := loOf_spec a ha
    obtain ⟨⟨y, hy, ey⟩, h2⟩ := loOf_spec b hb
    have := h1 y (h.mem_iff.2 hy)
    have := h2 x (h.mem_iff.1 hx)
    omega
theorem hiOf_perm {a b : Vals} (h : a.Perm b) : hiOf a = hiOf b := by
  by_cases ha : a = []
  · subst ha; rw [h.nil_eq]
  · have hb : b ≠ [] := fun e => by subst e; exact ha h.symm.nil_eq.symm
    obtain ⟨⟨x, hx, ex⟩, h1⟩ := hiOf_spec a ha
    obtain ⟨⟨y, hy, ey⟩, h2⟩ := hiOf_spec b hb
    have := h1 y (h.mem_iff.2 hy)
    have := h2 x (h.mem_iff.1 hx)
    omega
theorem someOf_perm (f : Int → Option Nat) {a b : Vals} (h : a.Perm b) : someOf f a = someOf f b := by
  induction h with
  | nil => rfl
  | cons x _ ih => simp only [someOf, ih]
  | swap x y l => simp only [someOf]; omega
  | trans _ _ h1 h2 => exact h1.trans h2
theorem someOf_append (f : Int → Option Nat) (a b : Vals) : someOf f (a ++ b) = someOf f a + someOf f b := by
  induction a with
  | nil => simp [someOf]
  | cons x a ih => rw [List.cons_append]; simp only [someOf, ih]; omega
end Go.Proofs.YtbejdajkkoapgaaGreatDoor

/-
  Contract of hdr.Put. Conditions: few values.
-/
set_option linter.unusedVariables false
set_option linter.unusedSimpArgs false
set_option maxRecDepth 100000
namespace Go.Proofs.YtbejdajkkoapgaaGreatDoor
open Go.RowKit Go.Lib

/-- a value's span -/
def ixH (dg : Nat) (x : Int) : Nat := (Sp.idx (Sp.logD dg) (Sg.mag x)).toNat
theorem ixH_eq (dg : Nat) (x : Int) (hx : I64 x) (h0 : x ≠ 0) : Sp.idx (Sp.logD dg) (Sg.mag x) = (ixH dg x : Int) ∧ 1 ≤ ixH dg x ∧ ixH dg x ≤ 1064960 := by
  unfold I64 at hx
  have h1 := Sg.mag_or x
  have h2 := Sp.idx_bd (Sp.logD dg) (Sg.mag x) (by omega) (by omega) (Sp.logD_le dg).2
  unfold ixH; omega
/-- where values count: below nought, above it, noughts -/
def hf0 (dg : Nat) (x : Int) : Option Nat := if x < 0 then some (ixH dg x) else none
def hf1 (dg : Nat) (x : Int) : Option Nat := if 0 < x then some (ixH dg x) else none
def hfz (x : Int) : Option Nat := if x = 0 then some 0 else none

section
variable {w w' : World} {hb pb s0 s1 : Nat} {v0 v1 : Value} {dg : Nat} {lim : Int} {l0 l1 : Row} {z : Nat} {lo hi : Int}
theorem side_zero (w : World) (h : HdO w hb pb s0 s1 v0 v1 dg lim l0 l1 z lo hi) :
    Calls Tryz.prog 238 #[.pointer (some ⟨hb, 0, none⟩), .int .i64 0] w fun e w' => e = .returned (.tuple #[.pointer (some ⟨s1, 0, none⟩), .int .i64 0, .bool false]) ∧ Below w.heap.size w w' := by
  obtain ⟨c0, c1, c2, c3, c4, c5, c6, c7, f5, f6, f7⟩ := h.cells
  have ho := fun W => Sg.of_any 0 W (by decide) (by decide)
  rw [Sg.mag_pos (Int.le_refl 0), Sg.neg_no (Int.le_refl 0)] at ho
  have hi := fun W => Sp.index_no pb 0 W (.inl rfl)
  clear h
  go_enter Tryz.func238, Tryz.ntmps238
  go_wp2_with (first | (go_at_call 215; refine (ho _).mono ?_; rintro e w1 ⟨rfl, rfl⟩) | (go_at_call 132; refine (hi _).mono ?_; rintro e w1 ⟨rfl, rfl⟩))
  go_ret3
  exact ⟨rfl, Below.refl _ _⟩
theorem side_pos (w : World) (h : HdO w hb pb s0 s1 v0 v1 dg lim l0 l1 z lo hi) (x : Int) (hx : I64 x) (h0 : 0 < x) :
    Calls Tryz.prog 238 #[.pointer (some ⟨hb, 0, none⟩), .int .i64 x] w fun e w' => e = .returned (.tuple #[.pointer (some ⟨s1, 0, none⟩), .int .i64 (ixH dg x : Nat), .bool true]) ∧ Below w.heap.size w w' := by
  obtain ⟨c0, c1, c2, c3, c4, c5, c6, c7, f5, f6, f7⟩ := h.cells
  have hx' := hx
  unfold I64 at hx'
  have ho := fun W => Sg.of_any x W hx'.1 hx'.2
  have hm := Sg.mag_or x
  have hi := Sp.index_yes pb (Sp.logD dg) (Sg.mag x) w (by omega) (by omega) (Sp.logD_le dg).2 h.span
  rw [(ixH_eq dg x hx (by omega)).1] at hi
  rw [Sg.neg_no (Int.le_of_lt h0)] at ho
  have hd := fun W (k : Below w.heap.size w W) => (h.next k).cells
  clear h hm hx'
  go_enter Tryz.func238, Tryz.ntmps238
  go_wp2_with fail
  refine (ho _).mono ?_
  rintro e w1 ⟨rfl, rfl⟩
  go_wp2_with fail
  refine hi.mono ?_
  rintro e w2 ⟨rfl, d2⟩
  have HB := Lib.hid d2.below
  obtain ⟨k0, k1, k2, k3, k4, k5, k6, k7, m5, m6, m7⟩ := hd w2 d2.below
  clear d2 hd hi ho c0 c1 c2 c3 c4 c5 c6 c7 f5 f6 f7
  go_wp2_with fail
  go_ret3
  exact ⟨rfl, HB.out⟩
theorem side_neg (w : World) (h : HdO w hb pb s0 s1 v0 v1 dg lim l0 l1 z lo hi) (x : Int) (hx : I64 x) (h0 : x < 0) :
    Calls Tryz.prog 238 #[.pointer (some ⟨hb, 0, none⟩), .int .i64 x] w fun e w' => e = .returned (.tuple #[.pointer (some ⟨s0, 0, none⟩), .int .i64 (ixH dg x : Nat), .bool true]) ∧ Below w.heap.size w w' := by
  obtain ⟨c0, c1, c2, c3, c4, c5, c6, c7, f5, f6, f7⟩ := h.cells
  have hx' := hx
  unfold I64 at hx'
  have ho := fun W => Sg.of_any x W hx'.1 hx'.2
  have hm := Sg.mag_or x
  have hi := Sp.index_yes pb (Sp.logD dg) (Sg.mag x) w (by omega) (by omega) (Sp.logD_le dg).2 h.span
  rw [(ixH_eq dg x hx (by omega)).1] at hi
  rw [Sg.neg_yes h0] at ho
  have hd := fun W (k : Below w.heap.size w W) => (h.next k).cells
  clear h hm hx'
  go_enter Tryz.func238, Tryz.ntmps238
  go_wp2_with fail
  refine (ho _).mono ?_
  rintro e w1 ⟨rfl, rfl⟩
  go_wp2_with fail
  refine hi.mono ?_
  rintro e w2 ⟨rfl, d2⟩
  have HB := Lib.hid d2.below
  obtain ⟨k0, k1, k2, k3, k4, k5, k6, k7, m5, m6, m7⟩ := hd w2 d2.below
  clear d2 hd hi ho c0 c1 c2 c3 c4 c5 c6 c7 f5 f6 f7
  go_wp2_with fail
  go_ret3
  exact ⟨rfl, HB.out⟩

theorem strip_ne {a b : Nat} {u v : Value} {l m : Row} (h : StripO w a u l) (k : StripO w b v m) : u.ownBlock ≠ some b := fun e => by
  obtain ⟨cur, hc⟩ := owns_blk h.own e
  exact (k.blk.ne hc (by decide)) rfl
/-- behind an Add to a strip of its own -/
theorem HdO.add0 (h : HdO w hb pb s0 s1 v0 v1 dg lim l0 l1 z lo hi) {v' : Value} {l' : Row} (hs : StripO w' s0 v' l') (ha : Away (fun k => k = s0 ∨ v0.ownBlock = some k) w w') (hk : Kin w v0 v') :
    HdO w' hb pb s0 s1 v' v1 dg lim l' l1 z lo hi ∧ SubO w (OwnH hb pb s0 s1 v0 v1) (OwnH hb pb s0 s1 v' v1) := by
  obtain ⟨n0, n1, n2, n3⟩ := h.neb
  obtain ⟨p0, p1, p2, p3, p4⟩ := h.pne
  have hv' : ∀ k, v'.ownBlock = some k → v0.ownBlock = some k ∨ w.heap.size ≤ k := fun k hk' => by
    rcases hk with e | ⟨k', e, g⟩
    · exact .inl (e ▸ hk')
    · rw [e] at hk'; injection hk' with hk'; subst hk'; exact .inr g
  have d1 := strip_ne h.st0 h.st1
  refine ⟨⟨h.blk.away ha (by rintro (e | e); exact n0 e.symm; exact n2 e), ?_, Nat.lt_of_lt_of_le h.plt ha.size, h.pty.imp fun _ k => k.away ha (by rintro (e | e); exact p1 e; exact p3 e), ⟨p0, p1, p2, fun e => ?_, p4⟩, hs, h.st1.away ha (by rintro (e | e); exact h.ap.1 e.symm; exact d1 e) (fun g hg => ?_), h.ap.1, fun g hg hg1 => ?_⟩, ?_⟩
  · rw [ha.cell (p := ⟨pb, 1, none⟩) h.plt (by rintro (e | e); exact p1 e; exact p3 e)]; exact h.span
  · rcases hv' pb e with e | e
    · exact p3 e
    · have := h.plt; omega
  · rintro (e | e)
    · subst e; exact strip_ne h.st1 h.st0 hg
    · exact h.ap.2 g e hg
  · rcases hv' g hg with e | e
    · exact h.ap.2 g e hg1
    · have := (h.st1.own.lt g hg1).2; omega
  · rintro k (e | e | e | e | e | e)
    · exact .inl (.inl e)
    · exact .inl (.inr (.inl e))
    · exact .inl (.inr (.inr (.inl e)))
    · exact .inl (.inr (.inr (.inr (.inl e))))
    · exact (hv' k e).imp (fun e => .inr (.inr (.inr (.inr (.inl e))))) id
    · exact .inl (.inr (.inr (.inr (.inr (.inr e)))))
theorem HdO.add1 (h : HdO w hb pb s0 s1 v0 v1 dg lim l0 l1 z lo hi) {v' : Value} {l' : Row} (hs : StripO w' s1 v' l') (ha : Away (fun k => k = s1 ∨ v1.ownBlock = some k) w w') (hk : Kin w v1 v') :
    HdO w' hb pb s0 s1 v0 v' dg lim l0 l' z lo hi ∧ SubO w (OwnH hb pb s0 s1 v0 v1) (OwnH hb pb s0 s1 v0 v') := by
  obtain ⟨n0, n1, n2, n3⟩ := h.neb
  obtain ⟨p0, p1, p2, p3, p4⟩ := h.pne
  have hv' : ∀ k, v'.ownBlock = some k → v1.ownBlock = some k ∨ w.heap.size ≤ k := fun k hk' => by
    rcases hk with e | ⟨k', e, g⟩
    · exact .inl (e ▸ hk')
    · rw [e] at hk'; injection hk' with hk'; subst hk'; exact .inr g
  have d1 := strip_ne h.st1 h.st0
  refine ⟨⟨h.blk.away ha (by rintro (e | e); exact n1 e.symm; exact n3 e), ?_, Nat.lt_of_lt_of_le h.plt ha.size, h.pty.imp fun _ k => k.away ha (by rintro (e | e); exact p2 e; exact p4 e), ⟨p0, p1, p2, p3, fun e => ?_⟩, h.st0.away ha (by rintro (e | e); exact h.ap.1 e; exact d1 e) (fun g hg => ?_), hs, h.ap.1, fun g hg hg1 => ?_⟩, ?_⟩
  · rw [ha.cell (p := ⟨pb, 1, none⟩) h.plt (by rintro (e | e); exact p2 e; exact p4 e)]; exact h.span
  · rcases hv' pb e with e | e
    · exact p4 e
    · have := h.plt; omega
  · rintro (e | e)
    · subst e; exact strip_ne h.st0 h.st1 hg
    · exact h.ap.2 g hg e
  · rcases hv' g hg1 with e | e
    · exact h.ap.2 g hg e
    · have := (h.st0.own.lt g hg).2; omega
  · rintro k (e | e | e | e | e | e)
    · exact .inl (.inl e)
    · exact .inl (.inr (.inl e))
    · exact .inl (.inr (.inr (.inl e)))
    · exact .inl (.inr (.inr (.inr (.inl e))))
    · exact .inl (.inr (.inr (.inr (.inr (.inl e)))))
    · exact (hv' k e).imp (fun e => .inr (.inr (.inr (.inr (.inr e))))) id
end
end Go.Proofs.YtbejdajkkoapgaaGreatDoor

/-
  Contract of hdr.Put. Conditions: few values.
-/
set_option linter.unusedVariables false
set_option linter.unusedSimpArgs false
set_option maxRecDepth 100000
namespace Go.Proofs.YtbejdajkkoapgaaGreatDoor
open Go.RowKit Go.Lib

section
variable {hb pb s0 s1 : Nat} {v0 v1 : Value} {dg : Nat} {lim : Int} {l0 l1 : Row} {z : Nat} {lo hi : Int}
theorem hdr_put_none (w : World) (h : HdO w hb pb s0 s1 v0 v1 dg lim l0 l1 z lo hi) (x : Int) :
    Calls Tryz.prog 236 #[.pointer (some ⟨hb, 0, none⟩), .int .i64 x, .int .u64 0] w fun e w' => e = .returned (.int .i64 1) ∧ w = w' := by
  clear h
  go_enter Tryz.func236, Tryz.ntmps236
  go_wp2_with fail
  go_ret
  exact ⟨rfl, rfl⟩
theorem hdr_put_far (w : World) (h : HdO w hb pb s0 s1 v0 v1 dg lim l0 l1 z lo hi) (x : Int) (hx : I64 x) (c : Nat) (hc : 1 ≤ c) (h0 : 0 < lim) (hf : lim < Sg.mag x) :
    Calls Tryz.prog 236 #[.pointer (some ⟨hb, 0, none⟩), .int .i64 x, .int .u64 (c : Int)] w fun e w' => e = .returned (.int .i64 7) ∧ w = w' := by
  obtain ⟨c0, c1, c2, c3, c4, c5, c6, c7, f5, f6, f7⟩ := h.cells
  unfold I64 at hx
  have ho := fun W => Sg.of_any x W hx.1 hx.2
  have g1 : ((c : Int) == 0) = false := by simp; omega
  generalize Sg.mag x = m at hf ho
  generalize Sg.neg x = ng at ho
  clear h hc hx
  go_enter Tryz.func236, Tryz.ntmps236
  go_wp2_with (go_at_call 215; refine (ho _).mono ?_; rintro e w1 ⟨rfl, rfl⟩)
  go_ret
  exact ⟨rfl, rfl⟩

/-- what a sketch is that has turned -/
def HdTo (w : World) (hb pb s0 s1 : Nat) (v0 v1 : Value) (dg : Nat) (lim : Int) (l0' l1' : Row) (z' : Nat) (lo' hi' : Int) (W : World) : Prop :=
  ∃ v0' v1', HdO W hb pb s0 s1 v0' v1' dg lim l0' l1' z' lo' hi' ∧ SubO w (OwnH hb pb s0 s1 v0 v1) (OwnH hb pb s0 s1 v0' v1') ∧ Away (OwnH hb pb s0 s1 v0 v1) w W
end
set_option maxHeartbeats 4000000 in
theorem hdr_put_zero (w : World) (hb pb s0 s1 : Nat) (v0 v1 : Value) (dg : Nat) (lim : Int) (l0 l1 : Row) (z : Nat) (lo hi : Int) (h : HdO w hb pb s0 s1 v0 v1 dg lim l0 l1 z lo hi) (hl : 0 ≤ lim) (c : Nat) (hc : 1 ≤ c) (hT : hdT l0 l1 z + c ≤ 9223372036854775807) :
    Calls Tryz.prog 236 #[.pointer (some ⟨hb, 0, none⟩), .int .i64 0, .int .u64 (c : Int)] w fun e w' => e = .returned (.int .i64 0) ∧ HdTo w hb pb s0 s1 v0 v1 dg lim l0 l1 (z + c) (loF (hdT l0 l1 z) lo 0) (hiF (hdT l0 l1 z) hi 0) w' := by
  obtain ⟨c0, c1, c2, c3, c4, c5, c6, c7, f5, f6, f7⟩ := h.cells
  have ho := fun W => Sg.of_any 0 W (by decide) (by decide)
  rw [Sg.mag_pos (Int.le_refl 0), Sg.neg_no (Int.le_refl 0)] at ho
  have g1 : ((c : Int) == 0) = false := by simp; omega
  have g2 : ¬ lim < 0 := by omega
  have hto := hdr_total w hb pb s0 s1 v0 v1 dg lim l0 l1 z lo hi h (by omega)
  obtain ⟨T, hTT⟩ : ∃ T, T = hdT l0 l1 z := ⟨_, rfl⟩
  have hzT : z ≤ T := by rw [hTT]; unfold hdT; omega
  rw [← hTT] at hto hT ⊢
  have hpl := fun W b => plus_any W b T c hT
  have e1 : IntKind.u64.wrap ((z : Int) + (c : Int)) = ((z + c : Nat) : Int) := by rw [← Int.natCast_add]; exact Wd.wrapN _ (by omega)
  have HH := Lib.hid (And.intro h (And.intro e1 hTT))
  have hlt := h.blk.lt
  by_cases g3 : 0 < lim
  all_goals (
    clear h e1 hTT hl
    go_enter Tryz.func236, Tryz.ntmps236
    go_wp2_with fail
    refine (ho _).mono ?_
    rintro e w1 ⟨rfl, rfl⟩
    go_wp2_with fail
    refine hto.mono ?_
    rintro e w1 ⟨rfl, b1⟩
    have H1 := HH.out.1.next b1
    have HB1 := Lib.hid (And.intro H1 b1)
    clear H1 b1 hto c0 c1 c2 c3 c4 c5 c6 c7 f5 f6 f7
    go_wp2_with fail
    refine (hpl _ _ (by simp) (by simp)).mono ?_
    rintro e w2 ⟨rfl, rfl⟩
    have B2 : Below w1.heap.size w1 (w1.alloc (.cells #[.int .u64 (T : Int), .int .u64 (c : Int)] 23)) := (Below.refl _ _).alloc (Nat.le_refl _) _
    have H2 := HB1.out.1.next B2
    have hsd := side_zero _ H2
    have HB2 := Lib.hid (And.intro H2 (HB1.out.2.trans (B2.mono HB1.out.2.size)))
    clear B2 H2 HB1 hpl ho
    go_wp2_with fail
    refine hsd.mono ?_
    rintro e w3 ⟨rfl, b3⟩
    have H3 := HB2.out.1.next b3
    have hen := hdr_ends w3 hb pb s0 s1 v0 v1 dg lim l0 l1 z lo hi H3 (by rw [← HH.out.2.2]; omega) 0 0
    rw [← HH.out.2.2] at hen
    have HB3 := Lib.hid (HB2.out.2.trans (b3.mono HB2.out.2.size))
    clear H3 b3 HB2 hsd
    go_wp2_with fail
    refine hen.mono ?_
    rintro e w4 ⟨rfl, H4, a4⟩
    obtain ⟨k0, k1, k2, k3, k4, k5, k6, k7, m5, m6, m7⟩ := H4.cells
    have H5 := H4.turn (z' := z + c) (lo' := loF T lo 0) (hi' := hiF T hi 0) 5 (.int .u64 ((z + c : Nat) : Int)) rfl
    have A5 : Away (OwnH hb pb s0 s1 v0 v1) w (w4.setCell ⟨hb, 5, none⟩ (.int .u64 ((z + c : Nat) : Int))) := ((Away.of_below (F := OwnH hb pb s0 s1 v0 v1) HB3.out).trans' a4 (fun _ _ h => h) (fun k _ e => .inl e)).setCell ⟨hb, 5, none⟩ _ (.inl (.inl rfl))
    have HF := Lib.hid (And.intro H5 A5)
    clear H4 a4 H5 A5 hen HB3
    have e1 := HH.out.2.1
    go_wp2_with fail
    go_ret
    exact ⟨rfl, v0, v1, by simpa [Int.natCast_add] using HF.out.1, fun _ h => .inl h, by simpa [Int.natCast_add] using HF.out.2⟩)
end Go.Proofs.YtbejdajkkoapgaaGreatDoor

