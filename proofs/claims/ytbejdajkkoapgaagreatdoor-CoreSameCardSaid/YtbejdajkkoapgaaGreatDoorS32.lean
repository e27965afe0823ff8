/-
  Several texts in one: Rg, Lz, Rt. What each proves, and on which conditions, stands at its head. Conditions: stated in each.
-/
import Derived.Test.YtbejdajkkoapgaaGreatDoorS26
import Derived.Test.YtbejdajkkoapgaaGreatDoorS27
import Derived.Test.YtbejdajkkoapgaaGreatDoorS28
import Derived.Test.YtbejdajkkoapgaaGreatDoorS31
import Derived.Test.YtbejdajkkoapgaaGreatDoorS18
/-
  What a reader of the suite has in memory while it reads a kind's load, and the config that it hands back. Conditions: stated in each.
-/
set_option linter.unusedVariables false
set_option linter.unusedSimpArgs false
set_option maxRecDepth 100000
namespace Go.Proofs.YtbejdajkkoapgaaGreatDoor
open Go.RowKit Go.Lib

/-- cells of a block set, one behind the other -/
def stF (W : World) (b : Nat) : Nat → List Value → World
  | _, [] => W
  | j, v :: vs => stF (W.setCell ⟨b, j, none⟩ v) b (j + 1) vs
def stA (cs : Array Value) : Nat → List Value → Array Value
  | _, [] => cs
  | j, v :: vs => stA (cs.setIfInBounds j v) (j + 1) vs
theorem stF_blk {b : Nat} {T : TypeId} : ∀ (vs : List Value) (j : Nat) {W : World} {cs : Array Value}, Blk W b cs T → Blk (stF W b j vs) b (stA cs j vs) T
  | [], _, _, _, h => h
  | v :: vs, j, _, _, h => stF_blk vs (j + 1) (h.set j v)
theorem stF_away {b : Nat} : ∀ (vs : List Value) (j : Nat) {W0 W : World} {G : Nat → Prop}, G b ∨ W0.heap.size ≤ b → Away G W0 W → Away G W0 (stF W b j vs)
  | [], _, _, _, _, _, h => h
  | v :: vs, j, _, _, _, hg, h => stF_away vs (j + 1) hg (h.setCell ⟨b, j, none⟩ v hg)
/-- a config as a list of values -/
def cfgA (a0 a1 a2 a3 a4 a5 a6 a7 a8 a9 a10 : Int) : List Value := [.int .i64 a0, .int .u64 a1, .int .u64 a2, .int .i64 a3, .int .i64 a4, .int .i64 a5, .int .u64 a6, .int .i64 a7, .int .i64 a8, .int .i64 a9, .int .u64 a10]
def putA (W : World) (b : Nat) (a0 a1 a2 a3 a4 a5 a6 a7 a8 a9 a10 : Int) : World := stF W b 0 (cfgA a0 a1 a2 a3 a4 a5 a6 a7 a8 a9 a10)
def zeroA : Array Value := #[.int .i64 0, .int .u64 0, .int .u64 0, .int .i64 0, .int .i64 0, .int .i64 0, .int .u64 0, .int .i64 0, .int .i64 0, .int .i64 0, .int .u64 0]
section
variable {a0 a1 a2 a3 a4 a5 a6 a7 a8 a9 a10 : Int}
theorem putA_blk {W : World} {b : Nat} {T : TypeId} (h : Blk W b #[.int .i64 0, .int .u64 0, .int .u64 0, .int .i64 0, .int .i64 0, .int .i64 0, .int .u64 0, .int .i64 0, .int .i64 0, .int .i64 0, .int .u64 0] T) : Blk (putA W b a0 a1 a2 a3 a4 a5 a6 a7 a8 a9 a10) b (cfgV a0 a1 a2 a3 a4 a5 a6 a7 a8 a9 a10) T := by
  have e : stA #[.int .i64 0, .int .u64 0, .int .u64 0, .int .i64 0, .int .i64 0, .int .i64 0, .int .u64 0, .int .i64 0, .int .i64 0, .int .i64 0, .int .u64 0] 0 (cfgA a0 a1 a2 a3 a4 a5 a6 a7 a8 a9 a10) = cfgV a0 a1 a2 a3 a4 a5 a6 a7 a8 a9 a10 := by simp [stA, cfgA, cfgV]
  have := stF_blk (cfgA a0 a1 a2 a3 a4 a5 a6 a7 a8 a9 a10) 0 h
  rw [e] at this
  exact this
theorem putA_away (W : World) (b : Nat) : Away (fun k => k = b) W (putA W b a0 a1 a2 a3 a4 a5 a6 a7 a8 a9 a10) := stF_away _ _ (.inl rfl) (Away.refl _ _)
theorem zero_cells {W : World} {b : Nat} (h : Blk W b #[.int .i64 0, .int .u64 0, .int .u64 0, .int .i64 0, .int .i64 0, .int .i64 0, .int .u64 0, .int .i64 0, .int .i64 0, .int .i64 0, .int .u64 0] 28) : (W.cell? ⟨b, 0, none⟩ = some (.int .i64 0) ∧ W.cell? ⟨b, 1, none⟩ = some (.int .u64 0) ∧ W.cell? ⟨b, 2, none⟩ = some (.int .u64 0) ∧ W.cell? ⟨b, 3, none⟩ = some (.int .i64 0) ∧ W.cell? ⟨b, 4, none⟩ = some (.int .i64 0) ∧ W.cell? ⟨b, 5, none⟩ = some (.int .i64 0) ∧ W.cell? ⟨b, 6, none⟩ = some (.int .u64 0) ∧ W.cell? ⟨b, 7, none⟩ = some (.int .i64 0) ∧ W.cell? ⟨b, 8, none⟩ = some (.int .i64 0) ∧ W.cell? ⟨b, 9, none⟩ = some (.int .i64 0) ∧ W.cell? ⟨b, 10, none⟩ = some (.int .u64 0)) ∧ (W.frozen? ⟨b, 0, none⟩ = false ∧ W.frozen? ⟨b, 1, none⟩ = false ∧ W.frozen? ⟨b, 2, none⟩ = false ∧ W.frozen? ⟨b, 3, none⟩ = false ∧ W.frozen? ⟨b, 4, none⟩ = false ∧ W.frozen? ⟨b, 5, none⟩ = false ∧ W.frozen? ⟨b, 6, none⟩ = false ∧ W.frozen? ⟨b, 7, none⟩ = false ∧ W.frozen? ⟨b, 8, none⟩ = false ∧ W.frozen? ⟨b, 9, none⟩ = false ∧ W.frozen? ⟨b, 10, none⟩ = false) :=
  ⟨⟨h.cell rfl, h.cell rfl, h.cell rfl, h.cell rfl, h.cell rfl, h.cell rfl, h.cell rfl, h.cell rfl, h.cell rfl, h.cell rfl, h.cell rfl⟩, ⟨h.frozen 0, h.frozen 1, h.frozen 2, h.frozen 3, h.frozen 4, h.frozen 5, h.frozen 6, h.frozen 7, h.frozen 8, h.frozen 9, h.frozen 10⟩⟩

/-- what a reader has laid, and the eye -/
structure RdX (w : World) (eb pb : Nat) (cs : Array Value) (s : List UInt8) (W : World) : Prop where
  eye : EyO W eb s
  cfg : Blk W pb cs 28
  res : Blk W w.heap.size #[.int .i64 0, .int .u64 0, .int .u64 0, .int .i64 0, .int .i64 0, .int .i64 0, .int .u64 0, .int .i64 0, .int .i64 0, .int .i64 0, .int .u64 0] 28
  away : Away (fun k => k = eb) w W
  ne : pb ≠ eb ∧ w.heap.size ≠ eb ∧ w.heap.size < pb
theorem RdX.look {w : World} {eb pb : Nat} {cs : Array Value} {s s' : List UInt8} {W W' : World} (h : RdX w eb pb cs s W) (e : EyO W' eb s') (a : Away (fun k => k = eb) W W') : RdX w eb pb cs s' W' :=
  ⟨e, h.cfg.away a h.ne.1, h.res.away a h.ne.2.1, h.away.trans' a (fun _ _ h => h) (fun _ _ h => h), h.ne⟩
theorem RdX.next {w : World} {eb pb : Nat} {cs : Array Value} {s : List UInt8} {W W' : World} (h : RdX w eb pb cs s W) (b : Below W.heap.size W W') : RdX w eb pb cs s W' :=
  ⟨Blk.below h.eye b (Blk.lt h.eye), h.cfg.below b h.cfg.lt, h.res.below b h.res.lt, h.away.then_below (b.mono h.away.size), h.ne⟩
/-- the end of a reader -/
theorem rd_end {Q : CoreZ} (C : CoreQ Q) {vals : Vals} {T : TypeId} {w W w7 : World} {eb pb : Nat} {cs : Array Value} {po : Option Addr} {ok : Bool} (h : RdX w eb pb cs [] w7) (hw : w.heap.size < W.heap.size)
    (hq : ok = true → ∃ db O, po = some ⟨db, 0, none⟩ ∧ Q vals w7 db O ∧ ∀ k, O k → W.heap.size ≤ k) :
    RdG (cfgV a0 a1 a2 a3 a4 a5 a6 a7 a8 a9 a10) T (Q vals) w eb (.returned (.tuple #[.agg (cfgV a0 a1 a2 a3 a4 a5 a6 a7 a8 a9 a10), .iface T (.agg #[.pointer po]), .bool ok])) (putA w7 w.heap.size a0 a1 a2 a3 a4 a5 a6 a7 a8 a9 a10) := by
  refine ⟨ok, _, rfl, ?_, ?_, fun hk => ?_⟩
  · exact h.away.trans' (G := fun k => k = w.heap.size) (putA_away w7 w.heap.size) (fun _ _ h => h) fun k hk e => by omega
  · exact Blk.away h.eye (putA_away w7 w.heap.size) (by have := h.ne; omega)
  · obtain ⟨db, O, rfl, q, hO⟩ := hq hk
    exact ⟨db, O, rfl, C.away q (putA_away w7 w.heap.size) (fun k hk e => by have := hO k hk; omega), fun k hk => by have := hO k hk; omega⟩
theorem RdG.on {Q : CoreZ} (C : CoreQ Q) {vals : Vals} {T : TypeId} {w w1 : World} {eb : Nat} {ok : Bool} {po : Option Addr} {o : Obj} (hlt : eb < w.heap.size) (ha : Away (fun k => k = eb) (w.alloc o) w1) (he : EyO w1 eb [])
    (hd : ok = true → ∃ db O, po = some ⟨db, 0, none⟩ ∧ Q vals w1 db O ∧ ∀ k, O k → (w.alloc o).heap.size ≤ k) :
    RdG (cfgV a0 a1 a2 a3 a4 a5 a6 a7 a8 a9 a10) T (Q vals) w eb (.returned (.tuple #[.agg (cfgV a0 a1 a2 a3 a4 a5 a6 a7 a8 a9 a10), .iface T (.agg #[.pointer po]), .bool ok])) (putA w1 w.heap.size a0 a1 a2 a3 a4 a5 a6 a7 a8 a9 a10) := by
  have hz : (w.alloc o).heap.size = w.heap.size + 1 := by simp
  have h0 : Away (fun k => k = eb) w w1 := (Away.of_below (F := fun k => k = eb) ((Below.refl _ w).alloc (Nat.le_refl _) o)).trans' ha (fun _ _ h => h) (fun _ _ h => h)
  refine ⟨ok, po, rfl, ?_, ?_, fun hk => ?_⟩
  · exact stF_away _ _ (.inr (Nat.le_refl _)) h0
  · exact Blk.away he (putA_away w1 w.heap.size) (by omega)
  · obtain ⟨db, O, h1, h2, h5⟩ := hd hk
    exact ⟨db, O, h1, C.away h2 (putA_away w1 w.heap.size) (fun k hk => by have := h5 k hk; omega), fun k hk => by have := h5 k hk; omega⟩
end
end Go.Proofs.YtbejdajkkoapgaaGreatDoor

/-
  Contracts of logsk.New at any arguments, of fresh at the log kind, and both sides' contracts in one. Conditions: stated in each.
-/
set_option linter.unusedVariables false
set_option linter.unusedSimpArgs false
set_option maxRecDepth 100000
namespace Go.Proofs.YtbejdajkkoapgaaGreatDoor
open Go.RowKit Go.Lib

theorem lnew_any {hi : Bool} {M : Nat} (hM1 : 1 ≤ M) (hM2 : M ≤ 4096) (w : World) (num den : Nat) (hg : goodC num den = true) :
    Calls Tryz.prog 41 #[.agg #[.int .u64 (num : Int), .int .u64 (den : Int), .int .i64 (sdV hi), .int .i64 (M : Int)]] w (LnP hi M num den w) := by
  cases hi
  · exact lnew_L hM1 hM2 w num den hg
  · exact lnew_H hM1 hM2 w num den hg
theorem bnew_any_bad (w : World) (tb : Nat) (s M : Int) (h : (s ≠ 0 ∧ s ≠ 1) ∨ M < 1 ∨ 4096 < M) :
    Calls Tryz.prog 64 #[.iface 163 (.pointer (some ⟨tb, 0, none⟩)), .int .i64 s, .int .i64 M] w fun e w' => e = .returned (.tuple #[.pointer none, .int .i64 1]) ∧ w = w' := by
  by_cases hs : s ≠ 0 ∧ s ≠ 1
  · exact bnew_side w tb s M hs
  have hM : M < 1 ∨ 4096 < M := by rcases h with h | h; exact absurd h hs; exact h
  by_cases h0 : s = 0
  · subst h0; exact bnew_bad_L w tb M hM
  · have h1 : s = 1 := by omega
    subst h1; exact bnew_bad_H w tb M hM
/-- New at arguments that are no good -/
theorem lnew_bad (w : World) (a1 a2 a3 a4 : Int) (h : goodC a1 a2 = false ∨ (a3 ≠ 0 ∧ a3 ≠ 1) ∨ a4 < 1 ∨ 4096 < a4) :
    Calls Tryz.prog 41 #[.agg #[.int .u64 a1, .int .u64 a2, .int .i64 a3, .int .i64 a4]] w fun e w' => ∃ code : Int, code ≠ 0 ∧ e = .returned (.tuple #[.pointer none, .int .i64 code]) ∧ Below w.heap.size w w' := by
  have B0 : Blk (w.alloc (.cells #[.int .u64 a1, .int .u64 a2, .int .i64 a3, .int .i64 a4] 120)) w.heap.size #[.int .u64 a1, .int .u64 a2, .int .i64 a3, .int .i64 a4] 120 := Blk.newAt rfl
  have b0 : Below w.heap.size w (w.alloc (.cells #[.int .u64 a1, .int .u64 a2, .int .i64 a3, .int .i64 a4] 120)) := (Below.refl _ _).alloc (Nat.le_refl _) _
  by_cases hg : goodC a1 a2 = false
  · have hcn := cnew_bad a1 a2 (w.alloc (.cells #[.int .u64 a1, .int .u64 a2, .int .i64 a3, .int .i64 a4] 120)) hg
    have H0 := Lib.hid (And.intro B0 b0)
    clear B0 b0 hg h
    go_enter Tryz.func41, Tryz.ntmps41
    go_wp2_with fail
    refine hcn.mono ?_
    rintro e w1 ⟨rfl, b1⟩
    have HR := Lib.hid (H0.out.2.trans (b1.mono H0.out.2.size))
    clear hcn b1 H0
    go_wp2_with fail
    go_ret2
    exact ⟨1, by decide, rfl, HR.out⟩
  · have hg1 : goodC a1 a2 = true := by cases hh : goodC a1 a2 <;> simp_all
    have h2 : (a3 ≠ 0 ∧ a3 ≠ 1) ∨ a4 < 1 ∨ 4096 < a4 := by rcases h with h | h; exact absurd h hg; exact h
    have hg2 := hg1
    unfold goodC at hg2
    simp only [Bool.and_eq_true, decide_eq_true_eq] at hg2
    obtain ⟨num, rfl⟩ : ∃ n : Nat, a1 = (n : Int) := ⟨a1.toNat, by omega⟩
    obtain ⟨den, rfl⟩ : ∃ n : Nat, a2 = (n : Int) := ⟨a2.toNat, by omega⟩
    have hcn := Lib.hid (fun W => cnew_any num den W hg1)
    have hbn := Lib.hid (fun W tb => bnew_any_bad W tb a3 a4 h2)
    have H0 := Lib.hid (And.intro B0 b0)
    clear B0 b0 hg hg1 hg2 h h2
    go_enter Tryz.func41, Tryz.ntmps41
    go_wp2_with fail
    refine (hcn.out _).mono ?_
    rintro e w1 (⟨n, tb, vl, vr, hc, rfl, b1, t1, ht1⟩ | ⟨code, hcd, rfl, b1, hno⟩)
    · have B1 := H0.out.1.below b1 H0.out.1.lt
      have c1 : w1.cell? ⟨w.heap.size, 2, none⟩ = some (.int .i64 a3) := B1.cell rfl
      have c2 : w1.cell? ⟨w.heap.size, 3, none⟩ = some (.int .i64 a4) := B1.cell rfl
      have hbn1 := hbn.out w1 tb
      have HR := Lib.hid (H0.out.2.trans (b1.mono H0.out.2.size))
      clear hcn hbn B1 b1 t1 ht1 hc H0
      go_wp2_with fail
      refine hbn1.mono ?_
      rintro e w2 ⟨rfl, rfl⟩
      clear hbn1
      go_wp2_with fail
      go_ret2
      exact ⟨1, by decide, rfl, HR.out⟩
    · have hc1 : (code == 0) = false := by simp [hcd]
      have hc2 : (code != 0) = true := by simp [hcd]
      have HR := Lib.hid (show ∃ c : Int, c ≠ 0 ∧ Ending.returned (.tuple #[.pointer none, .int .i64 code]) = .returned (.tuple #[.pointer none, .int .i64 c]) ∧ Below w.heap.size w w1 from ⟨code, hcd, rfl, H0.out.2.trans (b1.mono H0.out.2.size)⟩)
      clear hcn hbn b1 hno H0 hcd
      go_wp2_with fail
      go_ret2
      exact HR.out

/-- what a log sketch's config must be -/
def LgN (a1 a2 a3 a4 : Int) : Prop := goodC a1 a2 = true ∧ (∃ n, CTab a1.toNat a2.toNat n) ∧ (a3 = 0 ∨ a3 = 1) ∧ 1 ≤ a4 ∧ a4 ≤ 4096
theorem hi_of {a3 : Int} (h : a3 = 0 ∨ a3 = 1) : a3 = sdV (a3 == 1) := by
  rcases h with rfl | rfl <;> rfl
theorem kRow_nil (hi : Bool) (M : Nat) (f : Int → Option Nat) : kRow hi M f [] = [] := rfl
set_option maxHeartbeats 4000000 in
theorem fresh_log (w : World) (a1 a2 a3 a4 a5 a6 a7 a8 a9 a10 : Int) :
    Calls Tryz.prog 30 #[.agg #[.int .i64 1, .int .u64 a1, .int .u64 a2, .int .i64 a3, .int .i64 a4, .int .i64 a5, .int .u64 a6, .int .i64 a7, .int .i64 a8, .int .i64 a9, .int .u64 a10]] w (FreshK 122 (fun W db O => LgV (a3 == 1) a4.toNat a1.toNat a2.toNat [] W db O ∧ LgN a1 a2 a3 a4) (LgN a1 a2 a3 a4) w) := by
  have b0 : Below w.heap.size w (w.alloc (.cells #[.int .i64 1, .int .u64 a1, .int .u64 a2, .int .i64 a3, .int .i64 a4, .int .i64 a5, .int .u64 a6, .int .i64 a7, .int .i64 a8, .int .i64 a9, .int .u64 a10] 28)) := (Below.refl _ w).alloc (Nat.le_refl _) _
  by_cases hb : goodC a1 a2 = false ∨ (a3 ≠ 0 ∧ a3 ≠ 1) ∨ a4 < 1 ∨ 4096 < a4
  · have hn := lnew_bad (w.alloc (.cells #[.int .i64 1, .int .u64 a1, .int .u64 a2, .int .i64 a3, .int .i64 a4, .int .i64 a5, .int .u64 a6, .int .i64 a7, .int .i64 a8, .int .i64 a9, .int .u64 a10] 28)) a1 a2 a3 a4 hb
    have HN := Lib.hid (show ¬ LgN a1 a2 a3 a4 from fun ⟨h1, _, h3, h4, h5⟩ => by
      rcases hb with h | h | h
      · rw [h1] at h; cases h
      · omega
      · omega)
    have HB := Lib.hid b0
    clear b0 hb
    go_enter Tryz.func30, Tryz.ntmps30
    go_wp2_with fail
    refine hn.mono ?_
    rintro e w1 ⟨code, hcd, rfl, b1⟩
    have HR := Lib.hid (And.intro hcd (HB.out.trans (b1.mono HB.out.size)))
    clear hn b1 hcd HB
    go_wp2_with fail
    go_ret2
    exact ⟨_, code, rfl, HR.out.2, fun h => absurd h HR.out.1, fun h => absurd h HN.out⟩
  · have h0 : goodC a1 a2 = true := by
      cases hh : goodC a1 a2
      · exact absurd (.inl hh) hb
      · rfl
    have h3 : a3 = 0 ∨ a3 = 1 := by
      by_cases h : a3 = 0
      · exact .inl h
      · by_cases h' : a3 = 1
        · exact .inr h'
        · exact absurd (.inr (.inl ⟨h, h'⟩)) hb
    have h4 : 1 ≤ a4 ∧ a4 ≤ 4096 := by
      refine ⟨?_, ?_⟩
      · by_cases h : a4 < 1
        · exact absurd (.inr (.inr (.inl h))) hb
        · omega
      · by_cases h : 4096 < a4
        · exact absurd (.inr (.inr (.inr h))) hb
        · omega
    have hn := lnew_any (hi := a3 == 1) (M := a4.toNat) (by omega) (by omega) (w.alloc (.cells #[.int .i64 1, .int .u64 a1, .int .u64 a2, .int .i64 a3, .int .i64 a4, .int .i64 a5, .int .u64 a6, .int .i64 a7, .int .i64 a8, .int .i64 a9, .int .u64 a10] 28)) a1.toNat a2.toNat
    have hg2 := h0
    unfold goodC at hg2
    simp only [Bool.and_eq_true, decide_eq_true_eq] at hg2
    have e1 : ((a1.toNat : Nat) : Int) = a1 := by omega
    have e2 : ((a2.toNat : Nat) : Int) = a2 := by omega
    have e4 : ((a4.toNat : Nat) : Int) = a4 := by omega
    rw [e1, e2, e4, ← hi_of h3] at hn
    have hn := hn h0
    have HG := Lib.hid (And.intro h0 (And.intro h3 h4))
    have HB := Lib.hid b0
    clear b0 hb h0 h3 h4 hg2 e1 e2 e4
    go_enter Tryz.func30, Tryz.ntmps30
    go_wp2_with fail
    refine hn.mono ?_
    rintro e w1 ⟨po, code, rfl, b1, h1, h2⟩
    have HR := Lib.hid (And.intro (HB.out.trans (b1.mono HB.out.size)) (And.intro h1 h2))
    clear hn b1 h1 h2
    go_wp2_with fail
    go_ret2
    obtain ⟨b1, h1, h2⟩ := HR.out
    obtain ⟨g0, g3, g4, g5⟩ := HG.out
    refine ⟨_, code, rfl, b1, fun hc => ?_, fun hN => h2 hN.2.1⟩
    obtain ⟨n, lg, bb, tb, vl, vr, ca, cc, Oa, Oc, rfl, ht, hl, hO⟩ := h1 hc
    have hz := HB.out.size
    refine ⟨lg, _, rfl, ⟨⟨n, bb, tb, vl, vr, ca, cc, Oa, Oc, ht, ?_, rfl⟩, g0, ⟨n, ht⟩, g3, g4, g5⟩, fun k hk => Nat.le_trans hz (hO k hk)⟩
    rw [kRow_nil, kRow_nil]
    exact hl

theorem bload_any {hi : Bool} {M num den n : Nat} (hM1 : 1 ≤ M) (hM2 : M ≤ 4096) (hn2 : n ≤ 4096) (w : World) (bb tb : Nat) (vl vr : Value) (ca cc : Nat) (Oa Oc : Nat → Prop) (h : BinO hi M num den n w bb tb vl vr ca cc Oa Oc [] [] 0 0 0)
    (va vb : Value) (m0 m1 : Row) (l0 l1 z : Nat) (oa : w.ownsRow 0 228 2 va m0.length (rowC m0)) (ob : w.ownsRow 0 228 2 vb m1.length (rowC m1)) (r0 : RowK hi M m0 l0) (r1 : RowK hi M m1 l1) (hT : rowTotal m0 + l0 + (rowTotal m1 + l1) + z ≤ 9223372036854775807) :
    Calls Tryz.prog 76 #[.pointer (some ⟨bb, 0, none⟩), .agg #[va, vb], .agg #[.int .u64 (l0 : Int), .int .u64 (l1 : Int)], .int .u64 (z : Int)] w (LdBP hi M num den n w bb tb vl vr m0 m1 (rowTotal m0 + l0) (rowTotal m1 + l1) z) := by
  cases hi
  · exact bload_L hM1 hM2 hn2 w bb tb vl vr ca cc Oa Oc h va vb m0 m1 l0 l1 z oa ob r0 r1 hT
  · exact bload_H hM1 hM2 hn2 w bb tb vl vr ca cc Oa Oc h va vb m0 m1 l0 l1 z oa ob r0 r1 hT
section
variable {hi : Bool} {M num den n : Nat} {w : World} {lg bb tb : Nat} {vl vr : Value} {ca cc : Nat} {Oa Oc : Nat → Prop} {k0 k1 : Row} {T0 T1 z : Nat} {lo hh : Int}
theorem lset_any (h : LogO hi M num den n w lg bb tb vl vr ca cc Oa Oc k0 k1 T0 T1 z lo hh) (hT : T0 + z + T1 ≤ 9223372036854775807) (a b : Int) :
    Calls Tryz.prog 77 #[.pointer (some ⟨lg, 0, none⟩), .int .i64 a, .int .i64 b] w fun e w' => ∃ r : Bool, e = .returned (.bool r) ∧ Away (fun k => k = lg) w w' ∧ (r = true → LogO hi M num den n w' lg bb tb vl vr ca cc Oa Oc k0 k1 T0 T1 z a b) := by
  cases hi
  · exact lset_L w lg bb tb vl vr ca cc Oa Oc k0 k1 T0 T1 z lo hh h hT a b
  · exact lset_H w lg bb tb vl vr ca cc Oa Oc k0 k1 T0 T1 z lo hh h hT a b
theorem lbins_any (h : LogO hi M num den n w lg bb tb vl vr ca cc Oa Oc k0 k1 T0 T1 z lo hh) :
    Calls Tryz.prog 75 #[.pointer (some ⟨lg, 0, none⟩)] w fun e w' => e = .returned (.pointer (some ⟨bb, 0, none⟩)) ∧ w = w' := by
  cases hi
  · exact lbins_L w lg bb tb vl vr ca cc Oa Oc k0 k1 T0 T1 z lo hh h
  · exact lbins_H w lg bb tb vl vr ca cc Oa Oc k0 k1 T0 T1 z lo hh h
theorem lwrite_any (B : Nat) (qb : Nat) (A : Option Addr) (c : Nat) (hq : QuO B w qb (.slice A ([] : List UInt8).length c) []) (hB : B ≤ w.heap.size) (h : LogO hi M num den n w lg bb tb vl vr ca cc Oa Oc k0 k1 T0 T1 z lo hh) (hown : ∀ k, OwnL lg bb tb vl vr Oa Oc k → k < B)
    (hnum : num < 18446744073709551616) (hden : den < 18446744073709551616) (hM : M ≤ 4096) (hT : T0 + z + T1 ≤ 9223372036854775807) (hT0 : T0 + z + T1 = 0 → lo = 0 ∧ hh = 0) (hlo : I64 lo) (hhi : I64 hh) (w0 : WriR k0) (w1 : WriR k1) :
    Calls Tryz.prog 221 #[.agg #[.pointer (some ⟨lg, 0, none⟩)], .pointer (some ⟨qb, 0, none⟩)] w fun e w' => e = .returned (.tuple #[]) ∧ ∃ A' c', NaS B w qb A' c' (loadL num den (if hi then 1 else 0) M (zigN lo) (zigN hh) z (T0 - rowTotal k0) (T1 - rowTotal k1) k0 k1) w' := by
  cases hi
  · exact lwrite_L B w lg bb tb vl vr ca cc Oa Oc k0 k1 T0 T1 z lo hh qb A c hq hB h hown hnum hden hM hT hT0 hlo hhi w0 w1
  · exact lwrite_H B w lg bb tb vl vr ca cc Oa Oc k0 k1 T0 T1 z lo hh qb A c hq hB h hown hnum hden hM hT hT0 hlo hhi w0 w1
end

end Go.Proofs.YtbejdajkkoapgaaGreatDoor

/-
  Own work, on top of the library's StillTail and Quiet: A DRAWN REGION WHOSE FIRST n OPERATIONS ARE QUIET, whatever order; what comes from operation n on is walked in all its orders. Conditions: the closed fact 'lexB2'.
-/
set_option linter.unusedVariables false
set_option linter.unusedSimpArgs false
namespace Go.Proofs.YtbejdajkkoapgaaGreatDoor
open Go
section
variable {P : Program} {ops : Array Oper} {md : Region.Mode} {C : World → Prop}
/-- each operation behind number n waits for one of number n or behind it -/
def chainB2 (md : Region.Mode) (ops : Array Oper) (n : Nat) : Bool := (List.range ops.size).all fun t => decide (t ≤ n) || (List.range t).any fun j => decide (n ≤ j) && Region.waitsFor md ops t j
theorem tail_waits2 {n : Nat} {listed : Array Bool} (hs : Region.sinkB md ops n = true) (hc : chainB2 md ops n = true) (hn : n < ops.size) (inv : HeadInv md ops n listed) :
    ∀ (d i : Nat), n - i = d → i < n → listed.getD i true = false → ∀ t, n ≤ t → t ∉ Region.ready md ops listed := by
  intro d
  induction d using Nat.strongRecOn with
  | _ d ih =>
    intro i hd hi hun t ht hr
    obtain ⟨_, ot, hot, hall⟩ := mem_ready.1 hr
    have htlt : t < ops.size := (Array.getElem?_eq_some_iff.1 hot).1
    by_cases htn : t = n
    · subst htn
      have h1 := List.all_eq_true.1 hs i (List.mem_range.2 hi)
      obtain ⟨j, hj, hj2⟩ := List.any_eq_true.1 h1
      simp only [Bool.and_eq_true, decide_eq_true_eq] at hj2
      obtain ⟨oj, hoj, e, he, hb, hon⟩ := Region.waitsFor_spec hj2.2
      have hjle : j ≤ t := by have := List.mem_range.1 hj; omega
      by_cases hjt : j = t
      · subst hjt
        have : oj = ot := Option.some.inj (hoj.symm.trans hot)
        subst this
        have h2 := hall e he hb
        rw [hon, getD_both hun] at h2
        cases h2
      · cases hl : listed.getD j false with
        | true =>
          have h2 := inv.closed j oj hoj hl e he hb
          rw [hon, getD_both hun] at h2
          cases h2
        | false =>
          have hjs : j < listed.size := by rw [inv.size]; omega
          exact ih (t - j) (by omega) j rfl (by omega) (getD_in hjs hl) t (Nat.le_refl _) hr
    · have h1 := List.all_eq_true.1 hc t (List.mem_range.2 htlt)
      simp only [Bool.or_eq_true, decide_eq_true_eq] at h1
      rcases h1 with h1 | h1
      · omega
      · obtain ⟨j, hj, h2⟩ := List.any_eq_true.1 h1
        simp only [Bool.and_eq_true, decide_eq_true_eq] at h2
        have hjt := List.mem_range.1 hj
        obtain ⟨o', ho', e, he, hb, hon⟩ := Region.waitsFor_spec h2.2
        have : o' = ot := Option.some.inj (ho'.symm.trans hot)
        subst this
        have h3 := hall e he hb
        rw [hon, getD_both (inv.tail j h2.1 (by omega))] at h3
        cases h3
theorem headQ_first2 {n i : Nat} {oi : Oper} {v : Value} {L : Array Bool → Act → Prop} (hi : ops[i]? = some oi) (hsel : ∀ (j : Nat) (o : Oper) cs b, ops[j]? = some o → o.op ≠ .select cs b)
    (hs : Region.sinkB md ops n = true) (hc : chainB2 md ops n = true) (hn : n < ops.size) (hin : i < n) (hdone : ∀ s a, L s a → ∀ j ∈ Region.ready md ops s, n ≤ j) :
    ∀ (f : Nat) (s : Array Bool) (a : Act), HeadInv md ops n s →
      (∀ j oj, ops[j]? = some oj → j ≠ i → s.getD j true = false → (∀ e ∈ oj.after, Region.binds md e = true → e.on ≠ i) → oi.apart ops oj = true) →
      i ∈ Region.ready md ops s → YieldsIn P ops C oi v a → headQ P md ops C n L f (s.setIfInBounds i true) (a.put oi.dst v) → headQ P md ops C n L (f + 1) s a := by
  intro f
  induction f with
  | zero =>
    intro s a inv _ hr hy H
    have hun := (mem_ready.1 hr).1
    refine ⟨fun h => (by rw [h] at hr; cases hr), fun j hj => ?_⟩
    have hjn : j < n := Nat.lt_of_not_le fun h => tail_waits2 hs hc hn inv _ i rfl hin hun j h hj
    refine ⟨hjn, ?_⟩
    by_cases hji : j = i
    · subst hji; exact hy.qOp hi H
    · have := hdone _ _ H j (ready_mono hj hji); omega
  | succ f ih =>
    intro s a inv hfree hr hy H
    have hun := (mem_ready.1 hr).1
    refine ⟨fun h => (by rw [h] at hr; cases hr), fun j hj => ?_⟩
    have hjn : j < n := Nat.lt_of_not_le fun h => tail_waits2 hs hc hn inv _ i rfl hin hun j h hj
    refine ⟨hjn, ?_⟩
    by_cases hji : j = i
    · subst hji; exact hy.qOp hi H
    · obtain ⟨hjun, oj, hoj, hall⟩ := mem_ready.1 hj
      have hnot : ∀ e ∈ oj.after, Region.binds md e = true → e.on ≠ i := fun e he hb heq => by
        have h1 := hall e he hb
        rw [heq, getD_both hun] at h1
        cases h1
      have h2 := qOp_put hoj (hfree j oj hoj hji hjun hnot) (fun cs b => hsel i oi cs b hi) (fun cs b => hsel j oj cs b hoj) hy (H.2 j (ready_mono hj hji)).2
      refine qOp_mono (fun a' h3 => ih (s.setIfInBounds j true) a' (inv.set hj hjn) (fun k ok hk hki hku hno => hfree k ok hk hki ?_ hno) (ready_mono hr (Ne.symm hji)) h3.1 ?_) h2
      · by_cases hjk : j = k
        · subst hjk; exact hjun
        · rw [getD_set_ne true hjk] at hku; exact hku
      · rw [Array.setIfInBounds_comm _ _ hji]; exact h3.2


def lexHead2 (md : Region.Mode) (ops : Array Oper) (n : Nat) : Nat → Nat → Array Bool → Bool
  | 0, _, s => (Region.ready md ops s).all fun j => decide (n ≤ j)
  | f + 1, k, s => (Region.ready md ops s).contains k && Region.free md ops s k && lexHead2 md ops n f (k + 1) (s.setIfInBounds k true)
def setTo : Nat → Nat → Array Bool → Array Bool
  | 0, _, s => s
  | f + 1, k, s => setTo f (k + 1) (s.setIfInBounds k true)
theorem headQ_lex2 {n : Nat} {R : Act → Prop} (hsel : Region.noSelect ops = true) (hs : Region.sinkB md ops n = true) (hc : chainB2 md ops n = true) (hn : n < ops.size) :
    ∀ (l : List Oper) (k : Nat) (s : Array Bool) (a : Act), (∀ j, j < l.length → l[j]? = ops[k + j]?) → k + l.length = n → HeadInv md ops n s →
    lexHead2 md ops n l.length k s = true → wpQuiet P ops C R l a → headQ P md ops C n (fun s' a' => (s' = setTo l.length k s ∧ (Region.ready md ops s').all (fun j => decide (n ≤ j)) = true) ∧ R a') l.length s a := by
  intro l
  induction l with
  | nil =>
    intro k s a _ hk _ hB h
    exact ⟨⟨rfl, hB⟩, h⟩
  | cons o l ih =>
    intro k s a hl hk inv hB h
    have h0 : ops[k]? = some o := by simpa using (hl 0 (by simp)).symm
    simp only [List.length_cons, lexHead2, Bool.and_eq_true] at hB
    obtain ⟨⟨hr, hf⟩, hB'⟩ := hB
    simp only [List.length_cons] at hk
    have hr' : k ∈ Region.ready md ops s := by simpa using hr
    have hst : qOp P ops C k (wpQuiet P ops C R l) a := by unfold qOp; simp only [h0]; exact h
    obtain ⟨v, hy, hK⟩ := yieldsIn_of_qOp h0 hst
    refine headQ_first2 h0 (Region.noSelect_spec hsel) hs hc hn (by omega) (fun s' a' hL j hj => ?_) l.length s a inv (Region.free_spec h0 hf) hr' hy ?_
    · have := List.all_eq_true.1 hL.1.2 j hj
      simpa using this
    exact ih (k + 1) _ _ (fun j hj => by have := hl (j + 1) (by simp; omega); simpa [Nat.add_assoc, Nat.add_comm 1 j] using this) (by omega) (inv.set hr' (by omega)) hB' hK

def lexB2 (md : Region.Mode) (ops : Array Oper) (n : Nat) : Bool := Region.noSelect ops && decide (n < ops.size) && Region.sinkB md ops n && chainB2 md ops n && lexHead2 md ops n n 0 (Array.replicate ops.size false)
theorem wp_region_head {id : Nat} {Q : Exit → Act → World → Prop} {a : Act} {w : World} {l : List Oper} (n g : Nat) (hm : P.follows .mixedOrders = true) (hB : lexB2 .any l.toArray n = true) (hg : n + g = l.length) (hC : C w.drew)
    (h : wpQuiet P l.toArray C (fun a' => ∀ w', C w' → wpAny P .any l.toArray Q g (setTo n 0 (Array.replicate l.length false)) a' w') (l.take n) a) : (Code.region id l.toArray true).wp P Q a w := by
  simp only [lexB2, Bool.and_eq_true, decide_eq_true_eq] at hB
  obtain ⟨⟨⟨⟨hsel, hn⟩, hs⟩, hc⟩, hlex⟩ := hB
  have hn' : n < l.length := by simpa using hn
  have htl : (l.take n).length = n := by simp; omega
  have inv0 : HeadInv .any l.toArray n (Array.replicate l.toArray.size false) :=
    ⟨by simp, fun j oj _ hl => (by rw [getD_replicate_false] at hl; cases hl), fun t _ ht => getD_in (by simpa using ht) (getD_replicate_false _ _)⟩
  have H := headQ_lex2 (md := .any) hsel hs hc hn (l.take n) 0 _ a (fun j hj => by
    have hj' : j < n := by rw [htl] at hj; exact hj
    simp [hj']) (by simpa using htl) inv0 (by rw [htl]; exact hlex) h
  refine wp_region_any hm ?_
  have k := any_of_headQ (Q := Q) (g := g) (fun s a' w' hw' hL => by
    obtain ⟨⟨rfl, _⟩, hR⟩ := hL
    have := hR w' hw'
    rw [htl]
    simpa using this) _ _ _ _ hC H
  rw [htl, hg, show l.length = l.toArray.size from by simp] at k
  exact k
end
end Go.Proofs.YtbejdajkkoapgaaGreatDoor

