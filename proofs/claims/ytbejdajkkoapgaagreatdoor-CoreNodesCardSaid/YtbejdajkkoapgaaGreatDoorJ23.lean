/-
  Several texts in one: De, Dc, Kg. What each proves, and on which conditions, stands at its head. Conditions: stated in each.
-/
import Derived.Test.YtbejdajkkoapgaaGreatDoorJ22
import Derived.Test.YtbejdajkkoapgaaGreatDoorJ15
/-
  Contracts of readDigest, reads, Decode at bytes that Encode wrote. Conditions: the row was a digest's own.
-/
set_option linter.unusedVariables false
set_option linter.unusedSimpArgs false
set_option maxRecDepth 100000
namespace Go.Proofs.YtbejdajkkoapgaaGreatDoor
open Go.RowKit Go.Lib

/-- what a digest reads as -/
def loadE (d F a b : Nat) (l : Row) : List UInt8 := natB d ++ (natB F ++ (natB a ++ (natB b ++ (rowB l ++ []))))
theorem loadE_eq (d F a b : Nat) (l : Row) : loadB d F a b l = loadE d F a b l := by unfold loadB loadE; simp only [List.append_assoc, List.append_nil]

/-- what readDigest answers -/
def RdP (w : World) (eb : Nat) (d F : Nat) (l : Row) (e : Ending) (w' : World) : Prop := ∃ (ok : Bool) (po : Option Addr), e = .returned (.tuple #[.agg (cfgC 0 0 0 0 0 0 (d : Int) (F : Int) 0 0), .iface 131 (.agg #[.pointer po]), .bool ok]) ∧ Away (fun k => k = eb) w w' ∧ EyO w' eb [] ∧
  (ok = true → ∃ db sb v a b, po = some ⟨db, 0, none⟩ ∧ DigO w' db sb v d F a b l ∧ I64 a ∧ I64 b ∧ ∀ k, Own db sb v k → w.heap.size ≤ k)

/-- what Load answers -/
def LoP (W : World) (d F : Nat) (lo hi : Int) (l : Row) (po : Option Addr) (code : Int) (w' : World) : Prop := (code ≠ 0 ∧ po = none) ∨
  (code = 0 ∧ ∃ db sb v, po = some ⟨db, 0, none⟩ ∧ DigO w' db sb v d F lo hi l ∧ W.heap.size ≤ db ∧ W.heap.size ≤ sb ∧ ∀ g, v.ownBlock = some g → W.heap.size ≤ g)
theorem load_one (w : World) (cv : Value) (d F : Nat) (lo hi : Int) (l : Row) (h1 : 1 ≤ d) (h2 : d ≤ 24) (h3 : 1 ≤ F) (h4 : F ≤ 64) (hlo : I64 lo) (hhi : I64 hi)
    (hr : Rising l) (hf : Full l) (hn : Nodes d l) (hlen : l.length ≤ 3000) (htot : rowTotal l ≤ 900000) (ho : w.ownsRow 0 228 2 cv l.length (rowC l)) :
    Calls Tryz.prog 79 #[.agg #[.int .i64 (d : Int), .int .i64 (F : Int)], cv, .int .i64 lo, .int .i64 hi] w fun e w' => ∃ po code, e = .returned (.tuple #[.pointer po, .int .i64 code]) ∧ Below w.heap.size w w' ∧ LoP w d F lo hi l po code w' :=
  (load_any w cv d F lo hi l h1 h2 h3 h4 hlo hhi hr hf hn hlen htot ho).mono fun e w' hh => by
    obtain ⟨hb, ⟨code, hc, he⟩ | ⟨db, sb, v, he, h⟩⟩ := hh
    · exact ⟨_, code, he, hb, .inl ⟨hc, rfl⟩⟩
    · exact ⟨_, 0, he, hb, .inr ⟨rfl, db, sb, v, rfl, h⟩⟩

/-- what readDigest has laid, and the eye -/
structure RdC (w : World) (eb pb d F : Nat) (s : List UInt8) (W : World) : Prop where
  eye : EyO W eb s
  cfg : Blk W pb (cfgC 0 0 0 0 0 0 (d : Int) (F : Int) 0 0) 28
  res : Blk W w.heap.size #[.int .i64 0, .int .u64 0, .int .u64 0, .int .i64 0, .int .i64 0, .int .i64 0, .int .u64 0, .int .i64 0, .int .i64 0, .int .i64 0, .int .u64 0] 28
  away : Away (fun k => k = eb) w W
  ne : pb ≠ eb ∧ w.heap.size ≠ eb ∧ w.heap.size < pb
theorem RdC.look {w : World} {eb pb d F : Nat} {s s' : List UInt8} {W W' : World} (h : RdC w eb pb d F s W) (e : EyO W' eb s') (a : Away (fun k => k = eb) W W') : RdC w eb pb d F s' W' :=
  ⟨e, h.cfg.away a h.ne.1, h.res.away a h.ne.2.1, h.away.trans' a (fun _ _ h => h) (fun _ _ h => h), h.ne⟩
theorem RdC.next {w : World} {eb pb d F : Nat} {s : List UInt8} {W W' : World} (h : RdC w eb pb d F s W) (b : Below W.heap.size W W') : RdC w eb pb d F s W' :=
  ⟨Blk.below h.eye b (Blk.lt h.eye), h.cfg.below b h.cfg.lt, h.res.below b h.res.lt, h.away.then_below (b.mono h.away.size), h.ne⟩
theorem RdC.drew {w : World} {eb pb d F : Nat} {s : List UInt8} {W : World} (h : RdC w eb pb d F s W) : RdC w eb pb d F s W.drew := ⟨Blk.drew h.eye, h.cfg.drew, h.res.drew, h.away.drew, h.ne⟩
theorem RdC.old {w : World} {eb pb d F : Nat} {s : List UInt8} {W : World} (h : RdC w eb pb d F s W) : (W.cell? ⟨w.heap.size, 0, none⟩ = some (.int .i64 0) ∧ W.cell? ⟨w.heap.size, 1, none⟩ = some (.int .u64 0) ∧ W.cell? ⟨w.heap.size, 2, none⟩ = some (.int .u64 0) ∧ W.cell? ⟨w.heap.size, 3, none⟩ = some (.int .i64 0) ∧ W.cell? ⟨w.heap.size, 4, none⟩ = some (.int .i64 0) ∧ W.cell? ⟨w.heap.size, 5, none⟩ = some (.int .i64 0) ∧
    W.cell? ⟨w.heap.size, 6, none⟩ = some (.int .u64 0) ∧ W.cell? ⟨w.heap.size, 7, none⟩ = some (.int .i64 0) ∧ W.cell? ⟨w.heap.size, 8, none⟩ = some (.int .i64 0) ∧ W.cell? ⟨w.heap.size, 9, none⟩ = some (.int .i64 0) ∧ W.cell? ⟨w.heap.size, 10, none⟩ = some (.int .u64 0)) ∧
    (W.frozen? ⟨w.heap.size, 0, none⟩ = false ∧ W.frozen? ⟨w.heap.size, 1, none⟩ = false ∧ W.frozen? ⟨w.heap.size, 2, none⟩ = false ∧ W.frozen? ⟨w.heap.size, 3, none⟩ = false ∧ W.frozen? ⟨w.heap.size, 4, none⟩ = false ∧ W.frozen? ⟨w.heap.size, 5, none⟩ = false ∧ W.frozen? ⟨w.heap.size, 6, none⟩ = false ∧ W.frozen? ⟨w.heap.size, 7, none⟩ = false ∧ W.frozen? ⟨w.heap.size, 8, none⟩ = false ∧ W.frozen? ⟨w.heap.size, 9, none⟩ = false ∧ W.frozen? ⟨w.heap.size, 10, none⟩ = false) :=
  ⟨⟨h.res.cell rfl, h.res.cell rfl, h.res.cell rfl, h.res.cell rfl, h.res.cell rfl, h.res.cell rfl, h.res.cell rfl, h.res.cell rfl, h.res.cell rfl, h.res.cell rfl, h.res.cell rfl⟩,
   ⟨h.res.frozen 0, h.res.frozen 1, h.res.frozen 2, h.res.frozen 3, h.res.frozen 4, h.res.frozen 5, h.res.frozen 6, h.res.frozen 7, h.res.frozen 8, h.res.frozen 9, h.res.frozen 10⟩⟩
theorem RdC.cells {w : World} {eb pb d F : Nat} {s : List UInt8} {W : World} (h : RdC w eb pb d F s W) : W.cell? ⟨pb, 0, none⟩ = some (.int .i64 3) ∧ W.cell? ⟨pb, 1, none⟩ = some (.int .u64 0) ∧ W.cell? ⟨pb, 2, none⟩ = some (.int .u64 0) ∧ W.cell? ⟨pb, 3, none⟩ = some (.int .i64 0) ∧ W.cell? ⟨pb, 4, none⟩ = some (.int .i64 0) ∧ W.cell? ⟨pb, 5, none⟩ = some (.int .i64 0) ∧
    W.cell? ⟨pb, 6, none⟩ = some (.int .u64 0) ∧ W.cell? ⟨pb, 7, none⟩ = some (.int .i64 (d : Int)) ∧ W.cell? ⟨pb, 8, none⟩ = some (.int .i64 (F : Int)) ∧ W.cell? ⟨pb, 9, none⟩ = some (.int .i64 0) ∧ W.cell? ⟨pb, 10, none⟩ = some (.int .u64 0) :=
  ⟨h.cfg.cell rfl, h.cfg.cell rfl, h.cfg.cell rfl, h.cfg.cell rfl, h.cfg.cell rfl, h.cfg.cell rfl, h.cfg.cell rfl, h.cfg.cell rfl, h.cfg.cell rfl, h.cfg.cell rfl, h.cfg.cell rfl⟩

/-- cells of a block set, one behind the other -/
def setFrom (W : World) (b : Nat) : Nat → List Value → World
  | _, [] => W
  | j, v :: vs => setFrom (W.setCell ⟨b, j, none⟩ v) b (j + 1) vs
def setArr (cs : Array Value) : Nat → List Value → Array Value
  | _, [] => cs
  | j, v :: vs => setArr (cs.setIfInBounds j v) (j + 1) vs
theorem setFrom_blk {b : Nat} {T : TypeId} : ∀ (vs : List Value) (j : Nat) {W : World} {cs : Array Value}, Blk W b cs T → Blk (setFrom W b j vs) b (setArr cs j vs) T
  | [], _, _, _, h => h
  | v :: vs, j, _, _, h => setFrom_blk vs (j + 1) (h.set j v)
theorem setFrom_away {b : Nat} : ∀ (vs : List Value) (j : Nat) {W0 W : World} {G : Nat → Prop}, G b ∨ W0.heap.size ≤ b → Away G W0 W → Away G W0 (setFrom W b j vs)
  | [], _, _, _, _, _, h => h
  | v :: vs, j, _, _, _, hg, h => setFrom_away vs (j + 1) hg (h.setCell ⟨b, j, none⟩ v hg)
/-- a config of the digest's kind, as values -/
def cfgL (d F : Int) : List Value := [.int .i64 3, .int .u64 0, .int .u64 0, .int .i64 0, .int .i64 0, .int .i64 0, .int .u64 0, .int .i64 d, .int .i64 F, .int .i64 0, .int .u64 0]
def put11 (W : World) (b : Nat) (d F : Int) : World := setFrom W b 0 (cfgL d F)
theorem put11_blk {W : World} {b : Nat} {T : TypeId} {c0 c1 c2 c3 c4 c5 c6 c7 c8 c9 c10 : Value} (h : Blk W b #[c0, c1, c2, c3, c4, c5, c6, c7, c8, c9, c10] T) (d F : Int) : Blk (put11 W b d F) b (cfgC 0 0 0 0 0 0 d F 0 0) T := by
  have e : setArr #[c0, c1, c2, c3, c4, c5, c6, c7, c8, c9, c10] 0 (cfgL d F) = cfgC 0 0 0 0 0 0 d F 0 0 := by simp [setArr, cfgL, cfgC]
  have := setFrom_blk (cfgL d F) 0 h
  rw [e] at this
  exact this
theorem put11_away (W : World) (b : Nat) (d F : Int) : Away (fun k => k = b) W (put11 W b d F) := setFrom_away _ _ (.inl rfl) (Away.refl _ _)
theorem rd_fin {w W w7 : World} {eb pb d F : Nat} {a b : Int} {l : Row} {po : Option Addr} {code : Int} (h : RdC w eb pb d F [] w7) (hw : w.heap.size < W.heap.size) (p : LoP W d F a b l po code w7) (ha : I64 a) (hb : I64 b) :
    RdP w eb d F l (.returned (.tuple #[.agg (cfgC 0 0 0 0 0 0 (d : Int) (F : Int) 0 0), .iface 131 (.agg #[.pointer po]), .bool (code == 0)])) (put11 w7 w.heap.size (d : Int) (F : Int)) := by
  refine ⟨code == 0, _, rfl, ?_, ?_, fun hk => ?_⟩
  · exact h.away.trans' (G := fun k => k = w.heap.size) (put11_away w7 w.heap.size d F) (fun _ _ h => h) fun k hk e => by omega
  · exact Blk.away h.eye (put11_away w7 w.heap.size d F) (by have := h.ne; omega)
  · rcases p with ⟨hc, _⟩ | ⟨_, db, sb, v, rfl, hd, h1, h2, h3⟩
    · simp at hk; omega
    · refine ⟨db, sb, v, a, b, rfl, hd.away (put11_away w7 w.heap.size d F) ?_, ha, hb, ?_⟩
      · rintro k (e | e | e) <;> try omega
        have := h3 k e; omega
      · rintro k (e | e | e) <;> try omega
        have := h3 k e; omega

set_option maxHeartbeats 4000000 in
theorem rd_digest (w : World) (eb d F : Nat) (a b : Int) (l : Row) (h : EyO w eb (loadE d F (zigN a) (zigN b) l)) (h1 : 1 ≤ d) (h2 : d ≤ 24) (h3 : 1 ≤ F) (h4 : F ≤ 64) (ha : I64 a) (hb : I64 b)
    (hr : Rising l) (hf : Full l) (hn : Nodes d l) (hlen : l.length ≤ 3000) (htot : rowTotal l ≤ 900000) :
    Calls Tryz.prog 52 #[.pointer (some ⟨eb, 0, none⟩)] w (RdP w eb d F l) := by
  obtain ⟨hs5, hs⟩ := loadB_short d F a b l h2 h4 ha hb hlen hn hr htot
  rw [loadE_eq] at hs
  unfold loadE at hs h
  simp only [List.length_append] at hs
  have hpw : 2 ^ d ≤ 16777216 := Nat.pow_le_pow_right (n := 2) (by decide) h2
  have hget : ∀ x ∈ l, x.1 < 4000000000000000000 ∧ 1 ≤ x.2 ∧ x.2 < 9223372036854775808 := fun x hx => by
    have g1 := hn x hx
    have g2 := rowAt_mem hr hx
    have g3 := rowAt_le_total l x.1
    have g4 := hf x hx
    omega
  have hlt := Blk.lt h
  have hb0 : Below w.heap.size w (w.alloc (.cells #[.int .i64 0, .int .u64 0, .int .u64 0, .int .i64 0, .int .i64 0, .int .i64 0, .int .u64 0, .int .i64 0, .int .i64 0, .int .i64 0, .int .u64 0] 28)) := (Below.refl _ _).alloc (Nat.le_refl _) _
  have E0 : EyO (w.alloc (.cells #[.int .i64 0, .int .u64 0, .int .u64 0, .int .i64 0, .int .i64 0, .int .i64 0, .int .u64 0, .int .i64 0, .int .i64 0, .int .i64 0, .int .u64 0] 28)) eb _ := Blk.alloc h _
  have R0 : Blk (w.alloc (.cells #[.int .i64 0, .int .u64 0, .int .u64 0, .int .i64 0, .int .i64 0, .int .i64 0, .int .u64 0, .int .i64 0, .int .i64 0, .int .i64 0, .int .u64 0] 28)) w.heap.size _ 28 := Blk.newAt rfl
  have hr1 := eye_small _ eb d 24 _ E0 h2 (by decide) (by simp only [List.length_append]; omega)
  have HP := Lib.hid (And.intro hr (And.intro hf (And.intro hn hget)))
  clear h hr hf hn hget hpw
  go_enter Tryz.func52, Tryz.ntmps52
  go_wp2_with fail
  refine hr1.mono ?_
  rintro e w1 ⟨rfl, E1, A1⟩
  have hr2 := eye_small _ eb F 64 _ E1 h4 (by decide) (by simp only [List.length_append]; omega)
  have R1 := R0.away A1 (by omega)
  have B1 := (Away.of_below (F := fun k => k = eb) hb0).trans' A1 (fun _ _ h => h) (fun _ _ h => h)
  clear hr1 E0 A1
  go_wp2_with fail
  refine hr2.mono ?_
  rintro e w2 ⟨rfl, E2, A2⟩
  have R2 := R1.away A2 (by omega)
  have B2 := B1.trans' A2 (fun _ _ h => h) (fun _ _ h => h)
  have hsz := R2.lt
  have S2 : RdC w eb w2.heap.size d F _ (w2.alloc (.cells (cfgC 0 0 0 0 0 0 (d : Int) (F : Int) 0 0) 28)) := ⟨Blk.alloc E2 _, Blk.newAt rfl, R2.alloc _, B2.alloc _, by have := Blk.lt E2; omega, by omega, hsz⟩
  have hr3 := eye_int _ eb a _ S2.eye ha (by simp only [List.length_append]; omega)
  clear hr2 R1 R2 B1 B2 A2 E1 E2 R0 hb0
  go_wp2_with fail
  refine hr3.mono ?_
  rintro e w3 ⟨rfl, E3, A3⟩
  have S3 := S2.look E3 A3
  have hr4 := eye_int _ eb b _ S3.eye hb (by simp only [List.length_append]; omega)
  clear hr3 S2 E3 A3
  go_wp2_with fail
  refine hr4.mono ?_
  rintro e w4 ⟨rfl, E4, A4⟩
  have S4 := S3.look E4 A4
  clear hr4 S3 E4 A4
  generalize w2.heap.size = pb at S4 ⊢
  go_upto_region 3 with fail
  have S5 := S4.drew
  have hg := get_any w4.drew eb 4096 l [] S5.eye (by omega) (by decide) HP.out.1 HP.out.2.2.2 (by decide)
  obtain ⟨k0, k1, k2, k3, k4, k5, k6, k7, k8, k9, k10⟩ := S5.cells
  have hld := fun W u (ho : W.ownsRow 0 228 2 u l.length (rowC l)) => load_one W u d F a b l h1 h2 h3 h4 ha hb HP.out.1 HP.out.2.1 HP.out.2.2.1 hlen htot ho
  rename_i KK
  clear S4 k0 k1 k2 k3 k4 k5 k6 k9 k10
  go_region_with (first
    | (go_at_call 73; refine hg.mono ?_; rintro e w6 ⟨u, rfl, o6, E6, A6⟩; have S6 := S5.look E6 A6; have o6 := owns_base (base' := 0) o6 (fun _ _ => Nat.zero_le _); obtain ⟨k0, k1, k2, k3, k4, k5, k6, k7, k8, k9, k10⟩ := S6.cells; clear E6 A6 k0 k1 k2 k3 k4 k5 k6 k9 k10)
    | (go_at_call 79; refine (hld _ _ (by assumption)).mono ?_; rintro e w7 ⟨po, code, rfl, b7, P7⟩))
  all_goals (
    refine KK _ _ ?_
    have S7 := S6.next b7
    have S6s : w.heap.size < w6.heap.size := S6.res.lt
    obtain ⟨k0, k1, k2, k3, k4, k5, k6, k7, k8, k9, k10⟩ := S7.cells
    obtain ⟨⟨m0, m1, m2, m3, m4, m5, m6, m7, m8, m9, m10⟩, ⟨f0, f1, f2, f3, f4, f5, f6, f7, f8, f9, f10⟩⟩ := S7.old
    clear hg hld S5 S6 o6
    go_wp2_with fail
    have hp := put11_blk S7.res (d : Int) (F : Int)
    have hfin := Lib.hid (rd_fin S7 (by have := S6s; omega) P7 ha hb)
    change bodyPost Tryz.prog Tryz.f52 (RdP w eb d F l) Exit.ret _ (put11 w7 w.heap.size (d : Int) (F : Int))
    generalize put11 w7 w.heap.size (d : Int) (F : Int) = WW at hp hfin ⊢
    have c0 := hp.cell (j := 0) rfl
    have c1 := hp.cell (j := 1) rfl
    have c2 := hp.cell (j := 2) rfl
    have c3 := hp.cell (j := 3) rfl
    have c4 := hp.cell (j := 4) rfl
    have c5 := hp.cell (j := 5) rfl
    have c6 := hp.cell (j := 6) rfl
    have c7 := hp.cell (j := 7) rfl
    have c8 := hp.cell (j := 8) rfl
    have c9 := hp.cell (j := 9) rfl
    have c10 := hp.cell (j := 10) rfl
    refine bodyPost_ret (v := .tuple #[.agg (cfgC 0 0 0 0 0 0 (d : Int) (F : Int) 0 0), .iface 131 (.agg #[.pointer po]), .bool (code == 0)]) ?_ rfl hfin.out
    simp [results, Tryz.results52, go_sem, cfgC, c0, c1, c2, c3, c4, c5, c6, c7, c8, c9, c10])
end Go.Proofs.YtbejdajkkoapgaaGreatDoor

/-
  Contracts of reads and Decode at bytes that Encode wrote. Conditions: the row was a digest's own.
-/
set_option linter.unusedVariables false
set_option linter.unusedSimpArgs false
set_option maxRecDepth 100000
namespace Go.Proofs.YtbejdajkkoapgaaGreatDoor
open Go.RowKit Go.Lib

def zero28 : Array Value := #[.int .i64 0, .int .u64 0, .int .u64 0, .int .i64 0, .int .i64 0, .int .i64 0, .int .u64 0, .int .i64 0, .int .i64 0, .int .i64 0, .int .u64 0]
theorem cells28 {W : World} {b : Nat} (h : Blk W b zero28 28) : (W.cell? ⟨b, 0, none⟩ = some (.int .i64 0) ∧ W.cell? ⟨b, 1, none⟩ = some (.int .u64 0) ∧ W.cell? ⟨b, 2, none⟩ = some (.int .u64 0) ∧ W.cell? ⟨b, 3, none⟩ = some (.int .i64 0) ∧ W.cell? ⟨b, 4, none⟩ = some (.int .i64 0) ∧ W.cell? ⟨b, 5, none⟩ = some (.int .i64 0) ∧
    W.cell? ⟨b, 6, none⟩ = some (.int .u64 0) ∧ W.cell? ⟨b, 7, none⟩ = some (.int .i64 0) ∧ W.cell? ⟨b, 8, none⟩ = some (.int .i64 0) ∧ W.cell? ⟨b, 9, none⟩ = some (.int .i64 0) ∧ W.cell? ⟨b, 10, none⟩ = some (.int .u64 0)) ∧
    (W.frozen? ⟨b, 0, none⟩ = false ∧ W.frozen? ⟨b, 1, none⟩ = false ∧ W.frozen? ⟨b, 2, none⟩ = false ∧ W.frozen? ⟨b, 3, none⟩ = false ∧ W.frozen? ⟨b, 4, none⟩ = false ∧ W.frozen? ⟨b, 5, none⟩ = false ∧ W.frozen? ⟨b, 6, none⟩ = false ∧ W.frozen? ⟨b, 7, none⟩ = false ∧ W.frozen? ⟨b, 8, none⟩ = false ∧ W.frozen? ⟨b, 9, none⟩ = false ∧ W.frozen? ⟨b, 10, none⟩ = false) :=
  ⟨⟨h.cell rfl, h.cell rfl, h.cell rfl, h.cell rfl, h.cell rfl, h.cell rfl, h.cell rfl, h.cell rfl, h.cell rfl, h.cell rfl, h.cell rfl⟩,
   ⟨h.frozen 0, h.frozen 1, h.frozen 2, h.frozen 3, h.frozen 4, h.frozen 5, h.frozen 6, h.frozen 7, h.frozen 8, h.frozen 9, h.frozen 10⟩⟩
theorem cfg_cells {W : World} {b : Nat} {d F : Int} (h : Blk W b (cfgC 0 0 0 0 0 0 d F 0 0) 28) : W.cell? ⟨b, 0, none⟩ = some (.int .i64 3) ∧ W.cell? ⟨b, 1, none⟩ = some (.int .u64 0) ∧ W.cell? ⟨b, 2, none⟩ = some (.int .u64 0) ∧ W.cell? ⟨b, 3, none⟩ = some (.int .i64 0) ∧ W.cell? ⟨b, 4, none⟩ = some (.int .i64 0) ∧ W.cell? ⟨b, 5, none⟩ = some (.int .i64 0) ∧
    W.cell? ⟨b, 6, none⟩ = some (.int .u64 0) ∧ W.cell? ⟨b, 7, none⟩ = some (.int .i64 d) ∧ W.cell? ⟨b, 8, none⟩ = some (.int .i64 F) ∧ W.cell? ⟨b, 9, none⟩ = some (.int .i64 0) ∧ W.cell? ⟨b, 10, none⟩ = some (.int .u64 0) :=
  ⟨h.cell rfl, h.cell rfl, h.cell rfl, h.cell rfl, h.cell rfl, h.cell rfl, h.cell rfl, h.cell rfl, h.cell rfl, h.cell rfl, h.cell rfl⟩

theorem RdP.on {w w1 : World} {eb d F : Nat} {l : Row} {ok : Bool} {po : Option Addr} {o : Obj} (hlt : eb < w.heap.size) (ha : Away (fun k => k = eb) (w.alloc o) w1) (he : EyO w1 eb [])
    (hd : ok = true → ∃ db sb v a b, po = some ⟨db, 0, none⟩ ∧ DigO w1 db sb v d F a b l ∧ I64 a ∧ I64 b ∧ ∀ k, Own db sb v k → (w.alloc o).heap.size ≤ k) :
    RdP w eb d F l (.returned (.tuple #[.agg (cfgC 0 0 0 0 0 0 (d : Int) (F : Int) 0 0), .iface 131 (.agg #[.pointer po]), .bool ok])) (put11 w1 w.heap.size (d : Int) (F : Int)) := by
  have hz : (w.alloc o).heap.size = w.heap.size + 1 := by simp
  have h0 : Away (fun k => k = eb) w w1 := (Away.of_below (F := fun k => k = eb) ((Below.refl _ w).alloc (Nat.le_refl _) o)).trans' ha (fun _ _ h => h) (fun _ _ h => h)
  refine ⟨ok, po, rfl, ?_, ?_, fun hk => ?_⟩
  · exact setFrom_away _ _ (.inr (Nat.le_refl _)) h0
  · exact Blk.away he (put11_away w1 w.heap.size d F) (by omega)
  · obtain ⟨db, sb, v, a, b, h1, h2, h3, h4, h5⟩ := hd hk
    exact ⟨db, sb, v, a, b, h1, h2.away (put11_away w1 w.heap.size d F) (fun k hk => by have := h5 k hk; omega), h3, h4, fun k hk => by have := h5 k hk; omega⟩

set_option maxHeartbeats 4000000 in
theorem reads_digest (w : World) (eb d F : Nat) (a b : Int) (l : Row) (h : EyO w eb (loadE d F (zigN a) (zigN b) l)) (h1 : 1 ≤ d) (h2 : d ≤ 24) (h3 : 1 ≤ F) (h4 : F ≤ 64) (ha : I64 a) (hb : I64 b)
    (hr : Rising l) (hf : Full l) (hn : Nodes d l) (hlen : l.length ≤ 3000) (htot : rowTotal l ≤ 900000) :
    Calls Tryz.prog 33 #[.int .i64 3, .pointer (some ⟨eb, 0, none⟩)] w (RdP w eb d F l) := by
  have hc := rd_digest (w.alloc (.cells zero28 28)) eb d F a b l (Blk.alloc h _) h1 h2 h3 h4 ha hb hr hf hn hlen htot
  have hlt := Blk.lt h
  have R0 : Blk (w.alloc (.cells zero28 28)) w.heap.size zero28 28 := Blk.newAt rfl
  have RR := Lib.hid R0
  clear h hr hf hn R0
  unfold zero28 at hc
  go_enter Tryz.func33, Tryz.ntmps33
  go_wp2_with fail
  refine hc.mono ?_
  rintro e w1 ⟨ok, po, rfl, A1, E1, D1⟩
  have R0 := RR.out
  unfold zero28 at R0
  have R1 := R0.away A1 (by omega)
  obtain ⟨⟨m0, m1, m2, m3, m4, m5, m6, m7, m8, m9, m10⟩, ⟨f0, f1, f2, f3, f4, f5, f6, f7, f8, f9, f10⟩⟩ := cells28 R1
  have hp := put11_blk R1 (d : Int) (F : Int)
  have hfin := Lib.hid (RdP.on hlt A1 E1 D1)
  clear hc A1 E1 D1 R1 R0 RR
  unfold cfgC
  go_wp2_with fail
  change bodyPost Tryz.prog Tryz.f33 (RdP w eb d F l) Exit.ret _ (put11 w1 w.heap.size (d : Int) (F : Int))
  generalize put11 w1 w.heap.size (d : Int) (F : Int) = WW at hp hfin ⊢
  obtain ⟨c0, c1, c2, c3, c4, c5, c6, c7, c8, c9, c10⟩ := cfg_cells hp
  refine bodyPost_ret (v := .tuple #[.agg (cfgC 0 0 0 0 0 0 (d : Int) (F : Int) 0 0), .iface 131 (.agg #[.pointer po]), .bool ok]) ?_ rfl hfin.out
  simp [results, Tryz.results33, go_sem, cfgC, c0, c1, c2, c3, c4, c5, c6, c7, c8, c9, c10]

/-- what Decode answers -/
def DcP (w : World) (d F : Nat) (l : Row) (e : Ending) (w' : World) : Prop := ∃ (po : Option Addr) (code : Int), e = .returned (.tuple #[.pointer po, .int .i64 code]) ∧ Below w.heap.size w w' ∧
  ((code ≠ 0 ∧ po = none) ∨ (code = 0 ∧ ∃ kb db sb v a b, po = some ⟨kb, 0, none⟩ ∧ SkO w' kb db sb v d F a b l ∧ I64 a ∧ I64 b ∧ ∀ k, OwnS kb db sb v k → w.heap.size ≤ k))

set_option maxHeartbeats 4000000 in
theorem sk_decode (w : World) (d F : Nat) (a b : Int) (l : Row) (h1 : 1 ≤ d) (h2 : d ≤ 24) (h3 : 1 ≤ F) (h4 : F ≤ 64) (ha : I64 a) (hb : I64 b)
    (hr : Rising l) (hf : Full l) (hn : Nodes d l) (hlen : l.length ≤ 3000) (htot : rowTotal l ≤ 900000) :
    Calls Tryz.prog 19 #[.string (bs (frameB 3 (loadB d F (zigN a) (zigN b) l)))] w (DcP w d F l) := by
  obtain ⟨s1, s2⟩ := loadB_short d F a b l h2 h4 ha hb hlen hn hr htot
  have ho := open_any w 3 (loadB d F (zigN a) (zigN b) l) (by omega)
  have hrd := fun W eb (k : EyO W eb (loadE d F (zigN a) (zigN b) l)) => reads_digest W eb d F a b l k h1 h2 h3 h4 ha hb hr hf hn hlen htot
  rw [loadE_eq] at ho ⊢
  have hon := fun W => eye_on W (loadE d F (zigN a) (zigN b) l)
  generalize loadE d F (zigN a) (zigN b) l = s at *
  generalize frameB 3 s = t at *
  clear hr hf hn s1 s2
  go_enter Tryz.func19, Tryz.ntmps19
  go_wp2_with fail
  refine ho.mono ?_
  rintro e w1 ⟨rfl, b1⟩
  clear ho
  go_wp2_with fail
  refine (hon _).mono ?_
  rintro e w2 ⟨rfl, rfl⟩
  clear hon
  have E2 : EyO (w1.alloc (.cells #[.string (bs s), .bool false] 153)) w1.heap.size s := Blk.newAt rfl
  have b2 : Below w.heap.size w (w1.alloc (.cells #[.string (bs s), .bool false] 153)) := b1.alloc b1.size _
  have h8 := b1.size
  go_wp2_with fail
  refine (hrd _ _ E2).mono ?_
  rintro e w3 ⟨ok, po, rfl, A3, E3, D3⟩
  have b3 : Below w.heap.size w w3 := b2.trans ((A3.below (B := w.heap.size) b2.size (fun k hk e => by omega)))
  clear hrd E2
  have hz3 := b3.size
  cases ok with
  | false =>
    unfold cfgC
    go_wp2_with fail
    go_ret2
    exact ⟨none, 4, rfl, b3.alloc hz3 _, .inl ⟨by decide, rfl⟩⟩
  | true =>
    obtain ⟨db, sb, v, a', b', rfl, D, i1, i2, hnew⟩ := D3 rfl
    have hov := fun W (k : EyO W w1.heap.size []) => eye_over W w1.heap.size k
    have E4 : EyO (w3.alloc (.cells (cfgC 0 0 0 0 0 0 (d : Int) (F : Int) 0 0) 28)) w1.heap.size [] := Blk.alloc E3 _
    have hz : w1.heap.size + 1 = (w1.alloc (.cells #[.string (bs s), .bool false] 153)).heap.size := by simp
    have HN := Lib.hid (show ∀ k, Own db sb v k → w.heap.size ≤ k from fun k hk => by have := hnew k hk; omega)
    have HD := Lib.hid (D.next ((Below.refl _ _).alloc (Nat.le_refl _) (.cells (cfgC 0 0 0 0 0 0 (d : Int) (F : Int) 0 0) 28)))
    clear D3 D hnew hz
    have hov4 := hov _ E4
    unfold cfgC at hov4 HD ⊢
    go_wp2_with fail
    refine hov4.mono ?_
    rintro e w5 ⟨rfl, rfl⟩
    clear hov4
    go_wp2_with fail
    go_ret2
    have b4 := b3.alloc hz3 (.cells #[.int .i64 3, .int .u64 0, .int .u64 0, .int .i64 0, .int .i64 0, .int .i64 0, .int .u64 0, .int .i64 (d : Int), .int .i64 (F : Int), .int .i64 0, .int .u64 0] 28)
    refine ⟨some ⟨(w3.alloc (.cells #[.int .i64 3, .int .u64 0, .int .u64 0, .int .i64 0, .int .i64 0, .int .i64 0, .int .u64 0, .int .i64 (d : Int), .int .i64 (F : Int), .int .i64 0, .int .u64 0] 28)).heap.size, 0, none⟩, 0, ?_, b4.alloc b4.size _, .inr ⟨rfl, _, db, sb, v, a', b', rfl, ⟨Blk.newAt rfl, HD.out.next ((Below.refl _ _).alloc (Nat.le_refl _) _)⟩, i1, i2, ?_⟩⟩
    · simp
    · rintro k (rfl | hk)
      · exact b4.size
      · exact HN.out k hk
end Go.Proofs.YtbejdajkkoapgaaGreatDoor

/-
  The digest's kind keeps the laws of a kind. Conditions: none.
-/
set_option linter.unusedVariables false
set_option linter.unusedSimpArgs false
set_option maxRecDepth 100000
namespace Go.Proofs.YtbejdajkkoapgaaGreatDoor
open Go.RowKit Go.Lib

theorem allL_le (l : Vals) (h : InV l) : allL l ≤ 20 * l.length := by
  induction l with
  | nil => exact Nat.le_refl _
  | cons x l ih =>
    have h1 := ih fun y hy => h y (List.mem_cons_of_mem _ hy)
    have h2 := (h x (List.mem_cons_self ..)).2
    simp only [allL, List.length_cons]; omega

/-- a row that a digest has, behind values -/
structure DgR (a7 a8 : Int) (d F : Nat) (l : Row) (vals : Vals) : Prop where
  hd : a7 = (d : Int)
  hF : a8 = (F : Int)
  d1 : 1 ≤ d
  d2 : d ≤ 24
  f1 : 1 ≤ F
  f2 : F ≤ 64
  q : QInv d F l vals
  len : l.length ≤ vals.length
theorem DgR.bd {a7 a8 : Int} {d F : Nat} {l : Row} {vals : Vals} (h : DgR a7 a8 d F l vals) (hi : InV vals) (hl : vals.length ≤ 360) : l.length ≤ 360 ∧ rowTotal l ≤ 7200 := by
  have h1 := allL_le vals hi
  have h2 := h.q.total
  have h3 := h.len
  omega
def DgSk (a7 a8 : Int) (w : World) (kb : Nat) (O : Nat → Prop) (vals : Vals) : Prop :=
  ∃ (d F db sb : Nat) (v : Value) (lo hi : Int) (l : Row), DgR a7 a8 d F l vals ∧ SkO w kb db sb v d F lo hi l ∧ I64 lo ∧ I64 hi ∧ O = OwnS kb db sb v
def DgEnc (a7 a8 : Int) (s : List UInt8) (vals : Vals) : Prop := ∃ (d F : Nat) (a b : Int) (l : Row), DgR a7 a8 d F l vals ∧ I64 a ∧ I64 b ∧ s = frameB 3 (loadB d F (zigN a) (zigN b) l)
def DgP (a7 : Int) (x : Int × Nat) : Bool := decide (0 ≤ x.1) && decide (x.1 < ((2 ^ a7.toNat : Nat) : Int)) && decide (1 ≤ x.2)
theorem DgP_iff (d : Nat) (x : Int × Nat) : DgP (d : Int) x = true ↔ 0 ≤ x.1 ∧ x.1 < ((2 ^ d : Nat) : Int) ∧ 1 ≤ x.2 := by
  unfold DgP; simp [and_assoc]

theorem length_join (l m : Row) : (joinL l m).length ≤ l.length + m.length := by
  unfold joinL
  induction m generalizing l with
  | nil => simp
  | cons x m ih =>
    rw [List.foldl_cons]
    have h1 := ih (addL l x.1 x.2)
    have h2 := length_addL_le l x.1 x.2
    simp only [List.length_cons]; omega
theorem SkO.ty {w : World} {kb db sb : Nat} {v : Value} {d F : Nat} {lo hi : Int} {l : Row} (h : SkO w kb db sb v d F lo hi l) : ∀ k, OwnS kb db sb v k → ∀ cs, ¬ Blk w k cs 59 ∧ ¬ Blk w k cs 34 := by
  rintro k (rfl | rfl | rfl | e) cs
  · exact ⟨fun hb => (h.blk.ne hb (by decide)) rfl, fun hb => (h.blk.ne hb (by decide)) rfl⟩
  · exact ⟨fun hb => (h.dig.blk.ne hb (by decide)) rfl, fun hb => (h.dig.blk.ne hb (by decide)) rfl⟩
  · exact ⟨fun hb => (h.dig.strip.blk.ne hb (by decide)) rfl, fun hb => (h.dig.strip.blk.ne hb (by decide)) rfl⟩
  · obtain ⟨cur, hc⟩ := owns_blk h.dig.strip.own e
    exact ⟨fun hb => (hc.ne hb (by decide)) rfl, fun hb => (hc.ne hb (by decide)) rfl⟩

theorem kind_digest (a1 a2 a3 a4 a5 a6 a7 a8 a9 a10 : Int) : Kind (cfgV 3 a1 a2 a3 a4 a5 a6 a7 a8 a9 a10) (DgSk a7 a8) (DgEnc a7 a8) (DgP a7) where
  next := by
    rintro w w' kb O vals ⟨d, F, db, sb, v, lo, hi, l, hr, hk, h1, h2, rfl⟩ hb
    exact ⟨d, F, db, sb, v, lo, hi, l, hr, hk.next hb, h1, h2, rfl⟩
  away := by
    rintro w w' kb O G vals ⟨d, F, db, sb, v, lo, hi, l, hr, hk, h1, h2, rfl⟩ hb hn
    exact ⟨d, F, db, sb, v, lo, hi, l, hr, hk.away hb hn, h1, h2, rfl⟩
  lt := by
    rintro w kb O vals ⟨d, F, db, sb, v, lo, hi, l, hr, hk, h1, h2, rfl⟩
    exact hk.lt
  ty := by
    rintro w kb O vals ⟨d, F, db, sb, v, lo, hi, l, hr, hk, h1, h2, rfl⟩
    exact hk.ty
  new := fun w _ => (new_any w a1 a2 a3 a4 a5 a6 a7 a8 a9 a10).mono fun e w' hh => by
    obtain ⟨hb, ⟨code, hc, he⟩ | ⟨d, F, kb, db, sb, e7, e8, d1, d2, f1, f2, he, hk, g1, g2, g3⟩⟩ := hh
    · exact ⟨none, code, he, hb, fun h => absurd h hc⟩
    · refine ⟨_, 0, he, hb, fun _ => ⟨kb, _, rfl, ⟨d, F, db, sb, _, 0, 0, [], ⟨e7, e8, d1, d2, f1, f2, qinv_nil d F, Nat.le_refl _⟩, hk, by unfold I64; omega, by unfold I64; omega, rfl⟩, ?_⟩⟩
      rintro k (rfl | rfl | rfl | e)
      · exact g1
      · exact g2
      · exact g3
      · simp [Value.ownBlock] at e
  put := by
    rintro w kb O vals ⟨x, c⟩ ⟨d, F, db, sb, v, lo, hi, l, hr, hk, h1, h2, rfl⟩ hin hlen hx hc
    obtain ⟨b1, b2⟩ := hr.bd hin (by omega)
    refine (sk_put w kb db sb v d F lo hi l hk hr.d1 hr.d2 hr.f1 hr.f2 h1 h2 hr.q.nodes (by omega) (by omega) x hx c (by simp at hc; omega)).mono fun e w' hh => ?_
    obtain ⟨code, l', he, ⟨lo', hi', sb', v', K', i1, i2, hsub, haw⟩, hcase⟩ := hh
    refine ⟨code, OwnS kb db sb' v', he, ?_, ?_, ?_, haw.mono fun k _ hk => .inr hk⟩
    · rw [hr.hd, DgP_iff]
      rcases hcase with ⟨rfl, p1, p2, p3, _⟩ | hn
      · exact ⟨fun _ => ⟨p1, p2, p3⟩, fun _ => rfl⟩
      · exact ⟨fun h => absurd h hn.1, fun hp => absurd hp hn.2.2⟩
    · rcases hcase with ⟨rfl, p1, p2, p3, hl⟩ | ⟨hn, rfl, hno⟩
      · have hP : DgP a7 (x, c) = true := by rw [hr.hd, DgP_iff]; exact ⟨p1, p2, p3⟩
        have hq := qinv_put hr.q x.toNat c (by omega) p3 hr.f1
        rw [show ((x.toNat : Nat) : Int) = x by omega] at hq
        have hlen2 := (hl.keeps hq.nodes).2.2
        have hlen3 := length_addL_le l (2 ^ d + x.toNat) c
        rw [if_pos hP]
        exact ⟨d, F, db, sb', v', lo', hi', l', ⟨hr.hd, hr.hF, hr.d1, hr.d2, hr.f1, hr.f2, hl.qinv hq, by have := hr.len; simp; omega⟩, K', i1, i2, rfl⟩
      · have hP : ¬ DgP a7 (x, c) = true := by rw [hr.hd, DgP_iff]; exact hno
        rw [if_neg hP]
        exact ⟨d, F, db, sb', v', lo', hi', l', hr, K', i1, i2, rfl⟩
    · rintro k (rfl | hk')
      · exact .inl (.inl rfl)
      · exact (hsub k hk').imp .inr id
  bytes := by
    rintro w kb O vals ⟨d, F, db, sb, v, lo, hi, l, hr, hk, h1, h2, rfl⟩ hin hlen
    obtain ⟨b1, b2⟩ := hr.bd hin hlen
    refine (sk_bytes w kb db sb v d F lo hi l hk hr.d2 hr.f2 h1 h2 (by omega) hr.q.nodes (by omega)).mono fun e w' hh => ?_
    obtain ⟨a, b, ia, ib, he, hb⟩ := hh
    exact ⟨_, he, ⟨d, F, a, b, l, hr, ia, ib, rfl⟩, hb⟩
  decode := by
    rintro w s vals _ ⟨d, F, a, b, l, hr, ia, ib, rfl⟩ hin hlen
    obtain ⟨b1, b2⟩ := hr.bd hin hlen
    refine (sk_decode w d F a b l hr.d1 hr.d2 hr.f1 hr.f2 ia ib hr.q.rising hr.q.full hr.q.nodes (by omega) (by omega)).mono fun e w' hh => ?_
    obtain ⟨po, code, he, hb, ⟨hn, _⟩ | ⟨rfl, kb, db, sb, v, a', b', rfl, hk, i1, i2, hnew⟩⟩ := hh
    · exact ⟨po, code, he, hb, fun h => absurd h hn⟩
    · exact ⟨_, 0, he, hb, fun _ => ⟨kb, _, rfl, ⟨d, F, db, sb, v, a', b', l, hr, hk, i1, i2, rfl⟩, hnew⟩⟩
  join := by
    rintro w kb nb O N vals more ⟨d, F, db, sb, v, lo, hi, l, hr, hk, h1, h2, rfl⟩ ⟨d', F', ob, so, u, lo2, hi2, m, hr', hk', h1', h2', rfl⟩ hdis hin hin' hlen
    obtain rfl : d = d' := by have := hr.hd; have := hr'.hd; omega
    obtain rfl : F = F' := by have := hr.hF; have := hr'.hF; omega
    obtain ⟨b1, b2⟩ := hr.bd hin (by omega)
    obtain ⟨b3, b4⟩ := hr'.bd hin' (by omega)
    have t1 := allL_le vals hin
    have t2 := allL_le more hin'
    have t3 := hr.q.total
    have t4 := hr'.q.total
    have t5 := hr.len
    have t6 := hr'.len
    refine (sk_join w kb db sb v nb ob so u d F lo hi lo2 hi2 l m hk hk' (fun i hi hj => hdis i (.inr hi) (.inr hj)) hr.d1 hr.d2 hr.f1 hr.f2 h1 h2 h1' h2' hr.q.nodes hr'.q.nodes (by omega) (by omega)).mono fun e w' hh => ?_
    obtain ⟨l', he, ⟨lo', hi', sb', v', K', i1, i2, hsub, haw⟩, hl⟩ := hh
    refine ⟨0, OwnS kb db sb' v', he, fun _ => ⟨d, F, db, sb', v', lo', hi', l', ⟨hr.hd, hr.hF, hr.d1, hr.d2, hr.f1, hr.f2, hl.qinv (qinv_join hr.q hr'.q hr.f1), ?_⟩, K', i1, i2, rfl⟩, ?_, haw.mono fun k _ hk => .inr hk⟩
    · have k1 := (hl.keeps (qinv_join hr.q hr'.q hr.f1).nodes).2.2
      have k2 := length_join l m
      simp only [List.length_append]; omega
    · rintro k (rfl | hk')
      · exact .inl (.inl rfl)
      · exact (hsub k hk').imp .inr id
end Go.Proofs.YtbejdajkkoapgaaGreatDoor

