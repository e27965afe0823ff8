/-
  Several texts in one: Sm, Wr, En. What each proves, and on which conditions, stands at its head. Conditions: stated in each.
-/
import Derived.Test.YtbejdajkkoapgaaGreatDoorJ21
import Derived.Test.YtbejdajkkoapgaaGreatDoorJ13
import Derived.Test.YtbejdajkkoapgaaGreatDoorJ14
/-
  Contracts of the suite's methods where the kind is the digest's.
-/
set_option linter.unusedVariables false
set_option linter.unusedSimpArgs false
set_option maxRecDepth 100000
namespace Go.Proofs.YtbejdajkkoapgaaGreatDoor
open Go.RowKit Go.Lib

theorem SkO.cells {w : World} {kb db sb : Nat} {v : Value} {d F : Nat} {lo hi : Int} {l : Row} (h : SkO w kb db sb v d F lo hi l) : w.cell? ⟨kb, 0, none⟩ = some (.int .i64 3) ∧ w.cell? ⟨kb, 11, none⟩ = some (.iface 131 (.agg #[.pointer (some ⟨db, 0, none⟩)])) ∧ kb < w.heap.size := ⟨h.blk.cell rfl, h.blk.cell rfl, h.blk.lt⟩

section
variable {w w' : World} {kb db sb : Nat} {v : Value} {d F : Nat} {lo hi : Int} {l : Row}
theorem SkO.next (h : SkO w kb db sb v d F lo hi l) (hb : Below w.heap.size w w') : SkO w' kb db sb v d F lo hi l := ⟨h.blk.below hb h.blk.lt, h.dig.next hb⟩
theorem SkO.drew (h : SkO w kb db sb v d F lo hi l) : SkO w.drew kb db sb v d F lo hi l := ⟨h.blk.drew, h.dig.drew⟩
theorem SkO.apart (h : SkO w kb db sb v d F lo hi l) : ¬ Own db sb v kb := by
  rintro (e | e | e)
  · exact (h.blk.ne h.dig.blk (by decide)) e
  · exact (h.blk.ne h.dig.strip.blk (by decide)) e
  · obtain ⟨cur, hc⟩ := owns_blk h.dig.strip.own e
    exact (h.blk.ne hc (by decide)) rfl
end
/-- the blocks that are a sketch's own -/
def OwnS (kb db sb : Nat) (v : Value) (k : Nat) : Prop := k = kb ∨ Own db sb v k
theorem SkO.lt {w : World} {kb db sb : Nat} {v : Value} {d F : Nat} {lo hi : Int} {l : Row} (h : SkO w kb db sb v d F lo hi l) : ∀ k, OwnS kb db sb v k → k < w.heap.size := by
  rintro k (rfl | e)
  · exact h.blk.lt
  · exact h.dig.lt k e
theorem SkO.away {w w' : World} {kb db sb : Nat} {v : Value} {d F : Nat} {lo hi : Int} {l : Row} {G : Nat → Prop} (h : SkO w kb db sb v d F lo hi l) (hb : Away G w w') (hn : ∀ k, OwnS kb db sb v k → ¬ G k) : SkO w' kb db sb v d F lo hi l :=
  ⟨h.blk.away hb (hn _ (.inl rfl)), h.dig.away hb fun k hk => hn k (.inr hk)⟩
/-- a sketch that has turned -/
def SkTo (w : World) (kb db sb : Nat) (v : Value) (d F : Nat) (l' : Row) (W : World) : Prop :=
  ∃ lo' hi' sb' v', SkO W kb db sb' v' d F lo' hi' l' ∧ I64 lo' ∧ I64 hi' ∧ SubO w (Own db sb v) (Own db sb' v') ∧ Away (Own db sb v) w W
theorem SkTo.of {w W : World} {kb db sb : Nat} {v : Value} {d F : Nat} {lo hi : Int} {l l' : Row} (h : SkO w kb db sb v d F lo hi l) (k : DgTo w db sb v d F l' W) : SkTo w kb db sb v d F l' W := by
  obtain ⟨lo', hi', sb', v', D, i1, i2, S, A⟩ := k
  exact ⟨lo', hi', sb', v', ⟨h.blk.away A h.apart, D⟩, i1, i2, S, A⟩

theorem meth_put (db : Nat) (w : World) : (method 524 131 (.agg #[.pointer (some ⟨db, 0, none⟩)]) "Put").run Tryz.prog w = .ok (169, .pointer (some ⟨db, 0, none⟩)) w := by kernel_rfl
theorem meth_quant (db : Nat) (w : World) : (method 524 131 (.agg #[.pointer (some ⟨db, 0, none⟩)]) "Quantile").run Tryz.prog w = .ok (170, .pointer (some ⟨db, 0, none⟩)) w := by kernel_rfl
theorem meth_total (db : Nat) (w : World) : (method 524 131 (.agg #[.pointer (some ⟨db, 0, none⟩)]) "ogive/suite.total").run Tryz.prog w = .ok (254, .agg #[.pointer (some ⟨db, 0, none⟩)]) w := by kernel_rfl
theorem meth_join (db : Nat) (w : World) : (method 524 131 (.agg #[.pointer (some ⟨db, 0, none⟩)]) "ogive/suite.join").run Tryz.prog w = .ok (252, .agg #[.pointer (some ⟨db, 0, none⟩)]) w := by kernel_rfl
theorem meth_write (db : Nat) (w : World) : (method 524 131 (.agg #[.pointer (some ⟨db, 0, none⟩)]) "ogive/suite.write").run Tryz.prog w = .ok (255, .agg #[.pointer (some ⟨db, 0, none⟩)]) w := by kernel_rfl

theorem assert131 (ob : Nat) (w : World) : (Instr.typeAssert (.iface 131 (.agg #[.pointer (some ⟨ob, 0, none⟩)])) 74 131 false).run Tryz.prog w = .ok (.agg #[.pointer (some ⟨ob, 0, none⟩)]) w := by kernel_rfl
theorem field131 (ob : Nat) (w : World) : (Instr.field 131 (.agg #[.pointer (some ⟨ob, 0, none⟩)]) 0).run Tryz.prog w = .ok (.pointer (some ⟨ob, 0, none⟩)) w := by kernel_rfl

theorem sk_put (w : World) (kb db sb : Nat) (v : Value) (d F : Nat) (lo hi : Int) (l : Row) (h : SkO w kb db sb v d F lo hi l) (h1 : 1 ≤ d) (h2 : d ≤ 24) (h3 : 1 ≤ F) (h4 : F ≤ 64) (hlo : I64 lo) (hhi : I64 hi)
    (hn : Nodes d l) (hlen : l.length ≤ 3000) (htot : rowTotal l ≤ 900000) (x : Int) (hx : I64 x) (c : Nat) (hc : c ≤ 1000) :
    Calls Tryz.prog 18 #[.pointer (some ⟨kb, 0, none⟩), .int .i64 x, .int .u64 (c : Int)] w fun e w' => ∃ (code : Int) (l' : Row), e = .returned (.int .i64 code) ∧ SkTo w kb db sb v d F l' w' ∧
      ((code = 0 ∧ 0 ≤ x ∧ x < ((2 ^ d : Nat) : Int) ∧ 1 ≤ c ∧ Lifts d F (addL l (2 ^ d + x.toNat) c) l') ∨ (code ≠ 0 ∧ l' = l ∧ ¬ (0 ≤ x ∧ x < ((2 ^ d : Nat) : Int) ∧ 1 ≤ c))) := by
  obtain ⟨c0, c1, hl⟩ := h.cells
  have hp := dig_put w db sb v d F lo hi l h.dig h1 h2 h3 h4 hlo hhi hn hlen htot x hx c hc
  have hm := meth_put db
  have HH := Lib.hid h
  clear h
  go_enter Tryz.func18, Tryz.ntmps18
  go_wp2_with (go_at_call 169; refine hp.mono ?_; rintro e w1 ⟨code, l', rfl, D1, R1⟩)
  go_ret
  exact ⟨code, l', rfl, SkTo.of HH.out D1, R1⟩

theorem core_total (w : World) (db sb : Nat) (v : Value) (d F : Nat) (lo hi : Int) (l : Row) (h : DigO w db sb v d F lo hi l) :
    Calls Tryz.prog 254 #[.agg #[.pointer (some ⟨db, 0, none⟩)]] w fun e w' => e = .returned (.int .u64 (rowTotal l : Nat)) ∧ Below w.heap.size w w' := by
  have ht := dig_total (w.alloc (.cells #[.pointer (some ⟨db, 0, none⟩)] 131)) db sb v d F lo hi l (h.next ((Below.refl _ _).alloc (Nat.le_refl _) _))
  clear h
  go_enter Tryz.func254, Tryz.ntmps254
  go_wp2_with (go_at_call 116; refine ht.mono ?_; rintro e w1 ⟨rfl, rfl⟩)
  go_ret
  exact ⟨rfl, (Below.refl _ _).alloc (Nat.le_refl _) _⟩
theorem sk_total (w : World) (kb db sb : Nat) (v : Value) (d F : Nat) (lo hi : Int) (l : Row) (h : SkO w kb db sb v d F lo hi l) :
    Calls Tryz.prog 20 #[.pointer (some ⟨kb, 0, none⟩)] w fun e w' => e = .returned (.int .u64 (rowTotal l : Nat)) ∧ Below w.heap.size w w' := by
  obtain ⟨c0, c1, hl⟩ := h.cells
  have ht := core_total w db sb v d F lo hi l h.dig
  have hm := meth_total db
  clear h
  go_enter Tryz.func20, Tryz.ntmps20
  go_wp2_with (go_at_call 254; refine ht.mono ?_; rintro e w1 ⟨rfl, b1⟩)
  go_ret
  exact ⟨rfl, b1⟩

/-- two digests and a box -/
structure CjC (w : World) (db sb : Nat) (v : Value) (ob so : Nat) (u : Value) (d F : Nat) (lo hi lo2 hi2 : Int) (l m : Row) (b : Nat) (W : World) : Prop where
  jn : JnC w db sb v ob so u d F lo hi lo2 hi2 l m W
  p0 : W.cell? ⟨b, 0, none⟩ = some (.pointer (some ⟨db, 0, none⟩))
theorem CjC.drew {w W : World} {db sb : Nat} {v : Value} {ob so : Nat} {u : Value} {d F : Nat} {lo hi lo2 hi2 : Int} {l m : Row} {b : Nat} (h : CjC w db sb v ob so u d F lo hi lo2 hi2 l m b W) : CjC w db sb v ob so u d F lo hi lo2 hi2 l m b W.drew := ⟨h.jn.drew, h.p0⟩

set_option maxHeartbeats 4000000 in
theorem core_join (w : World) (db sb : Nat) (v : Value) (ob so : Nat) (u : Value) (d F : Nat) (lo hi lo2 hi2 : Int) (l m : Row) (h : DigO w db sb v d F lo hi l) (k : DigO w ob so u d F lo2 hi2 m) (hap : ∀ i, Own db sb v i → ¬ Own ob so u i)
    (h1 : 1 ≤ d) (h2 : d ≤ 24) (h3 : 1 ≤ F) (h4 : F ≤ 64) (hlo : I64 lo) (hhi : I64 hi) (hlo2 : I64 lo2) (hhi2 : I64 hi2)
    (hn : Nodes d l) (hn2 : Nodes d m) (hlen : l.length + m.length ≤ 3000) (htot : rowTotal l + rowTotal m ≤ 900000) :
    Calls Tryz.prog 252 #[.agg #[.pointer (some ⟨db, 0, none⟩)], .iface 131 (.agg #[.pointer (some ⟨ob, 0, none⟩)])] w fun e w' => ∃ l', e = .returned (.int .i64 0) ∧ DgTo w db sb v d F l' w' ∧ Lifts d F (joinL l m) l' := by
  have hb0 : Below w.heap.size w (w.alloc (.cells #[.pointer (some ⟨db, 0, none⟩)] 131)) := (Below.refl _ _).alloc (Nat.le_refl _) _
  have H : CjC w db sb v ob so u d F lo hi lo2 hi2 l m w.heap.size (w.alloc (.cells #[.pointer (some ⟨db, 0, none⟩)] 131)) := ⟨⟨h.next hb0, k.next hb0, hb0⟩, (Blk.newAt (T := 131) rfl).cell rfl⟩
  have hj := fun W (x : JnC w db sb v ob so u d F lo hi lo2 hi2 l m W) => dig_join W db sb v ob so u d F lo hi lo2 hi2 l m x.dig x.oth hap h1 h2 h3 h4 hlo hhi hlo2 hhi2 hn hn2 hlen htot
  have hta := assert131 ob
  have hfi := field131 ob
  clear h k
  go_enter Tryz.func252, Tryz.ntmps252
  go_upto_region 1 with fail
  refine wp_region_quiet_tail 5 (C := CjC w db sb v ob so u d F lo hi lo2 hi2 l m w.heap.size) (by kernel_rfl) (by kernel_rfl) H.drew ?_
  simp only [List.take_succ_cons, List.take_zero, List.drop_succ_cons, List.drop_zero]
  repeat (first | go_big_quiet_skip | (go_big_quiet_want; go_big_quiet_op; first | go_big_quiet_on | (refine quiet_const ?_; go_big_quiet_on)))
  go_big_quiet_want
  refine ⟨.pointer (some ⟨db, 0, none⟩), fun wx hx => ?_, ?_⟩
  · have p0 := hx.p0
    go_simp
  go_big_quiet_on
  simp only [Act.put, List.setIfInBounds_toArray, List.set_cons_zero, List.set_cons_succ]
  repeat (first | go_big_quiet_skip | (go_big_quiet_want; go_big_quiet_op; first | go_big_quiet_on | (refine quiet_const ?_; go_big_quiet_on)))
  refine wpQuiet_nil ?_
  intro w1 H1
  go_wp2_with (go_at_call 256; refine (hj _ H1.jn).mono ?_; rintro e w2 ⟨l', rfl, T2, L2⟩)
  go_ret
  obtain ⟨lo', hi', sb', v', D2, i1, i2, S2, A2⟩ := T2
  have b1 := H1.jn.below
  exact ⟨l', rfl, ⟨lo', hi', sb', v', D2, i1, i2, fun k hk => (S2 k hk).imp id fun h => Nat.le_trans b1.size h, (Away.of_below (F := Own db sb v) b1).trans' A2 (fun _ _ h => h) (fun _ _ h => h)⟩, L2⟩

/-- two sketches -/
structure SjC (w : World) (kb db sb : Nat) (v : Value) (nb ob so : Nat) (u : Value) (d F : Nat) (lo hi lo2 hi2 : Int) (l m : Row) (W : World) : Prop where
  sk : SkO W kb db sb v d F lo hi l
  oth : SkO W nb ob so u d F lo2 hi2 m
  below : Below w.heap.size w W
theorem SjC.drew {w W : World} {kb db sb : Nat} {v : Value} {nb ob so : Nat} {u : Value} {d F : Nat} {lo hi lo2 hi2 : Int} {l m : Row} (h : SjC w kb db sb v nb ob so u d F lo hi lo2 hi2 l m W) : SjC w kb db sb v nb ob so u d F lo hi lo2 hi2 l m W.drew := ⟨h.sk.drew, h.oth.drew, h.below.drew⟩

set_option maxHeartbeats 4000000 in
theorem sk_join (w : World) (kb db sb : Nat) (v : Value) (nb ob so : Nat) (u : Value) (d F : Nat) (lo hi lo2 hi2 : Int) (l m : Row) (h : SkO w kb db sb v d F lo hi l) (k : SkO w nb ob so u d F lo2 hi2 m) (hap : ∀ i, Own db sb v i → ¬ Own ob so u i)
    (h1 : 1 ≤ d) (h2 : d ≤ 24) (h3 : 1 ≤ F) (h4 : F ≤ 64) (hlo : I64 lo) (hhi : I64 hi) (hlo2 : I64 lo2) (hhi2 : I64 hi2)
    (hn : Nodes d l) (hn2 : Nodes d m) (hlen : l.length + m.length ≤ 3000) (htot : rowTotal l + rowTotal m ≤ 900000) :
    Calls Tryz.prog 22 #[.pointer (some ⟨kb, 0, none⟩), .pointer (some ⟨nb, 0, none⟩)] w fun e w' => ∃ l', e = .returned (.int .i64 0) ∧ SkTo w kb db sb v d F l' w' ∧ Lifts d F (joinL l m) l' := by
  have H : SjC w kb db sb v nb ob so u d F lo hi lo2 hi2 l m w := ⟨h, k, Below.refl _ _⟩
  have hj := fun W (x : SkO W kb db sb v d F lo hi l) (y : SkO W nb ob so u d F lo2 hi2 m) => core_join W db sb v ob so u d F lo hi lo2 hi2 l m x.dig y.dig hap h1 h2 h3 h4 hlo hhi hlo2 hhi2 hn hn2 hlen htot
  have hm := meth_join db
  clear h k
  go_enter Tryz.func22, Tryz.ntmps22
  go_upto_region 3 with fail
  refine wp_region_quiet_litC (C := SjC w kb db sb v nb ob so u d F lo hi lo2 hi2 l m) (by kernel_rfl) (by kernel_rfl) H.drew ?_
  repeat (first | go_big_quiet_skip | (go_big_quiet_want; go_big_quiet_op; first | go_big_quiet_on | (refine quiet_const ?_; go_big_quiet_on)))
  go_big_quiet_want
  refine ⟨.int .i64 3, fun wx hx => ?_, ?_⟩
  · obtain ⟨c0, c1, hl⟩ := hx.sk.cells
    go_simp
  go_big_quiet_on
  simp only [Act.put, List.setIfInBounds_toArray, List.set_cons_zero, List.set_cons_succ]
  repeat (first | go_big_quiet_skip | (go_big_quiet_want; go_big_quiet_op; first | go_big_quiet_on | (refine quiet_const ?_; go_big_quiet_on)))
  go_big_quiet_want
  refine ⟨.int .i64 3, fun wx hx => ?_, ?_⟩
  · obtain ⟨c0, c1, hl⟩ := hx.oth.cells
    go_simp
  go_big_quiet_on
  simp only [Act.put, List.setIfInBounds_toArray, List.set_cons_zero, List.set_cons_succ]
  repeat (first | go_big_quiet_skip | (go_big_quiet_want; go_big_quiet_op; first | go_big_quiet_on | (refine quiet_const ?_; go_big_quiet_on)))
  refine wpQuiet_nil ?_
  intro w1 H1
  go_upto_region 5 with fail
  refine wp_region_quiet_tail 10 (C := SjC w kb db sb v nb ob so u d F lo hi lo2 hi2 l m) (by kernel_rfl) (by kernel_rfl) H1.drew ?_
  simp only [List.take_succ_cons, List.take_zero, List.drop_succ_cons, List.drop_zero]
  repeat (first | go_big_quiet_skip | (go_big_quiet_want; go_big_quiet_op; first | go_big_quiet_on | (refine quiet_const ?_; go_big_quiet_on)))
  go_big_quiet_want
  refine ⟨.iface 131 (.agg #[.pointer (some ⟨db, 0, none⟩)]), fun wx hx => ?_, ?_⟩
  · obtain ⟨c0, c1, hl⟩ := hx.sk.cells
    go_simp
  go_big_quiet_on
  simp only [Act.put, List.setIfInBounds_toArray, List.set_cons_zero, List.set_cons_succ]
  repeat (first | go_big_quiet_skip | (go_big_quiet_want; go_big_quiet_op; first | go_big_quiet_on | (refine quiet_const ?_; go_big_quiet_on)))
  go_big_quiet_want
  refine ⟨.iface 131 (.agg #[.pointer (some ⟨ob, 0, none⟩)]), fun wx hx => ?_, ?_⟩
  · obtain ⟨c0, c1, hl⟩ := hx.oth.cells
    go_simp
  go_big_quiet_on
  simp only [Act.put, List.setIfInBounds_toArray, List.set_cons_zero, List.set_cons_succ]
  repeat (first | go_big_quiet_skip | (go_big_quiet_want; go_big_quiet_op; first | go_big_quiet_on | (refine quiet_const ?_; go_big_quiet_on)))
  refine wpQuiet_nil ?_
  intro w2 H2
  go_wp2_with (go_at_call 252; refine (hj _ H2.sk H2.oth).mono ?_; rintro e w3 ⟨l', rfl, T3, L3⟩)
  go_ret
  obtain ⟨lo', hi', sb', v', K3, i1, i2, S3, A3⟩ := SkTo.of H2.sk T3
  have b1 := H2.below
  exact ⟨l', rfl, ⟨lo', hi', sb', v', K3, i1, i2, fun k hk => (S3 k hk).imp id fun h => Nat.le_trans b1.size h, (Away.of_below (F := Own db sb v) b1).trans' A3 (fun _ _ h => h) (fun _ _ h => h)⟩, L3⟩

theorem sk_quant (w : World) (kb db sb : Nat) (v : Value) (d F : Nat) (lo hi : Int) (l : Row) (h : SkO w kb db sb v d F lo hi l) (h1 : 1 ≤ d) (h2 : d ≤ 24) (hn : Nodes d l) (hlen : l.length ≤ 4000) (ht0 : 1 ≤ rowTotal l) (ht1 : rowTotal l ≤ 1000000)
    (num den : Nat) (hg : num ≤ den) (hg1 : 1 ≤ den) (hg2 : den < 18446744073709551616) :
    Calls Tryz.prog 12 #[.pointer (some ⟨kb, 0, none⟩), .agg #[.int .u64 (num : Int), .int .u64 (den : Int)]] w fun e w' => ∃ told : Row, told.Perm l ∧ InOrder d told ∧ e = .returned (.tuple #[.int .i64 (walkQ d (placeN num (rowTotal l) den) 0 0 told), .int .i64 0]) ∧ Below w.heap.size w w' := by
  have hb0 : Below w.heap.size w (w.alloc (.cells #[.int .u64 (num : Int), .int .u64 (den : Int)] 25)) := (Below.refl _ _).alloc (Nat.le_refl _) _
  have H0 := (h.next hb0).drew
  have hq := dig_quant (w.alloc (.cells #[.int .u64 (num : Int), .int .u64 (den : Int)] 25)).drew db sb v d F lo hi l H0.dig h1 h2 hn hlen ht0 ht1 num den hg hg1 hg2
  obtain ⟨c0, c1, hl⟩ := h.cells
  have hm := meth_quant db
  clear h H0 hg hg1 hg2
  go_enter Tryz.func12, Tryz.ntmps12
  go_upto_region 3 with fail
  go_region_with (go_at_call 170; refine hq.mono ?_; rintro e w3 ⟨told, p1, p2, rfl, b3⟩)
  all_goals (go_wp2_with fail)
  all_goals go_ret2
  all_goals (exact ⟨told, p1, p2, rfl, hb0.drew.trans (b3.mono (by simp))⟩)
end Go.Proofs.YtbejdajkkoapgaaGreatDoor

/-
  Contracts of digestCore.write, Encode, bytes where the kind is the digest's. Conditions: the sketch is there, its row is short.
-/
set_option linter.unusedVariables false
set_option linter.unusedSimpArgs false
set_option maxRecDepth 100000
namespace Go.Proofs.YtbejdajkkoapgaaGreatDoor
open Go.RowKit Go.Lib

theorem NaS.next {B : Nat} {w : World} {qb : Nat} {A : Option Addr} {c : Nat} {out : List UInt8} {wr w2 : World} (h : NaS B w qb A c out wr) (hB : B ≤ w.heap.size) (b : Below wr.heap.size wr w2) : NaS B w qb A c out w2 :=
  ⟨h.qu.next b, h.below.trans (b.mono (Nat.le_trans hB h.below.size)), fun b' cs T h5 h109 hb => (h.keep b' cs T h5 h109 hb).below b (h.keep b' cs T h5 h109 hb).lt⟩

/-- a quill that writes, ahead of which a digest lies -/
structure WrC (B : Nat) (w : World) (db sb : Nat) (v : Value) (d F : Nat) (lo hi : Int) (l : Row) (qb : Nat) (A : Option Addr) (c : Nat) (out : List UInt8) (b : Nat) (W : World) : Prop where
  nas : NaS B w qb A c out W
  dig : DigO w db sb v d F lo hi l
  blk : Blk W b #[.pointer (some ⟨db, 0, none⟩)] 131
  hB : B ≤ w.heap.size
  own : ∀ k, Own db sb v k → k < B
section
variable {B : Nat} {w : World} {db sb : Nat} {v : Value} {d F : Nat} {lo hi : Int} {l : Row} {qb : Nat} {A : Option Addr} {c : Nat} {out : List UInt8} {b : Nat} {W W' : World}
theorem WrC.digW (h : WrC B w db sb v d F lo hi l qb A c out b W) : DigO W db sb v d F lo hi l := by
  have ha : Away (fun k => B ≤ k) w W := ⟨h.nas.below.os, h.nas.below.tape, h.nas.below.output, h.nas.below.size, fun k _ hn => h.nas.below.block k (by omega)⟩
  exact h.dig.away ha fun k hk => by have := h.own k hk; omega
theorem WrC.next (h : WrC B w db sb v d F lo hi l qb A c out b W) (hb : Below W.heap.size W W') : WrC B w db sb v d F lo hi l qb A c out b W' := ⟨h.nas.next h.hB hb, h.dig, h.blk.below hb h.blk.lt, h.hB, h.own⟩
theorem WrC.drew (h : WrC B w db sb v d F lo hi l qb A c out b W) : WrC B w db sb v d F lo hi l qb A c out b W.drew := ⟨h.nas.drew, h.dig, h.blk.drew, h.hB, h.own⟩
theorem WrC.put {A' : Option Addr} {c' : Nat} {out' : List UInt8} (h : WrC B w db sb v d F lo hi l qb A c out b W) (k : NaS B W qb A' c' out' W') : WrC B w db sb v d F lo hi l qb A' c' out' b W' :=
  ⟨h.nas.trans k, h.dig, k.keep _ _ _ (by decide) (by decide) h.blk, h.hB, h.own⟩
theorem WrC.cell (h : WrC B w db sb v d F lo hi l qb A c out b W) : W.cell? ⟨b, 0, none⟩ = some (.pointer (some ⟨db, 0, none⟩)) := h.blk.cell rfl
theorem WrC.size (h : WrC B w db sb v d F lo hi l qb A c out b W) : B ≤ W.heap.size := Nat.le_trans h.hB h.nas.below.size
end

theorem dig_ends2 (w : World) (db sb : Nat) (v : Value) (d F : Nat) (lo hi : Int) (l : Row) (h : DigO w db sb v d F lo hi l) (hlo : I64 lo) (hhi : I64 hi) :
    Calls Tryz.prog 251 #[.pointer (some ⟨db, 0, none⟩)] w fun e w' => Below w.heap.size w w' ∧ ∃ (a b : Int) (t : Bool), I64 a ∧ I64 b ∧ e = .returned (.tuple #[.int .i64 a, .int .i64 b, .bool t]) :=
  (dig_ends w db sb v d F lo hi l h).mono fun _ _ hh => ⟨hh.1, hh.2.elim (fun e => ⟨0, 0, false, by unfold I64; omega, by unfold I64; omega, e⟩) (fun e => ⟨lo, hi, true, hlo, hhi, e⟩)⟩
theorem field51_0 (u v : Value) (w : World) : (Instr.field 51 (.agg #[u, v]) 0).run Tryz.prog w = .ok u w := by kernel_rfl
theorem field51_1 (u v : Value) (w : World) : (Instr.field 51 (.agg #[u, v]) 1).run Tryz.prog w = .ok v w := by kernel_rfl
theorem ints2 (a b : Int) : intsB [a, b] = natB (zigN a) ++ natB (zigN b) := by simp [intsB]
theorem nats2 (a b : Nat) : [a, b].flatMap natB = natB a ++ natB b := by simp

set_option maxHeartbeats 4000000 in
theorem core_write (B : Nat) (w : World) (db sb : Nat) (v : Value) (d F : Nat) (lo hi : Int) (l : Row) (qb : Nat) (A : Option Addr) (c : Nat) (hq : QuO B w qb (.slice A ([] : List UInt8).length c) []) (hB : B ≤ w.heap.size) (h : DigO w db sb v d F lo hi l) (hown : ∀ k, Own db sb v k → k < B)
    (hd : d ≤ 24) (hF : F ≤ 64) (hlo : I64 lo) (hhi : I64 hi) (hlen : l.length ≤ 3000) (hn : Nodes d l) (htot : rowTotal l ≤ 900000) :
    Calls Tryz.prog 255 #[.agg #[.pointer (some ⟨db, 0, none⟩)], .pointer (some ⟨qb, 0, none⟩)] w fun e w' => e = .returned (.tuple #[]) ∧ ∃ a b A' c', I64 a ∧ I64 b ∧ NaS B w qb A' c' (loadB d F (zigN a) (zigN b) l) w' := by
  have S0 : NaS B w qb A c [] w := NaS.start hq
  have C1 : WrC B w db sb v d F lo hi l qb A c [] w.heap.size (w.alloc (.cells #[.pointer (some ⟨db, 0, none⟩)] 131)) := ⟨S0.alloc hB _, h, Blk.newAt rfl, hB, hown⟩
  have hpw : 2 ^ d ≤ 16777216 := Nat.pow_le_pow_right (n := 2) (by decide) hd
  have hrow : Rising l ∧ ∀ x ∈ l, x.1 < 9000000000000000000 ∧ x.2 < 18446744073709551616 := ⟨h.strip.rising, fun x hx => by
    have h1 := hn x hx
    have h2 := rowAt_mem h.strip.rising hx
    have h3 := rowAt_le_total l x.1
    omega⟩
  have HR := Lib.hid hrow
  clear h S0 hown hn hrow hpw
  go_enter Tryz.func255, Tryz.ntmps255
  go_wp2_with fail
  generalize w.heap.size = pb at C1 ⊢
  generalize w.alloc (.cells #[.pointer (some ⟨db, 0, none⟩)] 131) = W0 at C1 ⊢
  refine (dig_ends2 _ db sb v d F lo hi l C1.digW hlo hhi).mono ?_
  rintro e w1 ⟨b1, a, b, t, ia, ib, rfl⟩
  have C2 := C1.next b1
  have k0 := C2.cell
  clear b1 C1
  go_upto_region 2 with fail
  have C3 := C2.drew
  have c3 := C3.cell
  have hcfg := fun W (k : WrC B w db sb v d F lo hi l qb A c [] pb W) => dig_config W db sb v d F lo hi l k.digW
  have fe0 := fun W => field51_0 (.int .i64 (d : Int)) (.int .i64 (F : Int)) W
  have fe1 := fun W => field51_1 (.int .i64 (d : Int)) (.int .i64 (F : Int)) W
  have hnat := fun W (k : WrC B w db sb v d F lo hi l qb A c [] pb W) => qu_nat B (W.alloc (.cells (u64C [d, F]) 23)) qb W.heap.size 2 A c [] [d, F] (k.nas.qu.alloc _) (by have := k.size; simp; omega) (Blk.newAt rfl)
    (fun n hn => by simp at hn; omega) (by have := natB_len10 d (by omega); have := natB_len10 F (by omega); simp; omega) (by simp)
  have hwd : IntKind.u64.wrap (d : Int) = (d : Int) := by rw [IntKind.wrap_u64]; omega
  have hwF : IntKind.u64.wrap (F : Int) = (F : Int) := by rw [IntKind.wrap_u64]; omega
  clear C2 k0
  rename_i KK
  go_region_with (first
    | (go_at_call 257; refine (hcfg _ (by assumption)).mono ?_; rintro e w2 ⟨b2, rfl⟩; have H2 := WrC.next (h := by assumption) b2; have k2 := H2.cell; clear b2)
    | (go_at_call 62; refine (hnat _ (by assumption)).mono ?_; rintro e w5 ⟨rfl, A5, k5, S5⟩; have H5 := WrC.put (WrC.next (h := by assumption) ((Below.refl _ _).alloc (Nat.le_refl _) _)) S5; clear S5))
  all_goals (
    clear hcfg hnat fe0 fe1 c3 C3
    refine KK _ _ ?_
    have k10 := natB_len10 d (by omega)
    have k11 := natB_len10 F (by omega)
    have k12 := natB_len10 (zigN a) (zigN_eq a ia).2
    have k13 := natB_len10 (zigN b) (zigN_eq b ib).2
    rw [nats2, List.nil_append] at H5
    have hint := qu_int B (w5.alloc (.cells (i64C [a, b]) 2)) qb w5.heap.size 2 A5 k5 (natB d ++ natB F) [a, b] (H5.nas.qu.alloc _) (by have := H5.size; simp; omega) (Blk.newAt rfl)
      (fun x hx => by simp at hx; rcases hx with rfl | rfl; exact ia; exact ib) (by simp; omega) (by simp)
    go_wp2_with fail
    refine hint.mono ?_
    rintro e w6 ⟨rfl, A6, k6, S6⟩
    have H6 := (H5.next ((Below.refl _ _).alloc (Nat.le_refl _) _)).put S6
    have c6 := H6.cell
    clear hint S6 H5
    rw [ints2] at H6
    go_wp2_with fail
    refine (dig_nodes _ db sb v d F lo hi l H6.digW (by omega)).mono ?_
    rintro e w7 ⟨u, rfl, o7, b7⟩
    have H7 := H6.next b7
    clear b7 H6 c6
    have hput := put_any B w7 qb A6 k6 (natB d ++ natB F ++ (natB (zigN a) ++ natB (zigN b))) u _ l H7.nas.qu H7.size o7 (by omega) HR.out.1 HR.out.2 (by simp; omega)
    go_wp2_with fail
    refine hput.mono ?_
    rintro e w8 ⟨rfl, A8, k8, S8⟩
    have H8 := Lib.hid (H7.put S8)
    clear hput S8 H7
    go_wp2_with fail
    go_end0
    refine ⟨rfl, a, b, A8, k8, ia, ib, ?_⟩
    have := H8.out.nas
    unfold loadB
    simpa only [List.append_assoc] using this)
end Go.Proofs.YtbejdajkkoapgaaGreatDoor

/-
  Contracts of suite.Encode and bytes where the kind is the digest's. Conditions: the sketch is there, its row is short.
-/
set_option linter.unusedVariables false
set_option linter.unusedSimpArgs false
set_option maxRecDepth 100000
namespace Go.Proofs.YtbejdajkkoapgaaGreatDoor
open Go.RowKit Go.Lib

/-- a row whose nodes can be is short as bytes -/
theorem loadB_short (d F : Nat) (a b : Int) (l : Row) (hd : d ≤ 24) (hF : F ≤ 64) (ha : I64 a) (hb : I64 b) (hlen : l.length ≤ 3000) (hn : Nodes d l) (hr : Rising l) (htot : rowTotal l ≤ 900000) :
    5 ≤ (loadB d F (zigN a) (zigN b) l).length ∧ (loadB d F (zigN a) (zigN b) l).length ≤ 100000 := by
  have hpw : 2 ^ d ≤ 16777216 := Nat.pow_le_pow_right (n := 2) (by decide) hd
  refine loadB_len d F _ _ l (by omega) (by omega) (zigN_eq a ha).2 (zigN_eq b hb).2 (by omega) fun i hi => ?_
  have hix : ∀ j, ixAt l j < 33554432 := fun j => by
    by_cases hj : j < l.length
    · have := (hn _ (List.getElem_mem hj)).2
      rw [ixAt_get l j hj]; omega
    · unfold ixAt; rw [List.getD_eq_getElem?_getD, List.getElem?_eq_none (by omega)]; simp
  have h1 := stepN_le l i hi
  have h2 := hix 0
  have h3 := hix i
  have h4 := rowAt_mem hr (List.getElem_mem hi)
  have h5 := rowAt_le_total l (l[i]'hi).1
  rw [ctAt_get l i hi]
  omega

theorem SkO.own_lt {w : World} {kb db sb : Nat} {v : Value} {d F : Nat} {lo hi : Int} {l : Row} (h : SkO w kb db sb v d F lo hi l) : ∀ k, Own db sb v k → k < w.heap.size := h.dig.lt

set_option maxHeartbeats 4000000 in
theorem sk_encode (w : World) (kb db sb : Nat) (v : Value) (d F : Nat) (lo hi : Int) (l : Row) (h : SkO w kb db sb v d F lo hi l) (hd : d ≤ 24) (hF : F ≤ 64) (hlo : I64 lo) (hhi : I64 hi) (hlen : l.length ≤ 3000) (hn : Nodes d l) (htot : rowTotal l ≤ 900000) :
    Calls Tryz.prog 26 #[.pointer (some ⟨kb, 0, none⟩)] w fun e w' => ∃ a b, I64 a ∧ I64 b ∧ e = .returned (.tuple #[.string (bs (frameB 3 (loadB d F (zigN a) (zigN b) l))), .int .i64 0]) ∧ Below w.heap.size w w' := by
  have hsh := fun a b ha hb => loadB_short d F a b l hd hF ha hb hlen hn h.dig.strip.rising htot
  have hq := QuO.fresh w
  have b0 : Below w.heap.size w (w.alloc (.cells #[.slice none 0 0] 109)) := (Below.refl _ _).alloc (Nat.le_refl _) _
  have h0 := h.next b0
  have hw := core_write w.heap.size (w.alloc (.cells #[.slice none 0 0] 109)) db sb v d F lo hi l w.heap.size none 0 hq (by simp) h0.dig h.own_lt hd hF hlo hhi hlen hn htot
  obtain ⟨c0, c1, hl⟩ := h.cells
  have hm := meth_write db
  have HH := Lib.hid h
  have hne : kb ≠ w.heap.size := by omega
  clear h h0 hq
  go_enter Tryz.func26, Tryz.ntmps26
  go_wp2_with fail
  refine hw.mono ?_
  rintro e w1 ⟨rfl, a, b, A1, k1, ia, ib, S1⟩
  have B1 : Below w.heap.size w w1 := b0.trans S1.below
  have HK := HH.out.next B1
  obtain ⟨d0, d1, hl1⟩ := HK.cells
  have ht := qu_text w.heap.size w1.drew w.heap.size _ _ S1.drew.qu
  have hcl := close_any w1.drew 3 (loadB d F (zigN a) (zigN b) l) (by have := hsh a b ia ib; omega)
  clear hw c0 c1 S1 HK
  go_upto_region 5 with fail
  rename_i KK
  go_region_with (first | (go_at_call 40; refine ht.mono ?_; rintro e w2 ⟨rfl, rfl⟩) | (go_at_call 39; refine hcl.mono ?_; rintro e w3 ⟨rfl, b3⟩))
  all_goals (
    refine KK _ _ ?_
    clear ht hcl hm
    go_wp2_with fail
    go_ret2
    exact ⟨a, b, ia, ib, rfl, B1.drew.trans (b3.mono B1.size)⟩)

theorem sk_bytes (w : World) (kb db sb : Nat) (v : Value) (d F : Nat) (lo hi : Int) (l : Row) (h : SkO w kb db sb v d F lo hi l) (hd : d ≤ 24) (hF : F ≤ 64) (hlo : I64 lo) (hhi : I64 hi) (hlen : l.length ≤ 3000) (hn : Nodes d l) (htot : rowTotal l ≤ 900000) :
    Calls Tryz.prog 14 #[.pointer (some ⟨kb, 0, none⟩)] w fun e w' => ∃ a b, I64 a ∧ I64 b ∧ e = .returned (.string (bs (frameB 3 (loadB d F (zigN a) (zigN b) l)))) ∧ Below w.heap.size w w' := by
  have he := sk_encode w kb db sb v d F lo hi l h hd hF hlo hhi hlen hn htot
  clear h
  go_enter Tryz.func14, Tryz.ntmps14
  go_wp2_with fail
  refine he.mono ?_
  rintro e w1 ⟨a, b, ia, ib, rfl, b1⟩
  clear he
  go_wp2_with fail
  go_ret
  exact ⟨a, b, ia, ib, rfl, b1⟩
end Go.Proofs.YtbejdajkkoapgaaGreatDoor

