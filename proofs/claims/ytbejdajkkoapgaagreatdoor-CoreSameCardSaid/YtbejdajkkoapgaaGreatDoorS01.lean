/-
  Several texts in one: J04, J01. What each proves, and on which conditions, stands at its head. Conditions: stated in each.
-/
import Derived.Test.YtbejdajkkoapgaaGreatDoorRows
import Derived.WalkKit
import Derived.WalkSpells
import Derived.WalkLawsBesides
import Derived.Deep.Light
import Derived.Lib.Small
import Derived.Lib.Walk
import Derived.Lib.BitFns
import Derived.Lib.Hide
import Derived.Lib.Strings
import Derived.Lib.Slices
import Derived.BigQuiet
import Derived.Deep.QuietTactic
import Derived.Deep.RegionHeld3
import Derived.Below
import Derived.Lib.Mul64
import Derived.Laws.Bits64b
import Derived.Laws.StructEq
import Derived.LoopN
/-
  Several texts in one: Len, TrFns, TrRange. What each proves, and on which conditions, stands at its head. Conditions: stated in each.
-/
/-
  Contract of Len64 of the library's math bits: how many bits a number has; the world is as it was. Conditions: the number fits uint64.
-/
namespace Go.Proofs.YtbejdajkkoapgaaGreatDoor
open Go.RowKit Go.Lib

set_option maxRecDepth 100000 in
theorem len8tab_size : (Lib.len8tab.size : Int) = 256 := by
  have : Lib.len8tab.size = 256 := by decide
  omega
theorem wrap_add (k a b : Nat) (hk : k ≤ 56) (ha : a ≤ 8) (hb : b = k + a) : RowKit.wrap64 ((k : Int) + RowKit.wrap64 (a : Int)) = (b : Int) := by
  unfold RowKit.wrap64
  omega
theorem wrap_wrap (a : Nat) (ha : a ≤ 8) : RowKit.wrap64 (RowKit.wrap64 (a : Int)) = (a : Int) := by
  unfold RowKit.wrap64
  omega
theorem len8_get (y : Int) (h : y.toNat < Lib.len8tab.size) : ((Lib.len8tab[y.toNat]'h).toNat : Int) = Lib.len8 y := by
  unfold Lib.len8
  rw [getElem?_pos Lib.len8tab y.toNat h]
  rfl

set_option maxHeartbeats 4000000 in
set_option maxRecDepth 1000000 in
theorem len64_any (x : Int) (w : World) (h0 : 0 ≤ x) (h1 : x ≤ 18446744073709551615) :
    Calls Tryz.prog 144 #[.int .u64 x] w fun e w' => e = .returned (.int .i64 (Lib.bitLen x.toNat)) ∧ w = w' := by
  go_enter Tryz.func144, Tryz.ntmps144
  go_wp2
  all_goals first
    | (go_ret; refine ⟨congrArg Ending.returned (congrArg (Value.int IntKind.i64) ?_), rfl⟩; go_light)
    | (exfalso
       go_light
       have hs := len8tab_size
       omega)
  all_goals first
    | (rw [len8_get (x / 4294967296 / 65536 / 256) _, Lib.len8_of (x / 4294967296 / 65536 / 256) (by omega) (by omega)]
       have e : (x / 4294967296 / 65536 / 256).toNat = x.toNat / 72057594037927936 := by omega
       have l := Lib.bitLen_le8' (x / 4294967296 / 65536 / 256) (by omega) (by omega)
       have s := Lib.bitLen_shift56 x.toNat (by omega) (by omega)
       rw [e] at l ⊢
       exact wrap_add 56 _ _ (by decide) l s)
    | (rw [len8_get (x / 4294967296 / 65536) _, Lib.len8_of (x / 4294967296 / 65536) (by omega) (by omega)]
       have e : (x / 4294967296 / 65536).toNat = x.toNat / 281474976710656 := by omega
       have l := Lib.bitLen_le8' (x / 4294967296 / 65536) (by omega) (by omega)
       have s := Lib.bitLen_shift48 x.toNat (by omega) (by omega)
       rw [e] at l ⊢
       exact wrap_add 48 _ _ (by decide) l s)
    | (rw [len8_get (x / 4294967296 / 256) _, Lib.len8_of (x / 4294967296 / 256) (by omega) (by omega)]
       have e : (x / 4294967296 / 256).toNat = x.toNat / 1099511627776 := by omega
       have l := Lib.bitLen_le8' (x / 4294967296 / 256) (by omega) (by omega)
       have s := Lib.bitLen_shift40 x.toNat (by omega) (by omega)
       rw [e] at l ⊢
       exact wrap_add 40 _ _ (by decide) l s)
    | (rw [len8_get (x / 4294967296) _, Lib.len8_of (x / 4294967296) (by omega) (by omega)]
       have e : (x / 4294967296).toNat = x.toNat / 4294967296 := by omega
       have l := Lib.bitLen_le8' (x / 4294967296) (by omega) (by omega)
       have s := Lib.bitLen_shift32 x.toNat (by omega) (by omega)
       rw [e] at l ⊢
       exact wrap_add 32 _ _ (by decide) l s)
    | (rw [len8_get (x / 65536 / 256) _, Lib.len8_of (x / 65536 / 256) (by omega) (by omega)]
       have e : (x / 65536 / 256).toNat = x.toNat / 16777216 := by omega
       have l := Lib.bitLen_le8' (x / 65536 / 256) (by omega) (by omega)
       have s := Lib.bitLen_shift24 x.toNat (by omega) (by omega)
       rw [e] at l ⊢
       exact wrap_add 24 _ _ (by decide) l s)
    | (rw [len8_get (x / 65536) _, Lib.len8_of (x / 65536) (by omega) (by omega)]
       have e : (x / 65536).toNat = x.toNat / 65536 := by omega
       have l := Lib.bitLen_le8' (x / 65536) (by omega) (by omega)
       have s := Lib.bitLen_shift16 x.toNat (by omega) (by omega)
       rw [e] at l ⊢
       exact wrap_add 16 _ _ (by decide) l s)
    | (rw [len8_get (x / 256) _, Lib.len8_of (x / 256) (by omega) (by omega)]
       have e : (x / 256).toNat = x.toNat / 256 := by omega
       have l := Lib.bitLen_le8' (x / 256) (by omega) (by omega)
       have s := Lib.bitLen_shift8 x.toNat (by omega) (by omega)
       rw [e] at l ⊢
       exact wrap_add 8 _ _ (by decide) l s)
    | (rw [len8_get x _, Lib.len8_of x (by omega) (by omega)]
       have l := Lib.bitLen_le8' x (by omega) (by omega)
       exact wrap_wrap _ l)

end Go.Proofs.YtbejdajkkoapgaaGreatDoor

/-
  Contracts of the small functions of package tree: what each returns, as plain integers; below the heap's size at the call nothing in memory changes. Conditions: the depth lies from 1 to 24, each number fits its kind.
-/
namespace Go.Proofs.YtbejdajkkoapgaaGreatDoor.Tr
open Go.RowKit Go.Lib

end Go.Proofs.YtbejdajkkoapgaaGreatDoor.Tr

/-
  Contracts of Range, Above and Before of package tree: what each returns, as plain integers; below the heap's size at the call nothing in memory changes. Conditions: the depth lies from 1 to 24, each number fits its kind.
-/
namespace Go.Proofs.YtbejdajkkoapgaaGreatDoor.Tr
open Go.RowKit Go.Lib

end Go.Proofs.YtbejdajkkoapgaaGreatDoor.Tr

/-
  Several texts in one: Row, Qd, Hp, SgFns, WdWide, WdTimes. What each proves, and on which conditions, stands at its head. Conditions: stated in each.
-/
/-
  Rows of pairs (an index, a count) whose indexes rise: what adding, parting and summing does to them. Plain; no program. Conditions: none.
-/
set_option linter.unusedVariables false
set_option linter.unusedSimpArgs false
namespace Go.Proofs.YtbejdajkkoapgaaGreatDoor

abbrev Row := List (Nat × Nat)

/-- how many there are of the indexes that meet p -/
def sumIf (p : Nat → Bool) : Row → Nat
  | [] => 0
  | x :: l => (if p x.1 then x.2 else 0) + sumIf p l
def rowTotal (l : Row) : Nat := sumIf (fun _ => true) l
def rowAt (l : Row) (v : Nat) : Nat := sumIf (fun i => i == v) l
/-- a row with so many more of an index -/
def addL : Row → Nat → Nat → Row
  | [], v, c => [(v, c)]
  | x :: l, v, c => if x.1 < v then x :: addL l v c else if x.1 = v then (x.1, x.2 + c) :: l else (v, c) :: x :: l
/-- where an index stands, or would -/
def posL : Row → Nat → Nat
  | [], _ => 0
  | x :: l, v => if x.1 < v then posL l v + 1 else 0
/-- indexes rise -/
def Rising : Row → Prop
  | [] => True
  | x :: l => (∀ y ∈ l, x.1 < y.1) ∧ Rising l
/-- no count is nought -/
def Full (l : Row) : Prop := ∀ x ∈ l, 1 ≤ x.2

theorem sumIf_cons (p : Nat → Bool) (x : Nat × Nat) (l : Row) : sumIf p (x :: l) = (if p x.1 then x.2 else 0) + sumIf p l := rfl
theorem sumIf_add (p : Nat → Bool) (l : Row) (v c : Nat) : sumIf p (addL l v c) = sumIf p l + (if p v then c else 0) := by
  induction l with
  | nil => simp [addL, sumIf]
  | cons x l ih =>
    unfold addL
    split
    · rw [sumIf_cons, sumIf_cons, ih]; omega
    · split
      · rename_i h; rw [sumIf_cons, sumIf_cons, ← h]; split <;> omega
      · rw [sumIf_cons, sumIf_cons]; simp only; omega
theorem sumIf_append (p : Nat → Bool) (l m : Row) : sumIf p (l ++ m) = sumIf p l + sumIf p m := by
  induction l with
  | nil => simp [sumIf]
  | cons x l ih => rw [List.cons_append, sumIf_cons, sumIf_cons, ih]; omega
theorem sumIf_le (p q : Nat → Bool) (l : Row) (h : ∀ x ∈ l, p x.1 = true → q x.1 = true) : sumIf p l ≤ sumIf q l := by
  induction l with
  | nil => exact Nat.le_refl _
  | cons x l ih =>
    have h1 := ih fun y hy => h y (List.mem_cons_of_mem _ hy)
    have h2 := h x List.mem_cons_self
    rw [sumIf_cons, sumIf_cons]
    cases hp : p x.1
    · simp; omega
    · rw [h2 hp]; simp; omega
theorem sumIf_none (p : Nat → Bool) (l : Row) (h : ∀ x ∈ l, p x.1 = false) : sumIf p l = 0 := by
  induction l with
  | nil => rfl
  | cons x l ih => rw [sumIf_cons, ih fun y hy => h y (List.mem_cons_of_mem _ hy), h x List.mem_cons_self]; rfl
theorem mem_addL {l : Row} {v c : Nat} {x : Nat × Nat} (h : x ∈ addL l v c) : x ∈ l ∨ x.1 = v := by
  induction l with
  | nil => simp [addL] at h; exact .inr (by rw [h])
  | cons y l ih =>
    unfold addL at h
    split at h
    · rcases List.mem_cons.1 h with rfl | h
      · exact .inl List.mem_cons_self
      · rcases ih h with h | h
        · exact .inl (List.mem_cons_of_mem _ h)
        · exact .inr h
    · split at h
      · rcases List.mem_cons.1 h with rfl | h
        · rename_i e; exact .inr e
        · exact .inl (List.mem_cons_of_mem _ h)
      · rcases List.mem_cons.1 h with rfl | h
        · exact .inr rfl
        · exact .inl h
theorem full_addL {l : Row} {v c : Nat} (h : Full l) (hc : 1 ≤ c) : Full (addL l v c) := by
  induction l with
  | nil => intro x hx; simp [addL] at hx; rw [hx]; exact hc
  | cons y l ih =>
    have hl : Full l := fun x hx => h x (List.mem_cons_of_mem _ hx)
    have hy := h y List.mem_cons_self
    intro x hx
    unfold addL at hx
    split at hx
    · rcases List.mem_cons.1 hx with rfl | hx
      · exact hy
      · exact ih hl x hx
    · split at hx
      · rcases List.mem_cons.1 hx with rfl | hx
        · show 1 ≤ y.2 + c; omega
        · exact hl x hx
      · rcases List.mem_cons.1 hx with rfl | hx
        · exact hc
        · exact h x hx
theorem rising_addL {l : Row} {v c : Nat} (h : Rising l) : Rising (addL l v c) := by
  induction l with
  | nil => exact ⟨fun y hy => by simp at hy, trivial⟩
  | cons y l ih =>
    obtain ⟨h1, h2⟩ := h
    unfold addL
    split
    · rename_i hlt
      refine ⟨fun x hx => ?_, ih h2⟩
      rcases mem_addL hx with hx | hx
      · exact h1 x hx
      · omega
    · split
      · exact ⟨h1, h2⟩
      · refine ⟨fun x hx => ?_, h1, h2⟩
        show v < x.1
        rcases List.mem_cons.1 hx with rfl | hx
        · omega
        · have := h1 x hx; omega
theorem length_addL_le (l : Row) (v c : Nat) : (addL l v c).length ≤ l.length + 1 := by
  induction l with
  | nil => simp [addL]
  | cons y l ih =>
    unfold addL
    split
    · simp; omega
    · split <;> simp

/-- in a row that rises an index stands once -/
theorem rowAt_cons_ne {x : Nat × Nat} {l : Row} {v : Nat} (h : x.1 ≠ v) : rowAt (x :: l) v = rowAt l v := by
  unfold rowAt; rw [sumIf_cons]; simp [h]
theorem rowAt_low {l : Row} {v : Nat} (h : ∀ y ∈ l, v < y.1) : rowAt l v = 0 :=
  sumIf_none _ _ fun y hy => by have := h y hy; simp; omega
theorem rowAt_mem {l : Row} (h : Rising l) {x : Nat × Nat} (hx : x ∈ l) : rowAt l x.1 = x.2 := by
  induction l with
  | nil => simp at hx
  | cons y l ih =>
    obtain ⟨h1, h2⟩ := h
    rcases List.mem_cons.1 hx with rfl | hx
    · unfold rowAt; rw [sumIf_cons]
      have := rowAt_low (v := x.1) h1
      unfold rowAt at this
      rw [this]; simp
    · rw [rowAt_cons_ne (by have := h1 x hx; omega)]; exact ih h2 hx

end Go.Proofs.YtbejdajkkoapgaaGreatDoor

/-
  A tree's digest, plain: what a row of nodes tells of the values that were put, what lifting a node keeps, and how close a quantile's answer is. No program. Conditions: none.
-/
set_option linter.unusedVariables false
set_option linter.unusedSimpArgs false
namespace Go.Proofs.YtbejdajkkoapgaaGreatDoor

abbrev Vals := List (Int × Nat)
/-- how many values there are up to one -/
def upL : Vals → Int → Nat
  | [], _ => 0
  | v :: l, x => (if v.1 ≤ x then v.2 else 0) + upL l x
def allL : Vals → Nat
  | [] => 0
  | v :: l => v.2 + allL l
theorem upL_append (l m : Vals) (x : Int) : upL (l ++ m) x = upL l x + upL m x := by
  induction l with
  | nil => simp [upL]
  | cons v l ih => simp only [List.cons_append, upL, ih]; omega
/-- the least and the greatest value below a node -/
def wid (d v : Nat) : Nat := 2 ^ (d - Nat.log2 v)
def hiN (d v : Nat) : Nat := v * wid d v + wid d v - 1 - 2 ^ d
def bro (v : Nat) : Nat := if v % 2 = 0 then v + 1 else v - 1

def joinL (l m : Row) : Row := m.foldl (fun l x => addL l x.1 x.2) l
theorem sumIf_join (p : Nat → Bool) (l m : Row) : sumIf p (joinL l m) = sumIf p l + sumIf p m := by
  unfold joinL
  induction m generalizing l with
  | nil => simp [sumIf]
  | cons x m ih => rw [List.foldl_cons, ih, sumIf_add, sumIf_cons]; omega
end Go.Proofs.YtbejdajkkoapgaaGreatDoor

/-
  What a call leaves of memory: all old blocks but those of a set are as they were. Blocks by their content. Rows of pairs in memory. Conditions: stated in each law.
-/
set_option linter.unusedVariables false
set_option linter.unusedSimpArgs false
namespace Go.Proofs.YtbejdajkkoapgaaGreatDoor
open Go.RowKit

structure Away (F : Nat → Prop) (w w' : World) : Prop where
  os : w'.os = w.os
  tape : w'.tape = w.tape
  output : w'.output = w.output
  size : w.heap.size ≤ w'.heap.size
  block : ∀ k, k < w.heap.size → ¬ F k → w'.heap[k]? = w.heap[k]?

theorem Away.refl (F : Nat → Prop) (w : World) : Away F w w := ⟨rfl, rfl, rfl, Nat.le_refl _, fun _ _ _ => rfl⟩
theorem Away.trans' {F G H : Nat → Prop} {a b c : World} (h : Away F a b) (k : Away G b c) (hF : ∀ i, i < a.heap.size → F i → H i) (hG : ∀ i, i < a.heap.size → G i → H i) : Away H a c :=
  ⟨k.os.trans h.os, k.tape.trans h.tape, k.output.trans h.output, Nat.le_trans h.size k.size, fun i hi hn => (k.block i (Nat.lt_of_lt_of_le hi h.size) fun hg => hn (hG i hi hg)).trans (h.block i hi fun hf => hn (hF i hi hf))⟩
theorem Away.mono {F G : Nat → Prop} {a b : World} (h : Away F a b) (hF : ∀ i, i < a.heap.size → F i → G i) : Away G a b :=
  ⟨h.os, h.tape, h.output, h.size, fun i hi hn => h.block i hi fun hf => hn (hF i hi hf)⟩
theorem Away.of_below {F : Nat → Prop} {w w' : World} (h : Below w.heap.size w w') : Away F w w' := ⟨h.os, h.tape, h.output, h.size, fun k hk _ => h.block k hk⟩
theorem Away.below {F : Nat → Prop} {B : Nat} {w w' : World} (h : Away F w w') (hB : B ≤ w.heap.size) (hF : ∀ k, k < B → ¬ F k) : Below B w w' :=
  ⟨h.os, h.tape, h.output, h.size, fun k hk => h.block k (Nat.lt_of_lt_of_le hk hB) (hF k hk)⟩
theorem Away.drew {F : Nat → Prop} {a w : World} (h : Away F a w) : Away F a w.drew := ⟨h.os, h.tape, h.output, h.size, h.block⟩
theorem Away.alloc {F : Nat → Prop} {a w : World} (h : Away F a w) (o : Obj) : Away F a (w.alloc o) :=
  ⟨h.os, h.tape, h.output, Nat.le_trans h.size (by simp), fun k hk hn => (Below.heap_alloc _ _ _ (Nat.lt_of_lt_of_le hk h.size)).trans (h.block k hk hn)⟩
theorem Away.setCell {F : Nat → Prop} {a w : World} (h : Away F a w) (p : Addr) (u : Value) (hp : F p.block ∨ a.heap.size ≤ p.block) : Away F a (w.setCell p u) :=
  ⟨h.os, h.tape, h.output, Nat.le_trans h.size (by simp [World.setCell]), fun k hk hn => by
    rw [Below.heap_setCell _ _ _ _ (by rintro rfl; rcases hp with hp | hp; exact hn hp; omega)]; exact h.block k hk hn⟩
theorem Away.cell {F : Nat → Prop} {w w' : World} (h : Away F w w') {p : Addr} (hp : p.block < w.heap.size) (hn : ¬ F p.block) : w'.cell? p = w.cell? p := World.cell?_of_block (w := w) (h.block p.block hp hn)
theorem Away.frozen {F : Nat → Prop} {w w' : World} (h : Away F w w') {p : Addr} (hp : p.block < w.heap.size) (hn : ¬ F p.block) : w'.frozen? p = w.frozen? p := World.frozen?_of_block (w := w) (h.block p.block hp hn)
theorem Away.of_grown {F : Nat → Prop} {w w' : World} {row : Option Nat} (h : w.grownBy w' row) (hr : ∀ k, row = some k → F k) : Away F w w' :=
  ⟨h.os, h.tape, h.output, h.size, fun k hk hn => h.block k hk fun e => hn (hr k e.symm)⟩

/-- a block's content -/
def Blk (w : World) (b : Nat) (cs : Array Value) (T : TypeId) : Prop := w.heap[b]? = some (.cells cs T (0, 0))
theorem Blk.lt {w : World} {b : Nat} {cs : Array Value} {T : TypeId} (h : Blk w b cs T) : b < w.heap.size := (Array.getElem?_eq_some_iff.1 h).1
theorem Blk.cell {w : World} {b : Nat} {cs : Array Value} {T : TypeId} (h : Blk w b cs T) {j : Nat} {u : Value} (hj : cs[j]? = some u) : w.cell? ⟨b, j, none⟩ = some u := by rw [cell_of_row w b j cs T (0, 0) h]; exact hj
theorem Blk.frozen {w : World} {b : Nat} {cs : Array Value} {T : TypeId} (h : Blk w b cs T) (j : Nat) : w.frozen? ⟨b, j, none⟩ = false := frozen_of_row w b j cs T h
theorem Blk.set {w : World} {b : Nat} {cs : Array Value} {T : TypeId} (h : Blk w b cs T) (j : Nat) (u : Value) : Blk (w.setCell ⟨b, j, none⟩ u) b (cs.setIfInBounds j u) T := heap_setCell_same w b j cs T u h
theorem Blk.other {w : World} {b : Nat} {cs : Array Value} {T : TypeId} (h : Blk w b cs T) (p : Addr) (u : Value) (hp : b ≠ p.block) : Blk (w.setCell p u) b cs T := (heap_setCell_other w p b u hp).trans h
theorem Blk.alloc {w : World} {b : Nat} {cs : Array Value} {T : TypeId} (h : Blk w b cs T) (o : Obj) : Blk (w.alloc o) b cs T := (Below.heap_alloc w o b h.lt).trans h
theorem Blk.drew {w : World} {b : Nat} {cs : Array Value} {T : TypeId} (h : Blk w b cs T) : Blk w.drew b cs T := h
theorem Blk.new (w : World) (cs : Array Value) (T : TypeId) : Blk (w.alloc (.cells cs T)) w.heap.size cs T := heap_alloc_new w _
theorem Blk.newAt {w : World} {n : Nat} {cs : Array Value} {T : TypeId} (h : n = w.heap.size) : Blk (w.alloc (.cells cs T)) n cs T := by subst h; exact heap_alloc_new w _
theorem Blk.away {F : Nat → Prop} {w w' : World} {b : Nat} {cs : Array Value} {T : TypeId} (h : Blk w b cs T) (k : Away F w w') (hn : ¬ F b) : Blk w' b cs T := (k.block b h.lt hn).trans h
theorem Blk.below {B : Nat} {w w' : World} {b : Nat} {cs : Array Value} {T : TypeId} (h : Blk w b cs T) (k : Below B w w') (hn : b < B) : Blk w' b cs T := (k.block b hn).trans h
theorem Blk.ne {w : World} {a b : Nat} {cs ds : Array Value} {T U : TypeId} (h : Blk w a cs T) (k : Blk w b ds U) (hT : T ≠ U) : a ≠ b := by
  rintro rfl
  have := (Option.some.inj (h.symm.trans k))
  injection this with _ h2
  exact hT h2

theorem owns_blk {w : World} {base : Nat} {e : TypeId} {size : Nat} {v : Value} {n : Nat} {xs : List Value} (h : w.ownsRow base e size v n xs) {g : Nat} (hg : v.ownBlock = some g) : ∃ cur, Blk w g cur e := by
  rcases h.2 with ⟨rfl, _⟩ | ⟨g', cap, cur, rfl, _, hgg, _⟩
  · simp [Value.ownBlock] at hg
  · simp [Value.ownBlock] at hg
    subst hg
    exact ⟨cur, hgg⟩
theorem owns_of_block {w w' : World} {base : Nat} {e : TypeId} {size : Nat} {v : Value} {n : Nat} {xs : List Value} (h : w.ownsRow base e size v n xs) (hb : ∀ g, v.ownBlock = some g → w'.heap[g]? = w.heap[g]?) : w'.ownsRow base e size v n xs := by
  refine ⟨h.1, ?_⟩
  rcases h.2 with hn | ⟨g, cap, cur, rfl, hb', hgg, rest⟩
  · exact .inl hn
  · exact .inr ⟨g, cap, cur, rfl, hb', (hb g rfl).trans hgg, rest⟩
theorem owns_away {F : Nat → Prop} {w w' : World} {base : Nat} {e : TypeId} {size : Nat} {v : Value} {n : Nat} {xs : List Value} (h : w.ownsRow base e size v n xs) (k : Away F w w') (hn : ∀ g, v.ownBlock = some g → ¬ F g) : w'.ownsRow base e size v n xs :=
  owns_of_block h fun g hg => k.block g (h.lt g hg).2 (hn g hg)
theorem owns_below {B : Nat} {w w' : World} {base : Nat} {e : TypeId} {size : Nat} {v : Value} {n : Nat} {xs : List Value} (h : w.ownsRow base e size v n xs) (k : Below B w w') (hn : ∀ g, v.ownBlock = some g → g < B) : w'.ownsRow base e size v n xs :=
  owns_of_block h fun g hg => k.block g (hn g hg)
theorem owns_other {w : World} {base : Nat} {e : TypeId} {size : Nat} {v : Value} {n : Nat} {xs : List Value} (h : w.ownsRow base e size v n xs) (p : Addr) (u : Value) (hp : v.ownBlock ≠ some p.block) : (w.setCell p u).ownsRow base e size v n xs :=
  owns_of_block h fun g hg => heap_setCell_other w p g u (by rintro rfl; exact hp hg)
theorem owns_base {w : World} {base base' : Nat} {e : TypeId} {size : Nat} {v : Value} {n : Nat} {xs : List Value} (h : w.ownsRow base e size v n xs) (hb : ∀ g, v.ownBlock = some g → base' ≤ g) : w.ownsRow base' e size v n xs := by
  refine ⟨h.1, ?_⟩
  rcases h.2 with hn | ⟨g, cap, cur, rfl, _, rest⟩
  · exact .inl hn
  · exact .inr ⟨g, cap, cur, rfl, hb g rfl, rest⟩
/-- the shape of what is owned -/
theorem owns_shape {w : World} {base : Nat} {e : TypeId} {size : Nat} {v : Value} {n : Nat} {xs : List Value} (h : w.ownsRow base e size v n xs) :
    (v = .slice none 0 0 ∧ n = 0 ∧ xs = []) ∨ ∃ g cap, v = .slice (some ⟨g, 0, none⟩) n cap ∧ n ≤ cap ∧ cap ≤ maxLen ∧ base ≤ g ∧ g < w.heap.size := by
  rcases h.2 with ⟨rfl, rfl⟩ | ⟨g, cap, cur, rfl, hb, hgg, hn, hc, _⟩
  · exact .inl ⟨rfl, rfl, List.eq_nil_of_length_eq_zero (by simpa using h.1)⟩
  · exact .inr ⟨g, cap, rfl, hn, hc, hb, (Array.getElem?_eq_some_iff.1 hgg).1⟩

/-- a row of pairs, in cells -/
def pairC (x : Nat × Nat) : List Value := [.int .i64 (x.1 : Int), .int .u64 (x.2 : Int)]
def rowC (l : Row) : List Value := l.flatMap pairC
theorem rowC_cons (x : Nat × Nat) (l : Row) : rowC (x :: l) = .int .i64 (x.1 : Int) :: .int .u64 (x.2 : Int) :: rowC l := rfl
theorem rowC_append (l m : Row) : rowC (l ++ m) = rowC l ++ rowC m := List.flatMap_append
theorem rowC_length (l : Row) : (rowC l).length = l.length * 2 := by
  induction l with
  | nil => rfl
  | cons x l ih => rw [rowC_cons]; simp only [List.length_cons, ih]; omega
theorem rowC_fst (l : Row) (i : Nat) (h : i < l.length) : (rowC l)[i * 2]? = some (.int .i64 ((l[i]'h).1 : Int)) := by
  induction l generalizing i with
  | nil => simp at h
  | cons x l ih =>
    rw [rowC_cons]
    match i, h with
    | 0, _ => rfl
    | i + 1, h => rw [show (i + 1) * 2 = i * 2 + 1 + 1 from by omega, List.getElem?_cons_succ, List.getElem?_cons_succ]; exact ih i (by simpa using h)
theorem rowC_snd (l : Row) (i : Nat) (h : i < l.length) : (rowC l)[i * 2 + 1]? = some (.int .u64 ((l[i]'h).2 : Int)) := by
  induction l generalizing i with
  | nil => simp at h
  | cons x l ih =>
    rw [rowC_cons]
    match i, h with
    | 0, _ => rfl
    | i + 1, h => rw [show (i + 1) * 2 + 1 = i * 2 + 1 + 1 + 1 from by omega, List.getElem?_cons_succ, List.getElem?_cons_succ]; exact ih i (by simpa using h)
theorem rowC_set (l : Row) (i : Nat) (h : i < l.length) (c : Nat) : rowC (l.set i ((l[i]'h).1, c)) = (rowC l).set (i * 2 + 1) (.int .u64 (c : Int)) := by
  induction l generalizing i with
  | nil => simp at h
  | cons x l ih =>
    match i, h with
    | 0, _ => rfl
    | i + 1, h =>
      rw [rowC_cons, List.set_cons_succ, rowC_cons, show (i + 1) * 2 + 1 = i * 2 + 1 + 1 + 1 from by omega, List.set_cons_succ, List.set_cons_succ]
      rw [show ((x :: l)[i + 1]'h) = l[i]'(by simpa using h) from rfl, ih i (by simpa using h)]
theorem rowC_take (l : Row) (k : Nat) : rowC (l.take k) = (rowC l).take (k * 2) := by
  induction l generalizing k with
  | nil => simp [rowC]
  | cons x l ih =>
    match k with
    | 0 => simp [rowC]
    | k + 1 => rw [List.take_succ_cons, rowC_cons, rowC_cons, show (k + 1) * 2 = k * 2 + 1 + 1 from by omega, List.take_succ_cons, List.take_succ_cons, ih]
theorem rowC_drop (l : Row) (k : Nat) : rowC (l.drop k) = (rowC l).drop (k * 2) := by
  induction l generalizing k with
  | nil => simp [rowC]
  | cons x l ih =>
    match k with
    | 0 => simp [rowC]
    | k + 1 => rw [List.drop_succ_cons, ih, rowC_cons, show (k + 1) * 2 = k * 2 + 1 + 1 from by omega, List.drop_succ_cons, List.drop_succ_cons]
theorem rowC_one (l : Row) : ∀ u ∈ rowC l, u.oneCell' = true := by
  intro u hu
  obtain ⟨x, _, hx⟩ := List.mem_flatMap.1 hu
  simp [pairC] at hx
  rcases hx with rfl | rfl <;> rfl

/-- where an index stands -/
theorem posL_le (l : Row) (v : Nat) : posL l v ≤ l.length := by
  induction l with
  | nil => exact Nat.le_refl _
  | cons x l ih => unfold posL; split <;> simp <;> omega
theorem posL_before {l : Row} {v : Nat} (h : Rising l) : ∀ i (hi : i < l.length), i < posL l v ↔ (l[i]'hi).1 < v := by
  induction l with
  | nil => intro i hi; simp at hi
  | cons x l ih =>
    intro i hi
    obtain ⟨h1, h2⟩ := h
    unfold posL
    by_cases hx : x.1 < v
    · rw [if_pos hx]
      match i, hi with
      | 0, _ => simp; exact hx
      | i + 1, hi => rw [List.getElem_cons_succ]; have := ih h2 i (by simpa using hi); omega
    · rw [if_neg hx]
      match i, hi with
      | 0, _ => simp; omega
      | i + 1, hi =>
        rw [List.getElem_cons_succ]
        have := h1 _ (List.getElem_mem (by simpa using hi : i < l.length))
        omega
theorem addL_has {l : Row} {v : Nat} (h : Rising l) (c : Nat) (hp : posL l v < l.length) (he : (l[posL l v]'hp).1 = v) : addL l v c = l.set (posL l v) ((l[posL l v]'hp).1, (l[posL l v]'hp).2 + c) := by
  induction l with
  | nil => simp at hp
  | cons x l ih =>
    obtain ⟨h1, h2⟩ := h
    unfold addL
    by_cases hx : x.1 < v
    · have e : posL (x :: l) v = posL l v + 1 := by conv => lhs; unfold posL; rw [if_pos hx]
      rw [if_pos hx]
      have hp' : posL l v < l.length := by rw [e] at hp; simpa using hp
      simp only [e, List.getElem_cons_succ, List.set_cons_succ] at *
      rw [ih h2 hp' he]
    · have e : posL (x :: l) v = 0 := by conv => lhs; unfold posL; rw [if_neg hx]
      rw [if_neg hx]
      simp only [e, List.getElem_cons_zero, List.set_cons_zero] at *
      rw [if_pos he]
theorem addL_new {l : Row} {v : Nat} (h : Rising l) (c : Nat) (he : ∀ (hp : posL l v < l.length), (l[posL l v]'hp).1 ≠ v) : addL l v c = l.take (posL l v) ++ (v, c) :: l.drop (posL l v) := by
  induction l with
  | nil => rfl
  | cons x l ih =>
    obtain ⟨h1, h2⟩ := h
    unfold addL
    by_cases hx : x.1 < v
    · have e : posL (x :: l) v = posL l v + 1 := by conv => lhs; unfold posL; rw [if_pos hx]
      rw [if_pos hx]
      have he' : ∀ (hp : posL l v < l.length), (l[posL l v]'hp).1 ≠ v := fun hp => by
        have := he (by rw [e]; simpa using hp)
        simp only [e, List.getElem_cons_succ] at this
        exact this
      simp only [e, List.take_succ_cons, List.drop_succ_cons, List.cons_append]
      rw [ih h2 he']
    · have e : posL (x :: l) v = 0 := by conv => lhs; unfold posL; rw [if_neg hx]
      rw [if_neg hx]
      have he' : x.1 ≠ v := by
        have := he (by rw [e]; simp)
        simp only [e, List.getElem_cons_zero] at this
        exact this
      simp only [e, List.take_zero, List.drop_zero, List.nil_append]
      rw [if_neg he']
/-- whether the index stands there -/
def isL (l : Row) (v : Nat) : Bool := if hp : posL l v < l.length then (l[posL l v]'hp).1 == v else false
theorem rowAt_is {l : Row} {v : Nat} (h : Rising l) (hp : posL l v < l.length) (he : (l[posL l v]'hp).1 = v) : rowAt l v = (l[posL l v]'hp).2 := by
  have := rowAt_mem h (List.getElem_mem hp)
  rw [he] at this; exact this
theorem rising_lt {l : Row} (h : Rising l) : ∀ {a b : Nat} (ha : a < l.length) (hb : b < l.length), a < b → (l[a]'ha).1 < (l[b]'hb).1 := by
  induction l with
  | nil => intro a b ha; simp at ha
  | cons y l ih =>
    intro a b ha hb hab
    obtain ⟨k1, k2⟩ := h
    match a, b, ha, hb with
    | 0, b + 1, _, hb => exact k1 _ (List.getElem_mem _)
    | a + 1, b + 1, ha, hb => exact ih k2 (by simpa using ha) (by simpa using hb) (by omega)
theorem rowAt_not {l : Row} {v : Nat} (h : Rising l) (he : ∀ (hp : posL l v < l.length), (l[posL l v]'hp).1 ≠ v) : rowAt l v = 0 := by
  refine sumIf_none _ _ fun x hx => ?_
  obtain ⟨i, hi, rfl⟩ := List.getElem_of_mem hx
  have h1 := posL_before (v := v) h i hi
  simp only [beq_eq_false_iff_ne, ne_eq]
  intro e
  by_cases hlt : i < posL l v
  · have := h1.1 hlt; omega
  · by_cases heq : i = posL l v
    · subst heq; exact he hi e
    · have hp : posL l v < l.length := by omega
      have h2 := posL_before (v := v) h (posL l v) hp
      have := rising_lt h hp hi (by omega)
      have := he hp
      omega
end Go.Proofs.YtbejdajkkoapgaaGreatDoor

/-
  Contracts of the functions of package sign and of its reference that the statements of layer 2 call: what each returns, as plain integers; nothing in memory changes. Conditions: each argument fits its kind.
-/
namespace Go.Proofs.YtbejdajkkoapgaaGreatDoor.Sg
open Go.RowKit

theorem ret_int {k : IntKind} {a b : Int} (h : a = b) : Ending.returned (.int k a) = .returned (.int k b) := by rw [h]
/-- a number's magnitude -/
def mag (x : Int) : Int := if x < 0 then -x else x
/-- is it below nought -/
def neg (x : Int) : Bool := decide (x < 0)

theorem mag_or (x : Int) : x < 0 ∧ mag x = -x ∨ 0 ≤ x ∧ mag x = x := by unfold mag; omega
theorem mag_neg {x : Int} (h : x < 0) : mag x = -x := by unfold mag; rw [if_pos h]
theorem mag_pos {x : Int} (h : 0 ≤ x) : mag x = x := by unfold mag; rw [if_neg (by omega)]
theorem neg_yes {x : Int} (h : x < 0) : neg x = true := by simp [neg, h]
theorem neg_no {x : Int} (h : 0 ≤ x) : neg x = false := by simp [neg]; omega

theorem of_any (x : Int) (w : World) (h : -9223372036854775808 ≤ x) (hl : x ≤ 9223372036854775807) :
    Calls Tryz.prog 215 #[.int .i64 x] w fun e w' => e = .returned (.tuple #[.int .u64 (mag x), .bool (neg x)]) ∧ w = w' := by
  by_cases hx : x < 0
  · have e1 : IntKind.u64.wrap (-IntKind.u64.wrap x) = -x := by simp only [IntKind.wrap_u64]; omega
    go_enter Tryz.func215, Tryz.ntmps215
    go_wp2
    go_ret2
    exact ⟨by rw [mag_neg hx, neg_yes hx]; rfl, rfl⟩
  · have hx' : 0 ≤ x := by omega
    go_enter Tryz.func215, Tryz.ntmps215
    go_wp2
    go_ret2
    exact ⟨by rw [mag_pos hx', neg_no hx']; rfl, rfl⟩

end Go.Proofs.YtbejdajkkoapgaaGreatDoor.Sg

/-
  Contracts of Mul64, Times, Compare of package wide and of Less, Add, Times of the reference of layer 1: what each returns, as plain integers; below the heap's size at the call nothing in memory changes. Conditions: each number fits its kind.
-/
namespace Go.Proofs.YtbejdajkkoapgaaGreatDoor.Wd
open Go.RowKit Go.Lib

theorem maskN (a : Nat) (ha : a < 18446744073709551616) : bits .and .u64 (a : Int) 4294967295 = ((a % 4294967296 : Nat) : Int) := by
  have h := bits_and_u64_nat a 4294967295 ha (by omega)
  have e : a &&& 4294967295 = a % 4294967296 := Nat.and_two_pow_sub_one_eq_mod a 32
  rw [e] at h
  exact h
theorem divN (a : Nat) : (a : Int) / 4294967296 = ((a / 4294967296 : Nat) : Int) := by omega
theorem mulN (a b : Nat) : (a : Int) * (b : Int) = ((a * b : Nat) : Int) := (Int.natCast_mul a b).symm
theorem addN (a b : Nat) : (a : Int) + (b : Int) = ((a + b : Nat) : Int) := (Int.natCast_add a b).symm
theorem wrapN (a : Nat) (ha : a < 18446744073709551616) : IntKind.u64.wrap (a : Int) = (a : Int) := by rw [IntKind.wrap_u64]; omega
theorem wrapM (a : Nat) : IntKind.u64.wrap (a : Int) = ((a % 18446744073709551616 : Nat) : Int) := by rw [IntKind.wrap_u64]; omega

/-- the upper and the lower half of a product -/
def hiD (a b : Int) : Int := a * b / 18446744073709551616
def loD (a b : Int) : Int := a * b % 18446744073709551616

theorem hiD_nat (x y : Nat) : ((x * y / 18446744073709551616 : Nat) : Int) = hiD x y := by unfold hiD; rw [mulN]; omega
theorem loD_nat (x y : Nat) : ((x * y % 18446744073709551616 : Nat) : Int) = loD x y := by unfold loD; rw [mulN]; omega

set_option maxHeartbeats 1000000 in
theorem mul64_nat (x y : Nat) (hx : x < 18446744073709551616) (hy : y < 18446744073709551616) (w : World) :
    Calls Tryz.prog 129 #[.int .u64 x, .int .u64 y] w fun e w' => e = .returned (.tuple #[.int .u64 ((x * y / 18446744073709551616 : Nat) : Int), .int .u64 ((x * y % 18446744073709551616 : Nat) : Int)]) ∧ w = w' := by
  obtain ⟨bd, bt, bw, hhi⟩ := Lib.mul64_hi x y hx hy
  have ba := Lib.half_mul_le (a := x / 4294967296) (b := y / 4294967296) (by omega) (by omega)
  have bb := Lib.half_mul_le (a := x / 4294967296) (b := y % 4294967296) (by omega) (by omega)
  have bc := Lib.half_mul_le (a := x % 4294967296) (b := y / 4294967296) (by omega) (by omega)
  have ba' : x / 4294967296 * (y / 4294967296) < 18446744073709551616 := by omega
  have bb' : x / 4294967296 * (y % 4294967296) < 18446744073709551616 := by omega
  have bc' : x % 4294967296 * (y / 4294967296) < 18446744073709551616 := by omega
  have bh1 : x / 4294967296 * (y / 4294967296) + (x / 4294967296 * (y % 4294967296) + x % 4294967296 * (y % 4294967296) / 4294967296) / 4294967296 < 18446744073709551616 := by omega
  have bh : x / 4294967296 * (y / 4294967296) + (x / 4294967296 * (y % 4294967296) + x % 4294967296 * (y % 4294967296) / 4294967296) / 4294967296 + ((x / 4294967296 * (y % 4294967296) + x % 4294967296 * (y % 4294967296) / 4294967296) % 4294967296 + x % 4294967296 * (y / 4294967296)) / 4294967296 < 18446744073709551616 := by omega
  go_enter Tryz.func129, Tryz.ntmps129
  go_wp2
  simp only [maskN x hx, maskN y hy, divN, mulN, addN, wrapN _ bd, wrapN _ bb', wrapN _ bt, maskN _ bt, wrapN _ bc', wrapN _ bw, wrapN _ ba', wrapN _ bh1, wrapN _ bh, wrapM (x * y)]
  rw [hhi]
  go_ret2
  exact ⟨rfl, rfl⟩

theorem mul64_any (a b : Int) (w : World) (ha : 0 ≤ a) (ha' : a ≤ 18446744073709551615) (hb : 0 ≤ b) (hb' : b ≤ 18446744073709551615) :
    Calls Tryz.prog 129 #[.int .u64 a, .int .u64 b] w fun e w' => e = .returned (.tuple #[.int .u64 (hiD a b), .int .u64 (loD a b)]) ∧ w = w' := by
  obtain ⟨x, rfl⟩ := Int.eq_ofNat_of_zero_le ha
  obtain ⟨y, rfl⟩ := Int.eq_ofNat_of_zero_le hb
  rw [← hiD_nat, ← loD_nat]
  exact mul64_nat x y (by omega) (by omega) w

theorem times_any (a b : Int) (w : World) (ha : 0 ≤ a) (ha' : a ≤ 18446744073709551615) (hb : 0 ≤ b) (hb' : b ≤ 18446744073709551615) :
    Calls Tryz.prog 118 #[.int .u64 a, .int .u64 b] w fun e w' => e = .returned (.agg #[.int .u64 (hiD a b), .int .u64 (loD a b)]) ∧ Below w.heap.size w w' := by
  go_enter Tryz.func118, Tryz.ntmps118
  go_wp2_with (go_at_call 129; refine (mul64_any _ _ _ (by omega) (by omega) (by omega) (by omega)).mono ?_; rintro e w' ⟨rfl, rfl⟩)
  exact bodyPost_ret (v := .agg #[.int .u64 (hiD a b), .int .u64 (loD a b)]) (by simp [results, Tryz.results118, go_sem]) rfl ⟨rfl, (Below.refl _ _).alloc (Nat.le_refl _) _⟩

end Go.Proofs.YtbejdajkkoapgaaGreatDoor.Wd

/-
  Contract of Times of the reference of layer 1: the product's two halves; below the heap's size at the call nothing in memory changes. Conditions: both numbers fit uint64.
-/
namespace Go.Proofs.YtbejdajkkoapgaaGreatDoor.Wd
open Go.RowKit Go.Lib

theorem bcell {W w1 : World} {B : Nat} (hb : Below B W w1) : (∀ b o, b < B → w1.cell? ⟨b, o, none⟩ = W.cell? ⟨b, o, none⟩) ∧ (∀ b o, b < B → w1.frozen? ⟨b, o, none⟩ = W.frozen? ⟨b, o, none⟩) :=
  ⟨fun b o h => hb.cell (p := ⟨b, o, none⟩) h, fun b o h => hb.frozen (p := ⟨b, o, none⟩) h⟩

end Go.Proofs.YtbejdajkkoapgaaGreatDoor.Wd

