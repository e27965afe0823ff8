/-
  Several texts in one: J12. What each proves, and on which conditions, stands at its head. Conditions: stated in each.
-/
import Derived.Test.YtbejdajkkoapgaaGreatDoorS01
import Derived.Laws.BitsAllLaws
import Derived.Lib.Strings
import Derived.Test.YtbejdajkkoapgaaGreatDoorS03
import Derived.Test.YtbejdajkkoapgaaGreatDoorS04
import Derived.Lib.BufferRead
import Derived.Lib.AppendStr
import Derived.Laws.IdiomStrings
import Derived.Deep.LoopGhost
/-
  Several texts in one: Crc, Nb, Fb, Tk, SgCode, Bs, Qu. What each proves, and on which conditions, stands at its head. Conditions: stated in each.
-/
/-
  A sum over bytes by halving and a polynomial, plain: a byte at once is the same as bit by bit. No program. Conditions: none.
-/
set_option linter.unusedVariables false
set_option linter.unusedSimpArgs false
namespace Go.Proofs.YtbejdajkkoapgaaGreatDoor

def half (c : Nat) : Nat := if c % 2 = 1 then (c / 2) ^^^ 3988292384 else c / 2
def halves : Nat → Nat → Nat
  | 0, c => c
  | k + 1, c => halves k (half c)
def stepB (c b : Nat) : Nat := halves 8 (c ^^^ b)
theorem half_lt {c : Nat} (h : c < 4294967296) : half c < 4294967296 := by
  unfold half
  split
  · exact Nat.xor_lt_two_pow (n := 32) (by omega) (by decide)
  · omega
theorem halves_lt : ∀ (k : Nat) {c : Nat}, c < 4294967296 → halves k c < 4294967296
  | 0, _, h => h
  | k + 1, _, h => halves_lt k (half_lt h)
theorem stepB_lt {c b : Nat} (h : c < 4294967296) (hb : b < 256) : stepB c b < 4294967296 :=
  halves_lt 8 (Nat.xor_lt_two_pow (n := 32) (by omega) (by omega))
/-- a text's sum so far, and at the end -/
def crc (l : List UInt8) : Nat := l.foldl (fun c b => stepB c b.toNat) 4294967295
def sumB (l : List UInt8) : Nat := 4294967295 - crc l
theorem crc_lt' (l : List UInt8) : ∀ c, c < 4294967296 → l.foldl (fun c b => stepB c b.toNat) c < 4294967296 := by
  induction l with
  | nil => intro c h; exact h
  | cons b l ih => intro c h; exact ih _ (stepB_lt h b.toNat_lt)
theorem crc_lt (l : List UInt8) : crc l < 4294967296 := crc_lt' l _ (by decide)
theorem crc_snoc (l : List UInt8) (b : UInt8) : crc (l ++ [b]) = stepB (crc l) b.toNat := by unfold crc; rw [List.foldl_append]; rfl
theorem crc_take (l : List UInt8) (k : Nat) (h : k < l.length) : crc (l.take (k + 1)) = stepB (crc (l.take k)) (l[k]'h).toNat := by
  rw [List.take_succ_eq_append_getElem h, crc_snoc]
/-- a sum's bytes, the lowest first -/
def fourB (c : Nat) : List UInt8 := [UInt8.ofNat (c % 256), UInt8.ofNat (c / 256 % 256), UInt8.ofNat (c / 65536 % 256), UInt8.ofNat (c / 16777216 % 256)]
theorem fourB_length (c : Nat) : (fourB c).length = 4 := rfl
end Go.Proofs.YtbejdajkkoapgaaGreatDoor

/-
  Numbers as bytes, seven bits each, the lowest first, plain. No program. Conditions: stated in each law.
-/
set_option linter.unusedVariables false
set_option linter.unusedSimpArgs false
namespace Go.Proofs.YtbejdajkkoapgaaGreatDoor

def natBF : Nat → Nat → List UInt8
  | 0, n => [UInt8.ofNat n]
  | k + 1, n => if n < 128 then [UInt8.ofNat n] else UInt8.ofNat (n % 128 + 128) :: natBF k (n / 128)
theorem natBF_fuel : ∀ (k j n : Nat), n ≤ k → n ≤ j → natBF k n = natBF j n
  | 0, 0, n, _, _ => rfl
  | 0, j + 1, n, h, _ => by
    unfold natBF
    rw [if_pos (by omega)]
  | k + 1, 0, n, _, h => by
    unfold natBF
    rw [if_pos (by omega)]
  | k + 1, j + 1, n, h1, h2 => by
    unfold natBF
    by_cases h : n < 128
    · rw [if_pos h, if_pos h]
    · rw [if_neg h, if_neg h, natBF_fuel k j (n / 128) (by omega) (by omega)]
def natB (n : Nat) : List UInt8 := natBF n n
theorem natB_small {n : Nat} (h : n < 128) : natB n = [UInt8.ofNat n] := by
  unfold natB
  match n, h with
  | 0, _ => rfl
  | k + 1, h => unfold natBF; rw [if_pos h]
theorem natB_big {n : Nat} (h : 128 ≤ n) : natB n = UInt8.ofNat (n % 128 + 128) :: natB (n / 128) := by
  unfold natB
  match n, h with
  | k + 1, h =>
    conv => lhs; unfold natBF
    rw [if_neg (by omega), natBF_fuel k ((k + 1) / 128) ((k + 1) / 128) (by omega) (by omega)]
theorem natB_pos (n : Nat) : 1 ≤ (natB n).length := by
  by_cases h : n < 128
  · rw [natB_small h]; simp
  · rw [natB_big (by omega)]; simp
theorem natB_len (k : Nat) : ∀ n, n < 128 ^ (k + 1) → (natB n).length ≤ k + 1 := by
  induction k with
  | zero => intro n h; rw [natB_small (by simpa using h)]; simp
  | succ k ih =>
    intro n h
    by_cases h1 : n < 128
    · rw [natB_small h1]; simp
    · rw [natB_big (by omega), List.length_cons]
      have := ih (n / 128) (by rw [Nat.div_lt_iff_lt_mul (by decide)]; rw [Nat.pow_succ] at h; exact h)
      omega
theorem natB_len10 (n : Nat) (h : n < 18446744073709551616) : (natB n).length ≤ 10 := natB_len 9 n (by omega)

/-- reading: what was read so far, u, and the number that is left, m, make n -/
theorem or_add (u m s : Nat) (h : u < 2 ^ s) : u ||| (m * 2 ^ s) = u + m * 2 ^ s := by
  rw [Nat.or_comm, Nat.mul_comm, ← Nat.two_pow_add_eq_or_of_lt h, Nat.add_comm]
theorem part_lt (u m s : Nat) (h : u < 2 ^ s) : u + m % 128 * 2 ^ s < 2 ^ (s + 7) := by
  have h1 : m % 128 ≤ 127 := by omega
  have h2 := Nat.mul_le_mul_right (2 ^ s) h1
  rw [Nat.pow_add]; omega
theorem part_eq (u m s : Nat) : u + m % 128 * 2 ^ s + m / 128 * 2 ^ (s + 7) = u + m * 2 ^ s := by
  have h := Nat.div_add_mod m 128
  have e : m * 2 ^ s = m / 128 * 2 ^ (s + 7) + m % 128 * 2 ^ s := by
    rw [Nat.pow_add, show (2 : Nat) ^ 7 = 128 from rfl, Nat.mul_comm (2 ^ s) 128, ← Nat.mul_assoc, ← Nat.add_mul, Nat.mul_comm (m / 128), h]
  omega
end Go.Proofs.YtbejdajkkoapgaaGreatDoor

/-
  The bytes of a row of pairs, of a digest's load, and of a frame, plain. No program. Conditions: stated in each law.
-/
set_option linter.unusedVariables false
set_option linter.unusedSimpArgs false
namespace Go.Proofs.YtbejdajkkoapgaaGreatDoor

def ixAt (l : Row) (i : Nat) : Nat := (l.getD i (0, 0)).1
def ctAt (l : Row) (i : Nat) : Nat := (l.getD i (0, 0)).2
def stepN (l : Row) (i : Nat) : Nat := if i = 0 then 2 * ixAt l 0 else ixAt l i - ixAt l (i - 1) - 1
def itemB (l : Row) (i : Nat) : List UInt8 := natB (stepN l i) ++ natB (ctAt l i)
def itemsB (l : Row) (k : Nat) : List UInt8 := (List.range k).flatMap (itemB l)
def leftB (l : Row) (k : Nat) : List UInt8 := ((List.range l.length).drop k).flatMap (itemB l)
theorem itemsB_succ (l : Row) (k : Nat) : itemsB l (k + 1) = itemsB l k ++ itemB l k := by
  unfold itemsB; rw [List.range_succ, List.flatMap_append]; simp
theorem itemsB_zero (l : Row) : itemsB l 0 = [] := rfl
theorem leftB_step (l : Row) (k : Nat) (h : k < l.length) : leftB l k = itemB l k ++ leftB l (k + 1) := by
  unfold leftB
  rw [List.drop_eq_getElem_cons (by simpa using h)]
  simp
theorem leftB_all (l : Row) : leftB l l.length = [] := by unfold leftB; rw [List.drop_of_length_le (by simp)]; rfl
theorem leftB_zero (l : Row) : leftB l 0 = itemsB l l.length := rfl
theorem itemsB_len (l : Row) (k : Nat) (h : ∀ i, i < k → stepN l i < 18446744073709551616 ∧ ctAt l i < 18446744073709551616) : (itemsB l k).length ≤ 20 * k := by
  induction k with
  | zero => simp [itemsB_zero]
  | succ k ih =>
    rw [itemsB_succ, List.length_append]
    have h1 := ih fun i hi => h i (by omega)
    obtain ⟨h2, h3⟩ := h k (by omega)
    have := natB_len10 _ h2
    have := natB_len10 _ h3
    unfold itemB; rw [List.length_append]; omega
def rowB (l : Row) : List UInt8 := natB l.length ++ itemsB l l.length
def markB : List UInt8 := [79, 71, 1]
def headB (kind : UInt8) (load : List UInt8) : List UInt8 := markB ++ [kind] ++ natB load.length ++ load
def frameB (kind : UInt8) (load : List UInt8) : List UInt8 := headB kind load ++ fourB (sumB (headB kind load))
theorem frameB_length (kind : UInt8) (load : List UInt8) : (frameB kind load).length = (headB kind load).length + 4 := by unfold frameB; rw [List.length_append]; rfl
theorem headB_length (kind : UInt8) (load : List UInt8) : (headB kind load).length = 4 + (natB load.length).length + load.length := by unfold headB; simp only [List.length_append]; rfl
end Go.Proofs.YtbejdajkkoapgaaGreatDoor

/-
  A number read back from its bytes, plain. No program. Conditions: stated in each law.
-/
set_option linter.unusedVariables false
set_option linter.unusedSimpArgs false
namespace Go.Proofs.YtbejdajkkoapgaaGreatDoor

end Go.Proofs.YtbejdajkkoapgaaGreatDoor

/-
  Contracts of Zig, Zag, Key and Back of package sign and of the reference's Zig, and the laws on exclusive or that they lean on. Conditions: each argument fits its kind.
-/
namespace Go.Proofs.YtbejdajkkoapgaaGreatDoor.Sg
open Go.RowKit

theorem xor_ones (n : Nat) (h : n < 18446744073709551616) : n ^^^ 18446744073709551615 = 18446744073709551615 - n := by
  have e : (BitVec.ofNat 64 n ^^^ BitVec.allOnes 64).toNat = (~~~ BitVec.ofNat 64 n).toNat := by rw [BitVec.xor_allOnes]
  rw [BitVec.toNat_not, BitVec.toNat_xor, BitVec.toNat_allOnes, BitVec.toNat_ofNat, Nat.mod_eq_of_lt (by omega)] at e
  exact e
theorem bits_xor_i64_zero (a : Int) (h : -9223372036854775808 ≤ a) (h' : a ≤ 9223372036854775807) : bits .xor .i64 a 0 = a := by
  show IntKind.i64.wrap ((BitVec.ofInt 64 a ^^^ BitVec.ofInt 64 0).toNat : Int) = a
  have : BitVec.ofInt 64 0 = 0#64 := by decide
  rw [this, BitVec.xor_zero, BitVec.toNat_ofInt]
  simp only [IntKind.wrap, IntKind.bits, IntKind.signed]
  simp; omega
theorem bits_xor_i64_ones (a : Int) (h : -9223372036854775808 ≤ a) (h' : a ≤ 9223372036854775807) : bits .xor .i64 a (-1) = -a-1 := by
  show IntKind.i64.wrap ((BitVec.ofInt 64 a ^^^ BitVec.ofInt 64 (-1)).toNat : Int) = _
  have : BitVec.ofInt 64 (-1) = BitVec.allOnes 64 := by decide
  rw [this, BitVec.xor_allOnes, BitVec.toNat_not, BitVec.toNat_ofInt]
  simp only [IntKind.wrap, IntKind.bits, IntKind.signed]
  simp; omega

def zigF (x : Int) : Int := if x < 0 then -2 * x - 1 else 2 * x
def zagF (u : Int) : Int := if u % 2 = 1 then -(u / 2) - 1 else u / 2
theorem zigF_or (x : Int) : x < 0 ∧ zigF x = -2 * x - 1 ∨ 0 ≤ x ∧ zigF x = 2 * x := by unfold zigF; omega
theorem zagF_or (u : Int) : u % 2 = 1 ∧ zagF u = -(u / 2) - 1 ∨ u % 2 = 0 ∧ zagF u = u / 2 := by unfold zagF; omega
theorem zig_bits (x : Int) (h : -9223372036854775808 ≤ x) (h' : x ≤ 9223372036854775807) :
    bits .xor .u64 (IntKind.u64.wrap (IntKind.u64.wrap x * 2)) (IntKind.u64.wrap (x / 9223372036854775808)) = zigF x := by
  by_cases hx : x < 0
  · have e1 : IntKind.u64.wrap (x / 9223372036854775808) = ((18446744073709551615 : Nat) : Int) := by rw [IntKind.wrap_u64]; omega
    have e2 : IntKind.u64.wrap (IntKind.u64.wrap x * 2) = (((2 * x + 18446744073709551616).toNat : Nat) : Int) := by simp only [IntKind.wrap_u64]; omega
    rw [e1, e2, u64_xor_nat _ _ (by omega) (by decide), xor_ones _ (by omega)]
    have := zigF_or x
    omega
  · have e1 : IntKind.u64.wrap (x / 9223372036854775808) = ((0 : Nat) : Int) := by rw [IntKind.wrap_u64]; omega
    have e2 : IntKind.u64.wrap (IntKind.u64.wrap x * 2) = (((2 * x).toNat : Nat) : Int) := by simp only [IntKind.wrap_u64]; omega
    rw [e1, e2, u64_xor_nat _ _ (by omega) (by decide), Nat.xor_zero]
    have := zigF_or x
    omega

theorem zig_any (x : Int) (w : World) (h : -9223372036854775808 ≤ x) (h' : x ≤ 9223372036854775807) :
    Calls Tryz.prog 230 #[.int .i64 x] w fun e w' => e = .returned (.int .u64 (zigF x)) ∧ w = w' := by
  go_enter Tryz.func230, Tryz.ntmps230
  go_wp2
  go_ret
  exact ⟨ret_int (zig_bits x h h'), rfl⟩

theorem and_one (u : Int) (h : 0 ≤ u) (h' : u ≤ 18446744073709551615) : bits .and .u64 u 1 = u % 2 := by
  rw [u64_and u 1 h (by omega) (by decide) (by decide)]
  have : u.toNat &&& 1 = u.toNat % 2 := Nat.and_one_is_mod _
  show ((u.toNat &&& 1 : Nat) : Int) = _
  rw [this]; omega

theorem zag_bits (u : Int) (h : 0 ≤ u) (h' : u ≤ 18446744073709551615) :
    bits .xor .i64 (u / 2) (wrap64 (-wrap64 (bits .and .u64 u 1))) = zagF u := by
  rw [and_one u h h']
  have := zagF_or u
  by_cases hx : u % 2 = 1
  · have e : wrap64 (-wrap64 (u % 2)) = -1 := by unfold wrap64; omega
    rw [e, bits_xor_i64_ones _ (by omega) (by omega)]; omega
  · have e : wrap64 (-wrap64 (u % 2)) = 0 := by unfold wrap64; omega
    rw [e, bits_xor_i64_zero _ (by omega) (by omega)]; omega

theorem zag_any (u : Int) (w : World) (h : 0 ≤ u) (h' : u ≤ 18446744073709551615) :
    Calls Tryz.prog 88 #[.int .u64 u] w fun e w' => e = .returned (.int .i64 (zagF u)) ∧ w = w' := by
  go_enter Tryz.func88, Tryz.ntmps88
  go_wp2
  go_ret
  exact ⟨ret_int (zag_bits u h h'), rfl⟩

theorem ret_ib {k : IntKind} {a b : Int} {c d : Bool} (h : a = b) (h' : c = d) : Ending.returned (.tuple #[.int k a, .bool c]) = .returned (.tuple #[.int k b, .bool d]) := by rw [h, h']
def canF (m : Int) (b : Bool) : Bool := if b then decide (m ≤ 9223372036854775808) else decide (m < 9223372036854775808)
def valF (m : Int) (b : Bool) : Int := if canF m b then (if b then -m else m) else 0
theorem value_any (m : Int) (b : Bool) (w : World) (h : 0 ≤ m) (h' : m ≤ 18446744073709551615) :
    Calls Tryz.prog 217 #[.int .u64 m, .bool b] w fun e w' => e = .returned (.tuple #[.int .i64 (valF m b), .bool (canF m b)]) ∧ w = w' := by
  cases b
  · by_cases hm : m < 9223372036854775808
    · have e1 : valF m false = m := by simp [valF, canF, hm]
      have e2 : canF m false = true := by simp [canF, hm]
      rw [e1, e2]; clear e1 e2
      go_enter Tryz.func217, Tryz.ntmps217
      go_wp2
      go_ret2
      exact ⟨rfl, rfl⟩
    · have e1 : valF m false = 0 := by simp [valF, canF, hm]
      have e2 : canF m false = false := by simp [canF]; omega
      rw [e1, e2]; clear e1 e2
      go_enter Tryz.func217, Tryz.ntmps217
      go_wp2
      go_ret2
      exact ⟨rfl, rfl⟩
  · by_cases hm : m ≤ 9223372036854775808
    · have e1 : valF m true = -m := by simp [valF, canF, hm]
      have e2 : canF m true = true := by simp [canF, hm]
      rw [e1, e2]; clear e1 e2
      have e3 : wrap64 (IntKind.u64.wrap (-m)) = -m := by rw [IntKind.wrap_u64]; unfold wrap64; omega
      go_enter Tryz.func217, Tryz.ntmps217
      go_wp2
      go_ret2
      exact ⟨ret_ib e3 rfl, rfl⟩
    · have e1 : valF m true = 0 := by simp [valF, canF, hm]
      have e2 : canF m true = false := by simp [canF]; omega
      rw [e1, e2]; clear e1 e2
      go_enter Tryz.func217, Tryz.ntmps217
      go_wp2
      go_ret2
      exact ⟨rfl, rfl⟩
end Go.Proofs.YtbejdajkkoapgaaGreatDoor.Sg

/-
  Strings and rows of bytes by their lists of bytes. No program. Conditions: none.
-/
set_option linter.unusedVariables false
set_option linter.unusedSimpArgs false
namespace Go.Proofs.YtbejdajkkoapgaaGreatDoor
open Go.RowKit

def bs (l : List UInt8) : ByteArray := ⟨l.toArray⟩
theorem bs_size (l : List UInt8) : (bs l).size = l.length := by simp [bs, ByteArray.size]
theorem bs_data (l : List UInt8) : (bs l).data.toList = l := by simp [bs]
theorem bs_toList (l : List UInt8) : (bs l).toList = l := by rw [ByteArray.toList_eq]; exact bs_data l
theorem bs_extract (l : List UInt8) (i j : Nat) : (bs l).extract i j = bs ((l.drop i).take (j - i)) := by
  rw [Lib.extract_eq, bs_data]; rfl
theorem bs_get (l : List UInt8) (i : Nat) (h : i < l.length) : (bs l).get! i = l[i]'h := by simp [bs, ByteArray.get!, h]
def byteC (l : List UInt8) : List Value := l.map fun b => .int .u8 (b.toNat : Int)
theorem byteC_append (a b : List UInt8) : byteC (a ++ b) = byteC a ++ byteC b := by simp [byteC]
theorem byteC_get (l : List UInt8) (i : Nat) (h : i < l.length) : (byteC l)[i]? = some (.int .u8 ((l[i]'h).toNat : Int)) := by simp [byteC, h]
theorem u8_of (n : Nat) (h : n < 256) : ((UInt8.ofNat n).toNat : Int) = (n : Int) := by simp; omega
end Go.Proofs.YtbejdajkkoapgaaGreatDoor

/-
  Contracts of what writes bytes: Raw, Nat, Int, Text of the quill. Conditions: the quill lies in new memory, the bytes are not too many.
-/
set_option linter.unusedVariables false
set_option linter.unusedSimpArgs false
set_option maxRecDepth 100000
namespace Go.Proofs.YtbejdajkkoapgaaGreatDoor
open Go.RowKit Go.Lib

/-- a quill: what it wrote -/
structure QuO (B : Nat) (w : World) (qb : Nat) (v : Value) (out : List UInt8) : Prop where
  blk : Blk w qb #[v] 109
  own : w.ownsRow B 5 1 v out.length (byteC out)
  base : B ≤ qb
theorem QuO.ne {B : Nat} {w : World} {qb : Nat} {v : Value} {out : List UInt8} (h : QuO B w qb v out) : v.ownBlock ≠ some qb := fun e => by
  obtain ⟨cur, hc⟩ := owns_blk h.own e
  exact (h.blk.ne hc (by decide)) rfl
theorem QuO.next {B : Nat} {w w' : World} {qb : Nat} {v : Value} {out : List UInt8} (h : QuO B w qb v out) (hb : Below w.heap.size w w') : QuO B w' qb v out :=
  ⟨h.blk.below hb h.blk.lt, owns_below h.own hb fun g hg => (h.own.lt g hg).2, h.base⟩
theorem QuO.alloc {B : Nat} {w : World} {qb : Nat} {v : Value} {out : List UInt8} (h : QuO B w qb v out) (o : Obj) : QuO B (w.alloc o) qb v out := h.next ((Below.refl _ _).alloc (Nat.le_refl _) o)
/-- behind an append, stored back -/
theorem QuO.put {B : Nat} {w w1 : World} {qb : Nat} {v v' : Value} {out out' : List UInt8} (h : QuO B w qb v out) (hB : B ≤ w.heap.size) (ho : w1.ownsRow B 5 1 v' out'.length (byteC out')) (hg : w.grownBy w1 v.ownBlock) :
    QuO B (w1.setCell ⟨qb, 0, none⟩ v') qb v' out' ∧ Below B w (w1.setCell ⟨qb, 0, none⟩ v') ∧ w1.cell? ⟨qb, 0, none⟩ = some v ∧ w1.frozen? ⟨qb, 0, none⟩ = false ∧ (∀ b cs T, Blk w b cs T → T ≠ 5 → T ≠ 109 → Blk (w1.setCell ⟨qb, 0, none⟩ v') b cs T) := by
  have hq : Blk w1 qb #[v] 109 := (hg.block qb h.blk.lt (Ne.symm h.ne)).trans h.blk
  have hne : v'.ownBlock ≠ some qb := fun e => by
    obtain ⟨cur, hc⟩ := owns_blk ho e
    exact (hq.ne hc (by decide)) rfl
  refine ⟨⟨hq.set 0 v', owns_other ho _ _ hne, h.base⟩, ?_, hq.cell rfl, hq.frozen 0, fun b cs T hb h5 h109 => ?_⟩
  · have h1 : Below B w w1 := (Below.refl B w).grown hg hB (fun k hk => (h.own.lt k hk).1)
    exact h1.setCell h.base _
  · have hne1 : some b ≠ v.ownBlock := fun e => by
      obtain ⟨cur, hc⟩ := owns_blk h.own e.symm
      exact (hb.ne hc h5) rfl
    have h1 : Blk w1 b cs T := (hg.block b hb.lt hne1).trans hb
    exact h1.other _ _ (hb.ne h.blk h109)

theorem info5 : (Tryz.prog.info? 5).map (fun i => (i.zero, i.size, i.bytes)) = some (some (.int .u8 0), 1, 1) := by kernel_rfl
theorem strC (l : List UInt8) : strCells (bs l) = byteC l := by simp [strCells, byteC, bs]

/-- a quill that goes on writing: rows of other types stay -/
structure NaS (B : Nat) (w : World) (qb : Nat) (A : Option Addr) (c : Nat) (out : List UInt8) (wr : World) : Prop where
  qu : QuO B wr qb (.slice A out.length c) out
  below : Below B w wr
  keep : ∀ b cs T, T ≠ 5 → T ≠ 109 → Blk w b cs T → Blk wr b cs T
theorem NaS.start {B : Nat} {w : World} {qb : Nat} {A : Option Addr} {c : Nat} {out : List UInt8} (h : QuO B w qb (.slice A out.length c) out) : NaS B w qb A c out w := ⟨h, Below.refl _ _, fun _ _ _ _ _ h => h⟩
theorem NaS.put {B : Nat} {w : World} {qb : Nat} {A : Option Addr} {c : Nat} {out out' : List UInt8} {wr w1 : World} {v' : Value} (h : NaS B w qb A c out wr) (o : Obj) (hB : B ≤ w.heap.size)
    (ho : w1.ownsRow B 5 1 v' out'.length (byteC out')) (hg : (wr.alloc o).grownBy w1 (Value.slice A out.length c).ownBlock) :
    ∃ A' c', v' = .slice A' out'.length c' ∧ NaS B w qb A' c' out' (w1.setCell ⟨qb, 0, none⟩ v') ∧ w1.cell? ⟨qb, 0, none⟩ = some (.slice A out.length c) ∧ w1.frozen? ⟨qb, 0, none⟩ = false := by
  have h2 := h.qu.alloc o
  obtain ⟨k1, k2, k3, k4, k5⟩ := h2.put (by have := h.below.size; simp; omega) ho hg
  obtain ⟨A', c', hv⟩ := owns_slice ho
  subst hv
  exact ⟨A', c', rfl, ⟨k1, (h.below.alloc (Nat.le_trans hB h.below.size) o).trans k2, fun b cs T h5 h109 hb => k5 b cs T ((h.keep b cs T h5 h109 hb).alloc o) h5 h109⟩, k3, k4⟩
theorem NaS.alloc {B : Nat} {w : World} {qb : Nat} {A : Option Addr} {c : Nat} {out : List UInt8} {wr : World} (h : NaS B w qb A c out wr) (hB : B ≤ w.heap.size) (o : Obj) : NaS B w qb A c out (wr.alloc o) :=
  ⟨h.qu.alloc o, h.below.alloc (Nat.le_trans hB h.below.size) o, fun b cs T h5 h109 hb => (h.keep b cs T h5 h109 hb).alloc o⟩
theorem NaS.trans {B : Nat} {w : World} {qb : Nat} {A A' : Option Addr} {c c' : Nat} {out out' : List UInt8} {wr w1 : World} (h : NaS B w qb A c out wr) (k : NaS B wr qb A' c' out' w1) : NaS B w qb A' c' out' w1 :=
  ⟨k.qu, h.below.trans k.below, fun b cs T h5 h109 hb => k.keep b cs T h5 h109 (h.keep b cs T h5 h109 hb)⟩
theorem qu_raw (B : Nat) (w : World) (qb : Nat) (A : Option Addr) (c : Nat) (out l : List UInt8) (h : QuO B w qb (.slice A out.length c) out) (hB : B ≤ w.heap.size) (hl : out.length + l.length ≤ 1000000000) :
    Calls Tryz.prog 61 #[.pointer (some ⟨qb, 0, none⟩), .string (bs l)] w fun e w' => e = .returned (.tuple #[]) ∧ ∃ A' c', NaS B w qb A' c' (out ++ l) w' := by
  obtain ⟨i0, hi, hz0, hz1, hz2⟩ := info_parts info5
  have c0 : w.cell? ⟨qb, 0, none⟩ = some (.slice A out.length c) := h.blk.cell rfl
  have HH := Lib.hid h
  clear h
  go_enter Tryz.func61, Tryz.ntmps61
  go_wp2_with (at_builtin; refine Lib.wpList_append_own_string _ rfl _ _ 63 9 rfl B 5 i0 Tryz.underlying63 Tryz.underlying9 hi hz0 hz1 hz2 _ _ _ rfl HH.out.own (bs l) rfl ?q1 ?q2 hB ?_)
  case q1 => rw [bs_size]; unfold maxLen; omega
  case q2 => rw [bs_size]; omega
  intro v' w1 ho hg _
  rw [strC, bs_size, ← byteC_append, ← List.length_append] at ho
  obtain ⟨A', c', hv'⟩ := owns_slice ho
  subst hv'
  obtain ⟨k1, k2, k3, k4, k5⟩ := HH.out.put hB ho hg
  have HK := Lib.hid (show NaS B w qb A' c' (out ++ l) _ from ⟨k1, k2, fun b cs T h5 h109 hb => k5 b cs T hb h5 h109⟩)
  clear k1 k2 ho hg k5
  rw [List.length_append] at HK
  go_wp2
  go_end0
  exact ⟨rfl, _, _, HK.out⟩

theorem qu_text (B : Nat) (w : World) (qb : Nat) (v : Value) (out : List UInt8) (h : QuO B w qb v out) :
    Calls Tryz.prog 40 #[.pointer (some ⟨qb, 0, none⟩)] w fun e w' => e = .returned (.string (bs out)) ∧ w = w' := by
  have c0 : w.cell? ⟨qb, 0, none⟩ = some v := h.blk.cell rfl
  rcases owns_shape h.own with ⟨hv, hn, _⟩ | ⟨g, cap, hv, hnc, hcap, hBg, hg⟩
  · subst hv
    have ho : out = [] := List.eq_nil_of_length_eq_zero hn
    have kc := fun W => Lib.run_convert_nil_bytes (P := Tryz.prog) W 63 9 5 0 Tryz.underlying63 Tryz.underlying5 Tryz.underlying9
    have HO := Lib.hid ho
    clear h hn ho
    go_enter Tryz.func40, Tryz.ntmps40
    go_wp2
    go_ret
    rw [HO.out]
    exact ⟨rfl, rfl⟩
  · subst hv
    have kc := run_convert_bytes_back (P := Tryz.prog) w 63 9 5 ⟨g, 0, none⟩ cap out Tryz.underlying63 Tryz.underlying5 Tryz.underlying9 (fun j hj => by
      rw [Addr.add_lit, Nat.zero_add, h.own.cellAt j (by omega)]
      exact byteC_get out j hj)
    have kc' : (convert 63 9 (.slice (some ⟨g, 0, none⟩) out.length cap)).run Tryz.prog w = .ok (.string (bs out)) w := kc
    clear h kc
    go_enter Tryz.func40, Tryz.ntmps40
    go_wp2
    go_ret
    exact ⟨rfl, rfl⟩

def u64C (ns : List Nat) : Array Value := (ns.map fun n : Nat => Value.int .u64 (n : Int)).toArray
theorem u64C_get (ns : List Nat) (q : Nat) (h : q < ns.length) : (u64C ns)[q]? = some (.int .u64 ((ns[q]'h : Nat) : Int)) := by simp [u64C, h]
theorem orB (u : Nat) : bits .or .u8 ((u : Int) % 256) 128 = ((UInt8.ofNat (u % 128 + 128)).toNat : Int) := by
  have h : ∀ x : Fin 256, x.val ||| 128 = x.val % 128 + 128 := by decide
  have e := h ⟨u % 256, by omega⟩
  have e2 : (u : Int) % 256 = ((u % 256 : Nat) : Int) := by omega
  rw [e2, show (128 : Int) = ((128 : Nat) : Int) from rfl, u8_or_nat _ _ (by omega) (by decide), u8_of _ (by omega)]
  simp only at e
  rw [e]; omega
theorem lastB (u : Nat) (h : u < 128) : (u : Int) % 256 = ((UInt8.ofNat u).toNat : Int) := by
  rw [u8_of u (by omega)]; omega
/-- one byte more -/
theorem wpList_byte {B : Nat} {w : World} {qb : Nat} {A : Option Addr} {c : Nat} {out : List UInt8} {wr : World} {ops : Array Oper} {rest : List Oper} {o : Oper} {a : Act} {Q : Exit → Act → World → Prop} (hgd : o.guard = none) (s x : Operand)
    (ho : o.op = .call { callee := .builtin .append, args := #[s, x], argTypes := #[63, 63] }) (S : NaS B w qb A c out wr) (hB : B ≤ w.heap.size) (hlen : out.length ≤ 1000000000) (b : UInt8) (y : Int) (hy : y = (b.toNat : Int))
    (hs : a.eval s = .slice A out.length c) (hx : a.eval x = .slice (some ⟨wr.heap.size, 0, none⟩) 1 1)
    (h : ∀ A' c' w1, NaS B w qb A' c' (out ++ [b]) (w1.setCell ⟨qb, 0, none⟩ (.slice A' (out.length + 1) c')) → w1.cell? ⟨qb, 0, none⟩ = some (.slice A out.length c) → w1.frozen? ⟨qb, 0, none⟩ = false → wpList Tryz.prog ops Q rest (a.put o.dst (.slice A' (out.length + 1) c')) w1) :
    wpList Tryz.prog ops Q (o :: rest) a (wr.alloc (.cells #[.int .u8 y] 5)) := by
  subst hy
  obtain ⟨i0, hi, hz0, hz1, hz2⟩ := info_parts info5
  refine wpList_append_own _ hgd s x 63 ho B 5 i0 _ 1 1 Tryz.underlying63 hi hz0 hz1 hz2 rfl (by decide) _ _ _ hs (S.qu.alloc _).own _ 1 1 [.int .u8 (b.toNat : Int)] hx rfl ?_ ?_ (by unfold maxLen; omega) (by omega) (by have := S.below.size; simp; omega) ?_
  · intro j y hj
    rcases j with _ | j
    · simp at hj; subst hj; rw [Addr.add_lit]; exact (Blk.newAt (by simp)).cell rfl
    · simp at hj
  · intro y hy; simp at hy; subst hy; rfl
  intro v' w3 hown hgrow hnil
  rw [show out.length + 1 = (out ++ [b]).length from by simp, show byteC out ++ [Value.int .u8 (b.toNat : Int)] = byteC (out ++ [b]) from by simp [byteC]] at hown
  obtain ⟨A3, c3, hv3, S3, k3, k4⟩ := S.put _ hB hown hgrow
  subst hv3
  have := h A3 c3 w3
  rw [show out.length + 1 = (out ++ [b]).length from by simp] at this
  exact this S3 k3 k4
theorem qu_nat (B : Nat) (w : World) (qb lb c : Nat) (A : Option Addr) (c1 : Nat) (out : List UInt8) (ns : List Nat) (h : QuO B w qb (.slice A out.length c1) out) (hB : B ≤ w.heap.size) (hb : Blk w lb (u64C ns) 23)
    (hn : ∀ n ∈ ns, n < 18446744073709551616) (hl : out.length + (ns.flatMap natB).length ≤ 1000000000) (hln : ns.length ≤ 1000000) :
    Calls Tryz.prog 62 #[.pointer (some ⟨qb, 0, none⟩), .slice (some ⟨lb, 0, none⟩) ns.length c] w fun e w' => e = .returned (.tuple #[]) ∧ ∃ A' c', NaS B w qb A' c' (out ++ ns.flatMap natB) w' := by
  obtain ⟨i0, hi, hz0, hz1, hz2⟩ := info_parts info5
  have S0 : NaS B w qb A c1 out w := NaS.start h
  have HN := Lib.hid hn
  have HB := Lib.hid hb
  clear h hb hn
  obtain ⟨m, hm⟩ : ∃ m, m = ns.length := ⟨_, rfl⟩
  have HM := Lib.hid hm
  rw [← hm] at hln ⊢
  clear hm
  go_enter Tryz.func62, Tryz.ntmps62
  go_wp2
  go_loopg [5, 8] m (fun g p i wr => ∃ (q : Nat) (A : Option Addr) (c : Nat), i = .int .i64 (q : Int) ∧ q ≤ m ∧ m - q ≤ g ∧ NaS B w qb A c (out ++ (ns.take q).flatMap natB) wr)
  case atStart => exact ⟨0, A, c1, rfl, Nat.zero_le _, Nat.le_refl _, by simpa using S0⟩
  case round =>
    clear S0
    obtain ⟨q, A, c, rfl, hq, hg, S⟩ := hrel
    by_cases hql : q < m
    · have hLT : (q : Int) < (m : Int) := by omega
      have hqn : q < ns.length := by rw [← HM.out]; exact hql
      have c0 : wr.cell? ⟨lb, q, none⟩ = some (.int .u64 ((ns[q]'hqn : Nat) : Int)) := (S.keep _ _ _ (by decide) (by decide) HB.out).cell (u64C_get ns q hqn)
      have hsm := HN.out _ (List.getElem_mem hqn)
      have htk : (ns.take (q + 1)).flatMap natB = (ns.take q).flatMap natB ++ natB (ns[q]'hqn) := by rw [List.take_succ_eq_append_getElem hqn, List.flatMap_append]; simp
      have hle : ((ns.take (q + 1)).flatMap natB).length ≤ (ns.flatMap natB).length := by
        conv => rhs; rw [← List.take_append_drop (q + 1) ns, List.flatMap_append, List.length_append]
        omega
      rw [htk, List.length_append] at hle
      generalize hu : (ns[q]'hqn) = u at *
      obtain ⟨pre, hpre⟩ : ∃ p, p = out ++ (ns.take q).flatMap natB := ⟨_, rfl⟩
      have hpl : pre.length + (natB u).length ≤ 1000000000 := by rw [hpre, List.length_append]; omega
      rw [← hpre] at S
      have HT := Lib.hid (show out ++ (ns.take (q + 1)).flatMap natB = pre ++ natB u by rw [htk, hpre, List.append_assoc])
      clear htk hle hpre hu hl
      go_wp2_with fail
      go_loopg [5] (natB u).length (fun g p w2 => ∃ (x : Nat) (A : Option Addr) (c : Nat) (pr : List UInt8), p = .int .u64 (x : Int) ∧ x < 18446744073709551616 ∧ pr ++ natB x = pre ++ natB u ∧ (natB x).length ≤ g ∧ NaS B w qb A c pr w2)
      case atStart => exact ⟨u, A, c, pre, rfl, hsm, rfl, Nat.le_refl _, S⟩
      case round =>
        clear S c0 hsm
        obtain ⟨x, A, c, pr, rfl, hx, hpx, hgx, S⟩ := hrel
        have hpl2 : pr.length + (natB x).length ≤ 1000000000 := by
          have := congrArg List.length hpx
          simp only [List.length_append] at this
          omega
        have c0 := S.qu.blk.cell (j := 0) rfl
        by_cases hx1 : x < 128
        · have hc1 : ¬ (128 : Int) ≤ (x : Int) := by omega
          have e1 := natB_small (n := x) (by omega)
          have ho := lastB x hx1
          generalize hbb : UInt8.ofNat x = bb at *
          have HS := Lib.hid (And.intro S (And.intro hpx (And.intro e1 (And.intro hpl2 hgx))))
          clear S hpx e1 hpl2 hgx
          go_wp2_with (at_builtin; refine wpList_byte rfl _ _ rfl HS.out.1 hB (by have := HS.out.2.2.2.1; omega) bb _ (by first | rfl | exact ho | (rw [← ho]; omega)) rfl rfl ?_)
          intro A3 c3 w3 S3 k3 k4
          have HS3 := Lib.hid S3
          clear S3
          go_wp2
          go_roundg (m - (q + 1))
          case measure => omega
          obtain ⟨h1, h2, h3, h4⟩ := HS.out.2
          refine ⟨q + 1, A3, c3, by go_num, by omega, by omega, ?_⟩
          rw [HT.out, ← h1, h2]
          exact HS3.out
        · have hc1 : (128 : Int) ≤ (x : Int) := by omega
          have e1 := natB_big (n := x) (by omega)
          have ho := orB x
          generalize hbb : UInt8.ofNat (x % 128 + 128) = bb at *
          have HS := Lib.hid (And.intro S (And.intro hpx (And.intro e1 (And.intro hpl2 hgx))))
          clear S hpx e1 hpl2 hgx
          go_wp2_with (at_builtin; refine wpList_byte rfl _ _ rfl HS.out.1 hB (by have := HS.out.2.2.2.1; omega) bb _ (by first | rfl | exact ho | (rw [← ho]; omega)) rfl rfl ?_)
          intro A3 c3 w3 S3 k3 k4
          have HS3 := Lib.hid S3
          clear S3
          go_wp2
          go_roundg ((natB x).length - 1)
          obtain ⟨h1, h2, h3, h4⟩ := HS.out.2
          refine ⟨x / 128, A3, c3, pr ++ [bb], by go_num, by omega, ?_, ?_, HS3.out⟩
          · rw [← h1, h2]; simp
          · rw [h2]; simp
          case measure => obtain ⟨h1, h2, h3, h4⟩ := HS.out.2; rw [h2, List.length_cons] at h4; rw [h2, List.length_cons]; omega
    · have hqe : q = m := by omega
      have hLT : ¬ (q : Int) < (m : Int) := by omega
      have HS := Lib.hid S
      have he : ns.take q = ns := by rw [hqe, HM.out, List.take_length]
      have HE := Lib.hid he
      clear S hqe hq hql he
      go_wp2
      go_end0
      have S := HS.out
      rw [HE.out] at S
      exact ⟨rfl, _, _, S⟩

def i64C (xs : List Int) : Array Value := (xs.map fun x => Value.int .i64 x).toArray
theorem i64C_get (xs : List Int) (q : Nat) (h : q < xs.length) : (i64C xs)[q]? = some (.int .i64 (xs[q]'h)) := by simp [i64C, h]
def zigN (x : Int) : Nat := (Sg.zigF x).toNat
theorem zigN_eq (x : Int) (h : -9223372036854775808 ≤ x ∧ x ≤ 9223372036854775807) : Sg.zigF x = ((zigN x : Nat) : Int) ∧ zigN x < 18446744073709551616 := by
  unfold zigN; have := Sg.zigF_or x; omega
def intsB (xs : List Int) : List UInt8 := xs.flatMap fun x => natB (zigN x)
theorem qu_int (B : Nat) (w : World) (qb lb c : Nat) (A : Option Addr) (c1 : Nat) (out : List UInt8) (xs : List Int) (h : QuO B w qb (.slice A out.length c1) out) (hB : B ≤ w.heap.size) (hb : Blk w lb (i64C xs) 2)
    (hn : ∀ x ∈ xs, -9223372036854775808 ≤ x ∧ x ≤ 9223372036854775807) (hl : out.length + 10 * xs.length ≤ 1000000000) (hln : xs.length ≤ 1000000) :
    Calls Tryz.prog 226 #[.pointer (some ⟨qb, 0, none⟩), .slice (some ⟨lb, 0, none⟩) xs.length c] w fun e w' => e = .returned (.tuple #[]) ∧ ∃ A' c', NaS B w qb A' c' (out ++ intsB xs) w' := by
  have S0 : NaS B w qb A c1 out w := NaS.start h
  have HN := Lib.hid hn
  have HB := Lib.hid hb
  clear h hb hn
  obtain ⟨m, hm⟩ : ∃ m, m = xs.length := ⟨_, rfl⟩
  have HM := Lib.hid hm
  rw [← hm] at hln hl ⊢
  clear hm
  go_enter Tryz.func226, Tryz.ntmps226
  go_wp2
  go_loopg [5, 8] m (fun g p i wr => ∃ (q : Nat) (A : Option Addr) (c : Nat) (pr : List UInt8), i = .int .i64 (q : Int) ∧ q ≤ m ∧ m - q ≤ g ∧ pr = out ++ intsB (xs.take q) ∧ pr.length ≤ out.length + 10 * q ∧ NaS B w qb A c pr wr)
  case atStart => exact ⟨0, A, c1, out, rfl, Nat.zero_le _, Nat.le_refl _, by simp [intsB], by omega, S0⟩
  case round =>
    clear S0
    obtain ⟨q, A, c, pr, rfl, hq, hg, hpr, hprl, S⟩ := hrel
    by_cases hql : q < m
    · have hLT : (q : Int) < (m : Int) := by omega
      have hqn : q < xs.length := by rw [← HM.out]; exact hql
      have c0 : wr.cell? ⟨lb, q, none⟩ = some (.int .i64 (xs[q]'hqn)) := (S.keep _ _ _ (by decide) (by decide) HB.out).cell (i64C_get xs q hqn)
      have hsm := HN.out _ (List.getElem_mem hqn)
      have htk : intsB (xs.take (q + 1)) = intsB (xs.take q) ++ natB (zigN (xs[q]'hqn)) := by unfold intsB; rw [List.take_succ_eq_append_getElem hqn, List.flatMap_append]; simp
      generalize hu : (xs[q]'hqn) = u at *
      have HT := Lib.hid (show pr ++ natB (zigN u) = out ++ intsB (xs.take (q + 1)) by rw [htk, hpr, List.append_assoc])
      obtain ⟨z1, z2⟩ := zigN_eq u hsm
      have z3 := natB_len10 _ z2
      have hz := Sg.zig_any u wr hsm.1 hsm.2
      rw [z1] at hz
      have hwb := S.below.size
      have hnat := qu_nat B (wr.alloc (.cells (u64C [zigN u]) 23)) qb wr.heap.size 1 A c pr [zigN u] (S.qu.alloc _) (by simp; omega) (Blk.newAt rfl) (by simpa using z2) (by simp; omega) (by simp)
      have HS := Lib.hid (S.alloc hB (.cells (u64C [zigN u]) 23))
      have hnl : (natB (zigN u)).length ≤ 10 := z3
      clear htk hpr hu hsm z1 z2 z3 S
      go_wp2_with (first | (go_at_call 230; refine hz.mono ?_; rintro e w3 ⟨rfl, rfl⟩) | (go_at_call 62; refine hnat.mono ?_; rintro e w3 ⟨rfl, A3, c3, S3⟩))
      go_roundg (m - (q + 1))
      case measure => omega
      simp only [List.flatMap_cons, List.flatMap_nil, List.append_nil] at S3
      exact ⟨q + 1, A3, c3, _, by go_num, by omega, by omega, HT.out, by rw [List.length_append]; omega, HS.out.trans S3⟩
    · have hqe : q = m := by omega
      have hLT : ¬ (q : Int) < (m : Int) := by omega
      have HS := Lib.hid S
      have he : pr = out ++ intsB xs := by rw [hpr, hqe, HM.out, List.take_length]
      have HE := Lib.hid he
      clear S hqe hq hql he hpr
      go_wp2
      go_end0
      have S := HS.out
      rw [HE.out] at S
      exact ⟨rfl, _, _, S⟩
end Go.Proofs.YtbejdajkkoapgaaGreatDoor

