/-
  Several texts in one: J10. What each proves, and on which conditions, stands at its head. Conditions: stated in each.
-/
import Derived.Test.YtbejdajkkoapgaaGreatDoorS05
import Derived.Laws.StructEq
/-
  Several texts in one: Sq, Pu, Eq. What each proves, and on which conditions, stands at its head. Conditions: stated in each.
-/
/-
  Contracts of digest.squeeze and tidy: nodes are lifted again and again, till none is. Conditions: the nodes can be, the counts are small.
-/
set_option linter.unusedVariables false
set_option linter.unusedSimpArgs false
set_option maxRecDepth 100000
namespace Go.Proofs.YtbejdajkkoapgaaGreatDoor
open Go.RowKit Go.Lib

end Go.Proofs.YtbejdajkkoapgaaGreatDoor

/-
  Contract of digest.Put: the value's leaf has so many more, then nodes are lifted; or an error, and the digest is as it was. Conditions: the counts are small.
-/
set_option linter.unusedVariables false
set_option linter.unusedSimpArgs false
set_option maxRecDepth 100000
namespace Go.Proofs.YtbejdajkkoapgaaGreatDoor
open Go.RowKit Go.Lib

end Go.Proofs.YtbejdajkkoapgaaGreatDoor

/-
  Two configs compared, field by field. Conditions: none.
-/
set_option linter.unusedVariables false
set_option linter.unusedSimpArgs false
set_option maxRecDepth 100000
namespace Go.Proofs.YtbejdajkkoapgaaGreatDoor
open Go.RowKit Go.Lib

theorem fields25 : Tryz.prog.fieldsOf 25 = #[{ name := "Num", type := 23, offset := 0, embedded := false, tag := "", pkgPath := "", byteOffset := 0 }, { name := "Den", type := 23, offset := 1, embedded := false, tag := "", pkgPath := "", byteOffset := 8 }] := by
  unfold Program.fieldsOf; rw [Tryz.underlying25]
theorem stood28 : Tryz.prog.stoodInHeld 28 = false := by kernel_rfl
theorem stood25 : Tryz.prog.stoodInHeld 25 = false := by kernel_rfl

theorem eq25 (w : World) (n : Nat) (a b c d : Int) : (Op.equalIn (n + 2) 25 (.agg #[.int .u64 a, .int .u64 b]) (.agg #[.int .u64 c, .int .u64 d])).run Tryz.prog w = .ok ((a == c) && (b == d)) w := by
  have h25 : Tryz.prog.underlying 25 = some (.struct (Tryz.prog.fieldsOf 25)) := by rw [fields25, Tryz.underlying25]
  have ag := fun w => Tryz.isAgg23 w
  rw [run_equalIn_agg w (n + 1) 25 _ _ h25 stood25, fields25]
  simp [Op.eqFields, part, ag, run_equalIn_int (P := Tryz.prog) _ n 23 .u64 .u64 _ _ Tryz.underlying23]
  by_cases h1 : a = c <;> by_cases h2 : b = d <;> simp [h1, h2]
theorem fields28 : Tryz.prog.fieldsOf 28 = #[{ name := "Kind", type := 22, offset := 0, embedded := false, tag := "", pkgPath := "", byteOffset := 0 }, { name := "Part", type := 25, offset := 1, embedded := false, tag := "", pkgPath := "", byteOffset := 8 }, { name := "Side", type := 26, offset := 3, embedded := false, tag := "", pkgPath := "", byteOffset := 24 }, { name := "Most", type := 3, offset := 4, embedded := false, tag := "", pkgPath := "", byteOffset := 32 }, { name := "Digits", type := 3, offset := 5, embedded := false, tag := "", pkgPath := "", byteOffset := 40 }, { name := "Limit", type := 23, offset := 6, embedded := false, tag := "", pkgPath := "", byteOffset := 48 }, { name := "Depth", type := 3, offset := 7, embedded := false, tag := "", pkgPath := "", byteOffset := 56 }, { name := "Factor", type := 3, offset := 8, embedded := false, tag := "", pkgPath := "", byteOffset := 64 }, { name := "Width", type := 3, offset := 9, embedded := false, tag := "", pkgPath := "", byteOffset := 72 }, { name := "Word", type := 23, offset := 10, embedded := false, tag := "", pkgPath := "", byteOffset := 80 }] := by
  unfold Program.fieldsOf; rw [Tryz.underlying28]
/-- whether two configs of the suite are the same -/
def sameB (a0 a1 a2 a3 a4 a5 a6 a7 a8 a9 a10 b0 b1 b2 b3 b4 b5 b6 b7 b8 b9 b10 : Int) : Bool := (a0 == b0) && (a1 == b1) && (a2 == b2) && (a3 == b3) && (a4 == b4) && (a5 == b5) && (a6 == b6) && (a7 == b7) && (a8 == b8) && (a9 == b9) && (a10 == b10)
set_option maxHeartbeats 4000000 in
theorem neq28 (w : World) (a0 a1 a2 a3 a4 a5 a6 a7 a8 a9 a10 b0 b1 b2 b3 b4 b5 b6 b7 b8 b9 b10 : Int) : (binOp .neq 28 (.agg #[.int .i64 a0, .int .u64 a1, .int .u64 a2, .int .i64 a3, .int .i64 a4, .int .i64 a5, .int .u64 a6, .int .i64 a7, .int .i64 a8, .int .i64 a9, .int .u64 a10]) (.agg #[.int .i64 b0, .int .u64 b1, .int .u64 b2, .int .i64 b3, .int .i64 b4, .int .i64 b5, .int .u64 b6, .int .i64 b7, .int .i64 b8, .int .i64 b9, .int .u64 b10])).run Tryz.prog w = .ok (.bool !(sameB a0 a1 a2 a3 a4 a5 a6 a7 a8 a9 a10 b0 b1 b2 b3 b4 b5 b6 b7 b8 b9 b10)) w := by
  have h28 : Tryz.prog.underlying 28 = some (.struct (Tryz.prog.fieldsOf 28)) := by rw [fields28, Tryz.underlying28]
  have ag3 := fun w => Tryz.isAgg3 w
  have ag22 := fun w => Tryz.isAgg22 w
  have ag23 := fun w => Tryz.isAgg23 w
  have ag25 := fun w => Tryz.isAgg25 w
  have ag26 := fun w => Tryz.isAgg26 w
  have sz25 := fun w => Tryz.sizeOf25 w
  rw [run_neq_struct, show (10000 : Nat) = 9999 + 1 from rfl, run_equalIn_agg w 9999 28 _ _ h28 stood28, fields28]
  simp [Op.eqFields, part, ag3, ag22, ag23, ag25, ag26, sz25, eq25 _ 9997, run_equalIn_int (P := Tryz.prog) _ 9998 3 .i64 .i64 _ _ Tryz.underlying3, run_equalIn_int (P := Tryz.prog) _ 9998 22 .i64 .i64 _ _ Tryz.underlying22, run_equalIn_int (P := Tryz.prog) _ 9998 23 .u64 .u64 _ _ Tryz.underlying23, run_equalIn_int (P := Tryz.prog) _ 9998 26 .i64 .i64 _ _ Tryz.underlying26]
  clear h28 ag3 ag22 ag23 ag25 ag26 sz25
  unfold sameB
  by_cases k1 : a1 = b1 <;> by_cases k2 : a2 = b2 <;> simp only [k1, k2, not_true, not_false_iff, imp_false, forall_const, if_true, if_false] <;> (repeat' split) <;> simp_all
end Go.Proofs.YtbejdajkkoapgaaGreatDoor

