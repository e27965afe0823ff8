/-
  The given statement SignWithin: for every two int64 values and every fraction the law returns true, and the arguments read afterwards as before. Conditions: none.
-/
import Derived.Test.YtedmnnihpldhnaaNear
import Derived.ProofKit
import Derived.OpenShut
import Derived.Lib.SmallJoins
namespace Go.Proofs.Ytedmnnihpldhnaa.signWithin
open Go.ChangeShapes Go.WideShapes Go.ChangeAt Go.RowKit Go.Joins

theorem own : ownKnob Try.prog.godebug = none := by kernel_rfl
theorem cells36 : Try.prog.cellsOf 36 = 2 := by kernel_rfl

set_option maxRecDepth 100000 in
theorem lifted (os : Os) (started : os.Started) (H : Type) (enc : TypeId × Value → H) :
    ReturnsInHanded {} Try.checked os 7 .any (Rows.signWithinSpec.pre6 enc Try.prog Try.f7 Rows.signWithinRow.domain false) (Rows.signWithinSpec.post enc Try.prog Try.f7 false true false false) := by
  refine returnsInHanded_of_change (C := Try.checked) own started (by kernel_rfl) Try.func7
    (ChangeSpec.witness6 (enc := enc) (C := Try.checked) false ⟨#[], #[.int .i64 0, .int .i64 0, .agg #[.int .u64 0, .int .u64 0]], []⟩ 8 (by kernel_rfl) (by kernel_rfl) (by kernel_rfl) (by kernel_rfl)) ?_
  intro W base args ds gs before hval0 hW hcnd _
  have hval : ∀ (j : Nat) t v, Try.f7.params[j]? = some t → args[j]? = some v → Value.okWide Try.prog W .any base t v := hval0
  have hW' := hW
  obtain ⟨p, q, hA0, hV, rfl, hfz, hnd⟩ := hW
  have hA : DataW.TrodAll enc Try.prog W 0 (fun _ => true) true Try.f7.params.toList args.toList ds p := hA0
  rw [Try.params7] at hA hval
  obtain ⟨v0, vs0, d0, ds0, p0, q0, hargs, rfl, rfl, h0, r0⟩ := trodAll_cons hA
  obtain ⟨v1, vs1, d1, ds1, p1, q1, rfl, rfl, rfl, h1, r1⟩ := trodAll_cons r0
  obtain ⟨v2, vs2, d2, ds2, p2, q2, rfl, rfl, rfl, h2, r2⟩ := trodAll_cons r1
  obtain ⟨rfl, rfl, rfl⟩ := trodAll_nil r2
  obtain rfl : args = #[v0, v1, v2] := by cases args; simp_all
  obtain ⟨rfl, rfl⟩ := trodVars_none hV
  obtain ⟨a0, rfl, rfl, rfl, w0⟩ := open_int Try.underlying2 (hval 0 2 v0 rfl rfl) h0
  obtain ⟨a1, rfl, rfl, rfl, w1⟩ := open_int Try.underlying2 (hval 1 2 v1 rfl rfl) h1
  obtain ⟨c0, c1, y0, y1, m, rfl, rfl, rfl, hy0, hy1⟩ := open_agg2 Try.underlying36 (by kernel_rfl) cells36 (hval 2 36 v2 rfl rfl) h2
  obtain ⟨n, e0, rfl, wn⟩ := DataW.trod_int Try.underlying23 hy0
  obtain ⟨d, e1, rfl, wd⟩ := DataW.trod_int Try.underlying23 hy1
  simp at e0 e1
  subst e0 e1
  clear hA0 hval0
  simp only [List.append_nil] at hW'
  have ⟨l0, u0⟩ := bounds_i64 w0
  have ⟨l1, u1⟩ := bounds_i64 w1
  have ⟨l2, u2⟩ := bounds_u64 wn
  have ⟨l3, u3⟩ := bounds_u64 wd
  refine (law_any a0 a1 n d W l0 u0 l1 u1 l2 u2 l3 u3).mono fun e W' ⟨he, hg⟩ => ?_
  subst he
  have sh : ∀ {w : World} {b : Nat} {sp : Nat → Bool} {hd : Bool}, DataW.Trod enc Try.prog w b sp hd 36 (.agg #[.int .u64 n, .int .u64 d]) (.agg [.lit (.int .u64 n), .lit (.int .u64 d)]) [] := fun {w b sp hd} =>
    shut_agg2 (y0 := (.lit (.int .u64 n), [])) (y1 := (.lit (.int .u64 d), [])) Try.underlying36 (by kernel_rfl) cells36 ⟨1, by simp [DataW.trod, Try.underlying23, wn]⟩ ⟨1, by simp [DataW.trod, Try.underlying23, wd]⟩
  exact ⟨_, rfl, _, _, _, [], [], [], hW', (trodAll_cons_mk (shut_bool Try.underlying4 _) trodAll_mk0), (trodAll_cons_mk (shut_int Try.underlying2 w0) (trodAll_cons_mk (shut_int Try.underlying2 w1) (trodAll_cons_mk sh trodAll_mk0))), rfl, hg.frame _, fun h => by cases h⟩

theorem over : Rows.signWithinRow.holds Try.pinned (OpenSpec.ofChange Rows.signWithinSpec) :=
  OpenClaim.holds_of_wide 7 Try.f7 rfl rfl rfl rfl rfl rfl rfl ⟨rfl, rfl, rfl, rfl, rfl⟩ rfl rfl rfl rfl rfl (by kernel_rfl) Try.func7 (by kernel_rfl)
    (of_decide_eq_true (by kernel_rfl)) (by unfold Func.isWrapper; first | (rw [if_pos (by decide +kernel)]; kernel_rfl) | (rw [if_neg (by decide +kernel)]; exact ⟨rfl, rfl⟩))
    (fun os started H enc _ => lifted os started H enc)

theorem proved : Rows.SignWithinSaid :=
  over
#print axioms proved
end Go.Proofs.Ytedmnnihpldhnaa.signWithin
