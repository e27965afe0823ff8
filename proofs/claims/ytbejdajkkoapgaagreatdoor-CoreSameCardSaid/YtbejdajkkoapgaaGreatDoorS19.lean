/-
  Several texts in one: Lw. What each proves, and on which conditions, stands at its head. Conditions: stated in each.
-/
import Derived.Test.YtbejdajkkoapgaaGreatDoorS17
import Derived.Test.YtbejdajkkoapgaaGreatDoorS18
/-
  Contracts of bins.Add, Merge. Conditions: few values, the rows keep no more than there is room for.
-/
set_option linter.unusedVariables false
set_option linter.unusedSimpArgs false
set_option maxRecDepth 100000
namespace Go.Proofs.YtbejdajkkoapgaaGreatDoor
open Go.RowKit Go.Lib

theorem mindex (tb : Nat) (w : World) : (method 524 163 (.pointer (some ⟨tb, 0, none⟩)) "Index").run Tryz.prog w = .ok (368, .pointer (some ⟨tb, 0, none⟩)) w := by kernel_rfl
theorem mrep (tb : Nat) (w : World) : (method 524 163 (.pointer (some ⟨tb, 0, none⟩)) "Rep").run Tryz.prog w = .ok (370, .pointer (some ⟨tb, 0, none⟩)) w := by kernel_rfl
/-- bins that have come from a world in which these blocks were their own -/
def BinR (hi : Bool) (M num den n : Nat) (w : World) (bb tb : Nat) (vl vr : Value) (ca cc : Nat) (Oa Oc : Nat → Prop) (k0 k1 : Row) (T0 T1 z : Nat) (w' : World) : Prop :=
  ∃ Oa' Oc', BinO hi M num den n w' bb tb vl vr ca cc Oa' Oc' k0 k1 T0 T1 z ∧ SubO w (OwnB bb tb vl vr Oa Oc) (OwnB bb tb vl vr Oa' Oc') ∧ Away (OwnB bb tb vl vr Oa Oc) w w'
section
variable {hi : Bool} {M num den n : Nat} {w W W' : World} {bb tb : Nat} {vl vr : Value} {ca cc : Nat} {Oa Oc : Nat → Prop} {k0 k1 k2 a0 a1 : Row} {T0 T1 T2 z A0 A1 y : Nat}
theorem BinR.start (h : BinO hi M num den n w bb tb vl vr ca cc Oa Oc k0 k1 T0 T1 z) (b : Below w.heap.size w W) : BinR hi M num den n w bb tb vl vr ca cc Oa Oc k0 k1 T0 T1 z W := ⟨Oa, Oc, h.next b, fun _ h => .inl h, Away.of_below b⟩
theorem BinR.next (h : BinR hi M num den n w bb tb vl vr ca cc Oa Oc k0 k1 T0 T1 z W) (b : Below W.heap.size W W') : BinR hi M num den n w bb tb vl vr ca cc Oa Oc k0 k1 T0 T1 z W' := by
  obtain ⟨Oa', Oc', h1, h2, h3⟩ := h
  exact ⟨Oa', Oc', h1.next b, h2, h3.trans' (Away.of_below (F := OwnB bb tb vl vr Oa Oc) b) (fun _ _ h => h) (fun _ _ h => h)⟩
theorem BinR.step (h : BinR hi M num den n w bb tb vl vr ca cc Oa Oc k0 k1 T0 T1 z W) (g : ∀ Oa' Oc', BinO hi M num den n W bb tb vl vr ca cc Oa' Oc' k0 k1 T0 T1 z → BinR hi M num den n W bb tb vl vr ca cc Oa' Oc' a0 a1 A0 A1 y W') : BinR hi M num den n w bb tb vl vr ca cc Oa Oc a0 a1 A0 A1 y W' := by
  obtain ⟨Oa', Oc', h1, h2, h3⟩ := h
  obtain ⟨Pa, Pc, p1, p2, p3⟩ := g Oa' Oc' h1
  refine ⟨Pa, Pc, p1, fun j hj => ?_, h3.trans' p3 (fun _ _ h => h) fun j hj hO => ?_⟩
  · rcases p2 j hj with e | e
    · exact h2 j e
    · exact .inr (Nat.le_trans h3.size e)
  · rcases h2 j hO with e | e
    · exact e
    · omega
theorem BinO.rz (h : BinO hi M num den n w bb tb vl vr ca cc Oa Oc k0 k1 T0 T1 z) (z2 : Nat) : BinR hi M num den n w bb tb vl vr ca cc Oa Oc k0 k1 T0 T1 z2 (w.setCell ⟨bb, 5, none⟩ (.int .u64 (z2 : Int))) := by
  obtain ⟨p1, p3⟩ := h.zero z2; exact ⟨Oa, Oc, p1, fun _ h => .inl h, p3⟩
end

theorem sub_trans {w W W' : World} {P Q R : Nat → Prop} (s : SubO w P Q) (a : Away P w W) (s2 : SubO W Q R) (a2 : Away Q W W') : SubO w P R ∧ Away P w W' := by
  refine ⟨fun j hj => ?_, a.trans' a2 (fun _ _ h => h) fun j hj hO => ?_⟩
  · rcases s2 j hj with e | e
    · exact s j e
    · exact .inr (Nat.le_trans a.size e)
  · rcases s j hO with e | e
    · exact e
    · omega
theorem sub_below {w W : World} {P : Nat → Prop} (b : Below w.heap.size w W) : SubO w P P ∧ Away P w W := ⟨fun _ h => .inl h, Away.of_below b⟩
theorem ap_sub {w : World} {P Q R : Nat → Prop} (h : ∀ j, P j → ¬ R j) (s : SubO w P Q) (l : ∀ j, R j → j < w.heap.size) : ∀ j, Q j → ¬ R j := fun j hj hR => by
  rcases s j hj with e | e
  · exact h j e hR
  · have := l j hR; omega
/-- two bins, apart from one another -/
structure B2C (hi : Bool) (M num den n num2 den2 n2 : Nat) (w : World) (bb tb : Nat) (vl vr : Value) (ca cc : Nat) (Oa Oc : Nat → Prop) (k0 k1 : Row) (T0 T1 z : Nat) (ob ub : Nat) (ul ur : Value) (da dc : Nat) (Na Nc : Nat → Prop) (m0 m1 : Row) (U0 U1 y : Nat) (W : World) : Prop where
  b : BinO hi M num den n W bb tb vl vr ca cc Oa Oc k0 k1 T0 T1 z
  o : BinO hi M num2 den2 n2 W ob ub ul ur da dc Na Nc m0 m1 U0 U1 y
  below : Below w.heap.size w W
section
variable {hi : Bool} {M num den n num2 den2 n2 : Nat} {w W W' : World} {bb tb : Nat} {vl vr : Value} {ca cc : Nat} {Oa Oc : Nat → Prop} {k0 k1 k2 : Row} {T0 T1 T2 z : Nat} {ob ub : Nat} {ul ur : Value} {da dc : Nat} {Na Nc : Nat → Prop} {m0 m1 : Row} {U0 U1 y : Nat}
theorem B2C.next (h : B2C hi M num den n num2 den2 n2 w bb tb vl vr ca cc Oa Oc k0 k1 T0 T1 z ob ub ul ur da dc Na Nc m0 m1 U0 U1 y W) (b : Below W.heap.size W W') : B2C hi M num den n num2 den2 n2 w bb tb vl vr ca cc Oa Oc k0 k1 T0 T1 z ob ub ul ur da dc Na Nc m0 m1 U0 U1 y W' := ⟨h.b.next b, h.o.next b, h.below.trans (b.mono h.below.size)⟩
end

set_option maxHeartbeats 4000000 in
theorem badd_neg_L {M num den n : Nat} (hM1 : 1 ≤ M) (hM2 : M ≤ 4096) (hn : 1 ≤ n) (hn2 : n ≤ 4096) (w : World) (bb tb : Nat) (vl vr : Value) (ca cc : Nat) (Oa Oc : Nat → Prop) (k0 k1 : Row) (T0 T1 z : Nat) (h : BinO false M num den n w bb tb vl vr ca cc Oa Oc k0 k1 T0 T1 z) (x : Int) (hx : I64 x) (hx0 : x < 0) (c : Nat) (hc : 1 ≤ c) (hT : T0 + z + T1 + c ≤ 9223372036854775807) (hlen : (putK false M k0 (cix num den n (Sg.mag x).toNat) c).length ≤ M) (hkl : k0.length ≤ M) :
    Calls Tryz.prog 213 #[.pointer (some ⟨bb, 0, none⟩), .int .i64 x, .int .u64 (c : Int)] w fun e w' => e = .returned (.int .i64 0) ∧ BinR false M num den n w bb tb vl vr ca cc Oa Oc (putK false M k0 (cix num den n (Sg.mag x).toNat) c) k1 (T0 + c) T1 z w' := by
  have hx' := hx
  unfold I64 at hx'
  have ho := fun W => Sg.of_any x W hx'.1 hx'.2
  obtain ⟨m, hm⟩ : ∃ m, m = (Sg.mag x).toNat := ⟨_, rfl⟩
  have hmm : Sg.mag x = (m : Int) := by have := Sg.mag_or x; omega
  have hm1 : 1 ≤ m := by have := Sg.mag_or x; omega
  have hm2 : m ≤ 9223372036854775808 := by have := Sg.mag_or x; omega
  have hng : Sg.neg x = true := by unfold Sg.neg; simp; omega
  rw [hmm, hng] at ho
  rw [← hm] at hlen ⊢
  have hix := Lib.hid (fun W (b : Below w.heap.size w W) => index_any W tb vl vr num den n (h.next b).tab hn hn2 m hm1 hm2)
  have hi4 : cix num den n m < 4096 := Nat.lt_of_lt_of_le (cix_lt hn hm1) hn2
  generalize cix num den n m = ix at *
  have hto := btot_L w bb tb vl vr ca cc Oa Oc k0 k1 T0 T1 z h (by omega)
  obtain ⟨T, hTT⟩ : ∃ T, T = T0 + z + T1 := ⟨_, rfl⟩
  rw [← hTT] at hto hT
  have hpl := Lib.hid (fun W b => plus_any W b T c hT)
  have g1 : ((c : Int) == 0) = false := by simp; omega
  have hmi := fun W => mindex tb W
  have hcl := Lib.hid (fun W (b : Below w.heap.size w W) => bcells_L (h.next b))
  have hma := fun W => madd_L ca W
  have hen := fun a W => (ent_L a W).2.2.2
  have hadd := Lib.hid (fun W (b : Below w.heap.size w W) => sadd_L hM1 hM2 W ca Oa k0 T0 (h.next b).s0 ix c hi4 hc (by omega) hlen hkl)
  have FIN := Lib.hid (show ∀ W (b : Below w.heap.size w W) W2, StoR false M W ca Oa (putK false M k0 ix c) (T0 + c) W2 → BinR false M num den n w bb tb vl vr ca cc Oa Oc (putK false M k0 ix c) k1 (T0 + c) T1 z W2 from fun W b W2 r => by
    obtain ⟨Oa', p1, p2, p3⟩ := (h.next b).put0 r
    exact ⟨Oa', Oc, p1, fun j hj => (p2 j hj).imp id fun e => Nat.le_trans b.size e, (Away.of_below (F := OwnB bb tb vl vr Oa Oc) b).trans' p3 (fun _ _ h => h) (fun _ _ h => h)⟩)
  clear h hx hx' hx0 hm hmm hm1 hm2 hng hTT hT hc hlen hkl hi4 hM1 hM2 hn hn2
  go_enter Tryz.func213, Tryz.ntmps213
  go_wp2_with fail
  refine hto.mono ?_
  rintro e w1 ⟨rfl, b1⟩
  have B1 := Lib.hid b1
  clear hto b1
  go_wp2_with fail
  refine (hpl.out _ _ (by simp) (by simp)).mono ?_
  rintro e w2 ⟨rfl, rfl⟩
  have B2 : Hid (Below w.heap.size w (w1.alloc (.cells #[.int .u64 (T : Int), .int .u64 (c : Int)] 23))) := Lib.hid (B1.out.alloc B1.out.size _)
  generalize w1.alloc (.cells #[.int .u64 (T : Int), .int .u64 (c : Int)] 23) = w2 at B2 ⊢
  clear B1 hpl
  go_wp2_with fail
  refine (ho _).mono ?_
  rintro e w3 ⟨rfl, rfl⟩
  obtain ⟨c0, c1, c2, c3, c4, c5, f3, f4, f5⟩ := hcl.out _ B2.out
  have hix2 := hix.out _ B2.out
  clear ho hix c1 c2 c3 c4 f3 f4
  go_wp2_with fail
  refine hix2.mono ?_
  rintro e w3 ⟨rfl, b3⟩
  have B3 := Lib.hid (B2.out.trans (b3.mono B2.out.size))
  obtain ⟨c0, c1, c2, c3, c4, c5, f3, f4, f5⟩ := hcl.out _ B3.out
  have ha3 := hadd.out _ B3.out
  clear hix2 b3 B2 hadd c0 c1 c2 c5 f3 f4 f5 hcl
  go_wp2_with fail
  refine ha3.mono ?_
  rintro e w4 ⟨rfl, r4⟩
  have HR := Lib.hid (FIN.out w3 B3.out w4 r4)
  clear ha3 r4
  go_wp2_with fail
  go_ret
  exact ⟨rfl, HR.out⟩

set_option maxHeartbeats 4000000 in
theorem badd_zero_L {M num den n : Nat} (hM1 : 1 ≤ M) (hM2 : M ≤ 4096) (hn : 1 ≤ n) (hn2 : n ≤ 4096) (w : World) (bb tb : Nat) (vl vr : Value) (ca cc : Nat) (Oa Oc : Nat → Prop) (k0 k1 : Row) (T0 T1 z : Nat) (h : BinO false M num den n w bb tb vl vr ca cc Oa Oc k0 k1 T0 T1 z) (x : Int) (hx : I64 x) (hx0 : x = 0) (c : Nat) (hc : 1 ≤ c) (hT : T0 + z + T1 + c ≤ 9223372036854775807) :
    Calls Tryz.prog 213 #[.pointer (some ⟨bb, 0, none⟩), .int .i64 x, .int .u64 (c : Int)] w fun e w' => e = .returned (.int .i64 0) ∧ BinR false M num den n w bb tb vl vr ca cc Oa Oc k0 k1 T0 T1 (z + c) w' := by
  have hx' := hx
  unfold I64 at hx'
  have ho := fun W => Sg.of_any x W hx'.1 hx'.2
  obtain ⟨m, hm⟩ : ∃ m, m = (Sg.mag x).toNat := ⟨_, rfl⟩
  have hmm : Sg.mag x = (m : Int) := by have := Sg.mag_or x; omega
  have hm1 : m = 0 := by have := Sg.mag_or x; omega
  have hm2 : m ≤ 9223372036854775808 := by have := Sg.mag_or x; omega
  have hng : Sg.neg x = false := by unfold Sg.neg; simp; omega
  rw [hmm, hng] at ho
  subst hm1
  have hix := Lib.hid (fun W (b : Below w.heap.size w W) => index_zero W tb)
  have hto := btot_L w bb tb vl vr ca cc Oa Oc k0 k1 T0 T1 z h (by omega)
  obtain ⟨T, hTT⟩ : ∃ T, T = T0 + z + T1 := ⟨_, rfl⟩
  rw [← hTT] at hto hT
  have hpl := Lib.hid (fun W b => plus_any W b T c hT)
  have g1 : ((c : Int) == 0) = false := by simp; omega
  have hmi := fun W => mindex tb W
  have hcl := Lib.hid (fun W (b : Below w.heap.size w W) => bcells_L (h.next b))
  obtain ⟨z2, hz2⟩ : ∃ z2, z2 = z + c := ⟨_, rfl⟩
  have hwz : IntKind.u64.wrap ((z : Int) + (c : Int)) = (z2 : Int) := by rw [IntKind.wrap_u64]; omega
  rw [← hz2]
  have FIN := Lib.hid (show ∀ W (b : Below w.heap.size w W), BinR false M num den n w bb tb vl vr ca cc Oa Oc k0 k1 T0 T1 z2 (W.setCell ⟨bb, 5, none⟩ (.int .u64 (z2 : Int))) from fun W b => (BinR.start h b).step fun Oa' Oc' k => k.rz z2)
  clear h hx hx' hx0 hm hmm hm2 hng hTT hT hc hz2 hM1 hM2 hn hn2
  go_enter Tryz.func213, Tryz.ntmps213
  go_wp2_with fail
  refine hto.mono ?_
  rintro e w1 ⟨rfl, b1⟩
  have B1 := Lib.hid b1
  clear hto b1
  go_wp2_with fail
  refine (hpl.out _ _ (by simp) (by simp)).mono ?_
  rintro e w2 ⟨rfl, rfl⟩
  have B2 : Hid (Below w.heap.size w (w1.alloc (.cells #[.int .u64 (T : Int), .int .u64 (c : Int)] 23))) := Lib.hid (B1.out.alloc B1.out.size _)
  generalize w1.alloc (.cells #[.int .u64 (T : Int), .int .u64 (c : Int)] 23) = w2 at B2 ⊢
  clear B1 hpl
  go_wp2_with fail
  refine (ho _).mono ?_
  rintro e w3 ⟨rfl, rfl⟩
  obtain ⟨c0, c1, c2, c3, c4, c5, f3, f4, f5⟩ := hcl.out _ B2.out
  have hix2 := hix.out _ B2.out
  clear ho hix c1 c2 c3 c4 f3 f4
  go_wp2_with fail
  refine hix2.mono ?_
  rintro e w3 ⟨rfl, b3⟩
  subst b3
  have HR := Lib.hid (FIN.out w2 B2.out)
  clear hix2 FIN hcl B2
  go_wp2_with fail
  go_ret
  exact ⟨rfl, HR.out⟩

set_option maxHeartbeats 4000000 in
theorem badd_pos_L {M num den n : Nat} (hM1 : 1 ≤ M) (hM2 : M ≤ 4096) (hn : 1 ≤ n) (hn2 : n ≤ 4096) (w : World) (bb tb : Nat) (vl vr : Value) (ca cc : Nat) (Oa Oc : Nat → Prop) (k0 k1 : Row) (T0 T1 z : Nat) (h : BinO false M num den n w bb tb vl vr ca cc Oa Oc k0 k1 T0 T1 z) (x : Int) (hx : I64 x) (hx0 : 0 < x) (c : Nat) (hc : 1 ≤ c) (hT : T0 + z + T1 + c ≤ 9223372036854775807) (hlen : (putK false M k1 (cix num den n (Sg.mag x).toNat) c).length ≤ M) (hkl : k1.length ≤ M) :
    Calls Tryz.prog 213 #[.pointer (some ⟨bb, 0, none⟩), .int .i64 x, .int .u64 (c : Int)] w fun e w' => e = .returned (.int .i64 0) ∧ BinR false M num den n w bb tb vl vr ca cc Oa Oc k0 (putK false M k1 (cix num den n (Sg.mag x).toNat) c) T0 (T1 + c) z w' := by
  have hx' := hx
  unfold I64 at hx'
  have ho := fun W => Sg.of_any x W hx'.1 hx'.2
  obtain ⟨m, hm⟩ : ∃ m, m = (Sg.mag x).toNat := ⟨_, rfl⟩
  have hmm : Sg.mag x = (m : Int) := by have := Sg.mag_or x; omega
  have hm1 : 1 ≤ m := by have := Sg.mag_or x; omega
  have hm2 : m ≤ 9223372036854775808 := by have := Sg.mag_or x; omega
  have hng : Sg.neg x = false := by unfold Sg.neg; simp; omega
  rw [hmm, hng] at ho
  rw [← hm] at hlen ⊢
  have hix := Lib.hid (fun W (b : Below w.heap.size w W) => index_any W tb vl vr num den n (h.next b).tab hn hn2 m hm1 hm2)
  have hi4 : cix num den n m < 4096 := Nat.lt_of_lt_of_le (cix_lt hn hm1) hn2
  generalize cix num den n m = ix at *
  have hto := btot_L w bb tb vl vr ca cc Oa Oc k0 k1 T0 T1 z h (by omega)
  obtain ⟨T, hTT⟩ : ∃ T, T = T0 + z + T1 := ⟨_, rfl⟩
  rw [← hTT] at hto hT
  have hpl := Lib.hid (fun W b => plus_any W b T c hT)
  have g1 : ((c : Int) == 0) = false := by simp; omega
  have hmi := fun W => mindex tb W
  have hcl := Lib.hid (fun W (b : Below w.heap.size w W) => bcells_L (h.next b))
  have hma := fun W => madd_L cc W
  have hen := fun a W => (ent_L a W).2.2.2
  have hadd := Lib.hid (fun W (b : Below w.heap.size w W) => sadd_L hM1 hM2 W cc Oc k1 T1 (h.next b).s1 ix c hi4 hc (by omega) hlen hkl)
  have FIN := Lib.hid (show ∀ W (b : Below w.heap.size w W) W2, StoR false M W cc Oc (putK false M k1 ix c) (T1 + c) W2 → BinR false M num den n w bb tb vl vr ca cc Oa Oc k0 (putK false M k1 ix c) T0 (T1 + c) z W2 from fun W b W2 r => by
    obtain ⟨Oa', p1, p2, p3⟩ := (h.next b).put1 r
    exact ⟨Oa, Oa', p1, fun j hj => (p2 j hj).imp id fun e => Nat.le_trans b.size e, (Away.of_below (F := OwnB bb tb vl vr Oa Oc) b).trans' p3 (fun _ _ h => h) (fun _ _ h => h)⟩)
  clear h hx hx' hx0 hm hmm hm1 hm2 hng hTT hT hc hlen hkl hi4 hM1 hM2 hn hn2
  go_enter Tryz.func213, Tryz.ntmps213
  go_wp2_with fail
  refine hto.mono ?_
  rintro e w1 ⟨rfl, b1⟩
  have B1 := Lib.hid b1
  clear hto b1
  go_wp2_with fail
  refine (hpl.out _ _ (by simp) (by simp)).mono ?_
  rintro e w2 ⟨rfl, rfl⟩
  have B2 : Hid (Below w.heap.size w (w1.alloc (.cells #[.int .u64 (T : Int), .int .u64 (c : Int)] 23))) := Lib.hid (B1.out.alloc B1.out.size _)
  generalize w1.alloc (.cells #[.int .u64 (T : Int), .int .u64 (c : Int)] 23) = w2 at B2 ⊢
  clear B1 hpl
  go_wp2_with fail
  refine (ho _).mono ?_
  rintro e w3 ⟨rfl, rfl⟩
  obtain ⟨c0, c1, c2, c3, c4, c5, f3, f4, f5⟩ := hcl.out _ B2.out
  have hix2 := hix.out _ B2.out
  clear ho hix c1 c2 c3 c4 f3 f4
  go_wp2_with fail
  refine hix2.mono ?_
  rintro e w3 ⟨rfl, b3⟩
  have B3 := Lib.hid (B2.out.trans (b3.mono B2.out.size))
  obtain ⟨c0, c1, c2, c3, c4, c5, f3, f4, f5⟩ := hcl.out _ B3.out
  have ha3 := hadd.out _ B3.out
  clear hix2 b3 B2 hadd c0 c1 c2 c5 f3 f4 f5 hcl
  go_wp2_with fail
  refine ha3.mono ?_
  rintro e w4 ⟨rfl, r4⟩
  have HR := Lib.hid (FIN.out w3 B3.out w4 r4)
  clear ha3 r4
  go_wp2_with fail
  go_ret
  exact ⟨rfl, HR.out⟩

set_option maxHeartbeats 8000000 in
theorem badd_none_L (w : World) (bb : Nat) (x : Int) :
    Calls Tryz.prog 213 #[.pointer (some ⟨bb, 0, none⟩), .int .i64 x, .int .u64 0] w fun e w' => e = .returned (.int .i64 1) ∧ w = w' := by
  go_enter Tryz.func213, Tryz.ntmps213
  go_wp2_with fail
  go_ret
  exact ⟨rfl, rfl⟩

set_option maxHeartbeats 8000000 in
theorem bmerge_L {M num den n num2 den2 n2 : Nat} (hM1 : 1 ≤ M) (hM2 : M ≤ 4096) (w : World) (bb tb : Nat) (vl vr : Value) (ca cc : Nat) (Oa Oc : Nat → Prop) (k0 k1 : Row) (T0 T1 z : Nat) (h : BinO false M num den n w bb tb vl vr ca cc Oa Oc k0 k1 T0 T1 z)
    (ob ub : Nat) (ul ur : Value) (da dc : Nat) (Na Nc : Nat → Prop) (m0 m1 : Row) (U0 U1 y : Nat) (g : BinO false M num2 den2 n2 w ob ub ul ur da dc Na Nc m0 m1 U0 U1 y) (hap : ∀ j, OwnB bb tb vl vr Oa Oc j → ¬ OwnB ob ub ul ur Na Nc j) (hT : T0 + z + T1 + (U0 + y + U1) ≤ 9223372036854775807)
    (hl0 : ∀ q, (joinK false M k0 (m0.take q)).length ≤ M) (hl1 : ∀ q, (joinK false M k1 (m1.take q)).length ≤ M) (hm0 : m0.length ≤ 4096) (hm1 : m1.length ≤ 4096) :
    Calls Tryz.prog 229 #[.pointer (some ⟨bb, 0, none⟩), .pointer (some ⟨ob, 0, none⟩)] w fun e w' => e = .returned (.int .i64 0) ∧ BinR false M num den n w bb tb vl vr ca cc Oa Oc (joinK false M k0 m0) (joinK false M k1 m1) (T0 + U0) (T1 + U1) (z + y) w' := by
  have hlk := blike_L w bb tb vl vr ca cc Oa Oc k0 k1 T0 T1 z h ob ub ul ur da dc Na Nc m0 m1 U0 U1 y g
  have H0 : B2C false M num den n num2 den2 n2 w bb tb vl vr ca cc Oa Oc k0 k1 T0 T1 z ob ub ul ur da dc Na Nc m0 m1 U0 U1 y w := ⟨h, g, Below.refl _ _⟩
  have hto := Lib.hid (fun W (k : B2C false M num den n num2 den2 n2 w bb tb vl vr ca cc Oa Oc k0 k1 T0 T1 z ob ub ul ur da dc Na Nc m0 m1 U0 U1 y W) => btot_L W bb tb vl vr ca cc Oa Oc k0 k1 T0 T1 z k.b (by omega))
  have hto2 := Lib.hid (fun W (k : B2C false M num den n num2 den2 n2 w bb tb vl vr ca cc Oa Oc k0 k1 T0 T1 z ob ub ul ur da dc Na Nc m0 m1 U0 U1 y W) => btot_L W ob ub ul ur da dc Na Nc m0 m1 U0 U1 y k.o (by omega))
  obtain ⟨T, hTT⟩ : ∃ T, T = T0 + z + T1 := ⟨_, rfl⟩
  obtain ⟨U, hUU⟩ : ∃ U, U = U0 + y + U1 := ⟨_, rfl⟩
  rw [← hTT] at hto hT
  rw [← hUU] at hto2 hT
  have hpl := Lib.hid (fun W b => plus_any W b T U hT)
  obtain ⟨z2, hz2⟩ : ∃ z2, z2 = z + y := ⟨_, rfl⟩
  have hwz : IntKind.u64.wrap ((z : Int) + (y : Int)) = (z2 : Int) := by rw [IntKind.wrap_u64]; omega
  obtain ⟨k2, hk2⟩ : ∃ k2, k2 = joinK false M k0 m0 := ⟨_, rfl⟩
  obtain ⟨k3, hk3⟩ : ∃ k3, k3 = joinK false M k1 m1 := ⟨_, rfl⟩
  obtain ⟨A0, hA0⟩ : ∃ A0, A0 = T0 + U0 := ⟨_, rfl⟩
  obtain ⟨A1, hA1⟩ : ∃ A1, A1 = T1 + U1 := ⟨_, rfl⟩
  rw [← hz2, ← hk2, ← hk3, ← hA0, ← hA1]
  have hme0 := Lib.hid (show ∀ W, B2C false M num den n num2 den2 n2 w bb tb vl vr ca cc Oa Oc k0 k1 T0 T1 z ob ub ul ur da dc Na Nc m0 m1 U0 U1 y W → Calls Tryz.prog 232 #[.iface 246 (.pointer (some ⟨ca, 0, none⟩)), .iface 246 (.pointer (some ⟨da, 0, none⟩))] W fun e w' => e = .returned (.tuple #[]) ∧ ∃ Pa, BinO false M num den n w' bb tb vl vr ca cc Pa Oc k2 k1 A0 T1 z ∧ BinO false M num2 den2 n2 w' ob ub ul ur da dc Na Nc m0 m1 U0 U1 y ∧ SubO W (OwnB bb tb vl vr Oa Oc) (OwnB bb tb vl vr Pa Oc) ∧ Away (OwnB bb tb vl vr Oa Oc) W w' from fun W k => by
    refine (mergeS_L W ca da (fun e w' => StoR false M W ca Oa (joinK false M k0 m0) (T0 + U0) w') ((smerge_L hM1 hM2 W ca da Oa Na k0 m0 T0 U0 k.b.s0 k.o.s0 (by omega) hl0 hm0).mono fun e w' hh => ⟨⟨_, hh.1⟩, hh.2⟩)).mono fun e w' hh => ?_
    obtain ⟨he, _, r⟩ := hh
    rw [← hk2, ← hA0] at r
    obtain ⟨Pa, p1, p2, p3⟩ := k.b.put0 r
    exact ⟨he, Pa, p1, k.o.away p3 fun j hj hb => hap j hb hj, p2, p3⟩)
  have hme1 := Lib.hid (show ∀ W Pa, BinO false M num den n W bb tb vl vr ca cc Pa Oc k2 k1 A0 T1 z → BinO false M num2 den2 n2 W ob ub ul ur da dc Na Nc m0 m1 U0 U1 y → (∀ j, OwnB bb tb vl vr Pa Oc j → ¬ OwnB ob ub ul ur Na Nc j) → Calls Tryz.prog 232 #[.iface 246 (.pointer (some ⟨cc, 0, none⟩)), .iface 246 (.pointer (some ⟨dc, 0, none⟩))] W fun e w' => e = .returned (.tuple #[]) ∧ ∃ Pc, BinO false M num den n w' bb tb vl vr ca cc Pa Pc k2 k3 A0 A1 z ∧ BinO false M num2 den2 n2 w' ob ub ul ur da dc Na Nc m0 m1 U0 U1 y ∧ SubO W (OwnB bb tb vl vr Pa Oc) (OwnB bb tb vl vr Pa Pc) ∧ Away (OwnB bb tb vl vr Pa Oc) W w' from fun W Pa kb ko kap => by
    refine (mergeS_L W cc dc (fun e w' => StoR false M W cc Oc (joinK false M k1 m1) (T1 + U1) w') ((smerge_L hM1 hM2 W cc dc Oc Nc k1 m1 T1 U1 kb.s1 ko.s1 (by omega) hl1 hm1).mono fun e w' hh => ⟨⟨_, hh.1⟩, hh.2⟩)).mono fun e w' hh => ?_
    obtain ⟨he, _, r⟩ := hh
    rw [← hk3, ← hA1] at r
    obtain ⟨Pc, p1, p2, p3⟩ := kb.put1 r
    exact ⟨he, Pc, p1, ko.away p3 fun j hj hb => kap j hb hj, p2, p3⟩)
  have HAP := Lib.hid hap
  have HG := Lib.hid (And.intro h g)
  clear h g hap hT hl0 hl1 hm0 hm1 hTT hUU hz2 hk2 hk3 hA0 hA1 hM1 hM2
  go_enter Tryz.func229, Tryz.ntmps229
  go_wp2_with fail
  refine hlk.mono ?_
  rintro e w1 ⟨rfl, b1⟩
  have H1 := H0.next b1
  have t1 := hto.out w1 H1
  have H1 := Lib.hid H1
  clear hlk b1 H0 hto
  go_wp2_with fail
  refine t1.mono ?_
  rintro e w2 ⟨rfl, b2⟩
  have H2 := H1.out.next b2
  have t2 := hto2.out w2 H2
  have H2 := Lib.hid H2
  clear t1 b2 H1 hto2
  go_wp2_with fail
  refine t2.mono ?_
  rintro e w3 ⟨rfl, b3⟩
  have H3 := H2.out.next b3
  have H4 : Hid (B2C false M num den n num2 den2 n2 w bb tb vl vr ca cc Oa Oc k0 k1 T0 T1 z ob ub ul ur da dc Na Nc m0 m1 U0 U1 y (w3.alloc (.cells #[.int .u64 (T : Int), .int .u64 (U : Int)] 23))) := Lib.hid (H3.next ((Below.refl _ _).alloc (Nat.le_refl _) _))
  clear t2 b3 H2 H3
  go_wp2_with fail
  refine (hpl.out _ _ (by simp) (by simp)).mono ?_
  rintro e w4 ⟨rfl, rfl⟩
  generalize w3.alloc (.cells #[.int .u64 (T : Int), .int .u64 (U : Int)] 23) = w4 at H4 ⊢
  clear hpl
  go_upto_region 8 with fail
  refine wp_region_quiet_tail 8 (C := B2C false M num den n num2 den2 n2 w bb tb vl vr ca cc Oa Oc k0 k1 T0 T1 z ob ub ul ur da dc Na Nc m0 m1 U0 U1 y) (by kernel_rfl) (by kernel_rfl) (H4.out.next (Below.refl _ _).drew) ?_
  simp only [List.take_succ_cons, List.take_zero, List.drop_succ_cons, List.drop_zero]
  repeat (first | go_big_quiet_skip | (go_big_quiet_want; go_big_quiet_op; first | go_big_quiet_on | (refine quiet_const ?_; go_big_quiet_on)))
  go_big_quiet_want
  refine ⟨.iface 246 (.pointer (some ⟨ca, 0, none⟩)), fun wx hx => ?_, ?_⟩
  · obtain ⟨c0, c1, c2, c3, c4, c5, f3, f4, f5⟩ := bcells_L hx.b
    go_simp
  go_big_quiet_on
  simp only [Act.put, List.setIfInBounds_toArray, List.set_cons_zero, List.set_cons_succ]
  repeat (first | go_big_quiet_skip | (go_big_quiet_want; go_big_quiet_op; first | go_big_quiet_on | (refine quiet_const ?_; go_big_quiet_on)))
  go_big_quiet_want
  refine ⟨.iface 246 (.pointer (some ⟨da, 0, none⟩)), fun wx hx => ?_, ?_⟩
  · obtain ⟨c0, c1, c2, c3, c4, c5, f3, f4, f5⟩ := bcells_L hx.o
    go_simp
  go_big_quiet_on
  simp only [Act.put, List.setIfInBounds_toArray, List.set_cons_zero, List.set_cons_succ]
  repeat (first | go_big_quiet_skip | (go_big_quiet_want; go_big_quiet_op; first | go_big_quiet_on | (refine quiet_const ?_; go_big_quiet_on)))
  refine wpQuiet_nil ?_
  intro w5 H5
  have t5 := hme0.out w5 H5
  have H5 := Lib.hid H5
  clear hme0 H4
  go_wp2_with fail
  refine t5.mono ?_
  rintro e w6 ⟨rfl, Pa, p6, o6, s6, a6⟩
  obtain ⟨s60, a60⟩ := sub_trans (sub_below (P := OwnB bb tb vl vr Oa Oc) H5.out.below).1 (sub_below H5.out.below).2 s6 a6
  have ap6 := ap_sub HAP.out s60 (fun j hj => HG.out.2.lt j hj)
  have H6 : B2C false M num den n num2 den2 n2 w6 bb tb vl vr ca cc Pa Oc k2 k1 A0 T1 z ob ub ul ur da dc Na Nc m0 m1 U0 U1 y w6 := ⟨p6, o6, Below.refl _ _⟩
  have K6 := Lib.hid (And.intro s60 (And.intro a60 ap6))
  clear t5 p6 o6 s6 a6 s60 a60 ap6 H5
  go_upto_region 9 with fail
  refine wp_region_quiet_tail 8 (C := B2C false M num den n num2 den2 n2 w6 bb tb vl vr ca cc Pa Oc k2 k1 A0 T1 z ob ub ul ur da dc Na Nc m0 m1 U0 U1 y) (by kernel_rfl) (by kernel_rfl) (H6.next (Below.refl _ _).drew) ?_
  simp only [List.take_succ_cons, List.take_zero, List.drop_succ_cons, List.drop_zero]
  repeat (first | go_big_quiet_skip | (go_big_quiet_want; go_big_quiet_op; first | go_big_quiet_on | (refine quiet_const ?_; go_big_quiet_on)))
  go_big_quiet_want
  refine ⟨.iface 246 (.pointer (some ⟨cc, 0, none⟩)), fun wx hx => ?_, ?_⟩
  · obtain ⟨c0, c1, c2, c3, c4, c5, f3, f4, f5⟩ := bcells_L hx.b
    go_simp
  go_big_quiet_on
  simp only [Act.put, List.setIfInBounds_toArray, List.set_cons_zero, List.set_cons_succ]
  repeat (first | go_big_quiet_skip | (go_big_quiet_want; go_big_quiet_op; first | go_big_quiet_on | (refine quiet_const ?_; go_big_quiet_on)))
  go_big_quiet_want
  refine ⟨.iface 246 (.pointer (some ⟨dc, 0, none⟩)), fun wx hx => ?_, ?_⟩
  · obtain ⟨c0, c1, c2, c3, c4, c5, f3, f4, f5⟩ := bcells_L hx.o
    go_simp
  go_big_quiet_on
  simp only [Act.put, List.setIfInBounds_toArray, List.set_cons_zero, List.set_cons_succ]
  repeat (first | go_big_quiet_skip | (go_big_quiet_want; go_big_quiet_op; first | go_big_quiet_on | (refine quiet_const ?_; go_big_quiet_on)))
  refine wpQuiet_nil ?_
  intro w7 H7
  have t7 := hme1.out w7 Pa H7.b H7.o K6.out.2.2
  have H7 := Lib.hid H7
  clear hme1 H6
  go_wp2_with fail
  refine t7.mono ?_
  rintro e w8 ⟨rfl, Pc, p8, o8, s8, a8⟩
  obtain ⟨s70, a70⟩ := sub_trans K6.out.1 K6.out.2.1 (sub_below (P := OwnB bb tb vl vr Pa Oc) H7.out.below).1 (sub_below H7.out.below).2
  obtain ⟨s80, a80⟩ := sub_trans s70 a70 s8 a8
  obtain ⟨c0, c1, c2, c3, c4, c5, f3, f4, f5⟩ := bcells_L p8
  obtain ⟨_, _, _, _, _, d5, _, _, _⟩ := bcells_L o8
  have hne : bb ≠ ob := fun e => HAP.out bb (.inl rfl) (.inl e)
  obtain ⟨p9, a9⟩ := p8.zero z2
  obtain ⟨s90, a90⟩ := sub_trans s80 a80 (fun j hj => .inl hj) a9
  have HR := Lib.hid (show BinR false M num den n w bb tb vl vr ca cc Oa Oc k2 k3 A0 A1 z2 (w8.setCell ⟨bb, 5, none⟩ (.int .u64 (z2 : Int))).drew from BinR.next ⟨Pa, Pc, p9, s90, a90⟩ (Below.refl _ _).drew)
  clear t7 p8 o8 s8 a8 s70 a70 s80 a80 p9 a9 s90 a90 H7 K6 c0 c1 c2 c3 c4 f3 f4 HAP HG
  go_upto_region 10 with fail
  rename_i KK
  go_region_with fail
  all_goals (
    refine KK _ _ ?_
    go_wp2_with fail
    go_ret
    exact ⟨rfl, HR.out⟩)

set_option maxHeartbeats 4000000 in
theorem badd_neg_H {M num den n : Nat} (hM1 : 1 ≤ M) (hM2 : M ≤ 4096) (hn : 1 ≤ n) (hn2 : n ≤ 4096) (w : World) (bb tb : Nat) (vl vr : Value) (ca cc : Nat) (Oa Oc : Nat → Prop) (k0 k1 : Row) (T0 T1 z : Nat) (h : BinO true M num den n w bb tb vl vr ca cc Oa Oc k0 k1 T0 T1 z) (x : Int) (hx : I64 x) (hx0 : x < 0) (c : Nat) (hc : 1 ≤ c) (hT : T0 + z + T1 + c ≤ 9223372036854775807) (hlen : (putK true M k0 (cix num den n (Sg.mag x).toNat) c).length ≤ M) (hkl : k0.length ≤ M) :
    Calls Tryz.prog 213 #[.pointer (some ⟨bb, 0, none⟩), .int .i64 x, .int .u64 (c : Int)] w fun e w' => e = .returned (.int .i64 0) ∧ BinR true M num den n w bb tb vl vr ca cc Oa Oc (putK true M k0 (cix num den n (Sg.mag x).toNat) c) k1 (T0 + c) T1 z w' := by
  have hx' := hx
  unfold I64 at hx'
  have ho := fun W => Sg.of_any x W hx'.1 hx'.2
  obtain ⟨m, hm⟩ : ∃ m, m = (Sg.mag x).toNat := ⟨_, rfl⟩
  have hmm : Sg.mag x = (m : Int) := by have := Sg.mag_or x; omega
  have hm1 : 1 ≤ m := by have := Sg.mag_or x; omega
  have hm2 : m ≤ 9223372036854775808 := by have := Sg.mag_or x; omega
  have hng : Sg.neg x = true := by unfold Sg.neg; simp; omega
  rw [hmm, hng] at ho
  rw [← hm] at hlen ⊢
  have hix := Lib.hid (fun W (b : Below w.heap.size w W) => index_any W tb vl vr num den n (h.next b).tab hn hn2 m hm1 hm2)
  have hi4 : cix num den n m < 4096 := Nat.lt_of_lt_of_le (cix_lt hn hm1) hn2
  generalize cix num den n m = ix at *
  have hto := btot_H w bb tb vl vr ca cc Oa Oc k0 k1 T0 T1 z h (by omega)
  obtain ⟨T, hTT⟩ : ∃ T, T = T0 + z + T1 := ⟨_, rfl⟩
  rw [← hTT] at hto hT
  have hpl := Lib.hid (fun W b => plus_any W b T c hT)
  have g1 : ((c : Int) == 0) = false := by simp; omega
  have hmi := fun W => mindex tb W
  have hcl := Lib.hid (fun W (b : Below w.heap.size w W) => bcells_H (h.next b))
  have hma := fun W => madd_H ca W
  have hen := fun a W => (ent_H a W).2.2.2
  have hadd := Lib.hid (fun W (b : Below w.heap.size w W) => sadd_H hM1 hM2 W ca Oa k0 T0 (h.next b).s0 ix c hi4 hc (by omega) hlen hkl)
  have FIN := Lib.hid (show ∀ W (b : Below w.heap.size w W) W2, StoR true M W ca Oa (putK true M k0 ix c) (T0 + c) W2 → BinR true M num den n w bb tb vl vr ca cc Oa Oc (putK true M k0 ix c) k1 (T0 + c) T1 z W2 from fun W b W2 r => by
    obtain ⟨Oa', p1, p2, p3⟩ := (h.next b).put0 r
    exact ⟨Oa', Oc, p1, fun j hj => (p2 j hj).imp id fun e => Nat.le_trans b.size e, (Away.of_below (F := OwnB bb tb vl vr Oa Oc) b).trans' p3 (fun _ _ h => h) (fun _ _ h => h)⟩)
  clear h hx hx' hx0 hm hmm hm1 hm2 hng hTT hT hc hlen hkl hi4 hM1 hM2 hn hn2
  go_enter Tryz.func213, Tryz.ntmps213
  go_wp2_with fail
  refine hto.mono ?_
  rintro e w1 ⟨rfl, b1⟩
  have B1 := Lib.hid b1
  clear hto b1
  go_wp2_with fail
  refine (hpl.out _ _ (by simp) (by simp)).mono ?_
  rintro e w2 ⟨rfl, rfl⟩
  have B2 : Hid (Below w.heap.size w (w1.alloc (.cells #[.int .u64 (T : Int), .int .u64 (c : Int)] 23))) := Lib.hid (B1.out.alloc B1.out.size _)
  generalize w1.alloc (.cells #[.int .u64 (T : Int), .int .u64 (c : Int)] 23) = w2 at B2 ⊢
  clear B1 hpl
  go_wp2_with fail
  refine (ho _).mono ?_
  rintro e w3 ⟨rfl, rfl⟩
  obtain ⟨c0, c1, c2, c3, c4, c5, f3, f4, f5⟩ := hcl.out _ B2.out
  have hix2 := hix.out _ B2.out
  clear ho hix c1 c2 c3 c4 f3 f4
  go_wp2_with fail
  refine hix2.mono ?_
  rintro e w3 ⟨rfl, b3⟩
  have B3 := Lib.hid (B2.out.trans (b3.mono B2.out.size))
  obtain ⟨c0, c1, c2, c3, c4, c5, f3, f4, f5⟩ := hcl.out _ B3.out
  have ha3 := hadd.out _ B3.out
  clear hix2 b3 B2 hadd c0 c1 c2 c5 f3 f4 f5 hcl
  go_wp2_with fail
  refine ha3.mono ?_
  rintro e w4 ⟨rfl, r4⟩
  have HR := Lib.hid (FIN.out w3 B3.out w4 r4)
  clear ha3 r4
  go_wp2_with fail
  go_ret
  exact ⟨rfl, HR.out⟩

set_option maxHeartbeats 4000000 in
theorem badd_zero_H {M num den n : Nat} (hM1 : 1 ≤ M) (hM2 : M ≤ 4096) (hn : 1 ≤ n) (hn2 : n ≤ 4096) (w : World) (bb tb : Nat) (vl vr : Value) (ca cc : Nat) (Oa Oc : Nat → Prop) (k0 k1 : Row) (T0 T1 z : Nat) (h : BinO true M num den n w bb tb vl vr ca cc Oa Oc k0 k1 T0 T1 z) (x : Int) (hx : I64 x) (hx0 : x = 0) (c : Nat) (hc : 1 ≤ c) (hT : T0 + z + T1 + c ≤ 9223372036854775807) :
    Calls Tryz.prog 213 #[.pointer (some ⟨bb, 0, none⟩), .int .i64 x, .int .u64 (c : Int)] w fun e w' => e = .returned (.int .i64 0) ∧ BinR true M num den n w bb tb vl vr ca cc Oa Oc k0 k1 T0 T1 (z + c) w' := by
  have hx' := hx
  unfold I64 at hx'
  have ho := fun W => Sg.of_any x W hx'.1 hx'.2
  obtain ⟨m, hm⟩ : ∃ m, m = (Sg.mag x).toNat := ⟨_, rfl⟩
  have hmm : Sg.mag x = (m : Int) := by have := Sg.mag_or x; omega
  have hm1 : m = 0 := by have := Sg.mag_or x; omega
  have hm2 : m ≤ 9223372036854775808 := by have := Sg.mag_or x; omega
  have hng : Sg.neg x = false := by unfold Sg.neg; simp; omega
  rw [hmm, hng] at ho
  subst hm1
  have hix := Lib.hid (fun W (b : Below w.heap.size w W) => index_zero W tb)
  have hto := btot_H w bb tb vl vr ca cc Oa Oc k0 k1 T0 T1 z h (by omega)
  obtain ⟨T, hTT⟩ : ∃ T, T = T0 + z + T1 := ⟨_, rfl⟩
  rw [← hTT] at hto hT
  have hpl := Lib.hid (fun W b => plus_any W b T c hT)
  have g1 : ((c : Int) == 0) = false := by simp; omega
  have hmi := fun W => mindex tb W
  have hcl := Lib.hid (fun W (b : Below w.heap.size w W) => bcells_H (h.next b))
  obtain ⟨z2, hz2⟩ : ∃ z2, z2 = z + c := ⟨_, rfl⟩
  have hwz : IntKind.u64.wrap ((z : Int) + (c : Int)) = (z2 : Int) := by rw [IntKind.wrap_u64]; omega
  rw [← hz2]
  have FIN := Lib.hid (show ∀ W (b : Below w.heap.size w W), BinR true M num den n w bb tb vl vr ca cc Oa Oc k0 k1 T0 T1 z2 (W.setCell ⟨bb, 5, none⟩ (.int .u64 (z2 : Int))) from fun W b => (BinR.start h b).step fun Oa' Oc' k => k.rz z2)
  clear h hx hx' hx0 hm hmm hm2 hng hTT hT hc hz2 hM1 hM2 hn hn2
  go_enter Tryz.func213, Tryz.ntmps213
  go_wp2_with fail
  refine hto.mono ?_
  rintro e w1 ⟨rfl, b1⟩
  have B1 := Lib.hid b1
  clear hto b1
  go_wp2_with fail
  refine (hpl.out _ _ (by simp) (by simp)).mono ?_
  rintro e w2 ⟨rfl, rfl⟩
  have B2 : Hid (Below w.heap.size w (w1.alloc (.cells #[.int .u64 (T : Int), .int .u64 (c : Int)] 23))) := Lib.hid (B1.out.alloc B1.out.size _)
  generalize w1.alloc (.cells #[.int .u64 (T : Int), .int .u64 (c : Int)] 23) = w2 at B2 ⊢
  clear B1 hpl
  go_wp2_with fail
  refine (ho _).mono ?_
  rintro e w3 ⟨rfl, rfl⟩
  obtain ⟨c0, c1, c2, c3, c4, c5, f3, f4, f5⟩ := hcl.out _ B2.out
  have hix2 := hix.out _ B2.out
  clear ho hix c1 c2 c3 c4 f3 f4
  go_wp2_with fail
  refine hix2.mono ?_
  rintro e w3 ⟨rfl, b3⟩
  subst b3
  have HR := Lib.hid (FIN.out w2 B2.out)
  clear hix2 FIN hcl B2
  go_wp2_with fail
  go_ret
  exact ⟨rfl, HR.out⟩

set_option maxHeartbeats 4000000 in
theorem badd_pos_H {M num den n : Nat} (hM1 : 1 ≤ M) (hM2 : M ≤ 4096) (hn : 1 ≤ n) (hn2 : n ≤ 4096) (w : World) (bb tb : Nat) (vl vr : Value) (ca cc : Nat) (Oa Oc : Nat → Prop) (k0 k1 : Row) (T0 T1 z : Nat) (h : BinO true M num den n w bb tb vl vr ca cc Oa Oc k0 k1 T0 T1 z) (x : Int) (hx : I64 x) (hx0 : 0 < x) (c : Nat) (hc : 1 ≤ c) (hT : T0 + z + T1 + c ≤ 9223372036854775807) (hlen : (putK true M k1 (cix num den n (Sg.mag x).toNat) c).length ≤ M) (hkl : k1.length ≤ M) :
    Calls Tryz.prog 213 #[.pointer (some ⟨bb, 0, none⟩), .int .i64 x, .int .u64 (c : Int)] w fun e w' => e = .returned (.int .i64 0) ∧ BinR true M num den n w bb tb vl vr ca cc Oa Oc k0 (putK true M k1 (cix num den n (Sg.mag x).toNat) c) T0 (T1 + c) z w' := by
  have hx' := hx
  unfold I64 at hx'
  have ho := fun W => Sg.of_any x W hx'.1 hx'.2
  obtain ⟨m, hm⟩ : ∃ m, m = (Sg.mag x).toNat := ⟨_, rfl⟩
  have hmm : Sg.mag x = (m : Int) := by have := Sg.mag_or x; omega
  have hm1 : 1 ≤ m := by have := Sg.mag_or x; omega
  have hm2 : m ≤ 9223372036854775808 := by have := Sg.mag_or x; omega
  have hng : Sg.neg x = false := by unfold Sg.neg; simp; omega
  rw [hmm, hng] at ho
  rw [← hm] at hlen ⊢
  have hix := Lib.hid (fun W (b : Below w.heap.size w W) => index_any W tb vl vr num den n (h.next b).tab hn hn2 m hm1 hm2)
  have hi4 : cix num den n m < 4096 := Nat.lt_of_lt_of_le (cix_lt hn hm1) hn2
  generalize cix num den n m = ix at *
  have hto := btot_H w bb tb vl vr ca cc Oa Oc k0 k1 T0 T1 z h (by omega)
  obtain ⟨T, hTT⟩ : ∃ T, T = T0 + z + T1 := ⟨_, rfl⟩
  rw [← hTT] at hto hT
  have hpl := Lib.hid (fun W b => plus_any W b T c hT)
  have g1 : ((c : Int) == 0) = false := by simp; omega
  have hmi := fun W => mindex tb W
  have hcl := Lib.hid (fun W (b : Below w.heap.size w W) => bcells_H (h.next b))
  have hma := fun W => madd_H cc W
  have hen := fun a W => (ent_H a W).2.2.2
  have hadd := Lib.hid (fun W (b : Below w.heap.size w W) => sadd_H hM1 hM2 W cc Oc k1 T1 (h.next b).s1 ix c hi4 hc (by omega) hlen hkl)
  have FIN := Lib.hid (show ∀ W (b : Below w.heap.size w W) W2, StoR true M W cc Oc (putK true M k1 ix c) (T1 + c) W2 → BinR true M num den n w bb tb vl vr ca cc Oa Oc k0 (putK true M k1 ix c) T0 (T1 + c) z W2 from fun W b W2 r => by
    obtain ⟨Oa', p1, p2, p3⟩ := (h.next b).put1 r
    exact ⟨Oa, Oa', p1, fun j hj => (p2 j hj).imp id fun e => Nat.le_trans b.size e, (Away.of_below (F := OwnB bb tb vl vr Oa Oc) b).trans' p3 (fun _ _ h => h) (fun _ _ h => h)⟩)
  clear h hx hx' hx0 hm hmm hm1 hm2 hng hTT hT hc hlen hkl hi4 hM1 hM2 hn hn2
  go_enter Tryz.func213, Tryz.ntmps213
  go_wp2_with fail
  refine hto.mono ?_
  rintro e w1 ⟨rfl, b1⟩
  have B1 := Lib.hid b1
  clear hto b1
  go_wp2_with fail
  refine (hpl.out _ _ (by simp) (by simp)).mono ?_
  rintro e w2 ⟨rfl, rfl⟩
  have B2 : Hid (Below w.heap.size w (w1.alloc (.cells #[.int .u64 (T : Int), .int .u64 (c : Int)] 23))) := Lib.hid (B1.out.alloc B1.out.size _)
  generalize w1.alloc (.cells #[.int .u64 (T : Int), .int .u64 (c : Int)] 23) = w2 at B2 ⊢
  clear B1 hpl
  go_wp2_with fail
  refine (ho _).mono ?_
  rintro e w3 ⟨rfl, rfl⟩
  obtain ⟨c0, c1, c2, c3, c4, c5, f3, f4, f5⟩ := hcl.out _ B2.out
  have hix2 := hix.out _ B2.out
  clear ho hix c1 c2 c3 c4 f3 f4
  go_wp2_with fail
  refine hix2.mono ?_
  rintro e w3 ⟨rfl, b3⟩
  have B3 := Lib.hid (B2.out.trans (b3.mono B2.out.size))
  obtain ⟨c0, c1, c2, c3, c4, c5, f3, f4, f5⟩ := hcl.out _ B3.out
  have ha3 := hadd.out _ B3.out
  clear hix2 b3 B2 hadd c0 c1 c2 c5 f3 f4 f5 hcl
  go_wp2_with fail
  refine ha3.mono ?_
  rintro e w4 ⟨rfl, r4⟩
  have HR := Lib.hid (FIN.out w3 B3.out w4 r4)
  clear ha3 r4
  go_wp2_with fail
  go_ret
  exact ⟨rfl, HR.out⟩

set_option maxHeartbeats 8000000 in
theorem badd_none_H (w : World) (bb : Nat) (x : Int) :
    Calls Tryz.prog 213 #[.pointer (some ⟨bb, 0, none⟩), .int .i64 x, .int .u64 0] w fun e w' => e = .returned (.int .i64 1) ∧ w = w' := by
  go_enter Tryz.func213, Tryz.ntmps213
  go_wp2_with fail
  go_ret
  exact ⟨rfl, rfl⟩

set_option maxHeartbeats 8000000 in
theorem bmerge_H {M num den n num2 den2 n2 : Nat} (hM1 : 1 ≤ M) (hM2 : M ≤ 4096) (w : World) (bb tb : Nat) (vl vr : Value) (ca cc : Nat) (Oa Oc : Nat → Prop) (k0 k1 : Row) (T0 T1 z : Nat) (h : BinO true M num den n w bb tb vl vr ca cc Oa Oc k0 k1 T0 T1 z)
    (ob ub : Nat) (ul ur : Value) (da dc : Nat) (Na Nc : Nat → Prop) (m0 m1 : Row) (U0 U1 y : Nat) (g : BinO true M num2 den2 n2 w ob ub ul ur da dc Na Nc m0 m1 U0 U1 y) (hap : ∀ j, OwnB bb tb vl vr Oa Oc j → ¬ OwnB ob ub ul ur Na Nc j) (hT : T0 + z + T1 + (U0 + y + U1) ≤ 9223372036854775807)
    (hl0 : ∀ q, (joinK true M k0 (m0.take q)).length ≤ M) (hl1 : ∀ q, (joinK true M k1 (m1.take q)).length ≤ M) (hm0 : m0.length ≤ 4096) (hm1 : m1.length ≤ 4096) :
    Calls Tryz.prog 229 #[.pointer (some ⟨bb, 0, none⟩), .pointer (some ⟨ob, 0, none⟩)] w fun e w' => e = .returned (.int .i64 0) ∧ BinR true M num den n w bb tb vl vr ca cc Oa Oc (joinK true M k0 m0) (joinK true M k1 m1) (T0 + U0) (T1 + U1) (z + y) w' := by
  have hlk := blike_H w bb tb vl vr ca cc Oa Oc k0 k1 T0 T1 z h ob ub ul ur da dc Na Nc m0 m1 U0 U1 y g
  have H0 : B2C true M num den n num2 den2 n2 w bb tb vl vr ca cc Oa Oc k0 k1 T0 T1 z ob ub ul ur da dc Na Nc m0 m1 U0 U1 y w := ⟨h, g, Below.refl _ _⟩
  have hto := Lib.hid (fun W (k : B2C true M num den n num2 den2 n2 w bb tb vl vr ca cc Oa Oc k0 k1 T0 T1 z ob ub ul ur da dc Na Nc m0 m1 U0 U1 y W) => btot_H W bb tb vl vr ca cc Oa Oc k0 k1 T0 T1 z k.b (by omega))
  have hto2 := Lib.hid (fun W (k : B2C true M num den n num2 den2 n2 w bb tb vl vr ca cc Oa Oc k0 k1 T0 T1 z ob ub ul ur da dc Na Nc m0 m1 U0 U1 y W) => btot_H W ob ub ul ur da dc Na Nc m0 m1 U0 U1 y k.o (by omega))
  obtain ⟨T, hTT⟩ : ∃ T, T = T0 + z + T1 := ⟨_, rfl⟩
  obtain ⟨U, hUU⟩ : ∃ U, U = U0 + y + U1 := ⟨_, rfl⟩
  rw [← hTT] at hto hT
  rw [← hUU] at hto2 hT
  have hpl := Lib.hid (fun W b => plus_any W b T U hT)
  obtain ⟨z2, hz2⟩ : ∃ z2, z2 = z + y := ⟨_, rfl⟩
  have hwz : IntKind.u64.wrap ((z : Int) + (y : Int)) = (z2 : Int) := by rw [IntKind.wrap_u64]; omega
  obtain ⟨k2, hk2⟩ : ∃ k2, k2 = joinK true M k0 m0 := ⟨_, rfl⟩
  obtain ⟨k3, hk3⟩ : ∃ k3, k3 = joinK true M k1 m1 := ⟨_, rfl⟩
  obtain ⟨A0, hA0⟩ : ∃ A0, A0 = T0 + U0 := ⟨_, rfl⟩
  obtain ⟨A1, hA1⟩ : ∃ A1, A1 = T1 + U1 := ⟨_, rfl⟩
  rw [← hz2, ← hk2, ← hk3, ← hA0, ← hA1]
  have hme0 := Lib.hid (show ∀ W, B2C true M num den n num2 den2 n2 w bb tb vl vr ca cc Oa Oc k0 k1 T0 T1 z ob ub ul ur da dc Na Nc m0 m1 U0 U1 y W → Calls Tryz.prog 232 #[.iface 243 (.pointer (some ⟨ca, 0, none⟩)), .iface 243 (.pointer (some ⟨da, 0, none⟩))] W fun e w' => e = .returned (.tuple #[]) ∧ ∃ Pa, BinO true M num den n w' bb tb vl vr ca cc Pa Oc k2 k1 A0 T1 z ∧ BinO true M num2 den2 n2 w' ob ub ul ur da dc Na Nc m0 m1 U0 U1 y ∧ SubO W (OwnB bb tb vl vr Oa Oc) (OwnB bb tb vl vr Pa Oc) ∧ Away (OwnB bb tb vl vr Oa Oc) W w' from fun W k => by
    refine (mergeS_H W ca da (fun e w' => StoR true M W ca Oa (joinK true M k0 m0) (T0 + U0) w') ((smerge_H hM1 hM2 W ca da Oa Na k0 m0 T0 U0 k.b.s0 k.o.s0 (by omega) hl0 hm0).mono fun e w' hh => ⟨⟨_, hh.1⟩, hh.2⟩)).mono fun e w' hh => ?_
    obtain ⟨he, _, r⟩ := hh
    rw [← hk2, ← hA0] at r
    obtain ⟨Pa, p1, p2, p3⟩ := k.b.put0 r
    exact ⟨he, Pa, p1, k.o.away p3 fun j hj hb => hap j hb hj, p2, p3⟩)
  have hme1 := Lib.hid (show ∀ W Pa, BinO true M num den n W bb tb vl vr ca cc Pa Oc k2 k1 A0 T1 z → BinO true M num2 den2 n2 W ob ub ul ur da dc Na Nc m0 m1 U0 U1 y → (∀ j, OwnB bb tb vl vr Pa Oc j → ¬ OwnB ob ub ul ur Na Nc j) → Calls Tryz.prog 232 #[.iface 243 (.pointer (some ⟨cc, 0, none⟩)), .iface 243 (.pointer (some ⟨dc, 0, none⟩))] W fun e w' => e = .returned (.tuple #[]) ∧ ∃ Pc, BinO true M num den n w' bb tb vl vr ca cc Pa Pc k2 k3 A0 A1 z ∧ BinO true M num2 den2 n2 w' ob ub ul ur da dc Na Nc m0 m1 U0 U1 y ∧ SubO W (OwnB bb tb vl vr Pa Oc) (OwnB bb tb vl vr Pa Pc) ∧ Away (OwnB bb tb vl vr Pa Oc) W w' from fun W Pa kb ko kap => by
    refine (mergeS_H W cc dc (fun e w' => StoR true M W cc Oc (joinK true M k1 m1) (T1 + U1) w') ((smerge_H hM1 hM2 W cc dc Oc Nc k1 m1 T1 U1 kb.s1 ko.s1 (by omega) hl1 hm1).mono fun e w' hh => ⟨⟨_, hh.1⟩, hh.2⟩)).mono fun e w' hh => ?_
    obtain ⟨he, _, r⟩ := hh
    rw [← hk3, ← hA1] at r
    obtain ⟨Pc, p1, p2, p3⟩ := kb.put1 r
    exact ⟨he, Pc, p1, ko.away p3 fun j hj hb => kap j hb hj, p2, p3⟩)
  have HAP := Lib.hid hap
  have HG := Lib.hid (And.intro h g)
  clear h g hap hT hl0 hl1 hm0 hm1 hTT hUU hz2 hk2 hk3 hA0 hA1 hM1 hM2
  go_enter Tryz.func229, Tryz.ntmps229
  go_wp2_with fail
  refine hlk.mono ?_
  rintro e w1 ⟨rfl, b1⟩
  have H1 := H0.next b1
  have t1 := hto.out w1 H1
  have H1 := Lib.hid H1
  clear hlk b1 H0 hto
  go_wp2_with fail
  refine t1.mono ?_
  rintro e w2 ⟨rfl, b2⟩
  have H2 := H1.out.next b2
  have t2 := hto2.out w2 H2
  have H2 := Lib.hid H2
  clear t1 b2 H1 hto2
  go_wp2_with fail
  refine t2.mono ?_
  rintro e w3 ⟨rfl, b3⟩
  have H3 := H2.out.next b3
  have H4 : Hid (B2C true M num den n num2 den2 n2 w bb tb vl vr ca cc Oa Oc k0 k1 T0 T1 z ob ub ul ur da dc Na Nc m0 m1 U0 U1 y (w3.alloc (.cells #[.int .u64 (T : Int), .int .u64 (U : Int)] 23))) := Lib.hid (H3.next ((Below.refl _ _).alloc (Nat.le_refl _) _))
  clear t2 b3 H2 H3
  go_wp2_with fail
  refine (hpl.out _ _ (by simp) (by simp)).mono ?_
  rintro e w4 ⟨rfl, rfl⟩
  generalize w3.alloc (.cells #[.int .u64 (T : Int), .int .u64 (U : Int)] 23) = w4 at H4 ⊢
  clear hpl
  go_upto_region 8 with fail
  refine wp_region_quiet_tail 8 (C := B2C true M num den n num2 den2 n2 w bb tb vl vr ca cc Oa Oc k0 k1 T0 T1 z ob ub ul ur da dc Na Nc m0 m1 U0 U1 y) (by kernel_rfl) (by kernel_rfl) (H4.out.next (Below.refl _ _).drew) ?_
  simp only [List.take_succ_cons, List.take_zero, List.drop_succ_cons, List.drop_zero]
  repeat (first | go_big_quiet_skip | (go_big_quiet_want; go_big_quiet_op; first | go_big_quiet_on | (refine quiet_const ?_; go_big_quiet_on)))
  go_big_quiet_want
  refine ⟨.iface 243 (.pointer (some ⟨ca, 0, none⟩)), fun wx hx => ?_, ?_⟩
  · obtain ⟨c0, c1, c2, c3, c4, c5, f3, f4, f5⟩ := bcells_H hx.b
    go_simp
  go_big_quiet_on
  simp only [Act.put, List.setIfInBounds_toArray, List.set_cons_zero, List.set_cons_succ]
  repeat (first | go_big_quiet_skip | (go_big_quiet_want; go_big_quiet_op; first | go_big_quiet_on | (refine quiet_const ?_; go_big_quiet_on)))
  go_big_quiet_want
  refine ⟨.iface 243 (.pointer (some ⟨da, 0, none⟩)), fun wx hx => ?_, ?_⟩
  · obtain ⟨c0, c1, c2, c3, c4, c5, f3, f4, f5⟩ := bcells_H hx.o
    go_simp
  go_big_quiet_on
  simp only [Act.put, List.setIfInBounds_toArray, List.set_cons_zero, List.set_cons_succ]
  repeat (first | go_big_quiet_skip | (go_big_quiet_want; go_big_quiet_op; first | go_big_quiet_on | (refine quiet_const ?_; go_big_quiet_on)))
  refine wpQuiet_nil ?_
  intro w5 H5
  have t5 := hme0.out w5 H5
  have H5 := Lib.hid H5
  clear hme0 H4
  go_wp2_with fail
  refine t5.mono ?_
  rintro e w6 ⟨rfl, Pa, p6, o6, s6, a6⟩
  obtain ⟨s60, a60⟩ := sub_trans (sub_below (P := OwnB bb tb vl vr Oa Oc) H5.out.below).1 (sub_below H5.out.below).2 s6 a6
  have ap6 := ap_sub HAP.out s60 (fun j hj => HG.out.2.lt j hj)
  have H6 : B2C true M num den n num2 den2 n2 w6 bb tb vl vr ca cc Pa Oc k2 k1 A0 T1 z ob ub ul ur da dc Na Nc m0 m1 U0 U1 y w6 := ⟨p6, o6, Below.refl _ _⟩
  have K6 := Lib.hid (And.intro s60 (And.intro a60 ap6))
  clear t5 p6 o6 s6 a6 s60 a60 ap6 H5
  go_upto_region 9 with fail
  refine wp_region_quiet_tail 8 (C := B2C true M num den n num2 den2 n2 w6 bb tb vl vr ca cc Pa Oc k2 k1 A0 T1 z ob ub ul ur da dc Na Nc m0 m1 U0 U1 y) (by kernel_rfl) (by kernel_rfl) (H6.next (Below.refl _ _).drew) ?_
  simp only [List.take_succ_cons, List.take_zero, List.drop_succ_cons, List.drop_zero]
  repeat (first | go_big_quiet_skip | (go_big_quiet_want; go_big_quiet_op; first | go_big_quiet_on | (refine quiet_const ?_; go_big_quiet_on)))
  go_big_quiet_want
  refine ⟨.iface 243 (.pointer (some ⟨cc, 0, none⟩)), fun wx hx => ?_, ?_⟩
  · obtain ⟨c0, c1, c2, c3, c4, c5, f3, f4, f5⟩ := bcells_H hx.b
    go_simp
  go_big_quiet_on
  simp only [Act.put, List.setIfInBounds_toArray, List.set_cons_zero, List.set_cons_succ]
  repeat (first | go_big_quiet_skip | (go_big_quiet_want; go_big_quiet_op; first | go_big_quiet_on | (refine quiet_const ?_; go_big_quiet_on)))
  go_big_quiet_want
  refine ⟨.iface 243 (.pointer (some ⟨dc, 0, none⟩)), fun wx hx => ?_, ?_⟩
  · obtain ⟨c0, c1, c2, c3, c4, c5, f3, f4, f5⟩ := bcells_H hx.o
    go_simp
  go_big_quiet_on
  simp only [Act.put, List.setIfInBounds_toArray, List.set_cons_zero, List.set_cons_succ]
  repeat (first | go_big_quiet_skip | (go_big_quiet_want; go_big_quiet_op; first | go_big_quiet_on | (refine quiet_const ?_; go_big_quiet_on)))
  refine wpQuiet_nil ?_
  intro w7 H7
  have t7 := hme1.out w7 Pa H7.b H7.o K6.out.2.2
  have H7 := Lib.hid H7
  clear hme1 H6
  go_wp2_with fail
  refine t7.mono ?_
  rintro e w8 ⟨rfl, Pc, p8, o8, s8, a8⟩
  obtain ⟨s70, a70⟩ := sub_trans K6.out.1 K6.out.2.1 (sub_below (P := OwnB bb tb vl vr Pa Oc) H7.out.below).1 (sub_below H7.out.below).2
  obtain ⟨s80, a80⟩ := sub_trans s70 a70 s8 a8
  obtain ⟨c0, c1, c2, c3, c4, c5, f3, f4, f5⟩ := bcells_H p8
  obtain ⟨_, _, _, _, _, d5, _, _, _⟩ := bcells_H o8
  have hne : bb ≠ ob := fun e => HAP.out bb (.inl rfl) (.inl e)
  obtain ⟨p9, a9⟩ := p8.zero z2
  obtain ⟨s90, a90⟩ := sub_trans s80 a80 (fun j hj => .inl hj) a9
  have HR := Lib.hid (show BinR true M num den n w bb tb vl vr ca cc Oa Oc k2 k3 A0 A1 z2 (w8.setCell ⟨bb, 5, none⟩ (.int .u64 (z2 : Int))).drew from BinR.next ⟨Pa, Pc, p9, s90, a90⟩ (Below.refl _ _).drew)
  clear t7 p8 o8 s8 a8 s70 a70 s80 a80 p9 a9 s90 a90 H7 K6 c0 c1 c2 c3 c4 f3 f4 HAP HG
  go_upto_region 10 with fail
  rename_i KK
  go_region_with fail
  all_goals (
    refine KK _ _ ?_
    go_wp2_with fail
    go_ret
    exact ⟨rfl, HR.out⟩)
end Go.Proofs.YtbejdajkkoapgaaGreatDoor

