/-
  Several texts in one: Lq. What each proves, and on which conditions, stands at its head. Conditions: stated in each.
-/
import Derived.Test.YtbejdajkkoapgaaGreatDoorS22
import Derived.Test.YtbejdajkkoapgaaGreatDoorS27
/-
  Contract of logCore.write. Conditions: few values.
-/
set_option linter.unusedVariables false
set_option linter.unusedSimpArgs false
set_option maxRecDepth 100000
namespace Go.Proofs.YtbejdajkkoapgaaGreatDoor
open Go.RowKit Go.Lib

/-- a quill that writes, ahead of which a log sketch lies, and two rows -/
structure LwC (hi : Bool) (M num den n : Nat) (B : Nat) (w : World) (lg bb tb : Nat) (vl vr : Value) (ca cc : Nat) (Oa Oc : Nat → Prop) (k0 k1 : Row) (T0 T1 z : Nat) (lo hh : Int) (va vb : Value) (qb : Nat) (A : Option Addr) (c : Nat) (out : List UInt8) (b cb : Nat) (W : World) : Prop where
  nas : NaS B w qb A c out W
  hd : LogO hi M num den n w lg bb tb vl vr ca cc Oa Oc k0 k1 T0 T1 z lo hh
  blk : Blk W b #[.pointer (some ⟨lg, 0, none⟩)] 122
  cfg : Blk W cb #[.int .u64 (num : Int), .int .u64 (den : Int), .int .i64 (sdV hi), .int .i64 (M : Int)] 120
  hB : B ≤ w.heap.size
  own : ∀ k, OwnL lg bb tb vl vr Oa Oc k → k < B
  ra : W.ownsRow 0 228 2 va k0.length (rowC k0)
  rb : W.ownsRow 0 228 2 vb k1.length (rowC k1)
section
variable {hi : Bool} {M num den n : Nat} {B : Nat} {w : World} {lg bb tb : Nat} {vl vr : Value} {ca cc : Nat} {Oa Oc : Nat → Prop} {k0 k1 : Row} {T0 T1 z : Nat} {lo hh : Int} {va vb : Value} {qb : Nat} {A : Option Addr} {c : Nat} {out : List UInt8} {b cb : Nat} {W W' : World}
theorem LwC.hdW (h : LwC hi M num den n B w lg bb tb vl vr ca cc Oa Oc k0 k1 T0 T1 z lo hh va vb qb A c out b cb W) : LogO hi M num den n W lg bb tb vl vr ca cc Oa Oc k0 k1 T0 T1 z lo hh := by
  have ha : Away (fun k => B ≤ k) w W := ⟨h.nas.below.os, h.nas.below.tape, h.nas.below.output, h.nas.below.size, fun k _ hn => h.nas.below.block k (by omega)⟩
  exact h.hd.away ha fun k hk => by have := h.own k hk; omega
theorem LwC.next (h : LwC hi M num den n B w lg bb tb vl vr ca cc Oa Oc k0 k1 T0 T1 z lo hh va vb qb A c out b cb W) (k : Below W.heap.size W W') : LwC hi M num den n B w lg bb tb vl vr ca cc Oa Oc k0 k1 T0 T1 z lo hh va vb qb A c out b cb W' :=
  ⟨h.nas.nextH h.hB k, h.hd, h.blk.below k h.blk.lt, h.cfg.below k h.cfg.lt, h.hB, h.own, owns_below h.ra k fun g hg => (h.ra.lt g hg).2, owns_below h.rb k fun g hg => (h.rb.lt g hg).2⟩
theorem LwC.put {A' : Option Addr} {c' : Nat} {out' : List UInt8} (h : LwC hi M num den n B w lg bb tb vl vr ca cc Oa Oc k0 k1 T0 T1 z lo hh va vb qb A c out b cb W) (k : NaS B W qb A' c' out' W') : LwC hi M num den n B w lg bb tb vl vr ca cc Oa Oc k0 k1 T0 T1 z lo hh va vb qb A' c' out' b cb W' :=
  ⟨h.nas.trans k, h.hd, k.keep _ _ _ (by decide) (by decide) h.blk, k.keep _ _ _ (by decide) (by decide) h.cfg, h.hB, h.own, k.owns h.ra, k.owns h.rb⟩
theorem LwC.cell (h : LwC hi M num den n B w lg bb tb vl vr ca cc Oa Oc k0 k1 T0 T1 z lo hh va vb qb A c out b cb W) : W.cell? ⟨b, 0, none⟩ = some (.pointer (some ⟨lg, 0, none⟩)) := h.blk.cell rfl
theorem LwC.size (h : LwC hi M num den n B w lg bb tb vl vr ca cc Oa Oc k0 k1 T0 T1 z lo hh va vb qb A c out b cb W) : B ≤ W.heap.size := Nat.le_trans h.hB h.nas.below.size
end
theorem nats4 (a b c d : Nat) : [a, b, c, d].flatMap natB = natB a ++ natB b ++ natB c ++ natB d := by simp
theorem nats3 (a b c : Nat) : [a, b, c].flatMap natB = natB a ++ natB b ++ natB c := by simp
/-- a log sketch's load -/
def loadL (num den sd M zl zh z l0 l1 : Nat) (k0 k1 : Row) : List UInt8 := natB num ++ natB den ++ natB sd ++ natB M ++ (natB zl ++ natB zh) ++ (natB z ++ natB l0 ++ natB l1) ++ rowB k0 ++ rowB k1

set_option maxHeartbeats 8000000 in
theorem lwrite_L {M num den n : Nat} (B : Nat) (w : World) (lg bb tb : Nat) (vl vr : Value) (ca cc : Nat) (Oa Oc : Nat → Prop) (k0 k1 : Row) (T0 T1 z : Nat) (lo hh : Int) (qb : Nat) (A : Option Addr) (c : Nat) (hq : QuO B w qb (.slice A ([] : List UInt8).length c) []) (hB : B ≤ w.heap.size) (h : LogO false M num den n w lg bb tb vl vr ca cc Oa Oc k0 k1 T0 T1 z lo hh) (hown : ∀ k, OwnL lg bb tb vl vr Oa Oc k → k < B)
    (hnum : num < 18446744073709551616) (hden : den < 18446744073709551616) (hM : M ≤ 4096) (hT : T0 + z + T1 ≤ 9223372036854775807) (hT0 : T0 + z + T1 = 0 → lo = 0 ∧ hh = 0) (hlo : I64 lo) (hhi : I64 hh) (w0 : WriR k0) (w1 : WriR k1) :
    Calls Tryz.prog 221 #[.agg #[.pointer (some ⟨lg, 0, none⟩)], .pointer (some ⟨qb, 0, none⟩)] w fun e w' => e = .returned (.tuple #[]) ∧ ∃ A' c', NaS B w qb A' c' (loadL num den 0 M (zigN lo) (zigN hh) z (T0 - rowTotal k0) (T1 - rowTotal k1) k0 k1) w' := by
  have S0 : NaS B w qb A c [] w := NaS.start hq
  have b0 : Below w.heap.size w (w.alloc (.cells #[.pointer (some ⟨lg, 0, none⟩)] 122)) := (Below.refl _ _).alloc (Nat.le_refl _) _
  have BX : Blk (w.alloc (.cells #[.pointer (some ⟨lg, 0, none⟩)] 122)) w.heap.size #[.pointer (some ⟨lg, 0, none⟩)] 122 := Blk.newAt rfl
  have hcfg := lconfig_L _ lg bb tb vl vr ca cc Oa Oc k0 k1 T0 T1 z lo hh (h.next b0)
  have hen := Lib.hid (fun W (k : Below w.heap.size w W) => lends3_L W lg bb tb vl vr ca cc Oa Oc k0 k1 T0 T1 z lo hh (h.next k) hT hT0)
  have hbi := Lib.hid (fun W (k : LogO false M num den n W lg bb tb vl vr ca cc Oa Oc k0 k1 T0 T1 z lo hh) => lbins_L W lg bb tb vl vr ca cc Oa Oc k0 k1 T0 T1 z lo hh k)
  have hro := Lib.hid (fun W (k : Below w.heap.size w W) => brows_L W bb tb vl vr ca cc Oa Oc k0 k1 T0 T1 z (h.next k).bn (by have := w0.1; omega) (by have := w1.1; omega))
  have hlo' := Lib.hid (fun W (k : LogO false M num den n W lg bb tb vl vr ca cc Oa Oc k0 k1 T0 T1 z lo hh) => blost_L W bb tb vl vr ca cc Oa Oc k0 k1 T0 T1 z k.bn)
  have hze := Lib.hid (fun W (k : LogO false M num den n W lg bb tb vl vr ca cc Oa Oc k0 k1 T0 T1 z lo hh) => bzero_L W bb tb vl vr ca cc Oa Oc k0 k1 T0 T1 z k.bn)
  obtain ⟨l0, hl0⟩ : ∃ l, l = T0 - rowTotal k0 := ⟨_, rfl⟩
  obtain ⟨l1, hl1⟩ : ∃ l, l = T1 - rowTotal k1 := ⟨_, rfl⟩
  rw [← hl0, ← hl1] at hlo' ⊢
  have MK := Lib.hid (show ∀ W cb va vb, Below w.heap.size w W → Blk W w.heap.size #[.pointer (some ⟨lg, 0, none⟩)] 122 → Blk W cb #[.int .u64 (num : Int), .int .u64 (den : Int), .int .i64 0, .int .i64 (M : Int)] 120 → W.ownsRow 0 228 2 va k0.length (rowC k0) → W.ownsRow 0 228 2 vb k1.length (rowC k1) → LwC false M num den n B w lg bb tb vl vr ca cc Oa Oc k0 k1 T0 T1 z lo hh va vb qb A c [] w.heap.size cb W from
    fun W cb va vb k hb' hc' ra rb => ⟨S0.nextH hB k, h, hb', hc', hB, hown, ra, rb⟩)
  have HR := Lib.hid (And.intro w0 (And.intro w1 (And.intro (rowB_len k0 w0) (rowB_len k1 w1))))
  generalize (T0 + z + T1 != 0) = tbo at hen
  have k10 := natB_len10 num hnum
  have k11 := natB_len10 den hden
  have k12 := natB_len10 (zigN lo) (zigN_eq lo hlo).2
  have k13 := natB_len10 (zigN hh) (zigN_eq hh hhi).2
  have hzT : z < 18446744073709551616 := by omega
  have hl0T : l0 < 18446744073709551616 := by omega
  have hl1T : l1 < 18446744073709551616 := by omega
  have k14 := natB_len10 z hzT
  have k15 := natB_len10 l0 hl0T
  have k16 := natB_len10 l1 hl1T
  have k17 := natB_len10 M (by omega)
  have k18 := natB_len10 0 (by decide)
  have hwM : IntKind.u64.wrap (M : Int) = (M : Int) := by rw [IntKind.wrap_u64]; omega
  have HB0 := Lib.hid (And.intro b0 (And.intro BX h))
  clear S0 hown hq h b0 BX w0 w1 hT0 hl0 hl1
  go_enter Tryz.func221, Tryz.ntmps221
  go_wp2_with fail
  refine hcfg.mono ?_
  rintro e w1 ⟨b1, rfl⟩
  have B1 := HB0.out.1.trans (b1.mono HB0.out.1.size)
  have X1 := HB0.out.2.1.below b1 HB0.out.2.1.lt
  have C1 : Blk (w1.alloc (.cells #[.int .u64 (num : Int), .int .u64 (den : Int), .int .i64 0, .int .i64 (M : Int)] 120)) w1.heap.size #[.int .u64 (num : Int), .int .u64 (den : Int), .int .i64 0, .int .i64 (M : Int)] 120 := Blk.newAt rfl
  have H1 := Lib.hid (And.intro (B1.alloc B1.size (.cells #[.int .u64 (num : Int), .int .u64 (den : Int), .int .i64 0, .int .i64 (M : Int)] 120)) (And.intro (X1.alloc (.cells #[.int .u64 (num : Int), .int .u64 (den : Int), .int .i64 0, .int .i64 (M : Int)] 120)) C1))
  have k0' : w1.cell? ⟨w.heap.size, 0, none⟩ = some (.pointer (some ⟨lg, 0, none⟩)) := X1.cell rfl
  have hx1 := X1.lt
  have he1 := hen.out _ H1.out.1
  clear hcfg b1 B1 X1 C1 hen
  go_wp2_with fail
  refine he1.mono ?_
  rintro e w2 ⟨rfl, b2⟩
  have B2 := H1.out.1.trans (b2.mono H1.out.1.size)
  have X2 := H1.out.2.1.below b2 H1.out.2.1.lt
  have C2 := H1.out.2.2.below b2 H1.out.2.2.lt
  have k0' : w2.cell? ⟨w.heap.size, 0, none⟩ = some (.pointer (some ⟨lg, 0, none⟩)) := X2.cell rfl
  have hb2 := hbi.out w2 (HB0.out.2.2.next B2)
  have hr2 := hro.out w2 B2
  have H2 := Lib.hid (And.intro B2 (And.intro X2 C2))
  clear he1 b2 B2 X2 C2 hro hx1
  go_wp2_with fail
  refine hb2.mono ?_
  rintro e w2' ⟨rfl, rfl⟩
  clear hb2
  go_wp2_with fail
  refine hr2.mono ?_
  rintro e w3 ⟨va, vb, rfl, ra, rb, b3⟩
  have D3 := MK.out w3 w1.heap.size va vb (H2.out.1.trans (b3.mono H2.out.1.size)) (H2.out.2.1.below b3 H2.out.2.1.lt) (H2.out.2.2.below b3 H2.out.2.2.lt) ra rb
  obtain ⟨Aa, pa, hva⟩ := owns_slice ra
  obtain ⟨Ab, pb, hvb⟩ := owns_slice rb
  subst hva
  subst hvb
  obtain ⟨n0, hn0⟩ : ∃ n, n = k0.length := ⟨_, rfl⟩
  obtain ⟨n1, hn1⟩ : ∃ n, n = k1.length := ⟨_, rfl⟩
  have HN := Lib.hid (And.intro hn0 hn1)
  rw [← hn0, ← hn1] at D3 ⊢
  have k0' := D3.cell
  have hb3 := hbi.out w3 D3.hdW
  have hl3 := hlo'.out w3 D3.hdW
  have H3 := Lib.hid D3
  clear hr2 ra rb b3 H2 MK hn0 hn1 D3 hlo' H1
  go_wp2_with fail
  refine hb3.mono ?_
  rintro e w3' ⟨rfl, rfl⟩
  clear hb3
  go_wp2_with fail
  refine hl3.mono ?_
  rintro e w4 ⟨rfl, b4⟩
  have D4 := H3.out.next b4
  have k0' := D4.cell
  have f0 : w4.cell? ⟨w1.heap.size, 0, none⟩ = some (.int .u64 (num : Int)) := D4.cfg.cell rfl
  have f1 : w4.cell? ⟨w1.heap.size, 1, none⟩ = some (.int .u64 (den : Int)) := D4.cfg.cell rfl
  have f2 : w4.cell? ⟨w1.heap.size, 2, none⟩ = some (.int .i64 0) := D4.cfg.cell rfl
  have f3 : w4.cell? ⟨w1.heap.size, 3, none⟩ = some (.int .i64 (M : Int)) := D4.cfg.cell rfl
  have hnt := qu_nat B (w4.alloc (.cells (u64C [num, den, 0, M]) 23)) qb w4.heap.size 4 A c [] [num, den, 0, M] (D4.nas.qu.alloc _) (by have := D4.size; simp; omega) (Blk.newAt rfl)
    (fun n hn => by simp at hn; omega) (by simp; omega) (by simp)
  have H4 := Lib.hid D4
  clear hl3 H3 b4 D4
  go_wp2_with fail
  refine hnt.mono ?_
  rintro e w5 ⟨rfl, A5, k5, S5⟩
  have H5 := (H4.out.next ((Below.refl _ _).alloc (Nat.le_refl _) _)).put S5
  rw [nats4, List.nil_append] at H5
  have hint := qu_int B (w5.alloc (.cells (i64C [lo, hh]) 2)) qb w5.heap.size 2 A5 k5 (natB num ++ natB den ++ natB 0 ++ natB M) [lo, hh] (H5.nas.qu.alloc _) (by have := H5.size; simp; omega) (Blk.newAt rfl)
      (fun x hx => by simp at hx; rcases hx with rfl | rfl; exact hlo; exact hhi) (by simp; omega) (by simp)
  have H5 := Lib.hid H5
  clear hnt S5 H4 f0 f1 f2 f3
  go_wp2_with fail
  refine hint.mono ?_
  rintro e w6 ⟨rfl, A6, k6, S6⟩
  have H6 := (H5.out.next ((Below.refl _ _).alloc (Nat.le_refl _) _)).put S6
  have k0' := H6.cell
  rw [ints2h] at H6
  have hb6 := hbi.out w6 H6.hdW
  have hz6 := hze.out w6 H6.hdW
  have H6 := Lib.hid H6
  clear hint S6 H5 hbi hze
  go_wp2_with fail
  refine hb6.mono ?_
  rintro e w6' ⟨rfl, rfl⟩
  clear hb6
  go_wp2_with fail
  refine hz6.mono ?_
  rintro e w6' ⟨rfl, rfl⟩
  have hnz := qu_nat B (w6.alloc (.cells (u64C [z, l0, l1]) 23)) qb w6.heap.size 3 A6 k6 (natB num ++ natB den ++ natB 0 ++ natB M ++ (natB (zigN lo) ++ natB (zigN hh))) [z, l0, l1] (H6.out.nas.qu.alloc _) (by have := H6.out.size; simp; omega) (Blk.newAt rfl)
      (fun n hn => by simp at hn; omega) (by simp; omega) (by simp)
  clear hz6 k0'
  go_wp2_with fail
  refine hnz.mono ?_
  rintro e w8 ⟨rfl, A8, k8, S8⟩
  have H8 := (H6.out.next ((Below.refl _ _).alloc (Nat.le_refl _) _)).put S8
  rw [nats3] at H8
  have hpa := put_any B w8 qb A8 k8 (natB num ++ natB den ++ natB 0 ++ natB M ++ (natB (zigN lo) ++ natB (zigN hh)) ++ (natB z ++ natB l0 ++ natB l1)) _ _ k0 H8.nas.qu H8.size H8.ra (by have := HR.out.1.1; omega) HR.out.1.2.1 HR.out.1.2.2 (by simp; omega)
  have HH8 := Lib.hid H8
  clear hnz S8 H8 H6
  go_wp2_with fail
  refine hpa.mono ?_
  rintro e w9 ⟨rfl, A9, k9, S9⟩
  have H9 := HH8.out.put S9
  have hpb := put_any B w9 qb A9 k9 ((natB num ++ natB den ++ natB 0 ++ natB M ++ (natB (zigN lo) ++ natB (zigN hh)) ++ (natB z ++ natB l0 ++ natB l1)) ++ rowB k0) _ _ k1 H9.nas.qu H9.size H9.rb (by have := HR.out.2.1.1; omega) HR.out.2.1.2.1 HR.out.2.1.2.2 (by have := HR.out.2.2.1; have := HR.out.1.1; simp; omega)
  have HH9 := Lib.hid H9
  clear hpa S9 H9 HH8
  go_wp2_with fail
  refine hpb.mono ?_
  rintro e w10 ⟨rfl, A10, k10', S10⟩
  have H10 := Lib.hid (HH9.out.put S10)
  clear hpb S10 HH9
  go_wp2_with fail
  go_end0
  exact ⟨rfl, A10, k10', H10.out.nas⟩

set_option maxHeartbeats 8000000 in
theorem lwrite_H {M num den n : Nat} (B : Nat) (w : World) (lg bb tb : Nat) (vl vr : Value) (ca cc : Nat) (Oa Oc : Nat → Prop) (k0 k1 : Row) (T0 T1 z : Nat) (lo hh : Int) (qb : Nat) (A : Option Addr) (c : Nat) (hq : QuO B w qb (.slice A ([] : List UInt8).length c) []) (hB : B ≤ w.heap.size) (h : LogO true M num den n w lg bb tb vl vr ca cc Oa Oc k0 k1 T0 T1 z lo hh) (hown : ∀ k, OwnL lg bb tb vl vr Oa Oc k → k < B)
    (hnum : num < 18446744073709551616) (hden : den < 18446744073709551616) (hM : M ≤ 4096) (hT : T0 + z + T1 ≤ 9223372036854775807) (hT0 : T0 + z + T1 = 0 → lo = 0 ∧ hh = 0) (hlo : I64 lo) (hhi : I64 hh) (w0 : WriR k0) (w1 : WriR k1) :
    Calls Tryz.prog 221 #[.agg #[.pointer (some ⟨lg, 0, none⟩)], .pointer (some ⟨qb, 0, none⟩)] w fun e w' => e = .returned (.tuple #[]) ∧ ∃ A' c', NaS B w qb A' c' (loadL num den 1 M (zigN lo) (zigN hh) z (T0 - rowTotal k0) (T1 - rowTotal k1) k0 k1) w' := by
  have S0 : NaS B w qb A c [] w := NaS.start hq
  have b0 : Below w.heap.size w (w.alloc (.cells #[.pointer (some ⟨lg, 0, none⟩)] 122)) := (Below.refl _ _).alloc (Nat.le_refl _) _
  have BX : Blk (w.alloc (.cells #[.pointer (some ⟨lg, 0, none⟩)] 122)) w.heap.size #[.pointer (some ⟨lg, 0, none⟩)] 122 := Blk.newAt rfl
  have hcfg := lconfig_H _ lg bb tb vl vr ca cc Oa Oc k0 k1 T0 T1 z lo hh (h.next b0)
  have hen := Lib.hid (fun W (k : Below w.heap.size w W) => lends3_H W lg bb tb vl vr ca cc Oa Oc k0 k1 T0 T1 z lo hh (h.next k) hT hT0)
  have hbi := Lib.hid (fun W (k : LogO true M num den n W lg bb tb vl vr ca cc Oa Oc k0 k1 T0 T1 z lo hh) => lbins_H W lg bb tb vl vr ca cc Oa Oc k0 k1 T0 T1 z lo hh k)
  have hro := Lib.hid (fun W (k : Below w.heap.size w W) => brows_H W bb tb vl vr ca cc Oa Oc k0 k1 T0 T1 z (h.next k).bn (by have := w0.1; omega) (by have := w1.1; omega))
  have hlo' := Lib.hid (fun W (k : LogO true M num den n W lg bb tb vl vr ca cc Oa Oc k0 k1 T0 T1 z lo hh) => blost_H W bb tb vl vr ca cc Oa Oc k0 k1 T0 T1 z k.bn)
  have hze := Lib.hid (fun W (k : LogO true M num den n W lg bb tb vl vr ca cc Oa Oc k0 k1 T0 T1 z lo hh) => bzero_H W bb tb vl vr ca cc Oa Oc k0 k1 T0 T1 z k.bn)
  obtain ⟨l0, hl0⟩ : ∃ l, l = T0 - rowTotal k0 := ⟨_, rfl⟩
  obtain ⟨l1, hl1⟩ : ∃ l, l = T1 - rowTotal k1 := ⟨_, rfl⟩
  rw [← hl0, ← hl1] at hlo' ⊢
  have MK := Lib.hid (show ∀ W cb va vb, Below w.heap.size w W → Blk W w.heap.size #[.pointer (some ⟨lg, 0, none⟩)] 122 → Blk W cb #[.int .u64 (num : Int), .int .u64 (den : Int), .int .i64 1, .int .i64 (M : Int)] 120 → W.ownsRow 0 228 2 va k0.length (rowC k0) → W.ownsRow 0 228 2 vb k1.length (rowC k1) → LwC true M num den n B w lg bb tb vl vr ca cc Oa Oc k0 k1 T0 T1 z lo hh va vb qb A c [] w.heap.size cb W from
    fun W cb va vb k hb' hc' ra rb => ⟨S0.nextH hB k, h, hb', hc', hB, hown, ra, rb⟩)
  have HR := Lib.hid (And.intro w0 (And.intro w1 (And.intro (rowB_len k0 w0) (rowB_len k1 w1))))
  generalize (T0 + z + T1 != 0) = tbo at hen
  have k10 := natB_len10 num hnum
  have k11 := natB_len10 den hden
  have k12 := natB_len10 (zigN lo) (zigN_eq lo hlo).2
  have k13 := natB_len10 (zigN hh) (zigN_eq hh hhi).2
  have hzT : z < 18446744073709551616 := by omega
  have hl0T : l0 < 18446744073709551616 := by omega
  have hl1T : l1 < 18446744073709551616 := by omega
  have k14 := natB_len10 z hzT
  have k15 := natB_len10 l0 hl0T
  have k16 := natB_len10 l1 hl1T
  have k17 := natB_len10 M (by omega)
  have k18 := natB_len10 1 (by decide)
  have hwM : IntKind.u64.wrap (M : Int) = (M : Int) := by rw [IntKind.wrap_u64]; omega
  have HB0 := Lib.hid (And.intro b0 (And.intro BX h))
  clear S0 hown hq h b0 BX w0 w1 hT0 hl0 hl1
  go_enter Tryz.func221, Tryz.ntmps221
  go_wp2_with fail
  refine hcfg.mono ?_
  rintro e w1 ⟨b1, rfl⟩
  have B1 := HB0.out.1.trans (b1.mono HB0.out.1.size)
  have X1 := HB0.out.2.1.below b1 HB0.out.2.1.lt
  have C1 : Blk (w1.alloc (.cells #[.int .u64 (num : Int), .int .u64 (den : Int), .int .i64 1, .int .i64 (M : Int)] 120)) w1.heap.size #[.int .u64 (num : Int), .int .u64 (den : Int), .int .i64 1, .int .i64 (M : Int)] 120 := Blk.newAt rfl
  have H1 := Lib.hid (And.intro (B1.alloc B1.size (.cells #[.int .u64 (num : Int), .int .u64 (den : Int), .int .i64 1, .int .i64 (M : Int)] 120)) (And.intro (X1.alloc (.cells #[.int .u64 (num : Int), .int .u64 (den : Int), .int .i64 1, .int .i64 (M : Int)] 120)) C1))
  have k0' : w1.cell? ⟨w.heap.size, 0, none⟩ = some (.pointer (some ⟨lg, 0, none⟩)) := X1.cell rfl
  have hx1 := X1.lt
  have he1 := hen.out _ H1.out.1
  clear hcfg b1 B1 X1 C1 hen
  go_wp2_with fail
  refine he1.mono ?_
  rintro e w2 ⟨rfl, b2⟩
  have B2 := H1.out.1.trans (b2.mono H1.out.1.size)
  have X2 := H1.out.2.1.below b2 H1.out.2.1.lt
  have C2 := H1.out.2.2.below b2 H1.out.2.2.lt
  have k0' : w2.cell? ⟨w.heap.size, 0, none⟩ = some (.pointer (some ⟨lg, 0, none⟩)) := X2.cell rfl
  have hb2 := hbi.out w2 (HB0.out.2.2.next B2)
  have hr2 := hro.out w2 B2
  have H2 := Lib.hid (And.intro B2 (And.intro X2 C2))
  clear he1 b2 B2 X2 C2 hro hx1
  go_wp2_with fail
  refine hb2.mono ?_
  rintro e w2' ⟨rfl, rfl⟩
  clear hb2
  go_wp2_with fail
  refine hr2.mono ?_
  rintro e w3 ⟨va, vb, rfl, ra, rb, b3⟩
  have D3 := MK.out w3 w1.heap.size va vb (H2.out.1.trans (b3.mono H2.out.1.size)) (H2.out.2.1.below b3 H2.out.2.1.lt) (H2.out.2.2.below b3 H2.out.2.2.lt) ra rb
  obtain ⟨Aa, pa, hva⟩ := owns_slice ra
  obtain ⟨Ab, pb, hvb⟩ := owns_slice rb
  subst hva
  subst hvb
  obtain ⟨n0, hn0⟩ : ∃ n, n = k0.length := ⟨_, rfl⟩
  obtain ⟨n1, hn1⟩ : ∃ n, n = k1.length := ⟨_, rfl⟩
  have HN := Lib.hid (And.intro hn0 hn1)
  rw [← hn0, ← hn1] at D3 ⊢
  have k0' := D3.cell
  have hb3 := hbi.out w3 D3.hdW
  have hl3 := hlo'.out w3 D3.hdW
  have H3 := Lib.hid D3
  clear hr2 ra rb b3 H2 MK hn0 hn1 D3 hlo' H1
  go_wp2_with fail
  refine hb3.mono ?_
  rintro e w3' ⟨rfl, rfl⟩
  clear hb3
  go_wp2_with fail
  refine hl3.mono ?_
  rintro e w4 ⟨rfl, b4⟩
  have D4 := H3.out.next b4
  have k0' := D4.cell
  have f0 : w4.cell? ⟨w1.heap.size, 0, none⟩ = some (.int .u64 (num : Int)) := D4.cfg.cell rfl
  have f1 : w4.cell? ⟨w1.heap.size, 1, none⟩ = some (.int .u64 (den : Int)) := D4.cfg.cell rfl
  have f2 : w4.cell? ⟨w1.heap.size, 2, none⟩ = some (.int .i64 1) := D4.cfg.cell rfl
  have f3 : w4.cell? ⟨w1.heap.size, 3, none⟩ = some (.int .i64 (M : Int)) := D4.cfg.cell rfl
  have hnt := qu_nat B (w4.alloc (.cells (u64C [num, den, 1, M]) 23)) qb w4.heap.size 4 A c [] [num, den, 1, M] (D4.nas.qu.alloc _) (by have := D4.size; simp; omega) (Blk.newAt rfl)
    (fun n hn => by simp at hn; omega) (by simp; omega) (by simp)
  have H4 := Lib.hid D4
  clear hl3 H3 b4 D4
  go_wp2_with fail
  refine hnt.mono ?_
  rintro e w5 ⟨rfl, A5, k5, S5⟩
  have H5 := (H4.out.next ((Below.refl _ _).alloc (Nat.le_refl _) _)).put S5
  rw [nats4, List.nil_append] at H5
  have hint := qu_int B (w5.alloc (.cells (i64C [lo, hh]) 2)) qb w5.heap.size 2 A5 k5 (natB num ++ natB den ++ natB 1 ++ natB M) [lo, hh] (H5.nas.qu.alloc _) (by have := H5.size; simp; omega) (Blk.newAt rfl)
      (fun x hx => by simp at hx; rcases hx with rfl | rfl; exact hlo; exact hhi) (by simp; omega) (by simp)
  have H5 := Lib.hid H5
  clear hnt S5 H4 f0 f1 f2 f3
  go_wp2_with fail
  refine hint.mono ?_
  rintro e w6 ⟨rfl, A6, k6, S6⟩
  have H6 := (H5.out.next ((Below.refl _ _).alloc (Nat.le_refl _) _)).put S6
  have k0' := H6.cell
  rw [ints2h] at H6
  have hb6 := hbi.out w6 H6.hdW
  have hz6 := hze.out w6 H6.hdW
  have H6 := Lib.hid H6
  clear hint S6 H5 hbi hze
  go_wp2_with fail
  refine hb6.mono ?_
  rintro e w6' ⟨rfl, rfl⟩
  clear hb6
  go_wp2_with fail
  refine hz6.mono ?_
  rintro e w6' ⟨rfl, rfl⟩
  have hnz := qu_nat B (w6.alloc (.cells (u64C [z, l0, l1]) 23)) qb w6.heap.size 3 A6 k6 (natB num ++ natB den ++ natB 1 ++ natB M ++ (natB (zigN lo) ++ natB (zigN hh))) [z, l0, l1] (H6.out.nas.qu.alloc _) (by have := H6.out.size; simp; omega) (Blk.newAt rfl)
      (fun n hn => by simp at hn; omega) (by simp; omega) (by simp)
  clear hz6 k0'
  go_wp2_with fail
  refine hnz.mono ?_
  rintro e w8 ⟨rfl, A8, k8, S8⟩
  have H8 := (H6.out.next ((Below.refl _ _).alloc (Nat.le_refl _) _)).put S8
  rw [nats3] at H8
  have hpa := put_any B w8 qb A8 k8 (natB num ++ natB den ++ natB 1 ++ natB M ++ (natB (zigN lo) ++ natB (zigN hh)) ++ (natB z ++ natB l0 ++ natB l1)) _ _ k0 H8.nas.qu H8.size H8.ra (by have := HR.out.1.1; omega) HR.out.1.2.1 HR.out.1.2.2 (by simp; omega)
  have HH8 := Lib.hid H8
  clear hnz S8 H8 H6
  go_wp2_with fail
  refine hpa.mono ?_
  rintro e w9 ⟨rfl, A9, k9, S9⟩
  have H9 := HH8.out.put S9
  have hpb := put_any B w9 qb A9 k9 ((natB num ++ natB den ++ natB 1 ++ natB M ++ (natB (zigN lo) ++ natB (zigN hh)) ++ (natB z ++ natB l0 ++ natB l1)) ++ rowB k0) _ _ k1 H9.nas.qu H9.size H9.rb (by have := HR.out.2.1.1; omega) HR.out.2.1.2.1 HR.out.2.1.2.2 (by have := HR.out.2.2.1; have := HR.out.1.1; simp; omega)
  have HH9 := Lib.hid H9
  clear hpa S9 H9 HH8
  go_wp2_with fail
  refine hpb.mono ?_
  rintro e w10 ⟨rfl, A10, k10', S10⟩
  have H10 := Lib.hid (HH9.out.put S10)
  clear hpb S10 HH9
  go_wp2_with fail
  go_end0
  exact ⟨rfl, A10, k10', H10.out.nas⟩
end Go.Proofs.YtbejdajkkoapgaaGreatDoor

