/-
  Several texts in one: Lb. What each proves, and on which conditions, stands at its head. Conditions: stated in each.
-/
import Derived.Test.YtbejdajkkoapgaaGreatDoorS11
import Derived.Test.YtbejdajkkoapgaaGreatDoorS16
/-
  Bins in memory; contracts of bins.fresh, New, Total, Lost, Zero, Rows. Conditions: stated in each.
-/
set_option linter.unusedVariables false
set_option linter.unusedSimpArgs false
set_option maxRecDepth 100000
namespace Go.Proofs.YtbejdajkkoapgaaGreatDoor
open Go.RowKit Go.Lib

def sdV (hi : Bool) : Int := if hi then 1 else 0
def binC (hi : Bool) (M tb ca cc z : Nat) : Array Value := #[.iface 163 (.pointer (some ⟨tb, 0, none⟩)), .int .i64 (sdV hi), .int .i64 (M : Int), .iface (PT hi) (.pointer (some ⟨ca, 0, none⟩)), .iface (PT hi) (.pointer (some ⟨cc, 0, none⟩)), .int .u64 (z : Int)]
/-- bins in memory -/
structure BinO (hi : Bool) (M num den n : Nat) (w : World) (bb tb : Nat) (vl vr : Value) (ca cc : Nat) (Oa Oc : Nat → Prop) (k0 k1 : Row) (T0 T1 z : Nat) : Prop where
  blk : Blk w bb (binC hi M tb ca cc z) 220
  tab : TabO w tb vl vr num den n
  s0 : StoQ hi M k0 T0 w ca Oa
  s1 : StoQ hi M k1 T1 w cc Oc
  ap : ∀ j, Oa j → ¬ Oc j
/-- their blocks -/
def OwnB (bb tb : Nat) (vl vr : Value) (Oa Oc : Nat → Prop) (j : Nat) : Prop := j = bb ∨ OwnT tb vl vr j ∨ Oa j ∨ Oc j
section
variable {hi : Bool} {M num den n : Nat} {w w' : World} {bb tb : Nat} {vl vr : Value} {ca cc : Nat} {Oa Oc : Nat → Prop} {k0 k1 k2 : Row} {T0 T1 T2 z : Nat}
theorem BinO.next (h : BinO hi M num den n w bb tb vl vr ca cc Oa Oc k0 k1 T0 T1 z) (b : Below w.heap.size w w') : BinO hi M num den n w' bb tb vl vr ca cc Oa Oc k0 k1 T0 T1 z :=
  ⟨h.blk.below b h.blk.lt, h.tab.next b, h.s0.next b, h.s1.next b, h.ap⟩
theorem BinO.away {G : Nat → Prop} (h : BinO hi M num den n w bb tb vl vr ca cc Oa Oc k0 k1 T0 T1 z) (a : Away G w w') (k : ∀ j, OwnB bb tb vl vr Oa Oc j → ¬ G j) : BinO hi M num den n w' bb tb vl vr ca cc Oa Oc k0 k1 T0 T1 z :=
  ⟨h.blk.away a (k _ (.inl rfl)), h.tab.away a fun j hj => k _ (.inr (.inl hj)), h.s0.away a fun j hj => k _ (.inr (.inr (.inl hj))), h.s1.away a fun j hj => k _ (.inr (.inr (.inr hj))), h.ap⟩
theorem BinO.lt (h : BinO hi M num den n w bb tb vl vr ca cc Oa Oc k0 k1 T0 T1 z) : ∀ j, OwnB bb tb vl vr Oa Oc j → j < w.heap.size := by
  rintro j (rfl | e | e | e)
  · exact h.blk.lt
  · exact h.tab.lt j e
  · exact h.s0.lt j e
  · exact h.s1.lt j e
theorem BinO.ty (h : BinO hi M num den n w bb tb vl vr ca cc Oa Oc k0 k1 T0 T1 z) : ∀ j, OwnB bb tb vl vr Oa Oc j → ∃ cs t, Blk w j cs t ∧ (t = 220 ∨ t = 210 ∨ t = 23 ∨ t = CT hi ∨ t = 115 ∨ t = 228) := by
  rintro j (rfl | e | e | e)
  · exact ⟨_, _, h.blk, .inl rfl⟩
  · obtain ⟨cs, t, h1, h2⟩ := h.tab.ty j e; exact ⟨cs, t, h1, by rcases h2 with h2 | h2 <;> simp [h2]⟩
  · obtain ⟨cs, t, h1, h2⟩ := h.s0.ty j e; exact ⟨cs, t, h1, by rcases h2 with h2 | h2 | h2 <;> simp [h2]⟩
  · obtain ⟨cs, t, h1, h2⟩ := h.s1.ty j e; exact ⟨cs, t, h1, by rcases h2 with h2 | h2 | h2 <;> simp [h2]⟩
theorem BinO.cells (h : BinO hi M num den n w bb tb vl vr ca cc Oa Oc k0 k1 T0 T1 z) : w.cell? ⟨bb, 0, none⟩ = some (.iface 163 (.pointer (some ⟨tb, 0, none⟩))) ∧ w.cell? ⟨bb, 1, none⟩ = some (.int .i64 (sdV hi)) ∧ w.cell? ⟨bb, 2, none⟩ = some (.int .i64 (M : Int)) ∧ w.cell? ⟨bb, 3, none⟩ = some (.iface (PT hi) (.pointer (some ⟨ca, 0, none⟩))) ∧ w.cell? ⟨bb, 4, none⟩ = some (.iface (PT hi) (.pointer (some ⟨cc, 0, none⟩))) ∧ w.cell? ⟨bb, 5, none⟩ = some (.int .u64 (z : Int)) ∧ w.frozen? ⟨bb, 3, none⟩ = false ∧ w.frozen? ⟨bb, 4, none⟩ = false ∧ w.frozen? ⟨bb, 5, none⟩ = false :=
  ⟨h.blk.cell rfl, h.blk.cell rfl, h.blk.cell rfl, h.blk.cell rfl, h.blk.cell rfl, h.blk.cell rfl, h.blk.frozen 3, h.blk.frozen 4, h.blk.frozen 5⟩
/-- a store's blocks are none of a block of another type -/
theorem StoQ.not {k : Row} {T cb j : Nat} {O : Nat → Prop} {cs : Array Value} {t : TypeId} (h : StoQ hi M k T w cb O) (b : Blk w j cs t) (ht : t ≠ CT hi ∧ t ≠ 115 ∧ t ≠ 228) : ¬ O j := fun hO => by
  obtain ⟨cs2, t2, h1, h2⟩ := h.ty j hO
  have e : t = t2 := Decidable.byContradiction fun hne => (b.ne h1 hne) rfl
  subst e
  rcases h2 with e | e | e
  · exact ht.1 e
  · exact ht.2.1 e
  · exact ht.2.2 e
theorem BinO.tabNot (h : BinO hi M num den n w bb tb vl vr ca cc Oa Oc k0 k1 T0 T1 z) {O : Nat → Prop} {k : Row} {T cb : Nat} (q : StoQ hi M k T w cb O) : ∀ j, OwnT tb vl vr j → ¬ O j := fun j hj => by
  obtain ⟨cs, t, h1, h2⟩ := h.tab.ty j hj
  refine q.not h1 ?_
  rcases h2 with rfl | rfl <;> cases hi <;> decide
theorem BinO.binNot (h : BinO hi M num den n w bb tb vl vr ca cc Oa Oc k0 k1 T0 T1 z) {O : Nat → Prop} {k : Row} {T cb : Nat} (q : StoQ hi M k T w cb O) : ¬ O bb := q.not h.blk (by cases hi <;> decide)
/-- behind an operation on the store below nought -/
theorem BinO.put0 (h : BinO hi M num den n w bb tb vl vr ca cc Oa Oc k0 k1 T0 T1 z) (r : StoR hi M w ca Oa k2 T2 w') : ∃ Oa', BinO hi M num den n w' bb tb vl vr ca cc Oa' Oc k2 k1 T2 T1 z ∧ SubO w (OwnB bb tb vl vr Oa Oc) (OwnB bb tb vl vr Oa' Oc) ∧ Away (OwnB bb tb vl vr Oa Oc) w w' := by
  obtain ⟨P, p1, p2, p3⟩ := r
  refine ⟨P, ⟨h.blk.away p3 (h.binNot h.s0), h.tab.away p3 (h.tabNot h.s0), p1, h.s1.away p3 fun j hj hO => h.ap j hO hj, fun j hj hc => ?_⟩, ?_, p3.mono fun j _ hj => .inr (.inr (.inl hj))⟩
  · rcases p2 j hj with e | e
    · exact h.ap j e hc
    · have := h.s1.lt j hc; omega
  · rintro j (e | e | e | e)
    · exact .inl (.inl e)
    · exact .inl (.inr (.inl e))
    · exact (p2 j e).imp (fun e => .inr (.inr (.inl e))) id
    · exact .inl (.inr (.inr (.inr e)))
theorem BinO.put1 (h : BinO hi M num den n w bb tb vl vr ca cc Oa Oc k0 k1 T0 T1 z) (r : StoR hi M w cc Oc k2 T2 w') : ∃ Oc', BinO hi M num den n w' bb tb vl vr ca cc Oa Oc' k0 k2 T0 T2 z ∧ SubO w (OwnB bb tb vl vr Oa Oc) (OwnB bb tb vl vr Oa Oc') ∧ Away (OwnB bb tb vl vr Oa Oc) w w' := by
  obtain ⟨P, p1, p2, p3⟩ := r
  refine ⟨P, ⟨h.blk.away p3 (h.binNot h.s1), h.tab.away p3 (h.tabNot h.s1), h.s0.away p3 fun j hj hO => h.ap j hj hO, p1, fun j hj hc => ?_⟩, ?_, p3.mono fun j _ hj => .inr (.inr (.inr hj))⟩
  · rcases p2 j hc with e | e
    · exact h.ap j hj e
    · have := h.s0.lt j hj; omega
  · rintro j (e | e | e | e)
    · exact .inl (.inl e)
    · exact .inl (.inr (.inl e))
    · exact .inl (.inr (.inr (.inl e)))
    · exact (p2 j e).imp (fun e => .inr (.inr (.inr e))) id
/-- another number of noughts -/
theorem BinO.zero (h : BinO hi M num den n w bb tb vl vr ca cc Oa Oc k0 k1 T0 T1 z) (z2 : Nat) : BinO hi M num den n (w.setCell ⟨bb, 5, none⟩ (.int .u64 (z2 : Int))) bb tb vl vr ca cc Oa Oc k0 k1 T0 T1 z2 ∧ Away (OwnB bb tb vl vr Oa Oc) w (w.setCell ⟨bb, 5, none⟩ (.int .u64 (z2 : Int))) := by
  have a : Away (fun j => j = bb) w (w.setCell ⟨bb, 5, none⟩ (.int .u64 (z2 : Int))) := (Away.refl _ _).setCell _ _ (.inl rfl)
  have hT : ∀ j, OwnT tb vl vr j → ¬ j = bb := fun j hj e => by
    obtain ⟨cs, t, h1, h2⟩ := h.tab.ty j hj
    rw [e] at h1
    exact (h.blk.ne h1 (by rcases h2 with rfl | rfl <;> decide)) rfl
  refine ⟨⟨?_, h.tab.away a hT, h.s0.away a fun j hj e => h.binNot h.s0 (e ▸ hj), h.s1.away a fun j hj e => h.binNot h.s1 (e ▸ hj), h.ap⟩, a.mono fun j _ e => .inl e⟩
  exact h.blk.set 5 _
end
/-- bins, and how far the world went on -/
structure BinB (hi : Bool) (M num den n : Nat) (w : World) (bb tb : Nat) (vl vr : Value) (ca cc : Nat) (Oa Oc : Nat → Prop) (k0 k1 : Row) (T0 T1 z : Nat) (W : World) : Prop where
  bn : BinO hi M num den n W bb tb vl vr ca cc Oa Oc k0 k1 T0 T1 z
  below : Below w.heap.size w W
theorem BinB.next {hi : Bool} {M num den n : Nat} {w W W' : World} {bb tb : Nat} {vl vr : Value} {ca cc : Nat} {Oa Oc : Nat → Prop} {k0 k1 : Row} {T0 T1 z : Nat} (h : BinB hi M num den n w bb tb vl vr ca cc Oa Oc k0 k1 T0 T1 z W) (b : Below W.heap.size W W') : BinB hi M num den n w bb tb vl vr ca cc Oa Oc k0 k1 T0 T1 z W' := ⟨h.bn.next b, h.below.trans (b.mono h.below.size)⟩

theorem mtot_L (cb : Nat) (w : World) : (method 524 246 (.pointer (some ⟨cb, 0, none⟩)) "Total").run Tryz.prog w = .ok (123, .pointer (some ⟨cb, 0, none⟩)) w := by kernel_rfl
theorem mlost_L (cb : Nat) (w : World) : (method 524 246 (.pointer (some ⟨cb, 0, none⟩)) "Lost").run Tryz.prog w = .ok (383, .pointer (some ⟨cb, 0, none⟩)) w := by kernel_rfl
theorem mpairs_L (cb : Nat) (w : World) : (method 524 246 (.pointer (some ⟨cb, 0, none⟩)) "Pairs").run Tryz.prog w = .ok (384, .pointer (some ⟨cb, 0, none⟩)) w := by kernel_rfl
theorem madd_L (cb : Nat) (w : World) : (method 524 246 (.pointer (some ⟨cb, 0, none⟩)) "Add").run Tryz.prog w = .ok (122, .pointer (some ⟨cb, 0, none⟩)) w := by kernel_rfl

theorem ent_L (args : Array Value) (w : World) : (callFunc 123 args).run Tryz.prog w = .ok (.enter 123 args) w ∧ (callFunc 383 args).run Tryz.prog w = .ok (.enter 383 args) w ∧ (callFunc 384 args).run Tryz.prog w = .ok (.enter 384 args) w ∧ (callFunc 122 args).run Tryz.prog w = .ok (.enter 122 args) w := ⟨by kernel_rfl, by kernel_rfl, by kernel_rfl, by kernel_rfl⟩
theorem bcells_L {M num den n : Nat} {w : World} {bb tb : Nat} {vl vr : Value} {ca cc : Nat} {Oa Oc : Nat → Prop} {k0 k1 : Row} {T0 T1 z : Nat} (h : BinO false M num den n w bb tb vl vr ca cc Oa Oc k0 k1 T0 T1 z) : w.cell? ⟨bb, 0, none⟩ = some (.iface 163 (.pointer (some ⟨tb, 0, none⟩))) ∧ w.cell? ⟨bb, 1, none⟩ = some (.int .i64 0) ∧ w.cell? ⟨bb, 2, none⟩ = some (.int .i64 (M : Int)) ∧ w.cell? ⟨bb, 3, none⟩ = some (.iface 246 (.pointer (some ⟨ca, 0, none⟩))) ∧ w.cell? ⟨bb, 4, none⟩ = some (.iface 246 (.pointer (some ⟨cc, 0, none⟩))) ∧ w.cell? ⟨bb, 5, none⟩ = some (.int .u64 (z : Int)) ∧ w.frozen? ⟨bb, 3, none⟩ = false ∧ w.frozen? ⟨bb, 4, none⟩ = false ∧ w.frozen? ⟨bb, 5, none⟩ = false := h.cells

theorem fresh_L {M : Nat} (hM1 : 1 ≤ M) (hM2 : M ≤ 4096) (w : World) :
    Calls Tryz.prog 87 #[.int .i64 0, .int .i64 (M : Int)] w fun e w' => ∃ cb O, e = .returned (.tuple #[.iface 246 (.pointer (some ⟨cb, 0, none⟩)), .int .i64 0]) ∧ StoQ false M [] 0 w' cb O ∧ Below w.heap.size w w' ∧ ∀ j, O j → w.heap.size ≤ j := by
  have hn := snew_L hM1 hM2 w
  clear hM1 hM2
  go_enter Tryz.func87, Tryz.ntmps87
  go_wp2_with fail
  refine hn.mono ?_
  rintro e w1 ⟨cb, O, rfl, q, b, hO⟩
  have HF := Lib.hid (And.intro q (And.intro b hO))
  clear hn q b hO
  go_wp2_with fail
  go_ret2
  exact ⟨cb, O, rfl, HF.out.1, HF.out.2.1, HF.out.2.2⟩
theorem fresh_bad_L (w : World) (M : Int) (h : M < 1 ∨ 4096 < M) :
    Calls Tryz.prog 87 #[.int .i64 0, .int .i64 M] w fun e w' => (∃ v, e = .returned (.tuple #[v, .int .i64 1])) ∧ w = w' := by
  have hn := snew_bad_L w M h
  clear h
  go_enter Tryz.func87, Tryz.ntmps87
  go_wp2_with fail
  refine hn.mono ?_
  rintro e w1 ⟨rfl, rfl⟩
  clear hn
  go_wp2_with fail
  go_ret2
  exact ⟨⟨_, rfl⟩, rfl⟩

set_option maxHeartbeats 4000000 in
theorem bnew_L {M : Nat} (hM1 : 1 ≤ M) (hM2 : M ≤ 4096) (w : World) (tb : Nat) (vl vr : Value) (num den n : Nat) (h : TabO w tb vl vr num den n) :
    Calls Tryz.prog 64 #[.iface 163 (.pointer (some ⟨tb, 0, none⟩)), .int .i64 0, .int .i64 (M : Int)] w fun e w' => ∃ bb ca cc Oa Oc, e = .returned (.tuple #[.pointer (some ⟨bb, 0, none⟩), .int .i64 0]) ∧ BinO false M num den n w' bb tb vl vr ca cc Oa Oc [] [] 0 0 0 ∧ Below w.heap.size w w' ∧ w.heap.size ≤ bb ∧ (∀ j, Oa j → w.heap.size ≤ j) ∧ ∀ j, Oc j → w.heap.size ≤ j := by
  have hf := Lib.hid (fun W => fresh_L hM1 hM2 W)
  have HT := Lib.hid h
  clear h hM1 hM2
  go_enter Tryz.func64, Tryz.ntmps64
  go_wp2_with fail
  refine (hf.out _).mono ?_
  rintro e w1 ⟨ca, Oa, rfl, q1, b1, hOa⟩
  have H1 := Lib.hid (And.intro q1 (And.intro b1 hOa))
  clear q1 b1 hOa
  go_wp2_with fail
  refine (hf.out _).mono ?_
  rintro e w2 ⟨cc, Oc, rfl, q2, b2, hOc⟩
  have H2 := Lib.hid (And.intro q2 (And.intro b2 hOc))
  clear q2 b2 hOc hf
  go_wp2_with fail
  go_ret2
  obtain ⟨q1, b1, hOa⟩ := H1.out
  obtain ⟨q2, b2, hOc⟩ := H2.out
  have z1 := b1.size
  have b12 := b1.trans (b2.mono z1)
  have z2 := b12.size
  have b3 : Below w2.heap.size w2 (w2.alloc (.cells #[.iface 163 (.pointer (some ⟨tb, 0, none⟩)), .int .i64 0, .int .i64 (M : Int), .iface 246 (.pointer (some ⟨ca, 0, none⟩)), .iface 246 (.pointer (some ⟨cc, 0, none⟩)), .int .u64 0] 220)) := (Below.refl _ _).alloc (Nat.le_refl _) _
  refine ⟨w2.heap.size, ca, cc, Oa, Oc, rfl, ⟨Blk.newAt rfl, ((HT.out.next b1).next b2).next b3, (q1.next b2).next b3, q2.next b3, fun j hj hc => ?_⟩, b12.alloc z2 _, z2, hOa, fun j hj => Nat.le_trans z1 (hOc j hj)⟩
  have := q1.lt j hj
  have := hOc j hc
  omega

set_option maxHeartbeats 4000000 in
theorem btot_L {M num den n : Nat} (w : World) (bb tb : Nat) (vl vr : Value) (ca cc : Nat) (Oa Oc : Nat → Prop) (k0 k1 : Row) (T0 T1 z : Nat) (h : BinO false M num den n w bb tb vl vr ca cc Oa Oc k0 k1 T0 T1 z) (hT : T0 + z + T1 ≤ 9223372036854775807) :
    Calls Tryz.prog 91 #[.pointer (some ⟨bb, 0, none⟩)] w fun e w' => e = .returned (.int .u64 ((T0 + z + T1 : Nat) : Int)) ∧ Below w.heap.size w w' := by
  have hs0 := fun W (k : BinB false M num den n w bb tb vl vr ca cc Oa Oc k0 k1 T0 T1 z W) => stot_L W ca Oa k0 T0 k.bn.s0 (by omega)
  have hs1 := fun W (k : BinB false M num den n w bb tb vl vr ca cc Oa Oc k0 k1 T0 T1 z W) => stot_L W cc Oc k1 T1 k.bn.s1 (by omega)
  have hm0 := fun W => mtot_L ca W
  have hm1 := fun W => mtot_L cc W
  have he := fun a W => ent_L a W
  obtain ⟨a, ha⟩ : ∃ a, a = T0 + z := ⟨_, rfl⟩
  obtain ⟨b, hb⟩ : ∃ b, b = T0 + z + T1 := ⟨_, rfl⟩
  have e1 : IntKind.u64.wrap ((T0 : Int) + (z : Int)) = (a : Int) := by rw [IntKind.wrap_u64]; omega
  have e2 : IntKind.u64.wrap ((a : Int) + (T1 : Int)) = (b : Int) := by rw [IntKind.wrap_u64]; omega
  rw [← hb]
  have HH := Lib.hid h
  clear h ha hb hT
  go_enter Tryz.func91, Tryz.ntmps91
  go_upto_region 3 with fail
  refine wp_region_quiet_litC (C := BinB false M num den n w bb tb vl vr ca cc Oa Oc k0 k1 T0 T1 z) (by kernel_rfl) (by kernel_rfl) ⟨HH.out.next (Below.refl _ _).drew, (Below.refl _ _).drew⟩ ?_
  repeat (first | go_big_quiet_skip | (go_big_quiet_want; go_big_quiet_op; first | go_big_quiet_on | (refine quiet_const ?_; go_big_quiet_on)))
  go_big_quiet_want
  refine ⟨.iface 246 (.pointer (some ⟨ca, 0, none⟩)), fun wx hx => ?_, ?_⟩
  · obtain ⟨c0, c1, c2, c3, c4, c5, f3, f4, f5⟩ := bcells_L hx.bn
    go_simp
  go_big_quiet_on
  simp only [Act.put, List.setIfInBounds_toArray, List.set_cons_zero, List.set_cons_succ]
  repeat (first | go_big_quiet_skip | (go_big_quiet_want; go_big_quiet_op; first | go_big_quiet_on | (refine quiet_const ?_; go_big_quiet_on)))
  go_big_quiet_want
  go_big_quiet_op
  refine ⟨.int .u64 (T0 : Int), fun wx hx => ?_, ?_⟩
  · exact (hs0 wx hx).mono fun _ _ hm => ⟨hm.1, hx.next hm.2⟩
  go_big_quiet_on
  repeat (first | go_big_quiet_skip | (go_big_quiet_want; go_big_quiet_op; first | go_big_quiet_on | (refine quiet_const ?_; go_big_quiet_on)))
  go_big_quiet_want
  refine ⟨.int .u64 (z : Int), fun wx hx => ?_, ?_⟩
  · obtain ⟨c0, c1, c2, c3, c4, c5, f3, f4, f5⟩ := bcells_L hx.bn
    go_simp
  go_big_quiet_on
  simp only [Act.put, List.setIfInBounds_toArray, List.set_cons_zero, List.set_cons_succ]
  repeat (first | go_big_quiet_skip | (go_big_quiet_want; go_big_quiet_op; first | go_big_quiet_on | (refine quiet_const ?_; go_big_quiet_on)))
  go_big_quiet_want
  refine ⟨.iface 246 (.pointer (some ⟨cc, 0, none⟩)), fun wx hx => ?_, ?_⟩
  · obtain ⟨c0, c1, c2, c3, c4, c5, f3, f4, f5⟩ := bcells_L hx.bn
    go_simp
  go_big_quiet_on
  simp only [Act.put, List.setIfInBounds_toArray, List.set_cons_zero, List.set_cons_succ]
  repeat (first | go_big_quiet_skip | (go_big_quiet_want; go_big_quiet_op; first | go_big_quiet_on | (refine quiet_const ?_; go_big_quiet_on)))
  go_big_quiet_want
  go_big_quiet_op
  refine ⟨.int .u64 (T1 : Int), fun wx hx => ?_, ?_⟩
  · exact (hs1 wx hx).mono fun _ _ hm => ⟨hm.1, hx.next hm.2⟩
  go_big_quiet_on
  repeat (first | go_big_quiet_skip | (go_big_quiet_want; go_big_quiet_op; first | go_big_quiet_on | (refine quiet_const ?_; go_big_quiet_on)))
  refine wpQuiet_nil ?_
  intro W1 H1
  have HB := Lib.hid H1.below
  clear H1 hs0 hs1
  go_wp2_with fail
  go_ret
  exact ⟨rfl, HB.out⟩

set_option maxHeartbeats 4000000 in
theorem blost_L {M num den n : Nat} (w : World) (bb tb : Nat) (vl vr : Value) (ca cc : Nat) (Oa Oc : Nat → Prop) (k0 k1 : Row) (T0 T1 z : Nat) (h : BinO false M num den n w bb tb vl vr ca cc Oa Oc k0 k1 T0 T1 z) :
    Calls Tryz.prog 225 #[.pointer (some ⟨bb, 0, none⟩)] w fun e w' => e = .returned (.tuple #[.int .u64 ((T0 - rowTotal k0 : Nat) : Int), .int .u64 ((T1 - rowTotal k1 : Nat) : Int)]) ∧ Below w.heap.size w w' := by
  have hs0 := fun W (k : BinB false M num den n w bb tb vl vr ca cc Oa Oc k0 k1 T0 T1 z W) => slost_L W ca Oa k0 T0 k.bn.s0
  have hs1 := fun W (k : BinB false M num den n w bb tb vl vr ca cc Oa Oc k0 k1 T0 T1 z W) => slost_L W cc Oc k1 T1 k.bn.s1
  have hm0 := fun W => mlost_L ca W
  have hm1 := fun W => mlost_L cc W
  have he := fun a W => ent_L a W
  obtain ⟨a, ha⟩ : ∃ a, a = T0 - rowTotal k0 := ⟨_, rfl⟩
  obtain ⟨b, hb⟩ : ∃ b, b = T1 - rowTotal k1 := ⟨_, rfl⟩
  rw [← ha] at hs0 ⊢
  rw [← hb] at hs1 ⊢
  have HH := Lib.hid h
  clear h ha hb
  go_enter Tryz.func225, Tryz.ntmps225
  go_upto_region 3 with fail
  refine wp_region_quiet_litC (C := BinB false M num den n w bb tb vl vr ca cc Oa Oc k0 k1 T0 T1 z) (by kernel_rfl) (by kernel_rfl) ⟨HH.out.next (Below.refl _ _).drew, (Below.refl _ _).drew⟩ ?_
  repeat (first | go_big_quiet_skip | (go_big_quiet_want; go_big_quiet_op; first | go_big_quiet_on | (refine quiet_const ?_; go_big_quiet_on)))
  go_big_quiet_want
  refine ⟨.iface 246 (.pointer (some ⟨ca, 0, none⟩)), fun wx hx => ?_, ?_⟩
  · obtain ⟨c0, c1, c2, c3, c4, c5, f3, f4, f5⟩ := bcells_L hx.bn
    go_simp
  go_big_quiet_on
  simp only [Act.put, List.setIfInBounds_toArray, List.set_cons_zero, List.set_cons_succ]
  repeat (first | go_big_quiet_skip | (go_big_quiet_want; go_big_quiet_op; first | go_big_quiet_on | (refine quiet_const ?_; go_big_quiet_on)))
  go_big_quiet_want
  go_big_quiet_op
  refine ⟨.int .u64 (a : Int), fun wx hx => ?_, ?_⟩
  · exact (hs0 wx hx).mono fun _ _ hm => ⟨hm.1, hm.2 ▸ hx⟩
  go_big_quiet_on
  repeat (first | go_big_quiet_skip | (go_big_quiet_want; go_big_quiet_op; first | go_big_quiet_on | (refine quiet_const ?_; go_big_quiet_on)))
  go_big_quiet_want
  refine ⟨.iface 246 (.pointer (some ⟨cc, 0, none⟩)), fun wx hx => ?_, ?_⟩
  · obtain ⟨c0, c1, c2, c3, c4, c5, f3, f4, f5⟩ := bcells_L hx.bn
    go_simp
  go_big_quiet_on
  simp only [Act.put, List.setIfInBounds_toArray, List.set_cons_zero, List.set_cons_succ]
  repeat (first | go_big_quiet_skip | (go_big_quiet_want; go_big_quiet_op; first | go_big_quiet_on | (refine quiet_const ?_; go_big_quiet_on)))
  go_big_quiet_want
  go_big_quiet_op
  refine ⟨.int .u64 (b : Int), fun wx hx => ?_, ?_⟩
  · exact (hs1 wx hx).mono fun _ _ hm => ⟨hm.1, hm.2 ▸ hx⟩
  go_big_quiet_on
  repeat (first | go_big_quiet_skip | (go_big_quiet_want; go_big_quiet_op; first | go_big_quiet_on | (refine quiet_const ?_; go_big_quiet_on)))
  refine wpQuiet_nil ?_
  intro W1 H1
  have HB := Lib.hid H1.below
  clear H1 hs0 hs1
  go_wp2_with fail
  go_ret2
  exact ⟨rfl, HB.out⟩

theorem bzero_L {M num den n : Nat} (w : World) (bb tb : Nat) (vl vr : Value) (ca cc : Nat) (Oa Oc : Nat → Prop) (k0 k1 : Row) (T0 T1 z : Nat) (h : BinO false M num den n w bb tb vl vr ca cc Oa Oc k0 k1 T0 T1 z) :
    Calls Tryz.prog 227 #[.pointer (some ⟨bb, 0, none⟩)] w fun e w' => e = .returned (.int .u64 (z : Int)) ∧ w = w' := by
  obtain ⟨c0, c1, c2, c3, c4, c5, f3, f4, f5⟩ := bcells_L h
  clear h
  go_enter Tryz.func227, Tryz.ntmps227
  go_wp2_with fail
  go_ret
  exact ⟨rfl, rfl⟩

set_option maxHeartbeats 4000000 in
theorem brows_L {M num den n : Nat} (w : World) (bb tb : Nat) (vl vr : Value) (ca cc : Nat) (Oa Oc : Nat → Prop) (k0 k1 : Row) (T0 T1 z : Nat) (h : BinO false M num den n w bb tb vl vr ca cc Oa Oc k0 k1 T0 T1 z) (hl0 : k0.length ≤ 4096) (hl1 : k1.length ≤ 4096) :
    Calls Tryz.prog 224 #[.pointer (some ⟨bb, 0, none⟩)] w fun e w' => ∃ a b, e = .returned (.tuple #[a, b]) ∧ w'.ownsRow 0 228 2 a k0.length (rowC k0) ∧ w'.ownsRow 0 228 2 b k1.length (rowC k1) ∧ Below w.heap.size w w' := by
  obtain ⟨c0, c1, c2, c3, c4, c5, f3, f4, f5⟩ := bcells_L h
  have hm0 := fun W => mpairs_L ca W
  have hm1 := fun W => mpairs_L cc W
  have he := fun a W => ent_L a W
  have hp0 := Lib.hid (show ∀ W, Below w.heap.size w W → _ from fun W (k : Below w.heap.size w W) => spairs_L W ca Oa k0 T0 (h.next k).s0 (by omega))
  have hp1 := Lib.hid (show ∀ W, Below w.heap.size w W → _ from fun W (k : Below w.heap.size w W) => spairs_L W cc Oc k1 T1 (h.next k).s1 (by omega))
  have hcl := Lib.hid (show ∀ W, Below w.heap.size w W → _ from fun W (k : Below w.heap.size w W) => And.intro (bcells_L (h.next k)).2.2.2.1 (bcells_L (h.next k)).2.2.2.2.1)
  have hB0 := Lib.hid (show Below w.heap.size w w.drew from (Below.refl _ _).drew)
  clear h c0 c1 c2 c5 f3 f4 f5 hl0 hl1
  go_enter Tryz.func224, Tryz.ntmps224
  go_upto_region 3 with fail
  rename_i KK
  go_region_with (first
    | ((with_reducible refine (hp0.out _ (Hid.out (by assumption))).mono ?_); rintro e w2 ⟨va, rfl, oa, ba⟩; have Ba : Hid (Below w.heap.size w w2) := Lib.hid (Below.trans (Hid.out (by assumption)) (ba.mono (Below.size (Hid.out (by assumption))))); obtain ⟨d3, d4⟩ := hcl.out _ Ba.out; have OA := Lib.hid (And.intro oa ba); clear oa ba)
    | ((with_reducible refine (hp1.out _ (Hid.out (by assumption))).mono ?_); rintro e w3 ⟨vb, rfl, ob, bb'⟩; have Bb : Hid (Below w.heap.size w w3) := Lib.hid (Below.trans (Hid.out (by assumption)) (bb'.mono (Below.size (Hid.out (by assumption))))); obtain ⟨d5, d6⟩ := hcl.out _ Bb.out; have OB := Lib.hid (And.intro ob bb'); clear ob bb'))
  all_goals (
    refine KK _ _ ?_
    go_wp2_with fail
    go_ret2
    first
      | exact ⟨va, vb, rfl, owns_below (owns_base OA.out.1 fun _ _ => Nat.zero_le _) OB.out.2 (fun g hg => (OA.out.1.lt g hg).2), owns_base OB.out.1 fun _ _ => Nat.zero_le _, Bb.out⟩
      | exact ⟨va, vb, rfl, owns_base OA.out.1 fun _ _ => Nat.zero_le _, owns_below (owns_base OB.out.1 fun _ _ => Nat.zero_le _) OA.out.2 (fun g hg => (OB.out.1.lt g hg).2), Ba.out⟩)

theorem blike_L {M num den n num2 den2 n2 : Nat} (w : World) (bb tb : Nat) (vl vr : Value) (ca cc : Nat) (Oa Oc : Nat → Prop) (k0 k1 : Row) (T0 T1 z : Nat) (h : BinO false M num den n w bb tb vl vr ca cc Oa Oc k0 k1 T0 T1 z)
    (ob ub : Nat) (ul ur : Value) (da dc : Nat) (Na Nc : Nat → Prop) (m0 m1 : Row) (U0 U1 y : Nat) (g : BinO false M num2 den2 n2 w ob ub ul ur da dc Na Nc m0 m1 U0 U1 y) :
    Calls Tryz.prog 231 #[.pointer (some ⟨bb, 0, none⟩), .pointer (some ⟨ob, 0, none⟩)] w fun e w' => e = .returned (.bool true) ∧ Below w.heap.size w w' := by
  obtain ⟨c0, c1, c2, c3, c4, c5, f3, f4, f5⟩ := bcells_L h
  obtain ⟨d0, d1, d2, d3, d4, d5, x3, x4, x5⟩ := bcells_L g
  have e1 : ((M : Int) == (M : Int)) = true := by simp
  have e2 : (M == M) = true := by simp
  have HB := Lib.hid (Below.refl w.heap.size w)
  clear h g c0 d0 c3 c4 c5 f3 f4 f5 d3 d4 d5 x3 x4 x5
  go_enter Tryz.func231, Tryz.ntmps231
  go_upto_region 1 with fail
  go_quiet (fail)
  go_wp2_with fail
  go_ret
  exact ⟨rfl, below_drewN HB.out _⟩

theorem asA_L (cb : Nat) (w : World) : (Instr.typeAssert (.iface 246 (.pointer (some ⟨cb, 0, none⟩))) 216 246 true).run Tryz.prog w = .ok (.tuple #[.pointer (some ⟨cb, 0, none⟩), .bool true]) w := by kernel_rfl
theorem asA2_L (cb : Nat) (w : World) : True := trivial
theorem asB_L (cb : Nat) (w : World) : (Instr.typeAssert (.iface 246 (.pointer (some ⟨cb, 0, none⟩))) 216 246 false).run Tryz.prog w = .ok (.pointer (some ⟨cb, 0, none⟩)) w := by kernel_rfl

theorem mergeS_L (w : World) (ca da : Nat) (Q : Ending → World → Prop) (hq : Calls Tryz.prog 233 #[.pointer (some ⟨ca, 0, none⟩), .pointer (some ⟨da, 0, none⟩)] w fun e w' => (∃ v, e = .returned v) ∧ Q e w') :
    Calls Tryz.prog 232 #[.iface 246 (.pointer (some ⟨ca, 0, none⟩)), .iface 246 (.pointer (some ⟨da, 0, none⟩))] w fun e w' => e = .returned (.tuple #[]) ∧ ∃ e', Q e' w' := by
  have ha1 := fun W => (asA_L ca W)
  have ha2 := fun W => (asA2_L ca W)
  have ha3 := fun W => (asB_L da W)
  go_enter Tryz.func232, Tryz.ntmps232
  go_wp2_with fail
  refine hq.mono ?_
  rintro e w1 ⟨⟨v, rfl⟩, q⟩
  have HQ := Lib.hid q
  clear hq q
  go_wp2_with fail
  refine bodyPost_end (results_none rfl _ _ _) rfl ?_
  exact ⟨rfl, _, HQ.out⟩

theorem mtot_H (cb : Nat) (w : World) : (method 524 243 (.pointer (some ⟨cb, 0, none⟩)) "Total").run Tryz.prog w = .ok (121, .pointer (some ⟨cb, 0, none⟩)) w := by kernel_rfl
theorem mlost_H (cb : Nat) (w : World) : (method 524 243 (.pointer (some ⟨cb, 0, none⟩)) "Lost").run Tryz.prog w = .ok (379, .pointer (some ⟨cb, 0, none⟩)) w := by kernel_rfl
theorem mpairs_H (cb : Nat) (w : World) : (method 524 243 (.pointer (some ⟨cb, 0, none⟩)) "Pairs").run Tryz.prog w = .ok (380, .pointer (some ⟨cb, 0, none⟩)) w := by kernel_rfl
theorem madd_H (cb : Nat) (w : World) : (method 524 243 (.pointer (some ⟨cb, 0, none⟩)) "Add").run Tryz.prog w = .ok (120, .pointer (some ⟨cb, 0, none⟩)) w := by kernel_rfl

theorem ent_H (args : Array Value) (w : World) : (callFunc 121 args).run Tryz.prog w = .ok (.enter 121 args) w ∧ (callFunc 379 args).run Tryz.prog w = .ok (.enter 379 args) w ∧ (callFunc 380 args).run Tryz.prog w = .ok (.enter 380 args) w ∧ (callFunc 120 args).run Tryz.prog w = .ok (.enter 120 args) w := ⟨by kernel_rfl, by kernel_rfl, by kernel_rfl, by kernel_rfl⟩
theorem bcells_H {M num den n : Nat} {w : World} {bb tb : Nat} {vl vr : Value} {ca cc : Nat} {Oa Oc : Nat → Prop} {k0 k1 : Row} {T0 T1 z : Nat} (h : BinO true M num den n w bb tb vl vr ca cc Oa Oc k0 k1 T0 T1 z) : w.cell? ⟨bb, 0, none⟩ = some (.iface 163 (.pointer (some ⟨tb, 0, none⟩))) ∧ w.cell? ⟨bb, 1, none⟩ = some (.int .i64 1) ∧ w.cell? ⟨bb, 2, none⟩ = some (.int .i64 (M : Int)) ∧ w.cell? ⟨bb, 3, none⟩ = some (.iface 243 (.pointer (some ⟨ca, 0, none⟩))) ∧ w.cell? ⟨bb, 4, none⟩ = some (.iface 243 (.pointer (some ⟨cc, 0, none⟩))) ∧ w.cell? ⟨bb, 5, none⟩ = some (.int .u64 (z : Int)) ∧ w.frozen? ⟨bb, 3, none⟩ = false ∧ w.frozen? ⟨bb, 4, none⟩ = false ∧ w.frozen? ⟨bb, 5, none⟩ = false := h.cells

theorem fresh_H {M : Nat} (hM1 : 1 ≤ M) (hM2 : M ≤ 4096) (w : World) :
    Calls Tryz.prog 87 #[.int .i64 1, .int .i64 (M : Int)] w fun e w' => ∃ cb O, e = .returned (.tuple #[.iface 243 (.pointer (some ⟨cb, 0, none⟩)), .int .i64 0]) ∧ StoQ true M [] 0 w' cb O ∧ Below w.heap.size w w' ∧ ∀ j, O j → w.heap.size ≤ j := by
  have hn := snew_H hM1 hM2 w
  clear hM1 hM2
  go_enter Tryz.func87, Tryz.ntmps87
  go_wp2_with fail
  refine hn.mono ?_
  rintro e w1 ⟨cb, O, rfl, q, b, hO⟩
  have HF := Lib.hid (And.intro q (And.intro b hO))
  clear hn q b hO
  go_wp2_with fail
  go_ret2
  exact ⟨cb, O, rfl, HF.out.1, HF.out.2.1, HF.out.2.2⟩
theorem fresh_bad_H (w : World) (M : Int) (h : M < 1 ∨ 4096 < M) :
    Calls Tryz.prog 87 #[.int .i64 1, .int .i64 M] w fun e w' => (∃ v, e = .returned (.tuple #[v, .int .i64 1])) ∧ w = w' := by
  have hn := snew_bad_H w M h
  clear h
  go_enter Tryz.func87, Tryz.ntmps87
  go_wp2_with fail
  refine hn.mono ?_
  rintro e w1 ⟨rfl, rfl⟩
  clear hn
  go_wp2_with fail
  go_ret2
  exact ⟨⟨_, rfl⟩, rfl⟩

set_option maxHeartbeats 4000000 in
theorem bnew_H {M : Nat} (hM1 : 1 ≤ M) (hM2 : M ≤ 4096) (w : World) (tb : Nat) (vl vr : Value) (num den n : Nat) (h : TabO w tb vl vr num den n) :
    Calls Tryz.prog 64 #[.iface 163 (.pointer (some ⟨tb, 0, none⟩)), .int .i64 1, .int .i64 (M : Int)] w fun e w' => ∃ bb ca cc Oa Oc, e = .returned (.tuple #[.pointer (some ⟨bb, 0, none⟩), .int .i64 0]) ∧ BinO true M num den n w' bb tb vl vr ca cc Oa Oc [] [] 0 0 0 ∧ Below w.heap.size w w' ∧ w.heap.size ≤ bb ∧ (∀ j, Oa j → w.heap.size ≤ j) ∧ ∀ j, Oc j → w.heap.size ≤ j := by
  have hf := Lib.hid (fun W => fresh_H hM1 hM2 W)
  have HT := Lib.hid h
  clear h hM1 hM2
  go_enter Tryz.func64, Tryz.ntmps64
  go_wp2_with fail
  refine (hf.out _).mono ?_
  rintro e w1 ⟨ca, Oa, rfl, q1, b1, hOa⟩
  have H1 := Lib.hid (And.intro q1 (And.intro b1 hOa))
  clear q1 b1 hOa
  go_wp2_with fail
  refine (hf.out _).mono ?_
  rintro e w2 ⟨cc, Oc, rfl, q2, b2, hOc⟩
  have H2 := Lib.hid (And.intro q2 (And.intro b2 hOc))
  clear q2 b2 hOc hf
  go_wp2_with fail
  go_ret2
  obtain ⟨q1, b1, hOa⟩ := H1.out
  obtain ⟨q2, b2, hOc⟩ := H2.out
  have z1 := b1.size
  have b12 := b1.trans (b2.mono z1)
  have z2 := b12.size
  have b3 : Below w2.heap.size w2 (w2.alloc (.cells #[.iface 163 (.pointer (some ⟨tb, 0, none⟩)), .int .i64 1, .int .i64 (M : Int), .iface 243 (.pointer (some ⟨ca, 0, none⟩)), .iface 243 (.pointer (some ⟨cc, 0, none⟩)), .int .u64 0] 220)) := (Below.refl _ _).alloc (Nat.le_refl _) _
  refine ⟨w2.heap.size, ca, cc, Oa, Oc, rfl, ⟨Blk.newAt rfl, ((HT.out.next b1).next b2).next b3, (q1.next b2).next b3, q2.next b3, fun j hj hc => ?_⟩, b12.alloc z2 _, z2, hOa, fun j hj => Nat.le_trans z1 (hOc j hj)⟩
  have := q1.lt j hj
  have := hOc j hc
  omega

set_option maxHeartbeats 4000000 in
theorem btot_H {M num den n : Nat} (w : World) (bb tb : Nat) (vl vr : Value) (ca cc : Nat) (Oa Oc : Nat → Prop) (k0 k1 : Row) (T0 T1 z : Nat) (h : BinO true M num den n w bb tb vl vr ca cc Oa Oc k0 k1 T0 T1 z) (hT : T0 + z + T1 ≤ 9223372036854775807) :
    Calls Tryz.prog 91 #[.pointer (some ⟨bb, 0, none⟩)] w fun e w' => e = .returned (.int .u64 ((T0 + z + T1 : Nat) : Int)) ∧ Below w.heap.size w w' := by
  have hs0 := fun W (k : BinB true M num den n w bb tb vl vr ca cc Oa Oc k0 k1 T0 T1 z W) => stot_H W ca Oa k0 T0 k.bn.s0 (by omega)
  have hs1 := fun W (k : BinB true M num den n w bb tb vl vr ca cc Oa Oc k0 k1 T0 T1 z W) => stot_H W cc Oc k1 T1 k.bn.s1 (by omega)
  have hm0 := fun W => mtot_H ca W
  have hm1 := fun W => mtot_H cc W
  have he := fun a W => ent_H a W
  obtain ⟨a, ha⟩ : ∃ a, a = T0 + z := ⟨_, rfl⟩
  obtain ⟨b, hb⟩ : ∃ b, b = T0 + z + T1 := ⟨_, rfl⟩
  have e1 : IntKind.u64.wrap ((T0 : Int) + (z : Int)) = (a : Int) := by rw [IntKind.wrap_u64]; omega
  have e2 : IntKind.u64.wrap ((a : Int) + (T1 : Int)) = (b : Int) := by rw [IntKind.wrap_u64]; omega
  rw [← hb]
  have HH := Lib.hid h
  clear h ha hb hT
  go_enter Tryz.func91, Tryz.ntmps91
  go_upto_region 3 with fail
  refine wp_region_quiet_litC (C := BinB true M num den n w bb tb vl vr ca cc Oa Oc k0 k1 T0 T1 z) (by kernel_rfl) (by kernel_rfl) ⟨HH.out.next (Below.refl _ _).drew, (Below.refl _ _).drew⟩ ?_
  repeat (first | go_big_quiet_skip | (go_big_quiet_want; go_big_quiet_op; first | go_big_quiet_on | (refine quiet_const ?_; go_big_quiet_on)))
  go_big_quiet_want
  refine ⟨.iface 243 (.pointer (some ⟨ca, 0, none⟩)), fun wx hx => ?_, ?_⟩
  · obtain ⟨c0, c1, c2, c3, c4, c5, f3, f4, f5⟩ := bcells_H hx.bn
    go_simp
  go_big_quiet_on
  simp only [Act.put, List.setIfInBounds_toArray, List.set_cons_zero, List.set_cons_succ]
  repeat (first | go_big_quiet_skip | (go_big_quiet_want; go_big_quiet_op; first | go_big_quiet_on | (refine quiet_const ?_; go_big_quiet_on)))
  go_big_quiet_want
  go_big_quiet_op
  refine ⟨.int .u64 (T0 : Int), fun wx hx => ?_, ?_⟩
  · exact (hs0 wx hx).mono fun _ _ hm => ⟨hm.1, hx.next hm.2⟩
  go_big_quiet_on
  repeat (first | go_big_quiet_skip | (go_big_quiet_want; go_big_quiet_op; first | go_big_quiet_on | (refine quiet_const ?_; go_big_quiet_on)))
  go_big_quiet_want
  refine ⟨.int .u64 (z : Int), fun wx hx => ?_, ?_⟩
  · obtain ⟨c0, c1, c2, c3, c4, c5, f3, f4, f5⟩ := bcells_H hx.bn
    go_simp
  go_big_quiet_on
  simp only [Act.put, List.setIfInBounds_toArray, List.set_cons_zero, List.set_cons_succ]
  repeat (first | go_big_quiet_skip | (go_big_quiet_want; go_big_quiet_op; first | go_big_quiet_on | (refine quiet_const ?_; go_big_quiet_on)))
  go_big_quiet_want
  refine ⟨.iface 243 (.pointer (some ⟨cc, 0, none⟩)), fun wx hx => ?_, ?_⟩
  · obtain ⟨c0, c1, c2, c3, c4, c5, f3, f4, f5⟩ := bcells_H hx.bn
    go_simp
  go_big_quiet_on
  simp only [Act.put, List.setIfInBounds_toArray, List.set_cons_zero, List.set_cons_succ]
  repeat (first | go_big_quiet_skip | (go_big_quiet_want; go_big_quiet_op; first | go_big_quiet_on | (refine quiet_const ?_; go_big_quiet_on)))
  go_big_quiet_want
  go_big_quiet_op
  refine ⟨.int .u64 (T1 : Int), fun wx hx => ?_, ?_⟩
  · exact (hs1 wx hx).mono fun _ _ hm => ⟨hm.1, hx.next hm.2⟩
  go_big_quiet_on
  repeat (first | go_big_quiet_skip | (go_big_quiet_want; go_big_quiet_op; first | go_big_quiet_on | (refine quiet_const ?_; go_big_quiet_on)))
  refine wpQuiet_nil ?_
  intro W1 H1
  have HB := Lib.hid H1.below
  clear H1 hs0 hs1
  go_wp2_with fail
  go_ret
  exact ⟨rfl, HB.out⟩

set_option maxHeartbeats 4000000 in
theorem blost_H {M num den n : Nat} (w : World) (bb tb : Nat) (vl vr : Value) (ca cc : Nat) (Oa Oc : Nat → Prop) (k0 k1 : Row) (T0 T1 z : Nat) (h : BinO true M num den n w bb tb vl vr ca cc Oa Oc k0 k1 T0 T1 z) :
    Calls Tryz.prog 225 #[.pointer (some ⟨bb, 0, none⟩)] w fun e w' => e = .returned (.tuple #[.int .u64 ((T0 - rowTotal k0 : Nat) : Int), .int .u64 ((T1 - rowTotal k1 : Nat) : Int)]) ∧ Below w.heap.size w w' := by
  have hs0 := fun W (k : BinB true M num den n w bb tb vl vr ca cc Oa Oc k0 k1 T0 T1 z W) => slost_H W ca Oa k0 T0 k.bn.s0
  have hs1 := fun W (k : BinB true M num den n w bb tb vl vr ca cc Oa Oc k0 k1 T0 T1 z W) => slost_H W cc Oc k1 T1 k.bn.s1
  have hm0 := fun W => mlost_H ca W
  have hm1 := fun W => mlost_H cc W
  have he := fun a W => ent_H a W
  obtain ⟨a, ha⟩ : ∃ a, a = T0 - rowTotal k0 := ⟨_, rfl⟩
  obtain ⟨b, hb⟩ : ∃ b, b = T1 - rowTotal k1 := ⟨_, rfl⟩
  rw [← ha] at hs0 ⊢
  rw [← hb] at hs1 ⊢
  have HH := Lib.hid h
  clear h ha hb
  go_enter Tryz.func225, Tryz.ntmps225
  go_upto_region 3 with fail
  refine wp_region_quiet_litC (C := BinB true M num den n w bb tb vl vr ca cc Oa Oc k0 k1 T0 T1 z) (by kernel_rfl) (by kernel_rfl) ⟨HH.out.next (Below.refl _ _).drew, (Below.refl _ _).drew⟩ ?_
  repeat (first | go_big_quiet_skip | (go_big_quiet_want; go_big_quiet_op; first | go_big_quiet_on | (refine quiet_const ?_; go_big_quiet_on)))
  go_big_quiet_want
  refine ⟨.iface 243 (.pointer (some ⟨ca, 0, none⟩)), fun wx hx => ?_, ?_⟩
  · obtain ⟨c0, c1, c2, c3, c4, c5, f3, f4, f5⟩ := bcells_H hx.bn
    go_simp
  go_big_quiet_on
  simp only [Act.put, List.setIfInBounds_toArray, List.set_cons_zero, List.set_cons_succ]
  repeat (first | go_big_quiet_skip | (go_big_quiet_want; go_big_quiet_op; first | go_big_quiet_on | (refine quiet_const ?_; go_big_quiet_on)))
  go_big_quiet_want
  go_big_quiet_op
  refine ⟨.int .u64 (a : Int), fun wx hx => ?_, ?_⟩
  · exact (hs0 wx hx).mono fun _ _ hm => ⟨hm.1, hm.2 ▸ hx⟩
  go_big_quiet_on
  repeat (first | go_big_quiet_skip | (go_big_quiet_want; go_big_quiet_op; first | go_big_quiet_on | (refine quiet_const ?_; go_big_quiet_on)))
  go_big_quiet_want
  refine ⟨.iface 243 (.pointer (some ⟨cc, 0, none⟩)), fun wx hx => ?_, ?_⟩
  · obtain ⟨c0, c1, c2, c3, c4, c5, f3, f4, f5⟩ := bcells_H hx.bn
    go_simp
  go_big_quiet_on
  simp only [Act.put, List.setIfInBounds_toArray, List.set_cons_zero, List.set_cons_succ]
  repeat (first | go_big_quiet_skip | (go_big_quiet_want; go_big_quiet_op; first | go_big_quiet_on | (refine quiet_const ?_; go_big_quiet_on)))
  go_big_quiet_want
  go_big_quiet_op
  refine ⟨.int .u64 (b : Int), fun wx hx => ?_, ?_⟩
  · exact (hs1 wx hx).mono fun _ _ hm => ⟨hm.1, hm.2 ▸ hx⟩
  go_big_quiet_on
  repeat (first | go_big_quiet_skip | (go_big_quiet_want; go_big_quiet_op; first | go_big_quiet_on | (refine quiet_const ?_; go_big_quiet_on)))
  refine wpQuiet_nil ?_
  intro W1 H1
  have HB := Lib.hid H1.below
  clear H1 hs0 hs1
  go_wp2_with fail
  go_ret2
  exact ⟨rfl, HB.out⟩

theorem bzero_H {M num den n : Nat} (w : World) (bb tb : Nat) (vl vr : Value) (ca cc : Nat) (Oa Oc : Nat → Prop) (k0 k1 : Row) (T0 T1 z : Nat) (h : BinO true M num den n w bb tb vl vr ca cc Oa Oc k0 k1 T0 T1 z) :
    Calls Tryz.prog 227 #[.pointer (some ⟨bb, 0, none⟩)] w fun e w' => e = .returned (.int .u64 (z : Int)) ∧ w = w' := by
  obtain ⟨c0, c1, c2, c3, c4, c5, f3, f4, f5⟩ := bcells_H h
  clear h
  go_enter Tryz.func227, Tryz.ntmps227
  go_wp2_with fail
  go_ret
  exact ⟨rfl, rfl⟩

set_option maxHeartbeats 4000000 in
theorem brows_H {M num den n : Nat} (w : World) (bb tb : Nat) (vl vr : Value) (ca cc : Nat) (Oa Oc : Nat → Prop) (k0 k1 : Row) (T0 T1 z : Nat) (h : BinO true M num den n w bb tb vl vr ca cc Oa Oc k0 k1 T0 T1 z) (hl0 : k0.length ≤ 4096) (hl1 : k1.length ≤ 4096) :
    Calls Tryz.prog 224 #[.pointer (some ⟨bb, 0, none⟩)] w fun e w' => ∃ a b, e = .returned (.tuple #[a, b]) ∧ w'.ownsRow 0 228 2 a k0.length (rowC k0) ∧ w'.ownsRow 0 228 2 b k1.length (rowC k1) ∧ Below w.heap.size w w' := by
  obtain ⟨c0, c1, c2, c3, c4, c5, f3, f4, f5⟩ := bcells_H h
  have hm0 := fun W => mpairs_H ca W
  have hm1 := fun W => mpairs_H cc W
  have he := fun a W => ent_H a W
  have hp0 := Lib.hid (show ∀ W, Below w.heap.size w W → _ from fun W (k : Below w.heap.size w W) => spairs_H W ca Oa k0 T0 (h.next k).s0 (by omega))
  have hp1 := Lib.hid (show ∀ W, Below w.heap.size w W → _ from fun W (k : Below w.heap.size w W) => spairs_H W cc Oc k1 T1 (h.next k).s1 (by omega))
  have hcl := Lib.hid (show ∀ W, Below w.heap.size w W → _ from fun W (k : Below w.heap.size w W) => And.intro (bcells_H (h.next k)).2.2.2.1 (bcells_H (h.next k)).2.2.2.2.1)
  have hB0 := Lib.hid (show Below w.heap.size w w.drew from (Below.refl _ _).drew)
  clear h c0 c1 c2 c5 f3 f4 f5 hl0 hl1
  go_enter Tryz.func224, Tryz.ntmps224
  go_upto_region 3 with fail
  rename_i KK
  go_region_with (first
    | ((with_reducible refine (hp0.out _ (Hid.out (by assumption))).mono ?_); rintro e w2 ⟨va, rfl, oa, ba⟩; have Ba : Hid (Below w.heap.size w w2) := Lib.hid (Below.trans (Hid.out (by assumption)) (ba.mono (Below.size (Hid.out (by assumption))))); obtain ⟨d3, d4⟩ := hcl.out _ Ba.out; have OA := Lib.hid (And.intro oa ba); clear oa ba)
    | ((with_reducible refine (hp1.out _ (Hid.out (by assumption))).mono ?_); rintro e w3 ⟨vb, rfl, ob, bb'⟩; have Bb : Hid (Below w.heap.size w w3) := Lib.hid (Below.trans (Hid.out (by assumption)) (bb'.mono (Below.size (Hid.out (by assumption))))); obtain ⟨d5, d6⟩ := hcl.out _ Bb.out; have OB := Lib.hid (And.intro ob bb'); clear ob bb'))
  all_goals (
    refine KK _ _ ?_
    go_wp2_with fail
    go_ret2
    first
      | exact ⟨va, vb, rfl, owns_below (owns_base OA.out.1 fun _ _ => Nat.zero_le _) OB.out.2 (fun g hg => (OA.out.1.lt g hg).2), owns_base OB.out.1 fun _ _ => Nat.zero_le _, Bb.out⟩
      | exact ⟨va, vb, rfl, owns_base OA.out.1 fun _ _ => Nat.zero_le _, owns_below (owns_base OB.out.1 fun _ _ => Nat.zero_le _) OA.out.2 (fun g hg => (OB.out.1.lt g hg).2), Ba.out⟩)

theorem blike_H {M num den n num2 den2 n2 : Nat} (w : World) (bb tb : Nat) (vl vr : Value) (ca cc : Nat) (Oa Oc : Nat → Prop) (k0 k1 : Row) (T0 T1 z : Nat) (h : BinO true M num den n w bb tb vl vr ca cc Oa Oc k0 k1 T0 T1 z)
    (ob ub : Nat) (ul ur : Value) (da dc : Nat) (Na Nc : Nat → Prop) (m0 m1 : Row) (U0 U1 y : Nat) (g : BinO true M num2 den2 n2 w ob ub ul ur da dc Na Nc m0 m1 U0 U1 y) :
    Calls Tryz.prog 231 #[.pointer (some ⟨bb, 0, none⟩), .pointer (some ⟨ob, 0, none⟩)] w fun e w' => e = .returned (.bool true) ∧ Below w.heap.size w w' := by
  obtain ⟨c0, c1, c2, c3, c4, c5, f3, f4, f5⟩ := bcells_H h
  obtain ⟨d0, d1, d2, d3, d4, d5, x3, x4, x5⟩ := bcells_H g
  have e1 : ((M : Int) == (M : Int)) = true := by simp
  have e2 : (M == M) = true := by simp
  have HB := Lib.hid (Below.refl w.heap.size w)
  clear h g c0 d0 c3 c4 c5 f3 f4 f5 d3 d4 d5 x3 x4 x5
  go_enter Tryz.func231, Tryz.ntmps231
  go_upto_region 1 with fail
  go_quiet (fail)
  go_wp2_with fail
  go_ret
  exact ⟨rfl, below_drewN HB.out _⟩

theorem asA_H (cb : Nat) (w : World) : (Instr.typeAssert (.iface 243 (.pointer (some ⟨cb, 0, none⟩))) 216 246 true).run Tryz.prog w = .ok (.tuple #[.pointer none, .bool false]) w := by kernel_rfl
theorem asA2_H (cb : Nat) (w : World) : (Instr.typeAssert (.iface 243 (.pointer (some ⟨cb, 0, none⟩))) 216 243 true).run Tryz.prog w = .ok (.tuple #[.pointer (some ⟨cb, 0, none⟩), .bool true]) w := by kernel_rfl
theorem asB_H (cb : Nat) (w : World) : (Instr.typeAssert (.iface 243 (.pointer (some ⟨cb, 0, none⟩))) 216 243 false).run Tryz.prog w = .ok (.pointer (some ⟨cb, 0, none⟩)) w := by kernel_rfl

theorem mergeS_H (w : World) (ca da : Nat) (Q : Ending → World → Prop) (hq : Calls Tryz.prog 234 #[.pointer (some ⟨ca, 0, none⟩), .pointer (some ⟨da, 0, none⟩)] w fun e w' => (∃ v, e = .returned v) ∧ Q e w') :
    Calls Tryz.prog 232 #[.iface 243 (.pointer (some ⟨ca, 0, none⟩)), .iface 243 (.pointer (some ⟨da, 0, none⟩))] w fun e w' => e = .returned (.tuple #[]) ∧ ∃ e', Q e' w' := by
  have ha1 := fun W => (asA_H ca W)
  have ha2 := fun W => (asA2_H ca W)
  have ha3 := fun W => (asB_H da W)
  go_enter Tryz.func232, Tryz.ntmps232
  go_wp2_with fail
  refine hq.mono ?_
  rintro e w1 ⟨⟨v, rfl⟩, q⟩
  have HQ := Lib.hid q
  clear hq q
  go_wp2_with fail
  refine bodyPost_end (results_none rfl _ _ _) rfl ?_
  exact ⟨rfl, _, HQ.out⟩
end Go.Proofs.YtbejdajkkoapgaaGreatDoor

