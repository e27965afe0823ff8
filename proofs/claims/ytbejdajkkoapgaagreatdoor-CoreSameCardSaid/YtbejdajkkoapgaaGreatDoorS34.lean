/-
  Several texts in one: Hr, J07. What each proves, and on which conditions, stands at its head. Conditions: stated in each.
-/
import Derived.Test.YtbejdajkkoapgaaGreatDoorS29
import Derived.Test.YtbejdajkkoapgaaGreatDoorS26
import Derived.Test.YtbejdajkkoapgaaGreatDoorS27
import Derived.Test.YtbejdajkkoapgaaGreatDoorS32
import Derived.Test.YtbejdajkkoapgaaGreatDoorS05
/-
  Contracts of readHdr and of reads at the hdr kind. Conditions: the load is one that a hdr sketch wrote.
-/
set_option linter.unusedVariables false
set_option linter.unusedSimpArgs false
set_option maxRecDepth 100000
namespace Go.Proofs.YtbejdajkkoapgaaGreatDoor
open Go.RowKit Go.Lib

theorem tens_away {eb : Nat} {w w' : World} (h : Sp.Tens w) (a : Away (fun k => k = eb) w w') (hne : ¬ 0 = eb) : Sp.Tens w' :=
  ⟨by rw [a.cell (p := ⟨0, 0, none⟩) h.lt hne]; exact h.c0, by rw [a.cell (p := ⟨0, 1, none⟩) h.lt hne]; exact h.c1, by rw [a.cell (p := ⟨0, 2, none⟩) h.lt hne]; exact h.c2, by rw [a.cell (p := ⟨0, 3, none⟩) h.lt hne]; exact h.c3, by rw [a.cell (p := ⟨0, 4, none⟩) h.lt hne]; exact h.c4⟩
theorem tens_eye {eb : Nat} {w : World} {s : List UInt8} (h : Sp.Tens w) (e : EyO w eb s) : ¬ 0 = eb := fun h0 => by
  subst h0
  have c := Blk.cell (j := 0) e rfl
  rw [h.c0] at c
  simp at c
theorem coreQ_hdr (dg : Nat) (lim : Int) : CoreQ (HdV dg lim) where
  next := fun h b => h.next b
  away := fun h ha hn => by
    obtain ⟨pb, s0, s1, v0, v1, h, rfl⟩ := h
    exact ⟨pb, s0, s1, v0, v1, h.away ha hn, rfl⟩
  lt := fun h => h.lt
  ty := fun h k hk cs => by
    obtain ⟨pb, s0, s1, v0, v1, h, rfl⟩ := h
    rcases hk with rfl | rfl | rfl | rfl | e | e
    · exact ⟨fun hb => (h.blk.ne hb (by decide)) rfl, fun hb => (h.blk.ne hb (by decide)) rfl, fun hb => (h.blk.ne hb (by decide)) rfl⟩
    · obtain ⟨ps, hp⟩ := h.pty
      exact ⟨fun hb => (hp.ne hb (by decide)) rfl, fun hb => (hp.ne hb (by decide)) rfl, fun hb => (hp.ne hb (by decide)) rfl⟩
    · exact ⟨fun hb => (h.st0.blk.ne hb (by decide)) rfl, fun hb => (h.st0.blk.ne hb (by decide)) rfl, fun hb => (h.st0.blk.ne hb (by decide)) rfl⟩
    · exact ⟨fun hb => (h.st1.blk.ne hb (by decide)) rfl, fun hb => (h.st1.blk.ne hb (by decide)) rfl, fun hb => (h.st1.blk.ne hb (by decide)) rfl⟩
    · obtain ⟨cur, hc⟩ := owns_blk h.st0.own e
      exact ⟨fun hb => (hc.ne hb (by decide)) rfl, fun hb => (hc.ne hb (by decide)) rfl, fun hb => (hc.ne hb (by decide)) rfl⟩
    · obtain ⟨cur, hc⟩ := owns_blk h.st1.own e
      exact ⟨fun hb => (hc.ne hb (by decide)) rfl, fun hb => (hc.ne hb (by decide)) rfl, fun hb => (hc.ne hb (by decide)) rfl⟩

/-- what a hdr sketch reads as -/
def loadHE (dg lim zl zh z : Nat) (l0 l1 : Row) : List UInt8 := natB dg ++ (natB lim ++ (natB zl ++ (natB zh ++ (natB z ++ (rowB l0 ++ (rowB l1 ++ []))))))
theorem loadHE_eq (dg lim zl zh z : Nat) (l0 l1 : Row) : loadH dg lim zl zh z l0 l1 = loadHE dg lim zl zh z l0 l1 := by unfold loadH loadHE; simp only [List.append_assoc, List.append_nil]
set_option maxHeartbeats 8000000 in
theorem rd_hdr (w : World) (ht : Sp.Tens w) (eb dg lim z : Nat) (lo hi : Int) (l0 l1 : Row) (vals : Vals) (hvals : rowOf (hf0 dg) vals = l0 ∧ rowOf (hf1 dg) vals = l1 ∧ someOf hfz vals = z ∧ loOf vals = lo ∧ hiOf vals = hi) (h : EyO w eb (loadHE dg lim (zigN lo) (zigN hi) z l0 l1)) (h1 : 1 ≤ dg) (h2 : dg ≤ 4) (hl : lim ≤ 9223372036854775808) (hlo : I64 lo) (hhi : I64 hi) (hz : z ≤ 9223372036854775807)
    (hr0 : Rising l0) (hf0 : Full l0) (hx0 : ∀ x ∈ l0, x.1 < 4000000000000000000 ∧ 1 ≤ x.2 ∧ x.2 < 9223372036854775808) (hn0 : l0.length ≤ 3000) (hr1 : Rising l1) (hf1 : Full l1) (hx1 : ∀ x ∈ l1, x.1 < 4000000000000000000 ∧ 1 ≤ x.2 ∧ x.2 < 9223372036854775808) (hn1 : l1.length ≤ 3000) (hT : hdT l0 l1 z ≤ 9223372036854775807) :
    Calls Tryz.prog 51 #[.pointer (some ⟨eb, 0, none⟩)] w (RdG (cfgV 2 0 0 0 0 (dg : Int) (lim : Int) 0 0 0 0) 129 (HdV dg (lim : Int) vals) w eb) := by
  have r0 := rowB_len l0 ⟨hn0, hr0, fun x hx => by have := hx0 x hx; omega⟩
  have r1 := rowB_len l1 ⟨hn1, hr1, fun x hx => by have := hx1 x hx; omega⟩
  have k10 := natB_len10 dg (by omega)
  have k11 := natB_len10 lim (by omega)
  have k12 := natB_len10 (zigN lo) (zigN_eq lo hlo).2
  have k13 := natB_len10 (zigN hi) (zigN_eq hi hhi).2
  have k14 := natB_len10 z (by omega)
  unfold loadHE at h
  have hlt := Blk.lt h
  have hb0 : Below w.heap.size w (w.alloc (.cells #[.int .i64 0, .int .u64 0, .int .u64 0, .int .i64 0, .int .i64 0, .int .i64 0, .int .u64 0, .int .i64 0, .int .i64 0, .int .i64 0, .int .u64 0] 28)) := (Below.refl _ _).alloc (Nat.le_refl _) _
  have E0 : EyO (w.alloc (.cells #[.int .i64 0, .int .u64 0, .int .u64 0, .int .i64 0, .int .i64 0, .int .i64 0, .int .u64 0, .int .i64 0, .int .i64 0, .int .i64 0, .int .u64 0] 28)) eb _ := Blk.alloc h _
  have R0 : Blk (w.alloc (.cells #[.int .i64 0, .int .u64 0, .int .u64 0, .int .i64 0, .int .i64 0, .int .i64 0, .int .u64 0, .int .i64 0, .int .i64 0, .int .i64 0, .int .u64 0] 28)) w.heap.size _ 28 := Blk.newAt rfl
  have hr1' := eye_small _ eb dg 4 _ E0 h2 (by decide) (by simp only [List.length_append, List.length_nil]; omega)
  have HP := Lib.hid (And.intro hr0 (And.intro hf0 (And.intro hx0 (And.intro hr1 (And.intro hf1 hx1)))))
  have HV := Lib.hid hvals
  have HTEN := Lib.hid ht
  have hne0 := tens_eye ht h
  clear h hr0 hf0 hx0 hr1 hf1 hx1 hvals ht
  go_enter Tryz.func51, Tryz.ntmps51
  go_wp2_with fail
  refine hr1'.mono ?_
  rintro e w1 ⟨rfl, E1, A1⟩
  have hr2 := eye_nat _ eb lim 9223372036854775808 _ E1 hl (by decide) (by simp only [List.length_append, List.length_nil]; omega)
  have R1 := R0.away A1 (by omega)
  have B1 := (Away.of_below (F := fun k => k = eb) hb0).trans' A1 (fun _ _ h => h) (fun _ _ h => h)
  clear hr1' E0 A1
  go_wp2_with fail
  refine hr2.mono ?_
  rintro e w2 ⟨rfl, E2, A2⟩
  have R2 := R1.away A2 (by omega)
  have B2 := B1.trans' A2 (fun _ _ h => h) (fun _ _ h => h)
  have hsz := R2.lt
  have S2 : RdX w eb w2.heap.size (cfgV 2 0 0 0 0 (dg : Int) (lim : Int) 0 0 0 0) _ (w2.alloc (.cells (cfgV 2 0 0 0 0 (dg : Int) (lim : Int) 0 0 0 0) 28)) := ⟨Blk.alloc E2 _, Blk.newAt rfl, R2.alloc _, B2.alloc _, by have := Blk.lt E2; omega, by omega, hsz⟩
  have hr3 := eye_int _ eb lo _ S2.eye hlo (by simp only [List.length_append, List.length_nil]; omega)
  unfold cfgV at hr3
  clear hr2 R1 R2 B1 B2 A2 E1 E2 R0 hb0
  go_wp2_with fail
  refine hr3.mono ?_
  rintro e w3 ⟨rfl, E3, A3⟩
  have S3 := S2.look E3 A3
  have hr4 := eye_int _ eb hi _ S3.eye hhi (by simp only [List.length_append, List.length_nil]; omega)
  clear hr3 S2 E3 A3
  go_wp2_with fail
  refine hr4.mono ?_
  rintro e w4 ⟨rfl, E4, A4⟩
  have S4 := S3.look E4 A4
  have hr5 := eye_nat _ eb z 9223372036854775807 _ S4.eye hz (by decide) (by simp only [List.length_append, List.length_nil]; omega)
  clear hr4 S3 E4 A4
  generalize w2.heap.size = pb at S4 ⊢
  go_wp2_with fail
  refine hr5.mono ?_
  rintro e w5 ⟨rfl, E5, A5⟩
  have S5 := S4.look E5 A5
  have hg0 := get_any w5 eb 4096 l0 _ S5.eye (by omega) (by decide) HP.out.1 HP.out.2.2.1 (by simp only [List.length_append, List.length_nil]; omega)
  clear hr5 S4 E5 A5
  go_wp2_with fail
  refine hg0.mono ?_
  rintro e w6 ⟨u0, rfl, o0, E6, A6⟩
  have S6 := S5.look E6 A6
  have hg1 := get_any w6 eb 4096 l1 [] S6.eye (by omega) (by decide) HP.out.2.2.2.1 HP.out.2.2.2.2.2 (by decide)
  have O0 := Lib.hid (owns_base (base' := 0) o0 (fun _ _ => Nat.zero_le _))
  clear hg0 S5 E6 A6 o0
  go_wp2_with fail
  refine hg1.mono ?_
  rintro e w7 ⟨u1, rfl, o1, E7, A7⟩
  have S7 := S6.look E7 A7
  have o0' := owns_away O0.out A7 (fun g hg e => by
    obtain ⟨cur, hc⟩ := owns_blk O0.out hg
    exact (hc.ne (show Blk w6 eb _ 153 from S6.eye) (by decide)) e)
  have c0 : w7.cell? ⟨pb, 5, none⟩ = some (.int .i64 (dg : Int)) := S7.cfg.cell rfl
  have c1 : w7.cell? ⟨pb, 6, none⟩ = some (.int .u64 (lim : Int)) := S7.cfg.cell rfl
  have hten7 : Sp.Tens w7 := tens_away HTEN.out S7.away hne0
  have hld := hdr_load w7 hten7 dg (lim : Int) l0 l1 z lo hi u0 u1 o0' (owns_base (base' := 0) o1 (fun _ _ => Nat.zero_le _)) h1 h2 (by omega) (by omega) HP.out.1 HP.out.2.1 HP.out.2.2.2.1 HP.out.2.2.2.2.1 (by omega) (by omega) hT
  have HS7 := Lib.hid S7
  clear hg1 S6 E7 A7 o1 o0' O0 S7 hten7
  go_wp2_with fail
  refine hld.mono ?_
  rintro e w8 ⟨po, code, rfl, b8, h8⟩
  have S8 := HS7.out.next b8
  have k0 : w8.cell? ⟨pb, 0, none⟩ = some (.int .i64 2) := S8.cfg.cell rfl
  have k1 : w8.cell? ⟨pb, 1, none⟩ = some (.int .u64 0) := S8.cfg.cell rfl
  have k2 : w8.cell? ⟨pb, 2, none⟩ = some (.int .u64 0) := S8.cfg.cell rfl
  have k3 : w8.cell? ⟨pb, 3, none⟩ = some (.int .i64 0) := S8.cfg.cell rfl
  have k4 : w8.cell? ⟨pb, 4, none⟩ = some (.int .i64 0) := S8.cfg.cell rfl
  have k5 : w8.cell? ⟨pb, 5, none⟩ = some (.int .i64 (dg : Int)) := S8.cfg.cell rfl
  have k6 : w8.cell? ⟨pb, 6, none⟩ = some (.int .u64 (lim : Int)) := S8.cfg.cell rfl
  have k7 : w8.cell? ⟨pb, 7, none⟩ = some (.int .i64 0) := S8.cfg.cell rfl
  have k8 : w8.cell? ⟨pb, 8, none⟩ = some (.int .i64 0) := S8.cfg.cell rfl
  have k9 : w8.cell? ⟨pb, 9, none⟩ = some (.int .i64 0) := S8.cfg.cell rfl
  have k10 : w8.cell? ⟨pb, 10, none⟩ = some (.int .u64 0) := S8.cfg.cell rfl
  obtain ⟨⟨m0, m1, m2, m3, m4, m5, m6, m7, m8, m9, m10⟩, ⟨f0, f1, f2, f3, f4, f5, f6, f7, f8, f9, f10⟩⟩ := zero_cells S8.res
  have hz7 : w.heap.size < w7.heap.size := HS7.out.res.lt
  have hp := putA_blk (a0 := 2) (a1 := 0) (a2 := 0) (a3 := 0) (a4 := 0) (a5 := (dg : Int)) (a6 := (lim : Int)) (a7 := 0) (a8 := 0) (a9 := 0) (a10 := 0) S8.res
  have hfin := Lib.hid (rd_end (coreQ_hdr dg (lim : Int)) (vals := vals) (T := 129) (po := po) (ok := (code == 0)) (a0 := 2) (a1 := 0) (a2 := 0) (a3 := 0) (a4 := 0) (a5 := (dg : Int)) (a6 := (lim : Int)) (a7 := 0) (a8 := 0) (a9 := 0) (a10 := 0) S8 hz7 (fun hk => by
    have hc : code = 0 := by simpa using hk
    obtain ⟨hb, qb, s0, s1, v0, v1, rfl, HD, hO⟩ := h8 hc
    obtain ⟨x0, x1, x2, x3, x4⟩ := HV.out
    exact ⟨hb, _, rfl, ⟨qb, s0, s1, v0, v1, by rw [x0, x1, x2, x3, x4]; exact HD, rfl⟩, hO⟩))
  clear hld S8 HS7 c0 c1 h8
  go_wp2_with fail
  change bodyPost Tryz.prog Tryz.f51 (RdG (cfgV 2 0 0 0 0 (dg : Int) (lim : Int) 0 0 0 0) 129 (HdV dg (lim : Int) vals) w eb) Exit.ret _ (putA w8 w.heap.size 2 0 0 0 0 (dg : Int) (lim : Int) 0 0 0 0)
  generalize putA w8 w.heap.size 2 0 0 0 0 (dg : Int) (lim : Int) 0 0 0 0 = WW at hp hfin ⊢
  have c0 := hp.cell (j := 0) rfl
  have c1 := hp.cell (j := 1) rfl
  have c2 := hp.cell (j := 2) rfl
  have c3 := hp.cell (j := 3) rfl
  have c4 := hp.cell (j := 4) rfl
  have c5 := hp.cell (j := 5) rfl
  have c6 := hp.cell (j := 6) rfl
  have c7 := hp.cell (j := 7) rfl
  have c8 := hp.cell (j := 8) rfl
  have c9 := hp.cell (j := 9) rfl
  have c10 := hp.cell (j := 10) rfl
  refine bodyPost_ret (v := .tuple #[.agg (cfgV 2 0 0 0 0 (dg : Int) (lim : Int) 0 0 0 0), .iface 129 (.agg #[.pointer po]), .bool (code == 0)]) ?_ rfl hfin.out
  simp [results, Tryz.results51, go_sem, cfgV, c0, c1, c2, c3, c4, c5, c6, c7, c8, c9, c10]
end Go.Proofs.YtbejdajkkoapgaaGreatDoor

/-
  Several texts in one: PlOver. What each proves, and on which conditions, stands at its head. Conditions: stated in each.
-/
/-
  Contracts of Over, Ceil of the reference of layer 1, and of Place of the reference of layer 3. Conditions: the part can be, there are values.
-/
set_option linter.unusedVariables false
set_option linter.unusedSimpArgs false
set_option maxRecDepth 100000
namespace Go.Proofs.YtbejdajkkoapgaaGreatDoor.Wd
open Go.RowKit Go.Lib
open Sp (Drew)

abbrev u64 (n : Nat) : Value := .int .u64 (n : Int)
/-- what lies in memory while it divides -/
structure Ov (w0 : World) (s hi lo y r0 r1 q0 q1 : Nat) (W : World) : Prop where
  below : Below w0.heap.size w0 W
  base : w0.heap.size ≤ s
  a : Blk W s #[.int .u64 (hi : Int), .int .u64 (lo : Int)] 103
  d : Blk W (s + 1) #[.int .u64 0, .int .u64 (y : Int)] 103
  r : Blk W (s + 1 + 1) #[.int .u64 (r0 : Int), .int .u64 (r1 : Int)] 103
  q : Blk W (s + 1 + 1 + 1) #[.int .u64 (q0 : Int), .int .u64 (q1 : Int)] 103
namespace Ov
variable {w0 W W' : World} {s hi lo y r0 r1 q0 q1 : Nat}
theorem next (h : Ov w0 s hi lo y r0 r1 q0 q1 W) (hb : Below W.heap.size W W') : Ov w0 s hi lo y r0 r1 q0 q1 W' :=
  ⟨h.below.trans (hb.mono h.below.size), h.base, h.a.below hb h.a.lt, h.d.below hb h.d.lt, h.r.below hb h.r.lt, h.q.below hb h.q.lt⟩
theorem drew (h : Ov w0 s hi lo y r0 r1 q0 q1 W) : Ov w0 s hi lo y r0 r1 q0 q1 W.drew := ⟨h.below.drew, h.base, h.a, h.d, h.r, h.q⟩
/-- all cells at once -/
theorem cells (h : Ov w0 s hi lo y r0 r1 q0 q1 W) :
    W.cell? ⟨s, 0, none⟩ = some (.int .u64 (hi : Int)) ∧ W.cell? ⟨s, 1, none⟩ = some (.int .u64 (lo : Int)) ∧ W.cell? ⟨s + 1, 0, none⟩ = some (.int .u64 0) ∧ W.cell? ⟨s + 1, 1, none⟩ = some (.int .u64 (y : Int)) ∧
    W.cell? ⟨s + 1 + 1, 0, none⟩ = some (.int .u64 (r0 : Int)) ∧ W.cell? ⟨s + 1 + 1, 1, none⟩ = some (.int .u64 (r1 : Int)) ∧ W.cell? ⟨s + 1 + 1 + 1, 0, none⟩ = some (.int .u64 (q0 : Int)) ∧ W.cell? ⟨s + 1 + 1 + 1, 1, none⟩ = some (.int .u64 (q1 : Int)) ∧
    W.frozen? ⟨s + 1 + 1, 0, none⟩ = false ∧ W.frozen? ⟨s + 1 + 1, 1, none⟩ = false ∧ W.frozen? ⟨s + 1 + 1 + 1, 0, none⟩ = false ∧ W.frozen? ⟨s + 1 + 1 + 1, 1, none⟩ = false :=
  ⟨h.a.cell rfl, h.a.cell rfl, h.d.cell rfl, h.d.cell rfl, h.r.cell rfl, h.r.cell rfl, h.q.cell rfl, h.q.cell rfl, h.r.frozen 0, h.r.frozen 1, h.q.frozen 0, h.q.frozen 1⟩
end Ov

end Go.Proofs.YtbejdajkkoapgaaGreatDoor.Wd

