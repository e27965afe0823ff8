/-
  Several texts in one: J13. What each proves, and on which conditions, stands at its head. Conditions: stated in each.
-/
import Derived.Test.YtbejdajkkoapgaaGreatDoorS12
import Derived.Deep.LoopGhost
/-
  Several texts in one: Ey, Fr. What each proves, and on which conditions, stands at its head. Conditions: stated in each.
-/
/-
  Contracts of what reads bytes: the eye of the quill. Conditions: the text starts with what was written.
-/
set_option linter.unusedVariables false
set_option linter.unusedSimpArgs false
set_option maxRecDepth 100000
namespace Go.Proofs.YtbejdajkkoapgaaGreatDoor
open Go.RowKit Go.Lib

/-- an eye on a text -/
def EyO (w : World) (eb : Nat) (s : List UInt8) : Prop := Blk w eb #[.string (bs s), .bool false] 153
theorem EyO.cells {w : World} {eb : Nat} {s : List UInt8} (h : EyO w eb s) : w.cell? ⟨eb, 0, none⟩ = some (.string (bs s)) ∧ w.cell? ⟨eb, 1, none⟩ = some (.bool false) ∧ w.frozen? ⟨eb, 0, none⟩ = false ∧ w.frozen? ⟨eb, 1, none⟩ = false ∧ eb < w.heap.size :=
  ⟨Blk.cell h rfl, Blk.cell h rfl, Blk.frozen h 0, Blk.frozen h 1, Blk.lt h⟩
theorem EyO.set {w : World} {eb : Nat} {s : List UInt8} (h : EyO w eb s) (t : List UInt8) : EyO (w.setCell ⟨eb, 0, none⟩ (.string (bs t))) eb t := Blk.set h 0 _
theorem eye_away (w : World) (eb : Nat) (u : Value) (j : Nat) : Away (fun k => k = eb) w (w.setCell ⟨eb, j, none⟩ u) := (Away.refl _ w).setCell _ _ (.inl rfl)

theorem eye_on (w : World) (s : List UInt8) :
    Calls Tryz.prog 32 #[.string (bs s)] w fun e w' => e = .returned (.pointer (some ⟨w.heap.size, 0, none⟩)) ∧ w' = w.alloc (.cells #[.string (bs s), .bool false] 153) := by
  go_enter Tryz.func32, Tryz.ntmps32
  go_wp2
  go_ret
  exact ⟨rfl, rfl⟩

theorem eye_bad (w : World) (eb : Nat) (s : List UInt8) (h : EyO w eb s) :
    Calls Tryz.prog 74 #[.pointer (some ⟨eb, 0, none⟩)] w fun e w' => e = .returned (.bool false) ∧ w = w' := by
  obtain ⟨c0, c1, f0, f1, _⟩ := h.cells
  clear h
  go_enter Tryz.func74, Tryz.ntmps74
  go_wp2
  go_ret
  exact ⟨rfl, rfl⟩

theorem eye_over (w : World) (eb : Nat) (h : EyO w eb []) :
    Calls Tryz.prog 34 #[.pointer (some ⟨eb, 0, none⟩)] w fun e w' => e = .returned (.bool true) ∧ w = w' := by
  obtain ⟨c0, c1, f0, f1, _⟩ := h.cells
  clear h
  go_enter Tryz.func34, Tryz.ntmps34
  go_wp2
  go_ret
  exact ⟨by simp [bs_toList], rfl⟩

theorem eye_raw (w : World) (eb n : Nat) (s : List UInt8) (h : EyO w eb s) (hn : n ≤ s.length) (hs : s.length ≤ 4000000000000000000) :
    Calls Tryz.prog 46 #[.pointer (some ⟨eb, 0, none⟩), .int .i64 (n : Int)] w fun e w' => e = .returned (.string (bs (s.take n))) ∧ w' = w.setCell ⟨eb, 0, none⟩ (.string (bs (s.drop n))) := by
  obtain ⟨c0, c1, f0, f1, _⟩ := h.cells
  clear h
  have hz := bs_size s
  have e1 : (bs s).extract 0 n = bs (s.take n) := by rw [bs_extract]; simp
  have e2 : (bs s).extract n s.length = bs (s.drop n) := by rw [bs_extract, List.take_of_length_le (by simp)]
  go_enter Tryz.func46, Tryz.ntmps46
  go_wp2
  go_ret
  exact ⟨rfl, rfl⟩

theorem or_nat (u m i : Nat) (S : Int) (hS : S = ((7 * i : Nat) : Int)) (hu : u < 2 ^ (7 * i)) (h : u + m * 2 ^ (7 * i) < 18446744073709551616) : bits .or .u64 (u : Int) (IntKind.u64.wrap ((m : Int) * 2 ^ S.toNat)) = ((u + m * 2 ^ (7 * i) : Nat) : Int) := by
  rw [hS, Int.toNat_natCast, show (m : Int) * 2 ^ (7 * i) = ((m * 2 ^ (7 * i) : Nat) : Int) from by simp]
  have : IntKind.u64.wrap ((m * 2 ^ (7 * i) : Nat) : Int) = ((m * 2 ^ (7 * i) : Nat) : Int) := by rw [IntKind.wrap_u64]; omega
  rw [this, u64_or_nat _ _ (by omega) (by omega), or_add u m _ hu]
theorem and_low (y m : Nat) (h : y = m ∨ y = m + 128) (hm : m < 128) : bits .and .u8 (y : Int) 127 = (m : Int) := by
  rw [u8_and _ _ (by omega) (by omega) (by decide) (by decide)]
  have k : ∀ x : Fin 256, x.val &&& 127 = x.val % 128 := by decide
  have := k ⟨y, by omega⟩
  simp only [Int.toNat_natCast, show (127 : Int).toNat = 127 from rfl] at this ⊢
  rw [this]; omega
section
open Go
variable {P : Program} {a : Act} {w : World} {Q : Exit → Act → World → Prop}
theorem wp_scope_loop {c rest : Code} (l : Nat) (J : Act → World → Prop) (μ : Act → World → Nat) (hf : findLabel c l = some (.seq .skip rest))
    (pass : ∀ a w, J a w → rest.wp P (Exit.jump l (fun a' w' => J a' w' ∧ μ a' w' < μ a w) Q) a w)
    (first : (∀ a w, J a w → rest.wp P (Exit.jump l J Q) a w) → c.wp P (Exit.jump l J Q) a w) : (Code.scope c).wp P Q a w :=
  wp_scope_jumps l J μ hf (first fun a w h => Code.wp_mono (fun e a w hq => by
    cases e with
    | goto l' => exact ⟨hq.1, hq.2.1⟩
    | _ => exact hq) (pass a w h)) fun a w h => wp_seq (wp_skip (pass a w h))
end

def intV : Value → Int | .int _ q => q | _ => 0
def EyJ (w : World) (eb n L : Nat) (r : List UInt8) (a : Act) (wr : World) : Prop := ∃ (u m i : Nat) (u7 u8 u9 u10 u11 u12 u13 u14 u15 u16 u17 u18 u19 u20 u21 u22 u23 u24 u25 u26 u27 u28 u29 u30 u31 u32 u33 u34 u35 u36 u37 u38 u39 u40 u41 u42 : Value), a = { tmps := #[.pointer (some ⟨eb, 0, none⟩), .int .u64 (L : Int), undef, undef, .int .u64 0, .int .u64 (u : Int), .int .i64 ((7 * i : Nat) : Int), u7, u8, u9, u10, u11, u12, u13, u14, u15, u16, u17, u18, u19, u20, u21, u22, u23, u24, u25, u26, u27, u28, u29, u30, u31, u32, u33, u34, u35, u36, u37, u38, u39, u40, u41, u42, undef, undef, undef, undef, undef, undef], defers := [] } ∧
    i + (natB m).length ≤ 10 ∧ u + m * 2 ^ (7 * i) = n ∧ u < 2 ^ (7 * i) ∧ (i = 0 ∨ 1 ≤ m) ∧ EyO wr eb (natB m ++ r) ∧ Away (fun k => k = eb) w wr
theorem eye_nat (w : World) (eb n L : Nat) (r : List UInt8) (h : EyO w eb (natB n ++ r)) (hn : n ≤ L) (hL : L < 18446744073709551616) (hs : r.length ≤ 1000000000) :
    Calls Tryz.prog 69 #[.pointer (some ⟨eb, 0, none⟩), .int .u64 (L : Int)] w fun e w' => e = .returned (.int .u64 (n : Int)) ∧ EyO w' eb r ∧ Away (fun k => k = eb) w w' := by
  have hnl := natB_len10 n (by omega)
  go_enter Tryz.func69, Tryz.ntmps69
  go_wp2
  have start : EyJ w eb n L r { tmps := #[.pointer (some ⟨eb, 0, none⟩), .int .u64 (L : Int), undef, undef, .int .u64 0, .int .u64 0, .int .i64 0, undef, undef, undef, undef, undef, undef, undef, undef, undef, undef, undef, undef, undef, undef, undef, undef, undef, undef, undef, undef, undef, undef, undef, undef, undef, undef, undef, undef, undef, undef, undef, undef, undef, undef, undef, undef, undef, undef, undef, undef, undef, undef], defers := [] } w := ⟨0, n, 0, _, _, _, _, _, _, _, _, _, _, _, _, _, _, _, _, _, _, _, _, _, _, _, _, _, _, _, _, _, _, _, _, _, _, _, _, rfl, by omega, by simp, by simp, .inl rfl, h, Away.refl _ _⟩
  refine wp_scope_loop 0 (EyJ w eb n L r) (fun a' _ => (70 - intV (a'.tmps.getD 6 undef)).toNat) rfl ?pass ?first
  case pass =>
    clear h start
    rintro a' wr ⟨u, m, i, u7, u8, u9, u10, u11, u12, u13, u14, u15, u16, u17, u18, u19, u20, u21, u22, u23, u24, u25, u26, u27, u28, u29, u30, u31, u32, u33, u34, u35, u36, u37, u38, u39, u40, u41, u42, rfl, hi, hum, hu, him, hE, hA⟩
    obtain ⟨S, hS⟩ : ∃ S : Int, S = ((7 * i : Nat) : Int) := ⟨_, rfl⟩
    have hpl : 1 ≤ (natB m).length := natB_pos m
    have s0 : (0 : Int) ≤ S := by omega
    have s1 : S ≤ 64 := by omega
    rw [← hS]
    have HS := Lib.hid hS
    by_cases hm : m < 128
    · have e1 := natB_small (n := m) (by omega)
      have hr := eye_raw wr eb 1 (natB m ++ r) hE (by rw [e1]; simp) (by rw [e1]; simp; omega)
      rw [e1] at hr
      simp only [List.cons_append, List.nil_append, List.take_succ_cons, List.take_zero, List.drop_succ_cons, List.drop_zero] at hr
      have hb2 : ((UInt8.ofNat m).toNat : Int) = (m : Int) := u8_of m (by omega)
      have hbe : (bs [UInt8.ofNat m]).toList.isEmpty = false := by rw [bs_toList]; rfl
      have hbs : (bs [UInt8.ofNat m]).size = 1 := by rw [bs_size]; rfl
      have hbg : ∀ h, (bs [UInt8.ofNat m])[0]'h = UInt8.ofNat m := fun _ => rfl
      have hba : bits .and .u8 (m : Int) 127 = (m : Int) := and_low m m (.inl rfl) hm
      have hlo : u + m * 2 ^ (7 * i) < 18446744073709551616 := by omega
      have hor : bits .or .u64 (u : Int) (IntKind.u64.wrap ((m : Int) * 2 ^ S.toNat)) = (n : Int) := by
        rw [or_nat u m i S hS hu hlo, hum]
      have FIN := Lib.hid (show EyO (wr.setCell ⟨eb, 0, none⟩ (.string (bs r))) eb r ∧ Away (fun k => k = eb) w (wr.setCell ⟨eb, 0, none⟩ (.string (bs r))) from ⟨hE.set r, hA.trans' (eye_away wr eb _ 0) (fun k _ hk => hk) (fun k _ hk => hk)⟩)
      have hnL : (n : Int) ≤ (L : Int) := by omega
      by_cases hi9 : i = 9
      · have f1 : (S == 63) = true := by simp; omega
        have f2 : S = 63 := by omega
        have f3 : (0 : Int) < S := by omega
        have hm1 : m = 1 := by
          subst hi9
          rcases him with h | h
          · omega
          · have e : (2 : Nat) * 2 ^ (7 * 9) = 18446744073709551616 := by decide
            have h2 : m * 2 ^ (7 * 9) < 2 * 2 ^ (7 * 9) := by rw [e]; omega
            have := Nat.lt_of_mul_lt_mul_right h2
            omega
        have f4 : ¬ (m : Int) = 0 := by omega
        have f5 : ¬ (1 : Int) < (m : Int) := by omega
        generalize UInt8.ofNat m = b at *
        clear hS hum hu him hE hA e1 hlo hm1 f2
        go_wp2_with (go_at_call 46; refine hr.mono ?_; rintro e w3 ⟨rfl, rfl⟩)
        simp only [Exit.jump]
        go_ret
        exact ⟨rfl, FIN.out⟩
      · have f1 : (S == 63) = false := by simp; omega
        have f2 : ¬ S = 63 := by omega
        by_cases hi0 : i = 0
        · have f3 : ¬ (0 : Int) < S := by omega
          generalize UInt8.ofNat m = b at *
          clear hS hum hu him hE hA e1 hlo
          by_cases f4 : ((m : Int) == 0) = true
          · go_wp2_with (go_at_call 46; refine hr.mono ?_; rintro e w3 ⟨rfl, rfl⟩)
            simp only [Exit.jump]
            go_ret
            exact ⟨rfl, FIN.out⟩
          · have f4 : ((m : Int) == 0) = false := by simpa using f4
            go_wp2_with (go_at_call 46; refine hr.mono ?_; rintro e w3 ⟨rfl, rfl⟩)
            simp only [Exit.jump]
            go_ret
            exact ⟨rfl, FIN.out⟩
        · have f3 : (0 : Int) < S := by omega
          have f4 : ¬ (m : Int) = 0 := by omega
          generalize UInt8.ofNat m = b at *
          clear hS hum hu him hE hA e1 hlo
          go_wp2_with (go_at_call 46; refine hr.mono ?_; rintro e w3 ⟨rfl, rfl⟩)
          simp only [Exit.jump]
          go_ret
          exact ⟨rfl, FIN.out⟩
    · have e1 := natB_big (n := m) (by omega)
      have e2 := natB_pos (m / 128)
      have hml : (natB m).length = (natB (m / 128)).length + 1 := by rw [e1, List.length_cons]
      have hml2 : (natB (m / 128)).length ≤ 10 := by omega
      have hr := eye_raw wr eb 1 (natB m ++ r) hE (by rw [e1]; simp) (by rw [e1]; simp; omega)
      rw [e1] at hr
      simp only [List.cons_append, List.nil_append, List.take_succ_cons, List.take_zero, List.drop_succ_cons, List.drop_zero] at hr
      obtain ⟨y, hy⟩ : ∃ y, y = m % 128 + 128 := ⟨_, rfl⟩
      rw [← hy] at hr
      have hb2 : ((UInt8.ofNat y).toNat : Int) = (y : Int) := u8_of y (by omega)
      have hbe : (bs [UInt8.ofNat y]).toList.isEmpty = false := by rw [bs_toList]; rfl
      have hbs : (bs [UInt8.ofNat y]).size = 1 := by rw [bs_size]; rfl
      have hbg : ∀ h, (bs [UInt8.ofNat y])[0]'h = UInt8.ofNat y := fun _ => rfl
      obtain ⟨x, hx⟩ : ∃ x, x = m % 128 := ⟨_, rfl⟩
      have hba : bits .and .u8 (y : Int) 127 = (x : Int) := and_low y x (.inr (by omega)) (by omega)
      have pe := part_eq u m (7 * i)
      have pl := part_lt u m (7 * i) hu
      rw [← hx] at pe pl
      obtain ⟨u2, hu2⟩ : ∃ u2, u2 = u + x * 2 ^ (7 * i) := ⟨_, rfl⟩
      rw [← hu2] at pe pl
      have hor : bits .or .u64 (u : Int) (IntKind.u64.wrap ((x : Int) * 2 ^ S.toNat)) = (u2 : Int) := by
        rw [or_nat u x i S hS hu (by omega), hu2]
      have FIN := Lib.hid (show EyO (wr.setCell ⟨eb, 0, none⟩ (.string (bs (natB (m / 128) ++ r)))) eb (natB (m / 128) ++ r) ∧ Away (fun k => k = eb) w (wr.setCell ⟨eb, 0, none⟩ (.string (bs (natB (m / 128) ++ r)))) from ⟨hE.set _, hA.trans' (eye_away wr eb _ 0) (fun k _ hk => hk) (fun k _ hk => hk)⟩)
      have f1 : (S == 63) = false := by simp; omega
      have f2 : ¬ S = 63 := by omega
      have f4 : ¬ (y : Int) = 0 := by omega
      have f5 : (128 : Int) ≤ (y : Int) := by omega
      have g1 : S + 7 ≤ 70 := by omega
      have g2 : x < 128 := by omega
      have g3 : u < 18446744073709551616 := by omega
      have NEXT := Lib.hid (show S + 7 = ((7 * (i + 1) : Nat) : Int) ∧ i + 1 + (natB (m / 128)).length ≤ 10 ∧ u2 + m / 128 * 2 ^ (7 * (i + 1)) = n ∧ u2 < 2 ^ (7 * (i + 1)) ∧ 1 ≤ m / 128 from
        ⟨by omega, by omega, by rw [show 7 * (i + 1) = 7 * i + 7 from by omega, pe, hum], by rw [show 7 * (i + 1) = 7 * i + 7 from by omega]; exact pl, by omega⟩)
      generalize UInt8.ofNat y = b at *
      clear hS hum hu him hE hA e1 e2 hml hml2 hy hx pe pl hu2
      generalize hrest : natB (m / 128) ++ r = rest at *
      have HR := Lib.hid hrest
      clear hrest
      go_wp2_with (go_at_call 46; refine hr.mono ?_; rintro e w3 ⟨rfl, rfl⟩)
      go_step3
      obtain ⟨h1, h2, h3, h4, h5⟩ := NEXT.out
      have h6 := NEXT.out.1
      rw [h1]
      refine ⟨rfl, ⟨u2, m / 128, i + 1, _, _, _, _, _, _, _, _, _, _, _, _, _, _, _, _, _, _, _, _, _, _, _, _, _, _, _, _, _, _, _, _, _, _, _, _, rfl, h2, h3, h4, .inr h5, by rw [HR.out]; exact FIN.out⟩, ?_⟩
      simp [intV]
      have := HS.out
      omega
  case first =>
    intro hp
    go_wp2
    go_step3
    rename_i hK
    exact hK _ _ (hp _ _ start)

theorem zag_zig (x : Int) : Sg.zagF (Sg.zigF x) = x := by
  have h1 := Sg.zigF_or x
  have h2 := Sg.zagF_or (Sg.zigF x)
  omega
theorem eye_int (w : World) (eb : Nat) (x : Int) (r : List UInt8) (h : EyO w eb (natB (zigN x) ++ r)) (hx : -9223372036854775808 ≤ x ∧ x ≤ 9223372036854775807) (hs : r.length ≤ 1000000000) :
    Calls Tryz.prog 72 #[.pointer (some ⟨eb, 0, none⟩)] w fun e w' => e = .returned (.int .i64 x) ∧ EyO w' eb r ∧ Away (fun k => k = eb) w w' := by
  obtain ⟨z1, z2⟩ := zigN_eq x hx
  have hn := eye_nat w eb (zigN x) 18446744073709551615 r h (by omega) (by decide) hs
  have hz := fun W => Sg.zag_any ((zigN x : Nat) : Int) W (by omega) (by omega)
  have e : Sg.zagF ((zigN x : Nat) : Int) = x := by rw [← z1, zag_zig]
  rw [e] at hz
  clear e z1 h
  generalize zigN x = n at *
  go_enter Tryz.func72, Tryz.ntmps72
  go_wp2_with (first | (go_at_call 69; refine hn.mono ?_; rintro e w3 ⟨rfl, E3, A3⟩) | (go_at_call 88; refine (hz _).mono ?_; rintro e w3 ⟨rfl, rfl⟩))
  go_ret
  exact ⟨rfl, E3, A3⟩

theorem eye_small (w : World) (eb n L : Nat) (r : List UInt8) (h : EyO w eb (natB n ++ r)) (hn : n ≤ L) (hL : L < 9223372036854775808) (hs : r.length ≤ 1000000000) :
    Calls Tryz.prog 47 #[.pointer (some ⟨eb, 0, none⟩), .int .i64 (L : Int)] w fun e w' => e = .returned (.int .i64 (n : Int)) ∧ EyO w' eb r ∧ Away (fun k => k = eb) w w' := by
  have hc := eye_nat w eb n L r h hn (by omega) hs
  clear h
  go_enter Tryz.func47, Tryz.ntmps47
  go_wp2_with (first | (go_at_call 69; refine hc.mono ?_; rintro e w3 ⟨rfl, E3, A3⟩))
  go_ret
  exact ⟨rfl, E3, A3⟩

theorem eye_count (w : World) (eb n : Nat) (r : List UInt8) (h : EyO w eb (natB n ++ r)) (h1 : 1 ≤ n) (hn : n < 9223372036854775808) (hs : r.length ≤ 1000000000) :
    Calls Tryz.prog 80 #[.pointer (some ⟨eb, 0, none⟩)] w fun e w' => e = .returned (.int .u64 (n : Int)) ∧ EyO w' eb r ∧ Away (fun k => k = eb) w w' := by
  have hc := eye_nat w eb n 9223372036854775807 r h (by omega) (by omega) hs
  have h2 : ¬ (n : Int) = 0 := by omega
  clear h
  go_enter Tryz.func80, Tryz.ntmps80
  go_wp2_with (first | (go_at_call 69; refine hc.mono ?_; rintro e w3 ⟨rfl, E3, A3⟩))
  go_ret
  exact ⟨rfl, E3, A3⟩
end Go.Proofs.YtbejdajkkoapgaaGreatDoor

/-
  Contracts of package frame: step, Sum, four, Close, Open. Conditions: the load is not too long.
-/
set_option linter.unusedVariables false
set_option linter.unusedSimpArgs false
set_option maxRecDepth 100000
namespace Go.Proofs.YtbejdajkkoapgaaGreatDoor
open Go.RowKit Go.Lib

theorem xor32 (a b : Nat) (ha : a < 4294967296) (hb : b < 4294967296) : bits .xor .u32 (a : Int) (b : Int) = ((a ^^^ b : Nat) : Int) := u32_xor_nat a b ha hb
theorem low32 (a : Nat) (ha : a < 4294967296) : bits .and .u32 (a : Int) 1 = ((a % 2 : Nat) : Int) := by
  rw [show (1 : Int) = ((1 : Nat) : Int) from rfl, u32_and_nat a 1 ha (by decide), Nat.and_one_is_mod]

theorem step_any (w : World) (c b : Nat) (hc : c < 4294967296) (hb : b < 256) :
    Calls Tryz.prog 70 #[.int .u32 (c : Int), .int .u8 (b : Int)] w fun e w' => e = .returned (.int .u32 ((stepB c b : Nat) : Int)) ∧ w = w' := by
  have hx := xor32 c b hc (by omega)
  have hs : stepB c b = halves 8 (c ^^^ b) := rfl
  rw [hs]
  have hl : (c ^^^ b) < 4294967296 := Nat.xor_lt_two_pow (n := 32) (by omega) (by omega)
  generalize (c ^^^ b) = z at *
  clear hs
  go_enter Tryz.func70, Tryz.ntmps70
  go_wp2
  go_loopg [0, 9] 8 (fun g p i wr => ∃ k x : Nat, p = .int .u32 (x : Int) ∧ i = .int .i64 (k : Int) ∧ k ≤ 8 ∧ 8 - k ≤ g ∧ x < 4294967296 ∧ halves (8 - k) x = halves 8 z ∧ wr = w)
  case atStart => exact ⟨0, z, rfl, rfl, by decide, by decide, hl, rfl, rfl⟩
  case round =>
    clear hl hx
    obtain ⟨k, x, rfl, rfl, hk, hg, hx, hh, rfl⟩ := hrel
    by_cases hk8 : k < 8
    · have g1 : (k : Int) < 8 := by omega
      have e1 := low32 x hx
      have e2 : halves (8 - k) x = halves (8 - (k + 1)) (half x) := by rw [show 8 - k = (8 - (k + 1)) + 1 from by omega]; rfl
      have hlt := half_lt hx
      by_cases h1 : x % 2 = 1
      · have e3 : half x = (x / 2) ^^^ 3988292384 := by unfold half; rw [if_pos h1]
        have e4 := xor32 (x / 2) 3988292384 (by omega) (by decide)
        rw [← e3] at e4
        have e5 : ((x : Int) / 2) = ((x / 2 : Nat) : Int) := by omega
        rw [← e5] at e4
        have HH := Lib.hid (And.intro hh (And.intro e2 hlt))
        rw [h1] at e1
        generalize half x = y at *
        clear hh e2 hlt e3 e5
        go_wp2
        go_roundg (8 - (k + 1))
        case measure => omega
        exact ⟨k + 1, y, by first | rfl | (rw [← e4]; rfl), by go_num, by omega, by omega, HH.out.2.2, by rw [← HH.out.1, HH.out.2.1], rfl⟩
      · have e3 : half x = x / 2 := by unfold half; rw [if_neg h1]
        have h0 : x % 2 = 0 := by omega
        rw [h0] at e1
        have HH := Lib.hid (And.intro hh (And.intro e2 hlt))
        clear hh e2 hlt
        go_wp2
        go_roundg (8 - (k + 1))
        case measure => omega
        exact ⟨k + 1, half x, by rw [e3]; go_num, by go_num, by omega, by omega, HH.out.2.2, by rw [← HH.out.1, HH.out.2.1], rfl⟩
    · have hke : k = 8 := by omega
      have g1 : ¬ (k : Int) < 8 := by omega
      subst hke
      have hh2 : x = halves 8 z := by rw [← hh]; rfl
      have HH := Lib.hid hh2
      clear hh hh2
      go_wp2
      go_ret
      exact ⟨by rw [HH.out]; rfl, rfl⟩

theorem not32 (n : Nat) (h : n < 4294967296) : bits .xor .u32 IntKind.u32.max (n : Int) = ((4294967295 - n : Nat) : Int) := by
  rw [show IntKind.u32.max = ((4294967295 : Nat) : Int) from rfl, xor32 _ _ (by decide) h, Nat.xor_comm]
  have e : (BitVec.ofNat 32 n ^^^ BitVec.allOnes 32).toNat = (~~~ BitVec.ofNat 32 n).toNat := by rw [BitVec.xor_allOnes]
  rw [BitVec.toNat_not, BitVec.toNat_xor, BitVec.toNat_allOnes, BitVec.toNat_ofNat, Nat.mod_eq_of_lt (by omega)] at e
  rw [show n ^^^ 4294967295 = 4294967295 - n from e]
theorem bs_at (s : List UInt8) (k : Nat) (hk : k < s.length) (h : k < (bs s).size) : (bs s)[k]'h = s[k]'hk := by
  rw [← bs_get s k hk]; simp [ByteArray.get!, bs, hk]; rfl
theorem sum_any (w : World) (s : List UInt8) (hs : s.length ≤ 1000000000) :
    Calls Tryz.prog 49 #[.string (bs s)] w fun e w' => e = .returned (.int .u32 ((sumB s : Nat) : Int)) ∧ w = w' := by
  have hz := bs_size s
  have hcr := crc_lt s
  obtain ⟨m, hm⟩ : ∃ m, m = s.length := ⟨_, rfl⟩
  have HM := Lib.hid hm
  rw [← hm] at hs hz
  clear hm
  go_enter Tryz.func49, Tryz.ntmps49
  go_wp2
  go_loopg [3, 4, 7] m (fun g p u i wr => ∃ k x : Nat, p = .int .u32 (x : Int) ∧ i = .int .i64 (k : Int) ∧ k ≤ m ∧ m - k ≤ g ∧ x < 4294967296 ∧ x = crc (s.take k) ∧ wr = w)
  case atStart => exact ⟨0, 4294967295, rfl, rfl, Nat.zero_le _, Nat.le_refl _, by decide, rfl, rfl⟩
  case round =>
    obtain ⟨k, x, rfl, rfl, hk, hg, hx, hh, rfl⟩ := hrel
    have HH := Lib.hid hh
    by_cases hkm : k < m
    · have g1 : (k : Int) < (m : Int) := by omega
      have g2 : k < (bs s).size := by omega
      have g3 : k < s.length := by rw [← HM.out]; omega
      have hb := fun h => bs_at s k g3 h
      have ht := crc_take s k g3
      have hst := step_any wr x (s[k]'g3).toNat hx (UInt8.toNat_lt _)
      rw [← hh] at ht
      have hsl := stepB_lt (c := x) hx (UInt8.toNat_lt (s[k]'g3))
      have HT := Lib.hid (And.intro ht hsl)
      generalize s[k]'g3 = b at *
      clear hh ht hsl
      go_wp2_with (go_at_call 70; refine hst.mono ?_; rintro e w3 ⟨rfl, rfl⟩)
      go_roundg (m - (k + 1))
      case measure => omega
      exact ⟨k + 1, _, rfl, by go_num, by omega, by omega, HT.out.2, HT.out.1.symm, rfl⟩
    · have g1 : ¬ (k : Int) < (m : Int) := by omega
      have hx2 : x = crc s := by rw [hh, show k = m from by omega, HM.out, List.take_length]
      have HX := Lib.hid hx2
      clear hh hx2
      go_wp2
      go_ret
      have hN := not32 x hx
      refine ⟨?_, rfl⟩
      unfold sumB
      rw [← HX.out, ← hN]
      rfl

theorem four_any (w : World) (c : Nat) (hc : c < 4294967296) :
    Calls Tryz.prog 48 #[.int .u32 (c : Int)] w fun e w' => e = .returned (.string (bs (fourB c))) ∧ Below w.heap.size w w' := by
  have e1 : ((c : Int) % 256) = ((UInt8.ofNat (c % 256)).toNat : Int) := by rw [u8_of _ (by omega)]; omega
  have e2 : ((c : Int) / 256 % 256) = ((UInt8.ofNat (c / 256 % 256)).toNat : Int) := by rw [u8_of _ (by omega)]; omega
  have e3 : ((c : Int) / 65536 % 256) = ((UInt8.ofNat (c / 65536 % 256)).toNat : Int) := by rw [u8_of _ (by omega)]; omega
  have e4 : ((c : Int) / 16777216) = ((UInt8.ofNat (c / 16777216 % 256)).toNat : Int) := by rw [u8_of _ (by omega)]; omega
  have kc : ∀ W, W = (w.alloc (.cells #[.int .u8 ((c : Int) % 256), .int .u8 ((c : Int) / 256 % 256), .int .u8 ((c : Int) / 65536 % 256), .int .u8 ((c : Int) / 16777216)] 5)) → (convert 63 9 (.slice (some ⟨w.heap.size, 0, none⟩) 4 4)).run Tryz.prog W = .ok (.string (bs (fourB c))) W := by
    rintro W rfl
    rw [e1, e2, e3, e4]
    exact run_convert_bytes_back (P := Tryz.prog) _ 63 9 5 ⟨w.heap.size, 0, none⟩ 4 (fourB c) Tryz.underlying63 Tryz.underlying5 Tryz.underlying9 (fun j hj => by
      rw [Addr.add_lit, Nat.zero_add]
      rw [fourB_length] at hj
      have : j = 0 ∨ j = 1 ∨ j = 2 ∨ j = 3 := by omega
      rcases this with rfl | rfl | rfl | rfl <;> exact (Blk.newAt rfl).cell rfl)
  have kc := kc _ rfl
  clear e1 e2 e3 e4
  generalize bs (fourB c) = s at *
  go_enter Tryz.func48, Tryz.ntmps48
  go_wp2
  go_ret
  exact ⟨rfl, (Below.refl _ _).alloc (Nat.le_refl _) _⟩

theorem byte_str (w : World) (k : UInt8) : (convert 63 9 (.slice (some ⟨w.heap.size, 0, none⟩) 1 1)).run Tryz.prog (w.alloc (.cells #[.int .u8 (k.toNat : Int)] 5)) = .ok (.string (bs [k])) (w.alloc (.cells #[.int .u8 (k.toNat : Int)] 5)) :=
  run_convert_bytes_back (P := Tryz.prog) _ 63 9 5 ⟨w.heap.size, 0, none⟩ 1 [k] Tryz.underlying63 Tryz.underlying5 Tryz.underlying9 (fun j hj => by
      rw [Addr.add_lit, Nat.zero_add]
      have : j = 0 := by simpa using hj
      subst this
      exact (Blk.newAt rfl).cell rfl)
theorem QuO.fresh (w : World) : QuO w.heap.size (w.alloc (.cells #[.slice none 0 0] 109)) w.heap.size (.slice none (([] : List UInt8).length) 0) [] :=
  ⟨Blk.newAt rfl, World.ownsRow_nil _ _ _ _, Nat.le_refl _⟩

theorem close_any (w : World) (kind : UInt8) (load : List UInt8) (hl : load.length ≤ 200000) :
    Calls Tryz.prog 39 #[.int .u8 (kind.toNat : Int), .string (bs load)] w fun e w' => e = .returned (.tuple #[.string (bs (frameB kind load)), .int .i64 0]) ∧ Below w.heap.size w w' := by
  have hz := bs_size load
  have hm3 : markB.length = 3 := rfl
  have S0 := NaS.start (QuO.fresh w)
  have hnl := natB_len10 load.length (by omega)
  have hB0 : w.heap.size ≤ (w.alloc (.cells #[.slice none 0 0] 109)).heap.size := by simp
  obtain ⟨m, hm⟩ : ∃ m, m = load.length := ⟨_, rfl⟩
  have HM := Lib.hid hm
  have c1 := qu_raw _ _ _ _ _ _ markB S0.qu hB0 (by decide)
  rw [← hm] at hl hz hnl
  clear hm
  go_enter Tryz.func39, Tryz.ntmps39
  go_wp2_with fail
  refine c1.mono ?_
  rintro e w1 ⟨rfl, A1, k1, S1⟩
  clear c1 hB0 S0
  have hB1 := S1.below.size
  have HB1 := Lib.hid S1.below
  have hB1s : w.heap.size ≤ w1.heap.size := by simp at hB1; omega
  have bc := byte_str w1 kind
  have c2 := qu_raw _ (w1.alloc (.cells #[.int .u8 (kind.toNat : Int)] 5)) _ _ _ _ [kind] (S1.qu.alloc _) (by simp; omega) (by simp [markB])
  go_wp2_with fail
  refine c2.mono ?_
  rintro e w2 ⟨rfl, A2, k2, S2⟩
  have hB2 := S2.below.size
  have HB2 := Lib.hid S2.below
  have hB2s : w.heap.size ≤ w2.heap.size := by simp at hB2; omega
  clear c2 bc S1
  have c3 := qu_nat _ (w2.alloc (.cells (u64C [m]) 23)) _ w2.heap.size 1 _ _ _ [m] (S2.qu.alloc _) (by simp; omega) (Blk.newAt rfl) (by simp; omega) (by simp only [List.length_append, List.length_nil, List.length_singleton, List.length_cons, List.flatMap_cons, List.flatMap_nil, hm3]; omega) (by simp)
  go_wp2_with fail
  refine c3.mono ?_
  rintro e w3 ⟨rfl, A3, k3, S3⟩
  have hB3 := S3.below.size
  have HB3 := Lib.hid S3.below
  have hB3s : w.heap.size ≤ w3.heap.size := by simp at hB3; omega
  clear c3 S2
  have c4 := qu_raw _ w3 _ _ _ _ load S3.qu (by omega) (by rw [← HM.out]; simp only [List.length_append, List.length_nil, List.length_singleton, List.length_cons, List.flatMap_cons, List.flatMap_nil, hm3]; omega)
  go_wp2_with fail
  refine c4.mono ?_
  rintro e w4 ⟨rfl, A4, k4, S4⟩
  have hB4 := S4.below.size
  have HB4 := Lib.hid S4.below
  have hB4s : w.heap.size ≤ w4.heap.size := by omega
  clear c4 S3
  have hO : ([] ++ markB ++ [kind] ++ List.flatMap natB [m] ++ load) = headB kind load := by simp [headB, HM.out]
  rw [hO] at S4
  have hhl := headB_length kind load
  rw [← HM.out] at hhl
  have ht1 := qu_text _ w4 _ _ _ S4.qu
  have hsum := sum_any w4 (headB kind load) (by omega)
  have hfour := four_any w4 (sumB (headB kind load)) (by unfold sumB; omega)
  go_wp2_with fail
  refine ht1.mono ?_
  rintro e w5 ⟨rfl, rfl⟩
  go_wp2_with fail
  refine hsum.mono ?_
  rintro e w5 ⟨rfl, rfl⟩
  go_wp2_with fail
  refine hfour.mono ?_
  rintro e w5 ⟨rfl, b5⟩
  have c5 := qu_raw _ w5 _ _ _ _ (fourB (sumB (headB kind load))) (S4.qu.next b5) (by have := b5.size; omega) (by rw [fourB_length]; omega)
  go_wp2_with fail
  refine c5.mono ?_
  rintro e w6 ⟨rfl, A6, k6, S6⟩
  have ht2 := qu_text _ w6 _ _ _ S6.qu
  go_wp2_with fail
  refine ht2.mono ?_
  rintro e w7 ⟨rfl, rfl⟩
  clear ht1 hsum hfour c5 ht2
  go_wp2_with fail
  go_ret2
  have hF : headB kind load ++ fourB (sumB (headB kind load)) = frameB kind load := rfl
  rw [← hF]
  refine ⟨rfl, ?_⟩
  have b0 : Below w.heap.size w (w.alloc (.cells #[.slice none 0 0] 109)) := (Below.refl _ w).alloc (Nat.le_refl _) _
  exact b0.trans (((((HB1.out.trans ((Below.refl _ w1).alloc hB1s _)).trans HB2.out).trans ((Below.refl _ w2).alloc hB2s _)).trans HB3.out).trans (HB4.out.trans ((b5.mono hB4s).trans S6.below)))

theorem eye_part (w : World) (eb n : Nat) (l r : List UInt8) (h : EyO w eb (l ++ r)) (hn : n = l.length) (hs : l.length + r.length ≤ 1000000000) :
    Calls Tryz.prog 46 #[.pointer (some ⟨eb, 0, none⟩), .int .i64 (n : Int)] w fun e w' => e = .returned (.string (bs l)) ∧ EyO w' eb r ∧ Away (fun k => k = eb) w w' := by
  subst hn
  refine (eye_raw w eb l.length (l ++ r) h (by simp) (by simp; omega)).mono ?_
  rintro e w' ⟨rfl, rfl⟩
  rw [List.take_left, List.drop_left]
  exact ⟨rfl, h.set r, eye_away _ _ _ _⟩

theorem open_any (w : World) (kind : UInt8) (load : List UInt8) (hl : load.length ≤ 200000) :
    Calls Tryz.prog 31 #[.string (bs (frameB kind load))] w fun e w' => e = .returned (.tuple #[.int .u8 (kind.toNat : Int), .string (bs load), .int .i64 0]) ∧ Below w.heap.size w w' := by
  have hm3 : markB.length = 3 := rfl
  have hfl := frameB_length kind load
  have hhl := headB_length kind load
  have hnl := natB_len10 load.length (by omega)
  obtain ⟨fb, hfb⟩ : ∃ x, x = fourB (sumB (headB kind load)) := ⟨_, rfl⟩
  have hf4 : fb.length = 4 := by rw [hfb]; rfl
  have hF : frameB kind load = markB ++ ([kind] ++ (natB load.length ++ (load ++ fb))) := by rw [hfb]; simp [frameB, headB]
  have hex : (bs (frameB kind load)).extract 0 (4 + (natB load.length).length + load.length) = bs (headB kind load) := by
    rw [← hhl, show (headB kind load).length = (frameB kind load).length - 4 from by omega, bs_extract]
    simp only [List.drop_zero, Nat.sub_zero]
    unfold frameB
    rw [List.length_append, fourB_length, Nat.add_sub_cancel, List.take_left]
  have hz := bs_size (frameB kind load)
  obtain ⟨m, hm⟩ : ∃ m, m = load.length := ⟨_, rfl⟩
  have hon := eye_on w (frameB kind load)
  have E0 : EyO (w.alloc (.cells #[.string (bs (frameB kind load)), .bool false] 153)) w.heap.size (markB ++ ([kind] ++ (natB load.length ++ (load ++ fb)))) := by rw [← hF]; exact Blk.newAt rfl
  have hr1 := eye_part _ _ 3 _ _ E0 rfl (by simp; omega)
  have hsum := fun W => sum_any W (headB kind load) (by omega)
  have hfour := fun W => four_any W (sumB (headB kind load)) (by unfold sumB; omega)
  rw [← hfb] at hfour
  have hkb : ∀ h, (bs [kind])[0]'h = kind := fun _ => rfl
  have hkz : (bs [kind]).size = 1 := by rw [bs_size]; rfl
  have hmk : bs markB = { data := #[79, 71, 1] } := rfl
  generalize frameB kind load = F at *
  clear hF
  go_enter Tryz.func31, Tryz.ntmps31
  go_wp2_with fail
  refine hon.mono ?_
  rintro e w1 ⟨rfl, rfl⟩
  go_wp2_with fail
  refine hr1.mono ?_
  rintro e w1 ⟨rfl, E1, A1⟩
  have hr2 := eye_part _ _ 1 _ _ E1 rfl (by simp; omega)
  clear hon hr1 E0
  go_wp2_with fail
  refine hr2.mono ?_
  rintro e w2 ⟨rfl, E2, A2⟩
  have hr3 := eye_small _ _ load.length 262144 _ E2 (by omega) (by omega) (by simp; omega)
  clear hr2 E1
  go_wp2_with fail
  refine hr3.mono ?_
  rintro e w3 ⟨rfl, E3, A3⟩
  have hr4 := eye_part _ _ load.length _ _ E3 rfl (by omega)
  clear hr3 E2
  go_wp2_with fail
  refine hr4.mono ?_
  rintro e w4 ⟨rfl, E4, A4⟩
  have E4' : EyO w4 w.heap.size (fb ++ []) := by rw [List.append_nil]; exact E4
  have hr5 := eye_part _ _ 4 _ _ E4' hf4.symm (by simp; omega)
  clear hr4 E3
  go_wp2_with fail
  refine hr5.mono ?_
  rintro e w5 ⟨rfl, E5, A5⟩
  have hr6 := eye_over _ _ E5
  clear hr5 E4
  go_wp2_with fail
  refine hr6.mono ?_
  rintro e w6 ⟨rfl, rfl⟩
  clear hr6 E4' E5
  go_wp2_with fail
  refine (hsum _).mono ?_
  rintro e w6 ⟨rfl, rfl⟩
  go_wp2_with fail
  refine (hfour _).mono ?_
  rintro e w6 ⟨rfl, b6⟩
  clear hsum hfour
  go_wp2_with fail
  go_ret3
  refine ⟨rfl, ?_⟩
  have b0 : Below w.heap.size w (w.alloc (.cells #[.string (bs F), .bool false] 153)) := (Below.refl _ w).alloc (Nat.le_refl _) _
  have aw := ((((A1.trans' A2 (fun _ _ h => h) (fun _ _ h => h)).trans' A3 (fun _ _ h => h) (fun _ _ h => h)).trans' A4 (fun _ _ h => h) (fun _ _ h => h)).trans' A5 (fun _ _ h => h) (fun _ _ h => h)).below (B := w.heap.size) (by simp) (fun k hk e => by omega)
  exact (b0.trans aw).trans (b6.mono (Nat.le_trans b0.size aw.size))
end Go.Proofs.YtbejdajkkoapgaaGreatDoor

