/-
  Several texts in one: Rf, Cn. What each proves, and on which conditions, stands at its head. Conditions: stated in each.
-/
import Derived.Test.YtbejdajkkoapgaaGreatDoorJ13
import Derived.Test.YtbejdajkkoapgaaGreatDoorJ08
import Derived.Test.YtbejdajkkoapgaaGreatDoorJ23
import Derived.Test.YtbejdajkkoapgaaGreatDoorJ16
import Derived.Test.YtbejdajkkoapgaaGreatDoorJ06
import Derived.Test.YtbejdajkkoapgaaGreatDoorJ07
import Derived.Test.YtbejdajkkoapgaaGreatDoorJ05
/-
  Contracts of the reference's frame: Sum, Nat, Taken, Close, Open. Conditions: the text is a frame whose load is not too long.
-/
set_option linter.unusedVariables false
set_option linter.unusedSimpArgs false
set_option maxRecDepth 100000
namespace Go.Proofs.YtbejdajkkoapgaaGreatDoor
open Go.RowKit Go.Lib

theorem ref_sum (w : World) (s : List UInt8) (hs : s.length ≤ 1000000000) :
    Calls Tryz.prog 38 #[.string (bs s)] w fun e w' => e = .returned (.int .u32 ((sumB s : Nat) : Int)) ∧ w = w' := by
  have hz := bs_size s
  have hcr := crc_lt s
  obtain ⟨m, hm⟩ : ∃ m, m = s.length := ⟨_, rfl⟩
  have HM := Lib.hid hm
  rw [← hm] at hs hz
  clear hm
  go_enter Tryz.func38, Tryz.ntmps38
  go_wp2
  go_loopg [3, 4, 5, 6, 7] m (fun g p i _ _ _ wr => ∃ k x : Nat, p = .int .u32 (x : Int) ∧ i = .int .i64 (k : Int) ∧ k ≤ m ∧ m - k ≤ g ∧ x < 4294967296 ∧ x = crc (s.take k) ∧ wr = w)
  case atStart => exact ⟨0, 4294967295, rfl, rfl, Nat.zero_le _, Nat.le_refl _, by decide, rfl, rfl⟩
  case round =>
    obtain ⟨k, x, rfl, rfl, hk, hg, hx, hh, rfl⟩ := hrel
    have HH := Lib.hid hh
    by_cases hkm : k < m
    · have g1 : (k : Int) < (m : Int) := by omega
      have g2 : k < (bs s).size := by omega
      have g3 : k < s.length := by rw [← HM.out]; omega
      have hb := fun h => bs_at s k g3 h
      have ht := crc_take s k g3
      rw [← hh] at ht
      have hsl := stepB_lt (c := x) hx (UInt8.toNat_lt (s[k]'g3))
      have hbit := stepB_bits x (s[k]'g3).toNat (UInt8.toNat_lt _)
      have hbl := UInt8.toNat_lt (s[k]'g3)
      generalize s[k]'g3 = b at *
      have HT := Lib.hid (And.intro ht (And.intro hsl hbit))
      clear hh ht hsl hbit
      obtain ⟨y, hy⟩ : ∃ y, y = b.toNat := ⟨_, rfl⟩
      have hyl : y < 256 := by omega
      have hyc : ((b.toNat : Nat) : Int) = (y : Int) := by rw [hy]
      have HY := Lib.hid hy
      clear hy hbl
      go_wp2
      go_loopg [3, 5, 6, 7] 8 (fun g p i _ _ w2 => ∃ j z : Nat, p = .int .u32 (z : Int) ∧ i = .int .i64 (j : Int) ∧ j ≤ 8 ∧ 8 - j ≤ g ∧ z < 4294967296 ∧ bitSteps (8 - j) z (y / 2 ^ j) = bitSteps 8 x y ∧ w2 = wr)
      case atStart => exact ⟨0, x, rfl, rfl, by decide, by decide, hx, by simp, rfl⟩
      case round =>
        obtain ⟨j, z, rfl, rfl, hj, hgj, hz2, hbs, rfl⟩ := hrel
        by_cases hj8 : j < 8
        · have f1 : (j : Int) < 8 := by omega
          have e2 : bitSteps (8 - j) z (y / 2 ^ j) = bitSteps (8 - (j + 1)) (bitStep z (y / 2 ^ j)) (y / 2 ^ (j + 1)) := by
            rw [show 8 - j = (8 - (j + 1)) + 1 from by omega, Nat.pow_succ, ← Nat.div_div_eq_div_mul]; rfl
          have hlt := bitStep_lt (y / 2 ^ j) hz2
          have e5 : ((y : Int) / 2 ^ j).tmod 2 = ((y / 2 ^ j % 2 : Nat) : Int) := by
            rw [show ((y : Int) / 2 ^ j) = ((y / 2 ^ j : Nat) : Int) from by simp]
            generalize y / 2 ^ j = v
            rw [Int.tmod_eq_emod_of_nonneg (by omega)]; omega
          obtain ⟨v, hv⟩ : ∃ v, v = y / 2 ^ j := ⟨_, rfl⟩
          rw [← hv] at e2 hlt e5
          by_cases h1 : v % 2 = z % 2
          · have e3 : bitStep z v = z / 2 := by unfold bitStep; rw [if_pos h1]
            have f3 : (((y : Int) / 2 ^ j).tmod 2 != (z : Int) % 2) = false := by
              have h : ((v % 2 : Nat) : Int) = (z : Int) % 2 := by omega
              rw [e5, h]; exact bne_self_eq_false _
            have HE := Lib.hid (And.intro hbs (And.intro e2 (And.intro hlt (And.intro e3 hv))))
            clear hbs e2 hlt e3 hv h1 e5
            go_wp2
            go_roundg (8 - (j + 1))
            case measure => omega
            refine ⟨j + 1, bitStep z v, by rw [HE.out.2.2.2.1]; go_num, by go_num, by omega, by omega, HE.out.2.2.1, ?_, rfl⟩
            rw [← HE.out.1, ← HE.out.2.2.2.2, HE.out.2.1]
          · have e3 : bitStep z v = (z / 2) ^^^ 3988292384 := by unfold bitStep; rw [if_neg h1]
            have e4 := xor32 (z / 2) 3988292384 (by omega) (by decide)
            rw [← e3, show ((z / 2 : Nat) : Int) = (z : Int) / 2 from by omega] at e4
            have f3 : (((y : Int) / 2 ^ j).tmod 2 != (z : Int) % 2) = true := by
              have h : ((v % 2 : Nat) : Int) ≠ (z : Int) % 2 := by omega
              rw [e5]; exact bne_iff_ne.2 h
            have HE := Lib.hid (And.intro hbs (And.intro e2 (And.intro hlt hv)))
            generalize bitStep z v = z2 at *
            clear hbs e2 hlt e3 hv h1 e5
            go_wp2
            go_roundg (8 - (j + 1))
            case measure => omega
            refine ⟨j + 1, z2, by first | rfl | (rw [← e4]; rfl), by go_num, by omega, by omega, HE.out.2.2.1, ?_, rfl⟩
            rw [← HE.out.1, ← HE.out.2.2.2, HE.out.2.1]
        · have f1 : ¬ (j : Int) < 8 := by omega
          have hje : j = 8 := by omega
          subst hje
          have hzz : z = stepB x b.toNat := by rw [HT.out.2.2, ← HY.out, ← hbs]; rfl
          have HZ := Lib.hid hzz
          clear hbs hzz
          go_wp2
          go_roundg (m - (k + 1))
          case measure => omega
          exact ⟨k + 1, z, rfl, by go_num, by omega, by omega, hz2, by rw [HZ.out, HT.out.1], rfl⟩
    · have g1 : ¬ (k : Int) < (m : Int) := by omega
      have hx2 : x = crc s := by rw [hh, show k = m from by omega, HM.out, List.take_length]
      have hsu : ((sumB s : Nat) : Int) = 4294967295 - (x : Int) := by unfold sumB; rw [← hx2]; omega
      have HX := Lib.hid hsu
      clear hh hx2 hsu
      go_wp2
      go_ret
      exact ⟨by rw [HX.out]; rfl, rfl⟩

/-- the reference's number as bytes -/
theorem cat_str (a b : List UInt8) : bs a ++ bs b = bs (a ++ b) := bs_append a b
theorem ref_nat (w : World) (n : Nat) (hn : n < 18446744073709551616) :
    Calls Tryz.prog 37 #[.int .u64 (n : Int)] w fun e w' => e = .returned (.string (bs (natB n))) ∧ Below w.heap.size w w' := by
  have hnl := natB_len10 n hn
  go_enter Tryz.func37, Tryz.ntmps37
  go_wp2
  go_loopg [0, 3] (natB n).length (fun g p q wr => ∃ (u : Nat) (pr : List UInt8), p = .int .u64 (u : Int) ∧ q = .string (bs pr) ∧ u < 18446744073709551616 ∧ (natB u).length ≤ g ∧ pr ++ natB u = natB n ∧ Below w.heap.size w wr)
  case atStart => exact ⟨n, [], rfl, rfl, hn, Nat.le_refl _, rfl, Below.refl _ _⟩
  case round =>
    obtain ⟨u, pr, rfl, rfl, hu, hg, hpu, B⟩ := hrel
    have hsz := B.size
    by_cases h1 : u < 128
    · have f1 : ¬ (127 : Int) < (u : Int) := by omega
      have e1 := natB_small h1
      have hb2 : ((UInt8.ofNat u).toNat : Int) = (u : Int) := u8_of u (by omega)
      have bc := byte_str wr (UInt8.ofNat u)
      have ec : bs pr ++ bs [UInt8.ofNat u] = bs (natB n) := by rw [cat_str, ← e1, hpu]
      have hpl := bs_size pr
      have hpn := congrArg List.length hpu
      rw [List.length_append] at hpn
      rw [hb2] at bc
      generalize UInt8.ofNat u = b at *
      have HB := Lib.hid (B.alloc hsz (.cells #[.int .u8 (u : Int)] 5))
      have hbl : (bs [b]).size = 1 := by rw [bs_size]; rfl
      clear B e1 hpu hb2
      go_wp2
      go_ret
      rw [← ec]
      exact ⟨rfl, HB.out⟩
    · have f1 : (127 : Int) < (u : Int) := by omega
      have e1 := natB_big (n := u) (by omega)
      have hb2 : ((UInt8.ofNat (u % 128 + 128)).toNat : Int) = 128 + (u : Int) % 128 := by rw [u8_of _ (by omega)]; omega
      have bc := byte_str wr (UInt8.ofNat (u % 128 + 128))
      have ec := cat_str pr [UInt8.ofNat (u % 128 + 128)]
      have hpl := bs_size pr
      have hpn := congrArg List.length hpu
      rw [List.length_append] at hpn
      rw [hb2] at bc
      generalize UInt8.ofNat (u % 128 + 128) = b at *
      have HB := Lib.hid (B.alloc hsz (.cells #[.int .u8 (128 + (u : Int) % 128)] 5))
      have hbl : (bs [b]).size = 1 := by rw [bs_size]; rfl
      have HE := Lib.hid (And.intro e1 (And.intro hpu ec))
      clear B e1 hpu hb2 ec
      go_wp2
      go_roundg ((natB u).length - 1)
      case measure => rw [HE.out.1, List.length_cons] at hg ⊢; omega
      refine ⟨u / 128, pr ++ [b], by go_num, by rw [HE.out.2.2], by omega, ?_, ?_, HB.out⟩
      · rw [HE.out.1, List.length_cons]; omega
      · rw [← HE.out.2.1, HE.out.1]; simp

/-- below the heap's size nothing has turned -/
structure BlC (B : Nat) (w W : World) : Prop where
  below : Below B w W
  size : B ≤ w.heap.size
theorem BlC.next {B : Nat} {w W W' : World} (h : BlC B w W) (hb : Below W.heap.size W W') : BlC B w W' := ⟨h.below.trans (hb.mono (Nat.le_trans h.size h.below.size)), h.size⟩
theorem BlC.drew {B : Nat} {w W : World} (h : BlC B w W) : BlC B w W.drew := ⟨h.below.drew, h.size⟩
/-- a number taken off a text's head -/
theorem take_natB (n k : Nat) (r : List UInt8) (h : k ≤ (natB n).length) : (natB n ++ r).take k = (natB n).take k := by rw [List.take_append_of_le_length h]
theorem taken_any (w : World) (n L : Nat) (r : List UInt8) (hn : n ≤ L) (hL : L < 18446744073709551616) (hs : r.length ≤ 1000000000) :
    Calls Tryz.prog 24 #[.string (bs (natB n ++ r)), .int .u64 (L : Int)] w fun e w' => e = .returned (.tuple #[.int .u64 (n : Int), .int .i64 ((natB n).length : Int)]) ∧ Below w.heap.size w w' := by
  have hnl := natB_len10 n (by omega)
  have hpos := natB_pos n
  have hin := natB_inner n
  have hend := natB_end n
  have hz := bs_size (natB n ++ r)
  rw [List.length_append] at hz
  have hnat := fun W => ref_nat W n (by omega)
  obtain ⟨m, hm⟩ : ∃ m, m = (natB n).length := ⟨_, rfl⟩
  have HM := Lib.hid hm
  rw [← hm] at hnl hpos hz ⊢
  clear hm
  go_enter Tryz.func24, Tryz.ntmps24
  go_wp2
  go_loopg [6, 7, 8] m (fun g p _ _ wr => ∃ (k : Nat), p = .int .i64 (k : Int) ∧ 1 ≤ k ∧ k ≤ m ∧ m - k < g ∧ Below w.heap.size w wr)
  case atStart => exact ⟨1, rfl, Nat.le_refl _, hpos, by omega, Below.refl _ _⟩
  case round =>
    obtain ⟨k, rfl, hk1, hkm, hg, B⟩ := hrel
    have hkl : k - 1 < (natB n ++ r).length := by rw [List.length_append, ← HM.out]; omega
    have hkn : k - 1 < (natB n).length := by rw [← HM.out]; omega
    have hbk := fun h => bs_at (natB n ++ r) (k - 1) hkl h
    have hge : (natB n ++ r)[k - 1]'hkl = (natB n)[k - 1]'hkn := List.getElem_append_left hkn
    have f1 : (k : Int) ≤ 10 := by omega
    have f2 : (k : Int) ≤ ((bs (natB n ++ r)).size : Int) := by omega
    have f4 : (k : Int) - 1 < ((bs (natB n ++ r)).size : Int) := by omega
    by_cases hke : k = m
    · have hb1 := hend (k - 1) hkn (by rw [← HM.out]; omega)
      rw [← hge] at hb1
      generalize (natB n ++ r)[k - 1]'hkl = b at *
      have f3 : ¬ (127 : Int) < (b.toNat : Int) := by omega
      have HX := Lib.hid (And.intro hin hend)
      subst hke
      clear hin hend hge
      go_wp2
      go_loopg [7, 8] k (fun g p q wx => ∃ j x : Nat, p = .int .u64 (x : Int) ∧ q = .int .i64 ((j : Int) - 1) ∧ j ≤ k ∧ j ≤ g ∧ x = decB ((natB n).drop j) ∧ Below w.heap.size w wx)
      case atStart => exact ⟨k, 0, rfl, rfl, Nat.le_refl _, Nat.le_refl _, by rw [List.drop_of_length_le (by rw [← HM.out]; omega)]; rfl, B⟩
      case round =>
        clear B
        obtain ⟨j, x, rfl, rfl, hj, hgj, hx, B⟩ := hrel
        by_cases hj0 : j = 0
        · subst hj0
          have hxn : x = n := by rw [hx, List.drop_zero, decB_natB]
          subst hxn
          clear hx
          have e1 : (bs (natB x ++ r)).extract 0 k = bs (natB x) := by rw [bs_extract, List.drop_zero, Nat.sub_zero, HM.out, List.take_left]
          have hnL : ¬ (L : Int) < (x : Int) := by omega
          have H : BlC w.heap.size w wr := ⟨B, Nat.le_refl _⟩
          go_upto_region 10 with fail
          refine wp_region_quiet_litC (C := BlC w.heap.size w) (by kernel_rfl) (by kernel_rfl) H.drew ?_
          repeat (first | go_big_quiet_skip | (go_big_quiet_want; go_big_quiet_op; first | go_big_quiet_on | (refine quiet_const ?_; go_big_quiet_on)))
          go_big_quiet_want
          go_big_quiet_op
          refine ⟨.string (bs (natB x)), fun wx hx => ?_, ?_⟩
          · exact (hnat wx).mono fun _ _ hm => ⟨hm.1, hx.next hm.2⟩
          go_big_quiet_on
          repeat (first | go_big_quiet_skip | (go_big_quiet_want; go_big_quiet_op; first | go_big_quiet_on | (refine quiet_const ?_; go_big_quiet_on)))
          refine wpQuiet_nil ?_
          intro wx Hx
          have HB := Lib.hid Hx.below
          clear H Hx B hnat
          go_wp2
          go_ret2
          exact ⟨rfl, HB.out⟩
        · have g1 : (0 : Int) ≤ (j : Int) - 1 := by omega
          have hjl : j - 1 < (natB n ++ r).length := by rw [List.length_append, ← HM.out]; omega
          have hjn : j - 1 < (natB n).length := by rw [← HM.out]; omega
          have hbj := fun h => bs_at (natB n ++ r) (j - 1) hjl h
          have hgj2 : (natB n ++ r)[j - 1]'hjl = (natB n)[j - 1]'hjn := List.getElem_append_left hjn
          have hd := decB_drop (natB n) (j - 1) hjn
          rw [show j - 1 + 1 = j from by omega, ← hx, ← hgj2] at hd
          have hle := decB_tail_le n (j - 1)
          generalize (natB n ++ r)[j - 1]'hjl = b2 at *
          obtain ⟨y, hy⟩ : ∃ y, y = decB ((natB n).drop (j - 1)) := ⟨_, rfl⟩
          rw [← hy] at hd hle
          have HY := Lib.hid hy
          clear hy hgj2 hx
          have g2 : j - 1 < (bs (natB n ++ r)).size := by rw [hz]; omega
          have hb2l := UInt8.toNat_lt b2
          have g3 : IntKind.u64.wrap ((x : Int) * 128 + (IntKind.u64.wrap (b2.toNat : Int)).tmod 128) = (y : Int) := by simp only [IntKind.wrap_u64]; rw [Int.tmod_eq_emod_of_nonneg (by omega)]; omega
          go_wp2
          go_roundg (j - 1)
          case measure => omega
          refine ⟨j - 1, y, by rw [show (y : Int) = (x : Int) * 128 + (b2.toNat : Int) % 128 from by omega], ?_, by omega, by omega, HY.out, B⟩
          rw [show ((j - 1 : Nat) : Int) = (j : Int) - 1 from by omega]
    · have hb1 := hin (k - 1) hkn (by rw [← HM.out]; omega)
      rw [← hge] at hb1
      generalize (natB n ++ r)[k - 1]'hkl = b at *
      have f3 : (127 : Int) < (b.toNat : Int) := by omega
      clear hin hend hge
      have f5 : k - 1 < (bs (natB n ++ r)).size := by omega
      go_wp2
      go_roundg (m - k)
      case measure => omega
      exact ⟨k + 1, by go_num, by omega, by omega, by omega, B⟩

theorem byte_at (W : World) (g : Nat) (k : UInt8) (h : Blk W g #[.int .u8 (k.toNat : Int)] 5) : (convert 63 9 (.slice (some ⟨g, 0, none⟩) 1 1)).run Tryz.prog W = .ok (.string (bs [k])) W :=
  run_convert_bytes_back (P := Tryz.prog) _ 63 9 5 ⟨g, 0, none⟩ 1 [k] Tryz.underlying63 Tryz.underlying5 Tryz.underlying9 (fun j hj => by
      rw [Addr.add_lit, Nat.zero_add]
      have : j = 0 := by simpa using hj
      subst this
      exact h.cell rfl)
theorem four_at (w : World) (c : Nat) (hc : c < 4294967296) (W : World) (hW : W = (w.alloc (.cells #[.int .u8 ((c : Int) % 256), .int .u8 ((c : Int) / 256 % 256), .int .u8 ((c : Int) / 65536 % 256), .int .u8 ((c : Int) / 16777216)] 5))) : (convert 63 9 (.slice (some ⟨w.heap.size, 0, none⟩) 4 4)).run Tryz.prog W = .ok (.string (bs (fourB c))) W := by
  have e1 : ((c : Int) % 256) = ((UInt8.ofNat (c % 256)).toNat : Int) := by rw [u8_of _ (by omega)]; omega
  have e2 : ((c : Int) / 256 % 256) = ((UInt8.ofNat (c / 256 % 256)).toNat : Int) := by rw [u8_of _ (by omega)]; omega
  have e3 : ((c : Int) / 65536 % 256) = ((UInt8.ofNat (c / 65536 % 256)).toNat : Int) := by rw [u8_of _ (by omega)]; omega
  have e4 : ((c : Int) / 16777216) = ((UInt8.ofNat (c / 16777216 % 256)).toNat : Int) := by rw [u8_of _ (by omega)]; omega
  subst hW
  rw [e1, e2, e3, e4]
  exact run_convert_bytes_back (P := Tryz.prog) _ 63 9 5 ⟨w.heap.size, 0, none⟩ 4 (fourB c) Tryz.underlying63 Tryz.underlying5 Tryz.underlying9 (fun j hj => by
    rw [Addr.add_lit, Nat.zero_add]
    rw [fourB_length] at hj
    have : j = 0 ∨ j = 1 ∨ j = 2 ∨ j = 3 := by omega
    rcases this with rfl | rfl | rfl | rfl <;> exact (Blk.newAt rfl).cell rfl)
theorem ref_close (w : World) (kind : UInt8) (load : List UInt8) (hl : load.length ≤ 200000) :
    Calls Tryz.prog 25 #[.int .u8 (kind.toNat : Int), .string (bs load)] w fun e w' => e = .returned (.string (bs (frameB kind load))) ∧ Below w.heap.size w w' := by
  have hz := bs_size load
  have hnl := natB_len10 load.length (by omega)
  have hhl := headB_length kind load
  obtain ⟨m, hm⟩ : ∃ m, m = load.length := ⟨_, rfl⟩
  have hnat := fun W => ref_nat W m (by omega)
  have hsum := fun W => ref_sum W (headB kind load) (by omega)
  rw [← hm] at hl hz hnl
  have HM2 := Lib.hid hm
  have H1 : bs markB ++ bs [kind] ++ bs (natB m) ++ bs load = bs (headB kind load) := by
    rw [bs_append, bs_append, bs_append, hm]; rfl
  have l1 := bs_size markB
  have l2 := bs_size [kind]
  have l3 := bs_size (natB m)
  have l1' : markB.length = 3 := rfl
  have hmk : ({ data := #[79, 71, 1] } : ByteArray) = bs markB := rfl
  clear hm
  go_enter Tryz.func25, Tryz.ntmps25
  go_upto_region 1 with fail
  go_cut [5] from 6 to 17 (fun p wx => p = .string (bs (headB kind load)) ∧ Below w.heap.size w wx)
  case first =>
    have conv1 := fun W => byte_str W kind
    have conv0 := byte_at (w.alloc (.cells #[.int .u8 (kind.toNat : Int)] 5)).drew w.heap.size kind (Blk.newAt rfl)
    have hmw : IntKind.u64.wrap (m : Int) = (m : Int) := by rw [IntKind.wrap_u64]; omega
    go_region_with (go_at_call 37; refine (hnat _).mono ?_; rintro e w5 ⟨rfl, b5⟩; try (have hc5 := byte_at w5 w.heap.size kind (Blk.below (Blk.drew (Blk.newAt rfl)) b5 (by simp))))
    all_goals (go_wp2_with fail)
    all_goals go_meet
    all_goals (first
      | exact ⟨rfl, ((Below.refl w.heap.size w).alloc (Nat.le_refl _) (.cells #[.int .u8 (kind.toNat : Int)] 5)).drew.trans (b5.mono (by simp))⟩
      | exact ⟨rfl, ((Below.refl w.heap.size w).drew.trans (b5.mono (by simp))).alloc (by have := b5.size; simpa using this) _⟩
      | exact ⟨rfl, ((Below.refl w.heap.size w).drew.trans (b5.mono (by simp)))⟩)
  obtain ⟨rfl, B⟩ := hcut
  clear hnat H1 hmk l1 l2 l3
  have hs32 : sumB (headB kind load) < 4294967296 := by unfold sumB; omega
  have hF : bs (headB kind load) ++ bs (fourB (sumB (headB kind load))) = bs (frameB kind load) := by rw [bs_append]; rfl
  obtain ⟨h5, l5, l5'⟩ : ∃ h, (bs (headB kind load)).size = h ∧ h ≤ 300000 := ⟨_, bs_size _, by rw [hhl, ← HM2.out]; omega⟩
  clear hhl
  have l6 := bs_size (fourB (sumB (headB kind load)))
  rw [fourB_length] at l6
  obtain ⟨c, hc⟩ : ∃ c, c = sumB (headB kind load) := ⟨_, rfl⟩
  have kc := four_at wc c
  rw [← hc] at hsum hs32 hF l6
  clear hc
  generalize bs (fourB c) = f4 at *
  go_wp2_with (go_at_call 38; refine (hsum _).mono ?_; rintro e w5 ⟨rfl, rfl⟩)
  go_ret
  exact ⟨rfl, B.alloc B.size _⟩

theorem ref_open (w : World) (kind : UInt8) (load : List UInt8) (hl : load.length ≤ 200000) (hl5 : 1 ≤ load.length) :
    Calls Tryz.prog 13 #[.string (bs (frameB kind load))] w fun e w' => e = .returned (.tuple #[.int .u8 (kind.toNat : Int), .string (bs load), .bool true]) ∧ Below w.heap.size w w' := by
  have hfl := frameB_length kind load
  have hhl := headB_length kind load
  have hnl := natB_len10 load.length (by omega)
  have hpos := natB_pos load.length
  obtain ⟨fb, hfb⟩ : ∃ x, x = fourB (sumB (headB kind load)) := ⟨_, rfl⟩
  have hf4 : fb.length = 4 := by rw [hfb]; rfl
  have hF : frameB kind load = (markB ++ [kind]) ++ (natB load.length ++ (load ++ fb)) := by rw [hfb]; simp [frameB, headB]
  have hF2 : frameB kind load = ((markB ++ [kind]) ++ natB load.length) ++ (load ++ fb) := by rw [hF]; simp
  have l4 : (markB ++ [kind]).length = 4 := rfl
  obtain ⟨m, hm⟩ : ∃ m, m = load.length := ⟨_, rfl⟩
  obtain ⟨k, hk⟩ : ∃ k, k = (natB load.length).length := ⟨_, rfl⟩
  have hz := bs_size (frameB kind load)
  rw [hfl, hhl, ← hk, ← hm] at hz
  have e1 : (bs (frameB kind load)).extract 4 (4 + k + m + 4) = bs (natB m ++ (load ++ fb)) := by
    rw [bs_extract, hF, show (markB ++ [kind] ++ (natB load.length ++ (load ++ fb))).drop 4 = natB load.length ++ (load ++ fb) from List.drop_left' l4, List.take_of_length_le (by simp only [List.length_append]; omega), hm]
  have e2 : (bs (frameB kind load)).extract (4 + k) (4 + k + m) = bs load := by
    rw [bs_extract, hF2, List.drop_left' (by rw [List.length_append, l4, hk]), show 4 + k + m - (4 + k) = load.length from by omega, List.take_left]
  have e3 : ∀ h, (bs (frameB kind load))[3]'h = kind := fun h => by
    rw [bs_at _ 3 (by rw [← bs_size]; exact h)]
    simp only [hF]
    rfl
  have htk := fun W => taken_any W load.length 262144 (load ++ fb) (by omega) (by omega) (by simp; omega)
  have hcl := fun W => ref_close W kind load hl
  rw [← hk, ← hm] at htk
  clear hF hF2 hfl hhl
  rw [← hk] at hnl hpos
  rw [← hm] at hl hl5
  clear hk hm
  generalize bs (frameB kind load) = F at *
  generalize natB m ++ (load ++ fb) = R at *
  have f1 : ((k : Int) == 0) = false := by simp; omega
  have f2 : (4 + (k : Int) + (m : Int) + 4 != 8 + (k : Int) + (m : Int)) = false := by
    rw [show 4 + (k : Int) + (m : Int) + 4 = 8 + (k : Int) + (m : Int) from by omega]; exact bne_self_eq_false _
  go_enter Tryz.func13, Tryz.ntmps13
  go_wp2_with fail
  refine (htk _).mono ?_
  rintro e w1 ⟨rfl, b1⟩
  go_wp2_with fail
  refine (hcl _).mono ?_
  rintro e w2 ⟨rfl, b2⟩
  clear htk hcl
  go_wp2_with fail
  go_ret3
  exact ⟨rfl, b1.trans (b2.mono b1.size)⟩
end Go.Proofs.YtbejdajkkoapgaaGreatDoor

/-
  The walk of CoreNodes, from the contract of alive. Conditions: the arguments can be read; alive answers true.
-/
set_option linter.unusedVariables false
set_option linter.unusedSimpArgs false
set_option maxRecDepth 100000
namespace Go.Proofs.YtbejdajkkoapgaaGreatDoor
open Go.RowKit Go.Lib

theorem good_ref (num den : Nat) (w : World) :
    Calls Tryz.prog 8 #[.agg #[.int .u64 (num : Int), .int .u64 (den : Int)]] w fun e w' => e = .returned (.bool (decide (1 ≤ den) && decide (num ≤ den))) ∧ Below w.heap.size w w' := by
  have b0 : Below w.heap.size w (w.alloc (.cells #[.int .u64 (num : Int), .int .u64 (den : Int)] 25)) := (Below.refl _ _).alloc (Nat.le_refl _) _
  by_cases h0 : den = 0
  · have f1 : ((den : Int) != 0) = false := by simp [h0]
    have f2 : decide (1 ≤ den) = false := by simp [h0]
    rw [f2, Bool.false_and]
    clear h0 f2
    go_enter Tryz.func8, Tryz.ntmps8
    go_wp2_with fail
    go_ret
    exact ⟨rfl, b0⟩
  · have f1 : ((den : Int) != 0) = true := by simp [h0]
    have f2 : decide (1 ≤ den) = true := by simp; omega
    rw [f2, Bool.true_and]
    clear h0 f2
    by_cases h1 : num ≤ den
    · have f3 : ¬ (den : Int) < (num : Int) := by omega
      have f4 : decide (num ≤ den) = true := by simp [h1]
      rw [f4]
      go_enter Tryz.func8, Tryz.ntmps8
      go_wp2_with fail
      go_ret
      exact ⟨rfl, b0⟩
    · have f3 : (den : Int) < (num : Int) := by omega
      have f4 : decide (num ≤ den) = false := by simp [h1]
      rw [f4]
      go_enter Tryz.func8, Tryz.ntmps8
      go_wp2_with fail
      go_ret
      exact ⟨rfl, b0⟩

theorem upL_all (l : Vals) (h : InV l) : upL l 9223372036854775807 = allL l := by
  induction l with
  | nil => rfl
  | cons x l ih =>
    have h1 := ih fun y hy => h y (List.mem_cons_of_mem _ hy)
    have h2 := (h x (List.mem_cons_self ..)).1.2
    simp only [upL, allL]
    rw [if_pos h2, h1]
theorem allL_pos (l : Vals) (h : ∀ x ∈ l, 1 ≤ x.2) : l.length ≤ allL l := by
  induction l with
  | nil => exact Nat.le_refl _
  | cons x l ih =>
    have h1 := ih fun y hy => h y (List.mem_cons_of_mem _ hy)
    have h2 := h x (List.mem_cons_self ..)
    simp only [allL, List.length_cons]; omega
theorem allOf_P (P : Int × Nat → Bool) (L : Leaves) (q : Nat) : ∀ x ∈ allOf P L q, P x = true := fun x hx => by
  unfold allOf at hx
  obtain ⟨y, _, hy⟩ := List.mem_flatMap.1 hx
  exact (List.mem_filter.1 hy).2

theorem IntsR.below {w w' : World} {v : Value} {zs : List Int} (h : IntsR w v zs) (hb : Below w.heap.size w w') : IntsR w' v zs := by
  obtain ⟨h1, h2, h3⟩ := h
  refine ⟨h1, h2, h3.imp id ?_⟩
  rintro ⟨b, o, c, rfl, hb1, hc⟩
  exact ⟨b, o, c, rfl, Nat.lt_of_lt_of_le hb1 hb.size, fun i hi => by rw [hb.cell (p := ⟨b, _, none⟩) hb1]; exact hc i hi⟩
/-- the boxes of CoreNodes -/
structure CnC (w : World) (a0 a1 a2 a3 a4 a5 a6 a7 a8 a9 a10 : Int) (num den : Nat) (W : World) : Prop where
  cfg : Blk W w.heap.size (cfgV a0 a1 a2 a3 a4 a5 a6 a7 a8 a9 a10) 28
  rat : Blk W (w.heap.size + 1) #[.int .u64 (num : Int), .int .u64 (den : Int)] 25
  below : Below w.heap.size w W
section
variable {w : World} {a0 a1 a2 a3 a4 a5 a6 a7 a8 a9 a10 : Int} {num den : Nat} {W W' : World}
theorem CnC.next (h : CnC w a0 a1 a2 a3 a4 a5 a6 a7 a8 a9 a10 num den W) (hb : Below W.heap.size W W') : CnC w a0 a1 a2 a3 a4 a5 a6 a7 a8 a9 a10 num den W' := ⟨h.cfg.below hb h.cfg.lt, h.rat.below hb h.rat.lt, h.below.trans (hb.mono h.below.size)⟩
theorem CnC.drew (h : CnC w a0 a1 a2 a3 a4 a5 a6 a7 a8 a9 a10 num den W) : CnC w a0 a1 a2 a3 a4 a5 a6 a7 a8 a9 a10 num den W.drew := h.next (Below.refl _ _).drew
theorem CnC.rats (h : CnC w a0 a1 a2 a3 a4 a5 a6 a7 a8 a9 a10 num den W) : W.cell? ⟨w.heap.size + 1, 0, none⟩ = some (.int .u64 (num : Int)) ∧ W.cell? ⟨w.heap.size + 1, 1, none⟩ = some (.int .u64 (den : Int)) := ⟨h.rat.cell rfl, h.rat.cell rfl⟩
end

/-- the boxes, all values, a fresh digest -/
structure CnE (w : World) (a0 a1 a2 a3 a4 a5 a6 a9 a10 : Int) (d F : Nat) (num den : Nat) (vv : Value) (al : Vals) (db2 sb2 : Nat) (W : World) : Prop where
  c : CnC w a0 a1 a2 a3 a4 a5 a6 (d : Int) (F : Int) a9 a10 num den W
  v : ValsR W vv al
  dig : DigO W db2 sb2 (.slice none 0 0) d F 0 0 []
theorem CnE.next {w : World} {a0 a1 a2 a3 a4 a5 a6 a9 a10 : Int} {d F : Nat} {num den : Nat} {vv : Value} {al : Vals} {db2 sb2 : Nat} {W W' : World} (h : CnE w a0 a1 a2 a3 a4 a5 a6 a9 a10 d F num den vv al db2 sb2 W) (hb : Below W.heap.size W W') : CnE w a0 a1 a2 a3 a4 a5 a6 a9 a10 d F num den vv al db2 sb2 W' := ⟨h.c.next hb, h.v.below hb, h.dig.next hb⟩

set_option maxHeartbeats 8000000 in
theorem core_nodes (halive : ∀ W, Sp.Tens W → Calls Tryz.prog 6 #[] W fun e w' => e = .returned (.bool true) ∧ Below W.heap.size W w') (w : World) (ht : Sp.Tens w) (a0 a1 a2 a3 a4 a5 a6 a7 a8 a9 a10 : Int) (v pv : Value) (L : Leaves) (zs : List Int) (num den : Nat)
    (hden : den < 18446744073709551616) (hv : LeavesR w v L) (hp : IntsR w pv zs) (hI : ∀ x ∈ L, ∀ y ∈ x.1, I64 y.1) :
    Calls Tryz.prog 3 #[.agg #[.int .i64 a0, .int .u64 a1, .int .u64 a2, .int .i64 a3, .int .i64 a4, .int .i64 a5, .int .u64 a6, .int .i64 a7, .int .i64 a8, .int .i64 a9, .int .u64 a10], v, pv, .agg #[.int .u64 (num : Int), .int .u64 (den : Int)]] w fun e w' => e = .returned (.bool true) ∧ Below w.heap.size w w' := by
  obtain ⟨w0, hw0⟩ : ∃ w0, w0 = (w.alloc (.cells #[.int .i64 a0, .int .u64 a1, .int .u64 a2, .int .i64 a3, .int .i64 a4, .int .i64 a5, .int .u64 a6, .int .i64 a7, .int .i64 a8, .int .i64 a9, .int .u64 a10] 28)).alloc (.cells #[.int .u64 (num : Int), .int .u64 (den : Int)] 25) := ⟨_, rfl⟩
  have C0 : CnC w a0 a1 a2 a3 a4 a5 a6 a7 a8 a9 a10 num den w0 := by
    rw [hw0]
    exact ⟨Blk.alloc (Blk.newAt rfl) _, Blk.newAt (by simp), ((Below.refl _ w).alloc (Nat.le_refl _) _).alloc (by simp) _⟩
  have hal := halive w0 (ht.next C0.below)
  have HW := Lib.hid hw0
  have HV := Lib.hid (And.intro hv (And.intro hp hI))
  obtain ⟨Av, cv, hvv⟩ := hv.slice
  obtain ⟨Ap, cp, hpp⟩ := hp.slice
  subst hvv
  subst hpp
  have HTEN := Lib.hid ht
  clear hv hp hI ht
  rw [hw0] at hal
  go_enter Tryz.func3, Tryz.ntmps3
  go_wp2_with fail
  refine hal.mono ?_
  rintro e w1 ⟨rfl, b1⟩
  rw [← hw0] at b1
  have C1 := C0.next b1
  clear hal b1 C0 hw0
  obtain ⟨k0, k1, k2, k3, k4, k5, k6, k7, k8, k9, k10⟩ := cfgV_cells C1.cfg
  obtain ⟨r0, r1⟩ := C1.rats
  have hgr := great_any w1 _ L (HV.out.1.below C1.below) a0 a1 a2 a3 a4 a5 a6 a7 a8 a9 a10
  go_wp2_with fail
  refine hgr.mono ?_
  rintro e w2 ⟨g, rfl, b2, hg⟩
  have C2 := C1.next b2
  clear hgr b2 k0 k1 k2 k3 k4 k5 k6 k7 k8 k9 k10 r0 r1 C1
  obtain ⟨k0, k1, k2, k3, k4, k5, k6, k7, k8, k9, k10⟩ := cfgV_cells C2.cfg
  obtain ⟨r0, r1⟩ := C2.rats
  have HC2 := Lib.hid C2
  clear C2
  cases g with
  | true =>
    clear hg
    go_wp2_with fail
    go_ret
    exact ⟨rfl, HC2.out.below⟩
  | false =>
    obtain ⟨hfew, _⟩ := hg rfl
    have HF := Lib.hid hfew
    clear hg hfew
    have hgood := good_ref num den w2
    obtain ⟨gd, hgd⟩ : ∃ gd, gd = (decide (1 ≤ den) && decide (num ≤ den)) := ⟨_, rfl⟩
    rw [← hgd] at hgood
    have HGD := Lib.hid hgd
    clear hgd
    go_wp2_with fail
    refine hgood.mono ?_
    rintro e w3 ⟨rfl, b3⟩
    have C3 := HC2.out.next b3
    clear hgood b3 k0 k1 k2 k3 k4 k5 k6 k7 k8 k9 k10 r0 r1
    obtain ⟨k0, k1, k2, k3, k4, k5, k6, k7, k8, k9, k10⟩ := cfgV_cells C3.cfg
    obtain ⟨r0, r1⟩ := C3.rats
    have HC3 := Lib.hid C3
    clear C3 HC2
    cases gd with
    | false =>
      go_wp2_with fail
      go_ret
      exact ⟨rfl, HC3.out.below⟩
    | true =>
      by_cases h3 : a0 = 3
      · subst h3
        have hnd := HGD.out
        have hnd1 : 1 ≤ den ∧ num ≤ den := by simpa using hnd.symm
        clear hnd HGD
        have hIn : ∀ x ∈ L, InV x.1 := fun x hx y hy => ⟨HV.out.2.2 x hx y hy, (HF.out.2 x hx).2 y hy⟩
        have KD := kind_digest a1 a2 a3 a4 a5 a6 a7 a8 a9 a10
        have hp3 : IntsR w3 (.slice Ap zs.length cp) zs := HV.out.2.1.below HC3.out.below
        have htr := tree_any KD w3 (HTEN.out.next HC3.out.below) _ _ L zs (HV.out.1.below HC3.out.below) hp3 HF.out hIn
        have HD := Lib.hid (And.intro hnd1 hIn)
        have HK := Lib.hid KD
        clear hnd1 hIn KD hp3
        go_wp2_with fail
        refine htr.mono ?_
        rintro e w4 ⟨po, vv, ok, rfl, b4, h4⟩
        have C4 := HC3.out.next b4
        clear htr b4 k0 k1 k2 k3 k4 k5 k6 k7 k8 k9 k10 r0 r1
        obtain ⟨k0, k1, k2, k3, k4, k5, k6, k7, k8, k9, k10⟩ := cfgV_cells C4.cfg
        obtain ⟨r0, r1⟩ := C4.rats
        have HC4 := Lib.hid C4
        clear C4 HC3
        cases ok with
        | false =>
          clear h4
          go_wp2_with fail
          go_ret
          exact ⟨rfl, HC4.out.below⟩
        | true =>
          obtain ⟨kb, O, rfl, hsk, hown, hnew⟩ := h4 rfl
          have hlen := allOf_len (DgP a7) L HF.out L.length
          have hin := allOf_in (DgP a7) L HD.out.2 L.length
          have hPa := allOf_P (DgP a7) L L.length
          have hL12 := HF.out.1
          generalize allOf (DgP a7) L L.length = al at hsk hown hlen hin hPa
          obtain ⟨Aa, ca, hvv⟩ := owns_slice hown
          subst hvv
          have hvr := vals_of_own hown
          by_cases hn0 : al = []
          · subst hn0
            clear hsk hown hvr h4
            go_wp2_with fail
            go_ret
            exact ⟨rfl, HC4.out.below⟩
          · have hn1 : 1 ≤ al.length := by cases al with | nil => exact absurd rfl hn0 | cons x l => simp
            obtain ⟨d, F, db, sb, dv, lo, hi, l, hr, hk, i1, i2, hO⟩ := hsk
            obtain ⟨bl, bt⟩ := hr.bd hin (by omega)
            have hdF := And.intro hr.hd hr.hF
            obtain ⟨rfl, rfl⟩ := hdF
            have hall1 : al.length ≤ allL al := allL_pos al fun x hx => ((DgP_iff d x).1 (hPa x hx)).2.2
            have hall2 := allL_le al hin
            have hup := fun W (k : ValsR W (.slice Aa al.length ca) al) x => up_any W _ al x k (by omega)
            have hua := upL_all al hin
            have hrt : rowTotal l = allL al := hr.q.total
            have hpb := placeN_bd num (allL al) den HD.out.1.2 HD.out.1.1 (by omega)
            have hpl := fun W => Wd.place_ref num den (allL al) W HD.out.1.2 HD.out.1.1 hden (by omega) (by omega)
            obtain ⟨len, hlenq⟩ : ∃ n, n = al.length := ⟨_, rfl⟩
            rw [← hlenq] at hup hn1
            have hup1 := hup w4 (by rw [hlenq]; exact hvr) 9223372036854775807
            rw [hua] at hup1
            have HQ := Lib.hid (And.intro hr (And.intro hin (And.intro hlenq (And.intro hrt hvr))))
            have HSK := Lib.hid (And.intro hk (And.intro i1 i2))
            obtain ⟨N, hN⟩ : ∃ N, N = allL al := ⟨_, rfl⟩
            have HN := Lib.hid hN
            rw [← hN] at hup1 hpl hpb hall2 hall1
            obtain ⟨T, hT⟩ : ∃ T, T = placeN num N den := ⟨_, rfl⟩
            have HT := Lib.hid hT
            rw [← hT] at hpl hpb
            have f0 : ((len : Int) == 0) = false := by simp; omega
            clear hr hk i1 i2 hO hPa hown hua hrt hN hT h4 hn0 hvr
            rw [← hlenq]
            clear hlenq
            go_wp2_with fail
            refine hup1.mono ?_
            rintro e w5 ⟨rfl, b5⟩
            have C5 := HC4.out.next b5
            have S5 := HSK.out.1.next b5
            have V5 := HQ.out.2.2.2.2.below b5
            clear hup1 b5 k0 k1 k2 k3 k4 k5 k6 k7 k8 k9 k10 r0 r1 HC4
            obtain ⟨r0, r1⟩ := C5.rats
            go_wp2_with fail
            refine (hpl _).mono ?_
            rintro e w6 ⟨rfl, b6⟩
            have C6 := C5.next b6
            have S6 := S5.next b6
            have V6 := V5.below b6
            clear hpl b6 r0 r1 C5 S5 V5
            obtain ⟨r0, r1⟩ := C6.rats
            have hqu := sk_quant w6 kb db sb dv d F lo hi l S6 HQ.out.1.d1 HQ.out.1.d2 HQ.out.1.q.nodes (by omega) (by have := HQ.out.2.2.2.1; have := HN.out; omega) (by omega) num den HD.out.1.2 HD.out.1.1 hden
            rw [HQ.out.2.2.2.1, ← HN.out, ← HT.out] at hqu
            go_wp2_with fail
            refine hqu.mono ?_
            rintro e w7 ⟨told, hperm, hord, rfl, b7⟩
            have C7 := C6.next b7
            have S7 := S6.next b7
            have V7 := V6.below b7
            have hlaw := walkQ_law HQ.out.1.q hperm hord T hpb.1 (by have := HN.out; omega)
            clear hqu b7 r0 r1 C6 S6 V6 hperm hord
            generalize walkQ d T 0 0 told = q at hlaw ⊢
            rw [← HN.out] at hlaw
            obtain ⟨⟨hq0, hq1⟩, hl1, hl2⟩ := hlaw
            have hpw : 2 ^ d ≤ 16777216 := Nat.pow_le_pow_right (n := 2) (by decide) HQ.out.1.d2
            have hq2 : q < 16777216 := by
              have : ((2 ^ d : Nat) : Int) = (2 : Int) ^ d := by simp
              omega
            have hby := sk_bytes w7 kb db sb dv d F lo hi l S7 HQ.out.1.d2 HQ.out.1.f2 HSK.out.2.1 HSK.out.2.2 (by omega) HQ.out.1.q.nodes (by omega)
            have hsh := fun a b ha hb => loadB_short d F a b l HQ.out.1.d2 HQ.out.1.f2 ha hb (by omega) HQ.out.1.q.nodes HQ.out.1.q.rising (by omega)
            clear hpw hq1
            go_wp2_with fail
            refine hby.mono ?_
            rintro e w8 ⟨za, zb, ia, ib, rfl, b8⟩
            have C8 := C7.next b8
            have V8 := V7.below b8
            obtain ⟨s5, s6⟩ := hsh za zb ia ib
            have hop := ref_open w8 3 (loadB d F (zigN za) (zigN zb) l) (by omega) (by omega)
            generalize loadB d F (zigN za) (zigN zb) l = ld at hop s5 s6 ⊢
            clear hby hsh b8 C7 S7 V7
            go_wp2_with fail
            refine hop.mono ?_
            rintro e w9 ⟨rfl, b9⟩
            have C9 := C8.next b9
            have V9 := V8.below b9
            clear hop b9 C8 V8
            obtain ⟨k0, k1, k2, k3, k4, k5, k6, k7, k8, k9, k10⟩ := cfgV_cells C9.cfg
            have hdn := dig_new d F w9 HQ.out.1.d1 HQ.out.1.d2 HQ.out.1.f1 HQ.out.1.f2
            go_wp2_with fail
            refine hdn.mono ?_
            rintro e w10 ⟨db2, sb2, rfl, D10, g1, g2, b10⟩
            have C10 := C9.next b10
            have V10 := V9.below b10
            clear hdn b10 C9 V9 k0 k1 k2 k3 k4 k5 k6 k7 k8 k9 k10 g1 g2
            go_wp2_with fail
            have E10 : CnE w 3 a1 a2 a3 a4 a5 a6 a9 a10 d F num den (.slice Aa len ca) al db2 sb2 w10 := ⟨C10, by have := V10; rw [← HQ.out.2.2.1] at this; exact this, D10⟩
            have EL := E10.c.below
            clear C10 V10 D10
            obtain ⟨U1, hU1⟩ : ∃ U1, U1 = upL al q := ⟨_, rfl⟩
            have hup2 := fun W (k : CnE w 3 a1 a2 a3 a4 a5 a6 a9 a10 d F num den (.slice Aa len ca) al db2 sb2 W) => hup W k.v q
            have hup3 := fun W (k : CnE w 3 a1 a2 a3 a4 a5 a6 a9 a10 d F num den (.slice Aa len ca) al db2 sb2 W) => hup W k.v (q - 1)
            rw [← hU1] at hup2 hl1
            obtain ⟨U2, hU2⟩ : ∃ U2, U2 = upL al (q - 1) := ⟨_, rfl⟩
            rw [← hU2] at hup3 hl2
            have hmo := fun W (k : CnE w 3 a1 a2 a3 a4 a5 a6 a9 a10 d F num den (.slice Aa len ca) al db2 sb2 W) => dig_most W db2 sb2 _ d F 0 0 [] k.dig HQ.out.1.f2
            have dd1 := HQ.out.1.d1
            have dd2 := HQ.out.1.d2
            have ff1 := HQ.out.1.f1
            have ff2 := HQ.out.1.f2
            obtain ⟨Q, hQ⟩ : ∃ Q, Q = N / F := ⟨_, rfl⟩
            have hQN : Q ≤ N := by rw [hQ]; exact Nat.div_le_self _ _
            obtain ⟨M, hM⟩ : ∃ M, M = d * Q := ⟨_, rfl⟩
            have hMb : M ≤ 24 * 7200 := by rw [hM]; exact Nat.mul_le_mul dd2 (by omega)
            rw [← hQ, ← hM] at hl2
            have e1 : IntKind.u64.wrap ((N : Int) / (F : Int)) = (Q : Int) := by rw [← Int.natCast_ediv, ← hQ]; exact Wd.wrapN Q (by omega)
            have e2 : IntKind.u64.wrap ((d : Int) * (Q : Int)) = (M : Int) := by rw [← Int.natCast_mul, ← hM]; exact Wd.wrapN M (by omega)
            have e3 : IntKind.u64.wrap ((T : Int) + (M : Int)) = ((T + M : Nat) : Int) := by rw [← Int.natCast_add]; exact Wd.wrapN (T + M) (by omega)
            have e4 : IntKind.u64.wrap (d : Int) = (d : Int) := Wd.wrapN d (by omega)
            have e5 : IntKind.u64.wrap (F : Int) = (F : Int) := Wd.wrapN F (by omega)
            have e6 : IntKind.i64.wrap (q - 1) = q - 1 := by rw [IntKind.wrap_i64]; omega
            have e7 : IntKind.i64.wrap (4 * (F : Int)) = ((4 * F : Nat) : Int) := by rw [IntKind.wrap_i64]; omega
            have z1 : ¬ ((F : Int) = 0) := by omega
            have z2 : ((F : Int) == 0) = false := by simp; omega
            have p1 : decide ((T : Int) ≤ (U1 : Int)) = true := by simp; omega
            have p2 : decide ((U2 : Int) ≤ ((T + M : Nat) : Int)) = true := by simp; omega
            have p10 : decide ((U2 : Int) ≤ (T : Int) + (M : Int)) = true := by simp; omega
            have p5 : decide (T ≤ U1) = true := by simp; omega
            have p6 : decide (U2 ≤ T + M) = true := by simp; omega
            have p7 : T ≤ U1 := by omega
            have p8 : U2 ≤ T + M := by omega
            have p9 : decide (4 < ld.length) = true := by simp; omega
            have p3 := bs_size ld
            have p4 : decide ((4 : Int) < (ld.length : Int)) = true := by simp; omega
            clear hU1 hU2 hQ hM hQN hMb hup hl1 hl2 hall1 hall2 hpb bl bt dd1 dd2 ff1 ff2
            refine wp_region_quiet_litC (C := CnE w 3 a1 a2 a3 a4 a5 a6 a9 a10 d F num den (.slice Aa len ca) al db2 sb2) (by kernel_rfl) (by kernel_rfl) (E10.next (Below.refl _ _).drew) ?_
            repeat (first | go_big_quiet_skip | (go_big_quiet_want; go_big_quiet_op; first | go_big_quiet_on | (refine quiet_const ?_; go_big_quiet_on)))
            go_big_quiet_want
            go_big_quiet_op
            refine ⟨.int .u64 (U1 : Nat), fun wx hx => ?_, ?_⟩
            · exact (hup2 wx hx).mono fun _ _ hm => ⟨hm.1, hx.next hm.2⟩
            go_big_quiet_on
            repeat (first | go_big_quiet_skip | (go_big_quiet_want; go_big_quiet_op; first | go_big_quiet_on | (refine quiet_const ?_; go_big_quiet_on)))
            go_big_quiet_want
            go_big_quiet_op
            refine ⟨.int .u64 (U2 : Nat), fun wx hx => ?_, ?_⟩
            · exact (hup3 wx hx).mono fun _ _ hm => ⟨hm.1, hx.next hm.2⟩
            go_big_quiet_on
            repeat (first | go_big_quiet_skip | (go_big_quiet_want; go_big_quiet_op; first | go_big_quiet_on | (refine quiet_const ?_; go_big_quiet_on)))
            go_big_quiet_want
            refine ⟨.int .i64 (d : Int), fun wx hx => ?_, ?_⟩
            · obtain ⟨k0, k1, k2, k3, k4, k5, k6, k7, k8, k9, k10⟩ := cfgV_cells hx.c.cfg
              go_simp
            go_big_quiet_on
            simp only [Act.put, List.setIfInBounds_toArray, List.set_cons_zero, List.set_cons_succ]
            repeat (first | go_big_quiet_skip | (go_big_quiet_want; go_big_quiet_op; first | go_big_quiet_on | (refine quiet_const ?_; go_big_quiet_on)))
            go_big_quiet_want
            refine ⟨.int .i64 (F : Int), fun wx hx => ?_, ?_⟩
            · obtain ⟨k0, k1, k2, k3, k4, k5, k6, k7, k8, k9, k10⟩ := cfgV_cells hx.c.cfg
              go_simp
            go_big_quiet_on
            simp only [Act.put, List.setIfInBounds_toArray, List.set_cons_zero, List.set_cons_succ]
            repeat (first | go_big_quiet_skip | (go_big_quiet_want; go_big_quiet_op; first | go_big_quiet_on | (refine quiet_const ?_; go_big_quiet_on)))
            go_big_quiet_want
            go_big_quiet_op
            refine ⟨.int .i64 ((4 * F : Nat) : Int), fun wx hx => ?_, ?_⟩
            · exact (hmo wx hx).mono fun _ _ hm => ⟨hm.1, hm.2 ▸ hx⟩
            go_big_quiet_on
            repeat (first | go_big_quiet_skip | (go_big_quiet_want; go_big_quiet_op; first | go_big_quiet_on | (refine quiet_const ?_; go_big_quiet_on)))
            go_big_quiet_want
            refine ⟨.int .i64 (F : Int), fun wx hx => ?_, ?_⟩
            · obtain ⟨k0, k1, k2, k3, k4, k5, k6, k7, k8, k9, k10⟩ := cfgV_cells hx.c.cfg
              go_simp
            go_big_quiet_on
            simp only [Act.put, List.setIfInBounds_toArray, List.set_cons_zero, List.set_cons_succ]
            repeat (first | go_big_quiet_skip | (go_big_quiet_want; go_big_quiet_op; first | go_big_quiet_on | (refine quiet_const ?_; go_big_quiet_on)))
            refine wpQuiet_nil ?_
            intro W1 H1
            have HE1 := Lib.hid H1.c.below
            clear hup2 hup3 hmo
            go_wp2_with fail
            go_ret
            exact ⟨rfl, HE1.out⟩
      · have h3' : (a0 != 3) = true := by simp [h3]
        go_wp2_with fail
        go_ret
        exact ⟨rfl, HC3.out.below⟩
end Go.Proofs.YtbejdajkkoapgaaGreatDoor

