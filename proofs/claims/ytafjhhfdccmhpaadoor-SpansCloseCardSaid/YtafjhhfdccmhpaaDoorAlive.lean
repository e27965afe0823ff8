/-
  What the laws of layer 12 share: contract of alive, and what the given table gives the walks. Conditions: the table of tens is as the program lays it.
-/
import Derived.Test.YtafjhhfdccmhpaaDoorRefs
import Derived.Test.YtafjhhfdccmhpaaDoorTie
import Derived.ProofKit
import Derived.LaidMore
import Derived.OpenShut
import Derived.Stop.Joined
import Derived.SevenTiedAt
namespace Go.Proofs.YtafjhhfdccmhpaaDoor
open Go.RowKit Go.Lib

theorem Sp.from0 {w0 w1 w : World} {B d L : Nat} (h : Sp w1 B d L w) (hb : Below w0.heap.size w0 w) (hs : w0.heap.size ≤ w1.heap.size) : Sp w0 B d L w :=
  ⟨h.c0, h.c1, h.tens, hb, h.lt, Nat.le_trans hs h.ge⟩
theorem alive_any (w : World) (ht : Tens w) :
    Calls Tryd.prog 8 #[] w fun e w' => e = .returned (.bool true) ∧ Below w.heap.size w w' := by
  have e1 : (idx (logD 1) 33 == 32) = true := by decide +kernel
  have ⟨g1, g2⟩ := logD_le 1
  go_enter Tryd.func8, Tryd.ntmps8
  go_wp2_with fail
  refine (new_good 1 _ (by omega) (by omega) ht).mono ?_
  rintro e w1 ⟨rfl, H⟩
  go_wp2_with fail
  refine (index_yes _ (logD 1) _ _ (by omega) (by omega) g2 H.c1).mono ?_
  rintro e w2 ⟨rfl, hd⟩
  replace H := H.next hd.below
  go_wp2_with (go_at_call 18; refine (digits_any _ ((1 : Nat) : Int) _ H.c0).mono ?_; rintro e w' ⟨rfl, rfl⟩)
  go_ret
  exact ⟨rfl, H.below⟩

/-- the table, as the row lists it, gives the walks its five cells -/
theorem tens_of_laid {W : World} (h : laidMetH Tryd.prog Rows.spansSideRow.laid W) : Tens W := by
  rw [MakeChecks.laidMetH_plain _ _ _ (by kernel_rfl)] at h
  obtain ⟨ps, ⟨g0, t0, cs0, f0, p0, q0, hg0, ht0, hv0, hd0, _, _⟩, _, _⟩ := h
  obtain rfl : g0 = 0 := Option.some.inj (hg0.symm.trans (by kernel_rfl))
  obtain rfl : t0 = 49 := Option.some.inj (ht0.symm.trans (by kernel_rfl))
  obtain ⟨xs, m1, hN, hx1, hlen, hn3, hel⟩ := DataW.trod_array Tryd.underlying49 hd0
  have c22 : Tryd.prog.cellsOf 22 = 1 := by kernel_rfl
  have hxs := (Prod.mk.inj hx1).1
  have hmap : xs.map (fun x => x.1) = [.lit (.int .u64 1), .lit (.int .u64 10), .lit (.int .u64 100), .lit (.int .u64 1000), .lit (.int .u64 10000)] := (DataW.agg.inj hxs).symm
  have key : ∀ (i : Nat) (n : Int), i < 5 → (xs.map (fun x => x.1))[i]? = some (.lit (.int .u64 n)) → W.cell? ⟨0, i, none⟩ = some (.int .u64 n) := by
    intro i n hi hn
    have h0 := hel i hi
    obtain ⟨x, hx⟩ : ∃ x, xs[i]? = some x := ⟨xs[i], List.getElem?_eq_getElem (by omega)⟩
    rw [c22, Nat.mul_one, hx] at h0
    obtain ⟨k, e1, e2, _⟩ := DataW.trod_int Tryd.underlying22 h0
    rw [List.getElem?_map, hx] at hn
    have hk : k = n := by rw [e2] at hn; simpa using hn
    subst hk
    have hv := World.var?_cell hg0 hv0 i
    have hg : cs0[i]? = some (.int .u64 k) := by
      have h1 := congrArg (fun l => l[0]?) e1
      simpa [List.getElem?_take, List.getElem?_drop] using h1
    rw [hg] at hv
    simpa using hv
  refine ⟨key 0 1 (by decide) ?_, key 1 10 (by decide) ?_, key 2 100 (by decide) ?_, key 3 1000 (by decide) ?_, key 4 10000 (by decide) ?_⟩ <;> rw [hmap] <;> rfl

end Go.Proofs.YtafjhhfdccmhpaaDoor
