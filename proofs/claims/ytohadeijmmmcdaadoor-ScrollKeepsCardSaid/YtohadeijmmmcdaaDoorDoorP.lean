/-
  What the laid variables give: the digests' constants; a start that has them.
-/
import Derived.Test.YtohadeijmmmcdaaDoorScrollB
import Derived.Test.YtohadeijmmmcdaaDoorRows
import Derived.ProofKit
import Derived.LaidMore
import Derived.OpenShut
import Derived.MakeChecks
import Derived.Stop.Joined
namespace Go.Proofs.YtohadeijmmmcdaaDoor
open Go.ChangeShapes Go.WideShapes Go.ChangeAt Go.RowKit
set_option maxRecDepth 100000

theorem own : ownKnob Tryd.prog.godebug = none := by kernel_rfl
theorem gFirst : Tryd.prog.globalNamed "seisin/sha.first" = some 0 := by kernel_rfl
theorem gRounds : Tryd.prog.globalNamed "seisin/sha.rounds" = some 1 := by kernel_rfl
theorem tFirst : (Tryd.prog.globals[0]?).map (·.type) = some 167 := by kernel_rfl
theorem tRounds : (Tryd.prog.globals[1]?).map (·.type) = some 175 := by kernel_rfl
theorem uFirst : Tryd.prog.underlying 167 = some (.array 8 31) := by kernel_rfl
theorem uRounds : Tryd.prog.underlying 175 = some (.array 64 31) := by kernel_rfl
theorem uU32 : Tryd.prog.underlying 31 = some (.int .u32) := by kernel_rfl
theorem cU32 : Tryd.prog.cellsOf 31 = 1 := by kernel_rfl

/-- The listed variables. -/
def laid2 : List (String × DataW Unit) := [("seisin/sha.first", Rows.laid_seisin_sha_first), ("seisin/sha.rounds", Rows.laid_seisin_sha_rounds)]
def lits (l : List Int) : List (DataW Unit) := l.map fun x => .lit (.int .u32 x)
theorem first_lits : (Rows.laid_seisin_sha_first : DataW Unit) = .agg (lits H0) := by kernel_rfl
theorem rounds_lits : (Rows.laid_seisin_sha_rounds : DataW Unit) = .agg (lits K0) := by kernel_rfl

/-- The cells of an array of words that reads as known ones. -/
theorem cells_of_lits {W : World} {fuel n : Nat} {t : TypeId} {cs : List Value} {L : List Int} {p : List MemPlace} {held : Bool} {base : Nat} {sp : TypeId × Value → Unit} {f : Nat → Bool}
    (ht : Tryd.prog.underlying t = some (.array n 31)) (h : DataW.trod sp Tryd.prog W base f held fuel t cs = some (.agg (lits L), p)) : ∀ i, i < n → cs[i]? = some (.int .u32 (L.getD i 0)) := by
  obtain ⟨xs, m, rfl, hx, hlen, hn, hel⟩ := DataW.trod_array ht h
  intro i hi
  have h0 := hel i hi
  rw [cU32, Nat.mul_one] at h0
  simp only [Prod.mk.injEq, DataW.agg.injEq] at hx
  have hxi : xs[i]? = some xs[i] := List.getElem?_eq_getElem (by omega)
  rw [hxi] at h0
  obtain ⟨k, e1, e2, _⟩ := DataW.trod_int uU32 h0
  have hm : (lits L)[i]? = some (.lit (.int .u32 k)) := by
    rw [hx.1, List.getElem?_map, hxi, e2]
    rfl
  unfold lits at hm
  rw [List.getElem?_map] at hm
  obtain ⟨y, hy, e3⟩ := Option.map_eq_some_iff.1 hm
  have e4 : y = k := by
    injection e3 with e3
    injection e3
  subst e4
  have e5 : L.getD i 0 = y := by simp [List.getD, hy]
  rw [e5]
  have : ((cs.drop i).take 1)[0]? = some (.int .u32 y) := by rw [e1]; rfl
  rw [List.getElem?_take, if_pos (by omega), List.getElem?_drop, Nat.add_zero] at this
  exact this

theorem glob_of_laid {W : World} (h : laidMetH Tryd.prog laid2 W) : Glob W := by
  rw [MakeChecks.laidMetH_plain _ _ _ (by kernel_rfl)] at h
  obtain ⟨ps, ⟨g0, t0, cs0, f0, p0, q0, hg0, ht0, hv0, hd0, ⟨g1, t1, cs1, f1, p1, q1, hg1, ht1, hv1, hd1, _, _⟩, _⟩, _, _⟩ := h
  obtain rfl := Option.some.inj (gFirst.symm.trans hg0)
  obtain rfl := Option.some.inj (gRounds.symm.trans hg1)
  obtain rfl := Option.some.inj (tFirst.symm.trans ht0)
  obtain rfl := Option.some.inj (tRounds.symm.trans ht1)
  rw [first_lits] at hd0
  rw [rounds_lits] at hd1
  have c0 := cells_of_lits uFirst hd0
  have c1 := cells_of_lits uRounds hd1
  refine ⟨fun i hi => ?_, fun i hi => ?_, ?_⟩
  · have e := World.var?_cell hg1 hv1 i
    rw [← Array.getElem?_toList, c1 i hi] at e
    exact e
  · have e := World.var?_cell hg0 hv0 i
    rw [← Array.getElem?_toList, c0 i hi] at e
    exact e
  · have e := World.var?_cell hg1 hv1 0
    rw [← Array.getElem?_toList, c1 0 (by omega)] at e
    by_cases hs : 2 ≤ W.heap.size
    · exact hs
    · unfold World.cell? at e
      rw [show W.heap[1]? = none from Array.getElem?_eq_none (by omega)] at e
      cases e

theorem door_met (os : Os) (args : Array Value) : laidMetH Tryd.prog laid2 ((World.doorLaid Tryd.prog 400 os).forCall (fun _ _ => 0) ⟨#[], args, []⟩).memory :=
  laidMetH_of_parts3 (fuel := 8) (laidMet_of_run' 8 (by kernel_rfl) (by kernel_rfl)) (by kernel_rfl) (by kernel_rfl)

end Go.Proofs.YtohadeijmmmcdaaDoor
