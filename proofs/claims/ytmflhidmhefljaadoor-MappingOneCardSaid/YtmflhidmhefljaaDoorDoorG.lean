/-
  What the laid variables give: the digests' constants; a start that has them.
  The arguments opened: bytes, bools, texts.
-/
import Derived.Test.YtmflhidmhefljaaDoorShaU
import Derived.Test.YtmflhidmhefljaaDoorRows
import Derived.ProofKit
import Derived.LaidMore
import Derived.OpenShut
import Derived.MakeChecks
import Derived.Stop.Joined
import Derived.ShutString
import Derived.ChangeOld
import Derived.Deep.Slices
import Derived.Deep.Fields

section
namespace Go.Proofs.YtmflhidmhefljaaDoor
open Go.ChangeShapes Go.WideShapes Go.ChangeAt Go.RowKit
set_option maxRecDepth 100000

theorem own : ownKnob Tryd.prog.godebug = none := by kernel_rfl
theorem gFirst : Tryd.prog.globalNamed "seisin/sha.first" = some 0 := by kernel_rfl
theorem gRounds : Tryd.prog.globalNamed "seisin/sha.rounds" = some 1 := by kernel_rfl
theorem tFirst : (Tryd.prog.globals[0]?).map (·.type) = some 81 := by kernel_rfl
theorem tRounds : (Tryd.prog.globals[1]?).map (·.type) = some 100 := by kernel_rfl
theorem uFirst : Tryd.prog.underlying 81 = some (.array 8 80) := by kernel_rfl
theorem uRounds : Tryd.prog.underlying 100 = some (.array 64 80) := by kernel_rfl
theorem uU32 : Tryd.prog.underlying 80 = some (.int .u32) := by kernel_rfl
theorem cU32 : Tryd.prog.cellsOf 80 = 1 := by kernel_rfl

/-- The listed variables. -/
def laid2 : List (String × DataW Unit) := [("seisin/sha.first", Rows.laid_seisin_sha_first), ("seisin/sha.rounds", Rows.laid_seisin_sha_rounds)]
def lits (l : List Int) : List (DataW Unit) := l.map fun x => .lit (.int .u32 x)
theorem first_lits : (Rows.laid_seisin_sha_first : DataW Unit) = .agg (lits H0) := by kernel_rfl
theorem rounds_lits : (Rows.laid_seisin_sha_rounds : DataW Unit) = .agg (lits K0) := by kernel_rfl

/-- The cells of an array of words that reads as known ones. -/
theorem cells_of_lits {W : World} {fuel n : Nat} {t : TypeId} {cs : List Value} {L : List Int} {p : List MemPlace} {held : Bool} {base : Nat} {sp : TypeId × Value → Unit} {f : Nat → Bool}
    (ht : Tryd.prog.underlying t = some (.array n 80)) (h : DataW.trod sp Tryd.prog W base f held fuel t cs = some (.agg (lits L), p)) : ∀ i, i < n → cs[i]? = some (.int .u32 (L.getD i 0)) := by
  obtain ⟨xs, m, rfl, hx, hlen, hn, hel⟩ := DataW.trod_array ht h
  intro i hi
  have h0 := hel i hi
  rw [cU32, Nat.mul_one] at h0
  simp only [Prod.mk.injEq, DataW.agg.injEq] at hx
  have hxi : xs[i]? = some xs[i] := List.getElem?_eq_getElem (by omega)
  rw [hxi] at h0
  obtain ⟨k, e1, e2, _⟩ := DataW.trod_int uU32 h0
  have hm : (lits L)[i]? = some (.lit (.int .u32 k)) := by
    rw [hx.1, List.getElem?_map, hxi, e2]
    rfl
  unfold lits at hm
  rw [List.getElem?_map] at hm
  obtain ⟨y, hy, e3⟩ := Option.map_eq_some_iff.1 hm
  have e4 : y = k := by
    injection e3 with e3
    injection e3
  subst e4
  have e5 : L.getD i 0 = y := by simp [List.getD, hy]
  rw [e5]
  have : ((cs.drop i).take 1)[0]? = some (.int .u32 y) := by rw [e1]; rfl
  rw [List.getElem?_take, if_pos (by omega), List.getElem?_drop, Nat.add_zero] at this
  exact this

theorem glob_of_laid {W : World} (h : laidMetH Tryd.prog laid2 W) : Glob W := by
  rw [MakeChecks.laidMetH_plain _ _ _ (by kernel_rfl)] at h
  obtain ⟨ps, ⟨g0, t0, cs0, f0, p0, q0, hg0, ht0, hv0, hd0, ⟨g1, t1, cs1, f1, p1, q1, hg1, ht1, hv1, hd1, _, _⟩, _⟩, _, _⟩ := h
  obtain rfl := Option.some.inj (gFirst.symm.trans hg0)
  obtain rfl := Option.some.inj (gRounds.symm.trans hg1)
  obtain rfl := Option.some.inj (tFirst.symm.trans ht0)
  obtain rfl := Option.some.inj (tRounds.symm.trans ht1)
  rw [first_lits] at hd0
  rw [rounds_lits] at hd1
  have c0 := cells_of_lits uFirst hd0
  have c1 := cells_of_lits uRounds hd1
  refine ⟨fun i hi => ?_, fun i hi => ?_, ?_⟩
  · have e := World.var?_cell hg1 hv1 i
    rw [← Array.getElem?_toList, c1 i hi] at e
    exact e
  · have e := World.var?_cell hg0 hv0 i
    rw [← Array.getElem?_toList, c0 i hi] at e
    exact e
  · have e := World.var?_cell hg1 hv1 0
    rw [← Array.getElem?_toList, c1 0 (by omega)] at e
    by_cases hs : 2 ≤ W.heap.size
    · exact hs
    · unfold World.cell? at e
      rw [show W.heap[1]? = none from Array.getElem?_eq_none (by omega)] at e
      cases e

theorem door_met (os : Os) (args : Array Value) : laidMetH Tryd.prog laid2 ((World.doorLaid Tryd.prog 400 os).forCall (fun _ _ => 0) ⟨#[], args, []⟩).memory :=
  laidMetH_of_parts3 (fuel := 8) (laidMet_of_run' 8 (by kernel_rfl) (by kernel_rfl)) (by kernel_rfl) (by kernel_rfl)

end Go.Proofs.YtmflhidmhefljaaDoor
end

section
namespace Go.Proofs.YtmflhidmhefljaaDoor
open Go.ChangeShapes Go.WideShapes Go.ChangeAt Go.RowKit Go.Deep

set_option maxRecDepth 100000
theorem laidOut : laidOutB Tryd.prog = true := by kernel_rfl
theorem add_none (g off i : Nat) : (⟨g, off, none⟩ : Addr).add i = ⟨g, off + i, none⟩ := by unfold Addr.add; split <;> simp_all

/-- The slice at A, of that capacity, has these bytes. -/
structure BytN (w : World) (A : Option Addr) (c : Nat) (l : List Int) : Prop where
  byt : Byt w A l
  nil_ : A = none → c = 0

section
variable {H : Type} {enc : TypeId × Value → H} {w : World} {base : Nat} {spare : Nat → Bool} {held : Bool}

theorem trod_bytes {fuel : Nat} {cs : List Value} {x : DataW H × List MemPlace} (h : DataW.trod enc Tryd.prog w base spare held fuel 51 cs = some x) :
    ∃ A l c, cs = [.slice A l.length c] ∧ BytN w A c l ∧ l.length ≤ maxLen := by
  rcases open_ints Tryd.underlying51 Tryd.underlying5 (by kernel_rfl) h with ⟨rfl, _⟩ | ⟨a, len, cap, zs, rfl, _, hl, hm, hz, _, hc, hw⟩
  · exact ⟨none, [], 0, rfl, ⟨Byt.nil _ _, fun _ => rfl⟩, by simp⟩
  · have hzl : len ≤ zs.length := by rw [hz]; split <;> omega
    have htl : (zs.take len).length = len := by simp; omega
    refine ⟨some a, zs.take len, cap, by rw [htl], ⟨⟨fun h0 => ?_, fun x hx => bounds_u8 (hw x (List.mem_of_mem_take hx))⟩, fun e => by cases e⟩, by rw [htl]; omega⟩
    have c0 := hc 0 (by omega)
    obtain ⟨b, off, spot⟩ := a
    have hs : spot = none := by simpa [Addr.add] using World.cell?_spot c0
    subst hs
    rw [add_none] at c0
    refine ⟨b, off, rfl, block_lt_of_cell c0, fun j x hx => ?_⟩
    rw [List.getElem?_take] at hx
    split at hx
    · have hjl : j < zs.length := by omega
      have := hc j hjl
      rw [add_none] at this
      rw [this]
      rw [List.getElem?_eq_getElem hjl] at hx
      simp [List.getD, List.getElem?_eq_getElem hjl, Option.some.inj hx]
    · cases hx

/-- The slice at A holds these bools. -/
structure Bls (w : World) (A : Option Addr) (l : List Bool) : Prop where
  cell : 0 < l.length → ∃ g off, A = some ⟨g, off, none⟩ ∧ g < w.heap.size ∧ ∀ j x, l[j]? = some x → w.cell? ⟨g, off + j, none⟩ = some (.bool x)

/-- The slice at A holds these texts. -/
def Txs (w : World) (A : Option Addr) (l : List (List Int)) : Prop := ∀ i, (h : i < l.length) → ∃ g off, A = some ⟨g, off, none⟩ ∧ g < w.heap.size ∧ ∃ A' c', w.cell? ⟨g, off + i, none⟩ = some (.slice A' l[i].length c') ∧ BytN w A' c' l[i] ∧ l[i].length ≤ maxLen

theorem trod_texts {fuel : Nat} {cs : List Value} {x : DataW H × List MemPlace} (h : DataW.trod enc Tryd.prog w base spare held fuel 67 cs = some x) :
    ∃ A l c, cs = [.slice A l.length c] ∧ Txs w A l ∧ l.length ≤ maxLen := by
  rcases open_slice Tryd.underlying67 h with ⟨rfl, _⟩ | ⟨a, len, cap, m, n, D, Pl, rfl, _, hl, hm, hmm, _, hi⟩
  · exact ⟨none, [], 0, rfl, fun i h => absurd h (by simp), by simp⟩
  · have hml : len ≤ m := by rw [hmm]; split <;> omega
    have hC : Tryd.prog.cellsOf 51 = 1 := by kernel_rfl
    obtain ⟨b, off, spot⟩ := a
    have hspot : 0 < len → spot = none ∧ b < w.heap.size := by
      intro h0
      obtain ⟨cs', hc, ht⟩ := hi 0 (by omega)
      rw [hC] at hc
      obtain ⟨_, hcl, hat⟩ := World.cells?_some hc
      have := hat 0 (by omega)
      rw [List.getElem?_eq_getElem (by omega)] at this
      have hs : spot = none := by simpa [Addr.add] using World.cell?_spot this
      subst hs
      refine ⟨rfl, ?_⟩
      rw [add_none, add_none] at this
      exact block_lt_of_cell this
    have each : ∀ i, ∃ l : List Int, i < len → ∃ A' c', w.cell? ⟨b, off + i, none⟩ = some (.slice A' l.length c') ∧ BytN w A' c' l ∧ l.length ≤ maxLen := by
      intro i
      by_cases h : i < len
      · obtain ⟨rfl, hbl⟩ := hspot (by omega)
        obtain ⟨cs', hc, ht⟩ := hi i (by omega)
        rw [hC, Nat.mul_one] at hc
        obtain ⟨A', l, c', rfl, hb, hm'⟩ := trod_bytes ht
        obtain ⟨_, _, hat⟩ := World.cells?_some hc
        have := hat 0 (by omega)
        rw [add_none, add_none, Nat.add_zero] at this
        exact ⟨l, fun _ => ⟨A', c', by simpa using this, hb, hm'⟩⟩
      · exact ⟨[], fun h' => absurd h' h⟩
    obtain ⟨f, hf⟩ := Classical.skolem.1 each
    have hll : ((List.range len).map f).length = len := by simp
    refine ⟨some ⟨b, off, spot⟩, (List.range len).map f, cap, by rw [hll], fun i h0 => ?_, by rw [hll]; omega⟩
    rw [hll] at h0
    obtain ⟨rfl, hbl⟩ := hspot (by omega)
    refine ⟨b, off, rfl, hbl, ?_⟩
    have := hf i h0
    simpa using this
end

end Go.Proofs.YtmflhidmhefljaaDoor
end
