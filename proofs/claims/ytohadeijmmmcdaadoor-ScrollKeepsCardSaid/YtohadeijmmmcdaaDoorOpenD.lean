/-
  The arguments opened: bytes, bools, texts.
-/
import Derived.Test.YtohadeijmmmcdaaDoorDoorP
import Derived.ShutString
import Derived.ChangeOld
import Derived.Deep.Slices
import Derived.Deep.Fields
namespace Go.Proofs.YtohadeijmmmcdaaDoor
open Go.ChangeShapes Go.WideShapes Go.ChangeAt Go.RowKit Go.Deep

set_option maxRecDepth 100000
theorem laidOut : laidOutB Tryd.prog = true := by kernel_rfl
theorem add_none (g off i : Nat) : (⟨g, off, none⟩ : Addr).add i = ⟨g, off + i, none⟩ := by unfold Addr.add; split <;> simp_all

/-- The slice at A, of that capacity, has these bytes. -/
structure BytN (w : World) (A : Option Addr) (c : Nat) (l : List Int) : Prop where
  byt : Byt w A l
  nil_ : A = none → c = 0

section
variable {H : Type} {enc : TypeId × Value → H} {w : World} {base : Nat} {spare : Nat → Bool} {held : Bool}

theorem trod_bytes {fuel : Nat} {cs : List Value} {x : DataW H × List MemPlace} (h : DataW.trod enc Tryd.prog w base spare held fuel 22 cs = some x) :
    ∃ A l c, cs = [.slice A l.length c] ∧ BytN w A c l ∧ l.length ≤ maxLen := by
  rcases open_ints Tryd.underlying22 Tryd.underlying5 (by kernel_rfl) h with ⟨rfl, _⟩ | ⟨a, len, cap, zs, rfl, _, hl, hm, hz, _, hc, hw⟩
  · exact ⟨none, [], 0, rfl, ⟨Byt.nil _ _, fun _ => rfl⟩, by simp⟩
  · have hzl : len ≤ zs.length := by rw [hz]; split <;> omega
    have htl : (zs.take len).length = len := by simp; omega
    refine ⟨some a, zs.take len, cap, by rw [htl], ⟨⟨fun h0 => ?_, fun x hx => bounds_u8 (hw x (List.mem_of_mem_take hx))⟩, fun e => by cases e⟩, by rw [htl]; omega⟩
    have c0 := hc 0 (by omega)
    obtain ⟨b, off, spot⟩ := a
    have hs : spot = none := by simpa [Addr.add] using World.cell?_spot c0
    subst hs
    rw [add_none] at c0
    refine ⟨b, off, rfl, block_lt_of_cell c0, fun j x hx => ?_⟩
    rw [List.getElem?_take] at hx
    split at hx
    · have hjl : j < zs.length := by omega
      have := hc j hjl
      rw [add_none] at this
      rw [this]
      rw [List.getElem?_eq_getElem hjl] at hx
      simp [List.getD, List.getElem?_eq_getElem hjl, Option.some.inj hx]
    · cases hx

/-- The slice at A holds these bools. -/
structure Bls (w : World) (A : Option Addr) (l : List Bool) : Prop where
  cell : 0 < l.length → ∃ g off, A = some ⟨g, off, none⟩ ∧ g < w.heap.size ∧ ∀ j x, l[j]? = some x → w.cell? ⟨g, off + j, none⟩ = some (.bool x)

theorem trod_bools {fuel : Nat} {cs : List Value} {x : DataW H × List MemPlace} (h : DataW.trod enc Tryd.prog w base spare held fuel 60 cs = some x) :
    ∃ A l c, cs = [.slice A l.length c] ∧ Bls w A l ∧ l.length ≤ maxLen := by
  rcases open_slice Tryd.underlying60 h with ⟨rfl, _⟩ | ⟨a, len, cap, m, n, D, Pl, rfl, _, hl, hm, hmm, _, hi⟩
  · exact ⟨none, [], 0, rfl, ⟨fun h => absurd h (by simp)⟩, by simp⟩
  · have hml : len ≤ m := by rw [hmm]; split <;> omega
    have hC : Tryd.prog.cellsOf 4 = 1 := by kernel_rfl
    have each : ∀ i, ∃ b : Bool, i < len → w.cell? (a.add i) = some (.bool b) := by
      intro i
      by_cases h : i < len
      · obtain ⟨cs', hc, ht⟩ := hi i (by omega)
        rw [hC, Nat.mul_one] at hc
        obtain ⟨b, rfl, _⟩ := DataW.trod_bool Tryd.underlying4 ht
        obtain ⟨_, _, hat⟩ := World.cells?_some hc
        refine ⟨b, fun _ => ?_⟩
        have := hat 0 (by omega)
        rw [show (a.add i).add 0 = a.add i from by simp [Addr.add]] at this
        simpa using this
      · exact ⟨false, fun h' => absurd h' h⟩
    obtain ⟨f, hf⟩ := Classical.skolem.1 each
    have hll : ((List.range len).map f).length = len := by simp
    refine ⟨some a, (List.range len).map f, cap, by rw [hll], ⟨fun h0 => ?_⟩, by rw [hll]; omega⟩
    rw [hll] at h0
    have c0 := hf 0 h0
    obtain ⟨b, off, spot⟩ := a
    have hs : spot = none := by simpa [Addr.add] using World.cell?_spot c0
    subst hs
    rw [add_none] at c0
    refine ⟨b, off, rfl, block_lt_of_cell c0, fun j x hx => ?_⟩
    simp only [List.getElem?_map, Option.map_eq_some_iff] at hx
    obtain ⟨j', hj', rfl⟩ := hx
    have hjl : j < len := by have := (List.getElem?_eq_some_iff.1 hj').1; simpa using this
    have : j' = j := by rw [List.getElem?_range hjl] at hj'; exact (Option.some.inj hj').symm
    subst this
    have := hf j' hjl
    rwa [add_none] at this

/-- The slice at A holds these texts. -/
def Txs (w : World) (A : Option Addr) (l : List (List Int)) : Prop := ∀ i, (h : i < l.length) → ∃ g off, A = some ⟨g, off, none⟩ ∧ g < w.heap.size ∧ ∃ A' c', w.cell? ⟨g, off + i, none⟩ = some (.slice A' l[i].length c') ∧ BytN w A' c' l[i] ∧ l[i].length ≤ maxLen

theorem trod_texts {fuel : Nat} {cs : List Value} {x : DataW H × List MemPlace} (h : DataW.trod enc Tryd.prog w base spare held fuel 33 cs = some x) :
    ∃ A l c, cs = [.slice A l.length c] ∧ Txs w A l ∧ l.length ≤ maxLen := by
  rcases open_slice Tryd.underlying33 h with ⟨rfl, _⟩ | ⟨a, len, cap, m, n, D, Pl, rfl, _, hl, hm, hmm, _, hi⟩
  · exact ⟨none, [], 0, rfl, fun i h => absurd h (by simp), by simp⟩
  · have hml : len ≤ m := by rw [hmm]; split <;> omega
    have hC : Tryd.prog.cellsOf 22 = 1 := by kernel_rfl
    obtain ⟨b, off, spot⟩ := a
    have hspot : 0 < len → spot = none ∧ b < w.heap.size := by
      intro h0
      obtain ⟨cs', hc, ht⟩ := hi 0 (by omega)
      rw [hC] at hc
      obtain ⟨_, hcl, hat⟩ := World.cells?_some hc
      have := hat 0 (by omega)
      rw [List.getElem?_eq_getElem (by omega)] at this
      have hs : spot = none := by simpa [Addr.add] using World.cell?_spot this
      subst hs
      refine ⟨rfl, ?_⟩
      rw [add_none, add_none] at this
      exact block_lt_of_cell this
    have each : ∀ i, ∃ l : List Int, i < len → ∃ A' c', w.cell? ⟨b, off + i, none⟩ = some (.slice A' l.length c') ∧ BytN w A' c' l ∧ l.length ≤ maxLen := by
      intro i
      by_cases h : i < len
      · obtain ⟨rfl, hbl⟩ := hspot (by omega)
        obtain ⟨cs', hc, ht⟩ := hi i (by omega)
        rw [hC, Nat.mul_one] at hc
        obtain ⟨A', l, c', rfl, hb, hm'⟩ := trod_bytes ht
        obtain ⟨_, _, hat⟩ := World.cells?_some hc
        have := hat 0 (by omega)
        rw [add_none, add_none, Nat.add_zero] at this
        exact ⟨l, fun _ => ⟨A', c', by simpa using this, hb, hm'⟩⟩
      · exact ⟨[], fun h' => absurd h' h⟩
    obtain ⟨f, hf⟩ := Classical.skolem.1 each
    have hll : ((List.range len).map f).length = len := by simp
    refine ⟨some ⟨b, off, spot⟩, (List.range len).map f, cap, by rw [hll], fun i h0 => ?_, by rw [hll]; omega⟩
    rw [hll] at h0
    obtain ⟨rfl, hbl⟩ := hspot (by omega)
    refine ⟨b, off, rfl, hbl, ?_⟩
    have := hf i h0
    simpa using this
end

end Go.Proofs.YtohadeijmmmcdaaDoor
