/-
  The arguments opened: bytes, bools, acts.
-/
import Derived.Test.YtohadeijmmmcdaaDrumI
import Derived.Test.YtohadeijmmmcdaaRows
import Derived.ProofKit
import Derived.OpenShut
import Derived.ShutString
import Derived.ChangeOld
import Derived.Deep.Slices
import Derived.Deep.Fields
namespace Go.Proofs.Ytohadeijmmmcdaa
open Go.ChangeShapes Go.WideShapes Go.ChangeAt Go.RowKit Go.Deep

theorem own : ownKnob Try.prog.godebug = none := by kernel_rfl
theorem laidOut : laidOutB Try.prog = true := by kernel_rfl
theorem add_none (g off i : Nat) : (⟨g, off, none⟩ : Addr).add i = ⟨g, off + i, none⟩ := by unfold Addr.add; split <;> simp_all

section
variable {H : Type} {enc : TypeId × Value → H} {w : World} {base : Nat} {spare : Nat → Bool} {held : Bool}

theorem trod_bytes {fuel : Nat} {cs : List Value} {x : DataW H × List MemPlace} (h : DataW.trod enc Try.prog w base spare held fuel 26 cs = some x) :
    ∃ A l c, cs = [.slice A l.length c] ∧ Byt w A l ∧ l.length ≤ maxLen := by
  rcases open_ints Try.underlying26 Try.underlying5 (by kernel_rfl) h with ⟨rfl, _⟩ | ⟨a, len, cap, zs, rfl, _, hl, hm, hz, _, hc, hw⟩
  · exact ⟨none, [], 0, rfl, Byt.nil _ _, by simp⟩
  · have hzl : len ≤ zs.length := by rw [hz]; split <;> omega
    have htl : (zs.take len).length = len := by simp; omega
    refine ⟨some a, zs.take len, cap, by rw [htl], ⟨fun h0 => ?_, fun x hx => bounds_u8 (hw x (List.mem_of_mem_take hx))⟩, by rw [htl]; omega⟩
    have c0 := hc 0 (by omega)
    obtain ⟨b, off, spot⟩ := a
    have hs : spot = none := by simpa [Addr.add] using World.cell?_spot c0
    subst hs
    rw [add_none] at c0
    refine ⟨b, off, rfl, block_lt_of_cell c0, fun j x hx => ?_⟩
    rw [List.getElem?_take] at hx
    split at hx
    · have hjl : j < zs.length := by omega
      have := hc j hjl
      rw [add_none] at this
      rw [this]
      rw [List.getElem?_eq_getElem hjl] at hx
      simp [List.getD, List.getElem?_eq_getElem hjl, Option.some.inj hx]
    · cases hx

/-- The slice at A holds these bools. -/
structure Bls (w : World) (A : Option Addr) (l : List Bool) : Prop where
  cell : 0 < l.length → ∃ g off, A = some ⟨g, off, none⟩ ∧ g < w.heap.size ∧ ∀ j x, l[j]? = some x → w.cell? ⟨g, off + j, none⟩ = some (.bool x)

theorem trod_bools {fuel : Nat} {cs : List Value} {x : DataW H × List MemPlace} (h : DataW.trod enc Try.prog w base spare held fuel 40 cs = some x) :
    ∃ A l c, cs = [.slice A l.length c] ∧ Bls w A l ∧ l.length ≤ maxLen := by
  rcases open_slice Try.underlying40 h with ⟨rfl, _⟩ | ⟨a, len, cap, m, n, D, Pl, rfl, _, hl, hm, hmm, _, hi⟩
  · exact ⟨none, [], 0, rfl, ⟨fun h => absurd h (by simp)⟩, by simp⟩
  · have hml : len ≤ m := by rw [hmm]; split <;> omega
    have hC : Try.prog.cellsOf 4 = 1 := by kernel_rfl
    have each : ∀ i, ∃ b : Bool, i < len → w.cell? (a.add i) = some (.bool b) := by
      intro i
      by_cases h : i < len
      · obtain ⟨cs', hc, ht⟩ := hi i (by omega)
        rw [hC, Nat.mul_one] at hc
        obtain ⟨b, rfl, _⟩ := DataW.trod_bool Try.underlying4 ht
        obtain ⟨_, _, hat⟩ := World.cells?_some hc
        refine ⟨b, fun _ => ?_⟩
        have := hat 0 (by omega)
        rw [show (a.add i).add 0 = a.add i from by simp [Addr.add]] at this
        simpa using this
      · exact ⟨false, fun h' => absurd h' h⟩
    obtain ⟨f, hf⟩ := Classical.skolem.1 each
    have hll : ((List.range len).map f).length = len := by simp
    refine ⟨some a, (List.range len).map f, cap, by rw [hll], ⟨fun h0 => ?_⟩, by rw [hll]; omega⟩
    rw [hll] at h0
    have c0 := hf 0 h0
    obtain ⟨b, off, spot⟩ := a
    have hs : spot = none := by simpa [Addr.add] using World.cell?_spot c0
    subst hs
    rw [add_none] at c0
    refine ⟨b, off, rfl, block_lt_of_cell c0, fun j x hx => ?_⟩
    simp only [List.getElem?_map, Option.map_eq_some_iff] at hx
    obtain ⟨j', hj', rfl⟩ := hx
    have hjl : j < len := by have := (List.getElem?_eq_some_iff.1 hj').1; simpa using this
    have : j' = j := by rw [List.getElem?_range hjl] at hj'; exact (Option.some.inj hj').symm
    subst this
    have := hf j' hjl
    rwa [add_none] at this

structure ActD where
  what : Int
  where_ : Int
  b : List Int
  m : List Int

/-- One act's cells. -/
def ActAt (w : World) (g o : Nat) (a : ActD) : Prop :=
  (-9223372036854775808 ≤ a.what ∧ a.what ≤ 9223372036854775807) ∧ (-9223372036854775808 ≤ a.where_ ∧ a.where_ ≤ 9223372036854775807) ∧
  w.cell? ⟨g, o, none⟩ = some (.int .i64 a.what) ∧ w.cell? ⟨g, o + 1, none⟩ = some (.int .i64 a.where_) ∧
  (∃ A c, w.cell? ⟨g, o + 2, none⟩ = some (.slice A a.b.length c) ∧ Byt w A a.b ∧ a.b.length ≤ maxLen) ∧ (∃ A c, w.cell? ⟨g, o + 3, none⟩ = some (.slice A a.m.length c) ∧ Byt w A a.m ∧ a.m.length ≤ maxLen)

/-- The slice at A holds these acts. -/
def Acts (w : World) (A : Option Addr) (l : List ActD) : Prop := ∀ i, (h : i < l.length) → ∃ g off, A = some ⟨g, off, none⟩ ∧ g < w.heap.size ∧ ActAt w g (off + i * 4) l[i]

theorem act_fields : ∃ f0 f1 f2 f3 : Field, Try.prog.underlying 28 = some (.struct #[f0, f1, f2, f3]) ∧ f0.type = 3 ∧ f1.type = 3 ∧ f2.type = 26 ∧ f3.type = 26 ∧ f0.offset = 0 ∧ f1.offset = 1 ∧ f2.offset = 2 ∧ f3.offset = 3 :=
  ⟨_, _, _, _, Try.underlying28, rfl, rfl, rfl, rfl, rfl, rfl, rfl, rfl⟩

theorem trod_act {fuel : Nat} {cs : List Value} {x : DataW H × List MemPlace} (h : DataW.trod enc Try.prog w base spare held fuel 28 cs = some x) {g o : Nat} (hc : ∀ j v, cs[j]? = some v → w.cell? ⟨g, o + j, none⟩ = some v) :
    ∃ a : ActD, ActAt w g o a := by
  obtain ⟨f0, f1, f2, f3, hu, t0, t1, t2, t3, o0, o1, o2, o3⟩ := act_fields
  obtain ⟨xs, n, _, _, hlen, hxl, hf⟩ := DataW.trod_struct hu h
  have hC : Try.prog.cellsOf 28 = 4 := by kernel_rfl
  rw [hC] at hlen
  have k3 : Try.prog.cellsOf 3 = 1 := by kernel_rfl
  have k26 : Try.prog.cellsOf 26 = 1 := by kernel_rfl
  match cs, hlen with
  | [c0, c1, c2, c3], _ =>
    match xs, hxl with
    | [y0, y1, y2, y3], _ =>
      have h0 := hf 0 f0 rfl
      have h1 := hf 1 f1 rfl
      have h2 := hf 2 f2 rfl
      have h3 := hf 3 f3 rfl
      rw [t0, o0, k3] at h0
      rw [t1, o1, k3] at h1
      rw [t2, o2, k26] at h2
      rw [t3, o3, k26] at h3
      obtain ⟨a, e0, _, wa⟩ := DataW.trod_int Try.underlying3 h0
      obtain ⟨b, e1, _, wb⟩ := DataW.trod_int Try.underlying3 h1
      obtain ⟨A2, l2, n2, e2, hb2, hm2⟩ := trod_bytes h2
      obtain ⟨A3, l3, n3, e3, hb3, hm3⟩ := trod_bytes h3
      simp at e0 e1 e2 e3
      subst e0 e1 e2 e3
      exact ⟨⟨a, b, l2, l3⟩, bounds_i64 wa, bounds_i64 wb, hc 0 _ rfl, hc 1 _ rfl, ⟨_, _, hc 2 _ rfl, hb2, hm2⟩, ⟨_, _, hc 3 _ rfl, hb3, hm3⟩⟩

theorem trod_acts {fuel : Nat} {cs : List Value} {x : DataW H × List MemPlace} (h : DataW.trod enc Try.prog w base spare held fuel 22 cs = some x) :
    ∃ A l c, cs = [.slice A l.length c] ∧ Acts w A l ∧ l.length ≤ maxLen := by
  rcases open_slice Try.underlying22 h with ⟨rfl, _⟩ | ⟨a, len, cap, m, n, D, Pl, rfl, _, hl, hm, hmm, _, hi⟩
  · exact ⟨none, [], 0, rfl, fun i h => absurd h (by simp), by simp⟩
  · have hml : len ≤ m := by rw [hmm]; split <;> omega
    have hC : Try.prog.cellsOf 28 = 4 := by kernel_rfl
    obtain ⟨b, off, spot⟩ := a
    have hspot : 0 < len → spot = none ∧ b < w.heap.size := by
      intro h0
      obtain ⟨cs', hc, ht⟩ := hi 0 (by omega)
      rw [hC] at hc
      obtain ⟨_, hcl, hat⟩ := World.cells?_some hc
      have := hat 0 (by omega)
      rw [List.getElem?_eq_getElem (by omega)] at this
      have hs : spot = none := by simpa [Addr.add] using World.cell?_spot this
      subst hs
      refine ⟨rfl, ?_⟩
      rw [add_none, add_none] at this
      exact block_lt_of_cell this
    have each : ∀ i, ∃ a : ActD, i < len → ActAt w b (off + i * 4) a := by
      intro i
      by_cases h : i < len
      · obtain ⟨rfl, hbl⟩ := hspot (by omega)
        obtain ⟨cs', hc, ht⟩ := hi i (by omega)
        rw [hC] at hc
        obtain ⟨_, hcl, hat⟩ := World.cells?_some hc
        obtain ⟨a, ha⟩ := trod_act (g := b) (o := off + i * 4) ht (fun j v hv => by
          have hj : j < 4 := by have := (List.getElem?_eq_some_iff.1 hv).1; omega
          have := hat j hj
          rw [add_none, add_none, hv] at this
          exact this)
        exact ⟨a, fun _ => ha⟩
      · exact ⟨⟨0, 0, [], []⟩, fun h' => absurd h' h⟩
    obtain ⟨f, hf⟩ := Classical.skolem.1 each
    have hll : ((List.range len).map f).length = len := by simp
    refine ⟨some ⟨b, off, spot⟩, (List.range len).map f, cap, by rw [hll], fun i h0 => ?_, by rw [hll]; omega⟩
    rw [hll] at h0
    obtain ⟨rfl, hbl⟩ := hspot (by omega)
    refine ⟨b, off, rfl, hbl, ?_⟩
    have := hf i h0
    simpa using this
end

end Go.Proofs.Ytohadeijmmmcdaa
