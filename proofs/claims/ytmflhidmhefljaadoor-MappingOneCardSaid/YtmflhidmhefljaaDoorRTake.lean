/-
  The document's next field: a number, a text.
-/
import Derived.Test.YtmflhidmhefljaaDoorRNum
import Derived.Test.YtmflhidmhefljaaDoorEye
import Derived.Test.YtmflhidmhefljaaDoorTxtO
import Derived.Deep.CutRange
namespace Go.Proofs.YtmflhidmhefljaaDoor
open Go.RowKit
set_option maxRecDepth 100000

/-! ### Fields, and what was read, as values -/
def fldL (k n : Int) (b : Value) : List Value := [.int .i64 k, .int .u64 n, b] ++ List.replicate 32 (.int .u8 0)
def gotL (k n : Int) (b : Value) (e : Int) (left : Value) : List Value := fldL k n b ++ [.int .i64 e, left]
theorem fldL_len (k n : Int) (b : Value) : (fldL k n b).length = 35 := by simp [fldL]
theorem gotL_len (k n : Int) (b : Value) (e : Int) (left : Value) : (gotL k n b e left).length = 37 := by simp [gotL, fldL]
theorem gotL_one (k n : Int) (B : Option Addr) (j d : Nat) (e : Int) (A : Option Addr) (m c : Nat) : ∀ v ∈ gotL k n (.slice B j d) e (.slice A m c), v.oneCell' = true := by
  intro v hv
  simp only [gotL, fldL, List.mem_append, List.mem_cons, List.mem_replicate, List.mem_nil_iff, or_false] at hv
  rcases hv with (((rfl | rfl | rfl) | ⟨_, rfl⟩) | rfl | rfl) <;> rfl

/-- A part of a slice, by numbers of whatever kind. -/
theorem part8u {w : World} {A : Option Addr} {L : List Int} (hb : Byt w A L) (c l h : Nat) (vl vh : Option Value) (hl : l ≤ h) (hh : h ≤ L.length) (hc : L.length ≤ c)
    (el : (vl = none ∧ l = 0) ∨ ∃ k x, vl = some (.int k x) ∧ x = l) (eh : (vh = none ∧ h = L.length) ∨ ∃ k x, vh = some (.int k x) ∧ x = h) :
    ∃ A', (∀ W : World, (SLs 51 (.slice A L.length c) vl vh none).run Tryd.prog W = .ok (.slice A' (h - l) (c - l)) W) ∧ Byt w A' ((L.drop l).take (h - l)) ∧ (∀ a, A' = some a → ∃ b, A = some b ∧ a.block = b.block) ∧ (A' = none → A = none) := by
  obtain ⟨i, hq, hi⟩ := Option.map_eq_some_iff.1 i5
  refine ⟨if c = l then A else A.map (·.add l), fun W => ?_, ⟨fun h0 => ?_, fun x hx => hb.bd x (List.mem_of_mem_drop (List.mem_of_mem_take hx))⟩, ?_, ?_⟩
  · have hm : h ≤ c := by omega
    have e1 : ¬ ((h : Int) < 0 ∨ (L.length : Int) < (h : Int)) := by omega
    have b1 : ((0 : Int) ≤ (h : Int) ∧ (h : Int) ≤ (c : Int)) := by omega
    have b2 : ((0 : Int) ≤ (l : Int) ∧ (l : Int) ≤ (h : Int)) := by omega
    rcases el with ⟨rfl, rfl⟩ | ⟨k, x, rfl, rfl⟩ <;> rcases eh with ⟨rfl, rfl⟩ | ⟨k', y, rfl, rfl⟩ <;>
      (simp [SLs, Instr.sliceAt, Instr.slice, Instr.sliceBounds, Instr.sliceBound, asIntOf, run_underlying u22, sizeOf, typeInfo, hq, hi, hl, hm])
  · have hlen : 0 < ((L.drop l).take (h - l)).length := h0
    simp only [List.length_take, List.length_drop] at hlen
    obtain ⟨g, o, rfl, hg, hc'⟩ := hb.cell (by omega)
    have hadd : (⟨g, o, none⟩ : Addr).add l = ⟨g, o + l, none⟩ := by unfold Addr.add; split <;> simp_all
    refine ⟨g, o + l, ?_, hg, fun j x hx => ?_⟩
    · rw [if_neg (by omega)]
      simp [hadd]
    · rw [List.getElem?_take] at hx
      split at hx
      · rw [List.getElem?_drop] at hx
        rw [Nat.add_assoc]
        exact hc' _ x hx
      · cases hx
  · intro a e
    split at e
    · exact ⟨a, e, rfl⟩
    · obtain ⟨b, hb1, rfl⟩ := Option.map_eq_some_iff.1 e
      exact ⟨b, hb1, by unfold Addr.add; split <;> simp_all⟩
  · intro e
    split at e
    · exact e
    · simpa using e

/-- What is behind the taking of a field. -/
def TakeErr (e : Ending) : Prop := ∃ x : Int, (x != 0) = true ∧ (x == 0) = false ∧ e = .returned (.agg (gotL 0 0 (.slice none 0 0) x (.slice none 0 0)).toArray)
/-- A part of the slice A, c. -/
structure Part8 (w : World) (A : Option Addr) (A' : Option Addr) (c' : Nat) (l : List Int) : Prop where
  byt : Byt w A' l
  blk : ∀ a, A' = some a → ∃ b, A = some b ∧ a.block = b.block
  cap : l.length ≤ c'
  nul : A' = none → c' = 0
def TakeNum (w : World) (A : Option Addr) (v : Nat) (r : List Int) (e : Ending) : Prop :=
  ∃ A' c', e = .returned (.agg (gotL 0 v (.slice none 0 0) 0 (.slice A' r.length c')).toArray) ∧ Part8 w A A' c' r
def TakeText (w : World) (A : Option Addr) (t r : List Int) (e : Ending) : Prop :=
  ∃ B d A' c', e = .returned (.agg (gotL 1 0 (.slice B t.length d) 0 (.slice A' r.length c')).toArray) ∧ Part8 w A B d t ∧ Part8 w A A' c' r
def TakePost (w : World) (A : Option Addr) (kd : Int) (R : Option (Nat × List Int)) (e : Ending) : Prop :=
  match R with
  | none => TakeErr e
  | some (v, r) => if kd = 0 then TakeNum w A v r e else if r.length < v then TakeErr e else TakeText w A (r.take v) (r.drop v) e

section
attribute [local go_sem ↓] sle_of
end

end Go.Proofs.YtmflhidmhefljaaDoor
