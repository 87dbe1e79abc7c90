/-
  mapping.each: sorted, each number once.
-/
import Derived.Test.YtmflhidmhefljaaDoorEach
import Derived.Test.YtmflhidmhefljaaDoorOwnW
import Derived.Test.YtmflhidmhefljaaDoorShelf
import Derived.Shelf.Slices.In.SortNone
import Derived.Lib.RowBridge
namespace Go.Proofs.YtmflhidmhefljaaDoor
open Go.RowKit Go.Shelf Go.Sort
set_option maxRecDepth 100000

/-- A row of numbers of one's own. -/
def OwnI (B : Nat) (w : World) (v : Value) (l : List Int) : Prop := OwnW 3 .i64 B w v l

theorem fr_putRow {α : Type} [Inhabited α] (enc : α → Value) (w : World) (blk off : Nat) (d : Array α) : Fr (fun k => k = blk) w (putRow enc w blk off d) :=
  ⟨rfl, rfl, rfl, by simp [putRow, mapBlock], fun k hk hne => by
    have : blk ≠ k := fun e => hne e.symm
    simp [putRow, mapBlock, Array.getElem?_modify, this]⟩
theorem fr_ahead {F : Nat → Prop} {w w' : World} (h : Fr F w w') (n : Nat) : Fr F w (Sort.ahead w' n) := ⟨h.os, h.tape, h.output, h.size, h.block⟩
theorem fr_ahead' {F : Nat → Prop} {w w' : World} {n : Nat} (h : Fr F (Sort.ahead w n) w') : Fr F w w' := ⟨h.os, h.tape, h.output, h.size, h.block⟩
theorem fr_grow {F : Nat → Prop} {w w' : World} (h : Fr F w w') (os : Array Obj) : Fr F w (grow w' os) :=
  ⟨h.os, h.tape, h.output, by have := h.size; simp [grow]; omega, fun k hk hn => by
    rw [heap_grow_old w' os (Nat.lt_of_lt_of_le hk h.size)]
    exact h.block k hk hn⟩

theorem each_any (B : Nat) (A : Option Addr) (N c : Nat) (l : List Int) (w : World) (h : OwnI B w (.slice A N c) l) (hb : ∀ x ∈ l, 0 ≤ x ∧ x < 64) (hl : l.length ≤ 1000000) :
    Calls Tryd.prog 28 #[.slice A N c] w fun e w' => ∃ A' c', e = .returned (.slice A' (eachP l).length c') ∧ RdW .i64 w' A' (eachP l) ∧ Fr (fun k => (Value.slice A N c).ownBlock = some k) w w' := by
  rcases Nat.eq_zero_or_pos l.length with h0 | h0
  · obtain rfl : l = [] := List.length_eq_zero_iff.1 h0
    obtain ⟨A2, c2, e⟩ := h.form
    simp only [Value.slice.injEq, List.length_nil] at e
    obtain ⟨rfl, rfl, rfl⟩ := e
    have s1 := Any.slices_Sort_int_none Tryd.laysSo A c w
    have s2 := Any.slices_Compact_int_empty Tryd.laysCo A c w
    rw [eachP_nil]
    clear h h0 hb
    have s1' : Calls Tryd.prog 39 #[.slice A 0 c] w fun e w' => e = .returned (.tuple #[]) ∧ w' = w := s1
    have s2' : Calls Tryd.prog 40 #[.slice A 0 c] w fun e w' => e = .returned (.slice A 0 c) ∧ w' = w := s2
    clear s1 s2
    go_enter Tryd.func28, Tryd.ntmps28
    go_wp2_with fail
    with_reducible refine s1'.mono ?_
    rintro e w' ⟨rfl, rfl⟩
    go_wp2_with fail
    with_reducible refine s2'.mono ?_
    rintro e w' ⟨rfl, rfl⟩
    go_wp2_with fail
    go_ret
    exact ⟨_, _, rfl, RdW.nil _ _ _, Fr.refl _ _⟩
  · obtain ⟨g, cap, e, hcap, hBg, hg, hcell⟩ := h.cells h0
    simp only [Value.slice.injEq] at e
    obtain ⟨rfl, rfl, rfl⟩ := e
    have hH : Holds (Value.int .i64) w g 0 l.toArray := fun j hj => by
      have hj' : j < l.length := by simpa using hj
      obtain ⟨e1, e2⟩ := hcell j hj'
      rw [Nat.zero_add]
      exact ⟨by rw [e1]; simp [getElem!_pos, hj', List.getD], e2⟩
    have s1 : Calls Tryd.prog 39 #[.slice (some ⟨g, 0, none⟩) l.length c] w fun e w' => e = .returned (.tuple #[]) ∧ ∃ n os, w' = grow (putRow (Value.int .i64) (Sort.ahead w n) g 0 (l.mergeSort fun x y => decide (x ≤ y)).toArray) os :=
      Any.slices_Sort_int Tryd.laysSo g 0 c l w hH hg (by omega)
    obtain ⟨m, hm⟩ : ∃ m, (l.mergeSort fun x y => decide (x ≤ y)) = m := ⟨_, rfl⟩
    have hml : m.length = l.length := by rw [← hm]; exact List.length_mergeSort l
    have hec := each_eq hb
    rw [hm] at s1 hec
    have s2 : ∀ w1, Holds (Value.int .i64) w1 g 0 m.toArray → Calls Tryd.prog 40 #[.slice (some ⟨g, 0, none⟩) l.length c] w1 fun e w' => e = .returned (.slice (some ⟨g, 0, none⟩) (eachP l).length c) ∧ ∃ q, w' = putRow (Value.int .i64) (Sort.ahead w1 q) g 0 (eachP l ++ List.replicate (l.length - (eachP l).length) 0).toArray := fun w1 hH1 => by
      have := Any.slices_Compact_int Tryd.laysCo g 0 c m w1 hH1 (by omega) (by omega)
      rw [hec, hml] at this
      exact this
    have hle : (eachP l).length ≤ l.length := by rw [← hec, ← hml]; exact Lib.compact_length_le m
    obtain ⟨n, hn⟩ : ∃ n, l.length = n := ⟨_, rfl⟩
    obtain ⟨E, hE⟩ : ∃ E, eachP l = E := ⟨_, rfl⟩
    rw [hE] at s2 hle ⊢
    rw [hn] at s1 s2 hle
    have HH := Lib.hid hH
    have HS2 := Lib.hid s2
    have HML := Lib.hid hml
    have HN := Lib.hid hn
    clear hH hcell h hb hm hec hml hE hcap s2 hn h0 hl
    rw [HN.out]
    go_enter Tryd.func28, Tryd.ntmps28
    go_wp2_with fail
    with_reducible refine s1.mono ?_
    rintro e w1 ⟨rfl, k, os, hw1⟩
    have hH1 : Holds (Value.int .i64) w1 g 0 m.toArray := by
      rw [hw1]
      refine holds_grow _ _ _ _ _ _ (by simpa [putRow, mapBlock] using hg) ?_
      exact holds_putRow _ _ _ _ l.toArray m.toArray (holds_ahead _ _ _ _ _ _ HH.out) (by simp [HML.out])
    have hf1 : Fr (fun j => j = g) w w1 := by
      rw [hw1]
      exact fr_grow (fr_ahead' (fr_putRow _ _ _ _ _)) os
    have hc2 := HS2.out w1 hH1
    have HH1 := Lib.hid hH1
    have HF1 := Lib.hid hf1
    clear hw1 hH1 hf1 s1
    go_wp2_with fail
    with_reducible refine hc2.mono ?_
    rintro e w2 ⟨rfl, q, hw2⟩
    have hf2 : Fr (fun j => j = g) w1 w2 := by
      rw [hw2]
      exact fr_ahead' (fr_putRow _ _ _ _ _)
    have hH2 : Holds (Value.int .i64) w2 g 0 (E ++ List.replicate (n - E.length) 0).toArray := by
      rw [hw2]
      exact holds_putRow _ _ _ _ m.toArray _ (holds_ahead _ _ _ _ _ _ HH1.out) (by have := HML.out; have := HN.out; simp; omega)
    have HH2 := Lib.hid hH2
    have HF2 := Lib.hid hf2
    clear hw2 hf2 hH2 hc2
    go_wp2_with fail
    go_ret
    refine ⟨_, _, rfl, fun _ => ⟨g, 0, rfl, Nat.lt_of_lt_of_le hg (Nat.le_trans HF1.out.size HF2.out.size), fun j x hx => ?_⟩, ?_⟩
    · obtain ⟨hj, hx⟩ := List.getElem?_eq_some_iff.1 hx
      have := (HH2.out j (by simp; omega)).1
      rw [this]
      have hj2 : j < (E ++ List.replicate (n - E.length) 0).length := by simp; omega
      have e : (E ++ List.replicate (n - E.length) 0).toArray[j]! = x := by
        rw [getElem!_pos _ _ (by simpa using hj2)]
        simp only [List.getElem_toArray]
        rw [List.getElem_append_left hj, hx]
      rw [e]
    · exact (HF1.out.trans HF2.out (fun k _ e => e)).mono (fun k _ e => by subst e; rfl)
end Go.Proofs.YtmflhidmhefljaaDoor
