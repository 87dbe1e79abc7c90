/-
  append(b, make([]byte, k)...).
-/
import Derived.Test.YtohadeijmmmcdaaDoorClone
import Derived.Lib.AppendZerosOnto
namespace Go.Proofs.YtohadeijmmmcdaaDoor
open Go.RowKit
set_option maxRecDepth 100000

theorem zc_bys (k : Nat) : (Builtin.zeroCells (Value.int .u8 0).cells k).toList = bys (List.replicate k 0) := by
  have h := size_zeroCells (Value.int .u8 0).cells k
  apply List.ext_getElem
  · rw [Array.length_toList, h, bys_length]
    simp [Value.cells]
  · intro i h1 h2
    have hi : i < k := by simpa [bys_length] using h2
    simp [Builtin.zeroCells, bys, Value.cells, Nat.mod_one]

/-- An append of k zeros. -/
theorem app8_zeros {ty : TypeId} {B : Nat} {w : World} {v : Value} {l : List Int} (k : Nat) (h : Own8 B w v l) (hlen : l.length + k ≤ 1000000000) (hB : B ≤ w.heap.size) :
    ∃ v' w', (APs #[22, 3] ty #[v, .int .i64 (k : Int)]).run Tryd.prog w = .ok v' w' ∧ Own8 B w' v' (l ++ List.replicate k 0) ∧ Fr (fun j => v.ownBlock = some j) w w' ∧ Foot w v v' := by
  obtain ⟨i0, hi, hh⟩ := Option.map_eq_some_iff.1 izb5
  simp only [Prod.mk.injEq] at hh
  obtain ⟨hz0, hz1, hz2⟩ := hh
  have hw : IntKind.i64.wrap (k : Int) = k := by rw [IntKind.wrap_i64]; omega
  have hw0 : IntKind.i64.wrap (0 : Int) = 0 := by decide
  have hneg : ¬ ((k : Int) < 0) := by omega
  have h48 : ¬ (281474976710656 < (k : Int)) := by omega
  obtain ⟨hl, ⟨rfl, hn⟩ | ⟨g, cap, cur, rfl, hg, hb, hnc, hcm, hcs, ht⟩⟩ := h
  · have e : l = [] := List.length_eq_zero_iff.1 hn
    subst e
    by_cases h0 : k = 0
    · subst h0
      refine ⟨.slice none 0 0, w, ?_, by simpa using Own8.nil B w, Fr.refl _ _, Foot.refl _ _⟩
      simp [APs, Builtin.append_, run_underlying u22, run_underlying uI3, sizeOf, typeInfo, hi, hz2, asInt, asIntOf, hw0]
    · have hr := Lib.run_append_nil_zeros (P := Tryd.prog) w 22 3 ty 5 i0 (.int .u8 0) .i64 .i64 u22 uI3 hi hz0 k (by omega) (by omega) (by omega) (by rw [hz2]; omega)
      have hge := grownCap_ge w k 0 5
      have hle := grownCap_le_maxLen w k 0 5 (by unfold maxLen; omega)
      refine ⟨_, _, hr, ⟨by simp [bys_length], .inr ⟨w.heap.size, _, _, by simp, hB, (Blk.new w.drew _ _), by simpa using hge, hle, ?_, ?_⟩⟩, (Fr.refl _ w).drew.alloc _, ?_⟩
      · simp [size_zeroCells, Value.cells]; omega
      · rw [Array.toList_append, zc_bys]
        simp [bys_length]
      · intro j hj
        right
        cases hj
        exact Nat.le_refl _
  · have hxs : (bys l).length = l.length := bys_length l
    by_cases hroom : l.length + k ≤ cap
    · have hst := run_storeCells_at (P := Tryd.prog) g l.length 5 (bys (List.replicate k 0)) 0 cur w hb (by simp [bys_length]; omega) (bys_one _)
      simp only [Nat.add_zero] at hst
      refine ⟨.slice (some ⟨g, 0, none⟩) (l.length + k) cap, w.setRow g (cur.toList.take l.length ++ bys (List.replicate k 0) ++ cur.toList.drop (l.length + (bys (List.replicate k 0)).length)).toArray, ?_, ?_, (Fr.refl (fun j => (Value.slice (some ⟨g, 0, none⟩) l.length cap).ownBlock = some j) w).setRow (fun _ => rfl) _, fun j hj => .inl hj⟩
      · by_cases h0 : k = 0
        · subst h0
          have e : ((cur.toList.take l.length ++ bys (List.replicate 0 0) ++ cur.toList.drop (l.length + (bys (List.replicate 0 0)).length)).toArray) = cur := by simp [bys]
          rw [e]
          rw [e] at hst
          simp only [List.replicate_zero] at hst
          have hs0 : (storeCells ⟨g, l.length, none⟩ ([] : List Value) 0).run Tryd.prog w = .ok () (w.setRow g cur) := by simpa [bys] using hst
          simp [APs, Builtin.append_, run_underlying u22, run_underlying uI3, sizeOf, typeInfo, hi, hz1, hz2, asInt, asIntOf, hw0, hnc, Addr.add_lit, hs0]
        · have hkk : ¬ k = 0 := h0
          simp [APs, Builtin.append_, run_underlying u22, run_underlying uI3, sizeOf, typeInfo, zeroValue, hi, hz0, hz1, hz2, asInt, asIntOf, hw, hneg, h48, hkk, hroom, Addr.add_lit, zc_bys, hst]
      · refine ⟨by simp [bys_length], .inr ⟨g, cap, _, by simp, hg, setRow_heap w g cur _ _ _ hb, by simpa using hroom, hcm, ?_, ?_⟩⟩
        · simp [bys_length]; omega
        · have e1 : (cur.toList.take l.length) = bys l := by simpa using ht
          rw [e1, bys_app]
          have e2 : (bys l ++ bys (List.replicate k 0)).length = (l ++ List.replicate k 0).length * 1 := by simp [bys_length]
          show ((bys l ++ bys (List.replicate k 0)) ++ _).take _ = _
          rw [← e2, List.take_left]
    · have hfc := run_firstCells_some (P := Tryd.prog) (w := w.drew) 1 l.length ⟨g, 0, none⟩ l.length cap (bys l) (by simp [bys_length]) (fun j u hu => World.ownsRow.cells (w := w) (base := B) (v := .slice (some ⟨g, 0, none⟩) l.length cap) (g := g) ⟨hl, .inr ⟨g, cap, cur, rfl, hg, hb, hnc, hcm, hcs, ht⟩⟩ rfl j u hu)
      have hr := Lib.run_append_grow_zeros (P := Tryd.prog) w 22 3 ty 5 i0 (.int .u8 0) .i64 .i64 u22 uI3 hi hz0 (some ⟨g, 0, none⟩) l.length cap (bys l) (by rw [hz1]; exact hfc) k (by omega) (by omega) (by omega) (by omega) (by rw [hz2]; omega) (by rw [hz2]; exact growslice_fits (by omega) (by omega))
      have hge := grownCap_ge w (l.length + k) cap 5
      have hle := grownCap_le_maxLen w (l.length + k) cap 5 (by unfold maxLen; omega)
      refine ⟨_, _, hr, ⟨by simp [bys_length], .inr ⟨w.heap.size, _, _, by simp, hB, (Blk.new w.drew _ _), by simpa using hge, hle, ?_, ?_⟩⟩, (Fr.refl _ w).drew.alloc _, ?_⟩
      · simp [size_zeroCells, Value.cells, bys_length]; omega
      · rw [Array.toList_append, Array.toList_append, zc_bys, bys_app]
        have e2 : (bys l ++ bys (List.replicate k 0)).length = (l ++ List.replicate k 0).length * 1 := by simp [bys_length]
        rw [← e2]
        exact List.take_left
      · intro j hj
        right
        cases hj
        exact Nat.le_refl _

end Go.Proofs.YtohadeijmmmcdaaDoor
