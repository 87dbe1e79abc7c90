/-
  The document's digests: a word turned; a slice of words of one's own.
-/
import Derived.Test.YtohadeijmmmcdaaDoorRShaP
namespace Go.Proofs.YtohadeijmmmcdaaDoor
open Go.RowKit
set_option maxRecDepth 100000

theorem right_c (x n : Int) (hn : n = 2 ∨ n = 6 ∨ n = 7 ∨ n = 11 ∨ n = 13 ∨ n = 17 ∨ n = 18 ∨ n = 19 ∨ n = 22 ∨ n = 25) (w : World) :
    Calls Tryd.prog 106 #[.int .u32 x, .int .i64 n] w fun e w' => e = .returned (.int .u32 (rotQ x n.toNat)) ∧ ∃ k, w' = w.drewN k := by
  rcases hn with rfl | rfl | rfl | rfl | rfl | rfl | rfl | rfl | rfl | rfl
  all_goals
    go_enter Tryd.func106, Tryd.ntmps106
    go_wp2_with fail
    go_quiet (fail)
    go_wp2_with fail
    go_ret
    exact ⟨rfl, _, rfl⟩

/-! ### Slices of words of one's own -/
theorem u155 : Tryd.prog.underlying 155 = some (.slice 31) := by kernel_rfl
theorem i155 : (Tryd.prog.info? 31).map (fun i => (i.zero.map (·.cells.size), i.size, i.bytes)) = some (some 1, 1, 4) := by kernel_rfl
theorem apt155_of (xs : Array Value) (t : TypeId) : Builtin.append_ #[155, 155] t xs = APs #[155, 155] t xs := rfl
theorem apt22_of (xs : Array Value) (t : TypeId) : Builtin.append_ #[22, 22] t xs = APs #[22, 22] t xs := rfl

theorem own_nul (w : World) (e : TypeId) (base : Nat) (hb : base ≤ w.heap.size) : (w.alloc (.cells #[] e)).ownsRow base e 1 (.slice (some ⟨w.heap.size, 0, none⟩) 0 0) 0 [] :=
  ⟨by simp, .inr ⟨w.heap.size, 0, #[], rfl, hb, heap_alloc_new w _, Nat.le_refl _, by simp, by simp, by simp⟩⟩

/-- The slice v has the words l, in a row of one's own. -/
def Own32 (B : Nat) (w : World) (v : Value) (l : List Int) : Prop := w.ownsRow B 31 1 v l.length (w32s l)
section
variable {B : Nat} {w w' : World} {v : Value} {l : List Int}
theorem Own32.nil (B : Nat) (w : World) : Own32 B w (.slice none 0 0) [] := World.ownsRow_nil _ _ _ _
theorem Own32.fr {F : Nat → Prop} (h : Own32 B w v l) (hf : Fr F w w') (hn : ∀ k, v.ownBlock = some k → ¬ F k) : Own32 B w' v l := own_fr h hf hn
theorem Own32.below {n₀ : Nat} (h : Own32 B w v l) (hb : Below n₀ w w') (hn : ∀ k, v.ownBlock = some k → k < n₀) : Own32 B w' v l := h.fr (Fr.of_below hb) (fun k hk f => by have := hn k hk; omega)
theorem Own32.form (h : Own32 B w v l) : ∃ A c, v = .slice A l.length c := own_form h
theorem Own32.lt (h : Own32 B w v l) {k : Nat} (hk : v.ownBlock = some k) : B ≤ k ∧ k < w.heap.size := World.ownsRow.lt h k hk
/-- Where the words lie. -/
theorem Own32.cells (h : Own32 B w v l) (h0 : 0 < l.length) : ∃ g cap, v = .slice (some ⟨g, 0, none⟩) l.length cap ∧ B ≤ g ∧ g < w.heap.size ∧ ∀ i, i < l.length → w.cell? ⟨g, i, none⟩ = some (.int .u32 (l.getD i 0)) ∧ w.frozen? ⟨g, i, none⟩ = false := by
  obtain ⟨h1, ⟨_, h3⟩ | ⟨g, cap, cur, rfl, hg, hh, hl, hm, hs, ht⟩⟩ := h
  · omega
  · refine ⟨g, cap, rfl, hg, (Array.getElem?_eq_some_iff.1 hh).1, fun i hi => ⟨?_, frozen_of_row w g i cur _ hh⟩⟩
    rw [cell_of_row w g i cur _ (0, 0) hh]
    have e : (w32s l)[i]? = some (.int .u32 (l.getD i 0)) := by simp [w32s, List.getD, hi]
    rw [← ht, List.getElem?_take, if_pos (by omega), Array.getElem?_toList] at e
    exact e
/-- A word turned. -/
theorem Own32.put {g n cap : Nat} (h : Own32 B w (.slice (some ⟨g, 0, none⟩) n cap) l) (i : Nat) (_hi : i < l.length) (x : Int) : Own32 B (w.setCell ⟨g, i, none⟩ (.int .u32 x)) (.slice (some ⟨g, 0, none⟩) n cap) (l.set i x) := by
  refine ⟨by simp [w32s_len], ?_⟩
  rcases h.2 with ⟨h0, _⟩ | ⟨g', cap', cur, hv, hb, hh, hn, hm, hsz, ht⟩
  · cases h0
  · simp only [Value.slice.injEq, Option.some.injEq, Addr.mk.injEq, and_true] at hv
    obtain ⟨rfl, rfl, rfl⟩ := hv
    refine .inr ⟨g, cap, cur.setIfInBounds i (.int .u32 x), by simp, hb, heap_setCell_same w g i cur _ _ hh, by simpa using hn, hm, by simpa using hsz, ?_⟩
    rw [Nat.mul_one] at ht ⊢
    rw [List.length_set, Array.toList_setIfInBounds, List.take_set, ht]
    simp [w32s, List.map_set]
/-- An append of words, wherever they lie. -/
theorem app32 {ty : TypeId} (h : Own32 B w v l) {a : Addr} {m : List Int} {c : Nat} (hm : ∀ j x, m[j]? = some x → w.cell? (a.add j) = some (.int .u32 x)) (hlen : l.length + m.length ≤ 1000000000) (hB : B ≤ w.heap.size) :
    ∃ v' w', (APs #[155, 155] ty #[v, .slice (some a) m.length c]).run Tryd.prog w = .ok v' w' ∧ Own32 B w' v' (l ++ m) ∧ Fr (fun k => v.ownBlock = some k) w w' ∧ Foot w v v' := by
  obtain ⟨v', w', h1, h2, h3, h4⟩ := APs_own (P := Tryd.prog) (ty := ty) u155 i155 (by omega) h (a := a) (m := m.length) (c := c) (w32s m) (by simp [w32s_len]) (fun j u hu => by
    unfold w32s at hu
    rw [List.getElem?_map] at hu
    obtain ⟨x, hx, rfl⟩ := Option.map_eq_some_iff.1 hu
    exact hm j x hx) (w32s_one m) (by unfold maxLen; omega) (by omega) hB
  refine ⟨v', w', h1, ?_, (Fr.refl _ w).grown h3 (fun k _ e => e), ?_⟩
  · unfold Own32
    rw [show w32s (l ++ m) = w32s l ++ w32s m from by simp [w32s], List.length_append]
    exact h2
  · intro j hj
    rcases h4 with e | e
    · exact .inl (e ▸ hj)
    · right
      rw [e] at hj
      injection hj with hj
      omega
/-- One word more, which is laid in a block of its own ahead. -/
theorem app32_one {ty : TypeId} (h : Own32 B w v l) (x : Int) (hlen : l.length + 1 ≤ 1000000000) (hB : B ≤ w.heap.size) :
    ∃ v' w', (APs #[155, 155] ty #[v, .slice (some ⟨w.heap.size, 0, none⟩) 1 1]).run Tryd.prog (w.alloc (.cells #[.int .u32 x] 31)) = .ok v' w' ∧ Own32 B w' v' (l ++ [x]) ∧ Fr (fun k => v.ownBlock = some k) w w' ∧ Foot w v v' := by
  have hb : Blk (w.alloc (.cells #[.int .u32 x] 31)) w.heap.size 31 #[.int .u32 x] := Blk.new w _ _
  obtain ⟨v', w', h1, h2, h3, h4⟩ := app32 (ty := ty) (m := [x]) (c := 1) (a := ⟨w.heap.size, 0, none⟩) (w := w.alloc (.cells #[.int .u32 x] 31)) (World.ownsRow.alloc h _) (fun j y hy => by
    have hadd : (⟨w.heap.size, 0, none⟩ : Addr).add j = ⟨w.heap.size, j, none⟩ := by unfold Addr.add; split <;> simp_all
    rw [hadd, hb.cell j]
    have hj : j < [x].length := (List.getElem?_eq_some_iff.1 hy).1
    obtain rfl : j = 0 := by simpa using hj
    simp at hy
    subst hy
    rfl) (by simpa using hlen) (by simp; omega)
  refine ⟨v', w', h1, h2, ((Fr.refl _ w).alloc _).trans h3 (fun k _ e => e), ?_⟩
  intro j hj
  rcases h4 j hj with e | e
  · exact .inl e
  · right; simp at e; omega
/-- The same behind a draw. -/
theorem app32_oneD {ty : TypeId} (h : Own32 B w v l) (x : Int) (hlen : l.length + 1 ≤ 1000000000) (hB : B ≤ w.heap.size) (k : Nat) :
    ∃ v' w', (APs #[155, 155] ty #[v, .slice (some ⟨w.heap.size, 0, none⟩) 1 1]).run Tryd.prog ((w.alloc (.cells #[.int .u32 x] 31)).drewN k) = .ok v' w' ∧ Own32 B w' v' (l ++ [x]) ∧ Fr (fun k => v.ownBlock = some k) w w' ∧ Foot w v v' := by
  have hb : Blk (w.alloc (.cells #[.int .u32 x] 31)) w.heap.size 31 #[.int .u32 x] := Blk.new w _ _
  have h0 : Own32 B ((w.alloc (.cells #[.int .u32 x] 31)).drewN k) v l := World.ownsRow.alloc h _
  obtain ⟨v', w', h1, h2, h3, h4⟩ := app32 (ty := ty) (m := [x]) (c := 1) (a := ⟨w.heap.size, 0, none⟩) h0 (fun j y hy => by
    have hadd : (⟨w.heap.size, 0, none⟩ : Addr).add j = ⟨w.heap.size, j, none⟩ := by unfold Addr.add; split <;> simp_all
    rw [hadd, (hb.drewN k).cell j]
    have hj : j < [x].length := (List.getElem?_eq_some_iff.1 hy).1
    obtain rfl : j = 0 := by simpa using hj
    simp at hy
    subst hy
    rfl) (by simpa using hlen) (by simp [World.drewN]; omega)
  refine ⟨v', w', h1, h2, (((Fr.refl _ w).alloc _).drewN k).trans h3 (fun k _ e => e), ?_⟩
  intro j hj
  rcases h4 j hj with e | e
  · exact .inl e
  · right; simp [World.drewN] at e; omega
/-- A copy of words: append([]uint32{}, h...). -/
theorem copy32 {ty : TypeId} (w : World) {a : Addr} {m : List Int} {c : Nat} (hm : ∀ j x, m[j]? = some x → w.cell? (a.add j) = some (.int .u32 x)) (ha : 0 < m.length → a.block < w.heap.size) (hlen : m.length ≤ 1000000000) :
    ∃ v' w', (APs #[155, 155] ty #[.slice (some ⟨w.heap.size, 0, none⟩) 0 0, .slice (some a) m.length c]).run Tryd.prog (w.alloc (.cells #[] 31)) = .ok v' w' ∧ Own32 w.heap.size w' v' m ∧ Below w.heap.size w w' := by
  have h0 : Own32 w.heap.size (w.alloc (.cells #[] 31)) (.slice (some ⟨w.heap.size, 0, none⟩) 0 0) [] := own_nul w _ _ (Nat.le_refl _)
  obtain ⟨v', w', h1, h2, h3, h4⟩ := app32 (ty := ty) (a := a) (m := m) (c := c) h0 (fun j x hx => by
    have hj : j < m.length := (List.getElem?_eq_some_iff.1 hx).1
    have hab : (a.add j).block = a.block := by unfold Addr.add; split <;> rfl
    have := hm j x hx
    rw [← this]
    exact ((Below.refl _ w).alloc (Nat.le_refl _) _).cell (by rw [hab]; exact ha (by omega))) (by simpa using hlen) (by simp)
  refine ⟨v', w', h1, by simpa using h2, ?_⟩
  exact ((Below.refl _ w).alloc (Nat.le_refl _) _).trans (h3.below (by simp) (fun k hk e => by
    simp [Value.ownBlock] at e
    omega))
/-- Words laid in a block of their own. -/
theorem own32_lit (w : World) (l : List Int) (hB : B ≤ w.heap.size) (hl : l.length ≤ 1000000000) : Own32 B (w.alloc (.cells (w32s l).toArray 31)) (.slice (some ⟨w.heap.size, 0, none⟩) l.length l.length) l :=
  ⟨by simp [w32s_len], .inr ⟨w.heap.size, l.length, (w32s l).toArray, rfl, hB, heap_alloc_new w _, Nat.le_refl _, by unfold maxLen; omega, by simp [w32s_len], by simp [w32s_len, List.take_of_length_le]⟩⟩
end

end Go.Proofs.YtohadeijmmmcdaaDoor
