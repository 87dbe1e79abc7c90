/-
  Numbers, rising, each once: what a sort and a compaction leave is what the document says. Plain.
-/
import Derived.Test.YtmflhidmhefljaaDoorTxP
import Derived.Lib.SlicesCompact
namespace Go.Proofs.YtmflhidmhefljaaDoor
open Go.RowKit Go.Shelf

theorem eq_of_rising : ∀ (a b : List Int), a.Pairwise (· < ·) → b.Pairwise (· < ·) → (∀ x, x ∈ a ↔ x ∈ b) → a = b
  | [], [], _, _, _ => rfl
  | [], y :: b, _, _, h => absurd ((h y).2 (by simp)) (by simp)
  | x :: a, [], _, _, h => absurd ((h x).1 (by simp)) (by simp)
  | x :: a, y :: b, ha, hb, h => by
    obtain ⟨ha1, ha2⟩ := List.pairwise_cons.1 ha
    obtain ⟨hb1, hb2⟩ := List.pairwise_cons.1 hb
    have hxy : x = y := by
      have h1 := (h x).1 (by simp)
      have h2 := (h y).2 (by simp)
      rcases List.mem_cons.1 h1 with e | e
      · exact e
      · rcases List.mem_cons.1 h2 with e' | e'
        · exact e'.symm
        · have := hb1 x e
          have := ha1 y e'
          omega
    subst hxy
    rw [eq_of_rising a b ha2 hb2 (fun z => by
      have hz := h z
      simp only [List.mem_cons] at hz
      constructor
      · intro m
        rcases hz.1 (.inr m) with e | e
        · subst e; have := ha1 z m; omega
        · exact e
      · intro m
        rcases hz.2 (.inr m) with e | e
        · subst e; have := hb1 z m; omega
        · exact e)]

theorem compactUpTo_mem (d : Array Int) (x : Int) : ∀ m, x ∈ Lib.compactUpTo d m ↔ ∃ j, j < m ∧ d[j]! = x
  | 0 => by simp [Lib.compactUpTo]
  | m + 1 => by
    rw [Lib.compactUpTo_succ, List.mem_append, compactUpTo_mem d x m]
    constructor
    · rintro (⟨j, hj, e⟩ | h)
      · exact ⟨j, by omega, e⟩
      · split at h
        · exact ⟨m, by omega, (by simpa using h : x = d[m]!).symm⟩
        · simp at h
    · rintro ⟨j, hj, e⟩
      by_cases hm : j < m
      · exact .inl ⟨j, hm, e⟩
      · obtain rfl : j = m := by omega
        by_cases hk : Lib.keeps d j = true
        · exact .inr (by simp [hk, e])
        · have hk' : ¬ (j = 0 ∨ d[j]! ≠ d[j - 1]!) := by simpa [Lib.keeps] using hk
          have h0 : j ≠ 0 := fun e => hk' (.inl e)
          have h1 : d[j]! = d[j - 1]! := by
            by_cases e : d[j]! = d[j - 1]!
            · exact e
            · exact absurd (.inr e) hk'
          exact .inl ⟨j - 1, by omega, by rw [← h1, e]⟩

theorem compactUpTo_rise (d : Array Int) (h : ∀ i j, i ≤ j → j < d.size → d[i]! ≤ d[j]!) : ∀ m, m ≤ d.size → (Lib.compactUpTo d m).Pairwise (· < ·)
  | 0, _ => by simp [Lib.compactUpTo]
  | m + 1, hm => by
    rw [Lib.compactUpTo_succ, List.pairwise_append]
    refine ⟨compactUpTo_rise d h m (by omega), by split <;> simp, fun a ha b hb => ?_⟩
    split at hb
    · rename_i hk
      obtain rfl : b = d[m]! := by simpa using hb
      obtain ⟨j, hj, rfl⟩ := (compactUpTo_mem d a m).1 ha
      have hk' : m = 0 ∨ d[m]! ≠ d[m - 1]! := by simpa [Lib.keeps] using hk
      have h1 := h j (m - 1) (by omega) (by omega)
      have h2 := h (m - 1) m (by omega) (by omega)
      have h3 : d[m]! ≠ d[m - 1]! := hk'.resolve_left (by omega)
      omega
    · simp at hb

theorem compact_sorted {l : List Int} (h : l.Pairwise (· ≤ ·)) : (Lib.compact l).Pairwise (· < ·) := by
  refine compactUpTo_rise l.toArray (fun i j hij hj => ?_) l.length (by simp)
  have hj' : j < l.length := by simpa using hj
  by_cases e : i = j
  · subst e; exact Int.le_refl _
  · have := List.pairwise_iff_getElem.1 h i j (by omega) hj' (by omega)
    simpa [getElem!_pos, hj', show i < l.length by omega] using this
theorem compact_mem {l : List Int} (x : Int) : x ∈ Lib.compact l ↔ x ∈ l := by
  unfold Lib.compact
  rw [compactUpTo_mem, List.mem_iff_getElem]
  constructor
  · rintro ⟨j, hj, e⟩
    exact ⟨j, hj, by simpa [getElem!_pos, hj] using e⟩
  · rintro ⟨j, hj, e⟩
    exact ⟨j, hj, by simpa [getElem!_pos, hj] using e⟩

theorem eachP_rise (l : List Int) : (eachP l).Pairwise (· < ·) := by
  unfold eachP
  refine List.Pairwise.filter _ ?_
  rw [List.pairwise_map]
  exact List.pairwise_lt_range.imp (fun {a b} h => by omega)
theorem eachP_mem (l : List Int) (x : Int) : x ∈ eachP l ↔ x ∈ l ∧ 0 ≤ x ∧ x < 64 := by
  unfold eachP
  simp only [List.mem_filter, List.mem_map, List.mem_range, List.contains_iff_mem]
  constructor
  · rintro ⟨⟨k, hk, rfl⟩, h⟩
    exact ⟨h, by omega, by omega⟩
  · rintro ⟨h, h0, h1⟩
    exact ⟨⟨x.toNat, by omega, by omega⟩, h⟩

/-- What is sorted and compacted is each number once, rising. -/
theorem each_eq {l : List Int} (h : ∀ x ∈ l, 0 ≤ x ∧ x < 64) : Lib.compact (l.mergeSort fun x y => decide (x ≤ y)) = eachP l := by
  have hs : (l.mergeSort fun x y => decide (x ≤ y)).Pairwise (· ≤ ·) :=
    (List.pairwise_mergeSort (le := fun (x y : Int) => decide (x ≤ y)) (fun a b c h1 h2 => by simp at *; omega) (fun a b => by simp; omega) l).imp (fun {a b} h => by simpa using h)
  refine eq_of_rising _ _ (compact_sorted hs) (eachP_rise l) (fun x => ?_)
  rw [compact_mem, eachP_mem, List.mem_mergeSort]
  constructor
  · intro hx
    exact ⟨hx, h x hx⟩
  · intro hx
    exact hx.1
theorem eachP_len (l : List Int) : (eachP l).length ≤ 64 := by
  unfold eachP
  exact Nat.le_trans (List.length_filter_le _ _) (by simp)
theorem eachP_nil : eachP [] = [] := by
  unfold eachP
  simp

theorem placesP_mem (l : List Int) (v x : Int) : x ∈ placesP l v ↔ ∃ i : Nat, x = (i : Int) ∧ l[i]? = some v := by
  unfold placesP
  simp only [List.mem_map, List.mem_filter, List.mem_range, beq_iff_eq]
  constructor
  · rintro ⟨i, ⟨hi, h⟩, rfl⟩
    exact ⟨i, rfl, by rw [← h]; simp [List.getD, hi]⟩
  · rintro ⟨i, rfl, h⟩
    obtain ⟨hi, e⟩ := List.getElem?_eq_some_iff.1 h
    exact ⟨i, ⟨hi, by simp [List.getD, hi, e]⟩, rfl⟩
theorem placesP_nil (v : Int) : placesP [] v = [] := rfl
theorem placesP_snoc (l : List Int) (x v : Int) : placesP (l ++ [x]) v = placesP l v ++ (if x = v then [(l.length : Int)] else []) := by
  unfold placesP
  rw [List.length_append, List.length_singleton, List.range_succ, List.filter_append, List.map_append]
  congr 1
  · congr 1
    refine List.filter_congr (fun i hi => ?_)
    have := List.mem_range.1 hi
    simp [List.getD, List.getElem?_append_left this]
  · by_cases h : x = v
    · subst h; simp
    · simp [h]
theorem placesP_len (l : List Int) (v : Int) : (placesP l v).length ≤ l.length := by
  unfold placesP
  rw [List.length_map]
  exact Nat.le_trans (List.length_filter_le _ _) (by simp)
theorem placesP_pos (l : List Int) (v : Int) : 0 < (placesP l v).length ↔ v ∈ l := by
  rw [List.length_pos_iff_exists_mem]
  constructor
  · rintro ⟨x, hx⟩
    obtain ⟨i, _, h⟩ := (placesP_mem l v x).1 hx
    exact List.mem_of_getElem? h
  · intro h
    obtain ⟨i, h⟩ := List.getElem?_of_mem h
    exact ⟨(i : Int), (placesP_mem l v _).2 ⟨i, rfl, h⟩⟩
end Go.Proofs.YtmflhidmhefljaaDoor
