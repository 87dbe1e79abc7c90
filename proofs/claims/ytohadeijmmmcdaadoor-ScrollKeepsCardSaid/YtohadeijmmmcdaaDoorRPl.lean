/-
  The document's records, plainly: a number's bytes, and when there is no record.
-/
import Derived.Test.YtohadeijmmmcdaaDoorShaU
namespace Go.Proofs.YtohadeijmmmcdaaDoor
open Go.RowKit

theorem beN_snoc (v : Int) (k : Nat) : beN v (k + 1) = beN (v / 256) k ++ [IntKind.u8.wrap v] := by
  apply List.ext_getElem
  · simp [beN]
  · intro i h1 h2
    simp only [beN_len] at h1
    simp only [beN, List.getElem_map, List.getElem_range, List.getElem_append, List.length_map, List.length_range]
    by_cases hi : i < k
    · rw [dif_pos hi]
      congr 1
      rw [Int.ediv_ediv_of_nonneg (by decide), show (256 : Int) = 2 ^ 8 from rfl, ← Int.pow_add]
      congr 2
      omega
    · obtain rfl : i = k := by omega
      rw [dif_neg hi]
      simp
theorem beN_be (n : Nat) : beN (n : Int) (leP n).length = beP n := by
  induction n using Nat.strongRecOn with
  | ind n ih =>
    by_cases h : n = 0
    · subst h; simp [beP, leP_zero, beN]
    · have e : beP n = beP (n / 256) ++ [((n % 256 : Nat) : Int)] := by unfold beP; rw [leP_pos (by omega)]; simp
      rw [e, leP_pos (by omega), List.length_cons, beN_snoc, ← ih (n / 256) (by omega), IntKind.wrap_u8']
      congr 2
theorem leP_div (n : Nat) : (leP n).length = if n = 0 then 0 else (leP (n / 256)).length + 1 := by
  by_cases h : n = 0
  · subst h; simp [leP_zero]
  · rw [leP_pos (by omega)]; simp [h]

theorem readP_short {b : List Int} (h : b.length < 12) : readP b = none := by unfold readP; rw [if_pos h]
theorem readP_out {b : List Int} (h : 1024 < secP (12 + word4P b) ∨ b.length < secP (12 + word4P b) * 64) : readP b = none := by
  unfold readP
  split
  · rfl
  · first | rfl | rw [if_pos h]
theorem readP_bad {b : List Int} (h : (b.drop 4).take 8 ≠ sumP ((b.drop 12).take (word4P b)) ∨ ((b.drop (12 + word4P b)).take (secP (12 + word4P b) * 64 - (12 + word4P b))).any (· != 0) = true) : readP b = none := by
  unfold readP
  split
  · rfl
  split
  · rfl
  · first | rfl | rw [if_pos h]
theorem readP_eye {b : List Int} (h0 : 12 ≤ b.length) (h1 : secP (12 + word4P b) ≤ 1024) (h2 : secP (12 + word4P b) * 64 ≤ b.length) (h3 : (b.drop 4).take 8 = sumP ((b.drop 12).take (word4P b)))
    (h4 : ((b.drop (12 + word4P b)).take (secP (12 + word4P b) * 64 - (12 + word4P b))).any (· != 0) = false) :
    readP b = match eyeP ((b.drop 12).take (word4P b)) (word4P b) with | none => none | some (t, n, x) => some ⟨t, n, secP (12 + word4P b), x⟩ := by
  unfold readP
  rw [if_neg (by omega), if_neg (by omega), if_neg (fun h => h.elim (fun h => h h3) (fun h => by rw [h4] at h; cases h))]
  cases eyeP ((b.drop 12).take (word4P b)) (word4P b) <;> rfl
/-- A byte behind the fields that is none. -/
theorem any_at {b : List Int} {o n i : Nat} (h0 : o ≤ i) (h1 : i < o + n) (h2 : b.getD i 0 ≠ 0) : ((b.drop o).take n).any (· != 0) = true := by
  have hlt : i < b.length := by
    rcases Nat.lt_or_ge i b.length with h | h
    · exact h
    · exact absurd (by simp [List.getD, h]) h2
  have e : ((b.drop o).take n)[i - o]? = some (b.getD i 0) := by
    rw [List.getElem?_take, if_pos (by omega), List.getElem?_drop, show o + (i - o) = i by omega]
    simp [List.getD, hlt]
  rw [List.any_eq_true]
  exact ⟨_, List.mem_of_getElem? e, by simpa using h2⟩
theorem any_none {b : List Int} {o n : Nat} (h : ∀ i, o ≤ i → i < o + n → b.getD i 0 = 0) : ((b.drop o).take n).any (· != 0) = false := by
  rw [List.any_eq_false]
  intro x hx
  obtain ⟨j, hj⟩ := List.mem_iff_getElem?.1 hx
  rw [List.getElem?_take] at hj
  split at hj
  · rename_i hjn
    rw [List.getElem?_drop] at hj
    have := h (o + j) (by omega) (by omega)
    simp only [List.getD, hj, Option.getD_some] at this
    simp [this]
  · cases hj
theorem padP_bd {b : List Int} (hb : ∀ x ∈ b, 0 ≤ x ∧ x ≤ 255) : ∀ x ∈ padP b, 0 ≤ x ∧ x ≤ 255 := by
  intro x hx
  simp only [padP, List.mem_append, List.mem_cons] at hx
  rcases hx with hx | rfl | hx | hx
  · exact hb x hx
  · omega
  · rw [List.eq_of_mem_replicate hx]; omega
  · exact beN_bd _ _ x hx
/-- Two rows of eight bytes. -/
theorem eight_eq {a c : List Int} (ha : a.length = 8) (hc : c.length = 8) (h : ∀ i, i < 8 → a.getD i 0 = c.getD i 0) : a = c := by
  apply List.ext_getElem (by omega)
  intro i h1 h2
  have := h i (by omega)
  simpa [List.getD, h1, h2] using this

end Go.Proofs.YtohadeijmmmcdaaDoor
