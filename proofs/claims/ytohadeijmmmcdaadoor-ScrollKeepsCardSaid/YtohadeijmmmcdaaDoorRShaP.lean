/-
  The document's digests, plainly: the same words in another order.
-/
import Derived.Test.YtohadeijmmmcdaaDoorShaU
namespace Go.Proofs.YtohadeijmmmcdaaDoor
open Go.RowKit

theorem or_comm32 (a b : Int) : bits .or .u32 a b = bits .or .u32 b a := by
  simp only [bits, BitVec.or_comm]
theorem not_32 {e : Int} (h : 0 ≤ e ∧ e ≤ 4294967295) : bits .xor .u32 IntKind.u32.max e = 4294967295 - e := by
  obtain ⟨n, rfl⟩ := Int.eq_ofNat_of_zero_le h.1
  have hm : IntKind.u32.max = ((4294967295 : Nat) : Int) := by decide
  have key : ((BitVec.ofNat 32 4294967295) ^^^ (BitVec.ofNat 32 n)).toNat = 4294967295 - n := by
    have e1 : BitVec.ofNat 32 4294967295 = BitVec.allOnes 32 := by decide
    rw [e1, BitVec.allOnes_xor, BitVec.toNat_not, BitVec.toNat_ofNat, Nat.mod_eq_of_lt (by omega)]
  have e3 : bits .xor .u32 ((4294967295 : Nat) : Int) ((n : Nat) : Int) = IntKind.u32.wrap (((BitVec.ofNat 32 4294967295) ^^^ (BitVec.ofNat 32 n)).toNat : Int) := by
    simp only [bits, BitVec.ofInt_natCast]
    rfl
  rw [hm, e3, key, IntKind.wrap_u32]
  omega

/-- Words are words. -/
def W32 (l : List Int) : Prop := ∀ x ∈ l, 0 ≤ x ∧ x ≤ 4294967295
theorem W32.getD {l : List Int} (h : W32 l) (i : Nat) : 0 ≤ l.getD i 0 ∧ l.getD i 0 ≤ 4294967295 := by
  by_cases hi : i < l.length
  · have e : l.getD i 0 = l[i] := by simp [List.getD, hi]
    rw [e]
    exact h _ (List.getElem_mem hi)
  · have e : l.getD i 0 = 0 := by simp [List.getD, hi]
    rw [e]
    omega
theorem roundP_w {v : List Int} (h : W32 v) (k w : Int) : W32 (roundP v k w) := by
  intro x hx
  have h' := fun i => h.getD i
  simp only [roundP, List.mem_cons, List.mem_nil_iff, or_false] at hx
  rcases hx with rfl | rfl | rfl | rfl | rfl | rfl | rfl | rfl
  · omega
  · exact h' 0
  · exact h' 1
  · exact h' 2
  · omega
  · exact h' 4
  · exact h' 5
  · exact h' 6
theorem roundsP_w {h m : List Int} (hh : W32 h) : ∀ k, W32 (roundsP h m k)
  | 0 => by rw [roundsP_zero]; exact hh
  | k + 1 => by rw [roundsP_succ]; exact roundP_w (roundsP_w hh k) _ _
theorem stepP_w (h m : List Int) : W32 (stepP h m) := by
  intro x hx
  obtain ⟨i, _, rfl⟩ := List.mem_map.1 hx
  omega
theorem H0_w : W32 H0 := by
  intro x hx
  simp only [H0, List.mem_cons, List.mem_nil_iff, or_false] at hx
  rcases hx with rfl | rfl | rfl | rfl | rfl | rfl | rfl | rfl <;> omega
theorem hashP_w (m : List Int) : ∀ k, W32 (hashP m k)
  | 0 => by rw [hashP_zero]; exact H0_w
  | k + 1 => by rw [hashP_succ]; exact stepP_w _ _

/-- The document's word turned. -/
def rotQ (x : Int) (n : Nat) : Int := bits .or .u32 (x / 2 ^ n) (IntKind.u32.wrap (x * 2 ^ (32 - n)))
theorem rotQ_eq (x : Int) (n : Nat) : rotQ x n = rotP x n := or_comm32 _ _

/-- A round as the document has it. -/
theorem roundQ {a0 a1 a2 a3 a4 a5 a6 a7 k w : Int} (h4 : 0 ≤ a4 ∧ a4 ≤ 4294967295) :
    [IntKind.u32.wrap (IntKind.u32.wrap (IntKind.u32.wrap (IntKind.u32.wrap (IntKind.u32.wrap (a7 + x3P (rotQ a4 6) (rotQ a4 11) (rotQ a4 25)) + bits .xor .u32 (bits .and .u32 a4 a5) (bits .and .u32 (IntKind.u32.wrap (4294967295 - a4)) a6)) + k) + w) + IntKind.u32.wrap (x3P (rotQ a0 2) (rotQ a0 13) (rotQ a0 22) + x3P (bits .and .u32 a0 a1) (bits .and .u32 a0 a2) (bits .and .u32 a1 a2))),
      a0, a1, a2, IntKind.u32.wrap (a3 + IntKind.u32.wrap (IntKind.u32.wrap (IntKind.u32.wrap (IntKind.u32.wrap (a7 + x3P (rotQ a4 6) (rotQ a4 11) (rotQ a4 25)) + bits .xor .u32 (bits .and .u32 a4 a5) (bits .and .u32 (IntKind.u32.wrap (4294967295 - a4)) a6)) + k) + w)), a4, a5, a6] = roundP [a0, a1, a2, a3, a4, a5, a6, a7] k w := by
  have e1 : IntKind.u32.wrap (4294967295 - a4) = bits .xor .u32 IntKind.u32.max a4 := by rw [not_32 h4, IntKind.wrap_u32]; omega
  rw [e1]
  unfold roundP tP uP
  simp only [rotQ_eq, List.getD_cons_zero, List.getD_cons_succ, IntKind.wrap_u32]
  generalize x3P (rotP a4 6) (rotP a4 11) (rotP a4 25) = s
  generalize bits .xor .u32 (bits .and .u32 a4 a5) (bits .and .u32 (bits .xor .u32 IntKind.u32.max a4) a6) = c
  generalize x3P (rotP a0 2) (rotP a0 13) (rotP a0 22) = t
  generalize x3P (bits .and .u32 a0 a1) (bits .and .u32 a0 a2) (bits .and .u32 a1 a2) = u
  congr 1
  · omega
  · congr 4
    omega

theorem mixP_set (h R : List Int) (j : Nat) : (mixP h R j).set j ((h.getD j 0 + R.getD j 0) % 4294967296) = mixP h R (j + 1) := by
  apply List.ext_getElem
  · simp [mixP_len]
  · intro i h1 h2
    simp only [List.getElem_set, mixP, List.getElem_map, List.getElem_range]
    by_cases e : j = i
    · subst e; simp
    · rw [if_neg e]
      by_cases hlt : i < j
      · rw [if_pos hlt, if_pos (by omega)]
      · rw [if_neg hlt, if_neg (by omega)]
theorem mixP_at (h R : List Int) {j : Nat} (hj : j < 8) : (mixP h R j).getD j 0 = h.getD j 0 := by
  simp [mixP, List.getD, hj]

/-- The bytes of words, the first j of them. -/
def outP (H : List Int) (j : Nat) : List Int := (List.range 32).map fun i => if i < j then IntKind.u8.wrap (H.getD (i / 4) 0 / 2 ^ (24 - 8 * (i % 4))) else 0
theorem outP_zero (H : List Int) : outP H 0 = List.replicate 32 0 := by
  simp only [outP, Nat.not_lt_zero, if_false]
  rfl
theorem outP_len (H : List Int) (j : Nat) : (outP H j).length = 32 := by simp [outP]
theorem outP_set (H : List Int) (j : Nat) : (outP H j).set j (IntKind.u8.wrap (H.getD (j / 4) 0 / 2 ^ (24 - 8 * (j % 4)))) = outP H (j + 1) := by
  apply List.ext_getElem
  · simp [outP_len]
  · intro i h1 h2
    simp only [List.getElem_set, outP, List.getElem_map, List.getElem_range]
    by_cases e : j = i
    · subst e; simp
    · rw [if_neg e]
      by_cases hlt : i < j
      · rw [if_pos hlt, if_pos (by omega)]
      · rw [if_neg hlt, if_neg (by omega)]
theorem outP_all {H : List Int} (h : H.length = 8) : outP H 32 = H.flatMap fun w => beN w 4 := by
  match H, h with
  | [a, b, c, d, e, f, g, i], _ => rfl
theorem shaP_eq (b : List Int) : shaP b = (hashP (padP b) ((padP b).length / 64)).flatMap fun w => beN w 4 := by unfold shaP; rfl

/-- A round as the walk shows it. -/
theorem roundQ2 {a0 a1 a2 a3 a4 a5 a6 a7 k w : Int} (h4 : 0 ≤ a4 ∧ a4 ≤ 4294967295) :
    [IntKind.u32.wrap ((a7 + bits .xor .u32 (bits .xor .u32 (rotQ a4 6) (rotQ a4 11)) (rotQ a4 25) + bits .xor .u32 (bits .and .u32 a4 a5) (bits .and .u32 ((4294967295 - a4) % 4294967296) a6) + k + w) % 4294967296 +
        (bits .xor .u32 (bits .xor .u32 (rotQ a0 2) (rotQ a0 13)) (rotQ a0 22) + bits .xor .u32 (bits .xor .u32 (bits .and .u32 a0 a1) (bits .and .u32 a0 a2)) (bits .and .u32 a1 a2)) % 4294967296),
      a0, a1, a2, IntKind.u32.wrap (a3 + (a7 + bits .xor .u32 (bits .xor .u32 (rotQ a4 6) (rotQ a4 11)) (rotQ a4 25) + bits .xor .u32 (bits .and .u32 a4 a5) (bits .and .u32 ((4294967295 - a4) % 4294967296) a6) + k + w) % 4294967296), a4, a5, a6] = roundP [a0, a1, a2, a3, a4, a5, a6, a7] k w := by
  rw [← roundQ h4]
  unfold x3P
  simp only [IntKind.wrap_u32]
  generalize bits .xor .u32 (bits .xor .u32 (rotQ a4 6) (rotQ a4 11)) (rotQ a4 25) = s
  generalize bits .xor .u32 (bits .and .u32 a4 a5) (bits .and .u32 ((4294967295 - a4) % 4294967296) a6) = c
  generalize bits .xor .u32 (bits .xor .u32 (rotQ a0 2) (rotQ a0 13)) (rotQ a0 22) = t
  generalize bits .xor .u32 (bits .xor .u32 (bits .and .u32 a0 a1) (bits .and .u32 a0 a2)) (bits .and .u32 a1 a2) = u
  congr 1
  · omega
  · congr 4
    omega

end Go.Proofs.YtohadeijmmmcdaaDoor
