/-
  Plain: how many writes wait behind what a scroll does; an error of the power is 20, and the drum is off then.
-/
import Derived.Test.YtohadeijmmmcdaaDoorScrollB
namespace Go.Proofs.YtohadeijmmmcdaaDoor
open Go.RowKit

/-- The drum T has the sectors of S, and at most k more writes that wait. -/
def Sz (k : Nat) (S T : DS) : Prop := T.sure.length = S.sure.length ∧ T.waits.length ≤ S.waits.length + k
theorem Sz.refl (S : DS) (k : Nat) : Sz k S S := ⟨rfl, by omega⟩
theorem Sz.trans {a b c : Nat} {S T U : DS} (h : Sz a S T) (h' : Sz b T U) (hc : a + b ≤ c) : Sz c S U := ⟨h'.1.trans h.1, by have := h.2; have := h'.2; omega⟩
theorem Sz.mono {a b : Nat} {S T : DS} (h : Sz a S T) (hc : a ≤ b) : Sz b S T := ⟨h.1, by have := h.2; omega⟩
theorem write_sz (S : DS) (k : Int) (b : List Int) : Sz 1 S (S.write k b).2 := ⟨(S.write_len k b).2, (S.write_len k b).1⟩
theorem sync_sz (S : DS) : Sz 0 S S.sync.2 := by
  unfold DS.sync
  repeat' split
  all_goals simp [Sz, applyAll_len]
theorem wipeGo_sz (S : DS) (f : Nat) : ∀ (k i : Nat) (T : DS) (any : Bool), Sz k T (wipeGo S f k i T any).2
  | 0, i, T, any => by
    rw [wipeGo_zero]
    split
    · exact sync_sz T
    · exact Sz.refl _ _
  | k + 1, i, T, any => by
    rw [wipeGo_succ]
    split
    · split
      · exact (write_sz T _ _).trans (wipeGo_sz S f k _ _ _) (by omega)
      · exact (write_sz T _ _).mono (by omega)
    · exact (wipeGo_sz S f k _ _ _).mono (by omega)
theorem wipeR_sz (S : DS) (f m : Nat) : Sz m S (wipeR S f m).2 := by
  unfold wipeR
  split
  · exact Sz.refl _ _
  · exact wipeGo_sz S f m 0 S false
theorem putGo_sz (F : List Int) (a : Nat) : ∀ (k i : Nat) (T : DS), Sz k T (putGo F a k i T).2
  | 0, i, T => by rw [putGo_zero]; exact Sz.refl _ _
  | k + 1, i, T => by
    rw [putGo_succ]
    split
    · exact (write_sz T _ _).trans (putGo_sz F a k _ _) (by omega)
    · exact (write_sz T _ _).mono (by omega)
theorem putR_sz (s : SS) (S : DS) (b : List Int) : Sz 1024 S (putR s S b).2.2 := by
  unfold putR
  split
  · exact Sz.refl _ _
  · split
    · exact Sz.refl _ _
    · rename_i he
      have hk := (formE_zero (Decidable.not_not.1 he)).2.2
      split
      · exact Sz.refl _ _
      · split
        · exact (putGo_sz _ _ _ _ _).mono hk
        · exact (putGo_sz _ _ _ _ _).mono hk
theorem syncR_sz (s : SS) (S : DS) : Sz 0 S (syncR s S).2.2 := by
  unfold syncR
  split
  · exact Sz.refl _ _
  · exact sync_sz S

/-- What is done is done, or the power fails. -/
def Pw (R : Int × DS) : Prop := (R.1 = 0 ∧ R.2.off = false) ∨ (R.1 = 20 ∧ R.2.off = true)
theorem write_pw {S : DS} (h : S.off = false) {a : Nat} (ha : a < S.sure.length) {b : List Int} (hb : b.length = 64) : Pw (S.write (a : Int) b) := by
  unfold DS.write Pw
  rw [if_neg (by rw [h]; simp), if_neg (by omega), if_neg (by omega)]
  split
  · exact .inr ⟨rfl, rfl⟩
  · exact .inl ⟨rfl, h⟩
theorem sync_pw {S : DS} (h : S.off = false) : Pw S.sync := by
  unfold DS.sync Pw
  rw [if_neg (by rw [h]; simp)]
  split
  · exact .inr ⟨rfl, rfl⟩
  · exact .inl ⟨rfl, h⟩
theorem wipeGo_pw (S : DS) (f : Nat) : ∀ (k i : Nat) (T : DS) (any : Bool), T.off = false → f + i + k ≤ T.sure.length → Pw (wipeGo S f k i T any)
  | 0, i, T, any, h, _ => by
    rw [wipeGo_zero]
    split
    · exact sync_pw h
    · exact .inl ⟨rfl, h⟩
  | k + 1, i, T, any, h, hl => by
    rw [wipeGo_succ]
    have hw := write_pw h (a := f + i) (by omega) Z64_len
    split
    · split
      · rename_i h0
        rcases hw with ⟨_, hw⟩ | ⟨hw, _⟩
        · exact wipeGo_pw S f k _ _ _ hw (by rw [(write_sz T _ _).1]; omega)
        · rw [hw] at h0; cases h0
      · exact hw
    · exact wipeGo_pw S f k _ _ _ h (by omega)
theorem wipeR_pw {S : DS} (h : S.off = false) {f m : Nat} (hf : f + m ≤ S.sure.length) : Pw (wipeR S f m) := by
  unfold wipeR
  rw [if_neg (by rw [h]; simp)]
  exact wipeGo_pw S f m 0 S false h (by omega)
theorem putGo_pw (F : List Int) (a : Nat) : ∀ (k i : Nat) (T : DS), T.off = false → a + i + k ≤ T.sure.length → 64 * (i + k) ≤ F.length → Pw (putGo F a k i T)
  | 0, i, T, h, _, _ => by rw [putGo_zero]; exact .inl ⟨rfl, h⟩
  | k + 1, i, T, h, hl, hF => by
    rw [putGo_succ]
    have hw := write_pw h (a := a + i) (by omega) (b := (F.drop (64 * i)).take 64) (by simp; omega)
    split
    · rename_i h0
      rcases hw with ⟨_, hw⟩ | ⟨hw, _⟩
      · exact putGo_pw F a k _ _ hw (by rw [(write_sz T _ _).1]; omega) (by omega)
      · rw [hw] at h0; cases h0
    · exact hw

end Go.Proofs.YtohadeijmmmcdaaDoor
