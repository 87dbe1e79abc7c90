/-
  ChestGone, plainly: a chest while its drum may fail.
-/
import Derived.Test.YtohadeijmmmcdaaDoorChestI
import Derived.Test.YtohadeijmmmcdaaDoorGoneW
namespace Go.Proofs.YtohadeijmmmcdaaDoor
open Go.RowKit
set_option maxRecDepth 100000

/-- An answer, the drum's power ahead, and behind. -/
def Ans (was : Bool) (e : Int) (off : Bool) : Prop := (was = true ∧ e = 20 ∧ off = true) ∨ (was = false ∧ off = false ∧ (e = 0 ∨ e = 18)) ∨ (was = false ∧ off = true ∧ e = 20)

structure CInv (k : Nat) (x : CS) (s : SS) (S : DS) : Prop where
  len : S.sure.length = 16
  waits : S.waits.length ≤ k * 2000
  sd : x.sd ≤ 1
  t : x.t ≤ k + 1
  ln : x.l.length ≤ k
  st : (x.gone = true ∧ S.off = true) ∨ (x.gone = false ∧ S.off = false ∧ s.gone = false ∧ s.m = 8 ∧ s.f + s.m ≤ 16 ∧ s.u ≤ s.m ∧ s.n ≤ k + 1 ∧ s.t = x.t)

/-- Put on a drum that is on. -/
theorem putR_pw {s : SS} {S : DS} {b : List Int} (hg : s.gone = false) (ho : S.off = false) (hum : s.u ≤ s.m) (hfm : s.f + s.m ≤ S.sure.length) (he : formE s.t s.n b = 0) :
    (putR s S b = (18, s, S)) ∨ (∃ T, putR s S b = (0, { s with u := s.u + recS s.t s.n b, n := s.n + 1 }, T) ∧ s.u + recS s.t s.n b ≤ s.m ∧ T.off = false) ∨ (∃ T, putR s S b = (20, { s with gone := true }, T) ∧ T.off = true) := by
  have hF : (formP s.t s.n b).length = 64 * recS s.t s.n b := by rw [formP_len]; unfold recS; omega
  unfold putR
  rw [if_neg (by rw [hg]; simp), if_neg (by rw [he]; simp)]
  split
  · exact .inl rfl
  · rename_i hr
    have hp := putGo_pw (formP s.t s.n b) (s.f + s.u) (recS s.t s.n b) 0 S ho (by omega) (by omega)
    split
    · rename_i h0
      rcases hp with ⟨_, h1⟩ | ⟨h1, _⟩
      · exact .inr (.inl ⟨_, rfl, by omega, h1⟩)
      · rw [h0] at h1; cases h1
    · rename_i h0
      rcases hp with ⟨h1, _⟩ | ⟨h1, h2⟩
      · exact absurd h1 h0
      · rw [h1]
        exact .inr (.inr ⟨_, rfl, h2⟩)

theorem CInv.keep {k : Nat} {x : CS} {s : SS} {S : DS} (h : CInv k x s S) (hk : k ≤ 1000) {b : List Int} (hb : b.length ≤ 65000) :
    CInv (k + 1) (ckeepR x s S b).2.1 (ckeepR x s S b).2.2.1 (ckeepR x s S b).2.2.2 ∧ Ans S.off (ckeepR x s S b).1 (ckeepR x s S b).2.2.2.off := by
  have hsz := putR_sz s S b
  have h1 := h.len
  have h2 := h.waits
  have h3 := h.t
  have h4 := h.ln
  rcases h.st with ⟨hg, ho⟩ | ⟨hg, ho, sg, sm, sf, su, sn, st⟩
  · have hR : ckeepR x s S b = (20, x, s, S) := by unfold ckeepR; rw [if_pos hg]
    rw [hR]
    exact ⟨⟨h1, by simp only; omega, h.sd, by simp only; omega, by simp only; omega, .inl ⟨hg, ho⟩⟩, .inl ⟨ho, rfl, ho⟩⟩
  · have he : formE (s.t : Int) (s.n : Int) b = 0 := formE_small (by omega) (by omega) hb
    have hp := putR_pw (s := s) (S := S) (b := b) sg ho su (by omega) he
    unfold ckeepR
    rw [if_neg (by rw [hg]; simp)]
    rcases hp with hp | ⟨T, hp, hr, hT⟩ | ⟨T, hp, hT⟩
    · rw [hp, if_neg (by simp), if_pos (.inl rfl)]
      exact ⟨⟨h1, by simp only; omega, h.sd, by simp only; omega, by simp only; omega, .inr ⟨hg, ho, sg, sm, sf, su, by simp only; omega, st⟩⟩, .inr (.inl ⟨ho, ho, .inr rfl⟩)⟩
    · rw [hp] at hsz ⊢
      rw [if_pos rfl]
      have hs1 := hsz.1
      have hs2 := hsz.2
      simp only at hs1 hs2
      exact ⟨⟨by simp only; omega, by simp only; omega, h.sd, by simp only; omega, by simp; omega, .inr ⟨hg, hT, sg, sm, sf, hr, by simp only; omega, st⟩⟩, .inr (.inl ⟨ho, hT, .inl rfl⟩)⟩
    · rw [hp] at hsz ⊢
      rw [if_neg (by simp), if_neg (by simp)]
      have hs1 := hsz.1
      have hs2 := hsz.2
      simp only at hs1 hs2
      exact ⟨⟨by simp only; omega, by simp only; omega, h.sd, by simp only; omega, by simp only; omega, .inl ⟨rfl, hT⟩⟩, .inr (.inr ⟨ho, hT, rfl⟩)⟩

theorem beginR_pw {S : DS} (ho : S.off = false) {sd t : Nat} (hsd : sd ≤ 1) {b : List Int} (he : formE (t : Int) ((0 : Nat) : Int) b = 0) (hr : recS t 0 b ≤ S.sure.length / 2) :
    (∃ T, beginR S sd t b = (0, ⟨sd * (S.sure.length / 2), S.sure.length / 2, t, recS t 0 b, 1, false⟩, T) ∧ T.off = false) ∨ ((beginR S sd t b).1 = 20 ∧ (beginR S sd t b).2.2.off = true) := by
  have hF1 : sd * (S.sure.length / 2) ≤ 1 * (S.sure.length / 2) := Nat.mul_le_mul hsd (Nat.le_refl _)
  unfold beginR
  obtain ⟨H, hH⟩ : ∃ H, S.sure.length / 2 = H := ⟨_, rfl⟩
  rw [hH] at hr hF1 ⊢
  obtain ⟨F, hF⟩ : ∃ F, sd * H = F := ⟨_, rfl⟩
  rw [hF] at hF1 ⊢
  have hw := wipeR_pw ho (f := F) (m := H) (by omega)
  have hws := (wipeR_sz S F H).1
  rcases hw with ⟨w1, w2⟩ | ⟨w1, w2⟩
  · rw [if_neg (by rw [w1]; simp)]
    have hp := putR_pw (s := ⟨F, H, t, 0, 0, false⟩) (S := (wipeR S F H).2) (b := b) rfl w2 (Nat.zero_le _) (by simp only; omega) he
    rcases hp with hp | ⟨T, hp, hr', hT⟩ | ⟨T, hp, hT⟩
    · exfalso
      unfold putR at hp
      rw [if_neg (by simp), if_neg (by simp only; rw [he]; simp), if_neg (by simp only; omega)] at hp
      have hpw := putGo_pw (formP t 0 b) (F + 0) (recS t 0 b) 0 (wipeR S F H).2 w2 (by omega) (by rw [formP_len]; unfold recS; omega)
      simp only at hp
      split at hp
      · simp at hp
      · simp only [Prod.mk.injEq] at hp
        rcases hpw with ⟨h1, _⟩ | ⟨h1, _⟩ <;> (rw [h1] at hp; omega)
    · rw [hp, if_neg (by simp)]
      simp only [Nat.zero_add]
      have hsy := sync_pw hT
      unfold syncR
      simp only [Bool.false_eq_true, if_false]
      rcases hsy with ⟨s1, s2⟩ | ⟨s1, s2⟩
      · left
        rw [s1]
        exact ⟨_, rfl, s2⟩
      · right
        exact ⟨s1, s2⟩
    · rw [hp, if_pos (by simp)]
      exact .inr ⟨rfl, hT⟩
  · rw [if_pos (by rw [w1]; simp)]
    exact .inr ⟨w1, w2⟩

theorem CInv.turn {k : Nat} {x : CS} {s : SS} {S : DS} (h : CInv k x s S) (hk : k ≤ 1000) {b : List Int} (hb : b.length ≤ 100) :
    CInv (k + 1) (turnR x s S b).2.1 (turnR x s S b).2.2.1 (turnR x s S b).2.2.2 ∧ Ans S.off (turnR x s S b).1 (turnR x s S b).2.2.2.off := by
  have hsz := beginR_sz S (1 - x.sd) (x.t + 1) b
  have h1 := h.len
  have h2 := h.waits
  have h3 := h.t
  have h4 := h.ln
  have h5 := h.sd
  rcases h.st with ⟨hg, ho⟩ | ⟨hg, ho, sg, sm, sf, su, sn, st⟩
  · have hR : turnR x s S b = (20, x, s, S) := by unfold turnR; rw [if_pos hg]
    rw [hR]
    exact ⟨⟨h1, by simp only; omega, h.sd, by simp only; omega, by simp only; omega, .inl ⟨hg, ho⟩⟩, .inl ⟨ho, rfl, ho⟩⟩
  · have he : formE ((x.t + 1 : Nat) : Int) ((0 : Nat) : Int) b = 0 := formE_small (by omega) (by omega) (by omega)
    have hrs := recS_small (t := x.t + 1) (n := 0) (b := b) (by omega) (by omega) hb
    have hbp := beginR_pw (S := S) (sd := 1 - x.sd) (t := x.t + 1) (b := b) ho (by omega) he (by omega)
    unfold turnR
    rw [if_neg (by rw [hg]; simp), if_neg (by omega), if_neg (by rw [show (0 : Int) = ((0 : Nat) : Int) from rfl, he]; simp), if_neg (by omega)]
    have hs1 := hsz.1
    have hs2 := hsz.2
    rcases hbp with ⟨T, hp, hT⟩ | ⟨e1, hT⟩
    · rw [hp] at hs1 hs2 ⊢
      simp only at hs1 hs2
      rw [if_neg (by simp)]
      have hF1 : (1 - x.sd) * (S.sure.length / 2) ≤ 1 * (S.sure.length / 2) := Nat.mul_le_mul (by omega) (Nat.le_refl _)
      exact ⟨⟨by simp only; omega, by simp only; omega, by simp only; omega, by simp only; omega, by simp, .inr ⟨rfl, hT, rfl, by simp only; omega, by simp only; omega, by simp only; omega, by simp only; omega, rfl⟩⟩, .inr (.inl ⟨ho, hT, .inl rfl⟩)⟩
    · rw [if_pos (by rw [e1]; simp)]
      exact ⟨⟨by simp only; omega, by simp only; omega, h.sd, by simp only; omega, by simp only; omega, .inl ⟨rfl, hT⟩⟩, .inr (.inr ⟨ho, hT, e1⟩)⟩

end Go.Proofs.YtohadeijmmmcdaaDoor
