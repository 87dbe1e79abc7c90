/-
  DrumKeeps: what is so, plainly.
-/
import Derived.Test.YtohadeijmmmcdaaApartW
namespace Go.Proofs.Ytohadeijmmmcdaa
open Go.RowKit

/-- Each word of s is one byte eight times, one of vs. -/
def Words (vs : List Int) (s : List Int) : Prop := s.length = 64 ∧ ∀ k, k < 8 → ∃ v ∈ vs, ∀ j, j < 8 → s.getD (8 * k + j) 0 = v

theorem rep_getD (n i : Nat) (a : Int) (h : i < n) : (List.replicate n a).getD i 0 = a := by simp [List.getD, List.getElem?_replicate, h]
theorem landW_getD (a b : List Int) (m i : Nat) (h : i < 64) : (landW a b m).getD i 0 = if m / 2 ^ (i / 8) % 2 = 1 then b.getD i 0 else a.getD i 0 := by
  unfold landW
  simp only [List.getD, List.getElem?_map, List.getElem?_range h, Option.map_some, Option.getD_some]

theorem words_full (a : Int) (vs : List Int) (h : a ∈ vs) : Words vs (List.replicate 64 a) :=
  ⟨by simp, fun k hk => ⟨a, h, fun j hj => rep_getD 64 _ a (by omega)⟩⟩
theorem words_land {vs : List Int} {s : List Int} {x : Int} (h : Words vs s) (hx : x ∈ vs) (m : Nat) : Words vs (landW s (List.replicate 64 x) m) := by
  refine ⟨by simp [landW], fun k hk => ?_⟩
  obtain ⟨v, hv, hs⟩ := h.2 k hk
  by_cases hb : m / 2 ^ k % 2 = 1
  · refine ⟨x, hx, fun j hj => ?_⟩
    have e : (8 * k + j) / 8 = k := by omega
    have hl : 8 * k + j < 64 := by omega
    rw [landW_getD _ _ _ _ hl, e, if_pos hb]
    exact rep_getD 64 _ x hl
  · refine ⟨v, hv, fun j hj => ?_⟩
    have e : (8 * k + j) / 8 = k := by omega
    have hl : 8 * k + j < 64 := by omega
    rw [landW_getD _ _ _ _ hl, e, if_neg hb]
    exact hs j hj
theorem words_all {vs : List Int} (M : List Int) : ∀ (l : List Int) (k : Nat) (L : List (List Int)), 1 < L.length → Words vs (L.getD 1 []) → (∀ x ∈ l, x ∈ vs) →
    Words vs ((landAll M k L (l.map fun x => (1, List.replicate 64 x))).getD 1 [])
  | [], _, L, _, h, _ => h
  | x :: l, k, L, hL, h, hl => by
    simp only [List.map_cons, landAll]
    refine words_all M l _ _ (by simpa using hL) ?_ (fun y hy => hl y (by simp [hy]))
    simp only [List.getD, List.getElem?_set_self hL, Option.getD_some]
    have := words_land h (hl x (by simp)) (maskAt M k)
    simpa [List.getD] using this

/-- What is so of the drum behind i of the later writes. -/
structure KI (a : Int) (later : List Int) (i : Nat) (S : DS) : Prop where
  calm : Calm S
  n : S.sure.length = 3
  sure : S.sure.getD 1 [] = List.replicate 64 a
  waits : S.waits = (later.take i).map fun x => (1, List.replicate 64 x)

theorem ki_write {a : Int} {later : List Int} {i : Nat} {S : DS} (h : KI a later i S) (hi : i < later.length) : (S.write (1 : Nat) (List.replicate 64 later[i])).1 = 0 ∧ KI a later (i + 1) (S.write (1 : Nat) (List.replicate 64 later[i])).2 := by
  have e : S.write (1 : Nat) (List.replicate 64 later[i]) = (0, { S with fuse := 0, waits := S.waits ++ [(1, List.replicate 64 later[i])] }) := by
    have hf : ¬ S.fuse = 1 := by rw [h.calm.fuse]; decide
    have hd : dec S.fuse = 0 := by rw [h.calm.fuse]; rfl
    have hn := h.n
    simp [DS.write, h.calm.off, hf, hd, hn]
  rw [e]
  refine ⟨rfl, ⟨⟨h.calm.off, rfl⟩, h.n, h.sure, ?_⟩⟩
  show S.waits ++ _ = _
  rw [h.waits, List.take_succ_eq_append_getElem hi, List.map_append]
  rfl
theorem ki_zero (a : Int) (later : List Int) (S0 : DS) (hS : S0 = ((DS.new 3).write (1 : Nat) (List.replicate 64 a)).2) : ((DS.new 3).write (1 : Nat) (List.replicate 64 a)).1 = 0 ∧ S0.sync.1 = 0 ∧ KI a later 0 S0.sync.2 := by
  have e : (DS.new 3).write (1 : Nat) (List.replicate 64 a) = (0, { DS.new 3 with waits := [(1, List.replicate 64 a)] }) := by
    simp [DS.write, DS.new, dec]
  rw [e] at hS ⊢
  subst hS
  refine ⟨rfl, rfl, ⟨⟨rfl, rfl⟩, ?_, ?_, rfl⟩⟩
  · simp [DS.sync, DS.new, applyAll_len, applyAll]
  · simp [DS.sync, DS.new, applyAll, List.replicate_succ]
theorem ki_start {a : Int} {later : List Int} {S : DS} (h : KI a later later.length S) (M : List Int) : Words (a :: later) ((S.start M).now 1) := by
  show Words _ ((landAll M 0 S.sure S.waits).getD 1 [])
  rw [h.waits, List.take_length]
  exact words_all M later 0 _ (by rw [h.n]; omega) (by rw [h.sure]; exact words_full a _ (by simp)) (fun x hx => by simp [hx])
/-- Started once more: nothing waits, nothing turns. -/
theorem start_again (S : DS) (M M' : List Int) (k : Nat) : (({ S.start M with off := true } : DS).start M').now k = (S.start M).now k := rfl

end Go.Proofs.Ytohadeijmmmcdaa
