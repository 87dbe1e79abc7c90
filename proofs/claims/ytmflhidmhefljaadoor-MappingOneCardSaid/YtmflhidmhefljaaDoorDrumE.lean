/-
  The drum's land.
  The drum's Start.
  The drum's Write.
-/
import Derived.Test.YtmflhidmhefljaaDoorDrumB

section
namespace Go.Proofs.YtmflhidmhefljaaDoor
open Go.RowKit
set_option maxRecDepth 100000
attribute [local go_sem ↓] CPs_of SLs_of

theorem i5 : (Tryd.prog.info? 5).map (·.size) = some 1 := by kernel_rfl

/-- The first k words have landed. -/
def landK (a b : List Int) (mask k : Nat) : List Int := (List.range 64).map fun j => if j / 8 < k ∧ mask / 2 ^ (j / 8) % 2 = 1 then b.getD j 0 else a.getD j 0
theorem landK_len (a b : List Int) (m k : Nat) : (landK a b m k).length = 64 := by simp [landK]
theorem landK_zero {a b : List Int} (ha : a.length = 64) (m : Nat) : landK a b m 0 = a := by
  apply List.ext_getElem
  · simp [landK, ha]
  · intro i h1 h2
    simp [landK, List.getD, h2]
theorem landK_all (a b : List Int) (m : Nat) : landK a b m 8 = landW a b m := by
  unfold landK landW
  apply List.map_congr_left
  intro j hj
  have : j / 8 < 8 := by have := List.mem_range.1 hj; omega
  simp [this]
theorem landK_skip {a b : List Int} {m k : Nat} (h : m / 2 ^ k % 2 ≠ 1) : landK a b m (k + 1) = landK a b m k := by
  unfold landK
  apply List.map_congr_left
  intro j hj
  by_cases e : j / 8 = k
  · rw [if_neg (by rw [e]; exact fun h' => h h'.2), if_neg (by omega)]
  · have : (j / 8 < k + 1) ↔ (j / 8 < k) := by omega
    simp only [this]
theorem landK_take {a b : List Int} {m k : Nat} (hb : b.length = 64) (hk : k < 8) (h : m / 2 ^ k % 2 = 1) :
    (landK a b m k).take (k * 8) ++ (b.drop (k * 8)).take 8 ++ (landK a b m k).drop (k * 8 + 8) = landK a b m (k + 1) := by
  have hl := landK_len a b m k
  apply List.ext_getElem
  · simp [landK_len, hb]; omega
  · intro i h1 h2
    have hi : i < 64 := by rw [landK_len] at h2; exact h2
    by_cases c1 : i < k * 8
    · rw [List.getElem_append_left (by simp [hl, hb]; omega), List.getElem_append_left (by simp [hl]; omega)]
      have e : i / 8 < k := by omega
      have e' : i / 8 < k + 1 := by omega
      simp [landK, e, e']
    · by_cases c2 : i < k * 8 + 8
      · rw [List.getElem_append_left (by simp [hl, hb]; omega), List.getElem_append_right (by simp [hl]; omega)]
        have e : i / 8 = k := by omega
        have hm : min (k * 8) 64 = k * 8 := by omega
        simp only [List.getElem_take, List.getElem_drop, List.length_take, hl, hm]
        have e2 : k * 8 + (i - k * 8) = i := by omega
        simp only [e2]
        simp [landK, e, h, List.getD, hb, hi]
      · rw [List.getElem_append_right (by simp [hl, hb]; omega)]
        have e : ¬ i / 8 < k := by omega
        have e' : ¬ i / 8 < k + 1 := by omega
        have hm : min (k * 8) 64 = k * 8 := by omega
        have hm2 : min 8 (64 - k * 8) = 8 := by omega
        simp only [List.getElem_drop, List.length_append, List.length_take, List.length_drop, hl, hb, hm, hm2]
        have e2 : k * 8 + 8 + (i - (k * 8 + 8)) = i := by omega
        simp only [e2]
        simp [landK, e, e']
/-- Words laid into one of the sectors. -/
theorem splice_in (L : List (List Int)) (hL : ∀ s ∈ L, s.length = 64) (k o : Nat) (hk : k < L.length) (b : List Int) (hb : o + b.length ≤ 64) :
    splice (bys L.flatten).toArray (k * 64 + o) (bys b) = (bys (L.set k (L[k].take o ++ b ++ L[k].drop (o + b.length))).flatten).toArray := by
  have hs : L[k].length = 64 := hL _ (List.getElem_mem _)
  have h1 := flat_splice 64 L hL k hk (L[k].take o ++ b ++ L[k].drop (o + b.length)) (by simp [hs]; omega)
  have h2 := flat_splice 64 L hL k hk L[k] hs
  rw [List.set_getElem_self] at h2
  have hlen := flat_len 64 L hL
  have hkl : k * 64 + 64 ≤ L.length * 64 := by
    have : (k + 1) * 64 ≤ L.length * 64 := Nat.mul_le_mul_right _ hk
    omega
  rw [← h1]
  unfold splice
  rw [bys_length, bys_take, bys_drop, ← bys_app, ← bys_app]
  congr 2
  have ht : (L.flatten.take (k * 64)).length = k * 64 := by simp [hlen]; omega
  generalize hA : L.flatten.take (k * 64) = A at *
  generalize hC : L.flatten.drop (k * 64 + 64) = C at *
  rw [← h2]
  have e1 : (A ++ L[k] ++ C).take (k * 64 + o) = A ++ L[k].take o := by
    rw [List.append_assoc, List.take_append, ht, List.take_of_length_le (by omega), List.take_append]
    simp [hs]
    omega
  have e2 : (A ++ L[k] ++ C).drop (k * 64 + o + b.length) = L[k].drop (o + b.length) ++ C := by
    rw [List.append_assoc, List.drop_append, ht, List.drop_eq_nil_of_le (by omega), List.drop_append, hs]
    have : k * 64 + o + b.length - k * 64 = o + b.length := by omega
    rw [this]
    have : o + b.length - 64 = 0 := by omega
    simp [this]
  rw [e1, e2]
  simp

theorem and_one_u8 : ∀ v : Fin 256, bits .and .u8 (v.val : Int) 1 = ((v.val % 2 : Nat) : Int) := by decide +kernel
theorem bit_u8 (m k : Nat) (hm : m ≤ 255) : bits .and .u8 ((m : Int) / 2 ^ k) 1 = ((m / 2 ^ k % 2 : Nat) : Int) := by
  have h1 : ((m : Int) / 2 ^ k) = ((m / 2 ^ k : Nat) : Int) := by simp
  have h2 : m / 2 ^ k < 256 := Nat.lt_of_le_of_lt (Nat.div_le_self _ _) (by omega)
  rw [h1]
  exact and_one_u8 ⟨m / 2 ^ k, h2⟩

end Go.Proofs.YtmflhidmhefljaaDoor
end

section
namespace Go.Proofs.YtmflhidmhefljaaDoor
open Go.RowKit
set_option maxRecDepth 100000
/-- The slice at A holds these bytes. -/
structure Byt (w : World) (A : Option Addr) (l : List Int) : Prop where
  cell : 0 < l.length → ∃ g off, A = some ⟨g, off, none⟩ ∧ g < w.heap.size ∧ ∀ j x, l[j]? = some x → w.cell? ⟨g, off + j, none⟩ = some (.int .u8 x)
  bd : ∀ x ∈ l, 0 ≤ x ∧ x ≤ 255
theorem Byt.fr {w w' : World} {A : Option Addr} {l : List Int} {F : Nat → Prop} (h : Byt w A l) (hf : Fr F w w') (hn : ∀ a, A = some a → 0 < l.length → ¬ F a.block) : Byt w' A l :=
  ⟨fun h0 => by
    obtain ⟨g, off, rfl, hg, hc⟩ := h.cell h0
    exact ⟨g, off, rfl, Nat.lt_of_lt_of_le hg hf.size, fun j x hx => (hf.cell (p := ⟨g, off + j, none⟩) hg (hn ⟨g, off, none⟩ rfl h0)).trans (hc j x hx)⟩, h.bd⟩
theorem Byt.at_ {w : World} {A : Option Addr} {l : List Int} (h : Byt w A l) {i : Nat} (hi : i < l.length) : ∃ g off, A = some ⟨g, off, none⟩ ∧ g < w.heap.size ∧ w.cell? ⟨g, off + i, none⟩ = some (.int .u8 l[i]) := by
  obtain ⟨g, off, e, hg, hc⟩ := h.cell (by omega)
  exact ⟨g, off, e, hg, hc i _ (List.getElem?_eq_getElem hi)⟩

theorem maskAt_le {M : List Int} (hM : ∀ x ∈ M, 0 ≤ x ∧ x ≤ 255) (i : Nat) : maskAt M i ≤ 255 := by
  unfold maskAt
  split
  · rename_i h
    have := hM (M.getD i 0) (by simp [List.getD, h])
    omega
  · omega

end Go.Proofs.YtmflhidmhefljaaDoor
end

section
namespace Go.Proofs.YtmflhidmhefljaaDoor
open Go.RowKit
set_option maxRecDepth 100000
attribute [local go_sem ↓] CPs_of APs_of BDs_of BSs_of

theorem i3 : (Tryd.prog.info? 3).map (·.size) = some 1 := by kernel_rfl
/-- What may become of the row of what waits. -/
def Foot (w : World) (wv wv' : Value) : Prop := ∀ j, wv'.ownBlock = some j → wv.ownBlock = some j ∨ w.heap.size ≤ j
theorem Foot.refl (w : World) (wv : Value) : Foot w wv wv := fun _ h => .inl h
theorem Foot.nil (w : World) (wv : Value) : Foot w wv (.slice none 0 0) := fun _ h => by cases h

end Go.Proofs.YtmflhidmhefljaaDoor
end
