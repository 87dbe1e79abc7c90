/-
  Rejections (plain), and entries that are changed.
-/
import Derived.Test.YtmflhidmhefljaaGreatDoorJCertsZ

namespace Go.Proofs.YtmflhidmhefljaaGreatDoor
open Go.RowKit Go.Shelf
set_option maxRecDepth 100000

theorem xor_bd {x : Int} (h : 0 ≤ x ∧ x ≤ 255) : (0 ≤ bits .xor .u8 x 9 ∧ bits .xor .u8 x 9 ≤ 255 ∧ bits .xor .u8 x 9 ≠ x) ∧ 0 ≤ bits .xor .u8 x 1 ∧ bits .xor .u8 x 1 ≤ 255 ∧ bits .xor .u8 x 1 ≠ x := by
  have key : ∀ n : Fin 256, (0 ≤ bits .xor .u8 (n.val : Int) 9 ∧ bits .xor .u8 (n.val : Int) 9 ≤ 255 ∧ bits .xor .u8 (n.val : Int) 9 ≠ (n.val : Int)) ∧ 0 ≤ bits .xor .u8 (n.val : Int) 1 ∧ bits .xor .u8 (n.val : Int) 1 ≤ 255 ∧ bits .xor .u8 (n.val : Int) 1 ≠ (n.val : Int) := by decide +kernel
  have := key ⟨x.toNat, by omega⟩
  simp only [show ((x.toNat : Nat) : Int) = x by omega] at this
  exact this
theorem entV_set1 (e : EntD) (b : Int) : (entV e).toArray.setIfInBounds 1 (.int .i64 b) = (entV { e with sh := b }).toArray := by
  unfold entV
  apply Array.ext'
  simp
theorem entV_setT (e : EntD) (hl : e.tx.length = 32) (i : Nat) (hi : i < 32) (y : Int) : (entV e).toArray.setIfInBounds (2 + i) (.int .u8 y) = (entV { e with tx := e.tx.set i y }).toArray := by
  unfold entV
  apply Array.ext'
  simp only [List.setIfInBounds_toArray, bys]
  rw [List.append_assoc, List.set_append, if_neg (by simp), List.set_append, if_pos (by simp; omega), List.map_set]
  simp
theorem Dig.set {D : List Int} (h : Dig D) (i : Nat) {y : Int} (hy : 0 ≤ y ∧ y ≤ 255) : Dig (D.set i y) := ⟨by rw [List.length_set]; exact h.1, fun x hx => by
  rcases List.mem_or_eq_of_mem_set hx with h1 | rfl
  · exact h.2 x h1
  · exact hy⟩
theorem set_ne {D : List Int} {i : Nat} (hi : i < D.length) {y : Int} (h : y ≠ D[i]) : D.set i y ≠ D := fun e => by
  have : (D.set i y)[i]'(by simpa using hi) = D[i] := by simp only [e]
  rw [List.getElem_set_self] at this
  exact h this
section
variable {t : TxD} {k : Nat} {seed : List Int}
theorem rej_right (hb : t.Bd) (hc : checkP t = 0) (h1 : 1 ≤ k) (h2 : k ≤ 64) (i : Nat) {s : Int} (hs : s ∈ eachP (insP t k)) : rejP seed t k [certO seed t k 2 i s] = 0 := by
  have hE := (each_in hc h1 h2).2.2 s hs
  have hr := entO_right (kind := 2) (s := s) hb hc h1 h2 (.inr rfl) hE.2
  rw [rej_of hc (by omega), if_pos]
  unfold rejOne certO
  rw [made_is seed [(i : Int)] _ 7 k hr (by omega) hE.2.2, made_e hr (by omega)]
  have : (eachP (insP t k)).contains s = true := List.contains_iff_mem.2 hs
  simp only [entO, this]
  simp
theorem acc_kind2 (hb : t.Bd) (hc : checkP t = 0) (h1 : 1 ≤ k) (h2 : k ≤ 64) : accP' seed t k (certsTo seed t k 2 (eachP (insP t k)).length) = 16 := by
  obtain ⟨hn, _, hE⟩ := each_in hc h1 h2
  refine acc_bad hc h1 h2 (certsTo_len _ _ _ _ _) 0 (by rw [certsTo_len]; omega) ?_
  rw [certsTo_get 2 (by omega) (Nat.le_refl _)]
  have hs := hE _ (List.getElem_mem (show 0 < (eachP (insP t k)).length by omega))
  have hr := entO_right (kind := 2) hb hc h1 h2 (.inr rfl) hs.2
  refine one_bad (.inl ?_)
  unfold certO
  rw [made_e hr (by omega)]
  simp [entO]
theorem rej_shard (hb : t.Bd) (hc : checkP t = 0) (h1 : 1 ≤ k) (h2 : k ≤ 64) {s : Int} (hs : 0 ≤ s ∧ s < k) (cmd : List Int) : rejP seed t k [(madeP seed cmd (entO t k 2 s) 1).1] = if (insP t k).contains s = true then 0 else 16 := by
  have hr := entO_right (kind := 2) (s := s) hb hc h1 h2 (.inr rfl) hs
  rw [rej_of hc (by omega)]
  unfold rejOne
  rw [made_is seed cmd _ 1 k hr (by omega) hs.2, made_e hr (by omega), ← each_has h2]
  simp [entO]
theorem rej_other (hc : checkP t = 0) (h1 : 1 ≤ k) (h2 : k ≤ 64) {e : EntD} (hr : rightE e = true) (he : e.tx ≠ idP t) (cmd : List Int) : rejP seed t k [(madeP seed cmd e 1).1] = 16 := by
  rw [rej_of hc (by omega), if_neg]
  unfold rejOne
  rw [made_e hr (by omega)]
  simp [he]
theorem right_tx {e : EntD} (hr : rightE e = true) (D : List Int) : rightE { e with tx := D } = true := hr
theorem bd_tx {e : EntD} (hb : e.Bd) {D : List Int} (hD : Dig D) : ({ e with tx := D } : EntD).Bd := ⟨hb.kind, hb.sh, hD, hb.am, hb.why, hb.ep⟩
end
theorem certs_two {w : World} {h : Nat} {t : TypeId} {c : CertD} {B : Option Addr} {cap : Nat} (hb : Blk w h t (certV c B cap ++ certV c B cap).toArray) (hP : RdR 32 w B (c.path.map bys)) (hcap : c.path.length ≤ cap) (hn : B = none → cap = 0) (hc : c.Bd) : CertsAt w (some ⟨h, 0, none⟩) [c, c] := fun j hj => by
  have hl := certV_len hc B cap
  refine ⟨h, 0, B, cap, rfl, hb.lt, ?_⟩
  have hg : [c, c][j] = c := by
    match j, hj with
    | 0, _ => rfl
    | 1, _ => rfl
  rw [hg]
  refine ⟨fun k x hx => ?_, hP, hcap, hn, hc⟩
  have hk : k < 137 := by have := (List.getElem?_eq_some_iff.1 hx).1; omega
  rw [hb.cell]
  match j, hj with
  | 0, _ =>
    rw [show 0 + 0 * 137 + k = k by omega]
    simp only [List.getElem?_toArray]
    rw [List.getElem?_append_left (by omega)]
    exact hx
  | 1, _ =>
    rw [show 0 + 1 * 137 + k = 137 + k by omega]
    simp only [List.getElem?_toArray]
    rw [List.getElem?_append_right (by omega), hl, show 137 + k - 137 = k by omega]
    exact hx
end Go.Proofs.YtmflhidmhefljaaGreatDoor
