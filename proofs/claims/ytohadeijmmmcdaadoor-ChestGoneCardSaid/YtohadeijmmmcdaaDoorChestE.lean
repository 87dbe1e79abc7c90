/-
  A chest: Notes; scroll.Fits.
-/
import Derived.Test.YtohadeijmmmcdaaDoorChestD
namespace Go.Proofs.YtohadeijmmmcdaaDoor
open Go.RowKit
set_option maxRecDepth 100000
attribute [local go_sem ↓] apt33_of

set_option maxHeartbeats 4000000 in
theorem cnotes_any (B r q p : Nat) (hv nv : Value) (x : CS) (w : World) (hc : IsChest B w r q p x hv nv) (hl : ∀ l ∈ x.l, l.length ≤ 500000000) (hn : x.l.length ≤ 900000000) :
    Calls Tryd.prog 71 #[.pointer (some ⟨r, 0, none⟩)] w fun e w' => ∃ v, e = .returned v ∧ OwnT w.heap.size w' v x.l ∧ Below w.heap.size w w' := by
  obtain ⟨A, c, rfl⟩ := hc.nt.form
  have k5 : w.cell? ⟨r, 5, none⟩ = some (.slice A x.l.length c) := hc.st.cell 5
  obtain ⟨N, hN⟩ : ∃ N, x.l.length = N := ⟨_, rfl⟩
  have hat : ∀ i (hi : i < x.l.length), ∃ g off, A = some ⟨g, off, none⟩ ∧ g < w.heap.size ∧ ∃ Ax cx, w.cell? ⟨g, off + i, none⟩ = some (.slice Ax (x.l[i]).length cx) ∧ Byt w Ax x.l[i] ∧ (Ax = none → cx = 0) := fun i hi => by
    obtain ⟨g, off, cap, e, _, hg, hcl⟩ := hc.nt.cells (by omega)
    simp only [Value.slice.injEq] at e
    obtain ⟨rfl, _, _⟩ := e
    obtain ⟨v, h1, h2⟩ := hcl i hi
    obtain ⟨Ax, cx, rfl⟩ := h2.form
    have hz := own8_c h2
    obtain ⟨Ax', cx', e, hy, _⟩ := h2.byt (hc.nb _ (List.getElem_mem hi))
    simp only [Value.slice.injEq, true_and] at e
    obtain ⟨rfl, rfl⟩ := e
    exact ⟨g, off, rfl, hg, Ax, cx, h1, hy, hz⟩
  have HAT := Lib.hid hat
  have HL := Lib.hid hl
  have HN := Lib.hid hN
  rw [hN] at k5
  clear hat hc hl
  go_enter Tryd.func71, Tryd.ntmps71
  go_wp2_with fail
  go_loopg [3, 11] N (fun k out t wr => ∃ i : Nat, i ≤ N ∧ k = N - i ∧ t = .int .i64 (i : Int) ∧ OwnT w.heap.size wr out (x.l.take i) ∧ Below w.heap.size w wr)
  case atStart => exact ⟨0, Nat.zero_le _, rfl, rfl, OwnT.nil _ _, Below.refl _ _⟩
  case round =>
    obtain ⟨i, hi, hk, rfl, hot, hbl⟩ := hrel
    by_cases hlt : i < N
    · obtain ⟨g, off, hA, hg, Ax, cx, hcx, hy, hz⟩ := HAT.out i (by rw [HN.out]; exact hlt)
      obtain ⟨b, hb⟩ : ∃ b, x.l[i]'(by rw [HN.out]; exact hlt) = b := ⟨_, rfl⟩
      rw [hb] at hcx hy
      have hltI : (i : Int) < (N : Int) := by omega
      have hcl := clone_any Ax cx hz b wr (hy.belowB hbl (fun a ha h0 => by
        obtain ⟨g9, o9, e9, hg9, _⟩ := hy.cell h0
        rw [ha] at e9
        cases e9
        exact hg9)) (by rw [← hb]; exact HL.out _ (List.getElem_mem _))
      have hc' : wr.cell? ⟨g, off + i, none⟩ = some (.slice Ax b.length cx) := (hbl.cell (p := ⟨g, off + i, none⟩) hg).trans hcx
      have htake : x.l.take i ++ [b] = x.l.take (i + 1) := by
        rw [List.take_succ_eq_append_getElem (by rw [HN.out]; exact hlt), hb]
      have htl : (x.l.take i).length = i := by rw [List.length_take, HN.out]; omega
      obtain ⟨L, hL⟩ : ∃ L, b.length = L := ⟨_, rfl⟩
      rw [hL] at hcl hc'
      obtain ⟨Ao, co, rfl⟩ := hot.form
      subst hA
      rw [htl] at hot ⊢
      have HOT := Lib.hid hot
      have HBL := Lib.hid hbl
      have HT := Lib.hid htake
      have HTL := Lib.hid htl
      have HLL := Lib.hid hL
      clear hot hbl hy hcx hb htake htl hL
      go_wp2_with fail
      with_reducible refine hcl.mono ?_
      rintro e w2 ⟨v, rfl, ho, hB2⟩
      obtain ⟨Av, cv, rfl⟩ := ho.form
      have hot2 := HOT.out.below hB2
      obtain ⟨v5, w5, hap, ho5, hf5, hft5⟩ := hot2.app (ty := 33) (ho.base HBL.out.size) (by rw [HTL.out]; omega) (Nat.le_trans HBL.out.size hB2.size)
      rw [HLL.out] at hap ⊢
      rw [HT.out] at ho5
      obtain ⟨A5, c5, rfl⟩ := ho5.form
      have hl5 : (x.l.take (i + 1)).length = i + 1 := by rw [List.length_take, HN.out]; omega
      have hl4 : (x.l.take i ++ [b]).length = i + 1 := by rw [HT.out]; exact hl5
      rw [hl5] at hap ho5
      have f5 : Below w.heap.size w w5 := (HBL.out.trans (hB2.mono HBL.out.size)).trans (hf5.below (Nat.le_trans HBL.out.size hB2.size) (fun k hk e => by have := (hot2.lt e).1; omega))
      have O5 := Lib.hid ho5
      have F5 := Lib.hid f5
      clear ho hot2 ho5 hf5 hft5 f5 hB2 hcl
      go_wp2_with fail
      go_roundg (N - (i + 1))
      case measure => omega
      case rel => exact ⟨i + 1, by omega, rfl, by go_num, O5.out, F5.out⟩
    · obtain rfl : i = N := by omega
      rw [List.take_of_length_le (by rw [HN.out]; omega)] at hot
      obtain ⟨Ao, co, rfl⟩ := hot.form
      rw [HN.out] at hot ⊢
      have HOT := Lib.hid hot
      have HBL := Lib.hid hbl
      have hltI : ¬ ((i : Int) < (i : Int)) := by omega
      clear hot hbl
      go_wp2_with fail
      go_ret
      exact ⟨_, rfl, HOT.out, HBL.out⟩

end Go.Proofs.YtohadeijmmmcdaaDoor
