/-
  The chest beside the document's: 'is'.
-/
import Derived.Test.YtohadeijmmmcdaaDoorChestI
import Derived.Test.YtohadeijmmmcdaaDoorChestA
import Derived.Test.YtohadeijmmmcdaaDoorRChF
import Derived.Test.YtohadeijmmmcdaaDoorTxtO
namespace Go.Proofs.YtohadeijmmmcdaaDoor
open Go Go.RowKit Machine
set_option maxRecDepth 100000

/-- What is behind the first text. -/
theorem TxsV.tail {w : World} {A : Option Addr} {c n : Nat} {xs : List Value} {y : List Int} {L : List (List Int)} (h : TxsV w A xs (y :: L)) (hn : L.length = n) (hc : n + 1 ≤ c) :
    ∃ A1 xs1, (∀ W : World, (SLs 33 (.slice A (n + 1) c) (some (.int .i64 1)) none none).run Tryd.prog W = .ok (.slice A1 n (c - 1)) W) ∧ TxsV w A1 xs1 L := by
  obtain ⟨i, hq, hh⟩ := Option.map_eq_some_iff.1 iT
  simp only [Prod.mk.injEq] at hh
  have hs := hh.2.1
  obtain ⟨h1, h2, h3⟩ := h
  cases xs with
  | nil => simp at h1
  | cons x xs =>
    simp only [List.length_cons, Nat.add_right_cancel_iff] at h1
    obtain ⟨g, off, rfl, hg, hcl⟩ := h2 (by simp)
    have hadd : (⟨g, off, none⟩ : Addr).add 1 = ⟨g, off + 1, none⟩ := by unfold Addr.add; split <;> simp_all
    refine ⟨if c = 1 then some ⟨g, off, none⟩ else some ⟨g, off + 1, none⟩, xs, fun W => ?_, h1, fun h0 => ?_, fun j hj hj' => ?_⟩
    · have b2 : ((0 : Int) ≤ 1 ∧ (1 : Int) ≤ ((n : Int) + 1)) := by omega
      have b3 : (1 : Nat) ≤ n + 1 := by omega
      have b4 : n + 1 ≤ c := by omega
      by_cases hc1 : c = 1
      · subst hc1
        simp [SLs, Instr.sliceAt, Instr.slice, Instr.sliceBounds, Instr.sliceBound, asIntOf, run_underlying uT, sizeOf, typeInfo, hq, b4, if_pos b2.2]
        omega
      · simp [SLs, Instr.sliceAt, Instr.slice, Instr.sliceBounds, Instr.sliceBound, asIntOf, run_underlying uT, sizeOf, typeInfo, hq, hs, hc1, hadd, if_pos b2.2]
    · refine ⟨g, off + 1, by rw [if_neg (by omega)], hg, fun j u hu => ?_⟩
      rw [Nat.add_assoc, Nat.add_comm 1 j]
      exact hcl (j + 1) u (by simpa using hu)
    · have := h3 (j + 1) (by simp; omega) (by simp; omega)
      simpa using this

section
attribute [local go_sem ↓] ld75 st75 al75 bd75 slT_of

set_option maxHeartbeats 8000000 in
theorem is_any {w W : World} {B p gs r : Nat} {x : CS} {s : SS} {S : DS} (h : ChestAt w B p gs r x s S W) (hg : x.gone = false) (hxh : x.h.length ≤ 80000000) (hxl : ∀ l ∈ x.l, l.length ≤ 80000000) (hxn : x.l.length ≤ 100000) (hsm : s.m ≤ 8192) (hsu : s.u ≤ s.m)
    (t hh : Int) (hhb : 0 ≤ hh ∧ hh ≤ 1000000) (A : Option Addr) (c : Nat) (xs : List Value) (hT : TxsV W A xs (x.h :: x.l)) (hc : x.l.length + 1 ≤ c) (e2 : leftQ t hh (x.h :: x.l) (x.l.length + 1) = (s.m : Int) - (s.u : Int)) :
    Calls Tryd.prog 40 #[.pointer (some ⟨r, 0, none⟩), .agg (chL t hh (.slice A (x.l.length + 1) c)).toArray] W fun e W' => e = .returned (.bool true) ∧ Below W.heap.size W W' := by
  obtain ⟨n, hn⟩ : ∃ n, x.l.length = n := ⟨_, rfl⟩
  rw [hn] at hc hxn e2 ⊢
  obtain ⟨N, hN⟩ : ∃ N, n + 1 = N := ⟨_, rfl⟩
  rw [hN] at hc e2 ⊢
  have hN0 : (0 : Int) < (N : Int) := by omega
  obtain ⟨W1, hW1⟩ : ∃ W1, W.alloc (.cells (chL t hh (.slice A N c)).toArray 75) = W1 := ⟨_, rfl⟩
  have b0 := Blk.new W 75 (chL t hh (.slice A N c)).toArray
  have B0 : Below W.heap.size W (W.alloc (.cells (chL t hh (.slice A N c)).toArray 75)) := (Below.refl _ W).alloc (Nat.le_refl _) _
  rw [hW1] at b0 B0
  have h1 := h.after B0
  obtain ⟨q, hq, hsc⟩ := h1.scroll hg
  have hT1 := hT.below B0
  obtain ⟨ga, oa, A0, c0, hAe, hk0, hy0, _⟩ := hT1.at2 (i := 0) (by simp)
  simp only [List.getD_cons_zero, Nat.add_zero] at hk0 hy0
  subst hAe
  obtain ⟨m, hm⟩ : ∃ m, x.h.length = m := ⟨_, rfl⟩
  rw [hm] at hk0
  let SS0 : World → Prop := fun X => X.cell? ⟨W.heap.size, 2, none⟩ = some (.slice (some ⟨ga, oa, none⟩) N c) ∧ X.cell? ⟨ga, oa, none⟩ = some (.slice A0 m c0) ∧ X.cell? ⟨r, 0, none⟩ = some (.pointer (some ⟨q, 0, none⟩)) ∧ Blk X W.heap.size 75 (chL t hh (.slice (some ⟨ga, oa, none⟩) N c)).toArray
  have hga : ga < W1.heap.size := by
    obtain ⟨g', o', e, hg', _⟩ := hT1.cell (by rw [hT1.len]; simp)
    cases e
    exact hg'
  have hrl : r < W1.heap.size := by
    obtain ⟨q', hv, nv, _, h2⟩ := h1.ch
    exact h2.st.lt
  have hS : ∀ X, Below W1.heap.size W1 X → SS0 X := fun X hX => ⟨(hX.cell (p := ⟨W.heap.size, 2, none⟩) b0.lt).trans (ch_parts b0).2.2, (hX.cell (p := ⟨ga, oa, none⟩) hga).trans hk0, (hX.cell (p := ⟨r, 0, none⟩) hrl).trans hq, b0.fr (Fr.of_below hX) (by have := b0.lt; omega)⟩
  have hld : ∀ X, Blk X W.heap.size 75 (chL t hh (.slice (some ⟨ga, oa, none⟩) N c)).toArray → (LDs 75 (.pointer (some ⟨W.heap.size, 0, none⟩))).run Tryd.prog X = .ok (.agg (chL t hh (.slice (some ⟨ga, oa, none⟩) N c)).toArray) X := fun X hX => ld75_blk hX
  obtain ⟨A1, xs1, hsl, hT2⟩ := TxsV.tail (c := c) (n := n) hT1 hn (by omega)
  rw [hN] at hsl
  have HW1 := Lib.hid hW1
  have HS := Lib.hid hS
  have HC1 := Lib.hid h1
  have HSC := Lib.hid hsc
  have HB0 := Lib.hid B0
  have HT1 := Lib.hid hT1
  have HT2 := Lib.hid hT2
  have HY0 := Lib.hid hy0
  have HM := Lib.hid hm
  have HN := Lib.hid hn
  have HNN := Lib.hid hN
  have HE2 := Lib.hid e2
  have HXL := Lib.hid hxl
  clear hW1 h1 hsc hT1 hT2 hy0 hm hn hN e2 hxl hT h B0 b0 hq hk0
  go_enter Tryd.func40, Tryd.ntmps40
  go_upto_region 1 with fail
  rw [HW1.out]
  refine wp_txO [(0, 3), (1, 3), (2, 3), (3, 3), (4, 0), (5, 3), (6, 3), (7, 3), (8, 3), (9, 3), (11, 3), (12, 0), (13, 3), (14, 0), (10, 1), (15, 1), (16, 3), (17, 3), (18, 3), (20, 3), (21, 0), (22, 3), (19, 1), (23, 1), (24, 3), (25, 3), (26, 3), (27, 3), (28, 3), (29, 3), (30, 0), (32, 0), (31, 1), (33, 1), (34, 3), (35, 3), (36, 3)] SS0 (by kernel_rfl) (by kernel_rfl) (by kernel_rfl) (by kernel_rfl) (hS _ (Below.refl _ _).drew) ?_
  iterate 4 (with_reducible refine wpTxO_evN (o := ?_) (v := ?_) (a' := ?_) (by with_unfolding_all rfl) (by with_unfolding_all rfl) (fun W' => ?_) ?_ ?_; rotate_left 2; (focus (go_simp <;> with_reducible rfl)); focus (go_simp <;> with_reducible rfl))
  iterate 1 (with_reducible refine wpTxO_takeN (o := ?_) (v := ?_) (a' := ?_) (by with_unfolding_all rfl) (by with_unfolding_all rfl) (fun W' hS' => ?_) ?_ ?_; rotate_left 2; (focus (obtain ⟨j0, j1, j2, j3⟩ := hS'; go_simp <;> with_reducible rfl)); focus (go_simp <;> with_reducible rfl))
  iterate 2 (with_reducible refine wpTxO_evN (o := ?_) (v := ?_) (a' := ?_) (by with_unfolding_all rfl) (by with_unfolding_all rfl) (fun W' => ?_) ?_ ?_; rotate_left 2; (focus (go_simp <;> with_reducible rfl)); focus (go_simp <;> with_reducible rfl))
  simp only [show 0 < N by omega, decide_true]
  iterate 4 (with_reducible refine wpTxO_evN (o := ?_) (v := ?_) (a' := ?_) (by with_unfolding_all rfl) (by with_unfolding_all rfl) (fun W' => ?_) ?_ ?_; rotate_left 2; (focus (go_simp <;> with_reducible rfl)); focus (go_simp <;> with_reducible rfl))
  iterate 1 (with_reducible refine wpTxO_takeN (o := ?_) (v := ?_) (a' := ?_) (by with_unfolding_all rfl) (by with_unfolding_all rfl) (fun W' hS' => ?_) ?_ ?_; rotate_left 2; (focus (obtain ⟨j0, j1, j2, j3⟩ := hS'; go_simp <;> with_reducible rfl)); focus (go_simp <;> with_reducible rfl))
  iterate 1 (with_reducible refine wpTxO_evN (o := ?_) (v := ?_) (a' := ?_) (by with_unfolding_all rfl) (by with_unfolding_all rfl) (fun W' => ?_) ?_ ?_; rotate_left 2; (focus (go_simp; (first | (rw [if_pos (show 0 < N by omega)]; done) | with_reducible rfl))); focus (go_simp <;> with_reducible rfl))
  iterate 1 (with_reducible refine wpTxO_takeN (o := ?_) (v := ?_) (a' := ?_) (by with_unfolding_all rfl) (by with_unfolding_all rfl) (fun W' hS' => ?_) ?_ ?_; rotate_left 2; (focus (obtain ⟨j0, j1, j2, j3⟩ := hS'; go_simp <;> with_reducible rfl)); focus (go_simp <;> with_reducible rfl))
  with_reducible refine wpTxO_want (o := ?_) (by with_unfolding_all rfl) (by with_unfolding_all rfl) (fun K hK => ?_)  -- call 10
  go_simp
  with_reducible refine (khead_c (HC1.out.after (Below.refl W1.heap.size W1).drew) (by omega)).mono ?_
  rintro e w2 ⟨v, rfl, ho2, _, r2⟩
  obtain ⟨A2, c2, rfl, hy2, _, _⟩ := ho2.byt HY0.out.bd
  rw [HM.out]
  have R2 : Below W1.heap.size W1 w2 := (Below.refl W1.heap.size W1).drew.trans r2
  with_reducible refine hK _ _ (HS.out _ R2) ?_
  clear hK K ho2 r2
  with_reducible refine wpTxO_want (o := ?_) (by with_unfolding_all rfl) (by with_unfolding_all rfl) (fun K hK => ?_)  -- call 15
  go_simp
  have hby := bytes_any A2 A0 c2 c0 x.h x.h w2 hy2 (HY0.out.below R2) (by omega) (by omega)
  rw [HM.out] at hby
  simp only [decide_true] at hby
  with_reducible refine hby.mono ?_
  rintro e w3 ⟨rfl, k3, rfl⟩
  have R3 : Below W1.heap.size W1 (w2.drewN k3) := Below.drewN R2 k3
  with_reducible refine hK _ _ (HS.out _ R3) ?_
  clear hK K hby hy2
  iterate 4 (with_reducible refine wpTxO_evN (o := ?_) (v := ?_) (a' := ?_) (by with_unfolding_all rfl) (by with_unfolding_all rfl) (fun W' => ?_) ?_ ?_; rotate_left 2; (focus (go_simp <;> with_reducible rfl)); focus (go_simp <;> with_reducible rfl))
  iterate 1 (with_reducible refine wpTxO_takeN (o := ?_) (v := ?_) (a' := ?_) (by with_unfolding_all rfl) (by with_unfolding_all rfl) (fun W' hS' => ?_) ?_ ?_; rotate_left 2; (focus (obtain ⟨j0, j1, j2, j3⟩ := hS'; go_simp <;> with_reducible rfl)); focus (go_simp <;> with_reducible rfl))
  iterate 1 (with_reducible refine wpTxO_evN (o := ?_) (v := ?_) (a' := ?_) (by with_unfolding_all rfl) (by with_unfolding_all rfl) (fun W' => ?_) ?_ ?_; rotate_left 2; (focus (go_simp <;> with_reducible rfl)); focus (go_simp <;> with_reducible rfl))
  with_reducible refine wpTxO_want (o := ?_) (by with_unfolding_all rfl) (by with_unfolding_all rfl) (fun K hK => ?_)  -- call 19
  go_simp
  with_reducible refine (knotes_c (HC1.out.after R3) (fun l hl => by have := HXL.out l hl; omega) (by rw [HN.out]; omega)).mono ?_
  rintro e w4 ⟨v, rfl, ho4, hc4, r4⟩
  obtain ⟨A4, c4, rfl⟩ := ho4.form
  obtain ⟨xs4, hT4⟩ := ho4.txs (fun l hl => by
    obtain ⟨_, _, _, _, h2⟩ := hc4.ch
    exact h2.nb l hl)
  rw [HN.out]
  have R4 : Below W1.heap.size W1 w4 := R3.trans (r4.mono R3.size)
  with_reducible refine hK _ _ (HS.out _ R4) ?_
  clear hK K ho4 hc4 r4
  with_reducible refine wpTxO_want (o := ?_) (by with_unfolding_all rfl) (by with_unfolding_all rfl) (fun K hK => ?_)  -- call 23
  go_simp
  have hsm2 := rsame_any A4 c4 A1 (c - 1) xs4 xs1 x.l x.l w4 hT4 (HT2.out.below R4) (by rw [HN.out]; omega) (by rw [HN.out]; omega) (fun l hl => by have := HXL.out l hl; omega) (fun l hl => by have := HXL.out l hl; omega)
  rw [HN.out] at hsm2
  simp only [decide_true] at hsm2
  with_reducible refine hsm2.mono ?_
  rintro e w5 ⟨rfl, k5, rfl⟩
  have R5 : Below W1.heap.size W1 (w4.drewN k5) := Below.drewN R4 k5
  with_reducible refine hK _ _ (HS.out _ R5) ?_
  clear hK K hsm2 hT4
  iterate 6 (with_reducible refine wpTxO_evN (o := ?_) (v := ?_) (a' := ?_) (by with_unfolding_all rfl) (by with_unfolding_all rfl) (fun W' => ?_) ?_ ?_; rotate_left 2; (focus (go_simp <;> with_reducible rfl)); focus (go_simp <;> with_reducible rfl))
  iterate 2 (with_reducible refine wpTxO_takeN (o := ?_) (v := ?_) (a' := ?_) (by with_unfolding_all rfl) (by with_unfolding_all rfl) (fun W' hS' => ?_) ?_ ?_; rotate_left 2; (focus (obtain ⟨j0, j1, j2, j3⟩ := hS'; go_simp <;> with_reducible rfl)); focus (go_simp <;> with_reducible rfl))
  with_reducible refine wpTxO_want (o := ?_) (by with_unfolding_all rfl) (by with_unfolding_all rfl) (fun K hK => ?_)  -- call 31
  go_simp
  have hsb := HSC.out
  unfold IsScroll at hsb
  have hsb5 := hsb.fr (Fr.of_below R5) (by have := hsb.lt; omega)
  with_reducible refine (left_any q p s hsm hsu _ (by unfold IsScroll; exact hsb5)).mono ?_
  rintro e w6 ⟨rfl, k6, rfl⟩
  have R6 : Below W1.heap.size W1 ((w4.drewN k5).drewN k6) := Below.drewN R5 k6
  with_reducible refine hK _ _ (HS.out _ R6) ?_
  clear hK K
  with_reducible refine wpTxO_want (o := ?_) (by with_unfolding_all rfl) (by with_unfolding_all rfl) (fun K hK => ?_)  -- call 33
  go_simp
  have R6' : Below W1.heap.size W1 (w4.drewN (k5 + k6)) := Below.drewN R4 (k5 + k6)
  have hlf := rchleft_any t hh hhb (some ⟨ga, oa, none⟩) c xs (x.h :: x.l) (w4.drewN (k5 + k6)) (HT1.out.below R6') (by rw [List.length_cons, HN.out]; omega) (fun l hl => by
    rcases List.mem_cons.1 hl with rfl | hl
    · exact hxh
    · exact HXL.out l hl)
  rw [List.length_cons, HN.out, HNN.out, HE2.out] at hlf
  with_reducible refine hlf.mono ?_
  rintro e w7 ⟨rfl, r7⟩
  have R7 : Below W1.heap.size W1 w7 := R6'.trans (r7.mono R6'.size)
  with_reducible refine hK _ _ (HS.out _ R7) ?_
  clear hK K hlf r7
  iterate 3 (with_reducible refine wpTxO_evN (o := ?_) (v := ?_) (a' := ?_) (by with_unfolding_all rfl) (by with_unfolding_all rfl) (fun W' => ?_) ?_ ?_; rotate_left 2; (focus (go_simp <;> with_reducible rfl)); focus (go_simp <;> with_reducible rfl))
  with_reducible refine wpTxO_nil ?_
  rw [noPan_normal]
  go_wp2_with fail
  go_ret
  exact ⟨rfl, HB0.out.trans (R7.mono HB0.out.size)⟩
end
end Go.Proofs.YtohadeijmmmcdaaDoor
