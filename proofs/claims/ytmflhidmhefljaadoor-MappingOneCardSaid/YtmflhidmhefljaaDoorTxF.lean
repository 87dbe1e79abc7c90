/-
  field.Pen.Id.
-/
import Derived.Test.YtmflhidmhefljaaDoorTxE
import Derived.Test.YtmflhidmhefljaaDoorForm
namespace Go.Proofs.YtmflhidmhefljaaDoor
open Go.RowKit Go.Shelf
set_option maxRecDepth 100000
attribute [local go_sem ↓] ap22_of SLs_of

set_option maxHeartbeats 4000000 in
theorem penid_any (B p : Nat) (v : Value) (l : List Int) (d : List Int) (hd : d.length = 32) (hdb : ∀ x ∈ d, 0 ≤ x ∧ x ≤ 255) (w : World) (h : IsPen B w p v l) (hl : l.length ≤ 500000000) (hB : B ≤ w.heap.size) :
    Calls Tryd.prog 66 #[.pointer (some ⟨p, 0, none⟩), .agg (bys d).toArray] w fun e w' => e = .returned (.tuple #[]) ∧ (∃ v', IsPen B w' p v' (l ++ d) ∧ Foot w v v') ∧ Fr (fun k => k = p ∨ v.ownBlock = some k) w w' := by
  have b0 := Blk.new w 23 (bys d).toArray
  have f0 : Fr (fun k => k = p ∨ v.ownBlock = some k) w (w.alloc (.cells (bys d).toArray 23)) := (Fr.refl _ w).alloc _
  have s0 := h.st.alloc (.cells (bys d).toArray 23)
  have o0 : Own8 B (w.alloc (.cells (bys d).toArray 23)) v l := World.ownsRow.alloc h.own _
  obtain ⟨W, hW⟩ : ∃ W, w.alloc (.cells (bys d).toArray 23) = W := ⟨_, rfl⟩
  obtain ⟨g, hg⟩ : ∃ g, w.heap.size = g := ⟨_, rfl⟩
  rw [hW] at f0 s0 o0
  rw [hW, hg] at b0
  have hby := (b0.drew).byt hdb
  have hsl : ∀ X, (SLs 23 (.pointer (some ⟨g, 0, none⟩)) none none none).run Tryd.prog X = .ok (.slice (some ⟨g, 0, none⟩) 32 32) X := fun X => SLs_all (P := Tryd.prog) uId (by kernel_rfl) X g (by omega)
  have oD : Own8 B W.drew v l := o0
  obtain ⟨v2, w2, hap, ho2, hf2, hft2⟩ := app8 (ty := 51) (c := 32) oD hby (by omega) (Nat.le_trans hB f0.size) (by simp)
  rw [hd] at hap
  obtain ⟨A1, c1, hv1⟩ := o0.form
  obtain ⟨A2, c2, rfl⟩ := ho2.form
  have hne := own8_ne o0 s0 (by decide)
  have hst2 := (s0.drew).fr hf2 (fun e => hne e)
  obtain ⟨N1, hN1⟩ : ∃ N1, l.length = N1 := ⟨_, rfl⟩
  obtain ⟨N2, hN2⟩ : ∃ N2, (l ++ d).length = N2 := ⟨_, rfl⟩
  rw [hN1] at hv1
  subst hv1
  rw [hN2] at hap ho2
  have k1 : W.cell? ⟨p, 0, none⟩ = some (.slice A1 N1 c1) := s0.cell 0
  have k2 : w2.cell? ⟨p, 0, none⟩ = some (.slice A1 N1 c1) := hst2.cell 0
  have f2 := hst2.frozen 0
  have O2 := Lib.hid ho2
  have F0 := Lib.hid f0
  have F2 := Lib.hid hf2
  have FT2 := Lib.hid hft2
  have S2 := Lib.hid hst2
  have H := Lib.hid h
  have HW := Lib.hid hW
  have HG := Lib.hid hg
  clear b0 f0 s0 o0 oD hW hg hby ho2 hf2 hft2 hst2 hne hN1 hN2 h
  go_enter Tryd.func66, Tryd.ntmps66
  go_upto_region 1 with fail
  rw [HW.out, HG.out]
  obtain ⟨wd, hwd⟩ : ∃ wd, W.drew = wd := ⟨_, rfl⟩
  refine wp_txJ [3, 3, 3, 3, 0, 3, 2, 3, 3, 2] (fun W' => W' = wd) (by kernel_rfl) (by kernel_rfl) (by kernel_rfl) (by kernel_rfl) hwd ?_
  have k1d : wd.cell? ⟨p, 0, none⟩ = some (.slice A1 N1 c1) := by rw [← hwd]; exact k1
  rw [hwd] at hap ⊢
  iterate 4 (with_reducible refine wpTxJ_evN (v := ?_) (a' := ?_) (by with_unfolding_all rfl) (fun W' => ?_) ?_ ?_; rotate_left 2; (focus (go_simp <;> with_reducible rfl)); focus (go_simp <;> with_reducible rfl))
  iterate 1 (with_reducible refine wpTxJ_takeN (v := ?_) (a' := ?_) (by with_unfolding_all rfl) (fun W' hS => ?_) ?_ ?_; rotate_left 2; (focus (subst hS; go_simp <;> with_reducible rfl)); focus (go_simp <;> with_reducible rfl))
  iterate 1 (with_reducible refine wpTxJ_evN (v := ?_) (a' := ?_) (by with_unfolding_all rfl) (fun W' => ?_) ?_ ?_; rotate_left 2; (focus (go_simp <;> with_reducible rfl)); focus (go_simp <;> with_reducible rfl))
  with_reducible refine wpTxJ_last (by with_unfolding_all rfl) (fun K hK => ?_)
  go_simp
  with_reducible refine hK _ _ ?_
  clear hK K
  iterate 2 (with_reducible refine wpTxJ_evN (v := ?_) (a' := ?_) (by with_unfolding_all rfl) (fun W' => ?_) ?_ ?_; rotate_left 2; (focus (go_simp <;> with_reducible rfl)); focus (go_simp <;> with_reducible rfl))
  with_reducible refine wpTxJ_last (by with_unfolding_all rfl) (fun K hK => ?_)
  go_simp
  with_reducible refine hK _ _ ?_
  clear hK K
  with_reducible refine wpTxJ_nil ?_
  rw [noPan_normal]
  go_wp2_with fail
  go_end0
  have hnp := own8_ne O2.out S2.out (by decide)
  have F2' : Fr (fun k => (Value.slice A1 N1 c1).ownBlock = some k) W w2 := ⟨F2.out.os, F2.out.tape, F2.out.output, F2.out.size, F2.out.block⟩
  refine ⟨rfl, ⟨.slice A2 N2 c2, ⟨by simpa using S2.out.set_ 0 (.slice A2 N2 c2), H.out.b1, ?_⟩, ?_⟩, ?_⟩
  · exact O2.out.fr (F := fun j => j = p) ((Fr.refl (fun j => j = p) w2).setCell (p := ⟨p, 0, none⟩) (fun _ => rfl) (.slice A2 N2 c2)) (fun j hj e => hnp (e ▸ hj))
  · intro j hj
    rcases FT2.out j ((own_sl A2 _ _ _ _).trans hj) with h | h
    · exact .inl h
    · exact .inr (Nat.le_trans F0.out.size h)
  · refine (F0.out.trans (F2'.mono (G := fun j => j = p ∨ (Value.slice A1 N1 c1).ownBlock = some j) (fun j _ h => .inr h)) (fun j hj h => h)).setCell (p := ⟨p, 0, none⟩) (fun _ => .inl rfl) _
end Go.Proofs.YtmflhidmhefljaaDoor
