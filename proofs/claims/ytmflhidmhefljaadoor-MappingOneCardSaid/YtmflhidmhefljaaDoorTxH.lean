/-
  tx.Id.
-/
import Derived.Test.YtmflhidmhefljaaDoorTxG
namespace Go.Proofs.YtmflhidmhefljaaDoor
open Go.RowKit Go.Shelf
set_option maxRecDepth 100000
theorem bdId_of (parts : Array (Nat × Value)) : Instr.build 23 parts = BDs 23 parts := rfl
theorem bdId_0 (w : World) : (BDs 23 #[]).run Tryd.prog w = .ok (.agg (bys (List.replicate 32 0)).toArray) w := by kernel_rfl
attribute [local go_sem ↓] ld123 st123 al123 bdId_of

theorem idP_put (t : TxD) (h : checkP t = 0) : idP t = shaP (8 :: (be4P (putP t).length ++ putP t)) := by
  unfold idP putP
  rw [if_pos h, if_pos h]
  unfold underP underL
  simp

theorem undId' : Tryd.prog.underlying 23 = some (.array 32 5) := u123
theorem putP_bd {t : TxD} (h : t.Bd) : ∀ x ∈ putP t, 0 ≤ x ∧ x ≤ 255 := by
  unfold putP
  split
  · rename_i hc
    exact formTx_bd h (checkP_ok hc).1
  · simp
theorem putP_len {t : TxD} (h : t.Bd) : (putP t).length ≤ 2660 := by
  unfold putP
  split
  · rename_i hc
    exact formTx_len h (checkP_ok hc).1
  · simp
theorem Own8.nulI {B n c : Nat} {w : World} {l : List Int} (h : Own8 B w (.slice none n c) l) : c = 0 := by
  obtain ⟨_, ⟨h2, _⟩ | ⟨g, cap, cur, h2, _⟩⟩ := h
  · simp only [Value.slice.injEq] at h2
    exact h2.2.2
  · simp at h2

set_option maxHeartbeats 4000000 in
theorem txid_any (A1 : Option Addr) (c1 : Nat) (A2 : Option Addr) (c2 : Nat) (t : TxD) (w : World) (h : TxAt w A1 A2 t) (hgl : Glob w) (hl : t.ins.length ≤ 1000000) (hl2 : t.outs.length ≤ 1000000) :
    Calls Tryd.prog 38 #[.agg (txV A1 c1 A2 c2 t)] w fun e w' => e = .returned (.agg (bys (idP t)).toArray) ∧ Below w.heap.size w w' := by
  obtain ⟨z, hz1, hz2⟩ := Option.map_eq_some_iff.1 z123
  have hal := ALs_new (P := Tryd.prog) (t := 23) z hz1 (w.alloc (.cells (txV A1 c1 A2 c2 t) 35))
  obtain ⟨Z, hZ⟩ : ∃ Z, z.cells = Z := ⟨_, rfl⟩
  rw [hZ] at hal hz2
  have hzs : Z.size = 32 := by rw [← Array.length_toList, hz2]; rfl
  have b0 := (Blk.new w 35 (txV A1 c1 A2 c2 t)).alloc (.cells Z 23)
  have bz := Blk.new (w.alloc (.cells (txV A1 c1 A2 c2 t) 35)) 23 Z
  have B0 : Below w.heap.size w ((w.alloc (.cells (txV A1 c1 A2 c2 t) 35)).alloc (.cells Z 23)) := ((Below.refl _ w).alloc (Nat.le_refl _) _).alloc (by simp) _
  simp only [World.size_alloc] at hal bz
  obtain ⟨W, hW⟩ : ∃ W, (w.alloc (.cells (txV A1 c1 A2 c2 t) 35)).alloc (.cells Z 23) = W := ⟨_, rfl⟩
  obtain ⟨g, hg⟩ : ∃ g, w.heap.size = g := ⟨_, rfl⟩
  rw [hW] at B0 hal
  rw [hW, hg] at b0 bz
  rw [hg] at hal
  have hgW : g < W.heap.size := b0.lt
  have hT := h.below B0
  have q0 : W.cell? ⟨g, 0, none⟩ = some (.slice A1 t.ins.length c1) := b0.cell 0
  have q1 : W.cell? ⟨g, 1, none⟩ = some (.slice A2 t.outs.length c2) := b0.cell 1
  have q2 : W.cell? ⟨g, 2, none⟩ = some (.int .u64 t.fee) := b0.cell 2
  have q3 : W.cell? ⟨g, 3, none⟩ = some (.int .i64 t.exp) := b0.cell 3
  have hput := txput_any A1 c1 A2 c2 t W hT hl hl2
  obtain ⟨D, hD⟩ : ∃ D, idP t = D := ⟨_, rfl⟩
  have hD32 : (bys D).length = 32 := by rw [bys_length, ← hD]; exact idP_len t
  rw [hD]
  have HD := Lib.hid hD
  have HD32 := Lib.hid hD32
  have HW := Lib.hid hW
  have HG := Lib.hid hg
  have HB0 := Lib.hid B0
  have HBZ := Lib.hid bz
  have HZ := Lib.hid hzs
  have HGL := Lib.hid (hgl.below B0)
  have hpb : ∀ x ∈ putP t, 0 ≤ x ∧ x ≤ 255 := putP_bd h.bd
  have hpl : (putP t).length ≤ 2660 := putP_len h.bd
  have HPB := Lib.hid hpb
  have HPUT := Lib.hid hput
  obtain ⟨R, hR⟩ : ∃ R, checkP t = R := ⟨_, rfl⟩
  rw [hR] at HPUT
  have HR := Lib.hid hR
  clear hD hD32 hW hg B0 bz hzs hgl hpb hput hR b0 hz1 hz2 hZ h hl hl2 hT
  unfold txV at HW HPUT hal ⊢
  by_cases hR0 : R = 0
  · subst hR0
    have hid := idP_put t HR.out
    rw [HD.out] at hid
    have HID := Lib.hid hid
    clear hid
    go_enter Tryd.func38, Tryd.ntmps38
    go_upto_region 1 with fail
    rw [HG.out]
    go_wp2_with fail
    with_reducible refine HPUT.out.mono ?_
    rintro e w1 ⟨v, rfl, hv, hB1⟩
    obtain ⟨Af, cf, hvv, hby, hA0, hcf⟩ := hv.byt HPB.out
    have hcn : Af = none → cf = 0 := fun e => by subst e; subst hvv; exact Own8.nulI hv
    subst hvv
    have bw2 := Blk.new w1 51 #[.slice Af (putP t).length cf]
    have B2 : Below w1.heap.size w1 (w1.alloc (.cells #[.slice Af (putP t).length cf] 51)) := (Below.refl _ w1).alloc (Nat.le_refl _) _
    have hgl2 := (HGL.out.below hB1).below B2
    have hby2 := hby.below B2
    have hsz1 := hB1.size
    have B2W := hB1.trans (B2.mono hsz1)
    obtain ⟨w2, hw2⟩ : ∃ w2, w1.alloc (.cells #[.slice Af (putP t).length cf] 51) = w2 := ⟨_, rfl⟩
    rw [hw2] at bw2 hgl2 hby2 B2W
    have hun := under_one 8 (by omega) w1.heap.size 0 1 Af cf hcn (putP t) w2 bw2.lt (bw2.cell 0) hby2 (by omega) hgl2
    rw [← HID.out] at hun
    obtain ⟨np, hnp⟩ : ∃ np, (putP t).length = np := ⟨_, rfl⟩
    rw [hnp] at hw2 ⊢
    have HW2 := Lib.hid hw2
    have HB2W := Lib.hid B2W
    clear hv hby hA0 hcf hcn bw2 B2 hgl2 hby2 hsz1 B2W hw2 hB1 hnp
    go_wp2_with fail
    rw [HW2.out]
    with_reducible refine hun.mono ?_
    rintro e w3 ⟨rfl, hB3⟩
    have hB3W := HB2W.out.trans (hB3.mono HB2W.out.size)
    have hbz := HBZ.out.fr (Fr.of_below hB3W) (by have := HBZ.out.lt; omega)
    have hst := STs_blk (P := Tryd.prog) (t := 23) i123 hbz (off := 0) (bys D) HD32.out (by rw [HZ.out]; omega) (bys_one _)
    rw [splice_whole _ _ (by rw [HD32.out, HZ.out])] at hst
    have HB3W := Lib.hid hB3W
    have HB3 := Lib.hid hbz
    clear hun hB3 hB3W hbz
    go_wp2_with fail
    exact bodyPost_ret (results_arr rfl _ _ (g + 1) 23 (bys D) _ rfl (HB3.out.row_ _) undId' rfl (by rw [HD32.out]; exact i123)) rfl ⟨rfl, Below.setRow (HB0.out.trans (HB3W.out.mono HB0.out.size)) (by rw [HG.out]; omega) _⟩
  · have hid : D = List.replicate 32 0 := by rw [← HD.out]; unfold idP; rw [HR.out, if_neg hR0]
    subst hid
    go_enter Tryd.func38, Tryd.ntmps38
    go_upto_region 1 with fail
    rw [HG.out]
    go_wp2_with fail
    with_reducible refine HPUT.out.mono ?_
    rintro e w1 ⟨v, rfl, hv, hB1⟩
    have hbz := HBZ.out.fr (Fr.of_below hB1) (by have := HBZ.out.lt; omega)
    have hst := STs_blk (P := Tryd.prog) (t := 23) i123 hbz (off := 0) (bys (List.replicate 32 0)) HD32.out (by rw [HZ.out]; omega) (bys_one _)
    rw [splice_whole _ _ (by rw [HD32.out, HZ.out])] at hst
    have hb0 := fun W => bdId_0 W
    obtain ⟨ys, hys⟩ : ∃ ys, bys (List.replicate 32 0) = ys := ⟨_, rfl⟩
    rw [hys] at hst hb0 HD32
    have HYS := Lib.hid hys
    have HB1 := Lib.hid hB1
    have HB3 := Lib.hid hbz
    clear hv hB1 hbz hys
    go_wp2_with fail
    exact bodyPost_ret (results_arr rfl _ _ (g + 1) 23 ys _ rfl (HB3.out.row_ _) undId' rfl (by rw [HD32.out]; exact i123)) rfl ⟨by rw [← HYS.out], Below.setRow (HB0.out.trans (HB1.out.mono HB0.out.size)) (by rw [HG.out]; omega) _⟩
end Go.Proofs.YtmflhidmhefljaaDoor
