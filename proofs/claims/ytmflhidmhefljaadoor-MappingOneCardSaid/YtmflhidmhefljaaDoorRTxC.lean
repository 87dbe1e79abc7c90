/-
  seisinref07.Id.
-/
import Derived.Test.YtmflhidmhefljaaDoorRTxB
import Derived.Test.YtmflhidmhefljaaDoorRTxA
namespace Go.Proofs.YtmflhidmhefljaaDoor
open Go.RowKit Go.Shelf
set_option maxRecDepth 100000
attribute [local go_sem ↓] ld123 st123 al123 apt22_of

set_option maxHeartbeats 4000000 in
theorem rid_any (A1 : Option Addr) (c1 : Nat) (A2 : Option Addr) (c2 : Nat) (t : TxD) (w : World) (h : TxAt w A1 A2 t) (hck : checkP t = 0) :
    Calls Tryd.prog 29 #[.agg (txV A1 c1 A2 c2 t)] w fun e w' => e = .returned (.agg (bys (idP t)).toArray) ∧ Below w.heap.size w w' := by
  obtain ⟨z, hz1, hz2⟩ := Option.map_eq_some_iff.1 z123
  have hal := ALs_new (P := Tryd.prog) (t := 23) z hz1 (w.alloc (.cells (txV A1 c1 A2 c2 t) 35))
  obtain ⟨Z, hZ⟩ : ∃ Z, z.cells = Z := ⟨_, rfl⟩
  rw [hZ] at hal hz2
  have hzs : Z.size = 32 := by rw [← Array.length_toList, hz2]; rfl
  have b0 := (Blk.new w 35 (txV A1 c1 A2 c2 t)).alloc (.cells Z 23)
  have bz := Blk.new (w.alloc (.cells (txV A1 c1 A2 c2 t) 35)) 23 Z
  have B0 : Below w.heap.size w ((w.alloc (.cells (txV A1 c1 A2 c2 t) 35)).alloc (.cells Z 23)) := ((Below.refl _ w).alloc (Nat.le_refl _) _).alloc (by simp) _
  simp only [World.size_alloc] at hal bz
  obtain ⟨W, hW⟩ : ∃ W, (w.alloc (.cells (txV A1 c1 A2 c2 t) 35)).alloc (.cells Z 23) = W := ⟨_, rfl⟩
  obtain ⟨g, hg⟩ : ∃ g, w.heap.size = g := ⟨_, rfl⟩
  rw [hW] at B0 hal
  rw [hW, hg] at b0 bz
  rw [hg] at hal
  -- the mark
  have hm := own8_lit (B := W.heap.size) W [8] (Nat.le_refl _) (by simp)
  have B1 : Below W.heap.size W (W.alloc (.cells (bys [8]).toArray 5)) := (Below.refl _ W).alloc (Nat.le_refl _) _
  have b01 := b0.alloc (.cells (bys [8]).toArray 5)
  have bz1 := bz.alloc (.cells (bys [8]).toArray 5)
  obtain ⟨X, hX⟩ : ∃ X, W.alloc (.cells (bys [8]).toArray 5) = X := ⟨_, rfl⟩
  rw [hX] at hm B1 b01 bz1
  rw [show ([8] : List Int).length = 1 from rfl] at hm
  rw [show (bys [8]).toArray = #[.int .u8 8] from rfl] at hX
  have B1w := B0.trans (B1.mono B0.size)
  have hT := h.below B1w
  have q0 : X.cell? ⟨g, 0, none⟩ = some (.slice A1 t.ins.length c1) := b01.cell 0
  have q1 : X.cell? ⟨g, 1, none⟩ = some (.slice A2 t.outs.length c2) := b01.cell 1
  have q2 : X.cell? ⟨g, 2, none⟩ = some (.int .u64 t.fee) := b01.cell 2
  have q3 : X.cell? ⟨g, 3, none⟩ = some (.int .i64 t.exp) := b01.cell 3
  have q0w : (W.alloc (.cells #[.int .u8 8] 5)).cell? ⟨g, 0, none⟩ = some (.slice A1 t.ins.length c1) := by rw [hX]; exact q0
  have q1w : (W.alloc (.cells #[.int .u8 8] 5)).cell? ⟨g, 1, none⟩ = some (.slice A2 t.outs.length c2) := by rw [hX]; exact q1
  have q2w : (W.alloc (.cells #[.int .u8 8] 5)).cell? ⟨g, 2, none⟩ = some (.int .u64 t.fee) := by rw [hX]; exact q2
  have q3w : (W.alloc (.cells #[.int .u8 8] 5)).cell? ⟨g, 3, none⟩ = some (.int .i64 t.exp) := by rw [hX]; exact q3
  have hlong := (checkP_ok hck).1
  have hput := rput_any A1 c1 A2 c2 t X hT hlong
  have hfl := formTx_len h.bd hlong
  have hfb := formTx_bd h.bd hlong
  have hid := idP_put t hck
  have hpp : putP t = formTx t := by unfold putP; rw [if_pos hck]
  rw [hpp] at hid
  obtain ⟨D, hD⟩ : ∃ D, idP t = D := ⟨_, rfl⟩
  have hD32 : (bys D).length = 32 := by rw [bys_length, ← hD]; exact idP_len t
  rw [hD] at hid ⊢
  have HID := Lib.hid hid
  have HD32 := Lib.hid hD32
  have HW := Lib.hid hW
  have HX := Lib.hid hX
  have HG := Lib.hid hg
  have HBX := Lib.hid B1
  have HBZ0 := Lib.hid bz
  have HB0 := Lib.hid B0
  have HB1w := Lib.hid B1w
  have HBZ := Lib.hid bz1
  have HZ := Lib.hid hzs
  have HPUT := Lib.hid hput
  have HFB := Lib.hid hfb
  have HFL := Lib.hid hfl
  have HM := Lib.hid hm
  have hge : g + 1 < X.heap.size := bz1.lt
  have HWS : W.heap.size ≤ X.heap.size := B1.size
  have hwW : w.heap.size ≤ W.heap.size := B0.size
  clear hD hD32 hW hX hg B0 B1 B1w bz bz1 hzs hput b0 b01 hz1 hz2 hZ h hT hid hpp hck hlong hfb hfl hm
  unfold txV at HW HPUT hal ⊢
  go_enter Tryd.func29, Tryd.ntmps29
  go_upto_region 1 with fail
  rw [HG.out]
  go_wp2_with fail
  rw [HX.out]
  with_reducible refine HPUT.out.mono ?_
  rintro e w1 ⟨v, rfl, hv, hB1⟩
  obtain ⟨Af, cf, rfl, hby, _, hcf⟩ := hv.byt HFB.out
  have hlg := rlong_any Af cf (fun e => by subst e; exact Own8.nulI hv) (formTx t) w1 hby (by have := HFL.out; omega)
  have hm1 := HM.out.kept hB1
  obtain ⟨np, hnp⟩ : ∃ np, (formTx t).length = np := ⟨_, rfl⟩
  rw [hnp] at hlg ⊢
  have HNP := Lib.hid hnp
  have HB1 := Lib.hid hB1
  have HM1 := Lib.hid hm1
  clear hv hby hcf hm1 hB1 hnp
  go_wp2_with fail
  with_reducible refine hlg.mono ?_
  rintro e w2 ⟨v2, rfl, hv2, hB2⟩
  obtain ⟨Al, Nl, cl, rfl⟩ := hv2.formN
  have hB2X := HB1.out.trans (hB2.mono HB1.out.size)
  obtain ⟨A', N', c', w3, hap, ho, hf, hft⟩ := app8NO (ty := 51) (HM1.out.kept hB2) hv2 (bd_app (be4P_bd _) HFB.out) (by have := HFL.out; have := HNP.out; simp only [List.length_append, be4P_len, List.length_cons, List.length_nil]; omega) (Nat.le_trans HWS hB2X.size)
  have hB2W := HBX.out.trans (hB2X.mono HWS)
  have hB3 : Below W.heap.size W w3 := hB2W.trans (hf.below hB2W.size (fun k hk e => by have := (HM1.out.lt e).1; omega))
  have hb3 : ∀ x ∈ [8] ++ (be4P np ++ formTx t), 0 ≤ x ∧ x ≤ 255 := bd_app (by simp) (bd_app (be4P_bd _) HFB.out)
  obtain ⟨Ay, cy, ey, hby3, _, _⟩ := ho.byt hb3
  simp only [Value.slice.injEq] at ey
  obtain ⟨rfl, rfl, rfl⟩ := ey
  have hof := rof_any A' c' (fun e => by subst e; exact Own8.nulI ho) _ w3 hby3 (by have := HFL.out; have := HNP.out; simp only [List.length_append, be4P_len, List.length_cons, List.length_nil]; omega)
  have hidd := HID.out
  rw [HNP.out, show (8 : Int) :: (be4P np ++ formTx t) = [8] ++ (be4P np ++ formTx t) from rfl] at hidd
  rw [← hidd] at hof
  obtain ⟨N', hN'⟩ : ∃ N', ([8] ++ (be4P np ++ formTx t)).length = N' := ⟨_, rfl⟩
  rw [hN'] at hof hap
  have HB3 := Lib.hid hB3
  clear hv2 hB2 hB2X ho hf hft hB2W hB3 hb3 hby3 hidd hN' hlg
  go_wp2_with fail
  with_reducible refine hof.mono ?_
  rintro e w4 ⟨rfl, hB4⟩
  have hB4W := HB3.out.trans (hB4.mono HB3.out.size)
  have hbz := HBZ0.out.fr (Fr.of_below hB4W) (by have := HBZ0.out.lt; omega)
  have hst := STs_blk (P := Tryd.prog) (t := 23) i123 hbz (off := 0) (bys D) HD32.out (by rw [HZ.out]; omega) (bys_one _)
  rw [splice_whole _ _ (by rw [HD32.out, HZ.out])] at hst
  have HB4W := Lib.hid hB4W
  have HB4 := Lib.hid hbz
  clear hof hB4 hB4W hbz
  go_wp2_with fail
  exact bodyPost_ret (results_arr rfl _ _ (g + 1) 23 (bys D) _ rfl (HB4.out.row_ _) undId' rfl (by rw [HD32.out]; exact i123)) rfl ⟨rfl, Below.setRow (HB0.out.trans (HB4W.out.mono HB0.out.size)) (by rw [HG.out]; omega) _⟩
end Go.Proofs.YtmflhidmhefljaaDoor
