/-
  The document's tree: id, Leaf, Node.
  The document's tree: half, Root and Path of three leaves.
  The document's digests under a key: Of, Sign.
-/
import Derived.Test.YtmflhidmhefljaaGreatDoorJTreeA
import Derived.Test.YtmflhidmhefljaaGreatDoorJRTxB
import Derived.Test.YtmflhidmhefljaaGreatDoorJTagB
import Derived.Test.YtmflhidmhefljaaGreatDoorJTreeB

section
namespace Go.Proofs.YtmflhidmhefljaaGreatDoor
open Go.RowKit Go.Shelf
set_option maxRecDepth 100000
attribute [local go_sem ↓] ld123 st123 al123 apt22_of SLs_of
set_option maxHeartbeats 4000000 in
theorem r5id_any (tx : List Int) (htx : tx.length = 32) (hb : ∀ x ∈ tx, 0 ≤ x ∧ x ≤ 255) (w : World) :
    Calls Tryz.prog 90 #[.agg (bys tx).toArray] w fun e w' => ∃ v, e = .returned v ∧ Own8 w.heap.size w' v tx ∧ Below w.heap.size w w' := by
  have b0 := Blk.new w 41 (bys tx).toArray
  have B0 : Below w.heap.size w (w.alloc (.cells (bys tx).toArray 41)) := (Below.refl _ w).alloc (Nat.le_refl _) _
  obtain ⟨W, hW⟩ : ∃ W, w.alloc (.cells (bys tx).toArray 41) = W := ⟨_, rfl⟩
  rw [hW] at b0 B0
  obtain ⟨g, hgg⟩ : ∃ g, w.heap.size = g := ⟨_, rfl⟩
  rw [hgg] at b0
  have HW := Lib.hid hW
  have HB0 := Lib.hid b0
  have BB := Lib.hid B0
  have HTX := Lib.hid htx
  have HB := Lib.hid hb
  have HGG := Lib.hid hgg
  clear hW b0 B0 htx hb hgg
  go_enter Tryz.func90, Tryz.ntmps90
  go_upto_region 1 with fail
  rw [HW.out, HGG.out]
  go_wp2_with fail
  go_loopg [3, 4] 32 (fun kk v t wr => ∃ (i : Nat) (A : Option Addr) (c : Nat), i + kk = 32 ∧ t = .int .i64 (i : Int) ∧ v = .slice A i c ∧ Own8 w.heap.size wr v (tx.take i) ∧ Below w.heap.size w wr ∧ Blk wr g 41 (bys tx).toArray)
  case atStart => exact ⟨0, none, 0, by omega, rfl, rfl, by simpa using Own8.nil _ _, BB.out, HB0.out⟩
  case round =>
    obtain ⟨i, A, c, hi, rfl, rfl, ho, hB, hb0⟩ := hrel
    by_cases h32 : i < 32
    · have h32I : (i : Int) < 32 := by omega
      have hil : i < tx.length := by rw [HTX.out]; exact h32
      have hxb := HB.out _ (List.getElem_mem hil)
      have htk : tx.take (i + 1) = tx.take i ++ [tx[i]] := List.take_succ_eq_append_getElem hil
      have hcx : wr.cell? ⟨g, i, none⟩ = some (.int .u8 tx[i]) := by
        rw [hb0.cell i]
        simp only [List.getElem?_toArray]
        rw [bys_get, List.getElem?_eq_getElem hil]
        rfl
      obtain ⟨x, hx⟩ : ∃ x, tx[i] = x := ⟨_, rfl⟩
      rw [hx] at hxb htk hcx
      obtain ⟨v', w', hap, ho2, hf, _⟩ := app8_one (ty := 22) ho hxb (by rw [List.length_take]; omega) hB.size
      obtain ⟨A2, c2, e2⟩ := ho2.form
      rw [← htk, List.length_take, HTX.out, Nat.min_eq_left (by omega)] at e2
      subst e2
      rw [← htk] at ho2
      have hbl : Below w.heap.size w w' := hB.trans (hf.below hB.size (fun k hk e => by have := (ho.lt e).1; omega))
      have hb2 := hb0.fr hf (fun e => own8_ne ho hb0 (by decide) e)
      have HO := Lib.hid ho2
      have HBL := Lib.hid hbl
      have HB2 := Lib.hid hb2
      clear ho hB hb0 ho2 hf hbl hb2 htk hx
      go_wp2_with fail
      go_roundg (32 - (i + 1))
      case measure => omega
      case rel => exact ⟨i + 1, A2, c2, by omega, by go_num, rfl, HO.out, HBL.out, HB2.out⟩
    · obtain rfl : i = 32 := by omega
      have h32I : ¬ (((32 : Nat) : Int) < 32) := by omega
      rw [List.take_of_length_le (by rw [HTX.out]; exact Nat.le_refl _)] at ho
      have HO := Lib.hid ho
      have HBL := Lib.hid hB
      clear ho hB hb0
      go_wp2_with fail
      go_ret
      exact ⟨_, rfl, HO.out, HBL.out⟩

set_option maxHeartbeats 4000000 in
theorem rleaf_any (A : Option Addr) (c : Nat) (hc : A = none → c = 0) (b : List Int) (w : World) (hb : Byt w A b) (hl : b.length ≤ 10000000) :
    Calls Tryz.prog 56 #[.slice A b.length c] w fun e w' => e = .returned (.agg (bys (leafP b)).toArray) ∧ Below w.heap.size w w' := by
  obtain ⟨z, hz1, hz2⟩ := Option.map_eq_some_iff.1 z123
  have hal := ALs_new (P := Tryz.prog) (t := 41) z hz1 w
  obtain ⟨Z, hZ⟩ : ∃ Z, z.cells = Z := ⟨_, rfl⟩
  rw [hZ] at hal hz2
  have hzs : Z.size = 32 := by rw [← Array.length_toList, hz2]; rfl
  have bz := Blk.new w 41 Z
  have B0 : Below w.heap.size w (w.alloc (.cells Z 41)) := (Below.refl _ w).alloc (Nat.le_refl _) _
  obtain ⟨W, hW⟩ : ∃ W, w.alloc (.cells Z 41) = W := ⟨_, rfl⟩
  obtain ⟨g, hgg⟩ : ∃ g, w.heap.size = g := ⟨_, rfl⟩
  rw [hW] at B0 hal
  rw [hW, hgg] at bz
  rw [hgg] at hal
  have hm := own8_lit (B := W.heap.size) W [1] (Nat.le_refl _) (by simp)
  have B1 : Below W.heap.size W (W.alloc (.cells (bys [1]).toArray 5)) := (Below.refl _ W).alloc (Nat.le_refl _) _
  have bz1 := bz.alloc (.cells (bys [1]).toArray 5)
  obtain ⟨X, hX⟩ : ∃ X, W.alloc (.cells (bys [1]).toArray 5) = X := ⟨_, rfl⟩
  rw [hX] at hm B1 bz1
  rw [show ([1] : List Int).length = 1 from rfl] at hm
  rw [show (bys [1]).toArray = #[.int .u8 1] from rfl] at hX
  have B1w := B0.trans (B1.mono B0.size)
  have hlg := rlong_any A c hc b X (hb.below B1w) (by omega)
  have hbb := hb.bd
  have hid := leafP_eq b
  obtain ⟨D, hD⟩ : ∃ D, leafP b = D := ⟨_, rfl⟩
  have hD32 : (bys D).length = 32 := by rw [bys_length, ← hD]; exact (Dig.leaf b).1
  rw [hD] at hid ⊢
  obtain ⟨np, hnp⟩ : ∃ np, b.length = np := ⟨_, rfl⟩
  rw [hnp] at hlg hl hid ⊢
  have HNP := Lib.hid hnp
  have HBB := Lib.hid hbb
  have HID := Lib.hid hid
  have HD32 := Lib.hid hD32
  have HW := Lib.hid hW
  have HX := Lib.hid hX
  have HG := Lib.hid hgg
  have HBX := Lib.hid B1
  have HB0 := Lib.hid B0
  have HBZ := Lib.hid bz1
  have HBZ0 := Lib.hid bz
  have HZ := Lib.hid hzs
  have HM := Lib.hid hm
  have HWS : W.heap.size ≤ X.heap.size := B1.size
  clear hD hD32 hW hX hgg B0 B1 B1w bz bz1 hzs hz1 hz2 hZ hid hm hb hbb hnp
  go_enter Tryz.func56, Tryz.ntmps56
  go_upto_region 1 with fail
  go_wp2_with fail
  rw [HX.out]
  with_reducible refine hlg.mono ?_
  rintro e w2 ⟨v2, rfl, hv2, hB2⟩
  obtain ⟨Al, Nl, cl, rfl⟩ := hv2.formN
  obtain ⟨A', N', c', w3, hap, ho, hf, hft⟩ := app8NO (ty := 22) (HM.out.kept hB2) hv2 (bd_app (be4P_bd _) HBB.out) (by have := HNP.out; simp only [List.length_append, be4P_len, List.length_cons, List.length_nil]; omega) (Nat.le_trans HWS hB2.size)
  have hB2W := HBX.out.trans (hB2.mono HWS)
  have hB3 : Below W.heap.size W w3 := hB2W.trans (hf.below hB2W.size (fun k hk e => by have := (HM.out.lt e).1; omega))
  have hb3 : ∀ x ∈ [1] ++ (be4P np ++ b), 0 ≤ x ∧ x ≤ 255 := bd_app (by simp) (bd_app (be4P_bd _) HBB.out)
  obtain ⟨Ay, cy, ey, hby3, _, _⟩ := ho.byt hb3
  simp only [Value.slice.injEq] at ey
  obtain ⟨rfl, rfl, rfl⟩ := ey
  have hof := rof_any A' c' (fun e => by subst e; exact Own8.nulI ho) _ w3 hby3 (by have := HNP.out; simp only [List.length_append, be4P_len, List.length_cons, List.length_nil]; omega)
  have hidd := HID.out
  rw [show (1 : Int) :: (be4P np ++ b) = [1] ++ (be4P np ++ b) from rfl] at hidd
  rw [← hidd] at hof
  obtain ⟨N', hN'⟩ : ∃ N', ([1] ++ (be4P np ++ b)).length = N' := ⟨_, rfl⟩
  rw [hN'] at hof hap
  have HB3 := Lib.hid hB3
  clear hv2 hB2 ho hf hft hB2W hB3 hb3 hby3 hidd hN' hlg
  go_wp2_with fail
  with_reducible refine hof.mono ?_
  rintro e w4 ⟨rfl, hB4⟩
  have hB4W := HB3.out.trans (hB4.mono HB3.out.size)
  have hbz := HBZ0.out.fr (Fr.of_below hB4W) (by have := HBZ0.out.lt; omega)
  have hst := STs_blk (P := Tryz.prog) (t := 41) i123 hbz (off := 0) (bys D) HD32.out (by rw [HZ.out]; omega) (bys_one _)
  rw [splice_whole _ _ (by rw [HD32.out, HZ.out])] at hst
  have HB4W := Lib.hid hB4W
  have HB4 := Lib.hid hbz
  clear hof hB4 hB4W hbz
  go_wp2_with fail
  exact bodyPost_ret (results_arr rfl _ _ g 41 (bys D) _ rfl (HB4.out.row_ _) undId' rfl (by rw [HD32.out]; exact i123)) rfl ⟨rfl, Below.setRow (HB0.out.trans (HB4W.out.mono HB0.out.size)) (by rw [HG.out]; omega) _⟩

theorem nodeP_eq (a b : List Int) : nodeP a b = shaP (([2] ++ (be4P a.length ++ a)) ++ (be4P b.length ++ b)) := by
  unfold nodeP underP underL
  simp

set_option maxHeartbeats 4000000 in
theorem rnode_any (a b : List Int) (ha : Dig a) (hb : Dig b) (w : World) :
    Calls Tryz.prog 55 #[.agg (bys a).toArray, .agg (bys b).toArray] w fun e w' => e = .returned (.agg (bys (nodeP a b)).toArray) ∧ Below w.heap.size w w' := by
  have b1 := Blk.new w 41 (bys a).toArray
  have B1 : Below w.heap.size w (w.alloc (.cells (bys a).toArray 41)) := (Below.refl _ w).alloc (Nat.le_refl _) _
  obtain ⟨W1, hW1⟩ : ∃ W, w.alloc (.cells (bys a).toArray 41) = W := ⟨_, rfl⟩
  rw [hW1] at b1 B1
  have b2 := Blk.new W1 41 (bys b).toArray
  have B2 : Below w.heap.size w (W1.alloc (.cells (bys b).toArray 41)) := B1.alloc B1.size _
  have b12 := b1.alloc (.cells (bys b).toArray 41)
  obtain ⟨W2, hW2⟩ : ∃ W, W1.alloc (.cells (bys b).toArray 41) = W := ⟨_, rfl⟩
  rw [hW2] at b2 B2 b12
  obtain ⟨z, hz1, hz2⟩ := Option.map_eq_some_iff.1 z123
  have hal := ALs_new (P := Tryz.prog) (t := 41) z hz1 W2
  obtain ⟨Z, hZ⟩ : ∃ Z, z.cells = Z := ⟨_, rfl⟩
  rw [hZ] at hal hz2
  have hzs : Z.size = 32 := by rw [← Array.length_toList, hz2]; rfl
  have bz := Blk.new W2 41 Z
  have B3 : Below w.heap.size w (W2.alloc (.cells Z 41)) := B2.alloc B2.size _
  have ba := b12.alloc (.cells Z 41)
  have bb := b2.alloc (.cells Z 41)
  obtain ⟨W, hW⟩ : ∃ W, W2.alloc (.cells Z 41) = W := ⟨_, rfl⟩
  rw [hW] at bz B3 ba bb hal
  have hm := own8_lit (B := W.heap.size) W [2] (Nat.le_refl _) (by simp)
  have BX : Below W.heap.size W (W.alloc (.cells (bys [2]).toArray 5)) := (Below.refl _ W).alloc (Nat.le_refl _) _
  obtain ⟨X, hX⟩ : ∃ X, W.alloc (.cells (bys [2]).toArray 5) = X := ⟨_, rfl⟩
  rw [hX] at hm BX
  rw [show ([2] : List Int).length = 1 from rfl] at hm
  rw [show (bys [2]).toArray = #[.int .u8 2] from rfl] at hX
  have hgab : W1.heap.size = w.heap.size + 1 := by rw [← hW1]; simp
  rw [hgab] at bb
  rw [← hW2, ← hW1] at hal
  obtain ⟨ga, hga⟩ : ∃ g, w.heap.size = g := ⟨_, rfl⟩
  obtain ⟨gz, hgz⟩ : ∃ g, W2.heap.size = g := ⟨_, rfl⟩
  have hle : ga ≤ gz := by rw [← hga, ← hgz]; exact B2.size
  rw [hga] at ba bb
  rw [hW1, hW2] at hal
  rw [hgz] at bz hal
  rw [← hW2, ← hW1] at hal
  have hya : (bys a).length = 32 := by rw [bys_length, ha.1]
  have hyb : (bys b).length = 32 := by rw [bys_length, hb.1]
  have hla := fun Y (hY : Below W.heap.size W Y) => LDs_aggB (P := Tryz.prog) uIdA iId (ba.fr (Fr.of_below hY) (by have := ba.lt; omega)) (off := 0) (bys a) hya (by simp [List.take_of_length_le, hya])
  have hlb := fun Y (hY : Below W.heap.size W Y) => LDs_aggB (P := Tryz.prog) uIdA iId (bb.fr (Fr.of_below hY) (by have := bb.lt; omega)) (off := 0) (bys b) hyb (by simp [List.take_of_length_le, hyb])
  have hid := nodeP_eq a b
  obtain ⟨D, hD⟩ : ∃ D, nodeP a b = D := ⟨_, rfl⟩
  have hD32 : (bys D).length = 32 := by rw [bys_length, ← hD]; exact (Dig.node a b).1
  rw [hD] at hid ⊢
  obtain ⟨ya, hya'⟩ : ∃ y, (bys a).toArray = y := ⟨_, rfl⟩
  obtain ⟨yb, hyb'⟩ : ∃ y, (bys b).toArray = y := ⟨_, rfl⟩
  have hba := ha.2
  have hbb := hb.2
  have hna := ha.1
  have hnb := hb.1
  have r1 := r5id_any a ha.1 ha.2
  have r2 := r5id_any b hb.1 hb.2
  rw [hya'] at hW1 hla r1 ⊢
  rw [hyb'] at hW2 hlb r2 ⊢
  rw [hya', hyb'] at hal
  have HID := Lib.hid hid
  have HD32 := Lib.hid hD32
  have HX := Lib.hid hX
  have HGA := Lib.hid hga
  have HBX := Lib.hid BX
  have HB0 := Lib.hid B3
  have HBZ0 := Lib.hid bz
  have HZ := Lib.hid hzs
  have HM := Lib.hid hm
  have HLA := Lib.hid hla
  have HLB := Lib.hid hlb
  have HBA := Lib.hid hba
  have HBB := Lib.hid hbb
  have HR2 := Lib.hid r2
  have l1 := hla X BX
  have HWS : W.heap.size ≤ X.heap.size := BX.size
  have c1 := r1 X
  clear hD hD32 hW hW1 hW2 hX hga hgz B3 bz hzs hid hm hla hlb hba hbb r1 r2 b1 B1 b2 B2 b12 ba bb hz1 hz2 hZ hya hyb hya' hyb' BX ha hb hgab
  go_enter Tryz.func55, Tryz.ntmps55
  go_upto_region 1 with fail
  rw [HGA.out]
  rw [← HX.out] at l1
  go_wp2_with fail
  rw [HX.out]
  with_reducible refine c1.mono ?_
  rintro e w2 ⟨v2, rfl, hv2, hB2⟩
  obtain ⟨A2, c2, rfl, hby, _, _⟩ := hv2.byt HBA.out
  have c3 := rlong_any A2 c2 (fun e => by subst e; exact Own8.nulI hv2) a w2 hby (by omega)
  have hm2 := HM.out.kept hB2
  have HM2 := Lib.hid hm2
  have HB2 := Lib.hid (HBX.out.trans (hB2.mono HWS))
  rw [hna] at c3 HID ⊢
  clear hv2 hby hm2 hB2 c1 l1 HLA
  go_wp2_with fail
  with_reducible refine c3.mono ?_
  rintro e w3 ⟨v3, rfl, hv3, hB3⟩
  obtain ⟨A3, N3, c3', rfl⟩ := hv3.formN
  have hB3W := HB2.out.trans (hB3.mono HB2.out.size)
  obtain ⟨A4, N4, c4, w4, hap4, ho4, hf4, _⟩ := app8NO (ty := 22) (HM2.out.kept hB3) hv3 (bd_app (be4P_bd _) HBA.out) (by simp only [List.length_append, be4P_len, List.length_cons, List.length_nil]; omega) hB3W.size
  have hB4 : Below W.heap.size W w4 := hB3W.trans (hf4.below hB3W.size (fun k hk e => by have := (HM2.out.lt e).1; omega))
  have l2 := HLB.out w4 hB4
  have c5 := HR2.out w4
  have HO4 := Lib.hid ho4
  have HB4 := Lib.hid hB4
  clear hv3 hB3 hB3W ho4 hf4 hB4 c3 HM2
  go_wp2_with fail
  with_reducible refine c5.mono ?_
  rintro e w5 ⟨v5, rfl, hv5, hB5⟩
  obtain ⟨A5, c5', rfl, hby5, _, _⟩ := hv5.byt HBB.out
  have c6 := rlong_any A5 c5' (fun e => by subst e; exact Own8.nulI hv5) b w5 hby5 (by omega)
  have HO5 := Lib.hid (HO4.out.kept hB5)
  have HB5 := Lib.hid (HB4.out.trans (hB5.mono HB4.out.size))
  rw [hnb] at c6 HID ⊢
  clear hv5 hby5 hB5 c5 l2 HLB
  go_wp2_with fail
  with_reducible refine c6.mono ?_
  rintro e w6 ⟨v6, rfl, hv6, hB6⟩
  obtain ⟨A6, N6, c6', rfl⟩ := hv6.formN
  have hB6W := HB5.out.trans (hB6.mono HB5.out.size)
  obtain ⟨A7, N7, c7, w7, hap7, ho7, hf7, _⟩ := app8NO (ty := 22) (HO5.out.kept hB6) hv6 (bd_app (be4P_bd _) HBB.out) (by simp only [List.length_append, be4P_len, List.length_cons, List.length_nil]; omega) hB6W.size
  have hB7 : Below W.heap.size W w7 := hB6W.trans (hf7.below hB6W.size (fun k hk e => by have := (HO5.out.lt e).1; omega))
  have hb7 : ∀ x ∈ ([2] ++ (be4P 32 ++ a)) ++ (be4P 32 ++ b), 0 ≤ x ∧ x ≤ 255 := bd_app (bd_app (by simp) (bd_app (be4P_bd _) HBA.out)) (bd_app (be4P_bd _) HBB.out)
  obtain ⟨Ay, cy, ey, hby7, _, _⟩ := ho7.byt hb7
  simp only [Value.slice.injEq] at ey
  obtain ⟨rfl, rfl, rfl⟩ := ey
  have hof := rof_any A7 c7 (fun e => by subst e; exact Own8.nulI ho7) _ w7 hby7 (by simp only [List.length_append, be4P_len, List.length_cons, List.length_nil]; omega)
  rw [← HID.out] at hof
  obtain ⟨N', hN'⟩ : ∃ N', (([2] ++ (be4P 32 ++ a)) ++ (be4P 32 ++ b)).length = N' := ⟨_, rfl⟩
  rw [hN'] at hof hap7
  have HB7 := Lib.hid hB7
  clear hv6 hB6 hB6W ho7 hf7 hB7 hb7 hby7 hN' c6 HO5
  go_wp2_with fail
  with_reducible refine hof.mono ?_
  rintro e w8 ⟨rfl, hB8⟩
  have hB8W := HB7.out.trans (hB8.mono HB7.out.size)
  have hbz := HBZ0.out.fr (Fr.of_below hB8W) (by have := HBZ0.out.lt; omega)
  have hst := STs_blk (P := Tryz.prog) (t := 41) i123 hbz (off := 0) (bys D) HD32.out (by rw [HZ.out]; omega) (bys_one _)
  rw [splice_whole _ _ (by rw [HD32.out, HZ.out])] at hst
  have HB8W := Lib.hid hB8W
  have HB9 := Lib.hid hbz
  clear hof hB8 hB8W hbz
  go_wp2_with fail
  exact bodyPost_ret (results_arr rfl _ _ gz 41 (bys D) _ rfl (HB9.out.row_ _) undId' rfl (by rw [HD32.out]; exact i123)) rfl ⟨rfl, Below.setRow (HB0.out.trans (HB8W.out.mono HB0.out.size)) (by rw [HGA.out]; exact hle) _⟩
end Go.Proofs.YtmflhidmhefljaaGreatDoor
end

section
namespace Go.Proofs.YtmflhidmhefljaaGreatDoor
open Go.RowKit Go.Shelf
set_option maxRecDepth 100000

theorem half_2 (w : World) : Calls Tryz.prog 64 #[.int .i64 2] w fun e w' => e = .returned (.int .i64 1) ∧ w = w' := by
  go_enter Tryz.func64, Tryz.ntmps64
  go_upto_region 2 with fail
  go_loopg [3] 1 (fun kk v wr => v = .int .i64 1 ∧ kk = 1 ∧ w = wr)
  case atStart => exact ⟨rfl, rfl, rfl⟩
  case round =>
    obtain ⟨rfl, _, rfl⟩ := hrel
    go_wp2_with fail
    go_ret
    exact ⟨rfl, rfl⟩
theorem half_3 (w : World) : Calls Tryz.prog 64 #[.int .i64 3] w fun e w' => e = .returned (.int .i64 2) ∧ w = w' := by
  go_enter Tryz.func64, Tryz.ntmps64
  go_upto_region 2 with fail
  go_loopg [3] 2 (fun kk v wr => ((v = .int .i64 1 ∧ kk = 2) ∨ (v = .int .i64 2 ∧ kk = 1)) ∧ w = wr)
  case atStart => exact ⟨.inl ⟨rfl, rfl⟩, rfl⟩
  case round =>
    obtain ⟨⟨rfl, hk⟩ | ⟨rfl, _⟩, rfl⟩ := hrel
    · go_wp2_with fail
      go_roundg 1
      case measure => omega
      case rel => exact ⟨.inr ⟨rfl, rfl⟩, rfl⟩
    · go_wp2_with fail
      go_ret
      exact ⟨rfl, rfl⟩

/-- At g, o lies a text. -/
def LfAt (w : World) (g o : Nat) (b : List Int) : Prop := g < w.heap.size ∧ ∃ A c, w.cell? ⟨g, o, none⟩ = some (.slice A b.length c) ∧ Byt w A b ∧ (A = none → c = 0)
theorem LfAt.below {w w' : World} {g o : Nat} {b : List Int} (h : LfAt w g o b) (hb : Below w.heap.size w w') : LfAt w' g o b := by
  obtain ⟨h0, A, c, h1, h2, h3⟩ := h
  exact ⟨Nat.lt_of_lt_of_le h0 hb.size, A, c, (hb.cell (p := ⟨g, o, none⟩) h0).trans h1, h2.below hb, h3⟩

section
attribute [local go_sem ↓] ld123 st123 al123 bdId_of
set_option maxHeartbeats 4000000 in
theorem root_1 (g o c : Nat) (b : List Int) (w : World) (h : LfAt w g o b) (hl : b.length ≤ 10000000) :
    Calls Tryz.prog 62 #[.slice (some ⟨g, o, none⟩) 1 c] w fun e w' => e = .returned (.agg (bys (leafP b)).toArray) ∧ Below w.heap.size w w' := by
  obtain ⟨Z, hal, hst0, hz⟩ := alstZ (P := Tryz.prog) (t := 41) iId zIdS
  have b0 := Blk.new w 41 (Z)
  have B0 : Below w.heap.size w (w.alloc (.cells (Z) 41)) := (Below.refl _ w).alloc (Nat.le_refl _) _
  obtain ⟨W, hW⟩ : ∃ W, w.alloc (.cells (Z) 41) = W := ⟨_, rfl⟩
  rw [hW] at b0 B0
  obtain ⟨g0, hg0⟩ : ∃ g0, w.heap.size = g0 := ⟨_, rfl⟩
  rw [hg0] at b0
  obtain ⟨h0, A, cb, h1, h2, h3⟩ := h.below B0
  have hleaf := rleaf_any A cb h3 b W h2 hl
  obtain ⟨D, hD⟩ : ∃ D, leafP b = D := ⟨_, rfl⟩
  have hDl : (bys D).length = 32 := by rw [bys_length, ← hD]; exact (Dig.leaf b).1
  rw [hD] at hleaf ⊢
  obtain ⟨n, hn⟩ : ∃ n, b.length = n := ⟨_, rfl⟩
  rw [hn] at hleaf h1
  have HW := Lib.hid hW
  have HG := Lib.hid hg0
  have HB := Lib.hid B0
  have HBK := Lib.hid b0
  have HDL := Lib.hid hDl
  clear hW hg0 B0 b0 hDl hD hn hl h h2 h3
  go_enter Tryz.func62, Tryz.ntmps62
  go_upto_region 1 with fail
  rw [HW.out, HG.out]
  go_wp2_with fail
  with_reducible refine hleaf.mono ?_
  rintro e w1 ⟨rfl, hB1⟩
  have hb1 := HBK.out.fr (Fr.of_below hB1) (by have := HBK.out.lt; omega)
  have hst := STs_all (P := Tryz.prog) iId hb1 hz (bys D) HDL.out (bys_one _)
  have q1 := hb1.row_ (bys D).toArray
  have q2 := Below.setRow (g := g0) (HB.out.trans (hB1.mono HB.out.size)) (by have := HG.out; omega) (bys D).toArray
  have Q1 := Lib.hid q1
  have Q2 := Lib.hid q2
  clear q1 q2 hB1 hb1 hleaf
  go_wp2_with fail
  exact bodyPost_ret (results_arr rfl _ _ g0 41 (bys D) _ rfl Q1.out undId' rfl (by rw [HDL.out]; exact iId)) rfl ⟨rfl, Q2.out⟩

set_option maxHeartbeats 4000000 in
theorem root_step (n k : Nat) (h2n : 2 ≤ n) (hn9 : n ≤ 9) (hk1 : 1 ≤ k) (hkn : k < n) (g o c : Nat) (hc : n ≤ c) (x y : List Int) (hx : Dig x) (hy : Dig y) (w : World)
    (hh : ∀ X, Calls Tryz.prog 64 #[.int .i64 (n : Int)] X fun e w' => e = .returned (.int .i64 (k : Int)) ∧ X = w')
    (c1 : ∀ X, Below w.heap.size w X → Calls Tryz.prog 62 #[.slice (some ⟨g, o, none⟩) k c] X fun e w' => e = .returned (.agg (bys x).toArray) ∧ Below X.heap.size X w')
    (c2 : ∀ X, Below w.heap.size w X → Calls Tryz.prog 62 #[.slice (some ⟨g, o + k, none⟩) (n - k) (c - k)] X fun e w' => e = .returned (.agg (bys y).toArray) ∧ Below X.heap.size X w') :
    Calls Tryz.prog 62 #[.slice (some ⟨g, o, none⟩) n c] w fun e w' => e = .returned (.agg (bys (nodeP x y)).toArray) ∧ Below w.heap.size w w' := by
  obtain ⟨Z, hal, hst0, hz⟩ := alstZ (P := Tryz.prog) (t := 41) iId zIdS
  have b0 := Blk.new w 41 (Z)
  have B0 : Below w.heap.size w (w.alloc (.cells (Z) 41)) := (Below.refl _ w).alloc (Nat.le_refl _) _
  obtain ⟨W, hW⟩ : ∃ W, w.alloc (.cells (Z) 41) = W := ⟨_, rfl⟩
  rw [hW] at b0 B0
  obtain ⟨g0, hg0⟩ : ∃ g0, w.heap.size = g0 := ⟨_, rfl⟩
  rw [hg0] at b0
  have hnode := fun X => rnode_any x y hx hy X
  obtain ⟨D, hD⟩ : ∃ D, nodeP x y = D := ⟨_, rfl⟩
  have hDl : (bys D).length = 32 := by rw [bys_length, ← hD]; exact (Dig.node x y).1
  simp only [hD] at hnode
  rw [hD]
  have n0 : ((n : Int) == 0) = false := by rw [beq_eq_false_iff_ne]; omega
  have n1 : ((n : Int) == 1) = false := by rw [beq_eq_false_iff_ne]; omega
  have kc : (k : Int) ≤ (c : Int) := by omega
  have kn : (k : Int) ≤ (n : Int) := by omega
  have k0 : (0 : Int) ≤ (k : Int) := by omega
  have ck : ¬ c = k := by omega
  have hh0 := hh W
  have cc1 := c1 W.drew B0.drew
  have HW := Lib.hid hW
  have HG := Lib.hid hg0
  have HB := Lib.hid B0
  have HBK := Lib.hid b0
  have HDL := Lib.hid hDl
  have HC2 := Lib.hid c2
  have HNODE := Lib.hid hnode
  clear hW hg0 B0 b0 hDl c2 hnode hD hx hy hh c1
  go_enter Tryz.func62, Tryz.ntmps62
  go_upto_region 1 with fail
  rw [HW.out, HG.out]
  go_wp2_with fail
  with_reducible refine hh0.mono ?_
  rintro e w1 ⟨rfl, rfl⟩
  clear hh0
  go_upto_region 6 with fail
  refine wp_txO [(0, 3), (1, 3), (2, 3), (4, 3), (5, 3), (6, 3), (3, 2), (7, 2), (8, 2), (9, 2)] (fun _ => True) (by kernel_rfl) (by kernel_rfl) (by kernel_rfl) (by kernel_rfl) trivial ?_
  iterate 6 (with_reducible refine wpTxO_evN (o := ?_) (v := ?_) (a' := ?_) (by with_unfolding_all rfl) (by with_unfolding_all rfl) (fun W' => ?_) ?_ ?_; rotate_left 2; (focus (go_simp <;> with_reducible rfl)); focus (go_simp <;> with_reducible rfl))
  with_reducible refine wpTxO_last (o := ?_) (by with_unfolding_all rfl) (by with_unfolding_all rfl) (fun K hK => ?_)
  try simp only [List.getElem_toArray, List.getElem_cons_succ, List.getElem_cons_zero]
  go_simp
  with_reducible refine cc1.mono ?_
  rintro e w3 ⟨rfl, hB3⟩
  have hB3V : Below W.heap.size W w3 := (Below.refl _ W).drew.trans hB3
  have hB3W := HB.out.trans (hB3V.mono HB.out.size)
  have cc2 := HC2.out w3 hB3W
  have HB3 := Lib.hid hB3V
  clear hB3V hB3W hB3 cc1
  with_reducible refine hK _ _ ?_
  clear hK K
  with_reducible refine wpTxO_last (o := ?_) (by with_unfolding_all rfl) (by with_unfolding_all rfl) (fun K hK => ?_)
  try simp only [List.getElem_toArray, List.getElem_cons_succ, List.getElem_cons_zero]
  go_simp
  with_reducible refine cc2.mono ?_
  rintro e w7 ⟨rfl, hB7⟩
  have hB7W := HB3.out.trans (hB7.mono HB3.out.size)
  have hnd := HNODE.out w7
  have HB7 := Lib.hid hB7W
  clear hB7W hB7 cc2
  with_reducible refine hK _ _ ?_
  clear hK K
  with_reducible refine wpTxO_last (o := ?_) (by with_unfolding_all rfl) (by with_unfolding_all rfl) (fun K hK => ?_)
  try simp only [List.getElem_toArray, List.getElem_cons_succ, List.getElem_cons_zero]
  go_simp
  with_reducible refine hnd.mono ?_
  rintro e w8 ⟨rfl, hB8⟩
  have hB8W := HB7.out.trans (hB8.mono HB7.out.size)
  have HB8 := Lib.hid hB8W
  clear hB8W hB8 hnd
  with_reducible refine hK _ _ ?_
  clear hK K
  have hb1 := HBK.out.fr (Fr.of_below HB8.out) (by have := HBK.out.lt; omega)
  have hst := STs_all (P := Tryz.prog) iId hb1 hz (bys D) HDL.out (bys_one _)
  have q1 := hb1.row_ (bys D).toArray
  have q2 := Below.setRow (g := g0) (HB.out.trans (HB8.out.mono HB.out.size)) (by have := HG.out; omega) (bys D).toArray
  have Q1 := Lib.hid q1
  have Q2 := Lib.hid q2
  clear q1 q2 hb1
  with_reducible refine wpTxO_last (o := ?_) (by with_unfolding_all rfl) (by with_unfolding_all rfl) (fun K hK => ?_)
  try simp only [List.getElem_toArray, List.getElem_cons_succ, List.getElem_cons_zero]
  go_simp
  with_reducible refine hK _ _ ?_
  clear hK K
  with_reducible refine wpTxO_nil ?_
  rw [noPan_normal]
  go_wp2_with fail
  exact bodyPost_ret (results_arr rfl _ _ g0 41 (bys D) _ rfl Q1.out undId' rfl (by rw [HDL.out]; exact iId)) rfl ⟨rfl, Q2.out⟩

theorem root_2 (g o c : Nat) (hc : 2 ≤ c) (b1 b2 : List Int) (w : World) (h1 : LfAt w g o b1) (h2 : LfAt w g (o + 1) b2) (l1 : b1.length ≤ 10000000) (l2 : b2.length ≤ 10000000) :
    Calls Tryz.prog 62 #[.slice (some ⟨g, o, none⟩) 2 c] w fun e w' => e = .returned (.agg (bys (nodeP (leafP b1) (leafP b2))).toArray) ∧ Below w.heap.size w w' :=
  root_step 2 1 (by omega) (by omega) (by omega) (by omega) g o c hc _ _ (Dig.leaf b1) (Dig.leaf b2) w (fun X => half_2 X) (fun X hX => root_1 g o c b1 X (h1.below hX) l1) (fun X hX => root_1 g (o + 1) (c - 1) b2 X (h2.below hX) l2)
theorem root_3 (g o c : Nat) (hc : 3 ≤ c) (b1 b2 b3 : List Int) (w : World) (h1 : LfAt w g o b1) (h2 : LfAt w g (o + 1) b2) (h3 : LfAt w g (o + 2) b3) (l1 : b1.length ≤ 10000000) (l2 : b2.length ≤ 10000000) (l3 : b3.length ≤ 10000000) :
    Calls Tryz.prog 62 #[.slice (some ⟨g, o, none⟩) 3 c] w fun e w' => e = .returned (.agg (bys (nodeP (nodeP (leafP b1) (leafP b2)) (leafP b3))).toArray) ∧ Below w.heap.size w w' :=
  root_step 3 2 (by omega) (by omega) (by omega) (by omega) g o c hc _ _ (Dig.node _ _) (Dig.leaf b3) w (fun X => half_3 X) (fun X hX => root_2 g o c (by omega) b1 b2 X (h1.below hX) (h2.below hX) l1 l2) (fun X hX => root_1 g (o + 2) (c - 2) b3 X (h3.below hX) l3)

theorem path_1 (A : Option Addr) (c : Nat) (w : World) :
    Calls Tryz.prog 35 #[.slice A 1 c, .int .i64 0] w fun e w' => e = .returned (.slice none 0 0) ∧ w = w' := by
  go_enter Tryz.func35, Tryz.ntmps35
  go_wp2_with fail
  go_ret
  exact ⟨rfl, rfl⟩
attribute [local go_sem ↓] bsIds_of apIds_of
set_option maxHeartbeats 4000000 in
theorem path_2 (g o c : Nat) (hc : 2 ≤ c) (b1 : List Int) (w : World) (h1 : LfAt w g o b1) (l1 : b1.length ≤ 10000000) :
    Calls Tryz.prog 35 #[.slice (some ⟨g, o, none⟩) 2 c, .int .i64 1] w fun e w' => ∃ v, e = .returned v ∧ OwnD w.heap.size w' v [leafP b1] ∧ Below w.heap.size w w' := by
  have hh0 := half_2 w
  have hp := path_1 (some ⟨g, o + 1, none⟩) (c - 1) w.drew
  have hr := root_1 g o c b1 w.drew (h1.below (Below.refl _ _).drew) l1
  have kc : (1 : Int) ≤ (c : Int) := by omega
  have ck : ¬ c = 1 := by omega
  have hD : Dig (leafP b1) := Dig.leaf b1
  have hw0 : IntKind.i64.wrap 0 = 0 := rfl
  obtain ⟨D, hDD⟩ : ∃ D, leafP b1 = D := ⟨_, rfl⟩
  rw [hDD] at hr hD ⊢
  have bs := fun X => BSs_one (P := Tryz.prog) uIds iIds2 (by omega) (by omega) X (.agg (bys D).toArray) (by simp [Value.cells, bys_length, hD.1])
  have HD := Lib.hid hD
  clear hD hDD h1 l1
  go_enter Tryz.func35, Tryz.ntmps35
  go_wp2_with fail
  with_reducible refine hh0.mono ?_
  rintro e w1 ⟨rfl, rfl⟩
  clear hh0
  go_upto_region 6 with fail
  refine wp_txO [(0, 3), (1, 3), (2, 3), (3, 3), (4, 3), (5, 3), (7, 3), (8, 3), (9, 3), (6, 2), (10, 2), (11, 2), (12, 2), (13, 3)] (fun _ => True) (by kernel_rfl) (by kernel_rfl) (by kernel_rfl) (by kernel_rfl) trivial ?_
  iterate 9 (with_reducible refine wpTxO_evN (o := ?_) (v := ?_) (a' := ?_) (by with_unfolding_all rfl) (by with_unfolding_all rfl) (fun W' => ?_) ?_ ?_; rotate_left 2; (focus (go_simp <;> with_reducible rfl)); focus (go_simp <;> with_reducible rfl))
  with_reducible refine wpTxO_last (o := ?_) (by with_unfolding_all rfl) (by with_unfolding_all rfl) (fun K hK => ?_)
  try simp only [List.getElem_toArray, List.getElem_cons_succ, List.getElem_cons_zero]
  go_simp
  with_reducible refine hp.mono ?_
  rintro e w6 ⟨rfl, rfl⟩
  clear hp
  with_reducible refine hK _ _ ?_
  clear hK K
  with_reducible refine wpTxO_last (o := ?_) (by with_unfolding_all rfl) (by with_unfolding_all rfl) (fun K hK => ?_)
  try simp only [List.getElem_toArray, List.getElem_cons_succ, List.getElem_cons_zero]
  go_simp
  with_reducible refine hr.mono ?_
  rintro e w10 ⟨rfl, hB10⟩
  have hB10W : Below w.heap.size w w10 := (Below.refl _ w).drew.trans hB10
  have ho : OwnD w.heap.size w10 (.slice none 0 0) [] := OwnR.nil _ _ _ _
  obtain ⟨A', N', c', w11, hap, ho11, hB11, _⟩ := appD (ty := 44) ho HD.out (by simp) hB10W.size
  obtain rfl : N' = 1 := by have := ho11.lenN; simpa using this
  have HO := Lib.hid ho11
  have HB := Lib.hid (hB10W.trans hB11)
  clear ho11 hB10 hB10W ho hr hB11
  with_reducible refine hK _ _ ?_
  clear hK K
  with_reducible refine wpTxO_last (o := ?_) (by with_unfolding_all rfl) (by with_unfolding_all rfl) (fun K hK => ?_)
  try simp only [List.getElem_toArray, List.getElem_cons_succ, List.getElem_cons_zero]
  go_simp
  with_reducible refine hK _ _ ?_
  clear hK K
  with_reducible refine wpTxO_last (o := ?_) (by with_unfolding_all rfl) (by with_unfolding_all rfl) (fun K hK => ?_)
  try simp only [List.getElem_toArray, List.getElem_cons_succ, List.getElem_cons_zero]
  go_simp
  with_reducible refine hK _ _ ?_
  clear hK K
  iterate 1 (with_reducible refine wpTxO_evN (o := ?_) (v := ?_) (a' := ?_) (by with_unfolding_all rfl) (by with_unfolding_all rfl) (fun W' => ?_) ?_ ?_; rotate_left 2; (focus (go_simp <;> with_reducible rfl)); focus (go_simp <;> with_reducible rfl))
  with_reducible refine wpTxO_nil ?_
  rw [noPan_normal]
  go_wp2_with fail
  go_ret
  exact ⟨_, rfl, HO.out, HB.out⟩
set_option maxHeartbeats 4000000 in
theorem path_3 (g o c : Nat) (hc : 3 ≤ c) (b1 b3 : List Int) (w : World) (h1 : LfAt w g o b1) (h3 : LfAt w g (o + 2) b3) (l1 : b1.length ≤ 10000000) (l3 : b3.length ≤ 10000000) :
    Calls Tryz.prog 35 #[.slice (some ⟨g, o, none⟩) 3 c, .int .i64 1] w fun e w' => ∃ v, e = .returned v ∧ OwnD w.heap.size w' v [leafP b1, leafP b3] ∧ Below w.heap.size w w' := by
  have hh0 := half_3 w
  have hp := path_2 g o c (by omega) b1 w.drew (h1.below (Below.refl _ _).drew) l1
  have hr := fun X (hX : Below w.heap.size w X) => root_1 g (o + 2) (c - 2) b3 X (h3.below hX) l3
  have kc : (2 : Int) ≤ (c : Int) := by omega
  have ck : ¬ c = 2 := by omega
  have hD : Dig (leafP b3) := Dig.leaf b3
  obtain ⟨D, hDD⟩ : ∃ D, leafP b3 = D := ⟨_, rfl⟩
  simp only [hDD] at hr
  rw [hDD] at hD ⊢
  have bs := fun X => BSs_one (P := Tryz.prog) uIds iIds2 (by omega) (by omega) X (.agg (bys D).toArray) (by simp [Value.cells, bys_length, hD.1])
  have HD := Lib.hid hD
  have HR := Lib.hid hr
  clear hD hr hDD h1 l1 h3 l3
  go_enter Tryz.func35, Tryz.ntmps35
  go_wp2_with fail
  with_reducible refine hh0.mono ?_
  rintro e w1 ⟨rfl, rfl⟩
  clear hh0
  go_upto_region 5 with fail
  refine wp_txO [(0, 3), (1, 3), (2, 3), (3, 3), (5, 3), (6, 3), (7, 3), (4, 2), (8, 2), (9, 2), (10, 2), (11, 3)] (fun _ => True) (by kernel_rfl) (by kernel_rfl) (by kernel_rfl) (by kernel_rfl) trivial ?_
  iterate 7 (with_reducible refine wpTxO_evN (o := ?_) (v := ?_) (a' := ?_) (by with_unfolding_all rfl) (by with_unfolding_all rfl) (fun W' => ?_) ?_ ?_; rotate_left 2; (focus (go_simp <;> with_reducible rfl)); focus (go_simp <;> with_reducible rfl))
  with_reducible refine wpTxO_last (o := ?_) (by with_unfolding_all rfl) (by with_unfolding_all rfl) (fun K hK => ?_)
  try simp only [List.getElem_toArray, List.getElem_cons_succ, List.getElem_cons_zero]
  go_simp
  with_reducible refine hp.mono ?_
  rintro e w4 ⟨v4, rfl, ho4, hB4⟩
  obtain ⟨A4, N4, c4, rfl, hN4⟩ := ho4.formN
  obtain rfl : N4 = 1 := by simpa using hN4
  have hB4W : Below w.heap.size w w4 := (Below.refl _ w).drew.trans hB4
  have hr4 := HR.out w4 hB4W
  have HO4 := Lib.hid ho4
  have HB4 := Lib.hid hB4W
  clear ho4 hB4W hB4 hp hN4
  with_reducible refine hK _ _ ?_
  clear hK K
  with_reducible refine wpTxO_last (o := ?_) (by with_unfolding_all rfl) (by with_unfolding_all rfl) (fun K hK => ?_)
  try simp only [List.getElem_toArray, List.getElem_cons_succ, List.getElem_cons_zero]
  go_simp
  with_reducible refine hr4.mono ?_
  rintro e w10 ⟨rfl, hB10⟩
  have hB10W := HB4.out.trans (hB10.mono HB4.out.size)
  have ho : OwnD w.heap.size w10 (.slice A4 1 c4) [leafP b1] := OwnR.keep HO4.out hB10
  obtain ⟨A', N', c', w11, hap, ho11, hB11, _⟩ := appD (ty := 44) ho HD.out (by simp) hB10W.size
  obtain rfl : N' = 2 := by have := ho11.lenN; simpa using this
  have HO := Lib.hid ho11
  have HB := Lib.hid (hB10W.trans hB11)
  clear ho11 hB10 hB10W ho hr4 hB11
  with_reducible refine hK _ _ ?_
  clear hK K
  with_reducible refine wpTxO_last (o := ?_) (by with_unfolding_all rfl) (by with_unfolding_all rfl) (fun K hK => ?_)
  try simp only [List.getElem_toArray, List.getElem_cons_succ, List.getElem_cons_zero]
  go_simp
  with_reducible refine hK _ _ ?_
  clear hK K
  with_reducible refine wpTxO_last (o := ?_) (by with_unfolding_all rfl) (by with_unfolding_all rfl) (fun K hK => ?_)
  try simp only [List.getElem_toArray, List.getElem_cons_succ, List.getElem_cons_zero]
  go_simp
  with_reducible refine hK _ _ ?_
  clear hK K
  iterate 1 (with_reducible refine wpTxO_evN (o := ?_) (v := ?_) (a' := ?_) (by with_unfolding_all rfl) (by with_unfolding_all rfl) (fun W' => ?_) ?_ ?_; rotate_left 2; (focus (go_simp <;> with_reducible rfl)); focus (go_simp <;> with_reducible rfl))
  with_reducible refine wpTxO_nil ?_
  rw [noPan_normal]
  go_wp2_with fail
  go_ret
  exact ⟨_, rfl, HO.out, HB.out⟩
end
end Go.Proofs.YtmflhidmhefljaaGreatDoor
end

section
namespace Go.Proofs.YtmflhidmhefljaaGreatDoor
open Go.RowKit Go.Shelf
set_option maxRecDepth 100000

theorem own8_N3 {B : Nat} {w : World} {v : Value} {l : List Int} (h : Own8 B w v l) : ∃ A N c, v = .slice A N c := by
  obtain ⟨A, c, e⟩ := Own8.form h
  exact ⟨A, _, c, e⟩
/-- What a key's i-th byte is, with zeros behind. -/
theorem padK_get {k : List Int} (h : k.length ≤ 64) (i : Nat) : (padK k).getD i 0 = k.getD i 0 := by
  rw [padK_small h]
  simp only [List.getD]
  by_cases hi : i < k.length
  · rw [List.getElem?_append_left hi]
  · rw [List.getElem?_append_right (by omega), List.getElem?_eq_none (l := k) (by omega), List.getElem?_replicate]
    split <;> rfl
theorem turnP_snoc (y : Int) {l : List Int} {i : Nat} (hi : i < l.length) : turnP y (l.take (i + 1)) = turnP y (l.take i) ++ [bits .xor .u8 (l.getD i 0) y] := by
  unfold turnP
  rw [List.take_succ_eq_append_getElem hi, List.map_append]
  simp [List.getD, hi]
theorem turnP_tlen (y : Int) {l : List Int} {i : Nat} (hi : i ≤ l.length) : (turnP y (l.take i)).length = i := by
  rw [turnP_len, List.length_take, Nat.min_eq_left hi]

attribute [local go_sem ↓] ld123 st123 al123 apt22_of SLs_of
set_option maxHeartbeats 8000000 in
theorem rmac_any (A1 : Option Addr) (c1 : Nat) (k : List Int) (A2 : Option Addr) (c2 : Nat) (b : List Int) (w : World) (hk : k.length ≤ 64) (hb1 : Byt w A1 k) (hb2 : Byt w A2 b) (hc2 : A2 = none → c2 = 0) (hl : b.length ≤ 10000000) :
    Calls Tryz.prog 65 #[.slice A1 k.length c1, .slice A2 b.length c2] w fun e w' => e = .returned (.agg (bys (macP k b)).toArray) ∧ Below w.heap.size w w' := by
  obtain ⟨Z, hal, hst0, hz⟩ := alstZ (P := Tryz.prog) (t := 41) iId zIdS
  have b0 := Blk.new w 41 (Z)
  have B0 : Below w.heap.size w (w.alloc (.cells (Z) 41)) := (Below.refl _ w).alloc (Nat.le_refl _) _
  obtain ⟨W, hW⟩ : ∃ W, w.alloc (.cells (Z) 41) = W := ⟨_, rfl⟩
  rw [hW] at b0 B0
  obtain ⟨g0, hg0⟩ : ∃ g0, w.heap.size = g0 := ⟨_, rfl⟩
  rw [hg0] at b0
  have hp64 := padK_len k
  have hpg := padK_get hk
  have hres : macP k b = shaP (turnP 92 (padK k) ++ shaP (turnP 54 (padK k) ++ b)) := rfl
  rw [hres]
  obtain ⟨pd, hpd⟩ : ∃ p, padK k = p := ⟨_, rfl⟩
  rw [hpd] at hp64 ⊢
  simp only [hpd] at hpg
  obtain ⟨D, hD⟩ : ∃ D, shaP (turnP 54 pd ++ b) = D := ⟨_, rfl⟩
  rw [hD]
  have hDd : Dig D := by rw [← hD]; exact Dig.sha _
  obtain ⟨E, hE⟩ : ∃ E, shaP (turnP 92 pd ++ D) = E := ⟨_, rfl⟩
  rw [hE]
  have hEl : (bys E).length = 32 := by rw [bys_length, ← hE]; exact (Dig.sha _).1
  have hbW := hb2.below B0
  have hkW := hb1.below B0
  obtain ⟨n, hn⟩ : ∃ n, b.length = n := ⟨_, rfl⟩
  obtain ⟨m, hm⟩ : ∃ n, k.length = n := ⟨_, rfl⟩
  rw [hm] at hk ⊢
  rw [hn] at hl ⊢
  have hkI : ¬ ((64 : Int) < (m : Int)) := by omega
  have HW := Lib.hid hW
  have HG := Lib.hid hg0
  have HB := Lib.hid B0
  have HBK := Lib.hid b0
  have HEL := Lib.hid hEl
  have HE := Lib.hid hE
  have HDD := Lib.hid hDd
  have HD := Lib.hid hD
  have HPG := Lib.hid hpg
  have HP64 := Lib.hid hp64
  have HBY := Lib.hid hbW
  have HKY := Lib.hid hkW
  have HN := Lib.hid hn
  have HM := Lib.hid hm
  have HC2 := Lib.hid hc2
  clear hW hg0 B0 b0 hEl hE hDd hD hpg hp64 hbW hkW hn hm hc2 hres hpd hb1 hb2
  go_enter Tryz.func65, Tryz.ntmps65
  go_upto_region 1 with fail
  rw [HW.out, HG.out]
  go_upto_region 5 with fail
  go_loopg [5, 6, 7, 8] 64 (fun kk v u s _ wr => ∃ (i : Nat) (Av : Option Addr) (cv : Nat) (Au : Option Addr) (cu : Nat), i + kk = 64 ∧ s = .int .i64 (i : Int) ∧ v = .slice Av i cv ∧ u = .slice Au i cu ∧ Own8 W.heap.size wr v (turnP 54 (pd.take i)) ∧ Own8 W.heap.size wr u (turnP 92 (pd.take i)) ∧ (∀ j, v.ownBlock = some j → u.ownBlock = some j → False) ∧ Below W.heap.size W wr)
  case atStart => exact ⟨0, none, 0, none, 0, by omega, rfl, rfl, rfl, by simpa [turnP] using Own8.nil _ _, by simpa [turnP] using Own8.nil _ _, (fun j h => by cases h), Below.refl _ _⟩
  case round =>
    obtain ⟨i, Av, cv, Au, cu, hi, rfl, rfl, rfl, hv, hu, hdis, hBr⟩ := hrel
    by_cases hlt : i < 64
    · have hltI : (i : Int) < 64 := by omega
      have hil : i < pd.length := by rw [HP64.out]; exact hlt
      have t1 := turnP_snoc 54 hil
      have t2 := turnP_snoc 92 hil
      have tl1 := turnP_tlen 54 (l := pd) (i := i) (by omega)
      have tl2 := turnP_tlen 92 (l := pd) (i := i) (by omega)
      rw [HPG.out i] at t1 t2
      obtain ⟨x, hx⟩ : ∃ x, k.getD i 0 = x := ⟨_, rfl⟩
      rw [hx] at t1 t2
      obtain ⟨x1, hx1⟩ : ∃ y, bits .xor .u8 x 54 = y := ⟨_, rfl⟩
      obtain ⟨x2, hx2⟩ : ∃ y, bits .xor .u8 x 92 = y := ⟨_, rfl⟩
      have hb1 : 0 ≤ x1 ∧ x1 ≤ 255 := by rw [← hx1]; exact ⟨bits_lo_u8 _ _ _, bits_hi_u8 _ _ _⟩
      have hb2 : 0 ≤ x2 ∧ x2 ≤ 255 := by rw [← hx2]; exact ⟨bits_lo_u8 _ _ _, bits_hi_u8 _ _ _⟩
      rw [hx1] at t1
      rw [hx2] at t2
      obtain ⟨v', w1, hap1, ho1, hf1, hft1⟩ := app8_one (ty := 22) hv hb1 (by omega) hBr.size
      have hB1 := hBr.trans (hf1.below hBr.size (fun j hj e => by have := (hv.lt e).1; omega))
      have hu1 := hu.fr hf1 (fun j hj e => hdis j e hj)
      obtain ⟨u', w2, hap2, ho2, hf2, hft2⟩ := app8_one (ty := 22) hu1 hb2 (by omega) hB1.size
      have hB2 := hB1.trans (hf2.below hB1.size (fun j hj e => by have := (hu1.lt e).1; omega))
      have hd1 : ∀ j, v'.ownBlock = some j → (Value.slice Au i cu).ownBlock = some j → False := fun j hj hj2 => by
        rcases hft1 j hj with e | e
        · exact hdis j e hj2
        · have := (hu.lt hj2).2; omega
      have hv2 := ho1.fr hf2 (fun j hj e => hd1 j hj e)
      have hd2 : ∀ j, v'.ownBlock = some j → u'.ownBlock = some j → False := fun j hj hj2 => by
        rcases hft2 j hj2 with e | e
        · exact hd1 j hj e
        · have := (ho1.lt hj).2; omega
      rw [← t1] at hv2
      rw [← t2] at ho2
      obtain ⟨A3, c3, e3⟩ := hv2.form
      obtain ⟨A4, c4, e4⟩ := ho2.form
      rw [turnP_tlen 54 (l := pd) (i := i + 1) (by omega)] at e3
      rw [turnP_tlen 92 (l := pd) (i := i + 1) (by omega)] at e4
      subst e3 e4
      by_cases hik : i < m
      · have hikI : (i : Int) < (m : Int) := by omega
        obtain ⟨gk, ok, rfl, _, hck⟩ := (HKY.out.below hBr).cell (by rw [HM.out]; omega)
        have kx : wr.cell? ⟨gk, ok + i, none⟩ = some (.int .u8 x) := hck i x (by rw [← hx]; simp [List.getD, show i < k.length by rw [HM.out]; exact hik])
        have HV := Lib.hid hv2
        have HU := Lib.hid ho2
        have HD2 := Lib.hid hd2
        have HB2 := Lib.hid hB2
        clear hv2 ho2 hd2 hB2 hv hu hdis hBr t1 t2 tl1 tl2 hx hf1 hft1 hu1 hf2 hft2 hd1 hB1 ho1 hck
        go_wp2_with fail
        go_roundg (64 - (i + 1))
        case measure => omega
        case rel => exact ⟨i + 1, A3, c3, A4, c4, by omega, by go_num, rfl, rfl, HV.out, HU.out, HD2.out, HB2.out⟩
      · have hikI : ¬ (i : Int) < (m : Int) := by omega
        have hx0 : x = 0 := by rw [← hx]; simp [List.getD, show ¬ i < k.length by rw [HM.out]; exact hik]
        rw [hx0] at hx1 hx2
        have HV := Lib.hid hv2
        have HU := Lib.hid ho2
        have HD2 := Lib.hid hd2
        have HB2 := Lib.hid hB2
        clear hv2 ho2 hd2 hB2 hv hu hdis hBr t1 t2 tl1 tl2 hx hf1 hft1 hu1 hf2 hft2 hd1 hB1 ho1 hx0
        go_wp2_with fail
        go_roundg (64 - (i + 1))
        case measure => omega
        case rel => exact ⟨i + 1, A3, c3, A4, c4, by omega, by go_num, rfl, rfl, HV.out, HU.out, HD2.out, HB2.out⟩
    · obtain rfl : i = 64 := by omega
      have hltI : ¬ (((64 : Nat) : Int) < 64) := by omega
      rw [List.take_of_length_le (by rw [HP64.out]; exact Nat.le_refl _)] at hv hu
      have hvl := turnP_len 54 pd
      have hul := turnP_len 92 pd
      rw [HP64.out] at hvl hul
      obtain ⟨A3, N3, c3, w1, hap1, ho1, hf1, hft1⟩ := app8N (ty := 22) hv (HBY.out.below hBr) HN.out HC2.out (by rw [hvl, HN.out]; omega) hBr.size
      have hB1 := hBr.trans (hf1.below hBr.size (fun j hj e => by have := (hv.lt e).1; omega))
      have hu1 := hu.fr hf1 (fun j hj e => hdis j e hj)
      have hbd1 : ∀ x ∈ turnP 54 pd ++ b, 0 ≤ x ∧ x ≤ 255 := bd_app (turnP_bd _ _) HBY.out.bd
      obtain ⟨A3', c3', e3, hby1, _, _⟩ := ho1.byt hbd1
      simp only [Value.slice.injEq] at e3
      obtain ⟨rfl, rfl, rfl⟩ := e3
      have hof1 := rof_any A3 c3 (fun e => by subst e; exact Own8.nulI ho1) _ w1 hby1 (by rw [List.length_append, hvl, HN.out]; omega)
      rw [HD.out] at hof1
      have hbyt := fun X => r6bytes_any D HDD.out.1 HDD.out.2 X
      obtain ⟨N3, hN3⟩ : ∃ n, (turnP 54 pd ++ b).length = n := ⟨_, rfl⟩
      rw [hN3] at hap1 hof1
      have HB1 := Lib.hid hB1
      have HU1 := Lib.hid hu1
      have HBYT := Lib.hid hbyt
      have HUL := Lib.hid hul
      clear hB1 hu1 hbyt hul hv hu hdis hBr hf1 hft1 ho1 hby1 hbd1 hN3 hvl
      go_wp2_with fail
      with_reducible refine hof1.mono ?_
      rintro e w2 ⟨rfl, hB2⟩
      have hB2W := HB1.out.trans (hB2.mono HB1.out.size)
      have hu2 := HU1.out.fr (Fr.of_below hB2) (fun j hj e => by have := (HU1.out.lt hj).2; omega)
      have hby2 := HBYT.out w2
      have HB2 := Lib.hid hB2W
      have HU2 := Lib.hid hu2
      clear hB2W hu2 hB2 hof1
      go_wp2_with fail
      with_reducible refine hby2.mono ?_
      rintro e w3 ⟨v3, rfl, hv3, hB3⟩
      have hB3W := HB2.out.trans (hB3.mono HB2.out.size)
      have hu3 := HU2.out.fr (Fr.of_below hB3) (fun j hj e => by have := (HU2.out.lt hj).2; omega)
      obtain ⟨A5, N5, c5, rfl⟩ := own8_N3 hv3
      obtain ⟨A6, N6, c6, w4, hap2, ho4, hf4, _⟩ := app8NO (ty := 22) hu3 hv3 HDD.out.2 (by rw [HUL.out, HDD.out.1]; omega) hB3W.size
      have hB4 := hB3W.trans (hf4.below hB3W.size (fun j hj e => by have := (hu3.lt e).1; omega))
      have hbd4 : ∀ x ∈ turnP 92 pd ++ D, 0 ≤ x ∧ x ≤ 255 := bd_app (turnP_bd _ _) HDD.out.2
      obtain ⟨A6', c6', e6, hby4, _, _⟩ := ho4.byt hbd4
      simp only [Value.slice.injEq] at e6
      obtain ⟨rfl, rfl, rfl⟩ := e6
      have hof4 := rof_any A6 c6 (fun e => by subst e; exact Own8.nulI ho4) _ w4 hby4 (by rw [List.length_append, HUL.out, HDD.out.1]; omega)
      rw [HE.out] at hof4
      obtain ⟨N6, hN6⟩ : ∃ n, (turnP 92 pd ++ D).length = n := ⟨_, rfl⟩
      rw [hN6] at hap2 hof4
      have HB4 := Lib.hid hB4
      clear hB4 hv3 hB3 hB3W hu3 ho4 hf4 hbd4 hby4 hN6 hby2
      go_wp2_with fail
      with_reducible refine hof4.mono ?_
      rintro e w5 ⟨rfl, hB5⟩
      have hB5W := HB4.out.trans (hB5.mono HB4.out.size)
      have hb5 := HBK.out.fr (Fr.of_below hB5W) (by have := HBK.out.lt; omega)
      have hst := STs_all (P := Tryz.prog) iId hb5 hz (bys E) HEL.out (bys_one _)
      have q1 := hb5.row_ (bys E).toArray
      have q2 := Below.setRow (g := g0) (HB.out.trans (hB5W.mono HB.out.size)) (by have := HG.out; omega) (bys E).toArray
      have Q1 := Lib.hid q1
      have Q2 := Lib.hid q2
      clear q1 q2 hB5 hB5W hb5 hof4
      go_wp2_with fail
      exact bodyPost_ret (results_arr rfl _ _ g0 41 (bys E) _ rfl Q1.out undId' rfl (by rw [HEL.out]; exact iId)) rfl ⟨rfl, Q2.out⟩

set_option maxHeartbeats 4000000 in
theorem rsign_any (A1 : Option Addr) (c1 : Nat) (seed : List Int) (s : Nat) (hs : s ≤ 63) (A2 : Option Addr) (c2 : Nat) (b : List Int) (w : World) (hk : seed.length ≤ 64) (hb1 : Byt w A1 seed) (hb2 : Byt w A2 b) (hc2 : A2 = none → c2 = 0) (hl : b.length ≤ 10000000) :
    Calls Tryz.prog 36 #[.slice A1 seed.length c1, .int .i64 (s : Int), .slice A2 b.length c2] w fun e w' => e = .returned (.agg (bys (signP seed (s : Int) b)).toArray) ∧ Below w.heap.size w w' := by
  obtain ⟨Z, hal, hst0, hz⟩ := alstZ (P := Tryz.prog) (t := 41) iId zIdS
  have b0 := Blk.new w 41 (Z)
  have B0 : Below w.heap.size w (w.alloc (.cells (Z) 41)) := (Below.refl _ w).alloc (Nat.le_refl _) _
  obtain ⟨W, hW⟩ : ∃ W, w.alloc (.cells (Z) 41) = W := ⟨_, rfl⟩
  rw [hW] at b0 B0
  obtain ⟨g0, hg0⟩ : ∃ g0, w.heap.size = g0 := ⟨_, rfl⟩
  rw [hg0] at b0
  have hcv : IntKind.u8.wrap (s : Int) = (s : Int) := by rw [IntKind.wrap_u8]; omega
  have hb : Blk (W.alloc (.cells (bys [(s : Int)]).toArray 5)) W.heap.size 5 (bys [(s : Int)]).toArray := Blk.new W _ _
  have BX : Below W.heap.size W (W.alloc (.cells (bys [(s : Int)]).toArray 5)) := (Below.refl _ W).alloc (Nat.le_refl _) _
  have hm1 := rmac_any A1 c1 seed (some ⟨W.heap.size, 0, none⟩) 1 [(s : Int)] (W.alloc (.cells (bys [(s : Int)]).toArray 5)) hk ((hb1.below B0).below BX) (hb.byt (by simp; omega)) (by simp) (by simp)
  rw [show (bys [(s : Int)]).toArray = #[.int .u8 (s : Int)] from rfl, show ([(s : Int)]).length = 1 from rfl] at hm1
  rw [show (bys [(s : Int)]).toArray = #[.int .u8 (s : Int)] from rfl] at BX
  have hD : Dig (macP seed [(s : Int)]) := Dig.mac _ _
  have hm2 := fun X A c N (hX : Byt X A (macP seed [(s : Int)])) (hN : N = (macP seed [(s : Int)]).length) (hbX : Byt X A2 b) => by
    have := rmac_any A c (macP seed [(s : Int)]) A2 c2 b X (by rw [hD.1]; omega) hX hbX hc2 hl
    rw [← hN] at this
    exact this
  rw [show signP seed (s : Int) b = macP (macP seed [(s : Int)]) b from rfl]
  obtain ⟨D, hDD⟩ : ∃ D, macP seed [(s : Int)] = D := ⟨_, rfl⟩
  rw [hDD] at hm1 hD ⊢
  simp only [hDD] at hm2
  obtain ⟨E, hE⟩ : ∃ E, macP D b = E := ⟨_, rfl⟩
  have hEl : (bys E).length = 32 := by rw [bys_length, ← hE]; exact (Dig.mac _ _).1
  simp only [hE] at hm2
  rw [hE]
  have hby := fun X => r6bytes_any D hD.1 hD.2 X
  have hbW := hb2.below B0
  obtain ⟨n, hn⟩ : ∃ n, b.length = n := ⟨_, rfl⟩
  obtain ⟨m, hm⟩ : ∃ n, seed.length = n := ⟨_, rfl⟩
  rw [hm] at hm1 ⊢
  simp only [hn] at hm2
  rw [hn]
  have HW := Lib.hid hW
  have HG := Lib.hid hg0
  have HB := Lib.hid B0
  have HBK := Lib.hid b0
  have HEL := Lib.hid hEl
  have HD := Lib.hid hD
  have HM2 := Lib.hid hm2
  have HBY := Lib.hid hby
  have HBW := Lib.hid hbW
  have HBX := Lib.hid BX
  clear hW hg0 B0 b0 hEl hD hm2 hby hbW BX hb hb1 hb2 hDD hE hn hm hl hk hc2
  go_enter Tryz.func36, Tryz.ntmps36
  go_upto_region 1 with fail
  rw [HW.out, HG.out]
  go_wp2_with fail
  with_reducible refine hm1.mono ?_
  rintro e w1 ⟨rfl, hB1⟩
  have hB1W := HBX.out.trans (hB1.mono HBX.out.size)
  have hby1 := HBY.out w1
  have HB1 := Lib.hid hB1W
  clear hB1W hB1 hm1
  go_wp2_with fail
  with_reducible refine hby1.mono ?_
  rintro e w2 ⟨v2, rfl, hv2, hB2⟩
  have hB2W := HB1.out.trans (hB2.mono HB1.out.size)
  obtain ⟨A3, c3, rfl, hby3, _, _⟩ := Own8.byt hv2 HD.out.2
  have hm3 := HM2.out w2 A3 c3 D.length hby3 rfl (HBW.out.below hB2W)
  obtain ⟨N3, hN3⟩ : ∃ n, D.length = n := ⟨_, rfl⟩
  rw [hN3] at hm3 ⊢
  have HB2 := Lib.hid hB2W
  clear hB2W hB2 hv2 hby3 hN3 hby1
  go_wp2_with fail
  with_reducible refine hm3.mono ?_
  rintro e w3 ⟨rfl, hB3⟩
  have hB3W := HB2.out.trans (hB3.mono HB2.out.size)
  have hb3 := HBK.out.fr (Fr.of_below hB3W) (by have := HBK.out.lt; omega)
  have hst := STs_all (P := Tryz.prog) iId hb3 hz (bys E) HEL.out (bys_one _)
  have q1 := hb3.row_ (bys E).toArray
  have q2 := Below.setRow (g := g0) (HB.out.trans (hB3W.mono HB.out.size)) (by have := HG.out; omega) (bys E).toArray
  have Q1 := Lib.hid q1
  have Q2 := Lib.hid q2
  clear q1 q2 hB3 hB3W hb3 hm3
  go_wp2_with fail
  exact bodyPost_ret (results_arr rfl _ _ g0 41 (bys E) _ rfl Q1.out undId' rfl (by rw [HEL.out]; exact iId)) rfl ⟨rfl, Q2.out⟩
end Go.Proofs.YtmflhidmhefljaaGreatDoor
end
