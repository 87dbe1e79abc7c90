/-
  The document's forms of entries and headers.
-/
import Derived.Test.YtmflhidmhefljaaGreatDoorJCertC
import Derived.Test.YtmflhidmhefljaaGreatDoorJRTxB

namespace Go.Proofs.YtmflhidmhefljaaGreatDoor
open Go.RowKit Go.Shelf
set_option maxRecDepth 100000
attribute [local go_sem ↓] ldEnt_of ldHead_of ldId_of ap22_of

set_option maxHeartbeats 8000000 in
theorem rentput_any (e : EntD) (he : e.Bd) (hr : rightE e = true) (w : World) :
    Calls Tryz.prog 57 #[.agg (entV e).toArray] w fun x w' => ∃ v, x = .returned v ∧ Own8 w.heap.size w' v (entF e) ∧ Below w.heap.size w w' := by
  have b0 := Blk.new w 43 (entV e).toArray
  have B0 : Below w.heap.size w (w.alloc (.cells (entV e).toArray 43)) := (Below.refl _ w).alloc (Nat.le_refl _) _
  obtain ⟨W, hW⟩ : ∃ W, w.alloc (.cells (entV e).toArray 43) = W := ⟨_, rfl⟩
  obtain ⟨g, hg⟩ : ∃ g, w.heap.size = g := ⟨_, rfl⟩
  rw [hW] at B0
  rw [hW, hg] at b0
  have hbox : ∀ X, Below W.heap.size W X → Blk X g 43 (entV e).toArray := fun X hX => b0.fr (Fr.of_below hX) (fun h => by have := b0.lt; omega)
  have HW := Lib.hid hW
  have HG := Lib.hid hg
  have HB0 := Lib.hid B0
  obtain ⟨⟨r1, r2⟩, ⟨r3, r4⟩, r5, ⟨r6, r7⟩, r8, r9⟩ := (rightE_iff e).1 hr
  have ham := he.am.1
  have hv3 := entV_c3 he
  have hvt := entV_tx he
  have hdig := he.tx
  obtain ⟨ka, sa, tx, am, wy, ep⟩ := e
  simp only at r1 r2 r3 r4 r5 r6 r7 r8 r9 ham hv3 hvt hdig
  obtain ⟨nk, rfl⟩ := nat_of (show 0 ≤ ka by omega)
  obtain ⟨ns, rfl⟩ := nat_of r3
  obtain ⟨na, rfl⟩ := nat_of ham
  obtain ⟨nw, rfl⟩ := nat_of r6
  obtain ⟨ne, rfl⟩ := nat_of r8
  have wk : IntKind.u64.wrap (nk : Int) = nk := by rw [IntKind.wrap_u64]; omega
  have ws : IntKind.u64.wrap (ns : Int) = ns := by rw [IntKind.wrap_u64]; omega
  have ww : IntKind.u64.wrap (nw : Int) = nw := by rw [IntKind.wrap_u64]; omega
  have we : IntKind.u64.wrap (ne : Int) = ne := by rw [IntKind.wrap_u64]; omega
  have mk := numP_le (n := nk) (by omega)
  have ms := numP_le (n := ns) (by omega)
  have ma := numP_le (n := na) (by omega)
  have mw := numP_le (n := nw) (by omega)
  have me := numP_le (n := ne) (by omega)
  have md := hdig.1
  clear he hr r1 r3 r6 r8 ham
  have hbx : ∀ X, Below W.heap.size W X → (X.cell? ⟨g, 0, none⟩ = some (.int .i64 (nk : Int)) ∧ X.cell? ⟨g, 1, none⟩ = some (.int .i64 (ns : Int)) ∧ (LDs 41 (.pointer (some ⟨g, 2, none⟩))).run Tryz.prog X = .ok (.agg (bys tx).toArray) X ∧ X.cell? ⟨g, 34, none⟩ = some (.int .u64 (na : Int)) ∧ X.cell? ⟨g, 35, none⟩ = some (.int .i64 (nw : Int)) ∧ X.cell? ⟨g, 36, none⟩ = some (.int .i64 (ne : Int))) := fun X hX => by
    have hb := hbox X hX
    exact ⟨hb.cell 0, hb.cell 1, LDs_aggB uIdA iId hb (off := 2) (bys tx) (by rw [bys_length, hdig.1]) hvt, (hb.cell 34).trans hv3.1, (hb.cell 35).trans hv3.2.1, (hb.cell 36).trans hv3.2.2⟩
  have HBOX := Lib.hid hbx
  obtain ⟨y, hy⟩ : ∃ y, (entV ⟨(nk : Int), (ns : Int), tx, (na : Int), (nw : Int), (ne : Int)⟩).toArray = y := ⟨_, rfl⟩
  rw [hy] at HW ⊢
  have hform : entF ⟨(nk : Int), (ns : Int), tx, (na : Int), (nw : Int), (ne : Int)⟩ = numP nk ++ numP ns ++ tx ++ numP na ++ numP nw ++ numP ne := by simp [entF]
  rw [hform]
  clear hbx hW hg B0 b0 hbox hy hform
  go_enter Tryz.func57, Tryz.ntmps57
  go_upto_region 1 with fail
  rw [HW.out, HG.out]
  refine wp_txO [(0, 3), (4, 3), (1, 0), (5, 0), (2, 3), (6, 3), (3, 1), (7, 1), (8, 2), (9, 3)] (fun X => Below W.heap.size W X) (by kernel_rfl) (by kernel_rfl) (by kernel_rfl) (by kernel_rfl) (Below.refl _ W).drew ?_
  iterate 2 (with_reducible refine wpTxO_evN (o := ?_) (v := ?_) (a' := ?_) (by with_unfolding_all rfl) (by with_unfolding_all rfl) (fun W' => ?_) ?_ ?_; rotate_left 2; (focus (go_simp <;> with_reducible rfl)); focus (go_simp <;> with_reducible rfl))
  iterate 2 (with_reducible refine wpTxO_takeN (o := ?_) (v := ?_) (a' := ?_) (by with_unfolding_all rfl) (by with_unfolding_all rfl) (fun W' hS' => ?_) ?_ ?_; rotate_left 2; (focus (obtain ⟨q0, q1, q2, q34, q35, q36⟩ := HBOX.out W' hS'; go_simp <;> with_reducible rfl)); focus (go_simp <;> with_reducible rfl))
  iterate 2 (with_reducible refine wpTxO_evN (o := ?_) (v := ?_) (a' := ?_) (by with_unfolding_all rfl) (by with_unfolding_all rfl) (fun W' => ?_) ?_ ?_; rotate_left 2; (focus (go_simp <;> with_reducible rfl)); focus (go_simp <;> with_reducible rfl))
  have ck := rnum_any nk (by omega) W.drew
  with_reducible refine wpTxO_want (o := ?_) (by with_unfolding_all rfl) (by with_unfolding_all rfl) (fun K hK => ?_)
  go_simp
  with_reducible refine ck.mono ?_
  rintro e wa ⟨va, rfl, ha, hBa⟩
  obtain ⟨Aa, Na, ca, rfl⟩ := ha.formN
  have hBa1 : Below W.heap.size W wa := (Below.refl _ W).drew.trans (hBa.mono (Nat.le_refl _))
  have HA := Lib.hid ha
  have HBA := Lib.hid hBa1
  clear ha hBa hBa1 ck
  with_reducible refine hK _ _ HBA.out ?_
  clear hK K
  have ck := rnum_any ns (by omega) wa
  with_reducible refine wpTxO_want (o := ?_) (by with_unfolding_all rfl) (by with_unfolding_all rfl) (fun K hK => ?_)
  go_simp
  with_reducible refine ck.mono ?_
  rintro e wb ⟨vb, rfl, hb, hBb⟩
  obtain ⟨Ab, Nb, cb, rfl⟩ := hb.formN
  have hBb1 : Below W.heap.size W wb := HBA.out.trans (hBb.mono HBA.out.size)
  have ha0 := (HA.out.kept hBb).base (B' := W.heap.size) (Nat.le_refl _)
  obtain ⟨A1, N1, c1, w1, hap1, ho, hf, _⟩ := app8NO (ty := 22) ha0 hb (numP_bd (by omega)) (by omega) hBb1.size
  have hB2 := hBb1.trans (hf.below hBb1.size (fun k hk e => by have := (ha0.lt e).1; omega))
  have HV := Lib.hid ho
  have HB := Lib.hid hB2
  have HBB := Lib.hid hBb1
  clear ho hf hB2 hb hBb hBb1 ha0 ck
  with_reducible refine hK _ _ HBB.out ?_
  clear hK K
  with_reducible refine wpTxO_last (o := ?_) (by with_unfolding_all rfl) (by with_unfolding_all rfl) (fun K hK => ?_)
  simp only [List.getElem_toArray, List.getElem_cons_succ, List.getElem_cons_zero]
  go_simp
  with_reducible refine hK _ _ ?_
  clear hK K
  iterate 1 (with_reducible refine wpTxO_evN (o := ?_) (v := ?_) (a' := ?_) (by with_unfolding_all rfl) (by with_unfolding_all rfl) (fun W' => ?_) ?_ ?_; rotate_left 2; (focus (go_simp <;> with_reducible rfl)); focus (go_simp <;> with_reducible rfl))
  with_reducible refine wpTxO_nil ?_
  rw [noPan_normal]
  obtain ⟨q0, q1, q2, q34, q35, q36⟩ := HBOX.out w1 HB.out
  have ck := r6bytes_any tx hdig.1 hdig.2 w1
  go_wp2_with fail
  with_reducible refine ck.mono ?_
  rintro e wu2 ⟨u, rfl, hu, hBu⟩
  obtain ⟨Au2, Nu2, cu2, rfl⟩ := hu.formN
  have hBs := Nat.le_trans HB.out.size hBu.size
  obtain ⟨A2, N2, c2, w2, hap2, ho, hf, _⟩ := app8NO (ty := 22) (HV.out.kept hBu) hu hdig.2 (by simp only [List.length_append]; omega) hBs
  have hB2 := (HB.out.trans (hBu.mono HB.out.size)).trans (hf.below hBs (fun k hk e => by have := (HV.out.lt e).1; omega))
  have HV := Lib.hid ho
  have HB := Lib.hid hB2
  clear ho hf hB2 hBs hu hBu ck q0 q1 q2 q34 q35 q36
  obtain ⟨q0, q1, q2, q34, q35, q36⟩ := HBOX.out w2 HB.out
  have ck := rnum_any na (by omega) w2
  go_wp2_with fail
  with_reducible refine ck.mono ?_
  rintro e wu3 ⟨u, rfl, hu, hBu⟩
  obtain ⟨Au3, Nu3, cu3, rfl⟩ := hu.formN
  have hBs := Nat.le_trans HB.out.size hBu.size
  obtain ⟨A3, N3, c3, w3, hap3, ho, hf, _⟩ := app8NO (ty := 22) (HV.out.kept hBu) hu (numP_bd (by omega)) (by simp only [List.length_append]; omega) hBs
  have hB2 := (HB.out.trans (hBu.mono HB.out.size)).trans (hf.below hBs (fun k hk e => by have := (HV.out.lt e).1; omega))
  have HV := Lib.hid ho
  have HB := Lib.hid hB2
  clear ho hf hB2 hBs hu hBu ck q0 q1 q2 q34 q35 q36
  obtain ⟨q0, q1, q2, q34, q35, q36⟩ := HBOX.out w3 HB.out
  have ck := rnum_any nw (by omega) w3
  go_wp2_with fail
  with_reducible refine ck.mono ?_
  rintro e wu4 ⟨u, rfl, hu, hBu⟩
  obtain ⟨Au4, Nu4, cu4, rfl⟩ := hu.formN
  have hBs := Nat.le_trans HB.out.size hBu.size
  obtain ⟨A4, N4, c4, w4, hap4, ho, hf, _⟩ := app8NO (ty := 22) (HV.out.kept hBu) hu (numP_bd (by omega)) (by simp only [List.length_append]; omega) hBs
  have hB2 := (HB.out.trans (hBu.mono HB.out.size)).trans (hf.below hBs (fun k hk e => by have := (HV.out.lt e).1; omega))
  have HV := Lib.hid ho
  have HB := Lib.hid hB2
  clear ho hf hB2 hBs hu hBu ck q0 q1 q2 q34 q35 q36
  obtain ⟨q0, q1, q2, q34, q35, q36⟩ := HBOX.out w4 HB.out
  have ck := rnum_any ne (by omega) w4
  go_wp2_with fail
  with_reducible refine ck.mono ?_
  rintro e wu5 ⟨u, rfl, hu, hBu⟩
  obtain ⟨Au5, Nu5, cu5, rfl⟩ := hu.formN
  have hBs := Nat.le_trans HB.out.size hBu.size
  obtain ⟨A5, N5, c5, w5, hap5, ho, hf, _⟩ := app8NO (ty := 22) (HV.out.kept hBu) hu (numP_bd (by omega)) (by simp only [List.length_append]; omega) hBs
  have hB2 := (HB.out.trans (hBu.mono HB.out.size)).trans (hf.below hBs (fun k hk e => by have := (HV.out.lt e).1; omega))
  have HV := Lib.hid ho
  have HB := Lib.hid hB2
  clear ho hf hB2 hBs hu hBu ck q0 q1 q2 q34 q35 q36
  go_wp2_with fail
  go_ret
  exact ⟨_, rfl, HV.out.base HB0.out.size, HB0.out.trans (HB.out.mono HB0.out.size)⟩

set_option maxHeartbeats 8000000 in
theorem rheadput_any (e : HeadD) (he : e.Bd) (hr : rightH e = true) (w : World) :
    Calls Tryz.prog 37 #[.agg (headV e).toArray] w fun x w' => ∃ v, x = .returned v ∧ Own8 w.heap.size w' v (headF e) ∧ Below w.heap.size w w' := by
  have b0 := Blk.new w 46 (headV e).toArray
  have B0 : Below w.heap.size w (w.alloc (.cells (headV e).toArray 46)) := (Below.refl _ w).alloc (Nat.le_refl _) _
  obtain ⟨W, hW⟩ : ∃ W, w.alloc (.cells (headV e).toArray 46) = W := ⟨_, rfl⟩
  obtain ⟨g, hg⟩ : ∃ g, w.heap.size = g := ⟨_, rfl⟩
  rw [hW] at B0
  rw [hW, hg] at b0
  have hbox : ∀ X, Below W.heap.size W X → Blk X g 46 (headV e).toArray := fun X hX => b0.fr (Fr.of_below hX) (fun h => by have := b0.lt; omega)
  have HW := Lib.hid hW
  have HG := Lib.hid hg
  have HB0 := Lib.hid B0
  obtain ⟨⟨r1, r2⟩, ⟨r3, r4⟩, r5, r6⟩ := (rightH_iff e).1 hr
  have hvp := headV_prev he
  have hvr := headV_root he
  have hdp := he.prev
  have hdr := he.root
  obtain ⟨sa, ta, ep, prev, root⟩ := e
  simp only at r1 r2 r3 r4 r5 r6 hvp hvr hdp hdr
  obtain ⟨ns, rfl⟩ := nat_of r1
  obtain ⟨nt, rfl⟩ := nat_of (show 0 ≤ ta by omega)
  obtain ⟨ne, rfl⟩ := nat_of r5
  have ws : IntKind.u64.wrap (ns : Int) = ns := by rw [IntKind.wrap_u64]; omega
  have wt : IntKind.u64.wrap (nt : Int) = nt := by rw [IntKind.wrap_u64]; omega
  have we : IntKind.u64.wrap (ne : Int) = ne := by rw [IntKind.wrap_u64]; omega
  have ms := numP_le (n := ns) (by omega)
  have mt := numP_le (n := nt) (by omega)
  have me := numP_le (n := ne) (by omega)
  have md1 := hdp.1
  have md2 := hdr.1
  clear he hr r1 r3 r5
  have hbx : ∀ X, Below W.heap.size W X → (X.cell? ⟨g, 0, none⟩ = some (.int .i64 (ns : Int)) ∧ X.cell? ⟨g, 1, none⟩ = some (.int .i64 (nt : Int)) ∧ X.cell? ⟨g, 2, none⟩ = some (.int .i64 (ne : Int)) ∧ (LDs 41 (.pointer (some ⟨g, 3, none⟩))).run Tryz.prog X = .ok (.agg (bys prev).toArray) X ∧ (LDs 41 (.pointer (some ⟨g, 35, none⟩))).run Tryz.prog X = .ok (.agg (bys root).toArray) X) := fun X hX => by
    have hb := hbox X hX
    exact ⟨hb.cell 0, hb.cell 1, hb.cell 2, LDs_aggB uIdA iId hb (off := 3) (bys prev) (by rw [bys_length, hdp.1]) hvp, LDs_aggB uIdA iId hb (off := 35) (bys root) (by rw [bys_length, hdr.1]) hvr⟩
  have HBOX := Lib.hid hbx
  obtain ⟨y, hy⟩ : ∃ y, (headV ⟨(ns : Int), (nt : Int), (ne : Int), prev, root⟩).toArray = y := ⟨_, rfl⟩
  rw [hy] at HW ⊢
  have hform : headF ⟨(ns : Int), (nt : Int), (ne : Int), prev, root⟩ = numP ns ++ numP nt ++ numP ne ++ prev ++ root := by simp [headF]
  rw [hform]
  clear hbx hW hg B0 b0 hbox hy hform
  go_enter Tryz.func37, Tryz.ntmps37
  go_upto_region 1 with fail
  rw [HW.out, HG.out]
  refine wp_txO [(0, 3), (4, 3), (1, 0), (5, 0), (2, 3), (6, 3), (3, 1), (7, 1), (8, 2), (9, 3)] (fun X => Below W.heap.size W X) (by kernel_rfl) (by kernel_rfl) (by kernel_rfl) (by kernel_rfl) (Below.refl _ W).drew ?_
  iterate 2 (with_reducible refine wpTxO_evN (o := ?_) (v := ?_) (a' := ?_) (by with_unfolding_all rfl) (by with_unfolding_all rfl) (fun W' => ?_) ?_ ?_; rotate_left 2; (focus (go_simp <;> with_reducible rfl)); focus (go_simp <;> with_reducible rfl))
  iterate 2 (with_reducible refine wpTxO_takeN (o := ?_) (v := ?_) (a' := ?_) (by with_unfolding_all rfl) (by with_unfolding_all rfl) (fun W' hS' => ?_) ?_ ?_; rotate_left 2; (focus (obtain ⟨q0, q1, q2, q3, q35⟩ := HBOX.out W' hS'; go_simp <;> with_reducible rfl)); focus (go_simp <;> with_reducible rfl))
  iterate 2 (with_reducible refine wpTxO_evN (o := ?_) (v := ?_) (a' := ?_) (by with_unfolding_all rfl) (by with_unfolding_all rfl) (fun W' => ?_) ?_ ?_; rotate_left 2; (focus (go_simp <;> with_reducible rfl)); focus (go_simp <;> with_reducible rfl))
  have ck := rnum_any ns (by omega) W.drew
  with_reducible refine wpTxO_want (o := ?_) (by with_unfolding_all rfl) (by with_unfolding_all rfl) (fun K hK => ?_)
  go_simp
  with_reducible refine ck.mono ?_
  rintro e wa ⟨va, rfl, ha, hBa⟩
  obtain ⟨Aa, Na, ca, rfl⟩ := ha.formN
  have hBa1 : Below W.heap.size W wa := (Below.refl _ W).drew.trans (hBa.mono (Nat.le_refl _))
  have HA := Lib.hid ha
  have HBA := Lib.hid hBa1
  clear ha hBa hBa1 ck
  with_reducible refine hK _ _ HBA.out ?_
  clear hK K
  have ck := rnum_any nt (by omega) wa
  with_reducible refine wpTxO_want (o := ?_) (by with_unfolding_all rfl) (by with_unfolding_all rfl) (fun K hK => ?_)
  go_simp
  with_reducible refine ck.mono ?_
  rintro e wb ⟨vb, rfl, hb, hBb⟩
  obtain ⟨Ab, Nb, cb, rfl⟩ := hb.formN
  have hBb1 : Below W.heap.size W wb := HBA.out.trans (hBb.mono HBA.out.size)
  have ha0 := (HA.out.kept hBb).base (B' := W.heap.size) (Nat.le_refl _)
  obtain ⟨A1, N1, c1, w1, hap1, ho, hf, _⟩ := app8NO (ty := 22) ha0 hb (numP_bd (by omega)) (by omega) hBb1.size
  have hB2 := hBb1.trans (hf.below hBb1.size (fun k hk e => by have := (ha0.lt e).1; omega))
  have HV := Lib.hid ho
  have HB := Lib.hid hB2
  have HBB := Lib.hid hBb1
  clear ho hf hB2 hb hBb hBb1 ha0 ck
  with_reducible refine hK _ _ HBB.out ?_
  clear hK K
  with_reducible refine wpTxO_last (o := ?_) (by with_unfolding_all rfl) (by with_unfolding_all rfl) (fun K hK => ?_)
  simp only [List.getElem_toArray, List.getElem_cons_succ, List.getElem_cons_zero]
  go_simp
  with_reducible refine hK _ _ ?_
  clear hK K
  iterate 1 (with_reducible refine wpTxO_evN (o := ?_) (v := ?_) (a' := ?_) (by with_unfolding_all rfl) (by with_unfolding_all rfl) (fun W' => ?_) ?_ ?_; rotate_left 2; (focus (go_simp <;> with_reducible rfl)); focus (go_simp <;> with_reducible rfl))
  with_reducible refine wpTxO_nil ?_
  rw [noPan_normal]
  obtain ⟨q0, q1, q2, q3, q35⟩ := HBOX.out w1 HB.out
  have ck := rnum_any ne (by omega) w1
  go_wp2_with fail
  with_reducible refine ck.mono ?_
  rintro e wu2 ⟨u, rfl, hu, hBu⟩
  obtain ⟨Au2, Nu2, cu2, rfl⟩ := hu.formN
  have hBs := Nat.le_trans HB.out.size hBu.size
  obtain ⟨A2, N2, c2, w2, hap2, ho, hf, _⟩ := app8NO (ty := 22) (HV.out.kept hBu) hu (numP_bd (by omega)) (by simp only [List.length_append]; omega) hBs
  have hB2 := (HB.out.trans (hBu.mono HB.out.size)).trans (hf.below hBs (fun k hk e => by have := (HV.out.lt e).1; omega))
  have HV := Lib.hid ho
  have HB := Lib.hid hB2
  clear ho hf hB2 hBs hu hBu ck q0 q1 q2 q3 q35
  obtain ⟨q0, q1, q2, q3, q35⟩ := HBOX.out w2 HB.out
  have ck := r6bytes_any prev hdp.1 hdp.2 w2
  go_wp2_with fail
  with_reducible refine ck.mono ?_
  rintro e wu3 ⟨u, rfl, hu, hBu⟩
  obtain ⟨Au3, Nu3, cu3, rfl⟩ := hu.formN
  have hBs := Nat.le_trans HB.out.size hBu.size
  obtain ⟨A3, N3, c3, w3, hap3, ho, hf, _⟩ := app8NO (ty := 22) (HV.out.kept hBu) hu hdp.2 (by simp only [List.length_append]; omega) hBs
  have hB2 := (HB.out.trans (hBu.mono HB.out.size)).trans (hf.below hBs (fun k hk e => by have := (HV.out.lt e).1; omega))
  have HV := Lib.hid ho
  have HB := Lib.hid hB2
  clear ho hf hB2 hBs hu hBu ck q0 q1 q2 q3 q35
  obtain ⟨q0, q1, q2, q3, q35⟩ := HBOX.out w3 HB.out
  have ck := r6bytes_any root hdr.1 hdr.2 w3
  go_wp2_with fail
  with_reducible refine ck.mono ?_
  rintro e wu4 ⟨u, rfl, hu, hBu⟩
  obtain ⟨Au4, Nu4, cu4, rfl⟩ := hu.formN
  have hBs := Nat.le_trans HB.out.size hBu.size
  obtain ⟨A4, N4, c4, w4, hap4, ho, hf, _⟩ := app8NO (ty := 22) (HV.out.kept hBu) hu hdr.2 (by simp only [List.length_append]; omega) hBs
  have hB2 := (HB.out.trans (hBu.mono HB.out.size)).trans (hf.below hBs (fun k hk e => by have := (HV.out.lt e).1; omega))
  have HV := Lib.hid ho
  have HB := Lib.hid hB2
  clear ho hf hB2 hBs hu hBu ck q0 q1 q2 q3 q35
  go_wp2_with fail
  go_ret
  exact ⟨_, rfl, HV.out.base HB0.out.size, HB0.out.trans (HB.out.mono HB0.out.size)⟩
end Go.Proofs.YtmflhidmhefljaaGreatDoor
