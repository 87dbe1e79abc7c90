/-
  The document's settle: One.
-/
import Derived.Test.YtmflhidmhefljaaGreatDoorJRSetB

namespace Go.Proofs.YtmflhidmhefljaaGreatDoor
open Go.RowKit Go.Shelf
set_option maxRecDepth 100000
attribute [local go_sem ↓] ldTx_of ldCert_of stCert_of alCert_of ld123 st123 al123 ldEnt_of stEnt_of alEnt_of neId_of

theorem ins_contains (t : TxD) (n : Int) (x : Int) : (eachP (insP t n)).contains x = (insP t n).contains x := by
  have hb : ∀ y ∈ insP t n, 0 ≤ y ∧ y < 64 := by
    intro y hy
    unfold insP at hy
    split at hy
    · rename_i h
      obtain ⟨i, _, rfl⟩ := List.mem_map.1 hy
      have := ofO_bd i.tx i.ix n h.2
      omega
    · cases hy
  rw [Bool.eq_iff_iff, List.contains_iff_mem, List.contains_iff_mem, eachP_mem]
  constructor
  · exact fun h => h.1
  · exact fun h => ⟨h, hb x h⟩

set_option maxHeartbeats 16000000 in
theorem rsetone_any (As : Option Addr) (cs : Nat) (seed : List Int) (hsl : seed.length ≤ 64) (A1 : Option Addr) (c1 : Nat) (A2 : Option Addr) (c2 : Nat) (t : TxD) (n : Int) (hn : -9223372036854775808 ≤ n ∧ n ≤ 9223372036854775807) (A : Option Addr) (c : Nat) (l : List CertD) (w : World) (hsd : Byt w As seed) (h : TxAt w A1 A2 t)
    (hC : CertsAt w A l) :
    Calls Tryz.prog 13 #[.slice As seed.length cs, .agg (txV A1 c1 A2 c2 t), .int .i64 n, .slice A l.length c] w fun e w' => e = .returned (.int .i64 (rejP seed t n l)) ∧ Below w.heap.size w w' := by
  have b0 := Blk.new w 27 (txV A1 c1 A2 c2 t)
  have B0 : Below w.heap.size w (w.alloc (.cells (txV A1 c1 A2 c2 t) 27)) := (Below.refl _ w).alloc (Nat.le_refl _) _
  obtain ⟨W, hW⟩ : ∃ W, w.alloc (.cells (txV A1 c1 A2 c2 t) 27) = W := ⟨_, rfl⟩
  rw [hW] at b0 B0
  obtain ⟨g, hg⟩ : ∃ g, w.heap.size = g := ⟨_, rfl⟩
  rw [hg] at b0
  have hld := fun X (hX : Below W.heap.size W X) => LDs_all (P := Tryz.prog) uTx iTx (w := X) (txV A1 c1 A2 c2 t).toList (by simpa using b0.fr (Fr.of_below hX) (by have := b0.lt; omega)) rfl
  have hld0 := hld W (Below.refl _ _)
  have hck := rcheck_any A1 c1 A2 c2 t W (h.below B0)
  have hsp := fun X (hX : Below W.heap.size W X) => rspread_any A1 c1 A2 c2 t n false hn X ((h.below B0).below hX)
  simp only [Bool.false_eq_true, if_false] at hsp
  have hid := fun (h0 : checkP t = 0) X (hX : Below W.heap.size W X) => rid_any A1 c1 A2 c2 t X ((h.below B0).below hX) h0
  have hsW := hsd.below B0
  have hCW := hC.below B0
  have hil16 := @insP_len t n
  have hha := fun X A N c (hr : RdW .i64 X A (insP t n)) (hN : N = (insP t n).length) x => rhas_any A N c (insP t n) x X hr hN (by omega)
  have hDi : Dig (idP t) := ⟨idP_len t, idP_bd t⟩
  obtain ⟨xs, hxs⟩ : ∃ xs, txV A1 c1 A2 c2 t = xs := ⟨_, rfl⟩
  rw [show (txV A1 c1 A2 c2 t).toList.toArray = txV A1 c1 A2 c2 t by simp, hxs] at hld0
  simp only [hxs] at hld
  rw [hxs] at hW hck ⊢
  simp only [hxs] at hsp hid
  obtain ⟨RES, hRES⟩ : ∃ r, rejP seed t n l = r := ⟨_, rfl⟩
  rw [hRES]
  unfold rejP at hRES
  obtain ⟨ns, hns⟩ : ∃ x, seed.length = x := ⟨_, rfl⟩
  have hris := fun X n' A cap c (hc : c.Bd) (hs : Byt X As seed) (hP : RdR 32 X A (c.path.map bys)) => ris_any As cs seed hsl n' A cap c X hc hs hP
  simp only [hns] at hris
  rw [hns]
  obtain ⟨Ze, hale, hste0, hze⟩ := alstZ (P := Tryz.prog) (t := 43) iEnt zEnt
  by_cases hn1 : n < 1
  · rw [if_pos (by omega)] at hRES
    subst hRES
    have HW := Lib.hid hW
    have HG := Lib.hid hg
    have HB := Lib.hid B0
    clear hW hg B0 hld hld0 hck hsp hid hsW hCW hha hris b0 h hC hsd hste0
    go_enter Tryz.func13, Tryz.ntmps13
    go_upto_region 1 with fail
    rw [HW.out, HG.out]
    go_wp2_with fail
    go_ret
    exact ⟨rfl, HB.out⟩
  by_cases hn2 : 64 < n
  · rw [if_pos (by omega)] at hRES
    subst hRES
    have HW := Lib.hid hW
    have HG := Lib.hid hg
    have HB := Lib.hid B0
    clear hW hg B0 hld hld0 hck hsp hid hsW hCW hha hris b0 h hC hsd hste0
    go_enter Tryz.func13, Tryz.ntmps13
    go_upto_region 1 with fail
    rw [HW.out, HG.out]
    go_wp2_with fail
    go_ret
    exact ⟨rfl, HB.out⟩
  rw [if_neg (by omega)] at hRES
  by_cases hR0 : checkP t = 0
  rotate_left
  · rw [if_pos hR0] at hRES
    rw [hRES] at hck hR0
    have h3b : (RES != 0) = true := by simpa using hR0
    have HW := Lib.hid hW
    have HG := Lib.hid hg
    have HB := Lib.hid B0
    clear hW hg B0 hld hsp hid hsW hCW hha hris b0 h hC hsd hste0 hRES hR0
    go_enter Tryz.func13, Tryz.ntmps13
    go_upto_region 1 with fail
    rw [HW.out, HG.out]
    go_wp2_with fail
    with_reducible refine hck.mono ?_
    rintro e w1 ⟨rfl, hB1⟩
    have HB1 := Lib.hid hB1
    clear hB1 hck hld0
    go_wp2_with fail
    go_ret
    exact ⟨rfl, HB.out.trans (HB1.out.mono HB.out.size)⟩
  rw [if_neg (by simpa using hR0)] at hRES
  have hid := hid hR0
  rw [hR0] at hck
  by_cases hNM : l.length = 1
  rotate_left
  · rw [if_pos hNM] at hRES
    subst hRES
    have hnb : ((l.length : Int) != 1) = true := by simp; omega
    obtain ⟨N, hN⟩ : ∃ N, l.length = N := ⟨_, rfl⟩
    rw [hN] at hnb ⊢
    have HW := Lib.hid hW
    have HG := Lib.hid hg
    have HB := Lib.hid B0
    clear hW hg B0 hld hsp hid hsW hCW hha hris b0 h hC hsd hste0 hNM hN
    go_enter Tryz.func13, Tryz.ntmps13
    go_upto_region 1 with fail
    rw [HW.out, HG.out]
    go_wp2_with fail
    with_reducible refine hck.mono ?_
    rintro e w1 ⟨rfl, hB1⟩
    have HB1 := Lib.hid hB1
    clear hB1 hck hld0
    go_wp2_with fail
    go_ret
    exact ⟨rfl, HB.out.trans (HB1.out.mono HB.out.size)⟩
  rw [if_neg (by simpa using hNM)] at hRES
  have hil : 0 < l.length := by omega
  obtain ⟨g2, o2, B2, d2, rfl, hg2, hct⟩ := hCW 0 hil
  rw [Nat.zero_mul, Nat.add_zero] at hct
  rw [show l.getD 0 default = l[0] by simp [List.getD, hil]] at hRES
  rw [hNM]
  obtain ⟨ct, hctt⟩ : ∃ x, l[0] = x := ⟨_, rfl⟩
  rw [hctt] at hct hRES
  have hro : rejOne seed t n ct = (isP seed n ct && (decide (ct.e.kind = 2) && (decide (ct.e.tx = idP t) && (insP t n).contains ct.e.sh))) := by
    unfold rejOne
    rw [ins_contains]
  rw [hro] at hRES
  obtain ⟨L, hL⟩ : ∃ L, insP t n = L := ⟨_, rfl⟩
  simp only [hL] at hsp hha
  rw [hL] at hRES
  obtain ⟨D, hD⟩ : ∃ D, idP t = D := ⟨_, rfl⟩
  simp only [hD] at hid hDi
  rw [hD] at hRES
  have hldE := fun X (hX : Below W.heap.size W X) => LDs_agg (P := Tryz.prog) uEnt iEnt X g2 o2 (entV ct.e) (entV_len hct.bd.e) (fun j v hv => (hct.below hg2 hX).cell j v (certV_pre hct.bd _ _ hv))
  have hldC := fun X (hX : Below W.heap.size W X) => (hct.below hg2 hX).ld
  have hstE := fun X => hste0 X (entV ct.e) (entV_len hct.bd.e) (entV_one _)
  have hne := fun X => NEs_id hct.bd.e.tx hDi X
  have hnbB : ((1 : Int) != 1) = false := rfl
  obtain ⟨ev, hev⟩ : ∃ x, entV ct.e = x := ⟨_, rfl⟩
  obtain ⟨cv, hcv⟩ : ∃ x, (certV ct B2 d2).toArray = x := ⟨_, rfl⟩
  have e0 : ev.toArray[0]? = some (.int .i64 ct.e.kind) := by rw [← hev]; rfl
  have e1 : ev.toArray[1]? = some (.int .i64 ct.e.sh) := by rw [← hev]; rfl
  have e2 : (ev.drop 2).take 32 = bys ct.e.tx := by rw [← hev]; exact entV_txd hct.bd.e
  simp only [hev] at hldE hstE
  simp only [hcv] at hldC
  have htl : (bys ct.e.tx).length = 32 := by rw [bys_length, hct.bd.e.tx.1]
  have HW := Lib.hid hW
  have HG := Lib.hid hg
  have HB := Lib.hid B0
  have HLD := Lib.hid hld
  have HSP := Lib.hid hsp
  have HHA0 := Lib.hid hha
  have HID := Lib.hid hid
  have HSW := Lib.hid hsW
  have HLE := Lib.hid hldE
  have HLC := Lib.hid hldC
  have HRIS := Lib.hid hris
  have HCT := Lib.hid hct
  have HCV := Lib.hid hcv
  have E0 := Lib.hid e0
  have E1 := Lib.hid e1
  have E2 := Lib.hid e2
  have HTL := Lib.hid htl
  have HNE := Lib.hid hne
  have HRES := Lib.hid hRES
  clear hW hg B0 hld hsp hha hid hsW hldE hldC hris hct hcv e0 e1 e2 htl hne hRES hL hxs h hC hsd hste0 hze hR0 b0 hns hil16 hro hD hev hNM hctt hDi
  go_enter Tryz.func13, Tryz.ntmps13
  go_upto_region 1 with fail
  rw [HW.out, HG.out]
  go_wp2_with fail
  with_reducible refine hck.mono ?_
  rintro e w1 ⟨rfl, hB1⟩
  have hle1 := HLE.out w1 hB1
  have q1 := Blk.new w1 43 ev.toArray
  have q2 := hB1.alloc hB1.size (.cells ev.toArray 43)
  have hst1 := hstE w1
  obtain ⟨h3, hh3⟩ : ∃ h, w1.heap.size = h := ⟨_, rfl⟩
  obtain ⟨Y, hY⟩ : ∃ Y, w1.alloc (.cells ev.toArray 43) = Y := ⟨_, rfl⟩
  rw [hY] at q1 q2 hst1
  rw [hh3] at q1
  have qq := fun X (hX : Below Y.heap.size Y X) => q1.fr (Fr.of_below hX) (by have := q1.lt; omega)
  have F1 := fun X (hX : Below Y.heap.size Y X) => HLC.out X (q2.trans (hX.mono q2.size))
  have F2 := fun X (hX : Below Y.heap.size Y X) => ((qq X hX).cell 0).trans E0.out
  have F3 := fun X (hX : Below Y.heap.size Y X) => LDs_aggB (P := Tryz.prog) uIdA iId (qq X hX) (off := 2) (bys ct.e.tx) HTL.out (by simpa using E2.out)
  have F4 := fun X (hX : Below Y.heap.size Y X) => HLD.out X (q2.trans (hX.mono q2.size))
  have F5 := fun X (hX : Below Y.heap.size Y X) => ((qq X hX).cell 1).trans E1.out
  have hpr := HRIS.out Y.drew n B2 d2 ct HCT.out.bd (HSW.out.below q2.drew) (HCT.out.path.below q2.drew)
  have hha := fun X A N c hr hN => HHA0.out X A N c hr hN ct.e.sh
  have hne := HNE.out
  obtain ⟨kd, hkd⟩ : ∃ a, ct.e.kind = a := ⟨_, rfl⟩
  obtain ⟨sh, hsh⟩ : ∃ a, ct.e.sh = a := ⟨_, rfl⟩
  obtain ⟨tq, htq⟩ : ∃ a, decide (ct.e.tx = D) = a := ⟨_, rfl⟩
  obtain ⟨PR, hPR⟩ : ∃ P, isP seed n ct = P := ⟨_, rfl⟩
  obtain ⟨CC, hCC⟩ : ∃ P, L.contains ct.e.sh = P := ⟨_, rfl⟩
  rw [hPR, HCV.out] at hpr
  simp only [hCC] at hha
  rw [hPR, htq, hCC, hkd] at HRES
  simp only [htq] at hne
  simp only [hkd] at F2
  simp only [hsh] at F5 hha
  obtain ⟨tv, htv⟩ : ∃ a, (bys ct.e.tx).toArray = a := ⟨_, rfl⟩
  simp only [htv] at hne F3
  obtain ⟨S0, hS0⟩ : ∃ S0 : World → Prop, (fun X => (LDs 48 (.pointer (some ⟨g2, o2, none⟩))).run Tryz.prog X = .ok (.agg cv) X ∧ X.cell? ⟨h3, 0, none⟩ = some (.int .i64 kd) ∧ (LDs 41 (.pointer (some ⟨h3, 2, none⟩))).run Tryz.prog X = .ok (.agg tv) X ∧
    (LDs 27 (.pointer (some ⟨g, 0, none⟩))).run Tryz.prog X = .ok (.agg xs) X ∧ X.cell? ⟨h3, 1, none⟩ = some (.int .i64 sh)) = S0 := ⟨_, rfl⟩
  have hSS : ∀ X, Below Y.heap.size Y X → S0 X := fun X hX => by rw [← hS0]; exact ⟨F1 X hX, F2 X hX, F3 X hX, F4 X hX, F5 X hX⟩
  have hp1 := hpr
  have hcases : (PR = false ∧ RES = 16) ∨ (PR = true ∧ (kd != 2) = true ∧ RES = 16) ∨ (PR = true ∧ (kd != 2) = false ∧ (!tq) = true ∧ RES = 16) ∨ (PR = true ∧ (kd != 2) = false ∧ (!tq) = false ∧ CC = false ∧ RES = 16) ∨ (PR = true ∧ (kd != 2) = false ∧ (!tq) = false ∧ CC = true ∧ RES = 0) := by
    have a1 : decide (kd = 2) = !(kd != 2) := by simp [bne]; rfl
    have := HRES.out
    rw [a1] at this
    revert this
    cases PR <;> cases (kd != 2) <;> cases tq <;> cases CC <;> simp <;> intro e <;> exact e.symm
  have HS0 := Lib.hid hS0
  have HSS := Lib.hid hSS
  have HYW := Lib.hid q2
  have HHAS := Lib.hid hha
  have HHH := Lib.hid hh3
  clear hS0 hSS q2 hha hh3 F1 F2 F3 F4 F5 hpr hPR hCC q1 qq hkd hsh htq htv hY hB1 hstE HRES hck hld0
  rcases hcases with ⟨rfl, hRR⟩ | ⟨rfl, e0, hRR⟩ | ⟨rfl, e0, e1, hRR⟩ | ⟨rfl, e0, e1, rfl, hRR⟩ | ⟨rfl, e0, e1, rfl, hRR⟩
  · subst hRR
    go_upto_region 9 with fail
    rw [HHH.out]
    refine wp_txO [(0, 3), (1, 3), (2, 3), (3, 3), (4, 0), (5, 2), (6, 3), (7, 3), (8, 3), (9, 3), (10, 3), (11, 3), (12, 3), (13, 3), (14, 3), (15, 3), (16, 3), (17, 3), (18, 3), (19, 3), (20, 3), (21, 3), (22, 3), (23, 3), (24, 3), (25, 3), (26, 3), (27, 3)] S0 (by kernel_rfl) (by kernel_rfl) (by kernel_rfl) (by kernel_rfl) (HSS.out _ (Below.refl _ _).drew) ?_
    iterate 4 (with_reducible refine wpTxO_evN (o := ?_) (v := ?_) (a' := ?_) (by with_unfolding_all rfl) (by with_unfolding_all rfl) (fun W' => ?_) ?_ ?_; rotate_left 2; (focus (go_simp <;> with_reducible rfl)); focus (go_simp <;> with_reducible rfl))
    iterate 1 (with_reducible refine wpTxO_takeN (o := ?_) (v := ?_) (a' := ?_) (by with_unfolding_all rfl) (by with_unfolding_all rfl) (fun W' hS => ?_) ?_ ?_; rotate_left 2; (focus (rw [← HS0.out] at hS; obtain ⟨t1, t2, t3, t4, t5⟩ := hS; go_simp <;> with_reducible rfl)); focus (go_simp <;> with_reducible rfl))
    with_reducible refine wpTxO_last (o := ?_) (by with_unfolding_all rfl) (by with_unfolding_all rfl) (fun K hK => ?_)
    try simp only [List.getElem_toArray, List.getElem_cons_succ, List.getElem_cons_zero]
    go_simp
    with_reducible refine hp1.mono ?_
    rintro e w6 ⟨rfl, hB6⟩
    have hB6Y : Below Y.heap.size Y w6 := (Below.refl _ Y).drew.trans hB6
    have BX := Lib.hid hB6Y
    clear hB6Y hB6 hp1
    with_reducible refine hK _ _ ?_
    clear hK K
    iterate 2 (with_reducible refine wpTxO_evN (o := ?_) (v := ?_) (a' := ?_) (by with_unfolding_all rfl) (by with_unfolding_all rfl) (fun W' => ?_) ?_ ?_; rotate_left 2; (focus (go_simp <;> with_reducible rfl)); focus (go_simp <;> with_reducible rfl))
    iterate 3 (with_reducible refine wpTxO_evd (o := ?_) (a' := ?_) (by with_unfolding_all rfl) (by with_unfolding_all rfl) ?_ ?_; rotate_left; focus (go_simp <;> with_reducible rfl))
    iterate 2 (with_reducible refine wpTxO_evN (o := ?_) (v := ?_) (a' := ?_) (by with_unfolding_all rfl) (by with_unfolding_all rfl) (fun W' => ?_) ?_ ?_; rotate_left 2; (focus (go_simp <;> with_reducible rfl)); focus (go_simp <;> with_reducible rfl))
    iterate 5 (with_reducible refine wpTxO_evd (o := ?_) (a' := ?_) (by with_unfolding_all rfl) (by with_unfolding_all rfl) ?_ ?_; rotate_left; focus (go_simp <;> with_reducible rfl))
    iterate 2 (with_reducible refine wpTxO_evN (o := ?_) (v := ?_) (a' := ?_) (by with_unfolding_all rfl) (by with_unfolding_all rfl) (fun W' => ?_) ?_ ?_; rotate_left 2; (focus (go_simp <;> with_reducible rfl)); focus (go_simp <;> with_reducible rfl))
    iterate 7 (with_reducible refine wpTxO_evd (o := ?_) (a' := ?_) (by with_unfolding_all rfl) (by with_unfolding_all rfl) ?_ ?_; rotate_left; focus (go_simp <;> with_reducible rfl))
    iterate 1 (with_reducible refine wpTxO_evN (o := ?_) (v := ?_) (a' := ?_) (by with_unfolding_all rfl) (by with_unfolding_all rfl) (fun W' => ?_) ?_ ?_; rotate_left 2; (focus (go_simp <;> with_reducible rfl)); focus (go_simp <;> with_reducible rfl))
    with_reducible refine wpTxO_nil ?_
    rw [noPan_normal]
    go_wp2_with fail
    go_ret
    exact ⟨rfl, HB.out.trans ((HYW.out.trans (BX.out.mono HYW.out.size)).mono HB.out.size)⟩
  · subst hRR
    go_upto_region 9 with fail
    rw [HHH.out]
    refine wp_txO [(0, 3), (1, 3), (2, 3), (3, 3), (4, 0), (5, 1), (6, 3), (7, 3), (8, 3), (9, 0), (10, 3), (11, 3), (12, 3), (13, 3), (14, 3), (15, 3), (16, 3), (17, 3), (18, 3), (19, 3), (20, 3), (21, 3), (22, 3), (23, 3), (24, 3), (25, 3), (26, 3), (27, 3)] S0 (by kernel_rfl) (by kernel_rfl) (by kernel_rfl) (by kernel_rfl) (HSS.out _ (Below.refl _ _).drew) ?_
    iterate 4 (with_reducible refine wpTxO_evN (o := ?_) (v := ?_) (a' := ?_) (by with_unfolding_all rfl) (by with_unfolding_all rfl) (fun W' => ?_) ?_ ?_; rotate_left 2; (focus (go_simp <;> with_reducible rfl)); focus (go_simp <;> with_reducible rfl))
    iterate 1 (with_reducible refine wpTxO_takeN (o := ?_) (v := ?_) (a' := ?_) (by with_unfolding_all rfl) (by with_unfolding_all rfl) (fun W' hS => ?_) ?_ ?_; rotate_left 2; (focus (rw [← HS0.out] at hS; obtain ⟨t1, t2, t3, t4, t5⟩ := hS; go_simp <;> with_reducible rfl)); focus (go_simp <;> with_reducible rfl))
    with_reducible refine wpTxO_want (o := ?_) (by with_unfolding_all rfl) (by with_unfolding_all rfl) (fun K hK => ?_)
    try simp only [List.getElem_toArray, List.getElem_cons_succ, List.getElem_cons_zero]
    go_simp
    with_reducible refine hp1.mono ?_
    rintro e w6 ⟨rfl, hB6⟩
    have hB6Y : Below Y.heap.size Y w6 := (Below.refl _ Y).drew.trans hB6
    have BX := Lib.hid hB6Y
    clear hB6Y hB6 hp1
    with_reducible refine hK _ _ (HSS.out _ BX.out) ?_
    clear hK K
    iterate 3 (with_reducible refine wpTxO_evN (o := ?_) (v := ?_) (a' := ?_) (by with_unfolding_all rfl) (by with_unfolding_all rfl) (fun W' => ?_) ?_ ?_; rotate_left 2; (focus (go_simp <;> with_reducible rfl)); focus (go_simp <;> with_reducible rfl))
    iterate 1 (with_reducible refine wpTxO_takeN (o := ?_) (v := ?_) (a' := ?_) (by with_unfolding_all rfl) (by with_unfolding_all rfl) (fun W' hS => ?_) ?_ ?_; rotate_left 2; (focus (rw [← HS0.out] at hS; obtain ⟨t1, t2, t3, t4, t5⟩ := hS; go_simp <;> with_reducible rfl)); focus (go_simp <;> with_reducible rfl))
    iterate 3 (with_reducible refine wpTxO_evN (o := ?_) (v := ?_) (a' := ?_) (by with_unfolding_all rfl) (by with_unfolding_all rfl) (fun W' => ?_) ?_ ?_; rotate_left 2; (focus (go_simp <;> with_reducible rfl)); focus (go_simp <;> with_reducible rfl))
    iterate 5 (with_reducible refine wpTxO_evd (o := ?_) (a' := ?_) (by with_unfolding_all rfl) (by with_unfolding_all rfl) ?_ ?_; rotate_left; focus (go_simp <;> with_reducible rfl))
    iterate 2 (with_reducible refine wpTxO_evN (o := ?_) (v := ?_) (a' := ?_) (by with_unfolding_all rfl) (by with_unfolding_all rfl) (fun W' => ?_) ?_ ?_; rotate_left 2; (focus (go_simp <;> with_reducible rfl)); focus (go_simp <;> with_reducible rfl))
    iterate 7 (with_reducible refine wpTxO_evd (o := ?_) (a' := ?_) (by with_unfolding_all rfl) (by with_unfolding_all rfl) ?_ ?_; rotate_left; focus (go_simp <;> with_reducible rfl))
    iterate 1 (with_reducible refine wpTxO_evN (o := ?_) (v := ?_) (a' := ?_) (by with_unfolding_all rfl) (by with_unfolding_all rfl) (fun W' => ?_) ?_ ?_; rotate_left 2; (focus (go_simp <;> with_reducible rfl)); focus (go_simp <;> with_reducible rfl))
    with_reducible refine wpTxO_nil ?_
    rw [noPan_normal]
    go_wp2_with fail
    go_ret
    exact ⟨rfl, HB.out.trans ((HYW.out.trans (BX.out.mono HYW.out.size)).mono HB.out.size)⟩
  · subst hRR
    go_upto_region 9 with fail
    rw [HHH.out]
    refine wp_txO [(0, 3), (1, 3), (2, 3), (3, 3), (4, 0), (5, 1), (6, 3), (7, 3), (8, 3), (9, 0), (10, 3), (11, 3), (12, 3), (13, 3), (14, 0), (15, 0), (16, 1), (17, 3), (18, 3), (19, 3), (20, 3), (21, 3), (22, 3), (23, 3), (24, 3), (25, 3), (26, 3), (27, 3)] S0 (by kernel_rfl) (by kernel_rfl) (by kernel_rfl) (by kernel_rfl) (HSS.out _ (Below.refl _ _).drew) ?_
    iterate 4 (with_reducible refine wpTxO_evN (o := ?_) (v := ?_) (a' := ?_) (by with_unfolding_all rfl) (by with_unfolding_all rfl) (fun W' => ?_) ?_ ?_; rotate_left 2; (focus (go_simp <;> with_reducible rfl)); focus (go_simp <;> with_reducible rfl))
    iterate 1 (with_reducible refine wpTxO_takeN (o := ?_) (v := ?_) (a' := ?_) (by with_unfolding_all rfl) (by with_unfolding_all rfl) (fun W' hS => ?_) ?_ ?_; rotate_left 2; (focus (rw [← HS0.out] at hS; obtain ⟨t1, t2, t3, t4, t5⟩ := hS; go_simp <;> with_reducible rfl)); focus (go_simp <;> with_reducible rfl))
    with_reducible refine wpTxO_want (o := ?_) (by with_unfolding_all rfl) (by with_unfolding_all rfl) (fun K hK => ?_)
    try simp only [List.getElem_toArray, List.getElem_cons_succ, List.getElem_cons_zero]
    go_simp
    with_reducible refine hp1.mono ?_
    rintro e w6 ⟨rfl, hB6⟩
    have hB6Y : Below Y.heap.size Y w6 := (Below.refl _ Y).drew.trans hB6
    have BX := Lib.hid hB6Y
    clear hB6Y hB6 hp1
    with_reducible refine hK _ _ (HSS.out _ BX.out) ?_
    clear hK K
    iterate 3 (with_reducible refine wpTxO_evN (o := ?_) (v := ?_) (a' := ?_) (by with_unfolding_all rfl) (by with_unfolding_all rfl) (fun W' => ?_) ?_ ?_; rotate_left 2; (focus (go_simp <;> with_reducible rfl)); focus (go_simp <;> with_reducible rfl))
    iterate 1 (with_reducible refine wpTxO_takeN (o := ?_) (v := ?_) (a' := ?_) (by with_unfolding_all rfl) (by with_unfolding_all rfl) (fun W' hS => ?_) ?_ ?_; rotate_left 2; (focus (rw [← HS0.out] at hS; obtain ⟨t1, t2, t3, t4, t5⟩ := hS; go_simp <;> with_reducible rfl)); focus (go_simp <;> with_reducible rfl))
    iterate 4 (with_reducible refine wpTxO_evN (o := ?_) (v := ?_) (a' := ?_) (by with_unfolding_all rfl) (by with_unfolding_all rfl) (fun W' => ?_) ?_ ?_; rotate_left 2; (focus (go_simp <;> with_reducible rfl)); focus (go_simp <;> with_reducible rfl))
    iterate 2 (with_reducible refine wpTxO_takeN (o := ?_) (v := ?_) (a' := ?_) (by with_unfolding_all rfl) (by with_unfolding_all rfl) (fun W' hS => ?_) ?_ ?_; rotate_left 2; (focus (rw [← HS0.out] at hS; obtain ⟨t1, t2, t3, t4, t5⟩ := hS; go_simp <;> with_reducible rfl)); focus (go_simp <;> with_reducible rfl))
    with_reducible refine wpTxO_want (o := ?_) (by with_unfolding_all rfl) (by with_unfolding_all rfl) (fun K hK => ?_)
    try simp only [List.getElem_toArray, List.getElem_cons_succ, List.getElem_cons_zero]
    go_simp
    have hs16 := HID.out _ (HYW.out.trans (BX.out.mono HYW.out.size))
    with_reducible refine hs16.mono ?_
    rintro e w16 ⟨rfl, hB16⟩
    have hB16Y := BX.out.trans (hB16.mono BX.out.size)
    clear BX hs16 hB16
    have BX := Lib.hid hB16Y
    clear hB16Y
    with_reducible refine hK _ _ (HSS.out _ BX.out) ?_
    clear hK K
    iterate 3 (with_reducible refine wpTxO_evN (o := ?_) (v := ?_) (a' := ?_) (by with_unfolding_all rfl) (by with_unfolding_all rfl) (fun W' => ?_) ?_ ?_; rotate_left 2; (focus (go_simp <;> with_reducible rfl)); focus (go_simp <;> with_reducible rfl))
    iterate 7 (with_reducible refine wpTxO_evd (o := ?_) (a' := ?_) (by with_unfolding_all rfl) (by with_unfolding_all rfl) ?_ ?_; rotate_left; focus (go_simp <;> with_reducible rfl))
    iterate 1 (with_reducible refine wpTxO_evN (o := ?_) (v := ?_) (a' := ?_) (by with_unfolding_all rfl) (by with_unfolding_all rfl) (fun W' => ?_) ?_ ?_; rotate_left 2; (focus (go_simp <;> with_reducible rfl)); focus (go_simp <;> with_reducible rfl))
    with_reducible refine wpTxO_nil ?_
    rw [noPan_normal]
    go_wp2_with fail
    go_ret
    exact ⟨rfl, HB.out.trans ((HYW.out.trans (BX.out.mono HYW.out.size)).mono HB.out.size)⟩
  · subst hRR
    go_upto_region 9 with fail
    rw [HHH.out]
    refine wp_txO [(0, 3), (1, 3), (2, 3), (3, 3), (4, 0), (5, 1), (6, 3), (7, 3), (8, 3), (9, 0), (10, 3), (11, 3), (12, 3), (13, 3), (14, 0), (15, 0), (16, 1), (17, 3), (18, 3), (19, 3), (21, 3), (23, 3), (20, 0), (24, 0), (22, 1), (25, 2), (26, 3), (27, 3)] S0 (by kernel_rfl) (by kernel_rfl) (by kernel_rfl) (by kernel_rfl) (HSS.out _ (Below.refl _ _).drew) ?_
    iterate 4 (with_reducible refine wpTxO_evN (o := ?_) (v := ?_) (a' := ?_) (by with_unfolding_all rfl) (by with_unfolding_all rfl) (fun W' => ?_) ?_ ?_; rotate_left 2; (focus (go_simp <;> with_reducible rfl)); focus (go_simp <;> with_reducible rfl))
    iterate 1 (with_reducible refine wpTxO_takeN (o := ?_) (v := ?_) (a' := ?_) (by with_unfolding_all rfl) (by with_unfolding_all rfl) (fun W' hS => ?_) ?_ ?_; rotate_left 2; (focus (rw [← HS0.out] at hS; obtain ⟨t1, t2, t3, t4, t5⟩ := hS; go_simp <;> with_reducible rfl)); focus (go_simp <;> with_reducible rfl))
    with_reducible refine wpTxO_want (o := ?_) (by with_unfolding_all rfl) (by with_unfolding_all rfl) (fun K hK => ?_)
    try simp only [List.getElem_toArray, List.getElem_cons_succ, List.getElem_cons_zero]
    go_simp
    with_reducible refine hp1.mono ?_
    rintro e w6 ⟨rfl, hB6⟩
    have hB6Y : Below Y.heap.size Y w6 := (Below.refl _ Y).drew.trans hB6
    have BX := Lib.hid hB6Y
    clear hB6Y hB6 hp1
    with_reducible refine hK _ _ (HSS.out _ BX.out) ?_
    clear hK K
    iterate 3 (with_reducible refine wpTxO_evN (o := ?_) (v := ?_) (a' := ?_) (by with_unfolding_all rfl) (by with_unfolding_all rfl) (fun W' => ?_) ?_ ?_; rotate_left 2; (focus (go_simp <;> with_reducible rfl)); focus (go_simp <;> with_reducible rfl))
    iterate 1 (with_reducible refine wpTxO_takeN (o := ?_) (v := ?_) (a' := ?_) (by with_unfolding_all rfl) (by with_unfolding_all rfl) (fun W' hS => ?_) ?_ ?_; rotate_left 2; (focus (rw [← HS0.out] at hS; obtain ⟨t1, t2, t3, t4, t5⟩ := hS; go_simp <;> with_reducible rfl)); focus (go_simp <;> with_reducible rfl))
    iterate 4 (with_reducible refine wpTxO_evN (o := ?_) (v := ?_) (a' := ?_) (by with_unfolding_all rfl) (by with_unfolding_all rfl) (fun W' => ?_) ?_ ?_; rotate_left 2; (focus (go_simp <;> with_reducible rfl)); focus (go_simp <;> with_reducible rfl))
    iterate 2 (with_reducible refine wpTxO_takeN (o := ?_) (v := ?_) (a' := ?_) (by with_unfolding_all rfl) (by with_unfolding_all rfl) (fun W' hS => ?_) ?_ ?_; rotate_left 2; (focus (rw [← HS0.out] at hS; obtain ⟨t1, t2, t3, t4, t5⟩ := hS; go_simp <;> with_reducible rfl)); focus (go_simp <;> with_reducible rfl))
    with_reducible refine wpTxO_want (o := ?_) (by with_unfolding_all rfl) (by with_unfolding_all rfl) (fun K hK => ?_)
    try simp only [List.getElem_toArray, List.getElem_cons_succ, List.getElem_cons_zero]
    go_simp
    have hs16 := HID.out _ (HYW.out.trans (BX.out.mono HYW.out.size))
    with_reducible refine hs16.mono ?_
    rintro e w16 ⟨rfl, hB16⟩
    have hB16Y := BX.out.trans (hB16.mono BX.out.size)
    clear BX hs16 hB16
    have BX := Lib.hid hB16Y
    clear hB16Y
    with_reducible refine hK _ _ (HSS.out _ BX.out) ?_
    clear hK K
    iterate 5 (with_reducible refine wpTxO_evN (o := ?_) (v := ?_) (a' := ?_) (by with_unfolding_all rfl) (by with_unfolding_all rfl) (fun W' => ?_) ?_ ?_; rotate_left 2; (focus (go_simp <;> with_reducible rfl)); focus (go_simp <;> with_reducible rfl))
    iterate 2 (with_reducible refine wpTxO_takeN (o := ?_) (v := ?_) (a' := ?_) (by with_unfolding_all rfl) (by with_unfolding_all rfl) (fun W' hS => ?_) ?_ ?_; rotate_left 2; (focus (rw [← HS0.out] at hS; obtain ⟨t1, t2, t3, t4, t5⟩ := hS; go_simp <;> with_reducible rfl)); focus (go_simp <;> with_reducible rfl))
    with_reducible refine wpTxO_want (o := ?_) (by with_unfolding_all rfl) (by with_unfolding_all rfl) (fun K hK => ?_)
    try simp only [List.getElem_toArray, List.getElem_cons_succ, List.getElem_cons_zero]
    go_simp
    have hs22 := HSP.out _ (HYW.out.trans (BX.out.mono HYW.out.size))
    with_reducible refine hs22.mono ?_
    rintro e w22 ⟨v22, rfl, hv22, hB22⟩
    obtain ⟨A22, N22, c22, rfl⟩ := hv22.formN
    have hh25 := HHAS.out w22 A22 N22 c22 hv22.rd hv22.lenN
    have hB22Y := BX.out.trans (hB22.mono BX.out.size)
    clear BX hs22 hB22 hv22
    have BX := Lib.hid hB22Y
    clear hB22Y
    with_reducible refine hK _ _ (HSS.out _ BX.out) ?_
    clear hK K
    with_reducible refine wpTxO_last (o := ?_) (by with_unfolding_all rfl) (by with_unfolding_all rfl) (fun K hK => ?_)
    try simp only [List.getElem_toArray, List.getElem_cons_succ, List.getElem_cons_zero]
    go_simp
    with_reducible refine hh25.mono ?_
    rintro e w25 ⟨rfl, hB25⟩
    have hB25Y := BX.out.trans (hB25.mono BX.out.size)
    clear BX hh25 hB25
    have BX := Lib.hid hB25Y
    clear hB25Y
    with_reducible refine hK _ _ ?_
    clear hK K
    iterate 2 (with_reducible refine wpTxO_evN (o := ?_) (v := ?_) (a' := ?_) (by with_unfolding_all rfl) (by with_unfolding_all rfl) (fun W' => ?_) ?_ ?_; rotate_left 2; (focus (go_simp <;> with_reducible rfl)); focus (go_simp <;> with_reducible rfl))
    with_reducible refine wpTxO_nil ?_
    rw [noPan_normal]
    go_wp2_with fail
    go_ret
    exact ⟨rfl, HB.out.trans ((HYW.out.trans (BX.out.mono HYW.out.size)).mono HB.out.size)⟩
  · subst hRR
    go_upto_region 9 with fail
    rw [HHH.out]
    refine wp_txO [(0, 3), (1, 3), (2, 3), (3, 3), (4, 0), (5, 1), (6, 3), (7, 3), (8, 3), (9, 0), (10, 3), (11, 3), (12, 3), (13, 3), (14, 0), (15, 0), (16, 1), (17, 3), (18, 3), (19, 3), (21, 3), (23, 3), (20, 0), (24, 0), (22, 1), (25, 2), (26, 3), (27, 3)] S0 (by kernel_rfl) (by kernel_rfl) (by kernel_rfl) (by kernel_rfl) (HSS.out _ (Below.refl _ _).drew) ?_
    iterate 4 (with_reducible refine wpTxO_evN (o := ?_) (v := ?_) (a' := ?_) (by with_unfolding_all rfl) (by with_unfolding_all rfl) (fun W' => ?_) ?_ ?_; rotate_left 2; (focus (go_simp <;> with_reducible rfl)); focus (go_simp <;> with_reducible rfl))
    iterate 1 (with_reducible refine wpTxO_takeN (o := ?_) (v := ?_) (a' := ?_) (by with_unfolding_all rfl) (by with_unfolding_all rfl) (fun W' hS => ?_) ?_ ?_; rotate_left 2; (focus (rw [← HS0.out] at hS; obtain ⟨t1, t2, t3, t4, t5⟩ := hS; go_simp <;> with_reducible rfl)); focus (go_simp <;> with_reducible rfl))
    with_reducible refine wpTxO_want (o := ?_) (by with_unfolding_all rfl) (by with_unfolding_all rfl) (fun K hK => ?_)
    try simp only [List.getElem_toArray, List.getElem_cons_succ, List.getElem_cons_zero]
    go_simp
    with_reducible refine hp1.mono ?_
    rintro e w6 ⟨rfl, hB6⟩
    have hB6Y : Below Y.heap.size Y w6 := (Below.refl _ Y).drew.trans hB6
    have BX := Lib.hid hB6Y
    clear hB6Y hB6 hp1
    with_reducible refine hK _ _ (HSS.out _ BX.out) ?_
    clear hK K
    iterate 3 (with_reducible refine wpTxO_evN (o := ?_) (v := ?_) (a' := ?_) (by with_unfolding_all rfl) (by with_unfolding_all rfl) (fun W' => ?_) ?_ ?_; rotate_left 2; (focus (go_simp <;> with_reducible rfl)); focus (go_simp <;> with_reducible rfl))
    iterate 1 (with_reducible refine wpTxO_takeN (o := ?_) (v := ?_) (a' := ?_) (by with_unfolding_all rfl) (by with_unfolding_all rfl) (fun W' hS => ?_) ?_ ?_; rotate_left 2; (focus (rw [← HS0.out] at hS; obtain ⟨t1, t2, t3, t4, t5⟩ := hS; go_simp <;> with_reducible rfl)); focus (go_simp <;> with_reducible rfl))
    iterate 4 (with_reducible refine wpTxO_evN (o := ?_) (v := ?_) (a' := ?_) (by with_unfolding_all rfl) (by with_unfolding_all rfl) (fun W' => ?_) ?_ ?_; rotate_left 2; (focus (go_simp <;> with_reducible rfl)); focus (go_simp <;> with_reducible rfl))
    iterate 2 (with_reducible refine wpTxO_takeN (o := ?_) (v := ?_) (a' := ?_) (by with_unfolding_all rfl) (by with_unfolding_all rfl) (fun W' hS => ?_) ?_ ?_; rotate_left 2; (focus (rw [← HS0.out] at hS; obtain ⟨t1, t2, t3, t4, t5⟩ := hS; go_simp <;> with_reducible rfl)); focus (go_simp <;> with_reducible rfl))
    with_reducible refine wpTxO_want (o := ?_) (by with_unfolding_all rfl) (by with_unfolding_all rfl) (fun K hK => ?_)
    try simp only [List.getElem_toArray, List.getElem_cons_succ, List.getElem_cons_zero]
    go_simp
    have hs16 := HID.out _ (HYW.out.trans (BX.out.mono HYW.out.size))
    with_reducible refine hs16.mono ?_
    rintro e w16 ⟨rfl, hB16⟩
    have hB16Y := BX.out.trans (hB16.mono BX.out.size)
    clear BX hs16 hB16
    have BX := Lib.hid hB16Y
    clear hB16Y
    with_reducible refine hK _ _ (HSS.out _ BX.out) ?_
    clear hK K
    iterate 5 (with_reducible refine wpTxO_evN (o := ?_) (v := ?_) (a' := ?_) (by with_unfolding_all rfl) (by with_unfolding_all rfl) (fun W' => ?_) ?_ ?_; rotate_left 2; (focus (go_simp <;> with_reducible rfl)); focus (go_simp <;> with_reducible rfl))
    iterate 2 (with_reducible refine wpTxO_takeN (o := ?_) (v := ?_) (a' := ?_) (by with_unfolding_all rfl) (by with_unfolding_all rfl) (fun W' hS => ?_) ?_ ?_; rotate_left 2; (focus (rw [← HS0.out] at hS; obtain ⟨t1, t2, t3, t4, t5⟩ := hS; go_simp <;> with_reducible rfl)); focus (go_simp <;> with_reducible rfl))
    with_reducible refine wpTxO_want (o := ?_) (by with_unfolding_all rfl) (by with_unfolding_all rfl) (fun K hK => ?_)
    try simp only [List.getElem_toArray, List.getElem_cons_succ, List.getElem_cons_zero]
    go_simp
    have hs22 := HSP.out _ (HYW.out.trans (BX.out.mono HYW.out.size))
    with_reducible refine hs22.mono ?_
    rintro e w22 ⟨v22, rfl, hv22, hB22⟩
    obtain ⟨A22, N22, c22, rfl⟩ := hv22.formN
    have hh25 := HHAS.out w22 A22 N22 c22 hv22.rd hv22.lenN
    have hB22Y := BX.out.trans (hB22.mono BX.out.size)
    clear BX hs22 hB22 hv22
    have BX := Lib.hid hB22Y
    clear hB22Y
    with_reducible refine hK _ _ (HSS.out _ BX.out) ?_
    clear hK K
    with_reducible refine wpTxO_last (o := ?_) (by with_unfolding_all rfl) (by with_unfolding_all rfl) (fun K hK => ?_)
    try simp only [List.getElem_toArray, List.getElem_cons_succ, List.getElem_cons_zero]
    go_simp
    with_reducible refine hh25.mono ?_
    rintro e w25 ⟨rfl, hB25⟩
    have hB25Y := BX.out.trans (hB25.mono BX.out.size)
    clear BX hh25 hB25
    have BX := Lib.hid hB25Y
    clear hB25Y
    with_reducible refine hK _ _ ?_
    clear hK K
    iterate 2 (with_reducible refine wpTxO_evN (o := ?_) (v := ?_) (a' := ?_) (by with_unfolding_all rfl) (by with_unfolding_all rfl) (fun W' => ?_) ?_ ?_; rotate_left 2; (focus (go_simp <;> with_reducible rfl)); focus (go_simp <;> with_reducible rfl))
    with_reducible refine wpTxO_nil ?_
    rw [noPan_normal]
    go_wp2_with fail
    go_ret
    exact ⟨rfl, HB.out.trans ((HYW.out.trans (BX.out.mono HYW.out.size)).mono HB.out.size)⟩
end Go.Proofs.YtmflhidmhefljaaGreatDoor
