/-
  driver.New of a transaction at the shards 0 and 1 of two.
  seisinlaw28.two: the example's transaction; driver.New of no transaction.
  seisinlaw28.awake.
-/
import Derived.Test.YtdkanehjahpehaaGreatDoorJDrvD
import Derived.Test.YtdkanehjahpehaaGreatDoorJLook
import Derived.Test.YtdkanehjahpehaaGreatDoorJMapE
import Derived.Test.YtdkanehjahpehaaGreatDoorJRForm

section
namespace Go.Proofs.YtdkanehjahpehaaGreatDoor
open Go.RowKit Go.Shelf
set_option maxRecDepth 100000

theorem bdDrv_of (parts : Array (Nat × Value)) : Instr.build 97 parts = BDs 97 parts := rfl
theorem bdDrv (cl k : Int) (A1 : Option Addr) (c1 : Nat) (A2 : Option Addr) (c2 : Nat) (t : TxD) (w : World) : (BDs 97 #[(0, .int .i64 cl), (1, .int .i64 2), (2, .int .i64 k), (3, .agg (txV A1 c1 A2 c2 t))]).run Tryz.prog w = .ok (.agg (drvV cl 2 k A1 c1 A2 c2 t (.slice none 0 0) (.slice none 0 0) 0 0 (.slice none 0 0))) w := run_build w _ _ _ (by kernel_rfl)
theorem drv_not01 (cl k : Int) (A1 : Option Addr) (c1 : Nat) (A2 : Option Addr) (c2 : Nat) (t : TxD) : ∀ o : Nat, (drvV cl 2 k A1 c1 A2 c2 t (.slice none 0 0) (.slice none 0 0) 0 0 (.slice none 0 0))[o]? = some (.int .i64 0) → (drvV cl 2 k A1 c1 A2 c2 t (.slice none 0 0) (.slice none 0 0) 0 0 (.slice none 0 0))[o + 1]? = some (.int .i64 1) → False := by
  intro o h1 h2
  rcases o with _ | _ | _ | _ | _ | _ | _ | _ | _ | _ | _ | _ | o <;> simp [drvV] at h1 h2
theorem two_all : singleP twoT 2 = (0, false) := by
  have ho : okN 2 = true := by decide
  have h2 : outsP twoT 2 = [ofO (idP twoT) 0 2] := by
    unfold outsP
    rw [if_pos ⟨two_check, ho⟩]
    rfl
  obtain ⟨h0, h1, _⟩ := ofO_bd (idP twoT) 0 2 ho
  have hl : (allP twoT 2).length = 2 := by
    unfold allP
    rw [two_ins, h2]
    obtain ⟨x, hx⟩ : ∃ x, ofO (idP twoT) 0 2 = x := ⟨_, rfl⟩
    rw [hx] at h0 h1 ⊢
    have hx2 : x = 0 ∨ x = 1 := by omega
    rcases hx2 with rfl | rfl
    · decide
    · decide
  unfold singleP
  rw [if_neg (by omega)]
theorem two_lock : 70 < (lockF twoT).length := by decide +kernel

attribute [local go_sem ↓] ldTx_ofY stTx_ofY alTx_ofY bdDrv_of
/-- What is behind New. -/
def NewPost (cl : Int) (k : Nat) (t : TxD) (w : World) (e : Ending) (w' : World) : Prop :=
  ∃ E D B1 d1 B2 d2 kb first out R, e = .returned (.pointer (some ⟨D, 0, none⟩)) ∧ w.heap.size ≤ E ∧ DrvO E w' D cl 2 k B1 d1 B2 d2 t 2 kb (fun _ => repZ) first 2 (fun _ => ⟨0, 12, false⟩) (reqs0 cl 2) out R

set_option maxHeartbeats 16000000 in
theorem new_any (cl : Int) (k : Nat) (h1 : 1 ≤ k) (h7 : k ≤ 7) (A1 : Option Addr) (c1 : Nat) (A2 : Option Addr) (c2 : Nat) (t : TxD) (hck : checkP t = 0) (hL : 70 < (lockF t).length) (hin : eachP (insP t 2) = [0, 1]) (hsg : singleP t 2 = (0, false)) (w : World) (h : TxAt w A1 A2 t) (hgl : Glob w) :
    Calls Tryz.prog 10 #[.int .i64 cl, .agg (txV A1 c1 A2 c2 t), .int .i64 2, .int .i64 (k : Int)] w fun e w' => NewPost cl k t w e w' ∧ Below w.heap.size w w' := by
  obtain ⟨hl1, _, _, _⟩ := checkP_ok hck
  obtain ⟨⟨_, hn16⟩, ⟨_, hm16⟩, _, _⟩ := longP_not hl1
  have hfb := formTx_bd h.bd hl1
  have hput : putP t = formTx t := by unfold putP; rw [if_pos hck]
  have hkI1 : (1 : Int) ≤ (k : Int) := by omega
  have hkI7 : (k : Int) ≤ 7 := by omega
  have b0 := Blk.new w 26 (txV A1 c1 A2 c2 t)
  have B0 : Below w.heap.size w (w.alloc (.cells (txV A1 c1 A2 c2 t) 26)) := (Below.refl _ w).alloc (Nat.le_refl _) _
  obtain ⟨W, hW⟩ : ∃ W, w.alloc (.cells (txV A1 c1 A2 c2 t) 26) = W := ⟨_, rfl⟩
  rw [hW] at b0 B0
  obtain ⟨g, hg⟩ : ∃ g, w.heap.size = g := ⟨_, rfl⟩
  rw [hg] at b0
  have hld := fun X (hX : Below W.heap.size W X) => LDs_allY (P := Tryz.prog) uTxY iTxY (w := X) (txV A1 c1 A2 c2 t).toList (by simpa using b0.fr (Fr.of_below hX) (by have := b0.lt; omega)) rfl
  simp only [show (txV A1 c1 A2 c2 t).toList.toArray = txV A1 c1 A2 c2 t by simp] at hld
  have hchk := txcheck_any A1 c1 A2 c2 t W (h.below B0) (by omega) (by omega)
  rw [hck] at hchk
  have htp := fun X (hX : Below W.heap.size W X) => txput_any A1 c1 A2 c2 t X ((h.below B0).below hX) (by omega) (by omega)
  simp only [hck, hput] at htp
  have hbd := h.bd
  obtain ⟨tv, htv⟩ : ∃ x, txV A1 c1 A2 c2 t = x := ⟨_, rfl⟩
  simp only [htv] at hld hchk htp
  rw [htv] at hW ⊢
  have hld0 := hld W (Below.refl _ _)
  have hglW := hgl.below B0
  obtain ⟨Z, hal, hst, hZs⟩ := alstY (P := Tryz.prog) (t := 26) iTxY (by kernel_rfl)
  have HW := Lib.hid hW
  have HG := Lib.hid hg
  have HB0 := Lib.hid B0
  have HLD := Lib.hid hld
  have HTP := Lib.hid htp
  have HBD := Lib.hid hbd
  have HFB := Lib.hid hfb
  have HST := Lib.hid hst
  have HGLW := Lib.hid hglW
  clear hW hg B0 hld htp hbd hfb hst hglW b0 htv h hput hgl
  go_enter Tryz.func10, Tryz.ntmps10
  go_upto_region 1 with fail
  rw [HW.out, HG.out]
  go_wp2_with fail
  with_reducible refine hchk.mono ?_
  rintro e w1 ⟨rfl, hB1⟩
  have hld1 := HLD.out w1 hB1
  have hput := HTP.out w1 hB1
  clear hld0 hchk
  go_wp2_with fail
  with_reducible refine hput.mono ?_
  rintro e w2 ⟨v, rfl, hv, hB2⟩
  obtain ⟨Av, cv, rfl, hyv, _, _⟩ := hv.byt HFB.out
  have hnv : Av = none → cv = 0 := by
    rintro rfl
    obtain ⟨_, ⟨e, _⟩ | ⟨g9, cap9, cur9, e, _⟩⟩ := hv
    · simp only [Value.slice.injEq] at e
      exact e.2.2
    · simp at e
  have hrd := txread_ok Av cv hnv t hck HBD.out w2 hyv
  have hB2W := hB1.trans (hB2.mono hB1.size)
  obtain ⟨F, hF⟩ : ∃ x, formTx t = x := ⟨_, rfl⟩
  rw [hF] at hrd
  rw [hF]
  have HB2 := Lib.hid hB2W
  clear hB2W hB1 hB2 hv hyv hnv hput hF hld1
  go_wp2_with fail
  with_reducible refine hrd.mono ?_
  rintro e w3 ⟨⟨B1, d1, B2, d2, rfl, hfar⟩, hB3⟩
  have hB3W := HB2.out.trans (hB3.mono HB2.out.size)
  have hst3 := HST.out w3 (txV B1 d1 B2 d2 t).toList rfl (by simp [txV, Value.oneCell'])
  simp only [show (txV B1 d1 B2 d2 t).toList.toArray = txV B1 d1 B2 d2 t by simp] at hst3
  have hal3 := hal w3
  have b3 := Blk.new w3 26 (txV B1 d1 B2 d2 t)
  have B4 : Below w3.heap.size w3 (w3.alloc (.cells (txV B1 d1 B2 d2 t) 26)) := (Below.refl _ w3).alloc (Nat.le_refl _) _
  obtain ⟨o, ho⟩ : ∃ x, w3.heap.size = x := ⟨_, rfl⟩
  obtain ⟨w4, hw4⟩ : ∃ X, w3.alloc (.cells (txV B1 d1 B2 d2 t) 26) = X := ⟨_, rfl⟩
  rw [hw4] at b3 B4
  rw [ho] at b3
  have hT4 := hfar.at_.below B4
  have hB4W := hB3W.trans (B4.mono hB3W.size)
  -- the driver
  have hbdd := fun X => bdDrv cl (k : Int) B1 d1 B2 d2 t X
  have d5 := Blk.new w4 97 (drvV cl 2 (k : Int) B1 d1 B2 d2 t (.slice none 0 0) (.slice none 0 0) 0 0 (.slice none 0 0))
  have B5 : Below w4.heap.size w4 (w4.alloc (.cells (drvV cl 2 (k : Int) B1 d1 B2 d2 t (.slice none 0 0) (.slice none 0 0) 0 0 (.slice none 0 0)) 97)) := (Below.refl _ w4).alloc (Nat.le_refl _) _
  obtain ⟨D, hD⟩ : ∃ x, w4.heap.size = x := ⟨_, rfl⟩
  have hn01 := drv_not01 cl (k : Int) B1 d1 B2 d2 t
  obtain ⟨dv, hdv⟩ : ∃ x, drvV cl 2 (k : Int) B1 d1 B2 d2 t (.slice none 0 0) (.slice none 0 0) 0 0 (.slice none 0 0) = x := ⟨_, rfl⟩
  rw [hdv] at d5 B5 hn01
  simp only [hdv] at hbdd
  obtain ⟨w5, hw5⟩ : ∃ X, w4.alloc (.cells dv 97) = X := ⟨_, rfl⟩
  rw [hw5] at d5 B5
  rw [hD] at d5
  have hB5W := hB4W.trans (B5.mono hB4W.size)
  have hoD : o < D := by rw [← hD]; exact b3.lt
  have b5 := b3.fr (Fr.of_below B5) (by omega)
  have hldo := fun X (hX : Below w5.heap.size w5 X) => LDs_allY (P := Tryz.prog) uTxY iTxY (w := X) (txV B1 d1 B2 d2 t).toList (by simpa using b5.fr (Fr.of_below hX) (by have := b5.lt; omega)) rfl
  simp only [show (txV B1 d1 B2 d2 t).toList.toArray = txV B1 d1 B2 d2 t by simp] at hldo
  have hld4 := LDs_allY (P := Tryz.prog) uTxY iTxY (w := w4) (txV B1 d1 B2 d2 t).toList (by simpa using b3) rfl
  simp only [show (txV B1 d1 B2 d2 t).toList.toArray = txV B1 d1 B2 d2 t by simp] at hld4
  have hld5 := hldo w5 (Below.refl _ _)
  have hgl5 := HGLW.out.below hB5W
  have hsin := msingle_any B1 d1 B2 d2 t 2 (by omega) w5 (hT4.below B5) hgl5 (by omega) (by omega)
  rw [hsg] at hsin
  have hmin := fun X (hX : Below w5.heap.size w5 X) => mins_any B1 d1 B2 d2 t 2 (by omega) X ((hT4.below B5).below hX) (hgl5.below hX) (by omega) (by omega)
  simp only [hin] at hmin
  have htx : ∀ X, Below D w5 X → TxAt X B1 B2 t := fun X hX => hT4.below ((B5.trans (by rw [hD]; exact hX)))
  obtain ⟨ov, hov⟩ : ∃ x, txV B1 d1 B2 d2 t = x := ⟨_, rfl⟩
  simp only [hov] at hst3 hbdd hldo hld4 hld5 hsin hmin
  rw [hov] at hw4 ⊢
  have HB5 := Lib.hid hB5W
  have HW4 := Lib.hid hw4
  have HW5 := Lib.hid hw5
  have HO := Lib.hid ho
  have HDD := Lib.hid hD
  have HD5 := Lib.hid d5
  have HLDO := Lib.hid hldo
  have HMIN := Lib.hid hmin
  have HTX := Lib.hid htx
  have HDV := Lib.hid hdv
  have HN01 := Lib.hid hn01
  have HCK := Lib.hid hck
  have HL := Lib.hid hL
  have HB45 := Lib.hid hB4W
  clear hB5W hw4 hw5 ho hD d5 hldo hmin htx hdv hn01 hck hL hB4W hB3 hB3W hfar b3 B4 B5 b5 hT4 hgl5 hov hrd hoD hin hsg hl1
  go_upto_region 5 with fail
  rw [HW4.out, HO.out]
  clear hst3 hal3 hal
  go_upto_region 6 with fail
  rw [HW5.out, HDD.out]
  clear hbdd hld4
  go_wp2_with fail
  with_reducible refine hsin.mono ?_
  rintro e w6 ⟨rfl, hB6⟩
  have hld6 := HLDO.out w6 hB6
  have hmin := HMIN.out w6 hB6
  have HB6 := Lib.hid hB6
  clear hB6 hsin hld5
  go_wp2_with fail
  with_reducible refine hmin.mono ?_
  rintro e w7 ⟨As, cs, rfl, hr7, hB7⟩
  have hB57 := HB6.out.trans (hB7.mono HB6.out.size)
  have d7 := HD5.out.fr (Fr.of_below hB57) (by have := HD5.out.lt; omega)
  have hD5s : D < w5.heap.size := HD5.out.lt
  have hBD7 : Below D w5 w7 := hB57.mono (by omega)
  have hdb : DrvB D w7 D cl 2 k B1 d1 B2 d2 t 0 (fun _ => 0) (.slice none 0 0) (.slice none 0 0) [] := ⟨by rw [← HDV.out] at d7; exact d7, fun j hj => absurd hj (by omega), fun a b ha => absurd ha (by omega), OwnP.nil _ _, OwnR.nil _ _ _ _, Reqs.nil, fun X hX => HTX.out X (hBD7.trans hX), ⟨Nat.le_refl _, fun j hj => absurd hj (by omega)⟩, by have := hB57.size; omega⟩
  have hAD : ∀ a, As = some a → a.block ≠ D := fun a ha e => by
    obtain ⟨g9, o9, e9, _, hc9⟩ := hr7 (by simp)
    rw [ha] at e9
    cases e9
    subst e
    exact HN01.out o9 ((d7.cell o9).symm.trans (hc9 0 0 rfl)) ((d7.cell (o9 + 1)).symm.trans (hc9 1 1 rfl))
  have htk := tasks_any (cs := cs) hdb HCK.out HL.out (N := 2) (by omega) (l := [0, 1]) rfl hr7 (fun j hj => by
    match j, hj with
    | 0, _ => rfl
    | 1, _ => rfl) hAD
  rw [show ([0, 1] : List Int).length = 2 from rfl] at htk
  have HB57 := Lib.hid hB57
  have HBD7 := Lib.hid hBD7
  have HD5S := Lib.hid hD5s
  clear hB57 hBD7 hD5s hr7 hB7 d7 hdb hAD hmin hld6
  go_wp2_with fail
  with_reducible refine htk.mono ?_
  rintro e w8 ⟨vf, kb, out, R, rfl, hdb, hfd⟩
  have q8 : w8.cell? ⟨D, 7, none⟩ = some (.slice none 0 0) := hdb.drv.cell 7
  have z8 := hdb.drv.frozen 7
  have d9 : Blk (w8.setCell ⟨D, 7, none⟩ vf) D 97 (drvV cl 2 (k : Int) B1 d1 B2 d2 t vf (.slice none 0 0) 2 0 out) := by simpa [drvV] using hdb.drv.set_ 7 vf
  have f9 : Fr (fun b => b = D) w8 (w8.setCell ⟨D, 7, none⟩ vf) := (Fr.refl (fun b => b = D) w8).setCell (p := ⟨D, 7, none⟩) (fun _ => rfl) _
  have hBf : Below D w8 (w8.setCell ⟨D, 7, none⟩ vf) := f9.below hdb.hi (fun b hb e => by omega)
  have hfin : DrvO D (w8.setCell ⟨D, 7, none⟩ vf) D cl 2 k B1 d1 B2 d2 t 2 kb (fun _ => repZ) vf 2 (fun _ => ⟨0, 12, false⟩) (reqs0 cl 2) out R := ⟨d9, fun j hj => (hdb.tasks j hj).fr f9 (fun e => hdb.drv.ne_ (hdb.tasks j hj).blk (by decide) e.symm), hdb.ne, hdb.row.fr f9 (fun b hb e => own_ne hdb.row hdb.drv (by decide) (e ▸ hb)), hdb.own.fr f9 (fun b hb e => own_ne hdb.own.own hdb.drv (by decide) (e ▸ hb)), hdb.reqs, fun X hX => hdb.tx X (hBf.trans hX), hdb.lo, Nat.le_trans hdb.hi f9.size, fun j _ => by simp; omega⟩
  have hBw : Below w.heap.size w (w8.setCell ⟨D, 7, none⟩ vf) := by
    have e1 : W.heap.size ≤ D := by have := HB45.out.size; have := HDD.out; omega
    have e2 : Below W.heap.size W w8 := (HB5.out.trans (HBD7.out.mono e1)).trans (hfd.below (by have := HB5.out.size; have := HB57.out.size; omega) (fun b hb e => by omega))
    exact (HB0.out.trans (e2.mono HB0.out.size)).trans (hBf.mono (by have := HB0.out.size; omega))
  have hwD : w.heap.size ≤ D := by have := HB45.out.size; have := HDD.out; have := HB0.out.size; omega
  obtain ⟨Avf, Nvf, cvf, rfl, -⟩ := hdb.row.formN
  have HFIN := Lib.hid hfin
  have HBWF := Lib.hid hBw
  clear hfin hBw hdb hfd d9 f9 hBf htk
  go_wp2_with fail
  go_ret
  exact ⟨⟨D, D, B1, d1, B2, d2, kb, _, out, R, rfl, hwD, HFIN.out⟩, HBWF.out⟩
end Go.Proofs.YtdkanehjahpehaaGreatDoor
end

section
namespace Go.Proofs.YtdkanehjahpehaaGreatDoor
open Go.RowKit Go.Shelf
set_option maxRecDepth 100000

theorem bdIdY_of (parts : Array (Nat × Value)) : Instr.build 48 parts = BDs 48 parts := rfl
theorem bdTxY_of (parts : Array (Nat × Value)) : Instr.build 26 parts = BDs 26 parts := rfl
theorem stPtY_of (v x : Value) : Instr.storeAt 75 v x = STs 75 v x := rfl
theorem alPtY_of : Instr.alloc 75 true (.tuple #[]) = ALs 75 := rfl
theorem zPtY : (((Tryz.prog.info? 75).bind (·.zero)).map (·.cells.size)) = some 33 := by kernel_rfl
theorem zTxY : (((Tryz.prog.info? 26).bind (·.zero)).map (·.cells.size)) = some 4 := by kernel_rfl
theorem bdIdB (b : Int) (w : World) : (BDs 48 #[(0, .int .u8 b)]).run Tryz.prog w = .ok (.agg (bys (idB b)).toArray) w := run_build w _ _ _ (by kernel_rfl)
theorem bdPt0 {tx : List Int} (hl : tx.length = 32) (w : World) : (BDs 75 #[(0, .agg (bys tx).toArray)]).run Tryz.prog w = .ok (.agg (ptL tx 0).toArray) w := by
  refine BDs_list plPtY zlPtY _ _ ?_ w
  rw [fillL_cons (off := 0) (size := 32) rfl (by simp [Value.cells, bys_length, hl]) (by simp [ptL, bys_length]), fillL_nil]
  rfl
theorem bdOut6 (w : World) : (BDs 80 #[(1, .int .u64 6)]).run Tryz.prog w = .ok (.agg (outV ⟨List.replicate 32 0, 6⟩).toArray) w := run_build w _ _ _ (by kernel_rfl)
theorem bdTx2 (B : Option Addr) (b : Nat) (w : World) : (BDs 26 #[(1, .slice B 1 b), (3, .int .i64 9)]).run Tryz.prog w = .ok (.agg #[.slice none 0 0, .slice B 1 b, .int .u64 0, .int .i64 9]) w := run_build w _ _ _ (by kernel_rfl)
theorem bdTx0 (w : World) : (BDs 26 #[]).run Tryz.prog w = .ok (.agg (txV none 0 none 0 zeroT)) w := run_build w _ _ _ (by kernel_rfl)
theorem zeroT_at (w : World) : TxAt w none none zeroT := ⟨fun j h => absurd h (by simp [zeroT]), fun j h => absurd h (by simp [zeroT]), ⟨by simp [zeroT], by simp [zeroT], by simp [zeroT], by simp [zeroT]⟩⟩
attribute [local go_sem ↓] ldTx_ofY stTx_ofY alTx_ofY

set_option maxHeartbeats 4000000 in
theorem new_nil (w : World) : Calls Tryz.prog 10 #[.int .i64 4, .agg (txV none 0 none 0 zeroT), .int .i64 2, .int .i64 3] w fun e w' => e = .returned (.pointer none) ∧ Below w.heap.size w w' := by
  have b0 := Blk.new w 26 (txV none 0 none 0 zeroT)
  have B0 : Below w.heap.size w (w.alloc (.cells (txV none 0 none 0 zeroT) 26)) := (Below.refl _ w).alloc (Nat.le_refl _) _
  obtain ⟨W, hW⟩ : ∃ W, w.alloc (.cells (txV none 0 none 0 zeroT) 26) = W := ⟨_, rfl⟩
  rw [hW] at b0 B0
  obtain ⟨g, hg⟩ : ∃ g, w.heap.size = g := ⟨_, rfl⟩
  rw [hg] at b0
  have hld := LDs_allY (P := Tryz.prog) uTxY iTxY (w := W) (txV none 0 none 0 zeroT).toList (by simpa using b0) rfl
  simp only [show (txV none 0 none 0 zeroT).toList.toArray = txV none 0 none 0 zeroT by simp] at hld
  have hchk := txcheck_any none 0 none 0 zeroT W (zeroT_at W) (by simp [zeroT]) (by simp [zeroT])
  rw [show checkP zeroT = 4 by decide] at hchk
  obtain ⟨tv, htv⟩ : ∃ x, txV none 0 none 0 zeroT = x := ⟨_, rfl⟩
  rw [htv] at hld hchk hW ⊢
  have HW := Lib.hid hW
  have HG := Lib.hid hg
  have HB0 := Lib.hid B0
  clear hW hg B0 b0 htv
  go_enter Tryz.func10, Tryz.ntmps10
  go_upto_region 1 with fail
  rw [HW.out, HG.out]
  go_wp2_with fail
  with_reducible refine hchk.mono ?_
  rintro e w1 ⟨rfl, hB1⟩
  have HB1 := Lib.hid (HB0.out.trans (hB1.mono HB0.out.size))
  clear hB1 hchk hld
  go_wp2_with fail
  go_ret
  exact ⟨rfl, HB1.out⟩

def outT : OutD := ⟨List.replicate 32 0, 6⟩
/-- The inputs after i rounds. -/
def rowL (i : Nat) : List InD := if i = 0 then [] else if i ≤ 4 then [inB 0] else [inB 0, inB 4]
def lenL (i : Nat) : Nat := if i = 0 then 0 else if i ≤ 4 then 1 else 2
theorem rowL_len (i : Nat) : (rowL i).length = lenL i := by
  unfold rowL lenL
  split
  · rfl
  · split <;> rfl
theorem of_two {i : Nat} (h : i ≤ 4) : ofO (idB i) 0 2 = if i = 4 then 1 else 0 := by
  obtain ⟨h0, h1, h2, h3, h4⟩ := two_at
  match i, h with
  | 0, _ => exact h0
  | 1, _ => exact h1
  | 2, _ => exact h2
  | 3, _ => exact h3
  | 4, _ => exact h4
attribute [local go_sem ↓] ldPt_of stPtY_of alPtY_of bdIdY_of bdPt_ofY bdIn_ofY bdOut_ofY bsIn_ofY bsOut_ofY apIn_ofY bdTxY_of

set_option maxHeartbeats 16000000 in
theorem two_any (w : World) : Calls Tryz.prog 19 #[] w fun e w' => (∃ A1 c1 A2 c2, e = .returned (.agg (txV A1 c1 A2 c2 twoT)) ∧ TxAt w' A1 A2 twoT) ∧ Below w.heap.size w w' := by
  obtain ⟨Zt, halt, hstt, hZt⟩ := alstY (P := Tryz.prog) (t := 26) iTxY zTxY
  obtain ⟨Zp, halp, hstp, _⟩ := alstY (P := Tryz.prog) (t := 75) iPt zPtY
  have hbo := bdOut6
  have hbt := bdTx2
  -- the result, the output's row, the variable
  obtain ⟨g, hg⟩ : ∃ g, w.heap.size = g := ⟨_, rfl⟩
  have b0 := Blk.new w 26 Zt
  have B0 : Below w.heap.size w (w.alloc (.cells Zt 26)) := (Below.refl _ w).alloc (Nat.le_refl _) _
  have hal0 := halt w
  obtain ⟨W, hW⟩ : ∃ W, w.alloc (.cells Zt 26) = W := ⟨_, rfl⟩
  have hWs : W.heap.size = g + 1 := by rw [← hW, ← hg]; simp
  rw [hW] at b0 B0 hal0
  rw [hg] at b0 hal0
  obtain ⟨ov, hov⟩ : ∃ x, (outV outT).toArray = x := ⟨_, rfl⟩
  have hbs := BSs_one (P := Tryz.prog) uOutSY iOutZY (by omega) (by omega) W (.agg (outV outT).toArray) (by simp [Value.cells, outV, bys_length, outT])
  simp only [Value.cells] at hbs
  have b1 := Blk.new W 80 (outV outT).toArray
  simp only [show (⟨List.replicate 32 0, 6⟩ : OutD) = outT from rfl] at hbo
  simp only [hov] at hbo hbs
  have b01 := b0.alloc (.cells (outV outT).toArray 80)
  have B1 := B0.alloc B0.size (.cells (outV outT).toArray 80)
  rw [hov] at b01 B1
  obtain ⟨V, hV⟩ : ∃ V, W.alloc (.cells ov 80) = V := ⟨_, rfl⟩
  have hVs : V.heap.size = g + 2 := by rw [← hV]; simp; omega
  rw [hov, hV] at b1
  rw [hV] at b01 B1 hbs
  rw [hWs] at b1 hbs
  have hbt1 := fun X => hbt (some ⟨g + 1, 0, none⟩) 1 X
  obtain ⟨tc, htc⟩ : ∃ x : List Value, [.slice none 0 0, .slice (some ⟨g + 1, 0, none⟩) 1 1, .int .u64 0, .int .i64 9] = x := ⟨_, rfl⟩
  have htcA : (#[.slice none 0 0, .slice (some ⟨g + 1, 0, none⟩) 1 1, .int .u64 0, .int .i64 9] : Array Value) = tc.toArray := by rw [← htc]
  simp only [htcA] at hbt1
  have htl : tc.length = 4 := by rw [← htc]; rfl
  have ht1 : ∀ v ∈ tc, v.oneCell' = true := by rw [← htc]; simp [Value.oneCell']
  have hal2 := halt V
  have hst2 := hstt V tc htl ht1
  have b2 := Blk.new V 26 tc.toArray
  have b02 := b01.alloc (.cells tc.toArray 26)
  have b12 := b1.alloc (.cells tc.toArray 26)
  have B2 := B1.alloc B1.size (.cells tc.toArray 26)
  obtain ⟨U, hU⟩ : ∃ U, V.alloc (.cells tc.toArray 26) = U := ⟨_, rfl⟩
  have hUs : U.heap.size = g + 3 := by rw [← hU]; simp; omega
  rw [hU] at b2 b02 b12 B2
  rw [hVs] at b2
  rw [← htcA] at b2
  have HW := Lib.hid hW
  have HV := Lib.hid hV
  have HU := Lib.hid hU
  have HG := Lib.hid hg
  have HWS := Lib.hid hWs
  have HVS := Lib.hid hVs
  have HUS := Lib.hid hUs
  have HB02 := Lib.hid b02
  have HB12 := Lib.hid b12
  have HB2 := Lib.hid b2
  have HBB := Lib.hid B2
  have HZT := Lib.hid hZt
  have HSTP := Lib.hid hstp
  have HOV := Lib.hid hov
  clear hW hV hU hg hWs hVs hUs b02 b12 b2 B2 hZt hstp hov b0 b01 b1 B0 B1 htc htcA htl ht1 hstt hbt
  go_enter Tryz.func19, Tryz.ntmps19
  go_upto_region 1 with fail
  rw [HW.out, HG.out]
  clear hal0
  go_upto_region 2 with fail
  rw [HU.out, HVS.out]
  clear hal2 hst2 hbt1 hbs hbo
  go_wp2_with fail
  go_loopg [2, 3] 6 (fun kk c _ wr => ∃ (i : Nat) (v : Value) (R : List (List Value)), i + kk = 6 ∧ i ≤ 5 ∧ c = .int .i64 (i : Int) ∧ OwnR 77 35 (g + 3) wr v R ∧ InRow (g + 3) wr v R (rowL i) ∧ Blk wr (g + 2) 26 #[v, .slice (some ⟨g + 1, 0, none⟩) 1 1, .int .u64 0, .int .i64 9] ∧ Fr (fun b => b = g + 2) U wr)
  case atStart => exact ⟨0, .slice none 0 0, [], by omega, by omega, rfl, OwnR.nil _ _ _ _, InRow.nil _ _ _, HB2.out, Fr.refl _ _⟩
  case round =>
    obtain ⟨i, v, R, hi, hi5, rfl, hO, hR, hB, hF⟩ := hrel
    obtain ⟨Av, Nv, cv, rfl, hNv⟩ := hO.formN
    have hN : Nv = lenL i := by rw [hNv, hR.len, rowL_len]
    have q0 : wr.cell? ⟨g + 2, 0, none⟩ = some (.slice Av Nv cv) := hB.cell 0
    have hi40 : (i : Int) < 40 := by omega
    by_cases hlt : i ≤ 4
    · have hN2 : (Nv : Int) < 2 := by
        have : lenL i ≤ 1 := by
          unfold lenL
          rw [if_pos hlt]
          split <;> omega
        omega
      have hw8 : IntKind.u8.wrap (i : Int) = (i : Int) := by rw [IntKind.wrap_u8]; omega
      have hbi := fun X => bdIdB (i : Int) X
      have hbp := fun X => bdPt0 (idB_len (i : Int)) X
      have hbin := fun X => bdIn_am (idB_len (i : Int)) 0 3 X
      have hbdi : ∀ x ∈ idB (i : Int), 0 ≤ x ∧ x ≤ 255 := idB_bd (by omega)
      have hin : (⟨idB (i : Int), 0, 3, []⟩ : InD) = inB (i : Int) := rfl
      simp only [hin] at hbin
      have hbb : (inB (i : Int)).Bd := inB_bd (by omega)
      have hpl : (ptL (idB (i : Int)) 0).length = 33 := ptL_len (idB_len _) _
      have hp1 := ptL_one (idB (i : Int)) 0
      have halp1 := halp wr
      have hstp1 := HSTP.out wr (ptL (idB (i : Int)) 0) hpl hp1
      have b3 := Blk.new wr 75 (ptL (idB (i : Int)) 0).toArray
      have B3 : Below wr.heap.size wr (wr.alloc (.cells (ptL (idB (i : Int)) 0).toArray 75)) := (Below.refl _ wr).alloc (Nat.le_refl _) _
      obtain ⟨pb, hpb⟩ : ∃ x, wr.heap.size = x := ⟨_, rfl⟩
      obtain ⟨w3, hw3⟩ : ∃ X, wr.alloc (.cells (ptL (idB (i : Int)) 0).toArray 75) = X := ⟨_, rfl⟩
      rw [hw3] at b3 B3
      rw [hpb] at b3
      have hof := fun X => rmof_any (idB (i : Int)) (idB_len _) hbdi 0 2 (by omega) (by omega) X
      rw [show okO 0 2 = true by decide, if_pos rfl, of_two hlt] at hof
      obtain ⟨oi, hoi⟩ : ∃ x : Nat, (if i = 4 then 1 else 0 : Int) = (x : Int) ∧ x = if i = 4 then 1 else 0 := ⟨if i = 4 then 1 else 0, by split <;> rfl, rfl⟩
      rw [hoi.1] at hof
      have hB3 := hB.fr (Fr.of_below B3) (by have := hB.lt; omega)
      have hbl := hB.lt
      obtain ⟨pv, hpv⟩ : ∃ x, (ptL (idB (i : Int)) 0).toArray = x := ⟨_, rfl⟩
      have hSS0 : ∀ X, Below w3.heap.size w3 X → (LDs 75 (.pointer (some ⟨pb, 0, none⟩))).run Tryz.prog X = .ok (.agg pv) X ∧ X.cell? ⟨g + 2, 0, none⟩ = some (.slice Av Nv cv) := fun X hX => by
        have l := LDs_allY (P := Tryz.prog) uPt iPt (w := X) (ptL (idB (i : Int)) 0) (b3.fr (Fr.of_below hX) (by have := b3.lt; omega)) hpl
        rw [hpv] at l
        exact ⟨l, (hB3.fr (Fr.of_below hX) (by have := hB3.lt; omega)).cell 0⟩
      obtain ⟨S0, hS0⟩ : ∃ S0 : World → Prop, (fun X => (LDs 75 (.pointer (some ⟨pb, 0, none⟩))).run Tryz.prog X = .ok (.agg pv) X ∧ X.cell? ⟨g + 2, 0, none⟩ = some (.slice Av Nv cv)) = S0 := ⟨_, rfl⟩
      have hSS : ∀ X, Below w3.heap.size w3 X → S0 X := fun X hX => by rw [← hS0]; exact hSS0 X hX
      have hof1 := hof w3.drew
      rw [hpv] at hof1 hstp1 hw3
      simp only [hpv] at hbp hbin
      obtain ⟨idv, hidv⟩ : ∃ x, (bys (idB (i : Int))).toArray = x := ⟨_, rfl⟩
      simp only [hidv] at hbi hbp
      have hivl : (inV (inB (i : Int)) none 0).length = 35 := inV_len hbb none 0
      have hiv1 := inV_one (inB (i : Int)) none 0
      obtain ⟨iv, hiv⟩ : ∃ x, inV (inB (i : Int)) none 0 = x := ⟨_, rfl⟩
      rw [hiv] at hivl hiv1
      simp only [hiv] at hbin
      have hgr := hF.size
      have hfin0 : ∀ X, Below wr.heap.size wr X → OwnR 77 35 (g + 3) X (.slice Av Nv cv) R ∧ InRow (g + 3) X (.slice Av Nv cv) R (rowL i) ∧ Blk X (g + 2) 26 #[.slice Av Nv cv, .slice (some ⟨g + 1, 0, none⟩) 1 1, .int .u64 0, .int .i64 9] ∧ Fr (fun b => b = g + 2) U X := fun X hX => ⟨hO.keep hX, hR.below hX, hB.fr (Fr.of_below hX) (by have := hB.lt; omega), hF.trans (Fr.of_below hX) (fun b hb e => by have := hF.size; omega)⟩
      have HSE := Lib.hid hS0
      have HSS := Lib.hid hSS
      have HS0 := Lib.hid hSS0
      have HW3 := Lib.hid hw3
      have HPB := Lib.hid hpb
      have HB3W := Lib.hid B3
      have HFIN0 := Lib.hid hfin0
      have HIVL := Lib.hid hivl
      have HIV1 := Lib.hid hiv1
      have HIV := Lib.hid hiv
      have HNN := Lib.hid hN
      have HOI := Lib.hid hoi
      have HBIN := Lib.hid hbin
      have HGR := Lib.hid hgr
      have HNV := Lib.hid hNv
      clear hS0 hSS hSS0 hw3 hpb B3 hfin0 hivl hiv1 hiv hN hoi hbin hgr hNv hO hR hB hF b3 hB3 hbl hof hpl hp1 hbb hin hbdi hidv hpv
      go_upto_region 6 with fail
      rw [HW3.out, HPB.out]
      clear q0 halp1 hstp1 hbi hbp
      refine wp_txO [(2, 3), (0, 0), (3, 0), (4, 3), (1, 1), (5, 3)] S0 (by kernel_rfl) (by kernel_rfl) (by kernel_rfl) (by kernel_rfl) (HSS.out _ (Below.refl _ _).drew) ?_
      iterate 1 (with_reducible refine wpTxO_evN (o := ?_) (v := ?_) (a' := ?_) (by with_unfolding_all rfl) (by with_unfolding_all rfl) (fun W' => ?_) ?_ ?_; rotate_left 2; (focus (go_simp <;> with_reducible rfl)); focus (go_simp <;> with_reducible rfl))
      iterate 2 (with_reducible refine wpTxO_takeN (o := ?_) (v := ?_) (a' := ?_) (by with_unfolding_all rfl) (by with_unfolding_all rfl) (fun W' hS => ?_) ?_ ?_; rotate_left 2; (focus (rw [← HSE.out] at hS; obtain ⟨t1, t2⟩ := hS; go_simp <;> with_reducible rfl)); focus (go_simp <;> with_reducible rfl))
      iterate 1 (with_reducible refine wpTxO_evN (o := ?_) (v := ?_) (a' := ?_) (by with_unfolding_all rfl) (by with_unfolding_all rfl) (fun W' => ?_) ?_ ?_; rotate_left 2; (focus (go_simp <;> with_reducible rfl)); focus (go_simp <;> with_reducible rfl))
      with_reducible refine wpTxO_want (o := ?_) (by with_unfolding_all rfl) (by with_unfolding_all rfl) (fun K hK => ?_)
      try simp only [List.getElem_toArray, List.getElem_cons_succ, List.getElem_cons_zero]
      go_simp
      with_reducible refine hof1.mono ?_
      rintro e w5 ⟨rfl, hB5⟩
      have hB5' : Below w3.heap.size w3 w5 := ((Below.refl w3.heap.size w3).drew).trans (hB5.mono (by simp))
      have HB5 := Lib.hid hB5'
      clear hB5 hB5' hof1
      with_reducible refine hK _ _ (HSS.out _ HB5.out) ?_
      clear hK K
      iterate 1 (with_reducible refine wpTxO_evN (o := ?_) (v := ?_) (a' := ?_) (by with_unfolding_all rfl) (by with_unfolding_all rfl) (fun W' => ?_) ?_ ?_; rotate_left 2; (focus (go_simp <;> with_reducible rfl)); focus (go_simp <;> with_reducible rfl))
      with_reducible refine wpTxO_nil ?_
      rw [noPan_normal]
      have hBw5 := HB3W.out.trans (HB5.out.mono HB3W.out.size)
      obtain ⟨hO5, hR5, hB5, hF5⟩ := HFIN0.out w5 hBw5
      by_cases happ : i = 0 ∨ i = 4
      · have heq : ((oi : Int) == (Nv : Int)) = true := by
          have h1 := HOI.out.2
          have h2 := HNN.out
          unfold lenL at h2
          rcases happ with rfl | rfl
          · simp at h1 h2; simp [h1, h2]
          · simp at h1 h2; simp [h1, h2]
        obtain ⟨l5, -⟩ := HS0.out w5 HB5.out
        have q5 : w5.cell? ⟨g + 2, 0, none⟩ = some (.slice Av Nv cv) := hB5.cell 0
        have hbs5 := BSs_one (P := Tryz.prog) uInSY iInZY (by omega) (by omega) w5 (.agg iv.toArray) (by simp [Value.cells, HIVL.out])
        simp only [Value.cells] at hbs5
        have hNv := HNV.out
        have hRl : R.length ≤ 1 := by
          have := HNN.out
          unfold lenL at this
          rcases happ with rfl | rfl <;> simp at this <;> omega
        obtain ⟨v6, w6, hap, hO6, hf6, hft6⟩ := appR_one (P := Tryz.prog) (ty := 22) uInSY iInR (by omega) (by omega) hO5 iv HIVL.out HIV1.out (by omega) (by have := hF5.size; have := HUS.out; omega)
        obtain ⟨A6, N6, c6, rfl, hN6⟩ := hO6.formN
        have hR6 := (hR5.snoc (i := inB (i : Int)) (B := none) (cap := 0) (Byt.nil _ _) (Nat.le_refl _) (fun _ => rfl) (by simp [inB]) (fun a ha => by cases ha)).grow hf6 hft6
        rw [HIV.out] at hR6
        have hrl : rowL (i + 1) = rowL i ++ [inB (i : Int)] := by
          rcases happ with rfl | rfl
          · rfl
          · rfl
        rw [← hrl] at hR6
        have hB6 := hB5.fr hf6 (fun e => own_ne hO5.own hB5 (by decide) e)
        have q6 : w6.cell? ⟨g + 2, 0, none⟩ = some (.slice Av Nv cv) := hB6.cell 0
        have z6 := hB6.frozen 0
        have hB7 : Blk (w6.setCell ⟨g + 2, 0, none⟩ (.slice A6 N6 c6)) (g + 2) 26 #[.slice A6 N6 c6, .slice (some ⟨g + 1, 0, none⟩) 1 1, .int .u64 0, .int .i64 9] := by simpa using hB6.set_ 0 (.slice A6 N6 c6)
        have fs : Fr (fun b => b = g + 2) w6 (w6.setCell ⟨g + 2, 0, none⟩ (.slice A6 N6 c6)) := (Fr.refl (fun b => b = g + 2) w6).setCell (p := ⟨g + 2, 0, none⟩) (fun _ => rfl) _
        have hO7 := hO6.fr fs (fun b hb e => by have := (hO6.lt hb).1; omega)
        have hR7 := hR6.fr fs (fun b hb _ e => by omega)
        have hF7 := (hF5.trans hf6 (fun b hb e => by have := (hO5.lt e).1; have := HUS.out; omega)).trans fs (fun b _ e => e)
        have hbin5 := HBIN.out
        have HO7 := Lib.hid hO7
        have HR7 := Lib.hid hR7
        have HB7 := Lib.hid hB7
        have HF7 := Lib.hid hF7
        clear hO7 hR7 hB7 hF7 hO5 hR5 hB5 hF5 hBw5 hO6 hf6 hft6 hN6 hR6 hrl hB6 fs hNv hRl happ
        go_wp2_with fail
        go_roundg (6 - (i + 1))
        case measure => omega
        case rel => exact ⟨i + 1, .slice A6 N6 c6, R ++ [iv], by omega, by omega, by go_num, HO7.out, HR7.out, HB7.out, HF7.out⟩
      · have heq : ((oi : Int) == (Nv : Int)) = false := by
          have h1 := HOI.out.2
          have h2 := HNN.out
          unfold lenL at h2
          have h3 : i ≠ 0 ∧ i ≠ 4 := by omega
          simp [h3.1, h3.2, hlt] at h1 h2
          simp [h1, h2]
        have hrl : rowL (i + 1) = rowL i := by
          have h3 : i ≠ 0 ∧ i + 1 ≤ 4 := by omega
          unfold rowL
          rw [if_neg (by omega), if_pos h3.2, if_neg h3.1, if_pos hlt]
        rw [← hrl] at hR5
        have HO7 := Lib.hid hO5
        have HR7 := Lib.hid hR5
        have HB7 := Lib.hid hB5
        have HF7 := Lib.hid hF5
        clear hO5 hR5 hB5 hF5 hBw5 happ hrl
        go_wp2_with fail
        go_roundg (6 - (i + 1))
        case measure => omega
        case rel => exact ⟨i + 1, .slice Av Nv cv, R, by omega, by omega, by go_num, HO7.out, HR7.out, HB7.out, HF7.out⟩
    · obtain rfl : i = 5 := by omega
      have hN2 : (2 : Int) ≤ (Nv : Int) := by rw [hN]; decide
      have hL5 : rowL 5 = twoT.ins := rfl
      rw [hL5] at hR
      have hb0 := HB02.out.fr hF (by omega)
      have hb1 := HB12.out.fr hF (by omega)
      obtain ⟨xs, hxs⟩ : ∃ xs : List Value, [.slice Av Nv cv, .slice (some ⟨g + 1, 0, none⟩) 1 1, .int .u64 0, .int .i64 9] = xs := ⟨_, rfl⟩
      have hxl : xs.length = 4 := by rw [← hxs]; rfl
      have hx1 : ∀ v ∈ xs, v.oneCell' = true := by rw [← hxs]; simp [Value.oneCell']
      have hBx : Blk wr (g + 2) 26 xs.toArray := by rw [← hxs]; exact hB
      have hld := LDs_allY (P := Tryz.prog) uTxY iTxY xs hBx hxl
      have hst := STs_blk (P := Tryz.prog) iTxY hb0 (off := 0) xs hxl (by rw [HZT.out]; omega) hx1
      rw [splice_whole _ _ (by rw [hxl, HZT.out])] at hst
      have fs : Fr (fun b => b = g) wr (wr.setRow g xs.toArray) := (Fr.refl (fun b => b = g) wr).setRow (g := g) (fun _ => rfl) _
      have hrb := hb0.row_ xs.toArray
      have hR2 := hR.fr fs (fun b hb _ e => by omega)
      have hO2 := hO.fr fs (fun b hb e => by have := (hO.lt hb).1; omega)
      have hb12 := hb1.fr fs (by omega)
      obtain ⟨A9, c9, e9, hrd, _⟩ := hO2.rd
      simp only [Value.slice.injEq] at e9
      obtain ⟨rfl, -, -⟩ := e9
      have hT : TxAt (wr.setRow g xs.toArray) Av (some ⟨g + 1, 0, none⟩) twoT := ⟨hR2.ins hrd, fun j hj => by
        obtain rfl : j = 0 := by simpa [twoT] using hj
        refine ⟨g + 1, 0, rfl, hb12.lt, fun k x hx => ?_⟩
        rw [show 0 + 0 * 33 + k = k by omega, hb12.cell k, ← HOV.out]
        simpa [twoT, outT] using hx, two_bd⟩
      have htx : (xs.toArray : Array Value) = txV Av cv (some ⟨g + 1, 0, none⟩) 1 twoT := by
        rw [← hxs]
        unfold txV
        have : Nv = twoT.ins.length := by rw [hN]; rfl
        rw [this]
        rfl
      have hBF : Below w.heap.size w (wr.setRow g xs.toArray) := Below.setRow ((HBB.out.trans (hF.below (by have := HUS.out; have := HG.out; omega) (fun b hb e => by have := HG.out; omega)))) (by have := HG.out; omega) _
      have HT := Lib.hid hT
      have HTX := Lib.hid htx
      have HBF := Lib.hid hBF
      have HRB := Lib.hid hrb
      have HXL := Lib.hid hxl
      clear hT htx hBF hrb hxl hO hR hB hF hb0 hb1 hBx hxs hx1 fs hR2 hO2 hb12 hrd hL5 hN hNv
      go_upto_region 8 with fail
      clear q0
      go_wp2_with fail
      obtain ⟨dT, hdT, hdA⟩ := Option.map_eq_some_iff.1 uTxY
      refine bodyPost_ret (results_arr rfl _ _ g 26 xs dT rfl HRB.out hdT hdA (by rw [HXL.out]; exact iTxY)) rfl ?_
      exact ⟨⟨Av, cv, _, _, by rw [HTX.out], HT.out⟩, HBF.out⟩
end Go.Proofs.YtdkanehjahpehaaGreatDoor
end

section
namespace Go.Proofs.YtdkanehjahpehaaGreatDoor
open Go.RowKit Go.Shelf
set_option maxRecDepth 100000

/-- Where the requests lie. -/
theorem reqs_at {E : Nat} {w : World} {out : Value} {R : List (List Value)} {Q : List (Int × Int × Int × Int)} (hO : OwnR 41 5 E w out R) (hR : Reqs R Q) :
    ∃ A co, out = .slice A Q.length co ∧ ∀ j (h : j < Q.length), ∃ g o, A = some ⟨g, o, none⟩ ∧ g < w.heap.size ∧ (w.cell? ⟨g, o + j * 5, none⟩ = some (.int .i64 Q[j].1) ∧ w.cell? ⟨g, o + j * 5 + 1, none⟩ = some (.int .i64 Q[j].2.1) ∧ w.cell? ⟨g, o + j * 5 + 2, none⟩ = some (.int .i64 Q[j].2.2.1) ∧ w.cell? ⟨g, o + j * 5 + 3, none⟩ = some (.int .i64 Q[j].2.2.2) ∧ ∃ B L c, 70 < L ∧ w.cell? ⟨g, o + j * 5 + 4, none⟩ = some (.slice B L c)) := by
  obtain ⟨A, co, e, hrd, _⟩ := hO.rd
  rw [hR.1] at e
  refine ⟨A, co, e, fun j hj => ?_⟩
  have hjR : j < R.length := by rw [hR.1]; exact hj
  obtain ⟨g, o, e2, hg, hc⟩ := hrd j hjR
  obtain ⟨B, L, c, hL, hr⟩ := hR.2 j hjR hj
  rw [hr] at hc
  exact ⟨g, o, e2, hg, hc 0 _ rfl, hc 1 _ rfl, hc 2 _ rfl, hc 3 _ rfl, B, L, c, hL, hc 4 _ rfl⟩
/-- The requests are taken. -/
theorem DrvO.clear {E : Nat} {w w' : World} {D : Nat} {cl n : Int} {k : Nat} {A1 : Option Addr} {c1 : Nat} {A2 : Option Addr} {c2 : Nat} {t : TxD} {N : Nat} {kb : Nat → Nat} {post : Nat → List Value} {first : Value} {num : Int} {x : Nat → TkD} {Q : List (Int × Int × Int × Int)} {out : Value} {R : List (List Value)}
    (h : DrvO E w D cl n k A1 c1 A2 c2 t N kb post first num x Q out R) (hd : Blk w' D 97 (drvV cl n k A1 c1 A2 c2 t first (.slice none 0 0) num 0 (.slice none 0 0))) (hf : Fr (fun b => b = D) w w') :
    DrvO E w' D cl n k A1 c1 A2 c2 t N kb post first num x [] (.slice none 0 0) [] ∧ Below E w w' ∧ OwnR 41 5 E w' out R := by
  have hb : Below E w w' := hf.below h.hi (fun b hb e => by have := h.lo.1; omega)
  exact ⟨⟨hd, fun j hj => (h.tasks j hj).fr hf (fun e => h.drv.ne_ (h.tasks j hj).blk (by decide) e.symm), h.ne, h.first.fr hf (fun b hb e => own_ne h.first h.drv (by decide) (e ▸ hb)), OwnR.nil _ _ _ _, Reqs.nil, fun X hX => h.tx X (hb.trans hX), h.lo, Nat.le_trans h.hi hf.size, h.rs⟩, hb, h.own.fr hf (fun b hb e => own_ne h.own.own h.drv (by decide) (e ▸ hb))⟩

attribute [local go_sem ↓] bdTxY_of
set_option maxHeartbeats 16000000 in
theorem awake28 (w : World) (hg : Glob w) : Calls Tryz.prog 8 #[] w fun e w' => e = .returned (.bool true) ∧ Below w.heap.size w w' := by
  have h2 := two_any w
  have hbt := bdTx0
  have hnn := fun X => new_nil X
  obtain ⟨tz, htz⟩ : ∃ x, txV none 0 none 0 zeroT = x := ⟨_, rfl⟩
  simp only [htz] at hbt hnn
  clear htz
  have HG := Lib.hid hg
  clear hg
  go_enter Tryz.func8, Tryz.ntmps8
  go_wp2_with fail
  with_reducible refine h2.mono ?_
  rintro e w1 ⟨⟨A1, c1, A2, c2, rfl, hT⟩, hB1⟩
  have hnew := new_any 4 3 (by omega) (by omega) A1 c1 A2 c2 twoT two_check two_lock two_each two_all w1 hT (HG.out.below hB1)
  rw [show ((3 : Nat) : Int) = 3 from rfl] at hnew
  obtain ⟨tv, htv⟩ : ∃ x, txV A1 c1 A2 c2 twoT = x := ⟨_, rfl⟩
  rw [htv] at hnew
  rw [htv]
  have HB1 := Lib.hid hB1
  clear hB1 hT h2 htv
  go_wp2_with fail
  with_reducible refine hnew.mono ?_
  rintro e w2 ⟨⟨E, D, B1, d1, B2, d2, kb, first, out, R, rfl, hE, hd⟩, hB2⟩
  have hB2W := HB1.out.trans (hB2.mono HB1.out.size)
  have hnn2 := hnn w2
  have HD := Lib.hid hd
  have HB2 := Lib.hid hB2W
  have HE := Lib.hid hE
  clear hd hB2W hE hB2 hnew
  go_wp2_with fail
  with_reducible refine hnn2.mono ?_
  rintro e w3 ⟨rfl, hB3⟩
  have hd3 := HD.out.below hB3
  have hB3W := HB2.out.trans (hB3.mono HB2.out.size)
  have ho := out_any hd3.drv
  have HD3 := Lib.hid hd3
  have HB3 := Lib.hid hB3W
  clear hd3 hB3W hB3 hnn2 hnn
  go_wp2_with fail
  with_reducible refine ho.mono ?_
  rintro e w4 ⟨rfl, hdc, hfc⟩
  obtain ⟨hd4, hB4, hO4⟩ := HD3.out.clear hdc hfc
  obtain ⟨A, co, hout, hat⟩ := reqs_at hO4 HD3.out.reqs
  obtain ⟨g, o, rfl, hgs, p0, _, p2, _, B, L, cL, hL, p4⟩ := hat 0 (by simp [reqs0])
  obtain ⟨g', o', e', _, r0, _, _, r3, _⟩ := hat 1 (by simp [reqs0])
  cases e'
  rw [show (reqs0 4 2).length = 2 from rfl] at hout
  subst hout
  have p0' : w4.cell? ⟨g, o, none⟩ = some (.int .i64 0) := p0
  have p2' : w4.cell? ⟨g, o + 2, none⟩ = some (.int .i64 4) := p2
  have p4' : w4.cell? ⟨g, o + 4, none⟩ = some (.slice B L cL) := p4
  have r0' : w4.cell? ⟨g, o + 5, none⟩ = some (.int .i64 1) := r0
  have r3' : w4.cell? ⟨g, o + 5 + 3, none⟩ = some (.int .i64 2) := r3
  have r3'' : w4.cell? ⟨g, o + 8, none⟩ = some (.int .i64 2) := r3
  have hLI : (70 : Int) < (L : Int) := by omega
  have hoc := outcome_any hd4.drv
  have hen := ended_not hd4.drv
  have hBF := HB3.out.trans (hB4.mono (by have := HE.out; have := HB1.out.size; omega))
  have HBF := Lib.hid hBF
  clear hBF ho hd4 hB4 hO4 hat p0 p2 p4 r0 r3 hdc hfc
  go_wp2_with fail
  with_reducible refine hoc.mono ?_
  rintro e w5 ⟨rfl, rfl⟩
  go_wp2_with fail
  with_reducible refine hen.mono ?_
  rintro e w6 ⟨rfl, rfl⟩
  go_wp2_with fail
  go_ret
  exact ⟨rfl, HBF.out⟩
end Go.Proofs.YtdkanehjahpehaaGreatDoor
end
