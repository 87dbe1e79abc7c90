/-
  The document's settle: All.
-/
import Derived.Test.YtmflhidmhefljaaGreatDoorJRSetA

namespace Go.Proofs.YtmflhidmhefljaaGreatDoor
open Go.RowKit Go.Shelf
set_option maxRecDepth 100000
theorem stEnt_of (v x : Value) : Instr.storeAt 43 v x = STs 43 v x := rfl
theorem alEnt_of : Instr.alloc 43 true (.tuple #[]) = ALs 43 := rfl
attribute [local go_sem ↓] ldTx_of ldCert_of stCert_of alCert_of ld123 st123 al123 ldEnt_of stEnt_of alEnt_of neId_of

theorem certV_pre {c : CertD} (_h : c.Bd) (A : Option Addr) (cap : Nat) {j : Nat} {v : Value} (hv : (entV c.e)[j]? = some v) : (certV c A cap)[j]? = some v := by
  have hj : j < (entV c.e).length := (List.getElem?_eq_some_iff.1 hv).1
  rw [certV_eq, List.getElem?_append_left hj]
  exact hv
theorem entV_txd {e : EntD} (h : e.Bd) : ((entV e).drop 2).take 32 = bys e.tx := by
  have h1 : (bys e.tx).length = 32 := by rw [bys_length, h.tx.1]
  unfold entV
  simp only [List.cons_append, List.nil_append, List.drop_succ_cons, List.drop_zero]
  rw [List.take_append_of_le_length (by omega), List.take_of_length_le (by omega)]

set_option maxHeartbeats 16000000 in
theorem rsetall_any (As : Option Addr) (cs : Nat) (seed : List Int) (hsl : seed.length ≤ 64) (A1 : Option Addr) (c1 : Nat) (A2 : Option Addr) (c2 : Nat) (t : TxD) (n : Int) (hn : -9223372036854775808 ≤ n ∧ n ≤ 9223372036854775807) (A : Option Addr) (c : Nat) (l : List CertD) (w : World) (hsd : Byt w As seed) (h : TxAt w A1 A2 t)
    (hC : CertsAt w A l) (hll : l.length ≤ 1000000) :
    Calls Tryz.prog 11 #[.slice As seed.length cs, .agg (txV A1 c1 A2 c2 t), .int .i64 n, .slice A l.length c] w fun e w' => e = .returned (.int .i64 (accP' seed t n l)) ∧ Below w.heap.size w w' := by
  have b0 := Blk.new w 27 (txV A1 c1 A2 c2 t)
  have B0 : Below w.heap.size w (w.alloc (.cells (txV A1 c1 A2 c2 t) 27)) := (Below.refl _ w).alloc (Nat.le_refl _) _
  obtain ⟨W, hW⟩ : ∃ W, w.alloc (.cells (txV A1 c1 A2 c2 t) 27) = W := ⟨_, rfl⟩
  rw [hW] at b0 B0
  obtain ⟨g, hg⟩ : ∃ g, w.heap.size = g := ⟨_, rfl⟩
  rw [hg] at b0
  have hld := fun X (hX : Below W.heap.size W X) => LDs_all (P := Tryz.prog) uTx iTx (w := X) (txV A1 c1 A2 c2 t).toList (by simpa using b0.fr (Fr.of_below hX) (by have := b0.lt; omega)) rfl
  have hld0 := hld W (Below.refl _ _)
  have hck := rcheck_any A1 c1 A2 c2 t W (h.below B0)
  have hsp := fun X (hX : Below W.heap.size W X) => rspread_any A1 c1 A2 c2 t n false hn X ((h.below B0).below hX)
  simp only [Bool.false_eq_true, if_false] at hsp
  have hid := fun (h0 : checkP t = 0) X (hX : Below W.heap.size W X) => rid_any A1 c1 A2 c2 t X ((h.below B0).below hX) h0
  have hsum := fun X (hX : Below W.heap.size W X) s => rsum_at A1 c1 A2 c2 t n s hn X ((h.below B0).below hX)
  have hsW := hsd.below B0
  have hCW := hC.below B0
  have hlen64 := eachP_len (insP t n)
  have hil16 := @insP_len t n
  have hea := fun X A N c (hr : RdW .i64 X A (insP t n)) (hN : N = (insP t n).length) => reach_any A N c (insP t n) X hr hN (by omega)
  have hag := allGo_iff seed t n (eachP (insP t n)) l
  have hDi : Dig (idP t) := ⟨idP_len t, idP_bd t⟩
  obtain ⟨xs, hxs⟩ : ∃ xs, txV A1 c1 A2 c2 t = xs := ⟨_, rfl⟩
  rw [show (txV A1 c1 A2 c2 t).toList.toArray = txV A1 c1 A2 c2 t by simp, hxs] at hld0
  simp only [hxs] at hld
  rw [hxs] at hW hck ⊢
  simp only [hxs] at hsp hid hsum
  obtain ⟨RES, hRES⟩ : ∃ r, accP' seed t n l = r := ⟨_, rfl⟩
  rw [hRES]
  unfold accP' at hRES
  obtain ⟨ns, hns⟩ : ∃ x, seed.length = x := ⟨_, rfl⟩
  have hris := fun X n' A cap c (hc : c.Bd) (hs : Byt X As seed) (hP : RdR 32 X A (c.path.map bys)) => ris_any As cs seed hsl n' A cap c X hc hs hP
  simp only [hns] at hris
  rw [hns]
  obtain ⟨Ze, hale, hste0, hze⟩ := alstZ (P := Tryz.prog) (t := 43) iEnt zEnt
  obtain ⟨Z, hal, hst0, hz⟩ := alstZ (P := Tryz.prog) (t := 41) iId zIdS
  by_cases hn1 : n < 1
  · rw [if_pos (by omega)] at hRES
    subst hRES
    have HW := Lib.hid hW
    have HG := Lib.hid hg
    have HB := Lib.hid B0
    clear hW hg B0 hld hld0 hck hsp hid hsum hsW hCW hea hag hris b0 h hC hsd hst0 hste0
    go_enter Tryz.func11, Tryz.ntmps11
    go_upto_region 1 with fail
    rw [HW.out, HG.out]
    go_wp2_with fail
    go_ret
    exact ⟨rfl, HB.out⟩
  by_cases hn2 : 64 < n
  · rw [if_pos (by omega)] at hRES
    subst hRES
    have HW := Lib.hid hW
    have HG := Lib.hid hg
    have HB := Lib.hid B0
    clear hW hg B0 hld hld0 hck hsp hid hsum hsW hCW hea hag hris b0 h hC hsd hst0 hste0
    go_enter Tryz.func11, Tryz.ntmps11
    go_upto_region 1 with fail
    rw [HW.out, HG.out]
    go_wp2_with fail
    go_ret
    exact ⟨rfl, HB.out⟩
  rw [if_neg (by omega)] at hRES
  by_cases hR0 : checkP t = 0
  rotate_left
  · rw [if_pos hR0] at hRES
    rw [hRES] at hck hR0
    have h3b : (RES != 0) = true := by simpa using hR0
    have HW := Lib.hid hW
    have HG := Lib.hid hg
    have HB := Lib.hid B0
    clear hW hg B0 hld hsp hid hsum hsW hCW hea hag hris b0 h hC hsd hst0 hste0 hRES hR0
    go_enter Tryz.func11, Tryz.ntmps11
    go_upto_region 1 with fail
    rw [HW.out, HG.out]
    go_wp2_with fail
    with_reducible refine hck.mono ?_
    rintro e w1 ⟨rfl, hB1⟩
    have HB1 := Lib.hid hB1
    clear hB1 hck hld0
    go_wp2_with fail
    go_ret
    exact ⟨rfl, HB.out.trans (HB1.out.mono HB.out.size)⟩
  rw [if_neg (by simpa using hR0)] at hRES
  have hid := hid hR0
  rw [hR0] at hck
  obtain ⟨S, hS⟩ : ∃ S, eachP (insP t n) = S := ⟨_, rfl⟩
  simp only [hS] at hea
  rw [hS] at hlen64 hag hRES
  obtain ⟨L, hL⟩ : ∃ L, insP t n = L := ⟨_, rfl⟩
  simp only [hL] at hsp hea
  have hDi2 := hDi
  obtain ⟨D, hD⟩ : ∃ D, idP t = D := ⟨_, rfl⟩
  simp only [hD] at hid hDi
  have hDl : (bys D).length = 32 := by rw [bys_length, hDi.1]
  have hst := fun X => hst0 X (bys D) hDl (bys_one _)
  obtain ⟨N, hN⟩ : ∃ N, l.length = N := ⟨_, rfl⟩
  rw [hN] at hll hag hRES ⊢
  have HW := Lib.hid hW
  have HG := Lib.hid hg
  have HB := Lib.hid B0
  have HLD := Lib.hid hld
  have HSP := Lib.hid hsp
  have HEA := Lib.hid hea
  have HID := Lib.hid hid
  have HSUM := Lib.hid hsum
  have HSW := Lib.hid hsW
  have HC := Lib.hid hCW
  have HAG := Lib.hid hag
  have HDI := Lib.hid hDi
  have HN := Lib.hid hN
  have HDL := Lib.hid hDl
  have HL64 := Lib.hid hlen64
  have HRES := Lib.hid hRES
  have HRIS := Lib.hid hris
  have HSTE := Lib.hid hste0
  have HD := Lib.hid hD
  clear hW hg B0 hld hsp hea hid hsum hsW hCW hag hDi hN hDl hlen64 hRES hris hste0 hD hL hS hxs h hC hsd hst0 hz hze hR0 b0 hns hil16
  go_enter Tryz.func11, Tryz.ntmps11
  go_upto_region 1 with fail
  rw [HW.out, HG.out]
  go_wp2_with fail
  with_reducible refine hck.mono ?_
  rintro e w1 ⟨rfl, hB1⟩
  have hld1 := HLD.out w1 hB1
  have hs1 := HSP.out w1 hB1
  have HB1 := Lib.hid hB1
  clear hB1 hck hld0
  go_wp2_with fail
  with_reducible refine hs1.mono ?_
  rintro e w2 ⟨v2, rfl, hv2, hB2⟩
  have hB2W := HB1.out.trans (hB2.mono HB1.out.size)
  obtain ⟨Av, Nv, cv, rfl⟩ := hv2.formN
  have he2 := HEA.out w2 Av Nv cv hv2.rd hv2.lenN
  have HB2 := Lib.hid hB2W
  clear hB2W hB2 hv2 hs1 hld1
  go_wp2_with fail
  with_reducible refine he2.mono ?_
  rintro e w3 ⟨v3, rfl, hv3, hB3⟩
  have hB3W := HB2.out.trans (hB3.mono HB2.out.size)
  obtain ⟨As3, M, cs3, rfl⟩ := hv3.formN
  have hM := hv3.lenN
  have hrd3 := hv3.rd
  rw [← hM] at HAG HL64 HRES
  have hld3 := HLD.out w3 hB3W
  have hidd := HID.out w3 hB3W
  have HB3 := Lib.hid hB3W
  have HM := Lib.hid hM
  have HRD := Lib.hid hrd3
  clear hB3W hM hrd3 hB3 hv3 he2
  by_cases hNM : N = M
  rotate_left
  · rw [if_pos hNM] at HRES
    have hR1 : RES = 27 := HRES.out.symm
    subst hR1
    have hnb : ((M : Int) != (N : Int)) = true := by simp; omega
    clear hNM HRES hidd hld3
    go_wp2_with fail
    go_ret
    exact ⟨rfl, HB.out.trans (HB3.out.mono HB.out.size)⟩
  subst hNM
  rw [if_neg (by simp)] at HRES
  have hnb : ((N : Int) != (N : Int)) = false := by simp
  go_wp2_with fail
  with_reducible refine hidd.mono ?_
  rintro e w4 ⟨rfl, hB4⟩
  have hB4W := HB3.out.trans (hB4.mono HB3.out.size)
  have hst4 := hst w4
  have q1 := Blk.new w4 41 (bys D).toArray
  have q2 := hB4W.alloc hB4W.size (.cells (bys D).toArray 41)
  have q3 := (HRD.out.below hB4).below ((Below.refl _ w4).alloc (Nat.le_refl _) (.cells (bys D).toArray 41))
  obtain ⟨h, hh⟩ : ∃ h, w4.heap.size = h := ⟨_, rfl⟩
  obtain ⟨Y0, hY⟩ : ∃ Y, w4.alloc (.cells (bys D).toArray 41) = Y := ⟨_, rfl⟩
  rw [hY] at q1 q2 q3 hst4
  rw [hh] at q1
  have hldI := fun X (hX : Below Y0.heap.size Y0 X) => LDs_all (P := Tryz.prog) uIdA iId (bys D) (q1.fr (Fr.of_below hX) (by have := q1.lt; omega)) HDL.out
  have HHH := Lib.hid hh
  have HYB := Lib.hid q2
  have HRD3 := Lib.hid q3
  have HLI := Lib.hid hldI
  clear hh q2 q3 hldI hB4 hB4W q1 hY hidd hld3 hst
  go_upto_region 11 with fail
  rw [HHH.out]
  clear hal
  go_loopg [12, 13] N (fun kk s _ wr => ∃ i : Nat, i + kk = N ∧ s = .int .i64 (i : Int) ∧ (∀ j, j < i → allOne seed t n (S.getD j 0) (l.getD j default) = true) ∧ Below Y0.heap.size Y0 wr)
  case atStart => exact ⟨0, by omega, rfl, fun j hj => by omega, Below.refl _ _⟩
  case round =>
        obtain ⟨i, hi, rfl, hok, hBr⟩ := hrel
        by_cases hlt : i < N
        · have hltI : (i : Int) < (N : Int) := by omega
          have hil : i < l.length := by rw [HN.out]; exact hlt
          obtain ⟨g1, o1, rfl, hg1, s1⟩ := (HRD3.out.below hBr).at (i := i) (by rw [← HM.out]; exact hlt)
          obtain ⟨g2, o2, B2, d2, rfl, hg2, hct⟩ := HC.out i hil
          have hcb := HYB.out.trans (hBr.mono HYB.out.size)
          have hel := entV_len hct.bd.e
          have hldE := LDs_agg (P := Tryz.prog) uEnt iEnt wr g2 (o2 + i * 137) (entV l[i].e) hel (fun j v hv => (hct.below hg2 hcb).cell j v (certV_pre hct.bd _ _ hv))
          have hstE := HSTE.out wr (entV l[i].e) hel (entV_one _)
          have q1 := Blk.new wr 43 (entV l[i].e).toArray
          have q2 := hBr.alloc hBr.size (.cells (entV l[i].e).toArray 43)
          have bx : Below wr.heap.size wr (wr.alloc (.cells (entV l[i].e).toArray 43)) := (Below.refl _ _).alloc (Nat.le_refl _) _
          obtain ⟨Y, hY⟩ : ∃ Y, wr.alloc (.cells (entV l[i].e).toArray 43) = Y := ⟨_, rfl⟩
          obtain ⟨h3, hh3⟩ : ∃ h, wr.heap.size = h := ⟨_, rfl⟩
          rw [hY] at q1 q2 bx hstE
          rw [hh3] at q1
          have hYW := HYB.out.trans (q2.mono HYB.out.size)
          have F1 := fun X (hX : Below Y.heap.size Y X) => (hct.below hg2 (hYW.trans (hX.mono hYW.size))).ld
          have qq := fun X (hX : Below Y.heap.size Y X) => q1.fr (Fr.of_below hX) (by have := q1.lt; omega)
          have F2 := fun X (hX : Below Y.heap.size Y X) => ((qq X hX).cell 0).trans (show (entV l[i].e).toArray[0]? = some (.int .i64 l[i].e.kind) from rfl)
          have F3 := fun X (hX : Below Y.heap.size Y X) => ((qq X hX).cell 1).trans (show (entV l[i].e).toArray[1]? = some (.int .i64 l[i].e.sh) from rfl)
          have F4 := fun X (hX : Below Y.heap.size Y X) => (bx.trans (hX.mono bx.size)).cell (p := ⟨g1, o1 + i, none⟩) hg1 |>.trans s1
          have F5 := fun X (hX : Below Y.heap.size Y X) => LDs_aggB (P := Tryz.prog) uIdA iId (qq X hX) (off := 2) (bys l[i].e.tx) (by rw [bys_length, hct.bd.e.tx.1]) (by simpa using entV_txd hct.bd.e)
          have F6 := fun X (hX : Below Y.heap.size Y X) => HLI.out X (q2.trans (hX.mono q2.size))
          have F7 := fun X (hX : Below Y.heap.size Y X) => ((qq X hX).cell 34).trans (entV_c3 hct.bd.e).1
          have F8 := fun X (hX : Below Y.heap.size Y X) => HLD.out X (hYW.trans (hX.mono hYW.size))
          have hpr := HRIS.out Y.drew n B2 d2 l[i] hct.bd (HSW.out.below hYW.drew) (hct.path.below hYW.drew)
          have hsm := fun X (hX : Below Y.heap.size Y X) => HSUM.out X (hYW.trans (hX.mono hYW.size)) (S.getD i 0)
          have hgd : l.getD i default = l[i] := by simp [List.getD, hil]
          have hne := fun X => NEs_id hct.bd.e.tx HDI.out X
          have hal1 : allOne seed t n (S.getD i 0) l[i] = (isP seed n l[i] && (decide (l[i].e.kind = 1) && (decide (l[i].e.sh = S.getD i 0) && (decide (l[i].e.tx = D) && decide (l[i].e.am = sumAtP t n (S.getD i 0)))))) := by
            unfold allOne
            rw [HD.out]
          obtain ⟨PR, hPR⟩ : ∃ P, isP seed n l[i] = P := ⟨_, rfl⟩
          rw [hPR] at hpr hal1
          obtain ⟨cv, hcv⟩ : ∃ x, (certV l[i] B2 d2).toArray = x := ⟨_, rfl⟩
          simp only [hcv] at F1
          rw [hcv] at hpr
          obtain ⟨kd, hkd⟩ : ∃ a, l[i].e.kind = a := ⟨_, rfl⟩
          obtain ⟨sh, hsh⟩ : ∃ a, l[i].e.sh = a := ⟨_, rfl⟩
          obtain ⟨am, ham⟩ : ∃ a, l[i].e.am = a := ⟨_, rfl⟩
          obtain ⟨tq, htq⟩ : ∃ a, decide (l[i].e.tx = D) = a := ⟨_, rfl⟩
          obtain ⟨tv, htv⟩ : ∃ a, (bys l[i].e.tx).toArray = a := ⟨_, rfl⟩
          simp only [hkd] at F2
          simp only [hsh] at F3
          simp only [ham] at F7
          simp only [htq] at hne
          simp only [htv] at hne F5
          rw [hkd, hsh, htq, ham] at hal1
          obtain ⟨si, hsi⟩ : ∃ s, S.getD i 0 = s := ⟨_, rfl⟩
          simp only [hsi] at F4 hsm
          rw [hsi] at hal1
          obtain ⟨sm, hsm2⟩ : ∃ s, sumAtP t n si = s := ⟨_, rfl⟩
          simp only [hsm2] at hsm
          rw [hsm2] at hal1
          obtain ⟨S0, hS0⟩ : ∃ S0 : World → Prop, (fun X => (LDs 48 (.pointer (some ⟨g2, o2 + i * 137, none⟩))).run Tryz.prog X = .ok (.agg cv) X ∧ X.cell? ⟨h3, 0, none⟩ = some (.int .i64 kd) ∧ X.cell? ⟨h3, 1, none⟩ = some (.int .i64 sh) ∧ X.cell? ⟨g1, o1 + i, none⟩ = some (.int .i64 si) ∧
            (LDs 41 (.pointer (some ⟨h3, 2, none⟩))).run Tryz.prog X = .ok (.agg tv) X ∧ (LDs 41 (.pointer (some ⟨h, 0, none⟩))).run Tryz.prog X = .ok (.agg (bys D).toArray) X ∧ X.cell? ⟨h3, 34, none⟩ = some (.int .u64 am) ∧ (LDs 27 (.pointer (some ⟨g, 0, none⟩))).run Tryz.prog X = .ok (.agg xs) X) = S0 := ⟨_, rfl⟩
          have hSS : ∀ X, Below Y.heap.size Y X → S0 X := fun X hX => by rw [← hS0]; exact ⟨F1 X hX, F2 X hX, F3 X hX, F4 X hX, F5 X hX, F6 X hX, F7 X hX, F8 X hX⟩
          have hi0 : (0 : Int) ≤ (i : Int) := by omega
          have hp1 := hpr
          obtain ⟨ev, hev⟩ : ∃ x, (entV l[i].e).toArray = x := ⟨_, rfl⟩
          rw [hev] at hldE hstE hY
          have hcases : (PR = false ∧ allOne seed t n si l[i] = false) ∨ (PR = true ∧ (kd != 1) = true ∧ allOne seed t n si l[i] = false) ∨ (PR = true ∧ (kd != 1) = false ∧ (sh != si) = true ∧ allOne seed t n si l[i] = false) ∨ (PR = true ∧ (kd != 1) = false ∧ (sh != si) = false ∧ (!tq) = true ∧ allOne seed t n si l[i] = false) ∨
              (PR = true ∧ (kd != 1) = false ∧ (sh != si) = false ∧ (!tq) = false ∧ (am != sm) = true ∧ allOne seed t n si l[i] = false) ∨ (PR = true ∧ (kd != 1) = false ∧ (sh != si) = false ∧ (!tq) = false ∧ (am != sm) = false ∧ allOne seed t n si l[i] = true) := by
            rw [hal1]
            have a1 : decide (kd = 1) = !(kd != 1) := by simp [bne]; rfl
            have a2 : decide (sh = si) = !(sh != si) := by simp [bne]; rfl
            have a3 : decide (am = sm) = !(am != sm) := by simp [bne]; rfl
            rw [a1, a2, a3]
            cases PR <;> cases (kd != 1) <;> cases (sh != si) <;> cases tq <;> cases (am != sm) <;> simp
          have hB3' := hBr
          have HS0 := Lib.hid hS0
          have HSS := Lib.hid hSS
          have HGD := Lib.hid hgd
          have HSI := Lib.hid hsi
          have HOK := Lib.hid hok
          have HBR := Lib.hid q2
          have HSM := Lib.hid hsm
          have HH3 := Lib.hid hh3
          clear hS0 hSS hgd hsi hok q2 hsm hh3 hct hcb F1 F2 F3 F4 F5 F6 F7 F8 hpr hPR hcv ham hsm2 s1 hBr hB3' hel q1 bx qq hYW hkd hsh htq htv hal1 hev hY
          rcases hcases with ⟨rfl, HAL1⟩ | ⟨rfl, e0, HAL1⟩ | ⟨rfl, e0, e1, HAL1⟩ | ⟨rfl, e0, e1, e2, HAL1⟩ | ⟨rfl, e0, e1, e2, e3, HAL1⟩ | ⟨rfl, e0, e1, e2, e3, HAL1⟩
          · have HAL1 := Lib.hid HAL1
            have hR16 : RES = 16 := by
              rw [← HRES.out, if_neg]
              intro e
              have := (HAG.out (by first | exact HM.out.symm | simp)).1 e i hlt
              rw [HGD.out, HSI.out, HAL1.out] at this
              cases this
            subst hR16
            clear HRES
            go_upto_region 14 with fail
            rw [HH3.out]
            refine wp_txO [(0, 3), (1, 3), (2, 3), (3, 3), (4, 3), (5, 0), (6, 2), (7, 3), (8, 3), (9, 3), (10, 3), (11, 3), (12, 3), (13, 3), (14, 3), (15, 3), (16, 3), (17, 3), (18, 3), (19, 3), (20, 3), (21, 3), (22, 3), (23, 3), (24, 3), (25, 3), (26, 3), (27, 3), (28, 3), (29, 3), (30, 3), (31, 3), (32, 3), (33, 3), (34, 3), (35, 3), (36, 3), (37, 3), (38, 3), (39, 3)] S0 (by kernel_rfl) (by kernel_rfl) (by kernel_rfl) (by kernel_rfl) (HSS.out _ (Below.refl _ _).drew) ?_
            iterate 5 (with_reducible refine wpTxO_evN (o := ?_) (v := ?_) (a' := ?_) (by with_unfolding_all rfl) (by with_unfolding_all rfl) (fun W' => ?_) ?_ ?_; rotate_left 2; (focus (go_simp <;> with_reducible rfl)); focus (go_simp <;> with_reducible rfl))
            iterate 1 (with_reducible refine wpTxO_takeN (o := ?_) (v := ?_) (a' := ?_) (by with_unfolding_all rfl) (by with_unfolding_all rfl) (fun W' hS => ?_) ?_ ?_; rotate_left 2; (focus (rw [← HS0.out] at hS; obtain ⟨t1, t2, t3, t4, t5, t6, t7, t8⟩ := hS; go_simp <;> with_reducible rfl)); focus (go_simp <;> with_reducible rfl))
            with_reducible refine wpTxO_last (o := ?_) (by with_unfolding_all rfl) (by with_unfolding_all rfl) (fun K hK => ?_)
            try simp only [List.getElem_toArray, List.getElem_cons_succ, List.getElem_cons_zero]
            go_simp
            with_reducible refine hp1.mono ?_
            rintro e w6 ⟨rfl, hB6⟩
            have hB6Y : Below Y.heap.size Y w6 := (Below.refl _ Y).drew.trans hB6
            have BX := Lib.hid hB6Y
            clear hB6Y hB6 hp1
            with_reducible refine hK _ _ ?_
            clear hK K
            iterate 2 (with_reducible refine wpTxO_evN (o := ?_) (v := ?_) (a' := ?_) (by with_unfolding_all rfl) (by with_unfolding_all rfl) (fun W' => ?_) ?_ ?_; rotate_left 2; (focus (go_simp <;> with_reducible rfl)); focus (go_simp <;> with_reducible rfl))
            iterate 3 (with_reducible refine wpTxO_evd (o := ?_) (a' := ?_) (by with_unfolding_all rfl) (by with_unfolding_all rfl) ?_ ?_; rotate_left; focus (go_simp <;> with_reducible rfl))
            iterate 2 (with_reducible refine wpTxO_evN (o := ?_) (v := ?_) (a' := ?_) (by with_unfolding_all rfl) (by with_unfolding_all rfl) (fun W' => ?_) ?_ ?_; rotate_left 2; (focus (go_simp <;> with_reducible rfl)); focus (go_simp <;> with_reducible rfl))
            iterate 7 (with_reducible refine wpTxO_evd (o := ?_) (a' := ?_) (by with_unfolding_all rfl) (by with_unfolding_all rfl) ?_ ?_; rotate_left; focus (go_simp <;> with_reducible rfl))
            iterate 2 (with_reducible refine wpTxO_evN (o := ?_) (v := ?_) (a' := ?_) (by with_unfolding_all rfl) (by with_unfolding_all rfl) (fun W' => ?_) ?_ ?_; rotate_left 2; (focus (go_simp <;> with_reducible rfl)); focus (go_simp <;> with_reducible rfl))
            iterate 4 (with_reducible refine wpTxO_evd (o := ?_) (a' := ?_) (by with_unfolding_all rfl) (by with_unfolding_all rfl) ?_ ?_; rotate_left; focus (go_simp <;> with_reducible rfl))
            iterate 2 (with_reducible refine wpTxO_evN (o := ?_) (v := ?_) (a' := ?_) (by with_unfolding_all rfl) (by with_unfolding_all rfl) (fun W' => ?_) ?_ ?_; rotate_left 2; (focus (go_simp <;> with_reducible rfl)); focus (go_simp <;> with_reducible rfl))
            iterate 10 (with_reducible refine wpTxO_evd (o := ?_) (a' := ?_) (by with_unfolding_all rfl) (by with_unfolding_all rfl) ?_ ?_; rotate_left; focus (go_simp <;> with_reducible rfl))
            iterate 1 (with_reducible refine wpTxO_evN (o := ?_) (v := ?_) (a' := ?_) (by with_unfolding_all rfl) (by with_unfolding_all rfl) (fun W' => ?_) ?_ ?_; rotate_left 2; (focus (go_simp <;> with_reducible rfl)); focus (go_simp <;> with_reducible rfl))
            with_reducible refine wpTxO_nil ?_
            rw [noPan_normal]
            go_wp2_with fail
            go_ret
            exact ⟨rfl, HB.out.trans ((HYB.out.trans ((HBR.out.trans (BX.out.mono HBR.out.size)).mono HYB.out.size)).mono HB.out.size)⟩
          · have HAL1 := Lib.hid HAL1
            have hR16 : RES = 16 := by
              rw [← HRES.out, if_neg]
              intro e
              have := (HAG.out (by first | exact HM.out.symm | simp)).1 e i hlt
              rw [HGD.out, HSI.out, HAL1.out] at this
              cases this
            subst hR16
            clear HRES
            go_upto_region 14 with fail
            rw [HH3.out]
            refine wp_txO [(0, 3), (1, 3), (2, 3), (3, 3), (4, 3), (5, 0), (6, 1), (7, 3), (8, 3), (9, 3), (10, 0), (11, 3), (12, 3), (13, 3), (14, 3), (15, 3), (16, 3), (17, 3), (18, 3), (19, 3), (20, 3), (21, 3), (22, 3), (23, 3), (24, 3), (25, 3), (26, 3), (27, 3), (28, 3), (29, 3), (30, 3), (31, 3), (32, 3), (33, 3), (34, 3), (35, 3), (36, 3), (37, 3), (38, 3), (39, 3)] S0 (by kernel_rfl) (by kernel_rfl) (by kernel_rfl) (by kernel_rfl) (HSS.out _ (Below.refl _ _).drew) ?_
            iterate 5 (with_reducible refine wpTxO_evN (o := ?_) (v := ?_) (a' := ?_) (by with_unfolding_all rfl) (by with_unfolding_all rfl) (fun W' => ?_) ?_ ?_; rotate_left 2; (focus (go_simp <;> with_reducible rfl)); focus (go_simp <;> with_reducible rfl))
            iterate 1 (with_reducible refine wpTxO_takeN (o := ?_) (v := ?_) (a' := ?_) (by with_unfolding_all rfl) (by with_unfolding_all rfl) (fun W' hS => ?_) ?_ ?_; rotate_left 2; (focus (rw [← HS0.out] at hS; obtain ⟨t1, t2, t3, t4, t5, t6, t7, t8⟩ := hS; go_simp <;> with_reducible rfl)); focus (go_simp <;> with_reducible rfl))
            with_reducible refine wpTxO_want (o := ?_) (by with_unfolding_all rfl) (by with_unfolding_all rfl) (fun K hK => ?_)
            try simp only [List.getElem_toArray, List.getElem_cons_succ, List.getElem_cons_zero]
            go_simp
            with_reducible refine hp1.mono ?_
            rintro e w6 ⟨rfl, hB6⟩
            have hB6Y : Below Y.heap.size Y w6 := (Below.refl _ Y).drew.trans hB6
            have BX := Lib.hid hB6Y
            clear hB6Y hB6 hp1
            with_reducible refine hK _ _ (HSS.out _ BX.out) ?_
            clear hK K
            iterate 3 (with_reducible refine wpTxO_evN (o := ?_) (v := ?_) (a' := ?_) (by with_unfolding_all rfl) (by with_unfolding_all rfl) (fun W' => ?_) ?_ ?_; rotate_left 2; (focus (go_simp <;> with_reducible rfl)); focus (go_simp <;> with_reducible rfl))
            iterate 1 (with_reducible refine wpTxO_takeN (o := ?_) (v := ?_) (a' := ?_) (by with_unfolding_all rfl) (by with_unfolding_all rfl) (fun W' hS => ?_) ?_ ?_; rotate_left 2; (focus (rw [← HS0.out] at hS; obtain ⟨t1, t2, t3, t4, t5, t6, t7, t8⟩ := hS; go_simp <;> with_reducible rfl)); focus (go_simp <;> with_reducible rfl))
            iterate 3 (with_reducible refine wpTxO_evN (o := ?_) (v := ?_) (a' := ?_) (by with_unfolding_all rfl) (by with_unfolding_all rfl) (fun W' => ?_) ?_ ?_; rotate_left 2; (focus (go_simp <;> with_reducible rfl)); focus (go_simp <;> with_reducible rfl))
            iterate 7 (with_reducible refine wpTxO_evd (o := ?_) (a' := ?_) (by with_unfolding_all rfl) (by with_unfolding_all rfl) ?_ ?_; rotate_left; focus (go_simp <;> with_reducible rfl))
            iterate 2 (with_reducible refine wpTxO_evN (o := ?_) (v := ?_) (a' := ?_) (by with_unfolding_all rfl) (by with_unfolding_all rfl) (fun W' => ?_) ?_ ?_; rotate_left 2; (focus (go_simp <;> with_reducible rfl)); focus (go_simp <;> with_reducible rfl))
            iterate 4 (with_reducible refine wpTxO_evd (o := ?_) (a' := ?_) (by with_unfolding_all rfl) (by with_unfolding_all rfl) ?_ ?_; rotate_left; focus (go_simp <;> with_reducible rfl))
            iterate 2 (with_reducible refine wpTxO_evN (o := ?_) (v := ?_) (a' := ?_) (by with_unfolding_all rfl) (by with_unfolding_all rfl) (fun W' => ?_) ?_ ?_; rotate_left 2; (focus (go_simp <;> with_reducible rfl)); focus (go_simp <;> with_reducible rfl))
            iterate 10 (with_reducible refine wpTxO_evd (o := ?_) (a' := ?_) (by with_unfolding_all rfl) (by with_unfolding_all rfl) ?_ ?_; rotate_left; focus (go_simp <;> with_reducible rfl))
            iterate 1 (with_reducible refine wpTxO_evN (o := ?_) (v := ?_) (a' := ?_) (by with_unfolding_all rfl) (by with_unfolding_all rfl) (fun W' => ?_) ?_ ?_; rotate_left 2; (focus (go_simp <;> with_reducible rfl)); focus (go_simp <;> with_reducible rfl))
            with_reducible refine wpTxO_nil ?_
            rw [noPan_normal]
            go_wp2_with fail
            go_ret
            exact ⟨rfl, HB.out.trans ((HYB.out.trans ((HBR.out.trans (BX.out.mono HBR.out.size)).mono HYB.out.size)).mono HB.out.size)⟩
          · have HAL1 := Lib.hid HAL1
            have hR16 : RES = 16 := by
              rw [← HRES.out, if_neg]
              intro e
              have := (HAG.out (by first | exact HM.out.symm | simp)).1 e i hlt
              rw [HGD.out, HSI.out, HAL1.out] at this
              cases this
            subst hR16
            clear HRES
            go_upto_region 14 with fail
            rw [HH3.out]
            refine wp_txO [(0, 3), (1, 3), (2, 3), (3, 3), (4, 3), (5, 0), (6, 1), (7, 3), (8, 3), (9, 3), (10, 0), (11, 3), (12, 3), (13, 3), (14, 3), (16, 3), (17, 3), (18, 3), (15, 0), (19, 0), (20, 3), (21, 3), (22, 3), (23, 3), (24, 3), (25, 3), (26, 3), (27, 3), (28, 3), (29, 3), (30, 3), (31, 3), (32, 3), (33, 3), (34, 3), (35, 3), (36, 3), (37, 3), (38, 3), (39, 3)] S0 (by kernel_rfl) (by kernel_rfl) (by kernel_rfl) (by kernel_rfl) (HSS.out _ (Below.refl _ _).drew) ?_
            iterate 5 (with_reducible refine wpTxO_evN (o := ?_) (v := ?_) (a' := ?_) (by with_unfolding_all rfl) (by with_unfolding_all rfl) (fun W' => ?_) ?_ ?_; rotate_left 2; (focus (go_simp <;> with_reducible rfl)); focus (go_simp <;> with_reducible rfl))
            iterate 1 (with_reducible refine wpTxO_takeN (o := ?_) (v := ?_) (a' := ?_) (by with_unfolding_all rfl) (by with_unfolding_all rfl) (fun W' hS => ?_) ?_ ?_; rotate_left 2; (focus (rw [← HS0.out] at hS; obtain ⟨t1, t2, t3, t4, t5, t6, t7, t8⟩ := hS; go_simp <;> with_reducible rfl)); focus (go_simp <;> with_reducible rfl))
            with_reducible refine wpTxO_want (o := ?_) (by with_unfolding_all rfl) (by with_unfolding_all rfl) (fun K hK => ?_)
            try simp only [List.getElem_toArray, List.getElem_cons_succ, List.getElem_cons_zero]
            go_simp
            with_reducible refine hp1.mono ?_
            rintro e w6 ⟨rfl, hB6⟩
            have hB6Y : Below Y.heap.size Y w6 := (Below.refl _ Y).drew.trans hB6
            have BX := Lib.hid hB6Y
            clear hB6Y hB6 hp1
            with_reducible refine hK _ _ (HSS.out _ BX.out) ?_
            clear hK K
            iterate 3 (with_reducible refine wpTxO_evN (o := ?_) (v := ?_) (a' := ?_) (by with_unfolding_all rfl) (by with_unfolding_all rfl) (fun W' => ?_) ?_ ?_; rotate_left 2; (focus (go_simp <;> with_reducible rfl)); focus (go_simp <;> with_reducible rfl))
            iterate 1 (with_reducible refine wpTxO_takeN (o := ?_) (v := ?_) (a' := ?_) (by with_unfolding_all rfl) (by with_unfolding_all rfl) (fun W' hS => ?_) ?_ ?_; rotate_left 2; (focus (rw [← HS0.out] at hS; obtain ⟨t1, t2, t3, t4, t5, t6, t7, t8⟩ := hS; go_simp <;> with_reducible rfl)); focus (go_simp <;> with_reducible rfl))
            iterate 7 (with_reducible refine wpTxO_evN (o := ?_) (v := ?_) (a' := ?_) (by with_unfolding_all rfl) (by with_unfolding_all rfl) (fun W' => ?_) ?_ ?_; rotate_left 2; (focus (go_simp <;> with_reducible rfl)); focus (go_simp <;> with_reducible rfl))
            iterate 2 (with_reducible refine wpTxO_takeN (o := ?_) (v := ?_) (a' := ?_) (by with_unfolding_all rfl) (by with_unfolding_all rfl) (fun W' hS => ?_) ?_ ?_; rotate_left 2; (focus (rw [← HS0.out] at hS; obtain ⟨t1, t2, t3, t4, t5, t6, t7, t8⟩ := hS; go_simp <;> with_reducible rfl)); focus (go_simp <;> with_reducible rfl))
            iterate 3 (with_reducible refine wpTxO_evN (o := ?_) (v := ?_) (a' := ?_) (by with_unfolding_all rfl) (by with_unfolding_all rfl) (fun W' => ?_) ?_ ?_; rotate_left 2; (focus (go_simp <;> with_reducible rfl)); focus (go_simp <;> with_reducible rfl))
            iterate 4 (with_reducible refine wpTxO_evd (o := ?_) (a' := ?_) (by with_unfolding_all rfl) (by with_unfolding_all rfl) ?_ ?_; rotate_left; focus (go_simp <;> with_reducible rfl))
            iterate 2 (with_reducible refine wpTxO_evN (o := ?_) (v := ?_) (a' := ?_) (by with_unfolding_all rfl) (by with_unfolding_all rfl) (fun W' => ?_) ?_ ?_; rotate_left 2; (focus (go_simp <;> with_reducible rfl)); focus (go_simp <;> with_reducible rfl))
            iterate 10 (with_reducible refine wpTxO_evd (o := ?_) (a' := ?_) (by with_unfolding_all rfl) (by with_unfolding_all rfl) ?_ ?_; rotate_left; focus (go_simp <;> with_reducible rfl))
            iterate 1 (with_reducible refine wpTxO_evN (o := ?_) (v := ?_) (a' := ?_) (by with_unfolding_all rfl) (by with_unfolding_all rfl) (fun W' => ?_) ?_ ?_; rotate_left 2; (focus (go_simp <;> with_reducible rfl)); focus (go_simp <;> with_reducible rfl))
            with_reducible refine wpTxO_nil ?_
            rw [noPan_normal]
            go_wp2_with fail
            go_ret
            exact ⟨rfl, HB.out.trans ((HYB.out.trans ((HBR.out.trans (BX.out.mono HBR.out.size)).mono HYB.out.size)).mono HB.out.size)⟩
          · have HAL1 := Lib.hid HAL1
            have hR16 : RES = 16 := by
              rw [← HRES.out, if_neg]
              intro e
              have := (HAG.out (by first | exact HM.out.symm | simp)).1 e i hlt
              rw [HGD.out, HSI.out, HAL1.out] at this
              cases this
            subst hR16
            clear HRES
            go_upto_region 14 with fail
            rw [HH3.out]
            refine wp_txO [(0, 3), (1, 3), (2, 3), (3, 3), (4, 3), (5, 0), (6, 1), (7, 3), (8, 3), (9, 3), (10, 0), (11, 3), (12, 3), (13, 3), (14, 3), (16, 3), (17, 3), (18, 3), (15, 0), (19, 0), (20, 3), (21, 3), (22, 3), (23, 3), (24, 0), (25, 0), (26, 3), (27, 3), (28, 3), (29, 3), (30, 3), (31, 3), (32, 3), (33, 3), (34, 3), (35, 3), (36, 3), (37, 3), (38, 3), (39, 3)] S0 (by kernel_rfl) (by kernel_rfl) (by kernel_rfl) (by kernel_rfl) (HSS.out _ (Below.refl _ _).drew) ?_
            iterate 5 (with_reducible refine wpTxO_evN (o := ?_) (v := ?_) (a' := ?_) (by with_unfolding_all rfl) (by with_unfolding_all rfl) (fun W' => ?_) ?_ ?_; rotate_left 2; (focus (go_simp <;> with_reducible rfl)); focus (go_simp <;> with_reducible rfl))
            iterate 1 (with_reducible refine wpTxO_takeN (o := ?_) (v := ?_) (a' := ?_) (by with_unfolding_all rfl) (by with_unfolding_all rfl) (fun W' hS => ?_) ?_ ?_; rotate_left 2; (focus (rw [← HS0.out] at hS; obtain ⟨t1, t2, t3, t4, t5, t6, t7, t8⟩ := hS; go_simp <;> with_reducible rfl)); focus (go_simp <;> with_reducible rfl))
            with_reducible refine wpTxO_want (o := ?_) (by with_unfolding_all rfl) (by with_unfolding_all rfl) (fun K hK => ?_)
            try simp only [List.getElem_toArray, List.getElem_cons_succ, List.getElem_cons_zero]
            go_simp
            with_reducible refine hp1.mono ?_
            rintro e w6 ⟨rfl, hB6⟩
            have hB6Y : Below Y.heap.size Y w6 := (Below.refl _ Y).drew.trans hB6
            have BX := Lib.hid hB6Y
            clear hB6Y hB6 hp1
            with_reducible refine hK _ _ (HSS.out _ BX.out) ?_
            clear hK K
            iterate 3 (with_reducible refine wpTxO_evN (o := ?_) (v := ?_) (a' := ?_) (by with_unfolding_all rfl) (by with_unfolding_all rfl) (fun W' => ?_) ?_ ?_; rotate_left 2; (focus (go_simp <;> with_reducible rfl)); focus (go_simp <;> with_reducible rfl))
            iterate 1 (with_reducible refine wpTxO_takeN (o := ?_) (v := ?_) (a' := ?_) (by with_unfolding_all rfl) (by with_unfolding_all rfl) (fun W' hS => ?_) ?_ ?_; rotate_left 2; (focus (rw [← HS0.out] at hS; obtain ⟨t1, t2, t3, t4, t5, t6, t7, t8⟩ := hS; go_simp <;> with_reducible rfl)); focus (go_simp <;> with_reducible rfl))
            iterate 7 (with_reducible refine wpTxO_evN (o := ?_) (v := ?_) (a' := ?_) (by with_unfolding_all rfl) (by with_unfolding_all rfl) (fun W' => ?_) ?_ ?_; rotate_left 2; (focus (go_simp <;> with_reducible rfl)); focus (go_simp <;> with_reducible rfl))
            iterate 2 (with_reducible refine wpTxO_takeN (o := ?_) (v := ?_) (a' := ?_) (by with_unfolding_all rfl) (by with_unfolding_all rfl) (fun W' hS => ?_) ?_ ?_; rotate_left 2; (focus (rw [← HS0.out] at hS; obtain ⟨t1, t2, t3, t4, t5, t6, t7, t8⟩ := hS; go_simp <;> with_reducible rfl)); focus (go_simp <;> with_reducible rfl))
            iterate 4 (with_reducible refine wpTxO_evN (o := ?_) (v := ?_) (a' := ?_) (by with_unfolding_all rfl) (by with_unfolding_all rfl) (fun W' => ?_) ?_ ?_; rotate_left 2; (focus (go_simp <;> with_reducible rfl)); focus (go_simp <;> with_reducible rfl))
            iterate 2 (with_reducible refine wpTxO_takeN (o := ?_) (v := ?_) (a' := ?_) (by with_unfolding_all rfl) (by with_unfolding_all rfl) (fun W' hS => ?_) ?_ ?_; rotate_left 2; (focus (rw [← HS0.out] at hS; obtain ⟨t1, t2, t3, t4, t5, t6, t7, t8⟩ := hS; go_simp <;> with_reducible rfl)); focus (go_simp <;> with_reducible rfl))
            iterate 3 (with_reducible refine wpTxO_evN (o := ?_) (v := ?_) (a' := ?_) (by with_unfolding_all rfl) (by with_unfolding_all rfl) (fun W' => ?_) ?_ ?_; rotate_left 2; (focus (go_simp <;> with_reducible rfl)); focus (go_simp <;> with_reducible rfl))
            iterate 10 (with_reducible refine wpTxO_evd (o := ?_) (a' := ?_) (by with_unfolding_all rfl) (by with_unfolding_all rfl) ?_ ?_; rotate_left; focus (go_simp <;> with_reducible rfl))
            iterate 1 (with_reducible refine wpTxO_evN (o := ?_) (v := ?_) (a' := ?_) (by with_unfolding_all rfl) (by with_unfolding_all rfl) (fun W' => ?_) ?_ ?_; rotate_left 2; (focus (go_simp <;> with_reducible rfl)); focus (go_simp <;> with_reducible rfl))
            with_reducible refine wpTxO_nil ?_
            rw [noPan_normal]
            go_wp2_with fail
            go_ret
            exact ⟨rfl, HB.out.trans ((HYB.out.trans ((HBR.out.trans (BX.out.mono HBR.out.size)).mono HYB.out.size)).mono HB.out.size)⟩
          · have HAL1 := Lib.hid HAL1
            have hR16 : RES = 16 := by
              rw [← HRES.out, if_neg]
              intro e
              have := (HAG.out (by first | exact HM.out.symm | simp)).1 e i hlt
              rw [HGD.out, HSI.out, HAL1.out] at this
              cases this
            subst hR16
            clear HRES
            go_upto_region 14 with fail
            rw [HH3.out]
            refine wp_txO [(0, 3), (1, 3), (2, 3), (3, 3), (4, 3), (5, 0), (6, 1), (7, 3), (8, 3), (9, 3), (10, 0), (11, 3), (12, 3), (13, 3), (14, 3), (16, 3), (17, 3), (18, 3), (15, 0), (19, 0), (20, 3), (21, 3), (22, 3), (23, 3), (24, 0), (25, 0), (26, 3), (27, 3), (28, 3), (29, 3), (32, 3), (33, 3), (34, 3), (35, 3), (30, 0), (31, 0), (36, 0), (37, 1), (38, 3), (39, 3)] S0 (by kernel_rfl) (by kernel_rfl) (by kernel_rfl) (by kernel_rfl) (HSS.out _ (Below.refl _ _).drew) ?_
            iterate 5 (with_reducible refine wpTxO_evN (o := ?_) (v := ?_) (a' := ?_) (by with_unfolding_all rfl) (by with_unfolding_all rfl) (fun W' => ?_) ?_ ?_; rotate_left 2; (focus (go_simp <;> with_reducible rfl)); focus (go_simp <;> with_reducible rfl))
            iterate 1 (with_reducible refine wpTxO_takeN (o := ?_) (v := ?_) (a' := ?_) (by with_unfolding_all rfl) (by with_unfolding_all rfl) (fun W' hS => ?_) ?_ ?_; rotate_left 2; (focus (rw [← HS0.out] at hS; obtain ⟨t1, t2, t3, t4, t5, t6, t7, t8⟩ := hS; go_simp <;> with_reducible rfl)); focus (go_simp <;> with_reducible rfl))
            with_reducible refine wpTxO_want (o := ?_) (by with_unfolding_all rfl) (by with_unfolding_all rfl) (fun K hK => ?_)
            try simp only [List.getElem_toArray, List.getElem_cons_succ, List.getElem_cons_zero]
            go_simp
            with_reducible refine hp1.mono ?_
            rintro e w6 ⟨rfl, hB6⟩
            have hB6Y : Below Y.heap.size Y w6 := (Below.refl _ Y).drew.trans hB6
            have BX := Lib.hid hB6Y
            clear hB6Y hB6 hp1
            with_reducible refine hK _ _ (HSS.out _ BX.out) ?_
            clear hK K
            iterate 3 (with_reducible refine wpTxO_evN (o := ?_) (v := ?_) (a' := ?_) (by with_unfolding_all rfl) (by with_unfolding_all rfl) (fun W' => ?_) ?_ ?_; rotate_left 2; (focus (go_simp <;> with_reducible rfl)); focus (go_simp <;> with_reducible rfl))
            iterate 1 (with_reducible refine wpTxO_takeN (o := ?_) (v := ?_) (a' := ?_) (by with_unfolding_all rfl) (by with_unfolding_all rfl) (fun W' hS => ?_) ?_ ?_; rotate_left 2; (focus (rw [← HS0.out] at hS; obtain ⟨t1, t2, t3, t4, t5, t6, t7, t8⟩ := hS; go_simp <;> with_reducible rfl)); focus (go_simp <;> with_reducible rfl))
            iterate 7 (with_reducible refine wpTxO_evN (o := ?_) (v := ?_) (a' := ?_) (by with_unfolding_all rfl) (by with_unfolding_all rfl) (fun W' => ?_) ?_ ?_; rotate_left 2; (focus (go_simp <;> with_reducible rfl)); focus (go_simp <;> with_reducible rfl))
            iterate 2 (with_reducible refine wpTxO_takeN (o := ?_) (v := ?_) (a' := ?_) (by with_unfolding_all rfl) (by with_unfolding_all rfl) (fun W' hS => ?_) ?_ ?_; rotate_left 2; (focus (rw [← HS0.out] at hS; obtain ⟨t1, t2, t3, t4, t5, t6, t7, t8⟩ := hS; go_simp <;> with_reducible rfl)); focus (go_simp <;> with_reducible rfl))
            iterate 4 (with_reducible refine wpTxO_evN (o := ?_) (v := ?_) (a' := ?_) (by with_unfolding_all rfl) (by with_unfolding_all rfl) (fun W' => ?_) ?_ ?_; rotate_left 2; (focus (go_simp <;> with_reducible rfl)); focus (go_simp <;> with_reducible rfl))
            iterate 2 (with_reducible refine wpTxO_takeN (o := ?_) (v := ?_) (a' := ?_) (by with_unfolding_all rfl) (by with_unfolding_all rfl) (fun W' hS => ?_) ?_ ?_; rotate_left 2; (focus (rw [← HS0.out] at hS; obtain ⟨t1, t2, t3, t4, t5, t6, t7, t8⟩ := hS; go_simp <;> with_reducible rfl)); focus (go_simp <;> with_reducible rfl))
            iterate 8 (with_reducible refine wpTxO_evN (o := ?_) (v := ?_) (a' := ?_) (by with_unfolding_all rfl) (by with_unfolding_all rfl) (fun W' => ?_) ?_ ?_; rotate_left 2; (focus (go_simp <;> with_reducible rfl)); focus (go_simp <;> with_reducible rfl))
            iterate 3 (with_reducible refine wpTxO_takeN (o := ?_) (v := ?_) (a' := ?_) (by with_unfolding_all rfl) (by with_unfolding_all rfl) (fun W' hS => ?_) ?_ ?_; rotate_left 2; (focus (rw [← HS0.out] at hS; obtain ⟨t1, t2, t3, t4, t5, t6, t7, t8⟩ := hS; go_simp <;> with_reducible rfl)); focus (go_simp <;> with_reducible rfl))
            with_reducible refine wpTxO_want (o := ?_) (by with_unfolding_all rfl) (by with_unfolding_all rfl) (fun K hK => ?_)
            try simp only [List.getElem_toArray, List.getElem_cons_succ, List.getElem_cons_zero]
            go_simp
            have hs37 := HSM.out _ BX.out
            with_reducible refine hs37.mono ?_
            rintro e w37 ⟨rfl, hB37⟩
            have hB37Y := BX.out.trans (hB37.mono BX.out.size)
            clear BX hs37 hB37
            have BX := Lib.hid hB37Y
            clear hB37Y
            with_reducible refine hK _ _ (HSS.out _ BX.out) ?_
            clear hK K
            iterate 2 (with_reducible refine wpTxO_evN (o := ?_) (v := ?_) (a' := ?_) (by with_unfolding_all rfl) (by with_unfolding_all rfl) (fun W' => ?_) ?_ ?_; rotate_left 2; (focus (go_simp <;> with_reducible rfl)); focus (go_simp <;> with_reducible rfl))
            with_reducible refine wpTxO_nil ?_
            rw [noPan_normal]
            go_wp2_with fail
            go_ret
            exact ⟨rfl, HB.out.trans ((HYB.out.trans ((HBR.out.trans (BX.out.mono HBR.out.size)).mono HYB.out.size)).mono HB.out.size)⟩
          · have HAL1 := Lib.hid HAL1
            go_upto_region 14 with fail
            rw [HH3.out]
            refine wp_txO [(0, 3), (1, 3), (2, 3), (3, 3), (4, 3), (5, 0), (6, 1), (7, 3), (8, 3), (9, 3), (10, 0), (11, 3), (12, 3), (13, 3), (14, 3), (16, 3), (17, 3), (18, 3), (15, 0), (19, 0), (20, 3), (21, 3), (22, 3), (23, 3), (24, 0), (25, 0), (26, 3), (27, 3), (28, 3), (29, 3), (32, 3), (33, 3), (34, 3), (35, 3), (30, 0), (31, 0), (36, 0), (37, 1), (38, 3), (39, 3)] S0 (by kernel_rfl) (by kernel_rfl) (by kernel_rfl) (by kernel_rfl) (HSS.out _ (Below.refl _ _).drew) ?_
            iterate 5 (with_reducible refine wpTxO_evN (o := ?_) (v := ?_) (a' := ?_) (by with_unfolding_all rfl) (by with_unfolding_all rfl) (fun W' => ?_) ?_ ?_; rotate_left 2; (focus (go_simp <;> with_reducible rfl)); focus (go_simp <;> with_reducible rfl))
            iterate 1 (with_reducible refine wpTxO_takeN (o := ?_) (v := ?_) (a' := ?_) (by with_unfolding_all rfl) (by with_unfolding_all rfl) (fun W' hS => ?_) ?_ ?_; rotate_left 2; (focus (rw [← HS0.out] at hS; obtain ⟨t1, t2, t3, t4, t5, t6, t7, t8⟩ := hS; go_simp <;> with_reducible rfl)); focus (go_simp <;> with_reducible rfl))
            with_reducible refine wpTxO_want (o := ?_) (by with_unfolding_all rfl) (by with_unfolding_all rfl) (fun K hK => ?_)
            try simp only [List.getElem_toArray, List.getElem_cons_succ, List.getElem_cons_zero]
            go_simp
            with_reducible refine hp1.mono ?_
            rintro e w6 ⟨rfl, hB6⟩
            have hB6Y : Below Y.heap.size Y w6 := (Below.refl _ Y).drew.trans hB6
            have BX := Lib.hid hB6Y
            clear hB6Y hB6 hp1
            with_reducible refine hK _ _ (HSS.out _ BX.out) ?_
            clear hK K
            iterate 3 (with_reducible refine wpTxO_evN (o := ?_) (v := ?_) (a' := ?_) (by with_unfolding_all rfl) (by with_unfolding_all rfl) (fun W' => ?_) ?_ ?_; rotate_left 2; (focus (go_simp <;> with_reducible rfl)); focus (go_simp <;> with_reducible rfl))
            iterate 1 (with_reducible refine wpTxO_takeN (o := ?_) (v := ?_) (a' := ?_) (by with_unfolding_all rfl) (by with_unfolding_all rfl) (fun W' hS => ?_) ?_ ?_; rotate_left 2; (focus (rw [← HS0.out] at hS; obtain ⟨t1, t2, t3, t4, t5, t6, t7, t8⟩ := hS; go_simp <;> with_reducible rfl)); focus (go_simp <;> with_reducible rfl))
            iterate 7 (with_reducible refine wpTxO_evN (o := ?_) (v := ?_) (a' := ?_) (by with_unfolding_all rfl) (by with_unfolding_all rfl) (fun W' => ?_) ?_ ?_; rotate_left 2; (focus (go_simp <;> with_reducible rfl)); focus (go_simp <;> with_reducible rfl))
            iterate 2 (with_reducible refine wpTxO_takeN (o := ?_) (v := ?_) (a' := ?_) (by with_unfolding_all rfl) (by with_unfolding_all rfl) (fun W' hS => ?_) ?_ ?_; rotate_left 2; (focus (rw [← HS0.out] at hS; obtain ⟨t1, t2, t3, t4, t5, t6, t7, t8⟩ := hS; go_simp <;> with_reducible rfl)); focus (go_simp <;> with_reducible rfl))
            iterate 4 (with_reducible refine wpTxO_evN (o := ?_) (v := ?_) (a' := ?_) (by with_unfolding_all rfl) (by with_unfolding_all rfl) (fun W' => ?_) ?_ ?_; rotate_left 2; (focus (go_simp <;> with_reducible rfl)); focus (go_simp <;> with_reducible rfl))
            iterate 2 (with_reducible refine wpTxO_takeN (o := ?_) (v := ?_) (a' := ?_) (by with_unfolding_all rfl) (by with_unfolding_all rfl) (fun W' hS => ?_) ?_ ?_; rotate_left 2; (focus (rw [← HS0.out] at hS; obtain ⟨t1, t2, t3, t4, t5, t6, t7, t8⟩ := hS; go_simp <;> with_reducible rfl)); focus (go_simp <;> with_reducible rfl))
            iterate 8 (with_reducible refine wpTxO_evN (o := ?_) (v := ?_) (a' := ?_) (by with_unfolding_all rfl) (by with_unfolding_all rfl) (fun W' => ?_) ?_ ?_; rotate_left 2; (focus (go_simp <;> with_reducible rfl)); focus (go_simp <;> with_reducible rfl))
            iterate 3 (with_reducible refine wpTxO_takeN (o := ?_) (v := ?_) (a' := ?_) (by with_unfolding_all rfl) (by with_unfolding_all rfl) (fun W' hS => ?_) ?_ ?_; rotate_left 2; (focus (rw [← HS0.out] at hS; obtain ⟨t1, t2, t3, t4, t5, t6, t7, t8⟩ := hS; go_simp <;> with_reducible rfl)); focus (go_simp <;> with_reducible rfl))
            with_reducible refine wpTxO_want (o := ?_) (by with_unfolding_all rfl) (by with_unfolding_all rfl) (fun K hK => ?_)
            try simp only [List.getElem_toArray, List.getElem_cons_succ, List.getElem_cons_zero]
            go_simp
            have hs37 := HSM.out _ BX.out
            with_reducible refine hs37.mono ?_
            rintro e w37 ⟨rfl, hB37⟩
            have hB37Y := BX.out.trans (hB37.mono BX.out.size)
            clear BX hs37 hB37
            have BX := Lib.hid hB37Y
            clear hB37Y
            with_reducible refine hK _ _ (HSS.out _ BX.out) ?_
            clear hK K
            iterate 2 (with_reducible refine wpTxO_evN (o := ?_) (v := ?_) (a' := ?_) (by with_unfolding_all rfl) (by with_unfolding_all rfl) (fun W' => ?_) ?_ ?_; rotate_left 2; (focus (go_simp <;> with_reducible rfl)); focus (go_simp <;> with_reducible rfl))
            with_reducible refine wpTxO_nil ?_
            rw [noPan_normal]
            go_wp2_with fail
            go_roundg (N - (i + 1))
            case measure => omega
            case rel =>
              refine ⟨i + 1, by omega, by go_num, fun j hj => ?_, HBR.out.trans (BX.out.mono HBR.out.size)⟩
              by_cases e : j = i
              · subst e; rw [HGD.out, HSI.out]; exact HAL1.out
              · exact HOK.out j (by omega)
        · obtain rfl : i = N := by omega
          have hltI : ¬ (i : Int) < (i : Int) := by omega
          have hR1 : RES = 0 := by rw [← HRES.out, if_pos ((HAG.out (by first | exact HM.out.symm | simp)).2 hok)]
          subst hR1
          have HBR := Lib.hid hBr
          clear hBr hok
          go_wp2_with fail
          go_ret
          exact ⟨rfl, HB.out.trans ((HYB.out.trans (HBR.out.mono HYB.out.size)).mono HB.out.size)⟩
end Go.Proofs.YtmflhidmhefljaaGreatDoor
