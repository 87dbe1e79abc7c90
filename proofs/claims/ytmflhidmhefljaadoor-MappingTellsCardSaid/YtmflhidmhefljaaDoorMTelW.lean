/-
  MappingTells: the walk.
-/
import Derived.Test.YtmflhidmhefljaaDoorMapK
import Derived.Test.YtmflhidmhefljaaDoorTxtO
namespace Go.Proofs.YtmflhidmhefljaaDoor
open Go.RowKit Go.Shelf
set_option maxRecDepth 100000
attribute [local go_sem ↓] apI_of

theorem OwnI.nulC {B N c : Nat} {w : World} {A : Option Addr} {l : List Int} (h : OwnI B w (.slice A N c) l) : A = none → c = 0 := fun e => by
  subst e
  obtain ⟨_, ⟨e, _⟩ | ⟨g, cap, cur, e, _⟩⟩ := h
  · simp only [Value.slice.injEq] at e
    exact e.2.2
  · simp at e
theorem OwnI.keep {B : Nat} {w w' : World} {v : Value} {l : List Int} (h : OwnI B w v l) (hb : Below w.heap.size w w') : OwnI B w' v l := OwnW.keep h hb
theorem insP_ok (t : TxD) (n : Int) : (insP t n).length ≤ 1000000 := Nat.le_trans (insP_len n) (by omega)
theorem outsP_ok (t : TxD) (n : Int) : (outsP t n).length ≤ 1000000 := Nat.le_trans (outsP_len n) (by omega)

set_option maxHeartbeats 8000000 in
theorem maptells_law (A1 : Option Addr) (c1 : Nat) (A2 : Option Addr) (c2 : Nat) (t : TxD) (n s : Int) (w : World) (h : TxAt w A1 A2 t) (_m1 : t.ins.length ≤ maxLen) (_m2 : t.outs.length ≤ maxLen) (hn : -9223372036854775808 ≤ n ∧ n ≤ 9223372036854775807) (_hs : -9223372036854775808 ≤ s ∧ s ≤ 9223372036854775807) (hg : Glob w) :
    Calls Tryd.prog 5 #[.agg (txV A1 c1 A2 c2 t), .int .i64 n, .int .i64 s] w fun e w' => e = .returned (.bool true) ∧ Below w.heap.size w w' := by
  have b0 := Blk.new w 35 (txV A1 c1 A2 c2 t)
  have B0 : Below w.heap.size w (w.alloc (.cells (txV A1 c1 A2 c2 t) 35)) := (Below.refl _ w).alloc (Nat.le_refl _) _
  obtain ⟨W, hW⟩ : ∃ W, w.alloc (.cells (txV A1 c1 A2 c2 t) 35) = W := ⟨_, rfl⟩
  obtain ⟨g, hgg⟩ : ∃ g, w.heap.size = g := ⟨_, rfl⟩
  rw [hW] at B0
  rw [hW, hgg] at b0
  have hgW : g < W.heap.size := b0.lt
  have hT := h.below B0
  have hG := hg.below B0
  have hbox : ∀ X, Below W.heap.size W X → X.cell? ⟨g, 0, none⟩ = some (.slice A1 t.ins.length c1) ∧ X.cell? ⟨g, 1, none⟩ = some (.slice A2 t.outs.length c2) ∧ X.cell? ⟨g, 2, none⟩ = some (.int .u64 t.fee) ∧ X.cell? ⟨g, 3, none⟩ = some (.int .i64 t.exp) := fun X hX =>
    ⟨(hX.cell (p := ⟨g, 0, none⟩) hgW).trans (b0.cell 0), (hX.cell (p := ⟨g, 1, none⟩) hgW).trans (b0.cell 1), (hX.cell (p := ⟨g, 2, none⟩) hgW).trans (b0.cell 2), (hX.cell (p := ⟨g, 3, none⟩) hgW).trans (b0.cell 3)⟩
  have hgr := great_any A1 c1 A2 c2 t W hT
  have haw := fun X (hX : Below W.heap.size W X) => awake8 X (hG.below hX)
  have hsp := fun X (hX : Below W.heap.size W X) b => rspread_any A1 c1 A2 c2 t n b hn X (hT.below hX)
  have HW := Lib.hid hW
  have HG := Lib.hid hgg
  have HB0 := Lib.hid B0
  have HBOX := Lib.hid hbox
  have HAW := Lib.hid haw
  have HSP := Lib.hid hsp
  obtain ⟨q0, q1, q2, q3⟩ := hbox W (Below.refl _ _)
  by_cases hgt : greatP t = true
  · rw [if_pos hgt] at hgr
    clear hW hgg B0 b0 hgW hT hG hbox haw hsp h hg hgt
    unfold txV at HW hgr ⊢
    go_enter Tryd.func5, Tryd.ntmps5
    go_upto_region 1 with fail
    rw [HW.out, HG.out]
    go_wp2_with fail
    with_reducible refine hgr.mono ?_
    rintro e w1 ⟨rfl, hB1⟩
    have haw := HAW.out w1 hB1
    have HB1 := Lib.hid hB1
    clear hB1 hgr
    go_wp2_with fail
    with_reducible refine haw.mono ?_
    rintro e w2 ⟨rfl, hB2⟩
    have HB2 := Lib.hid (HB0.out.trans ((HB1.out.trans (hB2.mono HB1.out.size)).mono HB0.out.size))
    clear hB2 haw
    go_wp2_with fail
    go_ret
    exact ⟨rfl, HB2.out⟩
  have hgf : greatP t = false := by simpa using hgt
  obtain ⟨hl1, hl2⟩ := greatP_not hgf
  rw [hgf, if_neg (by simp)] at hgr
  have hmi := fun X (hX : Below W.heap.size W X) => mins_any A1 c1 A2 c2 t n hn X (hT.below hX) (hG.below hX) (by omega) (by omega)
  have hmo := fun X (hX : Below W.heap.size W X) => mouts_any A1 c1 A2 c2 t n hn X (hT.below hX) (hG.below hX) (by omega) (by omega)
  have hms := fun X (hX : Below W.heap.size W X) => msingle_any A1 c1 A2 c2 t n hn X (hT.below hX) (hG.below hX) (by omega) (by omega)
  have hma := fun X (hX : Below W.heap.size W X) => mat_any A1 c1 A2 c2 t n s hn X (hT.below hX) (hG.below hX) (by omega) (by omega)
  have HMI := Lib.hid hmi
  have HMO := Lib.hid hmo
  have HMS := Lib.hid hms
  have HMA := Lib.hid hma
  clear hW hgg B0 b0 hgW hT hG hbox haw hsp h hg hgt hgf hl1 hl2 hmi hmo hms hma
  unfold txV at HW hgr HMI HMO HMS HMA HSP ⊢
  go_enter Tryd.func5, Tryd.ntmps5
  go_upto_region 1 with fail
  rw [HW.out, HG.out]
  go_wp2_with fail
  with_reducible refine hgr.mono ?_
  rintro e w1 ⟨rfl, hB1⟩
  have HB1 := Lib.hid hB1
  clear hB1 hgr q0 q1 q2 q3
  go_upto_region 3 with fail
  refine wp_txO [(0, 0), (1, 3), (3, 0), (4, 3), (2, 1), (5, 1), (6, 3), (7, 3)] (fun X => Below W.heap.size W X) (by kernel_rfl) (by kernel_rfl) (by kernel_rfl) (by kernel_rfl) HB1.out.drew ?_
  iterate 1 (with_reducible refine wpTxO_takeN (o := ?_) (v := ?_) (a' := ?_) (by with_unfolding_all rfl) (by with_unfolding_all rfl) (fun W' hS' => ?_) ?_ ?_; rotate_left 2; (focus (obtain ⟨j0, j1, j2, j3⟩ := HBOX.out W' hS'; go_simp <;> with_reducible rfl)); focus (go_simp <;> with_reducible rfl))
  iterate 1 (with_reducible refine wpTxO_evN (o := ?_) (v := ?_) (a' := ?_) (by with_unfolding_all rfl) (by with_unfolding_all rfl) (fun W' => ?_) ?_ ?_; rotate_left 2; (focus (go_simp <;> with_reducible rfl)); focus (go_simp <;> with_reducible rfl))
  iterate 1 (with_reducible refine wpTxO_takeN (o := ?_) (v := ?_) (a' := ?_) (by with_unfolding_all rfl) (by with_unfolding_all rfl) (fun W' hS' => ?_) ?_ ?_; rotate_left 2; (focus (obtain ⟨j0, j1, j2, j3⟩ := HBOX.out W' hS'; go_simp <;> with_reducible rfl)); focus (go_simp <;> with_reducible rfl))
  iterate 1 (with_reducible refine wpTxO_evN (o := ?_) (v := ?_) (a' := ?_) (by with_unfolding_all rfl) (by with_unfolding_all rfl) (fun W' => ?_) ?_ ?_; rotate_left 2; (focus (go_simp <;> with_reducible rfl)); focus (go_simp <;> with_reducible rfl))
  have hc1 := HSP.out w1.drew HB1.out.drew false
  with_reducible refine wpTxO_want (o := ?_) (by with_unfolding_all rfl) (by with_unfolding_all rfl) (fun K hK => ?_)
  go_simp
  with_reducible refine hc1.mono ?_
  rintro e w2 ⟨va, rfl, hva, hB2⟩
  have hB2' := HB1.out.drew.trans (hB2.mono HB1.out.size)
  have hc2 := HSP.out w2 hB2' true
  rw [if_neg (by simp)] at hva
  obtain ⟨Aa, Na, ca, rfl⟩ := hva.formN
  have HVA := Lib.hid hva
  have HB2 := Lib.hid hB2'
  clear hva hB2 hB2' hc1
  with_reducible refine hK _ _ HB2.out ?_
  clear hK K
  with_reducible refine wpTxO_want (o := ?_) (by with_unfolding_all rfl) (by with_unfolding_all rfl) (fun K hK => ?_)
  go_simp
  with_reducible refine hc2.mono ?_
  rintro e w3 ⟨vb, rfl, hvb, hB3⟩
  rw [if_pos rfl] at hvb
  obtain ⟨Ab, Nb, cb, rfl⟩ := hvb.formN
  have hva3 := OwnI.keep HVA.out hB3
  have HVB := Lib.hid hvb
  have HVA := Lib.hid hva3
  have HB3 := Lib.hid (HB2.out.trans (hB3.mono HB2.out.size))
  clear hvb hva3 hB3 hc2
  with_reducible refine hK _ _ HB3.out ?_
  clear hK K
  iterate 2 (with_reducible refine wpTxO_evN (o := ?_) (v := ?_) (a' := ?_) (by with_unfolding_all rfl) (by with_unfolding_all rfl) (fun W' => ?_) ?_ ?_; rotate_left 2; (focus (go_simp <;> with_reducible rfl)); focus (go_simp <;> with_reducible rfl))
  with_reducible refine wpTxO_nil ?_
  rw [noPan_normal]
  -- all of both
  have lA := @insP_len t n
  have lB := @outsP_len t n
  have ra3 := HVA.out.rd
  have rb3 := HVB.out.rd
  have nA := HVA.out.lenN
  have nB := HVB.out.lenN
  have zA := HVA.out.nulC
  have zB := HVB.out.nulC
  have ho0 : OwnI w3.heap.size (w3.alloc (.cells #[] 3)) (.slice (some ⟨w3.heap.size, 0, none⟩) 0 0) [] := own_nul w3 _ _ (Nat.le_refl _)
  have B4 : Below w3.heap.size w3 (w3.alloc (.cells #[] 3)) := (Below.refl _ w3).alloc (Nat.le_refl _) _
  obtain ⟨v5, w5, hap5, ho5, hf5, _⟩ := appIM (ty := 38) (c := ca) ho0 (ra3.below B4) (by simp only [List.length_nil]; omega) (by simp) zA
  have B5 := B4.trans (OwnW.step ho0 hf5 (by simp))
  rw [List.nil_append] at ho5
  obtain ⟨A5, N5, c5, rfl⟩ := ho5.formN
  obtain ⟨v6, w6, hap6, ho6, hf6, _⟩ := appIM (ty := 38) (c := cb) ho5 (rb3.below B5) (by omega) (B5.size) zB
  have B6 := B5.trans (OwnW.step ho5 hf6 B5.size)
  obtain ⟨A6, N6, c6, rfl⟩ := ho6.formN
  rw [← nA] at hap5
  rw [← nB] at hap6
  have hea := reach_any A6 N6 c6 (insP t n ++ outsP t n) w6 ho6.rd ho6.lenN (by rw [List.length_append]; omega)
  have hall : eachP (insP t n ++ outsP t n) = allP t n := rfl
  rw [hall] at hea
  have RA := Lib.hid (ra3.below B6)
  have RB := Lib.hid (rb3.below B6)
  have NA := Lib.hid nA
  have NB := Lib.hid nB
  have LA := Lib.hid lA
  have LB := Lib.hid lB
  have HB6 := Lib.hid (HB3.out.trans (B6.mono HB3.out.size))
  clear ho0 hf5 hf6 ho5 ho6 B4 B5 B6 HVA HVB ra3 rb3 nA nB zA zB lA lB hall
  go_upto_region 4 with fail
  go_wp2_with fail
  with_reducible refine hea.mono ?_
  rintro e w7 ⟨v9, rfl, hv9, hB7⟩
  obtain ⟨A9, N9, c9, rfl⟩ := hv9.formN
  have hB7' := HB6.out.trans (hB7.mono HB6.out.size)
  have RA := Lib.hid (RA.out.below hB7)
  have RB := Lib.hid (RB.out.below hB7)
  have R9 := Lib.hid hv9.rd
  have N9e := Lib.hid hv9.lenN
  obtain ⟨j0, j1, j2, j3⟩ := HBOX.out w7 hB7'
  have hms := HMS.out w7 hB7'
  have HB7 := Lib.hid hB7'
  clear hv9 hB7 hB7' hea hap5 hap6
  go_wp2_with fail
  with_reducible refine hms.mono ?_
  rintro e w8 ⟨rfl, hB8⟩
  have hB8' := HB7.out.trans (hB8.mono HB7.out.size)
  have RA := Lib.hid (RA.out.below hB8)
  have RB := Lib.hid (RB.out.below hB8)
  have R9 := Lib.hid (R9.out.below hB8)
  clear j0 j1 j2 j3
  obtain ⟨j0, j1, j2, j3⟩ := HBOX.out w8 hB8'
  have hma := HMA.out w8 hB8'
  have HB8 := Lib.hid hB8'
  clear hB8 hB8' hms
  go_wp2_with fail
  with_reducible refine hma.mono ?_
  rintro e w9 ⟨vx, vy, rfl, hx, hy, hB9⟩
  obtain ⟨Ax, Nx, cx, rfl⟩ := hx.formN
  obtain ⟨Ay, Ny, cy, rfl⟩ := hy.formN
  have hB9' := HB8.out.trans (hB9.mono HB8.out.size)
  have RA := Lib.hid (RA.out.below hB9)
  have RB := Lib.hid (RB.out.below hB9)
  have R9 := Lib.hid (R9.out.below hB9)
  have RX := Lib.hid hx.rd
  have RY := Lib.hid hy.rd
  have NX := Lib.hid hx.lenN
  have NY := Lib.hid hy.lenN
  clear j0 j1 j2 j3
  obtain ⟨j0, j1, j2, j3⟩ := HBOX.out w9 hB9'
  have hmi := HMI.out w9 hB9'
  have HB9 := Lib.hid hB9'
  clear hx hy hB9 hB9' hma
  have hsg : singleP t n = if (allP t n).length = 1 then ((allP t n).getD 0 0, true) else (0, false) := rfl
  obtain ⟨m, hm⟩ : ∃ m, (allP t n).length = m := ⟨_, rfl⟩
  have N9e := N9e.out
  rw [hm] at hsg N9e
  have HML := Lib.hid hm
  subst N9e
  clear hm
  by_cases h1 : N9 = 1
  · subst h1
    rw [if_pos rfl] at hsg
    obtain ⟨x0, hx0⟩ : ∃ x0, (allP t n).getD 0 0 = x0 := ⟨_, rfl⟩
    rw [hx0] at hsg
    rw [hsg]
    have HX0 := Lib.hid hx0
    have hlt1 : ((0 : Int) < 1) := by omega
    clear hx0 hsg
    go_wp2_with fail
    with_reducible refine hmi.mono ?_
    rintro e wA ⟨Ai, ci, rfl, hi, hBA⟩
    have hBA' := HB9.out.trans (hBA.mono HB9.out.size)
    have RA := Lib.hid (RA.out.below hBA)
    have RB := Lib.hid (RB.out.below hBA)
    have R9 := Lib.hid (R9.out.below hBA)
    have RX := Lib.hid (RX.out.below hBA)
    have RY := Lib.hid (RY.out.below hBA)
    have HI := Lib.hid hi
    have hre := reach_any Aa Na ca (insP t n) wA RA.out NA.out (insP_ok t n)
    have HBA := Lib.hid hBA'
    clear hi hBA hBA' hmi
    go_wp2_with fail
    with_reducible refine hre.mono ?_
    rintro e wB ⟨ve, rfl, he, hBB⟩
    obtain ⟨Ae, Ne, ce, rfl⟩ := he.formN
    have hBB' := HBA.out.trans (hBB.mono HBA.out.size)
    have hin := ints_any Ai Ae (eachP (insP t n)).length Ne ci ce (eachP (insP t n)) (eachP (insP t n)) wB (HI.out.below hBB) he.rd rfl he.lenN (Nat.le_trans (eachP_len _) (by omega))
    rw [show decide (eachP (insP t n) = eachP (insP t n)) = true by simp] at hin
    have RA := Lib.hid (RA.out.below hBB)
    have RB := Lib.hid (RB.out.below hBB)
    have R9 := Lib.hid (R9.out.below hBB)
    have RX := Lib.hid (RX.out.below hBB)
    have RY := Lib.hid (RY.out.below hBB)
    have HBB := Lib.hid hBB'
    clear he hBB hBB' hre j0 j1 j2 j3
    obtain ⟨li, hli⟩ : ∃ li, (eachP (insP t n)).length = li := ⟨_, rfl⟩
    rw [hli] at hin ⊢
    clear hli
    go_wp2_with fail
    with_reducible refine hin.mono ?_
    rintro e wC ⟨rfl, qC, rfl⟩
    have hBC := below_drewN (Below.refl wB.heap.size wB) qC
    have hBC' := HBB.out.trans (hBC.mono HBB.out.size)
    obtain ⟨wC, hwC⟩ : ∃ wC, wB.drewN qC = wC := ⟨_, rfl⟩
    rw [hwC] at hBC hBC' ⊢
    have RA := Lib.hid (RA.out.below hBC)
    have RB := Lib.hid (RB.out.below hBC)
    have R9 := Lib.hid (R9.out.below hBC)
    have RX := Lib.hid (RX.out.below hBC)
    have RY := Lib.hid (RY.out.below hBC)
    obtain ⟨j0, j1, j2, j3⟩ := HBOX.out wC hBC'
    have hmo := HMO.out wC hBC'
    have HBC := Lib.hid hBC'
    clear hBC hBC' hwC hin
    go_wp2_with fail
    with_reducible refine hmo.mono ?_
    rintro e wD ⟨Ao, co, rfl, ho, hBD⟩
    have hBD' := HBC.out.trans (hBD.mono HBC.out.size)
    have RA := Lib.hid (RA.out.below hBD)
    have RB := Lib.hid (RB.out.below hBD)
    have R9 := Lib.hid (R9.out.below hBD)
    have RX := Lib.hid (RX.out.below hBD)
    have RY := Lib.hid (RY.out.below hBD)
    have HO := Lib.hid ho
    have hre := reach_any Ab Nb cb (outsP t n) wD RB.out NB.out (outsP_ok t n)
    have HBD := Lib.hid hBD'
    clear ho hBD hBD' hmo
    go_wp2_with fail
    with_reducible refine hre.mono ?_
    rintro e wE ⟨ve, rfl, he, hBE⟩
    obtain ⟨Af, Nf, cf, rfl⟩ := he.formN
    have hBE' := HBD.out.trans (hBE.mono HBD.out.size)
    have hin := ints_any Ao Af (eachP (outsP t n)).length Nf co cf (eachP (outsP t n)) (eachP (outsP t n)) wE (HO.out.below hBE) he.rd rfl he.lenN (Nat.le_trans (eachP_len _) (by omega))
    rw [show decide (eachP (outsP t n) = eachP (outsP t n)) = true by simp] at hin
    have RA := Lib.hid (RA.out.below hBE)
    have RB := Lib.hid (RB.out.below hBE)
    have R9 := Lib.hid (R9.out.below hBE)
    have RX := Lib.hid (RX.out.below hBE)
    have RY := Lib.hid (RY.out.below hBE)
    have HBE := Lib.hid hBE'
    clear he hBE hBE' hre j0 j1 j2 j3
    obtain ⟨lo, hlo⟩ : ∃ lo, (eachP (outsP t n)).length = lo := ⟨_, rfl⟩
    rw [hlo] at hin ⊢
    clear hlo
    go_wp2_with fail
    with_reducible refine hin.mono ?_
    rintro e wF ⟨rfl, qF, rfl⟩
    have hBF := below_drewN (Below.refl wE.heap.size wE) qF
    have hBF' := HBE.out.trans (hBF.mono HBE.out.size)
    obtain ⟨wF, hwF⟩ : ∃ wF, wE.drewN qF = wF := ⟨_, rfl⟩
    rw [hwF] at hBF hBF' ⊢
    have RA := Lib.hid (RA.out.below hBF)
    have RB := Lib.hid (RB.out.below hBF)
    have R9 := Lib.hid (R9.out.below hBF)
    have RX := Lib.hid (RX.out.below hBF)
    have RY := Lib.hid (RY.out.below hBF)
    have hpl := rplaces_any Aa Na ca (insP t n) s wF RA.out NA.out (insP_ok t n)
    have HBF := Lib.hid hBF'
    clear hBF hBF' hwF hin
    obtain ⟨g9, o9, rfl, hg9, l9⟩ := R9.out.at (i := 0) (by rw [HML.out]; omega)
    rw [Nat.add_zero, HX0.out] at l9
    have hxx : (x0 != x0) = false := by simp
    go_wp2_with fail
    with_reducible refine hpl.mono ?_
    rintro e wG ⟨vp, rfl, hp, hBG⟩
    obtain ⟨Ap, Np, cp, rfl⟩ := hp.formN
    have hBG' := HBF.out.trans (hBG.mono HBF.out.size)
    have RB := Lib.hid (RB.out.below hBG)
    have RY := Lib.hid (RY.out.below hBG)
    have hin := ints_any Ax Ap Nx Np cx cp (placesP (insP t n) s) (placesP (insP t n) s) wG (RX.out.below hBG) hp.rd NX.out hp.lenN (Nat.le_trans (placesP_len _ _) (insP_ok t n))
    rw [show decide (placesP (insP t n) s = placesP (insP t n) s) = true by simp] at hin
    have HBG := Lib.hid hBG'
    clear hp hBG hBG' hpl
    go_wp2_with fail
    with_reducible refine hin.mono ?_
    rintro e wH ⟨rfl, qH, rfl⟩
    have hBH := below_drewN (Below.refl wG.heap.size wG) qH
    have hBH' := HBG.out.trans (hBH.mono HBG.out.size)
    obtain ⟨wH, hwH⟩ : ∃ wH, wG.drewN qH = wH := ⟨_, rfl⟩
    rw [hwH] at hBH hBH' ⊢
    have RB := Lib.hid (RB.out.below hBH)
    have RY := Lib.hid (RY.out.below hBH)
    have hpl := rplaces_any Ab Nb cb (outsP t n) s wH RB.out NB.out (outsP_ok t n)
    have HBH := Lib.hid hBH'
    clear hBH hBH' hwH hin
    go_wp2_with fail
    with_reducible refine hpl.mono ?_
    rintro e wI ⟨vp, rfl, hp, hBI⟩
    obtain ⟨Aq, Nq, cq, rfl⟩ := hp.formN
    have hBI' := HBH.out.trans (hBI.mono HBH.out.size)
    have hin := ints_any Ay Aq Ny Nq cy cq (placesP (outsP t n) s) (placesP (outsP t n) s) wI (RY.out.below hBI) hp.rd NY.out hp.lenN (Nat.le_trans (placesP_len _ _) (outsP_ok t n))
    rw [show decide (placesP (outsP t n) s = placesP (outsP t n) s) = true by simp] at hin
    have HBI := Lib.hid hBI'
    clear hp hBI hBI' hpl
    go_wp2_with fail
    with_reducible refine hin.mono ?_
    rintro e wJ ⟨rfl, qJ, rfl⟩
    have hBJ' := HBI.out.trans ((below_drewN (Below.refl wI.heap.size wI) qJ).mono HBI.out.size)
    obtain ⟨wJ, hwJ⟩ : ∃ wJ, wI.drewN qJ = wJ := ⟨_, rfl⟩
    rw [hwJ] at hBJ' ⊢
    have haw := HAW.out wJ hBJ'
    have HBJ := Lib.hid hBJ'
    clear hBJ' hwJ hin
    go_wp2_with fail
    with_reducible refine haw.mono ?_
    rintro e wK ⟨rfl, hBK⟩
    have HBK := Lib.hid (HB0.out.trans ((HBJ.out.trans (hBK.mono HBJ.out.size)).mono HB0.out.size))
    clear hBK haw
    go_wp2_with fail
    go_ret
    exact ⟨rfl, HBK.out⟩
  · rw [if_neg h1] at hsg
    rw [hsg]
    have hmb : ((N9 : Int) == 1) = false := by simp; omega
    clear hsg
    go_wp2_with fail
    with_reducible refine hmi.mono ?_
    rintro e wA ⟨Ai, ci, rfl, hi, hBA⟩
    have hBA' := HB9.out.trans (hBA.mono HB9.out.size)
    have RA := Lib.hid (RA.out.below hBA)
    have RB := Lib.hid (RB.out.below hBA)
    have R9 := Lib.hid (R9.out.below hBA)
    have RX := Lib.hid (RX.out.below hBA)
    have RY := Lib.hid (RY.out.below hBA)
    have HI := Lib.hid hi
    have hre := reach_any Aa Na ca (insP t n) wA RA.out NA.out (insP_ok t n)
    have HBA := Lib.hid hBA'
    clear hi hBA hBA' hmi
    go_wp2_with fail
    with_reducible refine hre.mono ?_
    rintro e wB ⟨ve, rfl, he, hBB⟩
    obtain ⟨Ae, Ne, ce, rfl⟩ := he.formN
    have hBB' := HBA.out.trans (hBB.mono HBA.out.size)
    have hin := ints_any Ai Ae (eachP (insP t n)).length Ne ci ce (eachP (insP t n)) (eachP (insP t n)) wB (HI.out.below hBB) he.rd rfl he.lenN (Nat.le_trans (eachP_len _) (by omega))
    rw [show decide (eachP (insP t n) = eachP (insP t n)) = true by simp] at hin
    have RA := Lib.hid (RA.out.below hBB)
    have RB := Lib.hid (RB.out.below hBB)
    have R9 := Lib.hid (R9.out.below hBB)
    have RX := Lib.hid (RX.out.below hBB)
    have RY := Lib.hid (RY.out.below hBB)
    have HBB := Lib.hid hBB'
    clear he hBB hBB' hre j0 j1 j2 j3
    obtain ⟨li, hli⟩ : ∃ li, (eachP (insP t n)).length = li := ⟨_, rfl⟩
    rw [hli] at hin ⊢
    clear hli
    go_wp2_with fail
    with_reducible refine hin.mono ?_
    rintro e wC ⟨rfl, qC, rfl⟩
    have hBC := below_drewN (Below.refl wB.heap.size wB) qC
    have hBC' := HBB.out.trans (hBC.mono HBB.out.size)
    obtain ⟨wC, hwC⟩ : ∃ wC, wB.drewN qC = wC := ⟨_, rfl⟩
    rw [hwC] at hBC hBC' ⊢
    have RA := Lib.hid (RA.out.below hBC)
    have RB := Lib.hid (RB.out.below hBC)
    have R9 := Lib.hid (R9.out.below hBC)
    have RX := Lib.hid (RX.out.below hBC)
    have RY := Lib.hid (RY.out.below hBC)
    obtain ⟨j0, j1, j2, j3⟩ := HBOX.out wC hBC'
    have hmo := HMO.out wC hBC'
    have HBC := Lib.hid hBC'
    clear hBC hBC' hwC hin
    go_wp2_with fail
    with_reducible refine hmo.mono ?_
    rintro e wD ⟨Ao, co, rfl, ho, hBD⟩
    have hBD' := HBC.out.trans (hBD.mono HBC.out.size)
    have RA := Lib.hid (RA.out.below hBD)
    have RB := Lib.hid (RB.out.below hBD)
    have R9 := Lib.hid (R9.out.below hBD)
    have RX := Lib.hid (RX.out.below hBD)
    have RY := Lib.hid (RY.out.below hBD)
    have HO := Lib.hid ho
    have hre := reach_any Ab Nb cb (outsP t n) wD RB.out NB.out (outsP_ok t n)
    have HBD := Lib.hid hBD'
    clear ho hBD hBD' hmo
    go_wp2_with fail
    with_reducible refine hre.mono ?_
    rintro e wE ⟨ve, rfl, he, hBE⟩
    obtain ⟨Af, Nf, cf, rfl⟩ := he.formN
    have hBE' := HBD.out.trans (hBE.mono HBD.out.size)
    have hin := ints_any Ao Af (eachP (outsP t n)).length Nf co cf (eachP (outsP t n)) (eachP (outsP t n)) wE (HO.out.below hBE) he.rd rfl he.lenN (Nat.le_trans (eachP_len _) (by omega))
    rw [show decide (eachP (outsP t n) = eachP (outsP t n)) = true by simp] at hin
    have RA := Lib.hid (RA.out.below hBE)
    have RB := Lib.hid (RB.out.below hBE)
    have R9 := Lib.hid (R9.out.below hBE)
    have RX := Lib.hid (RX.out.below hBE)
    have RY := Lib.hid (RY.out.below hBE)
    have HBE := Lib.hid hBE'
    clear he hBE hBE' hre j0 j1 j2 j3
    obtain ⟨lo, hlo⟩ : ∃ lo, (eachP (outsP t n)).length = lo := ⟨_, rfl⟩
    rw [hlo] at hin ⊢
    clear hlo
    go_wp2_with fail
    with_reducible refine hin.mono ?_
    rintro e wF ⟨rfl, qF, rfl⟩
    have hBF := below_drewN (Below.refl wE.heap.size wE) qF
    have hBF' := HBE.out.trans (hBF.mono HBE.out.size)
    obtain ⟨wF, hwF⟩ : ∃ wF, wE.drewN qF = wF := ⟨_, rfl⟩
    rw [hwF] at hBF hBF' ⊢
    have RA := Lib.hid (RA.out.below hBF)
    have RB := Lib.hid (RB.out.below hBF)
    have R9 := Lib.hid (R9.out.below hBF)
    have RX := Lib.hid (RX.out.below hBF)
    have RY := Lib.hid (RY.out.below hBF)
    have hpl := rplaces_any Aa Na ca (insP t n) s wF RA.out NA.out (insP_ok t n)
    have HBF := Lib.hid hBF'
    clear hBF hBF' hwF hin
    go_wp2_with fail
    with_reducible refine hpl.mono ?_
    rintro e wG ⟨vp, rfl, hp, hBG⟩
    obtain ⟨Ap, Np, cp, rfl⟩ := hp.formN
    have hBG' := HBF.out.trans (hBG.mono HBF.out.size)
    have RB := Lib.hid (RB.out.below hBG)
    have RY := Lib.hid (RY.out.below hBG)
    have hin := ints_any Ax Ap Nx Np cx cp (placesP (insP t n) s) (placesP (insP t n) s) wG (RX.out.below hBG) hp.rd NX.out hp.lenN (Nat.le_trans (placesP_len _ _) (insP_ok t n))
    rw [show decide (placesP (insP t n) s = placesP (insP t n) s) = true by simp] at hin
    have HBG := Lib.hid hBG'
    clear hp hBG hBG' hpl
    go_wp2_with fail
    with_reducible refine hin.mono ?_
    rintro e wH ⟨rfl, qH, rfl⟩
    have hBH := below_drewN (Below.refl wG.heap.size wG) qH
    have hBH' := HBG.out.trans (hBH.mono HBG.out.size)
    obtain ⟨wH, hwH⟩ : ∃ wH, wG.drewN qH = wH := ⟨_, rfl⟩
    rw [hwH] at hBH hBH' ⊢
    have RB := Lib.hid (RB.out.below hBH)
    have RY := Lib.hid (RY.out.below hBH)
    have hpl := rplaces_any Ab Nb cb (outsP t n) s wH RB.out NB.out (outsP_ok t n)
    have HBH := Lib.hid hBH'
    clear hBH hBH' hwH hin
    go_wp2_with fail
    with_reducible refine hpl.mono ?_
    rintro e wI ⟨vp, rfl, hp, hBI⟩
    obtain ⟨Aq, Nq, cq, rfl⟩ := hp.formN
    have hBI' := HBH.out.trans (hBI.mono HBH.out.size)
    have hin := ints_any Ay Aq Ny Nq cy cq (placesP (outsP t n) s) (placesP (outsP t n) s) wI (RY.out.below hBI) hp.rd NY.out hp.lenN (Nat.le_trans (placesP_len _ _) (outsP_ok t n))
    rw [show decide (placesP (outsP t n) s = placesP (outsP t n) s) = true by simp] at hin
    have HBI := Lib.hid hBI'
    clear hp hBI hBI' hpl
    go_wp2_with fail
    with_reducible refine hin.mono ?_
    rintro e wJ ⟨rfl, qJ, rfl⟩
    have hBJ' := HBI.out.trans ((below_drewN (Below.refl wI.heap.size wI) qJ).mono HBI.out.size)
    obtain ⟨wJ, hwJ⟩ : ∃ wJ, wI.drewN qJ = wJ := ⟨_, rfl⟩
    rw [hwJ] at hBJ' ⊢
    have haw := HAW.out wJ hBJ'
    have HBJ := Lib.hid hBJ'
    clear hBJ' hwJ hin
    go_wp2_with fail
    with_reducible refine haw.mono ?_
    rintro e wK ⟨rfl, hBK⟩
    have HBK := Lib.hid (HB0.out.trans ((HBJ.out.trans (hBK.mono HBJ.out.size)).mono HB0.out.size))
    clear hBK haw
    go_wp2_with fail
    go_ret
    exact ⟨rfl, HBK.out⟩
end Go.Proofs.YtmflhidmhefljaaDoor
