/-
  seisinref11.Made once more: where the path lies.
-/
import Derived.Test.YtmflhidmhefljaaGreatDoorJRCertC

namespace Go.Proofs.YtmflhidmhefljaaGreatDoor
open Go.RowKit Go.Shelf
set_option maxRecDepth 100000
attribute [local go_sem ↓] ldEnt_of ldHead_of stHead_of alHead_of bdHead_of ldCert_of stCert_of alCert_of bdCert_of

set_option maxHeartbeats 8000000 in
theorem made_new (As : Option Addr) (cs : Nat) (seed : List Int) (hsl : seed.length ≤ 64) (A : Option Addr) (c : Nat) (hc : A = none → c = 0) (cmd : List Int) (e : EntD) (he : e.Bd) (hr : rightE e = true) (iss : Nat) (hi : iss ≤ 4611686018427387904) (w : World) (hs : Byt w As seed) (hb : Byt w A cmd) (hcl : cmd.length ≤ 10000000) :
    Calls Tryz.prog 18 #[.slice As seed.length cs, .slice A cmd.length c, .agg (entV e).toArray, .int .u64 (iss : Int)] w fun x w' => ∃ B cap, x = .returned (.tuple #[.agg (certV (madeP seed cmd e iss).1 B cap).toArray, .bool true]) ∧
      RdR 32 w' B ((madeP seed cmd e iss).1.path.map bys) ∧ (madeP seed cmd e iss).1.path.length ≤ cap ∧ (B = none → cap = 0) ∧ (∀ a, B = some a → w.heap.size ≤ a.block) ∧ Below w.heap.size w w' := by
  obtain ⟨Zc, halc, _, hzc⟩ := alstZ (P := Tryz.prog) (t := 48) iCert zCert
  obtain ⟨Zh, halh, hsth0, hzh⟩ := alstZ (P := Tryz.prog) (t := 46) iHead zHead
  have b0 := Blk.new w 43 ((entV e).toArray)
  have B0 : Below w.heap.size w (w.alloc (.cells ((entV e).toArray) 43)) := (Below.refl _ w).alloc (Nat.le_refl _) _
  obtain ⟨W, hW⟩ : ∃ W, w.alloc (.cells ((entV e).toArray) 43) = W := ⟨_, rfl⟩
  rw [hW] at b0 B0
  obtain ⟨g0, hg0⟩ : ∃ g0, w.heap.size = g0 := ⟨_, rfl⟩
  rw [hg0] at b0
  have b1 := Blk.new W 48 Zc
  have B1 : Below w.heap.size w (W.alloc (.cells Zc 48)) := B0.alloc B0.size _
  obtain ⟨V, hV⟩ : ∃ X, W.alloc (.cells Zc 48) = X := ⟨_, rfl⟩
  rw [hV] at b1 B1
  have hWsz : W.heap.size = g0+1 := by first | exact hg | (rw [← hW]; simp [hg]) | (rw [← hW]; simp; omega)
  rw [hWsz] at b1
  have b01 := b0.alloc (.cells Zc 48)
  rw [hV] at b01
  have hldE := fun X (hX : Below V.heap.size V X) => LDs_all (P := Tryz.prog) uEnt iEnt (entV e) (b01.fr (Fr.of_below hX) (by have := b01.lt; omega)) (entV_len he)
  have hldE0 := hldE V (Below.refl _ _)
  have hcE : ∀ X, Below V.heap.size V X → X.cell? ⟨g0, 1, none⟩ = some (.int .i64 e.sh) ∧ X.cell? ⟨g0, 36, none⟩ = some (.int .i64 e.ep) := fun X hX => by
    have hb := b01.fr (Fr.of_below hX) (by have := b01.lt; omega)
    exact ⟨(hb.cell 1).trans rfl, (hb.cell 36).trans (entV_c3 he).2.2⟩
  have hlv := leaves_any A c hc cmd e he hr iss hi V (hb.below B1)
  have hmh := madeH_bd (cmd := cmd) (iss := iss) he
  have hmr := madeH_right (cmd := cmd) (iss := iss) hr
  have hfl := entF_len he
  have hnl := numP_le (n := iss) (by omega)
  have hnx := fun X g (h1 : LfAt X g 0 cmd) (h2 : LfAt X g 1 (entF e)) (h3 : LfAt X g 2 (numP iss)) => next_any g cmd (entF e) (numP iss) e.sh e.ep (madeH cmd e iss) rfl hmh hmr X h1 h2 h3 hcl (by omega) (by omega)
  have hpath := fun X g (h1 : LfAt X g 0 cmd) (h3 : LfAt X g 2 (numP iss)) => path_3 g 0 3 (by omega) cmd (numP iss) X h1 h3 hcl (by omega)
  have hput := fun X => rheadput_any (madeH cmd e iss) hmh hmr X
  have hshr := ((rightE_iff e).1 hr).2.1
  obtain ⟨sn, hsn⟩ := nat_of hshr.1
  have hfb := headF_bd hmh
  have hfl2 := headF_len hmh
  have hsgn := fun X A2 c2 (hn : A2 = none → c2 = 0) (hX : Below V.heap.size V X) (hby : Byt X A2 (headF (madeH cmd e iss))) => rsign_any As cs seed sn (by omega) A2 c2 (headF (madeH cmd e iss)) X hsl ((hs.below B1).below hX) hby hn (by omega)
  rw [madeP_yes hr hi]
  have hmd : (⟨e, [leafP cmd, leafP (numP iss)], madeH cmd e iss, signP seed e.sh (headF (madeH cmd e iss))⟩ : CertD).Bd := by
    have := made_bd (seed := seed) (cmd := cmd) he hr hi
    rw [madeP_yes hr hi] at this
    exact this
  simp only [← hsn] at hsgn
  obtain ⟨hd, hhd⟩ : ∃ h, madeH cmd e iss = h := ⟨_, rfl⟩
  rw [hhd] at hmd hmh hmr hfb hfl2 ⊢
  simp only [hhd] at hnx hput hsgn
  obtain ⟨T, hT⟩ : ∃ T, signP seed e.sh (headF hd) = T := ⟨_, rfl⟩
  rw [hT] at hmd ⊢
  simp only [hT] at hsgn
  obtain ⟨mc, hmc⟩ : ∃ c : CertD, (⟨e, [leafP cmd, leafP (numP iss)], hd, T⟩ : CertD) = c := ⟨_, rfl⟩
  rw [hmc] at hmd ⊢
  have hbc := fun B cap X => bdCert mc hmd B 2 cap (by rw [← hmc]; rfl) X
  have hce : mc.e = e := by rw [← hmc]
  have hch : mc.h = hd := by rw [← hmc]
  have hct : mc.tag = T := by rw [← hmc]
  have hcp : mc.path = [leafP cmd, leafP (numP iss)] := by rw [← hmc]
  rw [hce, hch, hct] at hbc
  have hcl2 := fun B cap => certV_len hmd B cap
  have hhl := headV_len hmh
  have hTl : (bys T).length = 32 := by rw [bys_length, ← hct, hmd.tag.1]
  have hhsh : (headV hd)[0]? = some (.int .i64 e.sh) := by rw [← hhd]; rfl
  have hzh0 := fun X => bdHead0 X
  have hsth := fun X => hsth0 X (headV hd) hhl (headV_one _)
  simp only
  rw [hcp]
  have hp0 : Blk V (g0 + 1) 48 Zc := b1
  obtain ⟨ev, hev⟩ : ∃ x, (entV e).toArray = x := ⟨_, rfl⟩
  rw [hev] at hW hldE0 hlv ⊢
  simp only [hev] at hldE hbc
  obtain ⟨hv, hhv⟩ : ∃ x, headV hd = x := ⟨_, rfl⟩
  rw [hhv] at hhl hhsh
  simp only [hhv] at hnx hput hbc hsth
  obtain ⟨zh, hzhh⟩ : ∃ x, (headV zeroH).toArray = x := ⟨_, rfl⟩
  simp only [hzhh] at hzh0 hnx
  obtain ⟨nc, hnc⟩ : ∃ x, cmd.length = x := ⟨_, rfl⟩
  obtain ⟨ns, hns⟩ : ∃ x, seed.length = x := ⟨_, rfl⟩
  rw [hnc] at hlv ⊢
  simp only [hns] at hsgn
  rw [hns]
  obtain ⟨sh, hsh⟩ : ∃ x, e.sh = x := ⟨_, rfl⟩
  obtain ⟨ep, hep⟩ : ∃ x, e.ep = x := ⟨_, rfl⟩
  simp only [hsh, hep] at hcE hnx
  simp only [hsh] at hsgn
  rw [hsh] at hhsh
  have hcE0 := fun X hX => (hcE X hX).1
  have hcE1 := fun X hX => (hcE X hX).2
  have HW := Lib.hid hW
  have HV := Lib.hid hV
  have HG := Lib.hid hg0
  have HB := Lib.hid B1
  have HBK := Lib.hid hp0
  have HLE := Lib.hid hldE
  have HC0 := Lib.hid hcE0
  have HC1 := Lib.hid hcE1
  have HNX := Lib.hid hnx
  have HPATH := Lib.hid hpath
  have HPUT := Lib.hid hput
  have HSGN := Lib.hid hsgn
  have HBC := Lib.hid hbc
  have HCL2 := Lib.hid hcl2
  have HHL := Lib.hid hhl
  have HHS := Lib.hid hhsh
  have HFB := Lib.hid hfb
  have HCP := Lib.hid hcp
  have HFL := Lib.hid hfl2
  clear hW hV hg0 B1 hp0 hldE hcE0 hcE1 hnx hpath hput hsgn hbc hcl2 hhl hhsh hfb hcp hfl2 hev hhv hzhh hnc hns hsh hep hcE b0 B0 b01 b1 hWsz hhd hT hce hch hct hmh hmr hfl hnl hs hb hcl hsn hshr hmc hTl hsth0
  go_enter Tryz.func18, Tryz.ntmps18
  go_upto_region 1 with fail
  rw [HW.out, HV.out, HG.out]
  go_wp2_with fail
  with_reducible refine hlv.mono ?_
  rintro e1 w1 ⟨g, rfl, l1, l2, l3, hB1⟩
  have hn1 := HNX.out w1 g l1 l2 l3
  have k0 := HC0.out w1 hB1
  have k1 := HC1.out w1 hB1
  have L1 := Lib.hid l1
  have L3 := Lib.hid l3
  have HB1 := Lib.hid hB1
  clear l1 l3 hB1 l2 hlv hldE0
  go_wp2_with fail
  with_reducible refine hn1.mono ?_
  rintro e1 w2 ⟨rfl, hB2⟩
  have hB2V := HB1.out.trans (hB2.mono HB1.out.size)
  have q1 := Blk.new w2 46 hv.toArray
  have q2 := hB2V.alloc hB2V.size (.cells hv.toArray 46)
  have bx : Below w2.heap.size w2 (w2.alloc (.cells hv.toArray 46)) := (Below.refl _ _).alloc (Nat.le_refl _) _
  have L1' := (L1.out.below hB2).below bx
  have L3' := (L3.out.below hB2).below bx
  have hst2 := hsth w2
  obtain ⟨Y, hY⟩ : ∃ X, w2.alloc (.cells hv.toArray 46) = X := ⟨_, rfl⟩
  rw [hY] at q1 q2 hst2 L1' L3'
  obtain ⟨h, hh⟩ : ∃ h, w2.heap.size = h := ⟨_, rfl⟩
  rw [hh] at q1
  have F1 := fun X (hX : Below Y.heap.size Y X) => HLE.out X (q2.trans (hX.mono q2.size))
  have F2 := fun X (hX : Below Y.heap.size Y X) => LDs_all (P := Tryz.prog) uHead iHead hv (q1.fr (Fr.of_below hX) (by have := q1.lt; omega)) HHL.out
  have F3 := fun X (hX : Below Y.heap.size Y X) => ((q1.fr (Fr.of_below hX) (by have := q1.lt; omega)).cell 0).trans (show hv.toArray[0]? = some (.int .i64 sh) by simpa using HHS.out)
  obtain ⟨S0, hS0⟩ : ∃ S0 : World → Prop, (fun X => (LDs 43 (.pointer (some ⟨g0, 0, none⟩))).run Tryz.prog X = .ok (.agg ev) X ∧ (LDs 46 (.pointer (some ⟨h, 0, none⟩))).run Tryz.prog X = .ok (.agg hv.toArray) X ∧ X.cell? ⟨h, 0, none⟩ = some (.int .i64 sh)) = S0 := ⟨_, rfl⟩
  have hSS : ∀ X, Below Y.heap.size Y X → S0 X := fun X hX => by rw [← hS0]; exact ⟨F1 X hX, F2 X hX, F3 X hX⟩
  have hp := HPATH.out Y.drew g (L1'.below (Below.refl _ _).drew) (L3'.below (Below.refl _ _).drew)
  have HH := Lib.hid hh
  have HYB := Lib.hid q2
  have HS0 := Lib.hid hS0
  have HSS := Lib.hid hSS
  clear hh q2 hS0 hSS hB2 hB2V q1 bx L1' L3' hY F1 F2 F3 hn1 k0 k1 hsth
  go_upto_region 5 with fail
  rw [HH.out]
  refine wp_txO [(1, 3), (4, 3), (5, 3), (0, 0), (3, 0), (6, 0), (7, 0), (2, 1), (8, 1), (9, 1), (10, 3), (11, 2), (12, 3)] S0 (by kernel_rfl) (by kernel_rfl) (by kernel_rfl) (by kernel_rfl) (HSS.out _ (Below.refl _ _).drew) ?_
  iterate 3 (with_reducible refine wpTxO_evN (o := ?_) (v := ?_) (a' := ?_) (by with_unfolding_all rfl) (by with_unfolding_all rfl) (fun W' => ?_) ?_ ?_; rotate_left 2; (focus (go_simp <;> with_reducible rfl)); focus (go_simp <;> with_reducible rfl))
  iterate 4 (with_reducible refine wpTxO_takeN (o := ?_) (v := ?_) (a' := ?_) (by with_unfolding_all rfl) (by with_unfolding_all rfl) (fun W' hS => ?_) ?_ ?_; rotate_left 2; (focus (rw [← HS0.out] at hS; obtain ⟨t1, t2, t3⟩ := hS; go_simp <;> with_reducible rfl)); focus (go_simp <;> with_reducible rfl))
  with_reducible refine wpTxO_want (o := ?_) (by with_unfolding_all rfl) (by with_unfolding_all rfl) (fun K hK => ?_)
  try simp only [List.getElem_toArray, List.getElem_cons_succ, List.getElem_cons_zero]
  go_simp
  with_reducible refine hp.mono ?_
  rintro e1 w3 ⟨v3, rfl, ho3, hB3⟩
  have hB3Y : Below Y.heap.size Y w3 := (Below.refl _ Y).drew.trans hB3
  obtain ⟨A3, c3, rfl, hrd3, hc3, hn3, hbs3⟩ := OwnR.rd ho3
  rw [show ([leafP cmd, leafP (numP iss)].map bys).length = 2 from rfl] at hc3 ⊢
  have hpu := HPUT.out w3
  have RD3 := Lib.hid hrd3
  have HB3 := Lib.hid hB3Y
  have HC3 := Lib.hid hc3
  have HN3 := Lib.hid hn3
  have HBS3 := Lib.hid hbs3
  clear hrd3 hB3Y hc3 hn3 hbs3 ho3 hB3 hp
  with_reducible refine hK _ _ (HSS.out _ HB3.out) ?_
  clear hK K
  with_reducible refine wpTxO_want (o := ?_) (by with_unfolding_all rfl) (by with_unfolding_all rfl) (fun K hK => ?_)
  try simp only [List.getElem_toArray, List.getElem_cons_succ, List.getElem_cons_zero]
  go_simp
  with_reducible refine hpu.mono ?_
  rintro e1 w8 ⟨v8, rfl, hv8, hB8⟩
  have hB8Y := HB3.out.trans (hB8.mono HB3.out.size)
  obtain ⟨A8, c8, rfl, hby8, _, _⟩ := Own8.byt hv8 HFB.out
  have hn8 : A8 = none → c8 = 0 := fun e => by subst e; exact Own8.nulI hv8
  have hsg := HSGN.out w8 A8 c8 hn8 (HYB.out.trans (hB8Y.mono HYB.out.size)) hby8
  obtain ⟨n8, hnn8⟩ : ∃ n, (headF hd).length = n := ⟨_, rfl⟩
  rw [hnn8] at hsg ⊢
  have rd8 := RD3.out.below hB8
  have HB8 := Lib.hid hB8Y
  have RD8 := Lib.hid rd8
  clear hB8Y rd8 hB8 hv8 hby8 hn8 hnn8 hpu
  with_reducible refine hK _ _ (HSS.out _ HB8.out) ?_
  clear hK K
  with_reducible refine wpTxO_want (o := ?_) (by with_unfolding_all rfl) (by with_unfolding_all rfl) (fun K hK => ?_)
  try simp only [List.getElem_toArray, List.getElem_cons_succ, List.getElem_cons_zero]
  go_simp
  with_reducible refine hsg.mono ?_
  rintro e1 w9 ⟨rfl, hB9⟩
  have hB9Y := HB8.out.trans (hB9.mono HB8.out.size)
  have rd9 := RD8.out.below hB9
  have hbc := HBC.out A3 c3
  have hb9V := HYB.out.trans (hB9Y.mono HYB.out.size)
  have q4 := HBK.out.fr (Fr.of_below hb9V) (by have := HBK.out.lt; omega)
  have hst := STs_all (P := Tryz.prog) iCert q4 hzc (certV mc A3 c3) (HCL2.out A3 c3) (certV_one _ _ _)
  have q5 := q4.row_ (certV mc A3 c3).toArray
  have q6 := Below.setRow (g := g0 + 1) (HB.out.trans (hb9V.mono HB.out.size)) (by have := HG.out; omega) (certV mc A3 c3).toArray
  have HB9 := Lib.hid hB9Y
  have RD9 := Lib.hid rd9
  have Q5 := Lib.hid q5
  have Q6 := Lib.hid q6
  have Q4 := Lib.hid q4
  clear hB9Y rd9 q5 q6 q4 hB9 hb9V hsg
  with_reducible refine hK _ _ (HSS.out _ HB9.out) ?_
  clear hK K
  iterate 1 (with_reducible refine wpTxO_evN (o := ?_) (v := ?_) (a' := ?_) (by with_unfolding_all rfl) (by with_unfolding_all rfl) (fun W' => ?_) ?_ ?_; rotate_left 2; (focus (go_simp <;> with_reducible rfl)); focus (go_simp <;> with_reducible rfl))
  with_reducible refine wpTxO_last (o := ?_) (by with_unfolding_all rfl) (by with_unfolding_all rfl) (fun K hK => ?_)
  try simp only [List.getElem_toArray, List.getElem_cons_succ, List.getElem_cons_zero]
  go_simp
  with_reducible refine hK _ _ ?_
  clear hK K
  iterate 1 (with_reducible refine wpTxO_evN (o := ?_) (v := ?_) (a' := ?_) (by with_unfolding_all rfl) (by with_unfolding_all rfl) (fun W' => ?_) ?_ ?_; rotate_left 2; (focus (go_simp <;> with_reducible rfl)); focus (go_simp <;> with_reducible rfl))
  with_reducible refine wpTxO_nil ?_
  rw [noPan_normal]
  go_wp2_with fail
  refine bodyPost_ret (results_cv rfl _ _ (g0 + 1) 48 (certV mc A3 c3) Q5.out uCert (by rw [HCL2.out]; exact iCert) rfl (.bool true)) rfl ⟨A3, c3, rfl, ?_, HC3.out, HN3.out, fun a ha => Nat.le_trans HB.out.size (Nat.le_trans HYB.out.size (HBS3.out a ha).1), Q6.out⟩
  refine RD9.out.fr (F := fun k => k = g0 + 1) ((Fr.refl (fun k => k = g0 + 1) w9).setRow (g := g0 + 1) (fun _ => rfl) _) (fun a ha e => ?_)
  have h1 := (HBS3.out a ha).1
  have h2 := HYB.out.size
  have h3 := HBK.out.lt
  have h4 : Y.heap.size ≤ a.block := h1
  omega
end Go.Proofs.YtmflhidmhefljaaGreatDoor
