/-
  seisinref07.Check.
-/
import Derived.Test.YtdkanehjahpehaaGreatDoorJTxA
import Derived.BigQuiet
import Derived.Laws.StructEq
import Derived.DeepKeys

namespace Go.Proofs.YtdkanehjahpehaaGreatDoor
open Go.RowKit Go.Shelf
set_option maxRecDepth 100000

/-! ### Whether two points are the same -/
/-- A comparison, kept shut. -/
def EQs (t : TypeId) (x y : Value) : Sem Value := binOp .eql t x y
theorem eqPt_of (x y : Value) : binOp .eql 75 x y = EQs 75 x y := rfl
theorem lits_pt (d : Nat) {p : List Int × Int} (h : PtOk p) : Tryz.prog.keyLits (d + 3) 75 (ptL p.1 p.2) = some (p.1.map (Lit.int .u8) ++ [.int .i64 p.2]) := by
  obtain ⟨f0, f1, hu, t0, t1, o0, o1, n0, n1⟩ := uPtS
  have d0 : ((ptL p.1 p.2).drop 0).take 32 = bys p.1 := by
    rw [List.drop_zero]
    unfold ptL
    rw [List.take_append_of_le_length (by rw [bys_length, h.len]; omega), List.take_of_length_le (by rw [bys_length, h.len]; omega)]
  have d1 : ((ptL p.1 p.2).drop 32).take 1 = [.int .i64 p.2] := by
    unfold ptL
    rw [List.drop_append_of_le_length (by rw [bys_length, h.len]; omega), List.drop_of_length_le (by rw [bys_length, h.len]; omega)]
    rfl
  unfold Program.keyLits
  simp only [hu]
  rw [if_pos ⟨by rw [cPt]; exact ptL_len h.len _, by simp [n0, n1]⟩]
  rw [List.mapM_cons, List.mapM_cons, List.mapM_nil, t0, t1, o0, o1, cId, cI64, d0, d1, lits_id _ h.len h.tx, lits_i64 _ h.ix]
  simp
theorem EQs_pt {p q : List Int × Int} (hp : PtOk p) (hq : PtOk q) (w : World) :
    (EQs 75 (.agg (ptL p.1 p.2).toArray) (.agg (ptL q.1 q.2).toArray)).run Tryz.prog w = .ok (.bool (decide (p = q))) w := by
  unfold EQs
  obtain ⟨f0, f1, hu, _⟩ := uPtS
  obtain ⟨r, hr, hiff⟩ := run_equalIn_deep (P := Tryz.prog) 9997 3 75 (by kernel_rfl) w 3 3 (.agg (ptL p.1 p.2).toArray) (.agg (ptL q.1 q.2).toArray) _ _
    (by simp [Value.formed, hu, cPt, ptL_len hp.len]) (by simp [Value.formed, hu, cPt, ptL_len hq.len]) (by simpa [Value.cells] using lits_pt 0 hp) (by simpa [Value.cells] using lits_pt 0 hq)
  rw [run_eql_struct, show (10000 : Nat) = 9997 + 3 from rfl, hr]
  simp only [Result.andThen_ok]
  congr 2
  rw [Bool.eq_iff_iff, hiff, decide_eq_true_eq]
  constructor
  · intro e
    obtain ⟨e1, e2⟩ := List.append_inj e (by simp [hp.len, hq.len])
    have e3 : p.1 = q.1 := (List.map_inj_right (fun a b h => by simpa using h)).1 e1
    have e4 : p.2 = q.2 := by simpa using e2
    exact Prod.ext e3 e4
  · rintro rfl
    rfl

attribute [local go_sem ↓] ldPt_of ap64_of eqPt_of
theorem contains_snoc (l : List Int) (x : Int) : (l ++ [x]).contains 0 = (l.contains 0 || x == 0) := by
  rw [Bool.eq_iff_iff, Bool.or_eq_true, List.contains_iff_mem, List.contains_iff_mem, beq_iff_eq, List.mem_append, List.mem_singleton]
  exact or_congr Iff.rfl ⟨fun h => h.symm, fun h => h.symm⟩
theorem inV_ix {i : InD} (h : i.Bd) (A : Option Addr) (c : Nat) : (inV i A c)[32]? = some (.int .i64 i.ix) := by
  simp [inV, ptL, bys_length, h.len]
theorem inV_amL {i : InD} (h : i.Bd) (A : Option Addr) (c : Nat) : (inV i A c)[33]? = some (.int .u64 i.am) := by
  simp [inV, ptL, bys_length, h.len]
theorem inV_sec {i : InD} (h : i.Bd) (A : Option Addr) (c : Nat) : (inV i A c)[34]? = some (.slice A i.sec.length c) := by
  simp [inV, ptL, bys_length, h.len]

set_option maxHeartbeats 8000000 in
theorem rcheck_any (A1 : Option Addr) (c1 : Nat) (A2 : Option Addr) (c2 : Nat) (t : TxD) (w : World) (h : TxAt w A1 A2 t) :
    Calls Tryz.prog 6 #[.agg (txV A1 c1 A2 c2 t)] w fun e w' => e = .returned (.int .i64 (checkP t)) ∧ Below w.heap.size w w' := by
  obtain ⟨ins, outs, fee, exp⟩ := t
  have b0 := Blk.new w 26 (txV A1 c1 A2 c2 ⟨ins, outs, fee, exp⟩)
  have B0 : Below w.heap.size w (w.alloc (.cells (txV A1 c1 A2 c2 ⟨ins, outs, fee, exp⟩) 26)) := (Below.refl _ w).alloc (Nat.le_refl _) _
  obtain ⟨W, hW⟩ : ∃ W, w.alloc (.cells (txV A1 c1 A2 c2 ⟨ins, outs, fee, exp⟩) 26) = W := ⟨_, rfl⟩
  obtain ⟨g, hg⟩ : ∃ g, w.heap.size = g := ⟨_, rfl⟩
  rw [hW] at B0
  rw [hW, hg] at b0
  have hgW : g < W.heap.size := b0.lt
  obtain ⟨n1, hn⟩ : ∃ n, ins.length = n := ⟨_, rfl⟩
  obtain ⟨n2, hm⟩ : ∃ n, outs.length = n := ⟨_, rfl⟩
  have hbox : ∀ X, Below W.heap.size W X → X.cell? ⟨g, 0, none⟩ = some (.slice A1 n1 c1) ∧ X.cell? ⟨g, 1, none⟩ = some (.slice A2 n2 c2) ∧ X.cell? ⟨g, 2, none⟩ = some (.int .u64 fee) ∧ X.cell? ⟨g, 3, none⟩ = some (.int .i64 exp) := fun X hX => by
    rw [← hn, ← hm]
    exact ⟨(hX.cell (p := ⟨g, 0, none⟩) hgW).trans (b0.cell 0), (hX.cell (p := ⟨g, 1, none⟩) hgW).trans (b0.cell 1), (hX.cell (p := ⟨g, 2, none⟩) hgW).trans (b0.cell 2), (hX.cell (p := ⟨g, 3, none⟩) hgW).trans (b0.cell 3)⟩
  obtain ⟨q0, q1, q2, q3⟩ := hbox W (Below.refl _ _)
  have hh := h.ins
  have hbd := h.bd.ins
  have ho := h.outs
  have hbo := h.bd.outs
  have hbf := h.bd.fee
  simp only at hh hbd ho hbo hbf
  obtain ⟨R, hR⟩ : ∃ R, checkP ⟨ins, outs, fee, exp⟩ = R := ⟨_, rfl⟩
  rw [hR]
  unfold checkP at hR
  have hR4 : (longP ⟨ins, outs, fee, exp⟩ = false → False) → R = 4 := fun hq => by
    cases hl : longP ⟨ins, outs, fee, exp⟩ with
    | true => rw [hl] at hR; exact hR.symm
    | false => exact (hq hl).elim
  unfold txV at hW ⊢
  simp only at hW ⊢
  rw [hn, hm] at hW ⊢
  have HW := Lib.hid hW
  have HG := Lib.hid hg
  have HN := Lib.hid hn
  have HM := Lib.hid hm
  have HH := Lib.hid hh
  have HBD := Lib.hid hbd
  have HO := Lib.hid ho
  have HBO := Lib.hid hbo
  have HBF := Lib.hid hbf
  have HB0 := Lib.hid B0
  have HBOX := Lib.hid hbox
  have HR := Lib.hid hR
  have HR4 := Lib.hid hR4
  clear hW hg B0 b0 h hn hm hh hbd ho hbo hbf hbox hR hR4
  by_cases d1 : (n1 : Int) < 1
  · have hR4 : R = 4 := HR4.out (fun hq => by have := longP_not hq; simp only [HN.out, HM.out] at this; omega)
    subst hR4
    go_enter Tryz.func6, Tryz.ntmps6
    go_upto_region 1 with fail
    rw [HW.out, HG.out]
    go_wp2_with fail
    go_ret
    exact ⟨rfl, HB0.out⟩
  by_cases d2 : (16 : Int) < (n1 : Int)
  · have hR4 : R = 4 := HR4.out (fun hq => by have := longP_not hq; simp only [HN.out, HM.out] at this; omega)
    subst hR4
    go_enter Tryz.func6, Tryz.ntmps6
    go_upto_region 1 with fail
    rw [HW.out, HG.out]
    go_wp2_with fail
    go_ret
    exact ⟨rfl, HB0.out⟩
  by_cases d3 : (n2 : Int) < 1
  · have hR4 : R = 4 := HR4.out (fun hq => by have := longP_not hq; simp only [HN.out, HM.out] at this; omega)
    subst hR4
    go_enter Tryz.func6, Tryz.ntmps6
    go_upto_region 1 with fail
    rw [HW.out, HG.out]
    go_wp2_with fail
    go_ret
    exact ⟨rfl, HB0.out⟩
  by_cases d4 : (16 : Int) < (n2 : Int)
  · have hR4 : R = 4 := HR4.out (fun hq => by have := longP_not hq; simp only [HN.out, HM.out] at this; omega)
    subst hR4
    go_enter Tryz.func6, Tryz.ntmps6
    go_upto_region 1 with fail
    rw [HW.out, HG.out]
    go_wp2_with fail
    go_ret
    exact ⟨rfl, HB0.out⟩
  by_cases d5 : exp < 0
  · have hR4 : R = 4 := HR4.out (fun hq => by have := longP_not hq; simp only [HN.out, HM.out] at this; omega)
    subst hR4
    go_enter Tryz.func6, Tryz.ntmps6
    go_upto_region 1 with fail
    rw [HW.out, HG.out]
    go_wp2_with fail
    go_ret
    exact ⟨rfl, HB0.out⟩
  by_cases d6 : (1099511627776 : Int) < exp
  · have hR4 : R = 4 := HR4.out (fun hq => by have := longP_not hq; simp only [HN.out, HM.out] at this; omega)
    subst hR4
    go_enter Tryz.func6, Tryz.ntmps6
    go_upto_region 1 with fail
    rw [HW.out, HG.out]
    go_wp2_with fail
    go_ret
    exact ⟨rfl, HB0.out⟩
  have hn16 : n1 ≤ 16 := by omega
  have hm16 : n2 ≤ 16 := by omega
  go_enter Tryz.func6, Tryz.ntmps6
  go_upto_region 1 with fail
  rw [HW.out, HG.out]
  go_upto_region 4 with fail
  go_loopg [3] n1 (fun kk s wr => ∃ i : Nat, i + kk = n1 ∧ s = .int .i64 (i : Int) ∧ (∀ j (hj : j < ins.length), j < i → inLongP ins[j] = false) ∧ W = wr)
  case atStart => exact ⟨0, by omega, rfl, fun _ _ h => by omega, rfl⟩
  case round =>
    obtain ⟨i, hi, rfl, hnl, rfl⟩ := hrel
    by_cases hlt : i < n1
    · have hltI : (i : Int) < (n1 : Int) := by omega
      have hil : i < ins.length := by rw [HN.out]; exact hlt
      obtain ⟨g', off, As, cs, rfl, hg', hat⟩ := HH.out.below HB0.out i hil
      have hbdi := HBD.out _ (List.getElem_mem hil)
      have p32 := hat.cell 32 _ (inV_ix hbdi _ _)
      have p34 := hat.cell 34 _ (inV_sec hbdi _ _)
      have hst : inLongP ins[i] = false → ∀ j (hj : j < ins.length), j < i + 1 → inLongP ins[j] = false := fun hq j hj h => by
        by_cases e : j = i
        · subst e; exact hq
        · exact hnl j hj (by omega)
      have hlg : inLongP ins[i] = true → longP ⟨ins, outs, fee, exp⟩ = false → False := fun hq hf => by
        have := (longP_not hf).2.2.2 ins[i] (List.getElem_mem hil)
        unfold inLongP at hq
        simp only [Bool.or_eq_true, decide_eq_true_eq, Bool.not_eq_true', decide_eq_false_iff_not] at hq
        omega
      have HST := Lib.hid hst
      have HLG := Lib.hid hlg
      obtain ⟨ii, hii⟩ : ∃ ii, ins[i] = ii := ⟨_, rfl⟩
      rw [hii] at p32 p34 HST HLG
      obtain ⟨sl, hsl⟩ : ∃ sl, ii.sec.length = sl := ⟨_, rfl⟩
      rw [hsl] at p34
      have HSL := Lib.hid hsl
      clear hat hbdi hnl hst hlg hii hsl
      by_cases e1 : (64 : Int) < (sl : Int)
      · have hR4 : R = 4 := HR4.out (HLG.out (by unfold inLongP; simp only [HSL.out, Bool.or_eq_true, decide_eq_true_eq]; exact .inl (by omega)))
        subst hR4
        go_wp2_with fail
        go_ret
        exact ⟨rfl, HB0.out⟩
      by_cases e2 : ii.ix < 0
      · have hR4 : R = 4 := HR4.out (HLG.out (by unfold inLongP; simp only [Bool.or_eq_true, Bool.not_eq_true', decide_eq_false_iff_not]; exact .inr (by omega)))
        subst hR4
        go_wp2_with fail
        go_ret
        exact ⟨rfl, HB0.out⟩
      by_cases e3 : (15 : Int) < ii.ix
      · have hR4 : R = 4 := HR4.out (HLG.out (by unfold inLongP; simp only [Bool.or_eq_true, Bool.not_eq_true', decide_eq_false_iff_not]; exact .inr (by omega)))
        subst hR4
        go_wp2_with fail
        go_ret
        exact ⟨rfl, HB0.out⟩
      have HNL := Lib.hid (HST.out (by unfold inLongP; simp only [HSL.out, Bool.or_eq_false_iff, decide_eq_false_iff_not, Bool.not_eq_false', decide_eq_true_eq]; omega))
      clear HST HLG
      go_wp2_with fail
      go_roundg (n1 - (i + 1))
      case measure => omega
      case rel => exact ⟨i + 1, by omega, by go_num, HNL.out, rfl⟩
    · obtain rfl : n1 = i := by omega
      have hltI : ¬ (n1 : Int) < (n1 : Int) := by omega
      have hlf : longP ⟨ins, outs, fee, exp⟩ = false := by
        unfold longP
        simp only [Bool.or_eq_false_iff, Bool.not_eq_false', decide_eq_true_eq, List.any_eq_false]
        refine ⟨by rw [HN.out]; omega, by rw [HM.out]; omega, by omega, fun x hx => ?_⟩
        obtain ⟨j, hj, rfl⟩ := List.getElem_of_mem hx
        rw [hnl j hj (by rw [← HN.out]; exact hj)]
        simp
      have hR := HR.out
      rw [if_neg (by rw [hlf]; simp)] at hR
      have HR2 := Lib.hid hR
      clear hnl hlf hR HR HR4 d1 d2 d3 d4 d5 d6
      go_upto_region 11 with fail
      go_loopg [4, 6, 7, 8] n1 (fun kk v z s _ wr => ∃ (i : Nat) (zb : Bool), i + kk = n1 ∧ s = .int .i64 (i : Int) ∧ z = .bool zb ∧ zb = ((ins.map (·.am)).take i).contains 0 ∧ Own64 W.heap.size wr v ((ins.map (·.am)).take i) ∧ (ptsP (ins.take i)).Nodup ∧ Below W.heap.size W wr)
      case atStart => exact ⟨0, false, by omega, rfl, rfl, by simp, OwnW.nil _ _ _ _, by simp [ptsP], Below.refl _ _⟩
      case round =>
        obtain ⟨i, zb, hi, rfl, rfl, hz, hv, hnd, hB⟩ := hrel
        obtain ⟨q0a, q1a, q2a, q3a⟩ := HBOX.out wr hB
        by_cases hlt : i < n1
        · have hltI : (i : Int) < (n1 : Int) := by omega
          have hil : i < ins.length := by rw [HN.out]; exact hlt
          obtain ⟨g', off, As, cs, rfl, hg', hat⟩ := HH.out.below (HB0.out.trans (hB.mono HB0.out.size)) i hil
          have hbdi := HBD.out _ (List.getElem_mem hil)
          have hins := HH.out.below (HB0.out.trans (hB.mono HB0.out.size))
          have hpts : ∀ k, (hk : k < ins.length) → ∀ q, (LDs 75 (.pointer (some ⟨g', off + k * 35, none⟩))).run Tryz.prog (wr.drewN q) = .ok (.agg (ptL ins[k].tx ins[k].ix).toArray) (wr.drewN q) := fun k hk q => by
            obtain ⟨g2, off2, As2, cs2, e2, _, hat2⟩ := hins k hk
            cases e2
            have hbk := HBD.out _ (List.getElem_mem hk)
            exact LDs_agg uPt iPt (wr.drewN q) g' (off + k * 35) (ptL ins[k].tx ins[k].ix) (ptL_len hbk.len _) (fun j v hv => hat2.cell j v (by unfold inV; rw [List.getElem?_append_left (List.getElem?_eq_some_iff.1 hv).1]; exact hv))
          have hpi := hpts i hil
          have htp : ptsP (ins.take (i + 1)) = ptsP (ins.take i) ++ [(ins[i].tx, ins[i].ix)] := by
            unfold ptsP; rw [List.take_succ_eq_append_getElem hil, List.map_append]; rfl
          have htl : ((ins.map (·.am)).take i).length = i := by simp; omega
          obtain ⟨A6, c6, hvv⟩ := hv.form
          rw [htl] at hvv
          subst hvv
          obtain ⟨wo, hwo⟩ : ∃ wo, wo = wr := ⟨_, rfl⟩
          subst hwo
          have HPTS := Lib.hid hpts
          have HTP := Lib.hid htp
          have HTL := Lib.hid htl
          have HND := Lib.hid hnd
          have HZ := Lib.hid hz
          have HBI := Lib.hid hB
          have HPI := Lib.hid hpi
          have HV := Lib.hid hv
          clear hv hat hins hpts htl hnd hz hB hpi htp
          go_upto_region 14 with fail
          go_loopg [8] i (fun kk s wr => ∃ k : Nat, k + kk = i ∧ s = .int .i64 (k : Int) ∧ (∀ j (hj : j < ins.length), j < k → (ins[j].tx, ins[j].ix) ≠ (ins[i].tx, ins[i].ix)) ∧ ∃ q, wr = wo.drewN q)
          case atStart => exact ⟨0, by omega, rfl, fun _ _ h => by omega, 0, rfl⟩
          case round =>
            obtain ⟨k, hk, rfl, hne, q, rfl⟩ := hrel
            by_cases hki : k < i
            · have hkI : (k : Int) < (i : Int) := by omega
              have hkn : (k : Int) < (n1 : Int) := by omega
              have hkl : k < ins.length := by omega
              have l1 := HPTS.out k hkl
              have l2 := HPI.out
              have heq := fun X => EQs_pt (p := (ins[k].tx, ins[k].ix)) (q := (ins[i].tx, ins[i].ix)) (HBD.out _ (List.getElem_mem hkl)).pt (HBD.out _ (List.getElem_mem hil)).pt X
              simp only at heq
              obtain ⟨p1, hp1⟩ : ∃ p, (ptL ins[k].tx ins[k].ix).toArray = p := ⟨_, rfl⟩
              obtain ⟨p2, hp2⟩ : ∃ p, (ptL ins[i].tx ins[i].ix).toArray = p := ⟨_, rfl⟩
              rw [hp1] at l1 heq
              rw [hp2] at l2 heq
              clear hp1 hp2
              obtain ⟨E, hE⟩ : ∃ E, decide ((ins[k].tx, ins[k].ix) = (ins[i].tx, ins[i].ix)) = E := ⟨_, rfl⟩
              rw [hE] at heq
              have HE := Lib.hid hE
              have HNE := Lib.hid hne
              clear hE hne
              go_upto_region 16 with fail
              cases E with
              | true =>
                have hR7 : R = 7 := by
                  have e : (ins[k].tx, ins[k].ix) = (ins[i].tx, ins[i].ix) := by simpa using HE.out
                  have htw : twiceP ins = true := by
                    unfold twiceP
                    simp only [Bool.not_eq_true', decide_eq_false_iff_not]
                    intro hnd
                    have := List.pairwise_iff_getElem.1 hnd k i (by simp [ptsP]; omega) (by simp [ptsP]; omega) hki
                    exact this (by simpa [ptsP] using e)
                  have := HR2.out
                  rw [if_pos htw] at this
                  exact this.symm
                subst hR7
                go_quiet (fail)
                go_wp2_with fail
                go_ret
                exact ⟨rfl, HB0.out.trans (below_drewN (below_drewN (HBI.out.mono HB0.out.size) _) _)⟩
              | false =>
                have hne2 : ∀ j (hj : j < ins.length), j < k + 1 → (ins[j].tx, ins[j].ix) ≠ (ins[i].tx, ins[i].ix) := fun j hj hlt => by
                  by_cases e : j = k
                  · subst e; exact of_decide_eq_false HE.out
                  · exact HNE.out j hj (by omega)
                have HNE2 := Lib.hid hne2
                clear HE HNE hne2
                go_quiet (fail)
                go_wp2_with fail
                go_roundg (i - (k + 1))
                case measure => omega
                case rel => exact ⟨k + 1, by omega, by go_num, HNE2.out, _, (by first | rfl | exact World.drewN_drewN _ _ _)⟩
            · obtain rfl : i = k := by omega
              have hkI : ¬ (i : Int) < (i : Int) := by omega
              have hBq : Below W.heap.size W (wo.drewN q) := below_drewN HBI.out q
              have hvq : Own64 W.heap.size (wo.drewN q) (.slice A6 i c6) ((ins.map (·.am)).take i) := HV.out.keep (below_drewN (Below.refl _ _) q)
              obtain ⟨wq, hwq⟩ : ∃ wq, wo.drewN q = wq := ⟨_, rfl⟩
              rw [hwq] at hBq hvq ⊢
              obtain ⟨q0b, q1b, q2b, q3b⟩ := HBOX.out wq hBq
              obtain ⟨g2, off2, As2, cs2, e2, hg2, hat2⟩ := HH.out.below (HB0.out.trans (hBq.mono HB0.out.size)) i hil
              cases e2
              have p33 := hat2.cell 33 _ (inV_amL hbdi _ _)
              have htk : (ins.map (·.am)).take (i + 1) = (ins.map (·.am)).take i ++ [ins[i].am] := by
                rw [List.take_succ_eq_append_getElem (by simpa using hil)]; simp
              obtain ⟨v', w', hap, ho', hf', _⟩ := appW_one (ty := 78) uU64s iU64s (by omega) hvq ins[i].am (by rw [HTL.out]; omega) hBq.size
              rw [← htk] at ho'
              obtain ⟨A7, c7, rfl⟩ := ho'.form
              have hlv : ((ins.map (·.am)).take (i + 1)).length = i + 1 := by simp; omega
              rw [hlv] at hap ho'
              have hzn : ((ins.map (·.am)).take (i + 1)).contains 0 = (zb || ins[i].am == 0) := by
                rw [htk, HZ.out]
                exact contains_snoc _ _
              have hB6 := hBq.trans ((hvq.step hf' hBq.size).mono (Nat.le_refl _))
              obtain ⟨q0c, q1c, q2c, q3c⟩ := HBOX.out w' hB6
              obtain ⟨g3, off3, As3, cs3, e3, hg3, hat3⟩ := HH.out.below (HB0.out.trans (hB6.mono HB0.out.size)) i hil
              cases e3
              have p33c := hat3.cell 33 _ (inV_amL hbdi _ _)
              have hnd2 : (ptsP (ins.take (i + 1))).Nodup := by
                rw [HTP.out, List.nodup_append]
                refine ⟨HND.out, by simp, fun a ha c hc => ?_⟩
                simp only [List.mem_singleton] at hc
                subst hc
                obtain ⟨j, hj, rfl⟩ := List.getElem_of_mem ha
                have hj' : j < i := by have := hj; simp [ptsP] at this; omega
                have := hne j (by omega) hj'
                simpa [ptsP] using this
              have HO' := Lib.hid ho'
              have HB6 := Lib.hid hB6
              have HZN := Lib.hid hzn
              have HND2 := Lib.hid hnd2
              obtain ⟨am, ham⟩ : ∃ am, ins[i].am = am := ⟨_, rfl⟩
              rw [ham] at p33 p33c hap HZN
              clear ho' hf' hvq hat2 hat3 htk hlv hzn hnd2 hBq hB6 hwq hne ham HND HTP HTL HZ HBI HPI HPTS HV hbdi
              have hzI : (am == 0) = decide (am = 0) := rfl
              cases zb with
              | true =>
                go_wp2_with fail
                go_roundg (n1 - (i + 1))
                case measure => omega
                case rel => exact ⟨i + 1, true, by omega, by go_num, rfl, by rw [HZN.out]; rfl, HO'.out, HND2.out, HB6.out⟩
              | false =>
                go_wp2_with fail
                go_roundg (n1 - (i + 1))
                case measure => omega
                case rel => exact ⟨i + 1, decide (am = 0), by omega, by go_num, rfl, by rw [HZN.out]; rfl, HO'.out, HND2.out, HB6.out⟩
        · obtain rfl : n1 = i := by omega
          have hltI : ¬ (n1 : Int) < (n1 : Int) := by omega
          rw [List.take_of_length_le (by simp [HN.out])] at hz hv
          rw [List.take_of_length_le (by rw [HN.out]; exact Nat.le_refl _)] at hnd
          obtain ⟨A6, c6, hvv⟩ := hv.form
          rw [List.length_map, HN.out] at hvv
          subst hvv
          have hR := HR2.out
          rw [if_neg (by unfold twiceP; simp [hnd])] at hR
          have HR3 := Lib.hid hR
          obtain ⟨w2, hw2⟩ : ∃ w2, w2 = wr := ⟨_, rfl⟩
          subst hw2
          have HV := Lib.hid hv
          have HZ := Lib.hid hz
          have HB1 := Lib.hid hB
          clear hR HR2 hv hz hnd hB
          go_upto_region 21 with fail
          have HB1w := Lib.hid (HB0.out.trans (HB1.out.mono HB0.out.size))
          clear q0 q1 q2 q3 q0a q1a q2a q3a
          go_loopg [5, 6, 9] n2 (fun kk v z s wr => ∃ (k : Nat) (zc : Bool), k + kk = n2 ∧ s = .int .i64 (k : Int) ∧ z = .bool zc ∧ zc = (zb || ((outs.map (·.am)).take k).contains 0) ∧ Own64 w2.heap.size wr v ((outs.map (·.am)).take k) ∧ Below w2.heap.size w2 wr)
          case atStart => exact ⟨0, zb, by omega, rfl, rfl, by simp, OwnW.nil _ _ _ _, Below.refl _ _⟩
          case round =>
            obtain ⟨k, zc, hk, rfl, rfl, hz, hv, hB⟩ := hrel
            have hBW := HB1.out.trans (hB.mono HB1.out.size)
            obtain ⟨q0a, q1a, q2a, q3a⟩ := HBOX.out wr hBW
            by_cases hlt2 : k < n2
            · have hltI : (k : Int) < (n2 : Int) := by omega
              have hil : k < outs.length := by rw [HM.out]; exact hlt2
              obtain ⟨g', off, rfl, hg', hat⟩ := HO.out.below (HB0.out.trans (hBW.mono HB0.out.size)) k hil
              have hbdi := HBO.out _ (List.getElem_mem hil)
              have p32 := hat 32 _ (by simpa using outV_am hbdi)
              have htk : (outs.map (·.am)).take (k + 1) = (outs.map (·.am)).take k ++ [outs[k].am] := by
                rw [List.take_succ_eq_append_getElem (by simpa using hil)]; simp
              have htl : ((outs.map (·.am)).take k).length = k := by simp; omega
              obtain ⟨v', w', hap, ho', hf', _⟩ := appW_one (ty := 78) uU64s iU64s (by omega) hv outs[k].am (by omega) hB.size
              obtain ⟨A8, c8, hvv⟩ := hv.form
              rw [htl] at hvv
              subst hvv
              rw [← htk] at ho'
              obtain ⟨A7, c7, rfl⟩ := ho'.form
              have hlv : ((outs.map (·.am)).take (k + 1)).length = k + 1 := by simp; omega
              rw [hlv] at hap ho'
              have hzn : (zb || ((outs.map (·.am)).take (k + 1)).contains 0) = (zc || outs[k].am == 0) := by
                rw [htk, contains_snoc, hz, Bool.or_assoc]
              have hB6 := hB.trans ((hv.step hf' hB.size).mono (Nat.le_refl _))
              have hB6W := HB1.out.trans (hB6.mono HB1.out.size)
              obtain ⟨q0c, q1c, q2c, q3c⟩ := HBOX.out w' hB6W
              obtain ⟨g3, off3, e3, hg3, hat3⟩ := HO.out.below (HB0.out.trans (hB6W.mono HB0.out.size)) k hil
              cases e3
              have p32c := hat3 32 _ (by simpa using outV_am hbdi)
              have HO' := Lib.hid ho'
              have HB6 := Lib.hid hB6
              have HZN := Lib.hid hzn
              obtain ⟨am, ham⟩ : ∃ am, outs[k].am = am := ⟨_, rfl⟩
              rw [ham] at p32 p32c hap HZN
              clear ho' hf' hv hat hat3 htk htl hlv hzn hB6 hB6W hB hBW ham hbdi hz
              cases zc with
              | true =>
                go_wp2_with fail
                go_roundg (n2 - (k + 1))
                case measure => omega
                case rel => exact ⟨k + 1, true, by omega, by go_num, rfl, by rw [HZN.out]; rfl, HO'.out, HB6.out⟩
              | false =>
                go_wp2_with fail
                go_roundg (n2 - (k + 1))
                case measure => omega
                case rel => exact ⟨k + 1, decide (am = 0), by omega, by go_num, rfl, by rw [HZN.out]; rfl, HO'.out, HB6.out⟩
            · obtain rfl : n2 = k := by omega
              have hltI : ¬ (n2 : Int) < (n2 : Int) := by omega
              rw [List.take_of_length_le (by simp [HM.out])] at hz hv
              have hz2 : zeroP ⟨ins, outs, fee, exp⟩ = zc := by
                unfold zeroP
                simp only
                rw [hz, HZ.out]
              have hv4 : Own64 W.heap.size wr (.slice A6 n1 c6) (ins.map (·.am)) := HV.out.below hB (fun _ hk => (HV.out.lt hk).2)
              obtain ⟨A5, c5, hvv⟩ := hv.form
              rw [List.length_map, HM.out] at hvv
              subst hvv
              have hR := HR3.out
              rw [hz2] at hR
              unfold sumsP at hR
              simp only at hR
              have HBW := Lib.hid hBW
              have HR4 := Lib.hid hR
              obtain ⟨w3, hw3⟩ : ∃ w3, w3 = wr := ⟨_, rfl⟩
              subst hw3
              have hbi : ∀ x ∈ ins.map (·.am), 0 ≤ x ∧ x ≤ 18446744073709551615 := fun x hx => by
                obtain ⟨i, hi, rfl⟩ := List.mem_map.1 hx
                exact (HBD.out i hi).am
              have hbfo : ∀ x ∈ outs.map (·.am) ++ [fee], 0 ≤ x ∧ x ≤ 18446744073709551615 := fun x hx => by
                rcases List.mem_append.1 hx with h' | h'
                · obtain ⟨i, hi, rfl⟩ := List.mem_map.1 h'
                  exact (HBO.out i hi).am
                · simp only [List.mem_singleton] at h'; subst h'; exact HBF.out
              have hl1 : (ins.map (·.am)).length = n1 := by simp [HN.out]
              have hl2 : (outs.map (·.am)).length = n2 := by simp [HM.out]
              obtain ⟨v4, c4, hv4e, hr4, _⟩ := hv4.rd
              rw [hl1] at hv4e
              cases hv4e
              have sa1 := rall_any A6 c6 (ins.map (·.am)) w3 (U64.of hr4 hbi) (by omega)
              rw [hl1] at sa1
              obtain ⟨v', w6, hap, ho', hf', _⟩ := appW_one (ty := 78) uU64s iU64s (by omega) hv fee (by omega) hB.size
              have hB6 := hBW.trans (((hv.step hf' hB.size).mono HB1.out.size))
              obtain ⟨A7, c7, hv7, hr7, _⟩ := ho'.rd
              subst hv7
              have sa2 := rall_any A7 c7 (outs.map (·.am) ++ [fee]) w6 (U64.of hr7 hbfo) (by simp [HM.out]; omega)
              obtain ⟨li, hli⟩ : ∃ li, ins.map (·.am) = li := ⟨_, rfl⟩
              obtain ⟨lf, hlf⟩ : ∃ lf, outs.map (·.am) ++ [fee] = lf := ⟨_, rfl⟩
              rw [hli] at sa1 HR4
              rw [hlf] at sa2 hap HR4
              obtain ⟨k7, hk7⟩ : ∃ k7, lf.length = k7 := ⟨_, rfl⟩
              rw [hk7] at sa2 hap
              have hae := allQ_e li 0
              have hbe := allQ_e lf 0
              obtain ⟨P1, hP1⟩ : ∃ P1, allQ 0 li = P1 := ⟨_, rfl⟩
              obtain ⟨P2, hP2⟩ : ∃ P2, allQ 0 lf = P2 := ⟨_, rfl⟩
              rw [hP1] at sa1 HR4 hae
              rw [hP2] at sa2 HR4 hbe
              obtain ⟨a1, e1⟩ := P1
              obtain ⟨a2, e2⟩ := P2
              simp only at sa1 sa2 HR4 hae hbe
              have HB6 := Lib.hid hB6
              have SA1 := Lib.hid sa1
              have SA2 := Lib.hid sa2
              clear hR HR3 hz2 hz HZ HV hv hv4 hB hBW hr4 hr7 ho' hf' hli hlf hk7 hP1 hP2 hB6 sa1 sa2 hbi hbfo hl1 hl2 hm16 hn16
              cases zc with
              | true =>
                have hr := HR4.out
                rw [if_pos rfl] at hr
                subst hr
                go_wp2_with fail
                go_ret
                exact ⟨rfl, HB0.out.trans (HBW.out.mono HB0.out.size)⟩
              | false =>
                have hr := HR4.out
                rw [if_neg (by simp)] at hr
                have HR5 := Lib.hid hr
                clear hr HR4
                rcases hae with rfl | rfl
                · have hr := HR5.out
                  rw [if_neg (by omega)] at hr
                  have HR6 := Lib.hid hr
                  clear hr HR5
                  rcases hbe with rfl | rfl
                  · have hr := HR6.out
                    rw [if_neg (by omega)] at hr
                    by_cases hab : a1 = a2
                    · subst hab
                      rw [if_neg (by simp)] at hr
                      subst hr
                      go_wp2_with fail
                      with_reducible refine SA1.out.mono ?_
                      rintro e w7 ⟨rfl, hw⟩
                      rw [← hw]
                      clear hw
                      go_wp2_with fail
                      with_reducible refine SA2.out.mono ?_
                      rintro e w7 ⟨rfl, hw⟩
                      rw [← hw]
                      clear hw
                      go_wp2_with fail
                      go_ret
                      exact ⟨rfl, HB0.out.trans (HB6.out.mono HB0.out.size)⟩
                    · rw [if_pos hab] at hr
                      subst hr
                      go_wp2_with fail
                      with_reducible refine SA1.out.mono ?_
                      rintro e w7 ⟨rfl, hw⟩
                      rw [← hw]
                      clear hw
                      go_wp2_with fail
                      with_reducible refine SA2.out.mono ?_
                      rintro e w7 ⟨rfl, hw⟩
                      rw [← hw]
                      clear hw
                      go_wp2_with fail
                      go_ret
                      exact ⟨rfl, HB0.out.trans (HB6.out.mono HB0.out.size)⟩
                  · have hr := HR6.out
                    rw [if_pos (by omega)] at hr
                    subst hr
                    go_wp2_with fail
                    with_reducible refine SA1.out.mono ?_
                    rintro e w7 ⟨rfl, hw⟩
                    rw [← hw]
                    clear hw
                    go_wp2_with fail
                    with_reducible refine SA2.out.mono ?_
                    rintro e w7 ⟨rfl, hw⟩
                    rw [← hw]
                    clear hw
                    go_wp2_with fail
                    go_ret
                    exact ⟨rfl, HB0.out.trans (HB6.out.mono HB0.out.size)⟩
                · have hr := HR5.out
                  rw [if_pos (by omega)] at hr
                  subst hr
                  go_wp2_with fail
                  with_reducible refine SA1.out.mono ?_
                  rintro e w7 ⟨rfl, hw⟩
                  rw [← hw]
                  clear hw
                  go_wp2_with fail
                  go_ret
                  exact ⟨rfl, HB0.out.trans (HBW.out.mono HB0.out.size)⟩
end Go.Proofs.YtdkanehjahpehaaGreatDoor
