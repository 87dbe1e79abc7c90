/-
  seisinref07.Great; seisinref08.Spread.
-/
import Derived.Test.YtmflhidmhefljaaDoorMapI
namespace Go.Proofs.YtmflhidmhefljaaDoor
open Go.RowKit Go.Shelf
set_option maxRecDepth 100000
attribute [local go_sem ↓] ldPt_of ld123 st123 al123 bdPt_of apI_of

/-- Is there more than is looked at? -/
def greatP (t : TxD) : Bool := decide (20 < t.ins.length) || (decide (20 < t.outs.length) || t.ins.any fun i => decide (100 < i.sec.length))
theorem greatP_not {t : TxD} (h : greatP t = false) : t.ins.length ≤ 20 ∧ t.outs.length ≤ 20 := by
  unfold greatP at h
  simp only [Bool.or_eq_false_iff, decide_eq_false_iff_not] at h
  omega

set_option maxHeartbeats 4000000 in
theorem great_any (A1 : Option Addr) (c1 : Nat) (A2 : Option Addr) (c2 : Nat) (t : TxD) (w : World) (h : TxAt w A1 A2 t) :
    Calls Tryd.prog 15 #[.agg (txV A1 c1 A2 c2 t)] w fun e w' => e = .returned (.int .i64 (if greatP t = true then 1 else 0)) ∧ Below w.heap.size w w' := by
  obtain ⟨ins, outs, fee, exp⟩ := t
  have b0 := Blk.new w 35 (txV A1 c1 A2 c2 ⟨ins, outs, fee, exp⟩)
  have B0 : Below w.heap.size w (w.alloc (.cells (txV A1 c1 A2 c2 ⟨ins, outs, fee, exp⟩) 35)) := (Below.refl _ w).alloc (Nat.le_refl _) _
  obtain ⟨W, hW⟩ : ∃ W, w.alloc (.cells (txV A1 c1 A2 c2 ⟨ins, outs, fee, exp⟩) 35) = W := ⟨_, rfl⟩
  obtain ⟨g, hg⟩ : ∃ g, w.heap.size = g := ⟨_, rfl⟩
  rw [hW] at B0
  rw [hW, hg] at b0
  obtain ⟨n1, hn⟩ : ∃ n, ins.length = n := ⟨_, rfl⟩
  obtain ⟨n2, hm⟩ : ∃ n, outs.length = n := ⟨_, rfl⟩
  have q0 : W.cell? ⟨g, 0, none⟩ = some (.slice A1 n1 c1) := by rw [← hn]; exact b0.cell 0
  have q1 : W.cell? ⟨g, 1, none⟩ = some (.slice A2 n2 c2) := by rw [← hm]; exact b0.cell 1
  have hh := (h.below B0).ins
  have hbd := h.bd.ins
  simp only at hh hbd
  obtain ⟨R, hR⟩ : ∃ R, greatP ⟨ins, outs, fee, exp⟩ = R := ⟨_, rfl⟩
  rw [hR]
  unfold greatP at hR
  simp only [hn, hm] at hR
  unfold txV at hW ⊢
  simp only at hW ⊢
  rw [hn, hm] at hW ⊢
  have HW := Lib.hid hW
  have HG := Lib.hid hg
  have HN := Lib.hid hn
  have HH := Lib.hid hh
  have HBD := Lib.hid hbd
  have HB0 := Lib.hid B0
  have HR := Lib.hid hR
  clear hW hg B0 b0 h hn hm hh hbd hR
  by_cases d1 : (20 : Int) < (n1 : Int)
  · have hRt : R = true := by rw [← HR.out]; simp; omega
    subst hRt
    rw [if_pos rfl]
    go_enter Tryd.func15, Tryd.ntmps15
    go_upto_region 1 with fail
    rw [HW.out, HG.out]
    go_wp2_with fail
    go_ret
    exact ⟨rfl, HB0.out⟩
  by_cases d2 : (20 : Int) < (n2 : Int)
  · have hRt : R = true := by rw [← HR.out]; simp; omega
    subst hRt
    rw [if_pos rfl]
    go_enter Tryd.func15, Tryd.ntmps15
    go_upto_region 1 with fail
    rw [HW.out, HG.out]
    go_wp2_with fail
    go_ret
    exact ⟨rfl, HB0.out⟩
  go_enter Tryd.func15, Tryd.ntmps15
  go_upto_region 1 with fail
  rw [HW.out, HG.out]
  go_upto_region 4 with fail
  go_loopg [3] n1 (fun kk s wr => ∃ i : Nat, i + kk = n1 ∧ s = .int .i64 (i : Int) ∧ (∀ j (hj : j < ins.length), j < i → ins[j].sec.length ≤ 100) ∧ W = wr)
  case atStart => exact ⟨0, by omega, rfl, fun _ _ h => by omega, rfl⟩
  case round =>
    obtain ⟨i, hi, rfl, hnl, rfl⟩ := hrel
    by_cases hlt : i < n1
    · have hltI : (i : Int) < (n1 : Int) := by omega
      have hil : i < ins.length := by rw [HN.out]; exact hlt
      obtain ⟨g', off, As, cs, rfl, hg', hat⟩ := HH.out i hil
      have hbdi := HBD.out _ (List.getElem_mem hil)
      have p34 := hat.cell 34 _ (inV_sec hbdi _ _)
      obtain ⟨sl, hsl⟩ : ∃ sl, ins[i].sec.length = sl := ⟨_, rfl⟩
      rw [hsl] at p34
      have HSL := Lib.hid hsl
      have HNL := Lib.hid hnl
      clear hat hbdi hsl hnl
      by_cases e1 : (100 : Int) < (sl : Int)
      · have hRt : R = true := by
          rw [← HR.out, Bool.or_eq_true, Bool.or_eq_true, List.any_eq_true]
          exact .inr (.inr ⟨ins[i], List.getElem_mem hil, by rw [HSL.out, decide_eq_true_eq]; omega⟩)
        subst hRt
        go_wp2_with fail
        go_ret
        exact ⟨rfl, HB0.out⟩
      · have hnl2 : ∀ j (hj : j < ins.length), j < i + 1 → ins[j].sec.length ≤ 100 := fun j hj h => by
          by_cases e : j = i
          · subst e; rw [HSL.out]; omega
          · exact HNL.out j hj (by omega)
        have HNL2 := Lib.hid hnl2
        clear hnl2
        go_wp2_with fail
        go_roundg (n1 - (i + 1))
        case measure => omega
        case rel => exact ⟨i + 1, by omega, by go_num, HNL2.out, rfl⟩
    · obtain rfl : n1 = i := by omega
      have hltI : ¬ (n1 : Int) < (n1 : Int) := by omega
      have hRf : R = false := by
        rw [← HR.out, Bool.or_eq_false_iff, Bool.or_eq_false_iff, List.any_eq_false, decide_eq_false_iff_not, decide_eq_false_iff_not]
        refine ⟨by omega, by omega, fun x hx => ?_⟩
        obtain ⟨j, hj, rfl⟩ := List.getElem_of_mem hx
        have := hnl j hj (by rw [← HN.out]; exact hj)
        simp only [decide_eq_true_eq]
        omega
      subst hRf
      clear hnl
      go_wp2_with fail
      go_ret
      exact ⟨rfl, HB0.out⟩

set_option maxHeartbeats 8000000 in
theorem rspread_any (A1 : Option Addr) (c1 : Nat) (A2 : Option Addr) (c2 : Nat) (t : TxD) (n : Int) (b : Bool) (hn : -9223372036854775808 ≤ n ∧ n ≤ 9223372036854775807) (w : World) (h : TxAt w A1 A2 t) :
    Calls Tryd.prog 16 #[.agg (txV A1 c1 A2 c2 t), .int .i64 n, .bool b] w fun e w' => ∃ v, e = .returned v ∧ OwnI w.heap.size w' v (if b = true then outsP t n else insP t n) ∧ Below w.heap.size w w' := by
  have b0 := Blk.new w 35 (txV A1 c1 A2 c2 t)
  have B0 : Below w.heap.size w (w.alloc (.cells (txV A1 c1 A2 c2 t) 35)) := (Below.refl _ w).alloc (Nat.le_refl _) _
  obtain ⟨W, hW⟩ : ∃ W, w.alloc (.cells (txV A1 c1 A2 c2 t) 35) = W := ⟨_, rfl⟩
  obtain ⟨g, hg⟩ : ∃ g, w.heap.size = g := ⟨_, rfl⟩
  rw [hW] at B0
  rw [hW, hg] at b0
  have hgW : g < W.heap.size := b0.lt
  have hT := h.below B0
  have hbox : ∀ X, Below W.heap.size W X → X.cell? ⟨g, 0, none⟩ = some (.slice A1 t.ins.length c1) ∧ X.cell? ⟨g, 1, none⟩ = some (.slice A2 t.outs.length c2) ∧ X.cell? ⟨g, 2, none⟩ = some (.int .u64 t.fee) ∧ X.cell? ⟨g, 3, none⟩ = some (.int .i64 t.exp) := fun X hX =>
    ⟨(hX.cell (p := ⟨g, 0, none⟩) hgW).trans (b0.cell 0), (hX.cell (p := ⟨g, 1, none⟩) hgW).trans (b0.cell 1), (hX.cell (p := ⟨g, 2, none⟩) hgW).trans (b0.cell 2), (hX.cell (p := ⟨g, 3, none⟩) hgW).trans (b0.cell 3)⟩
  obtain ⟨q0, q1, q2, q3⟩ := hbox W (Below.refl _ _)
  have hck := rcheck_any A1 c1 A2 c2 t W hT
  have HW := Lib.hid hW
  have HG := Lib.hid hg
  have HB0 := Lib.hid B0
  have HBOX := Lib.hid hbox
  have HT := Lib.hid hT
  have HCK := Lib.hid hck
  clear hW hg B0 b0 h hbox hT hck hgW
  obtain ⟨R, hR⟩ : ∃ R, checkP t = R := ⟨_, rfl⟩
  rw [hR] at HCK
  have HR := Lib.hid hR
  clear hR
  by_cases hok : R = 0 ∧ okN n = true
  · obtain ⟨rfl, hokn⟩ := hok
    have hn1 : 1 ≤ n ∧ n ≤ 64 := by simpa [okN] using hokn
    have hlo : ¬ n < 1 := by omega
    have hhi : ¬ 64 < n := by omega
    have hins : insP t n = t.ins.map fun i => ofO i.tx i.ix n := by unfold insP; rw [if_pos ⟨HR.out, hokn⟩]
    have houts : outsP t n = (List.range t.outs.length).map fun k => ofO (idP t) (k : Nat) n := by unfold outsP; rw [if_pos ⟨HR.out, hokn⟩]
    rw [hins, houts]
    have hid := fun X (hX : Below W.heap.size W X) => rid_any A1 c1 A2 c2 t X (HT.out.below hX) HR.out
    obtain ⟨hlong, _⟩ := checkP_ok HR.out
    obtain ⟨⟨hi1, hi2⟩, ⟨ho1, ho2⟩, _, hsec⟩ := longP_not hlong
    have hD32 : (idP t).length = 32 := idP_len t
    have hDb := idP_bd t
    obtain ⟨D, hD⟩ : ∃ D, idP t = D := ⟨_, rfl⟩
    rw [hD] at hD32 hDb
    simp only [hD] at hid
    rw [hD]
    have HID := Lib.hid hid
    clear hins houts hD hid
    obtain ⟨hins, houts, hbd⟩ := HT.out
    have hbi := hbd.ins
    obtain ⟨ins, outs, fee, exp⟩ := t
    simp only at hi1 hi2 ho1 ho2 hsec hins houts hbi
    obtain ⟨n1, hn1e⟩ : ∃ n, ins.length = n := ⟨_, rfl⟩
    obtain ⟨n2, hn2e⟩ : ∃ n, outs.length = n := ⟨_, rfl⟩
    obtain ⟨Y, hbl, hsu⟩ := alst (P := Tryd.prog) (t := 23) iId zIdS
    unfold txV at HW HCK HID ⊢
    simp only [hn1e, hn2e] at HW HBOX HCK HID q0 q1 q2 q3 ⊢
    rw [hn1e] at hi1 hi2
    rw [hn2e] at ho1 ho2
    have HN1 := Lib.hid hn1e
    have HI := Lib.hid hins
    have HBI := Lib.hid hbi
    have HSEC := Lib.hid hsec
    have HSU := Lib.hid hsu
    have HDB := Lib.hid hDb
    have HOK := Lib.hid hokn
    clear hn1e hn2e hins houts hbi hsec hsu hlong hbd HT hDb HR hokn
    cases b with
    | false =>
      rw [if_neg (by simp)]
      go_enter Tryd.func16, Tryd.ntmps16
      go_upto_region 1 with fail
      rw [HW.out, HG.out]
      go_wp2_with fail
      with_reducible refine HCK.out.mono ?_
      rintro e w1 ⟨rfl, hB1⟩
      have HB1 := Lib.hid hB1
      clear q0 q1 q2 q3 hB1 hbl HID HSU
      go_upto_region 6 with fail
      go_loopg [7, 8] n1 (fun kk v s wr => ∃ i : Nat, i + kk = n1 ∧ s = .int .i64 (i : Int) ∧ OwnI W.heap.size wr v ((ins.map fun i => ofO i.tx i.ix n).take i) ∧ Below W.heap.size W wr)
      case atStart => exact ⟨0, by omega, rfl, by rw [List.take_zero]; exact OwnW.nil _ _ _ _, HB1.out⟩
      case round =>
        obtain ⟨i, hi, rfl, hv, hB⟩ := hrel
        obtain ⟨Av, Nv, cv, rfl⟩ := hv.formN
        obtain ⟨q0, q1, q2, q3⟩ := HBOX.out wr hB
        by_cases hlt : i < n1
        · have hltI : (i : Int) < (n1 : Int) := by omega
          have hil : i < ins.length := by rw [HN1.out]; exact hlt
          obtain ⟨g', off, As, cs, rfl, hg', hat⟩ := HI.out.below hB i hil
          have hbdi := HBI.out _ (List.getElem_mem hil)
          obtain ⟨_, hx0, hx15⟩ := HSEC.out _ (List.getElem_mem hil)
          have hPt := LDs_agg uPt iPt wr g' (off + i * 35) (ptL ins[i].tx ins[i].ix) (ptL_len hbdi.len _) (fun j v hv => hat.cell j v (by unfold inV; rw [List.getElem?_append_left (List.getElem?_eq_some_iff.1 hv).1]; exact hv))
          have htk : (ins.map fun i => ofO i.tx i.ix n).take (i + 1) = (ins.map fun i => ofO i.tx i.ix n).take i ++ [ofO ins[i].tx ins[i].ix n] := by
            rw [List.take_succ_eq_append_getElem (by simpa using hil)]; simp
          have htl : ((ins.map fun i => ofO i.tx i.ix n).take i).length ≤ 16 := by simp; omega
          have hof := rmof_any ins[i].tx hbdi.len hbdi.tx ins[i].ix n hbdi.ix hn wr
          rw [if_pos (okO_of HOK.out hx0 hx15)] at hof
          obtain ⟨ps, hps⟩ : ∃ ps, (ptL ins[i].tx ins[i].ix).toArray = ps := ⟨_, rfl⟩
          obtain ⟨x, hx⟩ : ∃ x, ofO ins[i].tx ins[i].ix n = x := ⟨_, rfl⟩
          rw [hps] at hPt hof
          rw [hx] at hof htk
          have HV := Lib.hid hv
          have HB := Lib.hid hB
          have HTK := Lib.hid htk
          have HTL := Lib.hid htl
          clear hv hB hat hbdi htk htl hps hx hx0 hx15
          go_wp2_with fail
          with_reducible refine hof.mono ?_
          rintro e w6 ⟨rfl, hB6⟩
          obtain ⟨A', N', c', w7, hap, ho, hB7⟩ := appI (ty := 38) (OwnW.keep HV.out hB6) x (by have := HTL.out; omega) (Nat.le_trans HB.out.size hB6.size)
          rw [← HTK.out] at ho
          have HO := Lib.hid ho
          have HB7 := Lib.hid ((HB.out.trans (hB6.mono HB.out.size)).trans hB7)
          clear ho hB6 hB7 hof
          go_wp2_with fail
          go_roundg (n1 - (i + 1))
          case measure => omega
          case rel => exact ⟨i + 1, by omega, by go_num, HO.out, HB7.out⟩
        · obtain rfl : n1 = i := by omega
          have hltI : ¬ (n1 : Int) < (n1 : Int) := by omega
          rw [List.take_of_length_le (by rw [List.length_map, HN1.out]; exact Nat.le_refl _)] at hv
          have HV := Lib.hid hv
          have HB := Lib.hid hB
          clear hv hB
          go_wp2_with fail
          go_ret
          exact ⟨_, rfl, OwnW.base HV.out HB0.out.size, HB0.out.trans (HB.out.mono HB0.out.size)⟩
    | true =>
      rw [if_pos rfl]
      go_enter Tryd.func16, Tryd.ntmps16
      go_upto_region 1 with fail
      rw [HW.out, HG.out]
      go_wp2_with fail
      with_reducible refine HCK.out.mono ?_
      rintro e w1 ⟨rfl, hB1⟩
      obtain ⟨q0a, q1a, q2a, q3a⟩ := HBOX.out w1 hB1
      have hidc := HID.out w1 hB1
      have HB1 := Lib.hid hB1
      clear q0 q1 q2 q3 hB1 HID
      go_wp2_with fail
      with_reducible refine hidc.mono ?_
      rintro e w2 ⟨rfl, hB2⟩
      have hDl : (bys D).length = 32 := by rw [bys_length, hD32]
      have hSu := HSU.out w2 (bys D) hDl (bys_one _)
      have b3 := Blk.new w2 23 (bys D).toArray
      have B2W := HB1.out.trans (hB2.mono HB1.out.size)
      have B3 : Below w2.heap.size w2 (w2.alloc (.cells (bys D).toArray 23)) := (Below.refl _ w2).alloc (Nat.le_refl _) _
      have B3W := B2W.trans (B3.mono B2W.size)
      obtain ⟨W3, hW3⟩ : ∃ W3, w2.alloc (.cells (bys D).toArray 23) = W3 := ⟨_, rfl⟩
      rw [hW3] at hSu b3 B3 B3W
      obtain ⟨dd, hdd⟩ : ∃ dd, w2.heap.size = dd := ⟨_, rfl⟩
      rw [hdd] at b3
      obtain ⟨ds, hds⟩ : ∃ ds, (bys D).toArray = ds := ⟨_, rfl⟩
      rw [hds] at hSu
      have HDS := Lib.hid hds
      have HDD := Lib.hid hdd
      have HB3 := Lib.hid b3
      have HB3W := Lib.hid B3W
      have HDL := Lib.hid hDl
      clear b3 B2W B3 B3W hB2 hidc hW3 hDl hds hdd q0a q1a q2a q3a
      rw [HDS.out]
      go_upto_region 12 with fail
      rw [HDD.out]
      clear hbl
      go_loopg [7, 10] n2 (fun kk u s wr => ∃ k : Nat, k + kk = n2 ∧ s = .int .i64 (k : Int) ∧ OwnI W3.heap.size wr u (((List.range n2).map fun k => ofO D (k : Nat) n).take k) ∧ Below W3.heap.size W3 wr)
      case atStart => exact ⟨0, by omega, rfl, by rw [List.take_zero]; exact OwnW.nil _ _ _ _, Below.refl _ _⟩
      case round =>
        obtain ⟨k, hk, rfl, hu, hB⟩ := hrel
        obtain ⟨Au, Nu, cu, rfl⟩ := hu.formN
        obtain ⟨q0, q1, q2, q3⟩ := HBOX.out wr (HB3W.out.trans (hB.mono HB3W.out.size))
        by_cases hlt2 : k < n2
        · have hltI : (k : Int) < (n2 : Int) := by omega
          have hbk := HB3.out.fr (Fr.of_below hB) (by have := HB3.out.lt; omega)
          have hld := LDs_aggB uIdA iId hbk (off := 0) (bys D) HDL.out (by simp [List.take_of_length_le, HDL.out])
          have hbd2 := bdPt hD32 (k : Int)
          have hof := rmof_any D hD32 HDB.out (k : Int) n (by omega) hn wr
          rw [if_pos (okO_of HOK.out (by omega) (by omega))] at hof
          rw [HDS.out] at hld hbd2
          have htk : ((List.range n2).map fun k => ofO D (k : Nat) n).take (k + 1) = ((List.range n2).map fun k => ofO D (k : Nat) n).take k ++ [ofO D (k : Nat) n] := by
            rw [List.take_succ_eq_append_getElem (by simpa using hlt2)]; simp
          have htl : (((List.range n2).map fun k => ofO D (k : Nat) n).take k).length ≤ 16 := by simp; omega
          obtain ⟨ps, hps⟩ : ∃ ps, (ptL D (k : Int)).toArray = ps := ⟨_, rfl⟩
          obtain ⟨x, hx⟩ : ∃ x, ofO D (k : Int) n = x := ⟨_, rfl⟩
          rw [hps] at hof hbd2
          rw [hx] at hof htk
          have HU := Lib.hid hu
          have HB := Lib.hid hB
          have HTK := Lib.hid htk
          have HTL := Lib.hid htl
          clear hu hB htk htl hps hx hbk
          go_wp2_with fail
          with_reducible refine hof.mono ?_
          rintro e w6 ⟨rfl, hB6⟩
          obtain ⟨A', N', c', w7, hap, ho, hB7⟩ := appI (ty := 38) (OwnW.keep HU.out hB6) x (by have := HTL.out; omega) (Nat.le_trans HB.out.size hB6.size)
          rw [← HTK.out] at ho
          have HO := Lib.hid ho
          have HB7 := Lib.hid ((HB.out.trans (hB6.mono HB.out.size)).trans hB7)
          clear ho hB6 hB7 hof
          go_wp2_with fail
          go_roundg (n2 - (k + 1))
          case measure => omega
          case rel => exact ⟨k + 1, by omega, by go_num, HO.out, HB7.out⟩
        · obtain rfl : n2 = k := by omega
          have hltI : ¬ (n2 : Int) < (n2 : Int) := by omega
          rw [List.take_of_length_le (by simp)] at hu
          have HU := Lib.hid hu
          have HB := Lib.hid hB
          clear hu hB
          go_wp2_with fail
          go_ret
          exact ⟨_, rfl, OwnW.base HU.out (Nat.le_trans HB0.out.size HB3W.out.size), (HB0.out.trans (HB3W.out.mono HB0.out.size)).trans (HB.out.mono (Nat.le_trans HB0.out.size HB3W.out.size))⟩
  · have hins : insP t n = [] := by unfold insP; rw [if_neg (by rw [HR.out]; exact hok)]
    have houts : outsP t n = [] := by unfold outsP; rw [if_neg (by rw [HR.out]; exact hok)]
    rw [hins, houts, show (if b = true then ([] : List Int) else []) = [] by cases b <;> rfl]
    unfold txV at HW HCK ⊢
    clear hins houts
    by_cases hR0 : R = 0
    · subst hR0
      have hn' : n < 1 ∨ 64 < n := by
        have : ¬ okN n = true := fun h => hok ⟨rfl, h⟩
        simp only [okN, decide_eq_true_eq] at this
        omega
      clear hok
      by_cases hlo : n < 1
      · go_enter Tryd.func16, Tryd.ntmps16
        go_upto_region 1 with fail
        rw [HW.out, HG.out]
        go_wp2_with fail
        with_reducible refine HCK.out.mono ?_
        rintro e w1 ⟨rfl, hB1⟩
        have HB1 := Lib.hid (HB0.out.trans (hB1.mono HB0.out.size))
        clear hB1
        go_wp2_with fail
        go_ret
        exact ⟨_, rfl, OwnW.nil _ _ _ _, HB1.out⟩
      · have hhi : 64 < n := by omega
        go_enter Tryd.func16, Tryd.ntmps16
        go_upto_region 1 with fail
        rw [HW.out, HG.out]
        go_wp2_with fail
        with_reducible refine HCK.out.mono ?_
        rintro e w1 ⟨rfl, hB1⟩
        have HB1 := Lib.hid (HB0.out.trans (hB1.mono HB0.out.size))
        clear hB1
        go_wp2_with fail
        go_ret
        exact ⟨_, rfl, OwnW.nil _ _ _ _, HB1.out⟩
    · have hRb : (R != 0) = true := by simp [hR0]
      go_enter Tryd.func16, Tryd.ntmps16
      go_upto_region 1 with fail
      rw [HW.out, HG.out]
      go_wp2_with fail
      with_reducible refine HCK.out.mono ?_
      rintro e w1 ⟨rfl, hB1⟩
      have HB1 := Lib.hid (HB0.out.trans (hB1.mono HB0.out.size))
      clear hB1
      go_wp2_with fail
      go_ret
      exact ⟨_, rfl, OwnW.nil _ _ _ _, HB1.out⟩
end Go.Proofs.YtmflhidmhefljaaDoor
