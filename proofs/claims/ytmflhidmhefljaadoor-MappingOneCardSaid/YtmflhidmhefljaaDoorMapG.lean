/-
  mapping.spread.
-/
import Derived.Test.YtmflhidmhefljaaDoorMapF
import Derived.Test.YtmflhidmhefljaaDoorTxH
namespace Go.Proofs.YtmflhidmhefljaaDoor
open Go.RowKit Go.Shelf
set_option maxRecDepth 100000

/-- A struct of two fields. -/
theorem BDs_twoN {P : Program} {t : TypeId} {f0 f1 : Field} {n m : Nat} (hu : P.underlying t = some (.struct #[f0, f1]))
    (hz : ((P.info? t).bind (·.zero)).map (·.cells.size) = some (n + m)) (h0 : (P.info? f0.type).map (·.size) = some n) (h1 : (P.info? f1.type).map (·.size) = some m) (o0 : f0.offset = 0) (o1 : f1.offset = n)
    (w : World) (v0 v1 : Value) (hv0 : v0.cells.size = n) (hv1 : v1.cells.size = m) :
    (BDs t #[(0, v0), (1, v1)]).run P w = .ok (.agg (v0.cells ++ v1.cells)) w := by
  refine run_build w t _ _ ?_
  obtain ⟨z, hz1, hz2⟩ := Option.map_eq_some_iff.1 hz
  obtain ⟨i, hq, hz3⟩ := Option.bind_eq_some_iff.1 hz1
  obtain ⟨i0, q0, s0⟩ := Option.map_eq_some_iff.1 h0
  obtain ⟨i1, q1, s1⟩ := Option.map_eq_some_iff.1 h1
  unfold Program.built
  simp only [hq, hu, hz3, List.mapM_cons, List.mapM_nil, q0, q1, s0, s1, o0, o1, Option.map_some, Option.bind_eq_bind, Option.bind_some, Option.pure_def]
  rw [fill_one _ _ 0 0 n v0 _ (by simp) hv0 (by omega), fill_one _ _ 1 n m v1 _ (by simp) hv1 (by rw [size_splice _ _ _ (by simp [hv0]; omega)]; omega)]
  simp only [Instr.fill, Option.some.injEq]
  apply Array.ext'
  have l0 : v0.cells.toList.length = n := by simpa using hv0
  have l1 : v1.cells.toList.length = m := by simpa using hv1
  simp [splice, l0, l1, List.drop_append, hz2]
theorem bdPt_of (parts : Array (Nat × Value)) : Instr.build 25 parts = BDs 25 parts := rfl
theorem zPt : (((Tryd.prog.info? 25).bind (·.zero)).map (·.cells.size)) = some (32 + 1) := by kernel_rfl
theorem iIntS : (Tryd.prog.info? 3).map (·.size) = some 1 := by kernel_rfl
theorem bdPt {tx : List Int} (hl : tx.length = 32) (ix : Int) (w : World) : (BDs 25 #[(0, .agg (bys tx).toArray), (1, .int .i64 ix)]).run Tryd.prog w = .ok (.agg (ptL tx ix).toArray) w := by
  obtain ⟨f0, f1, hu, t0, t1, o0, o1, _, _⟩ := uPtS
  have := BDs_twoN (P := Tryd.prog) hu zPt (by rw [t0]; exact iId) (by rw [t1]; exact iIntS) o0 o1 w (.agg (bys tx).toArray) (.int .i64 ix) (by simp [Value.cells, bys_length, hl]) rfl
  rw [this]
  simp [Value.cells, ptL]
theorem zIdS : (((Tryd.prog.info? 23).bind (·.zero)).map (·.cells.size)) = some 32 := by kernel_rfl
attribute [local go_sem ↓] ldIn_of stIn_of alIn_of ldPt_of ld123 st123 al123 bdPt_of apI_of

theorem okO_of {ix n : Int} (h : okN n = true) (h0 : 0 ≤ ix) (h1 : ix ≤ 15) : okO ix n = true := by
  simp only [okN, decide_eq_true_eq] at h
  simp only [okO, decide_eq_true_eq]
  omega

/-- Are there shards of a transaction's parts? -/
def spreadB (t : TxD) (n : Int) : Bool := decide (checkP t = 0 ∧ okN n = true)

set_option maxHeartbeats 8000000 in
theorem spread_any (A1 : Option Addr) (c1 : Nat) (A2 : Option Addr) (c2 : Nat) (t : TxD) (n : Int) (hn : -9223372036854775808 ≤ n ∧ n ≤ 9223372036854775807) (w : World) (h : TxAt w A1 A2 t) (hgl : Glob w) (hl : t.ins.length ≤ 1000000) (hl2 : t.outs.length ≤ 1000000) :
    Calls Tryd.prog 26 #[.agg (txV A1 c1 A2 c2 t), .int .i64 n] w fun e w' => ∃ v u, e = .returned (.tuple #[v, u, .bool (spreadB t n)]) ∧ OwnI w.heap.size w' v (insP t n) ∧ OwnI w.heap.size w' u (outsP t n) ∧ Below w.heap.size w w' := by
  have b0 := Blk.new w 35 (txV A1 c1 A2 c2 t)
  have B0 : Below w.heap.size w (w.alloc (.cells (txV A1 c1 A2 c2 t) 35)) := (Below.refl _ w).alloc (Nat.le_refl _) _
  obtain ⟨W, hW⟩ : ∃ W, w.alloc (.cells (txV A1 c1 A2 c2 t) 35) = W := ⟨_, rfl⟩
  obtain ⟨g, hg⟩ : ∃ g, w.heap.size = g := ⟨_, rfl⟩
  rw [hW] at B0
  rw [hW, hg] at b0
  have hgW : g < W.heap.size := b0.lt
  have hT := h.below B0
  have hbox : ∀ X, Below W.heap.size W X → X.cell? ⟨g, 0, none⟩ = some (.slice A1 t.ins.length c1) ∧ X.cell? ⟨g, 1, none⟩ = some (.slice A2 t.outs.length c2) ∧ X.cell? ⟨g, 2, none⟩ = some (.int .u64 t.fee) ∧ X.cell? ⟨g, 3, none⟩ = some (.int .i64 t.exp) := fun X hX =>
    ⟨(hX.cell (p := ⟨g, 0, none⟩) hgW).trans (b0.cell 0), (hX.cell (p := ⟨g, 1, none⟩) hgW).trans (b0.cell 1), (hX.cell (p := ⟨g, 2, none⟩) hgW).trans (b0.cell 2), (hX.cell (p := ⟨g, 3, none⟩) hgW).trans (b0.cell 3)⟩
  obtain ⟨q0, q1, q2, q3⟩ := hbox W (Below.refl _ _)
  have hck := txcheck_any A1 c1 A2 c2 t W hT hl hl2
  have hid := fun X (hX : Below W.heap.size W X) => txid_any A1 c1 A2 c2 t X (hT.below hX) ((hgl.below B0).below hX) hl hl2
  have hglW := hgl.below B0
  have HW := Lib.hid hW
  have HG := Lib.hid hg
  have HB0 := Lib.hid B0
  have HBOX := Lib.hid hbox
  have HT := Lib.hid hT
  have HID := Lib.hid hid
  have HGL := Lib.hid hglW
  have HCK := Lib.hid hck
  clear hW hg B0 b0 h hbox hT hck hl hl2 hgW hid hglW hgl
  obtain ⟨R, hR⟩ : ∃ R, checkP t = R := ⟨_, rfl⟩
  rw [hR] at HCK
  have HR := Lib.hid hR
  clear hR
  by_cases hok : R = 0 ∧ okN n = true
  · obtain ⟨rfl, hokn⟩ := hok
    have hn1 : 1 ≤ n ∧ n ≤ 64 := by simpa [okN] using hokn
    have hlo : ¬ n < 1 := by omega
    have hhi : ¬ 64 < n := by omega
    have hins : insP t n = t.ins.map fun i => ofO i.tx i.ix n := by unfold insP; rw [if_pos ⟨HR.out, hokn⟩]
    have houts : outsP t n = (List.range t.outs.length).map fun k => ofO (idP t) (k : Nat) n := by unfold outsP; rw [if_pos ⟨HR.out, hokn⟩]
    have hsb : spreadB t n = true := by unfold spreadB; rw [decide_eq_true_eq]; exact ⟨HR.out, hokn⟩
    rw [hins, houts, hsb]
    clear hsb
    obtain ⟨hlong, _⟩ := checkP_ok HR.out
    obtain ⟨⟨hi1, hi2⟩, ⟨ho1, ho2⟩, _, hsec⟩ := longP_not hlong
    have hD32 : (idP t).length = 32 := idP_len t
    have hDb := idP_bd t
    obtain ⟨D, hD⟩ : ∃ D, idP t = D := ⟨_, rfl⟩
    rw [hD] at hD32 hDb HID
    rw [hD]
    clear hins houts hD
    obtain ⟨hins, houts, hbd⟩ := HT.out
    have hbi := hbd.ins
    obtain ⟨ins, outs, fee, exp⟩ := t
    simp only at hi1 hi2 ho1 ho2 hsec hins houts hbi
    obtain ⟨n1, hn1e⟩ : ∃ n, ins.length = n := ⟨_, rfl⟩
    obtain ⟨n2, hn2e⟩ : ∃ n, outs.length = n := ⟨_, rfl⟩
    obtain ⟨Z, hal, hst⟩ := alst (P := Tryd.prog) (t := 57) iIn zIn
    obtain ⟨Y, hbl, hsu⟩ := alst (P := Tryd.prog) (t := 23) iId zIdS
    unfold txV at HW HCK HID ⊢
    simp only [hn1e, hn2e] at HW HBOX HCK HID q0 q1 q2 q3 ⊢
    rw [hn1e] at hi1 hi2
    rw [hn2e] at ho1 ho2
    have HN1 := Lib.hid hn1e
    have HI := Lib.hid hins
    have HBI := Lib.hid hbi
    have HSEC := Lib.hid hsec
    have HST := Lib.hid hst
    have HSU := Lib.hid hsu
    have HDB := Lib.hid hDb
    have HOK := Lib.hid hokn
    clear hn1e hn2e hins houts hbi hsec hst hsu hlong hbd HT hDb HR hokn
    go_enter Tryd.func26, Tryd.ntmps26
    go_upto_region 1 with fail
    rw [HW.out, HG.out]
    go_wp2_with fail
    with_reducible refine HCK.out.mono ?_
    rintro e w1 ⟨rfl, hB1⟩
    have HB1 := Lib.hid hB1
    clear q0 q1 q2 q3
    obtain ⟨q0, q1, q2, q3⟩ := HBOX.out w1 hB1
    clear hB1
    go_upto_region 4 with fail
    clear q0 q1 q2 q3
    go_loopg [4, 8, 9, 10, 29] n1 (fun kk v _ _ _ s wr => ∃ i : Nat, i + kk = n1 ∧ s = .int .i64 (i : Int) ∧ OwnI W.heap.size wr v ((ins.map fun i => ofO i.tx i.ix n).take i) ∧ Below W.heap.size W wr)
    case atStart => exact ⟨0, by omega, rfl, by rw [List.take_zero]; exact OwnW.nil _ _ _ _, HB1.out⟩
    case round =>
      obtain ⟨i, hi, rfl, hv, hB⟩ := hrel
      obtain ⟨Av, Nv, cv, rfl⟩ := hv.formN
      by_cases hlt : i < n1
      · have hltI : (i : Int) < (n1 : Int) := by omega
        have hil : i < ins.length := by rw [HN1.out]; exact hlt
        obtain ⟨g', off, As, cs, rfl, hg', hat⟩ := HI.out.below hB i hil
        have hbdi := HBI.out _ (List.getElem_mem hil)
        have hIn := LDs_agg uIn iIn wr g' (off + i * 35) (inV ins[i] As cs) (inV_len hbdi _ _) hat.cell
        have hSt := HST.out wr (inV ins[i] As cs) (inV_len hbdi _ _) (inV_one _ _ _)
        have b5 := Blk.new wr 57 (inV ins[i] As cs).toArray
        have hPt := LDs_aggB uPt iPt b5 (off := 0) (ptL ins[i].tx ins[i].ix) (ptL_len hbdi.len _) (inV_pt hbdi As cs)
        have B5 := hB.alloc hB.size (.cells (inV ins[i] As cs).toArray 57)
        have hv5 : OwnI W.heap.size (wr.alloc (.cells (inV ins[i] As cs).toArray 57)) (.slice Av Nv cv) ((ins.map fun i => ofO i.tx i.ix n).take i) := OwnW.alloc hv _
        have htk : (ins.map fun i => ofO i.tx i.ix n).take (i + 1) = (ins.map fun i => ofO i.tx i.ix n).take i ++ [ofO ins[i].tx ins[i].ix n] := by
          rw [List.take_succ_eq_append_getElem (by simpa using hil)]; simp
        have htl : ((ins.map fun i => ofO i.tx i.ix n).take i).length ≤ 16 := by simp; omega
        obtain ⟨W5, hW5⟩ : ∃ W5, wr.alloc (.cells (inV ins[i] As cs).toArray 57) = W5 := ⟨_, rfl⟩
        rw [hW5] at hSt b5 hPt B5 hv5
        obtain ⟨d, hd⟩ : ∃ d, wr.heap.size = d := ⟨_, rfl⟩
        rw [hd] at hPt b5
        have hof := mof_any ins[i].tx hbdi.len hbdi.tx ins[i].ix n hbdi.ix hn W5 (HGL.out.below B5)
        obtain ⟨xs, hxs⟩ : ∃ xs, (inV ins[i] As cs).toArray = xs := ⟨_, rfl⟩
        obtain ⟨ps, hps⟩ : ∃ ps, (ptL ins[i].tx ins[i].ix).toArray = ps := ⟨_, rfl⟩
        obtain ⟨x, hx⟩ : ∃ x, ofO ins[i].tx ins[i].ix n = x := ⟨_, rfl⟩
        obtain ⟨bb, hbb⟩ : ∃ bb, okO ins[i].ix n = bb := ⟨_, rfl⟩
        rw [hxs] at hIn hSt
        rw [hps] at hPt hof
        rw [hx] at hof htk
        rw [hbb] at hof
        have HV5 := Lib.hid hv5
        have HB5 := Lib.hid B5
        have HD := Lib.hid hd
        have HTK := Lib.hid htk
        have HTL := Lib.hid htl
        clear hv hB hat hbdi b5 B5 hv5 htk htl hxs hps hx hbb hW5 hd
        go_upto_region 6 with fail
        rw [HD.out]
        go_wp2_with fail
        with_reducible refine hof.mono ?_
        rintro e w6 ⟨rfl, hB6⟩
        obtain ⟨A', N', c', w7, hap, ho, hB7⟩ := appI (ty := 38) (OwnW.keep HV5.out hB6) x (by have := HTL.out; omega) (Nat.le_trans HB5.out.size hB6.size)
        rw [← HTK.out] at ho
        have HO := Lib.hid ho
        have HB7 := Lib.hid ((HB5.out.trans (hB6.mono HB5.out.size)).trans hB7)
        clear ho hB6 hB7 hof
        go_wp2_with fail
        go_roundg (n1 - (i + 1))
        case measure => omega
        case rel => exact ⟨i + 1, by omega, by go_num, HO.out, HB7.out⟩
      · obtain rfl : n1 = i := by omega
        have hltI : ¬ (n1 : Int) < (n1 : Int) := by omega
        rw [List.take_of_length_le (by rw [List.length_map, HN1.out]; exact Nat.le_refl _)] at hv
        obtain ⟨q0, q1, q2, q3⟩ := HBOX.out wr hB
        have hidc := HID.out wr hB
        obtain ⟨wo, hwo⟩ : ∃ wo, wo = wr := ⟨_, rfl⟩
        subst hwo
        have HV := Lib.hid hv
        have HB := Lib.hid hB
        clear hv hB hal
        go_wp2_with fail
        with_reducible refine hidc.mono ?_
        rintro e w2 ⟨rfl, hB2⟩
        have hDl : (bys D).length = 32 := by rw [bys_length, hD32]
        have hSu := HSU.out w2 (bys D) hDl (bys_one _)
        have b3 := Blk.new w2 23 (bys D).toArray
        have B2W := HB.out.trans (hB2.mono HB.out.size)
        have B3 : Below w2.heap.size w2 (w2.alloc (.cells (bys D).toArray 23)) := (Below.refl _ w2).alloc (Nat.le_refl _) _
        have hv3 : OwnI W.heap.size (w2.alloc (.cells (bys D).toArray 23)) (.slice Av Nv cv) (ins.map fun i => ofO i.tx i.ix n) := OwnW.keep (OwnW.keep HV.out hB2) B3
        have B3W := B2W.trans (B3.mono B2W.size)
        obtain ⟨W3, hW3⟩ : ∃ W3, w2.alloc (.cells (bys D).toArray 23) = W3 := ⟨_, rfl⟩
        rw [hW3] at hSu b3 B3 hv3 B3W
        obtain ⟨dd, hdd⟩ : ∃ dd, w2.heap.size = dd := ⟨_, rfl⟩
        rw [hdd] at b3
        obtain ⟨q0a, q1a, q2a, q3a⟩ := HBOX.out W3 B3W
        obtain ⟨ds, hds⟩ : ∃ ds, (bys D).toArray = ds := ⟨_, rfl⟩
        rw [hds] at hSu
        have HDS := Lib.hid hds
        have HDD := Lib.hid hdd
        have HB3 := Lib.hid b3
        have HB3W := Lib.hid B3W
        have HV3 := Lib.hid hv3
        have HDL := Lib.hid hDl
        clear b3 B2W B3 hv3 B3W hB2 hidc HV HB hW3 hDl hds hdd q0 q1 q2 q3
        rw [HDS.out]
        go_upto_region 11 with fail
        rw [HDD.out]
        clear q0a q1a q2a q3a hbl
        go_loopg [5, 12, 13, 14, 50] n2 (fun kk u _ _ _ s wr => ∃ k : Nat, k + kk = n2 ∧ s = .int .i64 (k : Int) ∧ OwnI W3.heap.size wr u (((List.range n2).map fun k => ofO D (k : Nat) n).take k) ∧ Below W3.heap.size W3 wr)
        case atStart => exact ⟨0, by omega, rfl, by rw [List.take_zero]; exact OwnW.nil _ _ _ _, Below.refl _ _⟩
        case round =>
          obtain ⟨k, hk, rfl, hu, hB⟩ := hrel
          obtain ⟨Au, Nu, cu, rfl⟩ := hu.formN
          by_cases hlt2 : k < n2
          · have hltI : (k : Int) < (n2 : Int) := by omega
            have hbk := HB3.out.fr (Fr.of_below hB) (by have := HB3.out.lt; omega)
            have hld := LDs_aggB uIdA iId hbk (off := 0) (bys D) HDL.out (by simp [List.take_of_length_le, HDL.out])
            have hbd2 := bdPt hD32 (k : Int)
            have hof := mof_any D hD32 HDB.out (k : Int) n (by omega) hn wr (HGL.out.below (HB3W.out.trans (hB.mono HB3W.out.size)))
            rw [HDS.out] at hld hbd2
            have htk : ((List.range n2).map fun k => ofO D (k : Nat) n).take (k + 1) = ((List.range n2).map fun k => ofO D (k : Nat) n).take k ++ [ofO D (k : Nat) n] := by
              rw [List.take_succ_eq_append_getElem (by simpa using hlt2)]; simp
            have htl : (((List.range n2).map fun k => ofO D (k : Nat) n).take k).length ≤ 16 := by simp; omega
            obtain ⟨ps, hps⟩ : ∃ ps, (ptL D (k : Int)).toArray = ps := ⟨_, rfl⟩
            obtain ⟨x, hx⟩ : ∃ x, ofO D (k : Int) n = x := ⟨_, rfl⟩
            obtain ⟨bb, hbb⟩ : ∃ bb, okO (k : Int) n = bb := ⟨_, rfl⟩
            rw [hps] at hof hbd2
            rw [hx] at hof htk
            rw [hbb] at hof
            have HU := Lib.hid hu
            have HB := Lib.hid hB
            have HTK := Lib.hid htk
            have HTL := Lib.hid htl
            clear hu hB htk htl hps hx hbb hbk
            go_wp2_with fail
            with_reducible refine hof.mono ?_
            rintro e w6 ⟨rfl, hB6⟩
            obtain ⟨A', N', c', w7, hap, ho, hB7⟩ := appI (ty := 38) (OwnW.keep HU.out hB6) x (by have := HTL.out; omega) (Nat.le_trans HB.out.size hB6.size)
            rw [← HTK.out] at ho
            have HO := Lib.hid ho
            have HB7 := Lib.hid ((HB.out.trans (hB6.mono HB.out.size)).trans hB7)
            clear ho hB6 hB7 hof
            go_wp2_with fail
            go_roundg (n2 - (k + 1))
            case measure => omega
            case rel => exact ⟨k + 1, by omega, by go_num, HO.out, HB7.out⟩
          · obtain rfl : n2 = k := by omega
            have hltI : ¬ (n2 : Int) < (n2 : Int) := by omega
            rw [List.take_of_length_le (by simp)] at hu
            have HU := Lib.hid hu
            have HB := Lib.hid hB
            clear hu hB
            go_wp2_with fail
            go_ret3
            exact ⟨_, _, rfl, (OwnW.keep HV3.out HB.out).base HB0.out.size, HU.out.base (Nat.le_trans HB0.out.size HB3W.out.size), (HB0.out.trans (HB3W.out.mono HB0.out.size)).trans (HB.out.mono (Nat.le_trans HB0.out.size HB3W.out.size))⟩
  · have hins : insP t n = [] := by unfold insP; rw [if_neg (by rw [HR.out]; exact hok)]
    have houts : outsP t n = [] := by unfold outsP; rw [if_neg (by rw [HR.out]; exact hok)]
    have hsb : spreadB t n = false := by unfold spreadB; rw [decide_eq_false_iff_not, HR.out]; exact hok
    rw [hins, houts, hsb]
    unfold txV at HW HCK ⊢
    clear hins houts hsb
    by_cases hR0 : R = 0
    · subst hR0
      have hn' : n < 1 ∨ 64 < n := by
        have : ¬ okN n = true := fun h => hok ⟨rfl, h⟩
        simp only [okN, decide_eq_true_eq] at this
        omega
      clear hok
      by_cases hlo : n < 1
      · go_enter Tryd.func26, Tryd.ntmps26
        go_upto_region 1 with fail
        rw [HW.out, HG.out]
        go_wp2_with fail
        with_reducible refine HCK.out.mono ?_
        rintro e w1 ⟨rfl, hB1⟩
        have HB1 := Lib.hid (HB0.out.trans (hB1.mono HB0.out.size))
        clear hB1
        go_wp2_with fail
        go_ret3
        exact ⟨_, _, rfl, OwnW.nil _ _ _ _, OwnW.nil _ _ _ _, HB1.out⟩
      · have hhi : 64 < n := by omega
        go_enter Tryd.func26, Tryd.ntmps26
        go_upto_region 1 with fail
        rw [HW.out, HG.out]
        go_wp2_with fail
        with_reducible refine HCK.out.mono ?_
        rintro e w1 ⟨rfl, hB1⟩
        have HB1 := Lib.hid (HB0.out.trans (hB1.mono HB0.out.size))
        clear hB1
        go_wp2_with fail
        go_ret3
        exact ⟨_, _, rfl, OwnW.nil _ _ _ _, OwnW.nil _ _ _ _, HB1.out⟩
    · go_enter Tryd.func26, Tryd.ntmps26
      go_upto_region 1 with fail
      rw [HW.out, HG.out]
      go_wp2_with fail
      with_reducible refine HCK.out.mono ?_
      rintro e w1 ⟨rfl, hB1⟩
      have HB1 := Lib.hid (HB0.out.trans (hB1.mono HB0.out.size))
      clear hB1
      go_wp2_with fail
      go_ret3
      exact ⟨_, _, rfl, OwnW.nil _ _ _ _, OwnW.nil _ _ _ _, HB1.out⟩
end Go.Proofs.YtmflhidmhefljaaDoor
