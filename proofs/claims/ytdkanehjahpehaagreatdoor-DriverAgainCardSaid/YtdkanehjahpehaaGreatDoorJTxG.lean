/-
  field.Pen.Id.
  tx.Put.
  tx.Id.
-/
import Derived.Test.YtdkanehjahpehaaGreatDoorJTxA
import Derived.Test.YtdkanehjahpehaaGreatDoorJPen

section
namespace Go.Proofs.YtdkanehjahpehaaGreatDoor
open Go.RowKit Go.Shelf
set_option maxRecDepth 100000
attribute [local go_sem ↓] ap22_of SLs_of

set_option maxHeartbeats 4000000 in
theorem penid_any (B p : Nat) (v : Value) (l : List Int) (d : List Int) (hd : d.length = 32) (hdb : ∀ x ∈ d, 0 ≤ x ∧ x ≤ 255) (w : World) (h : IsPen B w p v l) (hl : l.length ≤ 500000000) (hB : B ≤ w.heap.size) :
    Calls Tryz.prog 63 #[.pointer (some ⟨p, 0, none⟩), .agg (bys d).toArray] w fun e w' => e = .returned (.tuple #[]) ∧ (∃ v', IsPen B w' p v' (l ++ d) ∧ Foot w v v') ∧ Fr (fun k => k = p ∨ v.ownBlock = some k) w w' := by
  have b0 := Blk.new w 48 (bys d).toArray
  have f0 : Fr (fun k => k = p ∨ v.ownBlock = some k) w (w.alloc (.cells (bys d).toArray 48)) := (Fr.refl _ w).alloc _
  have s0 := h.st.alloc (.cells (bys d).toArray 48)
  have o0 : Own8 B (w.alloc (.cells (bys d).toArray 48)) v l := World.ownsRow.alloc h.own _
  obtain ⟨W, hW⟩ : ∃ W, w.alloc (.cells (bys d).toArray 48) = W := ⟨_, rfl⟩
  obtain ⟨g, hg⟩ : ∃ g, w.heap.size = g := ⟨_, rfl⟩
  rw [hW] at f0 s0 o0
  rw [hW, hg] at b0
  have hby := (b0.drew).byt hdb
  have hsl : ∀ X, (SLs 48 (.pointer (some ⟨g, 0, none⟩)) none none none).run Tryz.prog X = .ok (.slice (some ⟨g, 0, none⟩) 32 32) X := fun X => SLs_all (P := Tryz.prog) uId (by kernel_rfl) X g (by omega)
  have oD : Own8 B W.drew v l := o0
  obtain ⟨v2, w2, hap, ho2, hf2, hft2⟩ := app8 (ty := 28) (c := 32) oD hby (by omega) (Nat.le_trans hB f0.size) (by simp)
  rw [hd] at hap
  obtain ⟨A1, c1, hv1⟩ := o0.form
  obtain ⟨A2, c2, rfl⟩ := ho2.form
  have hne := own8_ne o0 s0 (by decide)
  have hst2 := (s0.drew).fr hf2 (fun e => hne e)
  obtain ⟨N1, hN1⟩ : ∃ N1, l.length = N1 := ⟨_, rfl⟩
  obtain ⟨N2, hN2⟩ : ∃ N2, (l ++ d).length = N2 := ⟨_, rfl⟩
  rw [hN1] at hv1
  subst hv1
  rw [hN2] at hap ho2
  have k1 : W.cell? ⟨p, 0, none⟩ = some (.slice A1 N1 c1) := s0.cell 0
  have k2 : w2.cell? ⟨p, 0, none⟩ = some (.slice A1 N1 c1) := hst2.cell 0
  have f2 := hst2.frozen 0
  have O2 := Lib.hid ho2
  have F0 := Lib.hid f0
  have F2 := Lib.hid hf2
  have FT2 := Lib.hid hft2
  have S2 := Lib.hid hst2
  have H := Lib.hid h
  have HW := Lib.hid hW
  have HG := Lib.hid hg
  clear b0 f0 s0 o0 oD hW hg hby ho2 hf2 hft2 hst2 hne hN1 hN2 h
  go_enter Tryz.func63, Tryz.ntmps63
  go_upto_region 1 with fail
  rw [HW.out, HG.out]
  obtain ⟨wd, hwd⟩ : ∃ wd, W.drew = wd := ⟨_, rfl⟩
  refine wp_txJ [3, 3, 3, 3, 0, 3, 2, 3, 3, 2] (fun W' => W' = wd) (by kernel_rfl) (by kernel_rfl) (by kernel_rfl) (by kernel_rfl) hwd ?_
  have k1d : wd.cell? ⟨p, 0, none⟩ = some (.slice A1 N1 c1) := by rw [← hwd]; exact k1
  rw [hwd] at hap ⊢
  iterate 4 (with_reducible refine wpTxJ_evN (v := ?_) (a' := ?_) (by with_unfolding_all rfl) (fun W' => ?_) ?_ ?_; rotate_left 2; (focus (go_simp <;> with_reducible rfl)); focus (go_simp <;> with_reducible rfl))
  iterate 1 (with_reducible refine wpTxJ_takeN (v := ?_) (a' := ?_) (by with_unfolding_all rfl) (fun W' hS => ?_) ?_ ?_; rotate_left 2; (focus (subst hS; go_simp <;> with_reducible rfl)); focus (go_simp <;> with_reducible rfl))
  iterate 1 (with_reducible refine wpTxJ_evN (v := ?_) (a' := ?_) (by with_unfolding_all rfl) (fun W' => ?_) ?_ ?_; rotate_left 2; (focus (go_simp <;> with_reducible rfl)); focus (go_simp <;> with_reducible rfl))
  with_reducible refine wpTxJ_last (by with_unfolding_all rfl) (fun K hK => ?_)
  go_simp
  with_reducible refine hK _ _ ?_
  clear hK K
  iterate 2 (with_reducible refine wpTxJ_evN (v := ?_) (a' := ?_) (by with_unfolding_all rfl) (fun W' => ?_) ?_ ?_; rotate_left 2; (focus (go_simp <;> with_reducible rfl)); focus (go_simp <;> with_reducible rfl))
  with_reducible refine wpTxJ_last (by with_unfolding_all rfl) (fun K hK => ?_)
  go_simp
  with_reducible refine hK _ _ ?_
  clear hK K
  with_reducible refine wpTxJ_nil ?_
  rw [noPan_normal]
  go_wp2_with fail
  go_end0
  have hnp := own8_ne O2.out S2.out (by decide)
  have F2' : Fr (fun k => (Value.slice A1 N1 c1).ownBlock = some k) W w2 := ⟨F2.out.os, F2.out.tape, F2.out.output, F2.out.size, F2.out.block⟩
  refine ⟨rfl, ⟨.slice A2 N2 c2, ⟨by simpa using S2.out.set_ 0 (.slice A2 N2 c2), H.out.b1, ?_⟩, ?_⟩, ?_⟩
  · exact O2.out.fr (F := fun j => j = p) ((Fr.refl (fun j => j = p) w2).setCell (p := ⟨p, 0, none⟩) (fun _ => rfl) (.slice A2 N2 c2)) (fun j hj e => hnp (e ▸ hj))
  · intro j hj
    rcases FT2.out j ((own_sl A2 _ _ _ _).trans hj) with h | h
    · exact .inl h
    · exact .inr (Nat.le_trans F0.out.size h)
  · refine (F0.out.trans (F2'.mono (G := fun j => j = p ∨ (Value.slice A1 N1 c1).ownBlock = some j) (fun j _ h => .inr h)) (fun j hj h => h)).setCell (p := ⟨p, 0, none⟩) (fun _ => .inl rfl) _
end Go.Proofs.YtdkanehjahpehaaGreatDoor
end

section
namespace Go.Proofs.YtdkanehjahpehaaGreatDoor
open Go.RowKit Go.Shelf
set_option maxRecDepth 100000
theorem ldId_of (v : Value) : Instr.loadAt 48 v = LDs 48 v := rfl
theorem uIdA : (Tryz.prog.underlying 48).map isAggD = some true := by kernel_rfl
theorem iId : (Tryz.prog.info? 48).map (·.size) = some 32 := by kernel_rfl
attribute [local go_sem ↓] ldIn_of stIn_of alIn_of ldOut_of stOut_of alOut_of ldId_of

/-- Another block than the pen's is kept. -/
theorem pen_keep {p d : Nat} {w w' : World} {v v' : Value} {t : TypeId} {cs : Array Value} (hdp : d ≠ p) (hdv : v.ownBlock ≠ some d) (hb : Blk w d t cs) (hft : Foot w v v') (hf : Fr (fun k => k = p ∨ v.ownBlock = some k) w w') :
    Blk w' d t cs ∧ v'.ownBlock ≠ some d := by
  refine ⟨hb.fr hf (fun h => h.elim hdp hdv), fun e => ?_⟩
  rcases hft d e with h | h
  · exact hdv h
  · have := hb.lt
    omega
theorem pen_below {B p : Nat} {w w' : World} {v : Value} {l : List Int} (h : IsPen B w p v l) (hf : Fr (fun k => k = p ∨ v.ownBlock = some k) w w') (hB : B ≤ w.heap.size) : Below B w w' :=
  hf.below hB (fun k hk e => by
    rcases e with e | e
    · have := h.b1; omega
    · have := (h.own.lt e).1; omega)
theorem inV_tx {i : InD} (h : i.Bd) (A : Option Addr) (c : Nat) : ((inV i A c).toArray.toList.drop 0).take 32 = bys i.tx := by
  simp only [List.drop_zero]
  unfold inV ptL
  rw [List.append_assoc, List.take_append_of_le_length (by rw [bys_length, h.len]; omega), List.take_of_length_le (by rw [bys_length, h.len]; omega)]
theorem outV_ow {o : OutD} (h : o.Bd) : ((outV o).toArray.toList.drop 0).take 32 = bys o.ow := by
  simp only [List.drop_zero]
  unfold outV
  rw [List.take_append_of_le_length (by rw [bys_length, h.len]; omega), List.take_of_length_le (by rw [bys_length, h.len]; omega)]
theorem inV_ixA {i : InD} (h : i.Bd) (A : Option Addr) (c : Nat) : (inV i A c).toArray[32]? = some (.int .i64 i.ix) := by
  simp [inV, ptL, bys_length, h.len]
theorem inV_secA {i : InD} (h : i.Bd) (A : Option Addr) (c : Nat) : (inV i A c).toArray[34]? = some (.slice A i.sec.length c) := by
  simp [inV, ptL, bys_length, h.len]
theorem nat_of {x : Int} (h : 0 ≤ x) : ∃ n : Nat, x = (n : Int) := ⟨x.toNat, by omega⟩

set_option maxHeartbeats 8000000 in
theorem txput_any (A1 : Option Addr) (c1 : Nat) (A2 : Option Addr) (c2 : Nat) (t : TxD) (w : World) (h : TxAt w A1 A2 t) (hl : t.ins.length ≤ 1000000) (hl2 : t.outs.length ≤ 1000000) :
    Calls Tryz.prog 27 #[.agg (txV A1 c1 A2 c2 t)] w fun e w' => ∃ v, e = .returned (.tuple #[v, .int .i64 (checkP t)]) ∧ Own8 w.heap.size w' v (putP t) ∧ Below w.heap.size w w' := by
  have b0 := Blk.new w 26 (txV A1 c1 A2 c2 t)
  have B0 : Below w.heap.size w (w.alloc (.cells (txV A1 c1 A2 c2 t) 26)) := (Below.refl _ w).alloc (Nat.le_refl _) _
  obtain ⟨W, hW⟩ : ∃ W, w.alloc (.cells (txV A1 c1 A2 c2 t) 26) = W := ⟨_, rfl⟩
  obtain ⟨g, hg⟩ : ∃ g, w.heap.size = g := ⟨_, rfl⟩
  rw [hW] at B0
  rw [hW, hg] at b0
  have hgW : g < W.heap.size := b0.lt
  have hT := h.below B0
  have hbox : ∀ X, Below W.heap.size W X → X.cell? ⟨g, 0, none⟩ = some (.slice A1 t.ins.length c1) ∧ X.cell? ⟨g, 1, none⟩ = some (.slice A2 t.outs.length c2) ∧ X.cell? ⟨g, 2, none⟩ = some (.int .u64 t.fee) ∧ X.cell? ⟨g, 3, none⟩ = some (.int .i64 t.exp) := fun X hX =>
    ⟨(hX.cell (p := ⟨g, 0, none⟩) hgW).trans (b0.cell 0), (hX.cell (p := ⟨g, 1, none⟩) hgW).trans (b0.cell 1), (hX.cell (p := ⟨g, 2, none⟩) hgW).trans (b0.cell 2), (hX.cell (p := ⟨g, 3, none⟩) hgW).trans (b0.cell 3)⟩
  have hck := txcheck_any A1 c1 A2 c2 t W hT hl hl2
  obtain ⟨R, hR⟩ : ∃ R, checkP t = R := ⟨_, rfl⟩
  rw [hR] at hck ⊢
  have HW := Lib.hid hW
  have HG := Lib.hid hg
  have HB0 := Lib.hid B0
  have HBOX := Lib.hid hbox
  have HT := Lib.hid hT
  have HCK := Lib.hid hck
  have HR := Lib.hid hR
  clear hW hg B0 b0 hbox hT hck hR hl hl2 hgW
  by_cases hR0 : R = 0
  · subst hR0
    have hput : putP t = formTx t := by unfold putP; rw [if_pos HR.out]
    rw [hput]
    obtain ⟨hlong, _⟩ := checkP_ok HR.out
    obtain ⟨⟨hi1, hi2⟩, ⟨ho1, ho2⟩, ⟨he1, he2⟩, hsec⟩ := longP_not hlong
    obtain ⟨hins, houts, hbd⟩ := HT.out
    obtain ⟨ins, outs, fee, exp⟩ := t
    simp only at hi1 hi2 ho1 ho2 he1 he2 hsec hins houts hbd
    have hfl := formTx_len hbd hlong
    have hfb := formTx_bd hbd hlong
    have hbi := hbd.ins
    have hbo := hbd.outs
    have hbf := hbd.fee
    simp only at hbi hbo hbf
    obtain ⟨nf, rfl⟩ := nat_of hbf.1
    obtain ⟨ne, rfl⟩ := nat_of he1
    obtain ⟨n1, hn1⟩ : ∃ n, ins.length = n := ⟨_, rfl⟩
    obtain ⟨n2, hn2⟩ : ∃ n, outs.length = n := ⟨_, rfl⟩
    have hform : formTx ⟨ins, outs, (nf : Int), (ne : Int)⟩ = numP n1 ++ ins.flatMap inF ++ numP n2 ++ outs.flatMap outF ++ numP nf ++ numP ne := by
      unfold formTx
      simp only [hn1, hn2, Int.toNat_natCast]
    rw [hform] at hfl hfb ⊢
    rw [hn1] at hi1 hi2
    rw [hn2] at ho1 ho2
    have wn1 : IntKind.u64.wrap (n1 : Int) = n1 := by rw [IntKind.wrap_u64]; omega
    have wn2 : IntKind.u64.wrap (n2 : Int) = n2 := by rw [IntKind.wrap_u64]; omega
    have wne : IntKind.u64.wrap (ne : Int) = ne := by rw [IntKind.wrap_u64]; omega
    obtain ⟨Z, hal, hst⟩ := alst (P := Tryz.prog) (t := 77) iIn zIn
    obtain ⟨Y, hbl, hsu⟩ := alst (P := Tryz.prog) (t := 80) iOut zOut
    unfold txV at HW HCK ⊢
    simp only [hn1, hn2] at HW HBOX HCK ⊢
    have HN1 := Lib.hid hn1
    have HN2 := Lib.hid hn2
    have HI := Lib.hid hins
    have HO := Lib.hid houts
    have HBI := Lib.hid hbi
    have HBO := Lib.hid hbo
    have HFL := Lib.hid hfl
    have HFB := Lib.hid hfb
    have HSEC := Lib.hid hsec
    have HST := Lib.hid hst
    have HSU := Lib.hid hsu
    clear hn1 hn2 hins houts hbi hbo hfl hfb hsec hst hsu hput hlong h hbd HT hform
    obtain ⟨q0, q1, q2, q3⟩ := HBOX.out W (Below.refl _ _)
    go_enter Tryz.func27, Tryz.ntmps27
    go_upto_region 1 with fail
    rw [HW.out, HG.out]
    go_wp2_with fail
    with_reducible refine HCK.out.mono ?_
    rintro e w1 ⟨rfl, hB1⟩
    have HB1 := Lib.hid hB1
    clear hB1 q0 q1 q2 q3
    have hp0 : IsPen w1.heap.size (w1.alloc (.cells #[.slice none 0 0] 139)) w1.heap.size (.slice none 0 0) [] := ⟨Blk.new w1 _ _, Nat.le_refl _, Own8.nil _ _⟩
    have hB2 : Below w1.heap.size w1 (w1.alloc (.cells #[.slice none 0 0] 139)) := (Below.refl _ w1).alloc (Nat.le_refl _) _
    obtain ⟨w2, hw2⟩ : ∃ w2, w1.alloc (.cells #[.slice none 0 0] 139) = w2 := ⟨_, rfl⟩
    obtain ⟨p, hp⟩ : ∃ p, w1.heap.size = p := ⟨_, rfl⟩
    rw [hw2] at hp0 hB2
    rw [hp] at hp0 hB2
    have hpw : p ≤ w2.heap.size := by rw [← hp]; exact hB2.size
    have hWp : W.heap.size ≤ p := by rw [← hp]; exact HB1.out.size
    have hw2B : Below W.heap.size W w2 := HB1.out.trans (hB2.mono hWp)
    obtain ⟨q0, q1, q2, q3⟩ := HBOX.out w2 hw2B
    have hnum := num_any p p (.slice none 0 0) [] n1 (by omega) w2 hp0 (by simp) hpw
    have HW2 := Lib.hid hw2
    have HP := Lib.hid hp
    have HW2B := Lib.hid hw2B
    have HWP := Lib.hid hWp
    have HP0 := Lib.hid hp0
    clear hw2 hp hp0 hB2 hw2B hWp
    go_upto_region 5 with fail
    rw [HW2.out, HP.out]
    go_wp2_with fail
    with_reducible refine hnum.mono ?_
    rintro e w3 ⟨rfl, ⟨v3, hp3, hft3⟩, hf3⟩
    rw [List.nil_append] at hp3
    have hB3 := pen_below HP0.out hf3 hpw
    have hB3W := HW2B.out.trans (hB3.mono (Nat.le_trans HWP.out (Nat.le_refl _)))
    obtain ⟨q0, q1, q2, q3⟩ := HBOX.out w3 hB3W
    have hpw3 : p ≤ w3.heap.size := Nat.le_trans hpw hB3.size
    have HP3 := Lib.hid hp3
    have HB3 := Lib.hid hB3W
    clear hp3 hft3 hf3 hB3 hB3W hnum
    go_upto_region 7 with fail
    have hpl : ∀ i, i ≤ n1 → (numP n1 ++ (ins.take i).flatMap inF).length ≤ 2000 := fun i hi => by
      have h1 := flat_le inF 123 (ins.take i) (fun x hx => inF_len (HBI.out x (List.mem_of_mem_take hx)) (HSEC.out x (List.mem_of_mem_take hx)).1 (HSEC.out x (List.mem_of_mem_take hx)).2)
      have h2 := numP_le (n := n1) (by omega)
      have h3 : (ins.take i).length * 123 ≤ 16 * 123 := Nat.mul_le_mul_right _ (by rw [List.length_take]; omega)
      simp only [List.length_append]
      omega
    have HPL := Lib.hid hpl
    clear hpl q0 q1 q2 q3
    go_loopg [7, 23] n1 (fun kk _ s wr => ∃ (i : Nat) (v : Value), i + kk = n1 ∧ s = .int .i64 (i : Int) ∧ IsPen p wr p v (numP n1 ++ (ins.take i).flatMap inF) ∧ Below W.heap.size W wr ∧ p ≤ wr.heap.size)
    case atStart => exact ⟨0, v3, by omega, rfl, by simpa using HP3.out, HB3.out, hpw3⟩
    case round =>
      obtain ⟨i, v, hi, rfl, hpen, hB, hpr⟩ := hrel
      by_cases hlt : i < n1
      · have hltI : (i : Int) < (n1 : Int) := by omega
        have hil : i < ins.length := by rw [HN1.out]; exact hlt
        obtain ⟨g', off, As, cs, rfl, hg', hat0⟩ := HI.out i hil
        have hat := hat0.below hg' hB
        have hbdi := HBI.out _ (List.getElem_mem hil)
        obtain ⟨hs64, hx0, hx15⟩ := HSEC.out _ (List.getElem_mem hil)
        have hIn := LDs_agg uIn iIn wr g' (off + i * 35) (inV ins[i] As cs) (inV_len hbdi _ _) hat.cell
        have hSt := HST.out wr (inV ins[i] As cs) (inV_len hbdi _ _) (inV_one _ _ _)
        have b5 := Blk.new wr 77 (inV ins[i] As cs).toArray
        have B5 := hB.alloc hB.size (.cells (inV ins[i] As cs).toArray 77)
        have hp5 : IsPen p (wr.alloc (.cells (inV ins[i] As cs).toArray 77)) p v (numP n1 ++ (ins.take i).flatMap inF) := ⟨hpen.st.alloc _, hpen.b1, World.ownsRow.alloc hpen.own _⟩
        have hdp : wr.heap.size ≠ p := fun e => by have := hpen.st.lt; omega
        have hdv : v.ownBlock ≠ some wr.heap.size := fun e => by have := (hpen.own.lt e).2; omega
        have hid := LDs_aggB uIdA iId b5 (off := 0) (bys ins[i].tx) (by rw [bys_length, hbdi.len]) (inV_tx hbdi As cs)
        have hpw5 : p ≤ (wr.alloc (.cells (inV ins[i] As cs).toArray 77)).heap.size := by simp; omega
        obtain ⟨W5, hW5⟩ : ∃ W5, wr.alloc (.cells (inV ins[i] As cs).toArray 77) = W5 := ⟨_, rfl⟩
        rw [hW5] at hSt b5 B5 hp5 hid hpw5
        obtain ⟨d, hd⟩ : ∃ d, wr.heap.size = d := ⟨_, rfl⟩
        rw [hd] at b5 hdp hdv hid
        have htk : (ins.take (i + 1)).flatMap inF = (ins.take i).flatMap inF ++ inF ins[i] := by
          rw [List.take_succ_eq_append_getElem hil, List.flatMap_append]; simp
        obtain ⟨nx, hnx⟩ := nat_of hx0
        obtain ⟨na, hna⟩ := nat_of hbdi.am.1
        have wnx : IntKind.u64.wrap (nx : Int) = nx := by rw [IntKind.wrap_u64]; omega
        have hnx2 : nx < 18446744073709551616 := by omega
        have hna2 : na < 18446744073709551616 := by have := hbdi.am; omega
        have hLL := HPL.out i (by omega)
        have hF : inF ins[i] = ins[i].tx ++ (numP nx ++ (numP na ++ (numP ins[i].sec.length ++ ins[i].sec))) := by
          unfold inF
          rw [hnx, hna, Int.toNat_natCast, Int.toNat_natCast]
        obtain ⟨l0, hl0⟩ : ∃ l0, numP n1 ++ (ins.take i).flatMap inF = l0 := ⟨_, rfl⟩
        rw [hl0] at hp5 hLL
        have hlen32 := hbdi.len
        have hxl := numP_le (n := nx) (by omega)
        have hal2 := numP_le (n := na) hna2
        have hfin : numP n1 ++ (ins.take (i + 1)).flatMap inF = l0 ++ ins[i].tx ++ numP nx ++ numP na ++ (numP ins[i].sec.length ++ ins[i].sec) := by
          rw [htk, ← List.append_assoc, hl0, hF]
          simp only [List.append_assoc]
        have i32 := inV_ixA hbdi As cs
        have i33 := inV_am hbdi As cs
        have i34 := inV_secA hbdi As cs
        rw [hnx] at i32
        rw [hna] at i33
        have htxb := hbdi.tx
        have hbsec := hat0.sec
        have hcap0 := hat0.nul
        obtain ⟨tx, htx⟩ : ∃ tx, ins[i].tx = tx := ⟨_, rfl⟩
        obtain ⟨sec, hsec⟩ : ∃ sec, ins[i].sec = sec := ⟨_, rfl⟩
        obtain ⟨xs, hxs⟩ : ∃ xs, (inV ins[i] As cs).toArray = xs := ⟨_, rfl⟩
        rw [hxs] at hIn hSt b5 i32 i33 i34
        rw [htx] at hid hlen32 hfin htxb
        rw [hsec] at hfin i34 hbsec hs64
        obtain ⟨sl, hsl⟩ : ∃ sl, sec.length = sl := ⟨_, rfl⟩
        have c1 := penid_any p p v l0 tx hlen32 htxb W5 hp5 (by omega) hpw5
        have HW5 := Lib.hid hW5
        have HD := Lib.hid hd
        have HFIN := Lib.hid hfin
        have HP5 := Lib.hid hp5
        have HB5 := Lib.hid B5
        have HBK := Lib.hid b5
        have HSE := Lib.hid hbsec
        have HSL := Lib.hid hsl
        clear hpen hB hat0 hat hbdi hx0 hx15 hxs htx hsec hnx hna hF hl0 htk hW5 hd hfin hp5 B5 b5 hbsec htxb hsl
        go_upto_region 9 with fail
        rw [HD.out]
        go_wp2_with fail
        with_reducible refine c1.mono ?_
        rintro e w6 ⟨rfl, ⟨v6, hp6, hft6⟩, hf6⟩
        obtain ⟨k6, hdv6⟩ := pen_keep hdp hdv HBK.out hft6 hf6
        have hB6 := pen_below HP5.out hf6 hpw5
        have hpw6 : p ≤ w6.heap.size := Nat.le_trans hpw5 hB6.size
        have q32 : w6.cell? ⟨d, 32, none⟩ = some (.int .i64 (nx : Int)) := (k6.cell 32).trans i32
        have HP6 := Lib.hid hp6
        have HK6 := Lib.hid k6
        have HB6 := Lib.hid (HB5.out.trans (hB6.mono (Nat.le_trans HWP.out (Nat.le_refl _))))
        have c2 := num_any p p v6 (l0 ++ tx) nx hnx2 w6 hp6 (by simp only [List.length_append]; omega) hpw6
        clear hp6 hft6 hf6 k6 hB6 c1
        go_upto_region 10 with fail
        go_wp2_with fail
        with_reducible refine c2.mono ?_
        rintro e w7 ⟨rfl, ⟨v7, hp7, hft7⟩, hf7⟩
        obtain ⟨k7, hdv7⟩ := pen_keep hdp hdv6 HK6.out hft7 hf7
        have hB7 := pen_below HP6.out hf7 hpw6
        have hpw7 : p ≤ w7.heap.size := Nat.le_trans hpw6 hB7.size
        have q33 : w7.cell? ⟨d, 33, none⟩ = some (.int .u64 (na : Int)) := (k7.cell 33).trans i33
        have HP7 := Lib.hid hp7
        have HK7 := Lib.hid k7
        have HB7 := Lib.hid (HB6.out.trans (hB7.mono (Nat.le_trans HWP.out (Nat.le_refl _))))
        have c3 := num_any p p v7 (l0 ++ tx ++ numP nx) na hna2 w7 hp7 (by simp only [List.length_append]; omega) hpw7
        clear hp7 hft7 hf7 k7 hB7 c2
        go_wp2_with fail
        with_reducible refine c3.mono ?_
        rintro e w8 ⟨rfl, ⟨v8, hp8, hft8⟩, hf8⟩
        obtain ⟨k8, hdv8⟩ := pen_keep hdp hdv7 HK7.out hft8 hf8
        have hB8 := pen_below HP7.out hf8 hpw7
        have hpw8 : p ≤ w8.heap.size := Nat.le_trans hpw7 hB8.size
        have q34 : w8.cell? ⟨d, 34, none⟩ = some (.slice As sl cs) := by rw [← HSL.out]; exact (k8.cell 34).trans i34
        have HP8 := Lib.hid hp8
        have HB8 := Lib.hid (HB7.out.trans (hB8.mono (Nat.le_trans HWP.out (Nat.le_refl _))))
        have c4 := text_any p p v8 (l0 ++ tx ++ numP nx ++ numP na) As cs hcap0 sec w8 hp8 (HSE.out.below HB8.out) (fun a ea h0 => by
          obtain ⟨ga, oa, eq, hga, _⟩ := HSE.out.cell h0
          rw [ea] at eq
          cases eq
          rintro (e | e)
          · have e' : ga = p := e
            have := HWP.out
            omega
          · have e' : p ≤ ga := (hp8.own.lt e).1
            have := HWP.out
            omega) (by simp only [List.length_append]; omega) (by simp only [List.length_append]; omega) hpw8
        rw [HSL.out] at c4
        clear hp8 hft8 hf8 k8 hB8 c3
        go_wp2_with fail
        with_reducible refine c4.mono ?_
        rintro e w9 ⟨rfl, ⟨v9, hp9, hft9⟩, hf9⟩
        have hB9 := pen_below HP8.out hf9 hpw8
        have hpw9 : p ≤ w9.heap.size := Nat.le_trans hpw8 hB9.size
        have hfin := HFIN.out
        rw [HSL.out] at hfin
        rw [← hfin] at hp9
        have HP9 := Lib.hid hp9
        have HB9 := Lib.hid (HB8.out.trans (hB9.mono (Nat.le_trans HWP.out (Nat.le_refl _))))
        clear hp9 hft9 hf9 hB9 c4 hfin
        go_wp2_with fail
        go_roundg (n1 - (i + 1))
        case measure => omega
        case rel => exact ⟨i + 1, v9, by omega, by go_num, HP9.out, HB9.out, hpw9⟩
      · obtain rfl : n1 = i := by omega
        have hltI : ¬ (n1 : Int) < (n1 : Int) := by omega
        have hLL := HPL.out n1 (Nat.le_refl _)
        rw [List.take_of_length_le (by rw [HN1.out]; exact Nat.le_refl _)] at hpen hLL
        obtain ⟨l0, hl0⟩ : ∃ l0, numP n1 ++ ins.flatMap inF = l0 := ⟨_, rfl⟩
        have HFL2 := HFL.out
        rw [hl0] at hpen hLL HFL2 HFB
        have HL0 := Lib.hid hl0
        obtain ⟨q0, q1, q2, q3⟩ := HBOX.out wr hB
        obtain ⟨wo, hwo⟩ : ∃ wo, wo = wr := ⟨_, rfl⟩
        subst hwo
        have c1 := num_any p p v l0 n2 (by omega) wo hpen (by omega) hpr
        have HPEN := Lib.hid hpen
        have HB := Lib.hid hB
        clear hpen hB hl0 HPL HN1 HI HBI HSEC hal
        go_wp2_with fail
        with_reducible refine c1.mono ?_
        rintro e w4 ⟨rfl, ⟨v4, hp4, hft4⟩, hf4⟩
        have hB4 := pen_below HPEN.out hf4 hpr
        have hB4W := HB.out.trans (hB4.mono HWP.out)
        have hpw4 : p ≤ w4.heap.size := Nat.le_trans hpr hB4.size
        obtain ⟨q0a, q1a, q2a, q3a⟩ := HBOX.out w4 hB4W
        have HP4 := Lib.hid hp4
        have HB4 := Lib.hid hB4W
        clear hp4 hft4 hf4 hB4 hB4W c1 q0 q1 q2 q3
        have hn2l := numP_le (n := n2) (by omega)
        have hpl : ∀ i, i ≤ n2 → (l0 ++ numP n2 ++ (outs.take i).flatMap outF).length ≤ 3000 := fun i hi => by
          have h1 := flat_le outF 41 (outs.take i) (fun x hx => outF_len (HBO.out x (List.mem_of_mem_take hx)))
          have h3 : (outs.take i).length * 41 ≤ 16 * 41 := Nat.mul_le_mul_right _ (by rw [List.length_take]; omega)
          simp only [List.length_append]
          omega
        have HPL := Lib.hid hpl
        clear hpl
        go_upto_region 16 with fail
        clear q0a q1a q2a q3a
        go_loopg [9, 51] n2 (fun kk _ s wr => ∃ (i : Nat) (v : Value), i + kk = n2 ∧ s = .int .i64 (i : Int) ∧ IsPen p wr p v (l0 ++ numP n2 ++ (outs.take i).flatMap outF) ∧ Below W.heap.size W wr ∧ p ≤ wr.heap.size)
        case atStart => exact ⟨0, v4, by omega, rfl, by simpa using HP4.out, HB4.out, hpw4⟩
        case round =>
          obtain ⟨i, v, hi, rfl, hpen, hB, hpr2⟩ := hrel
          by_cases hlt2 : i < n2
          · have hltI : (i : Int) < (n2 : Int) := by omega
            have hil : i < outs.length := by rw [HN2.out]; exact hlt2
            obtain ⟨g', off, rfl, hg', hat⟩ := HO.out.below hB i hil
            have hbdi := HBO.out _ (List.getElem_mem hil)
            have hIn := LDs_agg uOut iOut wr g' (off + i * 33) (outV outs[i]) (outV_len hbdi) hat
            have hSt := HSU.out wr (outV outs[i]) (outV_len hbdi) (outV_one _)
            have b5 := Blk.new wr 80 (outV outs[i]).toArray
            have B5 := hB.alloc hB.size (.cells (outV outs[i]).toArray 80)
            have hp5 : IsPen p (wr.alloc (.cells (outV outs[i]).toArray 80)) p v (l0 ++ numP n2 ++ (outs.take i).flatMap outF) := ⟨hpen.st.alloc _, hpen.b1, World.ownsRow.alloc hpen.own _⟩
            have hdp : wr.heap.size ≠ p := fun e => by have := hpen.st.lt; omega
            have hdv : v.ownBlock ≠ some wr.heap.size := fun e => by have := (hpen.own.lt e).2; omega
            have hid := LDs_aggB uIdA iId b5 (off := 0) (bys outs[i].ow) (by rw [bys_length, hbdi.len]) (outV_ow hbdi)
            have hpw5 : p ≤ (wr.alloc (.cells (outV outs[i]).toArray 80)).heap.size := by simp; omega
            obtain ⟨W5, hW5⟩ : ∃ W5, wr.alloc (.cells (outV outs[i]).toArray 80) = W5 := ⟨_, rfl⟩
            rw [hW5] at hSt b5 B5 hp5 hid hpw5
            obtain ⟨d, hd⟩ : ∃ d, wr.heap.size = d := ⟨_, rfl⟩
            rw [hd] at b5 hdp hdv hid
            have htk : (outs.take (i + 1)).flatMap outF = (outs.take i).flatMap outF ++ outF outs[i] := by
              rw [List.take_succ_eq_append_getElem hil, List.flatMap_append]; simp
            obtain ⟨na, hna⟩ := nat_of hbdi.am.1
            have hna2 : na < 18446744073709551616 := by have := hbdi.am; omega
            have hLL2 := HPL.out i (by omega)
            have hF : outF outs[i] = outs[i].ow ++ numP na := by
              unfold outF
              rw [hna, Int.toNat_natCast]
            obtain ⟨l1, hl1⟩ : ∃ l1, l0 ++ numP n2 ++ (outs.take i).flatMap outF = l1 := ⟨_, rfl⟩
            rw [hl1] at hp5 hLL2
            have hlen32 := hbdi.len
            have hal2 := numP_le (n := na) hna2
            have hfin : l0 ++ numP n2 ++ (outs.take (i + 1)).flatMap outF = l1 ++ outs[i].ow ++ numP na := by
              rw [htk, ← List.append_assoc, hl1, hF]
              simp only [List.append_assoc]
            have i32 := outV_am hbdi
            rw [hna] at i32
            have htxb := hbdi.ow
            obtain ⟨tx, htx⟩ : ∃ tx, outs[i].ow = tx := ⟨_, rfl⟩
            obtain ⟨xs, hxs⟩ : ∃ xs, (outV outs[i]).toArray = xs := ⟨_, rfl⟩
            rw [hxs] at hIn hSt b5 i32
            rw [htx] at hid hlen32 hfin htxb
            have c1 := penid_any p p v l1 tx hlen32 htxb W5 hp5 (by omega) hpw5
            have HW5 := Lib.hid hW5
            have HD := Lib.hid hd
            have HFIN := Lib.hid hfin
            have HP5 := Lib.hid hp5
            have HB5 := Lib.hid B5
            have HBK := Lib.hid b5
            clear hpen hB hat hbdi hxs htx hna hF hl1 htk hW5 hd hfin hp5 B5 b5 htxb
            go_upto_region 18 with fail
            rw [HD.out]
            go_wp2_with fail
            with_reducible refine c1.mono ?_
            rintro e w6 ⟨rfl, ⟨v6, hp6, hft6⟩, hf6⟩
            obtain ⟨k6, hdv6⟩ := pen_keep hdp hdv HBK.out hft6 hf6
            have hB6 := pen_below HP5.out hf6 hpw5
            have hpw6 : p ≤ w6.heap.size := Nat.le_trans hpw5 hB6.size
            have q33 : w6.cell? ⟨d, 32, none⟩ = some (.int .u64 (na : Int)) := (k6.cell 32).trans i32
            have HP6 := Lib.hid hp6
            have HB6 := Lib.hid (HB5.out.trans (hB6.mono HWP.out))
            have c2 := num_any p p v6 (l1 ++ tx) na hna2 w6 hp6 (by simp only [List.length_append]; omega) hpw6
            clear hp6 hft6 hf6 k6 hB6 c1
            go_wp2_with fail
            with_reducible refine c2.mono ?_
            rintro e w7 ⟨rfl, ⟨v7, hp7, hft7⟩, hf7⟩
            have hB7 := pen_below HP6.out hf7 hpw6
            have hpw7 : p ≤ w7.heap.size := Nat.le_trans hpw6 hB7.size
            rw [← HFIN.out] at hp7
            have HP7 := Lib.hid hp7
            have HB7 := Lib.hid (HB6.out.trans (hB7.mono HWP.out))
            clear hp7 hft7 hf7 hB7 c2
            go_wp2_with fail
            go_roundg (n2 - (i + 1))
            case measure => omega
            case rel => exact ⟨i + 1, v7, by omega, by go_num, HP7.out, HB7.out, hpw7⟩
          · obtain rfl : n2 = i := by omega
            have hltI : ¬ (n2 : Int) < (n2 : Int) := by omega
            have hLL2 := HPL.out n2 (Nat.le_refl _)
            rw [List.take_of_length_le (by rw [HN2.out]; exact Nat.le_refl _)] at hpen hLL2
            obtain ⟨l1, hl1⟩ : ∃ l1, l0 ++ numP n2 ++ outs.flatMap outF = l1 := ⟨_, rfl⟩
            rw [hl1] at hpen hLL2 HFL2 HFB
            have HL1 := Lib.hid hl1
            obtain ⟨q0, q1, q2, q3⟩ := HBOX.out wr hB
            have c1 := num_any p p v l1 nf (by omega) wr hpen (by omega) hpr2
            have HPEN2 := Lib.hid hpen
            have HB2 := Lib.hid hB
            clear hpen hB hl1 HPL HN2 HO HBO hbl
            go_wp2_with fail
            with_reducible refine c1.mono ?_
            rintro e w5 ⟨rfl, ⟨v5, hp5, hft5⟩, hf5⟩
            have hB5 := pen_below HPEN2.out hf5 hpr2
            have hB5W := HB2.out.trans (hB5.mono HWP.out)
            have hpw5 : p ≤ w5.heap.size := Nat.le_trans hpr2 hB5.size
            obtain ⟨q0b, q1b, q2b, q3b⟩ := HBOX.out w5 hB5W
            have hnfl := numP_le (n := nf) (by omega)
            have c2 := num_any p p v5 (l1 ++ numP nf) ne (by omega) w5 hp5 (by simp only [List.length_append]; omega) hpw5
            have HP5 := Lib.hid hp5
            have HB5 := Lib.hid hB5W
            clear hp5 hft5 hf5 hB5 hB5W c1 q0 q1 q2 q3
            go_wp2_with fail
            with_reducible refine c2.mono ?_
            rintro e w6 ⟨rfl, ⟨v6, hp6, hft6⟩, hf6⟩
            have hB6 := pen_below HP5.out hf6 hpw5
            have hB6W := HB5.out.trans (hB6.mono HWP.out)
            have c3 := pbytes_any p p v6 (l1 ++ numP nf ++ numP ne) HFB.out w6 hp6 (by omega)
            have HB6 := Lib.hid (HB0.out.trans (hB6W.mono HB0.out.size))
            clear hp6 hft6 hf6 hB6 hB6W c2
            go_wp2_with fail
            with_reducible refine c3.mono ?_
            rintro e w7 ⟨v7, rfl, ho7, hB7⟩
            rw [← HL1.out, ← HL0.out] at ho7
            have HO7 := Lib.hid ho7
            have HB7 := Lib.hid hB7
            clear ho7 hB7 c3
            go_wp2_with fail
            go_ret2
            exact ⟨_, rfl, HO7.out.base HB6.out.size, HB6.out.trans (HB7.out.mono HB6.out.size)⟩
  · have hput : putP t = [] := by unfold putP; rw [HR.out, if_neg hR0]
    rw [hput]
    unfold txV at HW HCK ⊢
    obtain ⟨q0, q1, q2, q3⟩ := HBOX.out W (Below.refl _ _)
    go_enter Tryz.func27, Tryz.ntmps27
    go_upto_region 1 with fail
    rw [HW.out, HG.out]
    go_wp2_with fail
    with_reducible refine HCK.out.mono ?_
    rintro e w1 ⟨rfl, hB1⟩
    have HB1 := Lib.hid (HB0.out.trans (hB1.mono HB0.out.size))
    clear hB1
    go_wp2_with fail
    go_ret2
    exact ⟨_, rfl, Own8.nil _ _, HB1.out⟩
end Go.Proofs.YtdkanehjahpehaaGreatDoor
end

section
namespace Go.Proofs.YtdkanehjahpehaaGreatDoor
open Go.RowKit Go.Shelf
set_option maxRecDepth 100000
theorem bdId_of (parts : Array (Nat × Value)) : Instr.build 48 parts = BDs 48 parts := rfl
theorem bdId_0 (w : World) : (BDs 48 #[]).run Tryz.prog w = .ok (.agg (bys (List.replicate 32 0)).toArray) w := by kernel_rfl
attribute [local go_sem ↓] ld123 st123 al123 bdId_of

theorem idP_put (t : TxD) (h : checkP t = 0) : idP t = shaP (8 :: (be4P (putP t).length ++ putP t)) := by
  unfold idP putP
  rw [if_pos h, if_pos h]
  unfold underP underL
  simp

theorem undId' : Tryz.prog.underlying 48 = some (.array 32 5) := u123
theorem putP_bd {t : TxD} (h : t.Bd) : ∀ x ∈ putP t, 0 ≤ x ∧ x ≤ 255 := by
  unfold putP
  split
  · rename_i hc
    exact formTx_bd h (checkP_ok hc).1
  · simp
theorem putP_len {t : TxD} (h : t.Bd) : (putP t).length ≤ 2660 := by
  unfold putP
  split
  · rename_i hc
    exact formTx_len h (checkP_ok hc).1
  · simp
theorem Own8.nulI {B n c : Nat} {w : World} {l : List Int} (h : Own8 B w (.slice none n c) l) : c = 0 := by
  obtain ⟨_, ⟨h2, _⟩ | ⟨g, cap, cur, h2, _⟩⟩ := h
  · simp only [Value.slice.injEq] at h2
    exact h2.2.2
  · simp at h2

set_option maxHeartbeats 4000000 in
theorem txid_any (A1 : Option Addr) (c1 : Nat) (A2 : Option Addr) (c2 : Nat) (t : TxD) (w : World) (h : TxAt w A1 A2 t) (hgl : Glob w) (hl : t.ins.length ≤ 1000000) (hl2 : t.outs.length ≤ 1000000) :
    Calls Tryz.prog 112 #[.agg (txV A1 c1 A2 c2 t)] w fun e w' => e = .returned (.agg (bys (idP t)).toArray) ∧ Below w.heap.size w w' := by
  obtain ⟨z, hz1, hz2⟩ := Option.map_eq_some_iff.1 z123
  have hal := ALs_new (P := Tryz.prog) (t := 48) z hz1 (w.alloc (.cells (txV A1 c1 A2 c2 t) 26))
  obtain ⟨Z, hZ⟩ : ∃ Z, z.cells = Z := ⟨_, rfl⟩
  rw [hZ] at hal hz2
  have hzs : Z.size = 32 := by rw [← Array.length_toList, hz2]; rfl
  have b0 := (Blk.new w 26 (txV A1 c1 A2 c2 t)).alloc (.cells Z 48)
  have bz := Blk.new (w.alloc (.cells (txV A1 c1 A2 c2 t) 26)) 48 Z
  have B0 : Below w.heap.size w ((w.alloc (.cells (txV A1 c1 A2 c2 t) 26)).alloc (.cells Z 48)) := ((Below.refl _ w).alloc (Nat.le_refl _) _).alloc (by simp) _
  simp only [World.size_alloc] at hal bz
  obtain ⟨W, hW⟩ : ∃ W, (w.alloc (.cells (txV A1 c1 A2 c2 t) 26)).alloc (.cells Z 48) = W := ⟨_, rfl⟩
  obtain ⟨g, hg⟩ : ∃ g, w.heap.size = g := ⟨_, rfl⟩
  rw [hW] at B0 hal
  rw [hW, hg] at b0 bz
  rw [hg] at hal
  have hgW : g < W.heap.size := b0.lt
  have hT := h.below B0
  have q0 : W.cell? ⟨g, 0, none⟩ = some (.slice A1 t.ins.length c1) := b0.cell 0
  have q1 : W.cell? ⟨g, 1, none⟩ = some (.slice A2 t.outs.length c2) := b0.cell 1
  have q2 : W.cell? ⟨g, 2, none⟩ = some (.int .u64 t.fee) := b0.cell 2
  have q3 : W.cell? ⟨g, 3, none⟩ = some (.int .i64 t.exp) := b0.cell 3
  have hput := txput_any A1 c1 A2 c2 t W hT hl hl2
  obtain ⟨D, hD⟩ : ∃ D, idP t = D := ⟨_, rfl⟩
  have hD32 : (bys D).length = 32 := by rw [bys_length, ← hD]; exact idP_len t
  rw [hD]
  have HD := Lib.hid hD
  have HD32 := Lib.hid hD32
  have HW := Lib.hid hW
  have HG := Lib.hid hg
  have HB0 := Lib.hid B0
  have HBZ := Lib.hid bz
  have HZ := Lib.hid hzs
  have HGL := Lib.hid (hgl.below B0)
  have hpb : ∀ x ∈ putP t, 0 ≤ x ∧ x ≤ 255 := putP_bd h.bd
  have hpl : (putP t).length ≤ 2660 := putP_len h.bd
  have HPB := Lib.hid hpb
  have HPUT := Lib.hid hput
  obtain ⟨R, hR⟩ : ∃ R, checkP t = R := ⟨_, rfl⟩
  rw [hR] at HPUT
  have HR := Lib.hid hR
  clear hD hD32 hW hg B0 bz hzs hgl hpb hput hR b0 hz1 hz2 hZ h hl hl2 hT
  unfold txV at HW HPUT hal ⊢
  by_cases hR0 : R = 0
  · subst hR0
    have hid := idP_put t HR.out
    rw [HD.out] at hid
    have HID := Lib.hid hid
    clear hid
    go_enter Tryz.func112, Tryz.ntmps112
    go_upto_region 1 with fail
    rw [HG.out]
    go_wp2_with fail
    with_reducible refine HPUT.out.mono ?_
    rintro e w1 ⟨v, rfl, hv, hB1⟩
    obtain ⟨Af, cf, hvv, hby, hA0, hcf⟩ := hv.byt HPB.out
    have hcn : Af = none → cf = 0 := fun e => by subst e; subst hvv; exact Own8.nulI hv
    subst hvv
    have bw2 := Blk.new w1 28 #[.slice Af (putP t).length cf]
    have B2 : Below w1.heap.size w1 (w1.alloc (.cells #[.slice Af (putP t).length cf] 28)) := (Below.refl _ w1).alloc (Nat.le_refl _) _
    have hgl2 := (HGL.out.below hB1).below B2
    have hby2 := hby.below B2
    have hsz1 := hB1.size
    have B2W := hB1.trans (B2.mono hsz1)
    obtain ⟨w2, hw2⟩ : ∃ w2, w1.alloc (.cells #[.slice Af (putP t).length cf] 28) = w2 := ⟨_, rfl⟩
    rw [hw2] at bw2 hgl2 hby2 B2W
    have hun := under_one 8 (by omega) w1.heap.size 0 1 Af cf hcn (putP t) w2 bw2.lt (bw2.cell 0) hby2 (by omega) hgl2
    rw [← HID.out] at hun
    obtain ⟨np, hnp⟩ : ∃ np, (putP t).length = np := ⟨_, rfl⟩
    rw [hnp] at hw2 ⊢
    have HW2 := Lib.hid hw2
    have HB2W := Lib.hid B2W
    clear hv hby hA0 hcf hcn bw2 B2 hgl2 hby2 hsz1 B2W hw2 hB1 hnp
    go_wp2_with fail
    rw [HW2.out]
    with_reducible refine hun.mono ?_
    rintro e w3 ⟨rfl, hB3⟩
    have hB3W := HB2W.out.trans (hB3.mono HB2W.out.size)
    have hbz := HBZ.out.fr (Fr.of_below hB3W) (by have := HBZ.out.lt; omega)
    have hst := STs_blk (P := Tryz.prog) (t := 48) i123 hbz (off := 0) (bys D) HD32.out (by rw [HZ.out]; omega) (bys_one _)
    rw [splice_whole _ _ (by rw [HD32.out, HZ.out])] at hst
    have HB3W := Lib.hid hB3W
    have HB3 := Lib.hid hbz
    clear hun hB3 hB3W hbz
    go_wp2_with fail
    exact bodyPost_ret (results_arr rfl _ _ (g + 1) 48 (bys D) _ rfl (HB3.out.row_ _) undId' rfl (by rw [HD32.out]; exact i123)) rfl ⟨rfl, Below.setRow (HB0.out.trans (HB3W.out.mono HB0.out.size)) (by rw [HG.out]; omega) _⟩
  · have hid : D = List.replicate 32 0 := by rw [← HD.out]; unfold idP; rw [HR.out, if_neg hR0]
    subst hid
    go_enter Tryz.func112, Tryz.ntmps112
    go_upto_region 1 with fail
    rw [HG.out]
    go_wp2_with fail
    with_reducible refine HPUT.out.mono ?_
    rintro e w1 ⟨v, rfl, hv, hB1⟩
    have hbz := HBZ.out.fr (Fr.of_below hB1) (by have := HBZ.out.lt; omega)
    have hst := STs_blk (P := Tryz.prog) (t := 48) i123 hbz (off := 0) (bys (List.replicate 32 0)) HD32.out (by rw [HZ.out]; omega) (bys_one _)
    rw [splice_whole _ _ (by rw [HD32.out, HZ.out])] at hst
    have hb0 := fun W => bdId_0 W
    obtain ⟨ys, hys⟩ : ∃ ys, bys (List.replicate 32 0) = ys := ⟨_, rfl⟩
    rw [hys] at hst hb0 HD32
    have HYS := Lib.hid hys
    have HB1 := Lib.hid hB1
    have HB3 := Lib.hid hbz
    clear hv hB1 hbz hys
    go_wp2_with fail
    exact bodyPost_ret (results_arr rfl _ _ (g + 1) 48 ys _ rfl (HB3.out.row_ _) undId' rfl (by rw [HD32.out]; exact i123)) rfl ⟨by rw [← HYS.out], Below.setRow (HB0.out.trans (HB1.out.mono HB0.out.size)) (by rw [HG.out]; omega) _⟩
end Go.Proofs.YtdkanehjahpehaaGreatDoor
end
