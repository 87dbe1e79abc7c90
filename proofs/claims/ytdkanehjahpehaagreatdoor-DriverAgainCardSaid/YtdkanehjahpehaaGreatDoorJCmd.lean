/-
  tx.Same of a transaction and itself.
  command.Put of a command that locks.
  command.used, Same, check, Put: of a command that locks.
  command.Put of a command that locks.
-/
import Derived.Test.YtdkanehjahpehaaGreatDoorJLook
import Derived.Test.YtdkanehjahpehaaGreatDoorJTxG

section
namespace Go.Proofs.YtdkanehjahpehaaGreatDoor
open Go.RowKit Go.Shelf
set_option maxRecDepth 100000
attribute [local go_sem ↓] ldPt_of eqPt_of

set_option maxHeartbeats 4000000 in
theorem eqB_same (A : Option Addr) (c : Nat) (l : List Int) (w : World) (h : Byt w A l) (hl : l.length ≤ 1000000000) :
    Calls Tryz.prog 209 #[.slice A l.length c, .slice A l.length c] w fun e w' => e = .returned (.bool true) ∧ Below w.heap.size w w' := by
  obtain ⟨n, hn⟩ : ∃ n, l.length = n := ⟨_, rfl⟩
  rw [hn] at hl ⊢
  have H := Lib.hid h
  have HN := Lib.hid hn
  clear h hn
  go_enter Tryz.func209, Tryz.ntmps209
  go_wp2_with fail
  go_loopg [5, 13] n (fun kk _ c wr => ∃ j : Nat, j + kk = n ∧ c = .int .i64 (j : Int) ∧ Below w.heap.size w wr)
  case atStart => exact ⟨0, by omega, rfl, Below.refl _ _⟩
  case round =>
    obtain ⟨j, hj, rfl, hB⟩ := hrel
    by_cases hlt : j < n
    · have hltI : (j : Int) < (n : Int) := by omega
      have hj0 : (0 : Int) ≤ (j : Int) := by omega
      obtain ⟨g, o, rfl, hg, hc⟩ := H.out.at_ (i := j) (by rw [HN.out]; exact hlt)
      obtain ⟨x, hx⟩ : ∃ x, l[j]'(by rw [HN.out]; exact hlt) = x := ⟨_, rfl⟩
      rw [hx] at hc
      have hc2 := (hB.cell (p := ⟨g, o + j, none⟩) hg).trans hc
      have hgw : g < wr.heap.size := Nat.lt_of_lt_of_le hg hB.size
      obtain ⟨S0, hS0⟩ : ∃ S0 : World → Prop, (fun X => X.cell? ⟨g, o + j, none⟩ = some (.int .u8 x)) = S0 := ⟨_, rfl⟩
      have hS1 : S0 wr.drew := by rw [← hS0]; exact ((Below.refl wr.heap.size wr).drew.cell (p := ⟨g, o + j, none⟩) hgw).trans hc2
      have HB := Lib.hid hB
      have HSE := Lib.hid hS0
      have HS1 := Lib.hid hS1
      clear hB hS0 hS1 hc hc2 hx hgw
      go_upto_region 6 with fail
      refine wp_txO [(0, 3), (1, 3), (2, 3), (4, 3), (5, 3), (6, 3), (3, 0), (7, 0), (8, 3)] S0 (by kernel_rfl) (by kernel_rfl) (by kernel_rfl) (by kernel_rfl) HS1.out ?_
      iterate 6 (with_reducible refine wpTxO_evN (o := ?_) (v := ?_) (a' := ?_) (by with_unfolding_all rfl) (by with_unfolding_all rfl) (fun W' => ?_) ?_ ?_; rotate_left 2; (focus (go_simp <;> with_reducible rfl)); focus (go_simp <;> with_reducible rfl))
      iterate 2 (with_reducible refine wpTxO_takeN (o := ?_) (v := ?_) (a' := ?_) (by with_unfolding_all rfl) (by with_unfolding_all rfl) (fun W' hS => ?_) ?_ ?_; rotate_left 2; (focus (rw [← HSE.out] at hS; go_simp <;> with_reducible rfl)); focus (go_simp <;> with_reducible rfl))
      iterate 1 (with_reducible refine wpTxO_evN (o := ?_) (v := ?_) (a' := ?_) (by with_unfolding_all rfl) (by with_unfolding_all rfl) (fun W' => ?_) ?_ ?_; rotate_left 2; (focus (go_simp <;> with_reducible rfl)); focus (go_simp <;> with_reducible rfl))
      with_reducible refine wpTxO_nil ?_
      rw [noPan_normal]
      go_wp2_with fail
      go_roundg (n - (j + 1))
      case measure => omega
      case rel => exact ⟨j + 1, by omega, by go_num, HB.out.drew⟩
    · obtain rfl : j = n := by omega
      go_wp2_with fail
      go_ret
      exact ⟨rfl, hB⟩

set_option maxHeartbeats 4000000 in
theorem same1_any (i : InD) (hb : i.Bd) (A : Option Addr) (c : Nat) (w : World) (hy : Byt w A i.sec) (hl : i.sec.length ≤ 1000000000) :
    Calls Tryz.prog 208 #[.agg (inV i A c).toArray, .agg (inV i A c).toArray] w fun e w' => e = .returned (.bool true) ∧ Below w.heap.size w w' := by
  have b0 := Blk.new w 77 ((inV i A c).toArray)
  have B0 : Below w.heap.size w (w.alloc (.cells ((inV i A c).toArray) 77)) := (Below.refl _ w).alloc (Nat.le_refl _) _
  obtain ⟨W, hW⟩ : ∃ W, w.alloc (.cells ((inV i A c).toArray) 77) = W := ⟨_, rfl⟩
  rw [hW] at b0 B0
  obtain ⟨g, hg⟩ : ∃ g, w.heap.size = g := ⟨_, rfl⟩
  have hWs : W.heap.size = g + 1 := by rw [← hW, ← hg]; simp
  rw [hg] at b0
  have b1 := Blk.new W 77 (inV i A c).toArray
  have b01 := b0.alloc (.cells (inV i A c).toArray 77)
  have B1 := B0.alloc B0.size (.cells (inV i A c).toArray 77)
  obtain ⟨V, hV⟩ : ∃ V, W.alloc (.cells (inV i A c).toArray 77) = V := ⟨_, rfl⟩
  rw [hV] at b1 b01 B1
  rw [hWs] at b1
  have hpl := ptL_len hb.len i.ix
  have hp1 : ((inV i A c).toArray.toList.drop 0).take 33 = ptL i.tx i.ix := by
    unfold inV
    rw [List.drop_zero, List.toList_toArray, List.take_append_of_le_length (by omega), List.take_of_length_le (by omega)]
  have hld0 := LDs_aggB (P := Tryz.prog) uPt iPt b01 (off := 0) (ptL i.tx i.ix) hpl hp1
  have hld1 := LDs_aggB (P := Tryz.prog) uPt iPt b1 (off := 0) (ptL i.tx i.ix) hpl hp1
  have heq := fun X => EQs_pt (p := (i.tx, i.ix)) (q := (i.tx, i.ix)) hb.pt hb.pt X
  simp only [decide_true] at heq
  have q33 : V.cell? ⟨g, 33, none⟩ = some (.int .u64 i.am) := by rw [b01.cell 33]; simp [inV, ptL, bys_length, hb.len]
  have q34 : V.cell? ⟨g, 34, none⟩ = some (.slice A i.sec.length c) := by rw [b01.cell 34]; simp [inV, ptL, bys_length, hb.len]
  have r33 : V.cell? ⟨g + 1, 33, none⟩ = some (.int .u64 i.am) := by rw [b1.cell 33]; simp [inV, ptL, bys_length, hb.len]
  have r34 : V.cell? ⟨g + 1, 34, none⟩ = some (.slice A i.sec.length c) := by rw [b1.cell 34]; simp [inV, ptL, bys_length, hb.len]
  have heb := eqB_same A c i.sec V (hy.below B1) hl
  obtain ⟨xs, hxs⟩ : ∃ xs, (inV i A c).toArray = xs := ⟨_, rfl⟩
  obtain ⟨pv, hpv⟩ : ∃ xs, (ptL i.tx i.ix).toArray = xs := ⟨_, rfl⟩
  obtain ⟨n, hn⟩ : ∃ n, i.sec.length = n := ⟨_, rfl⟩
  rw [hxs] at hW hV ⊢
  rw [hpv] at hld0 hld1
  simp only [hpv] at heq
  rw [hn] at heb q34 r34
  have HW := Lib.hid hW
  have HV := Lib.hid hV
  have HG := Lib.hid hg
  have HB1 := Lib.hid B1
  have HWS := Lib.hid hWs
  clear hW hV hg B1 hWs b0 B0 b1 b01 hxs hpl hp1 hpv hb hy hl hn
  go_enter Tryz.func208, Tryz.ntmps208
  go_upto_region 1 with fail
  rw [HW.out, HV.out, HG.out]
  go_wp2_with fail
  with_reducible refine heb.mono ?_
  rintro e w1 ⟨rfl, hB⟩
  have HB2 := Lib.hid (HB1.out.trans (hB.mono HB1.out.size))
  clear hB heb
  go_wp2_with fail
  go_ret
  exact ⟨rfl, HB2.out⟩

attribute [local go_sem ↓] ldIn_of stIn_of alIn_of
set_option maxHeartbeats 8000000 in
theorem eqIn_same (A : Option Addr) (c : Nat) (l : List InD) (w : World) (hb : ∀ i ∈ l, i.Bd) (h : InsAt w A l) (hl : l.length ≤ 1000000000) (hs : ∀ i ∈ l, i.sec.length ≤ 64) :
    Calls Tryz.prog 207 #[.slice A l.length c, .slice A l.length c, .func (.func 208) #[] #[]] w fun e w' => e = .returned (.bool true) ∧ Below w.heap.size w w' := by
  obtain ⟨n, hn⟩ : ∃ n, l.length = n := ⟨_, rfl⟩
  rw [hn] at hl ⊢
  obtain ⟨Zi, hali, hsti, _⟩ := alstY (P := Tryz.prog) (t := 77) iIn zIn
  have H := Lib.hid h
  have HN := Lib.hid hn
  have HBD := Lib.hid hb
  have HSEC := Lib.hid hs
  have HSTI := Lib.hid hsti
  clear h hn hb hs hsti
  go_enter Tryz.func207, Tryz.ntmps207
  go_wp2_with fail
  go_loopg [7, 8, 9, 17] n (fun kk _ _ _ c wr => ∃ j : Nat, j + kk = n ∧ c = .int .i64 (j : Int) ∧ Below w.heap.size w wr)
  case atStart => exact ⟨0, by omega, rfl, Below.refl _ _⟩
  case round =>
    obtain ⟨j, hj, rfl, hB⟩ := hrel
    by_cases hlt : j < n
    · have hltI : (j : Int) < (n : Int) := by omega
      have hj0 : (0 : Int) ≤ (j : Int) := by omega
      have hjl : j < l.length := by rw [HN.out]; exact hlt
      obtain ⟨g, off, As, cs, rfl, hg, hat⟩ := (H.out.below hB) j hjl
      have hbi := HBD.out _ (List.getElem_mem hjl)
      have hsi := HSEC.out _ (List.getElem_mem hjl)
      obtain ⟨i, hi⟩ : ∃ i, l[j] = i := ⟨_, rfl⟩
      rw [hi] at hat hbi hsi
      have hld := fun X (hX : Below wr.heap.size wr X) => LDs_agg (P := Tryz.prog) uIn iIn X g (off + j * 35) (inV i As cs) (inV_len hbi As cs) (fun k v hv => (hX.cell (p := ⟨g, off + j * 35 + k, none⟩) hg).trans (hat.cell k v hv))
      have hil := inV_len hbi As cs
      have hi1 := inV_one i As cs
      obtain ⟨iv, hiv⟩ : ∃ iv, inV i As cs = iv := ⟨_, rfl⟩
      rw [hiv] at hil hi1
      have b0 := Blk.new wr 77 iv.toArray
      have B0 : Below wr.heap.size wr (wr.alloc (.cells iv.toArray 77)) := (Below.refl _ wr).alloc (Nat.le_refl _) _
      have hst0 := HSTI.out wr iv hil hi1
      obtain ⟨W, hW⟩ : ∃ W, wr.alloc (.cells iv.toArray 77) = W := ⟨_, rfl⟩
      obtain ⟨g1, hg1⟩ : ∃ g, wr.heap.size = g := ⟨_, rfl⟩
      have hWs : W.heap.size = g1 + 1 := by rw [← hW, ← hg1]; simp
      rw [hW] at b0 B0
      have b01 := b0.alloc (.cells iv.toArray 77)
      have b1 := Blk.new W 77 iv.toArray
      have B1 := B0.alloc B0.size (.cells iv.toArray 77)
      have hst1 := HSTI.out W iv hil hi1
      have hal0 := hali wr
      have hal1 := hali W
      obtain ⟨V, hV⟩ : ∃ V, W.alloc (.cells iv.toArray 77) = V := ⟨_, rfl⟩
      rw [hV] at b1 b01 B1
      rw [hWs] at b1
      rw [hg1] at b01
      have l0 := LDs_allY (P := Tryz.prog) uIn iIn iv b01 hil
      have l1 := LDs_allY (P := Tryz.prog) uIn iIn iv b1 hil
      have hld0 := hld wr (Below.refl _ _)
      have hld1 := hld W B0
      have hcl := same1_any i hbi As cs V ((hat.sec.below B1)) (by omega)
      rw [hiv] at hld0 hld1 hcl
      have hBV := hB.trans (B1.mono hB.size)
      have HW := Lib.hid hW
      have HV := Lib.hid hV
      have HG1 := Lib.hid hg1
      have HWS := Lib.hid hWs
      have HBV := Lib.hid hBV
      clear hW hV hg1 hWs hBV b0 B0 b01 b1 B1 hiv hil hi1 hat hld hi hbi hsi hB hg
      go_upto_region 6 with fail
      rw [HW.out]
      clear hst0 hal0
      go_upto_region 7 with fail
      rw [HV.out, HG1.out, HWS.out]
      clear hst1 hal1 hld0 hld1
      go_wp2_with fail
      with_reducible refine hcl.mono ?_
      rintro e w1 ⟨rfl, hB1⟩
      have HB2 := Lib.hid (HBV.out.trans (hB1.mono HBV.out.size))
      clear hB1 hcl l0 l1
      go_wp2_with fail
      go_roundg (n - (j + 1))
      case measure => omega
      case rel => exact ⟨j + 1, by omega, by go_num, HB2.out⟩
    · obtain rfl : j = n := by omega
      go_wp2_with fail
      go_ret
      exact ⟨rfl, hB⟩

def NEs' (t : TypeId) (x y : Value) : Sem Value := binOp .neq t x y
theorem neOut_ofY (x y : Value) : binOp .neq 80 x y = NEs' 80 x y := rfl
theorem eqOut_ofY (x y : Value) : binOp .eql 80 x y = EQs 80 x y := rfl
theorem uOutSS : ∃ f0 f1 : Field, Tryz.prog.underlying 80 = some (.struct #[f0, f1]) ∧ (f0.type = 48 ∧ f1.type = 24) ∧ (f0.offset = 0 ∧ f1.offset = 32) ∧ (f0.name ≠ "_" ∧ f1.name ≠ "_") :=
  ⟨_, _, Tryz.underlying80, ⟨rfl, rfl⟩, ⟨rfl, rfl⟩, by decide⟩
theorem cOutY : Tryz.prog.cellsOf 80 = 33 := by kernel_rfl
theorem cU64Y : Tryz.prog.cellsOf 24 = 1 := by kernel_rfl
theorem lits_u64Y (d : Nat) {x : Int} (h : 0 ≤ x ∧ x ≤ 18446744073709551615) : Tryz.prog.keyLits (d + 1) 24 [.int .u64 x] = some [.int .u64 x] := by
  unfold Program.keyLits
  have : (Lit.int .u64 x).wf = true := by
    simp only [Lit.wf]
    rw [show IntKind.u64.min = 0 from rfl, show IntKind.u64.max = 18446744073709551615 from rfl]
    simp [h]
  simp [this, show Tryz.prog.underlying 24 = some (.int .u64) from by kernel_rfl]
theorem lits_outY (d : Nat) {o : OutD} (h : o.Bd) : Tryz.prog.keyLits (d + 3) 80 (outV o) = some (o.ow.map (Lit.int .u8) ++ [.int .u64 o.am]) := by
  obtain ⟨f0, f1, hu, ⟨t0, t1⟩, ⟨o0, o1⟩, n0, n1⟩ := uOutSS
  have hl : (bys o.ow).length = 32 := by rw [bys_length, h.len]
  have d0 : ((outV o).drop 0).take 32 = bys o.ow := by
    rw [List.drop_zero]
    unfold outV
    rw [List.take_append_of_le_length (by omega), List.take_of_length_le (by omega)]
  have d1 : ((outV o).drop 32).take 1 = [.int .u64 o.am] := by
    unfold outV
    rw [List.drop_append_of_le_length (by omega), List.drop_of_length_le (by omega)]
    rfl
  unfold Program.keyLits
  simp only [hu]
  rw [if_pos ⟨by rw [cOutY]; exact outV_len h, by simp [n0, n1]⟩]
  rw [List.mapM_cons, List.mapM_cons, List.mapM_nil, t0, t1, o0, o1, cId, cU64Y, d0, d1, lits_id _ h.len h.ow, lits_u64Y _ h.am]
  simp
theorem out_sameY {o : OutD} (h : o.Bd) (w : World) : (Op.equalIn (9997 + 3) 80 (.agg (outV o).toArray) (.agg (outV o).toArray)).run Tryz.prog w = .ok true w := by
  obtain ⟨f0, f1, hu, _⟩ := uOutSS
  obtain ⟨r, hr, hiff⟩ := run_equalIn_deep (P := Tryz.prog) 9997 3 80 (by kernel_rfl) w 3 3 (.agg (outV o).toArray) (.agg (outV o).toArray) _ _
    (by simp [Value.formed, hu, cOutY, outV_len h]) (by simp [Value.formed, hu, cOutY, outV_len h]) (by simpa [Value.cells] using lits_outY 0 h) (by simpa [Value.cells] using lits_outY 0 h)
  rw [hr, hiff.2 rfl]
theorem EQs_outY {o : OutD} (h : o.Bd) (w : World) : (EQs 80 (.agg (outV o).toArray) (.agg (outV o).toArray)).run Tryz.prog w = .ok (.bool true) w := by
  unfold EQs
  rw [run_eql_struct, show (10000 : Nat) = 9997 + 3 from rfl, out_sameY h w]
  rfl
theorem NEs_outY {o : OutD} (h : o.Bd) (w : World) : (NEs' 80 (.agg (outV o).toArray) (.agg (outV o).toArray)).run Tryz.prog w = .ok (.bool false) w := by
  unfold NEs'
  simp only [binOp]
  rw [show (Op.equal 80 (.agg (outV o).toArray) (.agg (outV o).toArray)) = Op.equalIn (9997 + 3) 80 (.agg (outV o).toArray) (.agg (outV o).toArray) from rfl]
  simp [out_sameY h w]

attribute [local go_sem ↓] ldOut_of neOut_ofY
set_option maxHeartbeats 4000000 in
theorem eqOut_same (A : Option Addr) (c : Nat) (l : List OutD) (w : World) (hb : ∀ i ∈ l, i.Bd) (h : OutsAt w A l) (hl : l.length ≤ 1000000000) :
    Calls Tryz.prog 210 #[.slice A l.length c, .slice A l.length c] w fun e w' => e = .returned (.bool true) ∧ Below w.heap.size w w' := by
  obtain ⟨n, hn⟩ : ∃ n, l.length = n := ⟨_, rfl⟩
  rw [hn] at hl ⊢
  have H := Lib.hid h
  have HN := Lib.hid hn
  have HBD := Lib.hid hb
  clear h hn hb
  go_enter Tryz.func210, Tryz.ntmps210
  go_wp2_with fail
  go_loopg [5, 13] n (fun kk _ c wr => ∃ j : Nat, j + kk = n ∧ c = .int .i64 (j : Int) ∧ Below w.heap.size w wr)
  case atStart => exact ⟨0, by omega, rfl, Below.refl _ _⟩
  case round =>
    obtain ⟨j, hj, rfl, hB⟩ := hrel
    by_cases hlt : j < n
    · have hltI : (j : Int) < (n : Int) := by omega
      have hj0 : (0 : Int) ≤ (j : Int) := by omega
      have hjl : j < l.length := by rw [HN.out]; exact hlt
      obtain ⟨g, off, rfl, hg, hat⟩ := (H.out.below hB) j hjl
      have hbo := HBD.out _ (List.getElem_mem hjl)
      obtain ⟨o, ho⟩ : ∃ i, l[j] = i := ⟨_, rfl⟩
      rw [ho] at hat hbo
      have hld := LDs_agg (P := Tryz.prog) uOut iOut wr.drew g (off + j * 33) (outV o) (outV_len hbo) (fun k v hv => ((Below.refl wr.heap.size wr).drew.cell (p := ⟨g, off + j * 33 + k, none⟩) hg).trans (hat k v hv))
      have hne := fun X => NEs_outY hbo X
      obtain ⟨iv, hiv⟩ : ∃ iv, (outV o).toArray = iv := ⟨_, rfl⟩
      rw [hiv] at hld
      simp only [hiv] at hne
      obtain ⟨S0, hS0⟩ : ∃ S0 : World → Prop, (fun X => (LDs 80 (.pointer (some ⟨g, off + j * 33, none⟩))).run Tryz.prog X = .ok (.agg iv) X) = S0 := ⟨_, rfl⟩
      have hS1 : S0 wr.drew := by rw [← hS0]; exact hld
      have HB := Lib.hid hB
      have HSE := Lib.hid hS0
      have HS1 := Lib.hid hS1
      clear hB hS0 hS1 hat hld ho hbo hiv hg
      go_upto_region 6 with fail
      refine wp_txO [(0, 3), (1, 3), (2, 3), (4, 3), (5, 3), (6, 3), (3, 0), (7, 0), (8, 3)] S0 (by kernel_rfl) (by kernel_rfl) (by kernel_rfl) (by kernel_rfl) HS1.out ?_
      iterate 6 (with_reducible refine wpTxO_evN (o := ?_) (v := ?_) (a' := ?_) (by with_unfolding_all rfl) (by with_unfolding_all rfl) (fun W' => ?_) ?_ ?_; rotate_left 2; (focus (go_simp <;> with_reducible rfl)); focus (go_simp <;> with_reducible rfl))
      iterate 2 (with_reducible refine wpTxO_takeN (o := ?_) (v := ?_) (a' := ?_) (by with_unfolding_all rfl) (by with_unfolding_all rfl) (fun W' hS => ?_) ?_ ?_; rotate_left 2; (focus (rw [← HSE.out] at hS; go_simp <;> with_reducible rfl)); focus (go_simp <;> with_reducible rfl))
      iterate 1 (with_reducible refine wpTxO_evN (o := ?_) (v := ?_) (a' := ?_) (by with_unfolding_all rfl) (by with_unfolding_all rfl) (fun W' => ?_) ?_ ?_; rotate_left 2; (focus (go_simp <;> with_reducible rfl)); focus (go_simp <;> with_reducible rfl))
      with_reducible refine wpTxO_nil ?_
      rw [noPan_normal]
      go_wp2_with fail
      go_roundg (n - (j + 1))
      case measure => omega
      case rel => exact ⟨j + 1, by omega, by go_num, HB.out.drew⟩
    · obtain rfl : j = n := by omega
      go_wp2_with fail
      go_ret
      exact ⟨rfl, hB⟩

set_option maxHeartbeats 8000000 in
theorem txsame_any (A1 : Option Addr) (c1 : Nat) (A2 : Option Addr) (c2 : Nat) (t : TxD) (w : World) (h : TxAt w A1 A2 t) (hck : checkP t = 0) :
    Calls Tryz.prog 191 #[.agg (txV A1 c1 A2 c2 t), .agg (txV A1 c1 A2 c2 t)] w fun e w' => e = .returned (.bool true) ∧ Below w.heap.size w w' := by
  obtain ⟨hl1, _, _, _⟩ := checkP_ok hck
  obtain ⟨⟨_, hn16⟩, ⟨_, hm16⟩, _, hsec⟩ := longP_not hl1
  have b0 := Blk.new w 26 (txV A1 c1 A2 c2 t)
  have B0 : Below w.heap.size w (w.alloc (.cells (txV A1 c1 A2 c2 t) 26)) := (Below.refl _ w).alloc (Nat.le_refl _) _
  obtain ⟨W, hW⟩ : ∃ W, w.alloc (.cells (txV A1 c1 A2 c2 t) 26) = W := ⟨_, rfl⟩
  rw [hW] at b0 B0
  obtain ⟨g, hg⟩ : ∃ g, w.heap.size = g := ⟨_, rfl⟩
  have hWs : W.heap.size = g + 1 := by rw [← hW, ← hg]; simp
  rw [hg] at b0
  have b1 := Blk.new W 26 (txV A1 c1 A2 c2 t)
  have b01 := b0.alloc (.cells (txV A1 c1 A2 c2 t) 26)
  have B1 := B0.alloc B0.size (.cells (txV A1 c1 A2 c2 t) 26)
  obtain ⟨V, hV⟩ : ∃ V, W.alloc (.cells (txV A1 c1 A2 c2 t) 26) = V := ⟨_, rfl⟩
  rw [hV] at b1 b01 B1
  rw [hWs] at b1
  have hVg : V.heap.size = g + 2 := by rw [← hV]; simp; omega
  have hT := h.below B1
  have qa : ∀ X, Below V.heap.size V X → (X.cell? ⟨g, 0, none⟩ = some (.slice A1 t.ins.length c1) ∧ X.cell? ⟨g, 1, none⟩ = some (.slice A2 t.outs.length c2) ∧ X.cell? ⟨g, 2, none⟩ = some (.int .u64 t.fee) ∧ X.cell? ⟨g, 3, none⟩ = some (.int .i64 t.exp)) ∧ X.cell? ⟨g + 1, 0, none⟩ = some (.slice A1 t.ins.length c1) ∧ X.cell? ⟨g + 1, 1, none⟩ = some (.slice A2 t.outs.length c2) ∧ X.cell? ⟨g + 1, 2, none⟩ = some (.int .u64 t.fee) ∧ X.cell? ⟨g + 1, 3, none⟩ = some (.int .i64 t.exp) := fun X hX => by
    have h1 := b01.fr (Fr.of_below hX) (by omega)
    have h2 := b1.fr (Fr.of_below hX) (by omega)
    exact ⟨⟨h1.cell 0, h1.cell 1, h1.cell 2, h1.cell 3⟩, h2.cell 0, h2.cell 1, h2.cell 2, h2.cell 3⟩
  have e1 := eqIn_same A1 c1 t.ins V hT.bd.ins hT.ins (by omega) (fun i hi => (hsec i hi).1)
  have e2 := fun X (hX : Below V.heap.size V X) => eqOut_same A2 c2 t.outs X hT.bd.outs (hT.outs.below hX) (by omega)
  obtain ⟨n, hn⟩ : ∃ n, t.ins.length = n := ⟨_, rfl⟩
  obtain ⟨m, hm⟩ : ∃ n, t.outs.length = n := ⟨_, rfl⟩
  obtain ⟨fe, hfe⟩ : ∃ n, t.fee = n := ⟨_, rfl⟩
  obtain ⟨ex, hex⟩ : ∃ n, t.exp = n := ⟨_, rfl⟩
  unfold txV at hW hV ⊢
  simp only [hn, hm, hfe, hex] at qa e1 e2 hW hV ⊢
  obtain ⟨⟨p0, p1, p2, p3⟩, r0, r1, r2, r3⟩ := qa V (Below.refl _ _)
  have HW := Lib.hid hW
  have HV := Lib.hid hV
  have HG := Lib.hid hg
  have HQA := Lib.hid qa
  have HE2 := Lib.hid e2
  have HBW := Lib.hid B1
  clear hW hV hg qa e2 B1 b0 B0 b01 b1 hT hck hl1 hsec hn hm hfe hex h hWs hVg
  go_enter Tryz.func191, Tryz.ntmps191
  go_upto_region 1 with fail
  rw [HW.out, HV.out, HG.out]
  go_wp2_with fail
  with_reducible refine e1.mono ?_
  rintro e w1 ⟨rfl, hB1⟩
  have e2 := HE2.out w1 hB1
  clear p0 p1 p2 p3 r0 r1 r2 r3
  obtain ⟨⟨p0, p1, p2, p3⟩, r0, r1, r2, r3⟩ := HQA.out w1 hB1
  have HB1 := Lib.hid hB1
  clear hB1 e1
  go_wp2_with fail
  with_reducible refine e2.mono ?_
  rintro e w2 ⟨rfl, hB2⟩
  have hBV := HB1.out.trans (hB2.mono HB1.out.size)
  clear p0 p1 p2 p3 r0 r1 r2 r3
  obtain ⟨⟨p0, p1, p2, p3⟩, r0, r1, r2, r3⟩ := HQA.out w2 hBV
  have HB2 := Lib.hid (HBW.out.trans (hBV.mono HBW.out.size))
  clear hB2 e2 hBV
  go_wp2_with fail
  go_ret
  exact ⟨rfl, HB2.out⟩
end Go.Proofs.YtdkanehjahpehaaGreatDoor
end

section
namespace Go.Proofs.YtdkanehjahpehaaGreatDoor
open Go.RowKit Go.Shelf
set_option maxRecDepth 100000

def zeroO : OutD := ⟨List.replicate 32 0, 0⟩
theorem zeroO_bd : zeroO.Bd := ⟨by simp [zeroO], by intro x hx; have := List.eq_of_mem_replicate hx; omega, by simp [zeroO]⟩
/-- A command that has a transaction and no certificates. -/
def cmdV (kind : Int) (A1 : Option Addr) (c1 : Nat) (A2 : Option Addr) (c2 : Nat) (t : TxD) : List Value :=
  .int .i64 kind :: ((txV A1 c1 A2 c2 t).toList ++ (.slice none 0 0 :: (outV zeroO ++ (.int .i64 0 :: .int .i64 0 :: bys (List.replicate 32 0)))))
theorem cmdV_len (kind : Int) (A1 : Option Addr) (c1 : Nat) (A2 : Option Addr) (c2 : Nat) (t : TxD) : (cmdV kind A1 c1 A2 c2 t).length = 73 := by
  simp [cmdV, txV, outV, bys_length, zeroO]
theorem cmdV_one (kind : Int) (A1 : Option Addr) (c1 : Nat) (A2 : Option Addr) (c2 : Nat) (t : TxD) : ∀ v ∈ cmdV kind A1 c1 A2 c2 t, v.oneCell' = true := by
  intro v hv
  simp only [cmdV, txV, List.mem_append, List.mem_cons, List.not_mem_nil, or_false] at hv
  rcases hv with rfl | (rfl | rfl | rfl | rfl) | rfl | h | rfl | rfl | h
  · rfl
  · rfl
  · rfl
  · rfl
  · rfl
  · rfl
  · exact outV_one _ _ h
  · rfl
  · rfl
  · exact bys_one _ _ h

def zeroT : TxD := ⟨[], [], 0, 0⟩
theorem ldCmd_of (v : Value) : Instr.loadAt 105 v = LDs 105 v := rfl
theorem stCmd_of (v x : Value) : Instr.storeAt 105 v x = STs 105 v x := rfl
theorem alCmd_of : Instr.alloc 105 true (.tuple #[]) = ALs 105 := rfl
theorem bdCmd_of (parts : Array (Nat × Value)) : Instr.build 105 parts = BDs 105 parts := rfl
theorem uCmd : (Tryz.prog.underlying 105).map isAggD = some true := by kernel_rfl
theorem iCmd : (Tryz.prog.info? 105).map (·.size) = some 73 := by kernel_rfl
theorem zCmd : (((Tryz.prog.info? 105).bind (·.zero)).map (·.cells.size)) = some 73 := by kernel_rfl
theorem bdCmd3 (w : World) : (BDs 105 #[(0, .int .i64 3)]).run Tryz.prog w = .ok (.agg (cmdV 3 none 0 none 0 zeroT).toArray) w := run_build w _ _ _ (by kernel_rfl)
theorem cmdV_tx (kind : Int) (A1 : Option Addr) (c1 : Nat) (A2 : Option Addr) (c2 : Nat) (t : TxD) : ((cmdV kind A1 c1 A2 c2 t).toArray.toList.drop 1).take 4 = (txV A1 c1 A2 c2 t).toList := rfl
theorem cmdV_to (kind : Int) (A1 : Option Addr) (c1 : Nat) (A2 : Option Addr) (c2 : Nat) (t : TxD) : ((cmdV kind A1 c1 A2 c2 t).toArray.toList.drop 6).take 33 = outV zeroO := rfl
theorem cmdV_id (kind : Int) (A1 : Option Addr) (c1 : Nat) (A2 : Option Addr) (c2 : Nat) (t : TxD) : ((cmdV kind A1 c1 A2 c2 t).toArray.toList.drop 41).take 32 = bys (List.replicate 32 0) := rfl
theorem cmdV_splice (kind : Int) (A1 : Option Addr) (c1 : Nat) (A2 : Option Addr) (c2 : Nat) (t : TxD) : splice (cmdV kind none 0 none 0 zeroT).toArray 1 (txV A1 c1 A2 c2 t).toList = (cmdV kind A1 c1 A2 c2 t).toArray := rfl
theorem eqIdY_of (x y : Value) : binOp .eql 48 x y = EQs 48 x y := rfl
theorem EQs_idz (w : World) : (EQs 48 (.agg (bys (List.replicate 32 0)).toArray) (.agg (bys (List.replicate 32 0)).toArray)).run Tryz.prog w = .ok (.bool true) w := by kernel_rfl

/-- A block that holds a command. -/
theorem Cmd.cells {w : World} {g : Nat} {e : TypeId} {kind : Int} {A1 : Option Addr} {c1 : Nat} {A2 : Option Addr} {c2 : Nat} {t : TxD} (h : Blk w g e (cmdV kind A1 c1 A2 c2 t).toArray) :
    w.cell? ⟨g, 0, none⟩ = some (.int .i64 kind) ∧ w.cell? ⟨g, 5, none⟩ = some (.slice none 0 0) ∧ w.cell? ⟨g, 38, none⟩ = some (.int .u64 0) ∧ w.cell? ⟨g, 39, none⟩ = some (.int .i64 0) ∧ w.cell? ⟨g, 40, none⟩ = some (.int .i64 0) ∧
      (LDs 26 (.pointer (some ⟨g, 1, none⟩))).run Tryz.prog w = .ok (.agg (txV A1 c1 A2 c2 t)) w ∧ (LDs 80 (.pointer (some ⟨g, 6, none⟩))).run Tryz.prog w = .ok (.agg (outV zeroO).toArray) w ∧
      (LDs 48 (.pointer (some ⟨g, 41, none⟩))).run Tryz.prog w = .ok (.agg (bys (List.replicate 32 0)).toArray) w ∧ (LDs 105 (.pointer (some ⟨g, 0, none⟩))).run Tryz.prog w = .ok (.agg (cmdV kind A1 c1 A2 c2 t).toArray) w := by
  refine ⟨h.cell 0, h.cell 5, h.cell 38, h.cell 39, h.cell 40, ?_, ?_, ?_, LDs_allY uCmd iCmd _ h (cmdV_len _ _ _ _ _ _)⟩
  · have := LDs_aggB (P := Tryz.prog) uTxY iTxY h (off := 1) (txV A1 c1 A2 c2 t).toList rfl (cmdV_tx _ _ _ _ _ _)
    simpa using this
  · exact LDs_aggB (P := Tryz.prog) uOut iOut h (off := 6) (outV zeroO) rfl (cmdV_to _ _ _ _ _ _)
  · exact LDs_aggB (P := Tryz.prog) u123Y i123 h (off := 41) (bys (List.replicate 32 0)) rfl (cmdV_id _ _ _ _ _ _)
attribute [local go_sem ↓] ldCmd_of stCmd_of alCmd_of bdCmd_of ldTx_ofY stTx_ofY ldOut_of ld123 eqOut_ofY eqIdY_of

theorem hastx_lock (w : World) : Calls Tryz.prog 141 #[.int .i64 3] w fun e w' => e = .returned (.bool true) ∧ w' = w := by
  go_enter Tryz.func141, Tryz.ntmps141
  go_wp2_with fail
  go_ret
  exact ⟨rfl, rfl⟩
theorem hascerts_lock (w : World) : Calls Tryz.prog 142 #[.int .i64 3] w fun e w' => e = .returned (.bool false) ∧ w' = w := by
  go_enter Tryz.func142, Tryz.ntmps142
  go_wp2_with fail
  go_ret
  exact ⟨rfl, rfl⟩
theorem ifCert_nil (f : Value) (w : World) : Calls Tryz.prog 194 #[.slice none 0 0, f] w fun e w' => e = .returned (.int .i64 (-1)) ∧ w' = w := by
  go_enter Tryz.func194, Tryz.ntmps194
  go_wp2_with fail
  go_loopg [5, 8] 0 (fun _ _ c wr => c = .int .i64 0 ∧ wr = w)
  case atStart => exact ⟨rfl, rfl⟩
  case round =>
    obtain ⟨rfl, rfl⟩ := hrel
    go_wp2_with fail
    go_ret
    exact ⟨rfl, rfl⟩
theorem cfCert_nil (f : Value) (w : World) : Calls Tryz.prog 169 #[.slice none 0 0, f] w fun e w' => e = .returned (.bool false) ∧ w' = w := by
  have h := ifCert_nil f w
  go_enter Tryz.func169, Tryz.ntmps169
  go_wp2_with fail
  with_reducible refine h.mono ?_
  rintro e w1 ⟨rfl, rfl⟩
  go_wp2_with fail
  go_ret
  exact ⟨rfl, rfl⟩
theorem eqCert_nil (f : Value) (w : World) : Calls Tryz.prog 192 #[.slice none 0 0, .slice none 0 0, f] w fun e w' => e = .returned (.bool true) ∧ w' = w := by
  go_enter Tryz.func192, Tryz.ntmps192
  go_wp2_with fail
  go_loopg [7, 8, 9, 17] 0 (fun _ _ _ _ c wr => c = .int .i64 0 ∧ wr = w)
  case atStart => exact ⟨rfl, rfl⟩
  case round =>
    obtain ⟨rfl, rfl⟩ := hrel
    go_wp2_with fail
    go_ret
    exact ⟨rfl, rfl⟩
end Go.Proofs.YtdkanehjahpehaaGreatDoor
end

section
namespace Go.Proofs.YtdkanehjahpehaaGreatDoor
open Go.RowKit Go.Shelf
set_option maxRecDepth 100000
attribute [local go_sem ↓] ldCmd_of stCmd_of alCmd_of bdCmd_of ldTx_ofY stTx_ofY ldOut_of ld123 eqOut_ofY eqIdY_of

set_option maxHeartbeats 8000000 in
theorem used_lock (A1 : Option Addr) (c1 : Nat) (A2 : Option Addr) (c2 : Nat) (t : TxD) (w : World) :
    Calls Tryz.prog 168 #[.agg (cmdV 3 A1 c1 A2 c2 t).toArray] w fun e w' => e = .returned (.agg (cmdV 3 A1 c1 A2 c2 t).toArray) ∧ Below w.heap.size w w' := by
  obtain ⟨Z, hal, hst, hZs⟩ := alstY (P := Tryz.prog) (t := 105) iCmd zCmd
  obtain ⟨cv, hcv⟩ : ∃ x, cmdV 3 A1 c1 A2 c2 t = x := ⟨_, rfl⟩
  obtain ⟨c0, hc0⟩ : ∃ x, cmdV 3 none 0 none 0 zeroT = x := ⟨_, rfl⟩
  have hcl : cv.length = 73 := by rw [← hcv]; exact cmdV_len _ _ _ _ _ _
  have hc0l : c0.length = 73 := by rw [← hc0]; exact cmdV_len _ _ _ _ _ _
  have hcv1 : ∀ v ∈ cv, v.oneCell' = true := by rw [← hcv]; exact cmdV_one _ _ _ _ _ _
  have hc01 : ∀ v ∈ c0, v.oneCell' = true := by rw [← hc0]; exact cmdV_one _ _ _ _ _ _
  have hbd := fun X => bdCmd3 X
  simp only [hc0] at hbd
  have hsp := cmdV_splice 3 A1 c1 A2 c2 t
  rw [hcv, hc0] at hsp
  -- the first block: the argument; the second: the result; the third: u
  obtain ⟨g, hg⟩ : ∃ g, w.heap.size = g := ⟨_, rfl⟩
  have b0 := Blk.new w 105 cv.toArray
  have B0 : Below w.heap.size w (w.alloc (.cells cv.toArray 105)) := (Below.refl _ w).alloc (Nat.le_refl _) _
  obtain ⟨W, hW⟩ : ∃ W, w.alloc (.cells cv.toArray 105) = W := ⟨_, rfl⟩
  have hWs : W.heap.size = g + 1 := by rw [← hW, ← hg]; simp
  rw [hW] at b0 B0
  rw [hg] at b0
  have b01 := b0.alloc (.cells Z 105)
  have b1 := Blk.new W 105 Z
  have B1 := B0.alloc B0.size (.cells Z 105)
  have hal1 := hal W
  obtain ⟨V, hV⟩ : ∃ V, W.alloc (.cells Z 105) = V := ⟨_, rfl⟩
  have hVs : V.heap.size = g + 2 := by rw [← hV]; simp; omega
  rw [hV] at b01 b1 B1 hal1
  rw [hWs] at b1 hal1
  have b02 := b01.alloc (.cells c0.toArray 105)
  have b12 := b1.alloc (.cells c0.toArray 105)
  have b2 := Blk.new V 105 c0.toArray
  have B2 := B1.alloc B1.size (.cells c0.toArray 105)
  have hal2 := hal V
  have hst2 := hst V c0 hc0l hc01
  obtain ⟨U, hU⟩ : ∃ V', V.alloc (.cells c0.toArray 105) = V' := ⟨_, rfl⟩
  rw [hU] at b02 b12 b2 B2
  rw [hVs] at b2
  rw [← hcv] at b01 b02
  obtain ⟨k0, -⟩ := Cmd.cells b01
  obtain ⟨u0, -, -, -, -, utx, -⟩ := Cmd.cells b02
  have hstx := STs_blk (P := Tryz.prog) iTxY b2 (off := 1) (txV A1 c1 A2 c2 t).toList rfl (by simp [hc0l]) (by simp [txV, Value.oneCell'])
  rw [hsp] at hstx
  simp only [show (txV A1 c1 A2 c2 t).toList.toArray = txV A1 c1 A2 c2 t by simp] at hstx
  have b3 := b2.row_ cv.toArray
  have b13 := b12.rowFar (g' := g + 2) (by omega) cv.toArray
  have B3 := Below.setRow (g := g + 2) B2 (by omega) cv.toArray
  obtain ⟨X3, hX3⟩ : ∃ X, U.setRow (g + 2) cv.toArray = X := ⟨_, rfl⟩
  rw [hX3] at b3 b13 B3
  have hld := LDs_allY (P := Tryz.prog) uCmd iCmd cv b3 hcl
  have hstr := STs_blk (P := Tryz.prog) iCmd b13 (off := 0) cv hcl (by omega) hcv1
  rw [splice_whole Z cv (by omega)] at hstr
  have b14 := b13.row_ cv.toArray
  have B4 := Below.setRow (g := g + 1) B3 (by omega) cv.toArray
  obtain ⟨tv, htv⟩ : ∃ x, txV A1 c1 A2 c2 t = x := ⟨_, rfl⟩
  rw [htv] at utx hstx
  rw [hcv]
  have HW := Lib.hid hW
  have HV := Lib.hid hV
  have HU := Lib.hid hU
  have HX3 := Lib.hid hX3
  have HG := Lib.hid hg
  have HWS := Lib.hid hWs
  have HVS := Lib.hid hVs
  have HB14 := Lib.hid b14
  have HBB := Lib.hid B4
  have HCL := Lib.hid hcl
  clear hW hV hU hX3 hg hWs hVs b14 B4 hcl b0 B0 b01 b1 B1 b02 b12 b2 B2 b3 b13 B3 hcv hc0 hsp hc0l hcv1 hc01 htv hZs hst
  go_enter Tryz.func168, Tryz.ntmps168
  go_upto_region 1 with fail
  rw [HW.out, HV.out, HG.out]
  clear hal1
  go_upto_region 2 with fail
  rw [HU.out, HVS.out]
  clear hal2 hst2 hbd
  go_upto_region 16 with fail
  rw [HX3.out]
  clear hstx utx
  go_wp2_with fail
  obtain ⟨dC, hdC, hdA⟩ := Option.map_eq_some_iff.1 uCmd
  refine bodyPost_ret (results_arr rfl _ _ (g + 1) 105 cv dC rfl HB14.out hdC hdA (by rw [HCL.out]; exact iCmd)) rfl ?_
  exact ⟨rfl, HBB.out⟩

set_option maxHeartbeats 8000000 in
theorem same_lock (A1 : Option Addr) (c1 : Nat) (A2 : Option Addr) (c2 : Nat) (t : TxD) (hck : checkP t = 0) (w : World) (h : TxAt w A1 A2 t) :
    Calls Tryz.prog 167 #[.agg (cmdV 3 A1 c1 A2 c2 t).toArray, .agg (cmdV 3 A1 c1 A2 c2 t).toArray] w fun e w' => e = .returned (.bool true) ∧ Below w.heap.size w w' := by
  obtain ⟨cv, hcv⟩ : ∃ x, cmdV 3 A1 c1 A2 c2 t = x := ⟨_, rfl⟩
  obtain ⟨g, hg⟩ : ∃ g, w.heap.size = g := ⟨_, rfl⟩
  have b0 := Blk.new w 105 cv.toArray
  have B0 : Below w.heap.size w (w.alloc (.cells cv.toArray 105)) := (Below.refl _ w).alloc (Nat.le_refl _) _
  obtain ⟨W, hW⟩ : ∃ W, w.alloc (.cells cv.toArray 105) = W := ⟨_, rfl⟩
  have hWs : W.heap.size = g + 1 := by rw [← hW, ← hg]; simp
  rw [hW] at b0 B0
  rw [hg] at b0
  have b01 := b0.alloc (.cells cv.toArray 105)
  have b1 := Blk.new W 105 cv.toArray
  have B1 := B0.alloc B0.size (.cells cv.toArray 105)
  obtain ⟨V, hV⟩ : ∃ V, W.alloc (.cells cv.toArray 105) = V := ⟨_, rfl⟩
  have hVs : V.heap.size = g + 2 := by rw [← hV]; simp; omega
  rw [hV] at b01 b1 B1
  rw [hWs] at b1
  rw [← hcv] at b01 b1
  have hq := fun X (hX : Below V.heap.size V X) => And.intro (Cmd.cells (b01.fr (Fr.of_below hX) (by omega))) (Cmd.cells (b1.fr (Fr.of_below hX) (by omega)))
  have hts := txsame_any A1 c1 A2 c2 t V (h.below B1) hck
  have hcn := fun X => eqCert_nil (.func (.func 193) #[] #[]) X
  have heo := EQs_outY zeroO_bd
  have hei := EQs_idz
  obtain ⟨tv, htv⟩ : ∃ x, txV A1 c1 A2 c2 t = x := ⟨_, rfl⟩
  obtain ⟨ov, hov⟩ : ∃ x, (outV zeroO).toArray = x := ⟨_, rfl⟩
  obtain ⟨iv, hiv⟩ : ∃ x, (bys (List.replicate 32 0)).toArray = x := ⟨_, rfl⟩
  simp only [htv, hov, hiv, hcv] at hq hts heo hei
  rw [hcv]
  obtain ⟨⟨p0, p5, p38, p39, p40, ptx, pto, pid, -⟩, q0, q5, q38, q39, q40, qtx, qto, qid, -⟩ := hq V (Below.refl _ _)
  have HW := Lib.hid hW
  have HV := Lib.hid hV
  have HG := Lib.hid hg
  have HQ := Lib.hid hq
  have HBW := Lib.hid B1
  clear hW hV hg hq B1 b0 B0 b01 b1 hcv htv hov hiv h hck hWs hVs
  go_enter Tryz.func167, Tryz.ntmps167
  go_upto_region 1 with fail
  rw [HW.out, HV.out, HG.out]
  go_wp2_with fail
  with_reducible refine hts.mono ?_
  rintro e w1 ⟨rfl, hB1⟩
  clear p0 p5 p38 p39 p40 ptx pto pid q0 q5 q38 q39 q40 qtx qto qid
  obtain ⟨⟨-, p5, -⟩, -, q5, -⟩ := HQ.out w1 hB1
  have HB1 := Lib.hid (HBW.out.trans (hB1.mono HBW.out.size))
  clear hB1 hts
  have hcn1 := hcn w1
  clear hcn
  go_wp2_with fail
  with_reducible refine hcn1.mono ?_
  rintro e w2 ⟨rfl, rfl⟩
  go_wp2_with fail
  go_ret
  exact ⟨rfl, HB1.out⟩

set_option maxHeartbeats 8000000 in
theorem check_lock (A1 : Option Addr) (c1 : Nat) (A2 : Option Addr) (c2 : Nat) (t : TxD) (hck : checkP t = 0) (w : World) (h : TxAt w A1 A2 t) :
    Calls Tryz.prog 140 #[.agg (cmdV 3 A1 c1 A2 c2 t).toArray] w fun e w' => e = .returned (.int .i64 0) ∧ Below w.heap.size w w' := by
  obtain ⟨hl1, _, _, _⟩ := checkP_ok hck
  obtain ⟨⟨_, hn16⟩, ⟨_, hm16⟩, _, _⟩ := longP_not hl1
  have b0 := Blk.new w 105 ((cmdV 3 A1 c1 A2 c2 t).toArray)
  have B0 : Below w.heap.size w (w.alloc (.cells ((cmdV 3 A1 c1 A2 c2 t).toArray) 105)) := (Below.refl _ w).alloc (Nat.le_refl _) _
  obtain ⟨W, hW⟩ : ∃ W, w.alloc (.cells ((cmdV 3 A1 c1 A2 c2 t).toArray) 105) = W := ⟨_, rfl⟩
  rw [hW] at b0 B0
  obtain ⟨g, hg⟩ : ∃ g, w.heap.size = g := ⟨_, rfl⟩
  rw [hg] at b0
  have hq := fun X (hX : Below W.heap.size W X) => Cmd.cells (b0.fr (Fr.of_below hX) (by have := b0.lt; omega))
  have hus := fun X => used_lock A1 c1 A2 c2 t X
  have hsm := fun X (hX : Below W.heap.size W X) => same_lock A1 c1 A2 c2 t hck X ((h.below B0).below hX)
  have hcx := fun X (hX : Below W.heap.size W X) => txcheck_any A1 c1 A2 c2 t X ((h.below B0).below hX) (by omega) (by omega)
  simp only [hck] at hcx
  obtain ⟨cv, hcv⟩ : ∃ x, (cmdV 3 A1 c1 A2 c2 t).toArray = x := ⟨_, rfl⟩
  obtain ⟨tv, htv⟩ : ∃ x, txV A1 c1 A2 c2 t = x := ⟨_, rfl⟩
  simp only [hcv, htv] at hq hus hsm hcx
  rw [hcv] at hW ⊢
  have hq0 := (hq W (Below.refl _ _)).1
  obtain ⟨S0, hS0⟩ : ∃ S0 : World → Prop, (fun X => (LDs 105 (.pointer (some ⟨g, 0, none⟩))).run Tryz.prog X = .ok (.agg cv) X ∧ X.cell? ⟨g, 38, none⟩ = some (.int .u64 0) ∧ X.cell? ⟨g, 39, none⟩ = some (.int .i64 0) ∧ X.cell? ⟨g, 40, none⟩ = some (.int .i64 0)) = S0 := ⟨_, rfl⟩
  have hSS : ∀ X, Below W.heap.size W X → S0 X := fun X hX => by
    obtain ⟨-, -, p38, p39, p40, -, -, -, pl⟩ := hq X hX
    rw [← hS0]
    exact ⟨pl, p38, p39, p40⟩
  have HW := Lib.hid hW
  have HG := Lib.hid hg
  have HQ := Lib.hid hq
  have HB0 := Lib.hid B0
  have HSE := Lib.hid hS0
  have HSS := Lib.hid hSS
  have HUS := Lib.hid hus
  have HSM := Lib.hid hsm
  have HCX := Lib.hid hcx
  clear hW hg hq B0 hS0 hSS hus hsm hcx b0 hcv htv hck hl1
  go_enter Tryz.func140, Tryz.ntmps140
  go_upto_region 1 with fail
  rw [HW.out, HG.out]
  go_upto_region 3 with fail
  clear hq0
  have c2 := HUS.out W.drew
  refine wp_txO [(0, 0), (1, 0), (2, 1), (3, 1), (4, 3), (5, 3), (6, 3), (7, 0), (8, 3), (9, 3), (10, 3), (11, 3), (12, 0), (13, 3), (14, 3), (15, 3), (16, 3), (17, 3), (18, 0), (19, 3), (20, 3), (21, 3), (22, 3), (23, 0), (24, 3), (25, 3), (26, 3), (27, 3), (28, 0), (29, 3), (30, 3), (31, 3)] S0 (by kernel_rfl) (by kernel_rfl) (by kernel_rfl) (by kernel_rfl) (HSS.out _ (Below.refl _ _).drew) ?_
  iterate 2 (with_reducible refine wpTxO_takeN (o := ?_) (v := ?_) (a' := ?_) (by with_unfolding_all rfl) (by with_unfolding_all rfl) (fun W' hS => ?_) ?_ ?_; rotate_left 2; (focus (rw [← HSE.out] at hS; obtain ⟨t1, t2, t3, t4⟩ := hS; go_simp <;> with_reducible rfl)); focus (go_simp <;> with_reducible rfl))
  with_reducible refine wpTxO_want (o := ?_) (by with_unfolding_all rfl) (by with_unfolding_all rfl) (fun K hK => ?_)
  try simp only [List.getElem_toArray, List.getElem_cons_succ, List.getElem_cons_zero]
  go_simp
  with_reducible refine c2.mono ?_
  rintro e w2 ⟨rfl, hB2⟩
  have hB2W := ((Below.refl W.heap.size W).drew).trans (hB2.mono (by simp))
  have c3 := HSM.out w2 hB2W
  have HB2 := Lib.hid hB2W
  clear hB2 hB2W c2
  with_reducible refine hK _ _ (HSS.out _ HB2.out) ?_
  clear hK K
  with_reducible refine wpTxO_want (o := ?_) (by with_unfolding_all rfl) (by with_unfolding_all rfl) (fun K hK => ?_)
  try simp only [List.getElem_toArray, List.getElem_cons_succ, List.getElem_cons_zero]
  go_simp
  with_reducible refine c3.mono ?_
  rintro e w3 ⟨rfl, hB3⟩
  have HB3 := Lib.hid (HB2.out.trans (hB3.mono HB2.out.size))
  clear hB3 c3
  with_reducible refine hK _ _ (HSS.out _ HB3.out) ?_
  clear hK K
  iterate 3 (with_reducible refine wpTxO_evN (o := ?_) (v := ?_) (a' := ?_) (by with_unfolding_all rfl) (by with_unfolding_all rfl) (fun W' => ?_) ?_ ?_; rotate_left 2; (focus (go_simp <;> with_reducible rfl)); focus (go_simp <;> with_reducible rfl))
  iterate 1 (with_reducible refine wpTxO_takeN (o := ?_) (v := ?_) (a' := ?_) (by with_unfolding_all rfl) (by with_unfolding_all rfl) (fun W' hS => ?_) ?_ ?_; rotate_left 2; (focus (rw [← HSE.out] at hS; obtain ⟨t1, t2, t3, t4⟩ := hS; go_simp <;> with_reducible rfl)); focus (go_simp <;> with_reducible rfl))
  iterate 4 (with_reducible refine wpTxO_evN (o := ?_) (v := ?_) (a' := ?_) (by with_unfolding_all rfl) (by with_unfolding_all rfl) (fun W' => ?_) ?_ ?_; rotate_left 2; (focus (go_simp <;> with_reducible rfl)); focus (go_simp <;> with_reducible rfl))
  iterate 1 (with_reducible refine wpTxO_takeN (o := ?_) (v := ?_) (a' := ?_) (by with_unfolding_all rfl) (by with_unfolding_all rfl) (fun W' hS => ?_) ?_ ?_; rotate_left 2; (focus (rw [← HSE.out] at hS; obtain ⟨t1, t2, t3, t4⟩ := hS; go_simp <;> with_reducible rfl)); focus (go_simp <;> with_reducible rfl))
  iterate 5 (with_reducible refine wpTxO_evN (o := ?_) (v := ?_) (a' := ?_) (by with_unfolding_all rfl) (by with_unfolding_all rfl) (fun W' => ?_) ?_ ?_; rotate_left 2; (focus (go_simp <;> with_reducible rfl)); focus (go_simp <;> with_reducible rfl))
  iterate 1 (with_reducible refine wpTxO_takeN (o := ?_) (v := ?_) (a' := ?_) (by with_unfolding_all rfl) (by with_unfolding_all rfl) (fun W' hS => ?_) ?_ ?_; rotate_left 2; (focus (rw [← HSE.out] at hS; obtain ⟨t1, t2, t3, t4⟩ := hS; go_simp <;> with_reducible rfl)); focus (go_simp <;> with_reducible rfl))
  iterate 4 (with_reducible refine wpTxO_evN (o := ?_) (v := ?_) (a' := ?_) (by with_unfolding_all rfl) (by with_unfolding_all rfl) (fun W' => ?_) ?_ ?_; rotate_left 2; (focus (go_simp <;> with_reducible rfl)); focus (go_simp <;> with_reducible rfl))
  iterate 1 (with_reducible refine wpTxO_takeN (o := ?_) (v := ?_) (a' := ?_) (by with_unfolding_all rfl) (by with_unfolding_all rfl) (fun W' hS => ?_) ?_ ?_; rotate_left 2; (focus (rw [← HSE.out] at hS; obtain ⟨t1, t2, t3, t4⟩ := hS; go_simp <;> with_reducible rfl)); focus (go_simp <;> with_reducible rfl))
  iterate 4 (with_reducible refine wpTxO_evN (o := ?_) (v := ?_) (a' := ?_) (by with_unfolding_all rfl) (by with_unfolding_all rfl) (fun W' => ?_) ?_ ?_; rotate_left 2; (focus (go_simp <;> with_reducible rfl)); focus (go_simp <;> with_reducible rfl))
  iterate 1 (with_reducible refine wpTxO_takeN (o := ?_) (v := ?_) (a' := ?_) (by with_unfolding_all rfl) (by with_unfolding_all rfl) (fun W' hS => ?_) ?_ ?_; rotate_left 2; (focus (rw [← HSE.out] at hS; obtain ⟨t1, t2, t3, t4⟩ := hS; go_simp <;> with_reducible rfl)); focus (go_simp <;> with_reducible rfl))
  iterate 3 (with_reducible refine wpTxO_evN (o := ?_) (v := ?_) (a' := ?_) (by with_unfolding_all rfl) (by with_unfolding_all rfl) (fun W' => ?_) ?_ ?_; rotate_left 2; (focus (go_simp <;> with_reducible rfl)); focus (go_simp <;> with_reducible rfl))
  with_reducible refine wpTxO_nil ?_
  rw [noPan_normal]
  obtain ⟨p0, p5, -, -, -, ptx, -⟩ := HQ.out w3 HB3.out
  have hht := hastx_lock w3
  have hcx := HCX.out w3 HB3.out
  go_wp2_with fail
  with_reducible refine hht.mono ?_
  rintro e w4 ⟨rfl, rfl⟩
  go_wp2_with fail
  with_reducible refine hcx.mono ?_
  rintro e w5 ⟨rfl, hB5⟩
  have hB5W := HB3.out.trans (hB5.mono HB3.out.size)
  clear p0 p5 ptx
  obtain ⟨-, p5, -⟩ := HQ.out w5 hB5W
  have HB5 := Lib.hid (HB0.out.trans (hB5W.mono HB0.out.size))
  have hcf := cfCert_nil (.func (.func 170) #[] #[]) w5
  clear hB5 hB5W hcx
  go_wp2_with fail
  with_reducible refine hcf.mono ?_
  rintro e w6 ⟨rfl, rfl⟩
  go_wp2_with fail
  go_ret
  exact ⟨rfl, HB5.out⟩
end Go.Proofs.YtdkanehjahpehaaGreatDoor
end

section
namespace Go.Proofs.YtdkanehjahpehaaGreatDoor
open Go.RowKit Go.Shelf
set_option maxRecDepth 100000
attribute [local go_sem ↓] ldCmd_of ldTx_ofY

def lockF (t : TxD) : List Int := numP 3 ++ (numP (formTx t).length ++ formTx t)
set_option maxHeartbeats 8000000 in
theorem cmdput_lock (A1 : Option Addr) (c1 : Nat) (A2 : Option Addr) (c2 : Nat) (t : TxD) (hck : checkP t = 0) (w : World) (h : TxAt w A1 A2 t) :
    Calls Tryz.prog 94 #[.agg (cmdV 3 A1 c1 A2 c2 t).toArray] w fun e w' => (∃ v, e = .returned (.tuple #[v, .int .i64 0]) ∧ Own8 w.heap.size w' v (lockF t)) ∧ Below w.heap.size w w' := by
  obtain ⟨hl1, _, _, _⟩ := checkP_ok hck
  obtain ⟨⟨_, hn16⟩, ⟨_, hm16⟩, _, _⟩ := longP_not hl1
  have hfl := formTx_len h.bd hl1
  have hfb := formTx_bd h.bd hl1
  have hput : putP t = formTx t := by unfold putP; rw [if_pos hck]
  have b0 := Blk.new w 105 ((cmdV 3 A1 c1 A2 c2 t).toArray)
  have B0 : Below w.heap.size w (w.alloc (.cells ((cmdV 3 A1 c1 A2 c2 t).toArray) 105)) := (Below.refl _ w).alloc (Nat.le_refl _) _
  obtain ⟨W, hW⟩ : ∃ W, w.alloc (.cells ((cmdV 3 A1 c1 A2 c2 t).toArray) 105) = W := ⟨_, rfl⟩
  rw [hW] at b0 B0
  obtain ⟨g, hg⟩ : ∃ g, w.heap.size = g := ⟨_, rfl⟩
  rw [hg] at b0
  have hq := fun X (hX : Below W.heap.size W X) => Cmd.cells (b0.fr (Fr.of_below hX) (by have := b0.lt; omega))
  have hch := check_lock A1 c1 A2 c2 t hck W (h.below B0)
  have htp := fun X (hX : Below W.heap.size W X) => txput_any A1 c1 A2 c2 t X ((h.below B0).below hX) (by omega) (by omega)
  simp only [hck, hput] at htp
  obtain ⟨F, hF⟩ : ∃ x, formTx t = x := ⟨_, rfl⟩
  have hlF : lockF t = numP 3 ++ (numP F.length ++ F) := by unfold lockF; rw [hF]
  simp only [hF] at htp hfl hfb
  rw [hlF]
  obtain ⟨cv, hcv⟩ : ∃ x, (cmdV 3 A1 c1 A2 c2 t).toArray = x := ⟨_, rfl⟩
  obtain ⟨tv, htv⟩ : ∃ x, txV A1 c1 A2 c2 t = x := ⟨_, rfl⟩
  simp only [hcv, htv] at hq hch htp
  rw [hcv] at hW ⊢
  obtain ⟨-, -, -, -, -, -, -, -, l0⟩ := hq W (Below.refl _ _)
  have hgW := b0.lt
  have HW := Lib.hid hW
  have HG := Lib.hid hg
  have HQ := Lib.hid hq
  have HB0 := Lib.hid B0
  have HTP := Lib.hid htp
  have HFL := Lib.hid hfl
  have HFB := Lib.hid hfb
  clear hW hg hq B0 htp hfl hfb b0 hcv htv hck hl1 hF hlF hput h
  go_enter Tryz.func94, Tryz.ntmps94
  go_upto_region 1 with fail
  rw [HW.out, HG.out]
  go_wp2_with fail
  with_reducible refine hch.mono ?_
  rintro e w1 ⟨rfl, hB1⟩
  have hp0 : IsPen w1.heap.size (w1.alloc (.cells #[.slice none 0 0] 139)) w1.heap.size (.slice none 0 0) [] := ⟨Blk.new w1 _ _, Nat.le_refl _, Own8.nil _ _⟩
  have hB2 : Below w1.heap.size w1 (w1.alloc (.cells #[.slice none 0 0] 139)) := (Below.refl _ w1).alloc (Nat.le_refl _) _
  have hB2W := hB1.trans (hB2.mono hB1.size)
  have hw1s := hB1.size
  obtain ⟨w2, hw2⟩ : ∃ w2, w1.alloc (.cells #[.slice none 0 0] 139) = w2 := ⟨_, rfl⟩
  obtain ⟨p, hp⟩ : ∃ p, w1.heap.size = p := ⟨_, rfl⟩
  rw [hw2] at hp0 hB2 hB2W
  rw [hp] at hp0
  have hpw2 : p ≤ w2.heap.size := by have := hB2.size; omega
  have HW2 := Lib.hid hw2
  have HP := Lib.hid hp
  have HP0 := Lib.hid hp0
  have HB2 := Lib.hid hB2W
  clear hw2 hp hp0 hB2W hch hB1 hB2
  clear l0
  go_upto_region 5 with fail
  rw [HW2.out, HP.out]
  obtain ⟨k0, -⟩ := HQ.out w2 HB2.out
  have cn := num_any p p (.slice none 0 0) [] 3 (by omega) w2 HP0.out (by simp) hpw2
  rw [show ((3 : Nat) : Int) = 3 from rfl, List.nil_append] at cn
  go_wp2_with fail
  with_reducible refine cn.mono ?_
  rintro e w3 ⟨rfl, ⟨v3, hp3, hft3⟩, hf3⟩
  have hB3p := pen_below HP0.out hf3 hpw2
  have hB3 := HB2.out.trans (hB3p.mono (by have := HP.out; omega))
  clear k0
  obtain ⟨k0, -, -, -, -, ktx, -⟩ := HQ.out w3 hB3
  have hpw3 : p ≤ w3.heap.size := Nat.le_trans hpw2 hB3p.size
  have hht := hastx_lock w3
  have hput := HTP.out w3 hB3
  have HP3 := Lib.hid hp3
  have HB3 := Lib.hid hB3
  clear hp3 hB3 cn hft3 hf3 hB3p
  go_wp2_with fail
  with_reducible refine hht.mono ?_
  rintro e w4 ⟨rfl, rfl⟩
  go_wp2_with fail
  with_reducible refine hput.mono ?_
  rintro e w4 ⟨vt, rfl, hot, hB4⟩
  have hp4 := HP3.out
  have hp4b : Blk w4 p 139 _ := hp4.st.fr (Fr.of_below hB4) (by have := hp4.st.lt; omega)
  have hp4o : Own8 p w4 v3 _ := hp4.own.fr (Fr.of_below hB4) (fun k hk e => by have := (hp4.own.lt hk).2; omega)
  have hp4' : IsPen p w4 p v3 (numP 3) := ⟨hp4b, Nat.le_refl _, hp4o⟩
  obtain ⟨At, ct, rfl, hyt, hAt, hct⟩ := hot.byt HFB.out
  have hnt : At = none → ct = 0 := by
    rintro rfl
    obtain ⟨_, ⟨e, _⟩ | ⟨g9, cap9, cur9, e, _⟩⟩ := hot
    · simp only [Value.slice.injEq] at e
      exact e.2.2
    · simp at e
  have hpw4 : p ≤ w4.heap.size := Nat.le_trans hpw3 hB4.size
  have ct := text_any p p v3 (numP 3) At ct hnt F w4 hp4' hyt (fun a ha _ e => by
    have := hAt a ha
    rcases e with e | e
    · have := hp4.st.lt; omega
    · have := (hp4.own.lt e).2; omega) (by rw [numP_len]; have := leP_len8 (n := 3) (by omega); have := HFL.out; omega) (by rw [numP_len]; have := leP_len8 (n := 3) (by omega); omega) hpw4
  have hB4' := HB3.out.trans (hB4.mono HB3.out.size)
  obtain ⟨k, hk⟩ : ∃ k, F.length = k := ⟨_, rfl⟩
  have HP4 := Lib.hid hp4'
  have HB4 := Lib.hid hB4'
  have HK := Lib.hid hk
  clear hp4' hB4' hk hot hB4 hp4 hp4b hp4o hyt hAt hct hnt hput k0 ktx
  go_wp2_with fail
  with_reducible refine ct.mono ?_
  rintro e w5 ⟨rfl, ⟨v5, hp5, hft5⟩, hf5⟩
  have hB5p := pen_below HP4.out hf5 hpw4
  have hB5 := HB4.out.trans (hB5p.mono (by have := HP.out; omega))
  obtain ⟨k0, k5, -⟩ := HQ.out w5 hB5
  have hhc := hascerts_lock w5
  have hpw5 : p ≤ w5.heap.size := Nat.le_trans hpw4 hB5p.size
  have hbd : ∀ x ∈ numP 3 ++ (numP F.length ++ F), 0 ≤ x ∧ x ≤ 255 := by
    intro x hx
    simp only [List.mem_append] at hx
    rcases hx with hx | hx | hx
    · exact numP_bd (by omega) x hx
    · exact numP_bd (by have := HFL.out; omega) x hx
    · exact HFB.out x hx
  have hlen : (numP 3 ++ (numP F.length ++ F)).length ≤ 2700 := by
    simp only [List.length_append]
    have h1 := numP_le (n := 3) (by omega)
    have h2 := numP_le (n := F.length) (by have := HFL.out; omega)
    have := HFL.out
    omega
  have hpb := pbytes_any p p v5 _ hbd w5 hp5 (by omega)
  obtain ⟨L, hL⟩ : ∃ x, numP 3 ++ (numP F.length ++ F) = x := ⟨_, rfl⟩
  rw [hL] at hpb hlen
  have HB5 := Lib.hid hB5
  have HLL := Lib.hid hL
  clear hB5 hL hft5 hf5 hB5p hp5 ct hbd
  go_wp2_with fail
  with_reducible refine hhc.mono ?_
  rintro e w6 ⟨rfl, hw6⟩
  rw [hw6]
  clear hw6
  go_wp2_with fail
  go_loopg [9, 59] 0 (fun _ _ c wr => c = .int .i64 0 ∧ wr = w5)
  case atStart => exact ⟨rfl, rfl⟩
  case round =>
    obtain ⟨rfl, hwr⟩ := hrel
    rw [hwr]
    clear hwr
    go_wp2_with fail
    with_reducible refine hpb.mono ?_
    rintro e w7 ⟨v7, rfl, ho7, hB7⟩
    obtain ⟨A7, c7, rfl⟩ := ho7.form
    obtain ⟨n7, hn7⟩ : ∃ x, L.length = x := ⟨_, rfl⟩
    rw [hn7] at hlen
    rw [hn7]
    have hlen2 : (n7 : Int) ≤ 8192 := by omega
    have hB7W := HB0.out.trans ((HB5.out.trans (hB7.mono HB5.out.size)).mono HB0.out.size)
    have ho7w := ho7.base (B' := w.heap.size) (Nat.le_trans HB0.out.size HB5.out.size)
    rw [hn7] at ho7w
    rw [← HLL.out] at ho7w
    have HO7 := Lib.hid ho7w
    have HB7 := Lib.hid hB7W
    clear ho7w hB7W ho7 hB7 hpb hn7 hlen
    go_wp2_with fail
    go_ret2
    exact ⟨⟨_, rfl, HO7.out⟩, HB7.out⟩
end Go.Proofs.YtdkanehjahpehaaGreatDoor
end
