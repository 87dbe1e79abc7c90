/-
  tx.amounts.
-/
import Derived.Test.YtmflhidmhefljaaDoorTxC
import Derived.Test.YtmflhidmhefljaaDoorOwnW
namespace Go.Proofs.YtmflhidmhefljaaDoor
open Go.RowKit Go.Shelf
set_option maxRecDepth 100000

theorem uU64s : Tryd.prog.underlying 60 = some (.slice 33) := by kernel_rfl
theorem iU64s : (Tryd.prog.info? 33).map (fun i => (i.zero.map (·.cells.size), i.size, i.bytes)) = some (some 1, 1, 8) := by kernel_rfl
theorem ap64_of (xs : Array Value) (t : TypeId) : Builtin.append_ #[60, 60] t xs = APs #[60, 60] t xs := rfl
attribute [local go_sem ↓] ldIn_of stIn_of alIn_of ldPt_of ldOut_of stOut_of alOut_of ap64_of
/-- A row of amounts of one's own. -/
def Own64 (B : Nat) (w : World) (v : Value) (l : List Int) : Prop := OwnW 33 .u64 B w v l

theorem inV_am {i : InD} (h : i.Bd) (A : Option Addr) (c : Nat) : (inV i A c).toArray[33]? = some (.int .u64 i.am) := by
  simp [inV, ptL, bys_length, h.len]
theorem outV_am {o : OutD} (h : o.Bd) : (outV o).toArray[32]? = some (.int .u64 o.am) := by
  simp [outV, bys_length, h.len]

set_option maxHeartbeats 4000000 in
theorem amounts_any (A1 : Option Addr) (c1 : Nat) (A2 : Option Addr) (c2 : Nat) (t : TxD) (w : World) (h : TxAt w A1 A2 t) (hl : t.ins.length ≤ 1000000) (hl2 : t.outs.length ≤ 1000000) :
    Calls Tryd.prog 47 #[.agg (txV A1 c1 A2 c2 t)] w fun e w' => ∃ v u, e = .returned (.tuple #[v, u]) ∧ Own64 w.heap.size w' v (t.ins.map (·.am)) ∧ Own64 w.heap.size w' u (t.outs.map (·.am)) ∧ Below w.heap.size w w' := by
  obtain ⟨ins, outs, fee, exp⟩ := t
  have b0 := Blk.new w 35 (txV A1 c1 A2 c2 ⟨ins, outs, fee, exp⟩)
  have B0 : Below w.heap.size w (w.alloc (.cells (txV A1 c1 A2 c2 ⟨ins, outs, fee, exp⟩) 35)) := (Below.refl _ w).alloc (Nat.le_refl _) _
  obtain ⟨W, hW⟩ : ∃ W, w.alloc (.cells (txV A1 c1 A2 c2 ⟨ins, outs, fee, exp⟩) 35) = W := ⟨_, rfl⟩
  obtain ⟨g, hg⟩ : ∃ g, w.heap.size = g := ⟨_, rfl⟩
  rw [hW] at B0
  rw [hW, hg] at b0
  have q0 : W.cell? ⟨g, 0, none⟩ = some (.slice A1 ins.length c1) := b0.cell 0
  have q1 : W.cell? ⟨g, 1, none⟩ = some (.slice A2 outs.length c2) := b0.cell 1
  have hgW : g < W.heap.size := b0.lt
  obtain ⟨n, hn⟩ : ∃ n, ins.length = n := ⟨_, rfl⟩
  obtain ⟨m, hm⟩ : ∃ m, outs.length = m := ⟨_, rfl⟩
  obtain ⟨Z, hal, hst⟩ := alst (P := Tryd.prog) (t := 57) iIn zIn
  obtain ⟨Y, hbl, hsu⟩ := alst (P := Tryd.prog) (t := 59) iOut zOut
  unfold txV at hW ⊢
  simp only at hW hl hl2 ⊢
  have hh := h.ins
  have hbd := h.bd.ins
  have ho := h.outs
  have hbo := h.bd.outs
  simp only at hh hbd ho hbo
  rw [hn, hm] at hW ⊢
  rw [hn] at q0 hl
  rw [hm] at q1 hl2
  have HW := Lib.hid hW
  have HG := Lib.hid hg
  have HN := Lib.hid hn
  have HM := Lib.hid hm
  have HH := Lib.hid hh
  have HBD := Lib.hid hbd
  have HO := Lib.hid ho
  have HBO := Lib.hid hbo
  have HST := Lib.hid hst
  have HSU := Lib.hid hsu
  have HB0 := Lib.hid B0
  clear hW hg B0 b0 h hn hm hh hbd hst ho hbo hsu
  go_enter Tryd.func47, Tryd.ntmps47
  go_upto_region 1 with fail
  rw [HW.out, HG.out]
  go_upto_region 2 with fail
  go_loopg [2, 5, 11] n (fun kk v _ s wr => ∃ i : Nat, i + kk = n ∧ s = .int .i64 (i : Int) ∧ Own64 W.heap.size wr v ((ins.map (·.am)).take i) ∧ Below W.heap.size W wr)
  case atStart => exact ⟨0, by omega, rfl, OwnW.nil _ _ _ _, Below.refl _ _⟩
  case round =>
    obtain ⟨i, hi, rfl, hv, hB⟩ := hrel
    have hBw := HB0.out.trans (hB.mono HB0.out.size)
    by_cases hlt : i < n
    · have hltI : (i : Int) < (n : Int) := by omega
      have hil : i < ins.length := by rw [HN.out]; exact hlt
      obtain ⟨g', off, As, cs, rfl, hg', hat⟩ := HH.out.below hBw i hil
      have hbdi := HBD.out _ (List.getElem_mem hil)
      have hIn := LDs_agg uIn iIn wr g' (off + i * 35) (inV ins[i] As cs) (inV_len hbdi _ _) hat.cell
      have hSt := HST.out wr (inV ins[i] As cs) (inV_len hbdi _ _) (inV_one _ _ _)
      have b5 := Blk.new wr 57 (inV ins[i] As cs).toArray
      have B5 := hB.alloc hB.size (.cells (inV ins[i] As cs).toArray 57)
      have hv5 := hv.alloc (.cells (inV ins[i] As cs).toArray 57)
      have htk : (ins.map (·.am)).take (i + 1) = (ins.map (·.am)).take i ++ [ins[i].am] := by
        rw [List.take_succ_eq_append_getElem (by simpa using hil)]; simp
      have htl : ((ins.map (·.am)).take i).length = i := by simp; omega
      obtain ⟨W5, hW5⟩ : ∃ W5, wr.alloc (.cells (inV ins[i] As cs).toArray 57) = W5 := ⟨_, rfl⟩
      rw [hW5] at hSt b5 B5 hv5
      have qa : W5.cell? ⟨wr.heap.size, 33, none⟩ = some (.int .u64 ins[i].am) := by rw [b5.cell 33]; exact inV_am hbdi As cs
      obtain ⟨xs, hxs⟩ : ∃ xs, (inV ins[i] As cs).toArray = xs := ⟨_, rfl⟩
      rw [hxs] at hIn hSt
      obtain ⟨v', w', hap, ho', hf', _⟩ := appW_one (ty := 60) uU64s iU64s (by omega) hv5 ins[i].am (by omega) B5.size
      obtain ⟨A6, c6, hvv⟩ := hv.form
      rw [htl] at hvv
      subst hvv
      rw [← htk] at ho'
      obtain ⟨A7, c7, rfl⟩ := ho'.form
      have hlv : ((ins.map (·.am)).take (i + 1)).length = i + 1 := by simp; omega
      rw [hlv] at hap ho'
      have HO' := Lib.hid ho'
      have HB6 := Lib.hid (B5.trans ((hv5.step hf' B5.size).mono (Nat.le_refl _)))
      clear ho' hf' hv5 hv hat hbdi b5 B5 htk htl hlv hxs hW5 hB
      go_upto_region 4 with fail
      go_wp2_with fail
      go_roundg (n - (i + 1))
      case measure => omega
      case rel => exact ⟨i + 1, by omega, by go_num, HO'.out, HB6.out⟩
    · obtain rfl : i = n := by omega
      have hltI : ¬ (i : Int) < (i : Int) := by omega
      rw [List.take_of_length_le (by simp [HN.out])] at hv
      obtain ⟨A6, c6, hvv⟩ := hv.form
      rw [List.length_map, HN.out] at hvv
      subst hvv
      have q1r := (hB.cell (p := ⟨g, 1, none⟩) hgW).trans q1
      have HV := Lib.hid hv
      have HB1 := Lib.hid hB
      obtain ⟨w2, hw2⟩ : ∃ w2, w2 = wr := ⟨_, rfl⟩
      subst hw2
      clear hv hB hBw
      go_upto_region 7 with fail
      have HB1w := Lib.hid (HB0.out.trans (HB1.out.mono HB0.out.size))
      clear q0 q1 hgW hal
      go_loopg [3, 7, 24] m (fun kk v _ s wr => ∃ k : Nat, k + kk = m ∧ s = .int .i64 (k : Int) ∧ Own64 w2.heap.size wr v ((outs.map (·.am)).take k) ∧ Below w2.heap.size w2 wr)
      case atStart => exact ⟨0, by omega, rfl, OwnW.nil _ _ _ _, Below.refl _ _⟩
      case round =>
        obtain ⟨k, hk, rfl, hv, hB⟩ := hrel
        by_cases hlt2 : k < m
        · have hltI : (k : Int) < (m : Int) := by omega
          have hil : k < outs.length := by rw [HM.out]; exact hlt2
          obtain ⟨g', off, rfl, hg', hat⟩ := HO.out.below (HB1w.out.trans (hB.mono HB1w.out.size)) k hil
          have hbdi := HBO.out _ (List.getElem_mem hil)
          have hIn := LDs_agg uOut iOut wr g' (off + k * 33) (outV outs[k]) (outV_len hbdi) hat
          have hSt := HSU.out wr (outV outs[k]) (outV_len hbdi) (outV_one _)
          have b5 := Blk.new wr 59 (outV outs[k]).toArray
          have B5 := hB.alloc hB.size (.cells (outV outs[k]).toArray 59)
          have hv5 := hv.alloc (.cells (outV outs[k]).toArray 59)
          have htk : (outs.map (·.am)).take (k + 1) = (outs.map (·.am)).take k ++ [outs[k].am] := by
            rw [List.take_succ_eq_append_getElem (by simpa using hil)]; simp
          have htl : ((outs.map (·.am)).take k).length = k := by simp; omega
          obtain ⟨W5, hW5⟩ : ∃ W5, wr.alloc (.cells (outV outs[k]).toArray 59) = W5 := ⟨_, rfl⟩
          rw [hW5] at hSt b5 B5 hv5
          have qa : W5.cell? ⟨wr.heap.size, 32, none⟩ = some (.int .u64 outs[k].am) := by rw [b5.cell 32]; exact outV_am hbdi
          obtain ⟨xs, hxs⟩ : ∃ xs, (outV outs[k]).toArray = xs := ⟨_, rfl⟩
          rw [hxs] at hIn hSt
          obtain ⟨v', w', hap, ho', hf', _⟩ := appW_one (ty := 60) uU64s iU64s (by omega) hv5 outs[k].am (by omega) B5.size
          obtain ⟨A6, c6, hvv⟩ := hv.form
          rw [htl] at hvv
          subst hvv
          rw [← htk] at ho'
          obtain ⟨A7, c7, rfl⟩ := ho'.form
          have hlv : ((outs.map (·.am)).take (k + 1)).length = k + 1 := by simp; omega
          rw [hlv] at hap ho'
          have HO' := Lib.hid ho'
          have HB6 := Lib.hid (B5.trans ((hv5.step hf' B5.size).mono (Nat.le_refl _)))
          clear ho' hf' hv5 hv hat hbdi b5 B5 htk htl hlv hxs hW5 hB
          go_upto_region 9 with fail
          go_wp2_with fail
          go_roundg (m - (k + 1))
          case measure => omega
          case rel => exact ⟨k + 1, by omega, by go_num, HO'.out, HB6.out⟩
        · obtain rfl : k = m := by omega
          have hltI : ¬ (k : Int) < (k : Int) := by omega
          rw [List.take_of_length_le (by simp [HM.out])] at hv
          have HV2 := Lib.hid hv
          have HB2 := Lib.hid hB
          clear hv hB
          go_wp2_with fail
          go_ret2
          exact ⟨_, _, rfl, (HV.out.below HB2.out (fun _ hk => (HV.out.lt hk).2)).base HB0.out.size, HV2.out.base HB1w.out.size, HB1w.out.trans (HB2.out.mono HB1w.out.size)⟩
end Go.Proofs.YtmflhidmhefljaaDoor
