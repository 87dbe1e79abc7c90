/-
  tx.isTwice (the walk).
-/
import Derived.Test.YtmflhidmhefljaaDoorTxB
import Derived.Test.YtmflhidmhefljaaDoorTxtO
import Derived.Deep.CutRange
import Derived.Deep.CutBlock
namespace Go.Proofs.YtmflhidmhefljaaDoor
open Go.RowKit Go.Shelf Go.Maps
set_option maxRecDepth 100000
attribute [local go_sem ↓] ldIn_of stIn_of alIn_of ldPt_of

theorem mkMap (w : World) : (Instr.makeMap 105 none).run Tryd.prog w = .ok (.map (some w.heap.size)) (w.alloc (.map #[] 0)) := run_makeMap _ w
theorem ptsP_take (l : List InD) (i : Nat) : (ptsP l).take i = ptsP (l.take i) := by simp [ptsP, List.map_take]
theorem InD.Bd.pt {i : InD} (h : i.Bd) : PtOk (i.tx, i.ix) := ⟨h.len, h.tx, h.ix⟩
theorem SeenAt.drew {w : World} {b n : Nat} {l : List (List Int × Int)} (h : SeenAt w b n l) : SeenAt w.drew b n l := by
  obtain ⟨D, h1, h2⟩ := h
  exact ⟨D, h1.drew, h2⟩
theorem inV_pt {i : InD} (h : i.Bd) (A : Option Addr) (c : Nat) : ((inV i A c).toArray.toList.drop 0).take 33 = ptL i.tx i.ix := by
  simp only [List.drop_zero]
  unfold inV
  rw [List.take_append_of_le_length (by rw [ptL_len h.len]; omega), List.take_of_length_le (by rw [ptL_len h.len]; omega)]

set_option maxHeartbeats 2000000 in
theorem istwice_any (A1 : Option Addr) (c1 : Nat) (A2 : Option Addr) (c2 : Nat) (t : TxD) (w : World) (h : TxAt w A1 A2 t) (hl : t.ins.length ≤ 1000000) :
    Calls Tryd.prog 49 #[.agg (txV A1 c1 A2 c2 t)] w fun e w' => e = .returned (.bool (twiceP t.ins)) ∧ Below w.heap.size w w' := by
  obtain ⟨ins, outs, fee, exp⟩ := t
  have b0 := Blk.new w 35 (txV A1 c1 A2 c2 ⟨ins, outs, fee, exp⟩)
  have B0 : Below w.heap.size w (w.alloc (.cells (txV A1 c1 A2 c2 ⟨ins, outs, fee, exp⟩) 35)) := (Below.refl _ w).alloc (Nat.le_refl _) _
  obtain ⟨W, hW⟩ : ∃ W, w.alloc (.cells (txV A1 c1 A2 c2 ⟨ins, outs, fee, exp⟩) 35) = W := ⟨_, rfl⟩
  obtain ⟨g, hg⟩ : ∃ g, w.heap.size = g := ⟨_, rfl⟩
  have s0 := SeenAt.made W
  rw [hW] at B0
  rw [hW, hg] at b0
  have b1 := b0.alloc (.map #[] 0)
  have B1 : Below w.heap.size w (W.alloc (.map #[] 0)) := B0.alloc B0.size _
  obtain ⟨W1, hW1⟩ : ∃ W1, W.alloc (.map #[] 0) = W1 := ⟨_, rfl⟩
  obtain ⟨b, hbb⟩ : ∃ b, W.heap.size = b := ⟨_, rfl⟩
  rw [hW1] at B1 s0 b1
  rw [hbb] at s0
  have q0 : W1.cell? ⟨g, 0, none⟩ = some (.slice A1 ins.length c1) := b1.cell 0
  obtain ⟨n, hn⟩ : ∃ n, ins.length = n := ⟨_, rfl⟩
  have hBW : Below w.heap.size w W1 := B1
  obtain ⟨Z, hal, hst⟩ := alst (P := Tryd.prog) (t := 57) iIn zIn
  obtain ⟨R, hR⟩ : ∃ R, twiceP ins = R := ⟨_, rfl⟩
  unfold txV at hW ⊢
  simp only at hW hl ⊢
  have hh := h.ins
  have hbd := h.bd.ins
  simp only at hh hbd
  rw [hR]
  rw [hn] at hW hl q0 ⊢
  have hge : w.heap.size ≤ b := by rw [← hbb]; exact B0.size
  have HGE := Lib.hid hge
  clear hge
  have HW := Lib.hid hW
  have HG := Lib.hid hg
  have HW1 := Lib.hid hW1
  have HBB := Lib.hid hbb
  have HBW := Lib.hid hBW
  have HN := Lib.hid hn
  have HH := Lib.hid hh
  have HBD := Lib.hid hbd
  have HS0 := Lib.hid s0
  have HR := Lib.hid hR
  have HST := Lib.hid hst
  have mkm := mkMap
  clear hW hg B0 b0 h hW1 hbb s0 b1 hn hBW B1 hh hbd hR hst
  go_enter Tryd.func49, Tryd.ntmps49
  go_upto_region 1 with fail
  rw [HW.out, HG.out]
  go_upto_region 2 with fail
  rw [HW1.out, HBB.out]
  go_upto_region 3 with fail
  go_loopg [5, 10] n (fun kk _ s wr => ∃ i : Nat, i + kk = n ∧ s = .int .i64 (i : Int) ∧ SeenAt wr b i (ptsP (ins.take i)) ∧ (ptsP (ins.take i)).Nodup ∧ Below w.heap.size w wr)
  case atStart => exact ⟨0, by omega, rfl, by simpa [ptsP] using HS0.out, by simp [ptsP], HBW.out⟩
  case round =>
    obtain ⟨i, hi, rfl, hs, hnd, hB⟩ := hrel
    by_cases hlt : i < n
    · have hltI : (i : Int) < (n : Int) := by omega
      have hil : i < ins.length := by rw [HN.out]; exact hlt
      obtain ⟨g', off, As, cs, rfl, hg', hat⟩ := HH.out.below (hB.mono (Nat.le_refl _)) i hil
      have hbdi := HBD.out _ (List.getElem_mem hil)
      have hIn := LDs_agg uIn iIn wr g' (off + i * 35) (inV ins[i] As cs) (inV_len hbdi _ _) hat.cell
      have hSt := HST.out wr (inV ins[i] As cs) (inV_len hbdi _ _) (inV_one _ _ _)
      have b5 := Blk.new wr 57 (inV ins[i] As cs).toArray
      have hPt := LDs_aggB uPt iPt b5 (off := 0) (ptL ins[i].tx ins[i].ix) (ptL_len hbdi.len _) (inV_pt hbdi As cs)
      have hs5 := hs.kept (World.grownBy_alloc wr (.cells (inV ins[i] As cs).toArray 57) none) (by simp)
      have B5 := hB.alloc hB.size (.cells (inV ins[i] As cs).toArray 57)
      have hpk := hbdi.pt
      have htk : ptsP (ins.take (i + 1)) = ptsP (ins.take i) ++ [(ins[i].tx, ins[i].ix)] := by
        unfold ptsP; rw [List.take_succ_eq_append_getElem hil, List.map_append]; rfl
      have hlook := hs5.look hpk
      simp only at hlook hPt
      obtain ⟨W5, hW5⟩ : ∃ W5, wr.alloc (.cells (inV ins[i] As cs).toArray 57) = W5 := ⟨_, rfl⟩
      rw [hW5] at hSt b5 hPt hs5 B5 hlook
      obtain ⟨d, hd⟩ : ∃ d, wr.heap.size = d := ⟨_, rfl⟩
      rw [hd] at hPt b5
      obtain ⟨xs, hxs⟩ : ∃ xs, (inV ins[i] As cs).toArray = xs := ⟨_, rfl⟩
      rw [hxs] at hIn hSt b5 hW5
      obtain ⟨ps, hps⟩ : ∃ ps, (ptL ins[i].tx ins[i].ix).toArray = ps := ⟨_, rfl⟩
      rw [hps] at hPt hlook
      have hdup : twiceP ins = false → (ptsP (ins.take (i + 1))).Nodup := by
        intro hf
        have : (ptsP ins).Nodup := by simpa [twiceP] using hf
        exact (ptsP_take ins (i + 1)) ▸ this.sublist (List.take_sublist _ _)
      by_cases hmem : (ins[i].tx, ins[i].ix) ∈ ptsP (ins.take i)
      · have hRt : R = true := by
          cases hq : R
          · have := hdup (HR.out.trans hq)
            rw [htk, List.nodup_append] at this
            exact absurd rfl (this.2.2 _ hmem _ (by simp))
          · rfl
        rw [if_pos hmem] at hlook
        subst hRt
        have HB5 := Lib.hid B5
        have HW5 := Lib.hid hW5
        have HD := Lib.hid hd
        clear hmem hs hB hat hbdi hs5 B5 hpk htk hdup hnd hxs hps hW5 hd b5
        go_upto_region 5 with fail
        rw [HD.out]
        go_wp2_with fail
        go_ret
        exact ⟨rfl, HB5.out⟩
      · rw [if_neg hmem] at hlook
        obtain ⟨st, w1, w2, hme, hl1, hes, hs2, hg2, hg1⟩ := SeenAt.incr (w := W5.drew) hs5.drew (by omega) hpk hmem
        have hne : d ≠ b := fun e => by
          have := hs.lt
          omega
        have b6 := (b5.drew).grown hg1 (fun e => hne (by simpa using e.symm))
        have hPt6 := LDs_aggB uPt iPt (b5.drew) (off := 0) (ptL ins[i].tx ins[i].ix) (ptL_len hbdi.len _) (by rw [← hxs]; exact inV_pt hbdi As cs)
        have B6 := B5.drew.grown hg2 B5.size (fun j hj => by
          cases hj
          exact HGE.out)
        have hlook' : (Instr.lookup 105 (.map (some b)) (.agg ps) false).run Tryd.prog W5.drew = .ok (.int .i64 0) W5.drew := by
          rw [← hps]
          have := (SeenAt.look (w := W5.drew) hs5.drew hpk)
          rw [if_neg hmem] at this
          exact this
        have hPt7 := LDs_aggB uPt iPt b6 (off := 0) (ptL ins[i].tx ins[i].ix) (ptL_len hbdi.len _) (by rw [← hxs]; exact inV_pt hbdi As cs)
        rw [hps] at hPt6 hPt7
        simp only at hme hl1 hes
        rw [hps] at hme hl1
        rw [← htk] at hs2
        have hnd2 : (ptsP (ins.take (i + 1))).Nodup := by
          rw [htk, List.nodup_append]
          exact ⟨hnd, by simp, fun a ha c hc => by simp only [List.mem_singleton] at hc; subst hc; exact fun e => hmem (e ▸ ha)⟩
        have hes2 : (Instr.entryStore 105 (.map (some b)) (.int .i64 (st : Int)) (.int .i64 (IntKind.i64.wrap 1))).run Tryd.prog w1 = .ok () w2 := hes
        have HB6 := Lib.hid B6
        have HW5 := Lib.hid hW5
        have HD := Lib.hid hd
        have HS2 := Lib.hid hs2
        have HND2 := Lib.hid hnd2
        clear hmem hs hB hat hbdi hs5 B5 hpk htk hdup hnd hxs hps hW5 hd b5 hs2 hnd2 B6
        go_upto_region 5 with fail
        rw [HD.out]
        go_upto_region 7 with fail
        let S0 : World → Prop := fun X => (LDs 25 (.pointer (some ⟨d, 0, none⟩))).run Tryd.prog X = .ok (.agg ps) X ∧ (Instr.lookup 105 (.map (some b)) (.agg ps) false).run Tryd.prog X = .ok (.int .i64 0) X
        have hS5 : S0 W5.drew := ⟨hPt6, hlook'⟩
        have hS1 : S0 w1 := ⟨hPt7, hl1⟩
        have HS1 := Lib.hid hS1
        refine wp_txO [(0, 3), (1, 3), (2, 0), (3, 0), (4, 3), (5, 1), (6, 3), (7, 2)] S0 (by kernel_rfl) (by kernel_rfl) (by kernel_rfl) (by kernel_rfl) hS5 ?_
        clear hS5 hS1 hPt hlook hPt6 hlook' hPt7 hl1
        iterate 2 (with_reducible refine wpTxO_evN (o := ?_) (v := ?_) (a' := ?_) (by with_unfolding_all rfl) (by with_unfolding_all rfl) (fun W' => ?_) ?_ ?_; rotate_left 2; (focus (go_simp <;> with_reducible rfl)); focus (go_simp <;> with_reducible rfl))
        iterate 2 (with_reducible refine wpTxO_takeN (o := ?_) (v := ?_) (a' := ?_) (by with_unfolding_all rfl) (by with_unfolding_all rfl) (fun W' hS' => ?_) ?_ ?_; rotate_left 2; (focus (have j0 := hS'.1; have j1 := hS'.2; clear hS'; go_simp <;> with_reducible rfl)); focus (go_simp <;> with_reducible rfl))
        iterate 1 (with_reducible refine wpTxO_evN (o := ?_) (v := ?_) (a' := ?_) (by with_unfolding_all rfl) (by with_unfolding_all rfl) (fun W' => ?_) ?_ ?_; rotate_left 2; (focus (go_simp <;> with_reducible rfl)); focus (go_simp <;> with_reducible rfl))
        with_reducible refine wpTxO_want (o := ?_) (by with_unfolding_all rfl) (by with_unfolding_all rfl) (fun K hK => ?_)
        go_simp
        with_reducible refine hK _ _ HS1.out ?_
        clear hK K
        iterate 1 (with_reducible refine wpTxO_evN (o := ?_) (v := ?_) (a' := ?_) (by with_unfolding_all rfl) (by with_unfolding_all rfl) (fun W' => ?_) ?_ ?_; rotate_left 2; (focus (go_simp <;> with_reducible rfl)); focus (go_simp <;> with_reducible rfl))
        with_reducible refine wpTxO_last (o := ?_) (by with_unfolding_all rfl) (by with_unfolding_all rfl) (fun K hK => ?_)
        go_simp
        with_reducible refine hK _ _ ?_
        clear hK K
        with_reducible refine wpTxO_nil ?_
        rw [noPan_normal]
        clear HS1 hes hes2 hme hg2 hg1 b6
        go_upto_region 8 with fail
        go_wp2_with fail
        go_roundg (n - (i + 1))
        case measure => omega
        case rel => exact ⟨i + 1, by omega, by go_num, HS2.out, HND2.out, HB6.out⟩
    · obtain rfl : i = n := by omega
      have hltI : ¬ (i : Int) < (i : Int) := by omega
      rw [List.take_of_length_le (by rw [HN.out]; exact Nat.le_refl _)] at hnd
      have hRf : R = false := by rw [← HR.out]; simp [twiceP, hnd]
      subst hRf
      have HB := Lib.hid hB
      clear hs hnd hB
      go_wp2_with fail
      go_ret
      exact ⟨rfl, HB.out⟩
end Go.Proofs.YtmflhidmhefljaaDoor
