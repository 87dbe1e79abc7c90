/-
  SettleSum: the walk.
-/
import Derived.Test.YtmflhidmhefljaaGreatDoorJRSetA
import Derived.Test.YtmflhidmhefljaaGreatDoorJAwakeZ

namespace Go.Proofs.YtmflhidmhefljaaGreatDoor
open Go.RowKit Go.Shelf
set_option maxRecDepth 100000
attribute [local go_sem ↓] ldTx_of

set_option maxHeartbeats 8000000 in
theorem settlesum_law (n : Int) (A1 : Option Addr) (c1 : Nat) (A2 : Option Addr) (c2 : Nat) (t : TxD) (w : World) (hn : 0 ≤ n ∧ n ≤ 255) (h : TxAt w A1 A2 t) (_m1 : t.ins.length ≤ maxLen) (_m2 : t.outs.length ≤ maxLen) (hg : Glob w) :
    Calls Tryz.prog 6 #[.int .u8 n, .agg (txV A1 c1 A2 c2 t)] w fun e w' => e = .returned (.bool true) ∧ Below w.heap.size w w' := by
  have b0 := Blk.new w 27 (txV A1 c1 A2 c2 t)
  have B0 : Below w.heap.size w (w.alloc (.cells (txV A1 c1 A2 c2 t) 27)) := (Below.refl _ w).alloc (Nat.le_refl _) _
  obtain ⟨W, hW⟩ : ∃ W, w.alloc (.cells (txV A1 c1 A2 c2 t) 27) = W := ⟨_, rfl⟩
  rw [hW] at b0 B0
  obtain ⟨g, hgg⟩ : ∃ g, w.heap.size = g := ⟨_, rfl⟩
  rw [hgg] at b0
  have hld := fun X (hX : Below W.heap.size W X) => LDs_all (P := Tryz.prog) uTx iTx (w := X) (txV A1 c1 A2 c2 t).toList (by simpa using b0.fr (Fr.of_below hX) (by have := b0.lt; omega)) rfl
  have hld0 := hld W (Below.refl _ _)
  have hgr := great_any A1 c1 A2 c2 t W (h.below B0)
  have haw := fun X (hX : Below W.heap.size W X) => awakeZ X ((hg.below B0).below hX)
  have hk0 : ∀ X, Below W.heap.size W X → X.cell? ⟨g, 0, none⟩ = some (.slice A1 t.ins.length c1) := fun X hX => (b0.fr (Fr.of_below hX) (by have := b0.lt; omega)).cell 0
  have hTW := h.below B0
  have hgW := hg.below B0
  have hgl := @greatP_not t
  obtain ⟨xs, hxs⟩ : ∃ xs, txV A1 c1 A2 c2 t = xs := ⟨_, rfl⟩
  rw [show (txV A1 c1 A2 c2 t).toList.toArray = txV A1 c1 A2 c2 t by simp, hxs] at hld0
  simp only [hxs] at hld
  rw [hxs] at hgr hW ⊢
  obtain ⟨hn1, hn2⟩ := hn
  by_cases hgt : greatP t = true
  · rw [if_pos hgt] at hgr
    have HW := Lib.hid hW
    have HG := Lib.hid hgg
    have HB := Lib.hid B0
    have HAW := Lib.hid haw
    clear hW hgg B0 haw hld hk0 hTW hgW hgl b0 h hxs hgt
    go_enter Tryz.func6, Tryz.ntmps6
    go_upto_region 1 with fail
    rw [HW.out, HG.out]
    go_wp2_with fail
    with_reducible refine hgr.mono ?_
    rintro e w1 ⟨rfl, hB1⟩
    have haw1 := HAW.out w1 hB1
    have HB1 := Lib.hid hB1
    clear hB1 hgr hld0
    go_wp2_with fail
    with_reducible refine haw1.mono ?_
    rintro e w2 ⟨rfl, hB2⟩
    have HB2 := Lib.hid (HB1.out.trans (hB2.mono HB1.out.size))
    clear hB2 haw1
    go_wp2_with fail
    go_ret
    exact ⟨rfl, HB.out.trans (HB2.out.mono HB.out.size)⟩
  · rw [if_neg hgt] at hgr
    obtain ⟨hl1, hl2⟩ := hgl (by simpa using hgt)
    obtain ⟨k, hk⟩ : ∃ k : Nat, 1 + n % 64 = (k : Int) := ⟨(1 + n % 64).toNat, by omega⟩
    have hk1 : 1 ≤ k := by omega
    have hk2 : k ≤ 64 := by omega
    have hsum := fun X (hX : Below W.heap.size W X) s => setsum_any A1 c1 A2 c2 t (k : Int) s (by omega) X (hTW.below hX) (hgW.below hX) (by omega) (by omega)
    have hck := fun X (hX : Below W.heap.size W X) => rcheck_any A1 c1 A2 c2 t X (hTW.below hX)
    simp only [hxs] at hsum hck
    have hall := sums_all t k hk1 hk2
    have hnone := sum_none t (k : Int)
    obtain ⟨R, hR⟩ : ∃ R, checkP t = R := ⟨_, rfl⟩
    simp only [hR] at hck
    rw [hR] at hall
    obtain ⟨ni, hni⟩ : ∃ n, t.ins.length = n := ⟨_, rfl⟩
    simp only [hni] at hk0
    rw [hni] at hall hl1
    have HW := Lib.hid hW
    have HG := Lib.hid hgg
    have HB := Lib.hid B0
    have HAW := Lib.hid haw
    have HLD := Lib.hid hld
    have HK0 := Lib.hid hk0
    have HT := Lib.hid hTW
    have HSUM := Lib.hid hsum
    have HCK := Lib.hid hck
    have HALL := Lib.hid hall
    have HNONE := Lib.hid hnone
    have HK := Lib.hid hk
    have HNI := Lib.hid hni
    clear hW hgg B0 haw hld hk0 hTW hsum hck hall hnone hk hni hgW hgl b0 h hxs hgt hR
    go_enter Tryz.func6, Tryz.ntmps6
    go_upto_region 1 with fail
    rw [HW.out, HG.out]
    go_wp2_with fail
    with_reducible refine hgr.mono ?_
    rintro e w1 ⟨rfl, hB1⟩
    have HB1 := Lib.hid hB1
    clear hB1 hgr hld0
    go_upto_region 6 with fail
    rw [HK.out]
    go_loopg [6, 7] k (fun kk q s wr => ∃ i : Nat, i + kk = k ∧ s = .int .i64 (i : Int) ∧ q = .int .u64 (shTo t (k : Int) i) ∧ Below W.heap.size W wr)
    case atStart => exact ⟨0, by omega, rfl, by rw [shTo_zero], HB1.out⟩
    case round =>
      obtain ⟨i, hi, rfl, rfl, hBr⟩ := hrel
      by_cases hlt : i < k
      · have hltI : (i : Int) < (k : Int) := by omega
        have hss := shTo_succ t (k : Int) i
        have hsb := shTo_bd t (k : Int) i
        have hab := sumAt_bd t (k : Int) (i : Int)
        have hs1 := HSUM.out wr hBr (i : Int)
        have hl1 := HLD.out wr hBr
        obtain ⟨a, ha⟩ : ∃ a, shTo t (k : Int) i = a := ⟨_, rfl⟩
        obtain ⟨b, hb⟩ : ∃ a, sumAtP t (k : Int) (i : Int) = a := ⟨_, rfl⟩
        rw [ha, hb] at hss
        rw [ha] at hsb ⊢
        rw [hb] at hab hs1
        have HSS := Lib.hid hss
        have HBR := Lib.hid hBr
        clear hss hBr ha hb
        go_wp2_with fail
        with_reducible refine hs1.mono ?_
        rintro e w2 ⟨rfl, hB2⟩
        have HB2 := Lib.hid (HBR.out.trans (hB2.mono HBR.out.size))
        clear hB2 hs1 hl1
        go_wp2_with fail
        go_roundg (k - (i + 1))
        case measure => omega
        case rel => exact ⟨i + 1, by omega, by go_num, by rw [HSS.out], HB2.out⟩
      · obtain rfl : i = k := by omega
        have hltI : ¬ (i : Int) < (i : Int) := by omega
        have hl1 := HLD.out wr hBr
        have hc1 := HCK.out wr hBr
        rw [HALL.out]
        by_cases hR0 : R = 0
        · subst hR0
          rw [if_pos rfl]
          obtain ⟨WA, hWA⟩ : ∃ a, inTo t ni = a := ⟨_, rfl⟩
          have hwb := inTo_bd t ni
          rw [hWA] at hwb ⊢
          have HBR := Lib.hid hBr
          have HWA := Lib.hid hWA
          clear hBr hWA
          go_wp2_with fail
          with_reducible refine hc1.mono ?_
          rintro e w2 ⟨rfl, hB2⟩
          have HB2 := Lib.hid (HBR.out.trans (hB2.mono HBR.out.size))
          clear hB2 hc1 hl1
          have k0 := HK0.out w2 HB2.out
          go_upto_region 12 with fail
          go_loopg [8, 9] ni (fun kk q s wr => ∃ j : Nat, j + kk = ni ∧ s = .int .i64 (j : Int) ∧ q = .int .u64 (inTo t j) ∧ w2 = wr)
          case atStart => exact ⟨0, by omega, rfl, by rw [inTo_zero], rfl⟩
          case round =>
            obtain ⟨j, hj, rfl, rfl, rfl⟩ := hrel
            by_cases hlt : j < ni
            · have hltJ : (j : Int) < (ni : Int) := by omega
              have hjl : j < t.ins.length := by have := HNI.out; omega
              have hT2 := HT.out.below HB2.out
              obtain ⟨g2, o2, B2, d2, rfl, _, hin⟩ := hT2.ins j hjl
              have hbd := hT2.bd.ins _ (List.getElem_mem hjl)
              have k33 := hin.cell 33 _ (inV_amL hbd _ _)
              have hss := inTo_succ t hjl
              have hsb := inTo_bd t j
              have hab := hbd.am
              obtain ⟨am, ham⟩ : ∃ a, (t.ins[j]).am = a := ⟨_, rfl⟩
              rw [ham] at k33 hss hab
              obtain ⟨a, ha⟩ : ∃ a, inTo t j = a := ⟨_, rfl⟩
              rw [ha] at hss hsb ⊢
              have hj0 : (0 : Int) ≤ (j : Int) := by omega
              have HSS := Lib.hid hss
              clear hss hin hbd ham ha hT2
              go_wp2_with fail
              go_roundg (ni - (j + 1))
              case measure => omega
              case rel => exact ⟨j + 1, by omega, by go_num, by rw [HSS.out], rfl⟩
            · obtain rfl : j = ni := by omega
              have hltJ : ¬ (j : Int) < (j : Int) := by omega
              rw [HWA.out]
              have hs2 := HSUM.out w2 HB2.out (i : Int)
              rw [HNONE.out] at hs2
              have hl2 := HLD.out w2 HB2.out
              have hww : (WA == WA) = true := by simp
              go_wp2_with fail
              with_reducible refine hs2.mono ?_
              rintro e w3 ⟨rfl, hB3⟩
              have hB3W := HB2.out.trans (hB3.mono HB2.out.size)
              have haw := HAW.out w3 hB3W
              have HB3 := Lib.hid hB3W
              clear hB3W hB3 hs2 hl2 k0
              go_wp2_with fail
              with_reducible refine haw.mono ?_
              rintro e w4 ⟨rfl, hB4⟩
              have HB4 := Lib.hid (HB3.out.trans (hB4.mono HB3.out.size))
              clear hB4 haw
              go_wp2_with fail
              go_ret
              exact ⟨rfl, HB.out.trans (HB4.out.mono HB.out.size)⟩
        · rw [if_neg hR0]
          have hRb : (R == 0) = false := by simpa using hR0
          have HBR := Lib.hid hBr
          clear hBr hR0
          go_wp2_with fail
          with_reducible refine hc1.mono ?_
          rintro e w2 ⟨rfl, hB2⟩
          have HB2 := Lib.hid (HBR.out.trans (hB2.mono HBR.out.size))
          clear hB2 hc1 hl1
          have hs2 := HSUM.out w2 HB2.out (i : Int)
          rw [HNONE.out] at hs2
          have hl2 := HLD.out w2 HB2.out
          go_wp2_with fail
          with_reducible refine hs2.mono ?_
          rintro e w3 ⟨rfl, hB3⟩
          have hB3W := HB2.out.trans (hB3.mono HB2.out.size)
          have haw := HAW.out w3 hB3W
          have HB3 := Lib.hid hB3W
          clear hB3W hB3 hs2 hl2
          go_wp2_with fail
          with_reducible refine haw.mono ?_
          rintro e w4 ⟨rfl, hB4⟩
          have HB4 := Lib.hid (HB3.out.trans (hB4.mono HB3.out.size))
          clear hB4 haw
          go_wp2_with fail
          go_ret
          exact ⟨rfl, HB.out.trans (HB4.out.mono HB.out.size)⟩
end Go.Proofs.YtmflhidmhefljaaGreatDoor
