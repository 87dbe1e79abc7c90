/-
  scroll.Scan: the walk.
-/
import Derived.Test.YtohadeijmmmcdaaDoorScanB
import Derived.Deep.LoopGhost
import Derived.WalkMore
namespace Go.Proofs.YtohadeijmmmcdaaDoor
open Go.RowKit
set_option maxRecDepth 100000
attribute [local go_sem ↓] ld115_of st115_of al115_of bd115_of slr_of apt33_of

set_option maxHeartbeats 8000000 in
theorem scan_any (B p gs : Nat) (wv : Value) (S : DS) (f m t : Int) (hm : -9223372036854775808 ≤ m ∧ m ≤ 9223372036854775807) (w : World) (h : IsDrum B w p gs wv S) (hlen : S.waits.length ≤ 1000000000) (hg : Glob w) :
    Calls Tryd.prog 21 #[.pointer (some ⟨p, 0, none⟩), .int .i64 f, .int .i64 m, .int .i64 t] w fun e w' => ScanPost w.heap.size (scanR S f m t) e w' ∧ Below w.heap.size w w' := by
  have hst := stretch_any p gs S.sure.length wv S.fuse S.off f m hm w h.st (by have := h.ok.n2; omega)
  have his := scis_any t w
  obtain ⟨R, hR⟩ : ∃ R, scanR S f m t = R := ⟨_, rfl⟩
  rw [hR]
  unfold scanR at hR
  cases hs : strP S.sure.length f m with
  | false =>
    rw [hs, if_neg (by simp)] at hR
    rw [hs] at hst
    have HST := Lib.hid hst
    have HR := Lib.hid hR
    clear hst hs h hg hR his
    go_enter Tryd.func21, Tryd.ntmps21
    go_wp2_with fail
    go_step3
    go_wp2_with fail
    refine HST.out.mono ?_
    rintro e w' ⟨rfl, hw⟩
    rw [hw]
    clear hw HST
    go_wp2_with fail
    first | go_ret3 | (rw [Exit.noGoto_ret]; go_ret3)
    refine ⟨?_, Below.refl _ _⟩
    rw [← HR.out]
    exact ⟨_, rfl, OwnT.nil _ _⟩
  | true =>
    rw [hs] at hR hst
    by_cases ht : 0 ≤ t ∧ t ≤ 1099511627776
    · obtain ⟨h0, h1, h2⟩ := strP_in hs
      obtain ⟨F, rfl⟩ := Int.eq_ofNat_of_zero_le h0
      obtain ⟨M, rfl⟩ := Int.eq_ofNat_of_zero_le h1
      obtain ⟨T, rfl⟩ := Int.eq_ofNat_of_zero_le ht.1
      have hsc := scbytes_any B p gs wv S F M w h (by omega) hlen
      rw [if_pos ⟨rfl, ht⟩] at hR
      have hT := ht.2
      rw [decide_eq_true ht] at his
      simp only [Int.toNat_natCast] at hR
      have hsl := stP_len h.ok F M (by omega)
      have hsb := stP_bd h.ok F M (by omega)
      have hM2 : M ≤ 8192 := by have := h.ok.n2; omega
      obtain ⟨bs, hbs⟩ : ∃ bs, stP S F M = bs := ⟨_, rfl⟩
      rw [hbs] at hsc hR hsl hsb
      have HST := Lib.hid hst
      have HIS := Lib.hid his
      have HG := Lib.hid hg
      have HSB := Lib.hid hsb
      have HSL := Lib.hid hsl
      clear hst his hg hsb hsl hs hbs h0 h1 h2 ht h hm
      cases hof : S.off with
      | true =>
        rw [hof] at hsc hR
        rw [if_pos rfl] at hR
        rw [if_pos rfl, if_pos rfl] at hsc
        have HSC := Lib.hid hsc
        have HR := Lib.hid hR
        clear hsc hR hof
        go_enter Tryd.func21, Tryd.ntmps21
        go_wp2_with fail
        go_step3
        go_wp2_with fail
        refine HST.out.mono ?_
        rintro e w' ⟨rfl, hw⟩
        rw [hw]
        clear hw HST
        go_wp2_with fail
        refine HIS.out.mono ?_
        rintro e w' ⟨rfl, hw⟩
        rw [hw]
        clear hw HIS
        go_wp2_with fail
        refine HSC.out.mono ?_
        rintro e w1 ⟨v, rfl, ho, hB1⟩
        have HB1 := Lib.hid hB1
        clear ho hB1
        go_wp2_with fail
        first | go_ret3 | (rw [Exit.noGoto_ret]; go_ret3)
        refine ⟨?_, HB1.out⟩
        rw [← HR.out]
        exact ⟨_, rfl, OwnT.nil _ _⟩
      | false =>
        rw [hof, if_neg (by simp)] at hR
        rw [hof, if_neg (by simp), if_neg (by simp)] at hsc
        have HSC := Lib.hid hsc
        have HR := Lib.hid hR
        clear hsc hR hof
        go_enter Tryd.func21, Tryd.ntmps21
        go_wp2_with fail
        go_step3
        go_wp2_with fail
        refine HST.out.mono ?_
        rintro e w' ⟨rfl, hw⟩
        rw [hw]
        clear hw HST
        go_wp2_with fail
        refine HIS.out.mono ?_
        rintro e w' ⟨rfl, hw⟩
        rw [hw]
        clear hw HIS
        go_wp2_with fail
        refine HSC.out.mono ?_
        rintro e w1 ⟨v, rfl, ho, hB1⟩
        obtain ⟨A1, c1, rfl, hy1, _, hc1⟩ := ho.byt HSB.out
        obtain ⟨N, hN⟩ : ∃ N, bs.length = N := ⟨_, rfl⟩
        have hNM : N ≤ 524288 := by have := HSL.out; omega
        rw [hN] at hc1 ⊢
        have HN := Lib.hid hN
        have HY := Lib.hid hy1
        have HB1 := Lib.hid hB1
        clear ho hB1 hN hy1 HSC
        go_wp2_with fail
        go_step3
        go_wp2_with fail
        go_loopg [13, 14] N (fun k out used wr => ∃ (u : Nat) (done : List (List Int)), used = .int .i64 (u : Int) ∧ k = N - 64 * u ∧ OwnT w1.heap.size wr out done ∧ Below w1.heap.size w1 wr ∧ ScanAt T bs u done)
        case atStart => exact ⟨0, [], rfl, by omega, OwnT.nil _ _, Below.refl _ _, ScanAt.start _ _⟩
        case round =>
          obtain ⟨u, done, rfl, hk, hot, hbl, hat⟩ := hrel
          have hu1 := hat.1
          have hu2 := hat.2.1
          rw [HN.out] at hu1
          obtain ⟨A3, c3, rfl⟩ := hot.form
          obtain ⟨D, hD⟩ : ∃ D, done.length = D := ⟨_, rfl⟩
          rw [hD] at hot hu2 ⊢
          have hyr := HY.out.below hbl
          obtain ⟨A2, hsl, hy2, _, _⟩ := part8 hyr c1 (64 * u) bs.length c1 (some (.int .i64 ((u : Int) * 64))) none none (by rw [HN.out]; omega) (Nat.le_refl _) (by rw [HN.out]; exact hc1) (Nat.le_refl _) (.inr ⟨_, rfl, by omega⟩) (.inl ⟨rfl, rfl⟩) (.inl ⟨rfl, rfl⟩)
          rw [HN.out] at hsl
          have hq2 : ((bs.drop (64 * u)).take (bs.length - 64 * u)) = bs.drop (64 * u) := List.take_of_length_le (by simp)
          rw [hq2] at hy2
          have hq3 : (bs.drop (64 * u)).length = N - 64 * u := by rw [List.length_drop, HN.out]
          have hrd := scread A2 (c1 - 64 * u) (bs.drop (64 * u)) wr hy2 (by rw [hq3]; omega) (by rw [hq3]; omega) (HG.out.below (HB1.out.trans (hbl.mono HB1.out.size)))
          rw [hq3] at hrd
          have HRD := Lib.hid hrd
          have HOT := Lib.hid hot
          have HBL := Lib.hid hbl
          have HAT := Lib.hid hat
          have HD := Lib.hid hD
          clear hot hbl hat hD hyr hy2 hq2 hq3 hrd
          go_wp2_with fail
          refine HRD.out.mono ?_
          rintro e w2 ⟨hp, hB2⟩
          obtain ⟨a, b, c, v, ok, rfl, hv1, hno, hyes⟩ := hp.form
          have hal := al115_new w2
          have hst := st115_new w2 a b c v hv1
          have hrec := Blk.new w2 115 #[.int .i64 a, .int .i64 b, .int .i64 c, v]
          have hot2 := (HOT.out.below hB2).below ((Below.refl _ w2).alloc (Nat.le_refl _) (.cells #[.int .i64 a, .int .i64 b, .int .i64 c, v] 115))
          have B2 : Below w1.heap.size w1 w2 := HBL.out.trans (hB2.mono HBL.out.size)
          have B3 := B2.alloc B2.size (.cells #[.int .i64 a, .int .i64 b, .int .i64 c, v] 115)
          obtain ⟨W3, hW3⟩ : ∃ W3, w2.alloc (.cells #[.int .i64 a, .int .i64 b, .int .i64 c, v] 115) = W3 := ⟨_, rfl⟩
          have hown : ok = true → ∃ r, readP (bs.drop (64 * u)) = some r ∧ a = (r.t : Int) ∧ b = (r.n : Int) ∧ c = (r.size : Int) ∧ Own8 w1.heap.size W3 v r.b := by
            intro h
            obtain ⟨r, h1, h2, h3, h4, h5⟩ := hyes h
            refine ⟨r, h1, h2, h3, h4, ?_⟩
            rw [← hW3]
            exact World.ownsRow.alloc (h5.base HBL.out.size) _
          rw [hW3] at hst hrec B3 hot2
          have k0 : W3.cell? ⟨w2.heap.size, 0, none⟩ = some (.int .i64 a) := hrec.cell 0
          have k1 : W3.cell? ⟨w2.heap.size, 1, none⟩ = some (.int .i64 b) := hrec.cell 1
          have k2 : W3.cell? ⟨w2.heap.size, 2, none⟩ = some (.int .i64 c) := hrec.cell 2
          have k3 : W3.cell? ⟨w2.heap.size, 3, none⟩ = some v := hrec.cell 3
          have HREC := Lib.hid hrec
          have HNO := Lib.hid hno
          have HOWN := Lib.hid hown
          have B3 := Lib.hid B3
          have HOT2 := Lib.hid hot2
          clear hp hyes hno hown hrec hW3 hB2 B2 HRD hot2 HOT
          have hstop : (∀ r, readP (bs.drop (64 * u)) = some r → ¬ (r.t = T ∧ r.n = done.length)) → ∀ W, W = W3 → ScanPost w.heap.size R (.returned (.tuple #[.slice A3 D c3, .int .i64 (u : Int), .int .i64 0])) W ∧ Below w.heap.size w W := by
            rintro hh W rfl
            have e := HAT.out.stop hh
            refine ⟨?_, HB1.out.trans (B3.out.mono HB1.out.size)⟩
            rw [← HR.out, e]
            exact ⟨_, rfl, HOT2.out.base HB1.out.size⟩
          have HSTOP := Lib.hid hstop
          clear hstop
          cases ok with
          | false =>
            go_wp2_with fail
            first | go_ret3 | (rw [Exit.noGoto_ret]; go_ret3)
            exact HSTOP.out (fun r hr => by rw [HNO.out (by first | rfl | trivial)] at hr; cases hr) _ rfl
          | true =>
            obtain ⟨r, g1, g2, g3, g4, g5⟩ := HOWN.out rfl
            subst g4
            obtain ⟨Av, cv, rfl⟩ := g5.form
            have G1 := Lib.hid g1
            have G2 := Lib.hid g2
            have G3 := Lib.hid g3
            have G5 := Lib.hid g5
            have hrs := readP_size g1
            rw [List.length_drop, HN.out] at hrs
            clear g1 g2 g3 g5 HOWN
            by_cases ha : a = (T : Int)
            · have haI : (a != (T : Int)) = false := by rw [ha]; simp
              have HA := Lib.hid ha
              clear ha
              by_cases hb : b = (D : Int)
              · have hbI : (b != (D : Int)) = false := by rw [hb]; simp
                have HBb := Lib.hid hb
                clear hb
                obtain ⟨v5, w5, hap, ho5, hf5, _⟩ := HOT2.out.app (ty := 33) G5.out (by rw [HD.out]; omega) B3.out.size
                have hf5' := hf5.below B3.out.size (fun k hk e => by have := (HOT2.out.lt e).1; omega)
                have hne5 := HOT2.out.ne HREC.out (by decide)
                have k5 : w5.cell? ⟨w2.heap.size, 2, none⟩ = some (.int .i64 (r.size : Int)) := (HREC.out.fr hf5 hne5).cell 2
                obtain ⟨A5, c5, rfl⟩ := ho5.form
                clear hne5
                simp only [List.length_append, List.length_singleton, HD.out] at hap ho5 ⊢
                have O5 := Lib.hid ho5
                have F5 := Lib.hid hf5'
                clear ho5 hf5 hf5'
                go_wp2_with fail
                go_roundg (N - 64 * (u + r.size))
                case measure => omega
                case rel =>
                  refine ⟨u + r.size, done ++ [r.b], by go_num, rfl, O5.out, B3.out.trans F5.out, ?_⟩
                  have := G2.out
                  have := G3.out
                  have e1 := HA.out
                  have e2 := HBb.out
                  have e3 := HD.out
                  exact HAT.out.more G1.out (by omega) (by omega)
              · have hbI : (b != (D : Int)) = true := by simpa using hb
                have HBb := Lib.hid hb
                clear hb
                go_wp2_with fail
                first | go_ret3 | (rw [Exit.noGoto_ret]; go_ret3)
                refine HSTOP.out (fun r' hr hh => ?_) _ rfl
                cases G1.out.symm.trans hr
                have := G3.out
                have e2 := HBb.out
                have e3 := HD.out
                omega
            · have haI : (a != (T : Int)) = true := by simpa using ha
              have HA := Lib.hid ha
              clear ha
              go_wp2_with fail
              first | go_ret3 | (rw [Exit.noGoto_ret]; go_ret3)
              refine HSTOP.out (fun r' hr hh => ?_) _ rfl
              cases G1.out.symm.trans hr
              have := G2.out
              have e2 := HA.out
              omega
    · rw [if_neg (fun h => ht h.2)] at hR
      rw [decide_eq_false ht] at his
      have HST := Lib.hid hst
      have HIS := Lib.hid his
      have HR := Lib.hid hR
      clear hst hs h hg hR his ht
      go_enter Tryd.func21, Tryd.ntmps21
      go_wp2_with fail
      go_step3
      go_wp2_with fail
      refine HST.out.mono ?_
      rintro e w' ⟨rfl, hw⟩
      rw [hw]
      clear hw HST
      go_wp2_with fail
      refine HIS.out.mono ?_
      rintro e w' ⟨rfl, hw⟩
      rw [hw]
      clear hw HIS
      go_wp2_with fail
      first | go_ret3 | (rw [Exit.noGoto_ret]; go_ret3)
      refine ⟨?_, Below.refl _ _⟩
      rw [← HR.out]
      exact ⟨_, rfl, OwnT.nil _ _⟩

end Go.Proofs.YtohadeijmmmcdaaDoor
