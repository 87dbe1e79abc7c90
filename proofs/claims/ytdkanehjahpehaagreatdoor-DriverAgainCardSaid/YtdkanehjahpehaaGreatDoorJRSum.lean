/-
  The document's digest (seisinref03.Sum).
-/
import Derived.Test.YtdkanehjahpehaaGreatDoorJRSumB
import Derived.Deep.CutBlock
import Derived.Test.YtdkanehjahpehaaGreatDoorJSum
import Derived.Test.YtdkanehjahpehaaGreatDoorJTxtO

namespace Go.Proofs.YtdkanehjahpehaaGreatDoor
open Go.RowKit
set_option maxRecDepth 100000
attribute [local go_sem ↓] ld123 st123 al123 apt22_of apt155_of

theorem undId : Tryz.prog.underlying 48 = some (.array 32 5) := u123
/-- From A on lie the words l. -/
def Wds (w : World) (A : Option Addr) (l : List Int) : Prop := ∃ g o, A = some ⟨g, o, none⟩ ∧ g < w.heap.size ∧ ∀ i, i < l.length → w.cell? ⟨g, o + i, none⟩ = some (.int .u32 (l.getD i 0))
theorem Wds.below {w w' : World} {A : Option Addr} {l : List Int} (h : Wds w A l) {n₀ : Nat} (hb : Below n₀ w w') (hA : ∀ a, A = some a → a.block < n₀) : Wds w' A l := by
  obtain ⟨g, o, rfl, hg, hc⟩ := h
  have h0 : g < n₀ := hA ⟨g, o, none⟩ rfl
  exact ⟨g, o, rfl, Nat.lt_of_lt_of_le hg hb.size, fun i hi => (hb.cell (p := ⟨g, o + i, none⟩) h0).trans (hc i hi)⟩

set_option maxHeartbeats 100000000 in
theorem rsum_any (A : Option Addr) (c : Nat) (hcA : A = none → c = 0) (b : List Int) (Ah Ak : Option Addr) (ch ck : Nat) (w : World) (hb : Byt w A b) (hl : b.length ≤ 100000000) (hh : Wds w Ah H0) (hk : Wds w Ak K0) :
    Calls Tryz.prog 95 #[.slice A b.length c, .slice Ah 8 ch, .slice Ak 64 ck] w fun e w' => e = .returned (.agg (bys (shaP b)).toArray) ∧ Below w.heap.size w w' := by
  obtain ⟨z, hz1, hz2⟩ := Option.map_eq_some_iff.1 z123
  have hal := ALs_new (P := Tryz.prog) (t := 48) z hz1 w
  have HAL := Lib.hid (fun W => ALs_new (P := Tryz.prog) (t := 48) z hz1 W)
  obtain ⟨Z32, hZ32⟩ : ∃ Z, z.cells = Z := ⟨_, rfl⟩
  have HZ2 := Lib.hid hz2
  rw [hZ32] at hal HAL HZ2
  have hz32s : Z32.size = 32 := by rw [← hZ32, ← Array.length_toList, hz2]; simp
  have hB1 : Below w.heap.size w (w.alloc (.cells Z32 48)) := (Below.refl _ w).alloc (Nat.le_refl _) _
  have hb1 := Blk.new w 48 Z32
  have hs1 : (w.alloc (.cells Z32 48)).heap.size = w.heap.size + 1 := by simp
  obtain ⟨W1, hW1⟩ : ∃ W1, w.alloc (.cells Z32 48) = W1 := ⟨_, rfl⟩
  rw [hW1] at hal hB1 hb1 hs1
  -- append([]byte{}, b...)
  have h0 : Own8 W1.heap.size (W1.alloc (.cells #[] 5)) (.slice (some ⟨W1.heap.size, 0, none⟩) 0 0) [] := own_nul W1 _ _ (Nat.le_refl _)
  obtain ⟨v2, w2, hap2, ho2, hf2, hft2⟩ := app8 (ty := 28) h0 ((hb.below hB1).below ((Below.refl _ W1).alloc (Nat.le_refl _) (.cells #[] 5))) (by simp; omega) (by simp) hcA
  rw [List.nil_append] at ho2
  have hB2 : Below W1.heap.size W1 w2 := ((Below.refl _ W1).alloc (Nat.le_refl _) _).trans (hf2.below (by simp) (fun k hk e => by simp [Value.ownBlock] at e; omega))
  obtain ⟨A2, c2, rfl⟩ := ho2.form
  obtain ⟨v3, w3, hap3, ho3, hf3, _⟩ := app8_one (ty := 28) (x := 128) ho2 (by omega) (by omega) hB2.size
  have hB3 : Below W1.heap.size W1 w3 := hB2.trans (hf3.below hB2.size (fun k hk e => by have := (ho2.lt e).1; omega))
  obtain ⟨A3, c3, rfl⟩ := ho3.form
  obtain ⟨n, hn⟩ : ∃ n, b.length = n := ⟨_, rfl⟩
  have hl3 : (b ++ [128]).length = n + 1 := by simp [hn]
  rw [hl3] at hap3 ho3
  rw [hn] at hap2 hap3 hl ⊢
  rw [hs1] at hap2
  have hmm : IntKind.u64.wrap ((n : Int)) = (n : Int) := by rw [IntKind.wrap_u64]; omega
  have hm8 : IntKind.u64.wrap ((n : Int) * 8) = ((8 * n : Nat) : Int) := by rw [IntKind.wrap_u64]; omega
  have HPD := Lib.hid (padP_bd hb.bd)
  have HN := Lib.hid hn
  have HH := Lib.hid hh
  have HK := Lib.hid hk
  have HB1 := Lib.hid hB1
  have HB3 := Lib.hid hB3
  have HI := Lib.hid hb1
  have HO3 := Lib.hid ho3
  clear hn hh hk hB1 hB2 hB3 hb1 ho2 ho3 hf2 hft2 hf3 hb hl3 h0 hW1 hZ32 hz1 hz2
  go_enter Tryz.func95, Tryz.ntmps95
  go_wp2_with fail
  clear hal hap2 hap3
  obtain ⟨Zn, hZn⟩ : ∃ Zn, (119 - n % 64) % 64 = Zn := ⟨_, rfl⟩
  have HZn := Lib.hid hZn
  clear hZn
  go_loopg [7] Zn (fun k v wr => ∃ z N A2 c2, z + k = Zn ∧ N = n + 1 + z ∧ v = .slice A2 N c2 ∧ Own8 W1.heap.size wr v (b ++ [128] ++ List.replicate z 0) ∧ Below W1.heap.size W1 wr)
  case atStart => exact ⟨0, n + 1, A3, c3, by omega, rfl, rfl, by simpa using HO3.out, HB3.out⟩
  case round =>
    clear HO3 HB3
    obtain ⟨z, N, A4, c4, hz, hN, rfl, ho, hbl⟩ := hrel
    have HO := Lib.hid ho
    have HBl := Lib.hid hbl
    have HZ := Lib.hid hz
    have HNN := Lib.hid hN
    have hNb : N ≤ 200000000 := by have := HZn.out; omega
    have hlN : (b ++ [128] ++ List.replicate z 0).length = N := by simp [HN.out]; omega
    have hWs : W1.heap.size ≤ wr.heap.size := hbl.size
    have HlN := Lib.hid hlN
    clear hbl hz hN
    by_cases hk : z < Zn
    · have hmod : N % 64 ≠ 56 := by have := HNN.out; have := HZn.out; omega
      obtain ⟨v', w', hap, ho', hf', _⟩ := app8_one (ty := 28) (x := 0) ho (by omega) (by rw [hlN]; omega) hWs
      obtain ⟨A3, c3, rfl⟩ := ho'.form
      rw [List.length_append, hlN] at hap ho'
      have HO' := Lib.hid ho'
      have HF' := Lib.hid hf'
      clear ho ho' hf' hlN
      go_wp2_with fail
      go_roundg (Zn - (z + 1))
      case measure => have := HZ.out; omega
      case rel =>
        refine ⟨z + 1, N + 1, _, _, by omega, by have := HNN.out; omega, rfl, ?_, HBl.out.trans (HF'.out.below HBl.out.size (fun k hk e => by have := (HO.out.lt e).1; omega))⟩
        rw [List.replicate_succ', ← List.append_assoc]
        exact HO'.out
    · have hmod : N % 64 = 56 := by have := HNN.out; have := HZn.out; have := HZ.out; omega
      have hzz : z = Zn := by have := HZ.out; omega
      have hP0 : (b ++ [128] ++ List.replicate z 0) ++ beN ((8 * n : Nat) : Int) 8 = padP b := by
        unfold padP
        rw [hzz, ← HZn.out, HN.out]
        simp
      obtain ⟨M0, hM0⟩ : ∃ M0, b ++ [128] ++ List.replicate z 0 = M0 := ⟨_, rfl⟩
      rw [hM0] at hP0 ho hlN
      have HP0 := Lib.hid hP0
      have HO := Lib.hid ho
      have HlN := Lib.hid hlN
      obtain ⟨wa, hwa⟩ : ∃ wa, wa = wr := ⟨_, rfl⟩
      subst hwa
      have hmodI : (((N : Int) % 64) != 56) = false := by
        have : (N : Int) % 64 = 56 := by omega
        rw [this]
        rfl
      clear ho hlN hzz hP0 hM0 hk hmod
      go_wp2_with fail
      clear hmodI
      go_loopg [7, 9] 8 (fun k v t wr => ∃ j A c, j + k = 8 ∧ ((j < 8 ∧ t = .int .i64 ((7 - j : Nat) : Int)) ∨ (j = 8 ∧ t = .int .i64 (-1))) ∧ v = .slice A (N + j) c ∧ Own8 W1.heap.size wr v (M0 ++ (beN ((8 * n : Nat) : Int) 8).take j) ∧ Below W1.heap.size W1 wr)
      case atStart => exact ⟨0, A4, c4, by omega, .inl ⟨by omega, rfl⟩, rfl, by simpa using HO.out, HBl.out⟩
      case round =>
        obtain ⟨j, A5, c5, hj, ht, rfl, ho, hbl⟩ := hrel
        have hlj : (M0 ++ (beN ((8 * n : Nat) : Int) 8).take j).length = N + j := by rw [List.length_append, HlN.out, List.length_take, beN_len]; omega
        have HBl2 := Lib.hid hbl
        rcases ht with ⟨hj8, rfl⟩ | ⟨rfl, rfl⟩
        · have hxe : (beN ((8 * n : Nat) : Int) 8).getD j 0 = 8 * (n : Int) / 2 ^ (8 * (7 - j)) % 256 := by
            rw [beN_get _ hj8, IntKind.wrap_u8', Int.natCast_mul]
            rfl
          have hxt : (beN ((8 * n : Nat) : Int) 8).take (j + 1) = (beN ((8 * n : Nat) : Int) 8).take j ++ [8 * (n : Int) / 2 ^ (8 * (7 - j)) % 256] := by
            rw [List.take_succ_eq_append_getElem (by rw [beN_len]; exact hj8), ← hxe]
            simp [List.getD, beN_len, hj8]
          obtain ⟨v', w', hap, ho', hf', _⟩ := app8_one (ty := 28) (x := 8 * (n : Int) / 2 ^ (8 * (7 - j)) % 256) ho (by omega) (by rw [hlj]; omega) hbl.size
          obtain ⟨A6, c6, rfl⟩ := ho'.form
          rw [List.length_append, hlj] at hap ho'
          rw [List.append_assoc, ← hxt] at ho'
          have HO2 := Lib.hid ho
          have HO' := Lib.hid ho'
          have HF' := Lib.hid hf'
          clear ho ho' hf' hlj hbl hxe hxt
          go_wp2_with fail
          go_roundg (8 - (j + 1))
          case measure => omega
          case rel =>
            refine ⟨j + 1, _, _, by omega, ?_, rfl, HO'.out, HBl2.out.trans (HF'.out.below HBl2.out.size (fun k hk e => by have := (HO2.out.lt e).1; omega))⟩
            by_cases h7 : j = 7
            · subst h7; exact .inr ⟨rfl, rfl⟩
            · refine .inl ⟨by omega, ?_⟩
              have : IntKind.i64.wrap (((7 - j : Nat) : Int) - 1) = ((7 - (j + 1) : Nat) : Int) := by rw [IntKind.wrap_i64]; omega
              go_num
        · rw [List.take_of_length_le (by rw [beN_len]; exact Nat.le_refl _), HP0.out] at ho
          obtain ⟨K, hK⟩ : ∃ K, (padP b).length = 64 * K := ⟨(padP b).length / 64, by have := padP_len b; omega⟩
          have hNK : N + 8 = 64 * K := by
            rw [← hK, ← HP0.out, List.length_append, HlN.out, beN_len]
          have hpb : ∀ x ∈ padP b, 0 ≤ x ∧ x ≤ 255 := HPD.out
          rw [hNK] at ho ⊢
          have hK1 : 1 ≤ K ∧ 64 * K ≤ 200000100 := by omega
          obtain ⟨A6, c6, e6, hby, _, _⟩ := ho.byt hpb
          rw [hK] at e6
          simp only [Value.slice.injEq, true_and] at e6
          obtain ⟨rfl, rfl⟩ := e6
          obtain ⟨gm, om, rfl, hgm, hmc⟩ := hby.cell (by rw [hK]; omega)
          obtain ⟨wb, hwb⟩ : ∃ wb, wb = wr := ⟨_, rfl⟩
          subst hwb
          have hBw : Below w.heap.size w wb := HB1.out.trans (hbl.mono (by rw [hs1]; omega))
          have HI2 := Lib.hid (HI.out.fr (Fr.of_below hbl) (by omega))
          obtain ⟨gh, oh, rfl, hgh, hhc⟩ := (HH.out.below (hBw) (fun a ha => by
            obtain ⟨g, o, e, hg, _⟩ := HH.out
            rw [ha] at e; cases e; exact hg) : Wds wb Ah H0)
          obtain ⟨gK0, ok, rfl, hgk, hkc⟩ := (HK.out.below (hBw) (fun a ha => by
            obtain ⟨g, o, e, hg, _⟩ := HK.out
            rw [ha] at e; cases e; exact hg) : Wds wb Ak K0)
          obtain ⟨vh, w5, hap, ho5, hb5⟩ := copy32 (ty := 185) wb (a := ⟨gh, oh, none⟩) (m := H0) (c := ch) (fun j x hx => by
            have hj : j < H0.length := (List.getElem?_eq_some_iff.1 hx).1
            have hadd : (⟨gh, oh, none⟩ : Addr).add j = ⟨gh, oh + j, none⟩ := by unfold Addr.add; split <;> simp_all
            rw [hadd, hhc j hj]
            simp [List.getD, hx]) (fun _ => hgh) (by simp [H0])
          obtain ⟨A7, c7, rfl⟩ := ho5.form
          rw [show H0.length = 8 from rfl] at hap ho5
          have h50 : Own32 wb.heap.size w5 (.slice A7 8 c7) (hashP (padP b) 0) := by rw [hashP_zero]; exact ho5
          have HMC := Lib.hid hmc
          have HKC := Lib.hid hkc
          have HBW := Lib.hid hBw
          have HKl := Lib.hid hK
          have HPB := Lib.hid hpb
          have H50 := Lib.hid h50
          have HB5 := Lib.hid hb5
          clear ho hbl hlj hpb hK hby hmc hBw hhc hkc ho5 hb5 h50 hNK HP0 HO HBl HBl2 HNN HlN HH HK
          go_wp2_with fail
          clear hap
          go_loopg [10] K (fun k t wr => ∃ (j J : Nat), j + k = K ∧ J = 64 * j ∧ t = .int .i64 (J : Int) ∧ Own32 wb.heap.size wr (.slice A7 8 c7) (hashP (padP b) j) ∧ Below wb.heap.size wb wr)
          case atStart => exact ⟨0, 0, by omega, rfl, rfl, H50.out, HB5.out⟩
          case round =>
            clear H50 HB5
            obtain ⟨j, J, hj, hJ, rfl, hoh, hbl⟩ := hrel
            by_cases hlt : j < K
            ·
              --<< hlt
              have hJlt : J < 64 * K := by omega
              have hJI : (J : Int) < 64 * (K : Int) := by omega
              have hJ64 : J + 64 ≤ 64 * K := by omega
              obtain ⟨h, hhe⟩ : ∃ h, hashP (padP b) j = h := ⟨_, rfl⟩
              have hhl : h.length = 8 := by rw [← hhe]; exact hashP_len _ _
              have hhw : W32 h := by rw [← hhe]; exact hashP_w _ _
              rw [hhe] at hoh
              obtain ⟨blk, hblk⟩ : ∃ blk, ((padP b).drop (64 * j)).take 64 = blk := ⟨_, rfl⟩
              have hm64 : ∀ d, d < 64 → wr.cell? ⟨gm, om + (J + d), none⟩ = some (.int .u8 (blk.getD d 0)) := fun d hd => by
                rw [hbl.cell (p := ⟨gm, om + (J + d), none⟩) hgm, ← hblk, getD_part _ _ _ _ hd, hJ]
                have hl : 64 * j + d < (padP b).length := by rw [HKl.out]; omega
                exact HMC.out (64 * j + d) _ (by simp [List.getD, List.getElem?_eq_getElem hl])
              have hgmr : gm < wr.heap.size := Nat.lt_of_lt_of_le hgm hbl.size
              have hgkr : gK0 < wr.heap.size := Nat.lt_of_lt_of_le hgk hbl.size
              have HHE := Lib.hid hhe
              have HHL := Lib.hid hhl
              have HHW := Lib.hid hhw
              have HBK := Lib.hid hblk
              have HOH := Lib.hid hoh
              have HBL := Lib.hid hbl
              have HJ := Lib.hid hJ
              have HM64 := Lib.hid hm64
              clear hhe hhl hhw hblk hoh hbl hJ hm64
              go_upto_block 6 with fail
              with_reducible refine rsum_b6 blk _ (by kernel_rfl) hJ64 (by omega) hgmr HM64.out ?_
              intros
              rename_i Aw cw w6 ow b6
              obtain ⟨gw, capw, ew, _, hgw2, hwc⟩ := ow.cells (by rw [schedP_len]; omega)
              rw [schedP_len] at ew
              simp only [Value.slice.injEq, true_and] at ew
              obtain ⟨rfl, rfl⟩ := ew
              have hwc' : ∀ k, k < 64 → w6.cell? ⟨gw, k, none⟩ = some (.int .u32 ((schedP blk 64).getD k 0)) := fun k hk => (hwc k (by rw [schedP_len]; exact hk)).1
              obtain ⟨g7, cap7, e7, hg71, hg72, h7c⟩ := HOH.out.cells (by rw [HHL.out]; omega)
              rw [HHL.out] at e7
              simp only [Value.slice.injEq, true_and] at e7
              obtain ⟨rfl, rfl⟩ := e7
              obtain ⟨vv, w7, hap, ho7, hb7⟩ := copy32 (ty := 185) w6 (a := ⟨g7, 0, none⟩) (m := h) (c := c7) (fun j x hx => by
                have hjl : j < h.length := (List.getElem?_eq_some_iff.1 hx).1
                have hadd : (⟨g7, 0, none⟩ : Addr).add j = ⟨g7, j, none⟩ := by rw [addN, Nat.zero_add]
                have hgd : h.getD j 0 = x := by rw [List.getD_eq_getElem?_getD, hx]; rfl
                rw [hadd, b6.cell (p := ⟨g7, j, none⟩) hg72, (h7c j hjl).1, hgd]) (fun _ => Nat.lt_of_lt_of_le hg72 b6.size) (by rw [HHL.out]; omega)
              obtain ⟨A8, c8, rfl⟩ := ho7.form
              rw [HHL.out] at hap ho7
              have hkc7 : ∀ i, i < 64 → w7.cell? ⟨gK0, ok + i, none⟩ = some (.int .u32 (K0.getD i 0)) := fun i hi => by
                rw [hb7.cell (p := ⟨gK0, ok + i, none⟩) (Nat.lt_of_lt_of_le hgkr b6.size), b6.cell (p := ⟨gK0, ok + i, none⟩) hgkr, HBL.out.cell (p := ⟨gK0, ok + i, none⟩) hgk]
                exact HKC.out i (by simpa [K0] using hi)
              have hwc7 : ∀ k, k < 64 → w7.cell? ⟨gw, k, none⟩ = some (.int .u32 ((schedP blk 64).getD k 0)) := fun k hk => (hb7.cell (p := ⟨gw, k, none⟩) hgw2).trans (hwc' k hk)
              have HB6 := Lib.hid b6
              have HB7 := Lib.hid hb7
              have HO7 := Lib.hid ho7
              have HKC7 := Lib.hid hkc7
              have HWC7 := Lib.hid hwc7
              have hgk7 : gK0 < w7.heap.size := Nat.lt_of_lt_of_le (Nat.lt_of_lt_of_le hgkr b6.size) hb7.size
              have hgw7 : gw < w7.heap.size := Nat.lt_of_lt_of_le hgw2 hb7.size
              have h67 : w6.heap.size ≤ w7.heap.size := hb7.size
              clear ow b6 hwc hwc' h7c ho7 hb7 hkc7 hwc7
              go_upto_block 8 with fail
              clear hap
              with_reducible refine rsum_b8 w6.heap.size h blk _ (by kernel_rfl) h67 hgk7 HKC7.out hgw7 HWC7.out HHL.out HHW.out HO7.out ?_
              intros
              rename_i Av cv w8 ov b8
              obtain ⟨R, hR⟩ : ∃ R, roundsP h blk 64 = R := ⟨_, rfl⟩
              have hRl : R.length = 8 := by rw [← hR]; exact roundsP_len h blk HHL.out 64
              rw [hR] at ov
              have hst : mixP h R 8 = hashP (padP b) (j + 1) := by rw [← hR, mixP_all, hashP_succ, HHE.out, HBK.out]
              obtain ⟨gv, capv, ev, hgv1, hgv2, hvc⟩ := ov.cells (by omega)
              rw [hRl] at ev
              simp only [Value.slice.injEq, true_and] at ev
              obtain ⟨rfl, rfl⟩ := ev
              have hvc' : ∀ k, k < 8 → w8.cell? ⟨gv, k, none⟩ = some (.int .u32 (R.getD k 0)) := fun k hk => (hvc k (by omega)).1
              have hr68 : Below wr.heap.size wr w8 := (HB6.out.trans (HB7.out.mono HB6.out.size)).trans (b8.mono (Nat.le_trans HB6.out.size h67))
              have hoh8 : Own32 wb.heap.size w8 (.slice (some ⟨g7, 0, none⟩) 8 c7) h := HOH.out.below hr68 (fun k hk => by cases hk; exact hg72)
              have hne : gv ≠ g7 := by have := HB6.out.size; omega
              have HST := Lib.hid hst
              have HOH8 := Lib.hid hoh8
              have HVC := Lib.hid hvc'
              have HR68 := Lib.hid (HBL.out.trans (hr68.mono HBL.out.size))
              clear hR hst ov hvc hvc' hr68 hoh8 b8
              go_upto_block 10 with fail
              with_reducible refine rsum_b10 wb.heap.size h R _ (by kernel_rfl) HHL.out hRl HOH8.out HVC.out hne ?_
              intros
              rename_i w9 o9 f9
              rw [HST.out] at o9
              have HO9 := Lib.hid o9
              have HB9 := Lib.hid (HR68.out.trans (f9.below HR68.out.size (fun k hk e => by omega)))
              have hJ64 : IntKind.i64.wrap ((J : Int) + 64) = ((J + 64 : Nat) : Int) := by rw [IntKind.wrap_i64]; omega
              clear o9 f9
              go_wp2_with fail
              go_roundg (K - (j + 1))
              case measure => omega
              case rel => exact ⟨j + 1, J + 64, by omega, by have := HJ.out; omega, by go_num, HO9.out, HB9.out⟩
              -->> hlt
            ·
              --<< out
              obtain rfl : j = K := by omega
              obtain ⟨H, hH⟩ : ∃ H, hashP (padP b) j = H := ⟨_, rfl⟩
              have hHl : H.length = 8 := by rw [← hH]; exact hashP_len _ _
              have hHw : W32 H := by rw [← hH]; exact hashP_w _ _
              have hsha : outP H 32 = shaP b := by
                rw [outP_all hHl, ← hH]
                rw [shaP_eq, HKl.out]
                congr 2
                omega
              rw [hH] at hoh
              obtain ⟨gh, caph, eh, _, hgh2, hhc⟩ := hoh.cells (by omega)
              rw [hHl] at eh
              simp only [Value.slice.injEq, true_and] at eh
              obtain ⟨rfl, rfl⟩ := eh
              obtain ⟨wo, hwo⟩ : ∃ wo, wo = wr := ⟨_, rfl⟩
              subst hwo
              have hal := HAL.out wo
              have hb0 : Blk (wo.alloc (.cells Z32 48)) wo.heap.size 48 (bys (outP H 0)).toArray := by
                rw [show (bys (outP H 0)).toArray = Z32 from by
                  rw [outP_zero]
                  apply Array.toList_inj.1
                  rw [HZ2.out]
                  simp [bys]]
                exact Blk.new wo _ _
              have hl0 : Below wo.heap.size wo (wo.alloc (.cells Z32 48)) := (Below.refl _ wo).alloc (Nat.le_refl _) _
              have hcc : ∀ k, k < 8 → wo.cell? ⟨gh, k, none⟩ = some (.int .u32 (H.getD k 0)) := fun k hk => (hhc k (by omega)).1
              have HSH := Lib.hid hsha
              have HB0 := Lib.hid hb0
              have HL0 := Lib.hid hl0
              have HC := Lib.hid hcc
              have HHl := Lib.hid hHl
              have HBW2 := Lib.hid (HBW.out.trans (hbl.mono HBW.out.size))
              have HBLo := Lib.hid hbl
              have HHw := Lib.hid hHw
              have hltf : ¬ (((64 * j : Nat) : Int) < 64 * (j : Int)) := by omega
              have hJj : J = 64 * j := hJ
              subst hJj
              clear hH hsha hb0 hl0 hcc hhc hoh hbl hHl hHw hlt hj HMC HAL
              go_wp2_with fail
              clear hal
              go_loopg [24] 32 (fun k t wx => ∃ (i : Nat), i + k = 32 ∧ t = .int .i64 (i : Int) ∧ Blk wx wo.heap.size 48 (bys (outP H i)).toArray ∧ Below wo.heap.size wo wx)
              case atStart => exact ⟨0, by omega, rfl, HB0.out, HL0.out⟩
              case round =>
                clear HB0 HL0
                obtain ⟨i, hi, rfl, hb, hbl⟩ := hrel
                by_cases hi32 : i < 32
                · have hi32I : (i : Int) < 32 := by omega
                  have l0 := (hbl.cell (p := ⟨gh, i / 4, none⟩) hgh2).trans (HC.out (i / 4) (by omega))
                  have f0 := hb.frozen i
                  have hset := outP_set H i
                  rw [IntKind.wrap_u8'] at hset
                  obtain ⟨y, c0⟩ : ∃ y, wr.cell? ⟨wo.heap.size, i, none⟩ = some (.int .u8 y) := ⟨(outP H i).getD i 0, by rw [hb.cell]; simp [bys, outP_len, List.getD, hi32]⟩
                  obtain ⟨x, hx⟩ : ∃ x, H.getD (i / 4) 0 = x := ⟨_, rfl⟩
                  rw [hx] at l0 hset
                  obtain ⟨q, hq⟩ : ∃ q, i / 4 = q := ⟨_, rfl⟩
                  obtain ⟨s, hs⟩ : ∃ s, 24 - 8 * (i % 4) = s := ⟨_, rfl⟩
                  rw [hq] at l0
                  rw [hs] at hset
                  have q8 : q < 8 := by omega
                  have q8I : (q : Int) < 8 := by omega
                  have e1 : (i : Int) / 4 = (q : Int) := by omega
                  have e2 : 24 - 8 * ((i : Int) % 4) = (s : Int) := by omega
                  have HBL := Lib.hid hbl
                  have HB := Lib.hid hb
                  have HSET := Lib.hid hset
                  clear hbl hb hset hx hq hs
                  go_wp2_with fail
                  go_roundg (32 - (i + 1))
                  case measure => omega
                  case rel =>
                    refine ⟨i + 1, by omega, by go_num, ?_, (HBL.out.setCell (p := ⟨wo.heap.size, i, none⟩) (Nat.le_refl _) _)⟩
                    have h3 := HB.out.set_ i (.int .u8 (x / 2 ^ s % 256))
                    have h4 : (bys (outP H (i + 1))).toArray = (bys (outP H i)).toArray.setIfInBounds i (.int .u8 (x / 2 ^ s % 256)) := by
                      rw [← HSET.out]
                      simp [bys, List.map_set]
                    rw [h4]
                    exact h3
                · obtain rfl : i = 32 := by omega
                  have hi32I : ¬ (((32 : Nat) : Int) < 32) := by omega
                  rw [HSH.out] at hb
                  have hwo := HBW2.out.size
                  have hwb : w.heap.size < wb.heap.size := HI2.out.lt
                  have hbr := (HI2.out.fr (Fr.of_below HBLo.out) (by omega)).fr (Fr.of_below hbl) (by omega)
                  have hl32 : (bys (shaP b)).length = 32 := by rw [bys_length, shaP_len]
                  have hld := LDs_blk (P := Tryz.prog) undId rfl i123 hb (off := 0) (bys (shaP b)) hl32 (by simp [List.take_of_length_le, hl32])
                  have hst := STs_blk (P := Tryz.prog) (t := 48) i123 hbr (off := 0) (bys (shaP b)) hl32 (by omega) (bys_one _)
                  rw [splice_whole _ _ (by rw [hl32, hz32s])] at hst
                  have HB := Lib.hid hb
                  have HBL := Lib.hid hbl
                  have HBR := Lib.hid hbr
                  have HL32 := Lib.hid hl32
                  clear hb hbl hbr hl32
                  go_wp2_with fail
                  exact bodyPost_ret (results_arr rfl _ _ w.heap.size 48 (bys (shaP b)) _ rfl (HBR.out.row_ _) undId rfl (by rw [HL32.out]; exact i123)) rfl ⟨rfl, Below.setRow (HBW2.out.trans (HBL.out.mono HBW2.out.size)) (Nat.le_refl _) _⟩
              -->> out

end Go.Proofs.YtdkanehjahpehaaGreatDoor
