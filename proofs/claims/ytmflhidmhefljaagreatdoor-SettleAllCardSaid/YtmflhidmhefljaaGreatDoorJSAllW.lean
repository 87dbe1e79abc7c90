/-
  SettleAll: the walk.
-/
import Derived.Test.YtmflhidmhefljaaGreatDoorJSetS
import Derived.Test.YtmflhidmhefljaaGreatDoorJOpenT

namespace Go.Proofs.YtmflhidmhefljaaGreatDoor
open Go.RowKit Go.Shelf
set_option maxRecDepth 100000
attribute [local go_sem ↓] ldTx_of ldEnt_of stEnt_of alEnt_of ldCert_of stCert_of alCert_of bsCert_of apCert_of SLs_of

set_option maxHeartbeats 16000000 in
theorem settleall_law (As : Option Addr) (cs : Nat) (seed : List Int) (n : Int) (A1 : Option Addr) (c1 : Nat) (A2 : Option Addr) (c2 : Nat) (t : TxD) (ai wi : Int) (w : World) (hsd : BytN w As cs seed) (hsm : seed.length ≤ maxLen) (hn : 0 ≤ n ∧ n ≤ 255) (h : TxAt w A1 A2 t) (_m1 : t.ins.length ≤ maxLen) (_m2 : t.outs.length ≤ maxLen) (hai : 0 ≤ ai ∧ ai ≤ 255) (hwi : 0 ≤ wi ∧ wi ≤ 255) (hg : Glob w) :
    Calls Tryz.prog 4 #[.slice As seed.length cs, .int .u8 n, .agg (txV A1 c1 A2 c2 t), .int .u8 ai, .int .u8 wi] w fun e w' => e = .returned (.bool true) ∧ Below w.heap.size w w' := by
  have hbt := hsd.byt
  have b0 := Blk.new w 27 (txV A1 c1 A2 c2 t)
  have B0 : Below w.heap.size w (w.alloc (.cells (txV A1 c1 A2 c2 t) 27)) := (Below.refl _ w).alloc (Nat.le_refl _) _
  obtain ⟨W, hW⟩ : ∃ W, w.alloc (.cells (txV A1 c1 A2 c2 t) 27) = W := ⟨_, rfl⟩
  rw [hW] at b0 B0
  obtain ⟨g, hgg⟩ : ∃ g, w.heap.size = g := ⟨_, rfl⟩
  rw [hgg] at b0
  have hld := fun X (hX : Below W.heap.size W X) => LDs_all (P := Tryz.prog) uTx iTx (w := X) (txV A1 c1 A2 c2 t).toList (by simpa using b0.fr (Fr.of_below hX) (by have := b0.lt; omega)) rfl
  have hld0 := hld W (Below.refl _ _)
  have hTW := h.below B0
  have hgW := hg.below B0
  have hbW := hbt.below B0
  have hck := rcheck_any A1 c1 A2 c2 t W hTW
  have haw := fun X (hX : Below W.heap.size W X) => awakeZ X (hgW.below hX)
  have hks := fun k h1 h2 (hs : seed.length ≤ 64) X (hX : Below W.heap.size W X) => keys_any As cs seed k X h1 h2 hs (hbW.below hX) (hgW.below hX)
  have hcsx := fun k h1 h2 (hs : seed.length ≤ 64) (hc : checkP t = 0) X (hX : Below W.heap.size W X) => certs23_any As cs seed hs A1 c1 A2 c2 t k h1 h2 1 (.inl rfl) hc X (hbW.below hX) (hTW.below hX)
  have hsA := fun p k X A c l (hr : RingAt X p seed k) h1 h2 (hX : Below W.heap.size W X) q1 q2 (hC : CertsAt X A l) q3 q4 => setall_any p k seed A1 c1 A2 c2 t A c l X hr h1 h2 (hTW.below hX) (hgW.below hX) q1 q2 hC q3 q4
  have hsF := fun p (k : Nat) h1 h2 hc X A N c (hN : N ≠ (eachP (insP t k)).length) (hX : Below W.heap.size W X) q1 q2 => setall_few p A1 c1 A2 c2 t k h1 h2 hc A N c hN X (hTW.below hX) (hgW.below hX) q1 q2
  have hsN := fun (k : Nat) hk A N c X (hX : Below W.heap.size W X) q1 q2 => setall_nil A1 c1 A2 c2 t (k : Int) hk A N c X (hTW.below hX) (hgW.below hX) q1 q2
  have hmd := fun (hs : seed.length ≤ 64) (e : EntD) (he : e.Bd) (hr : rightE e = true) X (hX : Below W.heap.size W X) => made_new As cs seed hs none 0 (fun _ => rfl) [] e he hr 7 (by omega) X (hbW.below hX) (Byt.nil _ _) (by simp)
  have hbd := h.bd
  obtain ⟨xs, hxs⟩ : ∃ xs, txV A1 c1 A2 c2 t = xs := ⟨_, rfl⟩
  simp only [hxs, Array.toArray_toList] at hld hld0 hsA hsF hsN hcsx
  rw [hxs] at hck hW ⊢
  obtain ⟨ls, hls⟩ : ∃ n, seed.length = n := ⟨_, rfl⟩
  simp only [hls, show ([] : List Int).length = 0 from rfl, show ((7 : Nat) : Int) = 7 from rfl] at hsm hks hcsx hmd ⊢
  obtain ⟨hn1, hn2⟩ := hn
  obtain ⟨hai1, hai2⟩ := hai
  obtain ⟨hwi1, hwi2⟩ := hwi
  have hsmx : ls ≤ 9223372036854775807 := Nat.le_trans hsm (by decide)
  have HW := Lib.hid hW
  have HG := Lib.hid hgg
  have HB := Lib.hid B0
  have HAW := Lib.hid haw
  have HLD := Lib.hid hld
  have HKS := Lib.hid hks
  have HCS := Lib.hid hcsx
  have HSA := Lib.hid hsA
  have HSF := Lib.hid hsF
  have HSN := Lib.hid hsN
  have HMD := Lib.hid hmd
  have HLS := Lib.hid hls
  have HBD := Lib.hid hbd
  clear hW hgg B0 haw hld hks hcsx hsA hsF hsN hmd hls hbd h hg hbt hsd b0 hTW hgW hbW hxs hsm
  go_enter Tryz.func4, Tryz.ntmps4
  go_upto_region 1 with fail
  rw [HW.out, HG.out]
  by_cases h60 : 60 < ls
  · have h60I : (60 : Int) < (ls : Int) := by omega
    have haw1 := HAW.out W (Below.refl _ _)
    clear hck hld0
    go_wp2_with fail
    with_reducible refine haw1.mono ?_
    rintro e w2 ⟨rfl, hB2⟩
    have HB2 := Lib.hid hB2
    clear hB2 haw1
    go_wp2_with fail
    go_ret
    exact ⟨rfl, HB.out.trans (HB2.out.mono HB.out.size)⟩
  have h60I : ¬ (60 : Int) < (ls : Int) := by omega
  by_cases hR0 : checkP t = 0
  rotate_left
  · obtain ⟨R, hR⟩ : ∃ R, checkP t = R := ⟨_, rfl⟩
    rw [hR] at hck hR0
    have hRb : (R != 0) = true := by simpa using hR0
    clear hR
    go_wp2_with fail
    with_reducible refine hck.mono ?_
    rintro e w1 ⟨rfl, hB1⟩
    have haw1 := HAW.out w1 hB1
    have HB1 := Lib.hid hB1
    clear hB1 hck hld0 hR0
    go_wp2_with fail
    with_reducible refine haw1.mono ?_
    rintro e w2 ⟨rfl, hB2⟩
    have HB2 := Lib.hid (HB1.out.trans (hB2.mono HB1.out.size))
    clear hB2 haw1
    go_wp2_with fail
    go_ret
    exact ⟨rfl, HB.out.trans (HB2.out.mono HB.out.size)⟩
  rw [hR0] at hck
  go_wp2_with fail
  with_reducible refine hck.mono ?_
  rintro e w1 ⟨rfl, hB1⟩
  obtain ⟨k, hk⟩ : ∃ k : Nat, 1 + n % 64 = (k : Int) := ⟨(1 + n % 64).toNat, by omega⟩
  have hk1 : 1 ≤ k := by omega
  have hk2 : k ≤ 64 := by omega
  have hs64 : seed.length ≤ 64 := by have := HLS.out; omega
  have hkeys := HKS.out k hk1 hk2 (by omega) w1 hB1
  have q1 : t.ins.length ≤ 1000000 := by
    have := (checkP_zero hR0).1
    unfold longP at this
    simp only [Bool.or_eq_false_iff, Bool.not_eq_false', decide_eq_true_eq] at this
    omega
  have q2 : t.outs.length ≤ 1000000 := by
    have := (checkP_zero hR0).1
    unfold longP at this
    simp only [Bool.or_eq_false_iff, Bool.not_eq_false', decide_eq_true_eq] at this
    omega
  have hkI : -9223372036854775808 ≤ (k : Int) ∧ (k : Int) ≤ 9223372036854775807 := by omega
  have HB1 := Lib.hid hB1
  have HK := Lib.hid hk
  have Q1 := Lib.hid q1
  have Q2 := Lib.hid q2
  have HS64 := Lib.hid hs64
  have HR0 := Lib.hid hR0
  clear hB1 hk q1 q2 hs64 hR0 hck hld0
  go_upto_region 4 with fail
  rw [HK.out]
  go_wp2_with fail
  with_reducible refine hkeys.mono ?_
  rintro e w2 ⟨p, rfl, hring, _, hB2⟩
  have hB2W := HB1.out.trans (hB2.mono HB1.out.size)
  have hld2 := HLD.out w2 hB2W
  have hcs2 := HCS.out k hk1 hk2 (by have := HS64.out; omega) HR0.out w2 hB2W
  have HB2 := Lib.hid hB2W
  have HRING := Lib.hid hring
  clear hB2W hring hB2 hkeys
  go_wp2_with fail
  with_reducible refine hcs2.mono ?_
  rintro e w3 ⟨⟨v3, R, rfl, hO, hRow⟩, hB3⟩
  obtain ⟨A3, c3, rfl, hrd3, hc3, hn3, _⟩ := OwnR.rd hO
  have hRl := hRow.len
  rw [certsTo_len] at hRl
  have hCt := hRow.certs hrd3
  have hEin := each_in HR0.out hk1 hk2
  have hacc := acc_right (seed := seed) HBD.out HR0.out hk1 hk2
  have hget := fun i (hi : i < (eachP (insP t k)).length) => certsTo_get (t := t) (k := k) (seed := seed) 1 hi (Nat.le_refl _)
  have hbad := fun (L : List CertD) h i hi hb => acc_bad (t := t) (k := k) (seed := seed) HR0.out hk1 hk2 (L := L) h i hi hb
  have hB3W := HB2.out.trans (hB3.mono HB2.out.size)
  have hRing3 := HRING.out.below hB3
  have hsF3 := fun X A N c hN (hX : Below W.heap.size W X) => HSF.out p k hk1 hk2 HR0.out X A N c hN hX Q1.out Q2.out
  obtain ⟨E, hE⟩ : ∃ E, eachP (insP t k) = E := ⟨_, rfl⟩
  simp only [hE] at hCt hEin hacc hget hbad hsF3
  rw [hE] at hRl
  obtain ⟨L, hL⟩ : ∃ L, certsTo seed t k 1 E.length = L := ⟨_, rfl⟩
  have hLl : L.length = E.length := by rw [← hL, certsTo_len]
  rw [hE, hL] at hRow
  simp only [hL] at hCt hacc hget
  obtain ⟨hE1, hE64, hEs⟩ := hEin
  have hRN : R.length = E.length := hRl
  obtain ⟨N, hN⟩ : ∃ N, R.length = N := ⟨_, rfl⟩
  rw [hN]
  rw [hN] at hRN hc3 hO
  have hN0 : ((N : Int) == 0) = false := by simp; omega
  obtain ⟨i, hi⟩ : ∃ i : Nat, ai % (N : Int) = (i : Int) := ⟨(ai % (N : Int)).toNat, by have := Int.emod_nonneg ai (show (N : Int) ≠ 0 by omega); omega⟩
  have hiN : i < N := by have := Int.emod_lt_of_pos ai (show (0 : Int) < N by omega); omega
  have hiE : i < E.length := by omega
  have hil : i < L.length := by omega
  obtain ⟨g3, o3, B, cap, rfl, hg3, hct⟩ := hCt i hil
  have hgi : L[i] = certO seed t k 1 i E[i] := hget i hiE
  obtain ⟨mc, hmc⟩ : ∃ c, L[i] = c := ⟨_, rfl⟩
  obtain ⟨s, hs⟩ : ∃ s, E[i] = s := ⟨_, rfl⟩
  have hbad2 : ∀ (L : List CertD) (_ : L.length = N) (h : i < L.length), allOne seed t (k : Int) s L[i] = false → accP' seed t (k : Int) L = 16 := fun L hl h hb => hbad L (by omega) i h (by rw [hs]; exact hb)
  have hsE : s ∈ E := by rw [← hs]; exact List.getElem_mem hiE
  rw [hmc] at hct hgi
  rw [hs] at hgi
  obtain ⟨hsI, hsk⟩ := hEs s hsE
  have hr0 := entO_right (k := k) (kind := 1) (s := s) HBD.out HR0.out hk1 hk2 (.inl rfl) hsk
  have he0 := entO_bd (t := t) (k := k) (kind := 1) (s := s) (.inl rfl) (by omega)
  have hme : mc.e = entO t k 1 s := by rw [hgi]; exact made_e hr0 (by omega)
  have hmbd := hct.bd
  have hldc := fun X (hX : Below w3.heap.size w3 X) => (hct.below hg3 hX).ld
  have hldE := fun X (hX : Below w3.heap.size w3 X) => LDs_agg (P := Tryz.prog) uEnt iEnt X g3 (o3 + i * 137) (entV mc.e) (entV_len hmbd.e) (fun j v hv => (hct.below hg3 hX).cell j v (certV_pre hmbd _ _ hv))
  have hcvl := certV_len hmbd B cap
  have hcv1 := certV_one mc B cap
  rw [hme] at hldE
  obtain ⟨cvl, hcvn⟩ : ∃ x, certV mc B cap = x := ⟨_, rfl⟩
  simp only [hcvn] at hldc
  rw [hcvn] at hcvl hcv1
  have hKL : ∀ c ∈ L, c.path.length ≤ 1000000 := fun c hc => by
    obtain ⟨j, hj, rfl⟩ := List.getElem_of_mem hc
    rw [hget j (by omega)]
    have hsj := (hEs _ (List.getElem_mem (show j < E.length by omega))).2
    unfold certO
    rw [made_path (entO_right (kind := 1) HBD.out HR0.out hk1 hk2 (.inl rfl) hsj) (by omega)]
    omega
  have a1 := HSA.out p k w3 (some ⟨g3, o3, none⟩) c3 L hRing3 hk1 hk2 hB3W Q1.out Q2.out hCt hKL (by omega)
  rw [hacc, hLl, ← hRN] at a1
  have a2 := fun X (hX : Below W.heap.size W X) => HSN.out k hkI (some ⟨g3, o3, none⟩) N c3 X hX Q1.out Q2.out
  have hld3 := HLD.out w3 hB3W
  -- the entry
  have hsum := sumAt_in HBD.out HR0.out hk1 hk2 s
  obtain ⟨hsu0, hsu1, hsu2⟩ := hsum
  have hsu3 := hsu2 hsI
  obtain ⟨sm, hsm⟩ : ∃ a, sumAtP t k s = a := ⟨_, rfl⟩
  have heq : entO t k 1 s = ⟨1, s, idP t, sm, 0, 0⟩ := by unfold entO; rw [if_pos rfl, hsm]
  rw [hsm] at hsu0 hsu1 hsu3
  rw [heq] at hldE he0 hr0
  have hDi := dig_id t
  obtain ⟨eo, heo⟩ : ∃ e : EntD, (⟨1, s, idP t, sm, 0, 0⟩ : EntD) = e := ⟨_, rfl⟩
  simp only [heo] at hldE
  rw [heo] at he0 hr0
  obtain ⟨Zc, halc, hstc, _⟩ := alstZ (P := Tryz.prog) (t := 48) iCert zCert
  obtain ⟨Ze, hale, hste, _⟩ := alstZ (P := Tryz.prog) (t := 43) iEnt zEnt
  have hel0 := entV_len he0
  have hev1 := entV_one eo
  have hcEb := fun e (he : EntD.Bd e) (hr : rightE e = true) (hb : e.kind ≠ 1 ∨ e.tx ≠ idP t ∨ e.am ≠ sm) => (one_bad (seed := seed) (t := t) (n := (k : Int)) (s := s) (c := (madeP seed [] e 7).1) (by rw [made_e hr (by omega), hsm]; exact hb) : _ = false)
  have HE := Lib.hid hE
  have HI := Lib.hid hi
  have HB3 := Lib.hid hB3W
  have HROW := Lib.hid hRow
  have HOWN := Lib.hid hO
  have HRD := Lib.hid hrd3
  have HRING3 := Lib.hid hRing3
  have HEO := Lib.hid heo
  have HE0 := Lib.hid he0
  have HR00 := Lib.hid hr0
  have HLDC := Lib.hid hldc
  have HLDE := Lib.hid hldE
  have HSTC := Lib.hid hstc
  have HSTE := Lib.hid hste
  have HEL0 := Lib.hid hel0
  have HEV1 := Lib.hid hev1
  have HBAD := Lib.hid hbad2
  have HCEB := Lib.hid hcEb
  have HKL := Lib.hid hKL
  have HA2 := Lib.hid a2
  have HSF3 := Lib.hid hsF3
  have HLL := Lib.hid hLl
  have HRN := Lib.hid hRN
  have HG3 := Lib.hid hg3
  have HDI := Lib.hid hDi
  have HSM := Lib.hid hsm
  have HCVL := Lib.hid hcvl
  have HCV1 := Lib.hid hcv1
  have HC3 := Lib.hid hc3
  have HSU3 := Lib.hid hsu3
  have HSU1 := Lib.hid hsu1
  have HNN := Lib.hid hN
  have HN64 := Lib.hid hE64
  clear hE hi hB3W hRow hO hrd3 hRing3 heo he0 hr0 hldc hldE hstc hste hel0 hev1 hbad2 hcEb hKL a2 hsF3 hLl hRN hg3 hDi hsm hcvl hcv1 hc3 hsu3 hsu1 hN hE64 hB3 hcs2 hld2 hget hacc hct hgi hmc hsE hsk hsI hme hmbd hbad hs hiE hil heq hsu0 hsu2 hEs hE1 hL hCt hRl hn3
  go_wp2_with fail
  with_reducible refine a1.mono ?_
  rintro e u1 ⟨rfl, hu1⟩
  have l1 := HLD.out u1 (HB3.out.trans (hu1.mono HB3.out.size))
  have a2 := HA2.out u1 (HB3.out.trans (hu1.mono HB3.out.size))
  have HU1 := Lib.hid hu1
  clear hu1 a1 hld3
  have hmo := HI.out
  have hmo2 : Int.tmod ai (N : Int) = (i : Int) := by rw [Int.tmod_eq_emod_of_nonneg hai1]; exact hmo
  have hi0 : (0 : Int) ≤ (i : Int) := by omega
  have hiN2 : (i : Int) < (N : Int) := by omega
  go_wp2_with fail
  with_reducible refine a2.mono ?_
  rintro e u2 ⟨rfl, hu2⟩
  have hu2w := HU1.out.trans (hu2.mono HU1.out.size)
  have e2 := HLDE.out u2 hu2w
  have st2 := HSTE.out u2 (entV eo) HEL0.out HEV1.out
  have bE := Blk.new u2 43 (entV eo).toArray
  have hY0 := hu2w.alloc hu2w.size (.cells (entV eo).toArray 43)
  obtain ⟨Y0, hY0e⟩ : ∃ X, u2.alloc (.cells (entV eo).toArray 43) = X := ⟨_, rfl⟩
  rw [hY0e] at bE hY0 st2
  obtain ⟨he, hhe⟩ : ∃ h, u2.heap.size = h := ⟨_, rfl⟩
  rw [hhe] at bE
  have hhe3 : w3.heap.size ≤ he := by rw [← hhe]; exact hu2w.size
  obtain ⟨ev, hev⟩ : ∃ x, (entV eo).toArray = x := ⟨_, rfl⟩
  rw [hev] at st2 bE hY0e e2
  have HHE := Lib.hid hhe
  have HEV := Lib.hid hev
  have HHE3 := Lib.hid hhe3
  have BE := Lib.hid bE
  have HY0 := Lib.hid hY0
  have HY0E := Lib.hid hY0e
  clear hhe hev hhe3 bE hY0 hY0e hu2 a2 l1 hu2w
  go_upto_region 10 with fail
  rw [HHE.out]
  clear e2 st2 hmo hmo2
  have hq : wi % 4 = 0 ∨ wi % 4 = 1 ∨ wi % 4 = 2 ∨ wi % 4 = 3 := by omega
  rcases hq with hq | hq | hq | hq
  focus
    have hY0w := HB3.out.trans (HY0.out.mono HB3.out.size)
    have hNN := HNN.out
    have hLn : L.length = N := by have := HLL.out; have := HRN.out; omega
    have hN64 : N ≤ 64 := by have := HN64.out; have := HRN.out; omega
    have hNE : N = E.length := HRN.out
    have hRl := HROW.out.len
    have hc3 := HC3.out
    have hR1 : ∀ r ∈ R, ∀ u ∈ r, u.oneCell' = true := fun r hr => by
      obtain ⟨j, hj, rfl⟩ := List.getElem_of_mem hr
      obtain ⟨B', cap', h1, _⟩ := HROW.out.at_ j (by omega)
      obtain ⟨_, h1e⟩ := List.getElem?_eq_some_iff.1 h1
      rw [h1e]
      exact certV_one _ _ _
    have hRm := HOWN.out.len
    have hz := fun X => BSs_zero (P := Tryz.prog) uCerts iCerts2 X
    have hone := fun X => BSs_one (P := Tryz.prog) uCerts iCerts2 (by omega) (by omega) X (.agg cvl.toArray) (by simp [Value.cells, HCVL.out])
    simp only [Value.cells] at hone
    have hE0 : ∀ X, Below Y0.heap.size Y0 X → OwnR 48 137 Y0.heap.size (X.alloc (.cells #[] 48)) (.slice (some ⟨X.heap.size, 0, none⟩) 0 0) [] := fun X hX => OwnR.empty (Blk.new X _ _) hX.size
    have hsl1 := fun X => SLs_hi (P := Tryz.prog) uCerts iCert X g3 o3 N c3 i (by omega)
    have hsl2 := fun X => SLs_lo (P := Tryz.prog) uCerts iCert X g3 o3 N c3 (i + 1) (by omega)
    have hci : ((i + 1 : Nat) : Int) = (i : Int) + 1 := by omega
    simp only [hci] at hsl2
    have hwi : IntKind.i64.wrap ((i : Int) + 1) = (i : Int) + 1 := by rw [IntKind.wrap_i64]; omega
    have hrdd : RdR 137 w3 (if c3 = i + 1 then some ⟨g3, o3, none⟩ else some ⟨g3, o3 + (i + 1) * 137, none⟩) (R.drop (i + 1)) := by
      by_cases h : c3 = i + 1
      · rw [List.drop_of_length_le (by omega)]; exact RdR.nil _ _ _
      · rw [if_neg h]; exact HRD.out.drop (i + 1)
    have hA2n : (if c3 = i + 1 then some (⟨g3, o3, none⟩ : Addr) else some ⟨g3, o3 + (i + 1) * 137, none⟩) ≠ none := by split <;> simp
    obtain ⟨Ad, hAd⟩ : ∃ A, (if c3 = i + 1 then some (⟨g3, o3, none⟩ : Addr) else some ⟨g3, o3 + (i + 1) * 137, none⟩) = A := ⟨_, rfl⟩
    simp only [hAd] at hsl2
    rw [hAd] at hrdd hA2n
    have hB0Y := HY0.out
    have AP : ∀ X v Q (A : Option Addr) (S : List (List Value)) c M, Below Y0.heap.size Y0 X → OwnR 48 137 Y0.heap.size X v Q → RdR 137 X A S → M = S.length → (∀ s ∈ S, s.length = 137) → (∀ s ∈ S, ∀ u ∈ s, u.oneCell' = true) → A ≠ none → Q.length + S.length ≤ 1000000000 →
        ∃ v' w', (APs #[28, 28] 28 #[v, .slice A M c]).run Tryz.prog X = .ok v' w' ∧ OwnR 48 137 Y0.heap.size w' v' (Q ++ S) ∧ Below Y0.heap.size Y0 w' ∧ Fr (fun k => v.ownBlock = some k) X w' := fun X v Q A S c M hX hO hr hM hl h1 hA hq => by
      obtain ⟨v', w', h1, h2, h3, _⟩ := appR (P := Tryz.prog) (ty := 28) uCerts iCerts (by omega) (by omega) hO hr hl h1 (c := c) (fun e => absurd e hA) hq hX.size
      rw [← hM] at h1
      exact ⟨v', w', h1, h2, hX.trans (hO.step h3 hX.size), h3⟩
    have A1' := fun X v (hX : Below Y0.heap.size Y0 X) (hO : OwnR 48 137 Y0.heap.size X v []) => AP X v [] (some ⟨g3, o3, none⟩) (R.take i) c3 i hX hO ((HRD.out.take i).below (hB0Y.trans (hX.mono hB0Y.size))) (by rw [List.length_take]; omega) (fun s hs => hRm s (List.mem_of_mem_take hs)) (fun s hs => hR1 s (List.mem_of_mem_take hs)) (by simp) (by simp; omega)
    have A2' := fun X v Q (hX : Below Y0.heap.size Y0 X) (hO : OwnR 48 137 Y0.heap.size X v Q) (hq : Q.length ≤ 64) => AP X v Q Ad (R.drop (i + 1)) (c3 - (i + 1)) (N - (i + 1)) hX hO (hrdd.below (hB0Y.trans (hX.mono hB0Y.size))) (by rw [List.length_drop]; omega) (fun s hs => hRm s (List.mem_of_mem_drop hs)) (fun s hs => hR1 s (List.mem_of_mem_drop hs)) hA2n (by simp; omega)
    have A3' := fun X v (hX : Below Y0.heap.size Y0 X) (hO : OwnR 48 137 Y0.heap.size X v []) => AP X v [] (some ⟨g3, o3, none⟩) R c3 N hX hO (HRD.out.below (hB0Y.trans (hX.mono hB0Y.size))) (by omega) hRm hR1 (by simp) (by simp; omega)
    have A4' := fun X v Q h1 (hX : Below Y0.heap.size Y0 X) (hO : OwnR 48 137 Y0.heap.size X v Q) (hb : Blk X h1 48 cvl.toArray) (hq : Q.length ≤ 64) => AP X v Q (some ⟨h1, 0, none⟩) [cvl] 1 1 hX hO (fun j hj => ⟨h1, 0, rfl, hb.lt, fun k x hx => by
      obtain rfl : j = 0 := by simpa using hj
      rw [show 0 + 0 * 137 + k = k by omega, hb.cell k]
      simpa using hx⟩) rfl (by simpa using HCVL.out) (by simpa using HCV1.out) (by simp) (by simp; omega)
    obtain ⟨cv, hcv⟩ : ∃ x, cvl.toArray = x := ⟨_, rfl⟩
    simp only [hcv] at hone A4'
    have F1 := fun X (hX : Below Y0.heap.size Y0 X) => HLD.out X (hY0w.trans (hX.mono hY0w.size))
    have F2 := fun X (hX : Below Y0.heap.size Y0 X) => HLDC.out X (hB0Y.trans (hX.mono hB0Y.size))
    simp only [hcv] at F2
    obtain ⟨S0, hS0⟩ : ∃ S0 : World → Prop, (fun X => (LDs 27 (.pointer (some ⟨g, 0, none⟩))).run Tryz.prog X = .ok (.agg xs) X ∧ (LDs 48 (.pointer (some ⟨g3, o3 + i * 137, none⟩))).run Tryz.prog X = .ok (.agg cv) X) = S0 := ⟨_, rfl⟩
    have hSS : ∀ X, Below Y0.heap.size Y0 X → S0 X := fun X hX => by rw [← hS0]; exact ⟨F1 X hX, F2 X hX⟩
    have hi0 : (0 : Int) ≤ (i : Int) := by omega
    have hiN2 : (i : Int) < (N : Int) := by omega
    obtain ⟨U, hU⟩ : ∃ U, Y0.drew = U := ⟨_, rfl⟩
    have hBU : Below Y0.heap.size Y0 U := by rw [← hU]; exact (Below.refl _ Y0).drew
    have hzU := hz U
    obtain ⟨v7, w7, hap7, ho7, hB7, _⟩ := A1' _ _ (hBU.alloc hBU.size (.cells #[] 48)) (hE0 U hBU)
    have hl7 : ([] ++ R.take i : List (List Value)).length ≤ 64 := by simp; omega
    obtain ⟨v12, w12, hap12, ho12, hB12, _⟩ := A2' w7 v7 _ hB7 ho7 hl7
    obtain ⟨A12, N12, c12, rfl, hN12⟩ := ho12.formN
    have hN12b : N12 ≠ E.length := by
      rw [hN12]
      simp
      omega
    have c13 := HSF3.out w12 A12 N12 c12 hN12b (hY0w.trans (hB12.mono hY0w.size))
    have hn19 : R.length + 1 ≠ E.length := by omega
    have HY0W := Lib.hid hY0w
    have HSE := Lib.hid hS0
    have HSS := Lib.hid hSS
    have HBU := Lib.hid hBU
    have HU := Lib.hid hU
    have HB7 := Lib.hid hB7
    have HB12 := Lib.hid hB12
    have HHE0 := Lib.hid hE0
    have HA3 := Lib.hid A3'
    have HA4 := Lib.hid A4'
    have HONE := Lib.hid hone
    have HZ := Lib.hid hz
    have HN19 := Lib.hid hn19
    clear hY0w hS0 hSS hBU hU hB7 hB12 hE0 A3' A4' hone hz hn19 AP A1' A2' F1 F2 hB0Y hrdd hA2n hAd hcv hN12 hN12b ho12 ho7 hl7 hNE hNN hR1 hRm hLn hRl hc3 hci
    go_upto_region 12 with fail
    clear hq
    with_reducible refine wp_anyJ (fun i => i != 28 && i != 32) S0 (by kernel_rfl) ?_
    rw [HU.out]
    refine wpAnyJ_mid (m := 11) (Lf := #[true, true, true, true, true, true, true, true, true, true, true, true, true, true, true, true, true, true, true, false, true, false, true, true, true, true, false, false, false, false, false, false, false, false, false]) [(0, 3), (2, 3), (4, 3), (5, 3), (6, 3), (8, 3), (9, 3), (10, 3), (11, 3), (1, 0), (3, 1), (7, 1), (12, 1), (13, 1), (14, 3), (15, 3), (16, 3), (18, 3), (20, 3), (22, 3), (23, 3), (24, 3), (17, 0), (25, 0)] true (by kernel_rfl) (by kernel_rfl) (by kernel_rfl) (fun _ => HSS.out _ HBU.out) ?_
    iterate 9 (with_reducible refine wpTxC_evN (o := ?_) (v := ?_) (a' := ?_) (by with_unfolding_all rfl) (by with_unfolding_all rfl) (fun W' => ?_) ?_ ?_; rotate_left 2; (focus (go_simp <;> with_reducible rfl)); focus (go_simp <;> with_reducible rfl))
    iterate 1 (with_reducible refine wpTxC_takeN (o := ?_) (v := ?_) (a' := ?_) (by with_unfolding_all rfl) (by with_unfolding_all rfl) (fun W' hS => ?_) ?_ ?_; rotate_left 2; (focus (rw [← HSE.out] at hS; obtain ⟨t1, t2⟩ := hS; go_simp <;> with_reducible rfl)); focus (go_simp <;> with_reducible rfl))
    with_reducible refine wpTxC_want (o := ?_) (by with_unfolding_all rfl) (by with_unfolding_all rfl) (fun K hK => ?_)
    try simp only [List.getElem_toArray, List.getElem_cons_succ, List.getElem_cons_zero]
    go_simp
    with_reducible refine hK _ _ (HSS.out _ (HBU.out.alloc HBU.out.size _)) ?_
    clear hK K
    with_reducible refine wpTxC_want (o := ?_) (by with_unfolding_all rfl) (by with_unfolding_all rfl) (fun K hK => ?_)
    try simp only [List.getElem_toArray, List.getElem_cons_succ, List.getElem_cons_zero]
    go_simp
    with_reducible refine hK _ _ (HSS.out _ HB7.out) ?_
    clear hK K
    with_reducible refine wpTxC_want (o := ?_) (by with_unfolding_all rfl) (by with_unfolding_all rfl) (fun K hK => ?_)
    try simp only [List.getElem_toArray, List.getElem_cons_succ, List.getElem_cons_zero]
    go_simp
    with_reducible refine hK _ _ (HSS.out _ HB12.out) ?_
    clear hK K
    with_reducible refine wpTxC_want (o := ?_) (by with_unfolding_all rfl) (by with_unfolding_all rfl) (fun K hK => ?_)
    try simp only [List.getElem_toArray, List.getElem_cons_succ, List.getElem_cons_zero]
    go_simp
    with_reducible refine c13.mono ?_
    rintro e w13 ⟨rfl, hB13⟩
    have BX := Lib.hid (HB12.out.trans (hB13.mono HB12.out.size))
    clear hB13 c13
    with_reducible refine hK _ _ (HSS.out _ BX.out) ?_
    clear hK K
    iterate 8 (with_reducible refine wpTxC_evN (o := ?_) (v := ?_) (a' := ?_) (by with_unfolding_all rfl) (by with_unfolding_all rfl) (fun W' => ?_) ?_ ?_; rotate_left 2; (focus (go_simp <;> with_reducible rfl)); focus (go_simp <;> with_reducible rfl))
    iterate 2 (with_reducible refine wpTxC_takeN (o := ?_) (v := ?_) (a' := ?_) (by with_unfolding_all rfl) (by with_unfolding_all rfl) (fun W' hS => ?_) ?_ ?_; rotate_left 2; (focus (rw [← HSE.out] at hS; obtain ⟨t1, t2⟩ := hS; go_simp <;> with_reducible rfl)); focus (go_simp <;> with_reducible rfl))
    with_reducible refine wpTxC_nil ?_
    clear hzU hap7 hap12 hsl1 hsl2
    have hR64 : R.length ≤ 64 := by have := HNN.out; have := HN64.out; have := HRN.out; omega
    refine wpAnyJ_two (i := 19) (j := 26) (by kernel_rfl) ?_ ?_
    focus
      have hz19 := HZ.out w13
      have ho0 := HHE0.out w13 BX.out
      have b19 := BX.out.alloc BX.out.size (.cells #[] 48)
      obtain ⟨v0, hv0⟩ : ∃ v, Value.slice (some ⟨w13.heap.size, 0, none⟩) 0 0 = v := ⟨_, rfl⟩
      have hown0 : v0.ownBlock = some w13.heap.size := by rw [← hv0]; rfl
      have hsz : w13.heap.size < (w13.alloc (.cells #[] 48)).heap.size := by simp
      obtain ⟨X, hX⟩ : ∃ X, w13.alloc (.cells #[] 48) = X := ⟨_, rfl⟩
      rw [hX, hv0] at hz19 ho0
      rw [hX] at b19 hsz
      have B19 := Lib.hid b19
      have HO0 := Lib.hid ho0
      have HOW := Lib.hid hown0
      have HSZ := Lib.hid hsz
      clear b19 ho0 hown0 hsz hv0 hX
      with_reducible refine wpOp_pick (J := (fun i => i != 28 && i != 32)) (oi := ?_) (by with_unfolding_all rfl) (by with_unfolding_all rfl) (fun K hK => ?_)
      try simp only [List.getElem_toArray, List.getElem_cons_succ, List.getElem_cons_zero]
      go_simp
      with_reducible refine hK _ _ (HSS.out _ B19.out) ?_
      clear hK K
      clear hz19
      refine wpAnyJ_two (i := 21) (j := 26) (by kernel_rfl) ?_ ?_
      focus
        obtain ⟨v21, w21, hap21, ho21, hB21, _⟩ := HA3.out X v0 B19.out HO0.out
        have HO21 := Lib.hid ho21
        have HB21 := Lib.hid hB21
        clear ho21 hB21
        with_reducible refine wpOp_pick (J := (fun i => i != 28 && i != 32)) (oi := ?_) (by with_unfolding_all rfl) (by with_unfolding_all rfl) (fun K hK => ?_)
        try simp only [List.getElem_toArray, List.getElem_cons_succ, List.getElem_cons_zero]
        go_simp
        with_reducible refine hK _ _ (HSS.out _ HB21.out) ?_
        clear hK K
        clear hap21
        have h26 := HONE.out w21
        have b26 := HB21.out.alloc HB21.out.size (.cells cv 48)
        obtain ⟨v27, w27, hap27, ho27, hB27, _⟩ := HA4.out _ v21 _ _ b26 (HO21.out.alloc (.cells cv 48)) (Blk.new w21 48 cv) (by simpa using hR64)
        refine wpAnyJ_restS [(26, 1), (27, 1), (28, 2), (29, 3), (30, 3), (31, 3), (32, 2), (33, 3), (34, 3)] true (by kernel_rfl) (by kernel_rfl) (by kernel_rfl) (fun _ => HSS.out _ HB21.out) ?_
        with_reducible refine wpTxO_want (o := ?_) (by with_unfolding_all rfl) (by with_unfolding_all rfl) (fun K hK => ?_)
        try simp only [List.getElem_toArray, List.getElem_cons_succ, List.getElem_cons_zero]
        go_simp
        with_reducible refine hK _ _ (HSS.out _ b26) ?_
        clear hK K
        obtain ⟨A9, N9, c9, rfl, hN9⟩ := ho27.formN
        have hN9b : N9 ≠ E.length := by rw [hN9, List.length_append]; exact HN19.out
        have c28 := HSF3.out w27 A9 N9 c9 hN9b (HY0W.out.trans (hB27.mono HY0W.out.size))
        have BV := Lib.hid hB27
        clear hB27 ho27 hN9 hN9b
        with_reducible refine wpTxO_want (o := ?_) (by with_unfolding_all rfl) (by with_unfolding_all rfl) (fun K hK => ?_)
        try simp only [List.getElem_toArray, List.getElem_cons_succ, List.getElem_cons_zero]
        go_simp
        with_reducible refine hK _ _ (HSS.out _ BV.out) ?_
        clear hK K
        with_reducible refine wpTxO_last (o := ?_) (by with_unfolding_all rfl) (by with_unfolding_all rfl) (fun K hK => ?_)
        try simp only [List.getElem_toArray, List.getElem_cons_succ, List.getElem_cons_zero]
        go_simp
        with_reducible refine c28.mono ?_
        rintro e w28 ⟨rfl, hB28⟩
        have a32 := HAW.out w28 (HY0W.out.trans ((BV.out.trans (hB28.mono BV.out.size)).mono HY0W.out.size))
        have BZ := Lib.hid (BV.out.trans (hB28.mono BV.out.size))
        clear c28 hB28 BV
        with_reducible refine hK _ _ ?_
        clear hK K
        iterate 3 (with_reducible refine wpTxO_evN (o := ?_) (v := ?_) (a' := ?_) (by with_unfolding_all rfl) (by with_unfolding_all rfl) (fun W' => ?_) ?_ ?_; rotate_left 2; (focus (go_simp <;> with_reducible rfl)); focus (go_simp <;> with_reducible rfl))
        with_reducible refine wpTxO_last (o := ?_) (by with_unfolding_all rfl) (by with_unfolding_all rfl) (fun K hK => ?_)
        try simp only [List.getElem_toArray, List.getElem_cons_succ, List.getElem_cons_zero]
        go_simp
        with_reducible refine a32.mono ?_
        rintro e w32 ⟨rfl, hB32⟩
        have BQ := Lib.hid (BZ.out.trans (hB32.mono BZ.out.size))
        clear a32 hB32 BZ
        with_reducible refine hK _ _ ?_
        clear hK K
        iterate 2 (with_reducible refine wpTxO_evN (o := ?_) (v := ?_) (a' := ?_) (by with_unfolding_all rfl) (by with_unfolding_all rfl) (fun W' => ?_) ?_ ?_; rotate_left 2; (focus (go_simp <;> with_reducible rfl)); focus (go_simp <;> with_reducible rfl))
        with_reducible refine wpTxO_nil ?_
        rw [noPan_normal]
        go_wp2_with fail
        go_ret
        exact ⟨rfl, HB.out.trans ((HY0W.out.trans (BQ.out.mono HY0W.out.size)).mono HB.out.size)⟩
      rotate_left
      focus
        have h26 := HONE.out X
        have b26 := B19.out.alloc B19.out.size (.cells cv 48)
        have hbk := Blk.new X 48 cv
        have hoX := HO0.out.alloc (.cells cv 48)
        obtain ⟨Z, hZ⟩ : ∃ Z, X.alloc (.cells cv 48) = Z := ⟨_, rfl⟩
        rw [hZ] at h26 b26 hbk hoX
        obtain ⟨v21, w21, hap21, ho21, hB21, hF21⟩ := HA3.out Z v0 b26 hoX
        have hbk2 := hbk.fr hF21 (fun e => by have := HOW.out; rw [this] at e; have := HSZ.out; injection e with e; omega)
        obtain ⟨v27, w27, hap27, ho27, hB27, _⟩ := HA4.out _ v21 _ _ hB21 ho21 hbk2 (by simpa using hR64)
        have B26 := Lib.hid b26
        have HB21 := Lib.hid hB21
        clear b26 hB21 hF21 hbk hbk2 ho21 hoX hZ
        with_reducible refine wpOp_pick (J := (fun i => i != 28 && i != 32)) (oi := ?_) (by with_unfolding_all rfl) (by with_unfolding_all rfl) (fun K hK => ?_)
        try simp only [List.getElem_toArray, List.getElem_cons_succ, List.getElem_cons_zero]
        go_simp
        with_reducible refine hK _ _ (HSS.out _ B26.out) ?_
        clear hK K
        refine wpAnyJ_restS [(21, 1), (27, 1), (28, 2), (29, 3), (30, 3), (31, 3), (32, 2), (33, 3), (34, 3)] true (by kernel_rfl) (by kernel_rfl) (by kernel_rfl) (fun _ => HSS.out _ B26.out) ?_
        with_reducible refine wpTxO_want (o := ?_) (by with_unfolding_all rfl) (by with_unfolding_all rfl) (fun K hK => ?_)
        try simp only [List.getElem_toArray, List.getElem_cons_succ, List.getElem_cons_zero]
        go_simp
        with_reducible refine hK _ _ (HSS.out _ HB21.out) ?_
        clear hK K
        obtain ⟨A9, N9, c9, rfl, hN9⟩ := ho27.formN
        have hN9b : N9 ≠ E.length := by rw [hN9, List.length_append]; exact HN19.out
        have c28 := HSF3.out w27 A9 N9 c9 hN9b (HY0W.out.trans (hB27.mono HY0W.out.size))
        have BV := Lib.hid hB27
        clear hB27 ho27 hN9 hN9b
        with_reducible refine wpTxO_want (o := ?_) (by with_unfolding_all rfl) (by with_unfolding_all rfl) (fun K hK => ?_)
        try simp only [List.getElem_toArray, List.getElem_cons_succ, List.getElem_cons_zero]
        go_simp
        with_reducible refine hK _ _ (HSS.out _ BV.out) ?_
        clear hK K
        with_reducible refine wpTxO_last (o := ?_) (by with_unfolding_all rfl) (by with_unfolding_all rfl) (fun K hK => ?_)
        try simp only [List.getElem_toArray, List.getElem_cons_succ, List.getElem_cons_zero]
        go_simp
        with_reducible refine c28.mono ?_
        rintro e w28 ⟨rfl, hB28⟩
        have a32 := HAW.out w28 (HY0W.out.trans ((BV.out.trans (hB28.mono BV.out.size)).mono HY0W.out.size))
        have BZ := Lib.hid (BV.out.trans (hB28.mono BV.out.size))
        clear c28 hB28 BV
        with_reducible refine hK _ _ ?_
        clear hK K
        iterate 3 (with_reducible refine wpTxO_evN (o := ?_) (v := ?_) (a' := ?_) (by with_unfolding_all rfl) (by with_unfolding_all rfl) (fun W' => ?_) ?_ ?_; rotate_left 2; (focus (go_simp <;> with_reducible rfl)); focus (go_simp <;> with_reducible rfl))
        with_reducible refine wpTxO_last (o := ?_) (by with_unfolding_all rfl) (by with_unfolding_all rfl) (fun K hK => ?_)
        try simp only [List.getElem_toArray, List.getElem_cons_succ, List.getElem_cons_zero]
        go_simp
        with_reducible refine a32.mono ?_
        rintro e w32 ⟨rfl, hB32⟩
        have BQ := Lib.hid (BZ.out.trans (hB32.mono BZ.out.size))
        clear a32 hB32 BZ
        with_reducible refine hK _ _ ?_
        clear hK K
        iterate 2 (with_reducible refine wpTxO_evN (o := ?_) (v := ?_) (a' := ?_) (by with_unfolding_all rfl) (by with_unfolding_all rfl) (fun W' => ?_) ?_ ?_; rotate_left 2; (focus (go_simp <;> with_reducible rfl)); focus (go_simp <;> with_reducible rfl))
        with_reducible refine wpTxO_nil ?_
        rw [noPan_normal]
        go_wp2_with fail
        go_ret
        exact ⟨rfl, HB.out.trans ((HY0W.out.trans (BQ.out.mono HY0W.out.size)).mono HB.out.size)⟩
    rotate_left
    focus
      have h26 := HONE.out w13
      have b26 := BX.out.alloc BX.out.size (.cells cv 48)
      have hbk := Blk.new w13 48 cv
      have hsz : w13.heap.size < (w13.alloc (.cells cv 48)).heap.size := by simp
      obtain ⟨h1, hh1⟩ : ∃ h, w13.heap.size = h := ⟨_, rfl⟩
      rw [hh1] at hbk hsz
      obtain ⟨Z, hZ⟩ : ∃ Z, w13.alloc (.cells cv 48) = Z := ⟨_, rfl⟩
      rw [hZ] at h26 b26 hbk hsz
      rw [hh1] at h26
      have hz19 := HZ.out Z
      have ho0 := HHE0.out Z b26
      have b19 := b26.alloc b26.size (.cells #[] 48)
      have hbk0 := hbk.alloc (.cells #[] 48)
      obtain ⟨X, hX⟩ : ∃ X, Z.alloc (.cells #[] 48) = X := ⟨_, rfl⟩
      rw [hX] at hz19 ho0 b19 hbk0
      obtain ⟨v21, w21, hap21, ho21, hB21, hF21⟩ := HA3.out X _ b19 ho0
      have hbk2 := hbk0.fr hF21 (fun e => by
        have e' : some Z.heap.size = some h1 := e
        injection e' with e'
        omega)
      obtain ⟨v27, w27, hap27, ho27, hB27, _⟩ := HA4.out _ v21 _ _ hB21 ho21 hbk2 (by simpa using hR64)
      have B26 := Lib.hid b26
      have B19 := Lib.hid b19
      have HB21 := Lib.hid hB21
      clear b26 b19 hB21 hF21 hbk hbk0 hbk2 ho21 ho0 hZ hX hsz
      with_reducible refine wpOp_pick (J := (fun i => i != 28 && i != 32)) (oi := ?_) (by with_unfolding_all rfl) (by with_unfolding_all rfl) (fun K hK => ?_)
      try simp only [List.getElem_toArray, List.getElem_cons_succ, List.getElem_cons_zero]
      go_simp
      with_reducible refine hK _ _ (HSS.out _ B26.out) ?_
      clear hK K
      refine wpAnyJ_restS [(19, 1), (21, 1), (27, 1), (28, 2), (29, 3), (30, 3), (31, 3), (32, 2), (33, 3), (34, 3)] true (by kernel_rfl) (by kernel_rfl) (by kernel_rfl) (fun _ => HSS.out _ B26.out) ?_
      with_reducible refine wpTxO_want (o := ?_) (by with_unfolding_all rfl) (by with_unfolding_all rfl) (fun K hK => ?_)
      try simp only [List.getElem_toArray, List.getElem_cons_succ, List.getElem_cons_zero]
      go_simp
      with_reducible refine hK _ _ (HSS.out _ B19.out) ?_
      clear hK K
      with_reducible refine wpTxO_want (o := ?_) (by with_unfolding_all rfl) (by with_unfolding_all rfl) (fun K hK => ?_)
      try simp only [List.getElem_toArray, List.getElem_cons_succ, List.getElem_cons_zero]
      go_simp
      with_reducible refine hK _ _ (HSS.out _ HB21.out) ?_
      clear hK K
      obtain ⟨A9, N9, c9, rfl, hN9⟩ := ho27.formN
      have hN9b : N9 ≠ E.length := by rw [hN9, List.length_append]; exact HN19.out
      have c28 := HSF3.out w27 A9 N9 c9 hN9b (HY0W.out.trans (hB27.mono HY0W.out.size))
      have BV := Lib.hid hB27
      clear hB27 ho27 hN9 hN9b
      with_reducible refine wpTxO_want (o := ?_) (by with_unfolding_all rfl) (by with_unfolding_all rfl) (fun K hK => ?_)
      try simp only [List.getElem_toArray, List.getElem_cons_succ, List.getElem_cons_zero]
      go_simp
      with_reducible refine hK _ _ (HSS.out _ BV.out) ?_
      clear hK K
      with_reducible refine wpTxO_last (o := ?_) (by with_unfolding_all rfl) (by with_unfolding_all rfl) (fun K hK => ?_)
      try simp only [List.getElem_toArray, List.getElem_cons_succ, List.getElem_cons_zero]
      go_simp
      with_reducible refine c28.mono ?_
      rintro e w28 ⟨rfl, hB28⟩
      have a32 := HAW.out w28 (HY0W.out.trans ((BV.out.trans (hB28.mono BV.out.size)).mono HY0W.out.size))
      have BZ := Lib.hid (BV.out.trans (hB28.mono BV.out.size))
      clear c28 hB28 BV
      with_reducible refine hK _ _ ?_
      clear hK K
      iterate 3 (with_reducible refine wpTxO_evN (o := ?_) (v := ?_) (a' := ?_) (by with_unfolding_all rfl) (by with_unfolding_all rfl) (fun W' => ?_) ?_ ?_; rotate_left 2; (focus (go_simp <;> with_reducible rfl)); focus (go_simp <;> with_reducible rfl))
      with_reducible refine wpTxO_last (o := ?_) (by with_unfolding_all rfl) (by with_unfolding_all rfl) (fun K hK => ?_)
      try simp only [List.getElem_toArray, List.getElem_cons_succ, List.getElem_cons_zero]
      go_simp
      with_reducible refine a32.mono ?_
      rintro e w32 ⟨rfl, hB32⟩
      have BQ := Lib.hid (BZ.out.trans (hB32.mono BZ.out.size))
      clear a32 hB32 BZ
      with_reducible refine hK _ _ ?_
      clear hK K
      iterate 2 (with_reducible refine wpTxO_evN (o := ?_) (v := ?_) (a' := ?_) (by with_unfolding_all rfl) (by with_unfolding_all rfl) (fun W' => ?_) ?_ ?_; rotate_left 2; (focus (go_simp <;> with_reducible rfl)); focus (go_simp <;> with_reducible rfl))
      with_reducible refine wpTxO_nil ?_
      rw [noPan_normal]
      go_wp2_with fail
      go_ret
      exact ⟨rfl, HB.out.trans ((HY0W.out.trans (BQ.out.mono HY0W.out.size)).mono HB.out.size)⟩
  focus
    have he1 : ({ eo with kind := 2 } : EntD).Bd := ⟨by simp [InI], HE0.out.sh, HE0.out.tx, HE0.out.am, HE0.out.why, HE0.out.ep⟩
    have hr1 : rightE { eo with kind := 2 } = true := by
      have h := (rightE_iff _).1 HR00.out
      exact (rightE_iff _).2 ⟨by simp, h.2⟩
    have hbd1 : ({ eo with kind := 2 } : EntD).kind ≠ 1 ∨ ({ eo with kind := 2 } : EntD).tx ≠ idP t ∨ ({ eo with kind := 2 } : EntD).am ≠ sm := .inl (by simp)
    have hset : (entV eo).toArray.setIfInBounds 0 (.int .i64 2) = (entV { eo with kind := 2 }).toArray := rfl
    have hcl : (entV eo).toArray[0]? = some (.int .i64 1) := by rw [← HEO.out]; rfl
    rw [HEV.out] at hset hcl
    have kc := (BE.out.cell 0).trans hcl
    have kf := BE.out.frozen 0
    have bE1 := BE.out.set_ 0 (.int .i64 2)
    rw [hset] at bE1
    have hY1 := HY0.out.setCell (p := ⟨he, 0, none⟩) HHE3.out (.int .i64 2)
    obtain ⟨e1, he1e⟩ : ∃ e : EntD, { eo with kind := 2 } = e := ⟨_, rfl⟩
    rw [he1e] at bE1 he1 hr1 hbd1
    obtain ⟨Y1, hY1e⟩ : ∃ X, Y0.setCell ⟨he, 0, none⟩ (.int .i64 2) = X := ⟨_, rfl⟩
    rw [hY1e] at bE1 hY1
    have BE1 := Lib.hid bE1
    have HY1 := Lib.hid hY1
    have HY1E := Lib.hid hY1e
    have HR1 := Lib.hid hr1
    have HE1' := Lib.hid he1
    have HBD1 := Lib.hid hbd1
    clear bE1 hY1 hY1e hr1 he1 hbd1 he1e hset hcl
    go_upto_region 19 with fail
    rw [HY1E.out]
    clear kc kf hq HY1E
  rotate_left
  focus
    obtain ⟨d5, hd5⟩ : ∃ d, (idP t)[5]'(by rw [HDI.out.1]; omega) = d := ⟨_, rfl⟩
    have hd5b : 0 ≤ d5 ∧ d5 ≤ 255 := by rw [← hd5]; exact HDI.out.2 _ (List.getElem_mem _)
    obtain ⟨_, y1, y2, y3⟩ := xor_bd hd5b
    obtain ⟨yx, hyx⟩ : ∃ y, bits .xor .u8 d5 1 = y := ⟨_, rfl⟩
    rw [hyx] at y1 y2 y3
    have hD2 : Dig ((idP t).set 5 yx) := HDI.out.set 5 ⟨y1, y2⟩
    have hDne : (idP t).set 5 yx ≠ idP t := set_ne (by rw [HDI.out.1]; omega) (by rw [hd5]; exact y3)
    have hset := entV_setT eo (by rw [← HEO.out]; exact HDI.out.1) 5 (by omega) yx
    have htx0 : eo.tx = idP t := by rw [← HEO.out]
    rw [htx0] at hset
    have hr1 : rightE { eo with tx := (idP t).set 5 yx } = true := right_tx HR00.out _
    have he1 : ({ eo with tx := (idP t).set 5 yx } : EntD).Bd := bd_tx HE0.out hD2
    have hbd1 : ({ eo with tx := (idP t).set 5 yx } : EntD).kind ≠ 1 ∨ ({ eo with tx := (idP t).set 5 yx } : EntD).tx ≠ idP t ∨ ({ eo with tx := (idP t).set 5 yx } : EntD).am ≠ sm := .inr (.inl hDne)
    have hcl : (entV eo).toArray[7]? = some (.int .u8 d5) := by
      unfold entV
      rw [htx0]
      have hl := HDI.out.1
      simp only [bys, List.getElem?_toArray]
      rw [List.append_assoc, List.getElem?_append_right (by simp), List.getElem?_append_left (by simp; omega), List.getElem?_map]
      simp only [List.length_cons, List.length_nil]
      rw [List.getElem?_eq_getElem (by omega)]
      simp [hd5]
    rw [show (2 + 5 : Nat) = 7 from rfl] at hset
    rw [HEV.out] at hset hcl
    have kc := (BE.out.cell 7).trans hcl
    have kf := BE.out.frozen 7
    have bE1 := BE.out.set_ 7 (.int .u8 yx)
    rw [hset] at bE1
    have hY1 := HY0.out.setCell (p := ⟨he, 7, none⟩) HHE3.out (.int .u8 yx)
    obtain ⟨e1, he1e⟩ : ∃ e : EntD, { eo with tx := (idP t).set 5 yx } = e := ⟨_, rfl⟩
    rw [he1e] at bE1 he1 hr1 hbd1
    obtain ⟨Y1, hY1e⟩ : ∃ X, Y0.setCell ⟨he, 7, none⟩ (.int .u8 yx) = X := ⟨_, rfl⟩
    rw [hY1e] at bE1 hY1
    have BE1 := Lib.hid bE1
    have HY1 := Lib.hid hY1
    have HY1E := Lib.hid hY1e
    have HR1 := Lib.hid hr1
    have HE1' := Lib.hid he1
    have HBD1 := Lib.hid hbd1
    clear bE1 hY1 hY1e hr1 he1 hbd1 he1e hset hcl htx0 hD2 hDne y1 y2 y3 hd5 hd5b
    go_upto_region 19 with fail
    rw [HY1E.out]
    clear kc kf hq HY1E hyx
  rotate_left
  focus
    have hsu1 := HSU1.out
    have hsu3 := HSU3.out
    have hwr : IntKind.u64.wrap (sm - 1) = sm - 1 := by rw [IntKind.wrap_u64]; omega
    have hset := entV_set34 1 s sm (sm - 1) (idP t) HDI.out.1
    have hcl : (entV eo).toArray[34]? = some (.int .u64 sm) := by
      rw [← HEO.out]
      have hl := HDI.out.1
      unfold entV
      simp [bys_length, hl]
    rw [HEO.out] at hset
    have he1 : (⟨1, s, idP t, sm - 1, 0, 0⟩ : EntD).Bd := by
      have h := HE0.out
      rw [← HEO.out] at h
      exact ⟨h.kind, h.sh, h.tx, by simp only; omega, h.why, h.ep⟩
    have hr1 : rightE ⟨1, s, idP t, sm - 1, 0, 0⟩ = true := by
      have h := (rightE_iff _).1 HR00.out
      rw [← HEO.out] at h
      exact (rightE_iff _).2 ⟨h.1, h.2.1, by simp only; omega, h.2.2.2⟩
    have hbd1 : (⟨1, s, idP t, sm - 1, 0, 0⟩ : EntD).kind ≠ 1 ∨ (⟨1, s, idP t, sm - 1, 0, 0⟩ : EntD).tx ≠ idP t ∨ (⟨1, s, idP t, sm - 1, 0, 0⟩ : EntD).am ≠ sm := .inr (.inr (by simp only; omega))
    rw [HEV.out] at hset hcl
    have kc := (BE.out.cell 34).trans hcl
    have kf := BE.out.frozen 34
    have bE1 := BE.out.set_ 34 (.int .u64 (sm - 1))
    rw [hset] at bE1
    have hY1 := HY0.out.setCell (p := ⟨he, 34, none⟩) HHE3.out (.int .u64 (sm - 1))
    obtain ⟨e1, he1e⟩ : ∃ e : EntD, (⟨1, s, idP t, sm - 1, 0, 0⟩ : EntD) = e := ⟨_, rfl⟩
    rw [he1e] at bE1 he1 hr1 hbd1
    obtain ⟨Y1, hY1e⟩ : ∃ X, Y0.setCell ⟨he, 34, none⟩ (.int .u64 (sm - 1)) = X := ⟨_, rfl⟩
    rw [hY1e] at bE1 hY1
    have BE1 := Lib.hid bE1
    have HY1 := Lib.hid hY1
    have HY1E := Lib.hid hY1e
    have HR1 := Lib.hid hr1
    have HE1' := Lib.hid he1
    have HBD1 := Lib.hid hbd1
    clear bE1 hY1 hY1e hr1 he1 hbd1 he1e hset hcl hsu1 hsu3
    go_upto_region 19 with fail
    rw [HY1E.out]
    clear kc kf hq HY1E hwr
  rotate_left
  all_goals
    have hel1 := entV_len HE1'.out
    have ld19 := LDs_all (P := Tryz.prog) uEnt iEnt (entV e1) BE1.out hel1
    have hY1W := HB3.out.trans (HY1.out.mono HB3.out.size)
    have m19 := HMD.out (by have := HS64.out; have := HLS.out; omega) e1 HE1'.out HR1.out Y1 hY1W
    have hx0 := made_bd (seed := seed) (cmd := []) (iss := 7) HE1'.out HR1.out (by omega)
    have hxp := made_path (seed := seed) (cmd := []) (iss := 7) HR1.out (by omega)
    have hone := HCEB.out e1 HE1'.out HR1.out HBD1.out
    obtain ⟨mx, hmx⟩ : ∃ c, (madeP seed [] e1 7).1 = c := ⟨_, rfl⟩
    simp only [hmx] at m19
    rw [hmx] at hx0 hxp hone
    obtain ⟨ev1, hev1⟩ : ∃ x, (entV e1).toArray = x := ⟨_, rfl⟩
    rw [hev1] at ld19 m19
    have HX0 := Lib.hid hx0
    have HXP := Lib.hid hxp
    have HONE := Lib.hid hone
    clear hx0 hxp hone hmx hev1 hY1W
    go_wp2_with fail
    with_reducible refine m19.mono ?_
    rintro e w6 ⟨Bx, capx, rfl, hrx, hcpx, hnx, hfx, hB6⟩
    have hxl := certV_len HX0.out Bx capx
    have hxo := certV_one mx Bx capx
    have st6 := HSTC.out w6 (certV mx Bx capx) hxl hxo
    have bX := Blk.new w6 48 (certV mx Bx capx).toArray
    have hB6V := HY1.out.trans (hB6.mono HY1.out.size)
    have hX6 := hB6V.alloc hB6V.size (.cells (certV mx Bx capx).toArray 48)
    have rx6 := hrx.below ((Below.refl _ w6).alloc (Nat.le_refl _) (.cells (certV mx Bx capx).toArray 48))
    have hrlt : ∀ a, Bx = some a → a.block < w6.heap.size := fun a ha => by
      obtain ⟨g', o', e', hg', _⟩ := hrx 0 (by rw [List.length_map, HXP.out]; omega)
      rw [ha] at e'
      cases e'
      exact hg'
    have hs6 : w6.heap.size < (w6.alloc (.cells (certV mx Bx capx).toArray 48)).heap.size := by simp
    obtain ⟨X6, hX6e⟩ : ∃ X, w6.alloc (.cells (certV mx Bx capx).toArray 48) = X := ⟨_, rfl⟩
    rw [hX6e] at bX hX6 rx6 st6 hs6
    obtain ⟨hx, hhx⟩ : ∃ h, w6.heap.size = h := ⟨_, rfl⟩
    rw [hhx] at bX
    -- the row once more
    have hz := BSs_zero (P := Tryz.prog) uCerts iCerts2 X6
    have bz := Blk.new X6 48 #[]
    have Bz : Below X6.heap.size X6 (X6.alloc (.cells #[] 48)) := (Below.refl _ _).alloc (Nat.le_refl _) _
    have hs7 : X6.heap.size ≤ (X6.alloc (.cells #[] 48)).heap.size := Bz.size
    obtain ⟨X7, hX7e⟩ : ∃ X, X6.alloc (.cells #[] 48) = X := ⟨_, rfl⟩
    rw [hX7e] at hz bz Bz hs7
    have hX7w := hX6.trans (Bz.mono hX6.size)
    have hRl := HROW.out.len
    have hNN := HNN.out
    have hLn : L.length = N := by have := HLL.out; have := HRN.out; omega
    have hN64 : N ≤ 64 := by have := HN64.out; have := HRN.out; omega
    have hR1 : ∀ r ∈ R, ∀ u ∈ r, u.oneCell' = true := fun r hr => by
      obtain ⟨j, hj, rfl⟩ := List.getElem_of_mem hr
      obtain ⟨B', cap', h1, _⟩ := HROW.out.at_ j (by omega)
      obtain ⟨_, h1e⟩ := List.getElem?_eq_some_iff.1 h1
      rw [h1e]
      exact certV_one _ _ _
    obtain ⟨v', w8, hap, hown8, hfr8, _⟩ := appR (P := Tryz.prog) (ty := 28) uCerts iCerts (by omega) (by omega) (OwnR.empty (m := 137) bz (Nat.le_refl _)) (HRD.out.below hX7w) HOWN.out.len hR1 (c := c3) (fun e => by cases e) (by simp; omega) hs7
    rw [List.nil_append] at hown8
    have hB8 := (OwnR.empty (m := 137) bz (Nat.le_refl _)).step hfr8 hs7
    have hB8w := hX6.trans ((Bz.trans hB8).mono hX6.size)
    have hrow8 := HROW.out.move (v' := v') hB8w (fun k hk => Nat.le_trans hX6.size (hown8.lt hk).1)
    obtain ⟨gm, cm, rfl, hgm⟩ : ∃ gm cm, v' = .slice (some ⟨gm, 0, none⟩) R.length cm ∧ X6.heap.size ≤ gm := by
      rcases hown8.own.2 with ⟨_, h0⟩ | ⟨gm, cm, cur, h1, h2, _⟩
      · omega
      · exact ⟨gm, cm, h1, h2⟩
    have hld8 := LDs_all (P := Tryz.prog) uCert iCert (certV mx Bx capx) (bX.fr (Fr.of_below (Bz.trans hB8)) (by have := bX.lt; omega)) hxl
    have hrx8 := rx6.below (Bz.trans hB8)
    obtain ⟨w9, hst9, hC9, hf9⟩ := certs_set (i := i) hrow8 hown8 (by omega) hrx8 hcpx hnx HX0.out (fun a ha e => by have := hrlt a ha; omega)
    have hB9 := hf9.below (B := w3.heap.size) (Nat.le_trans hX6.size (Nat.le_trans Bz.size hB8.size)) (fun k hk e => by have := hX6.size; omega)
    have hB9w := hB8w.trans hB9
    have hB9W := HB3.out.trans (hB9w.mono HB3.out.size)
    have hsetl : (L.set i mx).length = N := by rw [List.length_set]; omega
    have hKs : ∀ c ∈ L.set i mx, c.path.length ≤ 1000000 := fun c hc => by
      rcases List.mem_or_eq_of_mem_set hc with h | rfl
      · exact HKL.out c h
      · rw [HXP.out]; omega
    have hac := HBAD.out (L.set i mx) hsetl (by omega) (by rw [List.getElem_set_self]; exact HONE.out)
    have a9 := HSA.out p k w9 (some ⟨gm, 0, none⟩) cm (L.set i mx) (HRING3.out.below hB9w) hk1 hk2 hB9W Q1.out Q2.out hC9 hKs (by omega)
    rw [hac, hsetl] at a9
    have hld9 := HLD.out w9 hB9W
    have haw9 := fun X (hX : Below w9.heap.size w9 X) => HAW.out X (hB9W.trans (hX.mono hB9W.size))
    rw [hNN] at hap
    obtain ⟨cx, hcx⟩ : ∃ x, (certV mx Bx capx).toArray = x := ⟨_, rfl⟩
    rw [hcx] at st6 hld8 hst9 ⊢
    have hgi2 : (0 : Nat) + i * 137 = i * 137 := by omega
    have HHX := Lib.hid hhx
    have HB9 := Lib.hid hB9W
    have HAW9 := Lib.hid haw9
    have HX6E := Lib.hid hX6e
    clear hhx hB9W haw9 hX6e hrx hcpx hnx hfx hB6 hB6V hX6 rx6 hrlt hs6 bX bz Bz hs7 hX7w hRl hR1 hNN hLn hN64 hown8 hfr8 hB8 hB8w hrow8 hgm hrx8 hC9 hf9 hB9 hB9w hsetl hKs hac hxl hxo hcx m19 ld19 hel1
    go_upto_region 20 with fail
    rw [HHX.out]
    clear st6
    go_upto_region 22 with fail
    go_wp2_with fail
    with_reducible refine a9.mono ?_
    rintro e z1 ⟨rfl, hz1⟩
    have a10 := HAW9.out z1 hz1
    have HZ1 := Lib.hid hz1
    clear hz1 a9 hld9
    go_wp2_with fail
    with_reducible refine a10.mono ?_
    rintro e z2 ⟨rfl, hz2⟩
    have HZ2 := Lib.hid (HZ1.out.trans (hz2.mono HZ1.out.size))
    clear hz2 a10
    go_wp2_with fail
    go_ret
    exact ⟨rfl, HB.out.trans ((HB9.out.trans (HZ2.out.mono HB9.out.size)).mono HB.out.size)⟩
end Go.Proofs.YtmflhidmhefljaaGreatDoor
