/-
  SettleOne: the walk.
-/
import Derived.Test.YtmflhidmhefljaaGreatDoorJSetR
import Derived.Test.YtmflhidmhefljaaGreatDoorJOpenT

namespace Go.Proofs.YtmflhidmhefljaaGreatDoor
open Go.RowKit Go.Shelf
set_option maxRecDepth 100000
attribute [local go_sem ↓] ldTx_of ldEnt_of stEnt_of alEnt_of ldCert_of stCert_of alCert_of bsCert_of

set_option maxHeartbeats 16000000 in
theorem settleone_law (As : Option Addr) (cs : Nat) (seed : List Int) (n : Int) (A1 : Option Addr) (c1 : Nat) (A2 : Option Addr) (c2 : Nat) (t : TxD) (ai oi : Int) (w : World) (hsd : BytN w As cs seed) (hsm : seed.length ≤ maxLen) (hn : 0 ≤ n ∧ n ≤ 255) (h : TxAt w A1 A2 t) (_m1 : t.ins.length ≤ maxLen) (_m2 : t.outs.length ≤ maxLen) (hai : 0 ≤ ai ∧ ai ≤ 255) (hoi : 0 ≤ oi ∧ oi ≤ 255) (hg : Glob w) :
    Calls Tryz.prog 5 #[.slice As seed.length cs, .int .u8 n, .agg (txV A1 c1 A2 c2 t), .int .u8 ai, .int .u8 oi] w fun e w' => e = .returned (.bool true) ∧ Below w.heap.size w w' := by
  have hbt := hsd.byt
  have b0 := Blk.new w 27 (txV A1 c1 A2 c2 t)
  have B0 : Below w.heap.size w (w.alloc (.cells (txV A1 c1 A2 c2 t) 27)) := (Below.refl _ w).alloc (Nat.le_refl _) _
  obtain ⟨W, hW⟩ : ∃ W, w.alloc (.cells (txV A1 c1 A2 c2 t) 27) = W := ⟨_, rfl⟩
  rw [hW] at b0 B0
  obtain ⟨g, hgg⟩ : ∃ g, w.heap.size = g := ⟨_, rfl⟩
  rw [hgg] at b0
  have hld := fun X (hX : Below W.heap.size W X) => LDs_all (P := Tryz.prog) uTx iTx (w := X) (txV A1 c1 A2 c2 t).toList (by simpa using b0.fr (Fr.of_below hX) (by have := b0.lt; omega)) rfl
  have hld0 := hld W (Below.refl _ _)
  have hTW := h.below B0
  have hgW := hg.below B0
  have hbW := hbt.below B0
  have hck := rcheck_any A1 c1 A2 c2 t W hTW
  have haw := fun X (hX : Below W.heap.size W X) => awakeZ X (hgW.below hX)
  have hks := fun k h1 h2 (hs : seed.length ≤ 64) X (hX : Below W.heap.size W X) => keys_any As cs seed k X h1 h2 hs (hbW.below hX) (hgW.below hX)
  have hcsx := fun k h1 h2 (hs : seed.length ≤ 64) (hc : checkP t = 0) X (hX : Below W.heap.size W X) => certs23_any As cs seed hs A1 c1 A2 c2 t k h1 h2 2 (.inr rfl) hc X (hbW.below hX) (hTW.below hX)
  have hsA := fun p k X A c l (hr : RingAt X p seed k) h1 h2 (hX : Below W.heap.size W X) q1 q2 (hC : CertsAt X A l) q3 q4 => setall_any p k seed A1 c1 A2 c2 t A c l X hr h1 h2 (hTW.below hX) (hgW.below hX) q1 q2 hC q3 q4
  have hsO := fun p k X A c l (hr : RingAt X p seed k) h1 h2 (hX : Below W.heap.size W X) q1 q2 (hC : CertsAt X A l) q3 => setone_any p k seed A1 c1 A2 c2 t A c l X hr h1 h2 (hTW.below hX) (hgW.below hX) q1 q2 hC q3
  have hmd := fun (hs : seed.length ≤ 64) (e : EntD) (he : e.Bd) (hr : rightE e = true) X (hX : Below W.heap.size W X) => made_new As cs seed hs none 0 (fun _ => rfl) [] e he hr 1 (by omega) X (hbW.below hX) (Byt.nil _ _) (by simp)
  have hsp := fun (k : Nat) hk X (hX : Below W.heap.size W X) => rspread_any A1 c1 A2 c2 t (k : Int) false hk X (hTW.below hX)
  simp only [Bool.false_eq_true, if_false] at hsp
  have hbd := h.bd
  obtain ⟨xs, hxs⟩ : ∃ xs, txV A1 c1 A2 c2 t = xs := ⟨_, rfl⟩
  simp only [hxs, Array.toArray_toList] at hld hld0 hsA hsO hcsx hsp
  rw [hxs] at hck hW ⊢
  obtain ⟨ls, hls⟩ : ∃ n, seed.length = n := ⟨_, rfl⟩
  simp only [hls, show ([] : List Int).length = 0 from rfl, show ((1 : Nat) : Int) = 1 from rfl] at hsm hks hcsx hmd ⊢
  obtain ⟨hn1, hn2⟩ := hn
  obtain ⟨hai1, hai2⟩ := hai
  obtain ⟨hoi1, hoi2⟩ := hoi
  have hsmx : ls ≤ 9223372036854775807 := Nat.le_trans hsm (by decide)
  have HW := Lib.hid hW
  have HG := Lib.hid hgg
  have HB := Lib.hid B0
  have HAW := Lib.hid haw
  have HLD := Lib.hid hld
  have HKS := Lib.hid hks
  have HCS := Lib.hid hcsx
  have HSA := Lib.hid hsA
  have HSO := Lib.hid hsO
  have HMD := Lib.hid hmd
  have HSP := Lib.hid hsp
  have HLS := Lib.hid hls
  have HBD := Lib.hid hbd
  clear hW hgg B0 haw hld hks hcsx hsA hsO hmd hsp hls hbd h hg hbt hsd b0 hTW hgW hbW hxs hsm
  go_enter Tryz.func5, Tryz.ntmps5
  go_upto_region 1 with fail
  rw [HW.out, HG.out]
  by_cases h60 : 60 < ls
  · have h60I : (60 : Int) < (ls : Int) := by omega
    have haw1 := HAW.out W (Below.refl _ _)
    clear hck hld0
    go_wp2_with fail
    with_reducible refine haw1.mono ?_
    rintro e w2 ⟨rfl, hB2⟩
    have HB2 := Lib.hid hB2
    clear hB2 haw1
    go_wp2_with fail
    go_ret
    exact ⟨rfl, HB.out.trans (HB2.out.mono HB.out.size)⟩
  have h60I : ¬ (60 : Int) < (ls : Int) := by omega
  by_cases hR0 : checkP t = 0
  rotate_left
  · obtain ⟨R, hR⟩ : ∃ R, checkP t = R := ⟨_, rfl⟩
    rw [hR] at hck hR0
    have hRb : (R != 0) = true := by simpa using hR0
    clear hR
    go_wp2_with fail
    with_reducible refine hck.mono ?_
    rintro e w1 ⟨rfl, hB1⟩
    have haw1 := HAW.out w1 hB1
    have HB1 := Lib.hid hB1
    clear hB1 hck hld0 hR0
    go_wp2_with fail
    with_reducible refine haw1.mono ?_
    rintro e w2 ⟨rfl, hB2⟩
    have HB2 := Lib.hid (HB1.out.trans (hB2.mono HB1.out.size))
    clear hB2 haw1
    go_wp2_with fail
    go_ret
    exact ⟨rfl, HB.out.trans (HB2.out.mono HB.out.size)⟩
  rw [hR0] at hck
  go_wp2_with fail
  with_reducible refine hck.mono ?_
  rintro e w1 ⟨rfl, hB1⟩
  obtain ⟨k, hk⟩ : ∃ k : Nat, 1 + n % 64 = (k : Int) := ⟨(1 + n % 64).toNat, by omega⟩
  have hk1 : 1 ≤ k := by omega
  have hk2 : k ≤ 64 := by omega
  have hs64 : seed.length ≤ 64 := by have := HLS.out; omega
  have hkeys := HKS.out k hk1 hk2 (by omega) w1 hB1
  have q1 : t.ins.length ≤ 1000000 := by
    have := (checkP_zero hR0).1
    unfold longP at this
    simp only [Bool.or_eq_false_iff, Bool.not_eq_false', decide_eq_true_eq] at this
    omega
  have q2 : t.outs.length ≤ 1000000 := by
    have := (checkP_zero hR0).1
    unfold longP at this
    simp only [Bool.or_eq_false_iff, Bool.not_eq_false', decide_eq_true_eq] at this
    omega
  have hkI : -9223372036854775808 ≤ (k : Int) ∧ (k : Int) ≤ 9223372036854775807 := by omega
  have HB1 := Lib.hid hB1
  have HK := Lib.hid hk
  have Q1 := Lib.hid q1
  have Q2 := Lib.hid q2
  have HS64 := Lib.hid hs64
  have HR0 := Lib.hid hR0
  clear hB1 hk q1 q2 hs64 hR0 hck hld0
  go_upto_region 4 with fail
  rw [HK.out]
  go_wp2_with fail
  with_reducible refine hkeys.mono ?_
  rintro e w2 ⟨p, rfl, hring, _, hB2⟩
  have hB2W := HB1.out.trans (hB2.mono HB1.out.size)
  have hld2 := HLD.out w2 hB2W
  have hcs2 := HCS.out k hk1 hk2 (by have := HS64.out; omega) HR0.out w2 hB2W
  have HB2 := Lib.hid hB2W
  have HRING := Lib.hid hring
  clear hB2W hring hB2 hkeys
  go_wp2_with fail
  with_reducible refine hcs2.mono ?_
  rintro e w3 ⟨⟨v3, R, rfl, hO, hRow⟩, hB3⟩
  obtain ⟨A3, c3, rfl, hrd3, hc3, hn3, _⟩ := OwnR.rd hO
  have hRl := hRow.len
  rw [certsTo_len] at hRl
  have hCt := hRow.certs hrd3
  have hEin := each_in HR0.out hk1 hk2
  have hacc := acc_kind2 (seed := seed) HBD.out HR0.out hk1 hk2
  have hget := fun i (hi : i < (eachP (insP t k)).length) => certsTo_get (t := t) (k := k) (seed := seed) 2 hi (Nat.le_refl _)
  have hrej := fun i s (hs : s ∈ eachP (insP t k)) => rej_right (seed := seed) HBD.out HR0.out hk1 hk2 i hs
  have hB3W := HB2.out.trans (hB3.mono HB2.out.size)
  have hRing3 := HRING.out.below hB3
  obtain ⟨E, hE⟩ : ∃ E, eachP (insP t k) = E := ⟨_, rfl⟩
  simp only [hE] at hCt hEin hacc hget hrej
  rw [hE] at hRl
  obtain ⟨N, hN⟩ : ∃ N, R.length = N := ⟨_, rfl⟩
  rw [hN] at hRl ⊢
  subst hRl
  obtain ⟨L, hL⟩ : ∃ L, certsTo seed t k 2 E.length = L := ⟨_, rfl⟩
  have hLl : L.length = E.length := by rw [← hL, certsTo_len]
  simp only [hL] at hCt hacc hget
  obtain ⟨hE1, hE64, hEs⟩ := hEin
  obtain ⟨N, hN⟩ : ∃ N, E.length = N := ⟨_, rfl⟩
  have hNn : ¬ ((N : Int) < 1) := by omega
  have hN0 : ((N : Int) == 0) = false := by simp; omega
  obtain ⟨i, hi⟩ : ∃ i : Nat, ai % (N : Int) = (i : Int) := ⟨(ai % (N : Int)).toNat, by have := Int.emod_nonneg ai (show (N : Int) ≠ 0 by omega); omega⟩
  have hiN : i < N := by have := Int.emod_lt_of_pos ai (show (0 : Int) < N by omega); omega
  have hiE : i < E.length := by omega
  have hil : i < L.length := by omega
  obtain ⟨g3, o3, B, cap, rfl, hg3, hct⟩ := hCt i hil
  have hgi : L[i] = certO seed t k 2 i E[i] := hget i hiE
  obtain ⟨mc, hmc⟩ : ∃ c, L[i] = c := ⟨_, rfl⟩
  obtain ⟨s, hs⟩ : ∃ s, E[i] = s := ⟨_, rfl⟩
  have hsE : s ∈ E := by rw [← hs]; exact List.getElem_mem hiE
  rw [hmc] at hct hgi
  rw [hs] at hgi
  have hsk := hEs s hsE
  have hrc := hrej i s hsE
  rw [← hgi] at hrc
  have hr0 := entO_right (k := k) (kind := 2) (s := s) HBD.out HR0.out hk1 hk2 (.inr rfl) hsk.2
  have he0 := entO_bd (t := t) (k := k) (kind := 2) (s := s) (.inr rfl) (by omega)
  have hme : mc.e = entO t k 2 s := by rw [hgi]; exact made_e hr0 (by omega)
  have hmp : mc.path.length = 2 := by rw [hgi]; exact made_path hr0 (by omega)
  have hmbd := hct.bd
  have hldc := hct.ld
  have hpa := hct.path
  have hpr := hct.room
  have hpn := hct.nul
  have hcvl := certV_len hmbd B cap
  have hcv1 := certV_one mc B cap
  rw [hN]
  rw [hN] at hLl
  obtain ⟨Zc, halc, hstc, _⟩ := alstZ (P := Tryz.prog) (t := 48) iCert zCert
  have hst3 := hstc w3 (certV mc B cap) hcvl hcv1
  have ql := Blk.new w3 48 (certV mc B cap).toArray
  have qb := (Below.refl w3.heap.size w3).alloc (Nat.le_refl _) (.cells (certV mc B cap).toArray 48)
  obtain ⟨V, hV⟩ : ∃ X, w3.alloc (.cells (certV mc B cap).toArray 48) = X := ⟨_, rfl⟩
  rw [hV] at ql qb hst3
  have hpV := hpa.below qb
  have hVW := hB3W.trans (qb.mono hB3W.size)
  have hRV := hRing3.below qb
  have hCV := hCt.below qb
  obtain ⟨hc, hhc⟩ : ∃ h, w3.heap.size = h := ⟨_, rfl⟩
  rw [hhc] at ql
  have FC := fun X (hX : Below V.heap.size V X) => LDs_all (P := Tryz.prog) uCert iCert (certV mc B cap) (ql.fr (Fr.of_below hX) (by have := ql.lt; omega)) hcvl
  have FL := fun X (hX : Below V.heap.size V X) => HLD.out X (hVW.trans (hX.mono hVW.size))
  have FE := fun X (hX : Below V.heap.size V X) => LDs_aggB (P := Tryz.prog) uEnt iEnt (ql.fr (Fr.of_below hX) (by have := ql.lt; omega)) (off := 0) (entV mc.e) (entV_len hmbd.e) (by simpa using certV_e hmbd B cap)
  have hK1 : ∀ c ∈ [mc], c.path.length ≤ 1000000 := by simp [hmp]
  have hK2 : ∀ c ∈ [mc, mc], c.path.length ≤ 1000000 := by simp [hmp]
  have hKL : ∀ c ∈ L, c.path.length ≤ 1000000 := fun c hc => by
    obtain ⟨j, hj, rfl⟩ := List.getElem_of_mem hc
    rw [hget j (by omega)]
    have hsj := hEs _ (List.getElem_mem (show j < E.length by omega))
    unfold certO
    rw [made_path (entO_right (kind := 2) HBD.out HR0.out hk1 hk2 (.inr rfl) hsj.2) (by omega)]
    omega
  have a1 := fun X (hX : Below V.heap.size V X) h (hc : CertsAt X (some ⟨h, 0, none⟩) [mc]) => HSO.out p k X (some ⟨h, 0, none⟩) 1 [mc] (hRV.below hX) hk1 hk2 (hVW.trans (hX.mono hVW.size)) Q1.out Q2.out hc hK1
  have a2 := fun X (hX : Below V.heap.size V X) => HSO.out p k X none 0 [] (hRV.below hX) hk1 hk2 (hVW.trans (hX.mono hVW.size)) Q1.out Q2.out (certs_nil _ _) (by simp)
  have a3 := fun X (hX : Below V.heap.size V X) h (hc : CertsAt X (some ⟨h, 0, none⟩) [mc, mc]) => HSO.out p k X (some ⟨h, 0, none⟩) 2 [mc, mc] (hRV.below hX) hk1 hk2 (hVW.trans (hX.mono hVW.size)) Q1.out Q2.out hc hK2
  have a4 := fun X (hX : Below V.heap.size V X) => HSA.out p k X (some ⟨g3, o3, none⟩) c3 L (hRV.below hX) hk1 hk2 (hVW.trans (hX.mono hVW.size)) Q1.out Q2.out (hCV.below hX) hKL (by omega)
  simp only [hrc, show ([mc] : List CertD).length = 1 from rfl] at a1
  rw [show ([] : List CertD).length = 0 from rfl] at a2
  simp only [rej_many (seed := seed) HR0.out (show 1 ≤ (k : Int) ∧ (k : Int) ≤ 64 by omega) (show ([] : List CertD).length ≠ 1 by simp)] at a2
  simp only [rej_many (seed := seed) HR0.out (show 1 ≤ (k : Int) ∧ (k : Int) ≤ 64 by omega) (show ([mc, mc] : List CertD).length ≠ 1 by simp), show ([mc, mc] : List CertD).length = 2 from rfl] at a3
  simp only [hacc, hLl] at a4
  have hm1 : ∀ X, Below V.heap.size V X → CertsAt (X.alloc (.cells (certV mc B cap).toArray 48)) (some ⟨X.heap.size, 0, none⟩) [mc] := fun X hX =>
    certs_one (Blk.new X 48 (certV mc B cap).toArray) ((hpV.below hX).below ((Below.refl _ X).alloc (Nat.le_refl _) _)) hpr hpn hmbd
  have hm2 : ∀ X, Below V.heap.size V X → CertsAt (X.alloc (.cells (certV mc B cap ++ certV mc B cap).toArray 48)) (some ⟨X.heap.size, 0, none⟩) [mc, mc] := fun X hX =>
    certs_two (Blk.new X 48 (certV mc B cap ++ certV mc B cap).toArray) ((hpV.below hX).below ((Below.refl _ X).alloc (Nat.le_refl _) _)) hpr hpn hmbd
  have hb1 := fun X => BSs_one (P := Tryz.prog) uCerts iCerts2 (by omega) (by omega) X (.agg (certV mc B cap).toArray) (by simp [Value.cells, hcvl])
  have hb2 := fun X => BSs_two (P := Tryz.prog) uCerts iCerts2 (by omega) (by omega) X (.agg (certV mc B cap).toArray) (.agg (certV mc B cap).toArray) (by simp [Value.cells, hcvl]) (by simp [Value.cells, hcvl])
  simp only [Value.cells] at hb1 hb2
  rw [hme] at FE
  obtain ⟨cv, hcv⟩ : ∃ x, (certV mc B cap).toArray = x := ⟨_, rfl⟩
  obtain ⟨cv2, hcv2⟩ : ∃ x, (certV mc B cap ++ certV mc B cap).toArray = x := ⟨_, rfl⟩
  have hcc : cv ++ cv = cv2 := by rw [← hcv, ← hcv2]; simp
  simp only [hcv] at hst3 hV FC hldc hm1 hb1
  simp only [hcv, hcc] at hb2
  simp only [hcv2] at hm2
  have hDi := dig_id t
  have heq : entO t k 2 s = ⟨2, s, idP t, 0, 0, 0⟩ := by unfold entO; rw [if_neg (by omega)]
  have her := fun s (hs : 0 ≤ s ∧ s < (k : Int)) => entO_right (k := k) (kind := 2) (s := s) HBD.out HR0.out hk1 hk2 (.inr rfl) hs
  have heb := fun s (hs : 0 ≤ s ∧ s < (k : Int)) => entO_bd (t := t) (k := k) (kind := 2) (s := s) (.inr rfl) (by omega)
  obtain ⟨so, hso⟩ : ∃ x, oi % (k : Int) = x := ⟨_, rfl⟩
  have hsok : 0 ≤ so ∧ so < (k : Int) := by
    rw [← hso]
    exact ⟨Int.emod_nonneg oi (by omega), Int.emod_lt_of_pos oi (by omega)⟩
  have he1 : ({ entO t k 2 s with sh := so } : EntD) = entO t k 2 so := by
    rw [heq]
    unfold entO
    rw [if_neg (by omega)]
  have hset1 := entV_set1 (entO t k 2 s) so
  rw [he1] at hset1
  have hr1 := her so hsok
  have hb1' := heb so hsok
  have hrj := rej_shard (seed := seed) HBD.out HR0.out hk1 hk2 hsok []
  have hix := insP_bd (t := t) (n := (k : Int))
  have hil16 := insQ_len HR0.out hk1 hk2
  obtain ⟨d0, hd0⟩ : ∃ d, (idP t)[0]'(by rw [hDi.1]; omega) = d := ⟨_, rfl⟩
  have hd0b : 0 ≤ d0 ∧ d0 ≤ 255 := by rw [← hd0]; exact hDi.2 _ (List.getElem_mem _)
  obtain ⟨⟨y1, y2, y3⟩, _⟩ := xor_bd hd0b
  obtain ⟨yx, hyx⟩ : ∃ y, bits .xor .u8 d0 9 = y := ⟨_, rfl⟩
  rw [hyx] at y1 y2 y3
  have hD2 : Dig ((idP t).set 0 yx) := hDi.set 0 ⟨y1, y2⟩
  have hDne : (idP t).set 0 yx ≠ idP t := set_ne (by rw [hDi.1]; omega) (by rw [hd0]; exact y3)
  have hset2 := entV_setT (entO t k 2 s) (by rw [heq]; exact hDi.1) 0 (by omega) yx
  have htx0 : (entO t k 2 s).tx = idP t := by rw [heq]
  rw [htx0] at hset2
  have hr2 : rightE { entO t k 2 s with tx := (idP t).set 0 yx } = true := right_tx hr0 _
  have hb2' : ({ entO t k 2 s with tx := (idP t).set 0 yx } : EntD).Bd := bd_tx he0 hD2
  have hro := rej_other (seed := seed) HR0.out hk1 hk2 hr2 hDne []
  obtain ⟨eo, heo⟩ : ∃ e, entO t k 2 s = e := ⟨_, rfl⟩
  obtain ⟨e1, he1'⟩ : ∃ e, entO t k 2 so = e := ⟨_, rfl⟩
  rw [heo] at he0 hr0 hset1 hset2 hr2 hb2' hro htx0
  rw [he1'] at hset1 hr1 hb1' hrj
  simp only [heo] at FE
  obtain ⟨e2, he2⟩ : ∃ e, ({ eo with tx := (idP t).set 0 yx } : EntD) = e := ⟨_, rfl⟩
  rw [he2] at hset2 hr2 hb2' hro
  have hcell2 : (entV eo).toArray[2]? = some (.int .u8 d0) := by
    unfold entV
    rw [htx0]
    have hl := hDi.1
    simp only [bys, List.getElem?_toArray]
    rw [List.append_assoc, List.getElem?_append_right (by simp), List.getElem?_append_left (by simp; omega), List.getElem?_map]
    simp only [List.length_cons, List.length_nil]
    rw [List.getElem?_eq_getElem (by omega)]
    simp [hd0]
  obtain ⟨c1', hc1'⟩ : ∃ v, (entV eo).toArray[1]? = some v := ⟨_, rfl⟩
  have hcellx : (entV e1).toArray[1]? = some (.int .i64 so) := by rw [← he1']; rfl
  obtain ⟨Ze, hale, hste, hze⟩ := alstZ (P := Tryz.prog) (t := 43) iEnt zEnt
  have hel0 := entV_len he0
  have hel1 := entV_len hb1'
  have hel2 := entV_len hb2'
  have hev1 := entV_one eo
  have hmd1 := HMD.out (by have := HLS.out; omega) e1 hb1' hr1
  have hmd2 := HMD.out (by have := HLS.out; omega) e2 hb2' hr2
  have hx0 := made_bd (seed := seed) (cmd := []) (iss := 1) hb1' hr1 (by omega)
  have hy0 := made_bd (seed := seed) (cmd := []) (iss := 1) hb2' hr2 (by omega)
  have hxp := made_path (seed := seed) (cmd := []) (iss := 1) hr1 (by omega)
  have hyp := made_path (seed := seed) (cmd := []) (iss := 1) hr2 (by omega)
  obtain ⟨mx, hmx⟩ : ∃ c, (madeP seed [] e1 1).1 = c := ⟨_, rfl⟩
  obtain ⟨my, hmy⟩ : ∃ c, (madeP seed [] e2 1).1 = c := ⟨_, rfl⟩
  simp only [hmx] at hmd1 hx0 hxp hrj
  simp only [hmy] at hmd2 hy0 hyp hro
  obtain ⟨mm, hmm⟩ : ∃ b, (insP t k).contains so = b := ⟨_, rfl⟩
  rw [hmm] at hrj
  have HE := Lib.hid hE
  have HL := Lib.hid hL
  have HI := Lib.hid hi
  have HHC := Lib.hid hhc
  have HV := Lib.hid hV
  have HFC := Lib.hid FC
  have HFL := Lib.hid FL
  have HFE := Lib.hid FE
  have HA1 := Lib.hid a1
  have HA2 := Lib.hid a2
  have HA3 := Lib.hid a3
  have HA4 := Lib.hid a4
  have HM1 := Lib.hid hm1
  have HM2 := Lib.hid hm2
  have HVW := Lib.hid hVW
  have HRV := Lib.hid hRV
  have HB3 := Lib.hid hB3W
  have HSET1 := Lib.hid hset1
  have HSET2 := Lib.hid hset2
  have HMD1 := Lib.hid hmd1
  have HMD2 := Lib.hid hmd2
  have HX0 := Lib.hid hx0
  have HY0' := Lib.hid hy0
  have HXP := Lib.hid hxp
  have HYP := Lib.hid hyp
  have HRJ := Lib.hid hrj
  have HRO := Lib.hid hro
  have HC2 := Lib.hid hcell2
  have HCX := Lib.hid hcellx
  have HSTC := Lib.hid hstc
  have HSTE := Lib.hid hste
  have HEL0 := Lib.hid hel0
  have HEL1 := Lib.hid hel1
  have HEL2 := Lib.hid hel2
  have HEV1 := Lib.hid hev1
  have HSO2 := Lib.hid hso
  have HMM := Lib.hid hmm
  have HC1 := Lib.hid hc1'
  have HYX := Lib.hid hyx
  have HZE := Lib.hid hze
  have HI16 := Lib.hid hil16
  clear hE hL hi hhc hV FC FL FE a1 a2 a3 a4 hm1 hm2 hVW hRV hB3W hset1 hset2 hmd1 hmd2 hx0 hy0 hxp hyp hrj hro hcell2 hcellx hstc hste hel0 hel1 hel2 hev1 hso hmm hc1' hyx hze hil16 hB3 hO hRow hcs2 hld2 hrd3 hRing3 hacc hrej hct hgi hmc hs hsE hsk hrc hme hmp hmbd hpa hpr hpn hcvl hcv1 ql qb hpV hCV hCt hK1 hK2 hKL hcv hcv2 hcc hg3 hc3 hn3 hiE hil hget hEs heo he1' he2 hmx hmy he0 hr0 hr1 hb1' hr2 hb2' htx0 hD2 hDne hd0 hd0b hDi heq her heb hsok he1 hix y1 y2 y3 HMD
  go_upto_region 8 with fail
  have hmo := HI.out
  have hmo2 : Int.tmod ai (N : Int) = (i : Int) := by rw [Int.tmod_eq_emod_of_nonneg hai1]; exact hmo
  have hi0 : (0 : Int) ≤ (i : Int) := by omega
  have hiN2 : (i : Int) < (N : Int) := by omega
  go_upto_region 9 with fail
  rw [HHC.out]
  clear hst3 hldc hmo hmo2
  have l0 := HFL.out V (Below.refl _ _)
  have c0 := HFC.out V (Below.refl _ _)
  have a1 := HA1.out _ ((Below.refl _ V).alloc (Nat.le_refl _) (.cells cv 48)) _ (HM1.out V (Below.refl _ _))
  have hua := (Below.refl V.heap.size V).alloc (Nat.le_refl _) (.cells cv 48)
  have HUA := Lib.hid hua
  clear hua
  go_wp2_with fail
  with_reducible refine a1.mono ?_
  rintro e u1 ⟨rfl, hu1⟩
  have hu1V := HUA.out.trans (hu1.mono HUA.out.size)
  have l1 := HFL.out u1 hu1V
  have a2 := HA2.out u1 hu1V
  have HU1 := Lib.hid hu1V
  clear hu1V hu1 a1 l0 c0
  go_wp2_with fail
  with_reducible refine a2.mono ?_
  rintro e u2 ⟨rfl, hu2⟩
  have hu2V := HU1.out.trans (hu2.mono HU1.out.size)
  have l2 := HFL.out u2 hu2V
  have c2 := HFC.out u2 hu2V
  have a3 := HA3.out _ (hu2V.alloc hu2V.size (.cells cv2 48)) _ (HM2.out u2 hu2V)
  have HU2 := Lib.hid (hu2V.alloc hu2V.size (.cells cv2 48))
  clear hu2 hu2V a2 l1
  go_wp2_with fail
  with_reducible refine a3.mono ?_
  rintro e u3 ⟨rfl, hu3⟩
  have hu3V := HU2.out.trans (hu3.mono HU2.out.size)
  have l3 := HFL.out u3 hu3V
  have a4 := HA4.out u3 hu3V
  have HU3 := Lib.hid hu3V
  clear hu3V hu3 a3 l2 c2
  go_wp2_with fail
  with_reducible refine a4.mono ?_
  rintro e u4 ⟨rfl, hu4⟩
  have hu4V := HU3.out.trans (hu4.mono HU3.out.size)
  have e4 := HFE.out u4 hu4V
  have st4 := HSTE.out u4 (entV eo) HEL0.out HEV1.out
  have bE := Blk.new u4 43 (entV eo).toArray
  have hY0 := hu4V.alloc hu4V.size (.cells (entV eo).toArray 43)
  obtain ⟨Y0, hY0e⟩ : ∃ X, u4.alloc (.cells (entV eo).toArray 43) = X := ⟨_, rfl⟩
  rw [hY0e] at bE hY0 st4
  obtain ⟨he, hhe⟩ : ∃ h, u4.heap.size = h := ⟨_, rfl⟩
  rw [hhe] at bE
  have hheV : V.heap.size ≤ he := by rw [← hhe]; exact hu4V.size
  obtain ⟨ev, hev⟩ : ∃ x, (entV eo).toArray = x := ⟨_, rfl⟩
  simp only [hev] at e4
  rw [hev] at st4 bE hY0e
  have HU4 := Lib.hid hu4V
  have HHE := Lib.hid hhe
  have HEV := Lib.hid hev
  have HHEV := Lib.hid hheV
  have BE := Lib.hid bE
  have HY0 := Lib.hid hY0
  have HY0E := Lib.hid hY0e
  clear hu4V hhe hev hheV bE hY0 hY0e hu4 a4 l3
  go_upto_region 12 with fail
  rw [HHE.out]
  clear e4 st4
  have kc1 : Y0.cell? ⟨he, 1, none⟩ = some c1' := (BE.out.cell 1).trans (by rw [← HEV.out]; exact HC1.out)
  have kf1 := BE.out.frozen 1
  have bE1 := BE.out.set_ 1 (.int .i64 so)
  rw [← HEV.out, HSET1.out] at bE1
  have hmo := HSO2.out
  have hmo2 : Int.tmod oi (k : Int) = so := by rw [Int.tmod_eq_emod_of_nonneg hoi1]; exact hmo
  have hk0 : ((k : Int) == 0) = false := by simp; omega
  have hY1 := HY0.out.setCell (p := ⟨he, 1, none⟩) HHEV.out (.int .i64 so)
  obtain ⟨Y1, hY1e⟩ : ∃ X, Y0.setCell ⟨he, 1, none⟩ (.int .i64 so) = X := ⟨_, rfl⟩
  rw [hY1e] at bE1 hY1
  have BE1 := Lib.hid bE1
  have HY1 := Lib.hid hY1
  have HY1E := Lib.hid hY1e
  clear bE1 hY1 hY1e
  go_upto_region 13 with fail
  rw [HY1E.out]
  clear kc1 kf1 hmo hmo2
  have ld13 := LDs_all (P := Tryz.prog) uEnt iEnt (entV e1) BE1.out HEL1.out
  have m13 := HMD1.out Y1 (HVW.out.trans (HY1.out.mono HVW.out.size))
  obtain ⟨ev1, hev1⟩ : ∃ x, (entV e1).toArray = x := ⟨_, rfl⟩
  rw [hev1] at ld13 m13
  have HEV1E := Lib.hid hev1
  clear hev1
  go_wp2_with fail
  with_reducible refine m13.mono ?_
  rintro e w6 ⟨Bx, capx, rfl, hrx, hcpx, hnx, hfx, hB6⟩
  have hxl := certV_len HX0.out Bx capx
  have hxo := certV_one mx Bx capx
  have st6 := HSTC.out w6 (certV mx Bx capx) hxl hxo
  have bX := Blk.new w6 48 (certV mx Bx capx).toArray
  have hB6V := HY1.out.trans (hB6.mono HY1.out.size)
  have hX6 := hB6V.alloc hB6V.size (.cells (certV mx Bx capx).toArray 48)
  have rx6 := hrx.below ((Below.refl _ w6).alloc (Nat.le_refl _) (.cells (certV mx Bx capx).toArray 48))
  have bE6 := (BE1.out.fr (Fr.of_below hB6) (by have := BE1.out.lt; omega)).alloc (.cells (certV mx Bx capx).toArray 48)
  have hfarx : ∀ a, Bx = some a → he < a.block := fun a ha => Nat.lt_of_lt_of_le BE1.out.lt (hfx a ha)
  have hxhe : w6.heap.size ≠ he := by have := BE1.out.lt; have := hB6.size; omega
  obtain ⟨X6, hX6e⟩ : ∃ X, w6.alloc (.cells (certV mx Bx capx).toArray 48) = X := ⟨_, rfl⟩
  rw [hX6e] at bX hX6 rx6 bE6 st6
  obtain ⟨hx, hhx⟩ : ∃ h, w6.heap.size = h := ⟨_, rfl⟩
  rw [hhx] at bX hxhe
  obtain ⟨xv, hxv⟩ : ∃ x, certV mx Bx capx = x := ⟨_, rfl⟩
  rw [hxv] at bX st6 hX6e ⊢
  have F1 := fun X (hX : Below X6.heap.size X6 X) => HFL.out X (hX6.trans (hX.mono hX6.size))
  have F2 := fun X (hX : Below X6.heap.size X6 X) => ((bE6.fr (Fr.of_below hX) (by have := bE6.lt; omega)).cell 1).trans HCX.out
  obtain ⟨S0, hS0⟩ : ∃ S0 : World → Prop, (fun X => (LDs 27 (.pointer (some ⟨g, 0, none⟩))).run Tryz.prog X = .ok (.agg xs) X ∧ X.cell? ⟨he, 1, none⟩ = some (.int .i64 so)) = S0 := ⟨_, rfl⟩
  have hSS : ∀ X, Below X6.heap.size X6 X → S0 X := fun X hX => by rw [← hS0]; exact ⟨F1 X hX, F2 X hX⟩
  have hX6W := HVW.out.trans (hX6.mono HVW.out.size)
  have sp := HSP.out k hkI X6.drew hX6W.drew
  have HS0 := Lib.hid hS0
  have HSS := Lib.hid hSS
  have HX6 := Lib.hid hX6
  have HX6E := Lib.hid hX6e
  have HHX := Lib.hid hhx
  have BX6 := Lib.hid bX
  have RX6 := Lib.hid rx6
  have BE6 := Lib.hid bE6
  have HFARX := Lib.hid hfarx
  have HXHE := Lib.hid hxhe
  have HXV := Lib.hid hxv
  have HCPX := Lib.hid hcpx
  have HNX := Lib.hid hnx
  have HXL := Lib.hid hxl
  clear hS0 hSS hX6 hX6e hhx bX rx6 bE6 hfarx hxhe hxv hcpx hnx hxl F1 F2 hfx hB6 hB6V hrx hxo m13 ld13 hX6W
  go_upto_region 14 with fail
  rw [HHX.out]
  clear st6
  refine wp_txO [(1, 3), (3, 3), (0, 0), (4, 0), (2, 1), (5, 2), (6, 3)] S0 (by kernel_rfl) (by kernel_rfl) (by kernel_rfl) (by kernel_rfl) (HSS.out _ (Below.refl _ _).drew) ?_
  iterate 2 (with_reducible refine wpTxO_evN (o := ?_) (v := ?_) (a' := ?_) (by with_unfolding_all rfl) (by with_unfolding_all rfl) (fun W' => ?_) ?_ ?_; rotate_left 2; (focus (go_simp <;> with_reducible rfl)); focus (go_simp <;> with_reducible rfl))
  iterate 2 (with_reducible refine wpTxO_takeN (o := ?_) (v := ?_) (a' := ?_) (by with_unfolding_all rfl) (by with_unfolding_all rfl) (fun W' hS => ?_) ?_ ?_; rotate_left 2; (focus (rw [← HS0.out] at hS; obtain ⟨t1, t2⟩ := hS; go_simp <;> with_reducible rfl)); focus (go_simp <;> with_reducible rfl))
  with_reducible refine wpTxO_want (o := ?_) (by with_unfolding_all rfl) (by with_unfolding_all rfl) (fun K hK => ?_)
  try simp only [List.getElem_toArray, List.getElem_cons_succ, List.getElem_cons_zero]
  go_simp
  with_reducible refine sp.mono ?_
  rintro e w7 ⟨v7, rfl, hv7, hB7⟩
  obtain ⟨A7, N7, c7, rfl⟩ := hv7.formN
  have hh := rhas_any A7 N7 c7 (insP t (k : Int)) so w7 hv7.rd hv7.lenN (by rw [HI16.out]; exact Q1.out)
  rw [HMM.out] at hh
  have hB7X : Below X6.heap.size X6 w7 := (Below.refl _ X6).drew.trans hB7
  have HB7 := Lib.hid hB7X
  have HH := Lib.hid hh
  clear hB7X hh hB7 hv7 sp
  with_reducible refine hK _ _ (HSS.out _ HB7.out) ?_
  clear hK K
  with_reducible refine wpTxO_last (o := ?_) (by with_unfolding_all rfl) (by with_unfolding_all rfl) (fun K hK => ?_)
  try simp only [List.getElem_toArray, List.getElem_cons_succ, List.getElem_cons_zero]
  go_simp
  have hh := HH.out
  with_reducible refine hh.mono ?_
  rintro e w8 ⟨rfl, hB8⟩
  have hB8X := HB7.out.trans (hB8.mono HB7.out.size)
  have hB8V := HX6.out.trans (hB8X.mono HX6.out.size)
  have e8 := HFE.out w8 hB8V
  have bE8 := BE6.out.fr (Fr.of_below hB8X) (by have := BE6.out.lt; omega)
  have bX8 := BX6.out.fr (Fr.of_below hB8X) (by have := BX6.out.lt; omega)
  have rx8 := RX6.out.below hB8X
  have st8 := STs_all (P := Tryz.prog) iEnt bE8 (by rw [List.size_toArray]; exact HEL1.out) (entV eo) HEL0.out HEV1.out
  have bE9 := bE8.row_ (entV eo).toArray
  have hB9V := Below.setRow (g := he) hB8V HHEV.out (entV eo).toArray
  have f9 := (Fr.refl (fun k => k = he) w8).setRow (g := he) (fun _ => rfl) (entV eo).toArray
  obtain ⟨w9, hw9⟩ : ∃ X, w8.setRow he (entV eo).toArray = X := ⟨_, rfl⟩
  rw [hw9] at bE9 hB9V f9 st8
  have kc2 := (bE9.cell 2).trans HC2.out
  have kf2 := bE9.frozen 2
  have bE10 := bE9.set_ 2 (.int .u8 yx)
  rw [show (2 : Nat) = 2 + 0 from rfl, HSET2.out] at bE10
  have hY2 := hB9V.setCell (p := ⟨he, 2, none⟩) HHEV.out (.int .u8 yx)
  have f10 := f9.setCell (p := ⟨he, 2, none⟩) (fun _ => rfl) (.int .u8 yx)
  obtain ⟨Y2, hY2e⟩ : ∃ X, w9.setCell ⟨he, 2, none⟩ (.int .u8 yx) = X := ⟨_, rfl⟩
  rw [hY2e] at hY2 f10
  rw [show (2 + 0 : Nat) = 2 from rfl, hY2e] at bE10
  have bX10 := bX8.fr f10 HXHE.out
  have rx10 := rx8.fr f10 (fun a ha e => by have := HFARX.out a ha; omega)
  rw [HEV.out] at e8 st8
  have HY2 := Lib.hid hY2
  have HY2E := Lib.hid hY2e
  have BE10 := Lib.hid bE10
  have BX10 := Lib.hid bX10
  have RX10 := Lib.hid rx10
  clear hY2 hY2e bE10 bX10 rx10 hB8 hB8X hB8V bE8 bX8 rx8 bE9 hB9V f9 f10 hh
  with_reducible refine hK _ _ ?_
  clear hK K
  iterate 1 (with_reducible refine wpTxO_evN (o := ?_) (v := ?_) (a' := ?_) (by with_unfolding_all rfl) (by with_unfolding_all rfl) (fun W' => ?_) ?_ ?_; rotate_left 2; (focus (go_simp <;> with_reducible rfl)); focus (go_simp <;> with_reducible rfl))
  with_reducible refine wpTxO_nil ?_
  rw [noPan_normal]
  go_upto_region 16 with fail
  clear e8 st8
  have hyx := HYX.out
  go_upto_region 17 with fail
  rw [HY2E.out]
  clear kc2 kf2 hyx
  have ld17 := LDs_all (P := Tryz.prog) uEnt iEnt (entV e2) BE10.out HEL2.out
  have m17 := HMD2.out Y2 (HVW.out.trans (HY2.out.mono HVW.out.size))
  obtain ⟨ev2, hev2⟩ : ∃ x, (entV e2).toArray = x := ⟨_, rfl⟩
  rw [hev2] at ld17 m17
  have HEV2E := Lib.hid hev2
  clear hev2
  go_wp2_with fail
  with_reducible refine m17.mono ?_
  rintro e w10 ⟨By, capy, rfl, hry, hcpy, hny, _, hB10⟩
  have hyl := certV_len HY0'.out By capy
  have hyo := certV_one my By capy
  have st10 := HSTC.out w10 (certV my By capy) hyl hyo
  have bY := Blk.new w10 48 (certV my By capy).toArray
  have hB10V := HY2.out.trans (hB10.mono HY2.out.size)
  have hX10 := hB10V.alloc hB10V.size (.cells (certV my By capy).toArray 48)
  have ry := hry.below ((Below.refl _ w10).alloc (Nat.le_refl _) (.cells (certV my By capy).toArray 48))
  have bX3 := (BX10.out.fr (Fr.of_below hB10) (by have := BX10.out.lt; omega)).alloc (.cells (certV my By capy).toArray 48)
  have rx3 := (RX10.out.below hB10).below ((Below.refl _ w10).alloc (Nat.le_refl _) (.cells (certV my By capy).toArray 48))
  obtain ⟨Y3, hY3e⟩ : ∃ X, w10.alloc (.cells (certV my By capy).toArray 48) = X := ⟨_, rfl⟩
  rw [hY3e] at bY hX10 ry bX3 rx3 st10
  obtain ⟨hy, hhy⟩ : ∃ h, w10.heap.size = h := ⟨_, rfl⟩
  rw [hhy] at bY
  have hY3W := HVW.out.trans (hX10.mono HVW.out.size)
  have hRY := HRV.out.below hX10
  have hmX : ∀ X, Below Y3.heap.size Y3 X → CertsAt (X.alloc (.cells xv.toArray 48)) (some ⟨X.heap.size, 0, none⟩) [mx] := fun X hX => by
    have hb := Blk.new X 48 xv.toArray
    rw [← HXV.out] at hb ⊢
    exact certs_one hb ((rx3.below hX).below ((Below.refl _ X).alloc (Nat.le_refl _) _)) HCPX.out HNX.out HX0.out
  have hmY : ∀ X, Below Y3.heap.size Y3 X → CertsAt (X.alloc (.cells (certV my By capy).toArray 48)) (some ⟨X.heap.size, 0, none⟩) [my] := fun X hX =>
    certs_one (Blk.new X 48 (certV my By capy).toArray) ((ry.below hX).below ((Below.refl _ X).alloc (Nat.le_refl _) _)) hcpy hny HY0'.out
  have FX := fun X (hX : Below Y3.heap.size Y3 X) => LDs_all (P := Tryz.prog) uCert iCert xv (bX3.fr (Fr.of_below hX) (by have := bX3.lt; omega)) (by rw [← HXV.out]; exact HXL.out)
  have FY := fun X (hX : Below Y3.heap.size Y3 X) => LDs_all (P := Tryz.prog) uCert iCert (certV my By capy) (bY.fr (Fr.of_below hX) (by have := bY.lt; omega)) hyl
  have FL3 := fun X (hX : Below Y3.heap.size Y3 X) => HLD.out X (hY3W.trans (hX.mono hY3W.size))
  have hK1 : ∀ c ∈ [mx], c.path.length ≤ 1000000 := by simp [HXP.out]
  have hK2 : ∀ c ∈ [my], c.path.length ≤ 1000000 := by simp [HYP.out]
  have a5 := fun X (hX : Below Y3.heap.size Y3 X) h (hc : CertsAt X (some ⟨h, 0, none⟩) [mx]) => HSO.out p k X (some ⟨h, 0, none⟩) 1 [mx] (hRY.below hX) hk1 hk2 (hY3W.trans (hX.mono hY3W.size)) Q1.out Q2.out hc hK1
  have a6 := fun X (hX : Below Y3.heap.size Y3 X) h (hc : CertsAt X (some ⟨h, 0, none⟩) [my]) => HSO.out p k X (some ⟨h, 0, none⟩) 1 [my] (hRY.below hX) hk1 hk2 (hY3W.trans (hX.mono hY3W.size)) Q1.out Q2.out hc hK2
  simp only [HRJ.out, show ([mx] : List CertD).length = 1 from rfl] at a5
  simp only [HRO.out, show ([my] : List CertD).length = 1 from rfl] at a6
  have hbX := fun X => BSs_one (P := Tryz.prog) uCerts iCerts2 (by omega) (by omega) X (.agg xv.toArray) (by rw [← HXV.out]; simp [Value.cells, HXL.out])
  have hbY := fun X => BSs_one (P := Tryz.prog) uCerts iCerts2 (by omega) (by omega) X (.agg (certV my By capy).toArray) (by simp [Value.cells, hyl])
  simp only [Value.cells] at hbX hbY
  obtain ⟨yv, hyv⟩ : ∃ x, (certV my By capy).toArray = x := ⟨_, rfl⟩
  obtain ⟨xw, hxw⟩ : ∃ x, xv.toArray = x := ⟨_, rfl⟩
  simp only [hyv] at FY hbY hmY
  simp only [hxw] at FX hbX hmX
  rw [hyv] at st10 hY3e ⊢
  have haw := fun X (hX : Below Y3.heap.size Y3 X) => HAW.out X (hY3W.trans (hX.mono hY3W.size))
  have HFX := Lib.hid FX
  have HFY := Lib.hid FY
  have HFL3 := Lib.hid FL3
  have HMX := Lib.hid hmX
  have HMY := Lib.hid hmY
  have HA5 := Lib.hid a5
  have HA6 := Lib.hid a6
  have HAW3 := Lib.hid haw
  have HY3 := Lib.hid hY3W
  have HY3E := Lib.hid hY3e
  have HHY := Lib.hid hhy
  have HBX := Lib.hid hbX
  have HBY := Lib.hid hbY
  have HYV := Lib.hid hyv
  have HXW := Lib.hid hxw
  clear FX FY FL3 hmX hmY a5 a6 haw hY3W hY3e hhy hbX hbY hyv hxw hry hB10 hB10V bY ry bX3 rx3 hRY hK1 hK2 hX10 hyo m17 ld17
  go_upto_region 18 with fail
  rw [HHY.out]
  clear st10 hb1 hb2 halc hale
  have hb1 := HBX.out
  have hb2 := HBY.out
  have l0 := HFL3.out Y3 (Below.refl _ _)
  have c0 := HFX.out Y3 (Below.refl _ _)
  have a5 := HA5.out _ ((Below.refl _ Y3).alloc (Nat.le_refl _) (.cells xw 48)) _ (HMX.out Y3 (Below.refl _ _))
  have hua := (Below.refl Y3.heap.size Y3).alloc (Nat.le_refl _) (.cells xw 48)
  have HUA := Lib.hid hua
  clear hua
  cases mm
  focus
    simp only [Bool.false_eq_true, if_false] at a5
    go_wp2_with fail
    with_reducible refine a5.mono ?_
    rintro e z1 ⟨rfl, hz1⟩
  rotate_left
  focus
    simp only [if_true] at a5
    go_wp2_with fail
    with_reducible refine a5.mono ?_
    rintro e z1 ⟨rfl, hz1⟩
  all_goals
    have hz1Y := HUA.out.trans (hz1.mono HUA.out.size)
    have l1 := HFL3.out z1 hz1Y
    have c1 := HFY.out z1 hz1Y
    have a6 := HA6.out _ (hz1Y.alloc hz1Y.size (.cells yv 48)) _ (HMY.out z1 hz1Y)
    have HZ1 := Lib.hid (hz1Y.alloc hz1Y.size (.cells yv 48))
    clear hz1 hz1Y a5 l0 c0
    go_wp2_with fail
    with_reducible refine a6.mono ?_
    rintro e z2 ⟨rfl, hz2⟩
    have hz2Y := HZ1.out.trans (hz2.mono HZ1.out.size)
    have a7 := HAW3.out z2 hz2Y
    have HZ2 := Lib.hid hz2Y
    clear hz2Y hz2 a6 l1 c1
    go_wp2_with fail
    with_reducible refine a7.mono ?_
    rintro e z3 ⟨rfl, hz3⟩
    have HZ3 := Lib.hid (HZ2.out.trans (hz3.mono HZ2.out.size))
    clear hz3 a7
    go_wp2_with fail
    go_ret
    exact ⟨rfl, HB.out.trans ((HY3.out.trans (HZ3.out.mono HY3.out.size)).mono HB.out.size)⟩
end Go.Proofs.YtmflhidmhefljaaGreatDoor
