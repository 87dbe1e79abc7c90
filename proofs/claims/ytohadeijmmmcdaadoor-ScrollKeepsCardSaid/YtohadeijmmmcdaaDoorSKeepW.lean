/-
  ScrollKeeps: the walk.
-/
import Derived.Test.YtohadeijmmmcdaaDoorSKeepB
import Derived.Test.YtohadeijmmmcdaaDoorRForm
import Derived.Test.YtohadeijmmmcdaaDoorOtherW
import Derived.Deep.CutRange
namespace Go.Proofs.YtohadeijmmmcdaaDoor
open Go.RowKit
set_option maxRecDepth 100000

theorem OwnV.kept {B n₀ : Nat} {G : Nat → Prop} {ts : List TypeId} {w w' : World} {v : Value} {L : List (List Int)} (h : OwnV B G w v L) (hk : Kept n₀ ts w w') (ht : 22 ∉ ts) (hG : ∀ k, G k → k < n₀) : OwnV B G w' v L := by
  obtain ⟨xs, h1, h2, h3⟩ := h
  exact ⟨xs, hk.own h1 ht, h2, fun i hi hi' => ⟨(h3 i hi hi').1.fr0 (Fr.of_below hk.below) (fun k hk' h0 f => by have := hG k ((h3 i hi hi').2 k hk' h0); omega), (h3 i hi hi').2⟩⟩
theorem formE_le {t n : Nat} {b : List Int} (ht : t ≤ 65535) (hn : n ≤ 100) (hb : b.length ≤ 300) : formE (t : Int) (n : Int) b = 0 ∧ recS t n b ≤ 6 := by
  refine ⟨formE_small (by omega) (by omega) (by omega), ?_⟩
  unfold recS secP
  rw [fieldsP_len]
  have h1 := numP_len3 (n := t) (by omega)
  have h2 := numP_len2 (n := n) (by omega)
  have h3 := numP_len3 (n := b.length) (by omega)
  omega

theorem start_nil {S : DS} (hw : S.waits = []) (hg : S.Good) : S.start [] = S := by
  obtain ⟨h1, h2⟩ := hg
  cases S
  simp only at hw h1 h2
  subst hw h1 h2
  rfl

/-- The law's rounds: what stands before the i-th. -/
def KeepRel (w : World) (q _N T : Nat) (i : Nat) (pv : Value) (sure : Nat) (wr : World) : Prop :=
  ∃ (np u : Nat) (P : List (List Int)) (S : DS) (Ap : Option Addr) (cp : Nat), pv = .slice Ap np cp ∧ np = P.length ∧ np ≤ i ∧ IsScroll wr q (w.heap.size + 1) ⟨0, 40, T, u, np, false⟩ ∧ At w w.heap.size (w.heap.size + 1) w.heap.size S wr ∧
    Has S ⟨0, 40, T, u, np, false⟩ P ∧ Sure S ⟨0, 40, T, u, np, false⟩ P sure ∧ OwnV w.heap.size (fun k => k < w.heap.size) wr pv P ∧ S.waits.length ≤ 40 + 40 * i ∧ S.sure.length = 40 ∧ (∀ x ∈ P, (∀ y ∈ x, 0 ≤ y ∧ y ≤ 255) ∧ x.length ≤ 300)

section
attribute [local go_sem ↓] apt33_of slT_of

set_option maxHeartbeats 16000000 in
theorem keeps_law (A0 : Option Addr) (c0 : Nat) (l : List (List Int)) (A1 : Option Addr) (c1 : Nat) (sy : List Bool) (A2 : Option Addr) (c2 : Nat) (mk : List Int) (a3 : Int) (w : World) (hl : Txs w A0 l) (hm : l.length ≤ maxLen) (hsy : Bls w A1 sy) (hsm : sy.length ≤ maxLen) (hmk : BytN w A2 c2 mk) (hmm : mk.length ≤ maxLen) (h3 : 0 ≤ a3 ∧ a3 ≤ 65535) (hg : Glob w) :
    Calls Tryd.prog 8 #[.slice A0 l.length c0, .slice A1 sy.length c1, .slice A2 mk.length c2, .int .u16 a3] w fun e w' => e = .returned (.bool true) ∧ Below w.heap.size w w' := by
  unfold maxLen at hm hsm hmm
  have aw0 := awake13 w hg
  obtain ⟨N, hN⟩ : ∃ N, l.length = N := ⟨_, rfl⟩
  obtain ⟨NS, hNS⟩ : ∃ N, sy.length = N := ⟨_, rfl⟩
  obtain ⟨NM, hNM⟩ : ∃ N, mk.length = N := ⟨_, rfl⟩
  rw [hN] at hm ⊢
  rw [hNS] at hsm ⊢
  rw [hNM] at hmm ⊢
  have HN := Lib.hid hN
  have HNS := Lib.hid hNS
  have HNM := Lib.hid hNM
  have HL := Lib.hid hl
  have HSY := Lib.hid hsy
  have HMK := Lib.hid hmk
  have HG := Lib.hid hg
  have HAW := Lib.hid aw0
  clear hN hNS hNM hl hsy hmk hg aw0
  by_cases h12 : 12 < N
  · have hI : (12 : Int) < (N : Int) := by omega
    go_enter Tryd.func8, Tryd.ntmps8
    go_wp2_with fail
    with_reducible refine HAW.out.mono ?_
    rintro e w2 ⟨rfl, c2⟩
    have C2 := Lib.hid c2
    clear c2 HAW
    go_wp2_with fail
    go_ret
    exact ⟨rfl, C2.out⟩
  by_cases h100 : 100 < NM
  · have hI : (N : Int) ≤ 12 := by omega
    have hI2 : (100 : Int) < (NM : Int) := by omega
    go_enter Tryd.func8, Tryd.ntmps8
    go_wp2_with fail
    with_reducible refine HAW.out.mono ?_
    rintro e w2 ⟨rfl, c2⟩
    have C2 := Lib.hid c2
    clear c2 HAW
    go_wp2_with fail
    go_ret
    exact ⟨rfl, C2.out⟩
  have hI : (N : Int) ≤ 12 := by omega
  have hI2 : (NM : Int) ≤ 100 := by omega
  obtain ⟨T, rfl⟩ := Int.eq_ofNat_of_zero_le h3.1
  have hT : T ≤ 65535 := by have := h3.2; omega
  have hTI : (T : Int) ≤ 65535 := by omega
  have f3 := new_drum 40 w (by omega) (by omega)
  rw [show ((40 : Nat) : Int) = 40 from rfl] at f3
  clear HAW h3
  go_enter Tryd.func8, Tryd.ntmps8
  go_wp2_with fail
  with_reducible refine f3.mono ?_
  rintro e w3 ⟨rfl, d3, c3⟩
  have at3 := At.new HG.out HG.out.size (Below.refl _ _) 40 d3 c3
  have n3 : (DS.new 40).sure.length = 40 := by simp [DS.new]
  have m3 : (DS.new 40).waits.length = 0 := rfl
  have f4 := blank_has at3 (DS.new_good 40) 0 40 T (by omega) (by omega) (by omega)
  rw [show ((0 : Nat) : Int) = 0 from rfl, show ((40 : Nat) : Int) = 40 from rfl] at f4
  obtain ⟨D0, hD0⟩ : ∃ D, DS.new 40 = D := ⟨_, rfl⟩
  rw [hD0] at f4 n3 m3
  have hs3 : w.heap.size ≤ w3.heap.size := c3.size
  clear f3 d3 at3 hD0 c3
  go_wp2_with fail
  with_reducible refine f4.mono ?_
  rintro e w4 ⟨q, S4, rfl, s4, hq, at4, H4, l4, r4, _, _⟩
  have pq := peq37 q
  rw [m3, Nat.zero_add] at l4
  rw [n3] at r4
  have hqB : w.heap.size ≤ q := by omega
  have hK0 : KeepRel w q N T 0 (.slice none 0 0) 0 w4 := ⟨0, 0, [], S4, none, 0, rfl, rfl, Nat.le_refl _, s4, at4, H4, ⟨Nat.zero_le _, fun x _ => by simp [sizeP]⟩, OwnV.nil _ _ _, by omega, r4, fun x hx => by cases hx⟩
  have HK0 := Lib.hid hK0
  clear f4 s4 at4 H4 hq n3 m3 l4 r4 hK0
  go_wp2_with fail
  go_loopg [12, 13, 14] N (fun k pv sv t wr => ∃ (i sure : Nat), i + k = N ∧ t = .int .i64 (i : Int) ∧ sv = .int .i64 (sure : Int) ∧ KeepRel w q N T i pv sure wr)
  case atStart => exact ⟨0, 0, by omega, rfl, rfl, HK0.out⟩
  case round =>
    clear HK0
    obtain ⟨i, sure, hi, rfl, rfl, hK⟩ := hrel
    obtain ⟨np, u, P, S, Ap, cp, rfl, hnp, hni, hs, hat, hH, hSu, hov, hw, hr, hPb⟩ := hK
    by_cases hlt : i < N
    · have hltI : (i : Int) < (N : Int) := by omega
      obtain ⟨g, off, rfl, hgw, htx⟩ := txs_at HL.out (by rw [HN.out]; omega)
      obtain ⟨A', c', hc, hb, hbm⟩ := htx i (by rw [HN.out]; exact hlt)
      obtain ⟨b, hbe⟩ : ∃ b, l[i]'(by rw [HN.out]; exact hlt) = b := ⟨_, rfl⟩
      rw [hbe] at hc hb hbm
      unfold maxLen at hbm
      have hc' : wr.cell? ⟨g, off + i, none⟩ = some (.slice A' b.length c') := (hat.below.cell (p := ⟨g, off + i, none⟩) hgw).trans hc
      obtain ⟨L, hL⟩ : ∃ L, b.length = L := ⟨_, rfl⟩
      rw [hL] at hc'
      have HB := Lib.hid hb
      have HLb := Lib.hid hL
      have AT := Lib.hid hat
      have HS := Lib.hid hs
      have HH := Lib.hid hH
      have HSU := Lib.hid hSu
      have HOV := Lib.hid hov
      have HPB := Lib.hid hPb
      have HNP := Lib.hid hnp
      clear htx hc hbe hb hL hat hs hH hSu hov hPb hnp
      by_cases hbig : 300 < L
      · have hbI : (300 : Int) < (L : Int) := by omega
        have aw := awake13 wr AT.out.glob
        go_wp2_with fail
        with_reducible refine aw.mono ?_
        rintro e w5 ⟨rfl, c5⟩
        have C5 := Lib.hid c5
        clear c5 aw
        go_wp2_with fail
        go_ret
        exact ⟨rfl, AT.out.below.trans (C5.out.mono AT.out.below.size)⟩
      · have hbI : (L : Int) ≤ 300 := by omega
        have hwtI : IntKind.i64.wrap (T : Int) = (T : Int) := by rw [IntKind.wrap_i64]; omega
        obtain ⟨hE, hR6⟩ := formE_le (t := T) (n := np) (b := b) hT (by omega) (by rw [HLb.out]; omega)
        have hf := rform_any (T : Int) (np : Int) A' c' HB.out.nil_ b wr (HB.out.byt.below AT.out.below) (by rw [HLb.out]; omega)
        rw [HLb.out] at hf
        obtain ⟨R, hR⟩ : ∃ R, recS T np b = R := ⟨_, rfl⟩
        have hVl : (formV (T : Int) (np : Int) b).length = 64 * R := by
          unfold formV
          rw [if_pos hE, formP_len, Int.toNat_natCast, Int.toNat_natCast, ← hR]
          unfold recS
          omega
        have hE' : formE ((⟨0, 40, T, u, np, false⟩ : SS).t : Int) ((⟨0, 40, T, u, np, false⟩ : SS).n : Int) b = 0 := hE
        have hum : u ≤ 40 := HH.out.um
        rw [hR] at hR6
        have HF := Lib.hid hf
        have HE := Lib.hid hE
        have HRR := Lib.hid hR
        have HVL := Lib.hid hVl
        clear hf hE hR hVl hE'
        go_wp2_with fail
        with_reducible refine HF.out.mono ?_
        rintro e w5 ⟨⟨v5, rfl, o5⟩, b5⟩
        obtain ⟨A5, c5, rfl⟩ := o5.form
        rw [HE.out, HVL.out]
        obtain ⟨nf, hnf⟩ : ∃ nf, 64 * R = nf := ⟨_, rfl⟩
        rw [hnf]
        have hdiv : (nf : Int) / 64 = (R : Int) := by omega
        have hs5 := HS.out.kept (Kept.of_below (n₀ := w.heap.size) (ts := []) b5 AT.out.size) (by simp)
        have hlf := left_any q (w.heap.size + 1) _ (by simp only; omega) (by simp only; exact hum) w5 hs5
        obtain ⟨LF, hLF⟩ : ∃ LF, 40 - u = LF := ⟨_, rfl⟩
        have e40 : (((⟨0, 40, T, u, np, false⟩ : SS).m : Int) - ((⟨0, 40, T, u, np, false⟩ : SS).u : Int)) = (LF : Int) := by simp only; omega
        rw [e40] at hlf
        have HLFc := Lib.hid hlf
        have HB5 := Lib.hid b5
        have HLF := Lib.hid hLF
        clear hlf o5 b5 e40 hLF hnf hs5 HF
        go_wp2_with fail
        with_reducible refine HLFc.out.mono ?_
        rintro e w6 ⟨rfl, k6, hw6⟩
        have b6 : Below wr.heap.size wr w6 := by rw [hw6]; exact below_drewN HB5.out k6
        have at6 := AT.out.after b6
        have hs6 := HS.out.kept (Kept.of_below (n₀ := w.heap.size) (ts := []) b6 AT.out.size) (by simp)
        have hov6 := HOV.out.below (fun k hk => by have := AT.out.below.size; omega) b6
        have hc6 : w6.cell? ⟨g, off + i, none⟩ = some (.slice A' L c') := (b6.cell (p := ⟨g, off + i, none⟩) (Nat.lt_of_lt_of_le hgw AT.out.below.size)).trans hc'
        have hby6 := HB.out.byt.below at6.below
        have AT6 := Lib.hid at6
        have HS6 := Lib.hid hs6
        have HOV6 := Lib.hid hov6
        have HBY6 := Lib.hid hby6
        clear hw6 b6 at6 hs6 hov6 hby6 HLFc hc' HB5
        rcases Nat.lt_or_ge LF R with hfull | hfit
        focus
          have hdf : decide (LF < R) = true := by simpa using hfull
          have hpR : putR ⟨0, 40, T, u, np, false⟩ S b = (18, ⟨0, 40, T, u, np, false⟩, S) := by
            unfold putR
            rw [if_neg (by simp), if_neg (by simp only; rw [HE.out]; simp), if_pos (by simp only; rw [HRR.out, HLF.out]; exact hfull)]
          have hp := put_at AT6.out HS6.out hqB A' c' HB.out.nil_ b HBY6.out (by simp only; exact hum) (by simp only; rw [hr]; omega) (by simp only; omega) (by omega) (by rw [HLb.out]; omega)
          rw [hpR, HLb.out] at hp
          have HP := Lib.hid hp
          clear hp hpR hfull
          go_wp2_with fail
          with_reducible refine HP.out.mono ?_
          rintro e w8 ⟨rfl, s7, at7, k7⟩
          have ov7 := HOV6.out.kept k7 (by decide) (fun k hk => hk)
          have hK8 : KeepRel w q N T (i + 1) (.slice Ap np cp) sure w8 := ⟨np, u, P, S, Ap, cp, rfl, HNP.out, by omega, s7, at7, HH.out, HSU.out, ov7, by omega, hr, HPB.out⟩
          have HK8 := Lib.hid hK8
          clear s7 at7 k7 ov7 hK8 HP hdf AT6 HS6 HOV6 HBY6
          go_upto_region 21 with fail
        rotate_left
        focus
          have hdf : decide (LF < R) = false := by simpa using hfit
          obtain ⟨p1, p2, p3, p4, p5, _⟩ := HH.out.put (b := b) HE.out (by simp only; rw [HRR.out]; have := HLF.out; omega)
          simp only [HRR.out] at p2 p3 p5
          have p6 : Sure (putR ⟨0, 40, T, u, np, false⟩ S b).2.2 ⟨0, 40, T, u + R, np + 1, false⟩ (P ++ [b]) sure := HSU.out.put HH.out.u rfl rfl
          have hp := put_at AT6.out HS6.out hqB A' c' HB.out.nil_ b HBY6.out (by simp only; exact hum) (by simp only; rw [hr]; omega) (by simp only; omega) (by omega) (by rw [HLb.out]; omega)
          rw [p1, p2, HLb.out] at hp
          obtain ⟨S7, hS7⟩ : ∃ S7, (putR ⟨0, 40, T, u, np, false⟩ S b).2.2 = S7 := ⟨_, rfl⟩
          rw [hS7] at p3 p4 p5 p6 hp
          have HP := Lib.hid hp
          have H3 := Lib.hid p3
          have H4 := Lib.hid p4
          have H5 := Lib.hid p5
          have H6 := Lib.hid p6
          clear hp p1 p2 p3 p4 p5 p6 hS7 hfit
          go_wp2_with fail
          with_reducible refine HP.out.mono ?_
          rintro e w7 ⟨rfl, s7, at7, k7⟩
          have ov7 := HOV6.out.kept k7 (by decide) (fun k hk => hk)
          have hc7 : w7.cell? ⟨g, off + i, none⟩ = some (.slice A' L c') := (k7.below.cell (p := ⟨g, off + i, none⟩) hgw).trans hc6
          have htx : TxV w7 (.slice A' L c') b := ⟨A', c', by rw [HLb.out], HBY6.out.belowB k7.below (fun a ha h0 => by
            obtain ⟨g9, o9, e9, hg9, _⟩ := HB.out.byt.cell h0
            rw [ha] at e9
            cases e9
            exact hg9), HB.out.nil_⟩
          have hown : ∀ k, (Value.slice A' L c').ownBlock = some k → 0 < b.length → k < w.heap.size := fun k hk h0 => by
            obtain ⟨g9, o9, e9, hg9, _⟩ := HB.out.byt.cell h0
            rw [e9] at hk
            cases hk
            exact hg9
          obtain ⟨v', w8, hap, ov8, f8, _⟩ := ov7.app (ty := 33) (fun k hk => hk) htx hown (by rw [← HNP.out]; omega) at7.below.size
          obtain ⟨A8, c8, rfl⟩ := ov8.form
          have hl8 : (P ++ [b]).length = np + 1 := by rw [List.length_append, ← HNP.out]; rfl
          rw [hl8] at hap
          rw [hl8] at ov8
          have k8 : Kept w.heap.size [22] w7 w8 := Kept.of_fr f8 at7.size (fun k hk e => by have := (ov7.lt e).1; omega) (fun k t cs e hb => by
            obtain ⟨xs, h1, _⟩ := ov7
            obtain ⟨cs', hb', _⟩ := own_blk h1 e
            rw [(hb.inj hb').1]
            simp)
          have at8 := at7.kept k8 (by
            obtain ⟨wv, hd⟩ := at7.drum
            exact ⟨wv, k8.drum hd (by decide) (by decide) (by decide)⟩)
          have s8 := s7.kept k8 (by decide)
          have hK8 : KeepRel w q N T (i + 1) (.slice A8 (np + 1) c8) sure w8 := ⟨np + 1, u + R, P ++ [b], S7, A8, c8, rfl, hl8.symm, by omega, s8, at8, H3.out, H6.out, ov8, by have := H5.out; omega, by rw [H4.out]; exact hr, fun x hx => by
            rcases List.mem_append.1 hx with h | h
            · exact HPB.out x h
            · simp at h
              subst h
              exact ⟨HB.out.byt.bd, by rw [HLb.out]; omega⟩⟩
          have HK8 := Lib.hid hK8
          clear s7 at7 k7 ov7 hK8 HP AT6 HS6 HOV6 HBY6 htx hown ov8 f8 hl8 k8 at8 s8 hc6 H3 H4 H5 H6
          go_upto_region 21 with fail
          clear hap hc7 hdf
        rotate_left
        all_goals
          obtain ⟨np2, u2, P2, S2, Ap2, cp2, epv, hnp2, hni2, s2, at2, h2, su2, ov2, hw2, hr2, hPb2⟩ := HK8.out
          simp only [Value.slice.injEq] at epv
          obtain ⟨rfl, rfl, rfl⟩ := epv
          have hcs : ∀ x, i < NS → sy.getD i false = x → ∃ g1 o1, A1 = some ⟨g1, o1, none⟩ ∧ w8.cell? ⟨g1, o1 + i, none⟩ = some (.bool x) := fun x hx hv => by
            have hil : i < sy.length := by rw [HNS.out]; exact hx
            obtain ⟨g1, o1, e1, hg1, hc1⟩ := HSY.out.cell (by omega)
            refine ⟨g1, o1, e1, (at2.below.cell (p := ⟨g1, o1 + i, none⟩) hg1).trans (hc1 i x ?_)⟩
            rw [← hv]
            simp [List.getD, hil]
          have hsn := ssync_has at2 s2 hqB h2 (by omega)
          have HSN := Lib.hid hsn
          have AT2 := Lib.hid at2
          have HOV2 := Lib.hid ov2
          have HPB2 := Lib.hid hPb2
          have HNP2 := Lib.hid hnp2
          clear s2 at2 h2 su2 ov2 hPb2 hsn hnp2
          by_cases hns : i < NS
          · have hnsI : (i : Int) < (NS : Int) := by omega
            have hnd : decide (i < NS) = true := by simpa using hns
            cases hv : sy.getD i false with
            | true =>
              obtain ⟨g1, o1, rfl, hcell⟩ := hcs true hns hv
              clear hcs hv
              go_wp2_with fail
              with_reducible refine HSN.out.mono ?_
              rintro e w9 ⟨rfl, s9, at9, h9, k9⟩
              have ov9 := HOV2.out.kept k9 (by decide) (fun k hk => hk)
              have S9 := Lib.hid s9
              have AT9 := Lib.hid at9
              have H9 := Lib.hid h9
              have OV9 := Lib.hid ov9
              clear s9 at9 h9 k9 ov9 HSN
              go_wp2_with fail
              go_roundg (N - (i + 1))
              case measure => omega
              case rel => exact ⟨i + 1, P2.length, by omega, by go_num, by rw [← HNP2.out] <;> (first | rfl | go_num), ⟨_, u2, P2, _, _, _, rfl, HNP2.out, hni2, S9.out, AT9.out, H9.out, ⟨Nat.le_refl _, fun x hx => by cases hx⟩, OV9.out, by simp, by simp only; rw [applyAll_len]; exact hr2, HPB2.out⟩⟩
            | false =>
              obtain ⟨g1, o1, rfl, hcell⟩ := hcs false hns hv
              clear hcs hv HSN
              go_wp2_with fail
              go_roundg (N - (i + 1))
              case measure => omega
              case rel => exact ⟨i + 1, sure, by omega, by go_num, rfl, HK8.out⟩
          · have hnd : decide (i < NS) = false := by simpa using hns
            clear hcs HSN
            go_wp2_with fail
            go_roundg (N - (i + 1))
            case measure => omega
            case rel => exact ⟨i + 1, sure, by omega, by go_num, rfl, HK8.out⟩
    · obtain rfl : i = N := by omega
      have hltI : ¬ ((i : Int) < (i : Int)) := by omega
      have hst := start_at hat A2 c2 mk (HMK.out.byt.below hat.below) (fun a ha h0 => .inl (by
        obtain ⟨g9, o9, e9, hg9, _⟩ := HMK.out.byt.cell h0
        rw [ha] at e9
        cases e9
        exact hg9)) (by omega) (by rw [HNM.out]; unfold maxLen; omega)
      rw [HNM.out] at hst
      obtain ⟨hsc1, hsc2⟩ := hSu.start hat.ok hH mk
      simp only at hsc1 hsc2
      obtain ⟨S1, hS1⟩ : ∃ S1, S.start mk = S1 := ⟨_, rfl⟩
      have hg1 : S1.Good := hS1 ▸ start_good S mk
      have hl1 : S1.sure.length = 40 := by rw [← hS1, start_len]; exact hr
      have hw1 : S1.waits = [] := by rw [← hS1]; rfl
      rw [hS1] at hst hsc1 hsc2
      obtain ⟨X, hX⟩ : ∃ X, stP S1 0 40 = X := ⟨_, rfl⟩
      rw [hX] at hsc1 hsc2
      obtain ⟨⟨W, U⟩, hWU⟩ : ∃ R, scanAll T X = R := ⟨_, rfl⟩
      rw [hWU] at hsc1 hsc2
      simp only at hsc1 hsc2
      have HST := Lib.hid hst
      have HG1 := Lib.hid hg1
      have HL1 := Lib.hid hl1
      have HW1 := Lib.hid hw1
      have HX := Lib.hid hX
      have HWU := Lib.hid hWU
      have HSC := Lib.hid hsc1
      have hsuW : sure ≤ W.length := hsc2
      have hsuP : sure ≤ np := by rw [hnp]; exact hSu.le
      have HOV := Lib.hid hov
      have HPB := Lib.hid hPb
      have HNP := Lib.hid hnp
      clear hst hg1 hl1 hw1 hX hWU hsc1 hsc2 hS1 hat hs hH hSu hov hPb hnp
      go_wp2_with fail
      with_reducible refine HST.out.mono ?_
      rintro e w9 ⟨rfl, at9, k9⟩
      have ov9 := HOV.out.kept k9 (by decide) (fun k hk => hk)
      have hby : ∃ wv, IsDrum w.heap.size w9 (w.heap.size + 1) w.heap.size wv S1 := at9.drum
      obtain ⟨wv9, hd9⟩ := hby
      have hlb := lbytes_any w.heap.size (w.heap.size + 1) w.heap.size wv9 S1 0 40 w9 hd9 HG1.out.1 (by rw [HL1.out]; omega) (by rw [HW1.out]; simp)
      rw [HX.out, show ((0 : Nat) : Int) = 0 from rfl, show ((40 : Nat) : Int) = 40 from rfl] at hlb
      have hXl : X.length = 2560 := by rw [← HX.out, stP_len hd9.ok 0 40 (by rw [HL1.out]; omega)]
      have hXb : ∀ x ∈ X, 0 ≤ x ∧ x ≤ 255 := by rw [← HX.out]; exact stP_bd hd9.ok 0 40 (by rw [HL1.out]; omega)
      have HLB := Lib.hid hlb
      have AT9 := Lib.hid at9
      have OV9 := Lib.hid ov9
      have HXL := Lib.hid hXl
      have HXB := Lib.hid hXb
      clear hlb at9 k9 ov9 hd9 hXl hXb HST HOV
      go_wp2_with fail
      with_reducible refine HLB.out.mono ?_
      rintro e w10 ⟨v10, rfl, o10, b10⟩
      obtain ⟨A10, c10, e10, y10, _, k10⟩ := o10.byt HXB.out
      subst e10
      rw [HXL.out] at k10 o10 ⊢
      have hsn := rscan_any T A10 c10 X w10 y10 (by rw [HXL.out]; exact k10) (by rw [HXL.out]; omega) (fun a ha => by
        have hk : (Value.slice A10 2560 c10).ownBlock = some a.block := by rw [ha]; rfl
        exact (o10.lt hk).2)
      rw [HXL.out, HWU.out] at hsn
      have HSN := Lib.hid hsn
      have AT10 := Lib.hid (AT9.out.after b10)
      have OV10 := Lib.hid (OV9.out.below (fun k hk => by have := AT9.out.below.size; omega) b10)
      have HA10 := Lib.hid (fun (k : Nat) (h : InA A10 k) => (by
        obtain ⟨a, e1, e2⟩ := h
        have hk : (Value.slice A10 2560 c10).ownBlock = some a.block := by rw [e1]; rfl
        have := o10.lt hk
        exact ⟨by omega, by omega⟩ : w9.heap.size ≤ k ∧ k < w10.heap.size))
      have HBK10 := Lib.hid (fun (k : Nat) (h : InA A10 k) => (by
        obtain ⟨a, e1, e2⟩ := h
        have hk : (Value.slice A10 2560 c10).ownBlock = some k := by
          rw [e1]
          show (some a).map Addr.block = _
          simp [e2]
        obtain ⟨cs, hb, _⟩ := own_blk o10 hk
        exact ⟨cs, hb⟩ : ∃ cs, Blk w10 k 5 cs))
      clear o10 y10 k10 b10 hsn HLB AT9 OV9
      go_wp2_with fail
      with_reducible refine HSN.out.mono ?_
      rintro e w11 ⟨⟨v11, rfl, o11⟩, b11⟩
      obtain ⟨A11, c11, rfl⟩ := o11.form
      simp only at o11
      obtain ⟨nW, hnW⟩ : ∃ n, W.length = n := ⟨_, rfl⟩
      simp only [hnW] at o11 ⊢
      rw [hnW] at hsuW
      have ov11 := OV10.out.below (fun k hk => by have := AT10.out.below.size; omega) b11
      have hWb : ∀ x ∈ W, (∀ y ∈ x, 0 ≤ y ∧ y ≤ 255) ∧ x.length ≤ 2560 := fun x hx => by
        have := scanAll_bd (t := T) HXB.out x (by rw [HWU.out]; exact hx)
        rw [HXL.out] at this
        exact this
      obtain ⟨xs11, t11⟩ := o11.txs
      obtain ⟨xsP, tP⟩ := ov11.txs
      have AT11 := Lib.hid (AT10.out.after b11)
      have O11 := Lib.hid o11
      have OV11 := Lib.hid ov11
      have HWB := Lib.hid hWb
      have T11 := Lib.hid t11
      have TP := Lib.hid tP
      have HNW := Lib.hid hnW
      have HA11 := Lib.hid (fun (k : Nat) (h : InA A10 k) => (by have := HA10.out k h; have := b11.size; exact ⟨this, by omega⟩ : w10.heap.size ≤ w11.heap.size ∧ k < w11.heap.size))
      have HBK11 := Lib.hid (fun (k : Nat) (h : InA A10 k) => (by
        obtain ⟨cs, hb⟩ := HBK10.out k h
        exact ⟨cs, hb.fr (Fr.of_below b11) (by have := hb.lt; omega)⟩ : ∃ cs, Blk w11 k 5 cs))
      have HK910 : w.heap.size ≤ w11.heap.size := AT11.out.below.size
      clear o11 ov11 hWb t11 tP hnW b11 HSN AT10 OV10 HA10
      go_wp2_with fail
      go_loopg [21] nW (fun k t wr => ∃ j : Nat, j + k = nW ∧ t = .int .i64 (j : Int) ∧ (∀ i, i < j → i < np ∧ W.getD i [] = P.getD i []) ∧ Below w11.heap.size w11 wr)
      case atStart => exact ⟨0, by omega, rfl, fun i hi => by omega, Below.refl _ _⟩
      case round =>
        obtain ⟨j, hj, rfl, heq, hbl⟩ := hrel
        have HEQ := Lib.hid heq
        have HBL := Lib.hid hbl
        clear heq hbl
        by_cases hjW : j < nW
        · have hjI : (j : Int) < (nW : Int) := by omega
          rcases Nat.lt_or_ge j np with hjp | hjp
          · have hd1 : decide (np ≤ j) = false := by simpa using hjp
            rcases Nat.lt_or_ge j sure with hjs | hjs
            · have hd2 : decide (sure ≤ j) = false := by simpa using hjs
              have hwp : W.getD j [] = P.getD j [] := by
                have h1 : (W.take sure).getD j [] = (P.take sure).getD j [] := by rw [HSC.out]
                simpa [List.getD, List.getElem?_take, hjs] using h1
              have HWP := Lib.hid hwp
              clear hwp
              go_wp2_with fail
              go_quiet (fail)
              all_goals
                go_wp2_with fail
                go_roundg (nW - (j + 1))
                case measure => omega
                case rel => exact ⟨j + 1, by omega, by go_num, fun i hi => by
                  by_cases e : i = j
                  · subst e; exact ⟨hjp, HWP.out⟩
                  · exact HEQ.out i (by omega), below_drewN HBL.out _⟩
            · have hd2 : decide (sure ≤ j) = true := by simpa using hjs
              obtain ⟨g1, o1, B1, d1, rfl, k1, y1⟩ := T11.out.at_ (i := j) (by rw [HNW.out]; exact hjW)
              obtain ⟨g2, o2, B2, d2, rfl, k2, y2⟩ := TP.out.at_ (i := j) (by rw [← HNP.out]; exact hjp)
              have hg1 : g1 < w11.heap.size := by
                obtain ⟨g, o, e, hg, _⟩ := T11.out.cell (by rw [T11.out.len, HNW.out]; omega)
                cases e
                exact hg
              have hg2 : g2 < w11.heap.size := by
                obtain ⟨g, o, e, hg, _⟩ := TP.out.cell (by rw [TP.out.len, ← HNP.out]; omega)
                cases e
                exact hg
              have k1' := (HBL.out.cell (p := ⟨g1, o1 + j, none⟩) hg1).trans k1
              have k2' := (HBL.out.cell (p := ⟨g2, o2 + j, none⟩) hg2).trans k2
              have y1' := y1.below HBL.out
              have y2' := y2.below HBL.out
              have hxl : (W.getD j []).length ≤ 1000000000 := by
                have h1 : j < W.length := by rw [HNW.out]; exact hjW
                have e : W.getD j [] = W[j] := by simp [List.getD, h1]
                rw [e]
                have := (HWB.out _ (List.getElem_mem h1)).2
                omega
              have hyl : (P.getD j []).length ≤ 1000000000 := by
                have h1 : j < P.length := by rw [← HNP.out]; exact hjp
                have e : P.getD j [] = P[j] := by simp [List.getD, h1]
                rw [e]
                have := (HPB.out _ (List.getElem_mem h1)).2
                omega
              obtain ⟨x, hx⟩ : ∃ x, W.getD j [] = x := ⟨_, rfl⟩
              obtain ⟨y, hy⟩ : ∃ y, P.getD j [] = y := ⟨_, rfl⟩
              rw [hx] at k1' y1' hxl
              rw [hy] at k2' y2' hyl
              have hbq := fun m : Nat => bytes_any B1 B2 d1 d2 x y (wr.drewN m) (y1'.below (below_drewN (Below.refl _ wr) m)) (y2'.below (below_drewN (Below.refl _ wr) m)) hxl hyl
              obtain ⟨m1, hm1⟩ : ∃ m, x.length = m := ⟨_, rfl⟩
              obtain ⟨m2, hm2⟩ : ∃ m, y.length = m := ⟨_, rfl⟩
              rw [hm1, hm2] at hbq
              rw [hm1] at k1'
              rw [hm2] at k2'
              have HXX := Lib.hid hx
              have HYY := Lib.hid hy
              clear hx hy hm1 hm2 y1' y2' y1 y2 k1 k2 hxl hyl hg1 hg2
              by_cases hxy : x = y
              · rw [decide_eq_true hxy] at hbq
                have HBQ := Lib.hid hbq
                have HXY := Lib.hid hxy
                clear hbq hxy
                go_wp2_with fail
                go_quiet ((go_at_call 17; exact Calls.quiet_of (HBQ.out _)))
                all_goals
                  go_wp2_with fail
                  go_roundg (nW - (j + 1))
                  case measure => omega
                  case rel => exact ⟨j + 1, by omega, by go_num, fun i hi => by
                    by_cases e : i = j
                    · subst e; exact ⟨hjp, by rw [HXX.out, HYY.out]; exact HXY.out⟩
                    · exact HEQ.out i (by omega), below_drewN HBL.out _⟩
              · rw [decide_eq_false hxy] at hbq
                have HBQ := Lib.hid hbq
                clear hbq hxy
                go_wp2_with fail
                go_quiet ((go_at_call 17; exact Calls.quiet_of (HBQ.out _)))
                all_goals
                  go_wp2_with fail
                  with_reducible refine (awake13 _ (AT11.out.after (below_drewN HBL.out _)).glob).mono ?_
                  rintro e wz ⟨rfl, bz⟩
                  have BZ := Lib.hid ((AT11.out.after (below_drewN HBL.out _)).below.trans (bz.mono (AT11.out.after (below_drewN HBL.out _)).below.size))
                  clear bz
                  go_wp2_with fail
                  go_ret
                  exact ⟨rfl, BZ.out⟩
          · have hd1 : decide (np ≤ j) = true := by simpa using hjp
            go_wp2_with fail
            go_quiet (fail)
            all_goals
              go_wp2_with fail
              with_reducible refine (awake13 _ (AT11.out.after (below_drewN HBL.out _)).glob).mono ?_
              rintro e wz ⟨rfl, bz⟩
              have BZ := Lib.hid ((AT11.out.after (below_drewN HBL.out _)).below.trans (bz.mono (AT11.out.after (below_drewN HBL.out _)).below.size))
              clear bz
              go_wp2_with fail
              go_ret
              exact ⟨rfl, BZ.out⟩
        · obtain rfl : j = nW := by omega
          have hjI : ¬ ((j : Int) < (j : Int)) := by omega
          have hWP : W = P.take j := by
            have hjp : j ≤ np := by
              rcases Nat.eq_zero_or_pos j with e | e
              · omega
              · have := (HEQ.out (j - 1) (by omega)).1
                omega
            refine List.ext_getElem (by rw [HNW.out, List.length_take, ← HNP.out]; omega) (fun i h1 h2 => ?_)
            have hi : i < j := by rw [HNW.out] at h1; exact h1
            have h3 := (HEQ.out i hi).2
            have h4 : i < P.length := by rw [← HNP.out]; omega
            rw [List.getElem_take]
            simpa [List.getD, h1, h4] using h3
          have hat := AT11.out.after HBL.out
          obtain ⟨wv, hd⟩ := hat.drum
          obtain ⟨p1, p2, p3, p4, p5, p6⟩ := Has.opened (S := S1) (f := 0) (m := 40) (t := T) hat.ok HG1.out (by rw [HL1.out]; omega) (by unfold mostP; omega)
          rw [HX.out, HWU.out] at p2 p3 p6
          simp only [HNW.out] at p2 p3 p6
          have hop := sopen_any w.heap.size (w.heap.size + 1) w.heap.size wv S1 0 40 T wr hd (by rw [HL1.out]; omega) (by omega) (by rw [HW1.out]; simp) hat.glob
          rw [show ((0 : Nat) : Int) = 0 from rfl, show ((40 : Nat) : Int) = 40 from rfl] at hop
          obtain ⟨⟨er, W2, U2, S2⟩, hE⟩ : ∃ E, openR S1 0 40 T = E := ⟨_, rfl⟩
          rw [hE] at p1 p2 p3 p4 p5 p6 hop
          simp only at p1 p2 p3 p4 p5 p6
          subst p1
          obtain rfl : W = W2 := p2.symm
          obtain rfl : U = U2 := p3.symm
          rw [HL1.out] at p4
          rw [HW1.out] at p5
          have hbkA : ∀ k, InA A10 k → k < w.heap.size ∨ ∃ cs, Blk wr k 5 cs := fun k hk => by
            obtain ⟨cs, hb⟩ := HBK11.out k hk
            exact .inr ⟨cs, hb.fr (Fr.of_below HBL.out) (by have := hb.lt; omega)⟩
          have HBKA := Lib.hid hbkA
          have o11r := O11.out.below (fun k hk => (HA11.out k hk).2) HBL.out
          have ov11r := OV11.out.below (fun k hk => by omega) HBL.out
          have O11r := Lib.hid o11r
          have OV11r := Lib.hid ov11r
          have HOP := Lib.hid hop
          have HP4 := Lib.hid p4
          have HP5 := Lib.hid p5
          have HP6 := Lib.hid p6
          have HATr := Lib.hid hat
          have HWP := Lib.hid hWP
          clear hop p4 p5 p6 hat hd hE hWP T11 TP hbkA o11r ov11r
          go_wp2_with fail
          with_reducible refine HOP.out.mono ?_
          rintro e w12 ⟨hpost, hdr, k12⟩
          rcases hpost with ⟨_, q2, v12, rfl, s12, hq2, o12⟩ | ⟨h0, _⟩
          rotate_left
          focus exact absurd rfl h0
          obtain ⟨A12, c12, rfl⟩ := o12.form
          simp only [HNW.out] at s12 o12 ⊢
          have pq2 := peq37 q2
          have at12 := HATr.out.kept k12 hdr
          have o11k := O11r.out.kept2 k12 (by decide) (by decide) HBKA.out
          have ovk := OV11r.out.kept k12 (by decide) (fun k hk => hk)
          have hjnp : j ≤ np := by
            have h1 := congrArg List.length HWP.out
            rw [HNW.out, List.length_take, ← HNP.out] at h1
            omega
          have hsl := ovk.head hjnp
          obtain ⟨xs1, t1⟩ := o12.txs (fun l hl => (HWB.out l hl).1)
          obtain ⟨xs2, t2⟩ := o11k.txs
          obtain ⟨xs3, t3⟩ := ovk.txs
          have hs1 := rsame_any A12 c12 A11 c11 xs1 xs2 W W w12 t1 t2 (by rw [HNW.out]; omega) (by rw [HNW.out]; omega) (fun l hl => by have := (HWB.out l hl).2; omega) (fun l hl => by have := (HWB.out l hl).2; omega)
          rw [HNW.out, decide_eq_true rfl] at hs1
          have hs2 : ∀ m, Calls Tryd.prog 28 #[.slice A12 j c12, .slice Ap j cp] (w12.drewN m) fun e w' => e = .returned (.bool true) ∧ ∃ k, w' = (w12.drewN m).drewN k := fun m => by
            have ht3 := t3.take j
            rw [← HWP.out] at ht3
            have := rsame_any A12 c12 Ap cp xs1 (xs3.take j) W W (w12.drewN m) (t1.below (below_drewN (Below.refl _ _) m)) (ht3.below (below_drewN (Below.refl _ _) m)) (by rw [HNW.out]; omega) (by rw [HNW.out]; omega) (fun l hl => by have := (HWB.out l hl).2; omega) (fun l hl => by have := (HWB.out l hl).2; omega)
            rw [HNW.out, decide_eq_true rfl] at this
            exact this
          have hds : decide (j < sure) = false := by simpa using hsuW
          have HS1 := Lib.hid hs1
          have HS2 := Lib.hid hs2
          have AT12 := Lib.hid at12
          have S12 := Lib.hid s12
          have O12 := Lib.hid o12
          clear t1 t2 t3 hs1 hs2 at12 s12 o12 o11k ovk hdr k12 HOP O11r OV11r HBKA
          go_wp2_with fail
          with_reducible refine HS1.out.mono ?_
          rintro e w13 ⟨rfl, m13, rfl⟩
          have hsl13 := hsl (w12.drewN m13)
          clear hsl HS1
          go_wp2_with fail
          with_reducible refine (HS2.out m13).mono ?_
          rintro e w14 ⟨rfl, m14, hw14⟩
          have b14 : Below w12.heap.size w12 w14 := by rw [hw14]; exact below_drewN (below_drewN (Below.refl _ _) _) _
          have at14 := AT12.out.after b14
          have hs14 := S12.out.kept (Kept.of_below (n₀ := w.heap.size) (ts := []) b14 AT12.out.size) (by simp)
          have o14 := O12.out.below b14
          have hum := HP6.out.um
          simp only at hum
          have hlf := left_any q2 (w.heap.size + 1) _ (by simp only; omega) (by simp only; exact hum) w14 hs14
          obtain ⟨LF, hLF⟩ : ∃ LF, 40 - U = LF := ⟨_, rfl⟩
          rw [show (((⟨0, 40, T, U, j, false⟩ : SS).m : Int) - ((⟨0, 40, T, U, j, false⟩ : SS).u : Int)) = (LF : Int) by simp only; omega] at hlf
          have HLFc := Lib.hid hlf
          have AT14 := Lib.hid at14
          have S14 := Lib.hid hs14
          have O14 := Lib.hid o14
          have HLF := Lib.hid hLF
          clear hw14 b14 at14 hs14 o14 hlf hLF hsl13 HS2 AT12 S12 O12
          go_wp2_with fail
          with_reducible refine HLFc.out.mono ?_
          rintro e w15 ⟨rfl, m15, hw15⟩
          have b15 : Below w14.heap.size w14 w15 := by rw [hw15]; exact below_drewN (Below.refl _ _) _
          have at15 := AT14.out.after b15
          have hs15 := S14.out.kept (Kept.of_below (n₀ := w.heap.size) (ts := []) b15 AT14.out.size) (by simp)
          have o15 := O14.out.below b15
          have AT15 := Lib.hid at15
          have S15 := Lib.hid hs15
          have O15 := Lib.hid o15
          clear hw15 b15 at15 hs15 o15 AT14 S14 O14 HLFc
          by_cases hl2 : LF < 2
          · have hl2I : (LF : Int) < 2 := by omega
            have aw := awake13 w15 AT15.out.glob
            go_wp2_with fail
            with_reducible refine aw.mono ?_
            rintro e wz ⟨rfl, bz⟩
            have BZ := Lib.hid (AT15.out.below.trans (bz.mono AT15.out.below.size))
            clear bz aw
            go_wp2_with fail
            go_ret
            exact ⟨rfl, BZ.out⟩
          · have hl2I : (2 : Int) ≤ (LF : Int) := by omega
            have hE := (formE_le (t := T) (n := j) (b := [1, 2]) hT (by omega) (by simp)).1
            have hR2 := recS_small (t := T) (n := j) (b := [1, 2]) (by omega) (by omega) (by simp)
            have hbk := Blk.new w15 5 (bys [1, 2]).toArray
            have b16 : Below w15.heap.size w15 (w15.alloc (.cells #[.int .u8 1, .int .u8 2] 5)) := (Below.refl _ w15).alloc (Nat.le_refl _) _
            have at16 := AT15.out.after b16
            have s16 := S15.out.kept (Kept.of_below (n₀ := w.heap.size) (ts := []) b16 AT15.out.size) (by simp)
            have o16 := O15.out.below b16
            have hqB2 : w.heap.size ≤ q2 := by have := HBL.out.size; omega
            have hpt := put_has at16 s16 hqB2 HP6.out (some ⟨w15.heap.size, 0, none⟩) 2 [1, 2] (hbk.byt (by intro x hx; simp at hx; omega)) (by simp) (by simp) hE (by simp only; have := HLF.out; omega) (by have := HP5.out; simp at this; omega)
            simp only [List.length_cons, List.length_nil, Nat.zero_add, Nat.reduceAdd] at hpt
            have HPT := Lib.hid hpt
            have O16 := Lib.hid o16
            clear hpt hE hR2 hbk b16 at16 s16 o16 AT15 S15 O15
            go_wp2_with fail
            with_reducible refine HPT.out.mono ?_
            rintro e w17 ⟨rfl, S4, s17, at17, h17, l17, r17, _, k17⟩
            have hl17 : S4.waits.length ≤ 1000000000 := by
              have h5 : S2.waits.length ≤ 40 := by have := HP5.out; simpa using this
              have h6 := recS_small (t := T) (n := j) (b := [1, 2]) (by omega) (by omega) (by simp)
              omega
            have hsn := ssync_has at17 s17 hqB2 h17 hl17
            have O17 := Lib.hid (k17.ownT O16.out (by decide) (by decide))
            have HSN := Lib.hid hsn
            have HL17 := Lib.hid hl17
            have HR17 := Lib.hid r17
            clear s17 at17 h17 l17 r17 k17 hsn hl17 HPT O16
            go_wp2_with fail
            with_reducible refine HSN.out.mono ?_
            rintro e w18 ⟨rfl, s18, at18, h18, k18⟩
            have O18 := Lib.hid (k18.ownT O17.out (by decide) (by decide))
            have hst := start_at at18 none 0 [] (Byt.nil _ _) (by simp) (by simp) (by simp)
            have hS18 : (({ S4 with sure := applyAll S4.sure S4.waits, waits := [] } : DS).start []) = { S4 with sure := applyAll S4.sure S4.waits, waits := [] } := start_nil rfl h18.good
            rw [hS18, show ([] : List Int).length = 0 from rfl] at hst
            obtain ⟨S5, hS5⟩ : ∃ S5, ({ S4 with sure := applyAll S4.sure S4.waits, waits := [] } : DS) = S5 := ⟨_, rfl⟩
            rw [hS5] at hst h18
            have hw5 : S5.waits = [] := by rw [← hS5]
            have HST := Lib.hid hst
            have H18 := Lib.hid h18
            have HW5 := Lib.hid hw5
            clear s18 at18 h18 k18 hst hS18 hS5 hw5 HSN O17
            go_wp2_with fail
            with_reducible refine HST.out.mono ?_
            rintro e w19 ⟨rfl, at19, k19⟩
            have O19 := Lib.hid (k19.ownT O18.out (by decide) (by decide))
            have hsc := scan_has at19 H18.out (by rw [HW5.out]; simp)
            simp only at hsc
            rw [show ((0 : Nat) : Int) = 0 from rfl, show ((40 : Nat) : Int) = 40 from rfl] at hsc
            have HSCN := Lib.hid hsc
            clear at19 k19 hsc HST O18
            go_wp2_with fail
            with_reducible refine HSCN.out.mono ?_
            rintro e w20 ⟨v20, rfl, o20, at20, b20⟩
            obtain ⟨A20, c20, rfl⟩ := o20.form
            have hl20 : (W ++ [[1, 2]]).length = j + 1 := by rw [List.length_append, HNW.out]; rfl
            rw [hl20]
            have ox := O19.out.below b20
            have hWb2 : ∀ l ∈ W ++ [[1, 2]], (∀ x ∈ l, 0 ≤ x ∧ x ≤ 255) ∧ l.length ≤ 2560 := fun l hl => by
              rcases List.mem_append.1 hl with h | h
              · exact HWB.out l h
              · simp at h
                subst h
                exact ⟨by intro x hx; simp at hx; omega, by simp⟩
            obtain ⟨xs20, t20⟩ := o20.txs (fun l hl => (hWb2 l hl).1)
            obtain ⟨xsx, tx⟩ := ox.txs (fun l hl => (HWB.out l hl).1)
            have hnulx : A12 = none → c12 = 0 := fun e => by
              subst e
              obtain ⟨ys, hy, _⟩ := ox
              obtain ⟨_, ⟨h2, _⟩ | ⟨g, cap, cur, h2, _⟩⟩ := hy
              · simp only [Value.slice.injEq] at h2
                exact h2.2.2
              · simp at h2
            obtain ⟨A21, c21, w21, A22, c22, w22, xs22, r1, r2, t22, b22⟩ := app_two w20 (c := c12) tx hnulx (by rw [HNW.out]; omega)
            rw [HNW.out] at r1 r2
            have hsm := rsame_any A20 c20 A22 c22 xs20 xs22 (W ++ [[1, 2]]) (W ++ [[1, 2]]) w22 (t20.below b22) t22 (by rw [hl20]; omega) (by rw [hl20]; omega) (fun l hl => by have := (hWb2 l hl).2; omega) (fun l hl => by have := (hWb2 l hl).2; omega)
            rw [hl20, decide_eq_true rfl] at hsm
            have AT22 := Lib.hid (at20.after b22)
            have HSM := Lib.hid hsm
            clear o20 at20 b20 hl20 ox hWb2 t20 tx hnulx t22 b22 hsm HSCN O19
            go_wp2_with fail
            with_reducible refine HSM.out.mono ?_
            rintro e w23 ⟨rfl, m23, rfl⟩
            have at23 := AT22.out.after (below_drewN (Below.refl _ w22) m23)
            have haw := awake13 _ at23.glob
            have HAT := Lib.hid at23.below
            have HAW := Lib.hid haw
            clear at23 haw HSM AT22
            go_wp2_with fail
            with_reducible refine HAW.out.mono ?_
            rintro e w24 ⟨rfl, b24⟩
            have B24 := Lib.hid (HAT.out.trans (b24.mono HAT.out.size))
            clear b24
            go_wp2_with fail
            go_ret
            exact ⟨rfl, B24.out⟩
end

end Go.Proofs.YtohadeijmmmcdaaDoor
