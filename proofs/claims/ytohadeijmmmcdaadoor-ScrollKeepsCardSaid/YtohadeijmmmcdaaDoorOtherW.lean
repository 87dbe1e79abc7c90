/-
  ScrollOther: the walk.
-/
import Derived.Test.YtohadeijmmmcdaaDoorLawS
import Derived.Test.YtohadeijmmmcdaaDoorOpenD
namespace Go.Proofs.YtohadeijmmmcdaaDoor
open Go.RowKit
set_option maxRecDepth 100000

theorem numP_len3 {n : Nat} (h : n < 65536) : (numP n).length ≤ 3 := by
  rw [numP_len]; have := leP_len 2 n (by simpa using h); omega
theorem numP_len2 {n : Nat} (h : n < 256) : (numP n).length ≤ 2 := by
  rw [numP_len]; have := leP_len 1 n (by simpa using h); omega
theorem recS_small {t n : Nat} {b : List Int} (ht : t < 65536) (hn : n < 256) (hb : b.length ≤ 100) : recS t n b ≤ 2 := by
  unfold recS secP
  rw [fieldsP_len]
  have h1 := numP_len3 ht
  have h2 := numP_len2 hn
  have h3 := numP_len2 (n := b.length) (by omega)
  omega
theorem Has.other {S : DS} {s : SS} {b : List Int} {l : List (List Int)} (h : Has S s (b :: l)) {o : Nat} (ho : o ≠ s.t) : scanAll o (stP S s.f s.m) = ([], 0) := by
  rw [h.bytes]
  obtain ⟨h1, h2⟩ := h.fit
  obtain ⟨ht, hn, hs⟩ := formE_zero h1
  unfold scanAll
  simp only [scanP, formsP, List.append_assoc]
  rw [readP_form ht hn hs]
  simp only
  rw [if_neg (fun e => ho e.1.symm)]
/-- All of what is kept but a drum. -/
theorem txs_at {w : World} {A : Option Addr} {l : List (List Int)} (h : Txs w A l) (h0 : 0 < l.length) : ∃ g off, A = some ⟨g, off, none⟩ ∧ g < w.heap.size ∧ ∀ i (hi : i < l.length), ∃ A' c', w.cell? ⟨g, off + i, none⟩ = some (.slice A' l[i].length c') ∧ BytN w A' c' l[i] ∧ l[i].length ≤ maxLen := by
  obtain ⟨g, off, rfl, hg, _⟩ := h 0 h0
  refine ⟨g, off, rfl, hg, fun i hi => ?_⟩
  obtain ⟨g', off', e, _, r⟩ := h i hi
  cases e
  exact r

set_option maxHeartbeats 8000000 in
theorem other_law (A0 : Option Addr) (c0 : Nat) (l : List (List Int)) (a1 a2 : Int) (w : World) (hl : Txs w A0 l) (hm : l.length ≤ maxLen) (h1 : 0 ≤ a1 ∧ a1 ≤ 65535) (h2 : 0 ≤ a2 ∧ a2 ≤ 65535) (hg : Glob w) :
    Calls Tryd.prog 5 #[.slice A0 l.length c0, .int .u16 a1, .int .u16 a2] w fun e w' => e = .returned (.bool true) ∧ Below w.heap.size w w' := by
  unfold maxLen at hm
  have aw0 := awake13 w hg
  by_cases h8 : 8 < l.length
  · have hI : (8 : Int) < (l.length : Int) := by omega
    clear hl
    go_enter Tryd.func5, Tryd.ntmps5
    go_wp2_with fail
    with_reducible refine aw0.mono ?_
    rintro e w2 ⟨rfl, c2⟩
    have C2 := Lib.hid c2
    clear c2 aw0
    go_wp2_with fail
    go_ret
    exact ⟨rfl, C2.out⟩
  by_cases h1l : l.length < 1
  · have hI : ¬ ((8 : Int) < (l.length : Int)) := by omega
    have hI2 : (l.length : Int) < 1 := by omega
    clear hl
    go_enter Tryd.func5, Tryd.ntmps5
    go_wp2_with fail
    with_reducible refine aw0.mono ?_
    rintro e w2 ⟨rfl, c2⟩
    have C2 := Lib.hid c2
    clear c2 aw0
    go_wp2_with fail
    go_ret
    exact ⟨rfl, C2.out⟩
  have hI : ¬ ((8 : Int) < (l.length : Int)) := by omega
  have hI2 : ¬ ((l.length : Int) < 1) := by omega
  by_cases h12 : a1 = a2
  · have hI3 : (a1 == a2) = true := by simpa using h12
    subst h12
    clear hl
    go_enter Tryd.func5, Tryd.ntmps5
    go_wp2_with fail
    with_reducible refine aw0.mono ?_
    rintro e w2 ⟨rfl, c2⟩
    have C2 := Lib.hid c2
    clear c2 aw0
    go_wp2_with fail
    go_ret
    exact ⟨rfl, C2.out⟩
  have hI3 : (a1 == a2) = false := by simpa using h12
  obtain ⟨g, off, rfl, hgw, htx⟩ := txs_at hl (by omega)
  obtain ⟨T, rfl⟩ := Int.eq_ofNat_of_zero_le h1.1
  obtain ⟨O, rfl⟩ := Int.eq_ofNat_of_zero_le h2.1
  have hT : T ≤ 65535 := by have := h1.2; omega
  have hO : O ≤ 65535 := by have := h2.2; omega
  have hTO : O ≠ T := fun e => h12 (by rw [e])
  have hTI : (T : Int) ≤ 65535 := by omega
  have hOI : (O : Int) ≤ 65535 := by omega
  obtain ⟨N, hN⟩ : ∃ N, l.length = N := ⟨_, rfl⟩
  rw [hN] at hI hI2 hm h8 h1l ⊢
  have HN := Lib.hid hN
  have HTX := Lib.hid htx
  have HG := Lib.hid hg
  have HTO := Lib.hid hTO
  have f3 := new_drum 30 w (by omega) (by omega)
  rw [show ((30 : Nat) : Int) = 30 from rfl] at f3
  clear hl htx hg hTO h12 h1 h2 hN aw0
  go_enter Tryd.func5, Tryd.ntmps5
  go_wp2_with fail
  with_reducible refine f3.mono ?_
  rintro e w3 ⟨rfl, d3, c3⟩
  have at3 := At.new HG.out HG.out.size (Below.refl _ _) 30 d3 c3
  have n3 : (DS.new 30).sure.length = 30 := by simp [DS.new]
  have m3 : (DS.new 30).waits.length = 0 := rfl
  have f4 := blank_has at3 (DS.new_good 30) 3 20 T (by omega) (by omega) (by omega)
  rw [show ((3 : Nat) : Int) = 3 from rfl, show ((20 : Nat) : Int) = 20 from rfl] at f4
  obtain ⟨D0, hD0⟩ : ∃ D, DS.new 30 = D := ⟨_, rfl⟩
  rw [hD0] at f4 n3 m3
  clear f3 d3 at3 hD0
  have hs3 : w.heap.size ≤ w3.heap.size := c3.size
  clear c3
  go_wp2_with fail
  with_reducible refine f4.mono ?_
  rintro e w4 ⟨q, S4, rfl, s4, hq, at4, H4, l4, r4, _, _⟩
  have pq := peq37 q
  rw [m3, Nat.zero_add] at l4
  rw [n3] at r4
  have hqB : w.heap.size ≤ q := by omega
  have S4h := Lib.hid s4
  have AT4 := Lib.hid at4
  have HH4 := Lib.hid H4
  clear f4 s4 at4 H4 hq n3 m3
  go_wp2_with fail
  go_loopg [10] N (fun k t wr => ∃ (i u : Nat) (S : DS), i ≤ N ∧ k = N - i ∧ t = .int .i64 (i : Int) ∧ u ≤ 2 * i ∧ IsScroll wr q (w.heap.size + 1) ⟨3, 20, T, u, i, false⟩ ∧ At w w.heap.size (w.heap.size + 1) w.heap.size S wr ∧ Has S ⟨3, 20, T, u, i, false⟩ (l.take i) ∧ S.waits.length ≤ 20 + 2 * i ∧ S.sure.length = 30)
  case atStart => exact ⟨0, 0, S4, Nat.zero_le _, rfl, rfl, by omega, S4h.out, AT4.out, HH4.out, l4, r4⟩
  case round =>
    obtain ⟨i, u, S, hi, hk, rfl, hu, hs, hat, hH, hw, hr⟩ := hrel
    by_cases hlt : i < N
    · obtain ⟨A', c', hc, hb, hbm⟩ := HTX.out i (by rw [HN.out]; exact hlt)
      obtain ⟨b, hbe⟩ : ∃ b, l[i]'(by rw [HN.out]; exact hlt) = b := ⟨_, rfl⟩
      rw [hbe] at hc hb hbm
      unfold maxLen at hbm
      have hc' : wr.cell? ⟨g, off + i, none⟩ = some (.slice A' b.length c') := (hat.below.cell (p := ⟨g, off + i, none⟩) hgw).trans hc
      have hltI : (i : Int) < (N : Int) := by omega
      have aw := awake13 wr hat.glob
      obtain ⟨L, hL⟩ : ∃ L, b.length = L := ⟨_, rfl⟩
      rw [hL] at hc'
      by_cases hbig : 100 < L
      · have hbI : (100 : Int) < (L : Int) := by omega
        have AT := Lib.hid hat
        clear hs hat hH hb hc
        go_wp2_with fail
        with_reducible refine aw.mono ?_
        rintro e w5 ⟨rfl, c5⟩
        have C5 := Lib.hid c5
        clear c5 aw
        go_wp2_with fail
        go_ret
        exact ⟨rfl, AT.out.below.trans (C5.out.mono AT.out.below.size)⟩
      · have hbI : ¬ ((100 : Int) < (L : Int)) := by omega
        have hrs := recS_small (t := T) (n := i) (b := b) (by omega) (by omega) (by omega)
        have he := formE_small (t := T) (n := i) (b := b) (by omega) (by omega) (by omega)
        have hp := put_has hat hs hqB hH A' c' b (hb.byt.belowB hat.below (fun a ha h0 => by
          obtain ⟨g9, o9, e9, hg9, _⟩ := hb.byt.cell h0
          rw [ha] at e9
          cases e9
          exact hg9)) hb.nil_ (by omega) he (by simp only; omega) (by omega)
        simp only at hp
        rw [hL] at hp
        obtain ⟨K, hK⟩ : ∃ K, recS T i b = K := ⟨_, rfl⟩
        rw [hK] at hp hrs
        have htake : l.take i ++ [b] = l.take (i + 1) := by
          rw [List.take_succ_eq_append_getElem (by rw [HN.out]; exact hlt), hbe]
        rw [htake] at hp
        clear hs hat hH hb hc he hK htake aw hbe
        go_wp2_with fail
        with_reducible refine hp.mono ?_
        rintro e w5 ⟨rfl, S5, s5, at5, H5, l5, r5, _, _⟩
        have S5h := Lib.hid s5
        have AT5 := Lib.hid at5
        have HH5 := Lib.hid H5
        have l5' : S5.waits.length ≤ 20 + 2 * (i + 1) := by omega
        have r5' : S5.sure.length = 30 := by rw [r5]; exact hr
        clear hp s5 at5 H5 l5 r5
        go_wp2_with fail
        go_roundg (N - (i + 1))
        case measure => omega
        case rel => exact ⟨i + 1, u + K, S5, by omega, rfl, by go_num, by omega, S5h.out, AT5.out, HH5.out, l5', r5'⟩
    · obtain rfl : i = N := by omega
      rw [List.take_of_length_le (by rw [HN.out]; omega)] at hH
      have f5 := scan_has hat hH (by omega)
      simp only at f5
      rw [show ((3 : Nat) : Int) = 3 from rfl, show ((20 : Nat) : Int) = 20 from rfl] at f5
      have hltI : ¬ ((i : Int) < (i : Int)) := by omega
      have hH' := hH
      obtain ⟨b, l', rfl⟩ : ∃ b l', l = b :: l' := by
        cases l with
        | nil => have := HN.out; simp at this; omega
        | cons b l' => exact ⟨b, l', rfl⟩
      have hoth := hH'.other (o := O) HTO.out
      simp only at hoth
      have hgood := hH.good
      have hfit := hH.fit.1
      simp only at hfit
      have hsz := hH.u
      simp only [sizeP] at hsz
      have hrb : recS T 0 b ≤ 20 := by omega
      have hbl : b.length ≤ 100000000 := by
        have h9 := (formE_zero hfit).2.2
        unfold recS secP at h9
        rw [fieldsP_len] at h9
        omega
      have HFIT := Lib.hid hfit
      clear hfit hsz
      clear hH' hH hs
      go_wp2_with fail
      with_reducible refine f5.mono ?_
      rintro e w5 ⟨v5, rfl, o5, at5, c5⟩
      obtain ⟨A5, d5, rfl⟩ := o5.form
      rw [HN.out]
      have f6 := scan_gen at5 hgood 3 20 O (by omega) (by omega) (by omega)
      rw [hoth] at f6
      simp only at f6
      rw [show ((3 : Nat) : Int) = 3 from rfl, show ((20 : Nat) : Int) = 20 from rfl, show ((0 : Nat) : Int) = 0 from rfl] at f6
      clear f5 o5 c5 hat at5 hoth
      go_wp2_with fail
      with_reducible refine f6.mono ?_
      rintro e w6 ⟨v6, rfl, o6, at6, c6⟩
      obtain ⟨A6, d6, rfl⟩ := o6.form
      rw [show ([] : List (List Int)).length = 0 from rfl]
      have f7 := blank_has at6 hgood 3 20 T (by omega) (by omega) (by omega)
      rw [show ((3 : Nat) : Int) = 3 from rfl, show ((20 : Nat) : Int) = 20 from rfl] at f7
      clear f6 o6 c6
      go_wp2_with fail
      with_reducible refine f7.mono ?_
      rintro e w7 ⟨q7, S7, rfl, s7, hq7, at7, H7, l7, r7, _, _⟩
      have pq7 := peq37 q7
      have hlf := left_any q7 (w.heap.size + 1) _ (by simp only; omega) (by simp only; omega) w7 s7
      simp only at hlf
      have hs6 := at6.below.size
      have S7h := Lib.hid s7
      have AT7 := Lib.hid at7
      have H7h := Lib.hid H7
      clear f7 at6 s7 at7 H7
      go_wp2_with fail
      with_reducible refine hlf.mono ?_
      rintro e w8 ⟨rfl, k8, hw8⟩
      have at8 : At w w.heap.size (w.heap.size + 1) w.heap.size S7 w8 := by rw [hw8]; exact AT7.out.after (below_drewN (Below.refl _ _) _)
      have s8 : IsScroll w8 q7 (w.heap.size + 1) ⟨3, 20, T, 0, 0, false⟩ := by rw [hw8]; exact S7h.out.drewN _
      have f9 := scan_has at8 H7h.out (by omega)
      simp only at f9
      rw [show ((3 : Nat) : Int) = 3 from rfl, show ((20 : Nat) : Int) = 20 from rfl, show ((0 : Nat) : Int) = 0 from rfl] at f9
      have S8h := Lib.hid s8
      clear hlf hw8 at8 s8
      go_wp2_with fail
      with_reducible refine f9.mono ?_
      rintro e w9 ⟨v9, rfl, o9, at9, c9⟩
      obtain ⟨A9, d9, rfl⟩ := o9.form
      rw [show ([] : List (List Int)).length = 0 from rfl]
      obtain ⟨A', c', hc, hb, hbm⟩ := HTX.out 0 (by simp)
      simp only [List.getElem_cons_zero, Nat.add_zero] at hc hb hbm
      have hc9 : w9.cell? ⟨g, off, none⟩ = some (.slice A' b.length c') := (at9.below.cell (p := ⟨g, off, none⟩) hgw).trans hc
      have s9 : IsScroll w9 q7 (w.heap.size + 1) ⟨3, 20, T, 0, 0, false⟩ := S8h.out.fr (Fr.of_below c9) (by have := S8h.out.lt; omega)
      have hb9 := hb.byt.belowB at9.below (fun a ha h0 => by
        obtain ⟨g9, o9, e9, hg9, _⟩ := hb.byt.cell h0
        rw [ha] at e9
        cases e9
        exact hg9)
      have hp := put_has at9 s9 (by omega) H7h.out A' c' b hb9 hb.nil_ hbl HFIT.out (by simp only; omega) (by omega)
      simp only at hp
      obtain ⟨L, hL⟩ : ∃ L, b.length = L := ⟨_, rfl⟩
      rw [hL] at hp hc9
      have hi0 : 0 < i := by omega
      have hi0I : (0 : Int) < (i : Int) := by omega
      clear f9 o9 c9 s9 hb9 hc hb
      go_wp2_with fail
      with_reducible refine hp.mono ?_
      rintro e w10 ⟨rfl, S10, s10, at10, H10, _, _, _, _⟩
      have aw := awake13 w10 at10.glob
      have AT10 := Lib.hid at10
      clear hp s10 at10 H10
      go_wp2_with fail
      with_reducible refine aw.mono ?_
      rintro e w11 ⟨rfl, c11⟩
      have C11 := Lib.hid c11
      clear c11 aw
      go_wp2_with fail
      go_ret
      exact ⟨rfl, AT10.out.below.trans (C11.out.mono AT10.out.below.size)⟩

end Go.Proofs.YtohadeijmmmcdaaDoor
