/-
  ScrollOther: the walk.
  ScrollGone: the walk.
-/
import Derived.Test.YtohadeijmmmcdaaDoorLawS
import Derived.Test.YtohadeijmmmcdaaDoorChestG

section
namespace Go.Proofs.YtohadeijmmmcdaaDoor
open Go.RowKit
set_option maxRecDepth 100000

theorem numP_len3 {n : Nat} (h : n < 65536) : (numP n).length ≤ 3 := by
  rw [numP_len]; have := leP_len 2 n (by simpa using h); omega
theorem numP_len2 {n : Nat} (h : n < 256) : (numP n).length ≤ 2 := by
  rw [numP_len]; have := leP_len 1 n (by simpa using h); omega
theorem recS_small {t n : Nat} {b : List Int} (ht : t < 65536) (hn : n < 256) (hb : b.length ≤ 100) : recS t n b ≤ 2 := by
  unfold recS secP
  rw [fieldsP_len]
  have h1 := numP_len3 ht
  have h2 := numP_len2 hn
  have h3 := numP_len2 (n := b.length) (by omega)
  omega
theorem Has.other {S : DS} {s : SS} {b : List Int} {l : List (List Int)} (h : Has S s (b :: l)) {o : Nat} (ho : o ≠ s.t) : scanAll o (stP S s.f s.m) = ([], 0) := by
  rw [h.bytes]
  obtain ⟨h1, h2⟩ := h.fit
  obtain ⟨ht, hn, hs⟩ := formE_zero h1
  unfold scanAll
  simp only [scanP, formsP, List.append_assoc]
  rw [readP_form ht hn hs]
  simp only
  rw [if_neg (fun e => ho e.1.symm)]
/-- All of what is kept but a drum. -/
theorem txs_at {w : World} {A : Option Addr} {l : List (List Int)} (h : Txs w A l) (h0 : 0 < l.length) : ∃ g off, A = some ⟨g, off, none⟩ ∧ g < w.heap.size ∧ ∀ i (hi : i < l.length), ∃ A' c', w.cell? ⟨g, off + i, none⟩ = some (.slice A' l[i].length c') ∧ BytN w A' c' l[i] ∧ l[i].length ≤ maxLen := by
  obtain ⟨g, off, rfl, hg, _⟩ := h 0 h0
  refine ⟨g, off, rfl, hg, fun i hi => ?_⟩
  obtain ⟨g', off', e, _, r⟩ := h i hi
  cases e
  exact r

set_option maxHeartbeats 8000000 in
theorem other_law (A0 : Option Addr) (c0 : Nat) (l : List (List Int)) (a1 a2 : Int) (w : World) (hl : Txs w A0 l) (hm : l.length ≤ maxLen) (h1 : 0 ≤ a1 ∧ a1 ≤ 65535) (h2 : 0 ≤ a2 ∧ a2 ≤ 65535) (hg : Glob w) :
    Calls Tryd.prog 5 #[.slice A0 l.length c0, .int .u16 a1, .int .u16 a2] w fun e w' => e = .returned (.bool true) ∧ Below w.heap.size w w' := by
  unfold maxLen at hm
  have aw0 := awake13 w hg
  by_cases h8 : 8 < l.length
  · have hI : (8 : Int) < (l.length : Int) := by omega
    clear hl
    go_enter Tryd.func5, Tryd.ntmps5
    go_wp2_with fail
    with_reducible refine aw0.mono ?_
    rintro e w2 ⟨rfl, c2⟩
    have C2 := Lib.hid c2
    clear c2 aw0
    go_wp2_with fail
    go_ret
    exact ⟨rfl, C2.out⟩
  by_cases h1l : l.length < 1
  · have hI : ¬ ((8 : Int) < (l.length : Int)) := by omega
    have hI2 : (l.length : Int) < 1 := by omega
    clear hl
    go_enter Tryd.func5, Tryd.ntmps5
    go_wp2_with fail
    with_reducible refine aw0.mono ?_
    rintro e w2 ⟨rfl, c2⟩
    have C2 := Lib.hid c2
    clear c2 aw0
    go_wp2_with fail
    go_ret
    exact ⟨rfl, C2.out⟩
  have hI : ¬ ((8 : Int) < (l.length : Int)) := by omega
  have hI2 : ¬ ((l.length : Int) < 1) := by omega
  by_cases h12 : a1 = a2
  · have hI3 : (a1 == a2) = true := by simpa using h12
    subst h12
    clear hl
    go_enter Tryd.func5, Tryd.ntmps5
    go_wp2_with fail
    with_reducible refine aw0.mono ?_
    rintro e w2 ⟨rfl, c2⟩
    have C2 := Lib.hid c2
    clear c2 aw0
    go_wp2_with fail
    go_ret
    exact ⟨rfl, C2.out⟩
  have hI3 : (a1 == a2) = false := by simpa using h12
  obtain ⟨g, off, rfl, hgw, htx⟩ := txs_at hl (by omega)
  obtain ⟨T, rfl⟩ := Int.eq_ofNat_of_zero_le h1.1
  obtain ⟨O, rfl⟩ := Int.eq_ofNat_of_zero_le h2.1
  have hT : T ≤ 65535 := by have := h1.2; omega
  have hO : O ≤ 65535 := by have := h2.2; omega
  have hTO : O ≠ T := fun e => h12 (by rw [e])
  have hTI : (T : Int) ≤ 65535 := by omega
  have hOI : (O : Int) ≤ 65535 := by omega
  obtain ⟨N, hN⟩ : ∃ N, l.length = N := ⟨_, rfl⟩
  rw [hN] at hI hI2 hm h8 h1l ⊢
  have HN := Lib.hid hN
  have HTX := Lib.hid htx
  have HG := Lib.hid hg
  have HTO := Lib.hid hTO
  have f3 := new_drum 30 w (by omega) (by omega)
  rw [show ((30 : Nat) : Int) = 30 from rfl] at f3
  clear hl htx hg hTO h12 h1 h2 hN aw0
  go_enter Tryd.func5, Tryd.ntmps5
  go_wp2_with fail
  with_reducible refine f3.mono ?_
  rintro e w3 ⟨rfl, d3, c3⟩
  have at3 := At.new HG.out HG.out.size (Below.refl _ _) 30 d3 c3
  have n3 : (DS.new 30).sure.length = 30 := by simp [DS.new]
  have m3 : (DS.new 30).waits.length = 0 := rfl
  have f4 := blank_has at3 (DS.new_good 30) 3 20 T (by omega) (by omega) (by omega)
  rw [show ((3 : Nat) : Int) = 3 from rfl, show ((20 : Nat) : Int) = 20 from rfl] at f4
  obtain ⟨D0, hD0⟩ : ∃ D, DS.new 30 = D := ⟨_, rfl⟩
  rw [hD0] at f4 n3 m3
  clear f3 d3 at3 hD0
  have hs3 : w.heap.size ≤ w3.heap.size := c3.size
  clear c3
  go_wp2_with fail
  with_reducible refine f4.mono ?_
  rintro e w4 ⟨q, S4, rfl, s4, hq, at4, H4, l4, r4, _, _⟩
  have pq := peq37 q
  rw [m3, Nat.zero_add] at l4
  rw [n3] at r4
  have hqB : w.heap.size ≤ q := by omega
  have S4h := Lib.hid s4
  have AT4 := Lib.hid at4
  have HH4 := Lib.hid H4
  clear f4 s4 at4 H4 hq n3 m3
  go_wp2_with fail
  go_loopg [10] N (fun k t wr => ∃ (i u : Nat) (S : DS), i ≤ N ∧ k = N - i ∧ t = .int .i64 (i : Int) ∧ u ≤ 2 * i ∧ IsScroll wr q (w.heap.size + 1) ⟨3, 20, T, u, i, false⟩ ∧ At w w.heap.size (w.heap.size + 1) w.heap.size S wr ∧ Has S ⟨3, 20, T, u, i, false⟩ (l.take i) ∧ S.waits.length ≤ 20 + 2 * i ∧ S.sure.length = 30)
  case atStart => exact ⟨0, 0, S4, Nat.zero_le _, rfl, rfl, by omega, S4h.out, AT4.out, HH4.out, l4, r4⟩
  case round =>
    obtain ⟨i, u, S, hi, hk, rfl, hu, hs, hat, hH, hw, hr⟩ := hrel
    by_cases hlt : i < N
    · obtain ⟨A', c', hc, hb, hbm⟩ := HTX.out i (by rw [HN.out]; exact hlt)
      obtain ⟨b, hbe⟩ : ∃ b, l[i]'(by rw [HN.out]; exact hlt) = b := ⟨_, rfl⟩
      rw [hbe] at hc hb hbm
      unfold maxLen at hbm
      have hc' : wr.cell? ⟨g, off + i, none⟩ = some (.slice A' b.length c') := (hat.below.cell (p := ⟨g, off + i, none⟩) hgw).trans hc
      have hltI : (i : Int) < (N : Int) := by omega
      have aw := awake13 wr hat.glob
      obtain ⟨L, hL⟩ : ∃ L, b.length = L := ⟨_, rfl⟩
      rw [hL] at hc'
      by_cases hbig : 100 < L
      · have hbI : (100 : Int) < (L : Int) := by omega
        have AT := Lib.hid hat
        clear hs hat hH hb hc
        go_wp2_with fail
        with_reducible refine aw.mono ?_
        rintro e w5 ⟨rfl, c5⟩
        have C5 := Lib.hid c5
        clear c5 aw
        go_wp2_with fail
        go_ret
        exact ⟨rfl, AT.out.below.trans (C5.out.mono AT.out.below.size)⟩
      · have hbI : ¬ ((100 : Int) < (L : Int)) := by omega
        have hrs := recS_small (t := T) (n := i) (b := b) (by omega) (by omega) (by omega)
        have he := formE_small (t := T) (n := i) (b := b) (by omega) (by omega) (by omega)
        have hp := put_has hat hs hqB hH A' c' b (hb.byt.belowB hat.below (fun a ha h0 => by
          obtain ⟨g9, o9, e9, hg9, _⟩ := hb.byt.cell h0
          rw [ha] at e9
          cases e9
          exact hg9)) hb.nil_ (by omega) he (by simp only; omega) (by omega)
        simp only at hp
        rw [hL] at hp
        obtain ⟨K, hK⟩ : ∃ K, recS T i b = K := ⟨_, rfl⟩
        rw [hK] at hp hrs
        have htake : l.take i ++ [b] = l.take (i + 1) := by
          rw [List.take_succ_eq_append_getElem (by rw [HN.out]; exact hlt), hbe]
        rw [htake] at hp
        clear hs hat hH hb hc he hK htake aw hbe
        go_wp2_with fail
        with_reducible refine hp.mono ?_
        rintro e w5 ⟨rfl, S5, s5, at5, H5, l5, r5, _, _⟩
        have S5h := Lib.hid s5
        have AT5 := Lib.hid at5
        have HH5 := Lib.hid H5
        have l5' : S5.waits.length ≤ 20 + 2 * (i + 1) := by omega
        have r5' : S5.sure.length = 30 := by rw [r5]; exact hr
        clear hp s5 at5 H5 l5 r5
        go_wp2_with fail
        go_roundg (N - (i + 1))
        case measure => omega
        case rel => exact ⟨i + 1, u + K, S5, by omega, rfl, by go_num, by omega, S5h.out, AT5.out, HH5.out, l5', r5'⟩
    · obtain rfl : i = N := by omega
      rw [List.take_of_length_le (by rw [HN.out]; omega)] at hH
      have f5 := scan_has hat hH (by omega)
      simp only at f5
      rw [show ((3 : Nat) : Int) = 3 from rfl, show ((20 : Nat) : Int) = 20 from rfl] at f5
      have hltI : ¬ ((i : Int) < (i : Int)) := by omega
      have hH' := hH
      obtain ⟨b, l', rfl⟩ : ∃ b l', l = b :: l' := by
        cases l with
        | nil => have := HN.out; simp at this; omega
        | cons b l' => exact ⟨b, l', rfl⟩
      have hoth := hH'.other (o := O) HTO.out
      simp only at hoth
      have hgood := hH.good
      have hfit := hH.fit.1
      simp only at hfit
      have hsz := hH.u
      simp only [sizeP] at hsz
      have hrb : recS T 0 b ≤ 20 := by omega
      have hbl : b.length ≤ 100000000 := by
        have h9 := (formE_zero hfit).2.2
        unfold recS secP at h9
        rw [fieldsP_len] at h9
        omega
      have HFIT := Lib.hid hfit
      clear hfit hsz
      clear hH' hH hs
      go_wp2_with fail
      with_reducible refine f5.mono ?_
      rintro e w5 ⟨v5, rfl, o5, at5, c5⟩
      obtain ⟨A5, d5, rfl⟩ := o5.form
      rw [HN.out]
      have f6 := scan_gen at5 hgood 3 20 O (by omega) (by omega) (by omega)
      rw [hoth] at f6
      simp only at f6
      rw [show ((3 : Nat) : Int) = 3 from rfl, show ((20 : Nat) : Int) = 20 from rfl, show ((0 : Nat) : Int) = 0 from rfl] at f6
      clear f5 o5 c5 hat at5 hoth
      go_wp2_with fail
      with_reducible refine f6.mono ?_
      rintro e w6 ⟨v6, rfl, o6, at6, c6⟩
      obtain ⟨A6, d6, rfl⟩ := o6.form
      rw [show ([] : List (List Int)).length = 0 from rfl]
      have f7 := blank_has at6 hgood 3 20 T (by omega) (by omega) (by omega)
      rw [show ((3 : Nat) : Int) = 3 from rfl, show ((20 : Nat) : Int) = 20 from rfl] at f7
      clear f6 o6 c6
      go_wp2_with fail
      with_reducible refine f7.mono ?_
      rintro e w7 ⟨q7, S7, rfl, s7, hq7, at7, H7, l7, r7, _, _⟩
      have pq7 := peq37 q7
      have hlf := left_any q7 (w.heap.size + 1) _ (by simp only; omega) (by simp only; omega) w7 s7
      simp only at hlf
      have hs6 := at6.below.size
      have S7h := Lib.hid s7
      have AT7 := Lib.hid at7
      have H7h := Lib.hid H7
      clear f7 at6 s7 at7 H7
      go_wp2_with fail
      with_reducible refine hlf.mono ?_
      rintro e w8 ⟨rfl, k8, hw8⟩
      have at8 : At w w.heap.size (w.heap.size + 1) w.heap.size S7 w8 := by rw [hw8]; exact AT7.out.after (below_drewN (Below.refl _ _) _)
      have s8 : IsScroll w8 q7 (w.heap.size + 1) ⟨3, 20, T, 0, 0, false⟩ := by rw [hw8]; exact S7h.out.drewN _
      have f9 := scan_has at8 H7h.out (by omega)
      simp only at f9
      rw [show ((3 : Nat) : Int) = 3 from rfl, show ((20 : Nat) : Int) = 20 from rfl, show ((0 : Nat) : Int) = 0 from rfl] at f9
      have S8h := Lib.hid s8
      clear hlf hw8 at8 s8
      go_wp2_with fail
      with_reducible refine f9.mono ?_
      rintro e w9 ⟨v9, rfl, o9, at9, c9⟩
      obtain ⟨A9, d9, rfl⟩ := o9.form
      rw [show ([] : List (List Int)).length = 0 from rfl]
      obtain ⟨A', c', hc, hb, hbm⟩ := HTX.out 0 (by simp)
      simp only [List.getElem_cons_zero, Nat.add_zero] at hc hb hbm
      have hc9 : w9.cell? ⟨g, off, none⟩ = some (.slice A' b.length c') := (at9.below.cell (p := ⟨g, off, none⟩) hgw).trans hc
      have s9 : IsScroll w9 q7 (w.heap.size + 1) ⟨3, 20, T, 0, 0, false⟩ := S8h.out.fr (Fr.of_below c9) (by have := S8h.out.lt; omega)
      have hb9 := hb.byt.belowB at9.below (fun a ha h0 => by
        obtain ⟨g9, o9, e9, hg9, _⟩ := hb.byt.cell h0
        rw [ha] at e9
        cases e9
        exact hg9)
      have hp := put_has at9 s9 (by omega) H7h.out A' c' b hb9 hb.nil_ hbl HFIT.out (by simp only; omega) (by omega)
      simp only at hp
      obtain ⟨L, hL⟩ : ∃ L, b.length = L := ⟨_, rfl⟩
      rw [hL] at hp hc9
      have hi0 : 0 < i := by omega
      have hi0I : (0 : Int) < (i : Int) := by omega
      clear f9 o9 c9 s9 hb9 hc hb
      go_wp2_with fail
      with_reducible refine hp.mono ?_
      rintro e w10 ⟨rfl, S10, s10, at10, H10, _, _, _, _⟩
      have aw := awake13 w10 at10.glob
      have AT10 := Lib.hid at10
      clear hp s10 at10 H10
      go_wp2_with fail
      with_reducible refine aw.mono ?_
      rintro e w11 ⟨rfl, c11⟩
      have C11 := Lib.hid c11
      clear c11 aw
      go_wp2_with fail
      go_ret
      exact ⟨rfl, AT10.out.below.trans (C11.out.mono AT10.out.below.size)⟩

end Go.Proofs.YtohadeijmmmcdaaDoor
end

section
namespace Go.Proofs.YtohadeijmmmcdaaDoor
open Go.RowKit
set_option maxRecDepth 100000

theorem recS_one {a : Int} {t n : Nat} (ht : t < 256) (hn : n < 256) : recS t n [a] = 1 := by
  unfold recS secP
  rw [fieldsP_len]
  have h1 := numP_len2 ht
  have h2 := numP_len2 hn
  have h3 : (numP [a].length).length ≤ 2 := numP_len2 (by simp)
  simp only [List.length_cons, List.length_nil] at h3 ⊢
  omega

/-- A record of one sector that is put while the fuse burns down. -/
theorem putR_fuse1 {s : SS} {S : DS} {b : List Int} (hg : s.gone = false) (hoff : S.off = false) (hf : S.fuse = 1) (he : formE s.t s.n b = 0) (hk : recS s.t s.n b = 1) (hm : s.u + 1 ≤ s.m) (hr : s.f + s.m ≤ S.sure.length) :
    putR s S b = (20, { s with gone := true }, { S with fuse := 0, off := true }) := by
  have hF : ((formP s.t s.n b).drop (64 * 0)).take 64 = formP s.t s.n b := by
    have : (formP s.t s.n b).length = 64 := by rw [formP_len]; unfold recS at hk; rw [hk]
    simp [List.take_of_length_le (Nat.le_of_eq this)]
  have hl : (formP s.t s.n b).length = 64 := by rw [formP_len]; unfold recS at hk; rw [hk]
  have hw : S.write ((s.f + s.u + 0 : Nat) : Int) (formP s.t s.n b) = (20, { S with fuse := 0, off := true }) := by
    unfold DS.write
    rw [if_neg (by simp [hoff]), if_neg (by omega), if_neg (by omega), if_pos hf]
  have hp : putGo (formP s.t s.n b) (s.f + s.u) 1 0 S = (20, { S with fuse := 0, off := true }) := by
    rw [putGo_succ, hF, hw]
    rfl
  unfold putR
  rw [if_neg (by rw [hg]; simp), if_neg (by rw [he]; simp), hk, if_neg (by omega), hp]
  rfl
theorem putR_fuse2 {s : SS} {S : DS} {b : List Int} (hg : s.gone = false) (hoff : S.off = false) (hf : S.fuse = 2) (he : formE s.t s.n b = 0) (hk : recS s.t s.n b = 1) (hm : s.u + 1 ≤ s.m) (hr : s.f + s.m ≤ S.sure.length) :
    putR s S b = (0, { s with u := s.u + 1, n := s.n + 1 }, { S with fuse := 1, waits := S.waits ++ [(s.f + s.u, formP s.t s.n b)] }) := by
  have hl : (formP s.t s.n b).length = 64 := by rw [formP_len]; unfold recS at hk; rw [hk]
  have hF : ((formP s.t s.n b).drop (64 * 0)).take 64 = formP s.t s.n b := by
    simp [List.take_of_length_le (Nat.le_of_eq hl)]
  have hw : S.write ((s.f + s.u + 0 : Nat) : Int) (formP s.t s.n b) = (0, { S with fuse := 1, waits := S.waits ++ [(s.f + s.u, formP s.t s.n b)] }) := by
    unfold DS.write
    rw [if_neg (by simp [hoff]), if_neg (by omega), if_neg (by omega), if_neg (by omega)]
    simp [hf, dec]
    omega
  have hp : putGo (formP s.t s.n b) (s.f + s.u) 1 0 S = (0, { S with fuse := 1, waits := S.waits ++ [(s.f + s.u, formP s.t s.n b)] }) := by
    rw [putGo_succ, hF, hw]
    simp only [if_true]
    rw [putGo_zero]
  unfold putR
  rw [if_neg (by rw [hg]; simp), if_neg (by rw [he]; simp), hk, if_neg (by omega), hp]
  rfl
theorem syncR_fuse1 {s : SS} {S : DS} (hg : s.gone = false) (hoff : S.off = false) (hf : S.fuse = 1) : syncR s S = (20, { s with gone := true }, { S with fuse := 0, off := true }) := by
  unfold syncR
  rw [if_neg (by rw [hg]; simp)]
  have : S.sync = (20, { S with fuse := 0, off := true }) := by
    unfold DS.sync
    rw [if_neg (by simp [hoff]), if_pos hf]
  rw [this]
  rfl

/-- One byte laid in a block of its own. -/
theorem one_byte (W : World) {x : Int} (hx : 0 ≤ x ∧ x ≤ 255) : Byt (W.alloc (.cells #[.int .u8 x] 5)) (some ⟨W.heap.size, 0, none⟩) [x] ∧ Below W.heap.size W (W.alloc (.cells #[.int .u8 x] 5)) :=
  ⟨(Blk.new W 5 (bys [x]).toArray).byt (by intro y hy; simp at hy; subst hy; exact hx), (Below.refl _ W).alloc (Nat.le_refl _) _⟩

theorem OwnT.at_ {B : Nat} {w : World} {v : Value} {L : List (List Int)} (h : OwnT B w v L) {i : Nat} (hi : i < L.length) : ∃ g cap x, v = .slice (some ⟨g, 0, none⟩) L.length cap ∧ B ≤ g ∧ g < w.heap.size ∧ w.cell? ⟨g, i, none⟩ = some x ∧ Own8 B w x L[i] := by
  obtain ⟨xs, h1, h2, h3⟩ := h
  obtain ⟨g, cap, e, hb, hg, hc⟩ := own_cells h1 (by omega)
  have := hc i xs[i] (by simp [show i < xs.length by omega])
  rw [Nat.zero_add] at this
  exact ⟨g, cap, _, e, hb, hg, this, h3 i (by omega) hi⟩

set_option maxHeartbeats 8000000 in
theorem gone_law (a b n : Int) (w : World) (ha : 0 ≤ a ∧ a ≤ 255) (hb : 0 ≤ b ∧ b ≤ 255) (hn : 0 ≤ n ∧ n ≤ 255) (hg : Glob w) :
    Calls Tryd.prog 7 #[.int .u8 a, .int .u8 b, .int .u8 n] w fun e w' => e = .returned (.bool true) ∧ Below w.heap.size w w' := by
  have f3 := new_drum 10 w (by omega) (by omega)
  rw [show ((10 : Nat) : Int) = 10 from rfl] at f3
  have hn0 := hn.1
  have hn1 := hn.2
  have HA := Lib.hid ha
  have HB := Lib.hid hb
  have HG := Lib.hid hg
  clear ha hb hn hg
  go_enter Tryd.func7, Tryd.ntmps7
  go_wp2_with fail
  with_reducible refine f3.mono ?_
  rintro e w3 ⟨rfl, d3, c3⟩
  have at3 := At.new HG.out HG.out.size (Below.refl _ _) 10 d3 c3
  have n3 : (DS.new 10).sure.length = 10 := by simp [DS.new]
  have m3 : (DS.new 10).waits.length = 0 := rfl
  have f4 := blank_has at3 (DS.new_good 10) 0 10 1 (by omega) (by omega) (by omega)
  rw [show ((0 : Nat) : Int) = 0 from rfl, show ((10 : Nat) : Int) = 10 from rfl, show ((1 : Nat) : Int) = 1 from rfl] at f4
  obtain ⟨D0, hD0⟩ : ∃ D, DS.new 10 = D := ⟨_, rfl⟩
  rw [hD0] at f4 n3 m3
  clear f3 d3 at3 hD0
  have hs3 : w.heap.size ≤ w3.heap.size := c3.size
  clear c3
  go_wp2_with fail
  with_reducible refine f4.mono ?_
  rintro e w4 ⟨q, S4, rfl, s4, hq, at4, H4, l4, r4, _, _⟩
  have pq := peq37 q
  rw [m3, Nat.zero_add] at l4
  rw [n3] at r4
  have hqB : w.heap.size ≤ q := by omega
  obtain ⟨y5, b5⟩ := one_byte w4 HA.out
  have at5 := at4.after b5
  have s5 : IsScroll (w4.alloc (.cells #[.int .u8 a] 5)) q (w.heap.size + 1) ⟨0, 10, 1, 0, 0, false⟩ := s4.alloc _
  have hrs := recS_one (a := a) (t := 1) (n := 0) (by omega) (by omega)
  have f5 := put_has at5 s5 hqB H4 (some ⟨w4.heap.size, 0, none⟩) 1 [a] y5 (by simp) (by simp) (formE_small (t := 1) (n := 0) (by omega) (by omega) (by simp)) (by simp only; rw [hrs]; omega) (by omega)
  simp only [hrs] at f5
  rw [show ([a] : List Int).length = 1 from rfl] at f5
  clear f4 s4 at4 H4 hq n3 m3 y5 b5 at5 s5
  go_wp2_with fail
  with_reducible refine f5.mono ?_
  rintro e w5 ⟨rfl, S5, s5, at5, H5, l5, r5, _, _⟩
  have f6 := ssync_has at5 s5 hqB H5 (by omega)
  clear f5 s5 at5 H5
  go_wp2_with fail
  with_reducible refine f6.mono ?_
  rintro e w6 ⟨rfl, s6, at6, H6, _⟩
  obtain ⟨S6, hS6⟩ : ∃ S, ({ S5 with sure := applyAll S5.sure S5.waits, waits := [] } : DS) = S := ⟨_, rfl⟩
  have hw6 : S6.waits = [] := by rw [← hS6]
  rw [hS6] at at6 H6
  have hr6 : S6.sure.length = 10 := by rw [← hS6]; simp only; rw [applyAll_len, r5, r4]
  clear f6 hS6
  simp only [List.nil_append, Nat.zero_add] at s6 H6
  have hoff6 := H6.good.1
  have hfu6 := H6.good.2
  have hSS6 : ({ sure := S6.sure, waits := [], fuse := 0, off := false } : DS) = S6 := by
    obtain ⟨a1, a2, a3, a4⟩ := S6
    simp only at hw6 hoff6 hfu6 ⊢
    rw [hw6, hoff6, hfu6]
  have hpar : n % 2 = 1 ∨ n % 2 = 0 := by omega
  have S6h := Lib.hid s6
  have A6h := Lib.hid at6
  have H6h := Lib.hid H6
  have HW6 := Lib.hid hw6
  have HSS := Lib.hid hSS6
  have HO6 := Lib.hid hoff6
  have HF6 := Lib.hid hfu6
  clear s6 at6 H6 hw6 hSS6 hoff6 hfu6 hrs
  rcases hpar with hpar | hpar
  focus
    have f7 := fuse_at A6h.out 2 (by omega)
    rw [show max (2 : Int) 0 = 2 from rfl] at f7
    go_wp2_with fail
    with_reducible refine f7.mono ?_
    rintro e w7 ⟨rfl, at7, k7⟩
    have s7 := S6h.out.kept k7 (by decide)
    obtain ⟨y8, b8⟩ := one_byte w7 HB.out
    have hE : putR ⟨0, 10, 1, 1, 1, false⟩ { S6 with fuse := 2 } [b] = (0, ⟨0, 10, 1, 2, 2, false⟩, { S6 with fuse := 1, waits := S6.waits ++ [(0 + 1, formP 1 1 [b])] }) :=
      putR_fuse2 rfl HO6.out rfl (formE_small (t := 1) (n := 1) (by omega) (by omega) (by simp)) (recS_one (t := 1) (n := 1) (by omega) (by omega)) (by simp) (by simp only; omega)
    have f8 := put_at (at7.after b8) (s7.alloc _) hqB (some ⟨w7.heap.size, 0, none⟩) 1 (by simp) [b] y8 (by simp) (by simp only; omega) (by simp) (by simp only; rw [HW6.out]; simp) (by simp)
    rw [hE] at f8
    rw [show ([b] : List Int).length = 1 from rfl] at f8
    clear f7 at7 k7 s7 y8 b8 hE
    go_wp2_with fail
    with_reducible refine f8.mono ?_
    rintro e w8 ⟨rfl, s8, at8, _⟩
    have hE9 : syncR ⟨0, 10, 1, 2, 2, false⟩ { S6 with fuse := 1, waits := S6.waits ++ [(0 + 1, formP 1 1 [b])] } = (20, ⟨0, 10, 1, 2, 2, true⟩, { S6 with fuse := 0, off := true, waits := S6.waits ++ [(0 + 1, formP 1 1 [b])] }) := syncR_fuse1 rfl HO6.out rfl
    have f9 := ssync_at at8 s8 hqB (by simp only; rw [HW6.out]; simp)
    rw [hE9] at f9
    clear f8 s8 at8 hE9
    go_wp2_with fail
    with_reducible refine f9.mono ?_
    rintro e w9 ⟨rfl, s9, at9, _⟩
    obtain ⟨X, hX⟩ : ∃ X, (⟨0, 10, 1, 2, 2, true⟩ : SS) = X := ⟨_, rfl⟩
    have hXg : X.gone = true := by rw [← hX]
    have hXm : X.u ≤ X.m ∧ X.f + X.m ≤ 10 ∧ X.n ≤ 1099511627776 := by rw [← hX]; simp
    rw [hX] at s9
    obtain ⟨S9, hS9⟩ : ∃ S, ({ S6 with fuse := 0, off := true, waits := S6.waits ++ [(0 + 1, formP 1 1 [b])] } : DS) = S := ⟨_, rfl⟩
    have hS9w : S9.waits.length ≤ 1 := by rw [← hS9]; simp only; rw [HW6.out]; simp
    have hS9s : S9.sure = S6.sure := by rw [← hS9]
    rw [hS9] at at9
    clear f9 hX hS9
  rotate_left
  focus
    have f7 := fuse_at A6h.out 1 (by omega)
    rw [show max (1 : Int) 0 = 1 from rfl] at f7
    go_wp2_with fail
    with_reducible refine f7.mono ?_
    rintro e w7 ⟨rfl, at7, k7⟩
    have s7 := S6h.out.kept k7 (by decide)
    obtain ⟨y8, b8⟩ := one_byte w7 HB.out
    have hE : putR ⟨0, 10, 1, 1, 1, false⟩ { S6 with fuse := 1 } [b] = (20, ⟨0, 10, 1, 1, 1, true⟩, { S6 with fuse := 0, off := true }) :=
      putR_fuse1 rfl HO6.out rfl (formE_small (t := 1) (n := 1) (by omega) (by omega) (by simp)) (recS_one (t := 1) (n := 1) (by omega) (by omega)) (by simp) (by simp only; omega)
    have f8 := put_at (at7.after b8) (s7.alloc _) hqB (some ⟨w7.heap.size, 0, none⟩) 1 (by simp) [b] y8 (by simp) (by simp only; omega) (by simp) (by simp only; rw [HW6.out]; simp) (by simp)
    rw [hE] at f8
    rw [show ([b] : List Int).length = 1 from rfl] at f8
    clear f7 at7 k7 s7 y8 b8 hE
    go_wp2_with fail
    with_reducible refine f8.mono ?_
    rintro e w9 ⟨rfl, s9, at9, _⟩
    obtain ⟨X, hX⟩ : ∃ X, (⟨0, 10, 1, 1, 1, true⟩ : SS) = X := ⟨_, rfl⟩
    have hXg : X.gone = true := by rw [← hX]
    have hXm : X.u ≤ X.m ∧ X.f + X.m ≤ 10 ∧ X.n ≤ 1099511627776 := by rw [← hX]; simp
    rw [hX] at s9
    obtain ⟨S9, hS9⟩ : ∃ S, ({ S6 with fuse := 0, off := true } : DS) = S := ⟨_, rfl⟩
    have hS9w : S9.waits.length ≤ 1 := by rw [← hS9]; simp only; rw [HW6.out]; simp
    have hS9s : S9.sure = S6.sure := by rw [← hS9]
    rw [hS9] at at9
    clear f8 hX hS9
  all_goals
    have f10 := put_at at9 s9 hqB none 0 (fun _ => rfl) [] (Byt.nil _ _) hXm.1 (by rw [hS9s, hr6]; exact hXm.2.1) hXm.2.2 (by omega) (by simp)
    rw [putR_gone hXg] at f10
    rw [show ([] : List Int).length = 0 from rfl] at f10
    have HXm := Lib.hid hXm
    clear s9 hXm
    go_wp2_with fail
    with_reducible refine f10.mono ?_
    rintro e w10 ⟨rfl, s10, at10, _⟩
    have f11 := ssync_at at10 s10 hqB (by omega)
    rw [syncR_gone hXg] at f11
    clear f10 at9 at10 s10
    go_wp2_with fail
    with_reducible refine f11.mono ?_
    rintro e w11 ⟨rfl, s11, at11, _⟩
    have y12 : Byt (w11.alloc (.cells #[.int .u8 0, .int .u8 0, .int .u8 0] 5)) (some ⟨w11.heap.size, 0, none⟩) [0, 0, 0] := (Blk.new w11 5 (bys [0, 0, 0]).toArray).byt (by intro x hx; simp at hx; omega)
    have b12 : Below w11.heap.size w11 (w11.alloc (.cells #[.int .u8 0, .int .u8 0, .int .u8 0] 5)) := (Below.refl _ w11).alloc (Nat.le_refl _) _
    have at12 := at11.after b12
    have s12 : IsScroll (w11.alloc (.cells #[.int .u8 0, .int .u8 0, .int .u8 0] 5)) q (w.heap.size + 1) X := s11.alloc _
    have hst : S9.start [0, 0, 0] = S6 := by
      rw [start_none at12.ok (fun j hj => by
        obtain rfl : j = 0 := by omega
        rfl), hS9s]
      exact HSS.out
    have f13 := start_at at12 (some ⟨w11.heap.size, 0, none⟩) 3 [0, 0, 0] y12 (fun a ha _ => .inr (by cases ha; exact ⟨_, Blk.new w11 _ _⟩)) (by omega) (by unfold maxLen; simp)
    rw [hst] at f13
    rw [show ([0, 0, 0] : List Int).length = 3 from rfl] at f13
    have S12h := Lib.hid s12
    clear f11 at11 s11 y12 b12 at12 s12 hst
    go_wp2_with fail
    with_reducible refine f13.mono ?_
    rintro e w13 ⟨rfl, at13, k13⟩
    have s13 := S12h.out.kept k13 (by decide)
    have f14 := put_at at13 s13 hqB none 0 (fun _ => rfl) [] (Byt.nil _ _) HXm.out.1 (by rw [hr6]; exact HXm.out.2.1) HXm.out.2.2 (by rw [HW6.out]; simp) (by simp)
    rw [putR_gone hXg] at f14
    rw [show ([] : List Int).length = 0 from rfl] at f14
    clear f13 at13 k13 s13
    go_wp2_with fail
    with_reducible refine f14.mono ?_
    rintro e w14 ⟨rfl, s14, at14, _⟩
    have f15 := scan_has at14 H6h.out (by rw [HW6.out]; simp)
    simp only at f15
    rw [show ((0 : Nat) : Int) = 0 from rfl, show ((10 : Nat) : Int) = 10 from rfl, show ((1 : Nat) : Int) = 1 from rfl] at f15
    clear f14 s14 at14
    go_wp2_with fail
    with_reducible refine f15.mono ?_
    rintro e w15 ⟨v15, rfl, o15, at15, c15⟩
    obtain ⟨A15, d15, rfl⟩ := o15.form
    obtain ⟨g, cap, x, e1, _, hgs, hcx, hox⟩ := o15.at_ (i := 0) (by simp)
    rw [show ([[a]] : List (List Int)).length = 1 from rfl] at e1 ⊢
    simp only [Value.slice.injEq] at e1
    obtain ⟨rfl, _, rfl⟩ := e1
    simp only [List.getElem_cons_zero] at hox
    obtain ⟨Ax, cx, rfl, hyx, _, _⟩ := hox.byt (by intro y hy; simp at hy; subst hy; exact HA.out)
    obtain ⟨y16, b16⟩ := one_byte w15 HA.out
    have f16 := bytes_any Ax (some ⟨w15.heap.size, 0, none⟩) cx 1 [a] [a] _ (hyx.below b16) y16 (by simp) (by simp)
    rw [show ([a] : List Int).length = 1 from rfl, decide_eq_true rfl] at f16
    rw [show ([a] : List Int).length = 1 from rfl] at hcx
    have at16 := at15.after b16
    clear f15 o15 at15 c15 hox hyx y16 b16
    go_wp2_with fail
    with_reducible refine f16.mono ?_
    rintro e w17 ⟨rfl, m17, hw17⟩
    have at17 := at16.after (W' := w17) (by rw [hw17]; exact below_drewN (Below.refl _ _) _)
    have aw := awake13 w17 at17.glob
    have AT17 := Lib.hid at17
    clear f16 at16 hw17 at17
    go_wp2_with fail
    with_reducible refine aw.mono ?_
    rintro e w18 ⟨rfl, c18⟩
    have C18 := Lib.hid c18
    clear c18 aw
    go_wp2_with fail
    go_ret
    exact ⟨rfl, AT17.out.below.trans (C18.out.mono AT17.out.below.size)⟩

end Go.Proofs.YtohadeijmmmcdaaDoor
end
