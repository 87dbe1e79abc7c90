/-
  ChestFinds: the walk.
-/
import Derived.Test.YtohadeijmmmcdaaDoorChPlW
import Derived.Test.YtohadeijmmmcdaaDoorWrS
namespace Go.Proofs.YtohadeijmmmcdaaDoor
open Go Go.RowKit Machine
set_option maxRecDepth 100000

/-- The document turns into a chest of another name; then the chest. -/
theorem PlS.turn2 {w : World} {p gs N H i g r T : Nat} {L : List (List Int)} {A : Option Addr} {c : Nat} {W : World} (h : PlS w p gs N H i g r T L A c W) (hN : N ≤ 60) (hi : i ≤ 1000) (B : Option Addr) (d : Nat) (hd : B = none → d = 0) (b : List Int) (hb : Byt W B b) (hbl : b.length ≤ 300) :
    Calls Tryd.prog 41 #[.agg (chL T H (.slice A L.length c)).toArray, .slice B b.length d] W fun e W' =>
      ∃ (E : Int) (T' : Nat) (L' : List (List Int)) (A' : Option Addr) (c' : Nat), e = .returned (.tuple #[.agg (chL T' H (.slice A' L'.length c')).toArray, .int .i64 E]) ∧ Below W.heap.size W W' ∧
        ∀ (W2 : World) (g' : Nat) (cs : Array Value), Below W'.heap.size W' W2 → Blk W2 g' 75 cs → w.heap.size ≤ g' →
        ∀ W3, Below (W2.setRow g' (chL T' H (.slice A' L'.length c')).toArray).heap.size (W2.setRow g' (chL T' H (.slice A' L'.length c')).toArray) W3 → ∀ (B' : Option Addr) (d' : Nat), (B' = none → d' = 0) → Byt W3 B' b → (∀ a, B' = some a → 0 < b.length → a.block < w.heap.size ∨ ∃ cs, Blk W3 a.block 5 cs) →
        Calls Tryd.prog 42 #[.pointer (some ⟨r, 0, none⟩), .slice B' b.length d'] W3 fun e W4 => e = .returned (.int .i64 E) ∧ PlS w p gs N H (i + 1) g' r T' L' A' c' W4 := by
  obtain ⟨x, s, S, nv, h1, h2, rfl, h4, h5⟩ := h.ex
  obtain rfl := h.half
  have hl := h2.l
  have h0 : 0 < L.length := by rw [hl]; simp
  have ht := h2.has.t
  rw [h2.st] at ht
  unfold mostP at ht
  have hxt := h2.t
  obtain ⟨o1, o3, T', o2, o4⟩ := h2.turn h1.at_.ok b
  have hsz := turnR_sz x s S b hN
  have hbd := changeQ_bd (t := T) (h := (S.sure.length / 2 : Nat)) (k := 1000) (b := b) h0 h.bd (by omega)
  have hlen := h.len
  refine (rchange_any w.heap.size (T : Int) ((S.sure.length / 2 : Nat) : Int) (by omega) (by omega) A c L B d hd b W h.chT hb (by omega) h1.at_.size).mono ?_
  rintro e W' ⟨hp, hbel⟩
  obtain ⟨A', c', rfl, hT', hne⟩ := hp.ne h.chT h0 (fun k hk => by obtain ⟨_, cs, hb⟩ := h1.nvb k hk; exact hb.lt) h5
  rw [o2]
  obtain ⟨Q, hQ⟩ : ∃ Q, changeQ T (S.sure.length / 2 : Nat) L b = Q := ⟨_, rfl⟩
  rw [hQ] at o1 o4 hbd hT' hne ⊢
  refine ⟨_, T', _, A', c', rfl, hbel, fun W2 g' cs hb2 hg2 hgB W3 hb3 B' d' hd' hb' hB' => ?_⟩
  have hs' := (h1.after hbel).at_.size
  have hb1 := hg2.row_ (chL T' (S.sure.length / 2 : Nat) (.slice A' Q.2.2.length c')).toArray
  have hc1 := (((h1.after hbel).after hb2).set75 hg2 hgB (chL T' (S.sure.length / 2 : Nat) (.slice A' Q.2.2.length c')).toArray)
  have hT1 := (hT'.below hb2 hs').setRow hg2 hgB (chL T' (S.sure.length / 2 : Nat) (.slice A' Q.2.2.length c')).toArray
  have hb4 := hb1.fr (Fr.of_below hb3) (by have := hb1.lt; omega)
  have hc4 := hc1.after hb3
  have hT4 := hT1.below hb3 hc1.at_.size
  refine (kturn_n hc4 B' d' hd' b hb' hB' (by omega) h2.sd (by omega) (by omega)).mono ?_
  rintro e W4 ⟨rfl, nv', hN', hF, hK⟩
  exact ⟨by rw [o1], ⟨rfl, ⟨_, _, _, nv', hN', o4, o3, by have := hsz.2; omega, fun a ha h0' => hF.ne (hne a ha h0') (hT4.rowlt ha h0')⟩, hc4.q75 hb4 hK, hgB, hc4.qT hT4 hK hne, by have := hbd.1; omega, hbd.2⟩⟩

/-- A chest is opened on what stands there. -/
theorem PlS.first {w W : World} {p gs N H g T c : Nat} {S : DS} {A : Option Addr} {L : List (List Int)} (hat : At w w.heap.size p gs S W) (hg : S.Good) (hS : S.sure.length = N) (h2 : 2 ≤ N) (hN : N ≤ 60) (hH : N / 2 = H) (hw : S.waits.length ≤ 100000)
    (hblk : Blk W g 75 (chL T H (.slice A L.length c)).toArray) (hgB : w.heap.size ≤ g) (hT : ChT w.heap.size W A c L) (hTL : (T, L) = if (findP S).2 < 1 then (1, [[]]) else ((findP S).2, (scanAll (findP S).2 (stP S ((findP S).1 * (S.sure.length / 2)) (S.sure.length / 2))).1)) (hl : L.length ≤ 400) (hbd : ∀ l ∈ L, l.length ≤ 1000) :
    Calls Tryd.prog 35 #[.pointer (some ⟨p, 0, none⟩)] W fun e W2 => ∃ r, e = .returned (.tuple #[.pointer (some ⟨r, 0, none⟩), .int .i64 0]) ∧ PlS w p gs N H 400 g r T L A c W2 := by
  have hopen : (copenR S).1 = 0 ∧ (copenR S).2.2.2.sure.length = S.sure.length ∧ ChOk (copenR S).2.1 (copenR S).2.2.1 (copenR S).2.2.2 T L := by
    by_cases hf : (findP S).2 < 1
    · rw [if_pos hf] at hTL
      simp only [Prod.mk.injEq] at hTL
      obtain ⟨rfl, rfl⟩ := hTL
      exact ChOk.fresh hat.ok hg (by omega) hf
    · rw [if_neg hf] at hTL
      simp only [Prod.mk.injEq] at hTL
      obtain ⟨rfl, rfl⟩ := hTL
      obtain ⟨o1, o2, _, o4⟩ := ChOk.opened hat.ok hg hf
      exact ⟨o1, o2, o4⟩
  obtain ⟨o1, o2, o4⟩ := hopen
  have hsz := copenR_sz S (by omega)
  refine (copen_n hat hg.1 (by omega) (by omega) o1).mono ?_
  rintro e W2 ⟨r, nv, rfl, hN', hv, hK⟩
  exact ⟨r, rfl, ⟨hH, ⟨_, _, _, nv, hN', o4, by rw [o2, hS], by have := hsz.2; omega, fun a ha h0 e => by have := hv _ e; have := hT.rowlt ha h0; omega⟩, hK.kt _ _ _ hblk (by decide), hgB, hT.kept hK (by decide) (by decide), hl, hbd⟩⟩

section
attribute [local go_sem ↓] ld75 st75 al75 bd75 apt22_of aps223s sle_of
attribute [local go_sem] al75_new bd75_3

set_option maxHeartbeats 16000000 in
theorem chfinds_law (A0 : Option Addr) (c0 : Nat) (b : List Int) (w : World) (hb : BytN w A0 c0 b) (hm : b.length ≤ maxLen) (hg : Glob w) :
    Calls Tryd.prog 10 #[.slice A0 b.length c0] w fun e w' => e = .returned (.bool true) ∧ Below w.heap.size w w' := by
  unfold maxLen at hm
  obtain ⟨n, hn⟩ : ∃ n, b.length = n := ⟨_, rfl⟩
  rw [hn] at hm ⊢
  have HB := Lib.hid hb
  have HN := Lib.hid hn
  have HG := Lib.hid hg
  clear hb hn hg
  by_cases hbig : 768 < n
  · have hbI : (768 : Int) < (n : Int) := by omega
    go_enter Tryd.func10, Tryd.ntmps10
    go_wp2_with fail
    with_reducible refine (awake14 w HG.out).mono ?_
    rintro e w' ⟨rfl, hb⟩
    have HB := Lib.hid hb
    clear hb
    go_wp2_with fail
    go_ret
    exact ⟨rfl, HB.out⟩
  have hbI : (n : Int) ≤ 768 := by omega
  have f3 := new_drum 12 w (by omega) (by omega)
  rw [show ((12 : Nat) : Int) = 12 from rfl] at f3
  go_enter Tryd.func10, Tryd.ntmps10
  go_wp2_with fail
  with_reducible refine f3.mono ?_
  rintro e w3 ⟨rfl, d3, c3⟩
  have at3 := At.new HG.out HG.out.size (Below.refl _ _) 12 d3 c3
  have pq := peq35s (w.heap.size + 1)
  -- the bytes
  have h0 : Own8 w3.heap.size (w3.alloc (.cells #[] 5)) (.slice (some ⟨w3.heap.size, 0, none⟩) 0 0) [] := own_nul w3 _ _ (Nat.le_refl _)
  have b3a : Below w3.heap.size w3 (w3.alloc (.cells #[] 5)) := (Below.refl _ w3).alloc (Nat.le_refl _) _
  obtain ⟨v4, w4, hap4, o4, f4, _⟩ := app8 (ty := 22) (c := c0) h0 ((HB.out.byt.below c3).below b3a) (by rw [HN.out]; simp; omega) (by simp) HB.out.nil_
  have b4 : Below w3.heap.size w3 w4 := b3a.trans (f4.below (by simp) (fun k hk e => by have := (h0.lt e).1; omega))
  rw [List.nil_append] at o4
  obtain ⟨A4, c4, rfl⟩ := o4.form
  obtain ⟨Z, hZ⟩ : ∃ Z, 768 - n = Z := ⟨_, rfl⟩
  obtain ⟨v5, w5, hap5, o5, f5, _⟩ := app8_zeros (ty := 22) Z o4 (by rw [HN.out]; omega) b4.size
  have b5 : Below w3.heap.size w3 w5 := b4.trans (f5.below b4.size (fun k hk e => by have := (o4.lt e).1; omega))
  obtain ⟨all, hall⟩ : ∃ all, b ++ List.replicate Z 0 = all := ⟨_, rfl⟩
  have hal : all.length = 768 := by rw [← hall, List.length_append, HN.out, List.length_replicate]; omega
  have hab : ∀ x ∈ all, 0 ≤ x ∧ x ≤ 255 := by
    rw [← hall]
    intro x hx
    rcases List.mem_append.1 hx with h | h
    · exact HB.out.byt.bd x h
    · rw [List.eq_of_mem_replicate h]; omega
  rw [hall] at o5
  obtain ⟨A5, c5, rfl⟩ := o5.form
  rw [HN.out] at hap4 hap5
  rw [hal] at o5 hap5
  have hZI : (768 : Int) - (n : Int) = (Z : Int) := by omega
  have at5 := at3.after b5
  have HAL := Lib.hid hal
  have HAB := Lib.hid hab
  have HO5 := Lib.hid o5
  have HAT := Lib.hid at5
  clear f3 d3 at3 h0 b3a o4 f4 b4 f5 o5 b5 hall hal hab at5 hZ
  have hs3 : w.heap.size ≤ w3.heap.size := c3.size
  clear c3
  go_wp2_with fail
  clear hap4 hap5 pq
  go_loopg [5] 12 (fun k t wr => ∃ (i : Nat), i + k = 12 ∧ t = .int .i64 (i : Int) ∧ At w w.heap.size (w.heap.size + 1) w.heap.size (wrS 12 all i) wr ∧ Own8 w3.heap.size wr (.slice A5 768 c5) all)
  case atStart => exact ⟨0, by omega, rfl, HAT.out, HO5.out⟩
  case round =>
    clear HAT HO5
    obtain ⟨i, hi, rfl, hat, ho⟩ := hrel
    by_cases hi12 : i < 12
    · have hiI : (i : Int) < 12 := by omega
      obtain ⟨A5', c5', e5, y5, _, k5⟩ := ho.byt HAB.out
      rw [HAL.out] at e5 k5
      simp only [Value.slice.injEq, true_and] at e5
      obtain ⟨rfl, rfl⟩ := e5
      obtain ⟨A6, hsl, y6, hb6, _⟩ := part8u y5 c5 (64 * i) (64 * i + 64) (some (.int .i64 (64 * (i : Int)))) (some (.int .i64 (64 * (i : Int) + 64))) (by omega) (by rw [HAL.out]; omega) (by rw [HAL.out]; exact k5) (.inr ⟨_, _, rfl, by omega⟩) (.inr ⟨_, _, rfl, by omega⟩)
      rw [HAL.out, Nat.add_sub_cancel_left] at hsl
      rw [Nat.add_sub_cancel_left] at y6
      have hsl1 := hsl wr
      have hlen : (wrS 12 all i).waits.length ≤ 1000000000 := by rw [(wrS_len 12 all i).2]; omega
      obtain ⟨wv, hd⟩ := hat.drum
      have hne : ∀ a, A6 = some a → a.block ≠ w.heap.size + 1 := fun a ha e => by
        obtain ⟨a', e1, e2⟩ := hb6 a ha
        refine own_ne ho hd.st (by decide) ?_
        rw [e1]
        show (some a').map Addr.block = _
        simp [← e2, e]
      have hw := write_at hat (i : Int) A6 (c5 - 64 * i) (secB all i) y6 hne hlen
      rw [wrS_succ (HAL.out.trans rfl) hi12, secB_len (n := 12) HAL.out hi12] at hw
      have HW := Lib.hid hw
      have HO := Lib.hid ho
      clear hsl y6 y5 hb6 hlen hd hne hw hat ho
      go_wp2_with fail
      with_reducible refine HW.out.mono ?_
      rintro e w6 ⟨rfl, hat2, hk⟩
      have HAT2 := Lib.hid hat2
      have HO2 := Lib.hid (hk.own8 HO.out (by decide))
      clear hat2 hk
      go_wp2_with fail
      go_roundg (12 - (i + 1))
      case measure => omega
      case rel => exact ⟨i + 1, by omega, by go_num, HAT2.out, HO2.out⟩
    · obtain rfl : i = 12 := by omega
      have hiI : ¬ (((12 : Nat) : Int) < 12) := by omega
      obtain ⟨S, hS⟩ : ∃ S, wrS 12 all 12 = S := ⟨_, rfl⟩
      rw [hS] at hat
      have hSg : S.Good := hS ▸ wrS_good _ _ _
      have hSl : S.sure.length = 12 := hS ▸ (wrS_len 12 all 12).1
      have hSw : S.waits.length = 12 := hS ▸ (wrS_len 12 all 12).2
      have hst : stP S 0 12 = all := by
        rw [← hS, wrS_st 0 12 (by omega), Nat.mul_zero, List.drop_zero, List.take_of_length_le (by rw [HAL.out]; omega)]
      clear hS
      obtain ⟨A5', c5', e5, y5, _, k5⟩ := ho.byt HAB.out
      rw [HAL.out] at e5 k5
      simp only [Value.slice.injEq, true_and] at e5
      obtain ⟨rfl, rfl⟩ := e5
      have hfd := rfind_any w.heap.size A5 c5 all wr y5 (by rw [HAL.out]; exact k5) (by rw [HAL.out]; omega) (fun a ha => by
        obtain ⟨cs, hc, _⟩ := own_blk ho (g := a.block) (by rw [ha]; rfl)
        exact .inr ⟨cs, hc⟩) hat.below.size
      have hbf := best_find hat.ok hSg
      rw [hSl, hst] at hbf
      rw [HAL.out, show (768 / 64 / 2 : Nat) = 6 from rfl] at hfd
      obtain ⟨R, hR⟩ : ∃ R, bestP all 2 = R := ⟨_, rfl⟩
      rw [hR] at hfd hbf
      have hSl2 : S.sure.length / 2 = 6 := by rw [hSl]
      have HFD := Lib.hid hfd
      have HBF := Lib.hid hbf
      have HAT := Lib.hid hat
      have HSG := Lib.hid hSg
      have HSL := Lib.hid hSl
      have HSW := Lib.hid hSw
      have HST := Lib.hid hst
      clear hfd hR y5 hbf hat hSg hSl hSw hst ho hSl2
      go_wp2_with fail
      with_reducible refine HFD.out.mono ?_
      rintro e w6 ⟨⟨A6, c6, rfl, hC6⟩, b6⟩
      rw [show ((6 : Nat) : Int) = 6 from rfl]
      have hb7 := Blk.new w6 75 (chL 0 0 (.slice none 0 0)).toArray
      have b7 : Below w6.heap.size w6 (w6.alloc (.cells (chL 0 0 (.slice none 0 0)).toArray 75)) := (Below.refl _ _).alloc (Nat.le_refl _) _
      obtain ⟨T0, L0⟩ := R
      simp only at hC6 ⊢
      have st7 := st75_blk hb7 rfl (T0 : Int) 6 A6 L0.length c6
      obtain ⟨g, hgg⟩ : ∃ g, w6.heap.size = g := ⟨_, rfl⟩
      have hs6 : w.heap.size ≤ w6.heap.size := Nat.le_trans HAT.out.below.size b6.size
      have bl7 := hb7.row_ (chL T0 6 (.slice A6 L0.length c6)).toArray
      have at7 : At w w.heap.size (w.heap.size + 1) w.heap.size S ((w6.alloc (.cells (chL 0 0 (.slice none 0 0)).toArray 75)).setRow w6.heap.size (chL T0 6 (.slice A6 L0.length c6)).toArray) := by
        have h1 := (HAT.out.after b6).after b7
        have hk : Kept w.heap.size [75] (w6.alloc (.cells (chL 0 0 (.slice none 0 0)).toArray 75)) ((w6.alloc (.cells (chL 0 0 (.slice none 0 0)).toArray 75)).setRow w6.heap.size (chL T0 6 (.slice A6 L0.length c6)).toArray) :=
          Kept.of_fr ((Fr.refl (fun k => k = w6.heap.size) _).setRow (fun _ => rfl) _) h1.size (fun k hk e => by omega) (fun k t cs' e hb => by
            subst e
            rw [(hb.inj hb7).1]
            simp)
        exact h1.kept hk (by obtain ⟨wv, hd⟩ := h1.drum; exact ⟨wv, hk.drum hd (by decide) (by decide) (by decide)⟩)
      have hC7 := (hC6.below b7 hs6).setRow hb7 hs6 (chL T0 6 (.slice A6 L0.length c6)).toArray
      obtain ⟨w7, hw7⟩ : ∃ w7, (w6.alloc (.cells (chL 0 0 (.slice none 0 0)).toArray 75)).setRow w6.heap.size (chL T0 6 (.slice A6 L0.length c6)).toArray = w7 := ⟨_, rfl⟩
      rw [hw7] at st7 bl7 at7 hC7
      rw [hgg] at st7 bl7 hs6
      obtain ⟨q0, _, _⟩ := ch_parts bl7
      have BL7 := Lib.hid bl7
      have AT7 := Lib.hid at7
      have HC7 := Lib.hid hC7
      clear hb7 b7 b6 bl7 at7 hC7 hC6 HFD HAT
      by_cases hf : (findP S).2 < 1
      focus
        have hbf := HBF.out
        rw [if_pos hf] at hbf
        simp only [Prod.mk.injEq] at hbf
        obtain ⟨rfl, rfl⟩ := hbf
        have f8 := rfresh_any w.heap.size 6 w7 AT7.out.size
        have HF8 := Lib.hid f8
        clear f8
        rw [show ((0 : Nat) : Int) = 0 from rfl] at q0 st7
        rw [show ([] : List (List Int)).length = 0 from rfl] at st7
        rw [show ((0 : Nat) : Int) = 0 from rfl, show ([] : List (List Int)).length = 0 from rfl]
        go_wp2_with fail
        with_reducible refine HF8.out.mono ?_
        rintro e w8 ⟨⟨A8, c8, rfl, hT8, _⟩, b8⟩
        have bl8 := BL7.out.fr (Fr.of_below b8) (by have := BL7.out.lt; omega)
        have st8 := st75_blk bl8 rfl 1 6 A8 1 c8
        have bl9 := bl8.row_ (chL 1 6 (.slice A8 1 c8)).toArray
        have hT9 := hT8.setRow bl8 hs6 (chL 1 6 (.slice A8 1 c8)).toArray
        have at9 : At w w.heap.size (w.heap.size + 1) w.heap.size S (w8.setRow g (chL 1 6 (.slice A8 1 c8)).toArray) := by
          have h1 := AT7.out.after b8
          have hk : Kept w.heap.size [75] w8 (w8.setRow g (chL 1 6 (.slice A8 1 c8)).toArray) :=
            Kept.of_fr ((Fr.refl (fun k => k = g) _).setRow (fun _ => rfl) _) h1.size (fun k hk e => by omega) (fun k t cs' e hb => by
              subst e
              rw [(hb.inj bl8).1]
              simp)
          exact h1.kept hk (by obtain ⟨wv, hd⟩ := h1.drum; exact ⟨wv, hk.drum hd (by decide) (by decide) (by decide)⟩)
        obtain ⟨w9, hw9⟩ : ∃ w9, w8.setRow g (chL 1 6 (.slice A8 1 c8)).toArray = w9 := ⟨_, rfl⟩
        rw [hw9] at st8 bl9 hT9 at9
        obtain ⟨T, hT⟩ : ∃ T : Nat, T = 1 := ⟨_, rfl⟩
        obtain ⟨L, hL⟩ : ∃ L : List (List Int), L = [[]] := ⟨_, rfl⟩
        have bl9' : Blk w9 g 75 (chL T 6 (.slice A8 L.length c8)).toArray := by rw [hT, hL]; exact bl9
        have hT9' : ChT w.heap.size w9 A8 c8 L := by rw [hL]; exact hT9
        have hTL : (T, L) = if (findP S).2 < 1 then (1, [[]]) else ((findP S).2, (scanAll (findP S).2 (stP S ((findP S).1 * (S.sure.length / 2)) (S.sure.length / 2))).1) := by rw [if_pos hf, hT, hL]
        have fo := PlS.first (H := 6) at9 HSG.out HSL.out (by omega) (by omega) rfl (by rw [HSW.out]; omega) bl9' hs6 hT9' hTL (by rw [hL]; simp) (by rw [hL]; simp)
        have HFO := Lib.hid fo
        clear b8 bl8 hT8 bl9 hT9 bl9' hT9' hT hL at9 fo hTL hw9 BL7 AT7 HC7 HF8 HBF st7 q0
        go_upto_region 15 with fail
        clear st8 hf
      rotate_left
      focus
        have hbf := HBF.out
        rw [if_neg hf] at hbf
        have hL0 := (congrArg Prod.snd hbf)
        have hT0 := (congrArg Prod.fst hbf)
        simp only at hL0 hT0
        have hrm : (findP S).1 * (S.sure.length / 2) + S.sure.length / 2 ≤ S.sure.length := by
          rw [HSL.out]
          have h8 := (findP_in HSG.out.1 hf).1
          have h9 : (findP S).1 = 0 ∨ (findP S).1 = 1 := by omega
          rcases h9 with e | e <;> rw [e] <;> omega
        have hsb := scanAll_bdR (t := (findP S).2) (stP_bd AT7.out.ok ((findP S).1 * (S.sure.length / 2)) (S.sure.length / 2) hrm)
        have hsl := scanAll_len (findP S).2 (stP S ((findP S).1 * (S.sure.length / 2)) (S.sure.length / 2))
        have hstl : (stP S ((findP S).1 * (S.sure.length / 2)) (S.sure.length / 2)).length = 384 := by
          rw [stP_len AT7.out.ok _ _ hrm, HSL.out]
        rw [hstl] at hsl hsb
        rw [HSL.out] at hsl hsb
        rw [← hL0] at hsl hsb
        have hTL : (T0, L0) = if (findP S).2 < 1 then (1, [[]]) else ((findP S).2, (scanAll (findP S).2 (stP S ((findP S).1 * (S.sure.length / 2)) (S.sure.length / 2))).1) := by rw [if_neg hf, hbf, HSL.out]
        have h1T : ¬ (T0 : Int) < 1 := by rw [hT0]; omega
        have fo := PlS.first (H := 6) AT7.out HSG.out HSL.out (by omega) (by omega) rfl (by rw [HSW.out]; omega) BL7.out hs6 HC7.out hTL (by omega) (fun l hl => by have := (hsb l hl).2; omega)
        have HFO := Lib.hid fo
        clear hrm hbf hL0 hT0 hsb hsl hstl hTL fo BL7 AT7 HC7 HBF hf
        go_upto_region 15 with fail
        clear h1T st7 q0
        obtain ⟨T, hT⟩ : ∃ T, T0 = T := ⟨_, rfl⟩
        obtain ⟨L, hL⟩ : ∃ L, L0 = L := ⟨_, rfl⟩
        obtain ⟨A8, hA⟩ : ∃ A, A6 = A := ⟨_, rfl⟩
        obtain ⟨c8, hc⟩ : ∃ c, c6 = c := ⟨_, rfl⟩
        rw [hT, hL, hA, hc] at HFO
        clear hT hL hA hc
      all_goals
        go_wp2_with fail
        with_reducible refine HFO.out.mono ?_
        rintro e w10 ⟨r, rfl, hP10⟩
        have pq := peq65 r
        have hld := ld75_blk hP10.blk
        have HIS := Lib.hid (hP10.is (by omega) (by omega))
        have HP10 := Lib.hid hP10
        rw [show ((6 : Nat) : Int) = 6 from rfl] at hld HIS
        clear hP10 HFO
        go_wp2_with fail
        with_reducible refine HIS.out.mono ?_
        rintro e w11 ⟨rfl, b11⟩
        have hP11 := HP10.out.below b11
        obtain ⟨y7, b7⟩ := one_byte w11 (x := 7) (by omega)
        have hP12 := hP11.below b7
        have hld2 := ld75_blk hP11.blk
        have kt := hP12.turn2 (by omega) (by omega) (some ⟨w11.heap.size, 0, none⟩) 1 (by simp) [7] y7 (by simp)
        rw [show ([7] : List Int).length = 1 from rfl] at kt
        rw [show ((6 : Nat) : Int) = 6 from rfl] at hld2 kt
        have HKT := Lib.hid kt
        have HS12 := Lib.hid (hP12.at_.1)
        clear kt y7 b7 hP11 hP12 b11 HIS hld HP10
        go_wp2_with fail
        with_reducible refine HKT.out.mono ?_
        rintro e w13 ⟨E, T', L', A', c', rfl, b13, hck⟩
        have hb14 := Blk.new w13 75 (chL 0 0 (.slice none 0 0)).toArray
        have b14 : Below w13.heap.size w13 (w13.alloc (.cells (chL 0 0 (.slice none 0 0)).toArray 75)) := (Below.refl _ _).alloc (Nat.le_refl _) _
        have st14 := st75_blk hb14 rfl (T' : Int) 6 A' L'.length c'
        have hgB : w.heap.size ≤ w13.heap.size := Nat.le_trans HS12.out.size b13.size
        have hck2 := hck _ _ _ b14 hb14 hgB
        obtain ⟨w15, hw15⟩ : ∃ w15, (w13.alloc (.cells (chL 0 0 (.slice none 0 0)).toArray 75)).setRow w13.heap.size (chL T' 6 (.slice A' L'.length c')).toArray = w15 := ⟨_, rfl⟩
        obtain ⟨g', hg'⟩ : ∃ g', w13.heap.size = g' := ⟨_, rfl⟩
        rw [hw15] at st14 hck2
        rw [hg'] at st14 hck2
        obtain ⟨y16, b16⟩ := one_byte w15 (x := 7) (by omega)
        have kt := hck2 _ b16 (some ⟨w15.heap.size, 0, none⟩) 1 (by simp) y16 (fun a ha _ => .inr (by cases ha; exact ⟨_, Blk.new w15 _ _⟩))
        have HKT2 := Lib.hid kt
        clear kt hck hck2 hb14 b14 hgB y16 b16 b13 HKT hld2
        go_wp2_with fail
        with_reducible refine HKT2.out.mono ?_
        rintro e w17 ⟨rfl, hP17⟩
        have hld3 := ld75_blk hP17.blk
        have HIS := Lib.hid (hP17.is (by omega) (by omega))
        have HP17 := Lib.hid hP17
        rw [show ((6 : Nat) : Int) = 6 from rfl] at hld3 HIS
        clear hP17 HKT2 st14
        go_wp2_with fail
        with_reducible refine HIS.out.mono ?_
        rintro e w18 ⟨rfl, b18⟩
        have HOP := Lib.hid ((HP17.out.below b18).open_ (by omega) (by omega) (by omega))
        clear b18 HIS hld3 HP17
        go_wp2_with fail
        with_reducible refine HOP.out.mono ?_
        rintro e w19 ⟨r2, rfl, hP19⟩
        have pq2 := peq65 r2
        have hld4 := ld75_blk hP19.blk
        have HIS := Lib.hid (hP19.is (by omega) (by omega))
        have HP19 := Lib.hid hP19
        rw [show ((6 : Nat) : Int) = 6 from rfl] at hld4 HIS
        clear hP19 HOP
        go_wp2_with fail
        with_reducible refine HIS.out.mono ?_
        rintro e w20 ⟨rfl, b20⟩
        have hP20 := HP19.out.below b20
        have aw := awake14 w20 hP20.at_.2
        have HB20 := Lib.hid hP20.at_.1
        clear b20 hP20 HIS hld4 HP19
        go_wp2_with fail
        with_reducible refine aw.mono ?_
        rintro e w21 ⟨rfl, c21⟩
        have C21 := Lib.hid (HB20.out.trans (c21.mono HB20.out.size))
        clear c21 aw
        go_wp2_with fail
        go_ret
        exact ⟨rfl, C21.out⟩
end
end Go.Proofs.YtohadeijmmmcdaaDoor
