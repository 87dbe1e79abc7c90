/-
  ChestGone: the walk.
-/
import Derived.Test.YtohadeijmmmcdaaDoorChestI
import Derived.Test.YtohadeijmmmcdaaDoorCGoneL
import Derived.Test.YtohadeijmmmcdaaDoorChestG
namespace Go.Proofs.YtohadeijmmmcdaaDoor
open Go.RowKit
set_option maxRecDepth 100000

theorem kon {w W : World} {B p gs r : Nat} {x : CS} {s : SS} {S : DS} (h : ChestAt w B p gs r x s S W) :
    Calls Tryd.prog 47 #[.pointer (some ⟨p, 0, none⟩)] W fun e W' => e = .returned (.bool (!S.off)) ∧ W = W' := by
  obtain ⟨wv, hd⟩ := h.at_.drum
  exact on_any p _ wv S.fuse S.off W hd.st

theorem made_z (n : Nat) (hn : n ≤ 1000000000) : ∃ Z : List Int, Z.length = n ∧ (∀ x ∈ Z, 0 ≤ x ∧ x ≤ 255) ∧ ∀ W : World, (Instr.makeSlice 22 (.int .i64 (n : Int)) (.int .i64 (n : Int))).run Tryd.prog W = .ok (.slice (some ⟨W.heap.size, 0, none⟩) n n) (W.alloc (.cells (bys Z).toArray 5)) :=
  ⟨List.replicate n 0, by simp, by intro x hx; rw [List.eq_of_mem_replicate hx]; omega, fun W => make_bytes n hn W⟩

theorem recS_big {t n : Nat} {b : List Int} (h : 560 ≤ b.length) : 9 ≤ recS t n b := by
  unfold recS secP
  rw [fieldsP_len]
  have h1 := numP_len t
  have h2 := numP_len n
  have h3 := numP_len b.length
  omega
theorem formE_long {t n : Nat} {b : List Int} (ht : t ≤ 1099511627776) (hn : n ≤ 1099511627776) (h : 66000 ≤ b.length) : formE (t : Int) (n : Int) b = 4 := by
  unfold formE
  rw [if_neg (by omega), if_pos]
  simp only [Int.toNat_natCast]
  unfold secP
  rw [fieldsP_len]
  omega

set_option maxHeartbeats 16000000 in
theorem cgone_law (a : Int) (A1 : Option Addr) (c1 : Nat) (b : List Int) (A2 : Option Addr) (c2 : Nat) (tn : List Bool) (w : World) (ha : 0 ≤ a ∧ a ≤ 255) (hb : BytN w A1 c1 b) (hbm : b.length ≤ maxLen) (ht : Bls w A2 tn) (htm : tn.length ≤ maxLen) (hg : Glob w) :
    Calls Tryd.prog 12 #[.int .u8 a, .slice A1 b.length c1, .slice A2 tn.length c2] w fun e w' => e = .returned (.bool true) ∧ Below w.heap.size w w' := by
  unfold maxLen at hbm htm
  have aw0 := awake14 w hg
  by_cases h12 : 12 < tn.length
  · have hI : (12 : Int) < (tn.length : Int) := by omega
    clear hb ht
    go_enter Tryd.func12, Tryd.ntmps12
    go_wp2_with fail
    with_reducible refine aw0.mono ?_
    rintro e w2 ⟨rfl, c2⟩
    have C2 := Lib.hid c2
    clear c2 aw0
    go_wp2_with fail
    go_ret
    exact ⟨rfl, C2.out⟩
  have hI : ¬ ((12 : Int) < (tn.length : Int)) := by omega
  by_cases h100 : 100 < b.length
  · have hI2 : (100 : Int) < (b.length : Int) := by omega
    clear hb ht
    go_enter Tryd.func12, Tryd.ntmps12
    go_wp2_with fail
    with_reducible refine aw0.mono ?_
    rintro e w2 ⟨rfl, c2⟩
    have C2 := Lib.hid c2
    clear c2 aw0
    go_wp2_with fail
    go_ret
    exact ⟨rfl, C2.out⟩
  have hI2 : ¬ ((100 : Int) < (b.length : Int)) := by omega
  have f3 := new_drum 16 w (by omega) (by omega)
  rw [show ((16 : Nat) : Int) = 16 from rfl] at f3
  obtain ⟨Z6, z6l, z6b, z6⟩ := made_z 600 (by omega)
  obtain ⟨Z7, z7l, z7b, z7⟩ := made_z 70000 (by omega)
  rw [show ((600 : Nat) : Int) = 600 from rfl] at z6
  rw [show ((70000 : Nat) : Int) = 70000 from rfl] at z7
  have HG := Lib.hid hg
  have HBt := Lib.hid hb
  have HT := Lib.hid ht
  have H100 : b.length ≤ 100 := by omega
  have H12 : tn.length ≤ 12 := by omega
  obtain ⟨BL, hBL⟩ : ∃ BL, b.length = BL := ⟨_, rfl⟩
  obtain ⟨N, hN⟩ : ∃ N, tn.length = N := ⟨_, rfl⟩
  rw [hBL] at hI2 H100 ⊢
  rw [hN] at hI H12 ⊢
  have HBL := Lib.hid hBL
  have HN := Lib.hid hN
  have Z6L := Lib.hid z6l
  have Z7L := Lib.hid z7l
  have Z6B := Lib.hid z6b
  have Z7B := Lib.hid z7b
  have ha0 := ha.1
  have ha1 := ha.2
  clear hg hb ht hbm htm h12 h100 hBL hN z6l z7l z6b z7b aw0 ha
  go_enter Tryd.func12, Tryd.ntmps12
  go_wp2_with fail
  with_reducible refine f3.mono ?_
  rintro e w3 ⟨rfl, d3, c3⟩
  have at3 := At.new HG.out HG.out.size (Below.refl _ _) 16 d3 c3
  obtain ⟨T, e4, H4, l4, r4, _⟩ := copen_new (n := 16) (by omega) (by omega)
  have f4 := copen_c at3 rfl (by simp [DS.new]) (by simp [DS.new])
  rw [e4] at f4
  simp only [show (16 / 2 : Nat) = 8 from rfl] at f4 H4
  clear f3 d3 at3 c3 e4
  go_wp2_with fail
  with_reducible refine f4.mono ?_
  rintro e w4 (⟨_, r, rfl, ch4⟩ | ⟨h, _⟩)
  rotate_left
  focus exact absurd rfl h
  have pq := peq65 r
  have e5 : turnR ⟨0, 1, [], [], false⟩ ⟨0, 8, 1, 1, 1, false⟩ T Z6 = (18, ⟨0, 1, [], [], false⟩, ⟨0, 8, 1, 1, 1, false⟩, T) := by
    unfold turnR
    rw [if_neg (by simp), if_neg (by simp), if_neg (by rw [show (0 : Int) = ((0 : Nat) : Int) from rfl, formE_small (by simp) (by omega) (by rw [Z6L.out]; omega)]; simp), if_pos]
    have := recS_big (t := 1 + 1) (n := 0) (b := Z6) (by rw [Z6L.out]; omega)
    rw [r4]
    simp only
    omega
  have y5 := fun W => (Blk.new W 5 (bys Z6).toArray).byt Z6B.out
  have b5 := fun W : World => (Below.refl W.heap.size W).alloc (Nat.le_refl _) (.cells (bys Z6).toArray 5)
  have f5 := kturn_c (ch4.after (b5 w4)) (some ⟨w4.heap.size, 0, none⟩) 600 (by simp) Z6 (y5 w4) (fun a ha _ => .inr (by cases ha; exact ⟨_, Blk.new w4 _ _⟩)) (by rw [Z6L.out]; omega) (by simp) (by simp) (by rw [l4]; simp)
  rw [e5, Z6L.out] at f5
  simp only at f5
  have HH4 := Lib.hid H4
  have Y5 := Lib.hid y5
  have B5 := Lib.hid b5
  clear f4 ch4 e5 y5 b5 H4
  go_wp2_with fail
  with_reducible refine f5.mono ?_
  rintro e w5 ⟨rfl, ch5⟩
  have e6 : ckeepR ⟨0, 1, [], [], false⟩ ⟨0, 8, 1, 1, 1, false⟩ T Z6 = (18, ⟨0, 1, [], [], false⟩, ⟨0, 8, 1, 1, 1, false⟩, T) := by
    have hp : putR ⟨0, 8, 1, 1, 1, false⟩ T Z6 = (18, ⟨0, 8, 1, 1, 1, false⟩, T) := by
      unfold putR
      rw [if_neg (by simp), if_neg (by simp only; rw [formE_small (by simp) (by simp) (by rw [Z6L.out]; omega)]; simp), if_pos]
      have := recS_big (t := 1) (n := 1) (b := Z6) (by rw [Z6L.out]; omega)
      simp only
      omega
    unfold ckeepR
    rw [hp]
    rfl
  have f6 := kkeep_c (ch5.after (B5.out w5)) (some ⟨w5.heap.size, 0, none⟩) 600 (by simp) Z6 (Y5.out w5) (fun a ha _ => .inr (by cases ha; exact ⟨_, Blk.new w5 _ _⟩)) (by rw [Z6L.out]; omega) (fun _ => by simp; omega) (by rw [l4]; simp) (by simp)
  rw [e6, Z6L.out] at f6
  simp only at f6
  clear f5 ch5 e6
  go_wp2_with fail
  with_reducible refine f6.mono ?_
  rintro e w6 ⟨rfl, ch6⟩
  have e7 : turnR ⟨0, 1, [], [], false⟩ ⟨0, 8, 1, 1, 1, false⟩ T Z7 = (4, ⟨0, 1, [], [], false⟩, ⟨0, 8, 1, 1, 1, false⟩, T) := by
    have hf : formE ((1 + 1 : Nat) : Int) 0 Z7 = 4 := formE_long (n := 0) (by simp) (by omega) (by rw [Z7L.out]; omega)
    unfold turnR
    rw [if_neg (by simp), if_neg (by simp)]
    simp only [hf]
    rfl
  have y7 := fun W => (Blk.new W 5 (bys Z7).toArray).byt Z7B.out
  have b7 := fun W : World => (Below.refl W.heap.size W).alloc (Nat.le_refl _) (.cells (bys Z7).toArray 5)
  have f7 := kturn_c (ch6.after (b7 w6)) (some ⟨w6.heap.size, 0, none⟩) 70000 (by simp) Z7 (y7 w6) (fun a ha _ => .inr (by cases ha; exact ⟨_, Blk.new w6 _ _⟩)) (by rw [Z7L.out]; omega) (by simp) (by simp) (by rw [l4]; simp)
  rw [e7, Z7L.out] at f7
  simp only at f7
  clear f6 ch6 e7 y7 b7
  go_wp2_with fail
  with_reducible refine f7.mono ?_
  rintro e w7 ⟨rfl, ch7⟩
  have f8 := khead_c ch7 (by simp)
  clear f7 ch7
  go_wp2_with fail
  with_reducible refine f8.mono ?_
  rintro e w8 ⟨v8, rfl, o8, ch8, _⟩
  obtain ⟨A8, d8, rfl⟩ := o8.form
  rw [show ([] : List Int).length = 0 from rfl]
  obtain ⟨q, k0, s8⟩ := ch8.scroll rfl
  have f9 := left_any q (w.heap.size + 1) _ (by simp) (by simp) w8 s8
  simp only at f9
  have CH8 := Lib.hid ch8
  clear f8 o8 ch8 s8
  go_wp2_with fail
  with_reducible refine f9.mono ?_
  rintro e w9 ⟨rfl, k9, hw9⟩
  have ch9 := CH8.out.after (W' := w9) (by rw [hw9]; exact below_drewN (Below.refl _ _) _)
  have hfz : IntKind.i64.wrap (1 + a % 30) = 1 + a % 30 := by rw [IntKind.wrap_i64]; omega
  have hft : (a.tmod 30) = a % 30 := by rw [Int.tmod_eq_emod_of_nonneg ha0]
  have f10 := fuse_at ch9.at_ (1 + a % 30) (by omega)
  have CH9 := Lib.hid ch9
  clear f9 ch9 hw9 k0
  go_wp2_with fail
  with_reducible refine f10.mono ?_
  rintro e w10 ⟨rfl, at10, k10⟩
  have ch10 := CH9.out.drum k10 at10
  have hci : CInv 0 ⟨0, 1, [], [], false⟩ ⟨0, 8, 1, 1, 1, false⟩ { T with fuse := max (1 + a % 30) 0 } :=
    ⟨r4, by simp [l4], by simp, by simp, by simp, .inr ⟨rfl, HH4.out.good.1, rfl, rfl, by simp, by simp, by simp, rfl⟩⟩
  obtain ⟨S0, hS0⟩ : ∃ S0, ({ T with fuse := max (1 + a % 30) 0 } : DS) = S0 := ⟨_, rfl⟩
  rw [hS0] at ch10 hci
  have CH10 := Lib.hid ch10
  have CI := Lib.hid hci
  clear f10 at10 k10 ch10 hci hS0 hft hfz z6 z7 pq
  go_wp2_with fail
  go_loopg [10] N (fun k t wr => ∃ (i : Nat) (x : CS) (s : SS) (S : DS), i ≤ N ∧ k = N - i ∧ t = .int .i64 (i : Int) ∧ ChestAt w w.heap.size (w.heap.size + 1) w.heap.size r x s S wr ∧ CInv i x s S)
  case atStart => exact ⟨0, _, _, _, Nat.zero_le _, rfl, rfl, CH10.out, CI.out⟩
  case round =>
    obtain ⟨i, x, s, S, hi, hk, rfl, hch, hci⟩ := hrel
    have hon := kon hch
    by_cases hlt : i < N
    · obtain ⟨g, off, hA, hgs, hcl⟩ := HT.out.cell (by rw [HN.out]; omega)
      obtain ⟨t, htt⟩ : ∃ t, tn[i]'(by rw [HN.out]; exact hlt) = t := ⟨_, rfl⟩
      have hct := hcl i t (by rw [← htt]; exact List.getElem?_eq_getElem _)
      have hct' : wr.cell? ⟨g, off + i, none⟩ = some (.bool t) := (hch.at_.below.cell (p := ⟨g, off + i, none⟩) hgs).trans hct
      have hltI : (i : Int) < (N : Int) := by omega
      have hby : ∀ W, Below w.heap.size w W → Byt W A1 b := fun W hW => HBt.out.byt.belowB hW (fun a ha h0 => by
        obtain ⟨g9, o9, e9, hg9, _⟩ := HBt.out.byt.cell h0
        rw [ha] at e9
        cases e9
        exact hg9)
      have hbo : ∀ a, A1 = some a → 0 < b.length → a.block < w.heap.size ∨ ∃ cs, Blk wr a.block 5 cs := fun a ha h0 => by
        obtain ⟨g9, o9, e9, hg9, _⟩ := HBt.out.byt.cell h0
        rw [ha] at e9
        cases e9
        exact .inl hg9
      subst hA
      obtain ⟨e1, x1, s1, S1, hci1, hans, hcall⟩ : ∃ e1 x1 s1 S1, CInv (i + 1) x1 s1 S1 ∧ Ans S.off e1 S1.off ∧
          ((t = true → Calls Tryd.prog 42 #[.pointer (some ⟨r, 0, none⟩), .slice A1 BL c1] wr fun e W' => e = .returned (.int .i64 e1) ∧ ChestAt w w.heap.size (w.heap.size + 1) w.heap.size r x1 s1 S1 W') ∧
           (t = false → Calls Tryd.prog 37 #[.pointer (some ⟨r, 0, none⟩), .slice A1 BL c1] wr fun e W' => e = .returned (.int .i64 e1) ∧ ChestAt w w.heap.size (w.heap.size + 1) w.heap.size r x1 s1 S1 W')) := by
        cases t with
        | true =>
          have hR := hci.turn (b := b) (by omega) (by rw [HBL.out]; exact H100)
          have ft := kturn_c hch A1 c1 HBt.out.nil_ b (hby wr hch.at_.below) hbo (by rw [HBL.out]; omega) hci.sd (by have := hci.t; omega) (by have := hci.waits; omega)
          rw [HBL.out] at ft
          exact ⟨_, _, _, _, hR.1, hR.2, fun _ => ft, fun h => by cases h⟩
        | false =>
          have hR := hci.keep (b := b) (by omega) (by rw [HBL.out]; omega)
          have ft := kkeep_c hch A1 c1 HBt.out.nil_ b (hby wr hch.at_.below) hbo (by rw [HBL.out]; omega) (fun hg => by
            rcases hci.st with ⟨h, _⟩ | ⟨_, _, _, sm, sf, su, sn, _⟩
            · rw [hg] at h; cases h
            · exact ⟨su, by rw [hci.len]; exact sf, by omega⟩) (by have := hci.waits; omega) (by have := hci.ln; omega)
          rw [HBL.out] at ft
          exact ⟨_, _, _, _, hR.1, hR.2, (fun h => by cases h), fun _ => ft⟩
      have CI1 := Lib.hid hci1
      clear hci hci1 hch hby hbo hct htt hcl
      rcases hans with ⟨o1, rfl, o2⟩ | ⟨o1, o2, rfl | rfl⟩ | ⟨o1, o2, rfl⟩ <;> cases t
      all_goals
        first
        | (have ft := hcall.1 rfl; clear hcall)
        | (have ft := hcall.2 rfl; clear hcall)
        rw [o1] at hon
        clear o1
        go_wp2_with fail
        with_reducible refine hon.mono ?_
        rintro e w' ⟨rfl, hw⟩
        rw [← hw]
        clear hw hon
        go_wp2_with fail
        with_reducible refine ft.mono ?_
        rintro e w2 ⟨rfl, ch2⟩
        have hon2 := kon ch2
        rw [o2] at hon2
        have CH2 := Lib.hid ch2
        clear ft ch2 o2
        go_wp2_with fail
        with_reducible refine hon2.mono ?_
        rintro e w' ⟨rfl, hw⟩
        rw [← hw]
        clear hw
        go_wp2_with fail
        with_reducible refine hon2.mono ?_
        rintro e w' ⟨rfl, hw⟩
        rw [← hw]
        clear hw hon2
        go_wp2_with fail
        go_roundg (N - (i + 1))
        case measure => omega
        case rel => exact ⟨i + 1, x1, s1, S1, by omega, rfl, by go_num, CH2.out, CI1.out⟩
    · obtain rfl : i = N := by omega
      have hltI : ¬ ((i : Int) < (i : Int)) := by omega
      have hci0 := hci
      rcases hci.st with ⟨hg1, ho⟩ | ⟨_, ho, _⟩
      · rw [ho] at hon
        have hsy := ksync_c hch (by have := hci.waits; omega)
        have eS : csyncR x s S = (20, x, s, S) := by unfold csyncR; rw [if_pos hg1]
        have eT : turnR x s S [] = (20, x, s, S) := by unfold turnR; rw [if_pos hg1]
        have eK : ckeepR x s S [] = (20, x, s, S) := by unfold ckeepR; rw [if_pos hg1]
        rw [eS] at hsy
        have ET := Lib.hid eT
        have EK := Lib.hid eK
        have CI1 := Lib.hid hci
        have HG1 := Lib.hid hg1
        clear hch hci hci0 ho eS eT eK hg1
        go_wp2_with fail
        with_reducible refine hon.mono ?_
        rintro e w' ⟨rfl, hw⟩
        rw [← hw]
        clear hw hon
        go_wp2_with fail
        with_reducible refine hsy.mono ?_
        rintro e w2 ⟨rfl, ch2⟩
        have ht2 := kturn_c ch2 none 0 (fun _ => rfl) [] (Byt.nil _ _) (fun a h => by cases h) (by simp) CI1.out.sd (by have := CI1.out.t; omega) (by have := CI1.out.waits; omega)
        (try simp only at ht2)
        rw [ET.out] at ht2
        rw [show ([] : List Int).length = 0 from rfl] at ht2
        clear hsy ch2
        go_wp2_with fail
        with_reducible refine ht2.mono ?_
        rintro e w3 ⟨rfl, ch3⟩
        have hk3 := kkeep_c ch3 none 0 (fun _ => rfl) [] (Byt.nil _ _) (fun a h => by cases h) (by simp) (fun h => by rw [HG1.out] at h; cases h) (by have := CI1.out.waits; omega) (by have := CI1.out.ln; omega)
        (try simp only at hk3)
        rw [EK.out] at hk3
        rw [show ([] : List Int).length = 0 from rfl] at hk3
        clear ht2 ch3
        go_wp2_with fail
        with_reducible refine hk3.mono ?_
        rintro e w4 ⟨rfl, ch4⟩
        have aw := awake14 w4 ch4.at_.glob
        have CH4 := Lib.hid ch4
        clear hk3 ch4
        go_wp2_with fail
        with_reducible refine aw.mono ?_
        rintro e w5 ⟨rfl, c5⟩
        have C5 := Lib.hid c5
        clear c5 aw
        go_wp2_with fail
        go_ret
        exact ⟨rfl, CH4.out.at_.below.trans (C5.out.mono CH4.out.at_.below.size)⟩
      · rw [ho] at hon
        have aw := awake14 wr hch.at_.glob
        have CH4 := Lib.hid hch
        clear hch hci hci0 ho
        go_wp2_with fail
        with_reducible refine hon.mono ?_
        rintro e w' ⟨rfl, hw⟩
        rw [← hw]
        clear hw hon
        go_wp2_with fail
        with_reducible refine aw.mono ?_
        rintro e w5 ⟨rfl, c5⟩
        have C5 := Lib.hid c5
        clear c5 aw
        go_wp2_with fail
        go_ret
        exact ⟨rfl, CH4.out.at_.below.trans (C5.out.mono CH4.out.at_.below.size)⟩

end Go.Proofs.YtohadeijmmmcdaaDoor
