/-
  seisinlaw14.bytes: what a drum has.
-/
import Derived.Test.YtohadeijmmmcdaaDoorSKeepB
namespace Go.Proofs.YtohadeijmmmcdaaDoor
open Go.RowKit
set_option maxRecDepth 100000

section
attribute [local go_sem ↓] apt22_of
set_option maxHeartbeats 4000000 in
theorem kbytes_any (B : Nat) (p gs : Nat) (wv : Value) (S : DS) (n : Nat) (w : World) (h : IsDrum B w p gs wv S) (hoff : S.off = false) (hn : S.sure.length = n) (hlen : S.waits.length ≤ 1000000000) :
    Calls Tryd.prog 49 #[.pointer (some ⟨p, 0, none⟩)] w fun e w' => ∃ v, e = .returned v ∧ Own8 w.heap.size w' v (stP S 0 n) ∧ Below w.heap.size w w' := by
  have hn2 := h.ok.n2
  rw [hn] at hn2
  have H := Lib.hid h
  have HOF := Lib.hid hoff
  have HNS := Lib.hid hn
  clear h hoff hn
  go_enter Tryd.func49, Tryd.ntmps49
  go_wp2_with fail
  go_loopg [3, 4] n (fun k v t wr => ∃ (i N : Nat) (A : Option Addr) (c : Nat), i + k = n ∧ t = .int .i64 (i : Int) ∧ N = 64 * i ∧ v = .slice A N c ∧ Own8 w.heap.size wr v (stP S 0 i) ∧ Below w.heap.size w wr)
  case atStart => exact ⟨0, 0, none, 0, by omega, rfl, rfl, rfl, by simpa [stP] using Own8.nil _ _, Below.refl _ _⟩
  case round =>
    obtain ⟨i, N, A2, c2, hi, rfl, hN, rfl, ho, hb⟩ := hrel
    have hsl : (stP S 0 i).length = N := by rw [stP_len H.out.ok 0 i (by rw [HNS.out]; omega), hN]
    have HO := Lib.hid ho
    have HB := Lib.hid hb
    have HSL := Lib.hid hsl
    have HN := Lib.hid hN
    clear ho hb hsl hN
    have hdl := H.out.fr (Fr.of_below HB.out) (fun k hk h => by have := (H.out.lt hk).2; omega)
    have hle := len_any p gs S.sure.length wv S.fuse S.off wr hdl.st
    rw [HNS.out] at hle
    have HLE := Lib.hid hle
    clear hdl hle
    by_cases hlt : i < n
    · have hltI : (i : Int) < (n : Int) := by omega
      have hd := H.out.fr (Fr.of_below HB.out) (fun k hk h => by have := (H.out.lt hk).2; omega)
      have hr := read_any B p gs wv S (i : Int) wr hd hlen
      have e1 : S.read (i : Int) = (S.now i, 0) := by
        unfold DS.read
        rw [HOF.out, if_neg (by simp), if_neg (by rw [HNS.out]; omega), Int.toNat_natCast]
      have h64 : (S.now i).length = 64 := (DS.now_sec H.out.ok (by rw [HNS.out]; omega)).1
      rw [e1] at hr
      simp only [h64] at hr
      have HR := Lib.hid hr
      have H64 := Lib.hid h64
      clear hr e1 h64 hd
      go_wp2_with fail
      with_reducible refine HLE.out.mono ?_
      rintro e w' ⟨rfl, hw⟩
      rw [← hw]
      clear hw HLE
      go_wp2_with fail
      with_reducible refine HR.out.mono ?_
      rintro e w1 ⟨A3, c3, rfl, hnew, hB1⟩
      have hA3 : A3 = none → c3 = 0 := by
        rintro rfl
        obtain ⟨g, o, e, _⟩ := hnew.byt.cell (by rw [H64.out]; omega)
        cases e
      have ho1 := HO.out.fr (Fr.of_below hB1) (fun k hk h => by have := (HO.out.lt hk).2; omega)
      obtain ⟨v4, w4, hap, ho4, hf4, _⟩ := app8 (ty := 22) (c := c3) ho1 hnew.byt (by rw [HSL.out, H64.out]; have := HN.out; omega) (Nat.le_trans HB.out.size hB1.size) hA3
      obtain ⟨A4, c4, rfl⟩ := ho4.form
      rw [H64.out] at hap
      have hl4 : (stP S 0 i ++ S.now i).length = N + 64 := by rw [List.length_append, HSL.out, H64.out]
      rw [hl4] at hap ho4
      rw [show stP S 0 i ++ S.now i = stP S 0 (i + 1) by rw [stP_succ, Nat.zero_add]] at ho4
      have HO4 := Lib.hid ho4
      have BB4 := Lib.hid ((HB.out.trans (hB1.mono HB.out.size)).trans (hf4.below (Nat.le_trans HB.out.size hB1.size) (fun k hk e => by have := (HO.out.lt e).1; omega)))
      clear hnew hB1 ho1 ho4 hf4 hA3 hl4 HR
      go_wp2_with fail
      go_roundg (n - (i + 1))
      case measure => omega
      case rel => exact ⟨i + 1, N + 64, _, _, by omega, by go_num, by have := HN.out; omega, rfl, HO4.out, BB4.out⟩
    · obtain rfl : i = n := by omega
      have hltI : ¬ (i : Int) < (i : Int) := by omega
      go_wp2_with fail
      with_reducible refine HLE.out.mono ?_
      rintro e w' ⟨rfl, hw⟩
      rw [← hw]
      clear hw HLE
      go_wp2_with fail
      go_ret
      exact ⟨_, rfl, HO.out, HB.out⟩
end
end Go.Proofs.YtohadeijmmmcdaaDoor
