/-
  The document's example of a scroll: it is so.
-/
import Derived.Test.YtohadeijmmmcdaaDoorLawS
namespace Go.Proofs.YtohadeijmmmcdaaDoor
open Go.RowKit
set_option maxRecDepth 100000

theorem numP_len0 : (numP 0).length = 1 := by rw [numP_len, leP_zero]; rfl
theorem numP_len1 {n : Nat} (h0 : 0 < n) (h : n < 256) : (numP n).length = 2 := by
  rw [numP_len, leP_pos h0, show n / 256 = 0 by omega, leP_zero]; rfl
theorem numP_len9 {n : Nat} (h : n < 18446744073709551616) : (numP n).length ≤ 9 := by
  rw [numP_len]; have := leP_len8 h; omega
theorem fieldsP_len (t n : Nat) (b : List Int) : (fieldsP t n b).length = (numP t).length + (numP n).length + (numP b.length).length + b.length := by
  simp [fieldsP]; omega
theorem formE_small {t n : Nat} {b : List Int} (ht : t ≤ 1099511627776) (hn : n ≤ 1099511627776) (hb : b.length ≤ 65000) : formE (t : Int) (n : Int) b = 0 := by
  unfold formE
  rw [if_neg (by omega), if_neg]
  rw [Int.toNat_natCast, Int.toNat_natCast, fieldsP_len]
  have h1 := numP_len9 (n := t) (by omega)
  have h2 := numP_len9 (n := n) (by omega)
  have h3 := numP_len9 (n := b.length) (by omega)
  unfold secP
  omega
theorem Has.peek {S : DS} {s : SS} {b : List Int} {l : List (List Int)} (h : Has S s (b :: l)) : peekP S (s.f : Int) (s.m : Int) = some (s.t, b) := by
  unfold peekP
  have hr := h.room
  rw [if_pos (by simp [strP]; omega), if_neg (by rw [h.good.1]; simp), Int.toNat_natCast, Int.toNat_natCast, h.bytes]
  obtain ⟨h1, h2⟩ := h.fit
  obtain ⟨ht, hn, hs⟩ := formE_zero h1
  simp only [formsP, List.append_assoc]
  rw [readP_form ht hn hs]
  simp

theorem b60 : ∃ Z : List Int, Z.length = 60 ∧ (∀ x ∈ Z, 0 ≤ x ∧ x ≤ 255) ∧ ∀ W : World, (Instr.makeSlice 22 (.int .i64 60) (.int .i64 60)).run Tryd.prog W = .ok (.slice (some ⟨W.heap.size, 0, none⟩) 60 60) (W.alloc (.cells (bys Z).toArray 5)) :=
  ⟨List.replicate 60 0, by simp, fun x hx => by rw [List.eq_of_mem_replicate hx]; omega, fun W => make_bytes 60 (by omega) W⟩
theorem peq37 (q : Nat) (W : World) : (binOp .eql 37 (.pointer (some ⟨q, 0, none⟩)) (.pointer none)).run Tryd.prog W = .ok (.bool false) W := by rfl

set_option maxHeartbeats 4000000 in
theorem awake13 (w : World) (hg : Glob w) : Calls Tryd.prog 14 #[] w fun e w' => e = .returned (.bool true) ∧ Below w.heap.size w w' := by
  -- the first form
  have b1 : Below w.heap.size w (w.alloc (.cells #[.int .u8 1, .int .u8 2, .int .u8 3] 5)) := (Below.refl _ w).alloc (Nat.le_refl _) _
  have y1 : Byt (w.alloc (.cells #[.int .u8 1, .int .u8 2, .int .u8 3] 5)) (some ⟨w.heap.size, 0, none⟩) [1, 2, 3] := (Blk.new w 5 (bys [1, 2, 3]).toArray).byt (by intro x hx; simp at hx; omega)
  have f1 := form_any 0 0 (some ⟨w.heap.size, 0, none⟩) 3 (by simp) [1, 2, 3] _ y1 (by simp) (hg.below b1)
  have e1 : formE 0 0 [1, 2, 3] = 0 := formE_small (t := 0) (n := 0) (by omega) (by omega) (by simp)
  have l1 : (formV 0 0 [1, 2, 3]).length = 64 := by
    unfold formV
    rw [if_pos e1, formP_len, fieldsP_len]
    simp only [Int.toNat_zero, numP_len0, List.length_cons, List.length_nil]
    rw [show 0 + 1 + 1 + 1 = 3 from rfl, numP_len1 (by omega) (by omega)]
    rfl
  rw [e1] at f1
  obtain ⟨V1, hV1⟩ : ∃ V, formV 0 0 [1, 2, 3] = V := ⟨_, rfl⟩
  rw [hV1] at f1 l1
  rw [show ([1, 2, 3] : List Int).length = 3 from rfl] at f1
  obtain ⟨Z, hZl, hZb, hmk⟩ := b60
  have e2 : formE 0 0 Z = 0 := formE_small (t := 0) (n := 0) (by omega) (by omega) (by omega)
  have l2 : (formV 0 0 Z).length = 128 := by
    unfold formV
    rw [if_pos e2, formP_len, fieldsP_len, hZl]
    simp only [Int.toNat_zero, numP_len0]
    rw [numP_len1 (by omega) (by omega)]
    rfl
  obtain ⟨V2, hV2⟩ : ∃ V, formV 0 0 Z = V := ⟨_, rfl⟩
  rw [hV2] at l2
  have HG := Lib.hid hg
  have B1 := Lib.hid b1
  have HZ := Lib.hid hZb
  have HZl := Lib.hid hZl
  have HV2 := Lib.hid hV2
  have E2 := Lib.hid e2
  have L1 := Lib.hid l1
  have L2 := Lib.hid l2
  obtain ⟨ZA, hZA⟩ : ∃ ZA, (bys Z).toArray = ZA := ⟨_, rfl⟩
  rw [hZA] at hmk
  have HZA := Lib.hid hZA
  clear hg y1 b1 hV1 hV2 e1 e2 l1 l2 hZb hZl hZA
  go_enter Tryd.func14, Tryd.ntmps14
  go_wp2_with fail
  with_reducible refine f1.mono ?_
  rintro e w1 ⟨v1, rfl, o1, c1⟩
  have k1 : Below w.heap.size w w1 := B1.out.trans (c1.mono (by simp))
  obtain ⟨A1, d1, rfl⟩ := o1.form
  rw [L1.out]
  have b2 : Below w1.heap.size w1 (w1.alloc (.cells ZA 5)) := (Below.refl _ w1).alloc (Nat.le_refl _) _
  have y2 : Byt (w1.alloc (.cells ZA 5)) (some ⟨w1.heap.size, 0, none⟩) Z := by rw [← HZA.out]; exact (Blk.new w1 5 (bys Z).toArray).byt HZ.out
  have f2 := form_any 0 0 (some ⟨w1.heap.size, 0, none⟩) 60 (by simp) Z _ y2 (by rw [HZl.out]; omega) (HG.out.below (k1.trans (b2.mono k1.size)))
  rw [E2.out, HV2.out, HZl.out] at f2
  have K1 := Lib.hid k1
  have B2 := Lib.hid b2
  clear f1 o1 c1 k1 y2 b2
  go_wp2_with fail
  with_reducible refine f2.mono ?_
  rintro e w2 ⟨v2, rfl, o2, c2⟩
  have k2 : Below w.heap.size w w2 := K1.out.trans ((B2.out.mono K1.out.size).trans (c2.mono (by have := K1.out.size; simp; omega)))
  obtain ⟨A2, d2, rfl⟩ := o2.form
  rw [L2.out]
  have f3 := new_drum 4 w2 (by omega) (by omega)
  rw [show ((4 : Nat) : Int) = 4 from rfl] at f3
  obtain ⟨S0, hS0⟩ : ∃ S, DS.new 4 = S := ⟨_, rfl⟩
  have g0 : S0.Good := by rw [← hS0]; exact DS.new_good 4
  have n0 : S0.sure.length = 4 := by rw [← hS0]; simp [DS.new]
  have m0 : S0.waits.length = 0 := by rw [← hS0]; rfl
  rw [hS0] at f3
  have K2 := Lib.hid k2
  clear f2 o2 c2 k2 hS0
  go_wp2_with fail
  with_reducible refine f3.mono ?_
  rintro e w3 ⟨rfl, d3, c3⟩
  have k3 : Below w.heap.size w w3 := K2.out.trans (c3.mono K2.out.size)
  have f4 := blank_any w2.heap.size (w2.heap.size + 1) w2.heap.size (.slice none 0 0) S0 1 3 7 w3 d3 (by omega) (by omega) (by omega) (HG.out.below k3)
  rw [show ((1 : Nat) : Int) = 1 from rfl, show ((3 : Nat) : Int) = 3 from rfl, show ((7 : Nat) : Int) = 7 from rfl] at f4
  obtain ⟨h1, _, _, h4, _⟩ := wipeR_good d3.ok g0 (f := 1) (m := 3) (by omega)
  have hb := Has.blank d3.ok g0 (f := 1) (m := 3) (t := 7) (by omega) (by unfold mostP; omega)
  obtain ⟨⟨er, S1⟩, hW⟩ : ∃ P, wipeR S0 1 3 = P := ⟨_, rfl⟩
  rw [hW] at f4 h1 h4 hb
  simp only at f4 h1 h4 hb
  subst h1
  have hs3 : w2.heap.size ≤ w3.heap.size := c3.size
  have K3 := Lib.hid k3
  have HB := Lib.hid hb
  clear f3 d3 c3 k3 hW hb g0 n0
  go_wp2_with fail
  with_reducible refine f4.mono ?_
  rintro e w4 ⟨hbp, ⟨wv4, d4⟩, c4⟩
  rcases hbp with ⟨_, q, rfl, s4, hq⟩ | ⟨h, _⟩
  rotate_left
  · exact absurd rfl h
  have pq := peq37 q
  have b5 : Below w4.heap.size w4 (w4.alloc (.cells #[.int .u8 9] 5)) := (Below.refl _ w4).alloc (Nat.le_refl _) _
  have y5 : Byt (w4.alloc (.cells #[.int .u8 9] 5)) (some ⟨w4.heap.size, 0, none⟩) [9] := (Blk.new w4 5 (bys [9]).toArray).byt (by intro x hx; simp at hx; omega)
  have kb5 : Kept w2.heap.size dts w4 (w4.alloc (.cells #[.int .u8 9] 5)) := Kept.of_below b5 (by have := d4.lt (.inl rfl); omega)
  have hr5 : recS 7 0 [9] = 1 := by
    unfold recS
    rw [fieldsP_len, numP_len0, numP_len1 (by omega) (by omega)]
    simp only [List.length_cons, List.length_nil]
    rw [numP_len1 (by omega) (by omega)]
    rfl
  have he5 : formE ((7 : Nat) : Int) ((0 : Nat) : Int) [9] = 0 := formE_small (by omega) (by omega) (by simp)
  obtain ⟨p1, p2, p3, p4, p5, _⟩ := HB.out.put (b := [9]) he5 (by simp only; rw [hr5]; omega)
  have f5 := put_any w2.heap.size q (w2.heap.size + 1) w2.heap.size wv4 ⟨1, 3, 7, 0, 0, false⟩ S1 (some ⟨w4.heap.size, 0, none⟩) 1 (by simp) [9] _ (Kept.drum_below b5 d4) (s4.kept kb5 (by decide)) (by omega) (by simp) (by have := HB.out.room; simp only at this ⊢; omega) (by simp) (by omega) y5 (by simp) (HG.out.below ((K3.out.trans (c4.below.mono (by have := K2.out.size; omega))).trans (b5.mono (by have := c4.size; have := K3.out.size; omega))))
  rw [show ([9] : List Int).length = 1 from rfl] at f5
  obtain ⟨⟨pe, ps, S2⟩, hP⟩ : ∃ P, putR ⟨1, 3, 7, 0, 0, false⟩ S1 [9] = P := ⟨_, rfl⟩
  rw [hP] at f5 p1 p2 p3 p4 p5
  simp only at f5 p1 p2 p3 p4 p5
  subst p1
  subst p2
  rw [hr5] at p3 p5
  simp only [hr5] at f5
  have HP3 := Lib.hid p3
  have C4 := Lib.hid c4
  have KB5 := Lib.hid kb5
  have hpq : w2.heap.size ≤ q := by omega
  have hs4 : w2.heap.size ≤ w4.heap.size := Nat.le_trans hs3 c4.size
  clear f4 d4 c4 s4 y5 kb5 he5 hr5 hP p3 p4
  go_wp2_with fail
  with_reducible refine f5.mono ?_
  rintro e w5 ⟨rfl, ⟨wv5, d5⟩, s5, c5⟩
  have hlf := left_any q (w2.heap.size + 1) _ (by simp only; omega) (by simp only; omega) w5 s5
  simp only at hlf
  have D5 := Lib.hid d5
  have C5 := Lib.hid c5
  clear f5 d5 s5 c5
  go_wp2_with fail
  with_reducible refine hlf.mono ?_
  rintro e w6 ⟨rfl, k6, hw6⟩
  have d6 : IsDrum w2.heap.size w6 (w2.heap.size + 1) w2.heap.size wv5 S2 := by rw [hw6]; exact D5.out.fr (F := fun _ => False) ((Fr.refl _ _).drewN _) (fun _ _ h => h)
  have k6 : Below w.heap.size w w6 := by
    rw [hw6]
    refine below_drewN ?_ _
    have hK2 := K2.out.size
    exact K3.out.trans ((C4.out.below.mono hK2).trans ((KB5.out.below.mono hK2).trans (C5.out.below.mono hK2)))
  have f7 := peek_any w2.heap.size (w2.heap.size + 1) w2.heap.size wv5 S2 1 3 (by omega) w6 d6 (by omega) (HG.out.below k6)
  have e7 := HP3.out.peek
  simp only at e7
  rw [show ((1 : Nat) : Int) = 1 from rfl, show ((3 : Nat) : Int) = 3 from rfl] at e7
  rw [e7] at f7
  have K6 := Lib.hid k6
  clear hlf d6 k6 hw6 e7
  go_wp2_with fail
  with_reducible refine f7.mono ?_
  rintro e w7 ⟨⟨v7, rfl, o7⟩, c7⟩
  obtain ⟨A7, d7, rfl⟩ := o7.form
  have k7 : w7.cell? ⟨0, 0, none⟩ = w7.cell? ⟨0, 0, none⟩ := rfl
  obtain ⟨g, oo, e9, hg9, hc9⟩ : ∃ g o, A7 = some ⟨g, o, none⟩ ∧ g < w7.heap.size ∧ w7.cell? ⟨g, o, none⟩ = some (.int .u8 9) := by
    obtain ⟨A', c', e1, hy, _, _⟩ := o7.byt (by intro x hx; simp at hx; omega)
    cases e1
    obtain ⟨g, o, e2, hg, hc⟩ := hy.cell (by simp)
    exact ⟨g, o, e2, hg, by simpa using hc 0 9 (by simp)⟩
  subst e9
  rw [show ([9] : List Int).length = 1 from rfl]
  have C7 := Lib.hid c7
  clear f7 o7 c7 k7 hg9
  go_wp2_with fail
  go_ret
  exact ⟨rfl, K6.out.trans (C7.out.mono K6.out.size)⟩

end Go.Proofs.YtohadeijmmmcdaaDoor
