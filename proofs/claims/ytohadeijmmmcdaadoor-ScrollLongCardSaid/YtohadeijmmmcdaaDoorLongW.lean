/-
  ScrollLong: the walk.
-/
import Derived.Test.YtohadeijmmmcdaaDoorAwake
namespace Go.Proofs.YtohadeijmmmcdaaDoor
open Go.RowKit
set_option maxRecDepth 100000

theorem long_fields (n : Nat) (b : List Int) (hb : b.length = n) (_hn : n < 70000) : (fieldsP 5 6 b).length = 5 + n + (leP n).length := by
  rw [fieldsP_len, numP_len1 (by omega) (by omega), numP_len1 (by omega) (by omega), hb, numP_len]
  omega

set_option maxHeartbeats 4000000 in
theorem long_law (a : Int) (w : World) (ha : 0 ≤ a ∧ a ≤ 4294967295) (hg : Glob w) : Calls Tryd.prog 4 #[.int .u32 a] w fun e w' => e = .returned (.bool true) ∧ Below w.heap.size w w' := by
  obtain ⟨ha0, ha1⟩ := ha
  obtain ⟨n, hn⟩ : ∃ n : Nat, a % 70000 = (n : Int) := ⟨(a % 70000).toNat, by omega⟩
  have hn7 : n < 70000 := by omega
  have hwa : IntKind.i64.wrap a = a := by rw [IntKind.wrap_i64]; omega
  have hmk := make_bytes n (by omega) w
  obtain ⟨Z, hZ⟩ : ∃ Z, List.replicate n (0 : Int) = Z := ⟨_, rfl⟩
  have hZl : Z.length = n := by rw [← hZ]; simp
  have hZb : ∀ x ∈ Z, 0 ≤ x ∧ x ≤ 255 := by intro x hx; rw [← hZ] at hx; rw [List.eq_of_mem_replicate hx]; omega
  rw [hZ] at hmk
  have b1 : Below w.heap.size w (w.alloc (.cells (bys Z).toArray 5)) := (Below.refl _ w).alloc (Nat.le_refl _) _
  have y1 : Byt (w.alloc (.cells (bys Z).toArray 5)) (some ⟨w.heap.size, 0, none⟩) Z := (Blk.new w 5 (bys Z).toArray).byt hZb
  have f1 := form_any 5 6 (some ⟨w.heap.size, 0, none⟩) n (by simp) Z _ y1 (by omega) (hg.below b1)
  have hfl := long_fields n Z hZl hn7
  obtain ⟨F, hF⟩ : ∃ F, 5 + n + (leP n).length = F := ⟨_, rfl⟩
  rw [hF] at hfl
  have hE : formE 5 6 Z = if 65524 < F then 4 else 0 := by
    unfold formE
    rw [if_neg (by omega)]
    simp only [Int.reduceToNat, hfl]
    unfold secP
    by_cases h : 65524 < F
    · rw [if_pos h, if_pos (by omega)]
    · rw [if_neg h, if_neg (by omega)]
  have hV : (formV 5 6 Z).length = if 65524 < F then 0 else (12 + F + 63) / 64 * 64 := by
    unfold formV
    rw [hE]
    by_cases h : 65524 < F
    · rw [if_pos h, if_neg (by omega)]; rw [if_pos h]; rfl
    · rw [if_neg h, if_pos rfl, if_neg h, formP_len]
      simp only [Int.reduceToNat, hfl]
      rfl
  have hleb := leP_len 8 n (by omega)
  have hFb : F ≤ 70020 := by omega
  rw [hZl] at f1
  have HG := Lib.hid hg
  have B1 := Lib.hid b1
  have HE := Lib.hid hE
  have HV := Lib.hid hV
  have HF := Lib.hid hF
  obtain ⟨ZA, hZA⟩ : ∃ ZA, (bys Z).toArray = ZA := ⟨_, rfl⟩
  rw [hZA] at hmk f1
  rw [hZA] at B1
  obtain ⟨V, hVe⟩ : ∃ V, formV 5 6 Z = V := ⟨_, rfl⟩
  rw [hVe] at f1
  have HVe := Lib.hid hVe
  clear hg b1 y1 hE hV hF hfl hZ hZl hZb hZA hVe hleb
  go_enter Tryd.func4, Tryd.ntmps4
  go_wp2_with fail
  with_reducible refine f1.mono ?_
  rintro e w1 ⟨v, rfl, o1, c1⟩
  have k1 : Below w.heap.size w w1 := B1.out.trans (c1.mono (by simp))
  obtain ⟨A1, d1, rfl⟩ := o1.form
  have aw := awake13 w1 (HG.out.below k1)
  obtain ⟨VL, hVL⟩ : ∃ VL, V.length = VL := ⟨_, rfl⟩
  have hvl : VL = if 65524 < F then 0 else (12 + F + 63) / 64 * 64 := by rw [← hVL, ← HVe.out]; exact HV.out
  rw [hVL, hn]
  obtain ⟨E, hEE⟩ : ∃ E, formE 5 6 Z = E := ⟨_, rfl⟩
  have he : E = if 65524 < F then 4 else 0 := by rw [← hEE]; exact HE.out
  rw [hEE]
  have HVL := Lib.hid hvl
  have HEE := Lib.hid he
  have K1 := Lib.hid k1
  have AW := Lib.hid aw
  have hVLb : VL ≤ 70100 := by rw [hvl]; split <;> omega
  clear f1 o1 c1 k1 aw hVL hvl hEE he hn hwa
  go_wp2_with fail
  go_loop [6, 7] (fun f t => ∃ (j g : Nat), j ≤ n ∧ g + (leP j).length = F ∧ t = .int .i64 (j : Int) ∧ f = .int .i64 (g : Int)) (fun _ t => (intOf t).toNat)
  case atStart => exact ⟨n, 5 + n, Nat.le_refl _, HF.out, rfl, by go_num⟩
  case round =>
    obtain ⟨j, g, hj, hg, rfl, rfl⟩ := hrel
    have hgb : g ≤ F := by omega
    by_cases h0 : 0 < j
    · have hjI : (0 : Int) < (j : Int) := by omega
      have hg2 : g + 1 + (leP (j / 256)).length = F := by rw [leP_pos h0] at hg; simp only [List.length_cons] at hg; omega
      have HG2 := Lib.hid hg2
      clear hg hg2
      go_wp2_with fail
      go_round
      case rel => exact ⟨j / 256, g + 1, by omega, HG2.out, by go_num, by go_num⟩
      case measure => simp [intOf]; omega
    · obtain rfl : j = 0 := by omega
      rw [leP_zero] at hg
      obtain rfl : g = F := by simpa using hg
      clear hg
      by_cases hbig : 65524 < g
      · have e1 : E = 4 := by rw [HEE.out, if_pos hbig]
        have e2 : VL = 0 := by rw [HVL.out, if_pos hbig]
        subst e1
        subst e2
        have hbI : (65524 : Int) < (g : Int) := by omega
        clear hbig
        go_wp2_with fail
        with_reducible refine AW.out.mono ?_
        rintro e w2 ⟨rfl, c2⟩
        have C2 := Lib.hid c2
        clear c2
        go_wp2_with fail
        go_ret
        exact ⟨rfl, K1.out.trans (C2.out.mono K1.out.size)⟩
      · have e1 : E = 0 := by rw [HEE.out, if_neg hbig]
        have e2 : VL = (12 + g + 63) / 64 * 64 := by rw [HVL.out, if_neg hbig]
        subst e1
        have hbI : ¬ ((65524 : Int) < (g : Int)) := by omega
        have hq : (VL : Int) = (12 + (g : Int) + 63) / 64 * 64 := by omega
        have hqb : ((VL : Int) == (12 + (g : Int) + 63) / 64 * 64) = true := by rw [hq]; simp
        have HQ := Lib.hid hq
        clear hbig e2 hq
        go_wp2_with fail
        with_reducible refine AW.out.mono ?_
        rintro e w2 ⟨rfl, c2⟩
        have C2 := Lib.hid c2
        clear c2
        go_wp2_with fail
        go_ret
        exact ⟨rfl, K1.out.trans (C2.out.mono K1.out.size)⟩

end Go.Proofs.YtohadeijmmmcdaaDoor
