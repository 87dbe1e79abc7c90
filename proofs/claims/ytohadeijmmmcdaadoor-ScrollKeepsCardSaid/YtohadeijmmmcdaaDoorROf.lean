/-
  The document's digest of bytes (seisinref03.Of), the sum of fields (seisinref13.Sum).
-/
import Derived.Test.YtohadeijmmmcdaaDoorRSum
import Derived.Test.YtohadeijmmmcdaaDoorRNum
import Derived.Deep.CutRange
namespace Go.Proofs.YtohadeijmmmcdaaDoor
open Go.RowKit
set_option maxRecDepth 100000

section
set_option maxHeartbeats 4000000 in
theorem rfirst_any (w : World) : Calls Tryd.prog 95 #[] w fun e w' => e = .returned (.slice (some ⟨w.heap.size, 0, none⟩) 8 8) ∧ w' = w.alloc (.cells (w32s H0).toArray 31) := by
  go_enter Tryd.func95, Tryd.ntmps95
  go_wp2_with fail
  go_ret
  exact ⟨rfl, rfl⟩

set_option maxHeartbeats 4000000 in
theorem rrounds_any (w : World) : Calls Tryd.prog 96 #[] w fun e w' => e = .returned (.slice (some ⟨w.heap.size, 0, none⟩) 64 64) ∧ w' = w.alloc (.cells (w32s K0).toArray 31) := by
  go_enter Tryd.func96, Tryd.ntmps96
  go_wp2_with fail
  go_ret
  exact ⟨rfl, rfl⟩

theorem Wds.blk {w : World} {g : Nat} {t : TypeId} {l : List Int} (h : Blk w g t (w32s l).toArray) : Wds w (some ⟨g, 0, none⟩) l := by
  refine ⟨g, 0, rfl, h.lt, fun i hi => ?_⟩
  rw [Nat.zero_add, h.cell i]
  simp [w32s, List.getD, hi]

attribute [local go_sem ↓] ld123 st123 al123
set_option maxHeartbeats 4000000 in
theorem rof_any (A : Option Addr) (c : Nat) (hcA : A = none → c = 0) (b : List Int) (w : World) (hb : Byt w A b) (hl : b.length ≤ 100000000) :
    Calls Tryd.prog 83 #[.slice A b.length c] w fun e w' => e = .returned (.agg (bys (shaP b)).toArray) ∧ Below w.heap.size w w' := by
  obtain ⟨z, hz1, hz2⟩ := Option.map_eq_some_iff.1 z123
  have hal := ALs_new (P := Tryd.prog) (t := 123) z hz1 w
  obtain ⟨Z, hZ⟩ : ∃ Z, z.cells = Z := ⟨_, rfl⟩
  rw [hZ] at hal hz2
  have hzs : Z.size = 32 := by rw [← Array.length_toList, hz2]; rfl
  have b0 := Blk.new w 123 Z
  have B0 : Below w.heap.size w (w.alloc (.cells Z 123)) := (Below.refl _ w).alloc (Nat.le_refl _) _
  have hs0 : (w.alloc (.cells Z 123)).heap.size = w.heap.size + 1 := by simp
  obtain ⟨W, hW⟩ : ∃ W, w.alloc (.cells Z 123) = W := ⟨_, rfl⟩
  rw [hW] at hal b0 B0 hs0
  have HB := Lib.hid hb
  have HB0 := Lib.hid b0
  have HBl := Lib.hid B0
  have HS := Lib.hid hs0
  have HZ := Lib.hid hzs
  obtain ⟨n, hn⟩ : ∃ n, b.length = n := ⟨_, rfl⟩
  rw [hn]
  have HN := Lib.hid hn
  clear hb b0 B0 hs0 hz1 hz2 hZ hW hzs hn
  go_enter Tryd.func83, Tryd.ntmps83
  go_wp2_with fail
  with_reducible refine (rfirst_any W).mono ?_
  rintro e w1 ⟨rfl, rfl⟩
  have b1 := Blk.new W 31 (w32s H0).toArray
  have B1 : Below W.heap.size W (W.alloc (.cells (w32s H0).toArray 31)) := (Below.refl _ W).alloc (Nat.le_refl _) _
  have hs1 : (W.alloc (.cells (w32s H0).toArray 31)).heap.size = W.heap.size + 1 := by simp
  obtain ⟨X, hX⟩ : ∃ X, W.alloc (.cells (w32s H0).toArray 31) = X := ⟨_, rfl⟩
  rw [hX] at b1 B1 hs1 ⊢
  have H1 := Lib.hid b1
  have HB1 := Lib.hid B1
  have HS1 := Lib.hid hs1
  clear hX b1 B1 hs1
  go_wp2_with fail
  with_reducible refine (rrounds_any X).mono ?_
  rintro e w2 ⟨rfl, rfl⟩
  have b2 := Blk.new X 31 (w32s K0).toArray
  have B2 : Below X.heap.size X (X.alloc (.cells (w32s K0).toArray 31)) := (Below.refl _ X).alloc (Nat.le_refl _) _
  have b1 := H1.out.alloc (.cells (w32s K0).toArray 31)
  obtain ⟨Y, hY⟩ : ∃ Y, X.alloc (.cells (w32s K0).toArray 31) = Y := ⟨_, rfl⟩
  rw [hY] at b2 B2 b1 ⊢
  have hBY : Below W.heap.size W Y := HB1.out.trans (B2.mono HB1.out.size)
  have H2 := Lib.hid b2
  have HBY := Lib.hid hBY
  have H1' := Lib.hid b1
  clear hY b2 B2 hBY b1
  go_wp2_with fail
  have hcl := rsum_any A c hcA b (some ⟨W.heap.size, 0, none⟩) (some ⟨X.heap.size, 0, none⟩) 8 64 Y ((HB.out.below HBl.out).below HBY.out) hl (Wds.blk H1'.out) (Wds.blk H2.out)
  rw [HN.out] at hcl
  with_reducible refine hcl.mono ?_
  rintro e w3 ⟨rfl, hb3⟩
  have hBW : Below W.heap.size W w3 := HBY.out.trans (hb3.mono HBY.out.size)
  have hb0 : Blk w3 w.heap.size 123 Z := HB0.out.fr (Fr.of_below hBW) (by have := HB0.out.lt; omega)
  have hl32 : (bys (shaP b)).length = 32 := by rw [bys_length, shaP_len]
  have hst := STs_blk (P := Tryd.prog) (t := 123) i123 hb0 (off := 0) (bys (shaP b)) hl32 (by rw [HZ.out]; omega) (bys_one _)
  rw [splice_whole _ _ (by rw [hl32, HZ.out])] at hst
  have HBW := Lib.hid hBW
  have HB3 := Lib.hid hb0
  have HL := Lib.hid hl32
  clear hcl hb3 hBW hb0 hl32
  go_wp2_with fail
  exact bodyPost_ret (results_arr rfl _ _ w.heap.size 123 (bys (shaP b)) _ rfl (HB3.out.row_ _) undId rfl (by rw [HL.out]; exact i123)) rfl ⟨rfl, Below.setRow (HBl.out.trans (HBW.out.mono (by have := HS.out; omega))) (Nat.le_refl _) _⟩

attribute [local go_sem ↓] apt22_of
set_option maxHeartbeats 4000000 in
/-- The sum of fields, by the document. -/
theorem rsum13_any (A : Option Addr) (c : Nat) (hcA : A = none → c = 0) (f : List Int) (w : World) (hb : Byt w A f) (hl : f.length ≤ 90000000) :
    Calls Tryd.prog 60 #[.slice A f.length c] w fun e w' => ∃ v, e = .returned v ∧ Own8 w.heap.size w' v (sumP f) ∧ Below w.heap.size w w' := by
  obtain ⟨z, hz1, hz2⟩ := Option.map_eq_some_iff.1 z123
  have HAL := Lib.hid (fun W => ALs_new (P := Tryd.prog) (t := 123) z hz1 W)
  obtain ⟨Z, hZ⟩ : ∃ Z, z.cells = Z := ⟨_, rfl⟩
  rw [hZ] at HAL hz2
  have hzs : Z.size = 32 := by rw [← Array.length_toList, hz2]; rfl
  have hbx : Byt (w.alloc (.cells #[.int .u8 13] 5)) A f := hb.below ((Below.refl _ w).alloc (Nat.le_refl _) (.cells (bys [13]).toArray 5))
  have h0 : Own8 w.heap.size (w.alloc (.cells #[.int .u8 13] 5)) (.slice (some ⟨w.heap.size, 0, none⟩) 1 1) [13] := own8_lit (B := w.heap.size) w [13] (Nat.le_refl _) (by simp)
  have B0 : Below w.heap.size w (w.alloc (.cells #[.int .u8 13] 5)) := (Below.refl _ w).alloc (Nat.le_refl _) _
  obtain ⟨n, hn⟩ : ∃ n, f.length = n := ⟨_, rfl⟩
  rw [hn]
  have HB := Lib.hid hbx
  have H0 := Lib.hid h0
  have HB0 := Lib.hid B0
  have HZ := Lib.hid hzs
  have HN := Lib.hid hn
  have HBD := Lib.hid hb.bd
  rw [hn] at hl
  clear hb h0 B0 hz1 hz2 hZ hzs hn hbx
  go_enter Tryd.func60, Tryd.ntmps60
  go_wp2_with fail
  have hlg := rlong_any A c hcA f _ HB.out (by rw [HN.out]; omega)
  rw [HN.out] at hlg
  with_reducible refine hlg.mono ?_
  rintro e w1 ⟨v1, rfl, ho1, hb1⟩
  obtain ⟨A1, c1, rfl⟩ := ho1.form
  have hbd4 : ∀ x ∈ be4P n ++ f, 0 ≤ x ∧ x ≤ 255 := fun x hx => by
    rcases List.mem_append.1 hx with h | h
    · exact be4P_bd n x h
    · exact HBD.out x h
  have hbd5 : ∀ x ∈ [13] ++ (be4P n ++ f), 0 ≤ x ∧ x ≤ 255 := fun x hx => by
    rcases List.mem_append.1 hx with h | h
    · simp at h; omega
    · exact hbd4 x h
  obtain ⟨A1', c1', e1, hy1, _, hc1⟩ := ho1.byt hbd4
  simp only [Value.slice.injEq, true_and] at e1
  obtain ⟨rfl, rfl⟩ := e1
  have hn1 : (be4P n ++ f).length = n + 4 := by rw [List.length_append, be4P_len, HN.out]; omega
  have hA1 : A1 = none → c1 = 0 := fun e => by
    subst e
    obtain ⟨g, o, e, _⟩ := hy1.cell (by omega)
    cases e
  have h13 : Own8 w.heap.size w1 (.slice (some ⟨w.heap.size, 0, none⟩) 1 1) [13] := H0.out.fr (Fr.of_below hb1) (fun k hk e => by have := (H0.out.lt hk).2; omega)
  obtain ⟨v2, w2, hap, ho2, hf2, _⟩ := app8 (ty := 22) (c := c1) h13 hy1 (by rw [hn1]; simp; omega) (Nat.le_trans HB0.out.size hb1.size) hA1
  have hB2 : Below w.heap.size w w2 := (HB0.out.trans (hb1.mono HB0.out.size)).trans (hf2.below (Nat.le_trans HB0.out.size hb1.size) (fun k hk e => by have := (h13.lt e).1; omega))
  obtain ⟨A2, c2, e2, hy2, _, hc2⟩ := ho2.byt hbd5
  subst e2
  have hn2 : ([13] ++ (be4P n ++ f)).length = n + 5 := by rw [List.length_append, hn1]; simp; omega
  have hA2 : A2 = none → c2 = 0 := fun e => by
    subst e
    obtain ⟨g, o, e, _⟩ := hy2.cell (by omega)
    cases e
  have hof := rof_any A2 c2 hA2 _ w2 hy2 (by rw [hn2]; omega)
  obtain ⟨S, hS⟩ : ∃ S, shaP ([13] ++ (be4P n ++ f)) = S := ⟨_, rfl⟩
  rw [hS, hn2] at hof
  rw [hn1] at hap ⊢
  rw [hn2] at hap
  have HB2 := Lib.hid hB2
  have HOF := Lib.hid hof
  have HSS := Lib.hid hS
  clear ho1 hy1 ho2 hy2 hf2 h13 hb1 hB2 hof hS hlg hbd4 hbd5 hn1 hn2 hc1 hc2
  go_wp2_with fail
  with_reducible refine HOF.out.mono ?_
  rintro e w3 ⟨rfl, hb3⟩
  have hl32 : (bys S).length = 32 := by rw [bys_length, ← HSS.out, shaP_len]
  have hal := HAL.out w3
  have hst := STs_new (P := Tryd.prog) (t := 123) i123 w3 Z (by rw [HZ.out]) (bys S) hl32 (bys_one S)
  have hbS := Blk.new w3 123 (bys S).toArray
  have hB3 : Below w.heap.size w (w3.alloc (.cells (bys S).toArray 123)) := (HB2.out.trans (hb3.mono HB2.out.size)).alloc (Nat.le_trans HB2.out.size hb3.size) _
  have hbw : w.heap.size ≤ w3.heap.size := Nat.le_trans HB2.out.size hb3.size
  have HBS := Lib.hid hbS
  have HB3 := Lib.hid hB3
  have HL := Lib.hid hl32
  clear hb3 hbS hB3 hl32
  go_wp2_with fail
  have hS32 : S.length = 32 := by rw [← HSS.out, shaP_len]
  have hSb : ∀ x ∈ S, 0 ≤ x ∧ x ≤ 255 := by rw [← HSS.out]; exact shaP_bd _
  have hsum : S.take 8 = sumP f := by rw [← HSS.out, ← HN.out]; rfl
  have HS32 := Lib.hid hS32
  have HSB := Lib.hid hSb
  have HSUM := Lib.hid hsum
  clear hal hst hap hS32 hSb hsum
  go_loopg [4, 5] 8 (fun k v t wr => ∃ (i : Nat) (A : Option Addr) (c : Nat), i + k = 8 ∧ t = .int .i64 (i : Int) ∧ v = .slice A i c ∧ Own8 w.heap.size wr v (S.take i) ∧ Blk wr w3.heap.size 123 (bys S).toArray ∧ Below w.heap.size w wr)
  case atStart => exact ⟨0, none, 0, by omega, rfl, rfl, Own8.nil _ _, HBS.out, HB3.out⟩
  case round =>
    clear HBS HB3
    obtain ⟨i, A3, c3, hi, rfl, rfl, ho, hbS, hbl⟩ := hrel
    have hlj : (S.take i).length = i := by rw [List.length_take, HS32.out]; omega
    by_cases hlt : i < 8
    · have hltI : (i : Int) < 8 := by omega
      have hlt32 : (i : Int) < 32 := by omega
      have hiS : i < S.length := by rw [HS32.out]; omega
      obtain ⟨x, hx⟩ : ∃ x, S[i] = x := ⟨_, rfl⟩
      have k1 : wr.cell? ⟨w3.heap.size, i, none⟩ = some (.int .u8 x) := by
        rw [hbS.cell i]
        simp [bys, hiS, hx]
      have hxb := HSB.out x (hx ▸ List.getElem_mem hiS)
      obtain ⟨v', w', hap, ho', hf', _⟩ := app8_one (ty := 22) (x := x) ho hxb (by rw [hlj]; omega) hbl.size
      have hne := own_ne ho hbS (by decide)
      have hbS' := hbS.fr hf' hne
      obtain ⟨A6, c6, rfl⟩ := ho'.form
      rw [List.length_append, hlj] at hap ho'
      have ht1 : S.take (i + 1) = S.take i ++ [x] := by rw [List.take_succ_eq_append_getElem hiS, hx]
      rw [← ht1] at ho'
      have hbl' := hbl.trans (hf'.below hbl.size (fun k hk e => by have := (ho.lt e).1; omega))
      have HO := Lib.hid ho'
      have HBS := Lib.hid hbS'
      have HBL := Lib.hid hbl'
      clear ho ho' hbS hbS' hf' hbl hbl' ht1 hlj hne hx hiS
      go_wp2_with fail
      go_roundg (8 - (i + 1))
      case measure => omega
      case rel => exact ⟨i + 1, _, _, by omega, by go_num, rfl, HO.out, HBS.out, HBL.out⟩
    · obtain rfl : i = 8 := by omega
      have hltI : ¬ (((8 : Nat) : Int) < 8) := by omega
      rw [HSUM.out] at ho
      have HO := Lib.hid ho
      have HBL := Lib.hid hbl
      clear ho hbS hbl hlj
      go_wp2_with fail
      go_ret
      exact ⟨_, rfl, HO.out, HBL.out⟩
end

end Go.Proofs.YtohadeijmmmcdaaDoor
