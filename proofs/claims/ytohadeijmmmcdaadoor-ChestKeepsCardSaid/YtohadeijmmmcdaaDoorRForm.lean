/-
  The document's digest of bytes (seisinref03.Of), the sum of fields (seisinref13.Sum).
  The document's form of a record (seisinref13.Form).
-/
import Derived.Test.YtohadeijmmmcdaaDoorRSum
import Derived.Test.YtohadeijmmmcdaaDoorRNum
import Derived.Deep.CutRange
import Derived.Test.YtohadeijmmmcdaaDoorForm
import Derived.Test.YtohadeijmmmcdaaDoorRTake

section
namespace Go.Proofs.YtohadeijmmmcdaaDoor
open Go.RowKit
set_option maxRecDepth 100000

section
set_option maxHeartbeats 4000000 in
theorem rfirst_any (w : World) : Calls Tryd.prog 95 #[] w fun e w' => e = .returned (.slice (some ⟨w.heap.size, 0, none⟩) 8 8) ∧ w' = w.alloc (.cells (w32s H0).toArray 31) := by
  go_enter Tryd.func95, Tryd.ntmps95
  go_wp2_with fail
  go_ret
  exact ⟨rfl, rfl⟩

set_option maxHeartbeats 4000000 in
theorem rrounds_any (w : World) : Calls Tryd.prog 96 #[] w fun e w' => e = .returned (.slice (some ⟨w.heap.size, 0, none⟩) 64 64) ∧ w' = w.alloc (.cells (w32s K0).toArray 31) := by
  go_enter Tryd.func96, Tryd.ntmps96
  go_wp2_with fail
  go_ret
  exact ⟨rfl, rfl⟩

theorem Wds.blk {w : World} {g : Nat} {t : TypeId} {l : List Int} (h : Blk w g t (w32s l).toArray) : Wds w (some ⟨g, 0, none⟩) l := by
  refine ⟨g, 0, rfl, h.lt, fun i hi => ?_⟩
  rw [Nat.zero_add, h.cell i]
  simp [w32s, List.getD, hi]

attribute [local go_sem ↓] ld123 st123 al123
set_option maxHeartbeats 4000000 in
theorem rof_any (A : Option Addr) (c : Nat) (hcA : A = none → c = 0) (b : List Int) (w : World) (hb : Byt w A b) (hl : b.length ≤ 100000000) :
    Calls Tryd.prog 83 #[.slice A b.length c] w fun e w' => e = .returned (.agg (bys (shaP b)).toArray) ∧ Below w.heap.size w w' := by
  obtain ⟨z, hz1, hz2⟩ := Option.map_eq_some_iff.1 z123
  have hal := ALs_new (P := Tryd.prog) (t := 123) z hz1 w
  obtain ⟨Z, hZ⟩ : ∃ Z, z.cells = Z := ⟨_, rfl⟩
  rw [hZ] at hal hz2
  have hzs : Z.size = 32 := by rw [← Array.length_toList, hz2]; rfl
  have b0 := Blk.new w 123 Z
  have B0 : Below w.heap.size w (w.alloc (.cells Z 123)) := (Below.refl _ w).alloc (Nat.le_refl _) _
  have hs0 : (w.alloc (.cells Z 123)).heap.size = w.heap.size + 1 := by simp
  obtain ⟨W, hW⟩ : ∃ W, w.alloc (.cells Z 123) = W := ⟨_, rfl⟩
  rw [hW] at hal b0 B0 hs0
  have HB := Lib.hid hb
  have HB0 := Lib.hid b0
  have HBl := Lib.hid B0
  have HS := Lib.hid hs0
  have HZ := Lib.hid hzs
  obtain ⟨n, hn⟩ : ∃ n, b.length = n := ⟨_, rfl⟩
  rw [hn]
  have HN := Lib.hid hn
  clear hb b0 B0 hs0 hz1 hz2 hZ hW hzs hn
  go_enter Tryd.func83, Tryd.ntmps83
  go_wp2_with fail
  with_reducible refine (rfirst_any W).mono ?_
  rintro e w1 ⟨rfl, rfl⟩
  have b1 := Blk.new W 31 (w32s H0).toArray
  have B1 : Below W.heap.size W (W.alloc (.cells (w32s H0).toArray 31)) := (Below.refl _ W).alloc (Nat.le_refl _) _
  have hs1 : (W.alloc (.cells (w32s H0).toArray 31)).heap.size = W.heap.size + 1 := by simp
  obtain ⟨X, hX⟩ : ∃ X, W.alloc (.cells (w32s H0).toArray 31) = X := ⟨_, rfl⟩
  rw [hX] at b1 B1 hs1 ⊢
  have H1 := Lib.hid b1
  have HB1 := Lib.hid B1
  have HS1 := Lib.hid hs1
  clear hX b1 B1 hs1
  go_wp2_with fail
  with_reducible refine (rrounds_any X).mono ?_
  rintro e w2 ⟨rfl, rfl⟩
  have b2 := Blk.new X 31 (w32s K0).toArray
  have B2 : Below X.heap.size X (X.alloc (.cells (w32s K0).toArray 31)) := (Below.refl _ X).alloc (Nat.le_refl _) _
  have b1 := H1.out.alloc (.cells (w32s K0).toArray 31)
  obtain ⟨Y, hY⟩ : ∃ Y, X.alloc (.cells (w32s K0).toArray 31) = Y := ⟨_, rfl⟩
  rw [hY] at b2 B2 b1 ⊢
  have hBY : Below W.heap.size W Y := HB1.out.trans (B2.mono HB1.out.size)
  have H2 := Lib.hid b2
  have HBY := Lib.hid hBY
  have H1' := Lib.hid b1
  clear hY b2 B2 hBY b1
  go_wp2_with fail
  have hcl := rsum_any A c hcA b (some ⟨W.heap.size, 0, none⟩) (some ⟨X.heap.size, 0, none⟩) 8 64 Y ((HB.out.below HBl.out).below HBY.out) hl (Wds.blk H1'.out) (Wds.blk H2.out)
  rw [HN.out] at hcl
  with_reducible refine hcl.mono ?_
  rintro e w3 ⟨rfl, hb3⟩
  have hBW : Below W.heap.size W w3 := HBY.out.trans (hb3.mono HBY.out.size)
  have hb0 : Blk w3 w.heap.size 123 Z := HB0.out.fr (Fr.of_below hBW) (by have := HB0.out.lt; omega)
  have hl32 : (bys (shaP b)).length = 32 := by rw [bys_length, shaP_len]
  have hst := STs_blk (P := Tryd.prog) (t := 123) i123 hb0 (off := 0) (bys (shaP b)) hl32 (by rw [HZ.out]; omega) (bys_one _)
  rw [splice_whole _ _ (by rw [hl32, HZ.out])] at hst
  have HBW := Lib.hid hBW
  have HB3 := Lib.hid hb0
  have HL := Lib.hid hl32
  clear hcl hb3 hBW hb0 hl32
  go_wp2_with fail
  exact bodyPost_ret (results_arr rfl _ _ w.heap.size 123 (bys (shaP b)) _ rfl (HB3.out.row_ _) undId rfl (by rw [HL.out]; exact i123)) rfl ⟨rfl, Below.setRow (HBl.out.trans (HBW.out.mono (by have := HS.out; omega))) (Nat.le_refl _) _⟩

attribute [local go_sem ↓] apt22_of
set_option maxHeartbeats 4000000 in
/-- The sum of fields, by the document. -/
theorem rsum13_any (A : Option Addr) (c : Nat) (hcA : A = none → c = 0) (f : List Int) (w : World) (hb : Byt w A f) (hl : f.length ≤ 90000000) :
    Calls Tryd.prog 60 #[.slice A f.length c] w fun e w' => ∃ v, e = .returned v ∧ Own8 w.heap.size w' v (sumP f) ∧ Below w.heap.size w w' := by
  obtain ⟨z, hz1, hz2⟩ := Option.map_eq_some_iff.1 z123
  have HAL := Lib.hid (fun W => ALs_new (P := Tryd.prog) (t := 123) z hz1 W)
  obtain ⟨Z, hZ⟩ : ∃ Z, z.cells = Z := ⟨_, rfl⟩
  rw [hZ] at HAL hz2
  have hzs : Z.size = 32 := by rw [← Array.length_toList, hz2]; rfl
  have hbx : Byt (w.alloc (.cells #[.int .u8 13] 5)) A f := hb.below ((Below.refl _ w).alloc (Nat.le_refl _) (.cells (bys [13]).toArray 5))
  have h0 : Own8 w.heap.size (w.alloc (.cells #[.int .u8 13] 5)) (.slice (some ⟨w.heap.size, 0, none⟩) 1 1) [13] := own8_lit (B := w.heap.size) w [13] (Nat.le_refl _) (by simp)
  have B0 : Below w.heap.size w (w.alloc (.cells #[.int .u8 13] 5)) := (Below.refl _ w).alloc (Nat.le_refl _) _
  obtain ⟨n, hn⟩ : ∃ n, f.length = n := ⟨_, rfl⟩
  rw [hn]
  have HB := Lib.hid hbx
  have H0 := Lib.hid h0
  have HB0 := Lib.hid B0
  have HZ := Lib.hid hzs
  have HN := Lib.hid hn
  have HBD := Lib.hid hb.bd
  rw [hn] at hl
  clear hb h0 B0 hz1 hz2 hZ hzs hn hbx
  go_enter Tryd.func60, Tryd.ntmps60
  go_wp2_with fail
  have hlg := rlong_any A c hcA f _ HB.out (by rw [HN.out]; omega)
  rw [HN.out] at hlg
  with_reducible refine hlg.mono ?_
  rintro e w1 ⟨v1, rfl, ho1, hb1⟩
  obtain ⟨A1, c1, rfl⟩ := ho1.form
  have hbd4 : ∀ x ∈ be4P n ++ f, 0 ≤ x ∧ x ≤ 255 := fun x hx => by
    rcases List.mem_append.1 hx with h | h
    · exact be4P_bd n x h
    · exact HBD.out x h
  have hbd5 : ∀ x ∈ [13] ++ (be4P n ++ f), 0 ≤ x ∧ x ≤ 255 := fun x hx => by
    rcases List.mem_append.1 hx with h | h
    · simp at h; omega
    · exact hbd4 x h
  obtain ⟨A1', c1', e1, hy1, _, hc1⟩ := ho1.byt hbd4
  simp only [Value.slice.injEq, true_and] at e1
  obtain ⟨rfl, rfl⟩ := e1
  have hn1 : (be4P n ++ f).length = n + 4 := by rw [List.length_append, be4P_len, HN.out]; omega
  have hA1 : A1 = none → c1 = 0 := fun e => by
    subst e
    obtain ⟨g, o, e, _⟩ := hy1.cell (by omega)
    cases e
  have h13 : Own8 w.heap.size w1 (.slice (some ⟨w.heap.size, 0, none⟩) 1 1) [13] := H0.out.fr (Fr.of_below hb1) (fun k hk e => by have := (H0.out.lt hk).2; omega)
  obtain ⟨v2, w2, hap, ho2, hf2, _⟩ := app8 (ty := 22) (c := c1) h13 hy1 (by rw [hn1]; simp; omega) (Nat.le_trans HB0.out.size hb1.size) hA1
  have hB2 : Below w.heap.size w w2 := (HB0.out.trans (hb1.mono HB0.out.size)).trans (hf2.below (Nat.le_trans HB0.out.size hb1.size) (fun k hk e => by have := (h13.lt e).1; omega))
  obtain ⟨A2, c2, e2, hy2, _, hc2⟩ := ho2.byt hbd5
  subst e2
  have hn2 : ([13] ++ (be4P n ++ f)).length = n + 5 := by rw [List.length_append, hn1]; simp; omega
  have hA2 : A2 = none → c2 = 0 := fun e => by
    subst e
    obtain ⟨g, o, e, _⟩ := hy2.cell (by omega)
    cases e
  have hof := rof_any A2 c2 hA2 _ w2 hy2 (by rw [hn2]; omega)
  obtain ⟨S, hS⟩ : ∃ S, shaP ([13] ++ (be4P n ++ f)) = S := ⟨_, rfl⟩
  rw [hS, hn2] at hof
  rw [hn1] at hap ⊢
  rw [hn2] at hap
  have HB2 := Lib.hid hB2
  have HOF := Lib.hid hof
  have HSS := Lib.hid hS
  clear ho1 hy1 ho2 hy2 hf2 h13 hb1 hB2 hof hS hlg hbd4 hbd5 hn1 hn2 hc1 hc2
  go_wp2_with fail
  with_reducible refine HOF.out.mono ?_
  rintro e w3 ⟨rfl, hb3⟩
  have hl32 : (bys S).length = 32 := by rw [bys_length, ← HSS.out, shaP_len]
  have hal := HAL.out w3
  have hst := STs_new (P := Tryd.prog) (t := 123) i123 w3 Z (by rw [HZ.out]) (bys S) hl32 (bys_one S)
  have hbS := Blk.new w3 123 (bys S).toArray
  have hB3 : Below w.heap.size w (w3.alloc (.cells (bys S).toArray 123)) := (HB2.out.trans (hb3.mono HB2.out.size)).alloc (Nat.le_trans HB2.out.size hb3.size) _
  have hbw : w.heap.size ≤ w3.heap.size := Nat.le_trans HB2.out.size hb3.size
  have HBS := Lib.hid hbS
  have HB3 := Lib.hid hB3
  have HL := Lib.hid hl32
  clear hb3 hbS hB3 hl32
  go_wp2_with fail
  have hS32 : S.length = 32 := by rw [← HSS.out, shaP_len]
  have hSb : ∀ x ∈ S, 0 ≤ x ∧ x ≤ 255 := by rw [← HSS.out]; exact shaP_bd _
  have hsum : S.take 8 = sumP f := by rw [← HSS.out, ← HN.out]; rfl
  have HS32 := Lib.hid hS32
  have HSB := Lib.hid hSb
  have HSUM := Lib.hid hsum
  clear hal hst hap hS32 hSb hsum
  go_loopg [4, 5] 8 (fun k v t wr => ∃ (i : Nat) (A : Option Addr) (c : Nat), i + k = 8 ∧ t = .int .i64 (i : Int) ∧ v = .slice A i c ∧ Own8 w.heap.size wr v (S.take i) ∧ Blk wr w3.heap.size 123 (bys S).toArray ∧ Below w.heap.size w wr)
  case atStart => exact ⟨0, none, 0, by omega, rfl, rfl, Own8.nil _ _, HBS.out, HB3.out⟩
  case round =>
    clear HBS HB3
    obtain ⟨i, A3, c3, hi, rfl, rfl, ho, hbS, hbl⟩ := hrel
    have hlj : (S.take i).length = i := by rw [List.length_take, HS32.out]; omega
    by_cases hlt : i < 8
    · have hltI : (i : Int) < 8 := by omega
      have hlt32 : (i : Int) < 32 := by omega
      have hiS : i < S.length := by rw [HS32.out]; omega
      obtain ⟨x, hx⟩ : ∃ x, S[i] = x := ⟨_, rfl⟩
      have k1 : wr.cell? ⟨w3.heap.size, i, none⟩ = some (.int .u8 x) := by
        rw [hbS.cell i]
        simp [bys, hiS, hx]
      have hxb := HSB.out x (hx ▸ List.getElem_mem hiS)
      obtain ⟨v', w', hap, ho', hf', _⟩ := app8_one (ty := 22) (x := x) ho hxb (by rw [hlj]; omega) hbl.size
      have hne := own_ne ho hbS (by decide)
      have hbS' := hbS.fr hf' hne
      obtain ⟨A6, c6, rfl⟩ := ho'.form
      rw [List.length_append, hlj] at hap ho'
      have ht1 : S.take (i + 1) = S.take i ++ [x] := by rw [List.take_succ_eq_append_getElem hiS, hx]
      rw [← ht1] at ho'
      have hbl' := hbl.trans (hf'.below hbl.size (fun k hk e => by have := (ho.lt e).1; omega))
      have HO := Lib.hid ho'
      have HBS := Lib.hid hbS'
      have HBL := Lib.hid hbl'
      clear ho ho' hbS hbS' hf' hbl hbl' ht1 hlj hne hx hiS
      go_wp2_with fail
      go_roundg (8 - (i + 1))
      case measure => omega
      case rel => exact ⟨i + 1, _, _, by omega, by go_num, rfl, HO.out, HBS.out, HBL.out⟩
    · obtain rfl : i = 8 := by omega
      have hltI : ¬ (((8 : Nat) : Int) < 8) := by omega
      rw [HSUM.out] at ho
      have HO := Lib.hid ho
      have HBL := Lib.hid hbl
      clear ho hbS hbl hlj
      go_wp2_with fail
      go_ret
      exact ⟨_, rfl, HO.out, HBL.out⟩
end

end Go.Proofs.YtohadeijmmmcdaaDoor
end

section
namespace Go.Proofs.YtohadeijmmmcdaaDoor
open Go.RowKit
set_option maxRecDepth 100000

section
attribute [local go_sem ↓] apt22_of slc22

/-- What is known of an append of what is one's own to what is one's own. -/
theorem app8_own {ty : TypeId} {B B' : Nat} {w : World} {A : Option Addr} {c : Nat} {v : Value} {l m : List Int} (h : Own8 B w v l) (hm : Own8 B' w (.slice A m.length c) m) (hb : ∀ x ∈ m, 0 ≤ x ∧ x ≤ 255) (hlen : l.length + m.length ≤ 1000000000) (hB : B ≤ w.heap.size) :
    ∃ v' w', (APs #[22, 22] ty #[v, .slice A m.length c]).run Tryd.prog w = .ok v' w' ∧ Own8 B w' v' (l ++ m) ∧ Fr (fun k => v.ownBlock = some k) w w' ∧ Foot w v v' := by
  obtain ⟨A', c', e, hy, _, hc⟩ := hm.byt hb
  simp only [Value.slice.injEq, true_and] at e
  obtain ⟨rfl, rfl⟩ := e
  refine app8 h hy hlen hB (fun e => ?_)
  subst e
  obtain ⟨_, ⟨h2, _⟩ | ⟨g, cap, cur, h2, _⟩⟩ := hm
  · simp only [Value.slice.injEq] at h2
    exact h2.2.2
  · simp at h2
theorem Own8.nul {B n c : Nat} {w : World} {l : List Int} (h : Own8 B w (.slice none n c) l) : c = 0 := by
  obtain ⟨_, ⟨h2, _⟩ | ⟨g, cap, cur, h2, _⟩⟩ := h
  · simp only [Value.slice.injEq] at h2
    exact h2.2.2
  · simp at h2

theorem formE_range {t n : Int} {b : List Int} (h : ¬ (0 ≤ t ∧ t ≤ 1099511627776) ∨ ¬ (0 ≤ n ∧ n ≤ 1099511627776)) : formE t n b = 5 ∧ formV t n b = [] := by
  have e : formE t n b = 5 := by unfold formE; rw [if_pos h]
  exact ⟨e, by unfold formV; rw [e]; rfl⟩

set_option maxHeartbeats 8000000 in
theorem rform_bad (t n : Int) (A : Option Addr) (c : Nat) (b : List Int) (w : World) (h : ¬ (0 ≤ t ∧ t ≤ 1099511627776) ∨ ¬ (0 ≤ n ∧ n ≤ 1099511627776)) :
    Calls Tryd.prog 16 #[.int .i64 t, .int .i64 n, .slice A b.length c] w fun e w' => e = .returned (.tuple #[.slice none 0 0, .int .i64 5]) ∧ w' = w := by
  by_cases h1 : t < 0
  · go_enter Tryd.func16, Tryd.ntmps16
    go_wp2_with fail
    go_ret2
    exact ⟨rfl, rfl⟩
  by_cases h2 : 1099511627776 < t
  · go_enter Tryd.func16, Tryd.ntmps16
    go_wp2_with fail
    go_ret2
    exact ⟨rfl, rfl⟩
  by_cases h3 : n < 0
  · go_enter Tryd.func16, Tryd.ntmps16
    go_wp2_with fail
    go_ret2
    exact ⟨rfl, rfl⟩
  have h4 : 1099511627776 < n := by omega
  go_enter Tryd.func16, Tryd.ntmps16
  go_wp2_with fail
  go_ret2
  exact ⟨rfl, rfl⟩

theorem World.ownsRow.base_le {B B' : Nat} {w : World} {e : TypeId} {size n : Nat} {v : Value} {xs : List Value} (h : w.ownsRow B e size v n xs) (hB : B' ≤ B) : w.ownsRow B' e size v n xs := by
  obtain ⟨h1, h2 | ⟨g, cap, cur, h3, h4, h5⟩⟩ := h
  · exact ⟨h1, .inl h2⟩
  · exact ⟨h1, .inr ⟨g, cap, cur, h3, Nat.le_trans hB h4, h5⟩⟩

/-- The document's bytes, and its error. -/
def RFormPost (n₀ : Nat) (t n : Int) (b : List Int) (e : Ending) (w' : World) : Prop :=
  ∃ v, e = .returned (.tuple #[v, .int .i64 (formE t n b)]) ∧ Own8 n₀ w' v (formV t n b)

set_option maxHeartbeats 16000000 in
theorem rform_ok (T N : Nat) (hT1 : (T : Int) ≤ 1099511627776) (hN1 : (N : Int) ≤ 1099511627776) (A : Option Addr) (c : Nat) (hcA : A = none → c = 0) (b : List Int) (w : World) (hb : Byt w A b) (hlen : b.length ≤ 80000000) :
    Calls Tryd.prog 16 #[.int .i64 (T : Int), .int .i64 (N : Int), .slice A b.length c] w fun e w' => RFormPost w.heap.size T N b e w' ∧ Below w.heap.size w w' := by
  have hT : T ≤ mostP := by unfold mostP; omega
  have hN : N ≤ mostP := by unfold mostP; omega
  have hTb := numP_bd (n := T) (by omega)
  have hNb := numP_bd (n := N) (by omega)
  have hFb := fieldsP_bd hT hN hb.bd (by omega)
  have hTn : (numP T).length ≤ 9 := by have := leP_len8 (n := T) (by omega); rw [numP_len]; omega
  have hNn : (numP N).length ≤ 9 := by have := leP_len8 (n := N) (by omega); rw [numP_len]; omega
  have hMn : (numP b.length).length ≤ 9 := by have := leP_len8 (n := b.length) (by omega); rw [numP_len]; omega
  have hMb := numP_bd (n := b.length) (by omega)
  have hF : numP T ++ numP N ++ numP b.length ++ b = fieldsP T N b := by simp [fieldsP]
  have hE1 : formE (T : Int) (N : Int) b = if 1024 < secP (12 + (fieldsP T N b).length) then 4 else 0 := by
    unfold formE
    rw [if_neg (by omega), Int.toNat_natCast, Int.toNat_natCast]
  obtain ⟨m, hm⟩ : ∃ m, b.length = m := ⟨_, rfl⟩
  obtain ⟨nT, hnT⟩ : ∃ x, numP T = x := ⟨_, rfl⟩
  obtain ⟨nN, hnN⟩ : ∃ x, numP N = x := ⟨_, rfl⟩
  rw [hm] at hlen hMn hF hMb ⊢
  obtain ⟨nM, hnM⟩ : ∃ x, numP m = x := ⟨_, rfl⟩
  obtain ⟨F, hFF⟩ : ∃ F, fieldsP T N b = F := ⟨_, rfl⟩
  rw [hnT, hnN, hnM, hFF] at hF
  rw [hFF] at hFb hE1
  rw [hnT] at hTb hTn
  rw [hnN] at hNb hNn
  rw [hnM] at hMn hMb
  have hV : formE (T : Int) (N : Int) b = 0 → formV (T : Int) (N : Int) b = be4P F.length ++ sumP F ++ F ++ List.replicate (secP (12 + F.length) * 64 - (12 + F.length)) 0 := fun e => by
    unfold formV
    rw [if_pos e, Int.toNat_natCast, Int.toNat_natCast]
    unfold formP
    rw [hFF]
  have hFl : F.length = nT.length + nN.length + nM.length + m := by rw [← hF, ← hm]; simp; omega
  have hFle : F.length ≤ 80000027 := by omega
  have HB := Lib.hid hb
  have HM := Lib.hid hm
  have HTb := Lib.hid hTb
  have HNb := Lib.hid hNb
  have HMb := Lib.hid hMb
  have HFb := Lib.hid hFb
  have HE := Lib.hid hE1
  have HV := Lib.hid hV
  have HF := Lib.hid hF
  have HFl := Lib.hid hFl
  have HnT := Lib.hid hnT
  have HnN := Lib.hid hnN
  have HnM := Lib.hid hnM
  clear hb hm hTb hNb hMb hFb hE1 hV hF hFl hnT hnN hnM hT hN hFF
  go_enter Tryd.func16, Tryd.ntmps16
  go_wp2_with fail
  with_reducible refine (rnum_any T (by omega) w).mono ?_
  rintro e w1 ⟨v1, rfl, o1, b1⟩
  rw [HnT.out] at o1
  obtain ⟨A1, c1, rfl⟩ := o1.form
  obtain ⟨lT, hlT⟩ : ∃ x, nT.length = x := ⟨_, rfl⟩
  rw [hlT] at o1 hTn ⊢
  have O1 := Lib.hid o1
  have B1 := Lib.hid b1
  have HlT := Lib.hid hlT
  clear o1 b1 hlT
  go_wp2_with fail
  with_reducible refine (rnum_any N (by omega) w1).mono ?_
  rintro e w2 ⟨v2, rfl, o2, b2⟩
  rw [HnN.out] at o2
  obtain ⟨A2, c2, rfl⟩ := o2.form
  have o1' : Own8 w.heap.size w2 (.slice A1 lT c1) nT := O1.out.fr (Fr.of_below b2) (fun k hk e => by have := (O1.out.lt hk).2; omega)
  have b2w : Below w.heap.size w w2 := B1.out.trans (b2.mono B1.out.size)
  obtain ⟨v3, w3, hap3, o3, f3, _⟩ := app8_own (ty := 22) o1' o2 HNb.out (by rw [HlT.out]; omega) b2w.size
  have b3 : Below w.heap.size w w3 := b2w.trans (f3.below b2w.size (fun k hk e => by have := (o1'.lt e).1; omega))
  obtain ⟨A3, c3, rfl⟩ := o3.form
  obtain ⟨l3, hl3⟩ : ∃ x, (nT ++ nN).length = x := ⟨_, rfl⟩
  have hl3b : l3 ≤ 18 := by rw [← hl3, List.length_append, HlT.out]; omega
  rw [hl3] at o3 hap3
  obtain ⟨lN, hlN⟩ : ∃ x, nN.length = x := ⟨_, rfl⟩
  rw [hlN] at hap3 ⊢
  have O3 := Lib.hid o3
  have B3 := Lib.hid b3
  have Hl3 := Lib.hid hl3
  clear o1' o2 o3 b2 b2w b3 f3 hl3 hlN O1 B1
  go_wp2_with fail
  clear hap3
  with_reducible refine (rnum_any m (by omega) w3).mono ?_
  rintro e w4 ⟨v4, rfl, o4, b4⟩
  rw [HnM.out] at o4
  obtain ⟨A4, c4, rfl⟩ := o4.form
  have o3' : Own8 w.heap.size w4 (.slice A3 l3 c3) (nT ++ nN) := O3.out.fr (Fr.of_below b4) (fun k hk e => by have := (O3.out.lt hk).2; omega)
  have b4w : Below w.heap.size w w4 := B3.out.trans (b4.mono B3.out.size)
  obtain ⟨v5, w5, hap5, o5, f5, _⟩ := app8_own (ty := 22) o3' o4 HMb.out (by rw [Hl3.out]; omega) b4w.size
  have b5 : Below w.heap.size w w5 := b4w.trans (f5.below b4w.size (fun k hk e => by have := (o3'.lt e).1; omega))
  obtain ⟨A5, c5, rfl⟩ := o5.form
  obtain ⟨l5, hl5⟩ : ∃ x, (nT ++ nN ++ nM).length = x := ⟨_, rfl⟩
  have hl5b : l5 ≤ 27 := by rw [← hl5, List.length_append, Hl3.out]; omega
  obtain ⟨lM, hlM⟩ : ∃ x, nM.length = x := ⟨_, rfl⟩
  rw [hl5] at o5 hap5
  rw [hlM] at hap5 ⊢
  obtain ⟨v6, w6, hap6, o6, f6, _⟩ := app8 (ty := 22) (c := c) o5 (HB.out.below b5) (by rw [hl5, HM.out]; omega) b5.size hcA
  have b6 : Below w.heap.size w w6 := b5.trans (f6.below b5.size (fun k hk e => by have := (o5.lt e).1; omega))
  rw [HF.out] at o6
  obtain ⟨A6, c6, rfl⟩ := o6.form
  obtain ⟨L, hL⟩ : ∃ L, F.length = L := ⟨_, rfl⟩
  rw [HM.out, hL] at hap6
  rw [hL] at o6 HE HV HFl hFle
  have O6 := Lib.hid o6
  have B6 := Lib.hid b6
  have HL := Lib.hid hL
  clear o3' o4 o5 o6 b4 b4w b5 b6 f5 f6 hl5 hlM hL O3 B3
  by_cases hbig : 65524 < L
  · have hbI : (65524 : Int) < (L : Int) := by omega
    have hE : formE (T : Int) (N : Int) b = 4 := by rw [HE.out, if_pos (by unfold secP; omega)]
    have hV : formV (T : Int) (N : Int) b = [] := by unfold formV; rw [hE]; rfl
    have HE4 := Lib.hid hE
    have HV4 := Lib.hid hV
    clear hE hV
    go_wp2_with fail
    go_ret2
    exact ⟨⟨_, by rw [HE4.out]; rfl, by rw [HV4.out]; exact Own8.nil _ _⟩, B6.out⟩
  have hbI : (L : Int) ≤ 65524 := by omega
  have hE : formE (T : Int) (N : Int) b = 0 := by rw [HE.out, if_neg (by unfold secP; omega)]
  have hV := HV.out hE
  have HE0 := Lib.hid hE
  have HV0 := Lib.hid hV
  clear hE hV
  go_wp2_with fail
  clear hap5 hap6
  obtain ⟨A6', c6', e6, y6, _, k6⟩ := O6.out.byt HFb.out
  rw [HL.out] at e6
  simp only [Value.slice.injEq, true_and] at e6
  obtain ⟨rfl, rfl⟩ := e6
  have hcA6 : A6 = none → c6 = 0 := fun e => by subst e; exact O6.out.nul
  have hlg := rlong_any A6 c6 hcA6 F w6 y6 (by rw [HL.out]; omega)
  rw [HL.out] at hlg
  with_reducible refine hlg.mono ?_
  rintro e w7 ⟨v7, rfl, o7, b7⟩
  have hbd7 : ∀ x ∈ be4P L ++ F, 0 ≤ x ∧ x ≤ 255 := fun x hx => by
    rcases List.mem_append.1 hx with h | h
    · exact be4P_bd L x h
    · exact HFb.out x h
  have hl7 : (be4P L ++ F).length = L + 4 := by rw [List.length_append, be4P_len, HL.out]; omega
  obtain ⟨A7, c7, e7, y7, hA7, k7⟩ := o7.byt hbd7
  subst e7
  rw [hl7] at k7
  obtain ⟨A8, hsl, y8, hb8, hn8⟩ := part8u y7 c7 0 4 none (some (.int .i64 4)) (by omega) (by rw [hl7]; omega) (by rw [hl7]; exact k7) (.inl ⟨rfl, rfl⟩) (.inr ⟨_, _, rfl, rfl⟩)
  rw [hl7] at hsl ⊢
  have e8 : ((be4P L ++ F).drop 0).take (4 - 0) = be4P L := by
    rw [List.drop_zero, Nat.sub_zero]
    exact List.take_left' (be4P_len L)
  rw [e8] at y8
  rw [Nat.sub_zero, Nat.sub_zero] at hsl
  have b7w : Below w.heap.size w w7 := B6.out.trans (b7.mono B6.out.size)
  have o6' : Own8 w.heap.size w7 (.slice A6 L c6) F := O6.out.fr (Fr.of_below b7) (fun k hk e => by have := (O6.out.lt hk).2; omega)
  -- append([]byte{}, long[:4]...)
  have h0 : Own8 w7.heap.size (w7.alloc (.cells #[] 5)) (.slice (some ⟨w7.heap.size, 0, none⟩) 0 0) [] := own_nul w7 _ _ (Nat.le_refl _)
  have b7a : Below w7.heap.size w7 (w7.alloc (.cells #[] 5)) := (Below.refl _ w7).alloc (Nat.le_refl _) _
  obtain ⟨v9, w9, hap9, o9, f9, _⟩ := app8 (ty := 22) (c := c7) h0 (y8.below b7a) (by rw [be4P_len]; simp) (by simp) (fun e => by
    have h1 := hn8 e
    subst h1
    exact o7.nul)
  rw [be4P_len] at hap9
  rw [List.nil_append] at o9
  have b9 : Below w7.heap.size w7 w9 := b7a.trans (f9.below (by simp) (fun k hk e => by have := (h0.lt e).1; omega))
  obtain ⟨A9, c9, rfl⟩ := o9.form
  rw [be4P_len] at o9 hap9
  have hsl1 := hsl (w7.alloc (.cells #[] 5))
  have O9 := Lib.hid o9
  have O6' := Lib.hid (o6'.fr (Fr.of_below b9) (fun k hk e => by have := (o6'.lt hk).2; omega))
  have B9 := Lib.hid (b7w.trans (b9.mono b7w.size))
  have HB7 := Lib.hid b7w.size
  have HK6 := Lib.hid (fun (k : Nat) (hk : (Value.slice A6 L c6).ownBlock = some k) => Nat.lt_of_lt_of_le (O6.out.lt hk).2 b7.size)
  clear hsl y8 hb8 hn8 e8 y7 hA7 o7 o6' h0 b7a f9 o9 b9 b7w b7 hlg y6 O6 hl7 hbd7
  go_wp2_with fail
  clear hap9 hsl1
  obtain ⟨A6', c6', e6, y6, _, _⟩ := O6'.out.byt HFb.out
  rw [HL.out] at e6
  simp only [Value.slice.injEq, true_and] at e6
  obtain ⟨rfl, rfl⟩ := e6
  have hsm := rsum13_any A6 c6 hcA6 F w9 y6 (by rw [HL.out]; omega)
  rw [HL.out] at hsm
  with_reducible refine hsm.mono ?_
  rintro e w10 ⟨v10, rfl, o10, b10⟩
  obtain ⟨A10, c10, rfl⟩ := o10.form
  have o9' : Own8 w7.heap.size w10 (.slice A9 4 c9) (be4P L) := O9.out.fr (Fr.of_below b10) (fun k hk e => by have := (O9.out.lt hk).2; omega)
  have b10w : Below w.heap.size w w10 := B9.out.trans (b10.mono B9.out.size)
  have hw79 : w7.heap.size ≤ w9.heap.size := by
    have := (O9.out.form)
    obtain ⟨k, hk⟩ : ∃ k, (Value.slice A9 4 c9).ownBlock = some k := by
      obtain ⟨_, ⟨h2, h3⟩ | ⟨g, cap, cur, h2, _⟩⟩ := O9.out
      · rw [be4P_len] at h3; cases h3
      · exact ⟨g, by rw [h2]; rfl⟩
    have := O9.out.lt hk
    omega
  obtain ⟨v11, w11, hap11, o11, f11, _⟩ := app8_own (ty := 22) o9' o10 (sumP_bd F) (by rw [be4P_len, sumP_len]; omega) (Nat.le_trans hw79 b10.size)
  rw [sumP_len] at hap11 ⊢
  have b11 : Below w.heap.size w w11 := b10w.trans (f11.below b10w.size (fun k hk e => by have := (o9'.lt e).1; have := HB7.out; omega))
  obtain ⟨A11, c11, rfl⟩ := o11.form
  have hl11 : (be4P L ++ sumP F).length = 12 := by rw [List.length_append, be4P_len, sumP_len]
  rw [hl11] at hap11 o11
  have o6'' : Own8 w.heap.size w10 (.slice A6 L c6) F := O6'.out.fr (Fr.of_below b10) (fun k hk e => by have := (O6'.out.lt hk).2; omega)
  have hown : ∀ k, (Value.slice A6 L c6).ownBlock = some k → (Value.slice A9 4 c9).ownBlock ≠ some k := fun k hk e => by
    have h1 := HK6.out k hk
    have h2 := (o9'.lt e).1
    omega
  have o6a : Own8 w.heap.size w11 (.slice A6 L c6) F := o6''.fr f11 (fun k hk e => hown k hk e)
  obtain ⟨v12, w12, hap12, o12, f12, _⟩ := app8_own (ty := 22) o11 (by rw [HL.out]; exact o6a) HFb.out (by rw [hl11, HL.out]; omega) (Nat.le_trans (Nat.le_trans hw79 b10.size) f11.size)
  rw [HL.out] at hap12
  have b12 : Below w.heap.size w w12 := b11.trans (f12.below b11.size (fun k hk e => by have := (o11.lt e).1; have := HB7.out; omega))
  obtain ⟨A12, c12, rfl⟩ := o12.form
  have hl12 : (be4P L ++ sumP F ++ F).length = 12 + L := by rw [List.length_append, hl11, HL.out]
  rw [hl12] at hap12 o12
  have hw712 : w7.heap.size ≤ w12.heap.size := Nat.le_trans (Nat.le_trans (Nat.le_trans hw79 b10.size) f11.size) f12.size
  have O12 := Lib.hid o12
  have B12 := Lib.hid b12
  clear o9' o10 o11 o6'' hown o6a f11 f12 o12 b10 b10w b11 b12 hl11 hl12 hsm y6 O9 O6'
  go_wp2_with fail
  clear hap11 hap12
  obtain ⟨M0, hM0⟩ : ∃ M, be4P L ++ sumP F ++ F = M := ⟨_, rfl⟩
  have hl12 : M0.length = 12 + L := by rw [← hM0, List.length_append, List.length_append, be4P_len, sumP_len, HL.out]
  obtain ⟨Zn, hZn⟩ : ∃ Zn, secP (12 + L) * 64 - (12 + L) = Zn := ⟨_, rfl⟩
  have hZ64 : (12 + L + Zn) % 64 = 0 ∧ Zn < 64 := by unfold secP at hZn; omega
  rw [hM0] at O12
  have hVM : formV (T : Int) (N : Int) b = M0 ++ List.replicate Zn 0 := by rw [HV0.out, hM0, hZn]
  have HVM := Lib.hid hVM
  have HZ64 := Lib.hid hZ64
  have HlM := Lib.hid hl12
  clear hM0 hZn hZ64 hl12 hVM
  go_loopg [10] Zn (fun k v wr => ∃ z N A c, z + k = Zn ∧ N = 12 + L + z ∧ v = .slice A N c ∧ Own8 w7.heap.size wr v (M0 ++ List.replicate z 0) ∧ Below w.heap.size w wr ∧ w7.heap.size ≤ wr.heap.size)
  case atStart => exact ⟨0, 12 + L, A12, c12, by omega, rfl, rfl, by simpa using O12.out, B12.out, hw712⟩
  case round =>
    clear O12 B12
    obtain ⟨z, N2, A4, c4, hz, hN, rfl, ho, hbl, hws⟩ := hrel
    have hlN : (M0 ++ List.replicate z 0).length = N2 := by rw [List.length_append, List.length_replicate, HlM.out, hN]
    have hNb : N2 ≤ 200000000 := by have := HZ64.out; omega
    have HO := Lib.hid ho
    have HBl := Lib.hid hbl
    have HZ := Lib.hid hz
    have HNN := Lib.hid hN
    by_cases hk : z < Zn
    · have hmod : (((N2 : Int) % 64) != 0) = true := by
        have : ¬ ((N2 : Int) % 64 = 0) := by have := HZ64.out; omega
        simp [this]
      obtain ⟨v', w', hap, ho', hf', _⟩ := app8_one (ty := 22) (x := 0) ho (by omega) (by rw [hlN]; omega) hws
      obtain ⟨A3, c3, rfl⟩ := ho'.form
      rw [List.length_append, hlN] at hap ho'
      have HO' := Lib.hid ho'
      have HF' := Lib.hid hf'
      clear ho ho' hf' hlN hz hN hbl
      go_wp2_with fail
      go_roundg (Zn - (z + 1))
      case measure => have := HZ.out; omega
      case rel =>
        refine ⟨z + 1, N2 + 1, _, _, by omega, by have := HNN.out; omega, rfl, ?_, HBl.out.trans (HF'.out.below HBl.out.size (fun k hk e => by have := (HO.out.lt e).1; have := HB7.out; omega)), Nat.le_trans hws HF'.out.size⟩
        rw [List.replicate_succ', ← List.append_assoc]
        exact HO'.out
    · have hzz : z = Zn := by omega
      have hmod : (((N2 : Int) % 64) != 0) = false := by
        have : (N2 : Int) % 64 = 0 := by have := HZ64.out; omega
        rw [this]; rfl
      rw [hzz, ← HVM.out] at ho
      have HO2 := Lib.hid ho
      clear ho hlN hz hN hbl hzz
      go_wp2_with fail
      go_ret2
      refine ⟨⟨.slice A4 N2 c4, by rw [HE0.out]; rfl, ?_⟩, HBl.out⟩
      exact World.ownsRow.base_le HO2.out HB7.out

/-- The document's form of a record, whatever the numbers. -/
theorem rform_any (t n : Int) (A : Option Addr) (c : Nat) (hcA : A = none → c = 0) (b : List Int) (w : World) (hb : Byt w A b) (hlen : b.length ≤ 80000000) :
    Calls Tryd.prog 16 #[.int .i64 t, .int .i64 n, .slice A b.length c] w fun e w' => RFormPost w.heap.size t n b e w' ∧ Below w.heap.size w w' := by
  by_cases h : ¬ (0 ≤ t ∧ t ≤ 1099511627776) ∨ ¬ (0 ≤ n ∧ n ≤ 1099511627776)
  · refine (rform_bad t n A c b w h).mono ?_
    rintro e w' ⟨rfl, rfl⟩
    obtain ⟨h1, h2⟩ := formE_range (b := b) h
    exact ⟨⟨_, by rw [h1], by rw [h2]; exact Own8.nil _ _⟩, Below.refl _ _⟩
  · obtain ⟨T, rfl⟩ : ∃ T : Nat, t = T := ⟨t.toNat, by omega⟩
    obtain ⟨N, rfl⟩ : ∃ N : Nat, n = N := ⟨n.toNat, by omega⟩
    exact rform_ok T N (by omega) (by omega) A c hcA b w hb hlen
end

end Go.Proofs.YtohadeijmmmcdaaDoor
end
