/-
  The document's digest of bytes (seisinref03.Of), the sum of fields (seisinref13.Sum).
  The document's form of a record (seisinref13.Form).
  seisinref06.Bytes; seisinref08.Of.
-/
import Derived.Test.YtdkanehjahpehaaGreatDoorJRSum
import Derived.Test.YtdkanehjahpehaaGreatDoorJRNum
import Derived.Deep.CutRange
import Derived.Test.YtdkanehjahpehaaGreatDoorJPen
import Derived.Test.YtdkanehjahpehaaGreatDoorJMapO

section
section
namespace Go.Proofs.YtdkanehjahpehaaGreatDoor
open Go.RowKit
set_option maxRecDepth 100000

section
set_option maxHeartbeats 4000000 in
theorem rfirst_any (w : World) : Calls Tryz.prog 96 #[] w fun e w' => e = .returned (.slice (some ⟨w.heap.size, 0, none⟩) 8 8) ∧ w' = w.alloc (.cells (w32s H0).toArray 241) := by
  go_enter Tryz.func96, Tryz.ntmps96
  go_wp2_with fail
  go_ret
  exact ⟨rfl, rfl⟩

set_option maxHeartbeats 4000000 in
theorem rrounds_any (w : World) : Calls Tryz.prog 97 #[] w fun e w' => e = .returned (.slice (some ⟨w.heap.size, 0, none⟩) 64 64) ∧ w' = w.alloc (.cells (w32s K0).toArray 241) := by
  go_enter Tryz.func97, Tryz.ntmps97
  go_wp2_with fail
  go_ret
  exact ⟨rfl, rfl⟩

theorem Wds.blk {w : World} {g : Nat} {t : TypeId} {l : List Int} (h : Blk w g t (w32s l).toArray) : Wds w (some ⟨g, 0, none⟩) l := by
  refine ⟨g, 0, rfl, h.lt, fun i hi => ?_⟩
  rw [Nat.zero_add, h.cell i]
  simp [w32s, List.getD, hi]

attribute [local go_sem ↓] ld123 st123 al123
set_option maxHeartbeats 4000000 in
theorem rof_any (A : Option Addr) (c : Nat) (hcA : A = none → c = 0) (b : List Int) (w : World) (hb : Byt w A b) (hl : b.length ≤ 100000000) :
    Calls Tryz.prog 51 #[.slice A b.length c] w fun e w' => e = .returned (.agg (bys (shaP b)).toArray) ∧ Below w.heap.size w w' := by
  obtain ⟨z, hz1, hz2⟩ := Option.map_eq_some_iff.1 z123
  have hal := ALs_new (P := Tryz.prog) (t := 48) z hz1 w
  obtain ⟨Z, hZ⟩ : ∃ Z, z.cells = Z := ⟨_, rfl⟩
  rw [hZ] at hal hz2
  have hzs : Z.size = 32 := by rw [← Array.length_toList, hz2]; rfl
  have b0 := Blk.new w 48 Z
  have B0 : Below w.heap.size w (w.alloc (.cells Z 48)) := (Below.refl _ w).alloc (Nat.le_refl _) _
  have hs0 : (w.alloc (.cells Z 48)).heap.size = w.heap.size + 1 := by simp
  obtain ⟨W, hW⟩ : ∃ W, w.alloc (.cells Z 48) = W := ⟨_, rfl⟩
  rw [hW] at hal b0 B0 hs0
  have HB := Lib.hid hb
  have HB0 := Lib.hid b0
  have HBl := Lib.hid B0
  have HS := Lib.hid hs0
  have HZ := Lib.hid hzs
  obtain ⟨n, hn⟩ : ∃ n, b.length = n := ⟨_, rfl⟩
  rw [hn]
  have HN := Lib.hid hn
  clear hb b0 B0 hs0 hz1 hz2 hZ hW hzs hn
  go_enter Tryz.func51, Tryz.ntmps51
  go_wp2_with fail
  with_reducible refine (rfirst_any W).mono ?_
  rintro e w1 ⟨rfl, rfl⟩
  have b1 := Blk.new W 241 (w32s H0).toArray
  have B1 : Below W.heap.size W (W.alloc (.cells (w32s H0).toArray 241)) := (Below.refl _ W).alloc (Nat.le_refl _) _
  have hs1 : (W.alloc (.cells (w32s H0).toArray 241)).heap.size = W.heap.size + 1 := by simp
  obtain ⟨X, hX⟩ : ∃ X, W.alloc (.cells (w32s H0).toArray 241) = X := ⟨_, rfl⟩
  rw [hX] at b1 B1 hs1 ⊢
  have H1 := Lib.hid b1
  have HB1 := Lib.hid B1
  have HS1 := Lib.hid hs1
  clear hX b1 B1 hs1
  go_wp2_with fail
  with_reducible refine (rrounds_any X).mono ?_
  rintro e w2 ⟨rfl, rfl⟩
  have b2 := Blk.new X 241 (w32s K0).toArray
  have B2 : Below X.heap.size X (X.alloc (.cells (w32s K0).toArray 241)) := (Below.refl _ X).alloc (Nat.le_refl _) _
  have b1 := H1.out.alloc (.cells (w32s K0).toArray 241)
  obtain ⟨Y, hY⟩ : ∃ Y, X.alloc (.cells (w32s K0).toArray 241) = Y := ⟨_, rfl⟩
  rw [hY] at b2 B2 b1 ⊢
  have hBY : Below W.heap.size W Y := HB1.out.trans (B2.mono HB1.out.size)
  have H2 := Lib.hid b2
  have HBY := Lib.hid hBY
  have H1' := Lib.hid b1
  clear hY b2 B2 hBY b1
  go_wp2_with fail
  have hcl := rsum_any A c hcA b (some ⟨W.heap.size, 0, none⟩) (some ⟨X.heap.size, 0, none⟩) 8 64 Y ((HB.out.below HBl.out).below HBY.out) hl (Wds.blk H1'.out) (Wds.blk H2.out)
  rw [HN.out] at hcl
  with_reducible refine hcl.mono ?_
  rintro e w3 ⟨rfl, hb3⟩
  have hBW : Below W.heap.size W w3 := HBY.out.trans (hb3.mono HBY.out.size)
  have hb0 : Blk w3 w.heap.size 48 Z := HB0.out.fr (Fr.of_below hBW) (by have := HB0.out.lt; omega)
  have hl32 : (bys (shaP b)).length = 32 := by rw [bys_length, shaP_len]
  have hst := STs_blk (P := Tryz.prog) (t := 48) i123 hb0 (off := 0) (bys (shaP b)) hl32 (by rw [HZ.out]; omega) (bys_one _)
  rw [splice_whole _ _ (by rw [hl32, HZ.out])] at hst
  have HBW := Lib.hid hBW
  have HB3 := Lib.hid hb0
  have HL := Lib.hid hl32
  clear hcl hb3 hBW hb0 hl32
  go_wp2_with fail
  exact bodyPost_ret (results_arr rfl _ _ w.heap.size 48 (bys (shaP b)) _ rfl (HB3.out.row_ _) undId rfl (by rw [HL.out]; exact i123)) rfl ⟨rfl, Below.setRow (HBl.out.trans (HBW.out.mono (by have := HS.out; omega))) (Nat.le_refl _) _⟩

attribute [local go_sem ↓] apt22_of
end

end Go.Proofs.YtdkanehjahpehaaGreatDoor
end

section
namespace Go.Proofs.YtdkanehjahpehaaGreatDoor
open Go.RowKit
set_option maxRecDepth 100000

section
attribute [local go_sem ↓] apt22_of slc22

/-- What is known of an append of what is one's own to what is one's own. -/
theorem app8_own {ty : TypeId} {B B' : Nat} {w : World} {A : Option Addr} {c : Nat} {v : Value} {l m : List Int} (h : Own8 B w v l) (hm : Own8 B' w (.slice A m.length c) m) (hb : ∀ x ∈ m, 0 ≤ x ∧ x ≤ 255) (hlen : l.length + m.length ≤ 1000000000) (hB : B ≤ w.heap.size) :
    ∃ v' w', (APs #[28, 28] ty #[v, .slice A m.length c]).run Tryz.prog w = .ok v' w' ∧ Own8 B w' v' (l ++ m) ∧ Fr (fun k => v.ownBlock = some k) w w' ∧ Foot w v v' := by
  obtain ⟨A', c', e, hy, _, hc⟩ := hm.byt hb
  simp only [Value.slice.injEq, true_and] at e
  obtain ⟨rfl, rfl⟩ := e
  refine app8 h hy (Nat.le_trans hlen (by omega)) hB (fun e => ?_)
  subst e
  obtain ⟨_, ⟨h2, _⟩ | ⟨g, cap, cur, h2, _⟩⟩ := hm
  · simp only [Value.slice.injEq] at h2
    exact h2.2.2
  · simp at h2
theorem Own8.nul {B n c : Nat} {w : World} {l : List Int} (h : Own8 B w (.slice none n c) l) : c = 0 := by
  obtain ⟨_, ⟨h2, _⟩ | ⟨g, cap, cur, h2, _⟩⟩ := h
  · simp only [Value.slice.injEq] at h2
    exact h2.2.2
  · simp at h2

theorem formE_range {t n : Int} {b : List Int} (h : ¬ (0 ≤ t ∧ t ≤ 1099511627776) ∨ ¬ (0 ≤ n ∧ n ≤ 1099511627776)) : formE t n b = 5 ∧ formV t n b = [] := by
  have e : formE t n b = 5 := by unfold formE; rw [if_pos h]
  exact ⟨e, by unfold formV; rw [e]; rfl⟩

theorem World.ownsRow.base_le {B B' : Nat} {w : World} {e : TypeId} {size n : Nat} {v : Value} {xs : List Value} (h : w.ownsRow B e size v n xs) (hB : B' ≤ B) : w.ownsRow B' e size v n xs := by
  obtain ⟨h1, h2 | ⟨g, cap, cur, h3, h4, h5⟩⟩ := h
  · exact ⟨h1, .inl h2⟩
  · exact ⟨h1, .inr ⟨g, cap, cur, h3, Nat.le_trans hB h4, h5⟩⟩

/-- The document's bytes, and its error. -/
def RFormPost (n₀ : Nat) (t n : Int) (b : List Int) (e : Ending) (w' : World) : Prop :=
  ∃ v, e = .returned (.tuple #[v, .int .i64 (formE t n b)]) ∧ Own8 n₀ w' v (formV t n b)

end

end Go.Proofs.YtdkanehjahpehaaGreatDoor
end
end

section
namespace Go.Proofs.YtdkanehjahpehaaGreatDoor
open Go.RowKit Go.Shelf
set_option maxRecDepth 100000

section
attribute [local go_sem ↓] ld123 st123 al123 apt22_of SLs_of
set_option maxHeartbeats 4000000 in
theorem r6bytes_any (tx : List Int) (htx : tx.length = 32) (hb : ∀ x ∈ tx, 0 ≤ x ∧ x ≤ 255) (w : World) :
    Calls Tryz.prog 54 #[.agg (bys tx).toArray] w fun e w' => ∃ v, e = .returned v ∧ Own8 w.heap.size w' v tx ∧ Below w.heap.size w w' := by
  have b0 := Blk.new w 48 (bys tx).toArray
  have B0 : Below w.heap.size w (w.alloc (.cells (bys tx).toArray 48)) := (Below.refl _ w).alloc (Nat.le_refl _) _
  obtain ⟨W, hW⟩ : ∃ W, w.alloc (.cells (bys tx).toArray 48) = W := ⟨_, rfl⟩
  rw [hW] at b0 B0
  obtain ⟨g, hgg⟩ : ∃ g, w.heap.size = g := ⟨_, rfl⟩
  rw [hgg] at b0
  have HW := Lib.hid hW
  have HB0 := Lib.hid b0
  have BB := Lib.hid B0
  have HTX := Lib.hid htx
  have HB := Lib.hid hb
  have HGG := Lib.hid hgg
  clear hW b0 B0 htx hb hgg
  go_enter Tryz.func54, Tryz.ntmps54
  go_upto_region 1 with fail
  rw [HW.out, HGG.out]
  go_wp2_with fail
  go_loopg [3, 4] 32 (fun kk v t wr => ∃ (i : Nat) (A : Option Addr) (c : Nat), i + kk = 32 ∧ t = .int .i64 (i : Int) ∧ v = .slice A i c ∧ Own8 w.heap.size wr v (tx.take i) ∧ Below w.heap.size w wr ∧ Blk wr g 48 (bys tx).toArray)
  case atStart => exact ⟨0, none, 0, by omega, rfl, rfl, by simpa using Own8.nil _ _, BB.out, HB0.out⟩
  case round =>
    obtain ⟨i, A, c, hi, rfl, rfl, ho, hB, hb0⟩ := hrel
    by_cases h32 : i < 32
    · have h32I : (i : Int) < 32 := by omega
      have hil : i < tx.length := by rw [HTX.out]; exact h32
      have hxb := HB.out _ (List.getElem_mem hil)
      have htk : tx.take (i + 1) = tx.take i ++ [tx[i]] := List.take_succ_eq_append_getElem hil
      have hcx : wr.cell? ⟨g, i, none⟩ = some (.int .u8 tx[i]) := by
        rw [hb0.cell i]
        simp only [List.getElem?_toArray]
        rw [bys_get, List.getElem?_eq_getElem hil]
        rfl
      obtain ⟨x, hx⟩ : ∃ x, tx[i] = x := ⟨_, rfl⟩
      rw [hx] at hxb htk hcx
      obtain ⟨v', w', hap, ho2, hf, _⟩ := app8_one (ty := 28) ho hxb (by rw [List.length_take]; omega) hB.size
      obtain ⟨A2, c2, e2⟩ := ho2.form
      rw [← htk, List.length_take, HTX.out, Nat.min_eq_left (by omega)] at e2
      subst e2
      rw [← htk] at ho2
      have hbl : Below w.heap.size w w' := hB.trans (hf.below hB.size (fun k hk e => by have := (ho.lt e).1; omega))
      have hb2 := hb0.fr hf (fun e => own8_ne ho hb0 (by decide) e)
      have HO := Lib.hid ho2
      have HBL := Lib.hid hbl
      have HB2 := Lib.hid hb2
      clear ho hB hb0 ho2 hf hbl hb2 htk hx
      go_wp2_with fail
      go_roundg (32 - (i + 1))
      case measure => omega
      case rel => exact ⟨i + 1, A2, c2, by omega, by go_num, rfl, HO.out, HBL.out, HB2.out⟩
    · obtain rfl : i = 32 := by omega
      have h32I : ¬ (((32 : Nat) : Int) < 32) := by omega
      rw [List.take_of_length_le (by rw [HTX.out]; exact Nat.le_refl _)] at ho
      have HO := Lib.hid ho
      have HBL := Lib.hid hB
      clear ho hB hb0
      go_wp2_with fail
      go_ret
      exact ⟨_, rfl, HO.out, HBL.out⟩
end

theorem valP_mod (V : List Int) (n : Nat) (_hn : 0 < n) {i : Nat} (hi : i < V.length) {X : Nat} (hX : V[i] = (X : Int)) : (valP (V.take i) % n * 256 + X) % n = valP (V.take (i + 1)) % n := by
  rw [List.take_succ_eq_append_getElem hi, valP_snoc, hX, Int.toNat_natCast, Nat.add_mod, Nat.mul_mod, Nat.mod_mod, ← Nat.mul_mod, ← Nat.add_mod]

section
attribute [local go_sem ↓] ld123 st123 al123 apt22_of SLs_of
set_option maxHeartbeats 8000000 in
theorem rmof_any (tx : List Int) (htx : tx.length = 32) (hb : ∀ x ∈ tx, 0 ≤ x ∧ x ≤ 255) (ix n : Int) (hix : -9223372036854775808 ≤ ix ∧ ix ≤ 9223372036854775807) (hn : -9223372036854775808 ≤ n ∧ n ≤ 9223372036854775807) (w : World) :
    Calls Tryz.prog 23 #[.agg (ptL tx ix).toArray, .int .i64 n] w fun e w' => e = .returned (.int .i64 (if okO ix n = true then ofO tx ix n else -1)) ∧ Below w.heap.size w w' := by
  have b0 := Blk.new w 75 (ptL tx ix).toArray
  have B0 : Below w.heap.size w (w.alloc (.cells (ptL tx ix).toArray 75)) := (Below.refl _ w).alloc (Nat.le_refl _) _
  obtain ⟨W, hW⟩ : ∃ W, w.alloc (.cells (ptL tx ix).toArray 75) = W := ⟨_, rfl⟩
  rw [hW] at b0 B0
  obtain ⟨g, hgg⟩ : ∃ g, w.heap.size = g := ⟨_, rfl⟩
  rw [hgg] at b0
  have q32 : W.cell? ⟨g, 32, none⟩ = some (.int .i64 ix) := by
    rw [b0.cell 32]
    simp [ptL, bys_length, htx]
  have hld : ∀ X, Blk X g 75 (ptL tx ix).toArray → (LDs 48 (.pointer (some ⟨g, 0, none⟩))).run Tryz.prog X = .ok (.agg (bys tx).toArray) X := fun X hX => LDs_blk u123 rfl i123 hX (bys tx) (by rw [bys_length, htx]) (by
    rw [List.drop_zero]
    simp only [ptL]
    rw [List.take_append_of_le_length (by rw [bys_length, htx]; exact Nat.le_refl _), List.take_of_length_le (by rw [bys_length, htx]; exact Nat.le_refl _)])
  have HW := Lib.hid hW
  have HB0 := Lib.hid b0
  have BB := Lib.hid B0
  have HTX := Lib.hid htx
  have HB := Lib.hid hb
  have HGG := Lib.hid hgg
  have HLD := Lib.hid hld
  clear hW b0 B0 htx hb hgg hld
  by_cases hok : okO ix n = true
  · have h4 := of_decide_eq_true hok
    obtain ⟨h1, h2, h3, h4⟩ := h4
    have n1 : ¬ n < 1 := by omega
    have n2 : ¬ 64 < n := by omega
    have n3 : ¬ ix < 0 := by omega
    have n4 : ¬ 15 < ix := by omega
    have hof : ofO tx ix n = ((valP ((digO tx ix).take 8) : Nat) : Int) % n := by unfold ofO; rw [if_pos hok]
    rw [if_pos hok, hof]
    obtain ⟨z, hz1, hz2⟩ := Option.map_eq_some_iff.1 z123
    have hal := fun W => ALs_new (P := Tryz.prog) (t := 48) z hz1 W
    obtain ⟨Z32, hZ32⟩ : ∃ Z32, z.cells = Z32 := ⟨_, rfl⟩
    have hz32s : Z32.size = 32 := by rw [← hZ32, ← Array.length_toList, hz2]; rfl
    simp only [hZ32] at hal
    have HZ := Lib.hid hz32s
    clear hZ32 hz1 hz2 z hz32s hof hok
    obtain ⟨N, rfl⟩ : ∃ N : Nat, n = (N : Int) := ⟨n.toNat, by omega⟩
    have b1 := HB0.out.alloc (.cells #[.int .u8 10] 5)
    have ld1 := HLD.out _ b1
    go_enter Tryz.func23, Tryz.ntmps23
    go_upto_region 1 with fail
    rw [HW.out, HGG.out]
    go_wp2_with fail
    with_reducible refine (r6bytes_any tx HTX.out HB.out _).mono ?_
    rintro e w2 ⟨v2, rfl, ho2, hB2⟩
    obtain ⟨A2, c2, rfl, hy2, _, _⟩ := ho2.byt HB.out
    have hcA2 : A2 = none → c2 = 0 := by
      rintro rfl
      obtain ⟨gx, ox, e, _⟩ := hy2.cell (by rw [HTX.out]; omega)
      cases e
    have hlg := rlong_any A2 c2 hcA2 tx w2 hy2 (by rw [HTX.out]; omega)
    rw [HTX.out] at hlg ⊢
    have o10 : Own8 W.heap.size (W.alloc (.cells #[.int .u8 10] 5)) (.slice (some ⟨W.heap.size, 0, none⟩) 1 1) [10] := own8_lit W [10] (Nat.le_refl _) (by simp)
    have B1 : Below w.heap.size w (W.alloc (.cells #[.int .u8 10] 5)) := BB.out.alloc BB.out.size _
    have o102 := o10.fr (Fr.of_below hB2) (fun k hk h => by have := (o10.lt hk).2; omega)
    have b2 := b1.fr (Fr.of_below hB2) (by have := b1.lt; omega)
    have B2 := B1.trans (hB2.mono B1.size)
    have HLG := Lib.hid hlg
    have HO10 := Lib.hid o102
    have HBB2 := Lib.hid b2
    have HB2 := Lib.hid B2
    have hWs2 : W.heap.size ≤ w2.heap.size := by have := hB2.size; simp at this; omega
    clear ho2 hy2 hcA2 hlg o10 o102 B1 b1 b2 B2 hB2 ld1
    go_wp2_with fail
    with_reducible refine HLG.out.mono ?_
    rintro e w3 ⟨v3, rfl, ho3, hB3⟩
    have hbd3 : ∀ x ∈ be4P 32 ++ tx, 0 ≤ x ∧ x ≤ 255 := fun x hx => by
      rcases List.mem_append.1 hx with h | h
      · exact be4P_bd _ x h
      · exact HB.out x h
    have hl3 : (be4P 32 ++ tx).length = 36 := by rw [List.length_append, be4P_len, HTX.out]
    obtain ⟨A3, c3, rfl⟩ := ho3.form
    have o103 := HO10.out.fr (Fr.of_below hB3) (fun k hk h => by have := (HO10.out.lt hk).2; omega)
    have hWs3 : W.heap.size ≤ w3.heap.size := Nat.le_trans hWs2 hB3.size
    obtain ⟨v4, w4, hap, ho4, hf4, _⟩ := app8_own (ty := 28) o103 ho3 hbd3 (by rw [hl3]; simp) hWs3
    obtain ⟨A4, c4, rfl⟩ := ho4.form
    have hl4 : ([10] ++ (be4P 32 ++ tx)).length = 37 := by rw [List.length_append, hl3]; rfl
    rw [hl4] at hap ho4
    rw [hl3] at hap ⊢
    have hk0 : ∀ k, (Value.slice (some ⟨W.heap.size, 0, none⟩) 1 1).ownBlock = some k → W.heap.size ≤ k := fun k hk => by simp [Value.ownBlock] at hk; omega
    have b4 := (HBB2.out.fr (Fr.of_below hB3) (by have := HBB2.out.lt; omega)).fr hf4 (fun e => by have := hk0 _ e; have := HB0.out.lt; omega)
    have hwW := BB.out.size
    have B4 := HB2.out.trans ((hB3.mono HB2.out.size).trans (hf4.below (by omega) (fun k hk e => by have := hk0 _ e; omega)))
    have q4 : w4.cell? ⟨g, 32, none⟩ = some (.int .i64 ix) := by
      rw [b4.cell 32]
      simp [ptL, bys_length, HTX.out]
    -- the second append
    have t5 : Own8 w4.heap.size (w4.alloc (.cells #[.int .u8 0, .int .u8 0, .int .u8 0, .int .u8 1, .int .u8 ix] 5)) (.slice (some ⟨w4.heap.size, 0, none⟩) 5 5) [0, 0, 0, 1, ix] := own8_lit w4 [0, 0, 0, 1, ix] (Nat.le_refl _) (by simp)
    have b45 : Below w4.heap.size w4 (w4.alloc (.cells #[.int .u8 0, .int .u8 0, .int .u8 0, .int .u8 1, .int .u8 ix] 5)) := (Below.refl _ _).alloc (Nat.le_refl _) _
    have ho45 := ho4.fr (Fr.of_below b45) (fun k hk h => by have := (ho4.lt hk).2; omega)
    have hWs4 : W.heap.size ≤ w4.heap.size := Nat.le_trans hWs3 hf4.size
    obtain ⟨v6, w6, hap6, ho6, hf6, _⟩ := app8_own (ty := 28) (m := [0, 0, 0, 1, ix]) ho45 t5 (fun x hx => by simp at hx; rcases hx with rfl | rfl | rfl <;> omega) (by rw [hl4]; simp) (by simp; omega)
    obtain ⟨A6, c6, rfl⟩ := ho6.form
    have hS : [10] ++ (be4P 32 ++ tx) ++ [0, 0, 0, 1, ix] = (underL 10 [tx, [ix]]).flatten := by
      have e1 : be4P 1 = [0, 0, 0, 1] := by decide
      simp [underL, HTX.out, e1]
    have hl6 : ([10] ++ (be4P 32 ++ tx) ++ [0, 0, 0, 1, ix]).length = 42 := by rw [List.length_append, hl4]; rfl
    rw [show ([0, 0, 0, 1, ix] : List Int).length = 5 from rfl] at hap6
    rw [hl6] at hap6 ho6
    have hwu : IntKind.u8.wrap ix = ix := by rw [IntKind.wrap_u8']; omega
    have B6 : Below w.heap.size w w6 := B4.trans ((b45.mono B4.size).trans (hf6.below (by have := B4.size; simp; omega) (fun k hk e => by have := (ho4.lt e).1; omega)))
    have hbd6 := underL_bd (mark := 10) (by omega) (L := [tx, [ix]]) (fun l hl x hx => by
      simp at hl
      rcases hl with rfl | rfl
      · exact HB.out x hx
      · simp at hx; omega)
    rw [hS] at ho6
    have hlS : (underL 10 [tx, [ix]]).flatten.length = 42 := by rw [← hS]; exact hl6
    obtain ⟨A7, c7, e7, hy7, _, _⟩ := ho6.byt hbd6
    rw [hlS] at e7
    simp only [Value.slice.injEq, true_and] at e7
    obtain ⟨rfl, rfl⟩ := e7
    have hcA6 : A6 = none → c6 = 0 := by
      rintro rfl
      obtain ⟨gx, ox, e, _⟩ := hy7.cell (by rw [hlS]; omega)
      cases e
    have hof6 := rof_any A6 c6 hcA6 _ w6 hy7 (by rw [hlS]; omega)
    rw [hlS, show shaP (underL 10 [tx, [ix]]).flatten = digO tx ix from rfl] at hof6
    have HOF := Lib.hid hof6
    have HB6 := Lib.hid B6
    clear ho3 hB3 hbd3 hl3 o103 ho4 hf4 hl4 hk0 b4 B4 t5 b45 ho45 ho6 hf6 hS hl6 B6 hbd6 hlS hy7 hcA6 hof6 HLG HO10 HBB2 HB2 hWs2 hWs3 hWs4 hwW q32
    go_wp2_with fail
    with_reducible refine HOF.out.mono ?_
    rintro e w7 ⟨rfl, hB7⟩
    have B7 := HB6.out.trans (hB7.mono HB6.out.size)
    have hD := Blk.new w7 48 Z32
    have hl32 : (bys (digO tx ix)).length = 32 := by rw [bys_length]; exact underP_len _ _
    have hst := STs_blk (P := Tryz.prog) (t := 48) i123 hD (off := 0) (bys (digO tx ix)) hl32 (by rw [HZ.out]; omega) (bys_one _)
    rw [splice_whole _ _ (by rw [hl32, HZ.out])] at hst
    have hD8 := hD.row_ (bys (digO tx ix)).toArray
    have B8 := Below.setRow (B7.alloc B7.size (.cells Z32 48)) B7.size (bys (digO tx ix)).toArray
    obtain ⟨w8, hw8⟩ : ∃ w8, (w7.alloc (.cells Z32 48)).setRow w7.heap.size (bys (digO tx ix)).toArray = w8 := ⟨_, rfl⟩
    rw [hw8] at hst hD8 B8
    obtain ⟨D, hDD⟩ : ∃ D, w7.heap.size = D := ⟨_, rfl⟩
    rw [hDD] at hst hD8
    have hal7 := hal w7
    rw [hDD] at hal7
    have HD8 := Lib.hid hD8
    have HB8 := Lib.hid B8
    have hdl : (digO tx ix).length = 32 := underP_len _ _
    have hdb : ∀ x ∈ digO tx ix, 0 ≤ x ∧ x ≤ 255 := underP_bd _ _
    obtain ⟨V, hV⟩ : ∃ V, digO tx ix = V := ⟨_, rfl⟩
    rw [hV] at hdl hdb HD8 hst ⊢
    have HDL := Lib.hid hdl
    have HDB := Lib.hid hdb
    have HV := Lib.hid hV
    clear hdl hdb hV hD hD8 B8 B7 hB7 hw8 hDD hl32 hal HOF
    go_wp2_with fail
    clear hst hal7
    go_loopg [7, 8] 8 (fun kk v t wr => ∃ i : Nat, i + kk = 8 ∧ t = .int .i64 (i : Int) ∧ v = .int .i64 ((valP (V.take i) % N : Nat) : Int) ∧ wr = w8)
    case atStart => exact ⟨0, by omega, rfl, by rw [List.take_zero]; simp [valP], rfl⟩
    case round =>
      obtain ⟨i, hi, rfl, rfl, rfl⟩ := hrel
      by_cases h8 : i < 8
      · have h8I : (i : Int) < 8 := by omega
        have hil : i < V.length := by rw [HDL.out]; omega
        obtain ⟨X, hX⟩ : ∃ X : Nat, V[i] = (X : Int) := ⟨(V[i]).toNat, by have := HDB.out _ (List.getElem_mem hil); omega⟩
        have hxb := HDB.out _ (List.getElem_mem hil)
        rw [hX] at hxb
        have hcx : wr.cell? ⟨D, i, none⟩ = some (.int .u8 (X : Int)) := by
          rw [HD8.out.cell i]
          simp only [List.getElem?_toArray]
          rw [bys_get, List.getElem?_eq_getElem hil, hX]
          rfl
        have hst := valP_mod V N (by omega) hil hX
        have hlt : valP (V.take i) % N < N := Nat.mod_lt _ (by omega)
        obtain ⟨v, hv⟩ : ∃ v, valP (V.take i) % N = v := ⟨_, rfl⟩
        rw [hv] at hst hlt ⊢
        have hN0 : ((N : Int) == 0) = false := by simp; omega
        have hm : IntKind.i64.wrap ((v : Int) * 256 + (X : Int)) = ((v * 256 + X : Nat) : Int) := by rw [IntKind.wrap_i64]; omega
        have HST := Lib.hid hst
        clear hst hX hv
        go_wp2_with fail
        go_roundg (8 - (i + 1))
        case measure => omega
        case rel => exact ⟨i + 1, by omega, by go_num, by rw [← HST.out]; go_num, rfl⟩
      · obtain rfl : i = 8 := by omega
        have h8I : ¬ (((8 : Nat) : Int) < 8) := by omega
        obtain ⟨v, hv⟩ : ∃ v, valP (V.take 8) = v := ⟨_, rfl⟩
        rw [hv]
        have HVV := Lib.hid hv
        clear hv
        go_wp2_with fail
        go_ret
        exact ⟨by rw [HV.out, HVV.out]; rfl, HB8.out⟩
  · rw [if_neg hok]
    have hor : n < 1 ∨ 64 < n ∨ ix < 0 ∨ 15 < ix := by
      unfold okO at hok
      simp only [decide_eq_true_eq] at hok
      omega
    clear hok
    by_cases n1 : n < 1
    · go_enter Tryz.func23, Tryz.ntmps23
      go_upto_region 1 with fail
      rw [HW.out, HGG.out]
      go_wp2_with fail
      go_ret
      exact ⟨rfl, BB.out⟩
    by_cases n2 : 64 < n
    · go_enter Tryz.func23, Tryz.ntmps23
      go_upto_region 1 with fail
      rw [HW.out, HGG.out]
      go_wp2_with fail
      go_ret
      exact ⟨rfl, BB.out⟩
    by_cases n3 : ix < 0
    · go_enter Tryz.func23, Tryz.ntmps23
      go_upto_region 1 with fail
      rw [HW.out, HGG.out]
      go_wp2_with fail
      go_ret
      exact ⟨rfl, BB.out⟩
    have n4 : 15 < ix := by omega
    clear hor
    go_enter Tryz.func23, Tryz.ntmps23
    go_upto_region 1 with fail
    rw [HW.out, HGG.out]
    go_wp2_with fail
    go_ret
    exact ⟨rfl, BB.out⟩
end
end Go.Proofs.YtdkanehjahpehaaGreatDoor
end
