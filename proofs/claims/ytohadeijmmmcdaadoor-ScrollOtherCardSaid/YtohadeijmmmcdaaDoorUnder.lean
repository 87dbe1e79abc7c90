/-
  sha.Under of one text; scroll.sum.
-/
import Derived.Test.YtohadeijmmmcdaaDoorSum
import Derived.Test.YtohadeijmmmcdaaDoorScrP
namespace Go.Proofs.YtohadeijmmmcdaaDoor
open Go.RowKit Go.Shelf
set_option maxRecDepth 100000
theorem apT_of (xs : Array Value) (t : TypeId) : Builtin.append_ #[33, 33] t xs = APs #[33, 33] t xs := rfl
attribute [local go_sem ↓] ld123 st123 al123 apT_of SLs_of

theorem beN4 (n : Nat) : beN (n : Int) 4 = be4P n := by
  simp only [beN, be4P, List.range, List.range.loop, List.map]
  simp only [IntKind.wrap_u8', Nat.reduceSub, Nat.reduceMul, Nat.sub_zero]
  refine List.cons_eq_cons.2 ⟨?_, List.cons_eq_cons.2 ⟨?_, List.cons_eq_cons.2 ⟨?_, List.cons_eq_cons.2 ⟨?_, rfl⟩⟩⟩⟩
  all_goals omega

theorem own_cells {base n : Nat} {e : TypeId} {w : World} {v : Value} {xs : List Value} (h : w.ownsRow base e 1 v n xs) (hn : 0 < n) :
    ∃ g cap, v = .slice (some ⟨g, 0, none⟩) n cap ∧ base ≤ g ∧ g < w.heap.size ∧ ∀ j x, xs[j]? = some x → w.cell? ⟨g, 0 + j, none⟩ = some x := by
  have h' := h
  obtain ⟨h1, ⟨h2, h3⟩ | ⟨g, cap, cur, rfl, hg, hh, hl, hm, hs, ht⟩⟩ := h
  · omega
  · refine ⟨g, cap, rfl, hg, (Array.getElem?_eq_some_iff.1 hh).1, fun j x hx => ?_⟩
    have := World.ownsRow.cells h' rfl j x hx
    rw [addN] at this
    exact this

set_option maxHeartbeats 8000000 in
theorem under_one (mark : Int) (hmk : 0 ≤ mark ∧ mark ≤ 255) (g o c : Nat) (Af : Option Addr) (cf : Nat) (hcf : Af = none → cf = 0) (f : List Int) (w : World) (hgw : g < w.heap.size) (hcell : w.cell? ⟨g, o, none⟩ = some (.slice Af f.length cf)) (hf : Byt w Af f) (hlen : f.length ≤ 400000000) (hg : Glob w) :
    Calls Tryd.prog 82 #[.int .u8 mark, .slice (some ⟨g, o, none⟩) 1 c] w fun e w' => e = .returned (.agg (bys (shaP (mark :: (be4P f.length ++ f)))).toArray) ∧ Below w.heap.size w w' := by
  obtain ⟨z, hz1, hz2⟩ := Option.map_eq_some_iff.1 z123
  have hal := ALs_new (P := Tryd.prog) (t := 123) z hz1 w
  obtain ⟨Z32, hZ32⟩ : ∃ Z32, z.cells = Z32 := ⟨_, rfl⟩
  have hz32s : Z32.size = 32 := by rw [← hZ32, ← Array.length_toList, hz2]; rfl
  rw [hZ32] at hal
  clear hZ32 hz1 hz2 z
  have b0 := ((Blk.new w 123 Z32).alloc (.cells #[.int .u8 mark] 5)).alloc (.cells #[.slice (some ⟨w.heap.size + 1, 0, none⟩) 1 1] 22)
  have b1 := (Blk.new (w.alloc (.cells Z32 123)) 5 #[.int .u8 mark]).alloc (.cells #[.slice (some ⟨w.heap.size + 1, 0, none⟩) 1 1] 22)
  have b2 := Blk.new ((w.alloc (.cells Z32 123)).alloc (.cells #[.int .u8 mark] 5)) 22 #[.slice (some ⟨w.heap.size + 1, 0, none⟩) 1 1]
  have B0 : Below w.heap.size w (((w.alloc (.cells Z32 123)).alloc (.cells #[.int .u8 mark] 5)).alloc (.cells #[.slice (some ⟨w.heap.size + 1, 0, none⟩) 1 1] 22)) := (((Below.refl _ w).alloc (Nat.le_refl _) _).alloc (by simp) _).alloc (by simp; omega) _
  simp only [World.size_alloc] at b1 b2
  obtain ⟨W0, hW0⟩ : ∃ W0, ((w.alloc (.cells Z32 123)).alloc (.cells #[.int .u8 mark] 5)).alloc (.cells #[.slice (some ⟨w.heap.size + 1, 0, none⟩) 1 1] 22) = W0 := ⟨_, rfl⟩
  rw [hW0] at b0 b1 b2 B0
  have HMK := Lib.hid hmk
  have HF := Lib.hid hf
  have HG := Lib.hid hg
  have B0h := Lib.hid b0
  have B1h := Lib.hid b1
  have B2h := Lib.hid b2
  have BBh := Lib.hid B0
  have HW0 := Lib.hid hW0
  clear hmk hf hg b0 b1 b2 B0 hW0
  obtain ⟨m, hm⟩ : ∃ m, f.length = m := ⟨_, rfl⟩
  rw [hm] at hcell hlen ⊢
  have HM := Lib.hid hm
  have hm0 : (0 : Int) ≤ (m : Int) := by omega
  clear hm
  have hsz0 : W0.heap.size = w.heap.size + 3 := by rw [← HW0.out]; simp
  have hcell0 : W0.cell? ⟨g, o, none⟩ = some (.slice Af m cf) := (BBh.out.cell (p := ⟨g, o, none⟩) hgw).trans hcell
  have HS0 := Lib.hid hsz0
  clear hsz0
  go_enter Tryd.func82, Tryd.ntmps82
  go_wp2_with fail
  rw [HW0.out]
  clear hal
  go_loopw [5, 13] (fun v t wr => (t = .int .i64 0 ∧ v = .slice (some ⟨w.heap.size + 1 + 1, 0, none⟩) 1 1 ∧ wr = W0) ∨
      (t = .int .i64 1 ∧ ∃ x1, wr.ownsRow (w.heap.size + 2) 22 1 v 3 [.slice (some ⟨w.heap.size + 1, 0, none⟩) 1 1, x1, .slice Af m cf] ∧ TxV wr x1 (be4P m) ∧ Blk wr w.heap.size 123 Z32 ∧ Blk wr (w.heap.size + 1) 5 #[.int .u8 mark] ∧ Below w.heap.size w wr))
    (fun _ t _ => 1 - (intOf t).toNat)
  case atStart => exact .inl ⟨rfl, rfl, rfl⟩
  case round =>
    rcases hrel with ⟨rfl, rfl, rfl⟩ | ⟨rfl, x1, hown, hx1, hb0, hb1, hB⟩
    · go_wp2_with fail
      refine (shb_any (m : Int) (by omega) (by omega) 4 (by omega) wr).mono ?_
      rintro e W1 ⟨rfl, hbk, hbl⟩
      have h2 := B2h.out.fr (Fr.of_below hbl) (by have := B2h.out.lt; omega)
      have hrow : W1.ownsRow (w.heap.size + 2) 22 1 (.slice (some ⟨w.heap.size + 1 + 1, 0, none⟩) 1 1) 1 [.slice (some ⟨w.heap.size + 1, 0, none⟩) 1 1] :=
        ⟨rfl, .inr ⟨w.heap.size + 2, 1, _, rfl, Nat.le_refl _, h2, Nat.le_refl _, by unfold maxLen; omega, rfl, rfl⟩⟩
      obtain ⟨v', w', hap, hown, hfr, _⟩ := appT (ty := 33) hrow [.slice (some ⟨wr.heap.size, 0, none⟩) 4 4, .slice Af m cf] (by intro u hu; simp at hu; rcases hu with rfl | rfl <;> rfl) (by simp) (by have := hbl.size; have := HS0.out; omega)
      simp only [List.length_cons, List.length_nil, Nat.reduceAdd, List.cons_append, List.nil_append] at hap hown
      have hb0 := (B0h.out.fr (Fr.of_below hbl) (by have := B0h.out.lt; omega)).fr hfr (by simp [Value.ownBlock]; omega)
      have hb1 := (B1h.out.fr (Fr.of_below hbl) (by have := B1h.out.lt; omega)).fr hfr (by simp [Value.ownBlock])
      have hx := hbk.fr hfr (by have := HS0.out; simp [Value.ownBlock]; omega)
      have hBB := BBh.out.trans ((hbl.mono BBh.out.size).trans (hfr.below (Nat.le_trans BBh.out.size hbl.size) (by intro k hk; simp [Value.ownBlock]; omega)))
      have HO := Lib.hid hown
      have H0 := Lib.hid hb0
      have H1 := Lib.hid hb1
      have HX := Lib.hid hx
      have HB := Lib.hid hBB
      clear hbk hbl h2 hrow hown hfr hb0 hb1 hx hBB
      go_wp2_with fail
      go_roundw
      case rel =>
        refine .inr ⟨by go_num, _, HO.out, ⟨_, 4, rfl, ?_, by simp⟩, H0.out, H1.out, HB.out⟩
        have e := HX.out
        rw [beN4] at e
        exact e.byt (be4P_bd _)
      case measure => simp [intOf]
    · obtain ⟨g3, cap3, rfl, hg3, hg3l, hc3⟩ := own_cells hown (by omega)
      have hT : TxsV wr (some ⟨g3, 0, none⟩) [.slice (some ⟨w.heap.size + 1, 0, none⟩) 1 1, x1, .slice Af m cf] [[mark], be4P m, f] := ⟨rfl, fun _ => ⟨g3, 0, rfl, hg3l, hc3⟩, fun i h1 h2 => by
        match i, h1 with
        | 0, _ => exact ⟨_, 1, rfl, Blk.byt (l := [mark]) hb1 (by simpa using HMK.out), by simp⟩
        | 1, _ => exact hx1
        | 2, _ => exact ⟨Af, cf, by rw [← HM.out]; rfl, HF.out.below hB, hcf⟩⟩
      have HT := Lib.hid hT
      have HB0 := Lib.hid hb0
      have HB := Lib.hid hB
      have HG' := Lib.hid (HG.out.below hB)
      clear hT hb0 hb1 hB hx1 hown hc3
      go_wp2_with fail
      refine (sum_any (some ⟨g3, 0, none⟩) cap3 _ _ wr HT.out (by simp) (by simp [be4P_len, HM.out]; omega) (by
        intro x hx
        simp only [List.flatten_cons, List.flatten_nil, List.append_nil, List.mem_append, List.mem_singleton] at hx
        rcases hx with rfl | hx | hx
        · exact HMK.out
        · exact be4P_bd _ x hx
        · exact HF.out.bd x hx) HG'.out).mono ?_
      rintro e W5 ⟨rfl, hB5⟩
      have hb5 := HB0.out.fr (Fr.of_below hB5) (by have := HB0.out.lt; omega)
      have hS : [[mark], be4P m, f].flatten = mark :: (be4P m ++ f) := by simp
      rw [hS]
      have hl32 : (bys (shaP (mark :: (be4P m ++ f)))).length = 32 := by rw [bys_length, shaP_len]
      have hst := STs_blk (P := Tryd.prog) (t := 123) i123 hb5 (off := 0) (bys (shaP (mark :: (be4P m ++ f)))) hl32 (by omega) (bys_one _)
      rw [splice_whole _ _ (by rw [hl32, hz32s])] at hst
      have H5 := Lib.hid hb5
      have HB5 := Lib.hid hB5
      have HL := Lib.hid hl32
      clear hb5 hB5 hS hl32
      go_wp2_with fail
      refine bodyPost_ret (results_arr rfl _ _ w.heap.size 123 (bys (shaP (mark :: (be4P m ++ f)))) _ rfl (H5.out.row_ _) u123 rfl (by rw [HL.out]; exact i123)) rfl ?_
      exact ⟨rfl, Below.setRow (HB.out.trans (HB5.out.mono HB.out.size)) (Nat.le_refl _) _⟩

theorem SLs_to {P : Program} {t e : TypeId} {n : Nat} (hu : P.underlying t = some (.array n e)) (hs : (P.info? e).map (·.size) = some 1) (w : World) (g h : Nat) (vh : Int) (eh : vh = h) (hn : h ≤ n) (h0 : 0 < n) :
    (SLs t (.pointer (some ⟨g, 0, none⟩)) none (some (.int .i64 vh)) none).run P w = .ok (.slice (some ⟨g, 0, none⟩) h n) w := by
  subst eh
  obtain ⟨i, hq, hi⟩ := Option.map_eq_some_iff.1 hs
  have hne : ¬ n = 0 := by omega
  simp [SLs, Instr.sliceAt, Instr.sureAddr, Instr.sliceBounds, Instr.sliceBound, asIntOf, run_underlying hu, sizeOf, typeInfo, hq, hn, Addr.add]

set_option maxHeartbeats 2000000 in
/-- The sum of fields. -/
theorem scsum_any (Af : Option Addr) (cf : Nat) (hcf : Af = none → cf = 0) (f : List Int) (w : World) (hf : Byt w Af f) (hlen : f.length ≤ 400000000) (hg : Glob w) :
    Calls Tryd.prog 57 #[.slice Af f.length cf] w fun e w' => ∃ A c, e = .returned (.slice A 8 c) ∧ NewB w.heap.size w' A (sumP f) ∧ Below w.heap.size w w' := by
  obtain ⟨z, hz1, hz2⟩ := Option.map_eq_some_iff.1 z123
  have hal := fun W => ALs_new (P := Tryd.prog) (t := 123) z hz1 W
  obtain ⟨Z32, hZ32⟩ : ∃ Z32, z.cells = Z32 := ⟨_, rfl⟩
  have hz32s : Z32.size = 32 := by rw [← hZ32, ← Array.length_toList, hz2]; rfl
  simp only [hZ32] at hal
  clear hZ32 hz1 hz2 z
  obtain ⟨m, hm⟩ : ∃ m, f.length = m := ⟨_, rfl⟩
  have b0 := Blk.new w 22 #[.slice Af m cf]
  have B0 : Below w.heap.size w (w.alloc (.cells #[.slice Af m cf] 22)) := (Below.refl _ w).alloc (Nat.le_refl _) _
  have HF := Lib.hid hf
  have HG := Lib.hid hg
  have HM := Lib.hid hm
  rw [hm]
  clear hf hg hm
  go_enter Tryd.func57, Tryd.ntmps57
  go_wp2_with fail
  obtain ⟨S, hS⟩ : ∃ S, shaP (13 :: (be4P f.length ++ f)) = S := ⟨_, rfl⟩
  have hu := under_one 13 (by omega) w.heap.size 0 1 Af cf hcf f _ (by simp) (by rw [HM.out]; exact b0.cell 0) (HF.out.below B0) hlen (HG.out.below B0)
  rw [hS] at hu
  refine hu.mono ?_
  rintro e W1 ⟨rfl, hB1⟩
  have hl32 : (bys S).length = 32 := by rw [bys_length, ← hS, shaP_len]
  have hst := STs_new (P := Tryd.prog) (t := 123) i123 W1 Z32 hz32s (bys S) hl32 (bys_one _)
  have hsl : ∀ X : World, (SLs 123 (.pointer (some ⟨W1.heap.size, 0, none⟩)) none (some (.int .i64 8)) none).run Tryd.prog X = .ok (.slice (some ⟨W1.heap.size, 0, none⟩) 8 32) X :=
    fun X => SLs_to (P := Tryd.prog) u123 i5 X W1.heap.size 8 8 rfl (by omega) (by omega)
  have HS := Lib.hid hS
  have HB := Lib.hid (B0.trans (hB1.mono B0.size))
  clear b0 B0 hB1 hS hu
  go_wp2_with fail
  go_ret
  have hbs : Blk (W1.alloc (.cells (bys S).toArray 123)) W1.heap.size 123 (bys S).toArray := Blk.new W1 _ _
  refine ⟨_, _, rfl, ⟨⟨fun _ => ⟨W1.heap.size, 0, rfl, hbs.lt, fun j x hx => ?_⟩, sumP_bd f⟩, fun a e => ?_⟩, HB.out.alloc HB.out.size _⟩
  · rw [Nat.zero_add, hbs.cell j]
    have hx' : S[j]? = some x := by
      have e1 : sumP f = S.take 8 := by rw [← HS.out]; rfl
      rw [e1, List.getElem?_take] at hx
      split at hx
      · exact hx
      · cases hx
    simp [bys_get, hx']
  · cases e
    exact HB.out.size

end Go.Proofs.YtohadeijmmmcdaaDoor
