/-
  mapping.Of.
-/
import Derived.Test.YtdkanehjahpehaaGreatDoorJSum
import Derived.Test.YtdkanehjahpehaaGreatDoorJTxtO
import Derived.Test.YtdkanehjahpehaaGreatDoorJEye
import Derived.Deep.CutRange
import Derived.Deep.CutBlock

namespace Go.Proofs.YtdkanehjahpehaaGreatDoor
open Go.RowKit Go.Shelf
set_option maxRecDepth 100000

/-- A point's cells. -/
def ptL (tx : List Int) (ix : Int) : List Value := bys tx ++ [.int .i64 ix]
theorem ptL_len {tx : List Int} (h : tx.length = 32) (ix : Int) : (ptL tx ix).length = 33 := by simp [ptL, bys_length, h]
/-- An output's digest. -/
def digO (tx : List Int) (ix : Int) : List Int := underP 10 [tx, [ix]]
def okO (ix n : Int) : Bool := decide (1 ≤ n ∧ n ≤ 64 ∧ 0 ≤ ix ∧ ix ≤ 15)
/-- An output's shard. -/
def ofO (tx : List Int) (ix n : Int) : Int := if okO ix n = true then ((valP ((digO tx ix).take 8) : Nat) : Int) % n else 0

theorem SLs_all {P : Program} {t e : TypeId} {n : Nat} (hu : P.underlying t = some (.array n e)) (hs : (P.info? e).map (·.size) = some 1) (w : World) (g : Nat) (h0 : 0 < n) :
    (SLs t (.pointer (some ⟨g, 0, none⟩)) none none none).run P w = .ok (.slice (some ⟨g, 0, none⟩) n n) w := by
  obtain ⟨i, hq, hi⟩ := Option.map_eq_some_iff.1 hs
  have hne : ¬ n = 0 := by omega
  simp [SLs, Instr.sliceAt, Instr.sureAddr, Instr.sliceBounds, run_underlying hu, sizeOf, typeInfo, hq, Addr.add]

theorem pt_byt {tx : List Int} (_htx : tx.length = 32) (hb : ∀ x ∈ tx, 0 ≤ x ∧ x ≤ 255) (ix : Int) {X : World} {g : Nat} {t : TypeId} (hg : Blk X g t (ptL tx ix).toArray) : Byt X (some ⟨g, 0, none⟩) tx :=
  ⟨fun _ => ⟨g, 0, rfl, hg.lt, fun j x hx => by
    have hj : j < tx.length := (List.getElem?_eq_some_iff.1 hx).1
    rw [Nat.zero_add, hg.cell j]
    simp only [ptL, List.getElem?_toArray]
    rw [List.getElem?_append_left (by rw [bys_length]; exact hj), bys_get, hx]
    rfl⟩, hb⟩

/-- The digest of a point, wherever its parts were laid. -/
theorem mo_under (tx : List Int) (htx : tx.length = 32) (hb : ∀ x ∈ tx, 0 ≤ x ∧ x ≤ 255) (ix : Int) (hix : 0 ≤ ix ∧ ix ≤ 15) {X : World} {g b r : Nat} {t : TypeId} (hg : Blk X g t (ptL tx ix).toArray) (h1 : Blk X b 5 #[.int .u8 ix]) (h2 : Blk X r 28 #[.slice (some ⟨g, 0, none⟩) 32 32, .slice (some ⟨b, 0, none⟩) 1 1]) (hG : Glob X) :
    Calls Tryz.prog 150 #[.int .u8 10, .slice (some ⟨r, 0, none⟩) 2 2] X fun e w' => e = .returned (.agg (bys (digO tx ix)).toArray) ∧ Below X.heap.size X w' := by
  have hT : TxsV X (some ⟨r, 0, none⟩) [.slice (some ⟨g, 0, none⟩) 32 32, .slice (some ⟨b, 0, none⟩) 1 1] [tx, [ix]] := ⟨rfl, fun _ => ⟨r, 0, rfl, h2.lt, fun j x hx => by rw [Nat.zero_add, h2.cell j]; simpa using hx⟩, fun i hi hi' => by
    match i, hi with
    | 0, _ => exact ⟨_, 32, by simp [htx], pt_byt htx hb ix hg, by simp⟩
    | 1, _ => exact ⟨_, 1, rfl, Blk.byt (l := [ix]) h1 (by simp; omega), by simp⟩⟩
  have hl1 := hg.lt
  have hl2 := h1.lt
  exact under_any 10 (by omega) _ 2 _ [tx, [ix]] X hT (fun i hi hi' k hk _ => by
    match i, hi with
    | 0, _ => simp [Value.ownBlock] at hk; omega
    | 1, _ => simp [Value.ownBlock] at hk; omega) (by simp) (by simp [htx]) (fun l hl x hx => by
    simp at hl
    rcases hl with rfl | rfl
    · exact hb x hx
    · simp at hx; omega) hG

/-- What stands behind the digest's store. -/
def MoEnd (w : World) (tx : List Int) (ix : Int) (D : Nat) (w5 : World) : Prop :=
  (STs 48 (.pointer (some ⟨D, 0, none⟩)) (.agg (bys (digO tx ix)).toArray)).run Tryz.prog w5 = .ok () (w5.setRow D (bys (digO tx ix)).toArray) ∧ Blk (w5.setRow D (bys (digO tx ix)).toArray) D 48 (bys (digO tx ix)).toArray ∧ Below w.heap.size w (w5.setRow D (bys (digO tx ix)).toArray)
theorem mo_end {w w5 : World} (tx : List Int) (ix : Int) {D : Nat} {Z32 : Array Value} (hz : Z32.size = 32) (hD : Blk w5 D 48 Z32) (hB : Below w.heap.size w w5) (hDw : w.heap.size ≤ D) : MoEnd w tx ix D w5 := by
  have hl : (bys (digO tx ix)).length = 32 := by rw [bys_length]; exact underP_len _ _
  have hst := STs_blk (P := Tryz.prog) (t := 48) i123 hD (off := 0) (bys (digO tx ix)) hl (by omega) (bys_one _)
  rw [splice_whole _ _ (by rw [hl, hz])] at hst
  exact ⟨hst, hD.row_ _, Below.setRow hB hDw _⟩

section
attribute [local go_sem ↓] ld123 st123 al123 SLs_of
set_option maxHeartbeats 8000000 in
theorem mof_any (tx : List Int) (htx : tx.length = 32) (hb : ∀ x ∈ tx, 0 ≤ x ∧ x ≤ 255) (ix n : Int) (hix : -9223372036854775808 ≤ ix ∧ ix ≤ 9223372036854775807) (hn : -9223372036854775808 ≤ n ∧ n ≤ 9223372036854775807) (w : World) (hg : Glob w) :
    Calls Tryz.prog 111 #[.agg (ptL tx ix).toArray, .int .i64 n] w fun e w' => e = .returned (.tuple #[.int .i64 (ofO tx ix n), .bool (okO ix n)]) ∧ Below w.heap.size w w' := by
  have b0 := Blk.new w 75 (ptL tx ix).toArray
  have B0 : Below w.heap.size w (w.alloc (.cells (ptL tx ix).toArray 75)) := (Below.refl _ w).alloc (Nat.le_refl _) _
  obtain ⟨W, hW⟩ : ∃ W, w.alloc (.cells (ptL tx ix).toArray 75) = W := ⟨_, rfl⟩
  rw [hW] at b0 B0
  obtain ⟨g, hgg⟩ : ∃ g, w.heap.size = g := ⟨_, rfl⟩
  rw [hgg] at b0
  have q32 : W.cell? ⟨g, 32, none⟩ = some (.int .i64 ix) := by
    rw [b0.cell 32]
    simp [ptL, bys_length, htx]
  have HW := Lib.hid hW
  have HB0 := Lib.hid b0
  have BB := Lib.hid B0
  have HG := Lib.hid hg
  have HTX := Lib.hid htx
  have HB := Lib.hid hb
  have HGG := Lib.hid hgg
  clear hW b0 B0 hg htx hb hgg
  by_cases hok : okO ix n = true
  · have h4 := of_decide_eq_true hok
    obtain ⟨h1, h2, h3, h4⟩ := h4
    have n1 : ¬ n < 1 := by omega
    have n2 : ¬ 64 < n := by omega
    have n3 : ¬ ix < 0 := by omega
    have n4 : ¬ 16 ≤ ix := by omega
    have hof : ofO tx ix n = ((valP ((digO tx ix).take 8) : Nat) : Int) % n := by unfold ofO; rw [if_pos hok]
    rw [hok, hof]
    obtain ⟨z, hz1, hz2⟩ := Option.map_eq_some_iff.1 z123
    have hal := fun W => ALs_new (P := Tryz.prog) (t := 48) z hz1 W
    obtain ⟨Z32, hZ32⟩ : ∃ Z32, z.cells = Z32 := ⟨_, rfl⟩
    have hz32s : Z32.size = 32 := by rw [← hZ32, ← Array.length_toList, hz2]; rfl
    simp only [hZ32] at hal
    have hsl : ∀ W', (SLs 48 (.pointer (some ⟨g, 0, none⟩)) none none none).run Tryz.prog W' = .ok (.slice (some ⟨g, 0, none⟩) 32 32) W' := fun W' => SLs_all u123 (by kernel_rfl) W' g (by omega)
    have HZ := Lib.hid hz32s
    clear hZ32 hz1 hz2 z hz32s hof hok
    go_enter Tryz.func111, Tryz.ntmps111
    go_upto_region 1 with fail
    rw [HW.out, HGG.out]
    go_wp2_with fail
    obtain ⟨W9, hW9⟩ : ∃ W9, W.drew = W9 := ⟨_, rfl⟩
    have hB9 : Below w.heap.size w W9 := by rw [← hW9]; exact BB.out.drew
    have hg9 : Blk W9 g 75 (ptL tx ix).toArray := by rw [← hW9]; exact HB0.out.drew
    have q9 : W9.cell? ⟨g, 32, none⟩ = some (.int .i64 ix) := by rw [← hW9]; exact q32
    let S0 : World → Prop := fun X => X.cell? ⟨g, 32, none⟩ = some (.int .i64 ix)
    have hgl := hg9.lt
    have hS : ∀ X, Below W9.heap.size W9 X → S0 X := fun X hX => (hX.cell (p := ⟨g, 32, none⟩) hgl).trans q9
    have HS := Lib.hid hS
    have HW9 := Lib.hid hW9
    have hwu : IntKind.u8.wrap ix = ix := by rw [IntKind.wrap_u8']; omega
    have uA : Calls Tryz.prog 150 #[.int .u8 10, .slice (some ⟨W9.heap.size + 1 + 1, 0, none⟩) 2 2] (((W9.alloc (.cells Z32 48)).alloc (.cells #[.int .u8 ix] 5)).alloc (.cells #[.slice (some ⟨g, 0, none⟩) 32 32, .slice (some ⟨W9.heap.size + 1, 0, none⟩) 1 1] 28)) (fun e w' => e = .returned (.agg (bys (digO tx ix)).toArray) ∧ Below ((((W9.alloc (.cells Z32 48)).alloc (.cells #[.int .u8 ix] 5)).alloc (.cells #[.slice (some ⟨g, 0, none⟩) 32 32, .slice (some ⟨W9.heap.size + 1, 0, none⟩) 1 1] 28))).heap.size (((W9.alloc (.cells Z32 48)).alloc (.cells #[.int .u8 ix] 5)).alloc (.cells #[.slice (some ⟨g, 0, none⟩) 32 32, .slice (some ⟨W9.heap.size + 1, 0, none⟩) 1 1] 28)) w') ∧ ∀ w5, Below ((((W9.alloc (.cells Z32 48)).alloc (.cells #[.int .u8 ix] 5)).alloc (.cells #[.slice (some ⟨g, 0, none⟩) 32 32, .slice (some ⟨W9.heap.size + 1, 0, none⟩) 1 1] 28))).heap.size (((W9.alloc (.cells Z32 48)).alloc (.cells #[.int .u8 ix] 5)).alloc (.cells #[.slice (some ⟨g, 0, none⟩) 32 32, .slice (some ⟨W9.heap.size + 1, 0, none⟩) 1 1] 28)) w5 → MoEnd w tx ix W9.heap.size w5 := by
      have hb0 := ((Blk.new (W9.alloc (.cells Z32 48)) 5 #[.int .u8 ix]).alloc (.cells #[.slice (some ⟨g, 0, none⟩) 32 32, .slice (some ⟨W9.heap.size + 1, 0, none⟩) 1 1] 28))
      have hr0 := (Blk.new ((W9.alloc (.cells Z32 48)).alloc (.cells #[.int .u8 ix] 5)) 28 #[.slice (some ⟨g, 0, none⟩) 32 32, .slice (some ⟨W9.heap.size + 1, 0, none⟩) 1 1])
      have hD0 := (((Blk.new W9 48 Z32).alloc (.cells #[.int .u8 ix] 5)).alloc (.cells #[.slice (some ⟨g, 0, none⟩) 32 32, .slice (some ⟨W9.heap.size + 1, 0, none⟩) 1 1] 28))
      simp only [World.size_alloc] at hb0 hr0 hD0
      refine ⟨mo_under tx HTX.out HB.out ix ⟨h3, h4⟩ (((hg9.alloc (.cells Z32 48)).alloc (.cells #[.int .u8 ix] 5)).alloc (.cells #[.slice (some ⟨g, 0, none⟩) 32 32, .slice (some ⟨W9.heap.size + 1, 0, none⟩) 1 1] 28)) hb0 hr0 (HG.out.below (((hB9.alloc (by have := hB9.size; simp; omega) (.cells Z32 48)).alloc (by have := hB9.size; simp; omega) (.cells #[.int .u8 ix] 5)).alloc (by have := hB9.size; simp; omega) (.cells #[.slice (some ⟨g, 0, none⟩) 32 32, .slice (some ⟨W9.heap.size + 1, 0, none⟩) 1 1] 28))), fun w5 hU => ?_⟩
      exact mo_end tx ix HZ.out (hD0.fr (Fr.of_below hU) (by have := hD0.lt; omega)) ((((hB9.alloc (by have := hB9.size; simp; omega) (.cells Z32 48)).alloc (by have := hB9.size; simp; omega) (.cells #[.int .u8 ix] 5)).alloc (by have := hB9.size; simp; omega) (.cells #[.slice (some ⟨g, 0, none⟩) 32 32, .slice (some ⟨W9.heap.size + 1, 0, none⟩) 1 1] 28)).trans (hU.mono ((((hB9.alloc (by have := hB9.size; simp; omega) (.cells Z32 48)).alloc (by have := hB9.size; simp; omega) (.cells #[.int .u8 ix] 5)).alloc (by have := hB9.size; simp; omega) (.cells #[.slice (some ⟨g, 0, none⟩) 32 32, .slice (some ⟨W9.heap.size + 1, 0, none⟩) 1 1] 28))).size)) (by have := hB9.size; omega)
    have UA := Lib.hid uA
    clear uA
    have uB : Calls Tryz.prog 150 #[.int .u8 10, .slice (some ⟨W9.heap.size + 1 + 1, 0, none⟩) 2 2] (((W9.alloc (.cells #[.int .u8 ix] 5)).alloc (.cells Z32 48)).alloc (.cells #[.slice (some ⟨g, 0, none⟩) 32 32, .slice (some ⟨W9.heap.size, 0, none⟩) 1 1] 28)) (fun e w' => e = .returned (.agg (bys (digO tx ix)).toArray) ∧ Below ((((W9.alloc (.cells #[.int .u8 ix] 5)).alloc (.cells Z32 48)).alloc (.cells #[.slice (some ⟨g, 0, none⟩) 32 32, .slice (some ⟨W9.heap.size, 0, none⟩) 1 1] 28))).heap.size (((W9.alloc (.cells #[.int .u8 ix] 5)).alloc (.cells Z32 48)).alloc (.cells #[.slice (some ⟨g, 0, none⟩) 32 32, .slice (some ⟨W9.heap.size, 0, none⟩) 1 1] 28)) w') ∧ ∀ w5, Below ((((W9.alloc (.cells #[.int .u8 ix] 5)).alloc (.cells Z32 48)).alloc (.cells #[.slice (some ⟨g, 0, none⟩) 32 32, .slice (some ⟨W9.heap.size, 0, none⟩) 1 1] 28))).heap.size (((W9.alloc (.cells #[.int .u8 ix] 5)).alloc (.cells Z32 48)).alloc (.cells #[.slice (some ⟨g, 0, none⟩) 32 32, .slice (some ⟨W9.heap.size, 0, none⟩) 1 1] 28)) w5 → MoEnd w tx ix (W9.heap.size + 1) w5 := by
      have hb0 := (((Blk.new W9 5 #[.int .u8 ix]).alloc (.cells Z32 48)).alloc (.cells #[.slice (some ⟨g, 0, none⟩) 32 32, .slice (some ⟨W9.heap.size, 0, none⟩) 1 1] 28))
      have hr0 := (Blk.new ((W9.alloc (.cells #[.int .u8 ix] 5)).alloc (.cells Z32 48)) 28 #[.slice (some ⟨g, 0, none⟩) 32 32, .slice (some ⟨W9.heap.size, 0, none⟩) 1 1])
      have hD0 := ((Blk.new (W9.alloc (.cells #[.int .u8 ix] 5)) 48 Z32).alloc (.cells #[.slice (some ⟨g, 0, none⟩) 32 32, .slice (some ⟨W9.heap.size, 0, none⟩) 1 1] 28))
      simp only [World.size_alloc] at hb0 hr0 hD0
      refine ⟨mo_under tx HTX.out HB.out ix ⟨h3, h4⟩ (((hg9.alloc (.cells #[.int .u8 ix] 5)).alloc (.cells Z32 48)).alloc (.cells #[.slice (some ⟨g, 0, none⟩) 32 32, .slice (some ⟨W9.heap.size, 0, none⟩) 1 1] 28)) hb0 hr0 (HG.out.below (((hB9.alloc (by have := hB9.size; simp; omega) (.cells #[.int .u8 ix] 5)).alloc (by have := hB9.size; simp; omega) (.cells Z32 48)).alloc (by have := hB9.size; simp; omega) (.cells #[.slice (some ⟨g, 0, none⟩) 32 32, .slice (some ⟨W9.heap.size, 0, none⟩) 1 1] 28))), fun w5 hU => ?_⟩
      exact mo_end tx ix HZ.out (hD0.fr (Fr.of_below hU) (by have := hD0.lt; omega)) ((((hB9.alloc (by have := hB9.size; simp; omega) (.cells #[.int .u8 ix] 5)).alloc (by have := hB9.size; simp; omega) (.cells Z32 48)).alloc (by have := hB9.size; simp; omega) (.cells #[.slice (some ⟨g, 0, none⟩) 32 32, .slice (some ⟨W9.heap.size, 0, none⟩) 1 1] 28)).trans (hU.mono ((((hB9.alloc (by have := hB9.size; simp; omega) (.cells #[.int .u8 ix] 5)).alloc (by have := hB9.size; simp; omega) (.cells Z32 48)).alloc (by have := hB9.size; simp; omega) (.cells #[.slice (some ⟨g, 0, none⟩) 32 32, .slice (some ⟨W9.heap.size, 0, none⟩) 1 1] 28))).size)) (by have := hB9.size; omega)
    have UB := Lib.hid uB
    clear uB
    have uC : Calls Tryz.prog 150 #[.int .u8 10, .slice (some ⟨W9.heap.size + 1, 0, none⟩) 2 2] (((W9.alloc (.cells #[.int .u8 ix] 5)).alloc (.cells #[.slice (some ⟨g, 0, none⟩) 32 32, .slice (some ⟨W9.heap.size, 0, none⟩) 1 1] 28)).alloc (.cells Z32 48)) (fun e w' => e = .returned (.agg (bys (digO tx ix)).toArray) ∧ Below ((((W9.alloc (.cells #[.int .u8 ix] 5)).alloc (.cells #[.slice (some ⟨g, 0, none⟩) 32 32, .slice (some ⟨W9.heap.size, 0, none⟩) 1 1] 28)).alloc (.cells Z32 48))).heap.size (((W9.alloc (.cells #[.int .u8 ix] 5)).alloc (.cells #[.slice (some ⟨g, 0, none⟩) 32 32, .slice (some ⟨W9.heap.size, 0, none⟩) 1 1] 28)).alloc (.cells Z32 48)) w') ∧ ∀ w5, Below ((((W9.alloc (.cells #[.int .u8 ix] 5)).alloc (.cells #[.slice (some ⟨g, 0, none⟩) 32 32, .slice (some ⟨W9.heap.size, 0, none⟩) 1 1] 28)).alloc (.cells Z32 48))).heap.size (((W9.alloc (.cells #[.int .u8 ix] 5)).alloc (.cells #[.slice (some ⟨g, 0, none⟩) 32 32, .slice (some ⟨W9.heap.size, 0, none⟩) 1 1] 28)).alloc (.cells Z32 48)) w5 → MoEnd w tx ix (W9.heap.size + 1 + 1) w5 := by
      have hb0 := (((Blk.new W9 5 #[.int .u8 ix]).alloc (.cells #[.slice (some ⟨g, 0, none⟩) 32 32, .slice (some ⟨W9.heap.size, 0, none⟩) 1 1] 28)).alloc (.cells Z32 48))
      have hr0 := ((Blk.new (W9.alloc (.cells #[.int .u8 ix] 5)) 28 #[.slice (some ⟨g, 0, none⟩) 32 32, .slice (some ⟨W9.heap.size, 0, none⟩) 1 1]).alloc (.cells Z32 48))
      have hD0 := (Blk.new ((W9.alloc (.cells #[.int .u8 ix] 5)).alloc (.cells #[.slice (some ⟨g, 0, none⟩) 32 32, .slice (some ⟨W9.heap.size, 0, none⟩) 1 1] 28)) 48 Z32)
      simp only [World.size_alloc] at hb0 hr0 hD0
      refine ⟨mo_under tx HTX.out HB.out ix ⟨h3, h4⟩ (((hg9.alloc (.cells #[.int .u8 ix] 5)).alloc (.cells #[.slice (some ⟨g, 0, none⟩) 32 32, .slice (some ⟨W9.heap.size, 0, none⟩) 1 1] 28)).alloc (.cells Z32 48)) hb0 hr0 (HG.out.below (((hB9.alloc (by have := hB9.size; simp; omega) (.cells #[.int .u8 ix] 5)).alloc (by have := hB9.size; simp; omega) (.cells #[.slice (some ⟨g, 0, none⟩) 32 32, .slice (some ⟨W9.heap.size, 0, none⟩) 1 1] 28)).alloc (by have := hB9.size; simp; omega) (.cells Z32 48))), fun w5 hU => ?_⟩
      exact mo_end tx ix HZ.out (hD0.fr (Fr.of_below hU) (by have := hD0.lt; omega)) ((((hB9.alloc (by have := hB9.size; simp; omega) (.cells #[.int .u8 ix] 5)).alloc (by have := hB9.size; simp; omega) (.cells #[.slice (some ⟨g, 0, none⟩) 32 32, .slice (some ⟨W9.heap.size, 0, none⟩) 1 1] 28)).alloc (by have := hB9.size; simp; omega) (.cells Z32 48)).trans (hU.mono ((((hB9.alloc (by have := hB9.size; simp; omega) (.cells #[.int .u8 ix] 5)).alloc (by have := hB9.size; simp; omega) (.cells #[.slice (some ⟨g, 0, none⟩) 32 32, .slice (some ⟨W9.heap.size, 0, none⟩) 1 1] 28)).alloc (by have := hB9.size; simp; omega) (.cells Z32 48))).size)) (by have := hB9.size; omega)
    have UC := Lib.hid uC
    clear uC
    have uD : Calls Tryz.prog 150 #[.int .u8 10, .slice (some ⟨W9.heap.size + 1, 0, none⟩) 2 2] ((W9.alloc (.cells #[.int .u8 ix] 5)).alloc (.cells #[.slice (some ⟨g, 0, none⟩) 32 32, .slice (some ⟨W9.heap.size, 0, none⟩) 1 1] 28)) (fun e w' => e = .returned (.agg (bys (digO tx ix)).toArray) ∧ Below (((W9.alloc (.cells #[.int .u8 ix] 5)).alloc (.cells #[.slice (some ⟨g, 0, none⟩) 32 32, .slice (some ⟨W9.heap.size, 0, none⟩) 1 1] 28))).heap.size ((W9.alloc (.cells #[.int .u8 ix] 5)).alloc (.cells #[.slice (some ⟨g, 0, none⟩) 32 32, .slice (some ⟨W9.heap.size, 0, none⟩) 1 1] 28)) w') ∧ ∀ w5, Below (((W9.alloc (.cells #[.int .u8 ix] 5)).alloc (.cells #[.slice (some ⟨g, 0, none⟩) 32 32, .slice (some ⟨W9.heap.size, 0, none⟩) 1 1] 28))).heap.size ((W9.alloc (.cells #[.int .u8 ix] 5)).alloc (.cells #[.slice (some ⟨g, 0, none⟩) 32 32, .slice (some ⟨W9.heap.size, 0, none⟩) 1 1] 28)) w5 → MoEnd w tx ix w5.heap.size (w5.alloc (.cells Z32 48)) := by
      have hb0 := ((Blk.new W9 5 #[.int .u8 ix]).alloc (.cells #[.slice (some ⟨g, 0, none⟩) 32 32, .slice (some ⟨W9.heap.size, 0, none⟩) 1 1] 28))
      have hr0 := (Blk.new (W9.alloc (.cells #[.int .u8 ix] 5)) 28 #[.slice (some ⟨g, 0, none⟩) 32 32, .slice (some ⟨W9.heap.size, 0, none⟩) 1 1])
      simp only [World.size_alloc] at hb0 hr0
      refine ⟨mo_under tx HTX.out HB.out ix ⟨h3, h4⟩ ((hg9.alloc (.cells #[.int .u8 ix] 5)).alloc (.cells #[.slice (some ⟨g, 0, none⟩) 32 32, .slice (some ⟨W9.heap.size, 0, none⟩) 1 1] 28)) hb0 hr0 (HG.out.below ((hB9.alloc (by have := hB9.size; simp; omega) (.cells #[.int .u8 ix] 5)).alloc (by have := hB9.size; simp; omega) (.cells #[.slice (some ⟨g, 0, none⟩) 32 32, .slice (some ⟨W9.heap.size, 0, none⟩) 1 1] 28))), fun w5 hU => ?_⟩
      exact mo_end tx ix HZ.out (Blk.new w5 _ _) ((((hB9.alloc (by have := hB9.size; simp; omega) (.cells #[.int .u8 ix] 5)).alloc (by have := hB9.size; simp; omega) (.cells #[.slice (some ⟨g, 0, none⟩) 32 32, .slice (some ⟨W9.heap.size, 0, none⟩) 1 1] 28)).trans (hU.mono (((hB9.alloc (by have := hB9.size; simp; omega) (.cells #[.int .u8 ix] 5)).alloc (by have := hB9.size; simp; omega) (.cells #[.slice (some ⟨g, 0, none⟩) 32 32, .slice (some ⟨W9.heap.size, 0, none⟩) 1 1] 28))).size)).alloc (Nat.le_trans (((hB9.alloc (by have := hB9.size; simp; omega) (.cells #[.int .u8 ix] 5)).alloc (by have := hB9.size; simp; omega) (.cells #[.slice (some ⟨g, 0, none⟩) 32 32, .slice (some ⟨W9.heap.size, 0, none⟩) 1 1] 28))).size hU.size) _) (Nat.le_trans (((hB9.alloc (by have := hB9.size; simp; omega) (.cells #[.int .u8 ix] 5)).alloc (by have := hB9.size; simp; omega) (.cells #[.slice (some ⟨g, 0, none⟩) 32 32, .slice (some ⟨W9.heap.size, 0, none⟩) 1 1] 28))).size hU.size)
    have UD := Lib.hid uD
    clear uD
    clear hS hW9 q9 hg9 hB9 hgl q32
    refine wp_txC (fun i => i != 9) [(0, 3), (1, 3), (2, 3), (3, 0), (4, 3)] 5 #[true, true, true, true, true, false, false, false, false, false] S0 (by kernel_rfl) (by kernel_rfl) (by kernel_rfl) (by kernel_rfl) (by rw [HW9.out]; exact HS.out _ (Below.refl _ _)) ?_
    rw [HW9.out]
    iterate 3 (with_reducible refine wpTxC_evN (o := ?_) (v := ?_) (a' := ?_) (by with_unfolding_all rfl) (by with_unfolding_all rfl) (fun W' => ?_) ?_ ?_; rotate_left 2; (focus (go_simp <;> with_reducible rfl)); focus (go_simp <;> with_reducible rfl))
    iterate 1 (with_reducible refine wpTxC_takeN (o := ?_) (v := ?_) (a' := ?_) (by with_unfolding_all rfl) (by with_unfolding_all rfl) (fun W' hS' => ?_) ?_ ?_; rotate_left 2; (focus (have j0 : W'.cell? _ = _ := hS'; go_simp <;> with_reducible rfl)); focus (go_simp <;> with_reducible rfl))
    iterate 1 (with_reducible refine wpTxC_evN (o := ?_) (v := ?_) (a' := ?_) (by with_unfolding_all rfl) (by with_unfolding_all rfl) (fun W' => ?_) ?_ ?_; rotate_left 2; (focus (go_simp <;> with_reducible rfl)); focus (go_simp <;> with_reducible rfl))
    with_reducible refine wpTxC_nil ?_
    refine wpAnyJ_two (i := 5) (j := 8) (by kernel_rfl) ?_ ?_
    rotate_left
    focus
      with_reducible refine wpOp_pick (J := fun i => i != 9) (oi := ?_) (by with_unfolding_all rfl) (by with_unfolding_all rfl) (fun K hK => ?_)
      simp only [List.getElem_toArray, List.getElem_cons_succ, List.getElem_cons_zero]
      go_simp
      with_reducible refine hK _ _ (HS.out _ ((Below.refl _ W9).alloc (Nat.le_refl _) _)) ?_
      clear hK K
      refine wpAnyJ_rest [(5, 1), (6, 1), (7, 1), (9, 2)] (by kernel_rfl) (by kernel_rfl) (by kernel_rfl) ?_
      with_reducible refine wpTxO_want (o := ?_) (by with_unfolding_all rfl) (by with_unfolding_all rfl) (fun K hK => ?_)
      simp only [List.getElem_toArray, List.getElem_cons_succ, List.getElem_cons_zero]
      go_simp
      with_reducible refine hK _ _ (HS.out _ (((Below.refl _ W9).alloc (Nat.le_refl _) _).alloc (by simp) _)) ?_
      clear hK K
      with_reducible refine wpTxO_want (o := ?_) (by with_unfolding_all rfl) (by with_unfolding_all rfl) (fun K hK => ?_)
      simp only [List.getElem_toArray, List.getElem_cons_succ, List.getElem_cons_zero]
      go_simp
      with_reducible refine hK _ _ (HS.out _ ((((Below.refl _ W9).alloc (Nat.le_refl _) _).alloc (by simp) _).alloc (by simp; omega) _)) ?_
      clear hK K
      with_reducible refine wpTxO_want (o := ?_) (by with_unfolding_all rfl) (by with_unfolding_all rfl) (fun K hK => ?_)
      simp only [List.getElem_toArray, List.getElem_cons_succ, List.getElem_cons_zero]
      go_simp
      with_reducible refine UA.out.1.mono ?_
      rintro e w5 ⟨rfl, hU⟩
      obtain ⟨hst, hD6, hB6⟩ := UA.out.2 _ hU
      have hbu := ((((Below.refl _ W9).alloc (Nat.le_refl _) _).alloc (by simp) _).alloc (by simp; omega) _).trans (hU.mono (((((Below.refl _ W9).alloc (Nat.le_refl _) _).alloc (by simp) _).alloc (by simp; omega) _)).size)
      with_reducible refine hK _ _ (HS.out _ hbu) ?_
      clear hK K
      with_reducible refine wpTxO_last (o := ?_) (by with_unfolding_all rfl) (by with_unfolding_all rfl) (fun K hK => ?_)
      simp only [List.getElem_toArray, List.getElem_cons_succ, List.getElem_cons_zero]
      go_simp
      with_reducible refine hK _ _ ?_
      clear hK K
      with_reducible refine wpTxO_nil ?_
      rw [noPan_normal]
      obtain ⟨w6, hw6⟩ : ∃ w6, w5.setRow W9.heap.size (bys (digO tx ix)).toArray = w6 := ⟨_, rfl⟩
      rw [hw6] at hD6 hB6 ⊢
      obtain ⟨D, hDD⟩ : ∃ D, W9.heap.size = D := ⟨_, rfl⟩
      rw [hDD] at hD6 ⊢
      have HD6 := Lib.hid hD6
      have HB6 := Lib.hid hB6
      clear hst hU hbu hw6 hDD hD6 hB6 UA UB UC UD HS HW9
      go_upto_region 5 with fail
    rotate_left
    with_reducible refine wpOp_pick (J := fun i => i != 9) (oi := ?_) (by with_unfolding_all rfl) (by with_unfolding_all rfl) (fun K hK => ?_)
    simp only [List.getElem_toArray, List.getElem_cons_succ, List.getElem_cons_zero]
    go_simp
    with_reducible refine hK _ _ (HS.out _ ((Below.refl _ W9).alloc (Nat.le_refl _) _)) ?_
    clear hK K
    refine wpAnyJ_two (i := 6) (j := 8) (by kernel_rfl) ?_ ?_
    rotate_left
    focus
      with_reducible refine wpOp_pick (J := fun i => i != 9) (oi := ?_) (by with_unfolding_all rfl) (by with_unfolding_all rfl) (fun K hK => ?_)
      simp only [List.getElem_toArray, List.getElem_cons_succ, List.getElem_cons_zero]
      go_simp
      with_reducible refine hK _ _ (HS.out _ (((Below.refl _ W9).alloc (Nat.le_refl _) _).alloc (by simp) _)) ?_
      clear hK K
      refine wpAnyJ_rest [(6, 1), (7, 1), (9, 2)] (by kernel_rfl) (by kernel_rfl) (by kernel_rfl) ?_
      with_reducible refine wpTxO_want (o := ?_) (by with_unfolding_all rfl) (by with_unfolding_all rfl) (fun K hK => ?_)
      simp only [List.getElem_toArray, List.getElem_cons_succ, List.getElem_cons_zero]
      go_simp
      with_reducible refine hK _ _ (HS.out _ ((((Below.refl _ W9).alloc (Nat.le_refl _) _).alloc (by simp) _).alloc (by simp; omega) _)) ?_
      clear hK K
      with_reducible refine wpTxO_want (o := ?_) (by with_unfolding_all rfl) (by with_unfolding_all rfl) (fun K hK => ?_)
      simp only [List.getElem_toArray, List.getElem_cons_succ, List.getElem_cons_zero]
      go_simp
      with_reducible refine UB.out.1.mono ?_
      rintro e w5 ⟨rfl, hU⟩
      obtain ⟨hst, hD6, hB6⟩ := UB.out.2 _ hU
      have hbu := ((((Below.refl _ W9).alloc (Nat.le_refl _) _).alloc (by simp) _).alloc (by simp; omega) _).trans (hU.mono (((((Below.refl _ W9).alloc (Nat.le_refl _) _).alloc (by simp) _).alloc (by simp; omega) _)).size)
      with_reducible refine hK _ _ (HS.out _ hbu) ?_
      clear hK K
      with_reducible refine wpTxO_last (o := ?_) (by with_unfolding_all rfl) (by with_unfolding_all rfl) (fun K hK => ?_)
      simp only [List.getElem_toArray, List.getElem_cons_succ, List.getElem_cons_zero]
      go_simp
      with_reducible refine hK _ _ ?_
      clear hK K
      with_reducible refine wpTxO_nil ?_
      rw [noPan_normal]
      obtain ⟨w6, hw6⟩ : ∃ w6, w5.setRow (W9.heap.size + 1) (bys (digO tx ix)).toArray = w6 := ⟨_, rfl⟩
      rw [hw6] at hD6 hB6 ⊢
      obtain ⟨D, hDD⟩ : ∃ D, (W9.heap.size + 1) = D := ⟨_, rfl⟩
      rw [hDD] at hD6 ⊢
      have HD6 := Lib.hid hD6
      have HB6 := Lib.hid hB6
      clear hst hU hbu hw6 hDD hD6 hB6 UA UB UC UD HS HW9
      go_upto_region 5 with fail
    rotate_left
    rotate_left
    with_reducible refine wpOp_pick (J := fun i => i != 9) (oi := ?_) (by with_unfolding_all rfl) (by with_unfolding_all rfl) (fun K hK => ?_)
    simp only [List.getElem_toArray, List.getElem_cons_succ, List.getElem_cons_zero]
    go_simp
    with_reducible refine hK _ _ (HS.out _ (((Below.refl _ W9).alloc (Nat.le_refl _) _).alloc (by simp) _)) ?_
    clear hK K
    refine wpAnyJ_two (i := 7) (j := 8) (by kernel_rfl) ?_ ?_
    rotate_left
    focus
      with_reducible refine wpOp_pick (J := fun i => i != 9) (oi := ?_) (by with_unfolding_all rfl) (by with_unfolding_all rfl) (fun K hK => ?_)
      simp only [List.getElem_toArray, List.getElem_cons_succ, List.getElem_cons_zero]
      go_simp
      with_reducible refine hK _ _ (HS.out _ ((((Below.refl _ W9).alloc (Nat.le_refl _) _).alloc (by simp) _).alloc (by simp; omega) _)) ?_
      clear hK K
      refine wpAnyJ_rest [(7, 1), (9, 2)] (by kernel_rfl) (by kernel_rfl) (by kernel_rfl) ?_
      with_reducible refine wpTxO_want (o := ?_) (by with_unfolding_all rfl) (by with_unfolding_all rfl) (fun K hK => ?_)
      simp only [List.getElem_toArray, List.getElem_cons_succ, List.getElem_cons_zero]
      go_simp
      with_reducible refine UC.out.1.mono ?_
      rintro e w5 ⟨rfl, hU⟩
      obtain ⟨hst, hD6, hB6⟩ := UC.out.2 _ hU
      have hbu := ((((Below.refl _ W9).alloc (Nat.le_refl _) _).alloc (by simp) _).alloc (by simp; omega) _).trans (hU.mono (((((Below.refl _ W9).alloc (Nat.le_refl _) _).alloc (by simp) _).alloc (by simp; omega) _)).size)
      with_reducible refine hK _ _ (HS.out _ hbu) ?_
      clear hK K
      with_reducible refine wpTxO_last (o := ?_) (by with_unfolding_all rfl) (by with_unfolding_all rfl) (fun K hK => ?_)
      simp only [List.getElem_toArray, List.getElem_cons_succ, List.getElem_cons_zero]
      go_simp
      with_reducible refine hK _ _ ?_
      clear hK K
      with_reducible refine wpTxO_nil ?_
      rw [noPan_normal]
      obtain ⟨w6, hw6⟩ : ∃ w6, w5.setRow (W9.heap.size + 1 + 1) (bys (digO tx ix)).toArray = w6 := ⟨_, rfl⟩
      rw [hw6] at hD6 hB6 ⊢
      obtain ⟨D, hDD⟩ : ∃ D, (W9.heap.size + 1 + 1) = D := ⟨_, rfl⟩
      rw [hDD] at hD6 ⊢
      have HD6 := Lib.hid hD6
      have HB6 := Lib.hid hB6
      clear hst hU hbu hw6 hDD hD6 hB6 UA UB UC UD HS HW9
      go_upto_region 5 with fail
    rotate_left
    rotate_left
    rotate_left
    focus
      with_reducible refine wpOp_pick (J := fun i => i != 9) (oi := ?_) (by with_unfolding_all rfl) (by with_unfolding_all rfl) (fun K hK => ?_)
      simp only [List.getElem_toArray, List.getElem_cons_succ, List.getElem_cons_zero]
      go_simp
      with_reducible refine UD.out.1.mono ?_
      rintro e w5 ⟨rfl, hU⟩
      obtain ⟨hst, hD6, hB6⟩ := UD.out.2 _ hU
      have hbu := (((Below.refl _ W9).alloc (Nat.le_refl _) _).alloc (by simp) _).trans (hU.mono ((((Below.refl _ W9).alloc (Nat.le_refl _) _).alloc (by simp) _)).size)
      with_reducible refine hK _ _ (HS.out _ hbu) ?_
      clear hK K
      refine wpAnyJ_rest [(8, 1), (9, 2)] (by kernel_rfl) (by kernel_rfl) (by kernel_rfl) ?_
      with_reducible refine wpTxO_want (o := ?_) (by with_unfolding_all rfl) (by with_unfolding_all rfl) (fun K hK => ?_)
      simp only [List.getElem_toArray, List.getElem_cons_succ, List.getElem_cons_zero]
      go_simp
      with_reducible refine hK _ _ (HS.out _ (hbu.alloc hbu.size _)) ?_
      clear hK K
      with_reducible refine wpTxO_last (o := ?_) (by with_unfolding_all rfl) (by with_unfolding_all rfl) (fun K hK => ?_)
      simp only [List.getElem_toArray, List.getElem_cons_succ, List.getElem_cons_zero]
      go_simp
      with_reducible refine hK _ _ ?_
      clear hK K
      have hz := hst
      with_reducible refine wpTxO_nil ?_
      rw [noPan_normal]
      obtain ⟨w6, hw6⟩ : ∃ w6, (w5.alloc (.cells Z32 48)).setRow w5.heap.size (bys (digO tx ix)).toArray = w6 := ⟨_, rfl⟩
      rw [hw6] at hD6 hB6 ⊢
      obtain ⟨D, hDD⟩ : ∃ D, w5.heap.size = D := ⟨_, rfl⟩
      rw [hDD] at hD6 ⊢
      have HD6 := Lib.hid hD6
      have HB6 := Lib.hid hB6
      clear hz hst hU hbu hw6 hDD hD6 hB6 UA UB UC UD HS HW9
      go_upto_region 5 with fail
    all_goals
      clear hal hsl
      have hsl8 := SLs_to (P := Tryz.prog) u123 (by kernel_rfl) w6 D 8 8 rfl (by omega) (by omega)
      have hdl : (digO tx ix).length = 32 := underP_len _ _
      have hdb : ∀ x ∈ digO tx ix, 0 ≤ x ∧ x ≤ 255 := underP_bd _ _
      obtain ⟨V, hV⟩ : ∃ V, digO tx ix = V := ⟨_, rfl⟩
      rw [hV] at hdl hdb HD6 ⊢
      have HDL := Lib.hid hdl
      have HDB := Lib.hid hdb
      have HV := Lib.hid hV
      clear hdl hdb hV
      go_wp2_with fail
      clear hsl8
      go_loopg [7, 9, 36] 8 (fun kk v _ t wr => ∃ i : Nat, i + kk = 8 ∧ t = .int .i64 (i : Int) ∧ v = .int .u64 ((valP (V.take i) : Nat) : Int) ∧ wr = w6)
      case atStart => exact ⟨0, by omega, rfl, rfl, rfl⟩
      case round =>
        obtain ⟨i, hi, rfl, rfl, rfl⟩ := hrel
        by_cases h8 : i < 8
        · have h8I : (i : Int) < 8 := by omega
          obtain ⟨x, hx⟩ : ∃ x, V[i]? = some x := ⟨V[i]'(by rw [HDL.out]; omega), by simp⟩
          have hxb := HDB.out x (List.mem_of_getElem? hx)
          obtain ⟨X, rfl⟩ : ∃ X : Nat, x = (X : Int) := ⟨x.toNat, by omega⟩
          have hcx : wr.cell? ⟨D, i, none⟩ = some (.int .u8 (X : Int)) := by
            rw [HD6.out.cell i]
            simp only [List.getElem?_toArray]
            rw [bys_get, hx]
            rfl
          have hvl := valP_lt (V.take i) (fun y hy => HDB.out y (List.mem_of_mem_take hy))
          have hpw : 256 ^ (V.take i).length ≤ 256 ^ 7 := Nat.pow_le_pow_right (by omega) (by rw [List.length_take]; omega)
          have htk : valP (V.take (i + 1)) = valP (V.take i) * 256 + X := by
            have hl : i < V.length := by rw [HDL.out]; omega
            rw [List.take_succ_eq_append_getElem hl, valP_snoc]
            rw [List.getElem?_eq_getElem hl] at hx
            rw [Option.some.inj hx, Int.toNat_natCast]
          obtain ⟨v, hv⟩ : ∃ v, valP (V.take i) = v := ⟨_, rfl⟩
          rw [hv] at hvl htk ⊢
          have hv7 : v < 72057594037927936 := Nat.lt_of_lt_of_le hvl (by rw [show (72057594037927936 : Nat) = 256 ^ 7 from rfl]; exact hpw)
          have horl : bits .or .u64 ((v : Int) * 256) (X : Int) = ((v * 256 + X : Nat) : Int) := by
            have e := or_low v X (by omega) (by omega)
            rwa [Int.natCast_mul] at e
          have HTK := Lib.hid htk
          clear hvl hpw htk hv hx
          go_wp2_with fail
          go_roundg (8 - (i + 1))
          case measure => omega
          case rel => exact ⟨i + 1, by omega, by go_num, by rw [HTK.out]; go_num, rfl⟩
        · obtain rfl : i = 8 := by omega
          have h8I : ¬ (((8 : Nat) : Int) < 8) := by omega
          obtain ⟨N, rfl⟩ : ∃ N : Nat, n = (N : Int) := ⟨n.toNat, by omega⟩
          have hvl := valP_lt (V.take 8) (fun y hy => HDB.out y (List.mem_of_mem_take hy))
          have hpw : 256 ^ (V.take 8).length ≤ 256 ^ 8 := Nat.pow_le_pow_right (by omega) (by rw [List.length_take]; omega)
          obtain ⟨v, hv⟩ : ∃ v, valP (V.take 8) = v := ⟨_, rfl⟩
          rw [hv] at hvl ⊢
          have hv8 : (v : Int) ≤ 18446744073709551615 := by
            have : v < 256 ^ 8 := Nat.lt_of_lt_of_le hvl hpw
            omega
          have hN0 : ((N : Int) == 0) = false := by simp; omega
          have hmod : wrap64 ((v : Int) % (N : Int)) = (v : Int) % (N : Int) := by
            have e1 := Int.emod_nonneg (v : Int) (show (N : Int) ≠ 0 by omega)
            have e2 := Int.emod_lt_of_pos (v : Int) (show (0 : Int) < (N : Int) by omega)
            unfold wrap64
            omega
          have HVV := Lib.hid hv
          clear hvl hpw hv
          go_wp2_with fail
          go_ret2
          exact ⟨by rw [HV.out, HVV.out]; rfl, HB6.out⟩
  · have hof : ofO tx ix n = 0 := by unfold ofO; rw [if_neg hok]
    have hk : okO ix n = false := by simpa using hok
    rw [hof, hk]
    have hor : n < 1 ∨ 64 < n ∨ ix < 0 ∨ 16 ≤ ix := by
      unfold okO at hok
      simp only [decide_eq_true_eq] at hok
      omega
    clear hok hof hk
    by_cases n1 : n < 1
    · go_enter Tryz.func111, Tryz.ntmps111
      go_upto_region 1 with fail
      rw [HW.out, HGG.out]
      go_wp2_with fail
      go_ret2
      exact ⟨rfl, BB.out⟩
    by_cases n2 : 64 < n
    · go_enter Tryz.func111, Tryz.ntmps111
      go_upto_region 1 with fail
      rw [HW.out, HGG.out]
      go_wp2_with fail
      go_ret2
      exact ⟨rfl, BB.out⟩
    by_cases n3 : ix < 0
    · go_enter Tryz.func111, Tryz.ntmps111
      go_upto_region 1 with fail
      rw [HW.out, HGG.out]
      go_wp2_with fail
      go_ret2
      exact ⟨rfl, BB.out⟩
    have n4 : 16 ≤ ix := by omega
    clear hor
    go_enter Tryz.func111, Tryz.ntmps111
    go_upto_region 1 with fail
    rw [HW.out, HGG.out]
    go_wp2_with fail
    go_ret2
    exact ⟨rfl, BB.out⟩
end
end Go.Proofs.YtdkanehjahpehaaGreatDoor
