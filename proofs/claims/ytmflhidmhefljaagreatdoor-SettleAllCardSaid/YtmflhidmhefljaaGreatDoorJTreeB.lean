/-
  tree.climb, Climb, Is: at the second of three leaves.
  tree.climb at the second of three leaves; Climb, Is.
-/
import Derived.Test.YtmflhidmhefljaaGreatDoorJTreeA
import Derived.Test.YtmflhidmhefljaaGreatDoorJOwnR
import Derived.Test.YtmflhidmhefljaaGreatDoorJTxtO
import Derived.Test.YtmflhidmhefljaaGreatDoorJTagB
import Derived.Deep.RegionHeld3

section
namespace Go.Proofs.YtmflhidmhefljaaGreatDoor
open Go.RowKit Go.Shelf
set_option maxRecDepth 100000
/-- Results: a cell of cells, and a value. -/
theorem results_cv {P : Program} {fn : Func} {p q : Tmp} {ty : TypeId} (h : fn.results = #[.cell p ty, .tmp q]) (tmps : Array Value) (w : World) (g : Nat) (t : TypeId) (xs : List Value)
    (hg : Blk w g t xs.toArray) (hu : (P.underlying ty).map isAggD = some true) (hi : (P.info? ty).map (·.size) = some xs.length) (hp : tmps.getD p undef = .pointer (some ⟨g, 0, none⟩)) (v : Value) (hq : tmps.getD q undef = v := by rfl) :
    (results fn tmps).run P w = .ok (.tuple #[.agg xs.toArray, v]) w := by
  obtain ⟨d, hu, hd⟩ := Option.map_eq_some_iff.1 hu
  have hp' : tmps[p]?.getD undef = .pointer (some ⟨g, 0, none⟩) := by simpa using hp
  have hq' : tmps[q]?.getD undef = v := by simpa using hq
  simp [results, h, hp', hq', asAddr, run_loadVar_row w g t ty xs.toArray (0, 0) d hg hu (by cases d <;> simp_all [isAggD]) (by simpa using hi)]
/-- A store into a whole block. -/
theorem STs_all {P : Program} {w : World} {t : TypeId} {n : Nat} (hi : (P.info? t).map (·.size) = some n) {g : Nat} {Z : Array Value} (hb : Blk w g t Z) (hz : Z.size = n) (xs : List Value) (hl : xs.length = n) (h1 : ∀ v ∈ xs, v.oneCell' = true) :
    (STs t (.pointer (some ⟨g, 0, none⟩)) (.agg xs.toArray)).run P w = .ok () (w.setRow g xs.toArray) := by
  have := STs_blk (P := P) (t := t) hi hb (off := 0) xs hl (by omega) h1
  rwa [splice_whole _ _ (by omega)] at this
theorem LDs_all {P : Program} {t : TypeId} {n : Nat} (hu : (P.underlying t).map isAggD = some true) (hi : (P.info? t).map (·.size) = some n) {w : World} {g : Nat} {e : TypeId} (xs : List Value) (hb : Blk w g e xs.toArray) (hl : xs.length = n) :
    (LDs t (.pointer (some ⟨g, 0, none⟩))).run P w = .ok (.agg xs.toArray) w := LDs_aggB hu hi hb (off := 0) xs hl (by simp [List.take_of_length_le, hl])
attribute [local go_sem ↓] ld123 st123 al123 bdId_of

set_option maxHeartbeats 4000000 in
theorem climb_leaf (d : List Int) (hd : Dig d) (A : Option Addr) (m c : Nat) (w : World) :
    Calls Tryz.prog 128 #[.agg (bys d).toArray, .int .i64 0, .int .i64 1, .slice A m c] w fun e w' => e = .returned (.tuple #[.agg (bys d).toArray, .bool (decide (m = 0))]) ∧ Below w.heap.size w w' := by
  have hdl : (bys d).length = 32 := by rw [bys_length, hd.1]
  obtain ⟨Z, hal, hst0, hz⟩ := alstZ (P := Tryz.prog) (t := 41) iId zIdS
  have b0 := Blk.new w 41 ((bys d).toArray)
  have B0 : Below w.heap.size w (w.alloc (.cells ((bys d).toArray) 41)) := (Below.refl _ w).alloc (Nat.le_refl _) _
  obtain ⟨W, hW⟩ : ∃ W, w.alloc (.cells ((bys d).toArray) 41) = W := ⟨_, rfl⟩
  rw [hW] at b0 B0
  obtain ⟨g, hg⟩ : ∃ g, w.heap.size = g := ⟨_, rfl⟩
  rw [hg] at b0
  have b1 := Blk.new W 41 Z
  have B1 : Below w.heap.size w (W.alloc (.cells Z 41)) := B0.alloc B0.size _
  obtain ⟨V, hV⟩ : ∃ X, W.alloc (.cells Z 41) = X := ⟨_, rfl⟩
  rw [hV] at b1 B1
  have hWsz : W.heap.size = g+1 := by first | exact hg | (rw [← hW]; simp [hg]) | (rw [← hW]; simp; omega)
  rw [hWsz] at b1
  have b01 := b0.alloc (.cells Z 41)
  rw [hV] at b01
  have hld := LDs_all (P := Tryz.prog) uIdA iId (bys d) b01 hdl
  have hst := STs_all (P := Tryz.prog) iId b1 hz (bys d) hdl (bys_one _)
  have b2 := b1.row_ (bys d).toArray
  have B2 := Below.setRow (g := g + 1) B1 (by omega) (bys d).toArray
  obtain ⟨R, hR⟩ : ∃ R, decide (m = 0) = R := ⟨_, rfl⟩
  have hRI : ((m : Int) == 0) = R := by rw [← hR, Bool.eq_iff_iff]; simp
  rw [hR]
  have hxl : (bys d).length = 32 := hdl
  obtain ⟨xs, hxs⟩ : ∃ xs, bys d = xs := ⟨_, rfl⟩
  rw [hxs] at hld hst b2 B2 hW hxl ⊢
  have HW := Lib.hid hW
  have HV := Lib.hid hV
  have HG := Lib.hid hg
  have HB2 := Lib.hid b2
  have BB2 := Lib.hid B2
  have HXL := Lib.hid hxl
  clear hW hV hg b2 B2 hxl b0 B0 b1 B1 b01 hst0 hz hWsz hxs hdl hR hd
  go_enter Tryz.func128, Tryz.ntmps128
  go_upto_region 1 with fail
  rw [HW.out, HV.out, HG.out]
  go_wp2_with fail
  exact bodyPost_ret (results_cv rfl _ _ (g + 1) 41 xs HB2.out uIdA (by rw [HXL.out]; exact iId) rfl (.bool R)) rfl ⟨rfl, BB2.out⟩

/-- What climb answers at the second of two, and of three. -/
def c12 (d : List Int) (L : List (List Int)) : List Int × Bool := if L.length = 0 then (List.replicate 32 0, false) else (nodeP (L.getD (L.length - 1) []) d, decide (L.length - 1 = 0))
def c13 (d : List Int) (L : List (List Int)) : List Int × Bool := if L.length = 0 then (List.replicate 32 0, false) else (nodeP (c12 d (L.take (L.length - 1))).1 (L.getD (L.length - 1) []), (c12 d (L.take (L.length - 1))).2)
theorem Dig.c12 (d : List Int) (L : List (List Int)) : Dig (c12 d L).1 := by
  unfold Proofs.YtmflhidmhefljaaGreatDoor.c12
  split
  · exact Dig.zero
  · exact Dig.node _ _
theorem Dig.c13 (d : List Int) (L : List (List Int)) : Dig (c13 d L).1 := by
  unfold Proofs.YtmflhidmhefljaaGreatDoor.c13
  split
  · exact Dig.zero
  · exact Dig.node _ _

set_option maxHeartbeats 4000000 in
theorem climb_12 (d : List Int) (hd : Dig d) (L : List (List Int)) (hL : ∀ x ∈ L, Dig x) (A : Option Addr) (c : Nat) (hc : L.length ≤ c) (hm : L.length ≤ 1000000) (w : World) (hP : RdR 32 w A (L.map bys)) (hgl : Glob w) :
    Calls Tryz.prog 128 #[.agg (bys d).toArray, .int .i64 1, .int .i64 2, .slice A L.length c] w fun e w' => e = .returned (.tuple #[.agg (bys (c12 d L).1).toArray, .bool (c12 d L).2]) ∧ Below w.heap.size w w' := by
  have hdl : (bys d).length = 32 := by rw [bys_length, hd.1]
  obtain ⟨Z, hal, hst0, hz⟩ := alstZ (P := Tryz.prog) (t := 41) iId zIdS
  have b0 := Blk.new w 41 ((bys d).toArray)
  have B0 : Below w.heap.size w (w.alloc (.cells ((bys d).toArray) 41)) := (Below.refl _ w).alloc (Nat.le_refl _) _
  obtain ⟨W, hW⟩ : ∃ W, w.alloc (.cells ((bys d).toArray) 41) = W := ⟨_, rfl⟩
  rw [hW] at b0 B0
  obtain ⟨g, hg⟩ : ∃ g, w.heap.size = g := ⟨_, rfl⟩
  rw [hg] at b0
  have b1 := Blk.new W 41 Z
  have B1 : Below w.heap.size w (W.alloc (.cells Z 41)) := B0.alloc B0.size _
  obtain ⟨V, hV⟩ : ∃ X, W.alloc (.cells Z 41) = X := ⟨_, rfl⟩
  rw [hV] at b1 B1
  have hWsz : W.heap.size = g+1 := by first | exact hg | (rw [← hW]; simp [hg]) | (rw [← hW]; simp; omega)
  rw [hWsz] at b1
  have b01 := b0.alloc (.cells Z 41)
  rw [hV] at b01
  rcases Nat.eq_zero_or_pos L.length with h0 | h0
  · have hst := STs_all (P := Tryz.prog) iId b1 hz (bys (List.replicate 32 0)) (by simp [bys]) (bys_one _)
    have b2 := b1.row_ (bys (List.replicate 32 0)).toArray
    have B2 := Below.setRow (g := g + 1) B1 (by omega) (bys (List.replicate 32 0)).toArray
    have hb0 := fun W => bdId_0 W
    rw [show c12 d L = (List.replicate 32 0, false) by unfold c12; rw [if_pos h0]]
    rw [h0]
    have hxl : (bys (List.replicate 32 0)).length = 32 := by simp [bys]
    obtain ⟨ys, hys⟩ : ∃ ys, bys (List.replicate 32 0) = ys := ⟨_, rfl⟩
    rw [hys] at hst hb0 b2 B2 hxl ⊢
    obtain ⟨xs, hxs⟩ : ∃ xs, bys d = xs := ⟨_, rfl⟩
    rw [hxs] at hW ⊢
    have HW := Lib.hid hW
    have HV := Lib.hid hV
    have HG := Lib.hid hg
    have HB2 := Lib.hid b2
    have BB2 := Lib.hid B2
    have HXL := Lib.hid hxl
    clear hW hV hg b2 B2 hxl b0 B0 b1 B1 b01 hst0 hz hWsz hxs hys hdl hd hP hgl hL hc hm
    go_enter Tryz.func128, Tryz.ntmps128
    go_upto_region 1 with fail
    rw [HW.out, HV.out, HG.out]
    go_wp2_with fail
    exact bodyPost_ret (results_cv rfl _ _ (g + 1) 41 ys HB2.out uIdA (by rw [HXL.out]; exact iId) rfl (.bool false)) rfl ⟨rfl, BB2.out⟩
  · obtain ⟨m, hm1⟩ : ∃ m, L.length = m + 1 := ⟨L.length - 1, by omega⟩
    obtain ⟨gp, op, rfl, hgp, hcell⟩ := hP m (by simp; omega)
    have hbe : Dig (L.getD m []) := by
      have : L.getD m [] ∈ L := by simp [List.getD, show m < L.length by omega]
      exact hL _ this
    obtain ⟨be, hbe'⟩ : ∃ be, L.getD m [] = be := ⟨_, rfl⟩
    rw [hbe'] at hbe
    have hbel : (bys be).length = 32 := by rw [bys_length, hbe.1]
    have hlb : ∀ X, Below w.heap.size w X → (LDs 41 (.pointer (some ⟨gp, op + m * 32, none⟩))).run Tryz.prog X = .ok (.agg (bys be).toArray) X := fun X hX =>
      LDs_agg uIdA iId X gp (op + m * 32) (bys be) hbel (fun j v hv => (hX.cell (p := ⟨gp, op + m * 32 + j, none⟩) hgp).trans (hcell j v (by
        rw [List.getElem_map, ← hv, ← hbe']
        simp [List.getD, show m < L.length by omega])))
    have hres : c12 d L = (nodeP be d, decide (m = 0)) := by
      unfold c12
      rw [if_neg (by omega), hm1, Nat.add_sub_cancel, hbe']
    rw [hres, hm1]
    obtain ⟨D, hD⟩ : ∃ D, nodeP be d = D := ⟨_, rfl⟩
    have hDl : (bys D).length = 32 := by rw [bys_length, ← hD]; exact (Dig.node _ _).1
    rw [hD]
    have hcm : m + 1 ≤ c := by omega
    have hmI : ((m : Int) + 1 == 0) = false := by rw [beq_eq_false_iff_ne]; omega
    have hmlt : (m : Int) < (m : Int) + 1 := by omega
    have hB1d := B1.drew
    have cl := fun X (hX : Below w.heap.size w X) => climb_leaf d hd (some ⟨gp, op, none⟩) m c X
    obtain ⟨xs, hxs⟩ : ∃ xs, bys d = xs := ⟨_, rfl⟩
    have hxl : xs.length = 32 := by rw [← hxs, hdl]
    rw [hxs] at hW b0 b01 cl ⊢
    obtain ⟨ys, hys⟩ : ∃ ys, bys be = ys := ⟨_, rfl⟩
    have hstd : (STs 41 (.pointer (some ⟨V.heap.size, 0, none⟩)) (.agg (bys be).toArray)).run Tryz.prog (V.alloc (.cells Z 41)).drew = .ok () (V.alloc (.cells (bys be).toArray 41)).drew := hst0 V.drew (bys be) hbel (bys_one _)
    rw [hys] at hlb hbel hstd
    have hcmI : (m : Int) + 1 ≤ (c : Int) := by omega
    have hm0 : (0 : Int) ≤ (m : Int) := by omega
    have hmm : (m : Int) ≤ 1000000 := by omega
    have HW := Lib.hid hW
    have HV := Lib.hid hV
    have HG := Lib.hid hg
    have HB1 := Lib.hid b1
    have BB1 := Lib.hid B1
    have B01 := Lib.hid b01
    have HXL := Lib.hid hxl
    have HXS := Lib.hid hxs
    have HYS := Lib.hid hys
    have HLB := Lib.hid hlb
    have HP := Lib.hid hP
    have HGL := Lib.hid hgl
    have HBD := Lib.hid hB1d
    have HBE := Lib.hid hbe
    have HDD := Lib.hid hD
    have HDL := Lib.hid hDl
    clear hW hV hg b1 B1 b01 hxl hxs hys hlb hP hgl hB1d hbe hD hDl b0 B0 hWsz hdl hL hm hm1 hcell hres h0
    go_enter Tryz.func128, Tryz.ntmps128
    go_upto_region 1 with fail
    rw [HW.out, HV.out, HG.out]
    go_upto_region 6 with fail
    obtain ⟨S0, hS0⟩ : ∃ S0 : World → Prop, (fun X => (LDs 41 (.pointer (some ⟨gp, op + m * 32, none⟩))).run Tryz.prog X = .ok (.agg ys.toArray) X) = S0 := ⟨_, rfl⟩
    have hSS : ∀ X, Below w.heap.size w X → S0 X := fun X hX => by rw [← hS0]; exact HLB.out X hX
    have HS0 := Lib.hid hS0
    have HSS := Lib.hid hSS
    clear hS0 hSS
    with_reducible refine wp_anyJ (fun i => i != 7) S0 (by kernel_rfl) ?_
    refine wpAnyJ_mid (m := 4) (Lf := #[true, true, true, true, true, false, false, false, false]) [(0, 3), (1, 3), (2, 3), (4, 3), (3, 0)] true (by kernel_rfl) (by kernel_rfl) (by kernel_rfl) (fun _ => HSS.out _ HBD.out) ?_
    iterate 4 (with_reducible refine wpTxC_evN (o := ?_) (v := ?_) (a' := ?_) (by with_unfolding_all rfl) (by with_unfolding_all rfl) (fun W' => ?_) ?_ ?_; rotate_left 2; (focus (go_simp <;> with_reducible rfl)); focus (go_simp <;> with_reducible rfl))
    iterate 1 (with_reducible refine wpTxC_takeN (o := ?_) (v := ?_) (a' := ?_) (by with_unfolding_all rfl) (by with_unfolding_all rfl) (fun W' hS => ?_) ?_ ?_; rotate_left 2; (focus (rw [← HS0.out] at hS; go_simp <;> with_reducible rfl)); focus (go_simp <;> with_reducible rfl))
    with_reducible refine wpTxC_nil ?_
    refine wpAnyJ_two (i := 5) (j := 6) (by kernel_rfl) ?_ ?_
    focus
      with_reducible refine wpOp_pick (J := (fun i => i != 7)) (oi := ?_) (by with_unfolding_all rfl) (by with_unfolding_all rfl) (fun K hK => ?_)
      try simp only [List.getElem_toArray, List.getElem_cons_succ, List.getElem_cons_zero]
      go_simp
      have hf2 := first_2 V.drew
      with_reducible refine hf2.mono ?_
      rintro e w5 ⟨rfl, rfl⟩
      clear hf2
      with_reducible refine hK _ _ (HSS.out _ HBD.out) ?_
      clear hK K
      refine wpAnyJ_restS [(6, 1), (7, 2), (8, 3)] true (by kernel_rfl) (by kernel_rfl) (by kernel_rfl) (fun _ => HSS.out _ HBD.out) ?_
      with_reducible refine wpTxO_want (o := ?_) (by with_unfolding_all rfl) (by with_unfolding_all rfl) (fun K hK => ?_)
      try simp only [List.getElem_toArray, List.getElem_cons_succ, List.getElem_cons_zero]
      go_simp
      with_reducible refine hK _ _ (HSS.out _ (BB1.out.alloc BB1.out.size _).drew) ?_
      clear hK K
      with_reducible refine wpTxO_last (o := ?_) (by with_unfolding_all rfl) (by with_unfolding_all rfl) (fun K hK => ?_)
      try simp only [List.getElem_toArray, List.getElem_cons_succ, List.getElem_cons_zero]
      go_simp
      with_reducible refine hK _ _ ?_
      clear hK K
      iterate 1 (with_reducible refine wpTxO_evN (o := ?_) (v := ?_) (a' := ?_) (by with_unfolding_all rfl) (by with_unfolding_all rfl) (fun W' => ?_) ?_ ?_; rotate_left 2; (focus (go_simp <;> with_reducible rfl)); focus (go_simp <;> with_reducible rfl))
      with_reducible refine wpTxO_nil ?_
      rw [noPan_normal]
    rotate_left
    focus
      with_reducible refine wpOp_pick (J := (fun i => i != 7)) (oi := ?_) (by with_unfolding_all rfl) (by with_unfolding_all rfl) (fun K hK => ?_)
      try simp only [List.getElem_toArray, List.getElem_cons_succ, List.getElem_cons_zero]
      go_simp
      with_reducible refine hK _ _ (HSS.out _ (BB1.out.alloc BB1.out.size _).drew) ?_
      clear hK K
      refine wpAnyJ_restS [(5, 1), (7, 2), (8, 3)] true (by kernel_rfl) (by kernel_rfl) (by kernel_rfl) (fun _ => HSS.out _ (BB1.out.alloc BB1.out.size _).drew) ?_
      with_reducible refine wpTxO_want (o := ?_) (by with_unfolding_all rfl) (by with_unfolding_all rfl) (fun K hK => ?_)
      try simp only [List.getElem_toArray, List.getElem_cons_succ, List.getElem_cons_zero]
      go_simp
      have hf2 := first_2 (V.alloc (.cells Z 41)).drew
      with_reducible refine hf2.mono ?_
      rintro e w5 ⟨rfl, rfl⟩
      clear hf2
      with_reducible refine hK _ _ (HSS.out _ (BB1.out.alloc BB1.out.size _).drew) ?_
      clear hK K
      with_reducible refine wpTxO_last (o := ?_) (by with_unfolding_all rfl) (by with_unfolding_all rfl) (fun K hK => ?_)
      try simp only [List.getElem_toArray, List.getElem_cons_succ, List.getElem_cons_zero]
      go_simp
      with_reducible refine hK _ _ ?_
      clear hK K
      iterate 1 (with_reducible refine wpTxO_evN (o := ?_) (v := ?_) (a' := ?_) (by with_unfolding_all rfl) (by with_unfolding_all rfl) (fun W' => ?_) ?_ ?_; rotate_left 2; (focus (go_simp <;> with_reducible rfl)); focus (go_simp <;> with_reducible rfl))
      with_reducible refine wpTxO_nil ?_
      rw [noPan_normal]
    all_goals
      clear hstd HSS HS0 S0
      have b2 := (Blk.new V 41 ys.toArray).drew
      have B2 := (BB1.out.alloc BB1.out.size (.cells ys.toArray 41)).drew
      have b02 := (B01.out.alloc (.cells ys.toArray 41)).drew
      have b12 := (HB1.out.alloc (.cells ys.toArray 41)).drew
      obtain ⟨h, hh⟩ : ∃ h, V.heap.size = h := ⟨_, rfl⟩
      obtain ⟨U, hU⟩ : ∃ U, (V.alloc (.cells ys.toArray 41)).drew = U := ⟨_, rfl⟩
      rw [hU] at b2 B2 b02 b12 ⊢
      rw [hh] at b2 ⊢
      have hl0 := fun X (hX : Below U.heap.size U X) => LDs_all (P := Tryz.prog) uIdA iId xs (b02.fr (Fr.of_below hX) (by have := b02.lt; omega)) HXL.out
      obtain ⟨S0, hS0⟩ : ∃ S0 : World → Prop, (fun X => (LDs 41 (.pointer (some ⟨g, 0, none⟩))).run Tryz.prog X = .ok (.agg xs.toArray) X) = S0 := ⟨_, rfl⟩
      have hSS : ∀ X, Below U.heap.size U X → S0 X := fun X hX => by rw [← hS0]; exact hl0 X hX
      have hmc : (m : Int) ≤ (c : Int) := by omega
      have hw0 : IntKind.i64.wrap 0 = 0 := rfl
      have hw1 : IntKind.i64.wrap 1 = 1 := rfl
      have hx1 : ∀ v ∈ xs, v.oneCell' = true := by rw [← HXS.out]; exact bys_one _
      have cl0 := cl U.drew B2.drew
      have cl1 := cl (U.alloc (.cells Z 41)).drew (B2.alloc B2.size _).drew
      have hbZ := (Blk.new U 41 Z).drew
      have HB2 := Lib.hid b2
      have BB2 := Lib.hid B2
      have B02 := Lib.hid b02
      have B12 := Lib.hid b12
      have HS0 := Lib.hid hS0
      have HSS := Lib.hid hSS
      have HX1 := Lib.hid hx1
      have HBZ := Lib.hid hbZ
      clear b2 B2 b02 b12 hS0 hSS hx1 hbZ hh hU hl0 cl
      go_upto_region 10 with fail
      with_reducible refine wp_anyJ (fun i => i != 10 && i != 15) S0 (by kernel_rfl) ?_
      refine wpAnyJ_mid (m := 7) (Lf := #[true, true, true, true, true, true, true, true, true, true, false, false, false, false, false, false, false]) [(1, 3), (2, 3), (3, 3), (4, 3), (5, 3), (6, 3), (7, 3), (8, 3), (9, 3), (0, 0)] true (by kernel_rfl) (by kernel_rfl) (by kernel_rfl) (fun _ => HSS.out _ (Below.refl _ _).drew) ?_
      iterate 9 (with_reducible refine wpTxC_evN (o := ?_) (v := ?_) (a' := ?_) (by with_unfolding_all rfl) (by with_unfolding_all rfl) (fun W' => ?_) ?_ ?_; rotate_left 2; (focus (go_simp <;> with_reducible rfl)); focus (go_simp <;> with_reducible rfl))
      iterate 1 (with_reducible refine wpTxC_takeN (o := ?_) (v := ?_) (a' := ?_) (by with_unfolding_all rfl) (by with_unfolding_all rfl) (fun W' hS => ?_) ?_ ?_; rotate_left 2; (focus (rw [← HS0.out] at hS; go_simp <;> with_reducible rfl)); focus (go_simp <;> with_reducible rfl))
      with_reducible refine wpTxC_nil ?_
      refine wpAnyJ_two (i := 10) (j := 14) (by kernel_rfl) ?_ ?_
      focus
        with_reducible refine wpOp_pickN (J := (fun i => i != 10 && i != 15)) (oi := ?_) (by with_unfolding_all rfl) (by with_unfolding_all rfl) (by decide) (fun K hK => ?_)
        try simp only [List.getElem_toArray, List.getElem_cons_succ, List.getElem_cons_zero]
        go_simp
        with_reducible refine cl0.mono ?_
        rintro e w10 ⟨rfl, hB10⟩
        have hst := hst0 w10 xs HXL.out HX1.out
        have hB10U : Below U.heap.size U w10 := (Below.refl _ U).drew.trans hB10
        have q1 := Blk.new w10 41 xs.toArray
        have q2 := (HB2.out.fr (Fr.of_below hB10U) (by have := HB2.out.lt; omega)).alloc (.cells xs.toArray 41)
        have q3 := (B12.out.fr (Fr.of_below hB10U) (by have := B12.out.lt; omega)).alloc (.cells xs.toArray 41)
        have q4 := (BB2.out.trans (hB10U.mono BB2.out.size)).alloc (BB2.out.trans (hB10U.mono BB2.out.size)).size (.cells xs.toArray 41)
        have hbz := hB10U.alloc hB10U.size (.cells Z 41)
        obtain ⟨X, hX⟩ : ∃ X, w10.alloc (.cells xs.toArray 41) = X := ⟨_, rfl⟩
        obtain ⟨hx, hhx⟩ : ∃ h, w10.heap.size = h := ⟨_, rfl⟩
        rw [hX] at q1 q2 q3 q4 hst
        rw [hhx] at q1 hst
        have Q1 := Lib.hid q1
        have Q2 := Lib.hid q2
        have Q3 := Lib.hid q3
        have Q4 := Lib.hid q4
        have HHX := Lib.hid hhx
        have HBZ2 := Lib.hid hbz
        clear q1 q2 q3 q4 hhx hbz hB10 hB10U cl0 cl1 hX
        with_reducible refine hK _ _ ?_
        clear hK K
        refine wpAnyJ_restS [(11, 3), (12, 3), (13, 3), (14, 1), (15, 2), (16, 3)] false (by kernel_rfl) (by kernel_rfl) (by kernel_rfl) (by simp) ?_
        iterate 3 (with_reducible refine wpTxO_evN (o := ?_) (v := ?_) (a' := ?_) (by with_unfolding_all rfl) (by with_unfolding_all rfl) (fun W' => ?_) ?_ ?_; rotate_left 2; (focus (go_simp <;> with_reducible rfl)); focus (go_simp <;> with_reducible rfl))
        with_reducible refine wpTxO_want (o := ?_) (by with_unfolding_all rfl) (by with_unfolding_all rfl) (fun K hK => ?_)
        try simp only [List.getElem_toArray, List.getElem_cons_succ, List.getElem_cons_zero]
        go_simp
        with_reducible refine hK _ _ (HSS.out _ HBZ2.out) ?_
        clear hK K
        rw [HHX.out]
        with_reducible refine wpTxO_last (o := ?_) (by with_unfolding_all rfl) (by with_unfolding_all rfl) (fun K hK => ?_)
        try simp only [List.getElem_toArray, List.getElem_cons_succ, List.getElem_cons_zero]
        go_simp
        with_reducible refine hK _ _ ?_
        clear hK K
        iterate 1 (with_reducible refine wpTxO_evN (o := ?_) (v := ?_) (a' := ?_) (by with_unfolding_all rfl) (by with_unfolding_all rfl) (fun W' => ?_) ?_ ?_; rotate_left 2; (focus (go_simp <;> with_reducible rfl)); focus (go_simp <;> with_reducible rfl))
        with_reducible refine wpTxO_nil ?_
        rw [noPan_normal]
        clear hst HBZ2 HHX
      rotate_left
      focus
        with_reducible refine wpOp_pick (J := (fun i => i != 10 && i != 15)) (oi := ?_) (by with_unfolding_all rfl) (by with_unfolding_all rfl) (fun K hK => ?_)
        try simp only [List.getElem_toArray, List.getElem_cons_succ, List.getElem_cons_zero]
        go_simp
        with_reducible refine hK _ _ (HSS.out _ ((Below.refl _ U).alloc (Nat.le_refl _) _).drew) ?_
        clear hK K
        refine wpAnyJ_restS [(10, 2), (11, 3), (12, 3), (13, 3), (15, 2), (16, 3)] true (by kernel_rfl) (by kernel_rfl) (by kernel_rfl) (fun _ => HSS.out _ ((Below.refl _ U).alloc (Nat.le_refl _) _).drew) ?_
        with_reducible refine wpTxO_last (o := ?_) (by with_unfolding_all rfl) (by with_unfolding_all rfl) (fun K hK => ?_)
        try simp only [List.getElem_toArray, List.getElem_cons_succ, List.getElem_cons_zero]
        go_simp
        with_reducible refine cl1.mono ?_
        rintro e w10 ⟨rfl, hB10⟩
        have hB10U : Below U.heap.size U w10 := ((Below.refl _ U).alloc (Nat.le_refl _) _).drew.trans (hB10.mono (by simp))
        have hbz := HBZ.out.fr (Fr.of_below hB10) (by have := HBZ.out.lt; omega)
        have hst := STs_all (P := Tryz.prog) iId hbz hz xs HXL.out HX1.out
        have q4b := BB2.out.trans (hB10U.mono BB2.out.size)
        have hUw : w.heap.size ≤ U.heap.size := BB2.out.size
        have q1 := hbz.row_ xs.toArray
        have q2 := (HB2.out.fr (Fr.of_below hB10U) (by have := HB2.out.lt; omega)).rowFar (g' := U.heap.size) (by have := HB2.out.lt; omega) xs.toArray
        have q3 := (B12.out.fr (Fr.of_below hB10U) (by have := B12.out.lt; omega)).rowFar (g' := U.heap.size) (by have := B12.out.lt; omega) xs.toArray
        have q4 := Below.setRow (g := U.heap.size) q4b hUw xs.toArray
        obtain ⟨X, hX⟩ : ∃ X, w10.setRow U.heap.size xs.toArray = X := ⟨_, rfl⟩
        obtain ⟨hx, hhx⟩ : ∃ h, U.heap.size = h := ⟨_, rfl⟩
        rw [hX] at q1 q2 q3 q4 hst
        rw [hhx] at q1 hst ⊢
        have Q1 := Lib.hid q1
        have Q2 := Lib.hid q2
        have Q3 := Lib.hid q3
        have Q4 := Lib.hid q4
        clear q1 q2 q3 q4 hB10 hB10U cl0 cl1 hX hhx q4b hUw hbz
        with_reducible refine hK _ _ ?_
        clear hK K
        iterate 3 (with_reducible refine wpTxO_evN (o := ?_) (v := ?_) (a' := ?_) (by with_unfolding_all rfl) (by with_unfolding_all rfl) (fun W' => ?_) ?_ ?_; rotate_left 2; (focus (go_simp <;> with_reducible rfl)); focus (go_simp <;> with_reducible rfl))
        with_reducible refine wpTxO_last (o := ?_) (by with_unfolding_all rfl) (by with_unfolding_all rfl) (fun K hK => ?_)
        try simp only [List.getElem_toArray, List.getElem_cons_succ, List.getElem_cons_zero]
        go_simp
        with_reducible refine hK _ _ ?_
        clear hK K
        iterate 1 (with_reducible refine wpTxO_evN (o := ?_) (v := ?_) (a' := ?_) (by with_unfolding_all rfl) (by with_unfolding_all rfl) (fun W' => ?_) ?_ ?_; rotate_left 2; (focus (go_simp <;> with_reducible rfl)); focus (go_simp <;> with_reducible rfl))
        with_reducible refine wpTxO_nil ?_
        rw [noPan_normal]
        clear hst
      all_goals
        have l11 := LDs_all (P := Tryz.prog) uIdA iId ys Q2.out hbel
        have l15 := LDs_all (P := Tryz.prog) uIdA iId xs Q1.out HXL.out
        have hnode := node_any be d HBE.out hd X (HGL.out.below Q4.out)
        rw [HDD.out, HXS.out, HYS.out] at hnode
        go_wp2_with fail
        with_reducible refine hnode.mono ?_
        rintro e w12 ⟨rfl, hB12⟩
        have q5 := Q3.out.fr (Fr.of_below hB12) (by have := Q3.out.lt; omega)
        have hst := STs_all (P := Tryz.prog) iId q5 hz (bys D) HDL.out (bys_one _)
        have q6 := q5.row_ (bys D).toArray
        have q7 := Below.setRow (g := g + 1) (Q4.out.trans (hB12.mono Q4.out.size)) (by have := HG.out; omega) (bys D).toArray
        have Q6 := Lib.hid q6
        have Q7 := Lib.hid q7
        clear q6 q7 hB12 q5 hnode
        go_wp2_with fail
        exact bodyPost_ret (results_cv rfl _ _ (g + 1) 41 (bys D) Q6.out uIdA (by rw [HDL.out]; exact iId) rfl (.bool (decide (m = 0)))) rfl ⟨rfl, Q7.out⟩
end Go.Proofs.YtmflhidmhefljaaGreatDoor
end

section
namespace Go.Proofs.YtmflhidmhefljaaGreatDoor
open Go.RowKit Go.Shelf
set_option maxRecDepth 100000
attribute [local go_sem ↓] ld123 st123 al123 bdId_of

set_option maxHeartbeats 4000000 in
theorem climb_13 (d : List Int) (hd : Dig d) (L : List (List Int)) (hL : ∀ x ∈ L, Dig x) (A : Option Addr) (c : Nat) (hc : L.length ≤ c) (hm : L.length ≤ 1000000) (w : World) (hP : RdR 32 w A (L.map bys)) (hgl : Glob w) :
    Calls Tryz.prog 128 #[.agg (bys d).toArray, .int .i64 1, .int .i64 3, .slice A L.length c] w fun e w' => e = .returned (.tuple #[.agg (bys (c13 d L).1).toArray, .bool (c13 d L).2]) ∧ Below w.heap.size w w' := by
  have hdl : (bys d).length = 32 := by rw [bys_length, hd.1]
  obtain ⟨Z, hal, hst0, hz⟩ := alstZ (P := Tryz.prog) (t := 41) iId zIdS
  have b0 := Blk.new w 41 ((bys d).toArray)
  have B0 : Below w.heap.size w (w.alloc (.cells ((bys d).toArray) 41)) := (Below.refl _ w).alloc (Nat.le_refl _) _
  obtain ⟨W, hW⟩ : ∃ W, w.alloc (.cells ((bys d).toArray) 41) = W := ⟨_, rfl⟩
  rw [hW] at b0 B0
  obtain ⟨g, hg⟩ : ∃ g, w.heap.size = g := ⟨_, rfl⟩
  rw [hg] at b0
  have b1 := Blk.new W 41 Z
  have B1 : Below w.heap.size w (W.alloc (.cells Z 41)) := B0.alloc B0.size _
  obtain ⟨V, hV⟩ : ∃ X, W.alloc (.cells Z 41) = X := ⟨_, rfl⟩
  rw [hV] at b1 B1
  have hWsz : W.heap.size = g+1 := by first | exact hg | (rw [← hW]; simp [hg]) | (rw [← hW]; simp; omega)
  rw [hWsz] at b1
  have b01 := b0.alloc (.cells Z 41)
  rw [hV] at b01
  rcases Nat.eq_zero_or_pos L.length with h0 | h0
  · have hst := STs_all (P := Tryz.prog) iId b1 hz (bys (List.replicate 32 0)) (by simp [bys]) (bys_one _)
    have b2 := b1.row_ (bys (List.replicate 32 0)).toArray
    have B2 := Below.setRow (g := g + 1) B1 (by omega) (bys (List.replicate 32 0)).toArray
    have hb0 := fun W => bdId_0 W
    rw [show c13 d L = (List.replicate 32 0, false) by unfold c13; rw [if_pos h0]]
    rw [h0]
    have hxl : (bys (List.replicate 32 0)).length = 32 := by simp [bys]
    obtain ⟨ys, hys⟩ : ∃ ys, bys (List.replicate 32 0) = ys := ⟨_, rfl⟩
    rw [hys] at hst hb0 b2 B2 hxl ⊢
    obtain ⟨xs, hxs⟩ : ∃ xs, bys d = xs := ⟨_, rfl⟩
    rw [hxs] at hW ⊢
    have HW := Lib.hid hW
    have HV := Lib.hid hV
    have HG := Lib.hid hg
    have HB2 := Lib.hid b2
    have BB2 := Lib.hid B2
    have HXL := Lib.hid hxl
    clear hW hV hg b2 B2 hxl b0 B0 b1 B1 b01 hst0 hz hWsz hxs hys hdl hd hP hgl hL hc hm
    go_enter Tryz.func128, Tryz.ntmps128
    go_upto_region 1 with fail
    rw [HW.out, HV.out, HG.out]
    go_wp2_with fail
    exact bodyPost_ret (results_cv rfl _ _ (g + 1) 41 ys HB2.out uIdA (by rw [HXL.out]; exact iId) rfl (.bool false)) rfl ⟨rfl, BB2.out⟩
  · obtain ⟨m, hm1⟩ : ∃ m, L.length = m + 1 := ⟨L.length - 1, by omega⟩
    obtain ⟨gp, op, rfl, hgp, hcell⟩ := hP m (by simp; omega)
    have hbe : Dig (L.getD m []) := by
      have : L.getD m [] ∈ L := by simp [List.getD, show m < L.length by omega]
      exact hL _ this
    obtain ⟨be, hbe'⟩ : ∃ be, L.getD m [] = be := ⟨_, rfl⟩
    rw [hbe'] at hbe
    have hbel : (bys be).length = 32 := by rw [bys_length, hbe.1]
    have hlb : ∀ X, Below w.heap.size w X → (LDs 41 (.pointer (some ⟨gp, op + m * 32, none⟩))).run Tryz.prog X = .ok (.agg (bys be).toArray) X := fun X hX =>
      LDs_agg uIdA iId X gp (op + m * 32) (bys be) hbel (fun j v hv => (hX.cell (p := ⟨gp, op + m * 32 + j, none⟩) hgp).trans (hcell j v (by
        rw [List.getElem_map, ← hv, ← hbe']
        simp [List.getD, show m < L.length by omega])))
    have hres : c13 d L = (nodeP (c12 d (L.take m)).1 be, (c12 d (L.take m)).2) := by
      unfold c13
      rw [if_neg (by omega), hm1, Nat.add_sub_cancel, hbe']
    rw [hres, hm1]
    have cl := fun X (hX : Below w.heap.size w X) => climb_12 d hd (L.take m) (fun x hx => hL x (List.mem_of_mem_take hx)) (some ⟨gp, op, none⟩) c (by rw [List.length_take]; omega) (by rw [List.length_take]; omega) X (by rw [List.map_take]; exact (hP.take m).below hX) (hgl.below hX)
    rw [List.length_take, hm1, Nat.min_eq_left (by omega)] at cl
    have hce := Dig.c12 d (L.take m)
    obtain ⟨⟨ce, R⟩, hcR⟩ : ∃ p, c12 d (L.take m) = p := ⟨_, rfl⟩
    rw [hcR] at hce cl ⊢
    simp only at hce cl ⊢
    have hcel : (bys ce).length = 32 := by rw [bys_length, hce.1]
    have hce1 : ∀ v ∈ bys ce, v.oneCell' = true := bys_one _
    obtain ⟨D, hD⟩ : ∃ D, nodeP ce be = D := ⟨_, rfl⟩
    have hDl : (bys D).length = 32 := by rw [bys_length, ← hD]; exact (Dig.node _ _).1
    rw [hD]
    have hcm : m + 1 ≤ c := by omega
    have hmI : ((m : Int) + 1 == 0) = false := by rw [beq_eq_false_iff_ne]; omega
    have hmlt : (m : Int) < (m : Int) + 1 := by omega
    have hB1d := B1.drew
    obtain ⟨cs, hcs⟩ : ∃ cs, bys ce = cs := ⟨_, rfl⟩
    rw [hcs] at cl hcel hce1
    obtain ⟨xs, hxs⟩ : ∃ xs, bys d = xs := ⟨_, rfl⟩
    have hxl : xs.length = 32 := by rw [← hxs, hdl]
    rw [hxs] at hW b0 b01 cl ⊢
    obtain ⟨ys, hys⟩ : ∃ ys, bys be = ys := ⟨_, rfl⟩
    have hstd : (STs 41 (.pointer (some ⟨V.heap.size, 0, none⟩)) (.agg (bys be).toArray)).run Tryz.prog (V.alloc (.cells Z 41)).drew = .ok () (V.alloc (.cells (bys be).toArray 41)).drew := hst0 V.drew (bys be) hbel (bys_one _)
    rw [hys] at hlb hbel hstd
    have hcmI : (m : Int) + 1 ≤ (c : Int) := by omega
    have hm0 : (0 : Int) ≤ (m : Int) := by omega
    have hmm : (m : Int) ≤ 1000000 := by omega
    have HW := Lib.hid hW
    have HV := Lib.hid hV
    have HG := Lib.hid hg
    have HB1 := Lib.hid b1
    have BB1 := Lib.hid B1
    have B01 := Lib.hid b01
    have HXL := Lib.hid hxl
    have HXS := Lib.hid hxs
    have HYS := Lib.hid hys
    have HLB := Lib.hid hlb
    have HP := Lib.hid hP
    have HGL := Lib.hid hgl
    have HBD := Lib.hid hB1d
    have HBE := Lib.hid hbe
    have HDD := Lib.hid hD
    have HDL := Lib.hid hDl
    have HCE := Lib.hid hce
    have HCS := Lib.hid hcs
    have HCE1 := Lib.hid hce1
    have HCEL := Lib.hid hcel
    clear hW hV hg b1 B1 b01 hxl hxs hys hlb hP hgl hB1d hbe hD hDl hce hcs hce1 hcel hcR b0 B0 hWsz hdl hL hm hm1 hcell hres h0
    go_enter Tryz.func128, Tryz.ntmps128
    go_upto_region 1 with fail
    rw [HW.out, HV.out, HG.out]
    go_upto_region 6 with fail
    obtain ⟨S0, hS0⟩ : ∃ S0 : World → Prop, (fun X => (LDs 41 (.pointer (some ⟨gp, op + m * 32, none⟩))).run Tryz.prog X = .ok (.agg ys.toArray) X) = S0 := ⟨_, rfl⟩
    have hSS : ∀ X, Below w.heap.size w X → S0 X := fun X hX => by rw [← hS0]; exact HLB.out X hX
    have HS0 := Lib.hid hS0
    have HSS := Lib.hid hSS
    clear hS0 hSS
    with_reducible refine wp_anyJ (fun i => i != 7) S0 (by kernel_rfl) ?_
    refine wpAnyJ_mid (m := 4) (Lf := #[true, true, true, true, true, false, false, false, false]) [(0, 3), (1, 3), (2, 3), (4, 3), (3, 0)] true (by kernel_rfl) (by kernel_rfl) (by kernel_rfl) (fun _ => HSS.out _ HBD.out) ?_
    iterate 4 (with_reducible refine wpTxC_evN (o := ?_) (v := ?_) (a' := ?_) (by with_unfolding_all rfl) (by with_unfolding_all rfl) (fun W' => ?_) ?_ ?_; rotate_left 2; (focus (go_simp <;> with_reducible rfl)); focus (go_simp <;> with_reducible rfl))
    iterate 1 (with_reducible refine wpTxC_takeN (o := ?_) (v := ?_) (a' := ?_) (by with_unfolding_all rfl) (by with_unfolding_all rfl) (fun W' hS => ?_) ?_ ?_; rotate_left 2; (focus (rw [← HS0.out] at hS; go_simp <;> with_reducible rfl)); focus (go_simp <;> with_reducible rfl))
    with_reducible refine wpTxC_nil ?_
    refine wpAnyJ_two (i := 5) (j := 6) (by kernel_rfl) ?_ ?_
    focus
      with_reducible refine wpOp_pick (J := (fun i => i != 7)) (oi := ?_) (by with_unfolding_all rfl) (by with_unfolding_all rfl) (fun K hK => ?_)
      try simp only [List.getElem_toArray, List.getElem_cons_succ, List.getElem_cons_zero]
      go_simp
      have hf2 := first_3 V.drew
      with_reducible refine hf2.mono ?_
      rintro e w5 ⟨rfl, rfl⟩
      clear hf2
      with_reducible refine hK _ _ (HSS.out _ HBD.out) ?_
      clear hK K
      refine wpAnyJ_restS [(6, 1), (7, 2), (8, 3)] true (by kernel_rfl) (by kernel_rfl) (by kernel_rfl) (fun _ => HSS.out _ HBD.out) ?_
      with_reducible refine wpTxO_want (o := ?_) (by with_unfolding_all rfl) (by with_unfolding_all rfl) (fun K hK => ?_)
      try simp only [List.getElem_toArray, List.getElem_cons_succ, List.getElem_cons_zero]
      go_simp
      with_reducible refine hK _ _ (HSS.out _ (BB1.out.alloc BB1.out.size _).drew) ?_
      clear hK K
      with_reducible refine wpTxO_last (o := ?_) (by with_unfolding_all rfl) (by with_unfolding_all rfl) (fun K hK => ?_)
      try simp only [List.getElem_toArray, List.getElem_cons_succ, List.getElem_cons_zero]
      go_simp
      with_reducible refine hK _ _ ?_
      clear hK K
      iterate 1 (with_reducible refine wpTxO_evN (o := ?_) (v := ?_) (a' := ?_) (by with_unfolding_all rfl) (by with_unfolding_all rfl) (fun W' => ?_) ?_ ?_; rotate_left 2; (focus (go_simp <;> with_reducible rfl)); focus (go_simp <;> with_reducible rfl))
      with_reducible refine wpTxO_nil ?_
      rw [noPan_normal]
    rotate_left
    focus
      with_reducible refine wpOp_pick (J := (fun i => i != 7)) (oi := ?_) (by with_unfolding_all rfl) (by with_unfolding_all rfl) (fun K hK => ?_)
      try simp only [List.getElem_toArray, List.getElem_cons_succ, List.getElem_cons_zero]
      go_simp
      with_reducible refine hK _ _ (HSS.out _ (BB1.out.alloc BB1.out.size _).drew) ?_
      clear hK K
      refine wpAnyJ_restS [(5, 1), (7, 2), (8, 3)] true (by kernel_rfl) (by kernel_rfl) (by kernel_rfl) (fun _ => HSS.out _ (BB1.out.alloc BB1.out.size _).drew) ?_
      with_reducible refine wpTxO_want (o := ?_) (by with_unfolding_all rfl) (by with_unfolding_all rfl) (fun K hK => ?_)
      try simp only [List.getElem_toArray, List.getElem_cons_succ, List.getElem_cons_zero]
      go_simp
      have hf2 := first_3 (V.alloc (.cells Z 41)).drew
      with_reducible refine hf2.mono ?_
      rintro e w5 ⟨rfl, rfl⟩
      clear hf2
      with_reducible refine hK _ _ (HSS.out _ (BB1.out.alloc BB1.out.size _).drew) ?_
      clear hK K
      with_reducible refine wpTxO_last (o := ?_) (by with_unfolding_all rfl) (by with_unfolding_all rfl) (fun K hK => ?_)
      try simp only [List.getElem_toArray, List.getElem_cons_succ, List.getElem_cons_zero]
      go_simp
      with_reducible refine hK _ _ ?_
      clear hK K
      iterate 1 (with_reducible refine wpTxO_evN (o := ?_) (v := ?_) (a' := ?_) (by with_unfolding_all rfl) (by with_unfolding_all rfl) (fun W' => ?_) ?_ ?_; rotate_left 2; (focus (go_simp <;> with_reducible rfl)); focus (go_simp <;> with_reducible rfl))
      with_reducible refine wpTxO_nil ?_
      rw [noPan_normal]
    all_goals
      clear hstd HSS HS0 S0
      have b2 := (Blk.new V 41 ys.toArray).drew
      have B2 := (BB1.out.alloc BB1.out.size (.cells ys.toArray 41)).drew
      have b02 := (B01.out.alloc (.cells ys.toArray 41)).drew
      have b12 := (HB1.out.alloc (.cells ys.toArray 41)).drew
      obtain ⟨h, hh⟩ : ∃ h, V.heap.size = h := ⟨_, rfl⟩
      obtain ⟨U, hU⟩ : ∃ U, (V.alloc (.cells ys.toArray 41)).drew = U := ⟨_, rfl⟩
      rw [hU] at b2 B2 b02 b12 ⊢
      rw [hh] at b2 ⊢
      have hl0 := fun X (hX : Below U.heap.size U X) => LDs_all (P := Tryz.prog) uIdA iId xs (b02.fr (Fr.of_below hX) (by have := b02.lt; omega)) HXL.out
      obtain ⟨S0, hS0⟩ : ∃ S0 : World → Prop, (fun X => (LDs 41 (.pointer (some ⟨g, 0, none⟩))).run Tryz.prog X = .ok (.agg xs.toArray) X) = S0 := ⟨_, rfl⟩
      have hSS : ∀ X, Below U.heap.size U X → S0 X := fun X hX => by rw [← hS0]; exact hl0 X hX
      have hmc : (m : Int) ≤ (c : Int) := by omega
      have cl0 := cl U.drew B2.drew
      have cl1 := cl (U.alloc (.cells Z 41)).drew (B2.alloc B2.size _).drew
      have hbZ := (Blk.new U 41 Z).drew
      have HB2 := Lib.hid b2
      have BB2 := Lib.hid B2
      have B02 := Lib.hid b02
      have B12 := Lib.hid b12
      have HS0 := Lib.hid hS0
      have HSS := Lib.hid hSS
      have HBZ := Lib.hid hbZ
      clear b2 B2 b02 b12 hS0 hSS hbZ hh hU hl0 cl
      go_upto_region 8 with fail
      with_reducible refine wp_anyJ (fun i => i != 6 && i != 11) S0 (by kernel_rfl) ?_
      refine wpAnyJ_mid (m := 7) (Lf := #[true, true, true, true, true, true, false, false, false, false, false, false, false]) [(1, 3), (2, 3), (3, 3), (4, 3), (5, 3), (0, 0)] true (by kernel_rfl) (by kernel_rfl) (by kernel_rfl) (fun _ => HSS.out _ (Below.refl _ _).drew) ?_
      iterate 5 (with_reducible refine wpTxC_evN (o := ?_) (v := ?_) (a' := ?_) (by with_unfolding_all rfl) (by with_unfolding_all rfl) (fun W' => ?_) ?_ ?_; rotate_left 2; (focus (go_simp <;> with_reducible rfl)); focus (go_simp <;> with_reducible rfl))
      iterate 1 (with_reducible refine wpTxC_takeN (o := ?_) (v := ?_) (a' := ?_) (by with_unfolding_all rfl) (by with_unfolding_all rfl) (fun W' hS => ?_) ?_ ?_; rotate_left 2; (focus (rw [← HS0.out] at hS; go_simp <;> with_reducible rfl)); focus (go_simp <;> with_reducible rfl))
      with_reducible refine wpTxC_nil ?_
      refine wpAnyJ_two (i := 6) (j := 10) (by kernel_rfl) ?_ ?_
      focus
        with_reducible refine wpOp_pickN (J := (fun i => i != 6 && i != 11)) (oi := ?_) (by with_unfolding_all rfl) (by with_unfolding_all rfl) (by decide) (fun K hK => ?_)
        try simp only [List.getElem_toArray, List.getElem_cons_succ, List.getElem_cons_zero]
        go_simp
        with_reducible refine cl0.mono ?_
        rintro e w10 ⟨rfl, hB10⟩
        have hst := hst0 w10 cs HCEL.out HCE1.out
        have hB10U : Below U.heap.size U w10 := (Below.refl _ U).drew.trans hB10
        have q1 := Blk.new w10 41 cs.toArray
        have q2 := (HB2.out.fr (Fr.of_below hB10U) (by have := HB2.out.lt; omega)).alloc (.cells cs.toArray 41)
        have q3 := (B12.out.fr (Fr.of_below hB10U) (by have := B12.out.lt; omega)).alloc (.cells cs.toArray 41)
        have q4 := (BB2.out.trans (hB10U.mono BB2.out.size)).alloc (BB2.out.trans (hB10U.mono BB2.out.size)).size (.cells cs.toArray 41)
        have hbz := hB10U.alloc hB10U.size (.cells Z 41)
        obtain ⟨X, hX⟩ : ∃ X, w10.alloc (.cells cs.toArray 41) = X := ⟨_, rfl⟩
        obtain ⟨hx, hhx⟩ : ∃ h, w10.heap.size = h := ⟨_, rfl⟩
        rw [hX] at q1 q2 q3 q4 hst
        rw [hhx] at q1 hst
        have Q1 := Lib.hid q1
        have Q2 := Lib.hid q2
        have Q3 := Lib.hid q3
        have Q4 := Lib.hid q4
        have HHX := Lib.hid hhx
        have HBZ2 := Lib.hid hbz
        clear q1 q2 q3 q4 hhx hbz hB10 hB10U cl0 cl1 hX
        with_reducible refine hK _ _ ?_
        clear hK K
        refine wpAnyJ_restS [(7, 3), (8, 3), (9, 3), (10, 1), (11, 2), (12, 3)] false (by kernel_rfl) (by kernel_rfl) (by kernel_rfl) (by simp) ?_
        iterate 3 (with_reducible refine wpTxO_evN (o := ?_) (v := ?_) (a' := ?_) (by with_unfolding_all rfl) (by with_unfolding_all rfl) (fun W' => ?_) ?_ ?_; rotate_left 2; (focus (go_simp <;> with_reducible rfl)); focus (go_simp <;> with_reducible rfl))
        with_reducible refine wpTxO_want (o := ?_) (by with_unfolding_all rfl) (by with_unfolding_all rfl) (fun K hK => ?_)
        try simp only [List.getElem_toArray, List.getElem_cons_succ, List.getElem_cons_zero]
        go_simp
        with_reducible refine hK _ _ (HSS.out _ HBZ2.out) ?_
        clear hK K
        rw [HHX.out]
        with_reducible refine wpTxO_last (o := ?_) (by with_unfolding_all rfl) (by with_unfolding_all rfl) (fun K hK => ?_)
        try simp only [List.getElem_toArray, List.getElem_cons_succ, List.getElem_cons_zero]
        go_simp
        with_reducible refine hK _ _ ?_
        clear hK K
        iterate 1 (with_reducible refine wpTxO_evN (o := ?_) (v := ?_) (a' := ?_) (by with_unfolding_all rfl) (by with_unfolding_all rfl) (fun W' => ?_) ?_ ?_; rotate_left 2; (focus (go_simp <;> with_reducible rfl)); focus (go_simp <;> with_reducible rfl))
        with_reducible refine wpTxO_nil ?_
        rw [noPan_normal]
        clear hst HBZ2 HHX
      rotate_left
      focus
        with_reducible refine wpOp_pick (J := (fun i => i != 6 && i != 11)) (oi := ?_) (by with_unfolding_all rfl) (by with_unfolding_all rfl) (fun K hK => ?_)
        try simp only [List.getElem_toArray, List.getElem_cons_succ, List.getElem_cons_zero]
        go_simp
        with_reducible refine hK _ _ (HSS.out _ ((Below.refl _ U).alloc (Nat.le_refl _) _).drew) ?_
        clear hK K
        refine wpAnyJ_restS [(6, 2), (7, 3), (8, 3), (9, 3), (11, 2), (12, 3)] true (by kernel_rfl) (by kernel_rfl) (by kernel_rfl) (fun _ => HSS.out _ ((Below.refl _ U).alloc (Nat.le_refl _) _).drew) ?_
        with_reducible refine wpTxO_last (o := ?_) (by with_unfolding_all rfl) (by with_unfolding_all rfl) (fun K hK => ?_)
        try simp only [List.getElem_toArray, List.getElem_cons_succ, List.getElem_cons_zero]
        go_simp
        with_reducible refine cl1.mono ?_
        rintro e w10 ⟨rfl, hB10⟩
        have hB10U : Below U.heap.size U w10 := ((Below.refl _ U).alloc (Nat.le_refl _) _).drew.trans (hB10.mono (by simp))
        have hbz := HBZ.out.fr (Fr.of_below hB10) (by have := HBZ.out.lt; omega)
        have hst := STs_all (P := Tryz.prog) iId hbz hz cs HCEL.out HCE1.out
        have q4b := BB2.out.trans (hB10U.mono BB2.out.size)
        have hUw : w.heap.size ≤ U.heap.size := BB2.out.size
        have q1 := hbz.row_ cs.toArray
        have q2 := (HB2.out.fr (Fr.of_below hB10U) (by have := HB2.out.lt; omega)).rowFar (g' := U.heap.size) (by have := HB2.out.lt; omega) cs.toArray
        have q3 := (B12.out.fr (Fr.of_below hB10U) (by have := B12.out.lt; omega)).rowFar (g' := U.heap.size) (by have := B12.out.lt; omega) cs.toArray
        have q4 := Below.setRow (g := U.heap.size) q4b hUw cs.toArray
        obtain ⟨X, hX⟩ : ∃ X, w10.setRow U.heap.size cs.toArray = X := ⟨_, rfl⟩
        obtain ⟨hx, hhx⟩ : ∃ h, U.heap.size = h := ⟨_, rfl⟩
        rw [hX] at q1 q2 q3 q4 hst
        rw [hhx] at q1 hst ⊢
        have Q1 := Lib.hid q1
        have Q2 := Lib.hid q2
        have Q3 := Lib.hid q3
        have Q4 := Lib.hid q4
        clear q1 q2 q3 q4 hB10 hB10U cl0 cl1 hX hhx q4b hUw hbz
        with_reducible refine hK _ _ ?_
        clear hK K
        iterate 3 (with_reducible refine wpTxO_evN (o := ?_) (v := ?_) (a' := ?_) (by with_unfolding_all rfl) (by with_unfolding_all rfl) (fun W' => ?_) ?_ ?_; rotate_left 2; (focus (go_simp <;> with_reducible rfl)); focus (go_simp <;> with_reducible rfl))
        with_reducible refine wpTxO_last (o := ?_) (by with_unfolding_all rfl) (by with_unfolding_all rfl) (fun K hK => ?_)
        try simp only [List.getElem_toArray, List.getElem_cons_succ, List.getElem_cons_zero]
        go_simp
        with_reducible refine hK _ _ ?_
        clear hK K
        iterate 1 (with_reducible refine wpTxO_evN (o := ?_) (v := ?_) (a' := ?_) (by with_unfolding_all rfl) (by with_unfolding_all rfl) (fun W' => ?_) ?_ ?_; rotate_left 2; (focus (go_simp <;> with_reducible rfl)); focus (go_simp <;> with_reducible rfl))
        with_reducible refine wpTxO_nil ?_
        rw [noPan_normal]
        clear hst
      all_goals
        have l11 := LDs_all (P := Tryz.prog) uIdA iId ys Q2.out hbel
        have l15 := LDs_all (P := Tryz.prog) uIdA iId cs Q1.out HCEL.out
        have hnode := node_any ce be HCE.out HBE.out X (HGL.out.below Q4.out)
        rw [HDD.out, HCS.out, HYS.out] at hnode
        go_wp2_with fail
        with_reducible refine hnode.mono ?_
        rintro e w12 ⟨rfl, hB12⟩
        have q5 := Q3.out.fr (Fr.of_below hB12) (by have := Q3.out.lt; omega)
        have hst := STs_all (P := Tryz.prog) iId q5 hz (bys D) HDL.out (bys_one _)
        have q6 := q5.row_ (bys D).toArray
        have q7 := Below.setRow (g := g + 1) (Q4.out.trans (hB12.mono Q4.out.size)) (by have := HG.out; omega) (bys D).toArray
        have Q6 := Lib.hid q6
        have Q7 := Lib.hid q7
        clear q6 q7 hB12 q5 hnode
        go_wp2_with fail
        exact bodyPost_ret (results_cv rfl _ _ (g + 1) 41 (bys D) Q6.out uIdA (by rw [HDL.out]; exact iId) rfl (.bool R)) rfl ⟨rfl, Q7.out⟩
/-- What Climb answers at the second of three. -/
def climbP (e : List Int) (L : List (List Int)) : List Int × Bool := if (c13 (leafP e) L).2 = true then ((c13 (leafP e) L).1, true) else (List.replicate 32 0, false)
theorem Dig.climb (e : List Int) (L : List (List Int)) : Dig (climbP e L).1 := by
  unfold climbP
  split
  · exact Dig.c13 _ _
  · exact Dig.zero
theorem c13_two (d : List Int) (L : List (List Int)) : (c13 d L).2 = decide (L.length = 2) ∧ (L.length = 2 → (c13 d L).1 = nodeP (nodeP (L.getD 0 []) d) (L.getD 1 [])) := by
  match L with
  | [] => exact ⟨rfl, fun h => by cases h⟩
  | [a] => exact ⟨by simp [c13, c12], fun h => by cases h⟩
  | [a, b] => exact ⟨by simp [c13, c12], fun _ => by simp [c13, c12]⟩
  | a :: b :: x :: L => exact ⟨by simp [c13, c12], fun h => by simp at h⟩
theorem climbP_eq (e : List Int) (L : List (List Int)) (root : List Int) : ((climbP e L).2 && decide ((climbP e L).1 = root)) = (decide (L.length = 2) && decide (nodeP (nodeP (L.getD 0 []) (leafP e)) (L.getD 1 []) = root)) := by
  obtain ⟨h1, h2⟩ := c13_two (leafP e) L
  by_cases h : L.length = 2
  · rw [show climbP e L = ((c13 (leafP e) L).1, true) by unfold climbP; rw [if_pos (by rw [h1]; simpa using h)]]
    simp only [h2 h, h, decide_true]
  · rw [show climbP e L = (List.replicate 32 0, false) by unfold climbP; rw [if_neg (by rw [h1]; simpa using h)]]
    simp [h]

set_option maxHeartbeats 4000000 in
theorem climb_any (Ae : Option Addr) (ce : Nat) (hce : Ae = none → ce = 0) (e : List Int) (he : e.length ≤ 400000000) (L : List (List Int)) (hL : ∀ x ∈ L, Dig x) (A : Option Addr) (c : Nat) (hc : L.length ≤ c) (hm : L.length ≤ 1000000) (w : World) (hE : Byt w Ae e) (hP : RdR 32 w A (L.map bys)) (hgl : Glob w) :
    Calls Tryz.prog 107 #[.slice Ae e.length ce, .int .i64 1, .int .i64 3, .slice A L.length c] w fun x w' => x = .returned (.tuple #[.agg (bys (climbP e L).1).toArray, .bool (climbP e L).2]) ∧ Below w.heap.size w w' := by
  obtain ⟨Z, hal, hst0, hz⟩ := alstZ (P := Tryz.prog) (t := 41) iId zIdS
  have b0 := Blk.new w 41 Z
  have B0 : Below w.heap.size w (w.alloc (.cells Z 41)) := (Below.refl _ w).alloc (Nat.le_refl _) _
  obtain ⟨W, hW⟩ : ∃ W, w.alloc (.cells Z 41) = W := ⟨_, rfl⟩
  rw [hW] at b0 B0
  obtain ⟨g, hg⟩ : ∃ g, w.heap.size = g := ⟨_, rfl⟩
  rw [hg] at b0
  have hleaf := leaf_any Ae ce hce e W (hE.below B0) he (hgl.below B0)
  have hcl := fun X (hX : Below W.heap.size W X) => climb_13 (leafP e) (Dig.leaf e) L hL A c hc hm X ((hP.below B0).below hX) ((hgl.below B0).below hX)
  have hdC := Dig.c13 (leafP e) L
  have hcp : climbP e L = (if (c13 (leafP e) L).2 = true then ((c13 (leafP e) L).1, true) else (List.replicate 32 0, false)) := rfl
  rw [hcp]
  obtain ⟨n, hn⟩ : ∃ n, e.length = n := ⟨_, rfl⟩
  obtain ⟨m, hm2⟩ : ∃ n, L.length = n := ⟨_, rfl⟩
  rw [hn] at hleaf ⊢
  rw [hm2] at hcl ⊢
  obtain ⟨lf, hlf⟩ : ∃ lf, leafP e = lf := ⟨_, rfl⟩
  rw [hlf] at hleaf hcl hdC ⊢
  obtain ⟨⟨D, R⟩, hDR⟩ : ∃ p, c13 lf L = p := ⟨_, rfl⟩
  rw [hDR] at hcl hdC ⊢
  simp only at hcl hdC ⊢
  have hDl : (bys D).length = 32 := by rw [bys_length, hdC.1]
  cases R with
  | true =>
    rw [if_pos rfl]
    have HW := Lib.hid hW
    have HG := Lib.hid hg
    have HB := Lib.hid B0
    have HBK := Lib.hid b0
    have HDL := Lib.hid hDl
    have HCL := Lib.hid hcl
    clear hW hg B0 b0 hDl hcl hdC hcp hDR hlf hn hm2 hc hm he hE hP hgl hL hce
    go_enter Tryz.func107, Tryz.ntmps107
    go_upto_region 3 with fail
    rw [HW.out, HG.out]
    go_wp2_with fail
    with_reducible refine hleaf.mono ?_
    rintro e w1 ⟨rfl, hB1⟩
    have hcl := HCL.out w1 hB1
    have HB1 := Lib.hid hB1
    clear hB1 hleaf
    go_wp2_with fail
    with_reducible refine hcl.mono ?_
    rintro e w2 ⟨rfl, hB2⟩
    have hB2W := HB1.out.trans (hB2.mono HB1.out.size)
    have q1 := (Blk.new w2 41 (bys D).toArray)
    have q0 := (HBK.out.fr (Fr.of_below hB2W) (by have := HBK.out.lt; omega)).alloc (.cells (bys D).toArray 41)
    have q2 := (HB.out.trans (hB2W.mono HB.out.size)).alloc (HB.out.trans (hB2W.mono HB.out.size)).size (.cells (bys D).toArray 41)
    have hst1 := hst0 w2 (bys D) HDL.out (bys_one _)
    obtain ⟨X, hX⟩ : ∃ X, w2.alloc (.cells (bys D).toArray 41) = X := ⟨_, rfl⟩
    rw [hX] at q1 q0 q2 hst1
    have hld := LDs_all (P := Tryz.prog) uIdA iId (bys D) q1 HDL.out
    have hst2 := STs_all (P := Tryz.prog) iId q0 hz (bys D) HDL.out (bys_one _)
    have q3 := q0.row_ (bys D).toArray
    have q4 := Below.setRow (g := g) q2 (by have := HG.out; omega) (bys D).toArray
    have Q3 := Lib.hid q3
    have Q4 := Lib.hid q4
    clear q3 q4 hB2 hB2W q1 q0 q2 hX hcl hst0
    go_wp2_with fail
    exact bodyPost_ret (results_cv rfl _ _ g 41 (bys D) Q3.out uIdA (by rw [HDL.out]; exact iId) rfl (.bool true)) rfl ⟨rfl, Q4.out⟩
  | false =>
    rw [if_neg (by simp)]
    have hb0 := fun W => bdId_0 W
    have hyl : (bys (List.replicate 32 0)).length = 32 := by simp [bys]
    have hy1 : ∀ v ∈ bys (List.replicate 32 0), v.oneCell' = true := bys_one _
    obtain ⟨ys, hys⟩ : ∃ ys, bys (List.replicate 32 0) = ys := ⟨_, rfl⟩
    rw [hys] at hb0 hyl hy1 ⊢
    have HW := Lib.hid hW
    have HG := Lib.hid hg
    have HB := Lib.hid B0
    have HBK := Lib.hid b0
    have HDL := Lib.hid hDl
    have HCL := Lib.hid hcl
    have HYL := Lib.hid hyl
    have HY1 := Lib.hid hy1
    clear hW hg B0 b0 hDl hcl hyl hy1 hdC hcp hDR hlf hn hm2 hc hm he hE hP hgl hL hce hys
    go_enter Tryz.func107, Tryz.ntmps107
    go_upto_region 3 with fail
    rw [HW.out, HG.out]
    go_wp2_with fail
    with_reducible refine hleaf.mono ?_
    rintro e w1 ⟨rfl, hB1⟩
    have hcl := HCL.out w1 hB1
    have HB1 := Lib.hid hB1
    clear hB1 hleaf
    go_wp2_with fail
    with_reducible refine hcl.mono ?_
    rintro e w2 ⟨rfl, hB2⟩
    have hB2W := HB1.out.trans (hB2.mono HB1.out.size)
    have q0 := (HBK.out.fr (Fr.of_below hB2W) (by have := HBK.out.lt; omega)).alloc (.cells (bys D).toArray 41)
    have q2 := (HB.out.trans (hB2W.mono HB.out.size)).alloc (HB.out.trans (hB2W.mono HB.out.size)).size (.cells (bys D).toArray 41)
    have hst1 := hst0 w2 (bys D) HDL.out (bys_one _)
    obtain ⟨X, hX⟩ : ∃ X, w2.alloc (.cells (bys D).toArray 41) = X := ⟨_, rfl⟩
    rw [hX] at q0 q2 hst1
    have hst2 := STs_all (P := Tryz.prog) iId q0 hz ys HYL.out HY1.out
    have q3 := q0.row_ ys.toArray
    have q4 := Below.setRow (g := g) q2 (by have := HG.out; omega) ys.toArray
    have Q3 := Lib.hid q3
    have Q4 := Lib.hid q4
    clear q3 q4 hB2 hB2W q0 q2 hX hcl hst0
    go_wp2_with fail
    exact bodyPost_ret (results_cv rfl _ _ g 41 ys Q3.out uIdA (by rw [HYL.out]; exact iId) rfl (.bool false)) rfl ⟨rfl, Q4.out⟩
end Go.Proofs.YtmflhidmhefljaaGreatDoor
end
