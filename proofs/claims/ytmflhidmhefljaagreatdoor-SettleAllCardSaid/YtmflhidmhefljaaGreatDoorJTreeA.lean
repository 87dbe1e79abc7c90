/-
  tree.leaf, tree.node.
  sha.Same: whether two digests are the same.
  Digests under a key: pad.turned.
  tree.first at 2 and at 3.
-/
import Derived.Test.YtmflhidmhefljaaGreatDoorJTxP
import Derived.Test.YtmflhidmhefljaaGreatDoorJTxG

section
namespace Go.Proofs.YtmflhidmhefljaaGreatDoor
open Go.RowKit Go.Shelf
set_option maxRecDepth 100000
attribute [local go_sem ↓] ld123 st123 al123 bdId_of SLs_of
theorem leafP_eq (b : List Int) : leafP b = shaP (1 :: (be4P b.length ++ b)) := by
  unfold leafP underP underL
  simp

set_option maxHeartbeats 4000000 in
theorem leaf_any (A : Option Addr) (c : Nat) (hc : A = none → c = 0) (b : List Int) (w : World) (hb : Byt w A b) (hl : b.length ≤ 400000000) (hg : Glob w) :
    Calls Tryz.prog 129 #[.slice A b.length c] w fun e w' => e = .returned (.agg (bys (leafP b)).toArray) ∧ Below w.heap.size w w' := by
  obtain ⟨z, hz1, hz2⟩ := Option.map_eq_some_iff.1 z123
  have hal := ALs_new (P := Tryz.prog) (t := 41) z hz1 w
  obtain ⟨Z, hZ⟩ : ∃ Z, z.cells = Z := ⟨_, rfl⟩
  rw [hZ] at hal hz2
  have hzs : Z.size = 32 := by rw [← Array.length_toList, hz2]; rfl
  have bz := Blk.new w 41 Z
  have B0 : Below w.heap.size w (w.alloc (.cells Z 41)) := (Below.refl _ w).alloc (Nat.le_refl _) _
  obtain ⟨W, hW⟩ : ∃ W, w.alloc (.cells Z 41) = W := ⟨_, rfl⟩
  obtain ⟨g, hgg⟩ : ∃ g, w.heap.size = g := ⟨_, rfl⟩
  rw [hW] at B0 hal
  rw [hW, hgg] at bz
  rw [hgg] at hal
  have B2 : Below W.heap.size W (W.alloc (.cells #[.slice A b.length c] 22)) := (Below.refl _ W).alloc (Nat.le_refl _) _
  have bw2 := Blk.new W 22 #[.slice A b.length c]
  have hgl2 := (hg.below B0).below B2
  have hby2 := (hb.below B0).below B2
  obtain ⟨w2, hw2⟩ : ∃ w2, W.alloc (.cells #[.slice A b.length c] 22) = w2 := ⟨_, rfl⟩
  rw [hw2] at bw2 hgl2 hby2 B2
  have hun := under_one 1 (by omega) W.heap.size 0 1 A c hc b w2 bw2.lt (bw2.cell 0) hby2 hl hgl2
  rw [← leafP_eq] at hun
  obtain ⟨np, hnp⟩ : ∃ np, b.length = np := ⟨_, rfl⟩
  rw [hnp] at hw2 ⊢
  obtain ⟨D, hD⟩ : ∃ D, leafP b = D := ⟨_, rfl⟩
  have hD32 : (bys D).length = 32 := by rw [bys_length, ← hD]; exact (Dig.leaf b).1
  rw [hD] at hun ⊢
  have hB0W := B0.trans (B2.mono B0.size)
  have HD32 := Lib.hid hD32
  have HW := Lib.hid hW
  have HG := Lib.hid hgg
  have HB0 := Lib.hid B0
  have HBZ := Lib.hid bz
  have HZ := Lib.hid hzs
  have HW2 := Lib.hid hw2
  have HB2 := Lib.hid B2
  clear hD32 hD hW hgg B0 bz hzs hw2 B2 hgl2 hby2 bw2 hz1 hz2 hZ hB0W hnp hl hb hg
  go_enter Tryz.func129, Tryz.ntmps129
  go_upto_region 1 with fail
  go_wp2_with fail
  rw [HW2.out]
  with_reducible refine hun.mono ?_
  rintro e w3 ⟨rfl, hB3⟩
  have hB3W := HB2.out.trans (hB3.mono HB2.out.size)
  have hbz := HBZ.out.fr (Fr.of_below hB3W) (by have := HBZ.out.lt; omega)
  have hst := STs_blk (P := Tryz.prog) (t := 41) i123 hbz (off := 0) (bys D) HD32.out (by rw [HZ.out]; omega) (bys_one _)
  rw [splice_whole _ _ (by rw [HD32.out, HZ.out])] at hst
  have HB3W := Lib.hid hB3W
  have HB3 := Lib.hid hbz
  clear hun hB3 hB3W hbz
  go_wp2_with fail
  exact bodyPost_ret (results_arr rfl _ _ g 41 (bys D) _ rfl (HB3.out.row_ _) undId' rfl (by rw [HD32.out]; exact i123)) rfl ⟨rfl, Below.setRow (HB0.out.trans (HB3W.out.mono HB0.out.size)) (by rw [HG.out]; omega) _⟩

set_option maxHeartbeats 4000000 in
theorem node_any (a b : List Int) (ha : Dig a) (hb : Dig b) (w : World) (hg : Glob w) :
    Calls Tryz.prog 137 #[.agg (bys a).toArray, .agg (bys b).toArray] w fun e w' => e = .returned (.agg (bys (nodeP a b)).toArray) ∧ Below w.heap.size w w' := by
  have b1 := Blk.new w 41 (bys a).toArray
  have B1 : Below w.heap.size w (w.alloc (.cells (bys a).toArray 41)) := (Below.refl _ w).alloc (Nat.le_refl _) _
  obtain ⟨W1, hW1⟩ : ∃ W, w.alloc (.cells (bys a).toArray 41) = W := ⟨_, rfl⟩
  rw [hW1] at b1 B1
  have b2 := Blk.new W1 41 (bys b).toArray
  have B2 : Below w.heap.size w (W1.alloc (.cells (bys b).toArray 41)) := B1.alloc B1.size _
  have b12 := b1.alloc (.cells (bys b).toArray 41)
  obtain ⟨W2, hW2⟩ : ∃ W, W1.alloc (.cells (bys b).toArray 41) = W := ⟨_, rfl⟩
  rw [hW2] at b2 B2 b12
  obtain ⟨z, hz1, hz2⟩ := Option.map_eq_some_iff.1 z123
  have hal := ALs_new (P := Tryz.prog) (t := 41) z hz1 W2
  obtain ⟨Z, hZ⟩ : ∃ Z, z.cells = Z := ⟨_, rfl⟩
  rw [hZ] at hal hz2
  have hzs : Z.size = 32 := by rw [← Array.length_toList, hz2]; rfl
  have bz := Blk.new W2 41 Z
  have B3 : Below w.heap.size w (W2.alloc (.cells Z 41)) := B2.alloc B2.size _
  have ba := b12.alloc (.cells Z 41)
  have bb := b2.alloc (.cells Z 41)
  obtain ⟨W, hW⟩ : ∃ W, W2.alloc (.cells Z 41) = W := ⟨_, rfl⟩
  rw [hW] at bz B3 ba bb hal
  obtain ⟨ga, hga⟩ : ∃ g, w.heap.size = g := ⟨_, rfl⟩
  obtain ⟨gb, hgb⟩ : ∃ g, W1.heap.size = g := ⟨_, rfl⟩
  obtain ⟨gz, hgz⟩ : ∃ g, W2.heap.size = g := ⟨_, rfl⟩
  rw [hga] at ba
  rw [hgb] at bb
  rw [hgz] at bz hal
  have hya : (bys a).length = 32 := by rw [bys_length, ha.1]
  have hyb : (bys b).length = 32 := by rw [bys_length, hb.1]
  have hD32 : (bys (nodeP a b)).length = 32 := by rw [bys_length]; exact (Dig.node a b).1
  obtain ⟨D, hD⟩ : ∃ D, nodeP a b = D := ⟨_, rfl⟩
  have hpart : ∀ (X : World) (g' : Nat) (l : List Int), Dig l → Blk X g' 41 (bys l).toArray → Byt X (some ⟨g', 0, none⟩) l := fun X g' l hl hbk =>
    ⟨fun _ => ⟨g', 0, rfl, hbk.lt, fun j x hx => by rw [Nat.zero_add, hbk.cell j]; simp [bys, hx]⟩, hl.2⟩
  have hun : ∀ X, Below W.heap.size W X → Calls Tryz.prog 50 #[.int .u8 2, .slice (some ⟨X.heap.size, 0, none⟩) 2 2] (X.alloc (.cells #[.slice (some ⟨ga, 0, none⟩) 32 32, .slice (some ⟨gb, 0, none⟩) 32 32] 22)) fun e w' => e = .returned (.agg (bys D).toArray) ∧ Below X.heap.size X w' := fun X hX => by
    have hk := Blk.new X 22 #[.slice (some ⟨ga, 0, none⟩) 32 32, .slice (some ⟨gb, 0, none⟩) 32 32]
    have hB : Below X.heap.size X (X.alloc (.cells #[.slice (some ⟨ga, 0, none⟩) 32 32, .slice (some ⟨gb, 0, none⟩) 32 32] 22)) := (Below.refl _ X).alloc (Nat.le_refl _) _
    have ba2 := (ba.fr (Fr.of_below hX) (by have := ba.lt; omega)).alloc (.cells #[.slice (some ⟨ga, 0, none⟩) 32 32, .slice (some ⟨gb, 0, none⟩) 32 32] 22)
    have bb2 := (bb.fr (Fr.of_below hX) (by have := bb.lt; omega)).alloc (.cells #[.slice (some ⟨ga, 0, none⟩) 32 32, .slice (some ⟨gb, 0, none⟩) 32 32] 22)
    have hT : TxsV (X.alloc (.cells #[.slice (some ⟨ga, 0, none⟩) 32 32, .slice (some ⟨gb, 0, none⟩) 32 32] 22)) (some ⟨X.heap.size, 0, none⟩) [.slice (some ⟨ga, 0, none⟩) 32 32, .slice (some ⟨gb, 0, none⟩) 32 32] [a, b] := ⟨rfl, fun _ => ⟨X.heap.size, 0, rfl, hk.lt, fun j x hx => by rw [Nat.zero_add, hk.cell j]; simpa using hx⟩, fun i h h' => by
      obtain rfl | rfl : i = 0 ∨ i = 1 := by simp at h; omega
      · exact ⟨some ⟨ga, 0, none⟩, 32, by simp [ha.1], hpart _ _ _ ha ba2, by simp⟩
      · exact ⟨some ⟨gb, 0, none⟩, 32, by simp [hb.1], hpart _ _ _ hb bb2, by simp⟩⟩
    have := under_any 2 (by omega) (some ⟨X.heap.size, 0, none⟩) 2 _ [a, b] _ hT (fun i h h' k hk' _ => by
      obtain rfl | rfl : i = 0 ∨ i = 1 := by simp at h; omega
      · have : ga = k := by simpa [Value.ownBlock] using hk'
        have := ba2.lt
        omega
      · have : gb = k := by simpa [Value.ownBlock] using hk'
        have := bb2.lt
        omega) (by simp) (by simp [ha.1, hb.1]) (by
      intro l hl
      simp only [List.mem_cons, List.not_mem_nil, or_false] at hl
      rcases hl with rfl | rfl
      · exact ha.2
      · exact hb.2) (((hg.below B3).below hX).below hB)
    refine this.mono ?_
    rintro e w' ⟨rfl, hb'⟩
    exact ⟨by rw [← hD]; rfl, hB.trans (hb'.mono (by simp))⟩
  rw [hD] at hD32 ⊢
  have hBW : Below W.heap.size W W.drew := (Below.refl _ W).drew
  obtain ⟨ya, hya'⟩ : ∃ y, (bys a).toArray = y := ⟨_, rfl⟩
  obtain ⟨yb, hyb'⟩ : ∃ y, (bys b).toArray = y := ⟨_, rfl⟩
  rw [hya'] at hW1 ⊢
  rw [hyb'] at hW2 ⊢
  have HD32 := Lib.hid hD32
  have HW1 := Lib.hid hW1
  have HW2 := Lib.hid hW2
  have HGA := Lib.hid hga
  have HGB := Lib.hid hgb
  have HGZ := Lib.hid hgz
  have HB3 := Lib.hid B3
  have HBZ := Lib.hid bz
  have HZ := Lib.hid hzs
  have HUN := Lib.hid hun
  have hle : ga ≤ gz := by rw [← hga, ← hgz]; exact B2.size
  have hgab : W1.heap.size = w.heap.size + 1 := by rw [← hW1]; simp
  rw [← hW2, ← hW1] at hal
  rw [hgb, hga] at hgab
  subst hgab
  have sla := fun X => SLs_all (P := Tryz.prog) u123 i5 X ga (by omega)
  have slb := fun X => SLs_all (P := Tryz.prog) u123 i5 X (ga + 1) (by omega)
  clear hW1 hW2 hga hgb hgz B3 bz hzs hun hD32 hD hya' hyb' hpart b1 B1 b2 B2 b12 ba bb hz1 hz2 hZ hya hyb ha hb hg hW
  go_enter Tryz.func137, Tryz.ntmps137
  go_upto_region 1 with fail
  rw [HGA.out]
  refine wp_txO [(0, 3), (1, 3), (2, 2), (3, 2), (4, 2)] (fun _ => True) (by kernel_rfl) (by kernel_rfl) (by kernel_rfl) (by kernel_rfl) trivial ?_
  iterate 2 (with_reducible refine wpTxO_evN (o := ?_) (v := ?_) (a' := ?_) (by with_unfolding_all rfl) (by with_unfolding_all rfl) (fun W' => ?_) ?_ ?_; rotate_left 2; (focus (go_simp <;> with_reducible rfl)); focus (go_simp <;> with_reducible rfl))
  with_reducible refine wpTxO_last (o := ?_) (by with_unfolding_all rfl) (by with_unfolding_all rfl) (fun K hK => ?_)
  go_simp
  with_reducible refine hK _ _ ?_
  clear hK K
  have hu := HUN.out W.drew hBW
  rw [show W.drew.heap.size = W.heap.size from rfl, show ∀ o, W.drew.alloc o = (W.alloc o).drew from fun _ => rfl] at hu
  with_reducible refine wpTxO_last (o := ?_) (by with_unfolding_all rfl) (by with_unfolding_all rfl) (fun K hK => ?_)
  go_simp
  with_reducible refine hu.mono ?_
  rintro e w3 ⟨rfl, hB3⟩
  have hB3W := hBW.trans (hB3.mono hBW.size)
  have hbz := HBZ.out.fr (Fr.of_below hB3W) (by have := HBZ.out.lt; omega)
  have hst := STs_blk (P := Tryz.prog) (t := 41) i123 hbz (off := 0) (bys D) HD32.out (by rw [HZ.out]; omega) (bys_one _)
  rw [splice_whole _ _ (by rw [HD32.out, HZ.out])] at hst
  have HB3W := Lib.hid hB3W
  have HB4 := Lib.hid hbz
  clear hu hB3 hB3W hbz
  with_reducible refine hK _ _ ?_
  clear hK K
  with_reducible refine wpTxO_last (o := ?_) (by with_unfolding_all rfl) (by with_unfolding_all rfl) (fun K hK => ?_)
  go_simp
  with_reducible refine hK _ _ ?_
  clear hK K
  with_reducible refine wpTxO_nil ?_
  rw [noPan_normal]
  go_wp2_with fail
  exact bodyPost_ret (results_arr rfl _ _ gz 41 (bys D) _ rfl (HB4.out.row_ _) undId' rfl (by rw [HD32.out]; exact i123)) rfl ⟨rfl, Below.setRow (HB3.out.trans (HB3W.out.mono HB3.out.size)) (by rw [HGA.out]; exact hle) _⟩
end Go.Proofs.YtmflhidmhefljaaGreatDoor
end

section
namespace Go.Proofs.YtmflhidmhefljaaGreatDoor
open Go.RowKit Go.Shelf
set_option maxRecDepth 100000
theorem xor_u8 (a b : Nat) (ha : a < 256) (hb : b < 256) : bits .xor .u8 (a : Int) (b : Int) = ((a ^^^ b : Nat) : Int) := by
  have hx : a ^^^ b < 2 ^ 8 := Nat.xor_lt_two_pow (by omega) (by omega)
  have h1 : (BitVec.ofInt 8 (a : Int)).toNat = a := by
    rw [BitVec.ofInt_natCast, BitVec.toNat_ofNat]; exact Nat.mod_eq_of_lt (by omega)
  have h2 : (BitVec.ofInt 8 (b : Int)).toNat = b := by
    rw [BitVec.ofInt_natCast, BitVec.toNat_ofNat]; exact Nat.mod_eq_of_lt (by omega)
  show IntKind.u8.wrap ((BitVec.ofInt 8 (a : Int) ^^^ BitVec.ofInt 8 (b : Int)).toNat : Int) = _
  rw [BitVec.toNat_xor, h1, h2, IntKind.wrap_u8]
  omega
theorem or_u8 (a b : Nat) (ha : a < 256) (hb : b < 256) : bits .or .u8 (a : Int) (b : Int) = ((a ||| b : Nat) : Int) := by
  have hx : a ||| b < 2 ^ 8 := Nat.or_lt_two_pow (by omega) (by omega)
  have h1 : (BitVec.ofInt 8 (a : Int)).toNat = a := by
    rw [BitVec.ofInt_natCast, BitVec.toNat_ofNat]; exact Nat.mod_eq_of_lt (by omega)
  have h2 : (BitVec.ofInt 8 (b : Int)).toNat = b := by
    rw [BitVec.ofInt_natCast, BitVec.toNat_ofNat]; exact Nat.mod_eq_of_lt (by omega)
  show IntKind.u8.wrap ((BitVec.ofInt 8 (a : Int) ||| BitVec.ofInt 8 (b : Int)).toNat : Int) = _
  rw [BitVec.toNat_or, h1, h2, IntKind.wrap_u8]
  omega
theorem xor_zero {a b : Int} (ha : 0 ≤ a ∧ a ≤ 255) (hb : 0 ≤ b ∧ b ≤ 255) : bits .xor .u8 a b = 0 ↔ a = b := by
  obtain ⟨n, rfl⟩ := nat_of ha.1
  obtain ⟨m, rfl⟩ := nat_of hb.1
  rw [xor_u8 n m (by omega) (by omega)]
  have : n ^^^ m = 0 ↔ n = m := by
    constructor
    · intro h
      have h2 : n ^^^ (n ^^^ m) = n ^^^ 0 := by rw [h]
      rw [← Nat.xor_assoc, Nat.xor_self, Nat.zero_xor, Nat.xor_zero] at h2
      exact h2.symm
    · rintro rfl
      exact Nat.xor_self _
  omega
theorem or_zero {a b : Int} (ha : 0 ≤ a ∧ a ≤ 255) (hb : 0 ≤ b ∧ b ≤ 255) : bits .or .u8 a b = 0 ↔ a = 0 ∧ b = 0 := by
  obtain ⟨n, rfl⟩ := nat_of ha.1
  obtain ⟨m, rfl⟩ := nat_of hb.1
  rw [or_u8 n m (by omega) (by omega)]
  have : n ||| m = 0 ↔ n = 0 ∧ m = 0 := Nat.or_eq_zero_iff
  omega

set_option maxHeartbeats 4000000 in
theorem same_any (a b : List Int) (ha : Dig a) (hb : Dig b) (w : World) :
    Calls Tryz.prog 52 #[.agg (bys a).toArray, .agg (bys b).toArray] w fun e w' => e = .returned (.bool (decide (a = b))) ∧ Below w.heap.size w w' := by
  have b1 := Blk.new w 41 (bys a).toArray
  have B1 : Below w.heap.size w (w.alloc (.cells (bys a).toArray 41)) := (Below.refl _ w).alloc (Nat.le_refl _) _
  obtain ⟨W1, hW1⟩ : ∃ W, w.alloc (.cells (bys a).toArray 41) = W := ⟨_, rfl⟩
  rw [hW1] at b1 B1
  have b2 := Blk.new W1 41 (bys b).toArray
  have B2 : Below w.heap.size w (W1.alloc (.cells (bys b).toArray 41)) := B1.alloc B1.size _
  have b12 := b1.alloc (.cells (bys b).toArray 41)
  obtain ⟨W, hW⟩ : ∃ W, W1.alloc (.cells (bys b).toArray 41) = W := ⟨_, rfl⟩
  rw [hW] at b2 B2 b12
  rw [show W1.heap.size = w.heap.size + 1 by rw [← hW1]; simp] at b2
  rw [← hW1] at hW
  obtain ⟨g, hg⟩ : ∃ g, w.heap.size = g := ⟨_, rfl⟩
  rw [hg] at b12 b2
  have hca : ∀ j, j < 32 → W.cell? ⟨g, j, none⟩ = some (.int .u8 (a.getD j 0)) := fun j hj => by
    rw [b12.cell j]; simp [bys, List.getD, show j < a.length by rw [ha.1]; exact hj]
  have hcb : ∀ j, j < 32 → W.cell? ⟨g + 1, j, none⟩ = some (.int .u8 (b.getD j 0)) := fun j hj => by
    rw [b2.cell j]; simp [bys, List.getD, show j < b.length by rw [hb.1]; exact hj]
  have hpa : ∀ j, j < 32 → 0 ≤ a.getD j 0 ∧ a.getD j 0 ≤ 255 := fun j hj => ha.2 _ (by simp [List.getD, show j < a.length by rw [ha.1]; exact hj])
  have hpb : ∀ j, j < 32 → 0 ≤ b.getD j 0 ∧ b.getD j 0 ≤ 255 := fun j hj => hb.2 _ (by simp [List.getD, show j < b.length by rw [hb.1]; exact hj])
  obtain ⟨R, hR⟩ : ∃ R, decide (a = b) = R := ⟨_, rfl⟩
  have hRe : R = true ↔ ∀ j, j < 32 → a.getD j 0 = b.getD j 0 := by
    rw [← hR, decide_eq_true_eq]
    constructor
    · rintro rfl j _; rfl
    · intro h
      apply List.ext_getElem (by rw [ha.1, hb.1])
      intro j h1 h2
      have := h j (by rw [← ha.1]; exact h1)
      simpa [List.getD, h1, h2] using this
  rw [hR]
  obtain ⟨ya, hya⟩ : ∃ y, (bys a).toArray = y := ⟨_, rfl⟩
  obtain ⟨yb, hyb⟩ : ∃ y, (bys b).toArray = y := ⟨_, rfl⟩
  rw [hya, hyb] at hW
  rw [hya, hyb]
  have HCA := Lib.hid hca
  have HCB := Lib.hid hcb
  have HPA := Lib.hid hpa
  have HPB := Lib.hid hpb
  have HR := Lib.hid hRe
  have HW := Lib.hid hW
  have HG := Lib.hid hg
  have HB := Lib.hid B2
  clear hca hcb hpa hpb hRe hW hg B2 hR hya hyb b1 B1 b2 b12 hW1 ha hb
  go_enter Tryz.func52, Tryz.ntmps52
  go_upto_region 3 with fail
  rw [HW.out, HG.out]
  go_loopg [5, 6, 7] 32 (fun kk v _ s wr => ∃ (i : Nat) (x : Int), i + kk = 32 ∧ s = .int .i64 (i : Int) ∧ v = .int .u8 x ∧ (0 ≤ x ∧ x ≤ 255) ∧ (x = 0 ↔ ∀ j, j < i → a.getD j 0 = b.getD j 0) ∧ ∃ q, wr = W.drewN q)
  case atStart => exact ⟨0, 0, by omega, rfl, rfl, by omega, ⟨fun _ j hj => by omega, fun _ => rfl⟩, 0, rfl⟩
  case round =>
    obtain ⟨i, x, hi, rfl, rfl, hx, hiff, q, rfl⟩ := hrel
    by_cases hlt : i < 32
    · have hltI : (i : Int) < 32 := by omega
      have k1 := HCA.out i hlt
      have k2 := HCB.out i hlt
      have p1 := HPA.out i hlt
      have p2 := HPB.out i hlt
      obtain ⟨c, hc⟩ : ∃ c, a.getD i 0 = c := ⟨_, rfl⟩
      obtain ⟨d, hd⟩ : ∃ c, b.getD i 0 = c := ⟨_, rfl⟩
      rw [hc] at k1 p1
      rw [hd] at k2 p2
      have hxz := xor_zero p1 p2
      have hxb : 0 ≤ bits .xor .u8 c d ∧ bits .xor .u8 c d ≤ 255 := ⟨bits_lo_u8 _ _ _, bits_hi_u8 _ _ _⟩
      have hoz := or_zero hx hxb
      have HOZ := Lib.hid hoz
      have HXZ := Lib.hid hxz
      have HIFF := Lib.hid hiff
      have HC := Lib.hid hc
      have HD := Lib.hid hd
      clear hxz hxb hoz hiff hc hd p1 p2
      go_wp2_with fail
      go_quiet (fail)
      all_goals
        go_wp2_with fail
        go_roundg (32 - (i + 1))
        case measure => omega
        case rel =>
          refine ⟨i + 1, bits .or .u8 x (bits .xor .u8 c d), by omega, by go_num, rfl, ⟨bits_lo_u8 _ _ _, bits_hi_u8 _ _ _⟩, ?_, _, (by first | rfl | exact World.drewN_drewN _ _ _)⟩
          rw [HOZ.out, HXZ.out, HIFF.out]
          constructor
          · rintro ⟨h1, h2⟩ j hj
            by_cases e : j = i
            · subst e; rw [HC.out, HD.out]; exact h2
            · exact h1 j (by omega)
          · intro h
            exact ⟨fun j hj => h j (by omega), by rw [← HC.out, ← HD.out]; exact h i (by omega)⟩
    · obtain rfl : i = 32 := by omega
      rw [show ((32 : Nat) : Int) = 32 from rfl]
      have hRx : R = (x == 0) := by
        rw [Bool.eq_iff_iff, HR.out, beq_iff_eq]
        exact hiff.symm
      have HRX := Lib.hid hRx
      clear hRx hiff
      go_wp2_with fail
      go_ret
      exact ⟨by rw [HRX.out]; first | rfl | simp, ⟨HB.out.os, HB.out.tape, HB.out.output, HB.out.size, HB.out.block⟩⟩
end Go.Proofs.YtmflhidmhefljaaGreatDoor
end

section
namespace Go.Proofs.YtmflhidmhefljaaGreatDoor
open Go.RowKit Go.Shelf
set_option maxRecDepth 100000
theorem u89 : Tryz.prog.underlying 89 = some (.array 64 5) := by kernel_rfl
attribute [local go_sem ↓] SLs_of
/-- A pad of which the first bytes are turned. -/
def turnQ (y : Int) (l : List Int) (i : Nat) : List Int := turnP y (l.take i) ++ l.drop i
theorem turnQ_zero (y : Int) (l : List Int) : turnQ y l 0 = l := by simp [turnQ, turnP]
theorem turnQ_all (y : Int) {l : List Int} {n : Nat} (h : l.length = n) : turnQ y l n = turnP y l := by subst h; simp [turnQ]
theorem turnQ_get (y : Int) {l : List Int} {i : Nat} (hi : i < l.length) : (turnQ y l i)[i]? = some (l.getD i 0) := by
  unfold turnQ turnP
  rw [List.getElem?_append_right (by simp [Nat.min_eq_left (Nat.le_of_lt hi)])]
  simp [Nat.min_eq_left (Nat.le_of_lt hi), List.getD, hi]
theorem turnQ_set (y : Int) {l : List Int} {i : Nat} (hi : i < l.length) : (bys (turnQ y l i)).toArray.setIfInBounds i (.int .u8 (bits .xor .u8 (l.getD i 0) y)) = (bys (turnQ y l (i + 1))).toArray := by
  rw [List.setIfInBounds_toArray]
  congr 1
  unfold turnQ turnP bys
  rw [List.take_succ_eq_append_getElem hi, List.drop_eq_getElem_cons hi]
  simp only [List.map_append, List.map_cons, List.map_nil, List.append_assoc]
  rw [List.set_append_right _ _ (by simp [Nat.min_eq_left (Nat.le_of_lt hi)])]
  simp [Nat.min_eq_left (Nat.le_of_lt hi), List.getD, hi]

set_option maxHeartbeats 4000000 in
theorem turned_any (l : List Int) (hl : l.length = 64) (y : Int) (w : World) :
    Calls Tryz.prog 45 #[.agg (bys l).toArray, .int .u8 y] w fun e w' => ∃ g, e = .returned (.slice (some ⟨g, 0, none⟩) 64 64) ∧ w.heap.size ≤ g ∧ Blk w' g 89 (bys (turnP y l)).toArray ∧ Below w.heap.size w w' := by
  have b0 := Blk.new w 89 (bys l).toArray
  have B0 : Below w.heap.size w (w.alloc (.cells (bys l).toArray 89)) := (Below.refl _ w).alloc (Nat.le_refl _) _
  obtain ⟨W, hW⟩ : ∃ W, w.alloc (.cells (bys l).toArray 89) = W := ⟨_, rfl⟩
  obtain ⟨g, hg⟩ : ∃ g, w.heap.size = g := ⟨_, rfl⟩
  rw [hW] at B0
  rw [hW, hg] at b0
  have sl := fun X => SLs_all (P := Tryz.prog) u89 i5 X g (by omega)
  obtain ⟨z, hz⟩ : ∃ z, (bys l).toArray = z := ⟨_, rfl⟩
  rw [← turnQ_zero y l] at b0
  rw [hz] at hW ⊢
  have HW := Lib.hid hW
  have HG := Lib.hid hg
  have HB0 := Lib.hid B0
  have HBK := Lib.hid b0
  clear hW hg B0 b0 hz
  go_enter Tryz.func45, Tryz.ntmps45
  go_upto_region 2 with fail
  rw [HW.out, HG.out]
  go_loopg [5, 6] 64 (fun kk _ s wr => ∃ i : Nat, i + kk = 64 ∧ s = .int .i64 (i : Int) ∧ Blk wr g 89 (bys (turnQ y l i)).toArray ∧ Below w.heap.size w wr)
  case atStart => exact ⟨0, by omega, rfl, HBK.out, HB0.out⟩
  case round =>
    obtain ⟨i, hi, rfl, hbk, hB⟩ := hrel
    by_cases hlt : i < 64
    · have hltI : (i : Int) < 64 := by omega
      have hil : i < l.length := by rw [hl]; exact hlt
      have kc : wr.cell? ⟨g, i, none⟩ = some (.int .u8 (l.getD i 0)) := (hbk.cell i).trans (by simp only [List.getElem?_toArray, bys_get, turnQ_get y hil]; rfl)
      have kf := hbk.frozen i
      have hset := turnQ_set y hil
      obtain ⟨c, hc⟩ : ∃ c, l.getD i 0 = c := ⟨_, rfl⟩
      rw [hc] at kc hset
      have HSET := Lib.hid hset
      have HBK := Lib.hid hbk
      have HB := Lib.hid hB
      clear hset hbk hB hc
      go_wp2_with fail
      go_roundg (64 - (i + 1))
      case measure => omega
      case rel =>
        refine ⟨i + 1, by omega, by go_num, ?_, ?_⟩
        · rw [← HSET.out]; exact HBK.out.set_ i _
        · exact Fr.below ((Fr.of_below HB.out).setCell (p := ⟨g, i, none⟩) (fun h => by have e := HG.out; have h' : g < w.heap.size := h; omega) _) (Nat.le_refl _) (fun k hk e => by omega)
    · obtain rfl : i = 64 := by omega
      rw [show ((64 : Nat) : Int) = 64 from rfl]
      rw [turnQ_all y hl] at hbk
      have HBK := Lib.hid hbk
      have HB := Lib.hid hB
      clear hbk hB
      go_wp2_with fail
      go_ret
      exact ⟨g, rfl, by rw [HG.out]; exact Nat.le_refl _, HBK.out, HB.out⟩

theorem padK_small {k : List Int} (h : k.length ≤ 64) : padK k = k ++ List.replicate (64 - k.length) 0 := by
  unfold padK keyP
  rw [if_neg (by omega)]
theorem zPad : (((Tryz.prog.info? 89).bind (·.zero)).map (·.cells.toList)) = some (List.replicate 64 (.int .u8 0)) := by kernel_rfl
theorem iPad : (Tryz.prog.info? 89).map (·.size) = some 64 := by kernel_rfl
theorem uPad : (Tryz.prog.underlying 89).map isAggD = some true := by kernel_rfl
theorem ldPad_of (v : Value) : Instr.loadAt 89 v = LDs 89 v := rfl
theorem stPad_of (v x : Value) : Instr.storeAt 89 v x = STs 89 v x := rfl
theorem alPad_of : Instr.alloc 89 true (.tuple #[]) = ALs 89 := rfl
theorem splice_pad {k : List Int} (h : k.length ≤ 64) : splice (List.replicate 64 (Value.int .u8 0)).toArray 0 (bys k) = (bys (padK k)).toArray := by
  rw [padK_small h]
  obtain ⟨n, hn⟩ : ∃ n, n = 64 := ⟨_, rfl⟩
  rw [← hn]
  unfold splice
  simp [bys, List.map_append, List.drop_replicate]

section
attribute [local go_sem ↓] ldPad_of stPad_of alPad_of CPs_of
set_option maxHeartbeats 4000000 in
theorem fill_any (A : Option Addr) (c : Nat) (k : List Int) (hk : k.length ≤ 64) (h0 : 0 < k.length) (w : World) (hb : Byt w A k) :
    Calls Tryz.prog 43 #[.slice A k.length c] w fun e w' => e = .returned (.agg (bys (padK k)).toArray) ∧ Below w.heap.size w w' := by
  obtain ⟨z, hz1, hz2⟩ := Option.map_eq_some_iff.1 zPad
  have hal := ALs_new (P := Tryz.prog) (t := 89) z hz1 w
  have hZ : z.cells = (List.replicate 64 (Value.int .u8 0)).toArray := by rw [← hz2]
  rw [hZ] at hal
  have bz := Blk.new w 89 (List.replicate 64 (Value.int .u8 0)).toArray
  have B0 : Below w.heap.size w (w.alloc (.cells (List.replicate 64 (Value.int .u8 0)).toArray 89)) := (Below.refl _ w).alloc (Nat.le_refl _) _
  obtain ⟨W, hW⟩ : ∃ W, w.alloc (.cells (List.replicate 64 (Value.int .u8 0)).toArray 89) = W := ⟨_, rfl⟩
  obtain ⟨g, hg⟩ : ∃ g, w.heap.size = g := ⟨_, rfl⟩
  rw [hW] at B0 hal
  rw [hW, hg] at bz
  rw [hg] at hal
  obtain ⟨gs, o, rfl, hgs, hcell⟩ := (hb.below B0).cell h0
  have hkb := hb.bd
  have sl := fun X => SLs_all (P := Tryz.prog) u89 i5 X g (by omega)
  have hadd : ∀ j, (⟨gs, o, none⟩ : Addr).add j = ⟨gs, o + j, none⟩ := fun j => addN gs o j
  have hcp := CPs_blk (P := Tryz.prog) (dT := 22) (sT := 22) (ty := 3) Tryz.underlying22 i5 bz (o := 0) (dLen := 64) (dCap := 64) (a := ⟨gs, o, none⟩) (sLen := k.length) (sCap := c) (bys k) (by rw [bys_length]; exact (Nat.min_eq_left hk).symm)
    (fun j v hv => by
      rw [hadd, ]
      rw [bys_get] at hv
      obtain ⟨x, hx, rfl⟩ := Option.map_eq_some_iff.1 hv
      exact hcell j x hx) (by simp [bys_length]; omega) (bys_one _)
  rw [splice_pad hk, bys_length] at hcp
  have b1 := bz.row_ (bys (padK k)).toArray
  have B1 : Below w.heap.size w (W.setRow g (bys (padK k)).toArray) := Below.setRow B0 (by omega) _
  obtain ⟨W1, hW1⟩ : ∃ X, W.setRow g (bys (padK k)).toArray = X := ⟨_, rfl⟩
  rw [hW1] at hcp b1 B1
  have h64 : (bys (padK k)).length = 64 := by rw [bys_length, padK_len]
  have hld := LDs_aggB (P := Tryz.prog) uPad iPad b1 (off := 0) (bys (padK k)) h64 (by simp [List.take_of_length_le, h64])
  have hst := STs_blk (P := Tryz.prog) (t := 89) iPad b1 (off := 0) (bys (padK k)) h64 (by simp [h64]) (bys_one _)
  rw [splice_whole _ _ (by simp)] at hst
  obtain ⟨ys, hys⟩ : ∃ ys, bys (padK k) = ys := ⟨_, rfl⟩
  rw [hys] at b1 hld hst h64 ⊢
  have hk' : ¬ ((64 : Int) < (k.length : Int)) := by omega
  obtain ⟨n, hn⟩ : ∃ n, k.length = n := ⟨_, rfl⟩
  rw [hn] at hcp hk' hk ⊢
  have HB1 := Lib.hid B1
  have HG := Lib.hid hg
  have HBK := Lib.hid b1
  have H64 := Lib.hid h64
  clear hz1 hz2 hZ bz B0 hW hg hgs hcell hb hkb hadd hys hn h64 b1 B1 hW1 h0
  go_enter Tryz.func43, Tryz.ntmps43
  go_upto_region 1 with fail
  go_wp2_with fail
  exact bodyPost_ret (results_arr rfl _ _ g 89 ys _ rfl (HBK.out.row_ _) u89 rfl (by rw [H64.out]; exact iPad)) rfl ⟨rfl, Below.setRow HB1.out (by rw [HG.out]; exact Nat.le_refl _) _⟩

set_option maxHeartbeats 4000000 in
theorem fill_nil (A : Option Addr) (c : Nat) (w : World) :
    Calls Tryz.prog 43 #[.slice A 0 c] w fun e w' => e = .returned (.agg (bys (padK [])).toArray) ∧ Below w.heap.size w w' := by
  obtain ⟨z, hz1, hz2⟩ := Option.map_eq_some_iff.1 zPad
  have hal := ALs_new (P := Tryz.prog) (t := 89) z hz1 w
  have hp : bys (padK []) = List.replicate 64 (Value.int .u8 0) := by rw [padK_small (by simp)]; simp [bys]
  have hZ : z.cells = (bys (padK [])).toArray := by rw [hp, ← hz2]
  rw [hZ] at hal
  have bz := Blk.new w 89 (bys (padK [])).toArray
  have B0 : Below w.heap.size w (w.alloc (.cells (bys (padK [])).toArray 89)) := (Below.refl _ w).alloc (Nat.le_refl _) _
  obtain ⟨W, hW⟩ : ∃ W, w.alloc (.cells (bys (padK [])).toArray 89) = W := ⟨_, rfl⟩
  obtain ⟨g, hg⟩ : ∃ g, w.heap.size = g := ⟨_, rfl⟩
  rw [hW] at B0 hal
  rw [hW, hg] at bz
  rw [hg] at hal
  have sl := fun X => SLs_all (P := Tryz.prog) u89 i5 X g (by omega)
  have hcp : (CPs #[22, 22] 3 #[.slice (some ⟨g, 0, none⟩) 64 64, .slice A 0 c]).run Tryz.prog W = .ok (goInt 0) W := run_copy_none W _ _ _ _ _ _ _ _ _ _ Tryz.underlying22 i5 (by simp)
  have h64 : (bys (padK [])).length = 64 := by rw [bys_length, padK_len]
  have hld := LDs_aggB (P := Tryz.prog) uPad iPad bz (off := 0) (bys (padK [])) h64 (by simp [List.take_of_length_le, h64])
  have hst := STs_blk (P := Tryz.prog) (t := 89) iPad bz (off := 0) (bys (padK [])) h64 (by simp [h64]) (bys_one _)
  rw [splice_whole _ _ (by simp)] at hst
  obtain ⟨ys, hys⟩ : ∃ ys, bys (padK []) = ys := ⟨_, rfl⟩
  rw [hys] at bz hld hst h64 ⊢
  have HB1 := Lib.hid B0
  have HG := Lib.hid hg
  have HBK := Lib.hid bz
  have H64 := Lib.hid h64
  clear hz1 hz2 hZ bz B0 hW hg hys h64 hp
  go_enter Tryz.func43, Tryz.ntmps43
  go_upto_region 1 with fail
  go_wp2_with fail
  exact bodyPost_ret (results_arr rfl _ _ g 89 ys _ rfl (HBK.out.row_ _) u89 rfl (by rw [H64.out]; exact iPad)) rfl ⟨rfl, Below.setRow HB1.out (by rw [HG.out]; exact Nat.le_refl _) _⟩
theorem fill_all (A : Option Addr) (c : Nat) (k : List Int) (hk : k.length ≤ 64) (w : World) (hb : Byt w A k) :
    Calls Tryz.prog 43 #[.slice A k.length c] w fun e w' => e = .returned (.agg (bys (padK k)).toArray) ∧ Below w.heap.size w w' := by
  rcases Nat.eq_zero_or_pos k.length with h | h
  · obtain rfl := List.length_eq_zero_iff.1 h
    exact fill_nil A c w
  · exact fill_any A c k hk h w hb
end
end Go.Proofs.YtmflhidmhefljaaGreatDoor
end

section
namespace Go.Proofs.YtmflhidmhefljaaGreatDoor
open Go.RowKit Go.Shelf
set_option maxRecDepth 100000
theorem len64_1 (w : World) : Calls Tryz.prog 122 #[.int .u64 1] w fun e w' => e = .returned (.int .i64 1) ∧ w = w' := by
  have h8 : Lib.len8 1 = 1 := by decide
  go_enter Tryz.func122, Tryz.ntmps122
  go_wp2_with fail
  go_ret
  exact ⟨by first | rfl | (show Ending.returned (.int .i64 (wrap64 (wrap64 (Lib.len8 1)))) = _; rw [h8]; rfl), rfl⟩
theorem len64_2 (w : World) : Calls Tryz.prog 122 #[.int .u64 2] w fun e w' => e = .returned (.int .i64 2) ∧ w = w' := by
  have h8 : Lib.len8 2 = 2 := by decide
  go_enter Tryz.func122, Tryz.ntmps122
  go_wp2_with fail
  go_ret
  exact ⟨by first | rfl | (show Ending.returned (.int .i64 (wrap64 (wrap64 (Lib.len8 2)))) = _; rw [h8]; rfl), rfl⟩
theorem len_1 (w : World) : Calls Tryz.prog 97 #[.int .u64 1] w fun e w' => e = .returned (.int .i64 1) ∧ w = w' := by
  have h := len64_1 w
  go_enter Tryz.func97, Tryz.ntmps97
  go_wp2_with fail
  with_reducible refine h.mono ?_
  rintro e w' ⟨rfl, hw⟩
  rw [← hw]
  clear h hw
  go_wp2_with fail
  go_ret
  exact ⟨rfl, rfl⟩
theorem len_2 (w : World) : Calls Tryz.prog 97 #[.int .u64 2] w fun e w' => e = .returned (.int .i64 2) ∧ w = w' := by
  have h := len64_2 w
  go_enter Tryz.func97, Tryz.ntmps97
  go_wp2_with fail
  with_reducible refine h.mono ?_
  rintro e w' ⟨rfl, hw⟩
  rw [← hw]
  clear h hw
  go_wp2_with fail
  go_ret
  exact ⟨rfl, rfl⟩
theorem first_2 (w : World) : Calls Tryz.prog 136 #[.int .i64 2] w fun e w' => e = .returned (.int .i64 1) ∧ w = w' := by
  have h := len_1 w
  go_enter Tryz.func136, Tryz.ntmps136
  go_wp2_with fail
  with_reducible refine h.mono ?_
  rintro e w' ⟨rfl, hw⟩
  rw [← hw]
  clear h hw
  go_wp2_with fail
  go_ret
  exact ⟨rfl, rfl⟩
theorem first_3 (w : World) : Calls Tryz.prog 136 #[.int .i64 3] w fun e w' => e = .returned (.int .i64 2) ∧ w = w' := by
  have h := len_2 w
  go_enter Tryz.func136, Tryz.ntmps136
  go_wp2_with fail
  with_reducible refine h.mono ?_
  rintro e w' ⟨rfl, hw⟩
  rw [← hw]
  clear h hw
  go_wp2_with fail
  go_ret
  exact ⟨rfl, rfl⟩
end Go.Proofs.YtmflhidmhefljaaGreatDoor
end
