/-
  tag.Of: a digest under a key.
  tag.Is; a ring: Ring.has, Ring.Is.
  tag.Keys; rows of digests.
-/
import Derived.Test.YtmflhidmhefljaaGreatDoorJTreeA
import Derived.Test.YtmflhidmhefljaaGreatDoorJMapE
import Derived.Test.YtmflhidmhefljaaGreatDoorJTxtO
import Derived.Test.YtmflhidmhefljaaGreatDoorJOwnR

section
namespace Go.Proofs.YtmflhidmhefljaaGreatDoor
open Go.RowKit Go.Shelf
set_option maxRecDepth 100000
attribute [local go_sem ↓] ldPad_of stPad_of alPad_of ld123 st123 al123 SLs_of

theorem turnP_len (y : Int) (l : List Int) : (turnP y l).length = l.length := by simp [turnP]
theorem turnP_bd (y : Int) (l : List Int) : ∀ x ∈ turnP y l, 0 ≤ x ∧ x ≤ 255 := by
  intro x hx
  obtain ⟨a, _, rfl⟩ := List.mem_map.1 hx
  exact ⟨bits_lo_u8 _ _ _, bits_hi_u8 _ _ _⟩
theorem byt_blk {w : World} {g : Nat} {t : TypeId} {l : List Int} (h : Blk w g t (bys l).toArray) (hl : ∀ x ∈ l, 0 ≤ x ∧ x ≤ 255) : Byt w (some ⟨g, 0, none⟩) l :=
  ⟨fun _ => ⟨g, 0, rfl, h.lt, fun j x hx => by rw [Nat.zero_add, h.cell j]; simp [bys, hx]⟩, hl⟩
/-- The sum of two texts, of which the slice is built just ahead. -/
theorem sum_two (Aa : Option Addr) (Na ca : Nat) (Ab : Option Addr) (Nb cb : Nat) (a b : List Int) (X : World) (ha : Byt X Aa a) (hNa : Na = a.length) (hca : Aa = none → ca = 0) (hb : Byt X Ab b) (hNb : Nb = b.length) (hcb : Ab = none → cb = 0)
    (hl : a.length + b.length ≤ 400000000) (hg : Glob X) :
    Calls Tryz.prog 44 #[.slice (some ⟨X.heap.size, 0, none⟩) 2 2] (X.alloc (.cells #[.slice Aa Na ca, .slice Ab Nb cb] 22)) fun e w' => e = .returned (.agg (bys (shaP (a ++ b))).toArray) ∧ Below X.heap.size X w' := by
  subst hNa
  subst hNb
  have hk := Blk.new X 22 #[.slice Aa a.length ca, .slice Ab b.length cb]
  have hB : Below X.heap.size X (X.alloc (.cells #[.slice Aa a.length ca, .slice Ab b.length cb] 22)) := (Below.refl _ X).alloc (Nat.le_refl _) _
  have hT : TxsV (X.alloc (.cells #[.slice Aa a.length ca, .slice Ab b.length cb] 22)) (some ⟨X.heap.size, 0, none⟩) [.slice Aa a.length ca, .slice Ab b.length cb] [a, b] := ⟨rfl, fun _ => ⟨X.heap.size, 0, rfl, hk.lt, fun j x hx => by rw [Nat.zero_add, hk.cell j]; simpa using hx⟩, fun i h h' => by
    obtain rfl | rfl : i = 0 ∨ i = 1 := by simp at h; omega
    · exact ⟨Aa, ca, rfl, ha.below hB, hca⟩
    · exact ⟨Ab, cb, rfl, hb.below hB, hcb⟩⟩
  have := sum_any (some ⟨X.heap.size, 0, none⟩) 2 _ [a, b] _ hT (by simp) (by simp; omega) (by
    intro x hx
    simp only [List.flatten_cons, List.flatten_nil, List.append_nil, List.mem_append] at hx
    rcases hx with hx | hx
    · exact ha.bd x hx
    · exact hb.bd x hx) (hg.below hB)
  refine this.mono ?_
  rintro e w' ⟨rfl, hb'⟩
  exact ⟨by simp, hB.trans (hb'.mono (by simp))⟩
theorem alstZ {P : Program} {t : TypeId} {n : Nat} (hi : (P.info? t).map (·.size) = some n) (hz : (((P.info? t).bind (·.zero)).map (·.cells.size)) = some n) :
    ∃ Z : Array Value, (∀ W : World, (ALs t).run P W = .ok (.pointer (some ⟨W.heap.size, 0, none⟩)) (W.alloc (.cells Z t))) ∧
      (∀ (W : World) (xs : List Value), xs.length = n → (∀ v ∈ xs, v.oneCell' = true) → (STs t (.pointer (some ⟨W.heap.size, 0, none⟩)) (.agg xs.toArray)).run P (W.alloc (.cells Z t)) = .ok () (W.alloc (.cells xs.toArray t))) ∧ Z.size = n := by
  obtain ⟨z, h1, h2⟩ := Option.map_eq_some_iff.1 hz
  exact ⟨z.cells, fun W => ALs_new z h1 W, fun W xs hl h1 => STs_new hi W _ h2 xs hl h1, h2⟩
theorem zPadS : (((Tryz.prog.info? 89).bind (·.zero)).map (·.cells.size)) = some 64 := by kernel_rfl

set_option maxHeartbeats 8000000 in
theorem mac_any (A1 : Option Addr) (c1 : Nat) (k : List Int) (A2 : Option Addr) (c2 : Nat) (b : List Int) (w : World) (hk : k.length ≤ 64) (hb1 : Byt w A1 k) (hb2 : Byt w A2 b) (hc2 : A2 = none → c2 = 0) (hl : b.length ≤ 100000000) (hg : Glob w) :
    Calls Tryz.prog 23 #[.slice A1 k.length c1, .slice A2 b.length c2] w fun e w' => e = .returned (.agg (bys (macP k b)).toArray) ∧ Below w.heap.size w w' := by
  obtain ⟨Zi, hali, hsti, hzi⟩ := alstZ (P := Tryz.prog) (t := 41) iId zIdS
  obtain ⟨Zp, halp, hstp⟩ := alst (P := Tryz.prog) (t := 89) iPad zPadS
  have b0 := Blk.new w 41 Zi
  have B0 : Below w.heap.size w (w.alloc (.cells Zi 41)) := (Below.refl _ w).alloc (Nat.le_refl _) _
  obtain ⟨W, hW⟩ : ∃ W, w.alloc (.cells Zi 41) = W := ⟨_, rfl⟩
  obtain ⟨g, hgg⟩ : ∃ g, w.heap.size = g := ⟨_, rfl⟩
  rw [hW] at B0
  rw [hW, hgg] at b0
  have hfill := fill_all A1 c1 k hk W (hb1.below B0)
  have hp64 := padK_len k
  obtain ⟨pd, hpd⟩ : ∃ pd, padK k = pd := ⟨_, rfl⟩
  rw [hpd] at hfill hp64
  have hpl : (bys pd).length = 64 := by rw [bys_length, hp64]
  have hst0 := fun X => hstp X (bys pd) hpl (bys_one _)
  have hres : macP k b = shaP (turnP 92 pd ++ shaP (turnP 54 pd ++ b)) := by rw [← hpd]; rfl
  obtain ⟨D, hD⟩ : ∃ D, shaP (turnP 54 pd ++ b) = D := ⟨_, rfl⟩
  have hDd : Dig D := by rw [← hD]; exact Dig.sha _
  rw [hD] at hres
  have hDl : (bys D).length = 32 := by rw [bys_length, hDd.1]
  have hst1 := fun X => hsti X (bys D) hDl (bys_one _)
  rw [hres]
  obtain ⟨E, hE⟩ : ∃ E, shaP (turnP 92 pd ++ D) = E := ⟨_, rfl⟩
  have hEl : (bys E).length = 32 := by rw [bys_length, ← hE]; exact (Dig.sha _).1
  rw [hE]
  have hbW := hb2.below B0
  have hgW := hg.below B0
  obtain ⟨n, hn⟩ : ∃ n, b.length = n := ⟨_, rfl⟩
  obtain ⟨m, hm⟩ : ∃ n, k.length = n := ⟨_, rfl⟩
  rw [hm] at hfill hk ⊢
  rw [hn] at hl ⊢
  have HN := Lib.hid hn
  have HD := Lib.hid hD
  have HDD := Lib.hid hDd
  have HE := Lib.hid hE
  have HEL := Lib.hid hEl
  have HW := Lib.hid hW
  have HG := Lib.hid hgg
  have HB0 := Lib.hid B0
  have HBZ := Lib.hid b0
  have HB2 := Lib.hid hbW
  have HGW := Lib.hid hgW
  have HC2 := Lib.hid hc2
  have HPL := Lib.hid hpl
  have HP64 := Lib.hid hp64
  have HDL := Lib.hid hDl
  have HZ := Lib.hid hzi
  clear hn hm hD hDd hE hEl hW hgg B0 b0 hbW hgW hb1 hb2 hg hpd hres hc2 hpl hp64 hDl hk hzi
  go_enter Tryz.func23, Tryz.ntmps23
  go_upto_region 1 with fail
  rw [HW.out, HG.out]
  go_wp2_with fail
  with_reducible refine hfill.mono ?_
  rintro e w1 ⟨rfl, hB1⟩
  have b5 := Blk.new w1 89 (bys pd).toArray
  have B5 := hB1.alloc hB1.size (.cells (bys pd).toArray 89)
  obtain ⟨h5, hh5⟩ : ∃ h, w1.heap.size = h := ⟨_, rfl⟩
  have hW5 : W.heap.size ≤ h5 := by rw [← hh5]; exact hB1.size
  obtain ⟨w2, hw2⟩ : ∃ X, w1.alloc (.cells (bys pd).toArray 89) = X := ⟨_, rfl⟩
  rw [hw2] at b5 B5
  rw [hh5] at b5
  have hld := LDs_aggB (P := Tryz.prog) uPad iPad b5 (off := 0) (bys pd) HPL.out (by simp [List.take_of_length_le, HPL.out])
  have ht := turned_any pd HP64.out 54 w2
  have HB5 := Lib.hid B5
  have HBK5 := Lib.hid b5
  have HW2 := Lib.hid hw2
  have HH5 := Lib.hid hh5
  clear hB1 B5 b5 hh5 hw2 hfill
  go_upto_region 2 with fail
  rw [HW2.out, HH5.out]
  clear hst0 halp
  go_wp2_with fail
  with_reducible refine ht.mono ?_
  rintro e w3 ⟨gi, rfl, hgi, hbi, hB3⟩
  have hB3W := HB5.out.trans (hB3.mono HB5.out.size)
  have hs := sum_two (some ⟨gi, 0, none⟩) 64 64 A2 n c2 (turnP 54 pd) b w3 (byt_blk hbi (turnP_bd _ _)) (by rw [turnP_len, HP64.out]) (by simp) (HB2.out.below hB3W) HN.out.symm HC2.out (by rw [turnP_len, HP64.out, HN.out]; omega) (HGW.out.below hB3W)
  rw [HD.out] at hs
  have HB3 := Lib.hid hB3W
  have HBK3 := Lib.hid (HBK5.out.fr (Fr.of_below hB3) (by have := HBK5.out.lt; omega))
  clear ht hgi hbi hB3 hB3W hld
  go_wp2_with fail
  with_reducible refine hs.mono ?_
  rintro e w4 ⟨rfl, hB4⟩
  have hB4W := HB3.out.trans (hB4.mono HB3.out.size)
  have b6 := Blk.new w4 41 (bys D).toArray
  have B6 := hB4W.alloc hB4W.size (.cells (bys D).toArray 41)
  have b56 := (HBK3.out.fr (Fr.of_below hB4) (by have := HBK3.out.lt; omega)).alloc (.cells (bys D).toArray 41)
  obtain ⟨h6, hh6⟩ : ∃ h, w4.heap.size = h := ⟨_, rfl⟩
  obtain ⟨w6, hw6⟩ : ∃ X, w4.alloc (.cells (bys D).toArray 41) = X := ⟨_, rfl⟩
  rw [hw6] at b6 B6 b56
  rw [hh6] at b6
  have HB6 := Lib.hid B6
  have HBK6 := Lib.hid b6
  have HBK56 := Lib.hid b56
  have HW6 := Lib.hid hw6
  have HH6 := Lib.hid hh6
  clear hB4 hB4W B6 b6 b56 hh6 hw6 hs
  go_upto_region 3 with fail
  rw [HW6.out, HH6.out]
  have hld6 := LDs_aggB (P := Tryz.prog) uPad iPad (HBK56.out.drew) (off := 0) (bys pd) HPL.out (by simp [List.take_of_length_le, HPL.out])
  have ht6 := turned_any pd HP64.out 92 w6.drew
  have sl6 := fun X => SLs_all (P := Tryz.prog) u123 i5 X h6 (by omega)
  refine wp_txO [(2, 3), (0, 2), (1, 2), (3, 2), (4, 2), (5, 2)] (fun _ => True) (by kernel_rfl) (by kernel_rfl) (by kernel_rfl) (by kernel_rfl) trivial ?_
  iterate 1 (with_reducible refine wpTxO_evN (o := ?_) (v := ?_) (a' := ?_) (by with_unfolding_all rfl) (by with_unfolding_all rfl) (fun W' => ?_) ?_ ?_; rotate_left 2; (focus (go_simp <;> with_reducible rfl)); focus (go_simp <;> with_reducible rfl))
  with_reducible refine wpTxO_last (o := ?_) (by with_unfolding_all rfl) (by with_unfolding_all rfl) (fun K hK => ?_)
  go_simp
  with_reducible refine hK _ _ ?_
  clear hK K
  with_reducible refine wpTxO_last (o := ?_) (by with_unfolding_all rfl) (by with_unfolding_all rfl) (fun K hK => ?_)
  go_simp
  with_reducible refine ht6.mono ?_
  rintro e w7 ⟨gi, rfl, hgi, hbi, hB7⟩
  with_reducible refine hK _ _ ?_
  clear hK K
  have hB7W : Below W.heap.size W w7 := HB6.out.drew.trans (hB7.mono HB6.out.size)
  have hb6 := HBK6.out.drew.fr (Fr.of_below hB7) (by have := HBK6.out.lt; simp; omega)
  have hs7 := sum_two (some ⟨gi, 0, none⟩) 64 64 (some ⟨h6, 0, none⟩) 32 32 (turnP 92 pd) D w7 (byt_blk hbi (turnP_bd _ _)) (by rw [turnP_len, HP64.out]) (by simp) (byt_blk hb6 HDD.out.2) HDD.out.1.symm (by simp) (by rw [turnP_len, HP64.out, HDD.out.1]; omega) (HGW.out.below hB7W)
  rw [HE.out] at hs7
  have HB7 := Lib.hid hB7W
  clear hB7W hB7 hb6 hbi hgi ht6 hld6 sl6
  with_reducible refine wpTxO_last (o := ?_) (by with_unfolding_all rfl) (by with_unfolding_all rfl) (fun K hK => ?_)
  go_simp
  with_reducible refine hK _ _ ?_
  clear hK K
  with_reducible refine wpTxO_last (o := ?_) (by with_unfolding_all rfl) (by with_unfolding_all rfl) (fun K hK => ?_)
  go_simp
  with_reducible refine hs7.mono ?_
  rintro e w8 ⟨rfl, hB8⟩
  have hB8W := HB7.out.trans (hB8.mono HB7.out.size)
  have hbz := HBZ.out.fr (Fr.of_below hB8W) (by have := HBZ.out.lt; omega)
  have hst := STs_blk (P := Tryz.prog) (t := 41) i123 hbz (off := 0) (bys E) HEL.out (by rw [HZ.out]; omega) (bys_one _)
  rw [splice_whole _ _ (by rw [HEL.out, HZ.out])] at hst
  have HB8 := Lib.hid hB8W
  have HB9 := Lib.hid hbz
  clear hB8W hbz hB8 hs7
  with_reducible refine hK _ _ ?_
  clear hK K
  with_reducible refine wpTxO_last (o := ?_) (by with_unfolding_all rfl) (by with_unfolding_all rfl) (fun K hK => ?_)
  go_simp
  with_reducible refine hK _ _ ?_
  clear hK K
  with_reducible refine wpTxO_nil ?_
  rw [noPan_normal]
  go_wp2_with fail
  exact bodyPost_ret (results_arr rfl _ _ g 41 (bys E) _ rfl (HB9.out.row_ _) undId' rfl (by rw [HEL.out]; exact i123)) rfl ⟨rfl, Below.setRow (HB0.out.trans (HB8.out.mono HB0.out.size)) (by rw [HG.out]; exact Nat.le_refl _) _⟩
end Go.Proofs.YtmflhidmhefljaaGreatDoor
end

section
namespace Go.Proofs.YtmflhidmhefljaaGreatDoor
open Go.RowKit Go.Shelf
set_option maxRecDepth 100000

/-- A digest of a ring. -/
def ringP (seed : List Int) (i : Int) : List Int := macP seed [i]
theorem Dig.ring (seed : List Int) (i : Int) : Dig (ringP seed i) := Dig.mac _ _
/-- At p lies a ring of k shards' keys under a seed. -/
def RingAt (w : World) (p : Nat) (seed : List Int) (k : Nat) : Prop := ∃ A c, Blk w p 64 #[.slice A k c] ∧ RdR 32 w A ((List.range k).map fun (i : Nat) => bys (ringP seed (i : Int)))
theorem RingAt.below {w w' : World} {p : Nat} {seed : List Int} {k : Nat} (h : RingAt w p seed k) (hb : Below w.heap.size w w') : RingAt w' p seed k := by
  obtain ⟨A, c, h1, h2⟩ := h
  exact ⟨A, c, h1.fr (Fr.of_below hb) (by have := h1.lt; omega), h2.below hb⟩
theorem RdR.byt {w : World} {A : Option Addr} {R : List (List Int)} (h : RdR 32 w A (R.map bys)) (hR : ∀ r ∈ R, Dig r) {j : Nat} (hj : j < R.length) : ∃ g off, A = some ⟨g, off, none⟩ ∧ g < w.heap.size ∧ Byt w (some ⟨g, off + j * 32, none⟩) R[j] := by
  obtain ⟨g, off, e, hg, hc⟩ := h j (by simpa using hj)
  refine ⟨g, off, e, hg, ⟨fun _ => ⟨g, off + j * 32, rfl, hg, fun k x hx => hc k _ ?_⟩, (hR _ (List.getElem_mem hj)).2⟩⟩
  rw [List.getElem_map, bys_get, hx]
  rfl

theorem has_any (p k : Nat) (A : Option Addr) (c : Nat) (s : Int) (w : World) (h : Blk w p 64 #[.slice A k c]) :
    Calls Tryz.prog 108 #[.pointer (some ⟨p, 0, none⟩), .int .i64 s] w fun e w' => e = .returned (.bool (decide (0 ≤ s ∧ s < k))) ∧ w = w' := by
  have k0 : w.cell? ⟨p, 0, none⟩ = some (.slice A k c) := h.cell 0
  clear h
  by_cases h0 : 0 ≤ s
  · by_cases h1 : s < (k : Int)
    · have hd : decide (0 ≤ s ∧ s < (k : Int)) = true := by simp [h0, h1]
      rw [hd]
      clear hd
      go_enter Tryz.func108, Tryz.ntmps108
      go_wp2_with fail
      go_ret
      exact ⟨rfl, rfl⟩
    · have hd : decide (0 ≤ s ∧ s < (k : Int)) = false := by simp [h1]
      rw [hd]
      clear hd
      go_enter Tryz.func108, Tryz.ntmps108
      go_wp2_with fail
      go_ret
      exact ⟨rfl, rfl⟩
  · have hd : decide (0 ≤ s ∧ s < (k : Int)) = false := by simp [h0]
    rw [hd]
    clear hd
    go_enter Tryz.func108, Tryz.ntmps108
    go_wp2_with fail
    go_ret
    exact ⟨rfl, rfl⟩

section
attribute [local go_sem ↓] ld123 st123 al123 SLs_of
set_option maxHeartbeats 4000000 in
theorem tagis_any (A1 : Option Addr) (c1 : Nat) (k : List Int) (A2 : Option Addr) (c2 : Nat) (b t : List Int) (w : World) (hk : k.length ≤ 64) (hb1 : Byt w A1 k) (hb2 : Byt w A2 b) (hc2 : A2 = none → c2 = 0) (hl : b.length ≤ 100000000) (ht : Dig t) (hgl : Glob w) :
    Calls Tryz.prog 109 #[.slice A1 k.length c1, .slice A2 b.length c2, .agg (bys t).toArray] w fun e w' => e = .returned (.bool (decide (macP k b = t))) ∧ Below w.heap.size w w' := by
  have b0 := Blk.new w 41 ((bys t).toArray)
  have B0 : Below w.heap.size w (w.alloc (.cells ((bys t).toArray) 41)) := (Below.refl _ w).alloc (Nat.le_refl _) _
  obtain ⟨W, hW⟩ : ∃ W, w.alloc (.cells ((bys t).toArray) 41) = W := ⟨_, rfl⟩
  rw [hW] at b0 B0
  obtain ⟨g, hg⟩ : ∃ g, w.heap.size = g := ⟨_, rfl⟩
  rw [hg] at b0
  have htl : (bys t).length = 32 := by rw [bys_length, ht.1]
  have hld := fun X (hX : Below W.heap.size W X) => LDs_aggB (P := Tryz.prog) uIdA iId (b0.fr (Fr.of_below hX) (by have := b0.lt; omega)) (off := 0) (bys t) htl (by simp [List.take_of_length_le, htl])
  have hmac := mac_any A1 c1 k A2 c2 b W.drew hk (hb1.below B0.drew) (hb2.below B0.drew) hc2 hl (hgl.below B0.drew)
  have hsame := fun X => same_any (macP k b) t (Dig.mac k b) ht X
  obtain ⟨R, hR⟩ : ∃ R, decide (macP k b = t) = R := ⟨_, rfl⟩
  rw [hR] at hsame ⊢
  have hsame2 := fun X => hsame X
  obtain ⟨T, hT⟩ : ∃ T, (bys t).toArray = T := ⟨_, rfl⟩
  rw [hT] at hld hsame2 hW ⊢
  obtain ⟨n, hn⟩ : ∃ n, b.length = n := ⟨_, rfl⟩
  rw [hn] at hmac ⊢
  obtain ⟨m, hm⟩ : ∃ m, k.length = m := ⟨_, rfl⟩
  rw [hm] at hmac ⊢
  have HW := Lib.hid hW
  have HG := Lib.hid hg
  have HLD := Lib.hid hld
  have HB := Lib.hid B0
  clear hW hg hld B0 hsame b0 hk hb1 hb2 hc2 hl ht hn hm hT hR htl
  go_enter Tryz.func109, Tryz.ntmps109
  go_upto_region 1 with fail
  rw [HW.out, HG.out]
  refine wp_txO [(0, 3), (1, 3), (3, 0), (2, 1), (4, 2), (5, 3)] (fun W' => (LDs 41 (.pointer (some ⟨g, 0, none⟩))).run Tryz.prog W' = .ok (.agg T) W') (by kernel_rfl) (by kernel_rfl) (by kernel_rfl) (by kernel_rfl) (HLD.out _ (Below.refl _ _).drew) ?_
  iterate 2 (with_reducible refine wpTxO_evN (o := ?_) (v := ?_) (a' := ?_) (by with_unfolding_all rfl) (by with_unfolding_all rfl) (fun W' => ?_) ?_ ?_; rotate_left 2; (focus (go_simp <;> with_reducible rfl)); focus (go_simp <;> with_reducible rfl))
  iterate 1 (with_reducible refine wpTxO_takeN (o := ?_) (v := ?_) (a' := ?_) (by with_unfolding_all rfl) (by with_unfolding_all rfl) (fun W' hS => ?_) ?_ ?_; rotate_left 2; (focus (skip; go_simp <;> with_reducible rfl)); focus (go_simp <;> with_reducible rfl))
  with_reducible refine wpTxO_want (o := ?_) (by with_unfolding_all rfl) (by with_unfolding_all rfl) (fun K hK => ?_)
  go_simp
  with_reducible refine hmac.mono ?_
  rintro e w2 ⟨rfl, hB2⟩
  have hB2W : Below W.heap.size W w2 := (Below.refl _ W).drew.trans hB2
  have hs := hsame2 w2
  have HB2 := Lib.hid hB2W
  clear hB2W hB2
  with_reducible refine hK _ _ (HLD.out _ HB2.out) ?_
  clear hK K
  with_reducible refine wpTxO_last (o := ?_) (by with_unfolding_all rfl) (by with_unfolding_all rfl) (fun K hK => ?_)
  go_simp
  with_reducible refine hs.mono ?_
  rintro e w4 ⟨rfl, hB4⟩
  have HB4 := Lib.hid hB4
  clear hB4
  with_reducible refine hK _ _ ?_
  clear hK K
  iterate 1 (with_reducible refine wpTxO_evN (o := ?_) (v := ?_) (a' := ?_) (by with_unfolding_all rfl) (by with_unfolding_all rfl) (fun W' => ?_) ?_ ?_; rotate_left 2; (focus (go_simp <;> with_reducible rfl)); focus (go_simp <;> with_reducible rfl))
  with_reducible refine wpTxO_nil ?_
  rw [noPan_normal]
  go_wp2_with fail
  go_ret
  exact ⟨rfl, HB.out.trans ((HB2.out.trans (HB4.out.mono HB2.out.size)).mono HB.out.size)⟩
theorem SLs_allO {P : Program} {t e : TypeId} {n : Nat} (hu : P.underlying t = some (.array n e)) (hs : (P.info? e).map (·.size) = some 1) (w : World) (g o : Nat) (h0 : 0 < n) :
    (SLs t (.pointer (some ⟨g, o, none⟩)) none none none).run P w = .ok (.slice (some ⟨g, o, none⟩) n n) w := by
  obtain ⟨i, hq, hi⟩ := Option.map_eq_some_iff.1 hs
  have hne : ¬ n = 0 := by omega
  simp [SLs, Instr.sliceAt, Instr.sureAddr, Instr.sliceBounds, run_underlying hu, sizeOf, typeInfo, hq, Addr.add]
set_option maxHeartbeats 4000000 in
theorem ringis_any (p k : Nat) (seed : List Int) (s : Int) (A2 : Option Addr) (c2 : Nat) (b t : List Int) (w : World) (hr : RingAt w p seed k) (_hk : k ≤ 64) (hb2 : Byt w A2 b) (hc2 : A2 = none → c2 = 0) (hl : b.length ≤ 100000000) (ht : Dig t) (hgl : Glob w) :
    Calls Tryz.prog 89 #[.pointer (some ⟨p, 0, none⟩), .int .i64 s, .slice A2 b.length c2, .agg (bys t).toArray] w fun e w' => e = .returned (.bool (decide (0 ≤ s ∧ s < k) && decide (t = signP seed s b))) ∧ Below w.heap.size w w' := by
  obtain ⟨A, c, hrb, hrd⟩ := hr
  have b0 := Blk.new w 41 ((bys t).toArray)
  have B0 : Below w.heap.size w (w.alloc (.cells ((bys t).toArray) 41)) := (Below.refl _ w).alloc (Nat.le_refl _) _
  obtain ⟨W, hW⟩ : ∃ W, w.alloc (.cells ((bys t).toArray) 41) = W := ⟨_, rfl⟩
  rw [hW] at b0 B0
  obtain ⟨g, hg⟩ : ∃ g, w.heap.size = g := ⟨_, rfl⟩
  rw [hg] at b0
  have htl : (bys t).length = 32 := by rw [bys_length, ht.1]
  have hrW := hrb.fr (Fr.of_below B0) (by have := hrb.lt; omega)
  have hh := has_any p k A c s W.drew (hrW.drew)
  by_cases hs : 0 ≤ s ∧ s < (k : Int)
  · obtain ⟨j, rfl⟩ := nat_of hs.1
    have hjk : j < k := by omega
    have hd : decide (0 ≤ (j : Int) ∧ (j : Int) < (k : Int)) = true := by simp [hs]
    rw [hd] at hh ⊢
    rw [Bool.true_and]
    clear hd hs
    have hlen : ((List.range k).map fun (i : Nat) => ringP seed (i : Int)).length = k := by simp
    have hrd' : RdR 32 w A (((List.range k).map fun (i : Nat) => ringP seed (i : Int)).map bys) := by rw [List.map_map]; exact hrd
    obtain ⟨gk, ok, rfl, hgk, hby⟩ := RdR.byt hrd' (fun r hr => by obtain ⟨i, _, rfl⟩ := List.mem_map.1 hr; exact Dig.ring _ _) (j := j) (by rw [hlen]; exact hjk)
    rw [show ((List.range k).map fun (i : Nat) => ringP seed (i : Int))[j]'(by rw [hlen]; exact hjk) = ringP seed (j : Int) by simp] at hby
    have hkl : (ringP seed (j : Int)).length = 32 := (Dig.ring _ _).1
    have hti := tagis_any (some ⟨gk, ok + j * 32, none⟩) 32 (ringP seed (j : Int)) A2 c2 b t W.drew (by omega) (hby.below B0.drew) (hb2.below B0.drew) hc2 hl ht (hgl.below B0.drew)
    rw [hkl] at hti
    have hsg : decide (macP (ringP seed (j : Int)) b = t) = decide (t = signP seed (j : Int) b) := by
      rw [decide_eq_decide]
      exact eq_comm
    rw [hsg] at hti
    have k0 : ∀ X, Below W.heap.size W X → X.cell? ⟨p, 0, none⟩ = some (.slice (some ⟨gk, ok, none⟩) k c) := fun X hX => (hrW.fr (Fr.of_below hX) (by have := hrW.lt; omega)).cell 0
    have hld := fun X (hX : Below W.heap.size W X) => LDs_aggB (P := Tryz.prog) uIdA iId (b0.fr (Fr.of_below hX) (by have := b0.lt; omega)) (off := 0) (bys t) htl (by simp [List.take_of_length_le, htl])
    have sl := fun X => SLs_allO (P := Tryz.prog) u123 i5 X gk (ok + j * 32) (by omega)
    obtain ⟨R, hR⟩ : ∃ R, decide (t = signP seed (j : Int) b) = R := ⟨_, rfl⟩
    rw [hR] at hti ⊢
    obtain ⟨T, hT⟩ : ∃ T, (bys t).toArray = T := ⟨_, rfl⟩
    rw [hT] at hld hti hW ⊢
    obtain ⟨n, hn⟩ : ∃ n, b.length = n := ⟨_, rfl⟩
    rw [hn] at hti ⊢
    have hjI : (j : Int) < (k : Int) := by omega
    have hj0 : (0 : Int) ≤ (j : Int) := by omega
    have HW := Lib.hid hW
    have HG := Lib.hid hg
    have HLD := Lib.hid hld
    have HB := Lib.hid B0
    have K0 := Lib.hid k0
    clear hW hg hld B0 k0 b0 hb2 hc2 hl ht hn hT hR htl hsg hkl hby hrd' hlen hrd hgl hgk hrb hrW
    go_enter Tryz.func89, Tryz.ntmps89
    go_upto_region 1 with fail
    rw [HW.out, HG.out]
    refine wp_txO [(0, 3), (1, 3), (2, 1), (3, 3), (4, 3), (5, 3), (6, 3), (8, 3), (11, 3), (7, 0), (9, 3), (10, 3), (12, 0), (13, 2), (14, 3), (15, 3)] (fun W' => (LDs 41 (.pointer (some ⟨g, 0, none⟩))).run Tryz.prog W' = .ok (.agg T) W' ∧ W'.cell? ⟨p, 0, none⟩ = some (.slice (some ⟨gk, ok, none⟩) k c)) (by kernel_rfl) (by kernel_rfl) (by kernel_rfl) (by kernel_rfl) ⟨HLD.out _ (Below.refl _ _).drew, K0.out _ (Below.refl _ _).drew⟩ ?_
    iterate 2 (with_reducible refine wpTxO_evN (o := ?_) (v := ?_) (a' := ?_) (by with_unfolding_all rfl) (by with_unfolding_all rfl) (fun W' => ?_) ?_ ?_; rotate_left 2; (focus (go_simp <;> with_reducible rfl)); focus (go_simp <;> with_reducible rfl))
    with_reducible refine wpTxO_want (o := ?_) (by with_unfolding_all rfl) (by with_unfolding_all rfl) (fun K hK => ?_)
    go_simp
    with_reducible refine hh.mono ?_
    rintro e w2 ⟨rfl, rfl⟩
    with_reducible refine hK _ _ (⟨HLD.out _ (Below.refl _ _).drew, K0.out _ (Below.refl _ _).drew⟩) ?_
    clear hK K
    iterate 6 (with_reducible refine wpTxO_evN (o := ?_) (v := ?_) (a' := ?_) (by with_unfolding_all rfl) (by with_unfolding_all rfl) (fun W' => ?_) ?_ ?_; rotate_left 2; (focus (go_simp <;> with_reducible rfl)); focus (go_simp <;> with_reducible rfl))
    iterate 1 (with_reducible refine wpTxO_takeN (o := ?_) (v := ?_) (a' := ?_) (by with_unfolding_all rfl) (by with_unfolding_all rfl) (fun W' hS => ?_) ?_ ?_; rotate_left 2; (focus (obtain ⟨s1, s2⟩ := hS; go_simp <;> with_reducible rfl)); focus (go_simp <;> with_reducible rfl))
    iterate 2 (with_reducible refine wpTxO_evN (o := ?_) (v := ?_) (a' := ?_) (by with_unfolding_all rfl) (by with_unfolding_all rfl) (fun W' => ?_) ?_ ?_; rotate_left 2; (focus (go_simp <;> with_reducible rfl)); focus (go_simp <;> with_reducible rfl))
    iterate 1 (with_reducible refine wpTxO_takeN (o := ?_) (v := ?_) (a' := ?_) (by with_unfolding_all rfl) (by with_unfolding_all rfl) (fun W' hS => ?_) ?_ ?_; rotate_left 2; (focus (obtain ⟨s1, s2⟩ := hS; go_simp <;> with_reducible rfl)); focus (go_simp <;> with_reducible rfl))
    with_reducible refine wpTxO_last (o := ?_) (by with_unfolding_all rfl) (by with_unfolding_all rfl) (fun K hK => ?_)
    go_simp
    with_reducible refine hti.mono ?_
    rintro e w3 ⟨rfl, hB3⟩
    have hB3W : Below W.heap.size W w3 := (Below.refl _ W).drew.trans hB3
    have HB3 := Lib.hid hB3W
    clear hB3W hB3
    with_reducible refine hK _ _ ?_
    clear hK K
    iterate 2 (with_reducible refine wpTxO_evN (o := ?_) (v := ?_) (a' := ?_) (by with_unfolding_all rfl) (by with_unfolding_all rfl) (fun W' => ?_) ?_ ?_; rotate_left 2; (focus (go_simp <;> with_reducible rfl)); focus (go_simp <;> with_reducible rfl))
    with_reducible refine wpTxO_nil ?_
    rw [noPan_normal]
    go_wp2_with fail
    go_ret
    exact ⟨rfl, HB.out.trans (HB3.out.mono HB.out.size)⟩
  · have hd : decide (0 ≤ s ∧ s < (k : Int)) = false := by simpa using hs
    rw [hd] at hh ⊢
    rw [Bool.false_and]
    obtain ⟨T, hT⟩ : ∃ T, (bys t).toArray = T := ⟨_, rfl⟩
    rw [hT] at hW ⊢
    obtain ⟨n, hn⟩ : ∃ n, b.length = n := ⟨_, rfl⟩
    rw [hn] at ⊢
    have HW := Lib.hid hW
    have HG := Lib.hid hg
    have HB := Lib.hid B0
    clear hW hg B0 b0 hb2 hc2 hl ht hn hT htl hrd hgl hrb hrW hd hs
    go_enter Tryz.func89, Tryz.ntmps89
    go_upto_region 1 with fail
    rw [HW.out, HG.out]
    refine wp_txO [(0, 3), (1, 3), (2, 2), (3, 3), (4, 3), (5, 3), (6, 3), (7, 3), (8, 3), (9, 3), (10, 3), (11, 3), (12, 3), (13, 3), (14, 3), (15, 3)] (fun _ => True) (by kernel_rfl) (by kernel_rfl) (by kernel_rfl) (by kernel_rfl) trivial ?_
    iterate 2 (with_reducible refine wpTxO_evN (o := ?_) (v := ?_) (a' := ?_) (by with_unfolding_all rfl) (by with_unfolding_all rfl) (fun W' => ?_) ?_ ?_; rotate_left 2; (focus (go_simp <;> with_reducible rfl)); focus (go_simp <;> with_reducible rfl))
    with_reducible refine wpTxO_last (o := ?_) (by with_unfolding_all rfl) (by with_unfolding_all rfl) (fun K hK => ?_)
    go_simp
    with_reducible refine hh.mono ?_
    rintro e w2 ⟨rfl, rfl⟩
    with_reducible refine hK _ _ ?_
    clear hK K
    iterate 1 (with_reducible refine wpTxO_evN (o := ?_) (v := ?_) (a' := ?_) (by with_unfolding_all rfl) (by with_unfolding_all rfl) (fun W' => ?_) ?_ ?_; rotate_left 2; (focus (go_simp <;> with_reducible rfl)); focus (go_simp <;> with_reducible rfl))
    iterate 10 (with_reducible refine wpTxO_evd (o := ?_) (a' := ?_) (by with_unfolding_all rfl) (by with_unfolding_all rfl) ?_ ?_; rotate_left; focus (go_simp <;> with_reducible rfl))
    iterate 2 (with_reducible refine wpTxO_evN (o := ?_) (v := ?_) (a' := ?_) (by with_unfolding_all rfl) (by with_unfolding_all rfl) (fun W' => ?_) ?_ ?_; rotate_left 2; (focus (go_simp <;> with_reducible rfl)); focus (go_simp <;> with_reducible rfl))
    with_reducible refine wpTxO_nil ?_
    rw [noPan_normal]
    go_wp2_with fail
    go_ret
    exact ⟨rfl, HB.out.drew⟩
end
end Go.Proofs.YtmflhidmhefljaaGreatDoor
end

section
namespace Go.Proofs.YtmflhidmhefljaaGreatDoor
open Go.RowKit Go.Shelf
set_option maxRecDepth 100000

theorem uIds : Tryz.prog.underlying 44 = some (.slice 41) := by kernel_rfl
theorem iIds : (Tryz.prog.info? 41).map (fun i => (i.zero.map (·.cells.size), i.size, i.bytes)) = some (some 32, 32, 32) := by kernel_rfl
theorem iIds2 : (Tryz.prog.info? 41).map (fun i => (i.zero.map (·.cells.size), i.size)) = some (some 32, 32) := by kernel_rfl
theorem apIds_of (xs : Array Value) (t : TypeId) : Builtin.append_ #[44, 44] t xs = APs #[44, 44] t xs := rfl
theorem bsIds_of (n : Nat) (parts : Array (Nat × Value)) : Instr.buildSlice 44 n parts = BSs 44 n parts := rfl
/-- A row of digests of one's own. -/
def OwnD (B : Nat) (w : World) (v : Value) (L : List (List Int)) : Prop := OwnR 41 32 B w v (L.map bys)
theorem OwnD.formN {B : Nat} {w : World} {v : Value} {L : List (List Int)} (h : OwnD B w v L) : ∃ A N c, v = .slice A N c ∧ N = L.length := by
  obtain ⟨A, N, c, e, hn⟩ := OwnR.formN h
  exact ⟨A, N, c, e, by simpa using hn⟩
theorem OwnD.lenN {B N c : Nat} {w : World} {A : Option Addr} {L : List (List Int)} (h : OwnD B w (.slice A N c) L) : N = L.length := by
  obtain ⟨A', N', c', e, hn⟩ := h.formN
  simp only [Value.slice.injEq] at e
  omega
theorem own8_neR {B g : Nat} {w : World} {v : Value} {L : List (List Int)} {t : TypeId} {cs : Array Value} (h : OwnD B w v L) (hb : Blk w g t cs) (ht : 41 ≠ t := by decide) : v.ownBlock ≠ some g := own_ne h.own hb ht
/-- One digest more. -/
theorem appD {ty : TypeId} {B N c : Nat} {w : World} {A : Option Addr} {L : List (List Int)} (h : OwnD B w (.slice A N c) L) {d : List Int} (hd : Dig d) (hlen : L.length + 1 ≤ 1000000) (hB : B ≤ w.heap.size) :
    ∃ A' N' c' w', (APs #[44, 44] ty #[.slice A N c, .slice (some ⟨w.heap.size, 0, none⟩) 1 1]).run Tryz.prog (w.alloc (.cells (bys d).toArray 41)) = .ok (.slice A' N' c') w' ∧ OwnD B w' (.slice A' N' c') (L ++ [d]) ∧ Below B w w' ∧
      Fr (fun k => (Value.slice A N c).ownBlock = some k) w w' := by
  obtain ⟨v', w', h1, h2, h3, _⟩ := appR_one (P := Tryz.prog) (ty := ty) uIds iIds (by omega) (by omega) h (bys d) (by rw [bys_length, hd.1]) (bys_one _) (by simp; omega) hB
  obtain ⟨A', N', c', rfl, _⟩ := OwnR.formN h2
  exact ⟨A', N', c', w', h1, by unfold OwnD; simpa using h2, OwnR.step h h3 hB, h3⟩

section
attribute [local go_sem ↓] bsIds_of apIds_of
theorem keys_bad (A : Option Addr) (N c : Nat) (n : Int) (w : World) (h : n < 1 ∨ 64 < n) :
    Calls Tryz.prog 9 #[.slice A N c, .int .i64 n] w fun e w' => e = .returned (.pointer none) ∧ w = w' := by
  rcases h with h | h
  · go_enter Tryz.func9, Tryz.ntmps9
    go_wp2_with fail
    go_ret
    exact ⟨rfl, rfl⟩
  · have h' : ¬ n < 1 := by omega
    go_enter Tryz.func9, Tryz.ntmps9
    go_wp2_with fail
    go_ret
    exact ⟨rfl, rfl⟩

set_option maxHeartbeats 4000000 in
theorem keys_any (A : Option Addr) (c : Nat) (seed : List Int) (k : Nat) (w : World) (h1 : 1 ≤ k) (h2 : k ≤ 64) (hs : seed.length ≤ 64) (hb : Byt w A seed) (hgl : Glob w) :
    Calls Tryz.prog 9 #[.slice A seed.length c, .int .i64 (k : Int)] w fun e w' => ∃ p, e = .returned (.pointer (some ⟨p, 0, none⟩)) ∧ RingAt w' p seed k ∧ w.heap.size ≤ p ∧ Below w.heap.size w w' := by
  have b0 := Blk.new w 64 (#[.slice none 0 0])
  have B0 : Below w.heap.size w (w.alloc (.cells (#[.slice none 0 0]) 64)) := (Below.refl _ w).alloc (Nat.le_refl _) _
  obtain ⟨W, hW⟩ : ∃ W, w.alloc (.cells (#[.slice none 0 0]) 64) = W := ⟨_, rfl⟩
  rw [hW] at b0 B0
  obtain ⟨g, hg⟩ : ∃ g, w.heap.size = g := ⟨_, rfl⟩
  rw [hg] at b0
  have hgs : g + 1 = W.heap.size := by rw [← hW, ← hg]; simp
  have h1I : ¬ ((k : Int) < 1) := by omega
  have h2I : ¬ ((64 : Int) < (k : Int)) := by omega
  obtain ⟨n, hn⟩ : ∃ n, seed.length = n := ⟨_, rfl⟩
  rw [hn] at hs ⊢
  have HW := Lib.hid hW
  have HG := Lib.hid hg
  have HB := Lib.hid B0
  have HBK := Lib.hid b0
  have HBY := Lib.hid hb
  have HGW := Lib.hid hgl
  have HGS := Lib.hid hgs
  have HN := Lib.hid hn
  have HS := Lib.hid hs
  clear hW hg B0 b0 hb hgl hgs hn hs
  go_enter Tryz.func9, Tryz.ntmps9
  go_upto_region 5 with fail
  rw [HW.out, HG.out]
  go_loopg [6, 16] k (fun kk _ t wr => ∃ (i : Nat) (Ak : Option Addr) (ck : Nat), i + kk = k ∧ t = .int .i64 (i : Int) ∧ Blk wr g 64 #[.slice Ak i ck] ∧ OwnD W.heap.size wr (.slice Ak i ck) ((List.range i).map fun (j : Nat) => ringP seed (j : Int)) ∧ Below w.heap.size w wr)
  case atStart => exact ⟨0, none, 0, by omega, rfl, HBK.out, OwnR.nil _ _ _ _, HB.out⟩
  case round =>
    obtain ⟨i, Ak, ck, hi, rfl, hbk, ho, hBr⟩ := hrel
    by_cases hlt : i < k
    · have hltI : (i : Int) < (k : Int) := by omega
      have hcv : IntKind.u8.wrap (i : Int) = (i : Int) := by rw [IntKind.wrap_u8]; omega
      have hm := fun X (hX : Below w.heap.size w X) => mac_any A c seed (some ⟨X.heap.size, 0, none⟩) 1 [(i : Int)] (X.alloc (.cells (bys [(i : Int)]).toArray 5)) (by rw [HN.out]; exact HS.out) ((HBY.out.below hX).below ((Below.refl _ X).alloc (Nat.le_refl _) _)) ((Blk.new X _ _).byt (by simp; omega)) (by simp) (by simp) ((HGW.out.below hX).below ((Below.refl _ X).alloc (Nat.le_refl _) _))
      rw [HN.out] at hm
      have hD : Dig (ringP seed (i : Int)) := Dig.ring _ _
      rw [show macP seed [(i : Int)] = ringP seed (i : Int) from rfl] at hm
      obtain ⟨D, hDD⟩ : ∃ D, ringP seed (i : Int) = D := ⟨_, rfl⟩
      rw [hDD] at hm hD
      have hm1 := hm wr.drew hBr.drew
      rw [show (bys [(i : Int)]).toArray = #[.int .u8 (i : Int)] from rfl, show ∀ o, wr.drew.alloc o = (wr.alloc o).drew from fun _ => rfl, show wr.drew.heap.size = wr.heap.size from rfl, show ([(i : Int)]).length = 1 from rfl] at hm1
      have bs := fun X => BSs_one (P := Tryz.prog) uIds iIds2 (by omega) (by omega) X (.agg (bys D).toArray) (by simp [Value.cells, bys_length, hD.1])
      have k0 : ∀ X, Below wr.heap.size wr X → X.cell? ⟨g, 0, none⟩ = some (.slice Ak i ck) := fun X hX => (hbk.fr (Fr.of_below hX) (by have := hbk.lt; omega)).cell 0
      have K0 := Lib.hid k0
      have BK := Lib.hid hbk
      have HO := Lib.hid ho
      have BR := Lib.hid hBr
      have HD := Lib.hid hD
      have HDD := Lib.hid hDD
      clear k0 hbk ho hBr hD hDD hm
      go_upto_region 7 with fail
      refine wp_txO [(0, 3), (1, 3), (2, 3), (3, 3), (5, 3), (6, 3), (7, 3), (4, 0), (8, 1), (9, 1), (10, 1), (11, 2), (12, 3), (13, 3), (14, 2)] (fun W' => W'.cell? ⟨g, 0, none⟩ = some (.slice Ak i ck)) (by kernel_rfl) (by kernel_rfl) (by kernel_rfl) (by kernel_rfl) (K0.out _ (Below.refl _ _).drew) ?_
      iterate 7 (with_reducible refine wpTxO_evN (o := ?_) (v := ?_) (a' := ?_) (by with_unfolding_all rfl) (by with_unfolding_all rfl) (fun W' => ?_) ?_ ?_; rotate_left 2; (focus (go_simp <;> with_reducible rfl)); focus (go_simp <;> with_reducible rfl))
      iterate 1 (with_reducible refine wpTxO_takeN (o := ?_) (v := ?_) (a' := ?_) (by with_unfolding_all rfl) (by with_unfolding_all rfl) (fun W' hS => ?_) ?_ ?_; rotate_left 2; (focus (skip; go_simp <;> with_reducible rfl)); focus (go_simp <;> with_reducible rfl))
      with_reducible refine wpTxO_want (o := ?_) (by with_unfolding_all rfl) (by with_unfolding_all rfl) (fun K hK => ?_)
      try simp only [List.getElem_toArray, List.getElem_cons_succ, List.getElem_cons_zero]
      go_simp
      with_reducible refine hK _ _ (K0.out _ ((Below.refl _ _).alloc (Nat.le_refl _) _).drew) ?_
      clear hK K
      with_reducible refine wpTxO_want (o := ?_) (by with_unfolding_all rfl) (by with_unfolding_all rfl) (fun K hK => ?_)
      try simp only [List.getElem_toArray, List.getElem_cons_succ, List.getElem_cons_zero]
      go_simp
      with_reducible refine hm1.mono ?_
      rintro e w9 ⟨rfl, hB9⟩
      have hB9W : Below wr.heap.size wr w9 := ((Below.refl _ wr).alloc (Nat.le_refl _) _).drew.trans (hB9.mono (by simp))
      have ho9 : OwnD W.heap.size w9 (.slice Ak i ck) _ := OwnR.keep HO.out hB9W
      obtain ⟨A', N', c', w11, hap, ho11, hB11, hF11⟩ := appD (ty := 44) ho9 HD.out (by simp; omega) (Nat.le_trans (by have := BK.out.lt; have := HGS.out; omega) hB9W.size)
      have hbk9 := BK.out.fr (Fr.of_below hB9W) (by have := BK.out.lt; omega)
      have hbk11 := hbk9.fr hF11 (fun e => own8_neR ho9 hbk9 (by decide) e)
      obtain rfl : N' = i + 1 := by have := ho11.lenN; simpa using this
      have k2 := hbk11.cell 0
      have f2 := hbk11.frozen 0
      have hB11W := (BR.out.trans (hB9W.mono BR.out.size)).trans (hB11.mono HB.out.size)
      have HO11 := Lib.hid ho11
      have HB9 := Lib.hid hB9W
      have HBK11 := Lib.hid hbk11
      have HB11 := Lib.hid hB11W
      clear ho11 hB9W hbk11 hB11W hB9 ho9 hB11 hF11 hbk9 hm1
      with_reducible refine hK _ _ (K0.out _ HB9.out) ?_
      clear hK K
      with_reducible refine wpTxO_want (o := ?_) (by with_unfolding_all rfl) (by with_unfolding_all rfl) (fun K hK => ?_)
      try simp only [List.getElem_toArray, List.getElem_cons_succ, List.getElem_cons_zero]
      go_simp
      with_reducible refine hK _ _ (K0.out _ (HB9.out.alloc HB9.out.size _)) ?_
      clear hK K
      with_reducible refine wpTxO_last (o := ?_) (by with_unfolding_all rfl) (by with_unfolding_all rfl) (fun K hK => ?_)
      try simp only [List.getElem_toArray, List.getElem_cons_succ, List.getElem_cons_zero]
      go_simp
      with_reducible refine hK _ _ ?_
      clear hK K
      iterate 2 (with_reducible refine wpTxO_evN (o := ?_) (v := ?_) (a' := ?_) (by with_unfolding_all rfl) (by with_unfolding_all rfl) (fun W' => ?_) ?_ ?_; rotate_left 2; (focus (go_simp <;> with_reducible rfl)); focus (go_simp <;> with_reducible rfl))
      with_reducible refine wpTxO_last (o := ?_) (by with_unfolding_all rfl) (by with_unfolding_all rfl) (fun K hK => ?_)
      try simp only [List.getElem_toArray, List.getElem_cons_succ, List.getElem_cons_zero]
      go_simp
      with_reducible refine hK _ _ ?_
      clear hK K
      with_reducible refine wpTxO_nil ?_
      rw [noPan_normal]
      go_wp2_with fail
      go_roundg (k - (i + 1))
      case measure => omega
      case rel =>
        have hne : ∀ j, (Value.slice A' (i + 1) c').ownBlock = some j → ¬ j = g := fun j hj e => own8_neR HO11.out HBK11.out (by decide) (e ▸ hj)
        refine ⟨i + 1, A', c', by omega, by go_num, by simpa using HBK11.out.set_ 0 (.slice A' (i + 1) c'), ?_, ?_⟩
        · have h := OwnR.fr HO11.out (F := fun j => j = g) ((Fr.refl (fun j => j = g) w11).setCell (p := ⟨g, 0, none⟩) (fun _ => rfl) (.slice A' (i + 1) c')) hne
          unfold OwnD
          rw [List.range_succ, List.map_append, List.map_singleton, HDD.out]
          exact h
        · exact Fr.below ((Fr.of_below HB11.out).setCell (p := ⟨g, 0, none⟩) (fun h => by have e := HG.out; have h' : g < w.heap.size := h; omega) _) (Nat.le_refl _) (fun k hk e => by omega)
    · obtain rfl : i = k := by omega
      have hltI : ¬ (i : Int) < (i : Int) := by omega
      obtain ⟨A', c', e, hrd, _⟩ := OwnR.rd ho
      simp only [Value.slice.injEq] at e
      obtain ⟨rfl, -, rfl⟩ := e
      rw [List.map_map] at hrd
      have RD := Lib.hid hrd
      have BK := Lib.hid hbk
      have BR := Lib.hid hBr
      clear hrd hbk hBr ho
      go_wp2_with fail
      go_ret
      exact ⟨g, rfl, ⟨_, _, BK.out, RD.out⟩, by rw [HG.out]; exact Nat.le_refl _, BR.out⟩
end
end Go.Proofs.YtmflhidmhefljaaGreatDoor
end
