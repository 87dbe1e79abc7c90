/-
  The document's Leaves and Next (the first of a shard).
  The document's certificates: Made.
-/
import Derived.Test.YtmflhidmhefljaaGreatDoorJCertA
import Derived.Test.YtmflhidmhefljaaGreatDoorJRCertB
import Derived.Test.YtmflhidmhefljaaGreatDoorJRTreeA
import Derived.Test.YtmflhidmhefljaaGreatDoorJCertD
import Derived.Test.YtmflhidmhefljaaGreatDoorJOwnR
import Derived.Test.YtmflhidmhefljaaGreatDoorJTxtO

section
namespace Go.Proofs.YtmflhidmhefljaaGreatDoor
open Go.RowKit Go.Shelf
set_option maxRecDepth 100000

section
attribute [local go_sem ↓] ldEnt_of
set_option maxHeartbeats 4000000 in
theorem leaves_any (A : Option Addr) (c : Nat) (hc : A = none → c = 0) (cmd : List Int) (e : EntD) (he : e.Bd) (hr : rightE e = true) (iss : Nat) (hi : iss ≤ 4611686018427387904) (w : World) (hb : Byt w A cmd) :
    Calls Tryz.prog 33 #[.slice A cmd.length c, .agg (entV e).toArray, .int .u64 (iss : Int)] w fun x w' => ∃ g, x = .returned (.slice (some ⟨g, 0, none⟩) 3 3) ∧ LfAt w' g 0 cmd ∧ LfAt w' g 1 (entF e) ∧ LfAt w' g 2 (numP iss) ∧ Below w.heap.size w w' := by
  have b0 := Blk.new w 43 ((entV e).toArray)
  have B0 : Below w.heap.size w (w.alloc (.cells ((entV e).toArray) 43)) := (Below.refl _ w).alloc (Nat.le_refl _) _
  obtain ⟨W, hW⟩ : ∃ W, w.alloc (.cells ((entV e).toArray) 43) = W := ⟨_, rfl⟩
  rw [hW] at b0 B0
  obtain ⟨g0, hg0⟩ : ∃ g0, w.heap.size = g0 := ⟨_, rfl⟩
  rw [hg0] at b0
  have hld := fun X (hX : Below W.heap.size W X) => LDs_all (P := Tryz.prog) uEnt iEnt (entV e) (b0.fr (Fr.of_below hX) (by have := b0.lt; omega)) (entV_len he)
  have hld0 := hld W (Below.refl _ _)
  have hright := rentright_any e he W
  rw [hr] at hright
  have hput := fun X => rentput_any e he hr X
  have hnum := fun X => rnum_any iss (by omega) X
  have hI : ¬ ((4611686018427387904 : Int) < (iss : Int)) := by omega
  have hebd := entF_bd he
  have hnbd := numP_bd (n := iss) (by omega)
  obtain ⟨xs, hxs⟩ : ∃ x, (entV e).toArray = x := ⟨_, rfl⟩
  rw [hxs] at hW hld0 hright ⊢
  simp only [hxs] at hld hput
  obtain ⟨n, hn⟩ : ∃ x, cmd.length = x := ⟨_, rfl⟩
  rw [hn]
  have HW := Lib.hid hW
  have HG := Lib.hid hg0
  have HB := Lib.hid B0
  have HLD := Lib.hid hld
  have HPUT := Lib.hid hput
  have HNUM := Lib.hid hnum
  have HEB := Lib.hid hebd
  have HNB := Lib.hid hnbd
  have HN := Lib.hid hn
  have HBY := Lib.hid hb
  have HC := Lib.hid hc
  clear hW hg0 B0 hld hput hnum hebd hnbd hn hb hc hxs b0 hi
  go_enter Tryz.func33, Tryz.ntmps33
  go_upto_region 1 with fail
  rw [HW.out, HG.out]
  go_wp2_with fail
  with_reducible refine hright.mono ?_
  rintro e1 w1 ⟨rfl, hB1⟩
  have hld1 := HLD.out w1 hB1
  have hp1 := HPUT.out w1
  have HB1 := Lib.hid hB1
  clear hB1 hright hld0
  go_wp2_with fail
  with_reducible refine hp1.mono ?_
  rintro e1 w2 ⟨v2, rfl, hv2, hB2⟩
  have hB2W := HB1.out.trans (hB2.mono HB1.out.size)
  obtain ⟨A2, c2, rfl, hby2, _, _⟩ := Own8.byt hv2 HEB.out
  have hn2 : A2 = none → c2 = 0 := fun e => by subst e; exact Own8.nulI hv2
  have hm2 := HNUM.out w2
  obtain ⟨n2, hnn2⟩ : ∃ n, (entF e).length = n := ⟨_, rfl⟩
  rw [hnn2]
  have HB2 := Lib.hid hB2W
  have HBY2 := Lib.hid hby2
  have HN2 := Lib.hid hn2
  have HNN2 := Lib.hid hnn2
  clear hB2W hby2 hn2 hnn2 hB2 hv2 hp1 hld1
  go_wp2_with fail
  with_reducible refine hm2.mono ?_
  rintro e1 w3 ⟨v3, rfl, hv3, hB3⟩
  have hB3W := HB2.out.trans (hB3.mono HB2.out.size)
  obtain ⟨A3, c3, rfl, hby3, _, _⟩ := Own8.byt hv3 HNB.out
  have hn3 : A3 = none → c3 = 0 := fun e => by subst e; exact Own8.nulI hv3
  have hby2' := HBY2.out.below hB3
  obtain ⟨n3, hnn3⟩ : ∃ n, (numP iss).length = n := ⟨_, rfl⟩
  rw [hnn3]
  have HB3 := Lib.hid hB3W
  have HBY3 := Lib.hid hby3
  have HN3 := Lib.hid hn3
  have HNN3 := Lib.hid hnn3
  have HBY2b := Lib.hid hby2'
  clear hB3W hby3 hn3 hnn3 hby2' hB3 hv3 hm2
  go_wp2_with fail
  go_ret
  have BX : Below w3.heap.size w3 (w3.alloc (.cells #[.slice A n c, .slice A2 n2 c2, .slice A3 n3 c3] 22)) := (Below.refl _ _).alloc (Nat.le_refl _) _
  have hbk := Blk.new w3 22 #[.slice A n c, .slice A2 n2 c2, .slice A3 n3 c3]
  refine ⟨w3.heap.size, rfl, ⟨hbk.lt, A, c, by rw [HN.out]; exact hbk.cell 0, (HBY.out.below (HB.out.trans (HB3.out.mono HB.out.size))).below BX, HC.out⟩, ⟨hbk.lt, A2, c2, by rw [HNN2.out]; exact hbk.cell 1, HBY2b.out.below BX, HN2.out⟩, ⟨hbk.lt, A3, c3, by rw [HNN3.out]; exact hbk.cell 2, HBY3.out.below BX, HN3.out⟩, (HB.out.trans (HB3.out.mono HB.out.size)).alloc (HB.out.trans (HB3.out.mono HB.out.size)).size _⟩
end

theorem plHead : placesOf Tryz.prog 46 = some [(0, 1), (1, 1), (2, 1), (3, 32), (35, 32)] := by kernel_rfl
theorem zlHead : (((Tryz.prog.info? 46).bind (·.zero)).map (·.cells.toList)) = some (headV zeroH) := by kernel_rfl
/-- A header put together, the digest ahead left out. -/
theorem bdHead (sh ht ep : Int) (D : List Int) (hD : D.length = 32) (w : World) : (BDs 46 #[(0, .int .i64 sh), (1, .int .i64 ht), (2, .int .i64 ep), (4, .agg (bys D).toArray)]).run Tryz.prog w = .ok (.agg (headV ⟨sh, ht, ep, List.replicate 32 0, D⟩).toArray) w := by
  refine BDs_list plHead zlHead _ _ ?_ w
  rw [fillL_cons (off := 0) (size := 1) rfl rfl (by rw [headV_len zeroH_bd]; omega)]
  have e1 : (headV zeroH).take 0 ++ (Value.int .i64 sh).cells.toList ++ (headV zeroH).drop (0 + 1) = headV ⟨sh, 0, 0, List.replicate 32 0, List.replicate 32 0⟩ := rfl
  rw [e1, fillL_cons (off := 1) (size := 1) rfl rfl (by simp [headV, bys])]
  have e2 : (headV ⟨sh, 0, 0, List.replicate 32 0, List.replicate 32 0⟩).take 1 ++ (Value.int .i64 ht).cells.toList ++ (headV ⟨sh, 0, 0, List.replicate 32 0, List.replicate 32 0⟩).drop (1 + 1) = headV ⟨sh, ht, 0, List.replicate 32 0, List.replicate 32 0⟩ := rfl
  rw [e2, fillL_cons (off := 2) (size := 1) rfl rfl (by simp [headV, bys])]
  have e3 : (headV ⟨sh, ht, 0, List.replicate 32 0, List.replicate 32 0⟩).take 2 ++ (Value.int .i64 ep).cells.toList ++ (headV ⟨sh, ht, 0, List.replicate 32 0, List.replicate 32 0⟩).drop (2 + 1) = headV ⟨sh, ht, ep, List.replicate 32 0, List.replicate 32 0⟩ := rfl
  rw [e3, fillL_cons (off := 35) (size := 32) rfl (by simp [Value.cells, bys_length, hD]) (by simp [headV, bys]), fillL_nil]
  have e4 : (headV ⟨sh, ht, ep, List.replicate 32 0, List.replicate 32 0⟩).take 35 ++ (Value.agg (bys D).toArray).cells.toList ++ (headV ⟨sh, ht, ep, List.replicate 32 0, List.replicate 32 0⟩).drop (35 + 32) = headV ⟨sh, ht, ep, List.replicate 32 0, D⟩ := by
    unfold headV
    simp [Value.cells, bys]
  rw [e4]

theorem ldHead_ofL (v : Value) : Instr.loadAt 46 v = LDs 46 v := rfl
theorem stHead_of (v x : Value) : Instr.storeAt 46 v x = STs 46 v x := rfl
theorem alHead_of : Instr.alloc 46 true (.tuple #[]) = ALs 46 := rfl

section
attribute [local go_sem ↓] ldHead_of stHead_of alHead_of bdHead_of
set_option maxHeartbeats 4000000 in
theorem next_any (g : Nat) (b1 b2 b3 : List Int) (sh ep : Int) (hd : HeadD) (hhd : hd = ⟨sh, 1, ep, List.replicate 32 0, nodeP (nodeP (leafP b1) (leafP b2)) (leafP b3)⟩) (hbd : hd.Bd) (hr : rightH hd = true) (w : World) (h1 : LfAt w g 0 b1) (h2 : LfAt w g 1 b2) (h3 : LfAt w g 2 b3)
    (l1 : b1.length ≤ 10000000) (l2 : b2.length ≤ 10000000) (l3 : b3.length ≤ 10000000) :
    Calls Tryz.prog 34 #[.agg (headV zeroH).toArray, .bool true, .slice (some ⟨g, 0, none⟩) 3 3, .int .i64 sh, .int .i64 ep] w fun x w' => x = .returned (.tuple #[.agg (headV hd).toArray, .bool true]) ∧ Below w.heap.size w w' := by
  obtain ⟨Z, hal, hst0, hz⟩ := alstZ (P := Tryz.prog) (t := 46) iHead zHead
  have b0 := Blk.new w 46 ((headV zeroH).toArray)
  have B0 : Below w.heap.size w (w.alloc (.cells ((headV zeroH).toArray) 46)) := (Below.refl _ w).alloc (Nat.le_refl _) _
  obtain ⟨W, hW⟩ : ∃ W, w.alloc (.cells ((headV zeroH).toArray) 46) = W := ⟨_, rfl⟩
  rw [hW] at b0 B0
  obtain ⟨g0, hg0⟩ : ∃ g0, w.heap.size = g0 := ⟨_, rfl⟩
  rw [hg0] at b0
  have b1' := Blk.new W 46 Z
  have B1 : Below w.heap.size w (W.alloc (.cells Z 46)) := B0.alloc B0.size _
  obtain ⟨V, hV⟩ : ∃ X, W.alloc (.cells Z 46) = X := ⟨_, rfl⟩
  rw [hV] at b1' B1
  have hWsz : W.heap.size = g0+1 := by first | exact hg | (rw [← hW]; simp [hg]) | (rw [← hW]; simp; omega)
  rw [hWsz] at b1'
  have hroot := root_3 g 0 3 (by omega) b1 b2 b3 V (h1.below B1) (h2.below B1) (h3.below B1) l1 l2 l3
  have hD : Dig (nodeP (nodeP (leafP b1) (leafP b2)) (leafP b3)) := Dig.node _ _
  obtain ⟨D, hDD⟩ : ∃ D, nodeP (nodeP (leafP b1) (leafP b2)) (leafP b3) = D := ⟨_, rfl⟩
  rw [hDD] at hroot hD hhd
  have hbh := fun X => bdHead sh 1 ep D hD.1 X
  rw [← hhd] at hbh
  have hhl := headV_len hbd
  have hst := fun X => hst0 X (headV hd) hhl (headV_one _)
  have hright := fun X => rheadright_any hd hbd X
  simp only [hr] at hright
  obtain ⟨xs, hxs⟩ : ∃ x, (headV zeroH).toArray = x := ⟨_, rfl⟩
  rw [hxs] at hW ⊢
  obtain ⟨ys, hys⟩ : ∃ y, headV hd = y := ⟨_, rfl⟩
  have hy1 : ∀ v ∈ headV hd, v.oneCell' = true := headV_one _
  simp only [hys] at hbh hst hright
  rw [hys] at hhl hy1 ⊢
  have HW := Lib.hid hW
  have HV := Lib.hid hV
  have HG := Lib.hid hg0
  have HB := Lib.hid B1
  have HBK := Lib.hid b1'
  have HHL := Lib.hid hhl
  have HY1 := Lib.hid hy1
  have HR := Lib.hid hright
  clear hW hV hg0 B1 b1' hhl hy1 hright hDD hxs hys b0 B0 hWsz hhd hbd hr hst0 h1 h2 h3 l1 l2 l3 hD
  go_enter Tryz.func34, Tryz.ntmps34
  go_upto_region 1 with fail
  rw [HW.out, HV.out, HG.out]
  go_wp2_with fail
  with_reducible refine hroot.mono ?_
  rintro e w1 ⟨rfl, hB1⟩
  have q1 := Blk.new w1 46 ys.toArray
  have q2 := hB1.alloc hB1.size (.cells ys.toArray 46)
  have q3 := (HBK.out.fr (Fr.of_below hB1) (by have := HBK.out.lt; omega)).alloc (.cells ys.toArray 46)
  have hst1 := hst w1
  obtain ⟨X, hX⟩ : ∃ X, w1.alloc (.cells ys.toArray 46) = X := ⟨_, rfl⟩
  rw [hX] at q1 q2 q3 hst1
  have hld1 := LDs_all (P := Tryz.prog) uHead iHead ys q1 HHL.out
  have hr1 := HR.out X
  have Q1 := Lib.hid q1
  have Q2 := Lib.hid q2
  have Q3 := Lib.hid q3
  clear q1 q2 q3 hB1 hX hroot hst
  go_wp2_with fail
  with_reducible refine hr1.mono ?_
  rintro e w2 ⟨rfl, hB2⟩
  have hld2 := LDs_all (P := Tryz.prog) uHead iHead ys (Q1.out.fr (Fr.of_below hB2) (by have := Q1.out.lt; omega)) HHL.out
  have q4 := Q3.out.fr (Fr.of_below hB2) (by have := Q3.out.lt; omega)
  have hst2 := STs_all (P := Tryz.prog) iHead q4 hz ys HHL.out HY1.out
  have q5 := q4.row_ ys.toArray
  have q6 := Below.setRow (g := g0 + 1) (HB.out.trans ((Q2.out.trans (hB2.mono Q2.out.size)).mono HB.out.size)) (by have := HG.out; omega) ys.toArray
  have Q5 := Lib.hid q5
  have Q6 := Lib.hid q6
  clear q5 q6 hB2 q4 hr1 hld1
  go_wp2_with fail
  exact bodyPost_ret (results_cv rfl _ _ (g0 + 1) 46 ys Q5.out uHead (by rw [HHL.out]; exact iHead) rfl (.bool true)) rfl ⟨rfl, Q6.out⟩
end
end Go.Proofs.YtmflhidmhefljaaGreatDoor
end

section
namespace Go.Proofs.YtmflhidmhefljaaGreatDoor
open Go.RowKit Go.Shelf
set_option maxRecDepth 100000

theorem RdR.fr {m : Nat} {w w' : World} {A : Option Addr} {R : List (List Value)} {F : Nat → Prop} (h : RdR m w A R) (hf : Fr F w w') (hn : ∀ a, A = some a → ¬ F a.block) : RdR m w' A R := fun j hj => by
  obtain ⟨g, off, e, hg, hc⟩ := h j hj
  exact ⟨g, off, e, Nat.lt_of_lt_of_le hg hf.size, fun k x hx => (hf.cell (p := ⟨g, off + j * m + k, none⟩) hg (hn ⟨g, off, none⟩ e)).trans (hc k x hx)⟩
theorem plCert : placesOf Tryz.prog 48 = some [(0, 37), (37, 1), (38, 67), (105, 32)] := by kernel_rfl
def zeroC : CertD := ⟨zeroE, [], zeroH, List.replicate 32 0⟩
theorem zeroC_bd : zeroC.Bd := ⟨zeroE_bd, by simp [zeroC], zeroH_bd, Dig.zero⟩
theorem zlCert : (((Tryz.prog.info? 48).bind (·.zero)).map (·.cells.toList)) = some (certV zeroC none 0) := by kernel_rfl
/-- A certificate put together. -/
theorem bdCert (c : CertD) (hc : c.Bd) (A : Option Addr) (N cap : Nat) (hN : N = c.path.length) (w : World) : (BDs 48 #[(0, .agg (entV c.e).toArray), (1, .slice A N cap), (2, .agg (headV c.h).toArray), (3, .agg (bys c.tag).toArray)]).run Tryz.prog w = .ok (.agg (certV c A cap).toArray) w := by
  subst hN
  have z0 := certV_len zeroC_bd none 0
  have l0 := entV_len hc.e
  have l1 := headV_len hc.h
  have l2 : (bys c.tag).length = 32 := by rw [bys_length, hc.tag.1]
  refine BDs_list plCert zlCert _ _ ?_ w
  rw [fillL_cons (off := 0) (size := 37) rfl (by simp [Value.cells, l0]) (by omega)]
  have e1 : (certV zeroC none 0).take 0 ++ (Value.agg (entV c.e).toArray).cells.toList ++ (certV zeroC none 0).drop (0 + 37) = certV ⟨c.e, [], zeroH, List.replicate 32 0⟩ none 0 := by
    rw [certV_eq, certV_eq, List.drop_append, List.drop_of_length_le (by rw [entV_len zeroC_bd.e]; omega), entV_len zeroC_bd.e]
    simp [Value.cells, zeroC]
  rw [e1]
  have b1 : (⟨c.e, [], zeroH, List.replicate 32 0⟩ : CertD).Bd := ⟨hc.e, by simp, zeroH_bd, Dig.zero⟩
  rw [fillL_cons (off := 37) (size := 1) rfl rfl (by rw [certV_len b1]; omega)]
  have e2 : (certV ⟨c.e, [], zeroH, List.replicate 32 0⟩ none 0).take 37 ++ (Value.slice A c.path.length cap).cells.toList ++ (certV ⟨c.e, [], zeroH, List.replicate 32 0⟩ none 0).drop (37 + 1) = certV ⟨c.e, c.path, zeroH, List.replicate 32 0⟩ A cap := by
    rw [certV_eq, certV_eq, List.take_append_of_le_length (by simp only; omega), List.take_of_length_le (by simp only; omega), List.drop_append, List.drop_of_length_le (by simp only; omega), l0]
    simp [Value.cells]
  rw [e2]
  have b2 : (⟨c.e, c.path, zeroH, List.replicate 32 0⟩ : CertD).Bd := ⟨hc.e, hc.path, zeroH_bd, Dig.zero⟩
  rw [fillL_cons (off := 38) (size := 67) rfl (by simp [Value.cells, l1]) (by rw [certV_len b2]; omega)]
  have e3 : (certV ⟨c.e, c.path, zeroH, List.replicate 32 0⟩ A cap).take 38 ++ (Value.agg (headV c.h).toArray).cells.toList ++ (certV ⟨c.e, c.path, zeroH, List.replicate 32 0⟩ A cap).drop (38 + 67) = certV ⟨c.e, c.path, c.h, List.replicate 32 0⟩ A cap := by
    rw [certV_drop b2, certV_eq, certV_eq]
    simp only
    rw [show entV c.e ++ Value.slice A c.path.length cap :: (headV zeroH ++ bys (List.replicate 32 0)) = (entV c.e ++ [Value.slice A c.path.length cap]) ++ (headV zeroH ++ bys (List.replicate 32 0)) by simp,
      List.take_append_of_le_length (by simp; omega), List.take_of_length_le (by simp; omega), List.drop_append, List.drop_of_length_le (by rw [headV_len zeroH_bd]; omega), headV_len zeroH_bd]
    simp [Value.cells]
  rw [e3]
  have b3 : (⟨c.e, c.path, c.h, List.replicate 32 0⟩ : CertD).Bd := ⟨hc.e, hc.path, hc.h, Dig.zero⟩
  rw [fillL_cons (off := 105) (size := 32) rfl (by simp [Value.cells, l2]) (by rw [certV_len b3]; omega), fillL_nil]
  have e4 : (certV ⟨c.e, c.path, c.h, List.replicate 32 0⟩ A cap).take 105 ++ (Value.agg (bys c.tag).toArray).cells.toList ++ (certV ⟨c.e, c.path, c.h, List.replicate 32 0⟩ A cap).drop (105 + 32) = certV c A cap := by
    rw [List.drop_of_length_le (by rw [certV_len b3]; omega), List.append_nil, certV_eq, certV_eq]
    simp only
    rw [show entV c.e ++ Value.slice A c.path.length cap :: (headV c.h ++ bys (List.replicate 32 0)) = (entV c.e ++ Value.slice A c.path.length cap :: headV c.h) ++ bys (List.replicate 32 0) by simp,
      List.take_append_of_le_length (by simp; omega), List.take_of_length_le (by simp; omega)]
    simp [Value.cells]
  rw [e4]
theorem bdCert_of (parts : Array (Nat × Value)) : Instr.build 48 parts = BDs 48 parts := rfl

attribute [local go_sem ↓] ldEnt_of ldHead_of stHead_of alHead_of bdHead_of ldCert_of stCert_of alCert_of bdCert_of
theorem madeP_yes {seed cmd : List Int} {e : EntD} {iss : Nat} (hr : rightE e = true) (hi : iss ≤ 4611686018427387904) : madeP seed cmd e iss = (⟨e, [leafP cmd, leafP (numP iss)], madeH cmd e iss, signP seed e.sh (headF (madeH cmd e iss))⟩, true) := by
  unfold madeP
  rw [if_pos ⟨hr, hi⟩]
theorem madeH_bd {cmd : List Int} {e : EntD} {iss : Nat} (he : e.Bd) : (madeH cmd e iss).Bd := ⟨he.sh, by simp [madeH, InI], he.ep, Dig.zero, Dig.node _ _⟩
theorem madeH_right {cmd : List Int} {e : EntD} {iss : Nat} (hr : rightE e = true) : rightH (madeH cmd e iss) = true := by
  have h := (rightE_iff e).1 hr
  exact (rightH_iff _).2 ⟨h.2.1, ⟨by unfold madeH; simp, by unfold madeH; simp⟩, h.2.2.2.2⟩
theorem made_bd {seed cmd : List Int} {e : EntD} {iss : Nat} (he : e.Bd) (hr : rightE e = true) (hi : iss ≤ 4611686018427387904) : (madeP seed cmd e iss).1.Bd := by
  rw [madeP_yes hr hi]
  exact ⟨he, by simp only [List.mem_cons, List.not_mem_nil, or_false]; rintro d (rfl | rfl) <;> exact Dig.leaf _, madeH_bd he, Dig.mac _ _⟩

set_option maxHeartbeats 8000000 in
theorem made_any (As : Option Addr) (cs : Nat) (seed : List Int) (hsl : seed.length ≤ 64) (A : Option Addr) (c : Nat) (hc : A = none → c = 0) (cmd : List Int) (e : EntD) (he : e.Bd) (hr : rightE e = true) (iss : Nat) (hi : iss ≤ 4611686018427387904) (w : World) (hs : Byt w As seed) (hb : Byt w A cmd) (hcl : cmd.length ≤ 10000000) :
    Calls Tryz.prog 18 #[.slice As seed.length cs, .slice A cmd.length c, .agg (entV e).toArray, .int .u64 (iss : Int)] w fun x w' => ∃ B cap, x = .returned (.tuple #[.agg (certV (madeP seed cmd e iss).1 B cap).toArray, .bool true]) ∧
      RdR 32 w' B ((madeP seed cmd e iss).1.path.map bys) ∧ (madeP seed cmd e iss).1.path.length ≤ cap ∧ (B = none → cap = 0) ∧ Below w.heap.size w w' := by
  obtain ⟨Zc, halc, _, hzc⟩ := alstZ (P := Tryz.prog) (t := 48) iCert zCert
  obtain ⟨Zh, halh, hsth0, hzh⟩ := alstZ (P := Tryz.prog) (t := 46) iHead zHead
  have b0 := Blk.new w 43 ((entV e).toArray)
  have B0 : Below w.heap.size w (w.alloc (.cells ((entV e).toArray) 43)) := (Below.refl _ w).alloc (Nat.le_refl _) _
  obtain ⟨W, hW⟩ : ∃ W, w.alloc (.cells ((entV e).toArray) 43) = W := ⟨_, rfl⟩
  rw [hW] at b0 B0
  obtain ⟨g0, hg0⟩ : ∃ g0, w.heap.size = g0 := ⟨_, rfl⟩
  rw [hg0] at b0
  have b1 := Blk.new W 48 Zc
  have B1 : Below w.heap.size w (W.alloc (.cells Zc 48)) := B0.alloc B0.size _
  obtain ⟨V, hV⟩ : ∃ X, W.alloc (.cells Zc 48) = X := ⟨_, rfl⟩
  rw [hV] at b1 B1
  have hWsz : W.heap.size = g0+1 := by first | exact hg | (rw [← hW]; simp [hg]) | (rw [← hW]; simp; omega)
  rw [hWsz] at b1
  have b01 := b0.alloc (.cells Zc 48)
  rw [hV] at b01
  have hldE := fun X (hX : Below V.heap.size V X) => LDs_all (P := Tryz.prog) uEnt iEnt (entV e) (b01.fr (Fr.of_below hX) (by have := b01.lt; omega)) (entV_len he)
  have hldE0 := hldE V (Below.refl _ _)
  have hcE : ∀ X, Below V.heap.size V X → X.cell? ⟨g0, 1, none⟩ = some (.int .i64 e.sh) ∧ X.cell? ⟨g0, 36, none⟩ = some (.int .i64 e.ep) := fun X hX => by
    have hb := b01.fr (Fr.of_below hX) (by have := b01.lt; omega)
    exact ⟨(hb.cell 1).trans rfl, (hb.cell 36).trans (entV_c3 he).2.2⟩
  have hlv := leaves_any A c hc cmd e he hr iss hi V (hb.below B1)
  have hmh := madeH_bd (cmd := cmd) (iss := iss) he
  have hmr := madeH_right (cmd := cmd) (iss := iss) hr
  have hfl := entF_len he
  have hnl := numP_le (n := iss) (by omega)
  have hnx := fun X g (h1 : LfAt X g 0 cmd) (h2 : LfAt X g 1 (entF e)) (h3 : LfAt X g 2 (numP iss)) => next_any g cmd (entF e) (numP iss) e.sh e.ep (madeH cmd e iss) rfl hmh hmr X h1 h2 h3 hcl (by omega) (by omega)
  have hpath := fun X g (h1 : LfAt X g 0 cmd) (h3 : LfAt X g 2 (numP iss)) => path_3 g 0 3 (by omega) cmd (numP iss) X h1 h3 hcl (by omega)
  have hput := fun X => rheadput_any (madeH cmd e iss) hmh hmr X
  have hshr := ((rightE_iff e).1 hr).2.1
  obtain ⟨sn, hsn⟩ := nat_of hshr.1
  have hfb := headF_bd hmh
  have hfl2 := headF_len hmh
  have hsgn := fun X A2 c2 (hn : A2 = none → c2 = 0) (hX : Below V.heap.size V X) (hby : Byt X A2 (headF (madeH cmd e iss))) => rsign_any As cs seed sn (by omega) A2 c2 (headF (madeH cmd e iss)) X hsl ((hs.below B1).below hX) hby hn (by omega)
  rw [madeP_yes hr hi]
  have hmd : (⟨e, [leafP cmd, leafP (numP iss)], madeH cmd e iss, signP seed e.sh (headF (madeH cmd e iss))⟩ : CertD).Bd := by
    have := made_bd (seed := seed) (cmd := cmd) he hr hi
    rw [madeP_yes hr hi] at this
    exact this
  simp only [← hsn] at hsgn
  obtain ⟨hd, hhd⟩ : ∃ h, madeH cmd e iss = h := ⟨_, rfl⟩
  rw [hhd] at hmd hmh hmr hfb hfl2 ⊢
  simp only [hhd] at hnx hput hsgn
  obtain ⟨T, hT⟩ : ∃ T, signP seed e.sh (headF hd) = T := ⟨_, rfl⟩
  rw [hT] at hmd ⊢
  simp only [hT] at hsgn
  obtain ⟨mc, hmc⟩ : ∃ c : CertD, (⟨e, [leafP cmd, leafP (numP iss)], hd, T⟩ : CertD) = c := ⟨_, rfl⟩
  rw [hmc] at hmd ⊢
  have hbc := fun B cap X => bdCert mc hmd B 2 cap (by rw [← hmc]; rfl) X
  have hce : mc.e = e := by rw [← hmc]
  have hch : mc.h = hd := by rw [← hmc]
  have hct : mc.tag = T := by rw [← hmc]
  have hcp : mc.path = [leafP cmd, leafP (numP iss)] := by rw [← hmc]
  rw [hce, hch, hct] at hbc
  have hcl2 := fun B cap => certV_len hmd B cap
  have hhl := headV_len hmh
  have hTl : (bys T).length = 32 := by rw [bys_length, ← hct, hmd.tag.1]
  have hhsh : (headV hd)[0]? = some (.int .i64 e.sh) := by rw [← hhd]; rfl
  have hzh0 := fun X => bdHead0 X
  have hsth := fun X => hsth0 X (headV hd) hhl (headV_one _)
  simp only
  rw [hcp]
  have hp0 : Blk V (g0 + 1) 48 Zc := b1
  obtain ⟨ev, hev⟩ : ∃ x, (entV e).toArray = x := ⟨_, rfl⟩
  rw [hev] at hW hldE0 hlv ⊢
  simp only [hev] at hldE hbc
  obtain ⟨hv, hhv⟩ : ∃ x, headV hd = x := ⟨_, rfl⟩
  rw [hhv] at hhl hhsh
  simp only [hhv] at hnx hput hbc hsth
  obtain ⟨zh, hzhh⟩ : ∃ x, (headV zeroH).toArray = x := ⟨_, rfl⟩
  simp only [hzhh] at hzh0 hnx
  obtain ⟨nc, hnc⟩ : ∃ x, cmd.length = x := ⟨_, rfl⟩
  obtain ⟨ns, hns⟩ : ∃ x, seed.length = x := ⟨_, rfl⟩
  rw [hnc] at hlv ⊢
  simp only [hns] at hsgn
  rw [hns]
  obtain ⟨sh, hsh⟩ : ∃ x, e.sh = x := ⟨_, rfl⟩
  obtain ⟨ep, hep⟩ : ∃ x, e.ep = x := ⟨_, rfl⟩
  simp only [hsh, hep] at hcE hnx
  simp only [hsh] at hsgn
  rw [hsh] at hhsh
  have hcE0 := fun X hX => (hcE X hX).1
  have hcE1 := fun X hX => (hcE X hX).2
  have HW := Lib.hid hW
  have HV := Lib.hid hV
  have HG := Lib.hid hg0
  have HB := Lib.hid B1
  have HBK := Lib.hid hp0
  have HLE := Lib.hid hldE
  have HC0 := Lib.hid hcE0
  have HC1 := Lib.hid hcE1
  have HNX := Lib.hid hnx
  have HPATH := Lib.hid hpath
  have HPUT := Lib.hid hput
  have HSGN := Lib.hid hsgn
  have HBC := Lib.hid hbc
  have HCL2 := Lib.hid hcl2
  have HHL := Lib.hid hhl
  have HHS := Lib.hid hhsh
  have HFB := Lib.hid hfb
  have HCP := Lib.hid hcp
  have HFL := Lib.hid hfl2
  clear hW hV hg0 B1 hp0 hldE hcE0 hcE1 hnx hpath hput hsgn hbc hcl2 hhl hhsh hfb hcp hfl2 hev hhv hzhh hnc hns hsh hep hcE b0 B0 b01 b1 hWsz hhd hT hce hch hct hmh hmr hfl hnl hs hb hcl hsn hshr hmc hTl hsth0
  go_enter Tryz.func18, Tryz.ntmps18
  go_upto_region 1 with fail
  rw [HW.out, HV.out, HG.out]
  go_wp2_with fail
  with_reducible refine hlv.mono ?_
  rintro e1 w1 ⟨g, rfl, l1, l2, l3, hB1⟩
  have hn1 := HNX.out w1 g l1 l2 l3
  have k0 := HC0.out w1 hB1
  have k1 := HC1.out w1 hB1
  have L1 := Lib.hid l1
  have L3 := Lib.hid l3
  have HB1 := Lib.hid hB1
  clear l1 l3 hB1 l2 hlv hldE0
  go_wp2_with fail
  with_reducible refine hn1.mono ?_
  rintro e1 w2 ⟨rfl, hB2⟩
  have hB2V := HB1.out.trans (hB2.mono HB1.out.size)
  have q1 := Blk.new w2 46 hv.toArray
  have q2 := hB2V.alloc hB2V.size (.cells hv.toArray 46)
  have bx : Below w2.heap.size w2 (w2.alloc (.cells hv.toArray 46)) := (Below.refl _ _).alloc (Nat.le_refl _) _
  have L1' := (L1.out.below hB2).below bx
  have L3' := (L3.out.below hB2).below bx
  have hst2 := hsth w2
  obtain ⟨Y, hY⟩ : ∃ X, w2.alloc (.cells hv.toArray 46) = X := ⟨_, rfl⟩
  rw [hY] at q1 q2 hst2 L1' L3'
  obtain ⟨h, hh⟩ : ∃ h, w2.heap.size = h := ⟨_, rfl⟩
  rw [hh] at q1
  have F1 := fun X (hX : Below Y.heap.size Y X) => HLE.out X (q2.trans (hX.mono q2.size))
  have F2 := fun X (hX : Below Y.heap.size Y X) => LDs_all (P := Tryz.prog) uHead iHead hv (q1.fr (Fr.of_below hX) (by have := q1.lt; omega)) HHL.out
  have F3 := fun X (hX : Below Y.heap.size Y X) => ((q1.fr (Fr.of_below hX) (by have := q1.lt; omega)).cell 0).trans (show hv.toArray[0]? = some (.int .i64 sh) by simpa using HHS.out)
  obtain ⟨S0, hS0⟩ : ∃ S0 : World → Prop, (fun X => (LDs 43 (.pointer (some ⟨g0, 0, none⟩))).run Tryz.prog X = .ok (.agg ev) X ∧ (LDs 46 (.pointer (some ⟨h, 0, none⟩))).run Tryz.prog X = .ok (.agg hv.toArray) X ∧ X.cell? ⟨h, 0, none⟩ = some (.int .i64 sh)) = S0 := ⟨_, rfl⟩
  have hSS : ∀ X, Below Y.heap.size Y X → S0 X := fun X hX => by rw [← hS0]; exact ⟨F1 X hX, F2 X hX, F3 X hX⟩
  have hp := HPATH.out Y.drew g (L1'.below (Below.refl _ _).drew) (L3'.below (Below.refl _ _).drew)
  have HH := Lib.hid hh
  have HYB := Lib.hid q2
  have HS0 := Lib.hid hS0
  have HSS := Lib.hid hSS
  clear hh q2 hS0 hSS hB2 hB2V q1 bx L1' L3' hY F1 F2 F3 hn1 k0 k1 hsth
  go_upto_region 5 with fail
  rw [HH.out]
  refine wp_txO [(1, 3), (4, 3), (5, 3), (0, 0), (3, 0), (6, 0), (7, 0), (2, 1), (8, 1), (9, 1), (10, 3), (11, 2), (12, 3)] S0 (by kernel_rfl) (by kernel_rfl) (by kernel_rfl) (by kernel_rfl) (HSS.out _ (Below.refl _ _).drew) ?_
  iterate 3 (with_reducible refine wpTxO_evN (o := ?_) (v := ?_) (a' := ?_) (by with_unfolding_all rfl) (by with_unfolding_all rfl) (fun W' => ?_) ?_ ?_; rotate_left 2; (focus (go_simp <;> with_reducible rfl)); focus (go_simp <;> with_reducible rfl))
  iterate 4 (with_reducible refine wpTxO_takeN (o := ?_) (v := ?_) (a' := ?_) (by with_unfolding_all rfl) (by with_unfolding_all rfl) (fun W' hS => ?_) ?_ ?_; rotate_left 2; (focus (rw [← HS0.out] at hS; obtain ⟨t1, t2, t3⟩ := hS; go_simp <;> with_reducible rfl)); focus (go_simp <;> with_reducible rfl))
  with_reducible refine wpTxO_want (o := ?_) (by with_unfolding_all rfl) (by with_unfolding_all rfl) (fun K hK => ?_)
  try simp only [List.getElem_toArray, List.getElem_cons_succ, List.getElem_cons_zero]
  go_simp
  with_reducible refine hp.mono ?_
  rintro e1 w3 ⟨v3, rfl, ho3, hB3⟩
  have hB3Y : Below Y.heap.size Y w3 := (Below.refl _ Y).drew.trans hB3
  obtain ⟨A3, c3, rfl, hrd3, hc3, hn3, hbs3⟩ := OwnR.rd ho3
  rw [show ([leafP cmd, leafP (numP iss)].map bys).length = 2 from rfl] at hc3 ⊢
  have hpu := HPUT.out w3
  have RD3 := Lib.hid hrd3
  have HB3 := Lib.hid hB3Y
  have HC3 := Lib.hid hc3
  have HN3 := Lib.hid hn3
  have HBS3 := Lib.hid hbs3
  clear hrd3 hB3Y hc3 hn3 hbs3 ho3 hB3 hp
  with_reducible refine hK _ _ (HSS.out _ HB3.out) ?_
  clear hK K
  with_reducible refine wpTxO_want (o := ?_) (by with_unfolding_all rfl) (by with_unfolding_all rfl) (fun K hK => ?_)
  try simp only [List.getElem_toArray, List.getElem_cons_succ, List.getElem_cons_zero]
  go_simp
  with_reducible refine hpu.mono ?_
  rintro e1 w8 ⟨v8, rfl, hv8, hB8⟩
  have hB8Y := HB3.out.trans (hB8.mono HB3.out.size)
  obtain ⟨A8, c8, rfl, hby8, _, _⟩ := Own8.byt hv8 HFB.out
  have hn8 : A8 = none → c8 = 0 := fun e => by subst e; exact Own8.nulI hv8
  have hsg := HSGN.out w8 A8 c8 hn8 (HYB.out.trans (hB8Y.mono HYB.out.size)) hby8
  obtain ⟨n8, hnn8⟩ : ∃ n, (headF hd).length = n := ⟨_, rfl⟩
  rw [hnn8] at hsg ⊢
  have rd8 := RD3.out.below hB8
  have HB8 := Lib.hid hB8Y
  have RD8 := Lib.hid rd8
  clear hB8Y rd8 hB8 hv8 hby8 hn8 hnn8 hpu
  with_reducible refine hK _ _ (HSS.out _ HB8.out) ?_
  clear hK K
  with_reducible refine wpTxO_want (o := ?_) (by with_unfolding_all rfl) (by with_unfolding_all rfl) (fun K hK => ?_)
  try simp only [List.getElem_toArray, List.getElem_cons_succ, List.getElem_cons_zero]
  go_simp
  with_reducible refine hsg.mono ?_
  rintro e1 w9 ⟨rfl, hB9⟩
  have hB9Y := HB8.out.trans (hB9.mono HB8.out.size)
  have rd9 := RD8.out.below hB9
  have hbc := HBC.out A3 c3
  have hb9V := HYB.out.trans (hB9Y.mono HYB.out.size)
  have q4 := HBK.out.fr (Fr.of_below hb9V) (by have := HBK.out.lt; omega)
  have hst := STs_all (P := Tryz.prog) iCert q4 hzc (certV mc A3 c3) (HCL2.out A3 c3) (certV_one _ _ _)
  have q5 := q4.row_ (certV mc A3 c3).toArray
  have q6 := Below.setRow (g := g0 + 1) (HB.out.trans (hb9V.mono HB.out.size)) (by have := HG.out; omega) (certV mc A3 c3).toArray
  have HB9 := Lib.hid hB9Y
  have RD9 := Lib.hid rd9
  have Q5 := Lib.hid q5
  have Q6 := Lib.hid q6
  have Q4 := Lib.hid q4
  clear hB9Y rd9 q5 q6 q4 hB9 hb9V hsg
  with_reducible refine hK _ _ (HSS.out _ HB9.out) ?_
  clear hK K
  iterate 1 (with_reducible refine wpTxO_evN (o := ?_) (v := ?_) (a' := ?_) (by with_unfolding_all rfl) (by with_unfolding_all rfl) (fun W' => ?_) ?_ ?_; rotate_left 2; (focus (go_simp <;> with_reducible rfl)); focus (go_simp <;> with_reducible rfl))
  with_reducible refine wpTxO_last (o := ?_) (by with_unfolding_all rfl) (by with_unfolding_all rfl) (fun K hK => ?_)
  try simp only [List.getElem_toArray, List.getElem_cons_succ, List.getElem_cons_zero]
  go_simp
  with_reducible refine hK _ _ ?_
  clear hK K
  iterate 1 (with_reducible refine wpTxO_evN (o := ?_) (v := ?_) (a' := ?_) (by with_unfolding_all rfl) (by with_unfolding_all rfl) (fun W' => ?_) ?_ ?_; rotate_left 2; (focus (go_simp <;> with_reducible rfl)); focus (go_simp <;> with_reducible rfl))
  with_reducible refine wpTxO_nil ?_
  rw [noPan_normal]
  go_wp2_with fail
  refine bodyPost_ret (results_cv rfl _ _ (g0 + 1) 48 (certV mc A3 c3) Q5.out uCert (by rw [HCL2.out]; exact iCert) rfl (.bool true)) rfl ⟨A3, c3, rfl, ?_, HC3.out, HN3.out, Q6.out⟩
  refine RD9.out.fr (F := fun k => k = g0 + 1) ((Fr.refl (fun k => k = g0 + 1) w9).setRow (g := g0 + 1) (fun _ => rfl) _) (fun a ha e => ?_)
  have h1 := (HBS3.out a ha).1
  have h2 := HYB.out.size
  have h3 := HBK.out.lt
  have h4 : Y.heap.size ≤ a.block := h1
  omega
end Go.Proofs.YtmflhidmhefljaaGreatDoor
end
