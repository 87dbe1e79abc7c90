/-
  The forms of entries and headers: entry.Put, header.Put.
-/
import Derived.Test.YtmflhidmhefljaaGreatDoorJCertA
import Derived.Test.YtmflhidmhefljaaGreatDoorJTxG

namespace Go.Proofs.YtmflhidmhefljaaGreatDoor
open Go.RowKit Go.Shelf
set_option maxRecDepth 100000
attribute [local go_sem ↓] ldEnt_of ldHead_of bdEnt_of bdHead_of eqEnt_of neHead_of ldId_of
theorem entV_tx {e : EntD} (h : e.Bd) : ((entV e).toArray.toList.drop 2).take 32 = bys e.tx := by
  have hl : (bys e.tx).length = 32 := by rw [bys_length, h.tx.1]
  unfold entV
  simp only [List.cons_append, List.nil_append, List.drop_succ_cons, List.drop_zero]
  rw [List.take_append_of_le_length (by omega), List.take_of_length_le (by omega)]

set_option maxHeartbeats 8000000 in
theorem entput_any (e : EntD) (he : e.Bd) (w : World) :
    Calls Tryz.prog 86 #[.agg (entV e).toArray] w fun x w' => ∃ v, x = .returned (.tuple #[v, .bool (rightE e)]) ∧ Own8 w.heap.size w' v (if rightE e = true then entF e else []) ∧ Below w.heap.size w w' := by
  have b0 := Blk.new w 43 (entV e).toArray
  have B0 : Below w.heap.size w (w.alloc (.cells (entV e).toArray 43)) := (Below.refl _ w).alloc (Nat.le_refl _) _
  obtain ⟨W, hW⟩ : ∃ W, w.alloc (.cells (entV e).toArray 43) = W := ⟨_, rfl⟩
  obtain ⟨g, hg⟩ : ∃ g, w.heap.size = g := ⟨_, rfl⟩
  rw [hW] at B0
  rw [hW, hg] at b0
  have hbox : ∀ X, Below W.heap.size W X → Blk X g 43 (entV e).toArray := fun X hX => b0.fr (Fr.of_below hX) (fun h => by have := b0.lt; omega)
  have hld := LDs_aggB (P := Tryz.prog) uEnt iEnt b0 (off := 0) (entV e) (entV_len he) (by simp [List.take_of_length_le, entV_len he])
  have hri := entright_any e he W
  have HW := Lib.hid hW
  have HG := Lib.hid hg
  have HB0 := Lib.hid B0
  have hgW : g < W.heap.size := b0.lt
  by_cases hr : rightE e = true
  · obtain ⟨⟨r1, r2⟩, ⟨r3, r4⟩, r5, ⟨r6, r7⟩, r8, r9⟩ := (rightE_iff e).1 hr
    have ham := he.am.1
    rw [if_pos hr]
    rw [hr] at hri ⊢
    have hv3 := entV_c3 he
    have hvt := entV_tx he
    have hdig := he.tx
    have hl := entV_len he
    obtain ⟨ka, sa, tx, am, wy, ep⟩ := e
    simp only at r1 r2 r3 r4 r5 r6 r7 r8 r9 ham hv3 hvt hdig
    obtain ⟨nk, rfl⟩ := nat_of (show 0 ≤ ka by omega)
    obtain ⟨ns, rfl⟩ := nat_of r3
    obtain ⟨na, rfl⟩ := nat_of ham
    obtain ⟨nw, rfl⟩ := nat_of r6
    obtain ⟨ne, rfl⟩ := nat_of r8
    have wk : IntKind.u64.wrap (nk : Int) = nk := by rw [IntKind.wrap_u64]; omega
    have ws : IntKind.u64.wrap (ns : Int) = ns := by rw [IntKind.wrap_u64]; omega
    have ww : IntKind.u64.wrap (nw : Int) = nw := by rw [IntKind.wrap_u64]; omega
    have we : IntKind.u64.wrap (ne : Int) = ne := by rw [IntKind.wrap_u64]; omega
    have m1 := numP_le (n := nk) (by omega)
    have m2 := numP_le (n := ns) (by omega)
    have m3 := numP_le (n := na) (by omega)
    have m4 := numP_le (n := nw) (by omega)
    have m5 := numP_le (n := ne) (by omega)
    have m6 := hdig.1
    have hbx : ∀ X, Below W.heap.size W X → (X.cell? ⟨g, 0, none⟩ = some (.int .i64 (nk : Int)) ∧ X.cell? ⟨g, 1, none⟩ = some (.int .i64 (ns : Int)) ∧ (LDs 41 (.pointer (some ⟨g, 2, none⟩))).run Tryz.prog X = .ok (.agg (bys tx).toArray) X ∧
        X.cell? ⟨g, 34, none⟩ = some (.int .u64 (na : Int)) ∧ X.cell? ⟨g, 35, none⟩ = some (.int .i64 (nw : Int)) ∧ X.cell? ⟨g, 36, none⟩ = some (.int .i64 (ne : Int))) := fun X hX => by
      have hb := hbox X hX
      exact ⟨hb.cell 0, hb.cell 1, LDs_aggB uIdA iId hb (off := 2) (bys tx) (by rw [bys_length, hdig.1]) hvt, (hb.cell 34).trans hv3.1, (hb.cell 35).trans hv3.2.1, (hb.cell 36).trans hv3.2.2⟩
    have HBOX := Lib.hid hbx
    clear hbx
    obtain ⟨y, hy⟩ : ∃ y, (entV ⟨(nk : Int), (ns : Int), tx, (na : Int), (nw : Int), (ne : Int)⟩).toArray = y := ⟨_, rfl⟩
    rw [hy] at HW hld hri ⊢
    have hform : entF ⟨(nk : Int), (ns : Int), tx, (na : Int), (nw : Int), (ne : Int)⟩ = [] ++ numP nk ++ numP ns ++ tx ++ numP na ++ numP nw ++ numP ne := by simp [entF]
    rw [hform]
    have hfb : ∀ x ∈ [] ++ numP nk ++ numP ns ++ tx ++ numP na ++ numP nw ++ numP ne, 0 ≤ x ∧ x ≤ 255 := by
      intro x hx
      simp only [List.mem_append, List.not_mem_nil, false_or] at hx
      rcases hx with ((((h | h) | h) | h) | h) | h
      · exact numP_bd (by omega) x h
      · exact numP_bd (by omega) x h
      · exact hdig.2 x h
      · exact numP_bd (by omega) x h
      · exact numP_bd (by omega) x h
      · exact numP_bd (by omega) x h
    have HFB := Lib.hid hfb
    clear hW hg B0 b0 hbox he hr hv3 hvt hy hl hform hfb r1 r3 r6 r8 ham
    go_enter Tryz.func86, Tryz.ntmps86
    go_upto_region 1 with fail
    rw [HW.out, HG.out]
    go_wp2_with fail
    with_reducible refine hri.mono ?_
    rintro e w1 ⟨rfl, hB1⟩
    have hp0 : IsPen w1.heap.size (w1.alloc (.cells #[.slice none 0 0] 134)) w1.heap.size (.slice none 0 0) [] := ⟨Blk.new w1 _ _, Nat.le_refl _, Own8.nil _ _⟩
    have hB2 : Below w1.heap.size w1 (w1.alloc (.cells #[.slice none 0 0] 134)) := (Below.refl _ w1).alloc (Nat.le_refl _) _
    obtain ⟨w2, hw2⟩ : ∃ w2, w1.alloc (.cells #[.slice none 0 0] 134) = w2 := ⟨_, rfl⟩
    obtain ⟨p, hp⟩ : ∃ p, w1.heap.size = p := ⟨_, rfl⟩
    rw [hw2] at hp0 hB2
    rw [hp] at hp0 hB2
    have hpw0 : p ≤ w2.heap.size := by rw [← hp]; exact hB2.size
    have hWp : W.heap.size ≤ p := by rw [← hp]; exact hB1.size
    have hw2B : Below W.heap.size W w2 := hB1.trans (hB2.mono hWp)
    have HW2 := Lib.hid hw2
    have HP := Lib.hid hp
    have HB2 := Lib.hid hw2B
    have HWP := Lib.hid hWp
    obtain ⟨v0, hv0⟩ : ∃ v0, Value.slice none 0 0 = v0 := ⟨_, rfl⟩
    obtain ⟨l0, hl0⟩ : ∃ l0 : List Int, [] = l0 := ⟨_, rfl⟩
    rw [hv0, hl0] at hp0
    have HP0 := Lib.hid hp0
    have HL0 := Lib.hid hl0.symm
    clear hw2 hp hp0 hB1 hB2 hw2B hWp hri hld hv0 hl0
    go_upto_region 4 with fail
    rw [HW2.out, HP.out]
    have hk0 := HBOX.out w2 HB2.out
    obtain ⟨q0, q1, q2, q34, q35, q36⟩ := hk0
    have c0 := num_any p p v0 l0 nk (by omega) w2 HP0.out (by rw [HL0.out]; simp only [List.length_nil]; omega) hpw0
    go_wp2_with fail
    with_reducible refine c0.mono ?_
    rintro e w3 ⟨rfl, ⟨v1, hp, hft⟩, hf⟩
    have hB := pen_below HP0.out hf hpw0
    have hpw1 : p ≤ w3.heap.size := Nat.le_trans hpw0 hB.size
    have HB3 := Lib.hid (HB2.out.trans (hB.mono HWP.out))
    obtain ⟨l1, hl⟩ : ∃ l, l0 ++ numP nk = l := ⟨_, rfl⟩
    rw [hl] at hp
    have HP1 := Lib.hid hp
    have HL1 := Lib.hid (show l1 = [] ++ numP nk from by rw [← hl, HL0.out])
    clear hp hft hf hB hl c0 q0 q1 q2 q34 q35 q36
    have hk1 := HBOX.out w3 HB3.out
    obtain ⟨q0, q1, q2, q34, q35, q36⟩ := hk1
    have c1 := num_any p p v1 l1 ns (by omega) w3 HP1.out (by rw [HL1.out]; simp only [List.length_append, List.length_nil]; omega) hpw1
    go_wp2_with fail
    with_reducible refine c1.mono ?_
    rintro e w4 ⟨rfl, ⟨v2, hp, hft⟩, hf⟩
    have hB := pen_below HP1.out hf hpw1
    have hpw2 : p ≤ w4.heap.size := Nat.le_trans hpw1 hB.size
    have HB4 := Lib.hid (HB3.out.trans (hB.mono HWP.out))
    obtain ⟨l2, hl⟩ : ∃ l, l1 ++ numP ns = l := ⟨_, rfl⟩
    rw [hl] at hp
    have HP2 := Lib.hid hp
    have HL2 := Lib.hid (show l2 = [] ++ numP nk ++ numP ns from by rw [← hl, HL1.out])
    clear hp hft hf hB hl c1 q0 q1 q2 q34 q35 q36
    have hk2 := HBOX.out w4 HB4.out
    obtain ⟨q0, q1, q2, q34, q35, q36⟩ := hk2
    have c2 := penid_any p p v2 l2 tx hdig.1 hdig.2 w4 HP2.out (by rw [HL2.out]; simp only [List.length_append, List.length_nil]; omega) hpw2
    go_wp2_with fail
    with_reducible refine c2.mono ?_
    rintro e w5 ⟨rfl, ⟨v3, hp, hft⟩, hf⟩
    have hB := pen_below HP2.out hf hpw2
    have hpw3 : p ≤ w5.heap.size := Nat.le_trans hpw2 hB.size
    have HB5 := Lib.hid (HB4.out.trans (hB.mono HWP.out))
    obtain ⟨l3, hl⟩ : ∃ l, l2 ++ tx = l := ⟨_, rfl⟩
    rw [hl] at hp
    have HP3 := Lib.hid hp
    have HL3 := Lib.hid (show l3 = [] ++ numP nk ++ numP ns ++ tx from by rw [← hl, HL2.out])
    clear hp hft hf hB hl c2 q0 q1 q2 q34 q35 q36
    have hk3 := HBOX.out w5 HB5.out
    obtain ⟨q0, q1, q2, q34, q35, q36⟩ := hk3
    have c3 := num_any p p v3 l3 na (by omega) w5 HP3.out (by rw [HL3.out]; simp only [List.length_append, List.length_nil]; omega) hpw3
    go_wp2_with fail
    with_reducible refine c3.mono ?_
    rintro e w6 ⟨rfl, ⟨v4, hp, hft⟩, hf⟩
    have hB := pen_below HP3.out hf hpw3
    have hpw4 : p ≤ w6.heap.size := Nat.le_trans hpw3 hB.size
    have HB6 := Lib.hid (HB5.out.trans (hB.mono HWP.out))
    obtain ⟨l4, hl⟩ : ∃ l, l3 ++ numP na = l := ⟨_, rfl⟩
    rw [hl] at hp
    have HP4 := Lib.hid hp
    have HL4 := Lib.hid (show l4 = [] ++ numP nk ++ numP ns ++ tx ++ numP na from by rw [← hl, HL3.out])
    clear hp hft hf hB hl c3 q0 q1 q2 q34 q35 q36
    have hk4 := HBOX.out w6 HB6.out
    obtain ⟨q0, q1, q2, q34, q35, q36⟩ := hk4
    have c4 := num_any p p v4 l4 nw (by omega) w6 HP4.out (by rw [HL4.out]; simp only [List.length_append, List.length_nil]; omega) hpw4
    go_wp2_with fail
    with_reducible refine c4.mono ?_
    rintro e w7 ⟨rfl, ⟨v5, hp, hft⟩, hf⟩
    have hB := pen_below HP4.out hf hpw4
    have hpw5 : p ≤ w7.heap.size := Nat.le_trans hpw4 hB.size
    have HB7 := Lib.hid (HB6.out.trans (hB.mono HWP.out))
    obtain ⟨l5, hl⟩ : ∃ l, l4 ++ numP nw = l := ⟨_, rfl⟩
    rw [hl] at hp
    have HP5 := Lib.hid hp
    have HL5 := Lib.hid (show l5 = [] ++ numP nk ++ numP ns ++ tx ++ numP na ++ numP nw from by rw [← hl, HL4.out])
    clear hp hft hf hB hl c4 q0 q1 q2 q34 q35 q36
    have hk5 := HBOX.out w7 HB7.out
    obtain ⟨q0, q1, q2, q34, q35, q36⟩ := hk5
    have c5 := num_any p p v5 l5 ne (by omega) w7 HP5.out (by rw [HL5.out]; simp only [List.length_append, List.length_nil]; omega) hpw5
    go_wp2_with fail
    with_reducible refine c5.mono ?_
    rintro e w8 ⟨rfl, ⟨v6, hp, hft⟩, hf⟩
    have hB := pen_below HP5.out hf hpw5
    have hpw6 : p ≤ w8.heap.size := Nat.le_trans hpw5 hB.size
    have HB8 := Lib.hid (HB7.out.trans (hB.mono HWP.out))
    obtain ⟨l6, hl⟩ : ∃ l, l5 ++ numP ne = l := ⟨_, rfl⟩
    rw [hl] at hp
    have HP6 := Lib.hid hp
    have HL6 := Lib.hid (show l6 = [] ++ numP nk ++ numP ns ++ tx ++ numP na ++ numP nw ++ numP ne from by rw [← hl, HL5.out])
    clear hp hft hf hB hl c5 q0 q1 q2 q34 q35 q36
    have c6 := pbytes_any p p v6 l6 (by rw [HL6.out]; exact HFB.out) w8 HP6.out (by rw [HL6.out]; simp only [List.length_append, List.length_nil]; omega)
    go_wp2_with fail
    with_reducible refine c6.mono ?_
    rintro e w9 ⟨v7, rfl, ho, hB9⟩
    have HO := Lib.hid ho
    have HB9 := Lib.hid (HB8.out.trans (hB9.mono HB8.out.size))
    clear c6 ho hB9
    go_wp2_with fail
    go_ret2
    refine ⟨v7, rfl, ?_, HB0.out.trans (HB9.out.mono HB0.out.size)⟩
    have e6 := HL6.out
    rw [List.nil_append] at e6
    rw [← e6]
    exact HO.out.base (Nat.le_trans HB0.out.size HB8.out.size)
  · rw [if_neg hr]
    have hrf : rightE e = false := by simpa using hr
    rw [hrf] at hri ⊢
    obtain ⟨y, hy⟩ : ∃ y, (entV e).toArray = y := ⟨_, rfl⟩
    rw [hy] at HW hld hri ⊢
    clear hW hg B0 b0 hbox he hr hrf hy
    go_enter Tryz.func86, Tryz.ntmps86
    go_upto_region 1 with fail
    rw [HW.out, HG.out]
    go_wp2_with fail
    with_reducible refine hri.mono ?_
    rintro e w1 ⟨rfl, hB1⟩
    have HB1 := Lib.hid hB1
    clear hB1 hri hld
    go_wp2_with fail
    go_ret2
    exact ⟨_, rfl, Own8.nil _ _, HB0.out.trans (HB1.out.mono HB0.out.size)⟩

theorem headV_prev {h : HeadD} (hb : h.Bd) : ((headV h).toArray.toList.drop 3).take 32 = bys h.prev := by
  have hl : (bys h.prev).length = 32 := by rw [bys_length, hb.prev.1]
  unfold headV
  simp only [List.cons_append, List.nil_append, List.drop_succ_cons, List.drop_zero]
  rw [List.take_append_of_le_length (by omega), List.take_of_length_le (by omega)]
theorem headV_root {h : HeadD} (hb : h.Bd) : ((headV h).toArray.toList.drop 35).take 32 = bys h.root := by
  have hl : (bys h.prev).length = 32 := by rw [bys_length, hb.prev.1]
  have hl2 : (bys h.root).length = 32 := by rw [bys_length, hb.root.1]
  unfold headV
  simp only [List.cons_append, List.nil_append, List.drop_succ_cons]
  rw [List.drop_append_of_le_length (by omega), List.drop_of_length_le (by omega), List.nil_append, List.take_of_length_le (by omega)]

set_option maxHeartbeats 8000000 in
theorem headput_any (h : HeadD) (hb : h.Bd) (w : World) :
    Calls Tryz.prog 87 #[.agg (headV h).toArray] w fun x w' => ∃ v, x = .returned (.tuple #[v, .bool (rightH h)]) ∧ Own8 w.heap.size w' v (if rightH h = true then headF h else []) ∧ Below w.heap.size w w' := by
  have b0 := Blk.new w 46 (headV h).toArray
  have B0 : Below w.heap.size w (w.alloc (.cells (headV h).toArray 46)) := (Below.refl _ w).alloc (Nat.le_refl _) _
  obtain ⟨W, hW⟩ : ∃ W, w.alloc (.cells (headV h).toArray 46) = W := ⟨_, rfl⟩
  obtain ⟨g, hg⟩ : ∃ g, w.heap.size = g := ⟨_, rfl⟩
  rw [hW] at B0
  rw [hW, hg] at b0
  have hbox : ∀ X, Below W.heap.size W X → Blk X g 46 (headV h).toArray := fun X hX => b0.fr (Fr.of_below hX) (fun h => by have := b0.lt; omega)
  have hld := LDs_aggB (P := Tryz.prog) uHead iHead b0 (off := 0) (headV h) (headV_len hb) (by simp [List.take_of_length_le, headV_len hb])
  have hri := headright_any h hb W
  have HW := Lib.hid hW
  have HG := Lib.hid hg
  have HB0 := Lib.hid B0
  have hgW : g < W.heap.size := b0.lt
  by_cases hr : rightH h = true
  · obtain ⟨⟨r1, r2⟩, ⟨r3, r4⟩, r5, r6⟩ := (rightH_iff h).1 hr
    rw [if_pos hr]
    rw [hr] at hri ⊢
    have hvp := headV_prev hb
    have hvr := headV_root hb
    have hdp := hb.prev
    have hdr := hb.root
    obtain ⟨sa, ta, ep, prev, root⟩ := h
    simp only at r1 r2 r3 r4 r5 r6 hvp hvr hdp hdr
    obtain ⟨ns, rfl⟩ := nat_of r1
    obtain ⟨nt, rfl⟩ := nat_of (show 0 ≤ ta by omega)
    obtain ⟨ne, rfl⟩ := nat_of r5
    have ws : IntKind.u64.wrap (ns : Int) = ns := by rw [IntKind.wrap_u64]; omega
    have wt : IntKind.u64.wrap (nt : Int) = nt := by rw [IntKind.wrap_u64]; omega
    have we : IntKind.u64.wrap (ne : Int) = ne := by rw [IntKind.wrap_u64]; omega
    have m1 := numP_le (n := ns) (by omega)
    have m2 := numP_le (n := nt) (by omega)
    have m3 := numP_le (n := ne) (by omega)
    have m4 := hdp.1
    have m5 := hdr.1
    have hbx : ∀ X, Below W.heap.size W X → (X.cell? ⟨g, 0, none⟩ = some (.int .i64 (ns : Int)) ∧ X.cell? ⟨g, 1, none⟩ = some (.int .i64 (nt : Int)) ∧ X.cell? ⟨g, 2, none⟩ = some (.int .i64 (ne : Int)) ∧
        (LDs 41 (.pointer (some ⟨g, 3, none⟩))).run Tryz.prog X = .ok (.agg (bys prev).toArray) X ∧ (LDs 41 (.pointer (some ⟨g, 35, none⟩))).run Tryz.prog X = .ok (.agg (bys root).toArray) X) := fun X hX => by
      have hb := hbox X hX
      exact ⟨hb.cell 0, hb.cell 1, hb.cell 2, LDs_aggB uIdA iId hb (off := 3) (bys prev) (by rw [bys_length, hdp.1]) hvp, LDs_aggB uIdA iId hb (off := 35) (bys root) (by rw [bys_length, hdr.1]) hvr⟩
    have HBOX := Lib.hid hbx
    clear hbx
    obtain ⟨y, hy⟩ : ∃ y, (headV ⟨(ns : Int), (nt : Int), (ne : Int), prev, root⟩).toArray = y := ⟨_, rfl⟩
    rw [hy] at HW hld hri ⊢
    have hform : headF ⟨(ns : Int), (nt : Int), (ne : Int), prev, root⟩ = [] ++ numP ns ++ numP nt ++ numP ne ++ prev ++ root := by simp [headF]
    rw [hform]
    have hfb : ∀ x ∈ [] ++ numP ns ++ numP nt ++ numP ne ++ prev ++ root, 0 ≤ x ∧ x ≤ 255 := by
      intro x hx
      simp only [List.mem_append, List.not_mem_nil, false_or] at hx
      rcases hx with (((h | h) | h) | h) | h
      · exact numP_bd (by omega) x h
      · exact numP_bd (by omega) x h
      · exact numP_bd (by omega) x h
      · exact hdp.2 x h
      · exact hdr.2 x h
    have HFB := Lib.hid hfb
    clear hW hg B0 b0 hbox hb hr hvp hvr hy hform hfb r1 r3 r5
    go_enter Tryz.func87, Tryz.ntmps87
    go_upto_region 1 with fail
    rw [HW.out, HG.out]
    go_wp2_with fail
    with_reducible refine hri.mono ?_
    rintro e w1 ⟨rfl, hB1⟩
    have hp0 : IsPen w1.heap.size (w1.alloc (.cells #[.slice none 0 0] 134)) w1.heap.size (.slice none 0 0) [] := ⟨Blk.new w1 _ _, Nat.le_refl _, Own8.nil _ _⟩
    have hB2 : Below w1.heap.size w1 (w1.alloc (.cells #[.slice none 0 0] 134)) := (Below.refl _ w1).alloc (Nat.le_refl _) _
    obtain ⟨w2, hw2⟩ : ∃ w2, w1.alloc (.cells #[.slice none 0 0] 134) = w2 := ⟨_, rfl⟩
    obtain ⟨p, hp⟩ : ∃ p, w1.heap.size = p := ⟨_, rfl⟩
    rw [hw2] at hp0 hB2
    rw [hp] at hp0 hB2
    have hpw0 : p ≤ w2.heap.size := by rw [← hp]; exact hB2.size
    have hWp : W.heap.size ≤ p := by rw [← hp]; exact hB1.size
    have hw2B : Below W.heap.size W w2 := hB1.trans (hB2.mono hWp)
    obtain ⟨q0, q1, q2, _, _⟩ := HBOX.out w2 hw2B
    have HW2 := Lib.hid hw2
    have HP := Lib.hid hp
    have HB2 := Lib.hid hw2B
    have HWP := Lib.hid hWp
    have HP0 := Lib.hid hp0
    clear hw2 hp hp0 hB1 hB2 hw2B hWp hri hld
    go_upto_region 4 with fail
    rw [HW2.out, HP.out]
    go_upto_region 5 with fail
    obtain ⟨d, hd⟩ : ∃ d, w2.heap.size = d := ⟨_, rfl⟩
    have b3 := Blk.new w2 3 #[.int .i64 (ns : Int), .int .i64 (nt : Int), .int .i64 (ne : Int)]
    have hp3 : IsPen p (w2.alloc (.cells #[.int .i64 (ns : Int), .int .i64 (nt : Int), .int .i64 (ne : Int)] 3)) p (.slice none 0 0) [] := by
      have h0 := HP0.out
      exact ⟨h0.st.alloc _, Nat.le_refl _, Own8.nil _ _⟩
    have hB3 := HB2.out.alloc HB2.out.size (.cells #[.int .i64 (ns : Int), .int .i64 (nt : Int), .int .i64 (ne : Int)] 3)
    have hpw3 : p < d := by rw [← hd]; have h0 := HP0.out.st.lt; omega
    rw [hd] at b3
    obtain ⟨w3, hw3⟩ : ∃ w3, w2.alloc (.cells #[.int .i64 (ns : Int), .int .i64 (nt : Int), .int .i64 (ne : Int)] 3) = w3 := ⟨_, rfl⟩
    rw [hw3] at b3 hp3 hB3
    rw [hd, hw3]
    have hpre : ∀ i, i < 3 → ∃ N : Nat, N < 9223372036854775808 ∧ (#[Value.int .i64 (ns : Int), .int .i64 (nt : Int), .int .i64 (ne : Int)])[i]? = some (.int .i64 (N : Int)) ∧ ([ns, nt, ne].take (i + 1)).flatMap numP = ([ns, nt, ne].take i).flatMap numP ++ numP N ∧ (([ns, nt, ne].take i).flatMap numP).length ≤ 100 := by
      intro i hi
      obtain rfl | rfl | rfl : i = 0 ∨ i = 1 ∨ i = 2 := by omega
      · exact ⟨ns, by omega, rfl, by simp, by simp⟩
      · exact ⟨nt, by omega, rfl, by simp, by simp; omega⟩
      · exact ⟨ne, by omega, rfl, by simp, by simp; omega⟩
    have HPRE := Lib.hid hpre
    have HBB := Lib.hid b3
    have HP3 := Lib.hid hp3
    have HB3 := Lib.hid hB3
    clear hpre b3 hp3 hB3 hd hw3 q0 q1 q2
    go_loopg [6, 18] 3 (fun kk _ s wr => ∃ (i : Nat) (v : Value), i + kk = 3 ∧ s = .int .i64 (i : Int) ∧ IsPen p wr p v (([ns, nt, ne].take i).flatMap numP) ∧ Below W.heap.size W wr ∧ Blk wr d 3 #[.int .i64 (ns : Int), .int .i64 (nt : Int), .int .i64 (ne : Int)] ∧ v.ownBlock ≠ some d ∧ p ≤ wr.heap.size)
    case atStart => exact ⟨0, _, by omega, rfl, HP3.out, HB3.out, HBB.out, by simp [Value.ownBlock], by have := HBB.out.lt; omega⟩
    case round =>
      obtain ⟨i, v, hi, rfl, hpen, hB, hbk, hvd, hpr⟩ := hrel
      by_cases hlt : i < 3
      · have hltI : (i : Int) < 3 := by omega
        obtain ⟨N, hN, hcell, hnext, hlen⟩ := HPRE.out i hlt
        have kc : wr.cell? ⟨d, i, none⟩ = some (.int .i64 (N : Int)) := (hbk.cell i).trans hcell
        have wn : IntKind.u64.wrap (N : Int) = N := by rw [IntKind.wrap_u64]; omega
        have c1 := num_any p p v _ N (by omega) wr hpen (by omega) hpr
        have HN := Lib.hid hnext
        have HPEN := Lib.hid hpen
        have HB := Lib.hid hB
        have HBK := Lib.hid hbk
        have HVD := Lib.hid hvd
        clear hpen hB hbk hvd hcell hnext hlen
        go_wp2_with fail
        with_reducible refine c1.mono ?_
        rintro e w4 ⟨rfl, ⟨v', hp4, hft⟩, hf⟩
        have hB4 := pen_below HPEN.out hf hpr
        have HK := Lib.hid (pen_keep (p := p) (by omega) HVD.out HBK.out hft hf)
        have HB4 := Lib.hid (HB.out.trans (hB4.mono HWP.out))
        have hpw4 : p ≤ w4.heap.size := Nat.le_trans hpr hB4.size
        have HP4 := Lib.hid hp4
        clear hp4 hft hf hB4 c1 kc
        go_wp2_with fail
        go_roundg (3 - (i + 1))
        case measure => omega
        case rel => exact ⟨i + 1, v', by omega, by go_num, by rw [HN.out]; exact HP4.out, HB4.out, HK.out.1, HK.out.2, hpw4⟩
      · obtain rfl : i = 3 := by omega
        rw [show ((3 : Nat) : Int) = 3 from rfl]
        rw [show ([ns, nt, ne].take 3).flatMap numP = [] ++ numP ns ++ numP nt ++ numP ne by simp] at hpen
        obtain ⟨q0, q1, q2, q3, q35⟩ := HBOX.out wr hB
        have c1 := penid_any p p v _ prev hdp.1 hdp.2 wr hpen (by simp only [List.length_append, List.length_nil]; omega) hpr
        have HPEN := Lib.hid hpen
        have HB := Lib.hid hB
        clear hpen hB hbk hvd
        go_wp2_with fail
        with_reducible refine c1.mono ?_
        rintro e w4 ⟨rfl, ⟨v4, hp4, _⟩, hf4⟩
        have hB4 := pen_below HPEN.out hf4 hpr
        have hB4W := HB.out.trans (hB4.mono HWP.out)
        have hpw4 : p ≤ w4.heap.size := Nat.le_trans hpr hB4.size
        clear q0 q1 q2 q3 q35
        obtain ⟨q0, q1, q2, q3, q35⟩ := HBOX.out w4 hB4W
        have c2 := penid_any p p v4 _ root hdr.1 hdr.2 w4 hp4 (by simp only [List.length_append, List.length_nil]; omega) hpw4
        have HP4 := Lib.hid hp4
        have HB4 := Lib.hid hB4W
        clear hp4 hf4 hB4 hB4W c1
        go_wp2_with fail
        with_reducible refine c2.mono ?_
        rintro e w5 ⟨rfl, ⟨v5, hp5, _⟩, hf5⟩
        have hB5 := pen_below HP4.out hf5 hpw4
        have c3 := pbytes_any p p v5 _ HFB.out w5 hp5 (by simp only [List.length_append, List.length_nil]; omega)
        have HB5 := Lib.hid (HB4.out.trans (hB5.mono HWP.out))
        clear hp5 hf5 hB5 c2 q0 q1 q2 q3 q35
        go_wp2_with fail
        with_reducible refine c3.mono ?_
        rintro e w6 ⟨v6, rfl, ho, hB6⟩
        have HO := Lib.hid ho
        have HB6 := Lib.hid (HB5.out.trans (hB6.mono HB5.out.size))
        clear c3 ho hB6
        go_wp2_with fail
        go_ret2
        refine ⟨v6, rfl, ?_, HB0.out.trans (HB6.out.mono HB0.out.size)⟩
        have h6 := HO.out.base (Nat.le_trans HB0.out.size HB5.out.size)
        simpa using h6
  · rw [if_neg hr]
    have hrf : rightH h = false := by simpa using hr
    rw [hrf] at hri ⊢
    obtain ⟨y, hy⟩ : ∃ y, (headV h).toArray = y := ⟨_, rfl⟩
    rw [hy] at HW hld hri ⊢
    clear hW hg B0 b0 hbox hb hr hrf hy
    go_enter Tryz.func87, Tryz.ntmps87
    go_upto_region 1 with fail
    rw [HW.out, HG.out]
    go_wp2_with fail
    with_reducible refine hri.mono ?_
    rintro e w1 ⟨rfl, hB1⟩
    have HB1 := Lib.hid hB1
    clear hB1 hri hld
    go_wp2_with fail
    go_ret2
    exact ⟨_, rfl, Own8.nil _ _, HB0.out.trans (HB1.out.mono HB0.out.size)⟩
end Go.Proofs.YtmflhidmhefljaaGreatDoor
