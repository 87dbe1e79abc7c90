/-
  The document's certificates: Is.
-/
import Derived.Test.YtmflhidmhefljaaGreatDoorJRCertC

namespace Go.Proofs.YtmflhidmhefljaaGreatDoor
open Go.RowKit Go.Shelf
set_option maxRecDepth 100000

theorem eqId_of (x y : Value) : binOp .eql 41 x y = EQs 41 x y := rfl
theorem neId_of (x y : Value) : binOp .neq 41 x y = NEs 41 x y := rfl
theorem EQs_id0 {a b : List Int} (ha : Dig a) (hb : Dig b) (w : World) : (Op.equalIn (9997 + 3) 41 (.agg (bys a).toArray) (.agg (bys b).toArray)).run Tryz.prog w = .ok (decide (a = b)) w := by
  obtain ⟨r, hr, hiff⟩ := run_equalIn_deep (P := Tryz.prog) 9997 3 41 (by kernel_rfl) w 3 3 (.agg (bys a).toArray) (.agg (bys b).toArray) _ _
    (by simp [Value.formed, cId, bys_length, ha.1]) (by simp [Value.formed, cId, bys_length, hb.1]) (by simpa [Value.cells] using lits_id 1 ha.1 ha.2) (by simpa [Value.cells] using lits_id 1 hb.1 hb.2)
  rw [hr]
  congr 1
  rw [Bool.eq_iff_iff, hiff, decide_eq_true_eq, List.map_inj_right (fun a b h => by simpa using h)]
theorem EQs_id {a b : List Int} (ha : Dig a) (hb : Dig b) (w : World) : (EQs 41 (.agg (bys a).toArray) (.agg (bys b).toArray)).run Tryz.prog w = .ok (.bool (decide (a = b))) w := by
  unfold EQs
  rw [run_eql_struct, show (10000 : Nat) = 9997 + 3 from rfl, EQs_id0 ha hb w]
  rfl
theorem NEs_id {a b : List Int} (ha : Dig a) (hb : Dig b) (w : World) : (NEs 41 (.agg (bys a).toArray) (.agg (bys b).toArray)).run Tryz.prog w = .ok (.bool (!decide (a = b))) w := by
  unfold NEs
  simp only [binOp]
  rw [show (Op.equal 41 (.agg (bys a).toArray) (.agg (bys b).toArray)) = Op.equalIn (9997 + 3) 41 (.agg (bys a).toArray) (.agg (bys b).toArray) from rfl]
  simp [EQs_id0 ha hb w]

attribute [local go_sem ↓] ldEnt_of ldHead_of ld123 st123 al123 eqId_of
set_option maxHeartbeats 8000000 in
theorem ris_no (As : Option Addr) (ns cs : Nat) (seed : List Int) (n : Int) (A : Option Addr) (cap : Nat) (c : CertD) (w : World) (hc : c.Bd)
    (h : rightE c.e = false ∨ (rightE c.e = true ∧ rightH c.h = false) ∨ (rightE c.e = true ∧ rightH c.h = true ∧ c.e.sh ≠ c.h.sh) ∨ (rightE c.e = true ∧ rightH c.h = true ∧ c.e.sh = c.h.sh ∧ c.e.ep ≠ c.h.ep) ∨
      (rightE c.e = true ∧ rightH c.h = true ∧ c.e.sh = c.h.sh ∧ c.e.ep = c.h.ep ∧ c.path.length ≠ 2) ∨ (rightE c.e = true ∧ rightH c.h = true ∧ c.e.sh = c.h.sh ∧ c.e.ep = c.h.ep ∧ c.path.length = 2 ∧ n ≤ c.h.sh)) :
    Calls Tryz.prog 29 #[.slice As ns cs, .int .i64 n, .agg (certV c A cap).toArray] w fun e w' => e = .returned (.bool (isP seed n c)) ∧ Below w.heap.size w w' := by
  have hres : isP seed n c = false := by
    unfold isP
    rcases h with h | ⟨h1, h⟩ | ⟨h1, h2, h⟩ | ⟨h1, h2, h3, h⟩ | ⟨h1, h2, h3, h4, h⟩ | ⟨h1, h2, h3, h4, h5, h⟩
    · simp [h]
    · simp [h]
    · simp [h]
    · simp [h]
    · simp [h]
    · simp [show ¬ c.h.sh < n by omega]
  rw [hres]
  have b0 := Blk.new w 48 ((certV c A cap).toArray)
  have B0 : Below w.heap.size w (w.alloc (.cells ((certV c A cap).toArray) 48)) := (Below.refl _ w).alloc (Nat.le_refl _) _
  obtain ⟨W, hW⟩ : ∃ W, w.alloc (.cells ((certV c A cap).toArray) 48) = W := ⟨_, rfl⟩
  rw [hW] at b0 B0
  obtain ⟨g, hg⟩ : ∃ g, w.heap.size = g := ⟨_, rfl⟩
  rw [hg] at b0
  have hldE := LDs_aggB (P := Tryz.prog) uEnt iEnt b0 (off := 0) (entV c.e) (entV_len hc.e) (by simpa using certV_e hc A cap)
  have hldH := fun X (hX : Below W.heap.size W X) => LDs_aggB (P := Tryz.prog) uHead iHead (b0.fr (Fr.of_below hX) (by have := b0.lt; omega)) (off := 38) (headV c.h) (headV_len hc.h) (by simpa using certV_h hc A cap)
  have hp1 := rentright_any c.e hc.e W
  have hp2 := fun X => rheadright_any c.h hc.h X
  have cc := certV_c hc A cap
  have k1 : ∀ X, Below W.heap.size W X → X.cell? ⟨g, 1, none⟩ = some (.int .i64 c.e.sh) := fun X hX => ((b0.fr (Fr.of_below hX) (by have := b0.lt; omega)).cell 1).trans cc.2.1
  have k36 : ∀ X, Below W.heap.size W X → X.cell? ⟨g, 36, none⟩ = some (.int .i64 c.e.ep) := fun X hX => ((b0.fr (Fr.of_below hX) (by have := b0.lt; omega)).cell 36).trans cc.2.2.2.1
  have k37 : ∀ X, Below W.heap.size W X → X.cell? ⟨g, 37, none⟩ = some (.slice A c.path.length cap) := fun X hX => ((b0.fr (Fr.of_below hX) (by have := b0.lt; omega)).cell 37).trans cc.2.2.2.2.1
  have k38 : ∀ X, Below W.heap.size W X → X.cell? ⟨g, 38, none⟩ = some (.int .i64 c.h.sh) := fun X hX => ((b0.fr (Fr.of_below hX) (by have := b0.lt; omega)).cell 38).trans cc.2.2.2.2.2.1
  have k40 : ∀ X, Below W.heap.size W X → X.cell? ⟨g, 40, none⟩ = some (.int .i64 c.h.ep) := fun X hX => ((b0.fr (Fr.of_below hX) (by have := b0.lt; omega)).cell 40).trans cc.2.2.2.2.2.2
  obtain ⟨rE, hrE⟩ : ∃ r, rightE c.e = r := ⟨_, rfl⟩
  obtain ⟨rH, hrH⟩ : ∃ r, rightH c.h = r := ⟨_, rfl⟩
  rw [hrE] at hp1
  simp only [hrH] at hp2
  rw [hrE, hrH] at h
  obtain ⟨s1, hs1⟩ : ∃ s, c.e.sh = s := ⟨_, rfl⟩
  obtain ⟨s2, hs2⟩ : ∃ s, c.h.sh = s := ⟨_, rfl⟩
  obtain ⟨t1, ht1⟩ : ∃ s, c.e.ep = s := ⟨_, rfl⟩
  obtain ⟨t2, ht2⟩ : ∃ s, c.h.ep = s := ⟨_, rfl⟩
  obtain ⟨pl, hpl⟩ : ∃ s, c.path.length = s := ⟨_, rfl⟩
  rw [hs1, hs2, ht1, ht2, hpl] at h
  rw [hs1] at k1
  rw [hs2] at k38
  rw [ht1] at k36
  rw [ht2] at k40
  rw [hpl] at k37
  have hq : (rE = false) ∨ (rE = true ∧ rH = false) ∨ (rE = true ∧ rH = true ∧ (s1 != s2) = true) ∨ (rE = true ∧ rH = true ∧ (s1 != s2) = false ∧ (t1 != t2) = true) ∨
      (rE = true ∧ rH = true ∧ (s1 != s2) = false ∧ (t1 != t2) = false ∧ ((pl : Int) != 2) = true) ∨ (rE = true ∧ rH = true ∧ (s1 != s2) = false ∧ (t1 != t2) = false ∧ ((pl : Int) != 2) = false ∧ n ≤ s2) := by
    rcases h with h | h | ⟨h1, h2, h⟩ | ⟨h1, h2, h3, h⟩ | ⟨h1, h2, h3, h4, h⟩ | ⟨h1, h2, h3, h4, h5, h⟩
    · exact .inl h
    · exact .inr (.inl h)
    · exact .inr (.inr (.inl ⟨h1, h2, by simpa using h⟩))
    · exact .inr (.inr (.inr (.inl ⟨h1, h2, by simpa using h3, by simpa using h⟩)))
    · exact .inr (.inr (.inr (.inr (.inl ⟨h1, h2, by simpa using h3, by simpa using h4, by simp; omega⟩))))
    · exact .inr (.inr (.inr (.inr (.inr ⟨h1, h2, by simpa using h3, by simpa using h4, by simp; omega, h⟩))))
  clear h hres cc
  obtain ⟨xs, hxs⟩ : ∃ xs, (certV c A cap).toArray = xs := ⟨_, rfl⟩
  rw [hxs] at hW ⊢
  obtain ⟨ve, hve⟩ : ∃ ve, (entV c.e).toArray = ve := ⟨_, rfl⟩
  obtain ⟨vh, hvh⟩ : ∃ ve, (headV c.h).toArray = ve := ⟨_, rfl⟩
  rw [hve] at hldE hp1
  simp only [hvh] at hldH hp2
  have HW := Lib.hid hW
  have HG := Lib.hid hg
  have HB := Lib.hid B0
  have HLH := Lib.hid hldH
  have K1 := Lib.hid k1
  have K36 := Lib.hid k36
  have K37 := Lib.hid k37
  have K38 := Lib.hid k38
  have K40 := Lib.hid k40
  have HP2 := Lib.hid hp2
  clear hW hg B0 hldH k1 k36 k37 k38 k40 hp2 hrE hrH hs1 hs2 ht1 ht2 hpl hxs hve hvh b0 hc
  rcases hq with rfl | ⟨rfl, rfl⟩ | ⟨rfl, rfl, hS⟩ | ⟨rfl, rfl, hS, hT⟩ | ⟨rfl, rfl, hS, hT, hP⟩ | ⟨rfl, rfl, hS, hT, hP, hN⟩
  · go_enter Tryz.func29, Tryz.ntmps29
    go_upto_region 1 with fail
    rw [HW.out, HG.out]
    go_wp2_with fail
    with_reducible refine hp1.mono ?_
    rintro e w1 ⟨rfl, hB1⟩
    have HB1 := Lib.hid hB1
    clear hB1 hp1 hldE
    go_wp2_with fail
    go_ret
    exact ⟨rfl, HB.out.trans (HB1.out.mono HB.out.size)⟩
  all_goals
    go_enter Tryz.func29, Tryz.ntmps29
    go_upto_region 1 with fail
    rw [HW.out, HG.out]
    go_wp2_with fail
    with_reducible refine hp1.mono ?_
    rintro e w1 ⟨rfl, hB1⟩
    have hldH := HLH.out w1 hB1
    have hp2 := HP2.out w1
    have HB1 := Lib.hid hB1
    clear hB1 hp1 hldE
    go_wp2_with fail
    with_reducible refine hp2.mono ?_
    rintro e w2 ⟨rfl, hB2⟩
    have hB2W := HB1.out.trans (hB2.mono HB1.out.size)
    have q1 := K1.out w2 hB2W
    have q2 := K36.out w2 hB2W
    have q3 := K38.out w2 hB2W
    have q4 := K40.out w2 hB2W
    have q5 := K37.out w2 hB2W
    have HB2 := Lib.hid hB2W
    clear hB2W hB2 hp2 hldH
    go_wp2_with fail
    go_ret
    exact ⟨rfl, HB.out.trans (HB2.out.mono HB.out.size)⟩

theorem ris_eq {seed : List Int} {n : Int} {c : CertD} (hE : rightE c.e = true) (hH : rightH c.h = true) (hs : c.e.sh = c.h.sh) (hp : c.e.ep = c.h.ep) (hl : c.path.length = 2) (hn : c.h.sh < n) :
    isP seed n c = (decide (nodeP (nodeP (c.path.getD 0 []) (leafP (entF c.e))) (c.path.getD 1 []) = c.h.root) && decide (c.tag = signP seed c.h.sh (headF c.h))) := by
  unfold isP
  rw [hE, hH, hs, hp, hl]
  simp [hn]

set_option maxHeartbeats 16000000 in
theorem ris_yes (As : Option Addr) (cs : Nat) (seed : List Int) (hsl : seed.length ≤ 64) (n : Int) (A : Option Addr) (cap : Nat) (c : CertD) (w : World) (hc : c.Bd) (hsd : Byt w As seed) (hP : RdR 32 w A (c.path.map bys))
    (hE : rightE c.e = true) (hH : rightH c.h = true) (hs : c.e.sh = c.h.sh) (hp : c.e.ep = c.h.ep) (hl : c.path.length = 2) (hn : c.h.sh < n) :
    Calls Tryz.prog 29 #[.slice As seed.length cs, .int .i64 n, .agg (certV c A cap).toArray] w fun e w' => e = .returned (.bool (isP seed n c)) ∧ Below w.heap.size w w' := by
  rw [ris_eq hE hH hs hp hl hn]
  obtain ⟨Z, hal, hst0, hz⟩ := alstZ (P := Tryz.prog) (t := 41) iId zIdS
  have b0 := Blk.new w 48 ((certV c A cap).toArray)
  have B0 : Below w.heap.size w (w.alloc (.cells ((certV c A cap).toArray) 48)) := (Below.refl _ w).alloc (Nat.le_refl _) _
  obtain ⟨W, hW⟩ : ∃ W, w.alloc (.cells ((certV c A cap).toArray) 48) = W := ⟨_, rfl⟩
  rw [hW] at b0 B0
  obtain ⟨g, hg⟩ : ∃ g, w.heap.size = g := ⟨_, rfl⟩
  rw [hg] at b0
  obtain ⟨p0, p1, hpp⟩ : ∃ p0 p1, c.path = [p0, p1] := by
    match h : c.path, hl with
    | [a, b], _ => exact ⟨a, b, rfl⟩
  have d0 : Dig p0 := hc.path p0 (by rw [hpp]; simp)
  have d1 : Dig p1 := hc.path p1 (by rw [hpp]; simp)
  have hPW := hP.below B0
  rw [hpp] at hPW ⊢
  obtain ⟨gp, op, rfl, hgp, hp0c⟩ := hPW 0 (by simp)
  obtain ⟨gp', op', e', _, hp1c⟩ := hPW 1 (by simp)
  simp only [Option.some.injEq, Addr.mk.injEq, and_true] at e'
  obtain ⟨rfl, rfl⟩ := e'
  have G0 := fun X (hX : Below W.heap.size W X) => LDs_agg (P := Tryz.prog) uIdA iId X gp op (bys p0) (by rw [bys_length, d0.1]) (fun j v hv => (hX.cell (p := ⟨gp, op + j, none⟩) hgp).trans (by have := hp0c j v (by simpa using hv); simpa using this))
  have G1 := fun X (hX : Below W.heap.size W X) => LDs_agg (P := Tryz.prog) uIdA iId X gp (op + 32) (bys p1) (by rw [bys_length, d1.1]) (fun j v hv => (hX.cell (p := ⟨gp, op + 32 + j, none⟩) hgp).trans (by have := hp1c j v (by simpa using hv); simpa using this))
  have hldE := fun X (hX : Below W.heap.size W X) => LDs_aggB (P := Tryz.prog) uEnt iEnt (b0.fr (Fr.of_below hX) (by have := b0.lt; omega)) (off := 0) (entV c.e) (entV_len hc.e) (by simpa using certV_e hc (some ⟨gp, op, none⟩) cap)
  have hldE0 := hldE W (Below.refl _ _)
  have hldH := fun X (hX : Below W.heap.size W X) => LDs_aggB (P := Tryz.prog) uHead iHead (b0.fr (Fr.of_below hX) (by have := b0.lt; omega)) (off := 38) (headV c.h) (headV_len hc.h) (by simpa using certV_h hc (some ⟨gp, op, none⟩) cap)
  have hldR := fun X (hX : Below W.heap.size W X) => LDs_aggB (P := Tryz.prog) uIdA iId (b0.fr (Fr.of_below hX) (by have := b0.lt; omega)) (off := 73) (bys c.h.root) (by rw [bys_length, hc.h.root.1]) (by simpa using certV_root hc (some ⟨gp, op, none⟩) cap)
  have hldT := fun X (hX : Below W.heap.size W X) => LDs_aggB (P := Tryz.prog) uIdA iId (b0.fr (Fr.of_below hX) (by have := b0.lt; omega)) (off := 105) (bys c.tag) (by rw [bys_length, hc.tag.1]) (by simpa using certV_tag hc (some ⟨gp, op, none⟩) cap)
  have hp1 := rentright_any c.e hc.e W
  have hp2 := fun X => rheadright_any c.h hc.h X
  rw [hE] at hp1
  simp only [hH] at hp2
  have cc := certV_c hc (some ⟨gp, op, none⟩) cap
  have k1 : ∀ X, Below W.heap.size W X → X.cell? ⟨g, 1, none⟩ = some (.int .i64 c.e.sh) := fun X hX => ((b0.fr (Fr.of_below hX) (by have := b0.lt; omega)).cell 1).trans cc.2.1
  have k36 : ∀ X, Below W.heap.size W X → X.cell? ⟨g, 36, none⟩ = some (.int .i64 c.e.ep) := fun X hX => ((b0.fr (Fr.of_below hX) (by have := b0.lt; omega)).cell 36).trans cc.2.2.2.1
  have k37 : ∀ X, Below W.heap.size W X → X.cell? ⟨g, 37, none⟩ = some (.slice (some ⟨gp, op, none⟩) 2 cap) := fun X hX => ((b0.fr (Fr.of_below hX) (by have := b0.lt; omega)).cell 37).trans (by rw [cc.2.2.2.2.1, hl])
  have k38 : ∀ X, Below W.heap.size W X → X.cell? ⟨g, 38, none⟩ = some (.int .i64 c.h.sh) := fun X hX => ((b0.fr (Fr.of_below hX) (by have := b0.lt; omega)).cell 38).trans cc.2.2.2.2.2.1
  have k40 : ∀ X, Below W.heap.size W X → X.cell? ⟨g, 40, none⟩ = some (.int .i64 c.h.ep) := fun X hX => ((b0.fr (Fr.of_below hX) (by have := b0.lt; omega)).cell 40).trans cc.2.2.2.2.2.2
  have hput := fun X => rentput_any c.e hc.e hE X
  have hhput := fun X => rheadput_any c.h hc.h hH X
  have hfl := entF_len hc.e
  have hfb := entF_bd hc.e
  have hhl := headF_len hc.h
  have hhb := headF_bd hc.h
  have hleaf := fun X Ae ce (hce : Ae = none → ce = 0) (hb : Byt X Ae (entF c.e)) => rleaf_any Ae ce hce (entF c.e) X hb (by omega)
  have hnd1 := fun X => rnode_any p0 (leafP (entF c.e)) d0 (Dig.leaf _) X
  have hnd2 := fun X => rnode_any (nodeP p0 (leafP (entF c.e))) p1 (Dig.node _ _) d1 X
  have hshr := ((rightH_iff c.h).1 hH).1
  obtain ⟨sn, hsn⟩ := nat_of hshr.1
  have hsgn := fun X A2 c2 (hn : A2 = none → c2 = 0) (hX : Below W.heap.size W X) (hby : Byt X A2 (headF c.h)) => rsign_any As cs seed sn (by omega) A2 c2 (headF c.h) X hsl ((hsd.below B0).below hX) hby hn (by omega)
  simp only [← hsn] at hsgn
  rw [show ([p0, p1] : List (List Int)).getD 0 [] = p0 from rfl, show ([p0, p1] : List (List Int)).getD 1 [] = p1 from rfl]
  have dD : Dig (nodeP (nodeP p0 (leafP (entF c.e))) p1) := Dig.node _ _
  have dT : Dig (signP seed c.h.sh (headF c.h)) := Dig.mac _ _
  obtain ⟨lf, hlf⟩ : ∃ x, leafP (entF c.e) = x := ⟨_, rfl⟩
  simp only [hlf] at hleaf hnd1 hnd2
  rw [hlf] at dD ⊢
  obtain ⟨nd, hnd⟩ : ∃ x, nodeP p0 lf = x := ⟨_, rfl⟩
  simp only [hnd] at hnd1 hnd2
  rw [hnd] at dD ⊢
  obtain ⟨D, hD⟩ : ∃ x, nodeP nd p1 = x := ⟨_, rfl⟩
  simp only [hD] at hnd2
  rw [hD] at dD ⊢
  obtain ⟨T, hT⟩ : ∃ x, signP seed c.h.sh (headF c.h) = x := ⟨_, rfl⟩
  simp only [hT] at hsgn
  rw [hT] at dT ⊢
  have hq1 := fun X => EQs_id dD hc.h.root X
  have hq2 := fun X => EQs_id hc.tag dT X
  obtain ⟨R1, hR1⟩ : ∃ r, decide (D = c.h.root) = r := ⟨_, rfl⟩
  obtain ⟨R2, hR2⟩ : ∃ r, decide (c.tag = T) = r := ⟨_, rfl⟩
  simp only [hR1] at hq1
  simp only [hR2] at hq2
  rw [hR1, hR2]
  have hDl : (bys D).length = 32 := by rw [bys_length, dD.1]
  obtain ⟨ef, hef⟩ : ∃ x, entF c.e = x := ⟨_, rfl⟩
  obtain ⟨hf, hhf⟩ : ∃ x, headF c.h = x := ⟨_, rfl⟩
  simp only [hef] at hput hleaf hfb
  simp only [hhf] at hhput hsgn hhb
  have hS : (c.e.sh != c.h.sh) = false := by simpa using hs
  have hTT : (c.e.ep != c.h.ep) = false := by simpa using hp
  have hNN : ¬ n ≤ c.h.sh := by omega
  obtain ⟨s1, hs1⟩ : ∃ s, c.e.sh = s := ⟨_, rfl⟩
  obtain ⟨s2, hs2⟩ : ∃ s, c.h.sh = s := ⟨_, rfl⟩
  obtain ⟨t1, ht1⟩ : ∃ s, c.e.ep = s := ⟨_, rfl⟩
  obtain ⟨t2, ht2⟩ : ∃ s, c.h.ep = s := ⟨_, rfl⟩
  simp only [hs1] at k1
  simp only [hs2] at k38 hsgn
  simp only [ht1] at k36
  simp only [ht2] at k40
  rw [hs1, hs2] at hS
  rw [ht1, ht2] at hTT
  rw [hs2] at hNN
  obtain ⟨xs, hxs⟩ : ∃ xs, (certV c (some ⟨gp, op, none⟩) cap).toArray = xs := ⟨_, rfl⟩
  rw [hxs] at hW ⊢
  obtain ⟨ve, hve⟩ : ∃ ve, (entV c.e).toArray = ve := ⟨_, rfl⟩
  obtain ⟨vh, hvh⟩ : ∃ ve, (headV c.h).toArray = ve := ⟨_, rfl⟩
  obtain ⟨vr, hvr⟩ : ∃ ve, (bys c.h.root).toArray = ve := ⟨_, rfl⟩
  obtain ⟨vt, hvt⟩ : ∃ ve, (bys c.tag).toArray = ve := ⟨_, rfl⟩
  rw [hve] at hldE0 hp1
  simp only [hve] at hldE hput
  simp only [hvh] at hldH hp2 hhput
  simp only [hvr] at hldR hq1
  simp only [hvt] at hldT hq2
  obtain ⟨ns, hns⟩ : ∃ x, seed.length = x := ⟨_, rfl⟩
  simp only [hns] at hsgn
  rw [hns]
  have HW := Lib.hid hW
  have HG := Lib.hid hg
  have HB := Lib.hid B0
  have HLE := Lib.hid hldE
  have HLH := Lib.hid hldH
  have HLR := Lib.hid hldR
  have HLT := Lib.hid hldT
  have K1 := Lib.hid k1
  have K36 := Lib.hid k36
  have K37 := Lib.hid k37
  have K38 := Lib.hid k38
  have K40 := Lib.hid k40
  have HP2 := Lib.hid hp2
  have HPUT := Lib.hid hput
  have HHPUT := Lib.hid hhput
  have HLEAF := Lib.hid hleaf
  have HND1 := Lib.hid hnd1
  have HND2 := Lib.hid hnd2
  have HSGN := Lib.hid hsgn
  have HQ1 := Lib.hid hq1
  have HQ2 := Lib.hid hq2
  have HFB := Lib.hid hfb
  have HHB := Lib.hid hhb
  have HDL := Lib.hid hDl
  have HG0 := Lib.hid G0
  have HG1 := Lib.hid G1
  have HBK := Lib.hid b0
  clear hW hg B0 hldE hldH hldR hldT k1 k36 k37 k38 k40 hp2 hput hhput hleaf hnd1 hnd2 hsgn hq1 hq2 hfb hhb hDl G0 G1 b0 hs1 hs2 ht1 ht2 hxs hve hvh hvr hvt hns hc hsd hP hE hH hs hp hl hn hpp d0 d1 hPW hgp hp0c hp1c cc hfl hhl hshr hsn dD dT hlf hnd hD hT hR1 hR2 hef hhf hst0
  go_enter Tryz.func29, Tryz.ntmps29
  go_upto_region 1 with fail
  rw [HW.out, HG.out]
  go_wp2_with fail
  with_reducible refine hp1.mono ?_
  rintro e w1 ⟨rfl, hB1⟩
  have hldH := HLH.out w1 hB1
  have hp2 := HP2.out w1
  have HB1 := Lib.hid hB1
  clear hB1 hp1 hldE0
  go_wp2_with fail
  with_reducible refine hp2.mono ?_
  rintro e w2 ⟨rfl, hB2⟩
  have hB2W := HB1.out.trans (hB2.mono HB1.out.size)
  have q1 := K1.out w2 hB2W
  have q2 := K36.out w2 hB2W
  have q3 := K38.out w2 hB2W
  have q4 := K40.out w2 hB2W
  have q5 := K37.out w2 hB2W
  have HB2 := Lib.hid hB2W
  clear hB2W hB2 hp2 hldH
  go_upto_region 3 with fail
  clear q1 q2 q3 q4 q5
  obtain ⟨S0, hS0⟩ : ∃ S0 : World → Prop, (fun X => X.cell? ⟨g, 37, none⟩ = some (.slice (some ⟨gp, op, none⟩) 2 cap) ∧ (LDs 41 (.pointer (some ⟨gp, op, none⟩))).run Tryz.prog X = .ok (.agg (bys p0).toArray) X ∧
    (LDs 41 (.pointer (some ⟨gp, op + 32, none⟩))).run Tryz.prog X = .ok (.agg (bys p1).toArray) X ∧ (LDs 43 (.pointer (some ⟨g, 0, none⟩))).run Tryz.prog X = .ok (.agg ve) X) = S0 := ⟨_, rfl⟩
  obtain ⟨U, hU⟩ : ∃ U, w2.drew = U := ⟨_, rfl⟩
  have hBU : Below W.heap.size W U := by rw [← hU]; exact HB2.out.drew
  have hSS : ∀ X, Below U.heap.size U X → S0 X := fun X hX => by
    have h := hBU.trans (hX.mono hBU.size)
    rw [← hS0]; exact ⟨K37.out X h, HG0.out X h, HG1.out X h, HLE.out X h⟩
  have HS0 := Lib.hid hS0
  have HSS := Lib.hid hSS
  have HBU := Lib.hid hBU
  have HU := Lib.hid hU
  clear hS0 hSS hBU hU
  with_reducible refine wp_anyJ (fun i => i != 13 && i != 15) S0 (by kernel_rfl) ?_
  rw [HU.out]
  refine wpAnyJ_mid (m := 6) (Lf := #[true, true, true, true, true, true, false, false, false, true, true, true, true, false, false, false]) [(0, 3), (4, 3), (9, 3), (1, 0), (2, 3), (3, 0), (5, 0), (10, 0), (11, 3), (12, 0)] true (by kernel_rfl) (by kernel_rfl) (by kernel_rfl) (fun _ => HSS.out _ (Below.refl _ _)) ?_
  iterate 3 (with_reducible refine wpTxC_evN (o := ?_) (v := ?_) (a' := ?_) (by with_unfolding_all rfl) (by with_unfolding_all rfl) (fun W' => ?_) ?_ ?_; rotate_left 2; (focus (go_simp <;> with_reducible rfl)); focus (go_simp <;> with_reducible rfl))
  iterate 1 (with_reducible refine wpTxC_takeN (o := ?_) (v := ?_) (a' := ?_) (by with_unfolding_all rfl) (by with_unfolding_all rfl) (fun W' hS => ?_) ?_ ?_; rotate_left 2; (focus (rw [← HS0.out] at hS; obtain ⟨t1, t2, t3, t4⟩ := hS; go_simp <;> with_reducible rfl)); focus (go_simp <;> with_reducible rfl))
  iterate 1 (with_reducible refine wpTxC_evN (o := ?_) (v := ?_) (a' := ?_) (by with_unfolding_all rfl) (by with_unfolding_all rfl) (fun W' => ?_) ?_ ?_; rotate_left 2; (focus (go_simp <;> with_reducible rfl)); focus (go_simp <;> with_reducible rfl))
  iterate 3 (with_reducible refine wpTxC_takeN (o := ?_) (v := ?_) (a' := ?_) (by with_unfolding_all rfl) (by with_unfolding_all rfl) (fun W' hS => ?_) ?_ ?_; rotate_left 2; (focus (rw [← HS0.out] at hS; obtain ⟨t1, t2, t3, t4⟩ := hS; go_simp <;> with_reducible rfl)); focus (go_simp <;> with_reducible rfl))
  iterate 1 (with_reducible refine wpTxC_evN (o := ?_) (v := ?_) (a' := ?_) (by with_unfolding_all rfl) (by with_unfolding_all rfl) (fun W' => ?_) ?_ ?_; rotate_left 2; (focus (go_simp <;> with_reducible rfl)); focus (go_simp <;> with_reducible rfl))
  iterate 1 (with_reducible refine wpTxC_takeN (o := ?_) (v := ?_) (a' := ?_) (by with_unfolding_all rfl) (by with_unfolding_all rfl) (fun W' hS => ?_) ?_ ?_; rotate_left 2; (focus (rw [← HS0.out] at hS; obtain ⟨t1, t2, t3, t4⟩ := hS; go_simp <;> with_reducible rfl)); focus (go_simp <;> with_reducible rfl))
  with_reducible refine wpTxC_nil ?_
  refine wpAnyJ_alloc (j := 14) (n := 1) (Lf := #[true, true, true, true, true, true, true, true, true, true, true, true, true, true, true, false]) (t := 41) (Z := Z) [(6, 2), (7, 2), (8, 2), (13, 2)] (by kernel_rfl) (by kernel_rfl) (by kernel_rfl) (by with_unfolding_all rfl) rfl (fun a X => by go_simp) HSS.out ?_
  intro X0 hX0
  have c6 := HPUT.out X0
  have BX0 := Lib.hid hX0
  clear hX0
  with_reducible refine wpFl_go (o := ?_) (by with_unfolding_all rfl) (by with_unfolding_all rfl) (fun K hK => ?_)
  try simp only [List.getElem_toArray, List.getElem_cons_succ, List.getElem_cons_zero]
  go_simp
  with_reducible refine c6.mono ?_
  rintro e w6 ⟨v6, rfl, hv6, hB6⟩
  obtain ⟨A6, c6', rfl, hby6, _, _⟩ := Own8.byt hv6 HFB.out
  have hn6 : A6 = none → c6' = 0 := fun e => by subst e; exact Own8.nulI hv6
  have c7 := fun X (hX : Below w6.heap.size w6 X) => HLEAF.out X A6 c6' hn6 (hby6.below hX)
  obtain ⟨n6, hnn6⟩ : ∃ n, ef.length = n := ⟨_, rfl⟩
  simp only [hnn6] at c7
  rw [hnn6]
  have BX6 := Lib.hid (BX0.out.trans (hB6.mono BX0.out.size))
  have C7 := Lib.hid c7
  clear c7 hv6 hby6 hn6 hnn6 c6
  with_reducible refine hK _ _ hB6 (fun X6 hX6 => ?_)
  clear hK K
  have c7 := C7.out X6 hX6
  have BY6 := Lib.hid (BX6.out.trans (hX6.mono BX6.out.size))
  clear hX6
  with_reducible refine wpFl_go (o := ?_) (by with_unfolding_all rfl) (by with_unfolding_all rfl) (fun K hK => ?_)
  try simp only [List.getElem_toArray, List.getElem_cons_succ, List.getElem_cons_zero]
  go_simp
  with_reducible refine c7.mono ?_
  rintro e w7 ⟨rfl, hB7⟩
  have BX7 := Lib.hid (BY6.out.trans (hB7.mono BY6.out.size))
  clear c7
  with_reducible refine hK _ _ hB7 (fun X7 hX7 => ?_)
  clear hK K
  have c8 := HND1.out X7
  have BY7 := Lib.hid (BX7.out.trans (hX7.mono BX7.out.size))
  clear hX7
  with_reducible refine wpFl_go (o := ?_) (by with_unfolding_all rfl) (by with_unfolding_all rfl) (fun K hK => ?_)
  try simp only [List.getElem_toArray, List.getElem_cons_succ, List.getElem_cons_zero]
  go_simp
  with_reducible refine c8.mono ?_
  rintro e w8 ⟨rfl, hB8⟩
  have BX8 := Lib.hid (BY7.out.trans (hB8.mono BY7.out.size))
  clear c8
  with_reducible refine hK _ _ hB8 (fun X8 hX8 => ?_)
  clear hK K
  have c13 := HND2.out X8
  have BY8 := Lib.hid (BX8.out.trans (hX8.mono BX8.out.size))
  clear hX8
  with_reducible refine wpFl_go (o := ?_) (by with_unfolding_all rfl) (by with_unfolding_all rfl) (fun K hK => ?_)
  try simp only [List.getElem_toArray, List.getElem_cons_succ, List.getElem_cons_zero]
  go_simp
  with_reducible refine c13.mono ?_
  rintro e w13 ⟨rfl, hB13⟩
  have BX13 := Lib.hid (BY8.out.trans (hB13.mono BY8.out.size))
  clear c13
  with_reducible refine hK _ _ hB13 (fun X13 hX13 => ?_)
  clear hK K
  have BY13 := Lib.hid (BX13.out.trans (hX13.mono BX13.out.size))
  clear hX13 hB13 hB8 hB7 hB6
  with_reducible refine wpFl_nil ?_
  intro hXe h14 hh14 hb14
  have hst := STs_all (P := Tryz.prog) iId hb14 hz (bys D) HDL.out (bys_one _)
  have r1 := hb14.row_ (bys D).toArray
  have hBX : Below W.heap.size W X13 := HBU.out.trans (BY13.out.mono HBU.out.size)
  have hgh : W.heap.size ≤ h14 := Nat.le_trans HBU.out.size hh14
  have r2 := Below.setRow (g := h14) hBX hgh (bys D).toArray
  have HBX := Lib.hid hBX
  clear hBX hb14 hXe hh14
  refine wpAnyJ_restS [(15, 2)] true (by kernel_rfl) (by kernel_rfl) (by kernel_rfl) (fun _ => HSS.out _ BY13.out) ?_
  with_reducible refine wpTxO_last (o := ?_) (by with_unfolding_all rfl) (by with_unfolding_all rfl) (fun K hK => ?_)
  try simp only [List.getElem_toArray, List.getElem_cons_succ, List.getElem_cons_zero]
  go_simp
  with_reducible refine hK _ _ ?_
  clear hK K
  with_reducible refine wpTxO_nil ?_
  rw [noPan_normal]
  obtain ⟨Y, hY⟩ : ∃ Y, X13.setRow h14 (bys D).toArray = Y := ⟨_, rfl⟩
  rw [hY] at r1 r2 ⊢
  have R1B := Lib.hid r1
  have BW := Lib.hid r2
  clear r1 r2 hst hY hgh hal
  have F1 := fun X (hX : Below Y.heap.size Y X) => LDs_all (P := Tryz.prog) uIdA iId (bys D) (R1B.out.fr (Fr.of_below hX) (by have := R1B.out.lt; omega)) HDL.out
  have F2 := fun X (hX : Below Y.heap.size Y X) => HLR.out X (BW.out.trans (hX.mono BW.out.size))
  have F3 := fun X (hX : Below Y.heap.size Y X) => HLT.out X (BW.out.trans (hX.mono BW.out.size))
  have F4 := fun X (hX : Below Y.heap.size Y X) => K38.out X (BW.out.trans (hX.mono BW.out.size))
  have F5 := fun X (hX : Below Y.heap.size Y X) => HLH.out X (BW.out.trans (hX.mono BW.out.size))
  clear HS0 HSS S0
  obtain ⟨S0, hS0⟩ : ∃ S0 : World → Prop, (fun X => (LDs 41 (.pointer (some ⟨h14, 0, none⟩))).run Tryz.prog X = .ok (.agg (bys D).toArray) X ∧ (LDs 41 (.pointer (some ⟨g, 73, none⟩))).run Tryz.prog X = .ok (.agg vr) X ∧
    (LDs 41 (.pointer (some ⟨g, 105, none⟩))).run Tryz.prog X = .ok (.agg vt) X ∧ X.cell? ⟨g, 38, none⟩ = some (.int .i64 s2) ∧ (LDs 46 (.pointer (some ⟨g, 38, none⟩))).run Tryz.prog X = .ok (.agg vh) X) = S0 := ⟨_, rfl⟩
  have hSS : ∀ X, Below Y.heap.size Y X → S0 X := fun X hX => by rw [← hS0]; exact ⟨F1 X hX, F2 X hX, F3 X hX, F4 X hX, F5 X hX⟩
  have e1 := HQ1.out
  have HS0 := Lib.hid hS0
  have HSS := Lib.hid hSS
  clear hS0 hSS F1 F2 F3 F4 F5
  cases R1 with
  | false =>
    go_upto_region 4 with fail
    refine wp_txO [(1, 3), (2, 3), (0, 0), (3, 0), (4, 3), (5, 3), (6, 3), (7, 3), (8, 3), (9, 3), (10, 3), (11, 3), (12, 3), (13, 3), (14, 3), (15, 3), (16, 3), (17, 3), (18, 3)] S0 (by kernel_rfl) (by kernel_rfl) (by kernel_rfl) (by kernel_rfl) (HSS.out _ (Below.refl _ _).drew) ?_
    iterate 2 (with_reducible refine wpTxO_evN (o := ?_) (v := ?_) (a' := ?_) (by with_unfolding_all rfl) (by with_unfolding_all rfl) (fun W' => ?_) ?_ ?_; rotate_left 2; (focus (go_simp <;> with_reducible rfl)); focus (go_simp <;> with_reducible rfl))
    iterate 2 (with_reducible refine wpTxO_takeN (o := ?_) (v := ?_) (a' := ?_) (by with_unfolding_all rfl) (by with_unfolding_all rfl) (fun W' hS => ?_) ?_ ?_; rotate_left 2; (focus (rw [← HS0.out] at hS; obtain ⟨t1, t2, t3, t4, t5⟩ := hS; go_simp <;> with_reducible rfl)); focus (go_simp <;> with_reducible rfl))
    iterate 2 (with_reducible refine wpTxO_evN (o := ?_) (v := ?_) (a' := ?_) (by with_unfolding_all rfl) (by with_unfolding_all rfl) (fun W' => ?_) ?_ ?_; rotate_left 2; (focus (go_simp <;> with_reducible rfl)); focus (go_simp <;> with_reducible rfl))
    iterate 11 (with_reducible refine wpTxO_evd (o := ?_) (a' := ?_) (by with_unfolding_all rfl) (by with_unfolding_all rfl) ?_ ?_; rotate_left; focus (go_simp <;> with_reducible rfl))
    iterate 2 (with_reducible refine wpTxO_evN (o := ?_) (v := ?_) (a' := ?_) (by with_unfolding_all rfl) (by with_unfolding_all rfl) (fun W' => ?_) ?_ ?_; rotate_left 2; (focus (go_simp <;> with_reducible rfl)); focus (go_simp <;> with_reducible rfl))
    with_reducible refine wpTxO_nil ?_
    rw [noPan_normal]
    go_wp2_with fail
    go_ret
    exact ⟨rfl, HB.out.trans (BW.out.drew.mono HB.out.size)⟩
  | true =>
    have c14 := HHPUT.out Y.drew
    have e2 := HQ2.out
    go_upto_region 4 with fail
    refine wp_txO [(1, 3), (2, 3), (0, 0), (3, 0), (4, 3), (5, 3), (6, 3), (8, 3), (9, 3), (10, 3), (12, 3), (7, 0), (11, 0), (13, 0), (14, 1), (15, 1), (16, 3), (17, 3), (18, 3)] S0 (by kernel_rfl) (by kernel_rfl) (by kernel_rfl) (by kernel_rfl) (HSS.out _ (Below.refl _ _).drew) ?_
    iterate 2 (with_reducible refine wpTxO_evN (o := ?_) (v := ?_) (a' := ?_) (by with_unfolding_all rfl) (by with_unfolding_all rfl) (fun W' => ?_) ?_ ?_; rotate_left 2; (focus (go_simp <;> with_reducible rfl)); focus (go_simp <;> with_reducible rfl))
    iterate 2 (with_reducible refine wpTxO_takeN (o := ?_) (v := ?_) (a' := ?_) (by with_unfolding_all rfl) (by with_unfolding_all rfl) (fun W' hS => ?_) ?_ ?_; rotate_left 2; (focus (rw [← HS0.out] at hS; obtain ⟨t1, t2, t3, t4, t5⟩ := hS; go_simp <;> with_reducible rfl)); focus (go_simp <;> with_reducible rfl))
    iterate 7 (with_reducible refine wpTxO_evN (o := ?_) (v := ?_) (a' := ?_) (by with_unfolding_all rfl) (by with_unfolding_all rfl) (fun W' => ?_) ?_ ?_; rotate_left 2; (focus (go_simp <;> with_reducible rfl)); focus (go_simp <;> with_reducible rfl))
    iterate 3 (with_reducible refine wpTxO_takeN (o := ?_) (v := ?_) (a' := ?_) (by with_unfolding_all rfl) (by with_unfolding_all rfl) (fun W' hS => ?_) ?_ ?_; rotate_left 2; (focus (rw [← HS0.out] at hS; obtain ⟨t1, t2, t3, t4, t5⟩ := hS; go_simp <;> with_reducible rfl)); focus (go_simp <;> with_reducible rfl))
    with_reducible refine wpTxO_want (o := ?_) (by with_unfolding_all rfl) (by with_unfolding_all rfl) (fun K hK => ?_)
    try simp only [List.getElem_toArray, List.getElem_cons_succ, List.getElem_cons_zero]
    go_simp
    with_reducible refine c14.mono ?_
    rintro e w14 ⟨v14, rfl, hv14, hB14⟩
    have hB14Y : Below Y.heap.size Y w14 := (Below.refl _ Y).drew.trans hB14
    obtain ⟨A14, c14', rfl, hby14, _, _⟩ := Own8.byt hv14 HHB.out
    have hn14 : A14 = none → c14' = 0 := fun e => by subst e; exact Own8.nulI hv14
    have c15 := HSGN.out w14 A14 c14' hn14 (BW.out.trans (hB14Y.mono BW.out.size)) hby14
    obtain ⟨n14, hnn14⟩ : ∃ n, hf.length = n := ⟨_, rfl⟩
    rw [hnn14] at c15 ⊢
    have BX14 := Lib.hid hB14Y
    clear hB14Y hB14 hv14 hby14 hn14 hnn14 c14
    with_reducible refine hK _ _ (HSS.out _ BX14.out) ?_
    clear hK K
    with_reducible refine wpTxO_want (o := ?_) (by with_unfolding_all rfl) (by with_unfolding_all rfl) (fun K hK => ?_)
    try simp only [List.getElem_toArray, List.getElem_cons_succ, List.getElem_cons_zero]
    go_simp
    with_reducible refine c15.mono ?_
    rintro e w15 ⟨rfl, hB15⟩
    have hB15Y := BX14.out.trans (hB15.mono BX14.out.size)
    have BX15 := Lib.hid hB15Y
    clear hB15Y hB15 c15
    with_reducible refine hK _ _ (HSS.out _ BX15.out) ?_
    clear hK K
    iterate 3 (with_reducible refine wpTxO_evN (o := ?_) (v := ?_) (a' := ?_) (by with_unfolding_all rfl) (by with_unfolding_all rfl) (fun W' => ?_) ?_ ?_; rotate_left 2; (focus (go_simp <;> with_reducible rfl)); focus (go_simp <;> with_reducible rfl))
    with_reducible refine wpTxO_nil ?_
    rw [noPan_normal]
    go_wp2_with fail
    go_ret
    exact ⟨rfl, HB.out.trans ((BW.out.trans (BX15.out.mono BW.out.size)).mono HB.out.size)⟩
theorem ris_any (As : Option Addr) (cs : Nat) (seed : List Int) (hsl : seed.length ≤ 64) (n : Int) (A : Option Addr) (cap : Nat) (c : CertD) (w : World) (hc : c.Bd) (hsd : Byt w As seed) (hP : RdR 32 w A (c.path.map bys)) :
    Calls Tryz.prog 29 #[.slice As seed.length cs, .int .i64 n, .agg (certV c A cap).toArray] w fun e w' => e = .returned (.bool (isP seed n c)) ∧ Below w.heap.size w w' := by
  by_cases h1 : rightE c.e = true
  · by_cases h2 : rightH c.h = true
    · by_cases h3 : c.e.sh = c.h.sh
      · by_cases h4 : c.e.ep = c.h.ep
        · by_cases h5 : c.path.length = 2
          · by_cases h6 : c.h.sh < n
            · exact ris_yes As cs seed hsl n A cap c w hc hsd hP h1 h2 h3 h4 h5 h6
            · exact ris_no As _ cs seed n A cap c w hc (.inr (.inr (.inr (.inr (.inr ⟨h1, h2, h3, h4, h5, by omega⟩)))))
          · exact ris_no As _ cs seed n A cap c w hc (.inr (.inr (.inr (.inr (.inl ⟨h1, h2, h3, h4, h5⟩)))))
        · exact ris_no As _ cs seed n A cap c w hc (.inr (.inr (.inr (.inl ⟨h1, h2, h3, h4⟩))))
      · exact ris_no As _ cs seed n A cap c w hc (.inr (.inr (.inl ⟨h1, h2, h3⟩)))
    · exact ris_no As _ cs seed n A cap c w hc (.inr (.inl ⟨h1, by simpa using h2⟩))
  · exact ris_no As _ cs seed n A cap c w hc (.inl (by simpa using h1))
end Go.Proofs.YtmflhidmhefljaaGreatDoor
