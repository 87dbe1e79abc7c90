/-
  tree.Is; cert.Is, cert.Proves.
  cert.Is, cert.Proves.
-/
import Derived.Test.YtmflhidmhefljaaGreatDoorJTreeB
import Derived.Test.YtmflhidmhefljaaGreatDoorJTagB
import Derived.Test.YtmflhidmhefljaaGreatDoorJCertC

section
namespace Go.Proofs.YtmflhidmhefljaaGreatDoor
open Go.RowKit Go.Shelf
set_option maxRecDepth 100000

section
attribute [local go_sem ↓] ld123 st123 al123 bdId_of
set_option maxHeartbeats 4000000 in
theorem treeis_any (root : List Int) (hroot : Dig root) (Ae : Option Addr) (ce : Nat) (hce : Ae = none → ce = 0) (e : List Int) (he : e.length ≤ 400000000) (L : List (List Int)) (hL : ∀ x ∈ L, Dig x) (A : Option Addr) (c : Nat) (hc : L.length ≤ c) (hm : L.length ≤ 1000000) (w : World) (hE : Byt w Ae e) (hP : RdR 32 w A (L.map bys)) (hgl : Glob w) :
    Calls Tryz.prog 88 #[.agg (bys root).toArray, .slice Ae e.length ce, .int .i64 1, .int .i64 3, .slice A L.length c] w fun x w' => x = .returned (.bool (decide (L.length = 2) && decide (nodeP (nodeP (L.getD 0 []) (leafP e)) (L.getD 1 []) = root))) ∧ Below w.heap.size w w' := by
  obtain ⟨Z, hal, hst0, hz⟩ := alstZ (P := Tryz.prog) (t := 41) iId zIdS
  have b0 := Blk.new w 41 ((bys root).toArray)
  have B0 : Below w.heap.size w (w.alloc (.cells ((bys root).toArray) 41)) := (Below.refl _ w).alloc (Nat.le_refl _) _
  obtain ⟨W, hW⟩ : ∃ W, w.alloc (.cells ((bys root).toArray) 41) = W := ⟨_, rfl⟩
  rw [hW] at b0 B0
  obtain ⟨g, hg⟩ : ∃ g, w.heap.size = g := ⟨_, rfl⟩
  rw [hg] at b0
  rw [← climbP_eq]
  have hcl := climb_any Ae ce hce e he L hL A c hc hm W (hE.below B0) (hP.below B0) (hgl.below B0)
  have hdC := Dig.climb e L
  obtain ⟨⟨D, R⟩, hDR⟩ : ∃ p, climbP e L = p := ⟨_, rfl⟩
  rw [hDR] at hcl hdC ⊢
  simp only at hcl hdC ⊢
  obtain ⟨n, hn⟩ : ∃ n, e.length = n := ⟨_, rfl⟩
  obtain ⟨m, hm2⟩ : ∃ n, L.length = n := ⟨_, rfl⟩
  rw [hn, hm2] at hcl ⊢
  have hDl : (bys D).length = 32 := by rw [bys_length, hdC.1]
  have hRl : (bys root).length = 32 := by rw [bys_length, hroot.1]
  have hsame := fun X => same_any D root hdC hroot X
  obtain ⟨b, hb⟩ : ∃ b, decide (D = root) = b := ⟨_, rfl⟩
  rw [hb] at hsame ⊢
  obtain ⟨xs, hxs⟩ : ∃ xs, bys root = xs := ⟨_, rfl⟩
  rw [hxs] at hW b0 hsame hRl ⊢
  cases R with
  | true =>
    rw [Bool.true_and]
    have HW := Lib.hid hW
    have HG := Lib.hid hg
    have HB := Lib.hid B0
    have HBK := Lib.hid b0
    have HDL := Lib.hid hDl
    have HRL := Lib.hid hRl
    have HS := Lib.hid hsame
    clear hW hg B0 b0 hDl hRl hsame hdC hDR hn hm2 hc hm he hE hP hgl hL hce hxs hb hroot
    go_enter Tryz.func88, Tryz.ntmps88
    go_upto_region 1 with fail
    rw [HW.out, HG.out]
    go_wp2_with fail
    with_reducible refine hcl.mono ?_
    rintro e w2 ⟨rfl, hB2⟩
    have q1 := (Blk.new w2 41 (bys D).toArray)
    have q0 := (HBK.out.fr (Fr.of_below hB2) (by have := HBK.out.lt; omega)).alloc (.cells (bys D).toArray 41)
    have q2 := (HB.out.trans (hB2.mono HB.out.size)).alloc (HB.out.trans (hB2.mono HB.out.size)).size (.cells (bys D).toArray 41)
    have hst1 := hst0 w2 (bys D) HDL.out (bys_one _)
    obtain ⟨X, hX⟩ : ∃ X, w2.alloc (.cells (bys D).toArray 41) = X := ⟨_, rfl⟩
    rw [hX] at q1 q0 q2 hst1
    have hld := LDs_all (P := Tryz.prog) uIdA iId (bys D) q1 HDL.out
    have hld2 := LDs_all (P := Tryz.prog) uIdA iId xs q0 HRL.out
    have hs := HS.out X
    have Q2 := Lib.hid q2
    clear q2 hB2 q1 q0 hX hcl hst0 HS
    go_wp2_with fail
    with_reducible refine hs.mono ?_
    rintro e w3 ⟨rfl, hB3⟩
    have HB3 := Lib.hid hB3
    clear hB3 hs
    go_wp2_with fail
    go_ret
    exact ⟨rfl, Q2.out.trans (HB3.out.mono Q2.out.size)⟩
  | false =>
    rw [Bool.false_and]
    have HW := Lib.hid hW
    have HG := Lib.hid hg
    have HB := Lib.hid B0
    have HBK := Lib.hid b0
    have HDL := Lib.hid hDl
    have HRL := Lib.hid hRl
    clear hW hg B0 b0 hDl hRl hsame hdC hDR hn hm2 hc hm he hE hP hgl hL hce hxs hb hroot
    go_enter Tryz.func88, Tryz.ntmps88
    go_upto_region 1 with fail
    rw [HW.out, HG.out]
    go_wp2_with fail
    with_reducible refine hcl.mono ?_
    rintro e w2 ⟨rfl, hB2⟩
    have q2 := (HB.out.trans (hB2.mono HB.out.size)).alloc (HB.out.trans (hB2.mono HB.out.size)).size (.cells (bys D).toArray 41)
    have hst1 := hst0 w2 (bys D) HDL.out (bys_one _)
    have Q2 := Lib.hid q2
    clear q2 hB2 hcl hst0
    go_wp2_with fail
    go_ret
    exact ⟨rfl, Q2.out⟩
end

theorem certV_eq (c : CertD) (A : Option Addr) (cap : Nat) : certV c A cap = entV c.e ++ (.slice A c.path.length cap :: (headV c.h ++ bys c.tag)) := by
  unfold certV
  simp [List.append_assoc]
theorem certV_e {c : CertD} (h : c.Bd) (A : Option Addr) (cap : Nat) : ((certV c A cap).drop 0).take 37 = entV c.e := by
  have := entV_len h.e
  rw [List.drop_zero, certV_eq, List.take_append_of_le_length (by omega), List.take_of_length_le (by omega)]
theorem certV_drop {c : CertD} (h : c.Bd) (A : Option Addr) (cap k : Nat) : (certV c A cap).drop (38 + k) = (headV c.h ++ bys c.tag).drop k := by
  have := entV_len h.e
  rw [certV_eq, List.drop_append, List.drop_of_length_le (by omega), List.nil_append, this, show 38 + k - 37 = k + 1 by omega, List.drop_succ_cons]
theorem certV_h {c : CertD} (h : c.Bd) (A : Option Addr) (cap : Nat) : ((certV c A cap).drop 38).take 67 = headV c.h := by
  have := headV_len h.h
  rw [show 38 = 38 + 0 from rfl, certV_drop h, List.drop_zero, List.take_append_of_le_length (by omega), List.take_of_length_le (by omega)]
theorem certV_tag {c : CertD} (h : c.Bd) (A : Option Addr) (cap : Nat) : ((certV c A cap).drop 105).take 32 = bys c.tag := by
  have := headV_len h.h
  have h2 : (bys c.tag).length = 32 := by rw [bys_length, h.tag.1]
  rw [show 105 = 38 + 67 from rfl, certV_drop h, List.drop_append, List.drop_of_length_le (by omega), List.nil_append, this, Nat.sub_self, List.drop_zero, List.take_of_length_le (by omega)]
theorem certV_root {c : CertD} (h : c.Bd) (A : Option Addr) (cap : Nat) : ((certV c A cap).drop 73).take 32 = bys c.h.root := by
  have h0 := headV_len h.h
  have h1 : (bys c.h.prev).length = 32 := by rw [bys_length, h.h.prev.1]
  have h2 : (bys c.h.root).length = 32 := by rw [bys_length, h.h.root.1]
  rw [show 73 = 38 + 35 from rfl, certV_drop h, List.drop_append_of_le_length (by omega)]
  have e : (headV c.h).drop 35 = bys c.h.root := by
    unfold headV
    rw [List.drop_append, List.drop_of_length_le (by simp [h1]), List.nil_append]
    simp [h1]
  rw [e, List.take_append_of_le_length (by omega), List.take_of_length_le (by omega)]
theorem certV_tx {c : CertD} (h : c.Bd) (A : Option Addr) (cap : Nat) : ((certV c A cap).drop 2).take 32 = bys c.e.tx := by
  have h1 : (bys c.e.tx).length = 32 := by rw [bys_length, h.e.tx.1]
  unfold certV entV
  simp only [List.append_assoc, List.cons_append, List.nil_append, List.drop_succ_cons, List.drop_zero]
  rw [List.take_append_of_le_length (by omega), List.take_of_length_le (by omega)]
theorem certV_c {c : CertD} (h : c.Bd) (A : Option Addr) (cap : Nat) : (certV c A cap).toArray[0]? = some (.int .i64 c.e.kind) ∧ (certV c A cap).toArray[1]? = some (.int .i64 c.e.sh) ∧ (certV c A cap).toArray[34]? = some (.int .u64 c.e.am) ∧
    (certV c A cap).toArray[36]? = some (.int .i64 c.e.ep) ∧ (certV c A cap).toArray[37]? = some (.slice A c.path.length cap) ∧ (certV c A cap).toArray[38]? = some (.int .i64 c.h.sh) ∧ (certV c A cap).toArray[40]? = some (.int .i64 c.h.ep) := by
  have h1 : (bys c.e.tx).length = 32 := by rw [bys_length, h.e.tx.1]
  unfold certV entV headV
  refine ⟨rfl, rfl, ?_, ?_, ?_, ?_, ?_⟩ <;> simp [List.getElem?_append, h1]
end Go.Proofs.YtmflhidmhefljaaGreatDoor
end

section
namespace Go.Proofs.YtmflhidmhefljaaGreatDoor
open Go.RowKit Go.Shelf
set_option maxRecDepth 100000
attribute [local go_sem ↓] ldEnt_of ldHead_of ld123 st123 al123

theorem uCert : (Tryz.prog.underlying 48).map isAggD = some true := by kernel_rfl
theorem iCert : (Tryz.prog.info? 48).map (·.size) = some 137 := by kernel_rfl
theorem zCert : (((Tryz.prog.info? 48).bind (·.zero)).map (·.cells.size)) = some 137 := by kernel_rfl
theorem ldCert_of (v : Value) : Instr.loadAt 48 v = LDs 48 v := rfl
theorem stCert_of (v x : Value) : Instr.storeAt 48 v x = STs 48 v x := rfl
theorem alCert_of : Instr.alloc 48 true (.tuple #[]) = ALs 48 := rfl
attribute [local go_sem ↓] ldCert_of stCert_of alCert_of
theorem own8_N {B : Nat} {w : World} {v : Value} {l : List Int} (h : Own8 B w v l) : ∃ A N c, v = .slice A N c := by
  obtain ⟨A, c, e⟩ := Own8.form h
  exact ⟨A, _, c, e⟩
theorem entF_bd {e : EntD} (h : e.Bd) : ∀ x ∈ entF e, 0 ≤ x ∧ x ≤ 255 := by
  unfold entF
  have h1 := h.kind
  have h2 := h.sh
  have h3 := h.am
  have h4 := h.why
  have h5 := h.ep
  unfold InI at h1 h2 h4 h5
  exact bd_app (bd_app (bd_app (bd_app (bd_app (numP_bd (by omega)) (numP_bd (by omega))) h.tx.2) (numP_bd (by omega))) (numP_bd (by omega))) (numP_bd (by omega))
theorem headF_bd {e : HeadD} (h : e.Bd) : ∀ x ∈ headF e, 0 ≤ x ∧ x ≤ 255 := by
  unfold headF
  have h1 := h.sh
  have h2 := h.ht
  have h5 := h.ep
  unfold InI at h1 h2 h5
  exact bd_app (bd_app (bd_app (bd_app (numP_bd (by omega)) (numP_bd (by omega))) (numP_bd (by omega))) h.prev.2) h.root.2

set_option maxHeartbeats 8000000 in
theorem certis_no (p k : Nat) (seed : List Int) (A : Option Addr) (cap : Nat) (c : CertD) (w : World) (hc : c.Bd)
    (h : rightE c.e = false ∨ (rightE c.e = true ∧ rightH c.h = false) ∨ (rightE c.e = true ∧ rightH c.h = true ∧ c.e.sh ≠ c.h.sh) ∨ (rightE c.e = true ∧ rightH c.h = true ∧ c.e.sh = c.h.sh ∧ c.e.ep ≠ c.h.ep)) :
    Calls Tryz.prog 51 #[.pointer (some ⟨p, 0, none⟩), .agg (certV c A cap).toArray] w fun e w' => e = .returned (.bool (isP seed k c)) ∧ Below w.heap.size w w' := by
  have hres : isP seed k c = false := by
    unfold isP
    rcases h with h | ⟨h1, h⟩ | ⟨h1, h2, h⟩ | ⟨h1, h2, h3, h⟩ <;> simp_all
  rw [hres]
  have b0 := Blk.new w 48 ((certV c A cap).toArray)
  have B0 : Below w.heap.size w (w.alloc (.cells ((certV c A cap).toArray) 48)) := (Below.refl _ w).alloc (Nat.le_refl _) _
  obtain ⟨W, hW⟩ : ∃ W, w.alloc (.cells ((certV c A cap).toArray) 48) = W := ⟨_, rfl⟩
  rw [hW] at b0 B0
  obtain ⟨g, hg⟩ : ∃ g, w.heap.size = g := ⟨_, rfl⟩
  rw [hg] at b0
  have hldE := LDs_aggB (P := Tryz.prog) uEnt iEnt b0 (off := 0) (entV c.e) (entV_len hc.e) (by simpa using certV_e hc A cap)
  have hldH := fun X (hX : Below W.heap.size W X) => LDs_aggB (P := Tryz.prog) uHead iHead (b0.fr (Fr.of_below hX) (by have := b0.lt; omega)) (off := 38) (headV c.h) (headV_len hc.h) (by simpa using certV_h hc A cap)
  have hp1 := entput_any c.e hc.e W
  have hp2 := fun X => headput_any c.h hc.h X
  have cc := certV_c hc A cap
  have k1 : ∀ X, Below W.heap.size W X → X.cell? ⟨g, 1, none⟩ = some (.int .i64 c.e.sh) := fun X hX => ((b0.fr (Fr.of_below hX) (by have := b0.lt; omega)).cell 1).trans cc.2.1
  have k36 : ∀ X, Below W.heap.size W X → X.cell? ⟨g, 36, none⟩ = some (.int .i64 c.e.ep) := fun X hX => ((b0.fr (Fr.of_below hX) (by have := b0.lt; omega)).cell 36).trans cc.2.2.2.1
  have k38 : ∀ X, Below W.heap.size W X → X.cell? ⟨g, 38, none⟩ = some (.int .i64 c.h.sh) := fun X hX => ((b0.fr (Fr.of_below hX) (by have := b0.lt; omega)).cell 38).trans cc.2.2.2.2.2.1
  have k40 : ∀ X, Below W.heap.size W X → X.cell? ⟨g, 40, none⟩ = some (.int .i64 c.h.ep) := fun X hX => ((b0.fr (Fr.of_below hX) (by have := b0.lt; omega)).cell 40).trans cc.2.2.2.2.2.2
  have hq : (rightE c.e = false) ∨ (rightE c.e = true ∧ rightH c.h = false) ∨ (rightE c.e = true ∧ rightH c.h = true ∧ (c.e.sh != c.h.sh) = true) ∨ (rightE c.e = true ∧ rightH c.h = true ∧ (c.e.sh != c.h.sh) = false ∧ (c.e.ep != c.h.ep) = true) := by
    rcases h with h | h | ⟨h1, h2, h⟩ | ⟨h1, h2, h3, h⟩
    · exact .inl h
    · exact .inr (.inl h)
    · exact .inr (.inr (.inl ⟨h1, h2, by simpa using h⟩))
    · exact .inr (.inr (.inr ⟨h1, h2, by simpa using h3, by simpa using h⟩))
  clear h hres cc
  obtain ⟨rE, hrE⟩ : ∃ r, rightE c.e = r := ⟨_, rfl⟩
  obtain ⟨rH, hrH⟩ : ∃ r, rightH c.h = r := ⟨_, rfl⟩
  rw [hrE, hrH] at hq
  rw [hrE] at hp1
  rw [hrH] at hp2
  obtain ⟨s1, hs1⟩ : ∃ s, c.e.sh = s := ⟨_, rfl⟩
  obtain ⟨s2, hs2⟩ : ∃ s, c.h.sh = s := ⟨_, rfl⟩
  obtain ⟨t1, ht1⟩ : ∃ s, c.e.ep = s := ⟨_, rfl⟩
  obtain ⟨t2, ht2⟩ : ∃ s, c.h.ep = s := ⟨_, rfl⟩
  rw [hs1] at k1 hq
  rw [hs2] at k38 hq
  rw [ht1] at k36 hq
  rw [ht2] at k40 hq
  obtain ⟨xs, hxs⟩ : ∃ xs, (certV c A cap).toArray = xs := ⟨_, rfl⟩
  rw [hxs] at hW ⊢
  obtain ⟨ve, hve⟩ : ∃ ve, (entV c.e).toArray = ve := ⟨_, rfl⟩
  obtain ⟨vh, hvh⟩ : ∃ ve, (headV c.h).toArray = ve := ⟨_, rfl⟩
  rw [hve] at hldE hp1
  rw [hvh] at hldH hp2
  have HW := Lib.hid hW
  have HG := Lib.hid hg
  have HB := Lib.hid B0
  have HLH := Lib.hid hldH
  have K1 := Lib.hid k1
  have K36 := Lib.hid k36
  have K38 := Lib.hid k38
  have K40 := Lib.hid k40
  have HP2 := Lib.hid hp2
  clear hW hg B0 hldH k1 k36 k38 k40 hp2 hrE hrH hs1 hs2 ht1 ht2 hxs hve hvh b0 hc
  rcases hq with rfl | ⟨rfl, rfl⟩ | ⟨rfl, rfl, hS⟩ | ⟨rfl, rfl, hS, hT⟩
  all_goals
    go_enter Tryz.func51, Tryz.ntmps51
    go_upto_region 1 with fail
    rw [HW.out, HG.out]
    go_wp2_with fail
    with_reducible refine hp1.mono ?_
    rintro e w1 ⟨v1, rfl, hv1, hB1⟩
    obtain ⟨A1, N1, c1, rfl⟩ := own8_N hv1
    have hldH := HLH.out w1 hB1
    have hp2 := HP2.out w1
    have HB1 := Lib.hid hB1
    clear hB1 hv1 hp1 hldE
    go_wp2_with fail
    with_reducible refine hp2.mono ?_
    rintro e w2 ⟨v2, rfl, hv2, hB2⟩
    obtain ⟨A2, N2, c2, rfl⟩ := own8_N hv2
    have hB2W := HB1.out.trans (hB2.mono HB1.out.size)
    have q1 := K1.out w2 hB2W
    have q2 := K36.out w2 hB2W
    have q3 := K38.out w2 hB2W
    have q4 := K40.out w2 hB2W
    have HB2 := Lib.hid hB2W
    clear hB2W hv2 hB2 hp2 hldH
    go_wp2_with fail
    go_ret
    exact ⟨rfl, HB.out.trans (HB2.out.mono HB.out.size)⟩

theorem isP_yes {seed : List Int} {k : Nat} {c : CertD} (hE : rightE c.e = true) (hH : rightH c.h = true) (hs : c.e.sh = c.h.sh) (hp : c.e.ep = c.h.ep) :
    isP seed k c = ((decide (c.path.length = 2) && decide (nodeP (nodeP (c.path.getD 0 []) (leafP (entF c.e))) (c.path.getD 1 []) = c.h.root)) && (decide (0 ≤ c.h.sh ∧ c.h.sh < k) && decide (c.tag = signP seed c.h.sh (headF c.h)))) := by
  have h0 := ((rightH_iff _).1 hH).1.1
  unfold isP
  rw [hE, hH, hs, hp]
  simp only [decide_true, Bool.true_and, h0, true_and]
  cases decide (c.path.length = 2) <;> cases decide (nodeP (nodeP (c.path.getD 0 []) (leafP (entF c.e))) (c.path.getD 1 []) = c.h.root) <;> cases decide (c.h.sh < (k : Int)) <;> rfl
theorem entF_len {e : EntD} (h : e.Bd) : (entF e).length ≤ 100 := by
  have h1 := h.kind
  have h2 := h.sh
  have h3 := h.am
  have h4 := h.why
  have h5 := h.ep
  unfold InI at h1 h2 h4 h5
  have n1 := numP_le (n := e.kind.toNat) (by omega)
  have n2 := numP_le (n := e.sh.toNat) (by omega)
  have n3 := numP_le (n := e.am.toNat) (by omega)
  have n4 := numP_le (n := e.why.toNat) (by omega)
  have n5 := numP_le (n := e.ep.toNat) (by omega)
  have := h.tx.1
  unfold entF
  simp only [List.length_append]
  omega
theorem headF_len {e : HeadD} (h : e.Bd) : (headF e).length ≤ 100 := by
  have h1 := h.sh
  have h2 := h.ht
  have h5 := h.ep
  unfold InI at h1 h2 h5
  have n1 := numP_le (n := e.sh.toNat) (by omega)
  have n2 := numP_le (n := e.ht.toNat) (by omega)
  have n3 := numP_le (n := e.ep.toNat) (by omega)
  have := h.prev.1
  have := h.root.1
  unfold headF
  simp only [List.length_append]
  omega

set_option maxHeartbeats 8000000 in
theorem certis_yes (p k : Nat) (seed : List Int) (A : Option Addr) (cap : Nat) (c : CertD) (w : World) (hr : RingAt w p seed k) (hk : k ≤ 64) (hc : c.Bd) (hcap : c.path.length ≤ cap) (hpl : c.path.length ≤ 1000000) (hP : RdR 32 w A (c.path.map bys)) (hgl : Glob w)
    (hE : rightE c.e = true) (hH : rightH c.h = true) (hs : c.e.sh = c.h.sh) (hp : c.e.ep = c.h.ep) :
    Calls Tryz.prog 51 #[.pointer (some ⟨p, 0, none⟩), .agg (certV c A cap).toArray] w fun e w' => e = .returned (.bool (isP seed k c)) ∧ Below w.heap.size w w' := by
  rw [isP_yes hE hH hs hp]
  have b0 := Blk.new w 48 ((certV c A cap).toArray)
  have B0 : Below w.heap.size w (w.alloc (.cells ((certV c A cap).toArray) 48)) := (Below.refl _ w).alloc (Nat.le_refl _) _
  obtain ⟨W, hW⟩ : ∃ W, w.alloc (.cells ((certV c A cap).toArray) 48) = W := ⟨_, rfl⟩
  rw [hW] at b0 B0
  obtain ⟨g, hg⟩ : ∃ g, w.heap.size = g := ⟨_, rfl⟩
  rw [hg] at b0
  have hldE := LDs_aggB (P := Tryz.prog) uEnt iEnt b0 (off := 0) (entV c.e) (entV_len hc.e) (by simpa using certV_e hc A cap)
  have hldH := fun X (hX : Below W.heap.size W X) => LDs_aggB (P := Tryz.prog) uHead iHead (b0.fr (Fr.of_below hX) (by have := b0.lt; omega)) (off := 38) (headV c.h) (headV_len hc.h) (by simpa using certV_h hc A cap)
  have hldR := fun X (hX : Below W.heap.size W X) => LDs_aggB (P := Tryz.prog) uIdA iId (b0.fr (Fr.of_below hX) (by have := b0.lt; omega)) (off := 73) (bys c.h.root) (by rw [bys_length, hc.h.root.1]) (by simpa using certV_root hc A cap)
  have hldT := fun X (hX : Below W.heap.size W X) => LDs_aggB (P := Tryz.prog) uIdA iId (b0.fr (Fr.of_below hX) (by have := b0.lt; omega)) (off := 105) (bys c.tag) (by rw [bys_length, hc.tag.1]) (by simpa using certV_tag hc A cap)
  have hp1 := entput_any c.e hc.e W
  have hp2 := fun X => headput_any c.h hc.h X
  rw [hE, if_pos rfl] at hp1
  simp only [hH, if_true] at hp2
  have cc := certV_c hc A cap
  have k1 : ∀ X, Below W.heap.size W X → X.cell? ⟨g, 1, none⟩ = some (.int .i64 c.e.sh) := fun X hX => ((b0.fr (Fr.of_below hX) (by have := b0.lt; omega)).cell 1).trans cc.2.1
  have k36 : ∀ X, Below W.heap.size W X → X.cell? ⟨g, 36, none⟩ = some (.int .i64 c.e.ep) := fun X hX => ((b0.fr (Fr.of_below hX) (by have := b0.lt; omega)).cell 36).trans cc.2.2.2.1
  have k37 : ∀ X, Below W.heap.size W X → X.cell? ⟨g, 37, none⟩ = some (.slice A c.path.length cap) := fun X hX => ((b0.fr (Fr.of_below hX) (by have := b0.lt; omega)).cell 37).trans cc.2.2.2.2.1
  have k38 : ∀ X, Below W.heap.size W X → X.cell? ⟨g, 38, none⟩ = some (.int .i64 c.h.sh) := fun X hX => ((b0.fr (Fr.of_below hX) (by have := b0.lt; omega)).cell 38).trans cc.2.2.2.2.2.1
  have k40 : ∀ X, Below W.heap.size W X → X.cell? ⟨g, 40, none⟩ = some (.int .i64 c.h.ep) := fun X hX => ((b0.fr (Fr.of_below hX) (by have := b0.lt; omega)).cell 40).trans cc.2.2.2.2.2.2
  have htree := fun X (hX : Below W.heap.size W X) (Ae : Option Addr) (ce : Nat) (hce : Ae = none → ce = 0) (hE : Byt X Ae (entF c.e)) => treeis_any c.h.root hc.h.root Ae ce hce (entF c.e) (by have := entF_len hc.e; omega) c.path hc.path A cap hcap hpl X hE ((hP.below B0).below hX) ((hgl.below B0).below hX)
  have hring := fun X (hX : Below W.heap.size W X) (Ah : Option Addr) (ch : Nat) (hch : Ah = none → ch = 0) (hH : Byt X Ah (headF c.h)) => ringis_any p k seed c.h.sh Ah ch (headF c.h) c.tag X ((hr.below B0).below hX) hk hH hch (by have := headF_len hc.h; omega) hc.tag ((hgl.below B0).below hX)
  obtain ⟨R1, hR1⟩ : ∃ R, (decide (c.path.length = 2) && decide (nodeP (nodeP (c.path.getD 0 []) (leafP (entF c.e))) (c.path.getD 1 []) = c.h.root)) = R := ⟨_, rfl⟩
  rw [hR1]
  simp only [hR1] at htree
  obtain ⟨R2, hR2⟩ : ∃ R, (decide (0 ≤ c.h.sh ∧ c.h.sh < k) && decide (c.tag = signP seed c.h.sh (headF c.h))) = R := ⟨_, rfl⟩
  rw [hR2]
  simp only [hR2] at hring
  have hebd := entF_bd hc.e
  have hhbd := headF_bd hc.h
  have hS : (c.e.sh != c.h.sh) = false := by simpa using hs
  have hT : (c.e.ep != c.h.ep) = false := by simpa using hp
  obtain ⟨ef, hef⟩ : ∃ x, entF c.e = x := ⟨_, rfl⟩
  obtain ⟨hf, hhf⟩ : ∃ x, headF c.h = x := ⟨_, rfl⟩
  rw [hef] at hp1 htree hebd
  simp only [hhf] at hp2 hring hhbd
  obtain ⟨s1, hs1⟩ : ∃ s, c.e.sh = s := ⟨_, rfl⟩
  obtain ⟨s2, hs2⟩ : ∃ s, c.h.sh = s := ⟨_, rfl⟩
  obtain ⟨t1, ht1⟩ : ∃ s, c.e.ep = s := ⟨_, rfl⟩
  obtain ⟨t2, ht2⟩ : ∃ s, c.h.ep = s := ⟨_, rfl⟩
  rw [hs1] at k1 hS
  rw [hs2] at k38 hS hring
  rw [ht1] at k36 hT
  rw [ht2] at k40 hT
  obtain ⟨xs, hxs⟩ : ∃ xs, (certV c A cap).toArray = xs := ⟨_, rfl⟩
  rw [hxs] at hW ⊢
  obtain ⟨ve, hve⟩ : ∃ ve, (entV c.e).toArray = ve := ⟨_, rfl⟩
  obtain ⟨vh, hvh⟩ : ∃ ve, (headV c.h).toArray = ve := ⟨_, rfl⟩
  obtain ⟨vr, hvr⟩ : ∃ ve, (bys c.h.root).toArray = ve := ⟨_, rfl⟩
  obtain ⟨vt, hvt⟩ : ∃ ve, (bys c.tag).toArray = ve := ⟨_, rfl⟩
  rw [hve] at hldE hp1
  rw [hvh] at hldH hp2
  rw [hvr] at hldR htree
  rw [hvt] at hldT hring
  obtain ⟨pl, hpl2⟩ : ∃ n, c.path.length = n := ⟨_, rfl⟩
  rw [hpl2] at k37 htree
  have HW := Lib.hid hW
  have HG := Lib.hid hg
  have HB := Lib.hid B0
  have HLH := Lib.hid hldH
  have HLR := Lib.hid hldR
  have HLT := Lib.hid hldT
  have K1 := Lib.hid k1
  have K36 := Lib.hid k36
  have K37 := Lib.hid k37
  have K38 := Lib.hid k38
  have K40 := Lib.hid k40
  have HP2 := Lib.hid hp2
  have HTREE := Lib.hid htree
  have HRING := Lib.hid hring
  have HEB := Lib.hid hebd
  have HHB := Lib.hid hhbd
  clear hW hg B0 hldH hldR hldT k1 k36 k37 k38 k40 hp2 htree hring hebd hhbd hs1 hs2 ht1 ht2 hxs hve hvh hvr hvt b0 hc hr hk hcap hpl hP hgl hE hH hs hp cc hR1 hR2 hef hhf hpl2
  go_enter Tryz.func51, Tryz.ntmps51
  go_upto_region 1 with fail
  rw [HW.out, HG.out]
  go_wp2_with fail
  with_reducible refine hp1.mono ?_
  rintro e w1 ⟨v1, rfl, hv1, hB1⟩
  obtain ⟨A1, c1, rfl, hby1, _, _⟩ := Own8.byt hv1 HEB.out
  have hldH := HLH.out w1 hB1
  have hp2 := HP2.out w1
  have hn1 : A1 = none → c1 = 0 := fun e => by subst e; exact Own8.nulI hv1
  obtain ⟨n1, hnn1⟩ : ∃ n, ef.length = n := ⟨_, rfl⟩
  rw [hnn1] at HTREE ⊢
  have HB1 := Lib.hid hB1
  have HBY1 := Lib.hid hby1
  have HN1 := Lib.hid hn1
  clear hB1 hby1 hn1 hv1 hp1 hldE hnn1
  go_wp2_with fail
  with_reducible refine hp2.mono ?_
  rintro e w2 ⟨v2, rfl, hv2, hB2⟩
  obtain ⟨A2, c2, rfl, hby2, _, _⟩ := Own8.byt hv2 HHB.out
  have hn2 : A2 = none → c2 = 0 := fun e => by subst e; exact Own8.nulI hv2
  have hB2W := HB1.out.trans (hB2.mono HB1.out.size)
  have q1 := K1.out w2 hB2W
  have q2 := K36.out w2 hB2W
  have q3 := K38.out w2 hB2W
  have q4 := K40.out w2 hB2W
  have q5 := K37.out w2 hB2W
  have q6 := HLR.out w2 hB2W
  have ht := HTREE.out w2 hB2W A1 c1 HN1.out (HBY1.out.below hB2)
  obtain ⟨n2, hnn2⟩ : ∃ n, hf.length = n := ⟨_, rfl⟩
  rw [hnn2] at HRING ⊢
  have HB2 := Lib.hid hB2W
  have HBY2 := Lib.hid hby2
  have HN2 := Lib.hid hn2
  clear hB2W hby2 hn2 hv2 hB2 hp2 hldH hnn2
  go_wp2_with fail
  with_reducible refine ht.mono ?_
  rintro e w3 ⟨rfl, hB3⟩
  have hB3W := HB2.out.trans (hB3.mono HB2.out.size)
  cases R1 with
  | true =>
    have q7 := K38.out w3 hB3W
    have q8 := HLT.out w3 hB3W
    have hri := HRING.out w3 hB3W A2 c2 HN2.out (HBY2.out.below hB3)
    have HB3 := Lib.hid hB3W
    clear hB3W hB3 ht q1 q2 q3 q4 q5 q6
    go_wp2_with fail
    with_reducible refine hri.mono ?_
    rintro e w4 ⟨rfl, hB4⟩
    have HB4 := Lib.hid hB4
    clear hB4 hri
    go_wp2_with fail
    go_ret
    exact ⟨rfl, HB.out.trans ((HB3.out.trans (HB4.out.mono HB3.out.size)).mono HB.out.size)⟩
  | false =>
    have HB3 := Lib.hid hB3W
    clear hB3W hB3 ht q1 q2 q3 q4 q5 q6
    go_wp2_with fail
    go_ret
    exact ⟨rfl, HB.out.trans (HB3.out.mono HB.out.size)⟩
theorem certis_any (p k : Nat) (seed : List Int) (A : Option Addr) (cap : Nat) (c : CertD) (w : World) (hr : RingAt w p seed k) (hk : k ≤ 64) (hc : c.Bd) (hcap : c.path.length ≤ cap) (hpl : c.path.length ≤ 1000000) (hP : RdR 32 w A (c.path.map bys)) (hgl : Glob w) :
    Calls Tryz.prog 51 #[.pointer (some ⟨p, 0, none⟩), .agg (certV c A cap).toArray] w fun e w' => e = .returned (.bool (isP seed k c)) ∧ Below w.heap.size w w' := by
  by_cases h1 : rightE c.e = true
  · by_cases h2 : rightH c.h = true
    · by_cases h3 : c.e.sh = c.h.sh
      · by_cases h4 : c.e.ep = c.h.ep
        · exact certis_yes p k seed A cap c w hr hk hc hcap hpl hP hgl h1 h2 h3 h4
        · exact certis_no p k seed A cap c w hc (.inr (.inr (.inr ⟨h1, h2, h3, h4⟩)))
      · exact certis_no p k seed A cap c w hc (.inr (.inr (.inl ⟨h1, h2, h3⟩)))
    · exact certis_no p k seed A cap c w hc (.inr (.inl ⟨h1, by simpa using h2⟩))
  · exact certis_no p k seed A cap c w hc (.inl (by simpa using h1))

set_option maxHeartbeats 4000000 in
theorem proves_any (p k : Nat) (seed : List Int) (A : Option Addr) (cap : Nat) (c : CertD) (kd sh : Int) (id : List Int) (hid : Dig id) (w : World) (hr : RingAt w p seed k) (hk : k ≤ 64) (hc : c.Bd) (hcap : c.path.length ≤ cap) (hpl : c.path.length ≤ 1000000) (hP : RdR 32 w A (c.path.map bys)) (hgl : Glob w) :
    Calls Tryz.prog 27 #[.pointer (some ⟨p, 0, none⟩), .agg (certV c A cap).toArray, .int .i64 kd, .int .i64 sh, .agg (bys id).toArray] w fun e w' => e = .returned (.bool (isP seed k c && (decide (c.e.kind = kd) && (decide (c.e.sh = sh) && decide (c.e.tx = id))))) ∧ Below w.heap.size w w' := by
  have b0 := Blk.new w 48 ((certV c A cap).toArray)
  have B0 : Below w.heap.size w (w.alloc (.cells ((certV c A cap).toArray) 48)) := (Below.refl _ w).alloc (Nat.le_refl _) _
  obtain ⟨W, hW⟩ : ∃ W, w.alloc (.cells ((certV c A cap).toArray) 48) = W := ⟨_, rfl⟩
  rw [hW] at b0 B0
  obtain ⟨g, hg⟩ : ∃ g, w.heap.size = g := ⟨_, rfl⟩
  rw [hg] at b0
  obtain ⟨yi, hyi⟩ : ∃ y, (bys id).toArray = y := ⟨_, rfl⟩
  have b1 := Blk.new W 41 yi
  have B1 : Below w.heap.size w (W.alloc (.cells yi 41)) := B0.alloc B0.size _
  obtain ⟨V, hV⟩ : ∃ X, W.alloc (.cells yi 41) = X := ⟨_, rfl⟩
  rw [hV] at b1 B1
  have hWsz : W.heap.size = g+1 := by first | exact hg | (rw [← hW]; simp [hg]) | (rw [← hW]; simp; omega)
  rw [hWsz] at b1
  subst hyi
  have b01 := b0.alloc (.cells (bys id).toArray 41)
  rw [hV] at b01
  have hil : (bys id).length = 32 := by rw [bys_length, hid.1]
  have hldC := LDs_all (P := Tryz.prog) uCert iCert (certV c A cap) b01 (certV_len hc A cap)
  have hldI := fun X (hX : Below V.heap.size V X) => LDs_all (P := Tryz.prog) uIdA iId (bys id) (b1.fr (Fr.of_below hX) (by have := b1.lt; omega)) hil
  have hldT := fun X (hX : Below V.heap.size V X) => LDs_aggB (P := Tryz.prog) uIdA iId (b01.fr (Fr.of_below hX) (by have := b01.lt; omega)) (off := 2) (bys c.e.tx) (by rw [bys_length, hc.e.tx.1]) (by simpa using certV_tx hc A cap)
  have cc := certV_c hc A cap
  have k0 : ∀ X, Below V.heap.size V X → X.cell? ⟨g, 0, none⟩ = some (.int .i64 c.e.kind) := fun X hX => ((b01.fr (Fr.of_below hX) (by have := b01.lt; omega)).cell 0).trans cc.1
  have k1 : ∀ X, Below V.heap.size V X → X.cell? ⟨g, 1, none⟩ = some (.int .i64 c.e.sh) := fun X hX => ((b01.fr (Fr.of_below hX) (by have := b01.lt; omega)).cell 1).trans cc.2.1
  have his := certis_any p k seed A cap c V (hr.below B1) hk hc hcap hpl (hP.below B1) (hgl.below B1)
  have hsame := fun X => same_any c.e.tx id hc.e.tx hid X
  obtain ⟨R, hR⟩ : ∃ R, isP seed k c = R := ⟨_, rfl⟩
  obtain ⟨T, hT⟩ : ∃ R, decide (c.e.tx = id) = R := ⟨_, rfl⟩
  rw [hR] at his
  rw [hT] at hsame
  rw [hR, hT]
  obtain ⟨s1, hs1⟩ : ∃ s, c.e.sh = s := ⟨_, rfl⟩
  obtain ⟨s0, hs0⟩ : ∃ s, c.e.kind = s := ⟨_, rfl⟩
  rw [hs1] at k1 ⊢
  rw [hs0] at k0 ⊢
  obtain ⟨xs, hxs⟩ : ∃ xs, (certV c A cap).toArray = xs := ⟨_, rfl⟩
  obtain ⟨ys, hys⟩ : ∃ xs, (bys id).toArray = xs := ⟨_, rfl⟩
  obtain ⟨zs, hzs⟩ : ∃ xs, (bys c.e.tx).toArray = xs := ⟨_, rfl⟩
  rw [hxs] at hW hldC his ⊢
  rw [hys] at hV hldI hsame ⊢
  rw [hzs] at hldT hsame
  have HW := Lib.hid hW
  have HV := Lib.hid hV
  have HG := Lib.hid hg
  have HB := Lib.hid B1
  have K0 := Lib.hid k0
  have K1 := Lib.hid k1
  have HLI := Lib.hid hldI
  have HLT := Lib.hid hldT
  have HS := Lib.hid hsame
  clear hW hV hg B1 k0 k1 hldI hldT hsame hs0 hs1 hxs hys hzs hR hT b0 b01 b1 B0 hr hk hc hcap hpl hP hgl hid hil hWsz cc
  have hq : R = false ∨ (R = true ∧ (s0 == kd) = false) ∨ (R = true ∧ (s0 == kd) = true ∧ (s1 == sh) = false) ∨ (R = true ∧ (s0 == kd) = true ∧ (s1 == sh) = true) := by
    cases R <;> cases (s0 == kd) <;> cases (s1 == sh) <;> simp
  rcases hq with rfl | ⟨rfl, h0⟩ | ⟨rfl, h0, h1⟩ | ⟨rfl, h0, h1⟩
  · rw [Bool.false_and]
    go_enter Tryz.func27, Tryz.ntmps27
    go_upto_region 1 with fail
    rw [HW.out, HV.out, HG.out]
    go_wp2_with fail
    with_reducible refine his.mono ?_
    rintro e w1 ⟨rfl, hB1⟩
    have HB1 := Lib.hid hB1
    clear hB1 his hldC
    go_wp2_with fail
    go_ret
    exact ⟨rfl, HB.out.trans (HB1.out.mono HB.out.size)⟩
  · rw [show decide (s0 = kd) = false by simpa using h0, Bool.false_and, Bool.and_false]
    go_enter Tryz.func27, Tryz.ntmps27
    go_upto_region 1 with fail
    rw [HW.out, HV.out, HG.out]
    go_wp2_with fail
    with_reducible refine his.mono ?_
    rintro e w1 ⟨rfl, hB1⟩
    have q0 := K0.out w1 hB1
    have HB1 := Lib.hid hB1
    clear hB1 his hldC
    go_wp2_with fail
    go_ret
    exact ⟨rfl, HB.out.trans (HB1.out.mono HB.out.size)⟩
  · rw [show decide (s1 = sh) = false by simpa using h1, Bool.false_and, Bool.and_false, Bool.and_false]
    go_enter Tryz.func27, Tryz.ntmps27
    go_upto_region 1 with fail
    rw [HW.out, HV.out, HG.out]
    go_wp2_with fail
    with_reducible refine his.mono ?_
    rintro e w1 ⟨rfl, hB1⟩
    have q0 := K0.out w1 hB1
    have q1 := K1.out w1 hB1
    have HB1 := Lib.hid hB1
    clear hB1 his hldC
    go_wp2_with fail
    go_ret
    exact ⟨rfl, HB.out.trans (HB1.out.mono HB.out.size)⟩
  · rw [show decide (s0 = kd) = true by simpa using h0, show decide (s1 = sh) = true by simpa using h1, Bool.true_and, Bool.true_and, Bool.true_and]
    go_enter Tryz.func27, Tryz.ntmps27
    go_upto_region 1 with fail
    rw [HW.out, HV.out, HG.out]
    go_wp2_with fail
    with_reducible refine his.mono ?_
    rintro e w1 ⟨rfl, hB1⟩
    have q0 := K0.out w1 hB1
    have q1 := K1.out w1 hB1
    have q2 := HLI.out w1 hB1
    have q3 := HLT.out w1 hB1
    have hs := HS.out w1
    have HB1 := Lib.hid hB1
    clear hB1 his hldC
    go_wp2_with fail
    with_reducible refine hs.mono ?_
    rintro e w2 ⟨rfl, hB2⟩
    have HB2 := Lib.hid hB2
    clear hB2 hs
    go_wp2_with fail
    go_ret
    exact ⟨rfl, HB.out.trans ((HB1.out.trans (HB2.out.mono HB1.out.size)).mono HB.out.size)⟩
end Go.Proofs.YtmflhidmhefljaaGreatDoor
end
