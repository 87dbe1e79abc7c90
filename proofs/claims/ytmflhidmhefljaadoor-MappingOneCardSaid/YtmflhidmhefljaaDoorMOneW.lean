/-
  MappingOne: the walk.
-/
import Derived.Test.YtmflhidmhefljaaDoorMapK
namespace Go.Proofs.YtmflhidmhefljaaDoor
open Go.RowKit Go.Shelf
set_option maxRecDepth 100000

section
variable {P : Program} {ops : Array Oper} {Q : Exit → Act → World → Prop} {S : World → Prop} {E : Act → World → Prop} {fl : List (Nat × Nat)} {k : Nat} {o : Oper} {a : Act} {w : World}
theorem wpTxC_evd {a' : Act} (ho : ops[k]? = some o) (hw : Region.wanted o (yielded ops a.tmps) = false) (ha : a.put o.dst undef = a') (h : wpTxC P ops Q S E fl a' w) : wpTxC P ops Q S E ((k, 3) :: fl) a w := ⟨o, ho, undef, .inr ⟨hw, rfl⟩, ha ▸ h⟩
theorem wpTxC_drop {a' : Act} (ho : ops[k]? = some o) (hw : Region.wanted o (yielded ops a.tmps) = false) (ha : a.put o.dst undef = a') (h : wpTxC P ops Q S E fl a' w) : wpTxC P ops Q S E ((k, 0) :: fl) a w := ⟨o, ho, undef, .inr ⟨hw, rfl⟩, ha ▸ h⟩
theorem wpTxC_skip {a' : Act} (ho : ops[k]? = some o) (hw : Region.wanted o (yielded ops a.tmps) = false) (hS : S w) (ha : a.put o.dst undef = a') (h : wpTxC P ops Q S E fl a' w) : wpTxC P ops Q S E ((k, 1) :: fl) a w := by
  subst ha
  refine ⟨o, ho, ?_⟩
  rw [if_neg (by rw [hw]; simp)]
  exact ⟨hS, h⟩
theorem wpTxO_evd {a' : Act} (ho : ops[k]? = some o) (hw : Region.wanted o (yielded ops a.tmps) = false) (ha : a.put o.dst undef = a') (h : wpTxO P ops Q S fl a' w) : wpTxO P ops Q S ((k, 3) :: fl) a w := ⟨o, ho, undef, .inr ⟨hw, rfl⟩, ha ▸ h⟩
theorem wpTxO_drop {a' : Act} (ho : ops[k]? = some o) (hw : Region.wanted o (yielded ops a.tmps) = false) (ha : a.put o.dst undef = a') (h : wpTxO P ops Q S fl a' w) : wpTxO P ops Q S ((k, 0) :: fl) a w := ⟨o, ho, undef, .inr ⟨hw, rfl⟩, ha ▸ h⟩
theorem wpTxO_skip {a' : Act} (ho : ops[k]? = some o) (hw : Region.wanted o (yielded ops a.tmps) = false) (hS : S w) (ha : a.put o.dst undef = a') (h : wpTxO P ops Q S fl a' w) : wpTxO P ops Q S ((k, 1) :: fl) a w := by
  subst ha
  refine ⟨o, ho, ?_⟩
  rw [if_neg (by rw [hw]; simp)]
  exact ⟨hS, h⟩
end
/-- More is known from here on. -/
theorem wpAnyJ_more {P : Program} {md : Region.Mode} {ops : Array Oper} {Q : Exit → Act → World → Prop} {S S' : World → Prop} (hS : ∀ X, S' X → S X) : ∀ (n : Nat) (listed : Array Bool) (a : Act) (w : World), S' w →
    wpAnyJ P md ops Q S' (fun _ => true) n listed a w → wpAnyJ P md ops Q S (fun _ => true) n listed a w
  | 0, _, _, _, _, h => h
  | n + 1, _listed, _a, _w, hw, h => ⟨h.1, fun i hi => wpOp_mono (fun a' w' h' => ⟨fun _ _ => hS w' (h'.1 rfl hw), wpAnyJ_more hS n _ a' w' (h'.1 rfl hw) h'.2⟩) (h.2 i hi)⟩
/-- The rest of a region, S held. -/
theorem wpAnyJ_restH {P : Program} {Q : Exit → Act → World → Prop} {S : World → Prop} {J : Nat → Bool} {L : List Oper} {a : Act} {w : World} {listed : Array Bool} {n : Nat} (fl : List (Nat × Nat)) (hn : decide (fl.length = n) = true) (hs : Region.noSelect L.toArray = true) (hB : txOB L.toArray J fl true listed = true)
    (hS : S w) (h : wpTxO P L.toArray (NoPan Q) S fl a w) : wpAnyJ P .any L.toArray (NoPan Q) S J n listed a w := by
  have h1 := wpAnyJ_ord (Q := NoPan Q) (J := J) hs (fun _ _ _ _ _ h => (h : False).elim) fl true listed a w hB (fun _ => hS) h
  rw [show fl.length = n by simpa using hn] at h1
  exact h1

/-! ### The plain law -/
theorem eachP_ne {l : List Int} (h0 : l ≠ []) (hb : ∀ x ∈ l, 0 ≤ x ∧ x < 64) : eachP l ≠ [] := by
  obtain ⟨x, hx⟩ := List.exists_mem_of_ne_nil l h0
  intro e
  have := (eachP_mem l x).2 ⟨hx, hb x hx⟩
  rw [e] at this
  cases this
/-- A list of one number each once. -/
theorem eachP_one {l : List Int} (hb : ∀ x ∈ l, 0 ≤ x ∧ x < 64) (h : (eachP l).length = 1) : ∃ x, eachP l = [x] ∧ ∀ y ∈ l, y = x := by
  obtain ⟨x, hx⟩ := List.length_eq_one_iff.1 h
  refine ⟨x, hx, fun y hy => ?_⟩
  have := (eachP_mem l y).2 ⟨hy, hb y hy⟩
  rw [hx] at this
  simpa using this
theorem eachP_all {l : List Int} {x : Int} (h0 : l ≠ []) (hb : ∀ y ∈ l, 0 ≤ y ∧ y < 64) (h : ∀ y ∈ l, y = x) : eachP l = [x] := by
  refine eq_of_rising _ _ (eachP_rise l) (by simp) (fun y => ?_)
  rw [eachP_mem, List.mem_singleton]
  constructor
  · rintro ⟨hy, _⟩; exact h y hy
  · rintro rfl
    obtain ⟨z, hz⟩ := List.exists_mem_of_ne_nil l h0
    have := h z hz
    subst this
    exact ⟨hz, hb z hz⟩
/-- One shard has all just if it has all inputs and all outputs. -/
theorem one_iff {a b : List Int} (ha0 : a ≠ []) (hb0 : b ≠ []) (ha : ∀ x ∈ a, 0 ≤ x ∧ x < 64) (hb : ∀ x ∈ b, 0 ≤ x ∧ x < 64) :
    (eachP (a ++ b)).length = 1 ↔ (eachP a).length = 1 ∧ (eachP b).length = 1 ∧ (eachP a).getD 0 0 = (eachP b).getD 0 0 := by
  have hab : ∀ x ∈ a ++ b, 0 ≤ x ∧ x < 64 := fun x hx => (List.mem_append.1 hx).elim (ha x) (hb x)
  constructor
  · intro h
    obtain ⟨x, hx, hall⟩ := eachP_one hab h
    rw [eachP_all ha0 ha (fun y hy => hall y (List.mem_append_left _ hy)), eachP_all hb0 hb (fun y hy => hall y (List.mem_append_right _ hy))]
    simp
  · rintro ⟨h1, h2, h3⟩
    obtain ⟨x, hx, hallx⟩ := eachP_one ha h1
    obtain ⟨y, hy, hally⟩ := eachP_one hb h2
    rw [hx, hy] at h3
    have hxy : x = y := by simpa using h3
    subst hxy
    rw [eachP_all (x := x) (by simp [ha0]) hab (fun z hz => (List.mem_append.1 hz).elim (hallx z) (hally z))]
    rfl
theorem placesP_full : ∀ (l : List Int) (x : Int), (∀ y ∈ l, y = x) → (placesP l x).length = l.length := fun l x h => by
  unfold placesP
  rw [List.length_map, List.filter_eq_self.2 (fun i hi => ?_), List.length_range]
  have hi' : i < l.length := List.mem_range.1 hi
  have := h l[i] (List.getElem_mem hi')
  simp [List.getD, hi', this]
theorem ins_ne {t : TxD} {n : Int} (h : checkP t = 0) (hn : okN n = true) : insP t n ≠ [] ∧ outsP t n ≠ [] ∧ (insP t n).length = t.ins.length ∧ (outsP t n).length = t.outs.length := by
  obtain ⟨⟨h1, _⟩, ⟨h2, _⟩, _⟩ := longP_not (checkP_ok h).1
  have e1 : insP t n = t.ins.map fun i => ofO i.tx i.ix n := by unfold insP; rw [if_pos ⟨h, hn⟩]
  have e2 : outsP t n = (List.range t.outs.length).map fun k => ofO (idP t) (k : Nat) n := by unfold outsP; rw [if_pos ⟨h, hn⟩]
  have l1 : (insP t n).length = t.ins.length := by rw [e1, List.length_map]
  have l2 : (outsP t n).length = t.outs.length := by rw [e2, List.length_map, List.length_range]
  refine ⟨fun e => ?_, fun e => ?_, l1, l2⟩
  · rw [e] at l1; simp at l1; omega
  · rw [e] at l2; simp at l2; omega
/-- With one shard all is there. -/
theorem single_one {t : TxD} (h : checkP t = 0) : singleP t 1 = (0, true) := by
  have hn : okN 1 = true := rfl
  obtain ⟨h1, h2, _, _⟩ := ins_ne h hn
  have hz : ∀ y ∈ insP t 1 ++ outsP t 1, y = 0 := fun y hy => by
    rcases List.mem_append.1 hy with hy | hy
    · have := insP_bd t 1 y hy; omega
    · have := outsP_bd t 1 y hy; omega
  have e : allP t 1 = [0] := eachP_all (by simp [h1]) (fun y hy => by rw [hz y hy]; omega) hz
  unfold singleP
  rw [e]
  rfl

set_option maxHeartbeats 16000000 in
theorem mapone_law (A1 : Option Addr) (c1 : Nat) (A2 : Option Addr) (c2 : Nat) (t : TxD) (sh : Int) (w : World) (h : TxAt w A1 A2 t) (_m1 : t.ins.length ≤ maxLen) (_m2 : t.outs.length ≤ maxLen) (hsh : 0 ≤ sh ∧ sh ≤ 255) (hg : Glob w) :
    Calls Tryd.prog 6 #[.agg (txV A1 c1 A2 c2 t), .int .u8 sh] w fun e w' => e = .returned (.bool true) ∧ Below w.heap.size w w' := by
  have b0 := Blk.new w 35 (txV A1 c1 A2 c2 t)
  have B0 : Below w.heap.size w (w.alloc (.cells (txV A1 c1 A2 c2 t) 35)) := (Below.refl _ w).alloc (Nat.le_refl _) _
  obtain ⟨W, hW⟩ : ∃ W, w.alloc (.cells (txV A1 c1 A2 c2 t) 35) = W := ⟨_, rfl⟩
  obtain ⟨g, hgg⟩ : ∃ g, w.heap.size = g := ⟨_, rfl⟩
  rw [hW] at B0
  rw [hW, hgg] at b0
  have hgW : g < W.heap.size := b0.lt
  have hT := h.below B0
  have hG := hg.below B0
  have hbox : ∀ X, Below W.heap.size W X → X.cell? ⟨g, 0, none⟩ = some (.slice A1 t.ins.length c1) ∧ X.cell? ⟨g, 1, none⟩ = some (.slice A2 t.outs.length c2) ∧ X.cell? ⟨g, 2, none⟩ = some (.int .u64 t.fee) ∧ X.cell? ⟨g, 3, none⟩ = some (.int .i64 t.exp) := fun X hX =>
    ⟨(hX.cell (p := ⟨g, 0, none⟩) hgW).trans (b0.cell 0), (hX.cell (p := ⟨g, 1, none⟩) hgW).trans (b0.cell 1), (hX.cell (p := ⟨g, 2, none⟩) hgW).trans (b0.cell 2), (hX.cell (p := ⟨g, 3, none⟩) hgW).trans (b0.cell 3)⟩
  have hck := rcheck_any A1 c1 A2 c2 t W hT
  have haw := fun X (hX : Below W.heap.size W X) => awake8 X (hG.below hX)
  have HW := Lib.hid hW
  have HG := Lib.hid hgg
  have HB0 := Lib.hid B0
  have HBOX := Lib.hid hbox
  have HAW := Lib.hid haw
  obtain ⟨q0, q1, q2, q3⟩ := hbox W (Below.refl _ _)
  by_cases hck0 : checkP t ≠ 0
  · obtain ⟨R, hR⟩ : ∃ R, checkP t = R := ⟨_, rfl⟩
    rw [hR] at hck hck0
    have hRb : (R != 0) = true := by simp [hck0]
    clear hW hgg B0 b0 hgW hT hG hbox haw h hg hR hck0
    unfold txV at HW hck ⊢
    go_enter Tryd.func6, Tryd.ntmps6
    go_upto_region 1 with fail
    rw [HW.out, HG.out]
    go_wp2_with fail
    with_reducible refine hck.mono ?_
    rintro e w1 ⟨rfl, hB1⟩
    have haw := HAW.out w1 hB1
    have HB1 := Lib.hid hB1
    clear hB1 hck
    go_wp2_with fail
    with_reducible refine haw.mono ?_
    rintro e w2 ⟨rfl, hB2⟩
    have HB2 := Lib.hid (HB0.out.trans ((HB1.out.trans (hB2.mono HB1.out.size)).mono HB0.out.size))
    clear hB2 haw
    go_wp2_with fail
    go_ret
    exact ⟨rfl, HB2.out⟩
  have hc0 : checkP t = 0 := by simpa using hck0
  rw [hc0] at hck
  obtain ⟨⟨_, hl1⟩, ⟨_, hl2⟩, _⟩ := longP_not (checkP_ok hc0).1
  obtain ⟨n, hn⟩ : ∃ n, 1 + sh.tmod 64 = n := ⟨_, rfl⟩
  have hmod : sh.tmod 64 = sh % 64 := Int.tmod_eq_emod_of_nonneg hsh.1
  have hn1 : 1 ≤ n ∧ n ≤ 64 := by rw [← hn, hmod]; omega
  have hokn : okN n = true := by simpa [okN] using hn1
  have hnb : -9223372036854775808 ≤ n ∧ n ≤ 9223372036854775807 := by omega
  have hs1 := fun X (hX : Below W.heap.size W X) => msingle_any A1 c1 A2 c2 t 1 (by omega) X (hT.below hX) (hG.below hX) (by omega) (by omega)
  rw [single_one hc0] at hs1
  simp only at hs1
  obtain ⟨hne1, hne2, hle1, hle2⟩ := ins_ne hc0 hokn
  have h641 := shards64 (insP_bd t n)
  have h642 := shards64 (outsP_bd t n)
  have honei := one_iff hne1 hne2 h641 h642
  have hms := fun X (hX : Below W.heap.size W X) => msingle_any A1 c1 A2 c2 t n hnb X (hT.below hX) (hG.below hX) (by omega) (by omega)
  have hma := fun s X (hX : Below W.heap.size W X) => mat_any A1 c1 A2 c2 t n s hnb X (hT.below hX) (hG.below hX) (by omega) (by omega)
  have hmi := fun X (hX : Below W.heap.size W X) => mins_any A1 c1 A2 c2 t n hnb X (hT.below hX) (hG.below hX) (by omega) (by omega)
  have hmo := fun X (hX : Below W.heap.size W X) => mouts_any A1 c1 A2 c2 t n hnb X (hT.below hX) (hG.below hX) (by omega) (by omega)
  have HS1 := Lib.hid hs1
  have HMS := Lib.hid hms
  have HMA := Lib.hid hma
  have HMI := Lib.hid hmi
  have HMO := Lib.hid hmo
  rw [hmod] at hn
  have HN := Lib.hid hn
  have HONE := Lib.hid honei
  have HLE1 := Lib.hid hle1
  have HLE2 := Lib.hid hle2
  have H641 := Lib.hid h641
  have H642 := Lib.hid h642
  clear hW hgg B0 b0 hgW hT hG hbox haw h hg hck0 hs1 hms hma hmi hmo hl1 hl2 hc0 hne1 hne2 hle1 hle2 h641 h642 honei hmod hn
  unfold txV at HW hck HS1 HMS HMA HMI HMO ⊢
  go_enter Tryd.func6, Tryd.ntmps6
  go_upto_region 1 with fail
  rw [HW.out, HG.out]
  go_wp2_with fail
  with_reducible refine hck.mono ?_
  rintro e w1 ⟨rfl, hB1⟩
  clear q0 q1 q2 q3
  obtain ⟨q0, q1, q2, q3⟩ := HBOX.out w1 hB1
  have hs1 := HS1.out w1 hB1
  have HB1 := Lib.hid hB1
  clear hB1 hck
  go_wp2_with fail
  with_reducible refine hs1.mono ?_
  rintro e w2 ⟨rfl, hB2⟩
  have hB2' := HB1.out.trans (hB2.mono HB1.out.size)
  clear q0 q1 q2 q3
  obtain ⟨q0, q1, q2, q3⟩ := HBOX.out w2 hB2'
  have hms := HMS.out w2 hB2'
  have HB2 := Lib.hid hB2'
  clear hB2 hB2' hs1
  go_wp2_with fail
  rw [HN.out]
  with_reducible refine hms.mono ?_
  rintro e w3 ⟨rfl, hB3⟩
  have hB3' := HB2.out.trans (hB3.mono HB2.out.size)
  obtain ⟨SP, hSP⟩ : ∃ SP, singleP t n = SP := ⟨_, rfl⟩
  have hsg : SP = if (allP t n).length = 1 then ((allP t n).getD 0 0, true) else (0, false) := by rw [← hSP]; rfl
  rw [hSP]
  obtain ⟨u, one⟩ := SP
  simp only
  clear q0 q1 q2 q3
  obtain ⟨q0, q1, q2, q3⟩ := HBOX.out w3 hB3'
  have hma := HMA.out u w3 hB3'
  have HB3 := Lib.hid hB3'
  have HSG := Lib.hid hsg
  clear hB3 hB3' hms hSP hsg
  go_wp2_with fail
  with_reducible refine hma.mono ?_
  rintro e w4 ⟨vx, vy, rfl, hx, hy, hB4⟩
  obtain ⟨Ax, Nx, cx, rfl⟩ := hx.formN
  obtain ⟨Ay, Ny, cy, rfl⟩ := hy.formN
  have NX := Lib.hid hx.lenN
  have NY := Lib.hid hy.lenN
  have HB4 := Lib.hid (HB3.out.trans (hB4.mono HB3.out.size))
  clear hx hy hB4 hma q0 q1 q2 q3
  go_upto_region 7 with fail
  obtain ⟨li, hli⟩ : ∃ li, (eachP (insP t n)).length = li := ⟨_, rfl⟩
  obtain ⟨lo, hlo⟩ : ∃ lo, (eachP (outsP t n)).length = lo := ⟨_, rfl⟩
  have HMI2 := HMI.out
  have HMO2 := HMO.out
  simp only [hli] at HMI2
  simp only [hlo] at HMO2
  have HMI := Lib.hid HMI2
  have HMO := Lib.hid HMO2
  have honei := HONE.out
  rw [hli, hlo] at honei
  have hsg := HSG.out
  have HLI := Lib.hid hli
  have HLO := Lib.hid hlo
  clear HMI2 HMO2 hli hlo HSG HONE HMS HS1 HMA
  have hall : eachP (insP t n ++ outsP t n) = allP t n := rfl
  rw [hall] at honei
  obtain ⟨x0, hx0⟩ : ∃ x0, (eachP (insP t n)).getD 0 0 = x0 := ⟨_, rfl⟩
  obtain ⟨y0, hy0⟩ : ∃ y0, (eachP (outsP t n)).getD 0 0 = y0 := ⟨_, rfl⟩
  rw [hx0, hy0] at honei
  have HX0 := Lib.hid hx0
  have HY0 := Lib.hid hy0
  clear hx0 hy0 hall
  let S0 : World → Prop := fun X => Below W.heap.size W X
  by_cases hone : (allP t n).length = 1
  · rw [if_pos hone] at hsg
    obtain ⟨hli, hlo, hxy⟩ := honei.1 hone
    subst hli
    subst hlo
    subst hxy
    simp only [Prod.mk.injEq] at hsg
    obtain ⟨hu, rfl⟩ := hsg
    have hfull1 : Nx = t.ins.length := by
      rw [NX.out, ← HLE1.out]
      refine placesP_full _ _ (fun y hy => ?_)
      obtain ⟨x, hx, hallx⟩ := eachP_one (l := insP t n ++ outsP t n) (fun x hx => (List.mem_append.1 hx).elim (H641.out x) (H642.out x)) hone
      rw [hu, show allP t n = eachP (insP t n ++ outsP t n) from rfl, hx]
      exact hallx y (List.mem_append_left _ hy)
    have hfull2 : Ny = t.outs.length := by
      rw [NY.out, ← HLE2.out]
      refine placesP_full _ _ (fun y hy => ?_)
      obtain ⟨x, hx, hallx⟩ := eachP_one (l := insP t n ++ outsP t n) (fun x hx => (List.mem_append.1 hx).elim (H641.out x) (H642.out x)) hone
      rw [hu, show allP t n = eachP (insP t n ++ outsP t n) from rfl, hx]
      exact hallx y (List.mem_append_right _ hy)
    subst hfull1
    subst hfull2
    have hlt1 : ((0 : Int) < 1) := by omega
    clear hu hone honei
    refine wp_txC (fun _ => true) [(0, 3), (1, 3), (2, 3), (3, 3), (4, 3), (5, 3), (6, 3), (7, 0), (8, 3), (9, 1), (10, 3), (11, 3), (12, 3), (13, 0), (14, 3), (15, 1), (16, 3), (17, 3), (18, 3), (19, 3), (20, 0), (21, 3), (25, 0), (26, 3), (22, 1)] 33 #[true, true, true, true, true, true, true, true, true, true, true, true, true, true, true, true, true, true, true, true, true, true, true, false, false, true, true, false, false, false, false, false, false, false, false, false, false, false, false, false, false, false, false, false, false, false, false, false, false, false, false, false, false, false, false, false, false, false] S0 (by kernel_rfl) (by kernel_rfl) (by kernel_rfl) (by kernel_rfl) HB4.out.drew ?_
    have HB5 := Lib.hid HB4.out.drew
    clear HB4
    iterate 7 (with_reducible refine wpTxC_evN (o := ?_) (v := ?_) (a' := ?_) (by with_unfolding_all rfl) (by with_unfolding_all rfl) (fun W' => ?_) ?_ ?_; rotate_left 2; (focus (go_simp <;> with_reducible rfl)); focus (go_simp <;> with_reducible rfl))
    iterate 1 (with_reducible refine wpTxC_takeN (o := ?_) (v := ?_) (a' := ?_) (by with_unfolding_all rfl) (by with_unfolding_all rfl) (fun W' hS' => ?_) ?_ ?_; rotate_left 2; (focus (obtain ⟨j0, j1, j2, j3⟩ := HBOX.out W' hS'; go_simp <;> with_reducible rfl)); focus (go_simp <;> with_reducible rfl))
    iterate 1 (with_reducible refine wpTxC_evN (o := ?_) (v := ?_) (a' := ?_) (by with_unfolding_all rfl) (by with_unfolding_all rfl) (fun W' => ?_) ?_ ?_; rotate_left 2; (focus (go_simp <;> with_reducible rfl)); focus (go_simp <;> with_reducible rfl))
    with_reducible refine wpTxC_want (o := ?_) (by with_unfolding_all rfl) (by with_unfolding_all rfl) (fun K hK => ?_)
    go_simp
    have hc := HMI.out w4.drew HB5.out
    with_reducible refine hc.mono ?_
    rintro e w109 ⟨Ac9, cc9, rfl, hr, hB⟩
    have HP9 := Lib.hid hB
    have HB6 := Lib.hid (HB5.out.trans (hB.mono HB5.out.size))
    clear HB5 hc hB hr
    have HB5 := HB6
    clear HB6
    with_reducible refine hK _ _ HB5.out ?_
    clear hK K
    iterate 3 (with_reducible refine wpTxC_evN (o := ?_) (v := ?_) (a' := ?_) (by with_unfolding_all rfl) (by with_unfolding_all rfl) (fun W' => ?_) ?_ ?_; rotate_left 2; (focus (go_simp <;> with_reducible rfl)); focus (go_simp <;> with_reducible rfl))
    iterate 1 (with_reducible refine wpTxC_takeN (o := ?_) (v := ?_) (a' := ?_) (by with_unfolding_all rfl) (by with_unfolding_all rfl) (fun W' hS' => ?_) ?_ ?_; rotate_left 2; (focus (obtain ⟨j0, j1, j2, j3⟩ := HBOX.out W' hS'; go_simp <;> with_reducible rfl)); focus (go_simp <;> with_reducible rfl))
    iterate 1 (with_reducible refine wpTxC_evN (o := ?_) (v := ?_) (a' := ?_) (by with_unfolding_all rfl) (by with_unfolding_all rfl) (fun W' => ?_) ?_ ?_; rotate_left 2; (focus (go_simp <;> with_reducible rfl)); focus (go_simp <;> with_reducible rfl))
    with_reducible refine wpTxC_want (o := ?_) (by with_unfolding_all rfl) (by with_unfolding_all rfl) (fun K hK => ?_)
    go_simp
    have hc := HMO.out w109 HB5.out
    with_reducible refine hc.mono ?_
    rintro e w115 ⟨Ac15, cc15, rfl, hr, hB⟩
    have HP15 := Lib.hid hB
    have HB6 := Lib.hid (HB5.out.trans (hB.mono HB5.out.size))
    clear HB5 hc hB hr
    have HB5 := HB6
    clear HB6
    with_reducible refine hK _ _ HB5.out ?_
    clear hK K
    iterate 4 (with_reducible refine wpTxC_evN (o := ?_) (v := ?_) (a' := ?_) (by with_unfolding_all rfl) (by with_unfolding_all rfl) (fun W' => ?_) ?_ ?_; rotate_left 2; (focus (go_simp <;> with_reducible rfl)); focus (go_simp <;> with_reducible rfl))
    iterate 1 (with_reducible refine wpTxC_takeN (o := ?_) (v := ?_) (a' := ?_) (by with_unfolding_all rfl) (by with_unfolding_all rfl) (fun W' hS' => ?_) ?_ ?_; rotate_left 2; (focus (obtain ⟨j0, j1, j2, j3⟩ := HBOX.out W' hS'; go_simp <;> with_reducible rfl)); focus (go_simp <;> with_reducible rfl))
    iterate 1 (with_reducible refine wpTxC_evN (o := ?_) (v := ?_) (a' := ?_) (by with_unfolding_all rfl) (by with_unfolding_all rfl) (fun W' => ?_) ?_ ?_; rotate_left 2; (focus (go_simp <;> with_reducible rfl)); focus (go_simp <;> with_reducible rfl))
    iterate 1 (with_reducible refine wpTxC_takeN (o := ?_) (v := ?_) (a' := ?_) (by with_unfolding_all rfl) (by with_unfolding_all rfl) (fun W' hS' => ?_) ?_ ?_; rotate_left 2; (focus (obtain ⟨j0, j1, j2, j3⟩ := HBOX.out W' hS'; go_simp <;> with_reducible rfl)); focus (go_simp <;> with_reducible rfl))
    iterate 1 (with_reducible refine wpTxC_evN (o := ?_) (v := ?_) (a' := ?_) (by with_unfolding_all rfl) (by with_unfolding_all rfl) (fun W' => ?_) ?_ ?_; rotate_left 2; (focus (go_simp <;> with_reducible rfl)); focus (go_simp <;> with_reducible rfl))
    with_reducible refine wpTxC_want (o := ?_) (by with_unfolding_all rfl) (by with_unfolding_all rfl) (fun K hK => ?_)
    go_simp
    have hc := HMI.out w115 HB5.out
    with_reducible refine hc.mono ?_
    rintro e w122 ⟨Ac22, cc22, rfl, hr, hB⟩
    obtain ⟨g22, o22, e22, hg22, l22⟩ := hr.at (i := 0) (by rw [HLI.out]; omega)
    subst e22
    rw [Nat.add_zero, HX0.out] at l22
    have HP22 := Lib.hid hB
    have HB6 := Lib.hid (HB5.out.trans (hB.mono HB5.out.size))
    clear HB5 hc hB hr
    have HB5 := HB6
    clear HB6
    with_reducible refine hK _ _ HB5.out ?_
    clear hK K
    with_reducible refine wpTxC_nil ?_
    have hb22 : Below w122.heap.size w122 w122 := Below.refl _ _
    refine wpAnyJ_more (S' := fun X => Below w122.heap.size w122 X) (fun X hX => HB5.out.trans (hX.mono HB5.out.size)) _ _ _ _ hb22 ?_
    refine wpAnyJ_restH [(23, 3), (24, 0), (27, 1), (28, 3), (29, 1), (30, 3), (31, 3), (32, 3), (33, 3), (34, 3), (35, 3), (36, 3), (37, 3), (38, 3), (39, 3), (40, 3), (41, 0), (42, 3), (43, 3), (44, 3), (45, 3), (46, 3), (47, 3), (48, 0), (49, 3), (50, 3), (51, 3), (52, 3), (53, 3), (54, 3), (55, 1), (56, 3), (57, 3)] (by kernel_rfl) (by kernel_rfl) (by kernel_rfl) hb22 ?_
    have HBS := Lib.hid hb22
    have HB0S := HB5
    clear hb22
    iterate 1 (with_reducible refine wpTxO_evN (o := ?_) (v := ?_) (a' := ?_) (by with_unfolding_all rfl) (by with_unfolding_all rfl) (fun W' => ?_) ?_ ?_; rotate_left 2; (focus (go_simp <;> with_reducible rfl)); focus (go_simp <;> with_reducible rfl))
    iterate 1 (with_reducible refine wpTxO_takeN (o := ?_) (v := ?_) (a' := ?_) (by with_unfolding_all rfl) (by with_unfolding_all rfl) (fun W' hS' => ?_) ?_ ?_; rotate_left 2; (focus (obtain ⟨j0, j1, j2, j3⟩ := HBOX.out W' (HB0S.out.trans (hS'.mono HB0S.out.size)); have l24 := (hS'.cell (p := ⟨g22, o22, none⟩) hg22).trans l22; go_simp <;> with_reducible rfl)); focus (go_simp <;> with_reducible rfl))
    with_reducible refine wpTxO_want (o := ?_) (by with_unfolding_all rfl) (by with_unfolding_all rfl) (fun K hK => ?_)
    go_simp
    have hc := HMO.out w122 HB5.out
    with_reducible refine hc.mono ?_
    rintro e w127 ⟨Ac27, cc27, rfl, hr, hB⟩
    obtain ⟨g27, o27, e27, hg27, l27⟩ := hr.at (i := 0) (by rw [HLO.out]; omega)
    subst e27
    rw [Nat.add_zero, HY0.out] at l27
    have HP27 := Lib.hid hB
    have HBS2 := Lib.hid (HBS.out.trans (hB.mono HBS.out.size))
    clear HBS
    have HBS := HBS2
    clear HBS2
    have HB6 := Lib.hid (HB5.out.trans (hB.mono HB5.out.size))
    clear HB5 hc hB hr
    have HB5 := HB6
    clear HB6
    with_reducible refine hK _ _ HBS.out ?_
    clear hK K
    iterate 1 (with_reducible refine wpTxO_evN (o := ?_) (v := ?_) (a' := ?_) (by with_unfolding_all rfl) (by with_unfolding_all rfl) (fun W' => ?_) ?_ ?_; rotate_left 2; (focus (go_simp <;> with_reducible rfl)); focus (go_simp <;> with_reducible rfl))
    with_reducible refine wpTxO_want (o := ?_) (by with_unfolding_all rfl) (by with_unfolding_all rfl) (fun K hK => ?_)
    go_simp
    with_reducible refine hK _ _ HBS.out ?_
    clear hK K
    iterate 11 (with_reducible refine wpTxO_evN (o := ?_) (v := ?_) (a' := ?_) (by with_unfolding_all rfl) (by with_unfolding_all rfl) (fun W' => ?_) ?_ ?_; rotate_left 2; (focus (go_simp <;> with_reducible rfl)); focus (go_simp <;> with_reducible rfl))
    iterate 1 (with_reducible refine wpTxO_takeN (o := ?_) (v := ?_) (a' := ?_) (by with_unfolding_all rfl) (by with_unfolding_all rfl) (fun W' hS' => ?_) ?_ ?_; rotate_left 2; (focus (obtain ⟨j0, j1, j2, j3⟩ := HBOX.out W' (HB0S.out.trans (hS'.mono HB0S.out.size)); have l24 := (hS'.cell (p := ⟨g22, o22, none⟩) hg22).trans l22; go_simp <;> with_reducible rfl)); focus (go_simp <;> with_reducible rfl))
    iterate 6 (with_reducible refine wpTxO_evN (o := ?_) (v := ?_) (a' := ?_) (by with_unfolding_all rfl) (by with_unfolding_all rfl) (fun W' => ?_) ?_ ?_; rotate_left 2; (focus (go_simp <;> with_reducible rfl)); focus (go_simp <;> with_reducible rfl))
    iterate 1 (with_reducible refine wpTxO_takeN (o := ?_) (v := ?_) (a' := ?_) (by with_unfolding_all rfl) (by with_unfolding_all rfl) (fun W' hS' => ?_) ?_ ?_; rotate_left 2; (focus (obtain ⟨j0, j1, j2, j3⟩ := HBOX.out W' (HB0S.out.trans (hS'.mono HB0S.out.size)); have l24 := (hS'.cell (p := ⟨g22, o22, none⟩) hg22).trans l22; go_simp <;> with_reducible rfl)); focus (go_simp <;> with_reducible rfl))
    iterate 6 (with_reducible refine wpTxO_evN (o := ?_) (v := ?_) (a' := ?_) (by with_unfolding_all rfl) (by with_unfolding_all rfl) (fun W' => ?_) ?_ ?_; rotate_left 2; (focus (go_simp <;> with_reducible rfl)); focus (go_simp <;> with_reducible rfl))
    with_reducible refine wpTxO_want (o := ?_) (by with_unfolding_all rfl) (by with_unfolding_all rfl) (fun K hK => ?_)
    go_simp
    have hc := HAW.out w127 HB5.out
    with_reducible refine hc.mono ?_
    rintro e w155 ⟨rfl, hB⟩
    have HP55 := Lib.hid hB
    have HBS2 := Lib.hid (HBS.out.trans (hB.mono HBS.out.size))
    clear HBS
    have HBS := HBS2
    clear HBS2
    have HB6 := Lib.hid (HB5.out.trans (hB.mono HB5.out.size))
    clear HB5 hc hB
    have HB5 := HB6
    clear HB6
    with_reducible refine hK _ _ HBS.out ?_
    clear hK K
    iterate 2 (with_reducible refine wpTxO_evN (o := ?_) (v := ?_) (a' := ?_) (by with_unfolding_all rfl) (by with_unfolding_all rfl) (fun W' => ?_) ?_ ?_; rotate_left 2; (focus (go_simp <;> with_reducible rfl)); focus (go_simp <;> with_reducible rfl))
    with_reducible refine wpTxO_nil ?_
    rw [noPan_normal]
    have HBE := Lib.hid (HB0.out.trans (HB5.out.mono HB0.out.size))
    go_wp2_with fail
    go_ret
    exact ⟨rfl, HBE.out⟩
  · have hno : ¬ (li = 1 ∧ lo = 1 ∧ x0 = y0) := fun h => hone (honei.2 h)
    rw [if_neg hone] at hsg
    simp only [Prod.mk.injEq] at hsg
    obtain ⟨rfl, rfl⟩ := hsg
    clear hone honei
    by_cases h1 : li = 1
    · subst h1
      by_cases h2 : lo = 1
      · subst h2
        have hxy : (x0 == y0) = false := by
          rw [beq_eq_false_iff_ne]
          exact fun e => hno ⟨rfl, rfl, e⟩
        have hlt1 : ((0 : Int) < 1) := by omega
        clear hno
        refine wp_txC (fun _ => true) [(0, 3), (1, 3), (2, 3), (3, 3), (4, 3), (5, 3), (6, 3), (7, 0), (8, 3), (9, 1), (10, 3), (11, 3), (12, 3), (13, 0), (14, 3), (15, 1), (16, 3), (17, 3), (18, 3), (19, 3), (20, 0), (21, 3), (25, 0), (26, 3), (22, 1)] 33 #[true, true, true, true, true, true, true, true, true, true, true, true, true, true, true, true, true, true, true, true, true, true, true, false, false, true, true, false, false, false, false, false, false, false, false, false, false, false, false, false, false, false, false, false, false, false, false, false, false, false, false, false, false, false, false, false, false, false] S0 (by kernel_rfl) (by kernel_rfl) (by kernel_rfl) (by kernel_rfl) HB4.out.drew ?_
        have HB5 := Lib.hid HB4.out.drew
        clear HB4
        iterate 7 (with_reducible refine wpTxC_evN (o := ?_) (v := ?_) (a' := ?_) (by with_unfolding_all rfl) (by with_unfolding_all rfl) (fun W' => ?_) ?_ ?_; rotate_left 2; (focus (go_simp <;> with_reducible rfl)); focus (go_simp <;> with_reducible rfl))
        iterate 1 (with_reducible refine wpTxC_takeN (o := ?_) (v := ?_) (a' := ?_) (by with_unfolding_all rfl) (by with_unfolding_all rfl) (fun W' hS' => ?_) ?_ ?_; rotate_left 2; (focus (obtain ⟨j0, j1, j2, j3⟩ := HBOX.out W' hS'; go_simp <;> with_reducible rfl)); focus (go_simp <;> with_reducible rfl))
        iterate 1 (with_reducible refine wpTxC_evN (o := ?_) (v := ?_) (a' := ?_) (by with_unfolding_all rfl) (by with_unfolding_all rfl) (fun W' => ?_) ?_ ?_; rotate_left 2; (focus (go_simp <;> with_reducible rfl)); focus (go_simp <;> with_reducible rfl))
        with_reducible refine wpTxC_want (o := ?_) (by with_unfolding_all rfl) (by with_unfolding_all rfl) (fun K hK => ?_)
        go_simp
        have hc := HMI.out w4.drew HB5.out
        with_reducible refine hc.mono ?_
        rintro e w109 ⟨Ac9, cc9, rfl, hr, hB⟩
        have HP9 := Lib.hid hB
        have HB6 := Lib.hid (HB5.out.trans (hB.mono HB5.out.size))
        clear HB5 hc hB hr
        have HB5 := HB6
        clear HB6
        with_reducible refine hK _ _ HB5.out ?_
        clear hK K
        iterate 3 (with_reducible refine wpTxC_evN (o := ?_) (v := ?_) (a' := ?_) (by with_unfolding_all rfl) (by with_unfolding_all rfl) (fun W' => ?_) ?_ ?_; rotate_left 2; (focus (go_simp <;> with_reducible rfl)); focus (go_simp <;> with_reducible rfl))
        iterate 1 (with_reducible refine wpTxC_takeN (o := ?_) (v := ?_) (a' := ?_) (by with_unfolding_all rfl) (by with_unfolding_all rfl) (fun W' hS' => ?_) ?_ ?_; rotate_left 2; (focus (obtain ⟨j0, j1, j2, j3⟩ := HBOX.out W' hS'; go_simp <;> with_reducible rfl)); focus (go_simp <;> with_reducible rfl))
        iterate 1 (with_reducible refine wpTxC_evN (o := ?_) (v := ?_) (a' := ?_) (by with_unfolding_all rfl) (by with_unfolding_all rfl) (fun W' => ?_) ?_ ?_; rotate_left 2; (focus (go_simp <;> with_reducible rfl)); focus (go_simp <;> with_reducible rfl))
        with_reducible refine wpTxC_want (o := ?_) (by with_unfolding_all rfl) (by with_unfolding_all rfl) (fun K hK => ?_)
        go_simp
        have hc := HMO.out w109 HB5.out
        with_reducible refine hc.mono ?_
        rintro e w115 ⟨Ac15, cc15, rfl, hr, hB⟩
        have HP15 := Lib.hid hB
        have HB6 := Lib.hid (HB5.out.trans (hB.mono HB5.out.size))
        clear HB5 hc hB hr
        have HB5 := HB6
        clear HB6
        with_reducible refine hK _ _ HB5.out ?_
        clear hK K
        iterate 4 (with_reducible refine wpTxC_evN (o := ?_) (v := ?_) (a' := ?_) (by with_unfolding_all rfl) (by with_unfolding_all rfl) (fun W' => ?_) ?_ ?_; rotate_left 2; (focus (go_simp <;> with_reducible rfl)); focus (go_simp <;> with_reducible rfl))
        iterate 1 (with_reducible refine wpTxC_takeN (o := ?_) (v := ?_) (a' := ?_) (by with_unfolding_all rfl) (by with_unfolding_all rfl) (fun W' hS' => ?_) ?_ ?_; rotate_left 2; (focus (obtain ⟨j0, j1, j2, j3⟩ := HBOX.out W' hS'; go_simp <;> with_reducible rfl)); focus (go_simp <;> with_reducible rfl))
        iterate 1 (with_reducible refine wpTxC_evN (o := ?_) (v := ?_) (a' := ?_) (by with_unfolding_all rfl) (by with_unfolding_all rfl) (fun W' => ?_) ?_ ?_; rotate_left 2; (focus (go_simp <;> with_reducible rfl)); focus (go_simp <;> with_reducible rfl))
        iterate 1 (with_reducible refine wpTxC_takeN (o := ?_) (v := ?_) (a' := ?_) (by with_unfolding_all rfl) (by with_unfolding_all rfl) (fun W' hS' => ?_) ?_ ?_; rotate_left 2; (focus (obtain ⟨j0, j1, j2, j3⟩ := HBOX.out W' hS'; go_simp <;> with_reducible rfl)); focus (go_simp <;> with_reducible rfl))
        iterate 1 (with_reducible refine wpTxC_evN (o := ?_) (v := ?_) (a' := ?_) (by with_unfolding_all rfl) (by with_unfolding_all rfl) (fun W' => ?_) ?_ ?_; rotate_left 2; (focus (go_simp <;> with_reducible rfl)); focus (go_simp <;> with_reducible rfl))
        with_reducible refine wpTxC_want (o := ?_) (by with_unfolding_all rfl) (by with_unfolding_all rfl) (fun K hK => ?_)
        go_simp
        have hc := HMI.out w115 HB5.out
        with_reducible refine hc.mono ?_
        rintro e w122 ⟨Ac22, cc22, rfl, hr, hB⟩
        obtain ⟨g22, o22, e22, hg22, l22⟩ := hr.at (i := 0) (by rw [HLI.out]; omega)
        subst e22
        rw [Nat.add_zero, HX0.out] at l22
        have HP22 := Lib.hid hB
        have HB6 := Lib.hid (HB5.out.trans (hB.mono HB5.out.size))
        clear HB5 hc hB hr
        have HB5 := HB6
        clear HB6
        with_reducible refine hK _ _ HB5.out ?_
        clear hK K
        with_reducible refine wpTxC_nil ?_
        have hb22 : Below w122.heap.size w122 w122 := Below.refl _ _
        refine wpAnyJ_more (S' := fun X => Below w122.heap.size w122 X) (fun X hX => HB5.out.trans (hX.mono HB5.out.size)) _ _ _ _ hb22 ?_
        refine wpAnyJ_restH [(23, 3), (24, 0), (27, 1), (28, 3), (29, 1), (30, 3), (31, 3), (32, 3), (33, 3), (34, 3), (35, 3), (36, 3), (37, 3), (38, 3), (39, 3), (40, 3), (41, 0), (42, 3), (43, 3), (44, 3), (45, 3), (46, 3), (47, 3), (48, 0), (49, 3), (50, 3), (51, 3), (52, 3), (53, 3), (54, 3), (55, 1), (56, 3), (57, 3)] (by kernel_rfl) (by kernel_rfl) (by kernel_rfl) hb22 ?_
        have HBS := Lib.hid hb22
        have HB0S := HB5
        clear hb22
        iterate 1 (with_reducible refine wpTxO_evN (o := ?_) (v := ?_) (a' := ?_) (by with_unfolding_all rfl) (by with_unfolding_all rfl) (fun W' => ?_) ?_ ?_; rotate_left 2; (focus (go_simp <;> with_reducible rfl)); focus (go_simp <;> with_reducible rfl))
        iterate 1 (with_reducible refine wpTxO_takeN (o := ?_) (v := ?_) (a' := ?_) (by with_unfolding_all rfl) (by with_unfolding_all rfl) (fun W' hS' => ?_) ?_ ?_; rotate_left 2; (focus (obtain ⟨j0, j1, j2, j3⟩ := HBOX.out W' (HB0S.out.trans (hS'.mono HB0S.out.size)); have l24 := (hS'.cell (p := ⟨g22, o22, none⟩) hg22).trans l22; go_simp <;> with_reducible rfl)); focus (go_simp <;> with_reducible rfl))
        with_reducible refine wpTxO_want (o := ?_) (by with_unfolding_all rfl) (by with_unfolding_all rfl) (fun K hK => ?_)
        go_simp
        have hc := HMO.out w122 HB5.out
        with_reducible refine hc.mono ?_
        rintro e w127 ⟨Ac27, cc27, rfl, hr, hB⟩
        obtain ⟨g27, o27, e27, hg27, l27⟩ := hr.at (i := 0) (by rw [HLO.out]; omega)
        subst e27
        rw [Nat.add_zero, HY0.out] at l27
        have HP27 := Lib.hid hB
        have HBS2 := Lib.hid (HBS.out.trans (hB.mono HBS.out.size))
        clear HBS
        have HBS := HBS2
        clear HBS2
        have HB6 := Lib.hid (HB5.out.trans (hB.mono HB5.out.size))
        clear HB5 hc hB hr
        have HB5 := HB6
        clear HB6
        with_reducible refine hK _ _ HBS.out ?_
        clear hK K
        iterate 1 (with_reducible refine wpTxO_evN (o := ?_) (v := ?_) (a' := ?_) (by with_unfolding_all rfl) (by with_unfolding_all rfl) (fun W' => ?_) ?_ ?_; rotate_left 2; (focus (go_simp <;> with_reducible rfl)); focus (go_simp <;> with_reducible rfl))
        with_reducible refine wpTxO_want (o := ?_) (by with_unfolding_all rfl) (by with_unfolding_all rfl) (fun K hK => ?_)
        go_simp
        with_reducible refine hK _ _ HBS.out ?_
        clear hK K
        iterate 8 (with_reducible refine wpTxO_evN (o := ?_) (v := ?_) (a' := ?_) (by with_unfolding_all rfl) (by with_unfolding_all rfl) (fun W' => ?_) ?_ ?_; rotate_left 2; (focus (go_simp <;> with_reducible rfl)); focus (go_simp <;> with_reducible rfl))
        iterate 3 (with_reducible refine wpTxO_evd (o := ?_) (a' := ?_) (by with_unfolding_all rfl) (by with_unfolding_all rfl) ?_ ?_; rotate_left; focus (go_simp <;> with_reducible rfl))
        iterate 1 (with_reducible refine wpTxO_drop (o := ?_) (a' := ?_) (by with_unfolding_all rfl) (by with_unfolding_all rfl) ?_ ?_; rotate_left; focus (go_simp <;> with_reducible rfl))
        iterate 6 (with_reducible refine wpTxO_evd (o := ?_) (a' := ?_) (by with_unfolding_all rfl) (by with_unfolding_all rfl) ?_ ?_; rotate_left; focus (go_simp <;> with_reducible rfl))
        iterate 1 (with_reducible refine wpTxO_drop (o := ?_) (a' := ?_) (by with_unfolding_all rfl) (by with_unfolding_all rfl) ?_ ?_; rotate_left; focus (go_simp <;> with_reducible rfl))
        iterate 3 (with_reducible refine wpTxO_evd (o := ?_) (a' := ?_) (by with_unfolding_all rfl) (by with_unfolding_all rfl) ?_ ?_; rotate_left; focus (go_simp <;> with_reducible rfl))
        iterate 3 (with_reducible refine wpTxO_evN (o := ?_) (v := ?_) (a' := ?_) (by with_unfolding_all rfl) (by with_unfolding_all rfl) (fun W' => ?_) ?_ ?_; rotate_left 2; (focus (go_simp <;> with_reducible rfl)); focus (go_simp <;> with_reducible rfl))
        with_reducible refine wpTxO_want (o := ?_) (by with_unfolding_all rfl) (by with_unfolding_all rfl) (fun K hK => ?_)
        go_simp
        have hc := HAW.out w127 HB5.out
        with_reducible refine hc.mono ?_
        rintro e w155 ⟨rfl, hB⟩
        have HP55 := Lib.hid hB
        have HBS2 := Lib.hid (HBS.out.trans (hB.mono HBS.out.size))
        clear HBS
        have HBS := HBS2
        clear HBS2
        have HB6 := Lib.hid (HB5.out.trans (hB.mono HB5.out.size))
        clear HB5 hc hB
        have HB5 := HB6
        clear HB6
        with_reducible refine hK _ _ HBS.out ?_
        clear hK K
        iterate 2 (with_reducible refine wpTxO_evN (o := ?_) (v := ?_) (a' := ?_) (by with_unfolding_all rfl) (by with_unfolding_all rfl) (fun W' => ?_) ?_ ?_; rotate_left 2; (focus (go_simp <;> with_reducible rfl)); focus (go_simp <;> with_reducible rfl))
        with_reducible refine wpTxO_nil ?_
        rw [noPan_normal]
        have HBE := Lib.hid (HB0.out.trans (HB5.out.mono HB0.out.size))
        go_wp2_with fail
        go_ret
        exact ⟨rfl, HBE.out⟩
      · have hmb : ((lo : Int) == 1) = false := by simp; omega
        clear hno
        refine wp_txC (fun _ => true) [(0, 3), (1, 3), (2, 3), (3, 3), (4, 3), (5, 3), (6, 3), (7, 0), (8, 3), (9, 1), (10, 3), (11, 3), (12, 3), (13, 0), (14, 3), (15, 1), (16, 3), (17, 3), (18, 3), (19, 3), (20, 0), (21, 3), (25, 0), (26, 3), (22, 1)] 33 #[true, true, true, true, true, true, true, true, true, true, true, true, true, true, true, true, true, true, true, true, true, true, true, false, false, true, true, false, false, false, false, false, false, false, false, false, false, false, false, false, false, false, false, false, false, false, false, false, false, false, false, false, false, false, false, false, false, false] S0 (by kernel_rfl) (by kernel_rfl) (by kernel_rfl) (by kernel_rfl) HB4.out.drew ?_
        have HB5 := Lib.hid HB4.out.drew
        clear HB4
        iterate 7 (with_reducible refine wpTxC_evN (o := ?_) (v := ?_) (a' := ?_) (by with_unfolding_all rfl) (by with_unfolding_all rfl) (fun W' => ?_) ?_ ?_; rotate_left 2; (focus (go_simp <;> with_reducible rfl)); focus (go_simp <;> with_reducible rfl))
        iterate 1 (with_reducible refine wpTxC_takeN (o := ?_) (v := ?_) (a' := ?_) (by with_unfolding_all rfl) (by with_unfolding_all rfl) (fun W' hS' => ?_) ?_ ?_; rotate_left 2; (focus (obtain ⟨j0, j1, j2, j3⟩ := HBOX.out W' hS'; go_simp <;> with_reducible rfl)); focus (go_simp <;> with_reducible rfl))
        iterate 1 (with_reducible refine wpTxC_evN (o := ?_) (v := ?_) (a' := ?_) (by with_unfolding_all rfl) (by with_unfolding_all rfl) (fun W' => ?_) ?_ ?_; rotate_left 2; (focus (go_simp <;> with_reducible rfl)); focus (go_simp <;> with_reducible rfl))
        with_reducible refine wpTxC_want (o := ?_) (by with_unfolding_all rfl) (by with_unfolding_all rfl) (fun K hK => ?_)
        go_simp
        have hc := HMI.out w4.drew HB5.out
        with_reducible refine hc.mono ?_
        rintro e w109 ⟨Ac9, cc9, rfl, hr, hB⟩
        have HP9 := Lib.hid hB
        have HB6 := Lib.hid (HB5.out.trans (hB.mono HB5.out.size))
        clear HB5 hc hB hr
        have HB5 := HB6
        clear HB6
        with_reducible refine hK _ _ HB5.out ?_
        clear hK K
        iterate 3 (with_reducible refine wpTxC_evN (o := ?_) (v := ?_) (a' := ?_) (by with_unfolding_all rfl) (by with_unfolding_all rfl) (fun W' => ?_) ?_ ?_; rotate_left 2; (focus (go_simp <;> with_reducible rfl)); focus (go_simp <;> with_reducible rfl))
        iterate 1 (with_reducible refine wpTxC_takeN (o := ?_) (v := ?_) (a' := ?_) (by with_unfolding_all rfl) (by with_unfolding_all rfl) (fun W' hS' => ?_) ?_ ?_; rotate_left 2; (focus (obtain ⟨j0, j1, j2, j3⟩ := HBOX.out W' hS'; go_simp <;> with_reducible rfl)); focus (go_simp <;> with_reducible rfl))
        iterate 1 (with_reducible refine wpTxC_evN (o := ?_) (v := ?_) (a' := ?_) (by with_unfolding_all rfl) (by with_unfolding_all rfl) (fun W' => ?_) ?_ ?_; rotate_left 2; (focus (go_simp <;> with_reducible rfl)); focus (go_simp <;> with_reducible rfl))
        with_reducible refine wpTxC_want (o := ?_) (by with_unfolding_all rfl) (by with_unfolding_all rfl) (fun K hK => ?_)
        go_simp
        have hc := HMO.out w109 HB5.out
        with_reducible refine hc.mono ?_
        rintro e w115 ⟨Ac15, cc15, rfl, hr, hB⟩
        have HP15 := Lib.hid hB
        have HB6 := Lib.hid (HB5.out.trans (hB.mono HB5.out.size))
        clear HB5 hc hB hr
        have HB5 := HB6
        clear HB6
        with_reducible refine hK _ _ HB5.out ?_
        clear hK K
        iterate 4 (with_reducible refine wpTxC_evN (o := ?_) (v := ?_) (a' := ?_) (by with_unfolding_all rfl) (by with_unfolding_all rfl) (fun W' => ?_) ?_ ?_; rotate_left 2; (focus (go_simp <;> with_reducible rfl)); focus (go_simp <;> with_reducible rfl))
        iterate 1 (with_reducible refine wpTxC_drop (o := ?_) (a' := ?_) (by with_unfolding_all rfl) (by with_unfolding_all rfl) ?_ ?_; rotate_left; focus (go_simp <;> with_reducible rfl))
        iterate 1 (with_reducible refine wpTxC_evd (o := ?_) (a' := ?_) (by with_unfolding_all rfl) (by with_unfolding_all rfl) ?_ ?_; rotate_left; focus (go_simp <;> with_reducible rfl))
        iterate 1 (with_reducible refine wpTxC_drop (o := ?_) (a' := ?_) (by with_unfolding_all rfl) (by with_unfolding_all rfl) ?_ ?_; rotate_left; focus (go_simp <;> with_reducible rfl))
        iterate 1 (with_reducible refine wpTxC_evd (o := ?_) (a' := ?_) (by with_unfolding_all rfl) (by with_unfolding_all rfl) ?_ ?_; rotate_left; focus (go_simp <;> with_reducible rfl))
        with_reducible refine wpTxC_skip (o := ?_) (a' := ?_) (by with_unfolding_all rfl) (by with_unfolding_all rfl) HB5.out ?_ ?_; rotate_left; focus (go_simp <;> with_reducible rfl)
        with_reducible refine wpTxC_nil ?_
        refine wpAnyJ_restH [(23, 3), (24, 0), (27, 1), (28, 3), (29, 1), (30, 3), (31, 3), (32, 3), (33, 3), (34, 3), (35, 3), (36, 3), (37, 3), (38, 3), (39, 3), (40, 3), (41, 0), (42, 3), (43, 3), (44, 3), (45, 3), (46, 3), (47, 3), (48, 0), (49, 3), (50, 3), (51, 3), (52, 3), (53, 3), (54, 3), (55, 1), (56, 3), (57, 3)] (by kernel_rfl) (by kernel_rfl) (by kernel_rfl) HB5.out ?_
        iterate 1 (with_reducible refine wpTxO_evd (o := ?_) (a' := ?_) (by with_unfolding_all rfl) (by with_unfolding_all rfl) ?_ ?_; rotate_left; focus (go_simp <;> with_reducible rfl))
        iterate 1 (with_reducible refine wpTxO_drop (o := ?_) (a' := ?_) (by with_unfolding_all rfl) (by with_unfolding_all rfl) ?_ ?_; rotate_left; focus (go_simp <;> with_reducible rfl))
        with_reducible refine wpTxO_skip (o := ?_) (a' := ?_) (by with_unfolding_all rfl) (by with_unfolding_all rfl) HB5.out ?_ ?_; rotate_left; focus (go_simp <;> with_reducible rfl)
        iterate 1 (with_reducible refine wpTxO_evd (o := ?_) (a' := ?_) (by with_unfolding_all rfl) (by with_unfolding_all rfl) ?_ ?_; rotate_left; focus (go_simp <;> with_reducible rfl))
        with_reducible refine wpTxO_skip (o := ?_) (a' := ?_) (by with_unfolding_all rfl) (by with_unfolding_all rfl) HB5.out ?_ ?_; rotate_left; focus (go_simp <;> with_reducible rfl)
        iterate 1 (with_reducible refine wpTxO_evd (o := ?_) (a' := ?_) (by with_unfolding_all rfl) (by with_unfolding_all rfl) ?_ ?_; rotate_left; focus (go_simp <;> with_reducible rfl))
        iterate 7 (with_reducible refine wpTxO_evN (o := ?_) (v := ?_) (a' := ?_) (by with_unfolding_all rfl) (by with_unfolding_all rfl) (fun W' => ?_) ?_ ?_; rotate_left 2; (focus (go_simp <;> with_reducible rfl)); focus (go_simp <;> with_reducible rfl))
        iterate 3 (with_reducible refine wpTxO_evd (o := ?_) (a' := ?_) (by with_unfolding_all rfl) (by with_unfolding_all rfl) ?_ ?_; rotate_left; focus (go_simp <;> with_reducible rfl))
        iterate 1 (with_reducible refine wpTxO_drop (o := ?_) (a' := ?_) (by with_unfolding_all rfl) (by with_unfolding_all rfl) ?_ ?_; rotate_left; focus (go_simp <;> with_reducible rfl))
        iterate 6 (with_reducible refine wpTxO_evd (o := ?_) (a' := ?_) (by with_unfolding_all rfl) (by with_unfolding_all rfl) ?_ ?_; rotate_left; focus (go_simp <;> with_reducible rfl))
        iterate 1 (with_reducible refine wpTxO_drop (o := ?_) (a' := ?_) (by with_unfolding_all rfl) (by with_unfolding_all rfl) ?_ ?_; rotate_left; focus (go_simp <;> with_reducible rfl))
        iterate 3 (with_reducible refine wpTxO_evd (o := ?_) (a' := ?_) (by with_unfolding_all rfl) (by with_unfolding_all rfl) ?_ ?_; rotate_left; focus (go_simp <;> with_reducible rfl))
        iterate 3 (with_reducible refine wpTxO_evN (o := ?_) (v := ?_) (a' := ?_) (by with_unfolding_all rfl) (by with_unfolding_all rfl) (fun W' => ?_) ?_ ?_; rotate_left 2; (focus (go_simp <;> with_reducible rfl)); focus (go_simp <;> with_reducible rfl))
        with_reducible refine wpTxO_want (o := ?_) (by with_unfolding_all rfl) (by with_unfolding_all rfl) (fun K hK => ?_)
        go_simp
        have hc := HAW.out w115 HB5.out
        with_reducible refine hc.mono ?_
        rintro e w155 ⟨rfl, hB⟩
        have HP55 := Lib.hid hB
        have HB6 := Lib.hid (HB5.out.trans (hB.mono HB5.out.size))
        clear HB5 hc hB
        have HB5 := HB6
        clear HB6
        with_reducible refine hK _ _ HB5.out ?_
        clear hK K
        iterate 2 (with_reducible refine wpTxO_evN (o := ?_) (v := ?_) (a' := ?_) (by with_unfolding_all rfl) (by with_unfolding_all rfl) (fun W' => ?_) ?_ ?_; rotate_left 2; (focus (go_simp <;> with_reducible rfl)); focus (go_simp <;> with_reducible rfl))
        with_reducible refine wpTxO_nil ?_
        rw [noPan_normal]
        have HBE := Lib.hid (HB0.out.trans (HB5.out.mono HB0.out.size))
        go_wp2_with fail
        go_ret
        exact ⟨rfl, HBE.out⟩
    · have hmb : ((li : Int) == 1) = false := by simp; omega
      clear hno
      refine wp_txC (fun _ => true) [(0, 3), (1, 3), (2, 3), (3, 3), (4, 3), (5, 3), (6, 3), (7, 0), (8, 3), (9, 1), (10, 3), (11, 3), (12, 3), (13, 0), (14, 3), (15, 1), (16, 3), (17, 3), (18, 3), (19, 3), (20, 0), (21, 3), (25, 0), (26, 3), (22, 1)] 33 #[true, true, true, true, true, true, true, true, true, true, true, true, true, true, true, true, true, true, true, true, true, true, true, false, false, true, true, false, false, false, false, false, false, false, false, false, false, false, false, false, false, false, false, false, false, false, false, false, false, false, false, false, false, false, false, false, false, false] S0 (by kernel_rfl) (by kernel_rfl) (by kernel_rfl) (by kernel_rfl) HB4.out.drew ?_
      have HB5 := Lib.hid HB4.out.drew
      clear HB4
      iterate 7 (with_reducible refine wpTxC_evN (o := ?_) (v := ?_) (a' := ?_) (by with_unfolding_all rfl) (by with_unfolding_all rfl) (fun W' => ?_) ?_ ?_; rotate_left 2; (focus (go_simp <;> with_reducible rfl)); focus (go_simp <;> with_reducible rfl))
      iterate 1 (with_reducible refine wpTxC_takeN (o := ?_) (v := ?_) (a' := ?_) (by with_unfolding_all rfl) (by with_unfolding_all rfl) (fun W' hS' => ?_) ?_ ?_; rotate_left 2; (focus (obtain ⟨j0, j1, j2, j3⟩ := HBOX.out W' hS'; go_simp <;> with_reducible rfl)); focus (go_simp <;> with_reducible rfl))
      iterate 1 (with_reducible refine wpTxC_evN (o := ?_) (v := ?_) (a' := ?_) (by with_unfolding_all rfl) (by with_unfolding_all rfl) (fun W' => ?_) ?_ ?_; rotate_left 2; (focus (go_simp <;> with_reducible rfl)); focus (go_simp <;> with_reducible rfl))
      with_reducible refine wpTxC_want (o := ?_) (by with_unfolding_all rfl) (by with_unfolding_all rfl) (fun K hK => ?_)
      go_simp
      have hc := HMI.out w4.drew HB5.out
      with_reducible refine hc.mono ?_
      rintro e w109 ⟨Ac9, cc9, rfl, hr, hB⟩
      have HP9 := Lib.hid hB
      have HB6 := Lib.hid (HB5.out.trans (hB.mono HB5.out.size))
      clear HB5 hc hB hr
      have HB5 := HB6
      clear HB6
      with_reducible refine hK _ _ HB5.out ?_
      clear hK K
      iterate 3 (with_reducible refine wpTxC_evN (o := ?_) (v := ?_) (a' := ?_) (by with_unfolding_all rfl) (by with_unfolding_all rfl) (fun W' => ?_) ?_ ?_; rotate_left 2; (focus (go_simp <;> with_reducible rfl)); focus (go_simp <;> with_reducible rfl))
      iterate 1 (with_reducible refine wpTxC_drop (o := ?_) (a' := ?_) (by with_unfolding_all rfl) (by with_unfolding_all rfl) ?_ ?_; rotate_left; focus (go_simp <;> with_reducible rfl))
      iterate 1 (with_reducible refine wpTxC_evd (o := ?_) (a' := ?_) (by with_unfolding_all rfl) (by with_unfolding_all rfl) ?_ ?_; rotate_left; focus (go_simp <;> with_reducible rfl))
      with_reducible refine wpTxC_skip (o := ?_) (a' := ?_) (by with_unfolding_all rfl) (by with_unfolding_all rfl) HB5.out ?_ ?_; rotate_left; focus (go_simp <;> with_reducible rfl)
      iterate 2 (with_reducible refine wpTxC_evd (o := ?_) (a' := ?_) (by with_unfolding_all rfl) (by with_unfolding_all rfl) ?_ ?_; rotate_left; focus (go_simp <;> with_reducible rfl))
      iterate 2 (with_reducible refine wpTxC_evN (o := ?_) (v := ?_) (a' := ?_) (by with_unfolding_all rfl) (by with_unfolding_all rfl) (fun W' => ?_) ?_ ?_; rotate_left 2; (focus (go_simp <;> with_reducible rfl)); focus (go_simp <;> with_reducible rfl))
      iterate 1 (with_reducible refine wpTxC_drop (o := ?_) (a' := ?_) (by with_unfolding_all rfl) (by with_unfolding_all rfl) ?_ ?_; rotate_left; focus (go_simp <;> with_reducible rfl))
      iterate 1 (with_reducible refine wpTxC_evd (o := ?_) (a' := ?_) (by with_unfolding_all rfl) (by with_unfolding_all rfl) ?_ ?_; rotate_left; focus (go_simp <;> with_reducible rfl))
      iterate 1 (with_reducible refine wpTxC_drop (o := ?_) (a' := ?_) (by with_unfolding_all rfl) (by with_unfolding_all rfl) ?_ ?_; rotate_left; focus (go_simp <;> with_reducible rfl))
      iterate 1 (with_reducible refine wpTxC_evd (o := ?_) (a' := ?_) (by with_unfolding_all rfl) (by with_unfolding_all rfl) ?_ ?_; rotate_left; focus (go_simp <;> with_reducible rfl))
      with_reducible refine wpTxC_skip (o := ?_) (a' := ?_) (by with_unfolding_all rfl) (by with_unfolding_all rfl) HB5.out ?_ ?_; rotate_left; focus (go_simp <;> with_reducible rfl)
      with_reducible refine wpTxC_nil ?_
      refine wpAnyJ_restH [(23, 3), (24, 0), (27, 1), (28, 3), (29, 1), (30, 3), (31, 3), (32, 3), (33, 3), (34, 3), (35, 3), (36, 3), (37, 3), (38, 3), (39, 3), (40, 3), (41, 0), (42, 3), (43, 3), (44, 3), (45, 3), (46, 3), (47, 3), (48, 0), (49, 3), (50, 3), (51, 3), (52, 3), (53, 3), (54, 3), (55, 1), (56, 3), (57, 3)] (by kernel_rfl) (by kernel_rfl) (by kernel_rfl) HB5.out ?_
      iterate 1 (with_reducible refine wpTxO_evd (o := ?_) (a' := ?_) (by with_unfolding_all rfl) (by with_unfolding_all rfl) ?_ ?_; rotate_left; focus (go_simp <;> with_reducible rfl))
      iterate 1 (with_reducible refine wpTxO_drop (o := ?_) (a' := ?_) (by with_unfolding_all rfl) (by with_unfolding_all rfl) ?_ ?_; rotate_left; focus (go_simp <;> with_reducible rfl))
      with_reducible refine wpTxO_skip (o := ?_) (a' := ?_) (by with_unfolding_all rfl) (by with_unfolding_all rfl) HB5.out ?_ ?_; rotate_left; focus (go_simp <;> with_reducible rfl)
      iterate 1 (with_reducible refine wpTxO_evd (o := ?_) (a' := ?_) (by with_unfolding_all rfl) (by with_unfolding_all rfl) ?_ ?_; rotate_left; focus (go_simp <;> with_reducible rfl))
      with_reducible refine wpTxO_skip (o := ?_) (a' := ?_) (by with_unfolding_all rfl) (by with_unfolding_all rfl) HB5.out ?_ ?_; rotate_left; focus (go_simp <;> with_reducible rfl)
      iterate 1 (with_reducible refine wpTxO_evd (o := ?_) (a' := ?_) (by with_unfolding_all rfl) (by with_unfolding_all rfl) ?_ ?_; rotate_left; focus (go_simp <;> with_reducible rfl))
      iterate 7 (with_reducible refine wpTxO_evN (o := ?_) (v := ?_) (a' := ?_) (by with_unfolding_all rfl) (by with_unfolding_all rfl) (fun W' => ?_) ?_ ?_; rotate_left 2; (focus (go_simp <;> with_reducible rfl)); focus (go_simp <;> with_reducible rfl))
      iterate 3 (with_reducible refine wpTxO_evd (o := ?_) (a' := ?_) (by with_unfolding_all rfl) (by with_unfolding_all rfl) ?_ ?_; rotate_left; focus (go_simp <;> with_reducible rfl))
      iterate 1 (with_reducible refine wpTxO_drop (o := ?_) (a' := ?_) (by with_unfolding_all rfl) (by with_unfolding_all rfl) ?_ ?_; rotate_left; focus (go_simp <;> with_reducible rfl))
      iterate 6 (with_reducible refine wpTxO_evd (o := ?_) (a' := ?_) (by with_unfolding_all rfl) (by with_unfolding_all rfl) ?_ ?_; rotate_left; focus (go_simp <;> with_reducible rfl))
      iterate 1 (with_reducible refine wpTxO_drop (o := ?_) (a' := ?_) (by with_unfolding_all rfl) (by with_unfolding_all rfl) ?_ ?_; rotate_left; focus (go_simp <;> with_reducible rfl))
      iterate 3 (with_reducible refine wpTxO_evd (o := ?_) (a' := ?_) (by with_unfolding_all rfl) (by with_unfolding_all rfl) ?_ ?_; rotate_left; focus (go_simp <;> with_reducible rfl))
      iterate 3 (with_reducible refine wpTxO_evN (o := ?_) (v := ?_) (a' := ?_) (by with_unfolding_all rfl) (by with_unfolding_all rfl) (fun W' => ?_) ?_ ?_; rotate_left 2; (focus (go_simp <;> with_reducible rfl)); focus (go_simp <;> with_reducible rfl))
      with_reducible refine wpTxO_want (o := ?_) (by with_unfolding_all rfl) (by with_unfolding_all rfl) (fun K hK => ?_)
      go_simp
      have hc := HAW.out w109 HB5.out
      with_reducible refine hc.mono ?_
      rintro e w155 ⟨rfl, hB⟩
      have HP55 := Lib.hid hB
      have HB6 := Lib.hid (HB5.out.trans (hB.mono HB5.out.size))
      clear HB5 hc hB
      have HB5 := HB6
      clear HB6
      with_reducible refine hK _ _ HB5.out ?_
      clear hK K
      iterate 2 (with_reducible refine wpTxO_evN (o := ?_) (v := ?_) (a' := ?_) (by with_unfolding_all rfl) (by with_unfolding_all rfl) (fun W' => ?_) ?_ ?_; rotate_left 2; (focus (go_simp <;> with_reducible rfl)); focus (go_simp <;> with_reducible rfl))
      with_reducible refine wpTxO_nil ?_
      rw [noPan_normal]
      have HBE := Lib.hid (HB0.out.trans (HB5.out.mono HB0.out.size))
      go_wp2_with fail
      go_ret
      exact ⟨rfl, HBE.out⟩
end Go.Proofs.YtmflhidmhefljaaDoor
