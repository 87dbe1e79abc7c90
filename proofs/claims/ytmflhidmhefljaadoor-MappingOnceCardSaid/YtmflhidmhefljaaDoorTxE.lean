/-
  tx.Check.
-/
import Derived.Test.YtmflhidmhefljaaDoorTxD
namespace Go.Proofs.YtmflhidmhefljaaDoor
open Go.RowKit Go.Shelf
set_option maxRecDepth 100000
attribute [local go_sem ↓] ap64_of

theorem cu_any (A : Option Addr) (c : Nat) (l : List Int) (x : Int) (w : World) (h : RdW .u64 w A l) (hl : l.length ≤ 1000000000) :
    Calls Tryd.prog 50 #[.slice A l.length c, .int .u64 x] w fun e w' => e = .returned (.bool (l.contains x)) ∧ w' = w := by
  rcases Nat.eq_zero_or_pos l.length with h0 | h0
  · obtain rfl : l = [] := List.length_eq_zero_iff.1 h0
    exact AnyE.slices_Contains_empty Tryd.laysCU A c (.int .u64 x) w
  · obtain ⟨g, off, rfl, hg, hc⟩ := h h0
    have := AnyE.slices_Contains Tryd.laysCU (Value.int .u64) (fun x y => x == y) (EqlAt.int _ _ .u64) g off l.length c l x w (Nat.le_refl _) (by omega) (fun j hj => hc j _ (by simp [getElem!_pos, hj]))
    rw [List.take_length] at this
    have e : (l.any fun y => x == y) = l.contains x := by
      rw [Bool.eq_iff_iff]
      simp
    rw [e] at this
    exact this

theorem U64.of {w : World} {A : Option Addr} {l : List Int} (h : RdW .u64 w A l) (hb : ∀ x ∈ l, 0 ≤ x ∧ x ≤ 18446744073709551615) : U64 w A l := ⟨h, hb⟩

set_option maxHeartbeats 4000000 in
theorem txcheck_any (A1 : Option Addr) (c1 : Nat) (A2 : Option Addr) (c2 : Nat) (t : TxD) (w : World) (h : TxAt w A1 A2 t) (hl : t.ins.length ≤ 1000000) (hl2 : t.outs.length ≤ 1000000) :
    Calls Tryd.prog 37 #[.agg (txV A1 c1 A2 c2 t)] w fun e w' => e = .returned (.int .i64 (checkP t)) ∧ Below w.heap.size w w' := by
  have b0 := Blk.new w 35 (txV A1 c1 A2 c2 t)
  have B0 : Below w.heap.size w (w.alloc (.cells (txV A1 c1 A2 c2 t) 35)) := (Below.refl _ w).alloc (Nat.le_refl _) _
  obtain ⟨W, hW⟩ : ∃ W, w.alloc (.cells (txV A1 c1 A2 c2 t) 35) = W := ⟨_, rfl⟩
  obtain ⟨g, hg⟩ : ∃ g, w.heap.size = g := ⟨_, rfl⟩
  rw [hW] at B0
  rw [hW, hg] at b0
  have hgW : g < W.heap.size := b0.lt
  have hT := h.below B0
  have hbox : ∀ X, Below W.heap.size W X → X.cell? ⟨g, 0, none⟩ = some (.slice A1 t.ins.length c1) ∧ X.cell? ⟨g, 1, none⟩ = some (.slice A2 t.outs.length c2) ∧ X.cell? ⟨g, 2, none⟩ = some (.int .u64 t.fee) ∧ X.cell? ⟨g, 3, none⟩ = some (.int .i64 t.exp) := fun X hX =>
    ⟨(hX.cell (p := ⟨g, 0, none⟩) hgW).trans (b0.cell 0), (hX.cell (p := ⟨g, 1, none⟩) hgW).trans (b0.cell 1), (hX.cell (p := ⟨g, 2, none⟩) hgW).trans (b0.cell 2), (hX.cell (p := ⟨g, 3, none⟩) hgW).trans (b0.cell 3)⟩
  obtain ⟨q0, q1, q2, q3⟩ := hbox W (Below.refl _ _)
  have ham := amounts_any A1 c1 A2 c2 t W hT hl hl2
  have hbi : ∀ x ∈ t.ins.map (·.am), 0 ≤ x ∧ x ≤ 18446744073709551615 := fun x hx => by
    obtain ⟨i, hi, rfl⟩ := List.mem_map.1 hx
    exact (h.bd.ins i hi).am
  have hbo : ∀ x ∈ t.outs.map (·.am), 0 ≤ x ∧ x ≤ 18446744073709551615 := fun x hx => by
    obtain ⟨i, hi, rfl⟩ := List.mem_map.1 hx
    exact (h.bd.outs i hi).am
  have hbf : ∀ x ∈ t.outs.map (·.am) ++ [t.fee], 0 ≤ x ∧ x ≤ 18446744073709551615 := fun x hx => by
    rcases List.mem_append.1 hx with h' | h'
    · exact hbo x h'
    · simp only [List.mem_singleton] at h'; subst h'; exact h.bd.fee
  have hl1I : (t.ins.map (·.am)).length ≤ 1000000 := by simpa using hl
  have hl2I : (t.outs.map (·.am)).length ≤ 1000000 := by simpa using hl2
  obtain ⟨R, hR⟩ : ∃ R, checkP t = R := ⟨_, rfl⟩
  rw [hR]
  unfold checkP sumsP zeroP at hR
  have HLI := Lib.hid hl1I
  have HLO := Lib.hid hl2I
  have HW := Lib.hid hW
  have HG := Lib.hid hg
  have HB0 := Lib.hid B0
  have HBOX := Lib.hid hbox
  have HT := Lib.hid hT
  have HAM := Lib.hid ham
  have HL := Lib.hid hl
  have HL2 := Lib.hid hl2
  have HBI := Lib.hid hbi
  have HBF := Lib.hid hbf
  have HR := Lib.hid hR
  clear hW hg B0 b0 h hbox hT ham hl hl2 hbi hbo hbf hR hl1I hl2I
  go_enter Tryd.func37, Tryd.ntmps37
  unfold txV at HW ⊢
  go_upto_region 1 with fail
  rw [HW.out, HG.out]
  have ham := HAM.out
  unfold txV at ham
  go_wp2_with fail
  with_reducible refine ham.mono ?_
  rintro e w1 ⟨v, u, rfl, hv, hu, hB1⟩
  obtain ⟨q0a, q1a, q2a, q3a⟩ := HBOX.out w1 hB1
  have hil := islong_any A1 c1 A2 c2 t w1 (HT.out.below hB1) (by have := HL.out; omega)
  unfold txV at hil
  have HV := Lib.hid hv
  have HU := Lib.hid hu
  have HB1 := Lib.hid hB1
  clear hv hu hB1 ham
  by_cases h1 : longP t = true
  · have hr := HR.out
    rw [if_pos h1] at hr
    subst hr
    rw [h1] at hil
    go_wp2_with fail
    with_reducible refine hil.mono ?_
    rintro e w2 ⟨rfl, hB2⟩
    have HB2 := Lib.hid (HB1.out.trans (hB2.mono HB1.out.size))
    clear hB2 hil
    go_wp2_with fail
    go_ret
    exact ⟨rfl, HB0.out.trans (HB2.out.mono HB0.out.size)⟩
  have h1f : longP t = false := by simpa using h1
  have hr := HR.out
  rw [if_neg h1] at hr
  rw [h1f] at hil
  go_wp2_with fail
  with_reducible refine hil.mono ?_
  rintro e w2 ⟨rfl, hB2⟩
  have hB2' := HB1.out.trans (hB2.mono HB1.out.size)
  obtain ⟨q0b, q1b, q2b, q3b⟩ := HBOX.out w2 hB2'
  have hv2 : Own64 W.heap.size w2 v (t.ins.map (·.am)) := HV.out.keep hB2
  have hu2 : Own64 W.heap.size w2 u (t.outs.map (·.am)) := HU.out.keep hB2
  have htw := istwice_any A1 c1 A2 c2 t w2 (HT.out.below hB2') HL.out
  unfold txV at htw
  have HB2 := Lib.hid hB2'
  have HV2 := Lib.hid hv2
  have HU2 := Lib.hid hu2
  clear hB2 hB2' hv2 hu2 hil HV HU
  by_cases h2 : twiceP t.ins = true
  · rw [if_pos h2] at hr
    subst hr
    rw [h2] at htw
    go_wp2_with fail
    with_reducible refine htw.mono ?_
    rintro e w3 ⟨rfl, hB3⟩
    have HB3 := Lib.hid (HB2.out.trans (hB3.mono HB2.out.size))
    clear hB3 htw
    go_wp2_with fail
    go_ret
    exact ⟨rfl, HB0.out.trans (HB3.out.mono HB0.out.size)⟩
  have h2f : twiceP t.ins = false := by simpa using h2
  rw [if_neg h2] at hr
  rw [h2f] at htw
  have HR2 := Lib.hid hr
  clear hr HR
  go_wp2_with fail
  with_reducible refine htw.mono ?_
  rintro e w3 ⟨rfl, hB3⟩
  have hB3' := HB2.out.trans (hB3.mono HB2.out.size)
  obtain ⟨q0c, q1c, q2c, q3c⟩ := HBOX.out w3 hB3'
  have hv3 : Own64 W.heap.size w3 v (t.ins.map (·.am)) := HV2.out.keep hB3
  have hu3 : Own64 W.heap.size w3 u (t.outs.map (·.am)) := HU2.out.keep hB3
  have HB3 := Lib.hid hB3'
  have HU3 := Lib.hid hu3
  obtain ⟨Av, cv, hvv, hrv, _⟩ := hv3.rd
  obtain ⟨Au, cu, huu, hru, _⟩ := hu3.rd
  subst hvv
  subst huu
  have c1x := cu_any Av cv (t.ins.map (·.am)) 0 w3 hrv (by have := HLI.out; omega)
  have c2x := cu_any Au cu (t.outs.map (·.am)) 0 w3 hru (by have := HLO.out; omega)
  have sa1 := sall_any Av cv (t.ins.map (·.am)) w3 (U64.of hrv HBI.out) (by have := HLI.out; omega)
  clear hB3 hB3' hv3 hu3 htw HV2 HU2 hrv hru
  obtain ⟨li, hli⟩ : ∃ li, t.ins.map (·.am) = li := ⟨_, rfl⟩
  obtain ⟨lo, hlo⟩ : ∃ lo, t.outs.map (·.am) = lo := ⟨_, rfl⟩
  rw [hli] at c1x sa1 HR2 HLI HBI
  rw [hlo] at c2x HR2 HLO HBF HU3
  rw [hli, hlo]
  clear hli hlo
  by_cases h3 : li.contains 0 = true
  · have hr := HR2.out
    rw [if_pos (by rw [h3]; rfl)] at hr
    subst hr
    rw [h3] at c1x
    clear h3
    go_wp2_with fail
    with_reducible refine c1x.mono ?_
    rintro e w4 ⟨rfl, rfl⟩
    go_wp2_with fail
    go_ret
    exact ⟨rfl, HB0.out.trans (HB3.out.mono HB0.out.size)⟩
  have h3f : li.contains 0 = false := by simpa using h3
  by_cases h4 : lo.contains 0 = true
  · have hr := HR2.out
    rw [if_pos (by rw [h3f, h4]; rfl)] at hr
    subst hr
    rw [h3f] at c1x
    rw [h4] at c2x
    clear h3 h4 h3f
    go_wp2_with fail
    with_reducible refine c1x.mono ?_
    rintro e w4 ⟨rfl, rfl⟩
    go_wp2_with fail
    with_reducible refine c2x.mono ?_
    rintro e w4 ⟨rfl, rfl⟩
    go_wp2_with fail
    go_ret
    exact ⟨rfl, HB0.out.trans (HB3.out.mono HB0.out.size)⟩
  have h4f : lo.contains 0 = false := by simpa using h4
  have hr := HR2.out
  rw [if_neg (by rw [h3f, h4f]; simp)] at hr
  rw [h3f] at c1x
  rw [h4f] at c2x
  clear h3 h4 h3f h4f HR2
  go_wp2_with fail
  with_reducible refine c1x.mono ?_
  rintro e w4 ⟨rfl, rfl⟩
  go_wp2_with fail
  with_reducible refine c2x.mono ?_
  rintro e w4 ⟨rfl, rfl⟩
  clear c1x c2x
  have hae := allQ_e li 0
  obtain ⟨P1, hP1⟩ : ∃ P1, allQ 0 li = P1 := ⟨_, rfl⟩
  rw [hP1] at sa1 hr hae
  obtain ⟨a1, e1⟩ := P1
  simp only at sa1 hr hae
  clear hP1
  have HR3 := Lib.hid hr
  have SA1 := Lib.hid sa1
  clear hr sa1
  rcases hae with rfl | rfl
  · have hr := HR3.out
    rw [if_neg (by omega)] at hr
    have HR4 := Lib.hid hr
    clear hr
    go_wp2_with fail
    with_reducible refine SA1.out.mono ?_
    rintro e w5 ⟨rfl, hB5⟩
    have hB5' := HB3.out.trans (hB5.mono HB3.out.size)
    obtain ⟨q0d, q1d, q2d, q3d⟩ := HBOX.out w5 hB5'
    have hu5 := HU3.out.keep hB5
    obtain ⟨v', w6, hap, ho', hf', _⟩ := appW_one (ty := 60) uU64s iU64s (by omega) hu5 t.fee (by have := HLO.out; omega) hB5'.size
    have hB6 := hB5'.trans ((hu5.step hf' hB5'.size).mono (Nat.le_refl _))
    obtain ⟨A7, c7, hv7, hr7, _⟩ := ho'.rd
    subst hv7
    have sa2 := sall_any A7 c7 (lo ++ [t.fee]) w6 (U64.of hr7 HBF.out) (by have := HLO.out; simp; omega)
    obtain ⟨k7, hk7⟩ : ∃ k7, (lo ++ [t.fee]).length = k7 := ⟨_, rfl⟩
    rw [hk7] at sa2 hap
    have hbe := allQ_e (lo ++ [t.fee]) 0
    obtain ⟨P2, hP2⟩ : ∃ P2, allQ 0 (lo ++ [t.fee]) = P2 := ⟨_, rfl⟩
    rw [hP2] at sa2 hbe HR4
    obtain ⟨a2, e2⟩ := P2
    simp only at sa2 HR4 hbe
    have HB6 := Lib.hid hB6
    have SA2 := Lib.hid sa2
    clear hB5 hB5' hu5 ho' hf' hB6 hr7 sa2 hk7 hP2 HU3
    rcases hbe with rfl | rfl
    · have hr := HR4.out
      rw [if_neg (by omega)] at hr
      by_cases hab : a1 = a2
      · subst hab
        rw [if_neg (by simp)] at hr
        subst hr
        go_wp2_with fail
        with_reducible refine SA2.out.mono ?_
        rintro e w7 ⟨rfl, hB7⟩
        have HB7 := Lib.hid (HB6.out.trans (hB7.mono HB6.out.size))
        clear hB7
        go_wp2_with fail
        go_ret
        exact ⟨rfl, HB0.out.trans (HB7.out.mono HB0.out.size)⟩
      · rw [if_pos hab] at hr
        subst hr
        go_wp2_with fail
        with_reducible refine SA2.out.mono ?_
        rintro e w7 ⟨rfl, hB7⟩
        have HB7 := Lib.hid (HB6.out.trans (hB7.mono HB6.out.size))
        clear hB7
        go_wp2_with fail
        go_ret
        exact ⟨rfl, HB0.out.trans (HB7.out.mono HB0.out.size)⟩
    · have hr := HR4.out
      rw [if_pos (by omega)] at hr
      subst hr
      go_wp2_with fail
      with_reducible refine SA2.out.mono ?_
      rintro e w7 ⟨rfl, hB7⟩
      have HB7 := Lib.hid (HB6.out.trans (hB7.mono HB6.out.size))
      clear hB7
      go_wp2_with fail
      go_ret
      exact ⟨rfl, HB0.out.trans (HB7.out.mono HB0.out.size)⟩
  · have hr := HR3.out
    rw [if_pos (by omega)] at hr
    subst hr
    go_wp2_with fail
    with_reducible refine SA1.out.mono ?_
    rintro e w5 ⟨rfl, hB5⟩
    have HB5 := Lib.hid (HB3.out.trans (hB5.mono HB3.out.size))
    clear hB5
    go_wp2_with fail
    go_ret
    exact ⟨rfl, HB0.out.trans (HB5.out.mono HB0.out.size)⟩
end Go.Proofs.YtmflhidmhefljaaDoor
