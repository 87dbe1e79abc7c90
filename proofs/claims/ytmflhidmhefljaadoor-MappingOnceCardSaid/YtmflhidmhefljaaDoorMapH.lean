/-
  mapping.Ins, mapping.Outs, mapping.At.
-/
import Derived.Test.YtmflhidmhefljaaDoorMapG
namespace Go.Proofs.YtmflhidmhefljaaDoor
open Go.RowKit Go.Shelf
set_option maxRecDepth 100000

theorem insP_len {t : TxD} (n : Int) : (insP t n).length ≤ 16 := by
  unfold insP
  split
  · rename_i h
    have := (longP_not (checkP_ok h.1).1).1
    rw [List.length_map]
    exact this.2
  · simp
theorem outsP_len {t : TxD} (n : Int) : (outsP t n).length ≤ 16 := by
  unfold outsP
  split
  · rename_i h
    have := (longP_not (checkP_ok h.1).1).2.1
    rw [List.length_map, List.length_range]
    exact this.2
  · simp
theorem shards64 {l : List Int} {n : Int} (h : ∀ x ∈ l, 0 ≤ x ∧ x < n ∧ n ≤ 64) : ∀ x ∈ l, 0 ≤ x ∧ x < 64 := fun x hx => by have := h x hx; omega
theorem OwnI.rd {B N c : Nat} {w : World} {A : Option Addr} {l : List Int} (h : OwnI B w (.slice A N c) l) : RdW .i64 w A l := by
  obtain ⟨A', c', e, hr, _⟩ := OwnW.rd h
  simp only [Value.slice.injEq] at e
  rw [e.1]
  exact hr

set_option maxHeartbeats 2000000 in
theorem mins_any (A1 : Option Addr) (c1 : Nat) (A2 : Option Addr) (c2 : Nat) (t : TxD) (n : Int) (hn : -9223372036854775808 ≤ n ∧ n ≤ 9223372036854775807) (w : World) (h : TxAt w A1 A2 t) (hgl : Glob w) (hl : t.ins.length ≤ 1000000) (hl2 : t.outs.length ≤ 1000000) :
    Calls Tryd.prog 13 #[.agg (txV A1 c1 A2 c2 t), .int .i64 n] w fun e w' => ∃ A c, e = .returned (.slice A (eachP (insP t n)).length c) ∧ RdW .i64 w' A (eachP (insP t n)) ∧ Below w.heap.size w w' := by
  have b0 := Blk.new w 35 (txV A1 c1 A2 c2 t)
  have B0 : Below w.heap.size w (w.alloc (.cells (txV A1 c1 A2 c2 t) 35)) := (Below.refl _ w).alloc (Nat.le_refl _) _
  obtain ⟨W, hW⟩ : ∃ W, w.alloc (.cells (txV A1 c1 A2 c2 t) 35) = W := ⟨_, rfl⟩
  obtain ⟨g, hg⟩ : ∃ g, w.heap.size = g := ⟨_, rfl⟩
  rw [hW] at B0
  rw [hW, hg] at b0
  have q0 : W.cell? ⟨g, 0, none⟩ = some (.slice A1 t.ins.length c1) := b0.cell 0
  have q1 : W.cell? ⟨g, 1, none⟩ = some (.slice A2 t.outs.length c2) := b0.cell 1
  have q2 : W.cell? ⟨g, 2, none⟩ = some (.int .u64 t.fee) := b0.cell 2
  have q3 : W.cell? ⟨g, 3, none⟩ = some (.int .i64 t.exp) := b0.cell 3
  have hsp := spread_any A1 c1 A2 c2 t n hn W (h.below B0) (hgl.below B0) hl hl2
  have HW := Lib.hid hW
  have HG := Lib.hid hg
  have HB0 := Lib.hid B0
  clear hW hg B0 b0 h hgl hl hl2
  unfold txV at HW hsp ⊢
  go_enter Tryd.func13, Tryd.ntmps13
  go_upto_region 1 with fail
  rw [HW.out, HG.out]
  go_wp2_with fail
  with_reducible refine hsp.mono ?_
  rintro e w1 ⟨v, u, rfl, hv, hu, hB1⟩
  obtain ⟨Av, Nv, cv, rfl⟩ := hv.formN
  obtain ⟨Au, Nu, cu, rfl⟩ := hu.formN
  have he := each_any W.heap.size Av Nv cv (insP t n) w1 hv (shards64 (insP_bd t n)) (by have := @insP_len t n; omega)
  have HV := Lib.hid hv
  have HB1 := Lib.hid hB1
  clear hv hu hB1 hsp
  go_wp2_with fail
  with_reducible refine he.mono ?_
  rintro e w2 ⟨A', c', rfl, hr, hf⟩
  have hB2 := HB1.out.trans (OwnW.step HV.out hf HB1.out.size)
  have HR := Lib.hid hr
  have HB2 := Lib.hid (HB0.out.trans (hB2.mono HB0.out.size))
  clear hr hf hB2 he
  obtain ⟨E, hE⟩ : ∃ E, eachP (insP t n) = E := ⟨_, rfl⟩
  rw [hE] at HR
  have HE := Lib.hid hE
  clear hE
  rw [HE.out]
  obtain ⟨m, hm⟩ : ∃ m, E.length = m := ⟨_, rfl⟩
  have HM := Lib.hid hm
  rw [hm]
  clear hm
  go_wp2_with fail
  go_ret
  exact ⟨A', c', by rw [HE.out, HM.out]; rfl, by rw [HE.out]; exact HR.out, HB2.out⟩

set_option maxHeartbeats 2000000 in
theorem mouts_any (A1 : Option Addr) (c1 : Nat) (A2 : Option Addr) (c2 : Nat) (t : TxD) (n : Int) (hn : -9223372036854775808 ≤ n ∧ n ≤ 9223372036854775807) (w : World) (h : TxAt w A1 A2 t) (hgl : Glob w) (hl : t.ins.length ≤ 1000000) (hl2 : t.outs.length ≤ 1000000) :
    Calls Tryd.prog 14 #[.agg (txV A1 c1 A2 c2 t), .int .i64 n] w fun e w' => ∃ A c, e = .returned (.slice A (eachP (outsP t n)).length c) ∧ RdW .i64 w' A (eachP (outsP t n)) ∧ Below w.heap.size w w' := by
  have b0 := Blk.new w 35 (txV A1 c1 A2 c2 t)
  have B0 : Below w.heap.size w (w.alloc (.cells (txV A1 c1 A2 c2 t) 35)) := (Below.refl _ w).alloc (Nat.le_refl _) _
  obtain ⟨W, hW⟩ : ∃ W, w.alloc (.cells (txV A1 c1 A2 c2 t) 35) = W := ⟨_, rfl⟩
  obtain ⟨g, hg⟩ : ∃ g, w.heap.size = g := ⟨_, rfl⟩
  rw [hW] at B0
  rw [hW, hg] at b0
  have q0 : W.cell? ⟨g, 0, none⟩ = some (.slice A1 t.ins.length c1) := b0.cell 0
  have q1 : W.cell? ⟨g, 1, none⟩ = some (.slice A2 t.outs.length c2) := b0.cell 1
  have q2 : W.cell? ⟨g, 2, none⟩ = some (.int .u64 t.fee) := b0.cell 2
  have q3 : W.cell? ⟨g, 3, none⟩ = some (.int .i64 t.exp) := b0.cell 3
  have hsp := spread_any A1 c1 A2 c2 t n hn W (h.below B0) (hgl.below B0) hl hl2
  have HW := Lib.hid hW
  have HG := Lib.hid hg
  have HB0 := Lib.hid B0
  clear hW hg B0 b0 h hgl hl hl2
  unfold txV at HW hsp ⊢
  go_enter Tryd.func14, Tryd.ntmps14
  go_upto_region 1 with fail
  rw [HW.out, HG.out]
  go_wp2_with fail
  with_reducible refine hsp.mono ?_
  rintro e w1 ⟨v, u, rfl, hv, hu, hB1⟩
  obtain ⟨Av, Nv, cv, rfl⟩ := hv.formN
  obtain ⟨Au, Nu, cu, rfl⟩ := hu.formN
  have he := each_any W.heap.size Au Nu cu (outsP t n) w1 hu (shards64 (outsP_bd t n)) (by have := @outsP_len t n; omega)
  have HV := Lib.hid hu
  have HB1 := Lib.hid hB1
  clear hv hu hB1 hsp
  go_wp2_with fail
  with_reducible refine he.mono ?_
  rintro e w2 ⟨A', c', rfl, hr, hf⟩
  have hB2 := HB1.out.trans (OwnW.step HV.out hf HB1.out.size)
  have HR := Lib.hid hr
  have HB2 := Lib.hid (HB0.out.trans (hB2.mono HB0.out.size))
  clear hr hf hB2 he
  obtain ⟨E, hE⟩ : ∃ E, eachP (outsP t n) = E := ⟨_, rfl⟩
  rw [hE] at HR
  have HE := Lib.hid hE
  clear hE
  rw [HE.out]
  obtain ⟨m, hm⟩ : ∃ m, E.length = m := ⟨_, rfl⟩
  have HM := Lib.hid hm
  rw [hm]
  clear hm
  go_wp2_with fail
  go_ret
  exact ⟨A', c', by rw [HE.out, HM.out]; rfl, by rw [HE.out]; exact HR.out, HB2.out⟩

set_option maxHeartbeats 2000000 in
theorem mat_any (A1 : Option Addr) (c1 : Nat) (A2 : Option Addr) (c2 : Nat) (t : TxD) (n s : Int) (hn : -9223372036854775808 ≤ n ∧ n ≤ 9223372036854775807) (w : World) (h : TxAt w A1 A2 t) (hgl : Glob w) (hl : t.ins.length ≤ 1000000) (hl2 : t.outs.length ≤ 1000000) :
    Calls Tryd.prog 11 #[.agg (txV A1 c1 A2 c2 t), .int .i64 n, .int .i64 s] w fun e w' => ∃ v u, e = .returned (.tuple #[v, u]) ∧ OwnI w.heap.size w' v (placesP (insP t n) s) ∧ OwnI w.heap.size w' u (placesP (outsP t n) s) ∧ Below w.heap.size w w' := by
  have b0 := Blk.new w 35 (txV A1 c1 A2 c2 t)
  have B0 : Below w.heap.size w (w.alloc (.cells (txV A1 c1 A2 c2 t) 35)) := (Below.refl _ w).alloc (Nat.le_refl _) _
  obtain ⟨W, hW⟩ : ∃ W, w.alloc (.cells (txV A1 c1 A2 c2 t) 35) = W := ⟨_, rfl⟩
  obtain ⟨g, hg⟩ : ∃ g, w.heap.size = g := ⟨_, rfl⟩
  rw [hW] at B0
  rw [hW, hg] at b0
  have q0 : W.cell? ⟨g, 0, none⟩ = some (.slice A1 t.ins.length c1) := b0.cell 0
  have q1 : W.cell? ⟨g, 1, none⟩ = some (.slice A2 t.outs.length c2) := b0.cell 1
  have q2 : W.cell? ⟨g, 2, none⟩ = some (.int .u64 t.fee) := b0.cell 2
  have q3 : W.cell? ⟨g, 3, none⟩ = some (.int .i64 t.exp) := b0.cell 3
  have hsp := spread_any A1 c1 A2 c2 t n hn W (h.below B0) (hgl.below B0) hl hl2
  have HW := Lib.hid hW
  have HG := Lib.hid hg
  have HB0 := Lib.hid B0
  clear hW hg B0 b0 h hgl hl hl2
  unfold txV at HW hsp ⊢
  go_enter Tryd.func11, Tryd.ntmps11
  go_upto_region 1 with fail
  rw [HW.out, HG.out]
  go_wp2_with fail
  with_reducible refine hsp.mono ?_
  rintro e w1 ⟨v, u, rfl, hv, hu, hB1⟩
  obtain ⟨Av, Nv, cv, rfl⟩ := hv.formN
  obtain ⟨Au, Nu, cu, rfl⟩ := hu.formN
  have hp1 := places_any Av Nv cv (insP t n) s w1 hv.rd hv.lenN (by have := @insP_len t n; omega)
  have hp2 := fun X (hX : Below w1.heap.size w1 X) => places_any Au Nu cu (outsP t n) s X (hu.rd.below hX) hu.lenN (by have := @outsP_len t n; omega)
  have HB1 := Lib.hid hB1
  have HP2 := Lib.hid hp2
  clear hv hu hB1 hsp hp2
  go_wp2_with fail
  with_reducible refine hp1.mono ?_
  rintro e w2 ⟨v2, rfl, hv2, hB2⟩
  have hp2 := HP2.out w2 hB2
  have HV2 := Lib.hid hv2
  have HB2 := Lib.hid (HB1.out.trans (hB2.mono HB1.out.size))
  have hs12 : w1.heap.size ≤ w2.heap.size := hB2.size
  clear hp1 hv2 hB2
  go_wp2_with fail
  with_reducible refine hp2.mono ?_
  rintro e w3 ⟨v3, rfl, hv3, hB3⟩
  have HV2b : OwnI w1.heap.size w3 v2 (placesP (insP t n) s) := OwnW.keep HV2.out hB3
  have HV2b := Lib.hid HV2b
  have HV3 := Lib.hid hv3
  have HB3 := Lib.hid (HB2.out.trans (hB3.mono HB2.out.size))
  clear hv3 hB3 hp2
  go_wp2_with fail
  go_ret2
  exact ⟨_, _, rfl, OwnW.base HV2b.out (Nat.le_trans HB0.out.size HB1.out.size), OwnW.base HV3.out (Nat.le_trans HB0.out.size HB2.out.size), HB0.out.trans (HB3.out.mono HB0.out.size)⟩
end Go.Proofs.YtmflhidmhefljaaDoor
