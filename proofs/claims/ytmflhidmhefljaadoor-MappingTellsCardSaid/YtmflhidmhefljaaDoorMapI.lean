/-
  mapping.Single; seisinref07.Great; seisinref08.Spread.
-/
import Derived.Test.YtmflhidmhefljaaDoorCatI
import Derived.Test.YtmflhidmhefljaaDoorRTxC
namespace Go.Proofs.YtmflhidmhefljaaDoor
open Go.RowKit Go.Shelf
set_option maxRecDepth 100000

/-- All shards of a transaction. -/
def allP (t : TxD) (n : Int) : List Int := eachP (insP t n ++ outsP t n)
/-- The one shard that has all. -/
def singleP (t : TxD) (n : Int) : Int × Bool := if (allP t n).length = 1 then ((allP t n).getD 0 0, true) else (0, false)

set_option maxHeartbeats 4000000 in
theorem msingle_any (A1 : Option Addr) (c1 : Nat) (A2 : Option Addr) (c2 : Nat) (t : TxD) (n : Int) (hn : -9223372036854775808 ≤ n ∧ n ≤ 9223372036854775807) (w : World) (h : TxAt w A1 A2 t) (hgl : Glob w) (hl : t.ins.length ≤ 1000000) (hl2 : t.outs.length ≤ 1000000) :
    Calls Tryd.prog 18 #[.agg (txV A1 c1 A2 c2 t), .int .i64 n] w fun e w' => e = .returned (.tuple #[.int .i64 (singleP t n).1, .bool (singleP t n).2]) ∧ Below w.heap.size w w' := by
  have b0 := Blk.new w 35 (txV A1 c1 A2 c2 t)
  have B0 : Below w.heap.size w (w.alloc (.cells (txV A1 c1 A2 c2 t) 35)) := (Below.refl _ w).alloc (Nat.le_refl _) _
  obtain ⟨W, hW⟩ : ∃ W, w.alloc (.cells (txV A1 c1 A2 c2 t) 35) = W := ⟨_, rfl⟩
  obtain ⟨g, hg⟩ : ∃ g, w.heap.size = g := ⟨_, rfl⟩
  rw [hW] at B0
  rw [hW, hg] at b0
  have q0 : W.cell? ⟨g, 0, none⟩ = some (.slice A1 t.ins.length c1) := b0.cell 0
  have q1 : W.cell? ⟨g, 1, none⟩ = some (.slice A2 t.outs.length c2) := b0.cell 1
  have q2 : W.cell? ⟨g, 2, none⟩ = some (.int .u64 t.fee) := b0.cell 2
  have q3 : W.cell? ⟨g, 3, none⟩ = some (.int .i64 t.exp) := b0.cell 3
  have hsp := spread_any A1 c1 A2 c2 t n hn W (h.below B0) (hgl.below B0) hl hl2
  have HW := Lib.hid hW
  have HG := Lib.hid hg
  have HB0 := Lib.hid B0
  clear hW hg B0 b0 h hgl hl hl2
  unfold txV at HW hsp ⊢
  go_enter Tryd.func18, Tryd.ntmps18
  go_upto_region 1 with fail
  rw [HW.out, HG.out]
  go_wp2_with fail
  with_reducible refine hsp.mono ?_
  rintro e w1 ⟨v, u, rfl, hv, hu, hB1⟩
  obtain ⟨Av, Nv, cv, rfl⟩ := hv.formN
  obtain ⟨Au, Nu, cu, rfl⟩ := hu.formN
  have hl1 := @insP_len t n
  have hl2 := @outsP_len t n
  have hN1 := hv.lenN
  have hN2 := hu.lenN
  have hrv := hv.rd
  have hru := hu.rd
  have hz1 : Av = none → cv = 0 := fun e => by
    subst e
    obtain ⟨_, ⟨e, _⟩ | ⟨g, cap, cur, e, _⟩⟩ := hv
    · simp only [Value.slice.injEq] at e
      exact e.2.2
    · simp at e
  have hz2 : Au = none → cu = 0 := fun e => by
    subst e
    obtain ⟨_, ⟨e, _⟩ | ⟨g, cap, cur, e, _⟩⟩ := hu
    · simp only [Value.slice.injEq] at e
      exact e.2.2
    · simp at e
  have bw := Blk.new w1 38 #[.slice Av Nv cv, .slice Au Nu cu]
  have B2 : Below w1.heap.size w1 (w1.alloc (.cells #[.slice Av Nv cv, .slice Au Nu cu] 38)) := (Below.refl _ w1).alloc (Nat.le_refl _) _
  have hrv2 := hrv.below B2
  have hru2 := hru.below B2
  have B2W := hB1.trans (B2.mono hB1.size)
  obtain ⟨w2, hw2⟩ : ∃ w2, w1.alloc (.cells #[.slice Av Nv cv, .slice Au Nu cu] 38) = w2 := ⟨_, rfl⟩
  rw [hw2] at bw hrv2 hru2 B2W
  have hlf : ([insP t n, outsP t n] : List (List Int)).flatten = insP t n ++ outsP t n := by simp
  have hcc := concatI_any (some ⟨w1.heap.size, 0, none⟩) 2 [.slice Av Nv cv, .slice Au Nu cu] [insP t n, outsP t n] w2 ⟨rfl, fun _ => ⟨w1.heap.size, 0, rfl, bw.lt, fun j x hx => by rw [Nat.zero_add, bw.cell j]; simpa using hx⟩, fun i hi hi' => by
    match i, hi with
    | 0, _ => exact ⟨Av, cv, by simp [hN1], hrv2, hz1⟩
    | 1, _ => exact ⟨Au, cu, by simp [hN2], hru2, hz2⟩⟩ (by simp) (by rw [hlf, List.length_append]; omega)
  rw [hlf, show ([insP t n, outsP t n] : List (List Int)).length = 2 from rfl] at hcc
  have hb64 : ∀ x ∈ insP t n ++ outsP t n, 0 ≤ x ∧ x < 64 := fun x hx => (List.mem_append.1 hx).elim (shards64 (insP_bd t n) x) (shards64 (outsP_bd t n) x)
  have hll : (insP t n ++ outsP t n).length ≤ 1000000 := by rw [List.length_append]; omega
  have HW2 := Lib.hid hw2
  have HB2 := Lib.hid B2W
  have H64 := Lib.hid hb64
  have HLL := Lib.hid hll
  clear hv hu hB1 hsp hl1 hl2 hN1 hN2 hrv hru hz1 hz2 bw B2 hrv2 hru2 B2W hw2 hlf hb64 hll
  obtain ⟨L, hL⟩ : ∃ L, insP t n ++ outsP t n = L := ⟨_, rfl⟩
  rw [hL] at hcc H64 HLL
  have hsg : singleP t n = if (eachP L).length = 1 then ((eachP L).getD 0 0, true) else (0, false) := by unfold singleP allP; rw [hL]
  have HSG := Lib.hid hsg
  clear hL hsg
  go_wp2_with fail
  rw [HW2.out]
  with_reducible refine hcc.mono ?_
  rintro e w3 ⟨v3, rfl, hv3, hB3⟩
  obtain ⟨A3, N3, c3, rfl⟩ := hv3.formN
  have he := each_any w2.heap.size A3 N3 c3 L w3 hv3 H64.out HLL.out
  have HV3 := Lib.hid hv3
  have HB3 := Lib.hid (HB2.out.trans (hB3.mono HB2.out.size))
  have hs23 := hB3.size
  clear hv3 hB3 hcc
  go_wp2_with fail
  with_reducible refine he.mono ?_
  rintro e w4 ⟨A4, c4, rfl, hr, hf⟩
  have hB4 := HB3.out.trans ((OwnW.step HV3.out hf hs23).mono HB2.out.size)
  have HB4 := Lib.hid (HB0.out.trans (hB4.mono HB0.out.size))
  obtain ⟨E, hE⟩ : ∃ E, eachP L = E := ⟨_, rfl⟩
  rw [hE] at hr HSG ⊢
  obtain ⟨m, hm⟩ : ∃ m, E.length = m := ⟨_, rfl⟩
  have hsg := HSG.out
  rw [hm] at hsg
  by_cases h1 : m = 1
  · subst h1
    obtain ⟨g4, o4, rfl, hg4, hc4⟩ := hr.at (i := 0) (by omega)
    rw [if_pos rfl] at hsg
    rw [Nat.add_zero] at hc4
    obtain ⟨x, hx⟩ : ∃ x, E.getD 0 0 = x := ⟨_, rfl⟩
    rw [hx] at hc4 hsg
    have HSG2 := Lib.hid hsg
    clear hr hf hB4 hE hsg HSG hx he
    have hmb : ((1 : Int) != 1) = false := rfl
    have hlt1 : ((0 : Int) < 1) := by omega
    rw [hm]
    clear hm
    go_wp2_with fail
    go_ret2
    exact ⟨by rw [HSG2.out]; rfl, HB4.out⟩
  · rw [if_neg h1] at hsg
    have HSG2 := Lib.hid hsg
    have hmb : ((m : Int) != 1) = true := by simp; omega
    clear hr hf hB4 hE hsg HSG he
    rw [hm]
    clear hm
    go_wp2_with fail
    go_ret2
    exact ⟨by rw [HSG2.out]; rfl, HB4.out⟩
end Go.Proofs.YtmflhidmhefljaaDoor
