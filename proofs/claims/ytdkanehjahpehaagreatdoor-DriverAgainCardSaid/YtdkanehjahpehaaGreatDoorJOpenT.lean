/-
  What the laid variables give: the digests' constants; a start that has them.
  The arguments opened: bytes, bools, texts.
  The arguments opened: points, transactions.
-/
import Derived.Test.YtdkanehjahpehaaGreatDoorJShaU
import Derived.Test.YtdkanehjahpehaaGreatDoorRows
import Derived.ProofKit
import Derived.LaidMore
import Derived.OpenShut
import Derived.MakeChecks
import Derived.Stop.Joined
import Derived.ShutString
import Derived.ChangeOld
import Derived.Deep.Slices
import Derived.Deep.Fields
import Derived.Test.YtdkanehjahpehaaGreatDoorJTxA

section
section
namespace Go.Proofs.YtdkanehjahpehaaGreatDoor
open Go.ChangeShapes Go.WideShapes Go.ChangeAt Go.RowKit
set_option maxRecDepth 100000

theorem own : ownKnob Tryz.prog.godebug = none := by kernel_rfl
theorem gFirst : Tryz.prog.globalNamed "seisin/sha.first" = some 0 := by kernel_rfl
theorem gRounds : Tryz.prog.globalNamed "seisin/sha.rounds" = some 1 := by kernel_rfl
theorem tFirst : (Tryz.prog.globals[0]?).map (·.type) = some 292 := by kernel_rfl
theorem tRounds : (Tryz.prog.globals[1]?).map (·.type) = some 310 := by kernel_rfl
theorem uFirst : Tryz.prog.underlying 292 = some (.array 8 241) := by kernel_rfl
theorem uRounds : Tryz.prog.underlying 310 = some (.array 64 241) := by kernel_rfl
theorem uU32 : Tryz.prog.underlying 241 = some (.int .u32) := by kernel_rfl
theorem cU32 : Tryz.prog.cellsOf 241 = 1 := by kernel_rfl

/-- The listed variables. -/
def laid2 : List (String × DataW Unit) := [("seisin/sha.first", Rows.laid_seisin_sha_first), ("seisin/sha.rounds", Rows.laid_seisin_sha_rounds)]
def lits (l : List Int) : List (DataW Unit) := l.map fun x => .lit (.int .u32 x)
theorem first_lits : (Rows.laid_seisin_sha_first : DataW Unit) = .agg (lits H0) := by kernel_rfl
theorem rounds_lits : (Rows.laid_seisin_sha_rounds : DataW Unit) = .agg (lits K0) := by kernel_rfl

/-- The cells of an array of words that reads as known ones. -/
theorem cells_of_lits {W : World} {fuel n : Nat} {t : TypeId} {cs : List Value} {L : List Int} {p : List MemPlace} {held : Bool} {base : Nat} {sp : TypeId × Value → Unit} {f : Nat → Bool}
    (ht : Tryz.prog.underlying t = some (.array n 241)) (h : DataW.trod sp Tryz.prog W base f held fuel t cs = some (.agg (lits L), p)) : ∀ i, i < n → cs[i]? = some (.int .u32 (L.getD i 0)) := by
  obtain ⟨xs, m, rfl, hx, hlen, hn, hel⟩ := DataW.trod_array ht h
  intro i hi
  have h0 := hel i hi
  rw [cU32, Nat.mul_one] at h0
  simp only [Prod.mk.injEq, DataW.agg.injEq] at hx
  have hxi : xs[i]? = some xs[i] := List.getElem?_eq_getElem (by omega)
  rw [hxi] at h0
  obtain ⟨k, e1, e2, _⟩ := DataW.trod_int uU32 h0
  have hm : (lits L)[i]? = some (.lit (.int .u32 k)) := by
    rw [hx.1, List.getElem?_map, hxi, e2]
    rfl
  unfold lits at hm
  rw [List.getElem?_map] at hm
  obtain ⟨y, hy, e3⟩ := Option.map_eq_some_iff.1 hm
  have e4 : y = k := by
    injection e3 with e3
    injection e3
  subst e4
  have e5 : L.getD i 0 = y := by simp [List.getD, hy]
  rw [e5]
  have : ((cs.drop i).take 1)[0]? = some (.int .u32 y) := by rw [e1]; rfl
  rw [List.getElem?_take, if_pos (by omega), List.getElem?_drop, Nat.add_zero] at this
  exact this

theorem glob_of_laid {W : World} (h : laidMetH Tryz.prog laid2 W) : Glob W := by
  rw [MakeChecks.laidMetH_plain _ _ _ (by kernel_rfl)] at h
  obtain ⟨ps, ⟨g0, t0, cs0, f0, p0, q0, hg0, ht0, hv0, hd0, ⟨g1, t1, cs1, f1, p1, q1, hg1, ht1, hv1, hd1, _, _⟩, _⟩, _, _⟩ := h
  obtain rfl := Option.some.inj (gFirst.symm.trans hg0)
  obtain rfl := Option.some.inj (gRounds.symm.trans hg1)
  obtain rfl := Option.some.inj (tFirst.symm.trans ht0)
  obtain rfl := Option.some.inj (tRounds.symm.trans ht1)
  rw [first_lits] at hd0
  rw [rounds_lits] at hd1
  have c0 := cells_of_lits uFirst hd0
  have c1 := cells_of_lits uRounds hd1
  refine ⟨fun i hi => ?_, fun i hi => ?_, ?_⟩
  · have e := World.var?_cell hg1 hv1 i
    rw [← Array.getElem?_toList, c1 i hi] at e
    exact e
  · have e := World.var?_cell hg0 hv0 i
    rw [← Array.getElem?_toList, c0 i hi] at e
    exact e
  · have e := World.var?_cell hg1 hv1 0
    rw [← Array.getElem?_toList, c1 0 (by omega)] at e
    by_cases hs : 2 ≤ W.heap.size
    · exact hs
    · unfold World.cell? at e
      rw [show W.heap[1]? = none from Array.getElem?_eq_none (by omega)] at e
      cases e

theorem door_met (os : Os) (args : Array Value) : laidMetH Tryz.prog laid2 ((World.doorLaid Tryz.prog 400 os).forCall (fun _ _ => 0) ⟨#[], args, []⟩).memory :=
  laidMetH_of_parts3 (fuel := 8) (laidMet_of_run' 8 (by kernel_rfl) (by kernel_rfl)) (by kernel_rfl) (by kernel_rfl)

end Go.Proofs.YtdkanehjahpehaaGreatDoor
end

section
namespace Go.Proofs.YtdkanehjahpehaaGreatDoor
open Go.ChangeShapes Go.WideShapes Go.ChangeAt Go.RowKit Go.Deep

set_option maxRecDepth 100000
theorem laidOut : laidOutB Tryz.prog = true := by kernel_rfl
theorem add_none (g off i : Nat) : (⟨g, off, none⟩ : Addr).add i = ⟨g, off + i, none⟩ := by unfold Addr.add; split <;> simp_all

/-- The slice at A, of that capacity, has these bytes. -/
structure BytN (w : World) (A : Option Addr) (c : Nat) (l : List Int) : Prop where
  byt : Byt w A l
  nil_ : A = none → c = 0

section
variable {H : Type} {enc : TypeId × Value → H} {w : World} {base : Nat} {spare : Nat → Bool} {held : Bool}

theorem trod_bytes {fuel : Nat} {cs : List Value} {x : DataW H × List MemPlace} (h : DataW.trod enc Tryz.prog w base spare held fuel 28 cs = some x) :
    ∃ A l c, cs = [.slice A l.length c] ∧ BytN w A c l ∧ l.length ≤ maxLen := by
  rcases open_ints Tryz.underlying28 Tryz.underlying5 (by kernel_rfl) h with ⟨rfl, _⟩ | ⟨a, len, cap, zs, rfl, _, hl, hm, hz, _, hc, hw⟩
  · exact ⟨none, [], 0, rfl, ⟨Byt.nil _ _, fun _ => rfl⟩, by simp⟩
  · have hzl : len ≤ zs.length := by rw [hz]; split <;> omega
    have htl : (zs.take len).length = len := by simp; omega
    refine ⟨some a, zs.take len, cap, by rw [htl], ⟨⟨fun h0 => ?_, fun x hx => bounds_u8 (hw x (List.mem_of_mem_take hx))⟩, fun e => by cases e⟩, by rw [htl]; omega⟩
    have c0 := hc 0 (by omega)
    obtain ⟨b, off, spot⟩ := a
    have hs : spot = none := by simpa [Addr.add] using World.cell?_spot c0
    subst hs
    rw [add_none] at c0
    refine ⟨b, off, rfl, block_lt_of_cell c0, fun j x hx => ?_⟩
    rw [List.getElem?_take] at hx
    split at hx
    · have hjl : j < zs.length := by omega
      have := hc j hjl
      rw [add_none] at this
      rw [this]
      rw [List.getElem?_eq_getElem hjl] at hx
      simp [List.getD, List.getElem?_eq_getElem hjl, Option.some.inj hx]
    · cases hx

/-- The slice at A holds these bools. -/
structure Bls (w : World) (A : Option Addr) (l : List Bool) : Prop where
  cell : 0 < l.length → ∃ g off, A = some ⟨g, off, none⟩ ∧ g < w.heap.size ∧ ∀ j x, l[j]? = some x → w.cell? ⟨g, off + j, none⟩ = some (.bool x)

theorem trod_bools {fuel : Nat} {cs : List Value} {x : DataW H × List MemPlace} (h : DataW.trod enc Tryz.prog w base spare held fuel 27 cs = some x) :
    ∃ A l c, cs = [.slice A l.length c] ∧ Bls w A l ∧ l.length ≤ maxLen := by
  rcases open_slice Tryz.underlying27 h with ⟨rfl, _⟩ | ⟨a, len, cap, m, n, D, Pl, rfl, _, hl, hm, hmm, _, hi⟩
  · exact ⟨none, [], 0, rfl, ⟨fun h => absurd h (by simp)⟩, by simp⟩
  · have hml : len ≤ m := by rw [hmm]; split <;> omega
    have hC : Tryz.prog.cellsOf 4 = 1 := by kernel_rfl
    have each : ∀ i, ∃ b : Bool, i < len → w.cell? (a.add i) = some (.bool b) := by
      intro i
      by_cases h : i < len
      · obtain ⟨cs', hc, ht⟩ := hi i (by omega)
        rw [hC, Nat.mul_one] at hc
        obtain ⟨b, rfl, _⟩ := DataW.trod_bool Tryz.underlying4 ht
        obtain ⟨_, _, hat⟩ := World.cells?_some hc
        refine ⟨b, fun _ => ?_⟩
        have := hat 0 (by omega)
        rw [show (a.add i).add 0 = a.add i from by simp [Addr.add]] at this
        simpa using this
      · exact ⟨false, fun h' => absurd h' h⟩
    obtain ⟨f, hf⟩ := Classical.skolem.1 each
    have hll : ((List.range len).map f).length = len := by simp
    refine ⟨some a, (List.range len).map f, cap, by rw [hll], ⟨fun h0 => ?_⟩, by rw [hll]; omega⟩
    rw [hll] at h0
    have c0 := hf 0 h0
    obtain ⟨b, off, spot⟩ := a
    have hs : spot = none := by simpa [Addr.add] using World.cell?_spot c0
    subst hs
    rw [add_none] at c0
    refine ⟨b, off, rfl, block_lt_of_cell c0, fun j x hx => ?_⟩
    simp only [List.getElem?_map, Option.map_eq_some_iff] at hx
    obtain ⟨j', hj', rfl⟩ := hx
    have hjl : j < len := by have := (List.getElem?_eq_some_iff.1 hj').1; simpa using this
    have : j' = j := by rw [List.getElem?_range hjl] at hj'; exact (Option.some.inj hj').symm
    subst this
    have := hf j' hjl
    rwa [add_none] at this

/-- The slice at A holds these texts. -/
def Txs (w : World) (A : Option Addr) (l : List (List Int)) : Prop := ∀ i, (h : i < l.length) → ∃ g off, A = some ⟨g, off, none⟩ ∧ g < w.heap.size ∧ ∃ A' c', w.cell? ⟨g, off + i, none⟩ = some (.slice A' l[i].length c') ∧ BytN w A' c' l[i] ∧ l[i].length ≤ maxLen

theorem trod_texts {fuel : Nat} {cs : List Value} {x : DataW H × List MemPlace} (h : DataW.trod enc Tryz.prog w base spare held fuel 158 cs = some x) :
    ∃ A l c, cs = [.slice A l.length c] ∧ Txs w A l ∧ l.length ≤ maxLen := by
  rcases open_slice Tryz.underlying158 h with ⟨rfl, _⟩ | ⟨a, len, cap, m, n, D, Pl, rfl, _, hl, hm, hmm, _, hi⟩
  · exact ⟨none, [], 0, rfl, fun i h => absurd h (by simp), by simp⟩
  · have hml : len ≤ m := by rw [hmm]; split <;> omega
    have hC : Tryz.prog.cellsOf 28 = 1 := by kernel_rfl
    obtain ⟨b, off, spot⟩ := a
    have hspot : 0 < len → spot = none ∧ b < w.heap.size := by
      intro h0
      obtain ⟨cs', hc, ht⟩ := hi 0 (by omega)
      rw [hC] at hc
      obtain ⟨_, hcl, hat⟩ := World.cells?_some hc
      have := hat 0 (by omega)
      rw [List.getElem?_eq_getElem (by omega)] at this
      have hs : spot = none := by simpa [Addr.add] using World.cell?_spot this
      subst hs
      refine ⟨rfl, ?_⟩
      rw [add_none, add_none] at this
      exact block_lt_of_cell this
    have each : ∀ i, ∃ l : List Int, i < len → ∃ A' c', w.cell? ⟨b, off + i, none⟩ = some (.slice A' l.length c') ∧ BytN w A' c' l ∧ l.length ≤ maxLen := by
      intro i
      by_cases h : i < len
      · obtain ⟨rfl, hbl⟩ := hspot (by omega)
        obtain ⟨cs', hc, ht⟩ := hi i (by omega)
        rw [hC, Nat.mul_one] at hc
        obtain ⟨A', l, c', rfl, hb, hm'⟩ := trod_bytes ht
        obtain ⟨_, _, hat⟩ := World.cells?_some hc
        have := hat 0 (by omega)
        rw [add_none, add_none, Nat.add_zero] at this
        exact ⟨l, fun _ => ⟨A', c', by simpa using this, hb, hm'⟩⟩
      · exact ⟨[], fun h' => absurd h' h⟩
    obtain ⟨f, hf⟩ := Classical.skolem.1 each
    have hll : ((List.range len).map f).length = len := by simp
    refine ⟨some ⟨b, off, spot⟩, (List.range len).map f, cap, by rw [hll], fun i h0 => ?_, by rw [hll]; omega⟩
    rw [hll] at h0
    obtain ⟨rfl, hbl⟩ := hspot (by omega)
    refine ⟨b, off, rfl, hbl, ?_⟩
    have := hf i h0
    simpa using this
end

end Go.Proofs.YtdkanehjahpehaaGreatDoor
end
end

section
namespace Go.Proofs.YtdkanehjahpehaaGreatDoor
open Go.ChangeShapes Go.WideShapes Go.ChangeAt Go.RowKit Go.Deep
set_option maxRecDepth 100000
section
variable {H : Type} {enc : TypeId × Value → H} {w : World} {base : Nat} {spare : Nat → Bool} {held : Bool}

theorem trod_id {fuel : Nat} {cs : List Value} {x : DataW H × List MemPlace} (h : DataW.trod enc Tryz.prog w base spare held fuel 48 cs = some x) :
    ∃ tx : List Int, cs = bys tx ∧ tx.length = 32 ∧ ∀ y ∈ tx, 0 ≤ y ∧ y ≤ 255 := by
  obtain ⟨xs, m, rfl, _, hlen, hn, hel⟩ := DataW.trod_array uId h
  rw [cId] at hlen
  have each : ∀ i : Nat, ∃ y : Int, i < 32 → cs[i]? = some (.int .u8 y) ∧ 0 ≤ y ∧ y ≤ 255 := by
    intro i
    by_cases hi : i < 32
    · have h0 := hel i hi
      rw [cU8, Nat.mul_one, List.getElem?_eq_getElem (by omega)] at h0
      obtain ⟨k, e1, _, hk⟩ := DataW.trod_int uU8 h0
      have : ((cs.drop i).take 1)[0]? = some (.int .u8 k) := by rw [e1]; rfl
      rw [List.getElem?_take, if_pos (by omega), List.getElem?_drop, Nat.add_zero] at this
      exact ⟨k, fun _ => ⟨this, bounds_u8 hk⟩⟩
    · exact ⟨0, fun h => absurd h hi⟩
  obtain ⟨f, hf⟩ := Classical.skolem.1 each
  refine ⟨(List.range 32).map f, ?_, by simp, fun y hy => ?_⟩
  · apply List.ext_getElem?
    intro i
    by_cases hi : i < 32
    · rw [(hf i hi).1]
      simp [bys, hi]
    · rw [List.getElem?_eq_none (by omega), List.getElem?_eq_none (by simp [bys]; omega)]
  · obtain ⟨i, hi, rfl⟩ := List.mem_map.1 hy
    exact (hf i (by simpa using hi)).2

theorem trod_pt {fuel : Nat} {cs : List Value} {x : DataW H × List MemPlace} (h : DataW.trod enc Tryz.prog w base spare held fuel 75 cs = some x) :
    ∃ tx ix, cs = ptL tx ix ∧ PtOk (tx, ix) := by
  obtain ⟨f0, f1, hu, t0, t1, o0, o1, _, _⟩ := uPtS
  obtain ⟨xs, m, rfl, _, hlen, hxl, hf⟩ := DataW.trod_struct hu h
  rw [cPt] at hlen
  have h0 := hf 0 f0 rfl
  have h1 := hf 1 f1 rfl
  have hxl2 : xs.length = 2 := by simpa using hxl
  rw [t0, o0, cId, List.drop_zero, List.getElem?_eq_getElem (by omega)] at h0
  rw [t1, o1, cI64, List.getElem?_eq_getElem (by omega)] at h1
  obtain ⟨tx, e0, l0, b0⟩ := trod_id h0
  obtain ⟨k, e1, _, hk⟩ := DataW.trod_int uI64 h1
  refine ⟨tx, k, ?_, ⟨l0, b0, bounds_i64 hk⟩⟩
  rw [← List.take_append_drop 32 cs, e0, ptL]
  congr 1
  have : (cs.drop 32).take 1 = cs.drop 32 := List.take_of_length_le (by rw [List.length_drop]; omega)
  rw [← this, e1]

/-- A text, with its capacity. -/
theorem trod_bytesC {fuel : Nat} {cs : List Value} {x : DataW H × List MemPlace} (h : DataW.trod enc Tryz.prog w base spare held fuel 28 cs = some x) :
    ∃ A l c, cs = [.slice A l.length c] ∧ Byt w A l ∧ l.length ≤ c ∧ (A = none → c = 0) ∧ l.length ≤ maxLen := by
  rcases open_ints Tryz.underlying28 Tryz.underlying5 (by kernel_rfl) h with ⟨rfl, _⟩ | ⟨a, len, cap, zs, rfl, _, hl, hm, hz, _, hc, hw⟩
  · exact ⟨none, [], 0, rfl, Byt.nil _ _, Nat.le_refl _, fun _ => rfl, by simp⟩
  · have hzl : len ≤ zs.length := by rw [hz]; split <;> omega
    have htl : (zs.take len).length = len := by simp; omega
    refine ⟨some a, zs.take len, cap, by rw [htl], ⟨fun h0 => ?_, fun x hx => bounds_u8 (hw x (List.mem_of_mem_take hx))⟩, by rw [htl]; omega, fun e => by (cases e), by rw [htl]; omega⟩
    have c0 := hc 0 (by omega)
    obtain ⟨b, off, spot⟩ := a
    have hs : spot = none := by simpa [Addr.add] using World.cell?_spot c0
    subst hs
    rw [add_none] at c0
    refine ⟨b, off, rfl, block_lt_of_cell c0, fun j x hx => ?_⟩
    rw [List.getElem?_take] at hx
    split at hx
    · have hjl : j < zs.length := by omega
      have := hc j hjl
      rw [add_none] at this
      rw [this]
      rw [List.getElem?_eq_getElem hjl] at hx
      simp [List.getD, List.getElem?_eq_getElem hjl, Option.some.inj hx]
    · cases hx

theorem uInF : ∃ f0 f1 f2 : Field, Tryz.prog.underlying 77 = some (.struct #[f0, f1, f2]) ∧ f0.type = 75 ∧ f1.type = 24 ∧ f2.type = 28 ∧ f0.offset = 0 ∧ f1.offset = 33 ∧ f2.offset = 34 :=
  ⟨_, _, _, Tryz.underlying77, rfl, rfl, rfl, rfl, rfl, rfl⟩
theorem uOutF : ∃ f0 f1 : Field, Tryz.prog.underlying 80 = some (.struct #[f0, f1]) ∧ f0.type = 48 ∧ f1.type = 24 ∧ f0.offset = 0 ∧ f1.offset = 32 :=
  ⟨_, _, Tryz.underlying80, rfl, rfl, rfl, rfl⟩
theorem uTxF : ∃ f0 f1 f2 f3 : Field, Tryz.prog.underlying 26 = some (.struct #[f0, f1, f2, f3]) ∧ f0.type = 22 ∧ f1.type = 23 ∧ f2.type = 24 ∧ f3.type = 3 ∧ f0.offset = 0 ∧ f1.offset = 1 ∧ f2.offset = 2 ∧ f3.offset = 3 :=
  ⟨_, _, _, _, Tryz.underlying26, rfl, rfl, rfl, rfl, rfl, rfl, rfl, rfl⟩
theorem cIn : Tryz.prog.cellsOf 77 = 35 := by kernel_rfl
theorem cOut : Tryz.prog.cellsOf 80 = 33 := by kernel_rfl
theorem cU64 : Tryz.prog.cellsOf 24 = 1 := by kernel_rfl
theorem cByts : Tryz.prog.cellsOf 28 = 1 := by kernel_rfl
theorem cIns : Tryz.prog.cellsOf 22 = 1 := by kernel_rfl
theorem cOuts : Tryz.prog.cellsOf 23 = 1 := by kernel_rfl
theorem uU64 : Tryz.prog.underlying 24 = some (.int .u64) := by kernel_rfl
theorem bounds_u64' {n : Int} (h : (Lit.int .u64 n).wf = true) : 0 ≤ n ∧ n ≤ 18446744073709551615 := by
  simp only [Lit.wf] at h
  rw [show IntKind.u64.min = 0 from rfl, show IntKind.u64.max = 18446744073709551615 from rfl] at h
  simpa using h

theorem take_drop_one {cs : List Value} {n : Nat} {v : Value} (h : (cs.drop n).take 1 = [v]) : cs[n]? = some v := by
  have : ((cs.drop n).take 1)[0]? = some v := by rw [h]; rfl
  rw [List.getElem?_take, if_pos (by omega), List.getElem?_drop, Nat.add_zero] at this
  exact this

theorem trod_in {fuel : Nat} {cs : List Value} {x : DataW H × List MemPlace} (h : DataW.trod enc Tryz.prog w base spare held fuel 77 cs = some x) :
    ∃ (i : InD) (A : Option Addr) (c : Nat), cs = inV i A c ∧ i.Bd ∧ Byt w A i.sec ∧ i.sec.length ≤ c ∧ (A = none → c = 0) ∧ i.sec.length ≤ maxLen := by
  obtain ⟨f0, f1, f2, hu, t0, t1, t2, o0, o1, o2⟩ := uInF
  obtain ⟨xs, m, rfl, _, hlen, hxl, hf⟩ := DataW.trod_struct hu h
  rw [cIn] at hlen
  have hxl3 : xs.length = 3 := by simpa using hxl
  have h0 := hf 0 f0 rfl
  have h1 := hf 1 f1 rfl
  have h2 := hf 2 f2 rfl
  rw [t0, o0, cPt, List.drop_zero, List.getElem?_eq_getElem (by omega)] at h0
  rw [t1, o1, cU64, List.getElem?_eq_getElem (by omega)] at h1
  rw [t2, o2, cByts, List.getElem?_eq_getElem (by omega)] at h2
  obtain ⟨tx, ix, e0, ok⟩ := trod_pt h0
  obtain ⟨am, e1, _, hk⟩ := DataW.trod_int uU64 h1
  obtain ⟨A, sec, c, e2, hb, hc, hn, hm⟩ := trod_bytesC h2
  refine ⟨⟨tx, ix, am, sec⟩, A, c, ?_, ⟨ok.len, ok.tx, ok.ix, bounds_u64' hk, hb.bd⟩, hb, hc, hn, hm⟩
  have g1 := take_drop_one e1
  have g2 := take_drop_one e2
  unfold inV
  simp only
  rw [← e0, ← List.take_append_drop 33 cs]
  congr 1
  · rw [List.take_append_of_le_length (by rw [List.length_take]; omega), List.take_take, Nat.min_self]
  · rw [List.drop_eq_getElem_cons (by omega), List.drop_eq_getElem_cons (by omega), List.drop_of_length_le (by omega)]
    rw [List.getElem?_eq_getElem (by omega)] at g1 g2
    simp only [Option.some.injEq] at g1 g2
    rw [g1, g2]

theorem trod_out {fuel : Nat} {cs : List Value} {x : DataW H × List MemPlace} (h : DataW.trod enc Tryz.prog w base spare held fuel 80 cs = some x) :
    ∃ o : OutD, cs = outV o ∧ o.Bd := by
  obtain ⟨f0, f1, hu, t0, t1, o0, o1⟩ := uOutF
  obtain ⟨xs, m, rfl, _, hlen, hxl, hf⟩ := DataW.trod_struct hu h
  rw [cOut] at hlen
  have hxl3 : xs.length = 2 := by simpa using hxl
  have h0 := hf 0 f0 rfl
  have h1 := hf 1 f1 rfl
  rw [t0, o0, cId, List.drop_zero, List.getElem?_eq_getElem (by omega)] at h0
  rw [t1, o1, cU64, List.getElem?_eq_getElem (by omega)] at h1
  obtain ⟨ow, e0, hl, hb⟩ := trod_id h0
  obtain ⟨am, e1, _, hk⟩ := DataW.trod_int uU64 h1
  refine ⟨⟨ow, am⟩, ?_, ⟨hl, hb, bounds_u64' hk⟩⟩
  have g1 := take_drop_one e1
  unfold outV
  simp only
  rw [← e0, ← List.take_append_drop 32 cs]
  congr 1
  · rw [List.take_append_of_le_length (by rw [List.length_take]; omega), List.take_take, Nat.min_self]
  · rw [List.drop_eq_getElem_cons (by omega), List.drop_of_length_le (by omega)]
    rw [List.getElem?_eq_getElem (by omega)] at g1
    simp only [Option.some.injEq] at g1
    rw [g1]

theorem trod_ins {fuel : Nat} {cs : List Value} {x : DataW H × List MemPlace} (h : DataW.trod enc Tryz.prog w base spare held fuel 22 cs = some x) :
    ∃ A l c, cs = [.slice A l.length c] ∧ InsAt w A l ∧ (∀ i ∈ l, i.Bd) ∧ l.length ≤ maxLen := by
  rcases open_slice Tryz.underlying22 h with ⟨rfl, _⟩ | ⟨a, len, cap, m, n, D, Pl, rfl, _, hl, hm, hmm, _, hi⟩
  · exact ⟨none, [], 0, rfl, fun i h => absurd h (by simp), by simp, by simp⟩
  · have hml : len ≤ m := by rw [hmm]; split <;> omega
    obtain ⟨b, off, spot⟩ := a
    have hspot : 0 < len → spot = none ∧ b < w.heap.size := by
      intro h0
      obtain ⟨cs', hc, ht⟩ := hi 0 (by omega)
      rw [cIn] at hc
      obtain ⟨_, hcl, hat⟩ := World.cells?_some hc
      have := hat 0 (by omega)
      rw [List.getElem?_eq_getElem (by omega)] at this
      have hs : spot = none := by simpa [Addr.add] using World.cell?_spot this
      subst hs
      refine ⟨rfl, ?_⟩
      rw [add_none, add_none] at this
      exact block_lt_of_cell this
    have each : ∀ i, ∃ a : InD, i < len → a.Bd ∧ ∃ A c, InAt w b (off + i * 35) A c a := by
      intro i
      by_cases h : i < len
      · obtain ⟨rfl, hbl⟩ := hspot (by omega)
        obtain ⟨cs', hc, ht⟩ := hi i (by omega)
        rw [cIn] at hc
        obtain ⟨_, hcl, hat⟩ := World.cells?_some hc
        have hat' : ∀ j v, cs'[j]? = some v → w.cell? ⟨b, off + i * 35 + j, none⟩ = some v := fun j v hv => by
          have hj : j < 35 := by have := (List.getElem?_eq_some_iff.1 hv).1; omega
          have := hat j hj
          rw [add_none, add_none, hv] at this
          exact this
        obtain ⟨a, A, c, rfl, hbd, hby, hlc, hn, hmx⟩ := trod_in ht
        exact ⟨a, fun _ => ⟨hbd, A, c, ⟨hat', hby, hlc, hn, hmx⟩⟩⟩
      · exact ⟨default, fun h' => absurd h' h⟩
    obtain ⟨f, hf⟩ := Classical.skolem.1 each
    have hll : ((List.range len).map f).length = len := by simp
    refine ⟨some ⟨b, off, spot⟩, (List.range len).map f, cap, by rw [hll], fun i h0 => ?_, fun y hy => ?_, by rw [hll]; omega⟩
    · rw [hll] at h0
      obtain ⟨rfl, hbl⟩ := hspot (by omega)
      have := (hf i h0).2
      obtain ⟨A, c, hat⟩ := this
      exact ⟨b, off, A, c, rfl, hbl, by simpa using hat⟩
    · obtain ⟨i, hi, rfl⟩ := List.mem_map.1 hy
      exact (hf i (by simpa using hi)).1

theorem trod_outs {fuel : Nat} {cs : List Value} {x : DataW H × List MemPlace} (h : DataW.trod enc Tryz.prog w base spare held fuel 23 cs = some x) :
    ∃ A l c, cs = [.slice A l.length c] ∧ OutsAt w A l ∧ (∀ i ∈ l, i.Bd) ∧ l.length ≤ maxLen := by
  rcases open_slice Tryz.underlying23 h with ⟨rfl, _⟩ | ⟨a, len, cap, m, n, D, Pl, rfl, _, hl, hm, hmm, _, hi⟩
  · exact ⟨none, [], 0, rfl, fun i h => absurd h (by simp), by simp, by simp⟩
  · have hml : len ≤ m := by rw [hmm]; split <;> omega
    obtain ⟨b, off, spot⟩ := a
    have hspot : 0 < len → spot = none ∧ b < w.heap.size := by
      intro h0
      obtain ⟨cs', hc, ht⟩ := hi 0 (by omega)
      rw [cOut] at hc
      obtain ⟨_, hcl, hat⟩ := World.cells?_some hc
      have := hat 0 (by omega)
      rw [List.getElem?_eq_getElem (by omega)] at this
      have hs : spot = none := by simpa [Addr.add] using World.cell?_spot this
      subst hs
      refine ⟨rfl, ?_⟩
      rw [add_none, add_none] at this
      exact block_lt_of_cell this
    have each : ∀ i, ∃ a : OutD, i < len → a.Bd ∧ ∀ k y, (outV a)[k]? = some y → w.cell? ⟨b, off + i * 33 + k, none⟩ = some y := by
      intro i
      by_cases h : i < len
      · obtain ⟨rfl, hbl⟩ := hspot (by omega)
        obtain ⟨cs', hc, ht⟩ := hi i (by omega)
        rw [cOut] at hc
        obtain ⟨_, hcl, hat⟩ := World.cells?_some hc
        have hat' : ∀ j v, cs'[j]? = some v → w.cell? ⟨b, off + i * 33 + j, none⟩ = some v := fun j v hv => by
          have hj : j < 33 := by have := (List.getElem?_eq_some_iff.1 hv).1; omega
          have := hat j hj
          rw [add_none, add_none, hv] at this
          exact this
        obtain ⟨a, rfl, hbd⟩ := trod_out ht
        exact ⟨a, fun _ => ⟨hbd, hat'⟩⟩
      · exact ⟨default, fun h' => absurd h' h⟩
    obtain ⟨f, hf⟩ := Classical.skolem.1 each
    have hll : ((List.range len).map f).length = len := by simp
    refine ⟨some ⟨b, off, spot⟩, (List.range len).map f, cap, by rw [hll], fun i h0 => ?_, fun y hy => ?_, by rw [hll]; omega⟩
    · rw [hll] at h0
      obtain ⟨rfl, hbl⟩ := hspot (by omega)
      have := (hf i h0).2
      exact ⟨b, off, rfl, hbl, by simpa using this⟩
    · obtain ⟨i, hi, rfl⟩ := List.mem_map.1 hy
      exact (hf i (by simpa using hi)).1

theorem trod_tx {fuel : Nat} {cs : List Value} {x : DataW H × List MemPlace} (h : DataW.trod enc Tryz.prog w base spare held fuel 26 cs = some x) :
    ∃ A1 c1 A2 c2 t, cs = (txV A1 c1 A2 c2 t).toList ∧ TxAt w A1 A2 t ∧ t.ins.length ≤ maxLen ∧ t.outs.length ≤ maxLen := by
  obtain ⟨f0, f1, f2, f3, hu, t0, t1, t2, t3, o0, o1, o2, o3⟩ := uTxF
  obtain ⟨xs, m, rfl, _, hlen, hxl, hf⟩ := DataW.trod_struct hu h
  rw [show Tryz.prog.cellsOf 26 = 4 by kernel_rfl] at hlen
  have hxl4 : xs.length = 4 := by simpa using hxl
  have h0 := hf 0 f0 rfl
  have h1 := hf 1 f1 rfl
  have h2 := hf 2 f2 rfl
  have h3 := hf 3 f3 rfl
  rw [t0, o0, cIns, List.getElem?_eq_getElem (by omega)] at h0
  rw [t1, o1, cOuts, List.getElem?_eq_getElem (by omega)] at h1
  rw [t2, o2, cU64, List.getElem?_eq_getElem (by omega)] at h2
  rw [t3, o3, cI64, List.getElem?_eq_getElem (by omega)] at h3
  obtain ⟨A1, l1, c1, e0, hi, hib, him⟩ := trod_ins h0
  obtain ⟨A2, l2, c2, e1, ho, hob, hom⟩ := trod_outs h1
  obtain ⟨fee, e2, _, wf⟩ := DataW.trod_int uU64 h2
  obtain ⟨exp, e3, _, we⟩ := DataW.trod_int uI64 h3
  refine ⟨A1, c1, A2, c2, ⟨l1, l2, fee, exp⟩, ?_, ⟨hi, ho, ⟨hib, hob, bounds_u64' wf, bounds_i64 we⟩⟩, him, hom⟩
  have g0 := take_drop_one e0
  have g1 := take_drop_one e1
  have g2 := take_drop_one e2
  have g3 := take_drop_one e3
  match cs, hlen with
  | [a, b, c, d], _ =>
    simp only [List.getElem?_cons_zero, List.getElem?_cons_succ, Option.some.injEq] at g0 g1 g2 g3
    subst g0 g1 g2 g3
    rfl
end
end Go.Proofs.YtdkanehjahpehaaGreatDoor
end
