/-
  The arguments opened: points, transactions.
-/
import Derived.Test.YtmflhidmhefljaaDoorDoorG
import Derived.Test.YtmflhidmhefljaaDoorTxB
namespace Go.Proofs.YtmflhidmhefljaaDoor
open Go.ChangeShapes Go.WideShapes Go.ChangeAt Go.RowKit Go.Deep
set_option maxRecDepth 100000
section
variable {H : Type} {enc : TypeId × Value → H} {w : World} {base : Nat} {spare : Nat → Bool} {held : Bool}

theorem trod_id {fuel : Nat} {cs : List Value} {x : DataW H × List MemPlace} (h : DataW.trod enc Tryd.prog w base spare held fuel 23 cs = some x) :
    ∃ tx : List Int, cs = bys tx ∧ tx.length = 32 ∧ ∀ y ∈ tx, 0 ≤ y ∧ y ≤ 255 := by
  obtain ⟨xs, m, rfl, _, hlen, hn, hel⟩ := DataW.trod_array uId h
  rw [cId] at hlen
  have each : ∀ i : Nat, ∃ y : Int, i < 32 → cs[i]? = some (.int .u8 y) ∧ 0 ≤ y ∧ y ≤ 255 := by
    intro i
    by_cases hi : i < 32
    · have h0 := hel i hi
      rw [cU8, Nat.mul_one, List.getElem?_eq_getElem (by omega)] at h0
      obtain ⟨k, e1, _, hk⟩ := DataW.trod_int uU8 h0
      have : ((cs.drop i).take 1)[0]? = some (.int .u8 k) := by rw [e1]; rfl
      rw [List.getElem?_take, if_pos (by omega), List.getElem?_drop, Nat.add_zero] at this
      exact ⟨k, fun _ => ⟨this, bounds_u8 hk⟩⟩
    · exact ⟨0, fun h => absurd h hi⟩
  obtain ⟨f, hf⟩ := Classical.skolem.1 each
  refine ⟨(List.range 32).map f, ?_, by simp, fun y hy => ?_⟩
  · apply List.ext_getElem?
    intro i
    by_cases hi : i < 32
    · rw [(hf i hi).1]
      simp [bys, hi]
    · rw [List.getElem?_eq_none (by omega), List.getElem?_eq_none (by simp [bys]; omega)]
  · obtain ⟨i, hi, rfl⟩ := List.mem_map.1 hy
    exact (hf i (by simpa using hi)).2

theorem trod_pt {fuel : Nat} {cs : List Value} {x : DataW H × List MemPlace} (h : DataW.trod enc Tryd.prog w base spare held fuel 25 cs = some x) :
    ∃ tx ix, cs = ptL tx ix ∧ PtOk (tx, ix) := by
  obtain ⟨f0, f1, hu, t0, t1, o0, o1, _, _⟩ := uPtS
  obtain ⟨xs, m, rfl, _, hlen, hxl, hf⟩ := DataW.trod_struct hu h
  rw [cPt] at hlen
  have h0 := hf 0 f0 rfl
  have h1 := hf 1 f1 rfl
  have hxl2 : xs.length = 2 := by simpa using hxl
  rw [t0, o0, cId, List.drop_zero, List.getElem?_eq_getElem (by omega)] at h0
  rw [t1, o1, cI64, List.getElem?_eq_getElem (by omega)] at h1
  obtain ⟨tx, e0, l0, b0⟩ := trod_id h0
  obtain ⟨k, e1, _, hk⟩ := DataW.trod_int uI64 h1
  refine ⟨tx, k, ?_, ⟨l0, b0, bounds_i64 hk⟩⟩
  rw [← List.take_append_drop 32 cs, e0, ptL]
  congr 1
  have : (cs.drop 32).take 1 = cs.drop 32 := List.take_of_length_le (by rw [List.length_drop]; omega)
  rw [← this, e1]

/-- A text, with its capacity. -/
theorem trod_bytesC {fuel : Nat} {cs : List Value} {x : DataW H × List MemPlace} (h : DataW.trod enc Tryd.prog w base spare held fuel 51 cs = some x) :
    ∃ A l c, cs = [.slice A l.length c] ∧ Byt w A l ∧ l.length ≤ c ∧ (A = none → c = 0) ∧ l.length ≤ maxLen := by
  rcases open_ints Tryd.underlying51 Tryd.underlying5 (by kernel_rfl) h with ⟨rfl, _⟩ | ⟨a, len, cap, zs, rfl, _, hl, hm, hz, _, hc, hw⟩
  · exact ⟨none, [], 0, rfl, Byt.nil _ _, Nat.le_refl _, fun _ => rfl, by simp⟩
  · have hzl : len ≤ zs.length := by rw [hz]; split <;> omega
    have htl : (zs.take len).length = len := by simp; omega
    refine ⟨some a, zs.take len, cap, by rw [htl], ⟨fun h0 => ?_, fun x hx => bounds_u8 (hw x (List.mem_of_mem_take hx))⟩, by rw [htl]; omega, fun e => by (cases e), by rw [htl]; omega⟩
    have c0 := hc 0 (by omega)
    obtain ⟨b, off, spot⟩ := a
    have hs : spot = none := by simpa [Addr.add] using World.cell?_spot c0
    subst hs
    rw [add_none] at c0
    refine ⟨b, off, rfl, block_lt_of_cell c0, fun j x hx => ?_⟩
    rw [List.getElem?_take] at hx
    split at hx
    · have hjl : j < zs.length := by omega
      have := hc j hjl
      rw [add_none] at this
      rw [this]
      rw [List.getElem?_eq_getElem hjl] at hx
      simp [List.getD, List.getElem?_eq_getElem hjl, Option.some.inj hx]
    · cases hx

theorem uInF : ∃ f0 f1 f2 : Field, Tryd.prog.underlying 57 = some (.struct #[f0, f1, f2]) ∧ f0.type = 25 ∧ f1.type = 33 ∧ f2.type = 51 ∧ f0.offset = 0 ∧ f1.offset = 33 ∧ f2.offset = 34 :=
  ⟨_, _, _, Tryd.underlying57, rfl, rfl, rfl, rfl, rfl, rfl⟩
theorem uOutF : ∃ f0 f1 : Field, Tryd.prog.underlying 59 = some (.struct #[f0, f1]) ∧ f0.type = 23 ∧ f1.type = 33 ∧ f0.offset = 0 ∧ f1.offset = 32 :=
  ⟨_, _, Tryd.underlying59, rfl, rfl, rfl, rfl⟩
theorem uTxF : ∃ f0 f1 f2 f3 : Field, Tryd.prog.underlying 35 = some (.struct #[f0, f1, f2, f3]) ∧ f0.type = 31 ∧ f1.type = 32 ∧ f2.type = 33 ∧ f3.type = 3 ∧ f0.offset = 0 ∧ f1.offset = 1 ∧ f2.offset = 2 ∧ f3.offset = 3 :=
  ⟨_, _, _, _, Tryd.underlying35, rfl, rfl, rfl, rfl, rfl, rfl, rfl, rfl⟩
theorem cIn : Tryd.prog.cellsOf 57 = 35 := by kernel_rfl
theorem cOut : Tryd.prog.cellsOf 59 = 33 := by kernel_rfl
theorem cU64 : Tryd.prog.cellsOf 33 = 1 := by kernel_rfl
theorem cByts : Tryd.prog.cellsOf 51 = 1 := by kernel_rfl
theorem cIns : Tryd.prog.cellsOf 31 = 1 := by kernel_rfl
theorem cOuts : Tryd.prog.cellsOf 32 = 1 := by kernel_rfl
theorem uU64 : Tryd.prog.underlying 33 = some (.int .u64) := by kernel_rfl
theorem bounds_u64' {n : Int} (h : (Lit.int .u64 n).wf = true) : 0 ≤ n ∧ n ≤ 18446744073709551615 := by
  simp only [Lit.wf] at h
  rw [show IntKind.u64.min = 0 from rfl, show IntKind.u64.max = 18446744073709551615 from rfl] at h
  simpa using h

theorem take_drop_one {cs : List Value} {n : Nat} {v : Value} (h : (cs.drop n).take 1 = [v]) : cs[n]? = some v := by
  have : ((cs.drop n).take 1)[0]? = some v := by rw [h]; rfl
  rw [List.getElem?_take, if_pos (by omega), List.getElem?_drop, Nat.add_zero] at this
  exact this

theorem trod_in {fuel : Nat} {cs : List Value} {x : DataW H × List MemPlace} (h : DataW.trod enc Tryd.prog w base spare held fuel 57 cs = some x) :
    ∃ (i : InD) (A : Option Addr) (c : Nat), cs = inV i A c ∧ i.Bd ∧ Byt w A i.sec ∧ i.sec.length ≤ c ∧ (A = none → c = 0) ∧ i.sec.length ≤ maxLen := by
  obtain ⟨f0, f1, f2, hu, t0, t1, t2, o0, o1, o2⟩ := uInF
  obtain ⟨xs, m, rfl, _, hlen, hxl, hf⟩ := DataW.trod_struct hu h
  rw [cIn] at hlen
  have hxl3 : xs.length = 3 := by simpa using hxl
  have h0 := hf 0 f0 rfl
  have h1 := hf 1 f1 rfl
  have h2 := hf 2 f2 rfl
  rw [t0, o0, cPt, List.drop_zero, List.getElem?_eq_getElem (by omega)] at h0
  rw [t1, o1, cU64, List.getElem?_eq_getElem (by omega)] at h1
  rw [t2, o2, cByts, List.getElem?_eq_getElem (by omega)] at h2
  obtain ⟨tx, ix, e0, ok⟩ := trod_pt h0
  obtain ⟨am, e1, _, hk⟩ := DataW.trod_int uU64 h1
  obtain ⟨A, sec, c, e2, hb, hc, hn, hm⟩ := trod_bytesC h2
  refine ⟨⟨tx, ix, am, sec⟩, A, c, ?_, ⟨ok.len, ok.tx, ok.ix, bounds_u64' hk, hb.bd⟩, hb, hc, hn, hm⟩
  have g1 := take_drop_one e1
  have g2 := take_drop_one e2
  unfold inV
  simp only
  rw [← e0, ← List.take_append_drop 33 cs]
  congr 1
  · rw [List.take_append_of_le_length (by rw [List.length_take]; omega), List.take_take, Nat.min_self]
  · rw [List.drop_eq_getElem_cons (by omega), List.drop_eq_getElem_cons (by omega), List.drop_of_length_le (by omega)]
    rw [List.getElem?_eq_getElem (by omega)] at g1 g2
    simp only [Option.some.injEq] at g1 g2
    rw [g1, g2]

theorem trod_out {fuel : Nat} {cs : List Value} {x : DataW H × List MemPlace} (h : DataW.trod enc Tryd.prog w base spare held fuel 59 cs = some x) :
    ∃ o : OutD, cs = outV o ∧ o.Bd := by
  obtain ⟨f0, f1, hu, t0, t1, o0, o1⟩ := uOutF
  obtain ⟨xs, m, rfl, _, hlen, hxl, hf⟩ := DataW.trod_struct hu h
  rw [cOut] at hlen
  have hxl3 : xs.length = 2 := by simpa using hxl
  have h0 := hf 0 f0 rfl
  have h1 := hf 1 f1 rfl
  rw [t0, o0, cId, List.drop_zero, List.getElem?_eq_getElem (by omega)] at h0
  rw [t1, o1, cU64, List.getElem?_eq_getElem (by omega)] at h1
  obtain ⟨ow, e0, hl, hb⟩ := trod_id h0
  obtain ⟨am, e1, _, hk⟩ := DataW.trod_int uU64 h1
  refine ⟨⟨ow, am⟩, ?_, ⟨hl, hb, bounds_u64' hk⟩⟩
  have g1 := take_drop_one e1
  unfold outV
  simp only
  rw [← e0, ← List.take_append_drop 32 cs]
  congr 1
  · rw [List.take_append_of_le_length (by rw [List.length_take]; omega), List.take_take, Nat.min_self]
  · rw [List.drop_eq_getElem_cons (by omega), List.drop_of_length_le (by omega)]
    rw [List.getElem?_eq_getElem (by omega)] at g1
    simp only [Option.some.injEq] at g1
    rw [g1]

theorem trod_ins {fuel : Nat} {cs : List Value} {x : DataW H × List MemPlace} (h : DataW.trod enc Tryd.prog w base spare held fuel 31 cs = some x) :
    ∃ A l c, cs = [.slice A l.length c] ∧ InsAt w A l ∧ (∀ i ∈ l, i.Bd) ∧ l.length ≤ maxLen := by
  rcases open_slice Tryd.underlying31 h with ⟨rfl, _⟩ | ⟨a, len, cap, m, n, D, Pl, rfl, _, hl, hm, hmm, _, hi⟩
  · exact ⟨none, [], 0, rfl, fun i h => absurd h (by simp), by simp, by simp⟩
  · have hml : len ≤ m := by rw [hmm]; split <;> omega
    obtain ⟨b, off, spot⟩ := a
    have hspot : 0 < len → spot = none ∧ b < w.heap.size := by
      intro h0
      obtain ⟨cs', hc, ht⟩ := hi 0 (by omega)
      rw [cIn] at hc
      obtain ⟨_, hcl, hat⟩ := World.cells?_some hc
      have := hat 0 (by omega)
      rw [List.getElem?_eq_getElem (by omega)] at this
      have hs : spot = none := by simpa [Addr.add] using World.cell?_spot this
      subst hs
      refine ⟨rfl, ?_⟩
      rw [add_none, add_none] at this
      exact block_lt_of_cell this
    have each : ∀ i, ∃ a : InD, i < len → a.Bd ∧ ∃ A c, InAt w b (off + i * 35) A c a := by
      intro i
      by_cases h : i < len
      · obtain ⟨rfl, hbl⟩ := hspot (by omega)
        obtain ⟨cs', hc, ht⟩ := hi i (by omega)
        rw [cIn] at hc
        obtain ⟨_, hcl, hat⟩ := World.cells?_some hc
        have hat' : ∀ j v, cs'[j]? = some v → w.cell? ⟨b, off + i * 35 + j, none⟩ = some v := fun j v hv => by
          have hj : j < 35 := by have := (List.getElem?_eq_some_iff.1 hv).1; omega
          have := hat j hj
          rw [add_none, add_none, hv] at this
          exact this
        obtain ⟨a, A, c, rfl, hbd, hby, hlc, hn, hmx⟩ := trod_in ht
        exact ⟨a, fun _ => ⟨hbd, A, c, ⟨hat', hby, hlc, hn, hmx⟩⟩⟩
      · exact ⟨default, fun h' => absurd h' h⟩
    obtain ⟨f, hf⟩ := Classical.skolem.1 each
    have hll : ((List.range len).map f).length = len := by simp
    refine ⟨some ⟨b, off, spot⟩, (List.range len).map f, cap, by rw [hll], fun i h0 => ?_, fun y hy => ?_, by rw [hll]; omega⟩
    · rw [hll] at h0
      obtain ⟨rfl, hbl⟩ := hspot (by omega)
      have := (hf i h0).2
      obtain ⟨A, c, hat⟩ := this
      exact ⟨b, off, A, c, rfl, hbl, by simpa using hat⟩
    · obtain ⟨i, hi, rfl⟩ := List.mem_map.1 hy
      exact (hf i (by simpa using hi)).1

theorem trod_outs {fuel : Nat} {cs : List Value} {x : DataW H × List MemPlace} (h : DataW.trod enc Tryd.prog w base spare held fuel 32 cs = some x) :
    ∃ A l c, cs = [.slice A l.length c] ∧ OutsAt w A l ∧ (∀ i ∈ l, i.Bd) ∧ l.length ≤ maxLen := by
  rcases open_slice Tryd.underlying32 h with ⟨rfl, _⟩ | ⟨a, len, cap, m, n, D, Pl, rfl, _, hl, hm, hmm, _, hi⟩
  · exact ⟨none, [], 0, rfl, fun i h => absurd h (by simp), by simp, by simp⟩
  · have hml : len ≤ m := by rw [hmm]; split <;> omega
    obtain ⟨b, off, spot⟩ := a
    have hspot : 0 < len → spot = none ∧ b < w.heap.size := by
      intro h0
      obtain ⟨cs', hc, ht⟩ := hi 0 (by omega)
      rw [cOut] at hc
      obtain ⟨_, hcl, hat⟩ := World.cells?_some hc
      have := hat 0 (by omega)
      rw [List.getElem?_eq_getElem (by omega)] at this
      have hs : spot = none := by simpa [Addr.add] using World.cell?_spot this
      subst hs
      refine ⟨rfl, ?_⟩
      rw [add_none, add_none] at this
      exact block_lt_of_cell this
    have each : ∀ i, ∃ a : OutD, i < len → a.Bd ∧ ∀ k y, (outV a)[k]? = some y → w.cell? ⟨b, off + i * 33 + k, none⟩ = some y := by
      intro i
      by_cases h : i < len
      · obtain ⟨rfl, hbl⟩ := hspot (by omega)
        obtain ⟨cs', hc, ht⟩ := hi i (by omega)
        rw [cOut] at hc
        obtain ⟨_, hcl, hat⟩ := World.cells?_some hc
        have hat' : ∀ j v, cs'[j]? = some v → w.cell? ⟨b, off + i * 33 + j, none⟩ = some v := fun j v hv => by
          have hj : j < 33 := by have := (List.getElem?_eq_some_iff.1 hv).1; omega
          have := hat j hj
          rw [add_none, add_none, hv] at this
          exact this
        obtain ⟨a, rfl, hbd⟩ := trod_out ht
        exact ⟨a, fun _ => ⟨hbd, hat'⟩⟩
      · exact ⟨default, fun h' => absurd h' h⟩
    obtain ⟨f, hf⟩ := Classical.skolem.1 each
    have hll : ((List.range len).map f).length = len := by simp
    refine ⟨some ⟨b, off, spot⟩, (List.range len).map f, cap, by rw [hll], fun i h0 => ?_, fun y hy => ?_, by rw [hll]; omega⟩
    · rw [hll] at h0
      obtain ⟨rfl, hbl⟩ := hspot (by omega)
      have := (hf i h0).2
      exact ⟨b, off, rfl, hbl, by simpa using this⟩
    · obtain ⟨i, hi, rfl⟩ := List.mem_map.1 hy
      exact (hf i (by simpa using hi)).1

theorem trod_tx {fuel : Nat} {cs : List Value} {x : DataW H × List MemPlace} (h : DataW.trod enc Tryd.prog w base spare held fuel 35 cs = some x) :
    ∃ A1 c1 A2 c2 t, cs = (txV A1 c1 A2 c2 t).toList ∧ TxAt w A1 A2 t ∧ t.ins.length ≤ maxLen ∧ t.outs.length ≤ maxLen := by
  obtain ⟨f0, f1, f2, f3, hu, t0, t1, t2, t3, o0, o1, o2, o3⟩ := uTxF
  obtain ⟨xs, m, rfl, _, hlen, hxl, hf⟩ := DataW.trod_struct hu h
  rw [show Tryd.prog.cellsOf 35 = 4 by kernel_rfl] at hlen
  have hxl4 : xs.length = 4 := by simpa using hxl
  have h0 := hf 0 f0 rfl
  have h1 := hf 1 f1 rfl
  have h2 := hf 2 f2 rfl
  have h3 := hf 3 f3 rfl
  rw [t0, o0, cIns, List.getElem?_eq_getElem (by omega)] at h0
  rw [t1, o1, cOuts, List.getElem?_eq_getElem (by omega)] at h1
  rw [t2, o2, cU64, List.getElem?_eq_getElem (by omega)] at h2
  rw [t3, o3, cI64, List.getElem?_eq_getElem (by omega)] at h3
  obtain ⟨A1, l1, c1, e0, hi, hib, him⟩ := trod_ins h0
  obtain ⟨A2, l2, c2, e1, ho, hob, hom⟩ := trod_outs h1
  obtain ⟨fee, e2, _, wf⟩ := DataW.trod_int uU64 h2
  obtain ⟨exp, e3, _, we⟩ := DataW.trod_int uI64 h3
  refine ⟨A1, c1, A2, c2, ⟨l1, l2, fee, exp⟩, ?_, ⟨hi, ho, ⟨hib, hob, bounds_u64' wf, bounds_i64 we⟩⟩, him, hom⟩
  have g0 := take_drop_one e0
  have g1 := take_drop_one e1
  have g2 := take_drop_one e2
  have g3 := take_drop_one e3
  match cs, hlen with
  | [a, b, c, d], _ =>
    simp only [List.getElem?_cons_zero, List.getElem?_cons_succ, Option.some.injEq] at g0 g1 g2 g3
    subst g0 g1 g2 g3
    rfl
end
end Go.Proofs.YtmflhidmhefljaaDoor
