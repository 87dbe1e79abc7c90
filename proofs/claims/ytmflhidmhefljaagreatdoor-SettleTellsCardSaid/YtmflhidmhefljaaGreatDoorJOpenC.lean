/-
  The arguments opened: entries, headers, certificates.
-/
import Derived.Test.YtmflhidmhefljaaGreatDoorJOpenT
import Derived.Test.YtmflhidmhefljaaGreatDoorJAwakeZ

namespace Go.Proofs.YtmflhidmhefljaaGreatDoor
open Go.ChangeShapes Go.WideShapes Go.ChangeAt Go.RowKit Go.Deep
set_option maxRecDepth 100000
section
variable {H : Type} {enc : TypeId × Value → H} {w : World} {base : Nat} {spare : Nat → Bool} {held : Bool}

theorem drop_cut {cs X : List Value} {a n b : Nat} (h : (cs.drop a).take n = X) (hb : a + n = b) : cs.drop a = X ++ cs.drop b := by
  subst hb
  rw [← h, ← List.drop_drop, List.take_append_drop]
theorem drop_end {cs : List Value} {n : Nat} (h : cs.length = n) : cs.drop n = [] := List.drop_of_length_le (by omega)
theorem uEntF : ∃ f0 f1 f2 f3 f4 f5 : Field, Tryz.prog.underlying 43 = some (.struct #[f0, f1, f2, f3, f4, f5]) ∧ (f0.type = 3 ∧ f1.type = 3 ∧ f2.type = 41 ∧ f3.type = 25 ∧ f4.type = 3 ∧ f5.type = 3) ∧ f0.offset = 0 ∧ f1.offset = 1 ∧ f2.offset = 2 ∧ f3.offset = 34 ∧ f4.offset = 35 ∧ f5.offset = 36 :=
  ⟨_, _, _, _, _, _, Tryz.underlying43, ⟨rfl, rfl, rfl, rfl, rfl, rfl⟩, rfl, rfl, rfl, rfl, rfl, rfl⟩
theorem uHeadF : ∃ f0 f1 f2 f3 f4 : Field, Tryz.prog.underlying 46 = some (.struct #[f0, f1, f2, f3, f4]) ∧ (f0.type = 3 ∧ f1.type = 3 ∧ f2.type = 3 ∧ f3.type = 41 ∧ f4.type = 41) ∧ f0.offset = 0 ∧ f1.offset = 1 ∧ f2.offset = 2 ∧ f3.offset = 3 ∧ f4.offset = 35 :=
  ⟨_, _, _, _, _, Tryz.underlying46, ⟨rfl, rfl, rfl, rfl, rfl⟩, rfl, rfl, rfl, rfl, rfl⟩
theorem uCertF : ∃ f0 f1 f2 f3 : Field, Tryz.prog.underlying 48 = some (.struct #[f0, f1, f2, f3]) ∧ (f0.type = 43 ∧ f1.type = 44 ∧ f2.type = 46 ∧ f3.type = 41) ∧ f0.offset = 0 ∧ f1.offset = 37 ∧ f2.offset = 38 ∧ f3.offset = 105 :=
  ⟨_, _, _, _, Tryz.underlying48, ⟨rfl, rfl, rfl, rfl⟩, rfl, rfl, rfl, rfl⟩
theorem cCert : Tryz.prog.cellsOf 48 = 137 := by kernel_rfl
theorem cIds : Tryz.prog.cellsOf 44 = 1 := by kernel_rfl

theorem trod_ent {fuel : Nat} {cs : List Value} {x : DataW H × List MemPlace} (h : DataW.trod enc Tryz.prog w base spare held fuel 43 cs = some x) :
    ∃ e : EntD, cs = entV e ∧ e.Bd := by
  obtain ⟨f0, f1, f2, f3, f4, f5, hu, ⟨t0, t1, t2, t3, t4, t5⟩, o0, o1, o2, o3, o4, o5⟩ := uEntF
  obtain ⟨xs, m, rfl, _, hlen, hxl, hf⟩ := DataW.trod_struct hu h
  rw [cEnt] at hlen
  have hxl6 : xs.length = 6 := by simpa using hxl
  have h0 := hf 0 f0 rfl
  have h1 := hf 1 f1 rfl
  have h2 := hf 2 f2 rfl
  have h3 := hf 3 f3 rfl
  have h4 := hf 4 f4 rfl
  have h5 := hf 5 f5 rfl
  rw [t0, o0, cI64, List.getElem?_eq_getElem (by omega)] at h0
  rw [t1, o1, cI64, List.getElem?_eq_getElem (by omega)] at h1
  rw [t2, o2, cId, List.getElem?_eq_getElem (by omega)] at h2
  rw [t3, o3, cU64, List.getElem?_eq_getElem (by omega)] at h3
  rw [t4, o4, cI64, List.getElem?_eq_getElem (by omega)] at h4
  rw [t5, o5, cI64, List.getElem?_eq_getElem (by omega)] at h5
  obtain ⟨kind, e0, _, w0⟩ := DataW.trod_int uI64 h0
  obtain ⟨sh, e1, _, w1⟩ := DataW.trod_int uI64 h1
  obtain ⟨tx, e2, l2, b2⟩ := trod_id h2
  obtain ⟨am, e3, _, w3⟩ := DataW.trod_int uU64 h3
  obtain ⟨why, e4, _, w4⟩ := DataW.trod_int uI64 h4
  obtain ⟨ep, e5, _, w5⟩ := DataW.trod_int uI64 h5
  refine ⟨⟨kind, sh, tx, am, why, ep⟩, ?_, ⟨bounds_i64 w0, bounds_i64 w1, ⟨l2, b2⟩, bounds_u64' w3, bounds_i64 w4, bounds_i64 w5⟩⟩
  have : cs.drop 0 = entV ⟨kind, sh, tx, am, why, ep⟩ := by
    rw [drop_cut (b := 1) e0 rfl, drop_cut (b := 2) e1 rfl, drop_cut (b := 34) e2 rfl, drop_cut (b := 35) e3 rfl, drop_cut (b := 36) e4 rfl, drop_cut (b := 37) e5 rfl, drop_end hlen]
    simp [entV]
  simpa using this

theorem trod_head {fuel : Nat} {cs : List Value} {x : DataW H × List MemPlace} (h : DataW.trod enc Tryz.prog w base spare held fuel 46 cs = some x) :
    ∃ e : HeadD, cs = headV e ∧ e.Bd := by
  obtain ⟨f0, f1, f2, f3, f4, hu, ⟨t0, t1, t2, t3, t4⟩, o0, o1, o2, o3, o4⟩ := uHeadF
  obtain ⟨xs, m, rfl, _, hlen, hxl, hf⟩ := DataW.trod_struct hu h
  rw [cHead] at hlen
  have hxl5 : xs.length = 5 := by simpa using hxl
  have h0 := hf 0 f0 rfl
  have h1 := hf 1 f1 rfl
  have h2 := hf 2 f2 rfl
  have h3 := hf 3 f3 rfl
  have h4 := hf 4 f4 rfl
  rw [t0, o0, cI64, List.getElem?_eq_getElem (by omega)] at h0
  rw [t1, o1, cI64, List.getElem?_eq_getElem (by omega)] at h1
  rw [t2, o2, cI64, List.getElem?_eq_getElem (by omega)] at h2
  rw [t3, o3, cId, List.getElem?_eq_getElem (by omega)] at h3
  rw [t4, o4, cId, List.getElem?_eq_getElem (by omega)] at h4
  obtain ⟨sh, e0, _, w0⟩ := DataW.trod_int uI64 h0
  obtain ⟨ht, e1, _, w1⟩ := DataW.trod_int uI64 h1
  obtain ⟨ep, e2, _, w2⟩ := DataW.trod_int uI64 h2
  obtain ⟨prev, e3, l3, b3⟩ := trod_id h3
  obtain ⟨root, e4, l4, b4⟩ := trod_id h4
  refine ⟨⟨sh, ht, ep, prev, root⟩, ?_, ⟨bounds_i64 w0, bounds_i64 w1, bounds_i64 w2, ⟨l3, b3⟩, ⟨l4, b4⟩⟩⟩
  have : cs.drop 0 = headV ⟨sh, ht, ep, prev, root⟩ := by
    rw [drop_cut (b := 1) e0 rfl, drop_cut (b := 2) e1 rfl, drop_cut (b := 3) e2 rfl, drop_cut (b := 35) e3 rfl, drop_cut (b := 67) e4 rfl, drop_end hlen]
    simp [headV]
  simpa using this

theorem trod_ids {fuel : Nat} {cs : List Value} {x : DataW H × List MemPlace} (h : DataW.trod enc Tryz.prog w base spare held fuel 44 cs = some x) :
    ∃ (A : Option Addr) (l : List (List Int)) (c : Nat), cs = [.slice A l.length c] ∧ RdR 32 w A (l.map bys) ∧ (∀ d ∈ l, Dig d) ∧ l.length ≤ c ∧ (A = none → c = 0) ∧ l.length ≤ maxLen := by
  rcases open_slice Tryz.underlying44 h with ⟨rfl, _⟩ | ⟨a, len, cap, m, n, D, Pl, rfl, _, hl, hm, hmm, _, hi⟩
  · exact ⟨none, [], 0, rfl, RdR.nil _ _ _, by simp, Nat.le_refl _, fun _ => rfl, by simp⟩
  · have hml : len ≤ m := by rw [hmm]; split <;> omega
    obtain ⟨b, off, spot⟩ := a
    have hspot : 0 < len → spot = none ∧ b < w.heap.size := by
      intro h0
      obtain ⟨cs', hc, ht⟩ := hi 0 (by omega)
      rw [cId] at hc
      obtain ⟨_, hcl, hat⟩ := World.cells?_some hc
      have := hat 0 (by omega)
      rw [List.getElem?_eq_getElem (by omega)] at this
      have hs : spot = none := by simpa [Addr.add] using World.cell?_spot this
      subst hs
      refine ⟨rfl, ?_⟩
      rw [add_none, add_none] at this
      exact block_lt_of_cell this
    have each : ∀ i, ∃ a : List Int, i < len → Dig a ∧ ∀ k y, (bys a)[k]? = some y → w.cell? ⟨b, off + i * 32 + k, none⟩ = some y := by
      intro i
      by_cases h : i < len
      · obtain ⟨rfl, hbl⟩ := hspot (by omega)
        obtain ⟨cs', hc, ht⟩ := hi i (by omega)
        rw [cId] at hc
        obtain ⟨_, hcl, hat⟩ := World.cells?_some hc
        have hat' : ∀ j v, cs'[j]? = some v → w.cell? ⟨b, off + i * 32 + j, none⟩ = some v := fun j v hv => by
          have hj : j < 32 := by have := (List.getElem?_eq_some_iff.1 hv).1; omega
          have := hat j hj
          rw [add_none, add_none, hv] at this
          exact this
        obtain ⟨a, rfl, hl', hb'⟩ := trod_id ht
        exact ⟨a, fun _ => ⟨⟨hl', hb'⟩, hat'⟩⟩
      · exact ⟨[], fun h' => absurd h' h⟩
    obtain ⟨f, hf⟩ := Classical.skolem.1 each
    have hll : ((List.range len).map f).length = len := by simp
    refine ⟨some ⟨b, off, spot⟩, (List.range len).map f, cap, by rw [hll], fun i h0 => ?_, fun y hy => ?_, by rw [hll]; omega, fun e => by (cases e), by rw [hll]; omega⟩
    · rw [List.length_map, hll] at h0
      obtain ⟨rfl, hbl⟩ := hspot (by omega)
      have := (hf i h0).2
      exact ⟨b, off, rfl, hbl, by simpa using this⟩
    · obtain ⟨i, hi, rfl⟩ := List.mem_map.1 hy
      exact (hf i (by simpa using hi)).1

theorem trod_cert {fuel : Nat} {cs : List Value} {x : DataW H × List MemPlace} (h : DataW.trod enc Tryz.prog w base spare held fuel 48 cs = some x) :
    ∃ (d : CertD) (B : Option Addr) (cap : Nat), cs = certV d B cap ∧ RdR 32 w B (d.path.map bys) ∧ d.path.length ≤ cap ∧ (B = none → cap = 0) ∧ d.Bd ∧ d.path.length ≤ maxLen := by
  obtain ⟨f0, f1, f2, f3, hu, ⟨t0, t1, t2, t3⟩, o0, o1, o2, o3⟩ := uCertF
  obtain ⟨xs, m, rfl, _, hlen, hxl, hf⟩ := DataW.trod_struct hu h
  rw [cCert] at hlen
  have hxl4 : xs.length = 4 := by simpa using hxl
  have h0 := hf 0 f0 rfl
  have h1 := hf 1 f1 rfl
  have h2 := hf 2 f2 rfl
  have h3 := hf 3 f3 rfl
  rw [t0, o0, cEnt, List.getElem?_eq_getElem (by omega)] at h0
  rw [t1, o1, cIds, List.getElem?_eq_getElem (by omega)] at h1
  rw [t2, o2, cHead, List.getElem?_eq_getElem (by omega)] at h2
  rw [t3, o3, cId, List.getElem?_eq_getElem (by omega)] at h3
  obtain ⟨e, e0, hb0⟩ := trod_ent h0
  obtain ⟨B, P, cap, e1, hP, hPd, hPc, hPn, hPm⟩ := trod_ids h1
  obtain ⟨hd, e2, hb2⟩ := trod_head h2
  obtain ⟨tg, e3, l3, b3⟩ := trod_id h3
  refine ⟨⟨e, P, hd, tg⟩, B, cap, ?_, hP, hPc, hPn, ⟨hb0, hPd, hb2, ⟨l3, b3⟩⟩, hPm⟩
  have : cs.drop 0 = certV ⟨e, P, hd, tg⟩ B cap := by
    rw [drop_cut (b := 37) e0 rfl, drop_cut (b := 38) e1 rfl, drop_cut (b := 105) e2 rfl, drop_cut (b := 137) e3 rfl, drop_end hlen]
    simp [certV]
  simpa using this

theorem trod_certs {fuel : Nat} {cs : List Value} {x : DataW H × List MemPlace} (h : DataW.trod enc Tryz.prog w base spare held fuel 28 cs = some x) :
    ∃ (A : Option Addr) (l : List CertD) (c : Nat), cs = [.slice A l.length c] ∧ CertsAt w A l ∧ l.length ≤ maxLen := by
  rcases open_slice Tryz.underlying28 h with ⟨rfl, _⟩ | ⟨a, len, cap, m, n, D, Pl, rfl, _, hl, hm, hmm, _, hi⟩
  · exact ⟨none, [], 0, rfl, certs_nil _ _, by simp⟩
  · have hml : len ≤ m := by rw [hmm]; split <;> omega
    obtain ⟨b, off, spot⟩ := a
    have hspot : 0 < len → spot = none ∧ b < w.heap.size := by
      intro h0
      obtain ⟨cs', hc, ht⟩ := hi 0 (by omega)
      rw [cCert] at hc
      obtain ⟨_, hcl, hat⟩ := World.cells?_some hc
      have := hat 0 (by omega)
      rw [List.getElem?_eq_getElem (by omega)] at this
      have hs : spot = none := by simpa [Addr.add] using World.cell?_spot this
      subst hs
      refine ⟨rfl, ?_⟩
      rw [add_none, add_none] at this
      exact block_lt_of_cell this
    have each : ∀ i, ∃ a : CertD, i < len → ∃ B cap, CertAt w b (off + i * 137) B cap a := by
      intro i
      by_cases h : i < len
      · obtain ⟨rfl, hbl⟩ := hspot (by omega)
        obtain ⟨cs', hc, ht⟩ := hi i (by omega)
        rw [cCert] at hc
        obtain ⟨_, hcl, hat⟩ := World.cells?_some hc
        have hat' : ∀ j v, cs'[j]? = some v → w.cell? ⟨b, off + i * 137 + j, none⟩ = some v := fun j v hv => by
          have hj : j < 137 := by have := (List.getElem?_eq_some_iff.1 hv).1; omega
          have := hat j hj
          rw [add_none, add_none, hv] at this
          exact this
        obtain ⟨a, B, cp, rfl, hP, hPc, hPn, hbd, _⟩ := trod_cert ht
        exact ⟨a, fun _ => ⟨B, cp, ⟨hat', hP, hPc, hPn, hbd⟩⟩⟩
      · exact ⟨default, fun h' => absurd h' h⟩
    obtain ⟨f, hf⟩ := Classical.skolem.1 each
    have hll : ((List.range len).map f).length = len := by simp
    refine ⟨some ⟨b, off, spot⟩, (List.range len).map f, cap, by rw [hll], fun i h0 => ?_, by rw [hll]; omega⟩
    rw [hll] at h0
    obtain ⟨rfl, hbl⟩ := hspot (by omega)
    obtain ⟨B, cp, hat⟩ := hf i h0
    exact ⟨b, off, B, cp, rfl, hbl, by simpa using hat⟩
end
end Go.Proofs.YtmflhidmhefljaaGreatDoor
