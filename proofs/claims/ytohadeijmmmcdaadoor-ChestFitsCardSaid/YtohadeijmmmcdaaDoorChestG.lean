/-
  What the laid variables give: the digests' constants; a start that has them.
  The arguments opened: bytes, bools, texts.
  scroll.Fits.
-/
import Derived.Test.YtohadeijmmmcdaaDoorScrollB
import Derived.Test.YtohadeijmmmcdaaDoorRows
import Derived.ProofKit
import Derived.LaidMore
import Derived.OpenShut
import Derived.MakeChecks
import Derived.Stop.Joined
import Derived.ShutString
import Derived.ChangeOld
import Derived.Deep.Slices
import Derived.Deep.Fields
import Derived.Test.YtohadeijmmmcdaaDoorChestF

section
namespace Go.Proofs.YtohadeijmmmcdaaDoor
open Go.ChangeShapes Go.WideShapes Go.ChangeAt Go.RowKit
set_option maxRecDepth 100000

theorem own : ownKnob Tryd.prog.godebug = none := by kernel_rfl
theorem gFirst : Tryd.prog.globalNamed "seisin/sha.first" = some 0 := by kernel_rfl
theorem gRounds : Tryd.prog.globalNamed "seisin/sha.rounds" = some 1 := by kernel_rfl
theorem tFirst : (Tryd.prog.globals[0]?).map (·.type) = some 167 := by kernel_rfl
theorem tRounds : (Tryd.prog.globals[1]?).map (·.type) = some 175 := by kernel_rfl
theorem uFirst : Tryd.prog.underlying 167 = some (.array 8 31) := by kernel_rfl
theorem uRounds : Tryd.prog.underlying 175 = some (.array 64 31) := by kernel_rfl
theorem uU32 : Tryd.prog.underlying 31 = some (.int .u32) := by kernel_rfl
theorem cU32 : Tryd.prog.cellsOf 31 = 1 := by kernel_rfl

/-- The listed variables. -/
def laid2 : List (String × DataW Unit) := [("seisin/sha.first", Rows.laid_seisin_sha_first), ("seisin/sha.rounds", Rows.laid_seisin_sha_rounds)]
def lits (l : List Int) : List (DataW Unit) := l.map fun x => .lit (.int .u32 x)
theorem first_lits : (Rows.laid_seisin_sha_first : DataW Unit) = .agg (lits H0) := by kernel_rfl
theorem rounds_lits : (Rows.laid_seisin_sha_rounds : DataW Unit) = .agg (lits K0) := by kernel_rfl

/-- The cells of an array of words that reads as known ones. -/
theorem cells_of_lits {W : World} {fuel n : Nat} {t : TypeId} {cs : List Value} {L : List Int} {p : List MemPlace} {held : Bool} {base : Nat} {sp : TypeId × Value → Unit} {f : Nat → Bool}
    (ht : Tryd.prog.underlying t = some (.array n 31)) (h : DataW.trod sp Tryd.prog W base f held fuel t cs = some (.agg (lits L), p)) : ∀ i, i < n → cs[i]? = some (.int .u32 (L.getD i 0)) := by
  obtain ⟨xs, m, rfl, hx, hlen, hn, hel⟩ := DataW.trod_array ht h
  intro i hi
  have h0 := hel i hi
  rw [cU32, Nat.mul_one] at h0
  simp only [Prod.mk.injEq, DataW.agg.injEq] at hx
  have hxi : xs[i]? = some xs[i] := List.getElem?_eq_getElem (by omega)
  rw [hxi] at h0
  obtain ⟨k, e1, e2, _⟩ := DataW.trod_int uU32 h0
  have hm : (lits L)[i]? = some (.lit (.int .u32 k)) := by
    rw [hx.1, List.getElem?_map, hxi, e2]
    rfl
  unfold lits at hm
  rw [List.getElem?_map] at hm
  obtain ⟨y, hy, e3⟩ := Option.map_eq_some_iff.1 hm
  have e4 : y = k := by
    injection e3 with e3
    injection e3
  subst e4
  have e5 : L.getD i 0 = y := by simp [List.getD, hy]
  rw [e5]
  have : ((cs.drop i).take 1)[0]? = some (.int .u32 y) := by rw [e1]; rfl
  rw [List.getElem?_take, if_pos (by omega), List.getElem?_drop, Nat.add_zero] at this
  exact this

theorem glob_of_laid {W : World} (h : laidMetH Tryd.prog laid2 W) : Glob W := by
  rw [MakeChecks.laidMetH_plain _ _ _ (by kernel_rfl)] at h
  obtain ⟨ps, ⟨g0, t0, cs0, f0, p0, q0, hg0, ht0, hv0, hd0, ⟨g1, t1, cs1, f1, p1, q1, hg1, ht1, hv1, hd1, _, _⟩, _⟩, _, _⟩ := h
  obtain rfl := Option.some.inj (gFirst.symm.trans hg0)
  obtain rfl := Option.some.inj (gRounds.symm.trans hg1)
  obtain rfl := Option.some.inj (tFirst.symm.trans ht0)
  obtain rfl := Option.some.inj (tRounds.symm.trans ht1)
  rw [first_lits] at hd0
  rw [rounds_lits] at hd1
  have c0 := cells_of_lits uFirst hd0
  have c1 := cells_of_lits uRounds hd1
  refine ⟨fun i hi => ?_, fun i hi => ?_, ?_⟩
  · have e := World.var?_cell hg1 hv1 i
    rw [← Array.getElem?_toList, c1 i hi] at e
    exact e
  · have e := World.var?_cell hg0 hv0 i
    rw [← Array.getElem?_toList, c0 i hi] at e
    exact e
  · have e := World.var?_cell hg1 hv1 0
    rw [← Array.getElem?_toList, c1 0 (by omega)] at e
    by_cases hs : 2 ≤ W.heap.size
    · exact hs
    · unfold World.cell? at e
      rw [show W.heap[1]? = none from Array.getElem?_eq_none (by omega)] at e
      cases e

theorem door_met (os : Os) (args : Array Value) : laidMetH Tryd.prog laid2 ((World.doorLaid Tryd.prog 400 os).forCall (fun _ _ => 0) ⟨#[], args, []⟩).memory :=
  laidMetH_of_parts3 (fuel := 8) (laidMet_of_run' 8 (by kernel_rfl) (by kernel_rfl)) (by kernel_rfl) (by kernel_rfl)

end Go.Proofs.YtohadeijmmmcdaaDoor
end

section
namespace Go.Proofs.YtohadeijmmmcdaaDoor
open Go.ChangeShapes Go.WideShapes Go.ChangeAt Go.RowKit Go.Deep

set_option maxRecDepth 100000
theorem laidOut : laidOutB Tryd.prog = true := by kernel_rfl
theorem add_none (g off i : Nat) : (⟨g, off, none⟩ : Addr).add i = ⟨g, off + i, none⟩ := by unfold Addr.add; split <;> simp_all

/-- The slice at A, of that capacity, has these bytes. -/
structure BytN (w : World) (A : Option Addr) (c : Nat) (l : List Int) : Prop where
  byt : Byt w A l
  nil_ : A = none → c = 0

section
variable {H : Type} {enc : TypeId × Value → H} {w : World} {base : Nat} {spare : Nat → Bool} {held : Bool}

theorem trod_bytes {fuel : Nat} {cs : List Value} {x : DataW H × List MemPlace} (h : DataW.trod enc Tryd.prog w base spare held fuel 22 cs = some x) :
    ∃ A l c, cs = [.slice A l.length c] ∧ BytN w A c l ∧ l.length ≤ maxLen := by
  rcases open_ints Tryd.underlying22 Tryd.underlying5 (by kernel_rfl) h with ⟨rfl, _⟩ | ⟨a, len, cap, zs, rfl, _, hl, hm, hz, _, hc, hw⟩
  · exact ⟨none, [], 0, rfl, ⟨Byt.nil _ _, fun _ => rfl⟩, by simp⟩
  · have hzl : len ≤ zs.length := by rw [hz]; split <;> omega
    have htl : (zs.take len).length = len := by simp; omega
    refine ⟨some a, zs.take len, cap, by rw [htl], ⟨⟨fun h0 => ?_, fun x hx => bounds_u8 (hw x (List.mem_of_mem_take hx))⟩, fun e => by cases e⟩, by rw [htl]; omega⟩
    have c0 := hc 0 (by omega)
    obtain ⟨b, off, spot⟩ := a
    have hs : spot = none := by simpa [Addr.add] using World.cell?_spot c0
    subst hs
    rw [add_none] at c0
    refine ⟨b, off, rfl, block_lt_of_cell c0, fun j x hx => ?_⟩
    rw [List.getElem?_take] at hx
    split at hx
    · have hjl : j < zs.length := by omega
      have := hc j hjl
      rw [add_none] at this
      rw [this]
      rw [List.getElem?_eq_getElem hjl] at hx
      simp [List.getD, List.getElem?_eq_getElem hjl, Option.some.inj hx]
    · cases hx

/-- The slice at A holds these bools. -/
structure Bls (w : World) (A : Option Addr) (l : List Bool) : Prop where
  cell : 0 < l.length → ∃ g off, A = some ⟨g, off, none⟩ ∧ g < w.heap.size ∧ ∀ j x, l[j]? = some x → w.cell? ⟨g, off + j, none⟩ = some (.bool x)

theorem trod_bools {fuel : Nat} {cs : List Value} {x : DataW H × List MemPlace} (h : DataW.trod enc Tryd.prog w base spare held fuel 60 cs = some x) :
    ∃ A l c, cs = [.slice A l.length c] ∧ Bls w A l ∧ l.length ≤ maxLen := by
  rcases open_slice Tryd.underlying60 h with ⟨rfl, _⟩ | ⟨a, len, cap, m, n, D, Pl, rfl, _, hl, hm, hmm, _, hi⟩
  · exact ⟨none, [], 0, rfl, ⟨fun h => absurd h (by simp)⟩, by simp⟩
  · have hml : len ≤ m := by rw [hmm]; split <;> omega
    have hC : Tryd.prog.cellsOf 4 = 1 := by kernel_rfl
    have each : ∀ i, ∃ b : Bool, i < len → w.cell? (a.add i) = some (.bool b) := by
      intro i
      by_cases h : i < len
      · obtain ⟨cs', hc, ht⟩ := hi i (by omega)
        rw [hC, Nat.mul_one] at hc
        obtain ⟨b, rfl, _⟩ := DataW.trod_bool Tryd.underlying4 ht
        obtain ⟨_, _, hat⟩ := World.cells?_some hc
        refine ⟨b, fun _ => ?_⟩
        have := hat 0 (by omega)
        rw [show (a.add i).add 0 = a.add i from by simp [Addr.add]] at this
        simpa using this
      · exact ⟨false, fun h' => absurd h' h⟩
    obtain ⟨f, hf⟩ := Classical.skolem.1 each
    have hll : ((List.range len).map f).length = len := by simp
    refine ⟨some a, (List.range len).map f, cap, by rw [hll], ⟨fun h0 => ?_⟩, by rw [hll]; omega⟩
    rw [hll] at h0
    have c0 := hf 0 h0
    obtain ⟨b, off, spot⟩ := a
    have hs : spot = none := by simpa [Addr.add] using World.cell?_spot c0
    subst hs
    rw [add_none] at c0
    refine ⟨b, off, rfl, block_lt_of_cell c0, fun j x hx => ?_⟩
    simp only [List.getElem?_map, Option.map_eq_some_iff] at hx
    obtain ⟨j', hj', rfl⟩ := hx
    have hjl : j < len := by have := (List.getElem?_eq_some_iff.1 hj').1; simpa using this
    have : j' = j := by rw [List.getElem?_range hjl] at hj'; exact (Option.some.inj hj').symm
    subst this
    have := hf j' hjl
    rwa [add_none] at this

/-- The slice at A holds these texts. -/
def Txs (w : World) (A : Option Addr) (l : List (List Int)) : Prop := ∀ i, (h : i < l.length) → ∃ g off, A = some ⟨g, off, none⟩ ∧ g < w.heap.size ∧ ∃ A' c', w.cell? ⟨g, off + i, none⟩ = some (.slice A' l[i].length c') ∧ BytN w A' c' l[i] ∧ l[i].length ≤ maxLen

theorem trod_texts {fuel : Nat} {cs : List Value} {x : DataW H × List MemPlace} (h : DataW.trod enc Tryd.prog w base spare held fuel 33 cs = some x) :
    ∃ A l c, cs = [.slice A l.length c] ∧ Txs w A l ∧ l.length ≤ maxLen := by
  rcases open_slice Tryd.underlying33 h with ⟨rfl, _⟩ | ⟨a, len, cap, m, n, D, Pl, rfl, _, hl, hm, hmm, _, hi⟩
  · exact ⟨none, [], 0, rfl, fun i h => absurd h (by simp), by simp⟩
  · have hml : len ≤ m := by rw [hmm]; split <;> omega
    have hC : Tryd.prog.cellsOf 22 = 1 := by kernel_rfl
    obtain ⟨b, off, spot⟩ := a
    have hspot : 0 < len → spot = none ∧ b < w.heap.size := by
      intro h0
      obtain ⟨cs', hc, ht⟩ := hi 0 (by omega)
      rw [hC] at hc
      obtain ⟨_, hcl, hat⟩ := World.cells?_some hc
      have := hat 0 (by omega)
      rw [List.getElem?_eq_getElem (by omega)] at this
      have hs : spot = none := by simpa [Addr.add] using World.cell?_spot this
      subst hs
      refine ⟨rfl, ?_⟩
      rw [add_none, add_none] at this
      exact block_lt_of_cell this
    have each : ∀ i, ∃ l : List Int, i < len → ∃ A' c', w.cell? ⟨b, off + i, none⟩ = some (.slice A' l.length c') ∧ BytN w A' c' l ∧ l.length ≤ maxLen := by
      intro i
      by_cases h : i < len
      · obtain ⟨rfl, hbl⟩ := hspot (by omega)
        obtain ⟨cs', hc, ht⟩ := hi i (by omega)
        rw [hC, Nat.mul_one] at hc
        obtain ⟨A', l, c', rfl, hb, hm'⟩ := trod_bytes ht
        obtain ⟨_, _, hat⟩ := World.cells?_some hc
        have := hat 0 (by omega)
        rw [add_none, add_none, Nat.add_zero] at this
        exact ⟨l, fun _ => ⟨A', c', by simpa using this, hb, hm'⟩⟩
      · exact ⟨[], fun h' => absurd h' h⟩
    obtain ⟨f, hf⟩ := Classical.skolem.1 each
    have hll : ((List.range len).map f).length = len := by simp
    refine ⟨some ⟨b, off, spot⟩, (List.range len).map f, cap, by rw [hll], fun i h0 => ?_, by rw [hll]; omega⟩
    rw [hll] at h0
    obtain ⟨rfl, hbl⟩ := hspot (by omega)
    refine ⟨b, off, rfl, hbl, ?_⟩
    have := hf i h0
    simpa using this
end

end Go.Proofs.YtohadeijmmmcdaaDoor
end

section
namespace Go.Proofs.YtohadeijmmmcdaaDoor
open Go.RowKit
set_option maxRecDepth 100000

/-- From A on lie slices of the texts l. -/
def TX (w : World) (A : Option Addr) (l : List (List Int)) : Prop :=
  ∀ i (hi : i < l.length), ∃ g off, A = some ⟨g, off, none⟩ ∧ g < w.heap.size ∧ ∃ Ax cx, w.cell? ⟨g, off + i, none⟩ = some (.slice Ax (l[i]).length cx) ∧ Byt w Ax l[i] ∧ (Ax = none → cx = 0)
theorem TX.nil (w : World) (A : Option Addr) : TX w A [] := fun i hi => absurd hi (by simp)
theorem TX.below {w w' : World} {A : Option Addr} {l : List (List Int)} (h : TX w A l) (hb : Below w.heap.size w w') : TX w' A l := fun i hi => by
  obtain ⟨g, off, e, hg, Ax, cx, h1, h2, h3⟩ := h i hi
  exact ⟨g, off, e, Nat.lt_of_lt_of_le hg hb.size, Ax, cx, (hb.cell (p := ⟨g, off + i, none⟩) hg).trans h1, h2.below hb, h3⟩
theorem Txs.tx {w : World} {A : Option Addr} {l : List (List Int)} (h : Txs w A l) : TX w A l := fun i hi => by
  obtain ⟨g, off, e, hg, A', c', h1, h2, _⟩ := h i hi
  exact ⟨g, off, e, hg, A', c', h1, h2.byt, h2.nil_⟩
theorem TX.one {w : World} {x : Value} {b : List Int} {Ax : Option Addr} {cx : Nat} (hx : x = .slice Ax b.length cx) (hb : Byt w Ax b) (hz : Ax = none → cx = 0) : TX (w.alloc (.cells #[x] 22)) (some ⟨w.heap.size, 0, none⟩) [b] := fun i hi => by
  obtain rfl : i = 0 := by simpa using hi
  refine ⟨w.heap.size, 0, rfl, by simp, Ax, cx, ?_, hb.below ((Below.refl _ w).alloc (Nat.le_refl _) _), hz⟩
  rw [(Blk.new w 22 #[x]).cell]
  simp [hx]

/-- Whether all of l fit, from the i-th on, into so many sectors. -/
def fitsGo (t n : Nat) : List (List Int) → Nat → Nat → Bool
  | [], _, _ => true
  | b :: l, i, left => if formE (t : Int) ((n + i : Nat) : Int) b = 0 ∧ recS t (n + i) b ≤ left then fitsGo t n l (i + 1) (left - recS t (n + i) b) else false
/-- Fits's answer. -/
def fitsR (s : SS) (l : List (List Int)) : Bool := fitsGo s.t s.n l 0 (s.m - s.u)

set_option maxHeartbeats 4000000 in
theorem sfits_any (q p : Nat) (s : SS) (A : Option Addr) (c : Nat) (l : List (List Int)) (w : World) (hs : IsScroll w q p s) (hm : s.m ≤ 8192) (hu : s.u ≤ s.m) (_ht : s.t ≤ 1099511627776) (hn : s.n ≤ 1099511627776) (hl : TX w A l) (hll : l.length ≤ 1000000000) (hlb : ∀ b ∈ l, b.length ≤ 140737488351232) (hg : Glob w) :
    Calls Tryd.prog 36 #[.pointer (some ⟨q, 0, none⟩), .slice A l.length c] w fun e w' => e = .returned (.bool (fitsR s l)) ∧ Below w.heap.size w w' := by
  have hle := left_any q p s hm hu w hs
  obtain ⟨N, hN⟩ : ∃ N, l.length = N := ⟨_, rfl⟩
  obtain ⟨F, hF⟩ : ∃ F, fitsR s l = F := ⟨_, rfl⟩
  rw [hN, hF]
  have h0 : fitsGo s.t s.n (l.drop 0) 0 (s.m - s.u) = F := hF
  rw [hN] at hll
  have hlq := hs.lt
  have HN := Lib.hid hN
  have HL := Lib.hid hl
  have HB := Lib.hid hlb
  have HS := Lib.hid hs
  have HG := Lib.hid hg
  have H0 := Lib.hid h0
  clear hN hl hlb hs hg h0 hF
  go_enter Tryd.func36, Tryd.ntmps36
  go_wp2_with fail
  with_reducible refine hle.mono ?_
  rintro e w1 ⟨rfl, k1, rfl⟩
  have hB1 : Below w.heap.size w (w.drewN k1) := below_drewN (Below.refl _ _) _
  obtain ⟨w1, hw1⟩ : ∃ w1, w.drewN k1 = w1 := ⟨_, rfl⟩
  rw [hw1] at hB1 ⊢
  clear hle hw1
  have hlI : ((s.m : Int) - (s.u : Int)) = ((s.m - s.u : Nat) : Int) := by omega
  rw [hlI]
  go_wp2_with fail
  go_loopg [5, 14] N (fun k lf t wr => ∃ (i left : Nat), i ≤ N ∧ left ≤ 8192 ∧ k = N - i ∧ t = .int .i64 (i : Int) ∧ lf = .int .i64 (left : Int) ∧ fitsGo s.t s.n (l.drop i) i left = F ∧ Below w.heap.size w wr)
  case atStart => exact ⟨0, s.m - s.u, Nat.zero_le _, by omega, rfl, rfl, rfl, H0.out, hB1⟩
  case round =>
    obtain ⟨i, left, hi, hlf, hk, rfl, rfl, hgo, hbl⟩ := hrel
    by_cases hlt : i < N
    · obtain ⟨g, off, hA, hgs, Ax, cx, hcx, hy, hz⟩ := HL.out i (by rw [HN.out]; exact hlt)
      obtain ⟨b, hb⟩ : ∃ b, l[i]'(by rw [HN.out]; exact hlt) = b := ⟨_, rfl⟩
      rw [hb] at hcx hy
      have hltI : (i : Int) < (N : Int) := by omega
      have hbl2 : b.length ≤ 140737488351232 := HB.out b (by rw [← hb]; exact List.getElem_mem _)
      have hc' : wr.cell? ⟨g, off + i, none⟩ = some (.slice Ax b.length cx) := (hbl.cell (p := ⟨g, off + i, none⟩) hgs).trans hcx
      have hyr := hy.belowB hbl (fun a ha h0 => by
        obtain ⟨g9, o9, e9, hg9, _⟩ := hy.cell h0
        rw [ha] at e9
        cases e9
        exact hg9)
      have hsr : IsScroll wr q p s := (hbl.block q hlq).trans HS.out
      have k3 : wr.drew.cell? ⟨q, 3, none⟩ = some (.int .i64 (s.t : Int)) := hsr.cell 3
      have k5 : wr.drew.cell? ⟨q, 5, none⟩ = some (.int .i64 (s.n : Int)) := hsr.cell 5
      have hgr := HG.out.below hbl
      have hfo := form_any (s.t : Int) ((s.n + i : Nat) : Int) Ax cx hz b wr.drew (hyr.below ((Below.refl _ wr).drew)) hbl2 (hgr.below ((Below.refl _ wr).drew))
      have hdr : l.drop i = b :: l.drop (i + 1) := by rw [← hb]; exact List.drop_eq_getElem_cons _
      rw [hdr] at hgo
      simp only [fitsGo] at hgo
      obtain ⟨E, hE⟩ : ∃ E, formE (s.t : Int) ((s.n + i : Nat) : Int) b = E := ⟨_, rfl⟩
      obtain ⟨V, hV⟩ : ∃ V, formV (s.t : Int) ((s.n + i : Nat) : Int) b = V := ⟨_, rfl⟩
      obtain ⟨KK, hKK⟩ : ∃ KK, recS s.t (s.n + i) b = KK := ⟨_, rfl⟩
      have hVl : E = 0 → V.length = KK * 64 ∧ KK ≤ 1024 := fun h => by
        rw [← hE] at h
        rw [← hV]
        unfold formV
        rw [if_pos h, Int.toNat_natCast, Int.toNat_natCast, formP_len, ← hKK]
        exact ⟨rfl, (formE_zero h).2.2⟩
      have hV0 : E ≠ 0 → V.length = 0 := fun h => by
        rw [← hE] at h
        rw [← hV]
        unfold formV
        rw [if_neg h]
        rfl
      rw [hE, hV] at hfo
      rw [hE, hKK] at hgo
      obtain ⟨L, hL⟩ : ∃ L, b.length = L := ⟨_, rfl⟩
      rw [hL] at hfo hc'
      subst hA
      have hni : IntKind.i64.wrap ((s.n : Int) + (i : Int)) = ((s.n + i : Nat) : Int) := by rw [IntKind.wrap_i64]; omega
      obtain ⟨NI, hNI⟩ : ∃ NI, s.n + i = NI := ⟨_, rfl⟩
      rw [hNI] at hfo hni
      have HBL := Lib.hid hbl
      have HGO := Lib.hid hgo
      have HVL := Lib.hid hVl
      have HV0 := Lib.hid hV0
      clear hbl hy hcx hb hL hgo hyr hsr hE hV hKK hVl hV0 hgr hNI hdr
      go_wp2_with fail
      refine wp_txJ [3, 3, 3, 0, 3, 3, 3, 0, 3, 3, 3, 2, 3, 3, 3, 3, 3] (fun W => W.cell? ⟨q, 3, none⟩ = some (.int .i64 (s.t : Int)) ∧ W.cell? ⟨q, 5, none⟩ = some (.int .i64 (s.n : Int))) (by kernel_rfl) (by kernel_rfl) (by kernel_rfl) (by kernel_rfl) ⟨k3, k5⟩ ?_
      iterate 3 (with_reducible refine wpTxJ_ev (v := ?_) (by with_unfolding_all rfl) (fun W' => ?_) ?_; rotate_left; focus (go_simp; (try with_reducible rfl)))
      with_reducible refine wpTxJ_take (v := ?_) (by with_unfolding_all rfl) (fun W' hS => ?_) ?_; rotate_left; focus (have s1 := hS.1; clear hS; (try simp only at s1); go_simp; (try with_reducible rfl))
      iterate 3 (with_reducible refine wpTxJ_ev (v := ?_) (by with_unfolding_all rfl) (fun W' => ?_) ?_; rotate_left; focus (go_simp; (try with_reducible rfl)))
      with_reducible refine wpTxJ_take (v := ?_) (by with_unfolding_all rfl) (fun W' hS => ?_) ?_; rotate_left; focus (have s1 := hS.2; clear hS; (try simp only at s1); go_simp; (try with_reducible rfl))
      iterate 3 (with_reducible refine wpTxJ_ev (v := ?_) (by with_unfolding_all rfl) (fun W' => ?_) ?_; rotate_left; focus (go_simp; (try with_reducible rfl)))
      with_reducible refine wpTxJ_last (by with_unfolding_all rfl) (fun K hK => ?_)
      go_simp
      with_reducible refine hfo.mono ?_
      rintro e w2 ⟨v, rfl, ho, hB2⟩
      obtain ⟨Av, cv, rfl⟩ := ho.form
      obtain ⟨VL, hVL⟩ : ∃ VL, V.length = VL := ⟨_, rfl⟩
      have hB3 : Below w.heap.size w w2 := HBL.out.trans (((Below.refl _ wr).drew.trans hB2).mono HBL.out.size)
      rw [hVL]
      have HB3 := Lib.hid hB3
      have HVLn := Lib.hid hVL
      clear ho hB2 hB3 hfo hVL k3 k5
      with_reducible refine hK _ _ ?_
      clear hK K
      iterate 5 (with_reducible refine wpTxJ_ev (v := ?_) (by with_unfolding_all rfl) (fun W' => ?_) ?_; rotate_left; focus (go_simp; (try with_reducible rfl)))
      with_reducible refine wpTxJ_nil ?_
      rw [noPan_normal]
      by_cases hE : E = 0
      · obtain ⟨hv1, hv2⟩ := HVL.out hE
        rw [HVLn.out] at hv1
        have hgo := HGO.out
        subst hE
        have hwq : IntKind.i64.wrap ((VL : Int) / 64) = (KK : Int) := by rw [IntKind.wrap_i64]; omega
        by_cases hfit : KK ≤ left
        · have hgo' : fitsGo s.t s.n (l.drop (i + 1)) (i + 1) (left - KK) = F := by simpa [hfit] using hgo
          have hwl : IntKind.i64.wrap ((left : Int) - (KK : Int)) = ((left - KK : Nat) : Int) := by rw [IntKind.wrap_i64]; omega
          have HGO' := Lib.hid hgo'
          have hlk : left - KK ≤ 8192 := by omega
          have hnn : ¬ (((left - KK : Nat) : Int) < 0) := by omega
          clear hgo hgo' hv1 hv2 hlI
          go_wp2_with fail
          go_roundg (N - (i + 1))
          case measure => omega
          case rel => exact ⟨i + 1, left - KK, by omega, hlk, rfl, by go_num, rfl, HGO'.out, HB3.out⟩
        · have hF : F = false := by rw [← hgo, if_neg (fun h => hfit h.2)]
          have hwl : IntKind.i64.wrap ((left : Int) - (KK : Int)) = (left : Int) - (KK : Int) := by rw [IntKind.wrap_i64]; omega
          have hnn : (left : Int) - (KK : Int) < 0 := by omega
          subst hF
          clear hgo hv1 hv2 hlI
          go_wp2_with fail
          go_ret
          exact ⟨rfl, HB3.out⟩
      · have hv0 := HV0.out hE
        rw [HVLn.out] at hv0
        have hF : F = false := by rw [← HGO.out, if_neg (fun h => hE h.1)]
        have hEI : (E != 0) = true := by simpa using hE
        subst hv0 hF
        clear hE hlI
        have hwl : IntKind.i64.wrap ((left : Int) - 0) = (left : Int) := by rw [IntKind.wrap_i64]; omega
        go_wp2_with fail
        go_ret
        exact ⟨rfl, HB3.out⟩
    · obtain rfl : i = N := by omega
      rw [List.drop_eq_nil_of_le (by rw [HN.out]; exact Nat.le_refl _)] at hgo
      have hF : F = true := by rw [← hgo]; rfl
      have hltI : ¬ ((i : Int) < (i : Int)) := by omega
      have HBL := Lib.hid hbl
      clear hbl hgo
      go_wp2_with fail
      go_ret
      exact ⟨rfl, HBL.out⟩

end Go.Proofs.YtohadeijmmmcdaaDoor
end
