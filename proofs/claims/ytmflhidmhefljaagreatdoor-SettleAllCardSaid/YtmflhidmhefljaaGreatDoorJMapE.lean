/-
  mapping.each: sorted, each number once.
  mapping.places; seisinref08.Places, Has, Each; seisinref01.Ints.
  mapping.spread.
  mapping.Ins, mapping.Outs, mapping.At.
  slices.Grow of nothing, slices.Concat: of numbers.
  mapping.Single; seisinref07.Great; seisinref08.Spread.
  seisinref07.Great; seisinref08.Spread.
  seisinlaw08.awake.
-/
import Derived.Test.YtmflhidmhefljaaGreatDoorJTxA
import Derived.Test.YtmflhidmhefljaaGreatDoorJOwnR
import Derived.Test.YtmflhidmhefljaaGreatDoorShelf
import Derived.Shelf.Slices.In.SortNone
import Derived.Lib.RowBridge
import Derived.BigQuiet
import Derived.Test.YtmflhidmhefljaaGreatDoorJTxG
import Derived.Lib.AppendZeros
import Derived.Lib.AppendZerosOnto
import Derived.Laws.AppendOwnNone
import Derived.Test.YtmflhidmhefljaaGreatDoorJRTxB

section
namespace Go.Proofs.YtmflhidmhefljaaGreatDoor
open Go.RowKit Go.Shelf Go.Sort
set_option maxRecDepth 100000

/-- A row of numbers of one's own. -/
def OwnI (B : Nat) (w : World) (v : Value) (l : List Int) : Prop := OwnW 3 .i64 B w v l

theorem fr_putRow {α : Type} [Inhabited α] (enc : α → Value) (w : World) (blk off : Nat) (d : Array α) : Fr (fun k => k = blk) w (putRow enc w blk off d) :=
  ⟨rfl, rfl, rfl, by simp [putRow, mapBlock], fun k hk hne => by
    have : blk ≠ k := fun e => hne e.symm
    simp [putRow, mapBlock, Array.getElem?_modify, this]⟩
theorem fr_ahead {F : Nat → Prop} {w w' : World} (h : Fr F w w') (n : Nat) : Fr F w (Sort.ahead w' n) := ⟨h.os, h.tape, h.output, h.size, h.block⟩
theorem fr_ahead' {F : Nat → Prop} {w w' : World} {n : Nat} (h : Fr F (Sort.ahead w n) w') : Fr F w w' := ⟨h.os, h.tape, h.output, h.size, h.block⟩
theorem fr_grow {F : Nat → Prop} {w w' : World} (h : Fr F w w') (os : Array Obj) : Fr F w (grow w' os) :=
  ⟨h.os, h.tape, h.output, by have := h.size; simp [grow]; omega, fun k hk hn => by
    rw [heap_grow_old w' os (Nat.lt_of_lt_of_le hk h.size)]
    exact h.block k hk hn⟩

theorem each_any (B : Nat) (A : Option Addr) (N c : Nat) (l : List Int) (w : World) (h : OwnI B w (.slice A N c) l) (hb : ∀ x ∈ l, 0 ≤ x ∧ x < 64) (hl : l.length ≤ 1000000) :
    Calls Tryz.prog 47 #[.slice A N c] w fun e w' => ∃ A' c', e = .returned (.slice A' (eachP l).length c') ∧ RdW .i64 w' A' (eachP l) ∧ Fr (fun k => (Value.slice A N c).ownBlock = some k) w w' := by
  rcases Nat.eq_zero_or_pos l.length with h0 | h0
  · obtain rfl : l = [] := List.length_eq_zero_iff.1 h0
    obtain ⟨A2, c2, e⟩ := h.form
    simp only [Value.slice.injEq, List.length_nil] at e
    obtain ⟨rfl, rfl, rfl⟩ := e
    have s1 := Any.slices_Sort_int_none Tryz.laysSo A c w
    have s2 := Any.slices_Compact_int_empty Tryz.laysCo A c w
    rw [eachP_nil]
    clear h h0 hb
    have s1' : Calls Tryz.prog 75 #[.slice A 0 c] w fun e w' => e = .returned (.tuple #[]) ∧ w' = w := s1
    have s2' : Calls Tryz.prog 76 #[.slice A 0 c] w fun e w' => e = .returned (.slice A 0 c) ∧ w' = w := s2
    clear s1 s2
    go_enter Tryz.func47, Tryz.ntmps47
    go_wp2_with fail
    with_reducible refine s1'.mono ?_
    rintro e w' ⟨rfl, rfl⟩
    go_wp2_with fail
    with_reducible refine s2'.mono ?_
    rintro e w' ⟨rfl, rfl⟩
    go_wp2_with fail
    go_ret
    exact ⟨_, _, rfl, RdW.nil _ _ _, Fr.refl _ _⟩
  · obtain ⟨g, cap, e, hcap, hBg, hg, hcell⟩ := h.cells h0
    simp only [Value.slice.injEq] at e
    obtain ⟨rfl, rfl, rfl⟩ := e
    have hH : Holds (Value.int .i64) w g 0 l.toArray := fun j hj => by
      have hj' : j < l.length := by simpa using hj
      obtain ⟨e1, e2⟩ := hcell j hj'
      rw [Nat.zero_add]
      exact ⟨by rw [e1]; simp [getElem!_pos, hj', List.getD], e2⟩
    have s1 : Calls Tryz.prog 75 #[.slice (some ⟨g, 0, none⟩) l.length c] w fun e w' => e = .returned (.tuple #[]) ∧ ∃ n os, w' = grow (putRow (Value.int .i64) (Sort.ahead w n) g 0 (l.mergeSort fun x y => decide (x ≤ y)).toArray) os :=
      Any.slices_Sort_int Tryz.laysSo g 0 c l w hH hg (by omega)
    obtain ⟨m, hm⟩ : ∃ m, (l.mergeSort fun x y => decide (x ≤ y)) = m := ⟨_, rfl⟩
    have hml : m.length = l.length := by rw [← hm]; exact List.length_mergeSort l
    have hec := each_eq hb
    rw [hm] at s1 hec
    have s2 : ∀ w1, Holds (Value.int .i64) w1 g 0 m.toArray → Calls Tryz.prog 76 #[.slice (some ⟨g, 0, none⟩) l.length c] w1 fun e w' => e = .returned (.slice (some ⟨g, 0, none⟩) (eachP l).length c) ∧ ∃ q, w' = putRow (Value.int .i64) (Sort.ahead w1 q) g 0 (eachP l ++ List.replicate (l.length - (eachP l).length) 0).toArray := fun w1 hH1 => by
      have := Any.slices_Compact_int Tryz.laysCo g 0 c m w1 hH1 (by omega) (by omega)
      rw [hec, hml] at this
      exact this
    have hle : (eachP l).length ≤ l.length := by rw [← hec, ← hml]; exact Lib.compact_length_le m
    obtain ⟨n, hn⟩ : ∃ n, l.length = n := ⟨_, rfl⟩
    obtain ⟨E, hE⟩ : ∃ E, eachP l = E := ⟨_, rfl⟩
    rw [hE] at s2 hle ⊢
    rw [hn] at s1 s2 hle
    have HH := Lib.hid hH
    have HS2 := Lib.hid s2
    have HML := Lib.hid hml
    have HN := Lib.hid hn
    clear hH hcell h hb hm hec hml hE hcap s2 hn h0 hl
    rw [HN.out]
    go_enter Tryz.func47, Tryz.ntmps47
    go_wp2_with fail
    with_reducible refine s1.mono ?_
    rintro e w1 ⟨rfl, k, os, hw1⟩
    have hH1 : Holds (Value.int .i64) w1 g 0 m.toArray := by
      rw [hw1]
      refine holds_grow _ _ _ _ _ _ (by simpa [putRow, mapBlock] using hg) ?_
      exact holds_putRow _ _ _ _ l.toArray m.toArray (holds_ahead _ _ _ _ _ _ HH.out) (by simp [HML.out])
    have hf1 : Fr (fun j => j = g) w w1 := by
      rw [hw1]
      exact fr_grow (fr_ahead' (fr_putRow _ _ _ _ _)) os
    have hc2 := HS2.out w1 hH1
    have HH1 := Lib.hid hH1
    have HF1 := Lib.hid hf1
    clear hw1 hH1 hf1 s1
    go_wp2_with fail
    with_reducible refine hc2.mono ?_
    rintro e w2 ⟨rfl, q, hw2⟩
    have hf2 : Fr (fun j => j = g) w1 w2 := by
      rw [hw2]
      exact fr_ahead' (fr_putRow _ _ _ _ _)
    have hH2 : Holds (Value.int .i64) w2 g 0 (E ++ List.replicate (n - E.length) 0).toArray := by
      rw [hw2]
      exact holds_putRow _ _ _ _ m.toArray _ (holds_ahead _ _ _ _ _ _ HH1.out) (by have := HML.out; have := HN.out; simp; omega)
    have HH2 := Lib.hid hH2
    have HF2 := Lib.hid hf2
    clear hw2 hf2 hH2 hc2
    go_wp2_with fail
    go_ret
    refine ⟨_, _, rfl, fun _ => ⟨g, 0, rfl, Nat.lt_of_lt_of_le hg (Nat.le_trans HF1.out.size HF2.out.size), fun j x hx => ?_⟩, ?_⟩
    · obtain ⟨hj, hx⟩ := List.getElem?_eq_some_iff.1 hx
      have := (HH2.out j (by simp; omega)).1
      rw [this]
      have hj2 : j < (E ++ List.replicate (n - E.length) 0).length := by simp; omega
      have e : (E ++ List.replicate (n - E.length) 0).toArray[j]! = x := by
        rw [getElem!_pos _ _ (by simpa using hj2)]
        simp only [List.getElem_toArray]
        rw [List.getElem_append_left hj, hx]
      rw [e]
    · exact (HF1.out.trans HF2.out (fun k _ e => e)).mono (fun k _ e => by subst e; rfl)
end Go.Proofs.YtmflhidmhefljaaGreatDoor
end

section
namespace Go.Proofs.YtmflhidmhefljaaGreatDoor
open Go.RowKit Go.Shelf
set_option maxRecDepth 100000

theorem uInts : Tryz.prog.underlying 53 = some (.slice 3) := by kernel_rfl
theorem iInts : (Tryz.prog.info? 3).map (fun i => (i.zero.map (·.cells.size), i.size, i.bytes)) = some (some 1, 1, 8) := by kernel_rfl
theorem apI_of (xs : Array Value) (t : TypeId) : Builtin.append_ #[53, 53] t xs = APs #[53, 53] t xs := rfl
attribute [local go_sem ↓] apI_of
theorem OwnI.formN {B : Nat} {w : World} {v : Value} {l : List Int} (h : OwnI B w v l) : ∃ A N c, v = .slice A N c := by
  obtain ⟨A, c, e⟩ := OwnW.form h
  exact ⟨A, _, c, e⟩
theorem OwnI.lenN {B N c : Nat} {w : World} {A : Option Addr} {l : List Int} (h : OwnI B w (.slice A N c) l) : N = l.length := by
  obtain ⟨A', c', e⟩ := OwnW.form h
  simp only [Value.slice.injEq] at e
  exact e.2.1
/-- One number more. -/
theorem appI {ty : TypeId} {B N c : Nat} {w : World} {A : Option Addr} {l : List Int} (h : OwnI B w (.slice A N c) l) (x : Int) (hlen : l.length + 1 ≤ 1000000000) (hB : B ≤ w.heap.size) :
    ∃ A' N' c' w', (APs #[53, 53] ty #[.slice A N c, .slice (some ⟨w.heap.size, 0, none⟩) 1 1]).run Tryz.prog (w.alloc (.cells #[.int .i64 x] 3)) = .ok (.slice A' N' c') w' ∧ OwnI B w' (.slice A' N' c') (l ++ [x]) ∧ Below B w w' := by
  obtain ⟨v', w', h1, h2, h3, _⟩ := appW_one (ty := ty) uInts iInts (by omega) h x hlen hB
  obtain ⟨A', N', c', rfl⟩ := OwnI.formN h2
  exact ⟨A', N', c', w', h1, h2, OwnW.step h h3 hB⟩
theorem RdW.at {q : IntKind} {w : World} {A : Option Addr} {l : List Int} (h : RdW q w A l) {i : Nat} (hi : i < l.length) : ∃ g off, A = some ⟨g, off, none⟩ ∧ g < w.heap.size ∧ w.cell? ⟨g, off + i, none⟩ = some (.int q (l.getD i 0)) := by
  obtain ⟨g, off, e, hg, hc⟩ := h (by omega)
  exact ⟨g, off, e, hg, hc i _ (by simp [List.getD, hi])⟩
theorem take_getD {l : List Int} {i : Nat} (hi : i < l.length) : l.take (i + 1) = l.take i ++ [l.getD i 0] := by
  rw [List.take_succ_eq_append_getElem hi]; simp [List.getD, hi]

set_option maxHeartbeats 2000000 in
theorem places_any (A : Option Addr) (N c : Nat) (l : List Int) (x : Int) (w : World) (h : RdW .i64 w A l) (hN : N = l.length) (hl : l.length ≤ 1000000) :
    Calls Tryz.prog 59 #[.slice A N c, .int .i64 x] w fun e w' => ∃ v, e = .returned v ∧ OwnI w.heap.size w' v (placesP l x) ∧ Below w.heap.size w w' := by
  rw [← hN] at hl
  have H := Lib.hid h
  have HN := Lib.hid hN
  clear h hN
  go_enter Tryz.func59, Tryz.ntmps59
  go_upto_region 2 with fail
  go_loopg [4, 5, 6, 9] N (fun kk v _ _ s wr => ∃ i : Nat, i + kk = N ∧ s = .int .i64 (i : Int) ∧ OwnI w.heap.size wr v (placesP (l.take i) x) ∧ Below w.heap.size w wr)
  case atStart => exact ⟨0, by omega, rfl, by rw [List.take_zero, placesP_nil]; exact OwnW.nil _ _ _ _, Below.refl _ _⟩
  case round =>
    obtain ⟨i, hi, rfl, hv, hB⟩ := hrel
    obtain ⟨Av, Nv, cv, rfl⟩ := hv.formN
    by_cases hlt : i < N
    · have hltI : (i : Int) < (N : Int) := by omega
      have hil : i < l.length := by rw [← HN.out]; exact hlt
      obtain ⟨g, off, rfl, hg, hc⟩ := (H.out.below hB).at hil
      have htk := placesP_snoc (l.take i) (l.getD i 0) x
      rw [← take_getD hil, List.length_take, Nat.min_eq_left (by omega)] at htk
      obtain ⟨y, hy⟩ : ∃ y, l.getD i 0 = y := ⟨_, rfl⟩
      rw [hy] at hc htk
      have hle := placesP_len (l.take i) x
      rw [List.length_take] at hle
      by_cases hxy : y = x
      · subst hxy
        rw [if_pos rfl] at htk
        obtain ⟨A', N', c', w', hap, ho, hB2⟩ := appI (ty := 53) hv (i : Int) (by omega) hB.size
        rw [← htk] at ho
        have HO := Lib.hid ho
        have HB2 := Lib.hid (hB.trans hB2)
        clear hv hB htk hle ho hB2 hy
        go_wp2_with fail
        go_roundg (N - (i + 1))
        case measure => omega
        case rel => exact ⟨i + 1, by omega, by go_num, HO.out, HB2.out⟩
      · rw [if_neg hxy, List.append_nil] at htk
        rw [← htk] at hv
        have HV := Lib.hid hv
        have HB := Lib.hid hB
        clear hv hB htk hle hy
        go_wp2_with fail
        go_roundg (N - (i + 1))
        case measure => omega
        case rel => exact ⟨i + 1, by omega, by go_num, HV.out, HB.out⟩
    · obtain rfl : N = i := by omega
      have hltI : ¬ (N : Int) < (N : Int) := by omega
      rw [List.take_of_length_le (by rw [HN.out]; exact Nat.le_refl _)] at hv
      have HV := Lib.hid hv
      have HB := Lib.hid hB
      clear hv hB
      go_wp2_with fail
      go_ret
      exact ⟨_, rfl, HV.out, HB.out⟩

set_option maxHeartbeats 2000000 in
theorem rplaces_any (A : Option Addr) (N c : Nat) (l : List Int) (x : Int) (w : World) (h : RdW .i64 w A l) (hN : N = l.length) (hl : l.length ≤ 1000000) :
    Calls Tryz.prog 38 #[.slice A N c, .int .i64 x] w fun e w' => ∃ v, e = .returned v ∧ OwnI w.heap.size w' v (placesP l x) ∧ Below w.heap.size w w' := by
  rw [← hN] at hl
  have H := Lib.hid h
  have HN := Lib.hid hN
  clear h hN
  go_enter Tryz.func38, Tryz.ntmps38
  go_upto_region 3 with fail
  go_loopg [5, 6] N (fun kk v s wr => ∃ i : Nat, i + kk = N ∧ s = .int .i64 (i : Int) ∧ OwnI w.heap.size wr v (placesP (l.take i) x) ∧ Below w.heap.size w wr)
  case atStart => exact ⟨0, by omega, rfl, by rw [List.take_zero, placesP_nil]; exact OwnW.nil _ _ _ _, Below.refl _ _⟩
  case round =>
    obtain ⟨i, hi, rfl, hv, hB⟩ := hrel
    obtain ⟨Av, Nv, cv, rfl⟩ := hv.formN
    by_cases hlt : i < N
    · have hltI : (i : Int) < (N : Int) := by omega
      have hil : i < l.length := by rw [← HN.out]; exact hlt
      obtain ⟨g, off, rfl, hg, hc⟩ := (H.out.below hB).at hil
      have htk := placesP_snoc (l.take i) (l.getD i 0) x
      rw [← take_getD hil, List.length_take, Nat.min_eq_left (by omega)] at htk
      obtain ⟨y, hy⟩ : ∃ y, l.getD i 0 = y := ⟨_, rfl⟩
      rw [hy] at hc htk
      have hle := placesP_len (l.take i) x
      rw [List.length_take] at hle
      by_cases hxy : y = x
      · subst hxy
        rw [if_pos rfl] at htk
        obtain ⟨A', N', c', w', hap, ho, hB2⟩ := appI (ty := 53) hv (i : Int) (by omega) hB.size
        rw [← htk] at ho
        have HO := Lib.hid ho
        have HB2 := Lib.hid (hB.trans hB2)
        clear hv hB htk hle ho hB2 hy
        go_wp2_with fail
        go_roundg (N - (i + 1))
        case measure => omega
        case rel => exact ⟨i + 1, by omega, by go_num, HO.out, HB2.out⟩
      · rw [if_neg hxy, List.append_nil] at htk
        rw [← htk] at hv
        have HV := Lib.hid hv
        have HB := Lib.hid hB
        clear hv hB htk hle hy
        go_wp2_with fail
        go_roundg (N - (i + 1))
        case measure => omega
        case rel => exact ⟨i + 1, by omega, by go_num, HV.out, HB.out⟩
    · obtain rfl : N = i := by omega
      have hltI : ¬ (N : Int) < (N : Int) := by omega
      rw [List.take_of_length_le (by rw [HN.out]; exact Nat.le_refl _)] at hv
      have HV := Lib.hid hv
      have HB := Lib.hid hB
      clear hv hB
      go_wp2_with fail
      go_ret
      exact ⟨_, rfl, HV.out, HB.out⟩

theorem rhas_any (A : Option Addr) (N c : Nat) (l : List Int) (x : Int) (w : World) (h : RdW .i64 w A l) (hN : N = l.length) (hl : l.length ≤ 1000000) :
    Calls Tryz.prog 19 #[.slice A N c, .int .i64 x] w fun e w' => e = .returned (.bool (l.contains x)) ∧ Below w.heap.size w w' := by
  have hp := rplaces_any A N c l x w h hN hl
  have hiff : l.contains x = decide ((0 : Int) < ((placesP l x).length : Int)) := by
    rw [Bool.eq_iff_iff, List.contains_iff_mem, decide_eq_true_eq, ← placesP_pos]
    omega
  have HI := Lib.hid hiff
  clear hiff h hN hl
  go_enter Tryz.func19, Tryz.ntmps19
  go_wp2_with fail
  with_reducible refine hp.mono ?_
  rintro e w' ⟨v, rfl, hv, hB⟩
  obtain ⟨A', N', c', rfl⟩ := hv.formN
  have hN' := hv.lenN
  have HN' := Lib.hid hN'
  have HB := Lib.hid hB
  clear hv hB hN' hp
  go_wp2_with fail
  go_ret
  have e : decide ((0 : Int) < (N' : Int)) = decide (0 < N') := by rw [decide_eq_decide]; omega
  exact ⟨by rw [HI.out, ← HN'.out, e]; rfl, HB.out⟩

/-- Numbers below k of a row, rising. -/
def eachU (l : List Int) (k : Nat) : List Int := ((List.range k).map fun (n : Nat) => (n : Int)).filter fun v => l.contains v
theorem eachU_zero (l : List Int) : eachU l 0 = [] := rfl
theorem eachU_succ (l : List Int) (k : Nat) : eachU l (k + 1) = eachU l k ++ (if l.contains (k : Int) then [(k : Int)] else []) := by
  unfold eachU
  rw [List.range_succ, List.map_append, List.filter_append]
  congr 1
  by_cases h : (k : Int) ∈ l
  · simp [h]
  · simp [h]
theorem eachU_64 (l : List Int) : eachU l 64 = eachP l := rfl
theorem eachU_len (l : List Int) (k : Nat) : (eachU l k).length ≤ k := by
  unfold eachU
  exact Nat.le_trans (List.length_filter_le _ _) (by simp)

set_option maxHeartbeats 2000000 in
theorem reach_any (A : Option Addr) (N c : Nat) (l : List Int) (w : World) (h : RdW .i64 w A l) (hN : N = l.length) (hl : l.length ≤ 1000000) :
    Calls Tryz.prog 28 #[.slice A N c] w fun e w' => ∃ v, e = .returned v ∧ OwnI w.heap.size w' v (eachP l) ∧ Below w.heap.size w w' := by
  rw [← hN] at hl
  have H := Lib.hid h
  have HN := Lib.hid hN
  clear h hN
  go_enter Tryz.func28, Tryz.ntmps28
  go_upto_region 3 with fail
  go_loopg [3, 4, 5] 64 (fun kk v s _ wr => ∃ k : Nat, k + kk = 64 ∧ s = .int .i64 (k : Int) ∧ OwnI w.heap.size wr v (eachU l k) ∧ Below w.heap.size w wr)
  case atStart => exact ⟨0, by omega, rfl, by rw [eachU_zero]; exact OwnW.nil _ _ _ _, Below.refl _ _⟩
  case round =>
    obtain ⟨k, hk, rfl, hv, hB⟩ := hrel
    obtain ⟨Av, Nv, cv, rfl⟩ := hv.formN
    have hul := eachU_len l k
    by_cases hlt : k < 64
    · have hltI : (k : Int) < 64 := by omega
      have hsu := eachU_succ l k
      obtain ⟨wo, hwo⟩ : ∃ wo, wo = wr := ⟨_, rfl⟩
      subst hwo
      have HSU := Lib.hid hsu
      have HV := Lib.hid hv
      have HB := Lib.hid hB
      clear hsu hv hB
      go_upto_region 6 with fail
      go_loopg [3, 5] N (fun kk v s wr => ∃ i : Nat, i + kk = N ∧ v = .slice Av Nv cv ∧ s = .int .i64 (i : Int) ∧ (∀ j, j < i → l.getD j 0 ≠ (k : Int)) ∧ wo = wr)
      case atStart => exact ⟨0, by omega, rfl, rfl, fun j hj => by omega, rfl⟩
      case round =>
        obtain ⟨i, hi, rfl, rfl, hne, rfl⟩ := hrel
        have HNE := Lib.hid hne
        clear hne
        by_cases hli : i < N
        · have hliI : (i : Int) < (N : Int) := by omega
          have hil : i < l.length := by rw [← HN.out]; exact hli
          obtain ⟨g, off, rfl, hg, hc⟩ := (H.out.below HB.out).at hil
          obtain ⟨y, hy⟩ : ∃ y, l.getD i 0 = y := ⟨_, rfl⟩
          rw [hy] at hc
          have HY := Lib.hid hy
          clear hy
          by_cases hxy : y = (k : Int)
          · subst hxy
            have hct : l.contains (k : Int) = true := by
              rw [List.contains_iff_mem, ← HY.out]
              simp [List.getD, hil]
            have hsu := HSU.out
            rw [if_pos hct] at hsu
            obtain ⟨A', N', c', w', hap, ho, hB2⟩ := appI (ty := 53) HV.out (k : Int) (by omega) HB.out.size
            rw [← hsu] at ho
            have HO := Lib.hid ho
            have HB2 := Lib.hid (HB.out.trans hB2)
            clear hsu ho hB2 hct
            go_wp2_with fail
            go_roundg (64 - (k + 1))
            case measure => omega
            case rel => exact ⟨k + 1, by omega, by go_num, HO.out, HB2.out⟩
          · have HXY := Lib.hid hxy
            go_wp2_with fail
            go_roundg (N - (i + 1))
            case measure => omega
            case rel => exact ⟨i + 1, by omega, rfl, by go_num, fun j hj => by
              by_cases e : j = i
              · subst e; rw [HY.out]; exact HXY.out
              · exact HNE.out j (by omega), rfl⟩
        · obtain rfl : N = i := by omega
          have hliI : ¬ (N : Int) < (N : Int) := by omega
          have hcf : l.contains (k : Int) = false := by
            rw [← Bool.not_eq_true, List.contains_iff_mem]
            intro hm
            obtain ⟨j, hj, e⟩ := List.getElem_of_mem hm
            exact HNE.out j (by rw [HN.out]; exact hj) (by simpa [List.getD, hj] using e)
          have hsu := HSU.out
          rw [if_neg (by rw [hcf]; simp), List.append_nil] at hsu
          have hv := HV.out
          rw [← hsu] at hv
          have HV2 := Lib.hid hv
          clear hsu hv hcf
          go_wp2_with fail
          go_roundg (64 - (k + 1))
          case measure => omega
          case rel => exact ⟨k + 1, by omega, by go_num, HV2.out, HB.out⟩
    · obtain rfl : k = 64 := by omega
      have hltI : ¬ (((64 : Nat) : Int) < 64) := by omega
      rw [eachU_64] at hv
      have HV := Lib.hid hv
      have HB := Lib.hid hB
      clear hv hB
      go_wp2_with fail
      go_ret
      exact ⟨_, rfl, HV.out, HB.out⟩
end Go.Proofs.YtmflhidmhefljaaGreatDoor
end

section
namespace Go.Proofs.YtmflhidmhefljaaGreatDoor
open Go.RowKit Go.Shelf
set_option maxRecDepth 100000

/-- A struct of two fields. -/
theorem BDs_twoN {P : Program} {t : TypeId} {f0 f1 : Field} {n m : Nat} (hu : P.underlying t = some (.struct #[f0, f1]))
    (hz : ((P.info? t).bind (·.zero)).map (·.cells.size) = some (n + m)) (h0 : (P.info? f0.type).map (·.size) = some n) (h1 : (P.info? f1.type).map (·.size) = some m) (o0 : f0.offset = 0) (o1 : f1.offset = n)
    (w : World) (v0 v1 : Value) (hv0 : v0.cells.size = n) (hv1 : v1.cells.size = m) :
    (BDs t #[(0, v0), (1, v1)]).run P w = .ok (.agg (v0.cells ++ v1.cells)) w := by
  refine run_build w t _ _ ?_
  obtain ⟨z, hz1, hz2⟩ := Option.map_eq_some_iff.1 hz
  obtain ⟨i, hq, hz3⟩ := Option.bind_eq_some_iff.1 hz1
  obtain ⟨i0, q0, s0⟩ := Option.map_eq_some_iff.1 h0
  obtain ⟨i1, q1, s1⟩ := Option.map_eq_some_iff.1 h1
  unfold Program.built
  simp only [hq, hu, hz3, List.mapM_cons, List.mapM_nil, q0, q1, s0, s1, o0, o1, Option.map_some, Option.bind_eq_bind, Option.bind_some, Option.pure_def]
  rw [fill_one _ _ 0 0 n v0 _ (by simp) hv0 (by omega), fill_one _ _ 1 n m v1 _ (by simp) hv1 (by rw [size_splice _ _ _ (by simp [hv0]; omega)]; omega)]
  simp only [Instr.fill, Option.some.injEq]
  apply Array.ext'
  have l0 : v0.cells.toList.length = n := by simpa using hv0
  have l1 : v1.cells.toList.length = m := by simpa using hv1
  simp [splice, l0, l1, List.drop_append, hz2]
theorem bdPt_of (parts : Array (Nat × Value)) : Instr.build 56 parts = BDs 56 parts := rfl
theorem zPt : (((Tryz.prog.info? 56).bind (·.zero)).map (·.cells.size)) = some (32 + 1) := by kernel_rfl
theorem iIntS : (Tryz.prog.info? 3).map (·.size) = some 1 := by kernel_rfl
theorem bdPt {tx : List Int} (hl : tx.length = 32) (ix : Int) (w : World) : (BDs 56 #[(0, .agg (bys tx).toArray), (1, .int .i64 ix)]).run Tryz.prog w = .ok (.agg (ptL tx ix).toArray) w := by
  obtain ⟨f0, f1, hu, t0, t1, o0, o1, _, _⟩ := uPtS
  have := BDs_twoN (P := Tryz.prog) hu zPt (by rw [t0]; exact iId) (by rw [t1]; exact iIntS) o0 o1 w (.agg (bys tx).toArray) (.int .i64 ix) (by simp [Value.cells, bys_length, hl]) rfl
  rw [this]
  simp [Value.cells, ptL]
theorem zIdS : (((Tryz.prog.info? 41).bind (·.zero)).map (·.cells.size)) = some 32 := by kernel_rfl
attribute [local go_sem ↓] ldIn_of stIn_of alIn_of ldPt_of ld123 st123 al123 bdPt_of apI_of

theorem okO_of {ix n : Int} (h : okN n = true) (h0 : 0 ≤ ix) (h1 : ix ≤ 15) : okO ix n = true := by
  simp only [okN, decide_eq_true_eq] at h
  simp only [okO, decide_eq_true_eq]
  omega

/-- Are there shards of a transaction's parts? -/
def spreadB (t : TxD) (n : Int) : Bool := decide (checkP t = 0 ∧ okN n = true)

set_option maxHeartbeats 8000000 in
theorem spread_any (A1 : Option Addr) (c1 : Nat) (A2 : Option Addr) (c2 : Nat) (t : TxD) (n : Int) (hn : -9223372036854775808 ≤ n ∧ n ≤ 9223372036854775807) (w : World) (h : TxAt w A1 A2 t) (hgl : Glob w) (hl : t.ins.length ≤ 1000000) (hl2 : t.outs.length ≤ 1000000) :
    Calls Tryz.prog 46 #[.agg (txV A1 c1 A2 c2 t), .int .i64 n] w fun e w' => ∃ v u, e = .returned (.tuple #[v, u, .bool (spreadB t n)]) ∧ OwnI w.heap.size w' v (insP t n) ∧ OwnI w.heap.size w' u (outsP t n) ∧ Below w.heap.size w w' := by
  have b0 := Blk.new w 27 (txV A1 c1 A2 c2 t)
  have B0 : Below w.heap.size w (w.alloc (.cells (txV A1 c1 A2 c2 t) 27)) := (Below.refl _ w).alloc (Nat.le_refl _) _
  obtain ⟨W, hW⟩ : ∃ W, w.alloc (.cells (txV A1 c1 A2 c2 t) 27) = W := ⟨_, rfl⟩
  obtain ⟨g, hg⟩ : ∃ g, w.heap.size = g := ⟨_, rfl⟩
  rw [hW] at B0
  rw [hW, hg] at b0
  have hgW : g < W.heap.size := b0.lt
  have hT := h.below B0
  have hbox : ∀ X, Below W.heap.size W X → X.cell? ⟨g, 0, none⟩ = some (.slice A1 t.ins.length c1) ∧ X.cell? ⟨g, 1, none⟩ = some (.slice A2 t.outs.length c2) ∧ X.cell? ⟨g, 2, none⟩ = some (.int .u64 t.fee) ∧ X.cell? ⟨g, 3, none⟩ = some (.int .i64 t.exp) := fun X hX =>
    ⟨(hX.cell (p := ⟨g, 0, none⟩) hgW).trans (b0.cell 0), (hX.cell (p := ⟨g, 1, none⟩) hgW).trans (b0.cell 1), (hX.cell (p := ⟨g, 2, none⟩) hgW).trans (b0.cell 2), (hX.cell (p := ⟨g, 3, none⟩) hgW).trans (b0.cell 3)⟩
  obtain ⟨q0, q1, q2, q3⟩ := hbox W (Below.refl _ _)
  have hck := txcheck_any A1 c1 A2 c2 t W hT hl hl2
  have hid := fun X (hX : Below W.heap.size W X) => txid_any A1 c1 A2 c2 t X (hT.below hX) ((hgl.below B0).below hX) hl hl2
  have hglW := hgl.below B0
  have HW := Lib.hid hW
  have HG := Lib.hid hg
  have HB0 := Lib.hid B0
  have HBOX := Lib.hid hbox
  have HT := Lib.hid hT
  have HID := Lib.hid hid
  have HGL := Lib.hid hglW
  have HCK := Lib.hid hck
  clear hW hg B0 b0 h hbox hT hck hl hl2 hgW hid hglW hgl
  obtain ⟨R, hR⟩ : ∃ R, checkP t = R := ⟨_, rfl⟩
  rw [hR] at HCK
  have HR := Lib.hid hR
  clear hR
  by_cases hok : R = 0 ∧ okN n = true
  · obtain ⟨rfl, hokn⟩ := hok
    have hn1 : 1 ≤ n ∧ n ≤ 64 := by simpa [okN] using hokn
    have hlo : ¬ n < 1 := by omega
    have hhi : ¬ 64 < n := by omega
    have hins : insP t n = t.ins.map fun i => ofO i.tx i.ix n := by unfold insP; rw [if_pos ⟨HR.out, hokn⟩]
    have houts : outsP t n = (List.range t.outs.length).map fun k => ofO (idP t) (k : Nat) n := by unfold outsP; rw [if_pos ⟨HR.out, hokn⟩]
    have hsb : spreadB t n = true := by unfold spreadB; rw [decide_eq_true_eq]; exact ⟨HR.out, hokn⟩
    rw [hins, houts, hsb]
    clear hsb
    obtain ⟨hlong, _⟩ := checkP_ok HR.out
    obtain ⟨⟨hi1, hi2⟩, ⟨ho1, ho2⟩, _, hsec⟩ := longP_not hlong
    have hD32 : (idP t).length = 32 := idP_len t
    have hDb := idP_bd t
    obtain ⟨D, hD⟩ : ∃ D, idP t = D := ⟨_, rfl⟩
    rw [hD] at hD32 hDb HID
    rw [hD]
    clear hins houts hD
    obtain ⟨hins, houts, hbd⟩ := HT.out
    have hbi := hbd.ins
    obtain ⟨ins, outs, fee, exp⟩ := t
    simp only at hi1 hi2 ho1 ho2 hsec hins houts hbi
    obtain ⟨n1, hn1e⟩ : ∃ n, ins.length = n := ⟨_, rfl⟩
    obtain ⟨n2, hn2e⟩ : ∃ n, outs.length = n := ⟨_, rfl⟩
    obtain ⟨Z, hal, hst⟩ := alst (P := Tryz.prog) (t := 58) iIn zIn
    obtain ⟨Y, hbl, hsu⟩ := alst (P := Tryz.prog) (t := 41) iId zIdS
    unfold txV at HW HCK HID ⊢
    simp only [hn1e, hn2e] at HW HBOX HCK HID q0 q1 q2 q3 ⊢
    rw [hn1e] at hi1 hi2
    rw [hn2e] at ho1 ho2
    have HN1 := Lib.hid hn1e
    have HI := Lib.hid hins
    have HBI := Lib.hid hbi
    have HSEC := Lib.hid hsec
    have HST := Lib.hid hst
    have HSU := Lib.hid hsu
    have HDB := Lib.hid hDb
    have HOK := Lib.hid hokn
    clear hn1e hn2e hins houts hbi hsec hst hsu hlong hbd HT hDb HR hokn
    go_enter Tryz.func46, Tryz.ntmps46
    go_upto_region 1 with fail
    rw [HW.out, HG.out]
    go_wp2_with fail
    with_reducible refine HCK.out.mono ?_
    rintro e w1 ⟨rfl, hB1⟩
    have HB1 := Lib.hid hB1
    clear q0 q1 q2 q3
    obtain ⟨q0, q1, q2, q3⟩ := HBOX.out w1 hB1
    clear hB1
    go_upto_region 4 with fail
    clear q0 q1 q2 q3
    go_loopg [4, 8, 9, 10, 29] n1 (fun kk v _ _ _ s wr => ∃ i : Nat, i + kk = n1 ∧ s = .int .i64 (i : Int) ∧ OwnI W.heap.size wr v ((ins.map fun i => ofO i.tx i.ix n).take i) ∧ Below W.heap.size W wr)
    case atStart => exact ⟨0, by omega, rfl, by rw [List.take_zero]; exact OwnW.nil _ _ _ _, HB1.out⟩
    case round =>
      obtain ⟨i, hi, rfl, hv, hB⟩ := hrel
      obtain ⟨Av, Nv, cv, rfl⟩ := hv.formN
      by_cases hlt : i < n1
      · have hltI : (i : Int) < (n1 : Int) := by omega
        have hil : i < ins.length := by rw [HN1.out]; exact hlt
        obtain ⟨g', off, As, cs, rfl, hg', hat⟩ := HI.out.below hB i hil
        have hbdi := HBI.out _ (List.getElem_mem hil)
        have hIn := LDs_agg uIn iIn wr g' (off + i * 35) (inV ins[i] As cs) (inV_len hbdi _ _) hat.cell
        have hSt := HST.out wr (inV ins[i] As cs) (inV_len hbdi _ _) (inV_one _ _ _)
        have b5 := Blk.new wr 58 (inV ins[i] As cs).toArray
        have hPt := LDs_aggB uPt iPt b5 (off := 0) (ptL ins[i].tx ins[i].ix) (ptL_len hbdi.len _) (inV_pt hbdi As cs)
        have B5 := hB.alloc hB.size (.cells (inV ins[i] As cs).toArray 58)
        have hv5 : OwnI W.heap.size (wr.alloc (.cells (inV ins[i] As cs).toArray 58)) (.slice Av Nv cv) ((ins.map fun i => ofO i.tx i.ix n).take i) := OwnW.alloc hv _
        have htk : (ins.map fun i => ofO i.tx i.ix n).take (i + 1) = (ins.map fun i => ofO i.tx i.ix n).take i ++ [ofO ins[i].tx ins[i].ix n] := by
          rw [List.take_succ_eq_append_getElem (by simpa using hil)]; simp
        have htl : ((ins.map fun i => ofO i.tx i.ix n).take i).length ≤ 16 := by simp; omega
        obtain ⟨W5, hW5⟩ : ∃ W5, wr.alloc (.cells (inV ins[i] As cs).toArray 58) = W5 := ⟨_, rfl⟩
        rw [hW5] at hSt b5 hPt B5 hv5
        obtain ⟨d, hd⟩ : ∃ d, wr.heap.size = d := ⟨_, rfl⟩
        rw [hd] at hPt b5
        have hof := mof_any ins[i].tx hbdi.len hbdi.tx ins[i].ix n hbdi.ix hn W5 (HGL.out.below B5)
        obtain ⟨xs, hxs⟩ : ∃ xs, (inV ins[i] As cs).toArray = xs := ⟨_, rfl⟩
        obtain ⟨ps, hps⟩ : ∃ ps, (ptL ins[i].tx ins[i].ix).toArray = ps := ⟨_, rfl⟩
        obtain ⟨x, hx⟩ : ∃ x, ofO ins[i].tx ins[i].ix n = x := ⟨_, rfl⟩
        obtain ⟨bb, hbb⟩ : ∃ bb, okO ins[i].ix n = bb := ⟨_, rfl⟩
        rw [hxs] at hIn hSt
        rw [hps] at hPt hof
        rw [hx] at hof htk
        rw [hbb] at hof
        have HV5 := Lib.hid hv5
        have HB5 := Lib.hid B5
        have HD := Lib.hid hd
        have HTK := Lib.hid htk
        have HTL := Lib.hid htl
        clear hv hB hat hbdi b5 B5 hv5 htk htl hxs hps hx hbb hW5 hd
        go_upto_region 6 with fail
        rw [HD.out]
        go_wp2_with fail
        with_reducible refine hof.mono ?_
        rintro e w6 ⟨rfl, hB6⟩
        obtain ⟨A', N', c', w7, hap, ho, hB7⟩ := appI (ty := 53) (OwnW.keep HV5.out hB6) x (by have := HTL.out; omega) (Nat.le_trans HB5.out.size hB6.size)
        rw [← HTK.out] at ho
        have HO := Lib.hid ho
        have HB7 := Lib.hid ((HB5.out.trans (hB6.mono HB5.out.size)).trans hB7)
        clear ho hB6 hB7 hof
        go_wp2_with fail
        go_roundg (n1 - (i + 1))
        case measure => omega
        case rel => exact ⟨i + 1, by omega, by go_num, HO.out, HB7.out⟩
      · obtain rfl : n1 = i := by omega
        have hltI : ¬ (n1 : Int) < (n1 : Int) := by omega
        rw [List.take_of_length_le (by rw [List.length_map, HN1.out]; exact Nat.le_refl _)] at hv
        obtain ⟨q0, q1, q2, q3⟩ := HBOX.out wr hB
        have hidc := HID.out wr hB
        obtain ⟨wo, hwo⟩ : ∃ wo, wo = wr := ⟨_, rfl⟩
        subst hwo
        have HV := Lib.hid hv
        have HB := Lib.hid hB
        clear hv hB hal
        go_wp2_with fail
        with_reducible refine hidc.mono ?_
        rintro e w2 ⟨rfl, hB2⟩
        have hDl : (bys D).length = 32 := by rw [bys_length, hD32]
        have hSu := HSU.out w2 (bys D) hDl (bys_one _)
        have b3 := Blk.new w2 41 (bys D).toArray
        have B2W := HB.out.trans (hB2.mono HB.out.size)
        have B3 : Below w2.heap.size w2 (w2.alloc (.cells (bys D).toArray 41)) := (Below.refl _ w2).alloc (Nat.le_refl _) _
        have hv3 : OwnI W.heap.size (w2.alloc (.cells (bys D).toArray 41)) (.slice Av Nv cv) (ins.map fun i => ofO i.tx i.ix n) := OwnW.keep (OwnW.keep HV.out hB2) B3
        have B3W := B2W.trans (B3.mono B2W.size)
        obtain ⟨W3, hW3⟩ : ∃ W3, w2.alloc (.cells (bys D).toArray 41) = W3 := ⟨_, rfl⟩
        rw [hW3] at hSu b3 B3 hv3 B3W
        obtain ⟨dd, hdd⟩ : ∃ dd, w2.heap.size = dd := ⟨_, rfl⟩
        rw [hdd] at b3
        obtain ⟨q0a, q1a, q2a, q3a⟩ := HBOX.out W3 B3W
        obtain ⟨ds, hds⟩ : ∃ ds, (bys D).toArray = ds := ⟨_, rfl⟩
        rw [hds] at hSu
        have HDS := Lib.hid hds
        have HDD := Lib.hid hdd
        have HB3 := Lib.hid b3
        have HB3W := Lib.hid B3W
        have HV3 := Lib.hid hv3
        have HDL := Lib.hid hDl
        clear b3 B2W B3 hv3 B3W hB2 hidc HV HB hW3 hDl hds hdd q0 q1 q2 q3
        rw [HDS.out]
        go_upto_region 11 with fail
        rw [HDD.out]
        clear q0a q1a q2a q3a hbl
        go_loopg [5, 12, 13, 14, 50] n2 (fun kk u _ _ _ s wr => ∃ k : Nat, k + kk = n2 ∧ s = .int .i64 (k : Int) ∧ OwnI W3.heap.size wr u (((List.range n2).map fun k => ofO D (k : Nat) n).take k) ∧ Below W3.heap.size W3 wr)
        case atStart => exact ⟨0, by omega, rfl, by rw [List.take_zero]; exact OwnW.nil _ _ _ _, Below.refl _ _⟩
        case round =>
          obtain ⟨k, hk, rfl, hu, hB⟩ := hrel
          obtain ⟨Au, Nu, cu, rfl⟩ := hu.formN
          by_cases hlt2 : k < n2
          · have hltI : (k : Int) < (n2 : Int) := by omega
            have hbk := HB3.out.fr (Fr.of_below hB) (by have := HB3.out.lt; omega)
            have hld := LDs_aggB uIdA iId hbk (off := 0) (bys D) HDL.out (by simp [List.take_of_length_le, HDL.out])
            have hbd2 := bdPt hD32 (k : Int)
            have hof := mof_any D hD32 HDB.out (k : Int) n (by omega) hn wr (HGL.out.below (HB3W.out.trans (hB.mono HB3W.out.size)))
            rw [HDS.out] at hld hbd2
            have htk : ((List.range n2).map fun k => ofO D (k : Nat) n).take (k + 1) = ((List.range n2).map fun k => ofO D (k : Nat) n).take k ++ [ofO D (k : Nat) n] := by
              rw [List.take_succ_eq_append_getElem (by simpa using hlt2)]; simp
            have htl : (((List.range n2).map fun k => ofO D (k : Nat) n).take k).length ≤ 16 := by simp; omega
            obtain ⟨ps, hps⟩ : ∃ ps, (ptL D (k : Int)).toArray = ps := ⟨_, rfl⟩
            obtain ⟨x, hx⟩ : ∃ x, ofO D (k : Int) n = x := ⟨_, rfl⟩
            obtain ⟨bb, hbb⟩ : ∃ bb, okO (k : Int) n = bb := ⟨_, rfl⟩
            rw [hps] at hof hbd2
            rw [hx] at hof htk
            rw [hbb] at hof
            have HU := Lib.hid hu
            have HB := Lib.hid hB
            have HTK := Lib.hid htk
            have HTL := Lib.hid htl
            clear hu hB htk htl hps hx hbb hbk
            go_wp2_with fail
            with_reducible refine hof.mono ?_
            rintro e w6 ⟨rfl, hB6⟩
            obtain ⟨A', N', c', w7, hap, ho, hB7⟩ := appI (ty := 53) (OwnW.keep HU.out hB6) x (by have := HTL.out; omega) (Nat.le_trans HB.out.size hB6.size)
            rw [← HTK.out] at ho
            have HO := Lib.hid ho
            have HB7 := Lib.hid ((HB.out.trans (hB6.mono HB.out.size)).trans hB7)
            clear ho hB6 hB7 hof
            go_wp2_with fail
            go_roundg (n2 - (k + 1))
            case measure => omega
            case rel => exact ⟨k + 1, by omega, by go_num, HO.out, HB7.out⟩
          · obtain rfl : n2 = k := by omega
            have hltI : ¬ (n2 : Int) < (n2 : Int) := by omega
            rw [List.take_of_length_le (by simp)] at hu
            have HU := Lib.hid hu
            have HB := Lib.hid hB
            clear hu hB
            go_wp2_with fail
            go_ret3
            exact ⟨_, _, rfl, (OwnW.keep HV3.out HB.out).base HB0.out.size, HU.out.base (Nat.le_trans HB0.out.size HB3W.out.size), (HB0.out.trans (HB3W.out.mono HB0.out.size)).trans (HB.out.mono (Nat.le_trans HB0.out.size HB3W.out.size))⟩
  · have hins : insP t n = [] := by unfold insP; rw [if_neg (by rw [HR.out]; exact hok)]
    have houts : outsP t n = [] := by unfold outsP; rw [if_neg (by rw [HR.out]; exact hok)]
    have hsb : spreadB t n = false := by unfold spreadB; rw [decide_eq_false_iff_not, HR.out]; exact hok
    rw [hins, houts, hsb]
    unfold txV at HW HCK ⊢
    clear hins houts hsb
    by_cases hR0 : R = 0
    · subst hR0
      have hn' : n < 1 ∨ 64 < n := by
        have : ¬ okN n = true := fun h => hok ⟨rfl, h⟩
        simp only [okN, decide_eq_true_eq] at this
        omega
      clear hok
      by_cases hlo : n < 1
      · go_enter Tryz.func46, Tryz.ntmps46
        go_upto_region 1 with fail
        rw [HW.out, HG.out]
        go_wp2_with fail
        with_reducible refine HCK.out.mono ?_
        rintro e w1 ⟨rfl, hB1⟩
        have HB1 := Lib.hid (HB0.out.trans (hB1.mono HB0.out.size))
        clear hB1
        go_wp2_with fail
        go_ret3
        exact ⟨_, _, rfl, OwnW.nil _ _ _ _, OwnW.nil _ _ _ _, HB1.out⟩
      · have hhi : 64 < n := by omega
        go_enter Tryz.func46, Tryz.ntmps46
        go_upto_region 1 with fail
        rw [HW.out, HG.out]
        go_wp2_with fail
        with_reducible refine HCK.out.mono ?_
        rintro e w1 ⟨rfl, hB1⟩
        have HB1 := Lib.hid (HB0.out.trans (hB1.mono HB0.out.size))
        clear hB1
        go_wp2_with fail
        go_ret3
        exact ⟨_, _, rfl, OwnW.nil _ _ _ _, OwnW.nil _ _ _ _, HB1.out⟩
    · go_enter Tryz.func46, Tryz.ntmps46
      go_upto_region 1 with fail
      rw [HW.out, HG.out]
      go_wp2_with fail
      with_reducible refine HCK.out.mono ?_
      rintro e w1 ⟨rfl, hB1⟩
      have HB1 := Lib.hid (HB0.out.trans (hB1.mono HB0.out.size))
      clear hB1
      go_wp2_with fail
      go_ret3
      exact ⟨_, _, rfl, OwnW.nil _ _ _ _, OwnW.nil _ _ _ _, HB1.out⟩
end Go.Proofs.YtmflhidmhefljaaGreatDoor
end

section
namespace Go.Proofs.YtmflhidmhefljaaGreatDoor
open Go.RowKit Go.Shelf
set_option maxRecDepth 100000

theorem insP_len {t : TxD} (n : Int) : (insP t n).length ≤ 16 := by
  unfold insP
  split
  · rename_i h
    have := (longP_not (checkP_ok h.1).1).1
    rw [List.length_map]
    exact this.2
  · simp
theorem outsP_len {t : TxD} (n : Int) : (outsP t n).length ≤ 16 := by
  unfold outsP
  split
  · rename_i h
    have := (longP_not (checkP_ok h.1).1).2.1
    rw [List.length_map, List.length_range]
    exact this.2
  · simp
theorem shards64 {l : List Int} {n : Int} (h : ∀ x ∈ l, 0 ≤ x ∧ x < n ∧ n ≤ 64) : ∀ x ∈ l, 0 ≤ x ∧ x < 64 := fun x hx => by have := h x hx; omega
theorem OwnI.rd {B N c : Nat} {w : World} {A : Option Addr} {l : List Int} (h : OwnI B w (.slice A N c) l) : RdW .i64 w A l := by
  obtain ⟨A', c', e, hr, _⟩ := OwnW.rd h
  simp only [Value.slice.injEq] at e
  rw [e.1]
  exact hr

set_option maxHeartbeats 2000000 in
theorem mins_any (A1 : Option Addr) (c1 : Nat) (A2 : Option Addr) (c2 : Nat) (t : TxD) (n : Int) (hn : -9223372036854775808 ≤ n ∧ n ≤ 9223372036854775807) (w : World) (h : TxAt w A1 A2 t) (hgl : Glob w) (hl : t.ins.length ≤ 1000000) (hl2 : t.outs.length ≤ 1000000) :
    Calls Tryz.prog 24 #[.agg (txV A1 c1 A2 c2 t), .int .i64 n] w fun e w' => ∃ A c, e = .returned (.slice A (eachP (insP t n)).length c) ∧ RdW .i64 w' A (eachP (insP t n)) ∧ Below w.heap.size w w' := by
  have b0 := Blk.new w 27 (txV A1 c1 A2 c2 t)
  have B0 : Below w.heap.size w (w.alloc (.cells (txV A1 c1 A2 c2 t) 27)) := (Below.refl _ w).alloc (Nat.le_refl _) _
  obtain ⟨W, hW⟩ : ∃ W, w.alloc (.cells (txV A1 c1 A2 c2 t) 27) = W := ⟨_, rfl⟩
  obtain ⟨g, hg⟩ : ∃ g, w.heap.size = g := ⟨_, rfl⟩
  rw [hW] at B0
  rw [hW, hg] at b0
  have q0 : W.cell? ⟨g, 0, none⟩ = some (.slice A1 t.ins.length c1) := b0.cell 0
  have q1 : W.cell? ⟨g, 1, none⟩ = some (.slice A2 t.outs.length c2) := b0.cell 1
  have q2 : W.cell? ⟨g, 2, none⟩ = some (.int .u64 t.fee) := b0.cell 2
  have q3 : W.cell? ⟨g, 3, none⟩ = some (.int .i64 t.exp) := b0.cell 3
  have hsp := spread_any A1 c1 A2 c2 t n hn W (h.below B0) (hgl.below B0) hl hl2
  have HW := Lib.hid hW
  have HG := Lib.hid hg
  have HB0 := Lib.hid B0
  clear hW hg B0 b0 h hgl hl hl2
  unfold txV at HW hsp ⊢
  go_enter Tryz.func24, Tryz.ntmps24
  go_upto_region 1 with fail
  rw [HW.out, HG.out]
  go_wp2_with fail
  with_reducible refine hsp.mono ?_
  rintro e w1 ⟨v, u, rfl, hv, hu, hB1⟩
  obtain ⟨Av, Nv, cv, rfl⟩ := hv.formN
  obtain ⟨Au, Nu, cu, rfl⟩ := hu.formN
  have he := each_any W.heap.size Av Nv cv (insP t n) w1 hv (shards64 (insP_bd t n)) (by have := @insP_len t n; omega)
  have HV := Lib.hid hv
  have HB1 := Lib.hid hB1
  clear hv hu hB1 hsp
  go_wp2_with fail
  with_reducible refine he.mono ?_
  rintro e w2 ⟨A', c', rfl, hr, hf⟩
  have hB2 := HB1.out.trans (OwnW.step HV.out hf HB1.out.size)
  have HR := Lib.hid hr
  have HB2 := Lib.hid (HB0.out.trans (hB2.mono HB0.out.size))
  clear hr hf hB2 he
  obtain ⟨E, hE⟩ : ∃ E, eachP (insP t n) = E := ⟨_, rfl⟩
  rw [hE] at HR
  have HE := Lib.hid hE
  clear hE
  rw [HE.out]
  obtain ⟨m, hm⟩ : ∃ m, E.length = m := ⟨_, rfl⟩
  have HM := Lib.hid hm
  rw [hm]
  clear hm
  go_wp2_with fail
  go_ret
  exact ⟨A', c', by rw [HE.out, HM.out]; rfl, by rw [HE.out]; exact HR.out, HB2.out⟩

set_option maxHeartbeats 2000000 in
theorem mat_any (A1 : Option Addr) (c1 : Nat) (A2 : Option Addr) (c2 : Nat) (t : TxD) (n s : Int) (hn : -9223372036854775808 ≤ n ∧ n ≤ 9223372036854775807) (w : World) (h : TxAt w A1 A2 t) (hgl : Glob w) (hl : t.ins.length ≤ 1000000) (hl2 : t.outs.length ≤ 1000000) :
    Calls Tryz.prog 31 #[.agg (txV A1 c1 A2 c2 t), .int .i64 n, .int .i64 s] w fun e w' => ∃ v u, e = .returned (.tuple #[v, u]) ∧ OwnI w.heap.size w' v (placesP (insP t n) s) ∧ OwnI w.heap.size w' u (placesP (outsP t n) s) ∧ Below w.heap.size w w' := by
  have b0 := Blk.new w 27 (txV A1 c1 A2 c2 t)
  have B0 : Below w.heap.size w (w.alloc (.cells (txV A1 c1 A2 c2 t) 27)) := (Below.refl _ w).alloc (Nat.le_refl _) _
  obtain ⟨W, hW⟩ : ∃ W, w.alloc (.cells (txV A1 c1 A2 c2 t) 27) = W := ⟨_, rfl⟩
  obtain ⟨g, hg⟩ : ∃ g, w.heap.size = g := ⟨_, rfl⟩
  rw [hW] at B0
  rw [hW, hg] at b0
  have q0 : W.cell? ⟨g, 0, none⟩ = some (.slice A1 t.ins.length c1) := b0.cell 0
  have q1 : W.cell? ⟨g, 1, none⟩ = some (.slice A2 t.outs.length c2) := b0.cell 1
  have q2 : W.cell? ⟨g, 2, none⟩ = some (.int .u64 t.fee) := b0.cell 2
  have q3 : W.cell? ⟨g, 3, none⟩ = some (.int .i64 t.exp) := b0.cell 3
  have hsp := spread_any A1 c1 A2 c2 t n hn W (h.below B0) (hgl.below B0) hl hl2
  have HW := Lib.hid hW
  have HG := Lib.hid hg
  have HB0 := Lib.hid B0
  clear hW hg B0 b0 h hgl hl hl2
  unfold txV at HW hsp ⊢
  go_enter Tryz.func31, Tryz.ntmps31
  go_upto_region 1 with fail
  rw [HW.out, HG.out]
  go_wp2_with fail
  with_reducible refine hsp.mono ?_
  rintro e w1 ⟨v, u, rfl, hv, hu, hB1⟩
  obtain ⟨Av, Nv, cv, rfl⟩ := hv.formN
  obtain ⟨Au, Nu, cu, rfl⟩ := hu.formN
  have hp1 := places_any Av Nv cv (insP t n) s w1 hv.rd hv.lenN (by have := @insP_len t n; omega)
  have hp2 := fun X (hX : Below w1.heap.size w1 X) => places_any Au Nu cu (outsP t n) s X (hu.rd.below hX) hu.lenN (by have := @outsP_len t n; omega)
  have HB1 := Lib.hid hB1
  have HP2 := Lib.hid hp2
  clear hv hu hB1 hsp hp2
  go_wp2_with fail
  with_reducible refine hp1.mono ?_
  rintro e w2 ⟨v2, rfl, hv2, hB2⟩
  have hp2 := HP2.out w2 hB2
  have HV2 := Lib.hid hv2
  have HB2 := Lib.hid (HB1.out.trans (hB2.mono HB1.out.size))
  have hs12 : w1.heap.size ≤ w2.heap.size := hB2.size
  clear hp1 hv2 hB2
  go_wp2_with fail
  with_reducible refine hp2.mono ?_
  rintro e w3 ⟨v3, rfl, hv3, hB3⟩
  have HV2b : OwnI w1.heap.size w3 v2 (placesP (insP t n) s) := OwnW.keep HV2.out hB3
  have HV2b := Lib.hid HV2b
  have HV3 := Lib.hid hv3
  have HB3 := Lib.hid (HB2.out.trans (hB3.mono HB2.out.size))
  clear hv3 hB3 hp2
  go_wp2_with fail
  go_ret2
  exact ⟨_, _, rfl, OwnW.base HV2b.out (Nat.le_trans HB0.out.size HB1.out.size), OwnW.base HV3.out (Nat.le_trans HB0.out.size HB2.out.size), HB0.out.trans (HB3.out.mono HB0.out.size)⟩
end Go.Proofs.YtmflhidmhefljaaGreatDoor
end

section
namespace Go.Proofs.YtmflhidmhefljaaGreatDoor
open Go.RowKit
set_option maxRecDepth 100000
theorem iI5 : (Tryz.prog.info? 3).map (·.size) = some 1 := by kernel_rfl

/-- A row of rows of numbers. -/
structure IntsV (w : World) (A : Option Addr) (xs : List Value) (L : List (List Int)) : Prop where
  len : xs.length = L.length
  cell : 0 < xs.length → ∃ g off, A = some ⟨g, off, none⟩ ∧ g < w.heap.size ∧ ∀ j x, xs[j]? = some x → w.cell? ⟨g, off + j, none⟩ = some x
  txt : ∀ i (h : i < xs.length) (h' : i < L.length), ∃ A c, xs[i] = .slice A L[i].length c ∧ RdW .i64 w A L[i] ∧ (A = none → c = 0)
/-- An append of numbers, wherever they lie. -/
theorem appIM {ty : TypeId} {B : Nat} {w : World} {v : Value} {l m : List Int} {A : Option Addr} {c : Nat} (h : OwnI B w v l) (hm : RdW .i64 w A m) (hlen : l.length + m.length ≤ 1000000000) (hB : B ≤ w.heap.size) (hc : A = none → c = 0) :
    ∃ v' w', (APs #[53, 53] ty #[v, .slice A m.length c]).run Tryz.prog w = .ok v' w' ∧ OwnI B w' v' (l ++ m) ∧ Fr (fun k => v.ownBlock = some k) w w' ∧ Foot w v v' := by
  cases A with
  | none =>
    have e : m = [] := by
      cases m with
      | nil => rfl
      | cons x r =>
        obtain ⟨g, o, e, _⟩ := hm (by simp)
        cases e
    subst e
    obtain rfl := hc rfl
    obtain ⟨i, hi⟩ := Option.map_eq_some_iff.1 iI5
    refine ⟨v, w, run_append_owned_none w B 53 ty 3 i 1 uInts hi.1 v l.length (wds .i64 l) h, by simpa using h, Fr.refl _ _, Foot.refl _ _⟩
  | some a =>
    refine appW (ty := ty) uInts iInts (by omega) h (fun j x hx => ?_) hlen hB
    have hj : j < m.length := (List.getElem?_eq_some_iff.1 hx).1
    obtain ⟨g, o, e, _, hcell⟩ := hm (by omega)
    cases e
    have hadd : (⟨g, o, none⟩ : Addr).add j = ⟨g, o + j, none⟩ := by unfold Addr.add; split <;> simp_all
    rw [hadd]
    exact hcell j x hx

theorem slcI (x : Value) (lo hi mx : Option Value) : Instr.sliceAt 53 x lo hi mx = SLs 53 x lo hi mx := rfl
theorem apIZ_of (xs : Array Value) (t : TypeId) : Builtin.append_ #[53, 3] t xs = APs #[53, 3] t xs := rfl
attribute [local go_sem ↓] apI_of apIZ_of slcI

theorem izI : (Tryz.prog.info? 3).map (fun i => (i.zero, i.size, i.bytes)) = some (some (.int .i64 0), 1, 8) := by kernel_rfl

/-- A row of one's own, cut to nothing. -/
theorem OwnI.none_ {B g cap : Nat} {w : World} {cur : Array Value} (hB : B ≤ g) (hb : Blk w g 3 cur) (hs : cur.size = cap) (hm : cap ≤ maxLen) : OwnI B w (.slice (some ⟨g, 0, none⟩) 0 cap) [] :=
  ⟨rfl, .inr ⟨g, cap, cur, rfl, hB, hb, Nat.zero_le _, hm, by omega, by simp [wds]⟩⟩

theorem SLsI_head {w : World} {g n cap : Nat} (hn : 0 < cap) (h : Int) (e : h = 0) : (SLs 53 (.slice (some ⟨g, 0, none⟩) n cap) none (some (.int .i64 h)) none).run Tryz.prog w = .ok (.slice (some ⟨g, 0, none⟩) 0 cap) w := by
  subst e
  obtain ⟨i, hq, hi⟩ := Option.map_eq_some_iff.1 iI5
  have hne : ¬ cap = 0 := by omega
  simp [SLs, Instr.sliceAt, Instr.slice, Instr.sliceBounds, Instr.sliceBound, asIntOf, run_underlying uInts, sizeOf, typeInfo, hq, Addr.add]
theorem SLsI_nil {w : World} (h : Int) (e : h = 0) : (SLs 53 (.slice none 0 0) none (some (.int .i64 h)) none).run Tryz.prog w = .ok (.slice none 0 0) w := by
  subst e
  obtain ⟨i, hq, hi⟩ := Option.map_eq_some_iff.1 iI5
  simp [SLs, Instr.sliceAt, Instr.slice, Instr.sliceBounds, Instr.sliceBound, asIntOf, run_underlying uInts, sizeOf, typeInfo, hq]

end Go.Proofs.YtmflhidmhefljaaGreatDoor
end

section
namespace Go.Proofs.YtmflhidmhefljaaGreatDoor
open Go.RowKit Go.Shelf
set_option maxRecDepth 100000

/-- All shards of a transaction. -/
def allP (t : TxD) (n : Int) : List Int := eachP (insP t n ++ outsP t n)
/-- The one shard that has all. -/
def singleP (t : TxD) (n : Int) : Int × Bool := if (allP t n).length = 1 then ((allP t n).getD 0 0, true) else (0, false)

end Go.Proofs.YtmflhidmhefljaaGreatDoor
end

section
namespace Go.Proofs.YtmflhidmhefljaaGreatDoor
open Go.RowKit Go.Shelf
set_option maxRecDepth 100000
attribute [local go_sem ↓] ldPt_of ld123 st123 al123 bdPt_of apI_of

/-- Is there more than is looked at? -/
def greatP (t : TxD) : Bool := decide (20 < t.ins.length) || (decide (20 < t.outs.length) || t.ins.any fun i => decide (100 < i.sec.length))
theorem greatP_not {t : TxD} (h : greatP t = false) : t.ins.length ≤ 20 ∧ t.outs.length ≤ 20 := by
  unfold greatP at h
  simp only [Bool.or_eq_false_iff, decide_eq_false_iff_not] at h
  omega

set_option maxHeartbeats 4000000 in
theorem great_any (A1 : Option Addr) (c1 : Nat) (A2 : Option Addr) (c2 : Nat) (t : TxD) (w : World) (h : TxAt w A1 A2 t) :
    Calls Tryz.prog 21 #[.agg (txV A1 c1 A2 c2 t)] w fun e w' => e = .returned (.int .i64 (if greatP t = true then 1 else 0)) ∧ Below w.heap.size w w' := by
  obtain ⟨ins, outs, fee, exp⟩ := t
  have b0 := Blk.new w 27 (txV A1 c1 A2 c2 ⟨ins, outs, fee, exp⟩)
  have B0 : Below w.heap.size w (w.alloc (.cells (txV A1 c1 A2 c2 ⟨ins, outs, fee, exp⟩) 27)) := (Below.refl _ w).alloc (Nat.le_refl _) _
  obtain ⟨W, hW⟩ : ∃ W, w.alloc (.cells (txV A1 c1 A2 c2 ⟨ins, outs, fee, exp⟩) 27) = W := ⟨_, rfl⟩
  obtain ⟨g, hg⟩ : ∃ g, w.heap.size = g := ⟨_, rfl⟩
  rw [hW] at B0
  rw [hW, hg] at b0
  obtain ⟨n1, hn⟩ : ∃ n, ins.length = n := ⟨_, rfl⟩
  obtain ⟨n2, hm⟩ : ∃ n, outs.length = n := ⟨_, rfl⟩
  have q0 : W.cell? ⟨g, 0, none⟩ = some (.slice A1 n1 c1) := by rw [← hn]; exact b0.cell 0
  have q1 : W.cell? ⟨g, 1, none⟩ = some (.slice A2 n2 c2) := by rw [← hm]; exact b0.cell 1
  have hh := (h.below B0).ins
  have hbd := h.bd.ins
  simp only at hh hbd
  obtain ⟨R, hR⟩ : ∃ R, greatP ⟨ins, outs, fee, exp⟩ = R := ⟨_, rfl⟩
  rw [hR]
  unfold greatP at hR
  simp only [hn, hm] at hR
  unfold txV at hW ⊢
  simp only at hW ⊢
  rw [hn, hm] at hW ⊢
  have HW := Lib.hid hW
  have HG := Lib.hid hg
  have HN := Lib.hid hn
  have HH := Lib.hid hh
  have HBD := Lib.hid hbd
  have HB0 := Lib.hid B0
  have HR := Lib.hid hR
  clear hW hg B0 b0 h hn hm hh hbd hR
  by_cases d1 : (20 : Int) < (n1 : Int)
  · have hRt : R = true := by rw [← HR.out]; simp; omega
    subst hRt
    rw [if_pos rfl]
    go_enter Tryz.func21, Tryz.ntmps21
    go_upto_region 1 with fail
    rw [HW.out, HG.out]
    go_wp2_with fail
    go_ret
    exact ⟨rfl, HB0.out⟩
  by_cases d2 : (20 : Int) < (n2 : Int)
  · have hRt : R = true := by rw [← HR.out]; simp; omega
    subst hRt
    rw [if_pos rfl]
    go_enter Tryz.func21, Tryz.ntmps21
    go_upto_region 1 with fail
    rw [HW.out, HG.out]
    go_wp2_with fail
    go_ret
    exact ⟨rfl, HB0.out⟩
  go_enter Tryz.func21, Tryz.ntmps21
  go_upto_region 1 with fail
  rw [HW.out, HG.out]
  go_upto_region 4 with fail
  go_loopg [3] n1 (fun kk s wr => ∃ i : Nat, i + kk = n1 ∧ s = .int .i64 (i : Int) ∧ (∀ j (hj : j < ins.length), j < i → ins[j].sec.length ≤ 100) ∧ W = wr)
  case atStart => exact ⟨0, by omega, rfl, fun _ _ h => by omega, rfl⟩
  case round =>
    obtain ⟨i, hi, rfl, hnl, rfl⟩ := hrel
    by_cases hlt : i < n1
    · have hltI : (i : Int) < (n1 : Int) := by omega
      have hil : i < ins.length := by rw [HN.out]; exact hlt
      obtain ⟨g', off, As, cs, rfl, hg', hat⟩ := HH.out i hil
      have hbdi := HBD.out _ (List.getElem_mem hil)
      have p34 := hat.cell 34 _ (inV_sec hbdi _ _)
      obtain ⟨sl, hsl⟩ : ∃ sl, ins[i].sec.length = sl := ⟨_, rfl⟩
      rw [hsl] at p34
      have HSL := Lib.hid hsl
      have HNL := Lib.hid hnl
      clear hat hbdi hsl hnl
      by_cases e1 : (100 : Int) < (sl : Int)
      · have hRt : R = true := by
          rw [← HR.out, Bool.or_eq_true, Bool.or_eq_true, List.any_eq_true]
          exact .inr (.inr ⟨ins[i], List.getElem_mem hil, by rw [HSL.out, decide_eq_true_eq]; omega⟩)
        subst hRt
        go_wp2_with fail
        go_ret
        exact ⟨rfl, HB0.out⟩
      · have hnl2 : ∀ j (hj : j < ins.length), j < i + 1 → ins[j].sec.length ≤ 100 := fun j hj h => by
          by_cases e : j = i
          · subst e; rw [HSL.out]; omega
          · exact HNL.out j hj (by omega)
        have HNL2 := Lib.hid hnl2
        clear hnl2
        go_wp2_with fail
        go_roundg (n1 - (i + 1))
        case measure => omega
        case rel => exact ⟨i + 1, by omega, by go_num, HNL2.out, rfl⟩
    · obtain rfl : n1 = i := by omega
      have hltI : ¬ (n1 : Int) < (n1 : Int) := by omega
      have hRf : R = false := by
        rw [← HR.out, Bool.or_eq_false_iff, Bool.or_eq_false_iff, List.any_eq_false, decide_eq_false_iff_not, decide_eq_false_iff_not]
        refine ⟨by omega, by omega, fun x hx => ?_⟩
        obtain ⟨j, hj, rfl⟩ := List.getElem_of_mem hx
        have := hnl j hj (by rw [← HN.out]; exact hj)
        simp only [decide_eq_true_eq]
        omega
      subst hRf
      clear hnl
      go_wp2_with fail
      go_ret
      exact ⟨rfl, HB0.out⟩

set_option maxHeartbeats 8000000 in
theorem rspread_any (A1 : Option Addr) (c1 : Nat) (A2 : Option Addr) (c2 : Nat) (t : TxD) (n : Int) (b : Bool) (hn : -9223372036854775808 ≤ n ∧ n ≤ 9223372036854775807) (w : World) (h : TxAt w A1 A2 t) :
    Calls Tryz.prog 20 #[.agg (txV A1 c1 A2 c2 t), .int .i64 n, .bool b] w fun e w' => ∃ v, e = .returned v ∧ OwnI w.heap.size w' v (if b = true then outsP t n else insP t n) ∧ Below w.heap.size w w' := by
  have b0 := Blk.new w 27 (txV A1 c1 A2 c2 t)
  have B0 : Below w.heap.size w (w.alloc (.cells (txV A1 c1 A2 c2 t) 27)) := (Below.refl _ w).alloc (Nat.le_refl _) _
  obtain ⟨W, hW⟩ : ∃ W, w.alloc (.cells (txV A1 c1 A2 c2 t) 27) = W := ⟨_, rfl⟩
  obtain ⟨g, hg⟩ : ∃ g, w.heap.size = g := ⟨_, rfl⟩
  rw [hW] at B0
  rw [hW, hg] at b0
  have hgW : g < W.heap.size := b0.lt
  have hT := h.below B0
  have hbox : ∀ X, Below W.heap.size W X → X.cell? ⟨g, 0, none⟩ = some (.slice A1 t.ins.length c1) ∧ X.cell? ⟨g, 1, none⟩ = some (.slice A2 t.outs.length c2) ∧ X.cell? ⟨g, 2, none⟩ = some (.int .u64 t.fee) ∧ X.cell? ⟨g, 3, none⟩ = some (.int .i64 t.exp) := fun X hX =>
    ⟨(hX.cell (p := ⟨g, 0, none⟩) hgW).trans (b0.cell 0), (hX.cell (p := ⟨g, 1, none⟩) hgW).trans (b0.cell 1), (hX.cell (p := ⟨g, 2, none⟩) hgW).trans (b0.cell 2), (hX.cell (p := ⟨g, 3, none⟩) hgW).trans (b0.cell 3)⟩
  obtain ⟨q0, q1, q2, q3⟩ := hbox W (Below.refl _ _)
  have hck := rcheck_any A1 c1 A2 c2 t W hT
  have HW := Lib.hid hW
  have HG := Lib.hid hg
  have HB0 := Lib.hid B0
  have HBOX := Lib.hid hbox
  have HT := Lib.hid hT
  have HCK := Lib.hid hck
  clear hW hg B0 b0 h hbox hT hck hgW
  obtain ⟨R, hR⟩ : ∃ R, checkP t = R := ⟨_, rfl⟩
  rw [hR] at HCK
  have HR := Lib.hid hR
  clear hR
  by_cases hok : R = 0 ∧ okN n = true
  · obtain ⟨rfl, hokn⟩ := hok
    have hn1 : 1 ≤ n ∧ n ≤ 64 := by simpa [okN] using hokn
    have hlo : ¬ n < 1 := by omega
    have hhi : ¬ 64 < n := by omega
    have hins : insP t n = t.ins.map fun i => ofO i.tx i.ix n := by unfold insP; rw [if_pos ⟨HR.out, hokn⟩]
    have houts : outsP t n = (List.range t.outs.length).map fun k => ofO (idP t) (k : Nat) n := by unfold outsP; rw [if_pos ⟨HR.out, hokn⟩]
    rw [hins, houts]
    have hid := fun X (hX : Below W.heap.size W X) => rid_any A1 c1 A2 c2 t X (HT.out.below hX) HR.out
    obtain ⟨hlong, _⟩ := checkP_ok HR.out
    obtain ⟨⟨hi1, hi2⟩, ⟨ho1, ho2⟩, _, hsec⟩ := longP_not hlong
    have hD32 : (idP t).length = 32 := idP_len t
    have hDb := idP_bd t
    obtain ⟨D, hD⟩ : ∃ D, idP t = D := ⟨_, rfl⟩
    rw [hD] at hD32 hDb
    simp only [hD] at hid
    rw [hD]
    have HID := Lib.hid hid
    clear hins houts hD hid
    obtain ⟨hins, houts, hbd⟩ := HT.out
    have hbi := hbd.ins
    obtain ⟨ins, outs, fee, exp⟩ := t
    simp only at hi1 hi2 ho1 ho2 hsec hins houts hbi
    obtain ⟨n1, hn1e⟩ : ∃ n, ins.length = n := ⟨_, rfl⟩
    obtain ⟨n2, hn2e⟩ : ∃ n, outs.length = n := ⟨_, rfl⟩
    obtain ⟨Y, hbl, hsu⟩ := alst (P := Tryz.prog) (t := 41) iId zIdS
    unfold txV at HW HCK HID ⊢
    simp only [hn1e, hn2e] at HW HBOX HCK HID q0 q1 q2 q3 ⊢
    rw [hn1e] at hi1 hi2
    rw [hn2e] at ho1 ho2
    have HN1 := Lib.hid hn1e
    have HI := Lib.hid hins
    have HBI := Lib.hid hbi
    have HSEC := Lib.hid hsec
    have HSU := Lib.hid hsu
    have HDB := Lib.hid hDb
    have HOK := Lib.hid hokn
    clear hn1e hn2e hins houts hbi hsec hsu hlong hbd HT hDb HR hokn
    cases b with
    | false =>
      rw [if_neg (by simp)]
      go_enter Tryz.func20, Tryz.ntmps20
      go_upto_region 1 with fail
      rw [HW.out, HG.out]
      go_wp2_with fail
      with_reducible refine HCK.out.mono ?_
      rintro e w1 ⟨rfl, hB1⟩
      have HB1 := Lib.hid hB1
      clear q0 q1 q2 q3 hB1 hbl HID HSU
      go_upto_region 6 with fail
      go_loopg [7, 8] n1 (fun kk v s wr => ∃ i : Nat, i + kk = n1 ∧ s = .int .i64 (i : Int) ∧ OwnI W.heap.size wr v ((ins.map fun i => ofO i.tx i.ix n).take i) ∧ Below W.heap.size W wr)
      case atStart => exact ⟨0, by omega, rfl, by rw [List.take_zero]; exact OwnW.nil _ _ _ _, HB1.out⟩
      case round =>
        obtain ⟨i, hi, rfl, hv, hB⟩ := hrel
        obtain ⟨Av, Nv, cv, rfl⟩ := hv.formN
        obtain ⟨q0, q1, q2, q3⟩ := HBOX.out wr hB
        by_cases hlt : i < n1
        · have hltI : (i : Int) < (n1 : Int) := by omega
          have hil : i < ins.length := by rw [HN1.out]; exact hlt
          obtain ⟨g', off, As, cs, rfl, hg', hat⟩ := HI.out.below hB i hil
          have hbdi := HBI.out _ (List.getElem_mem hil)
          obtain ⟨_, hx0, hx15⟩ := HSEC.out _ (List.getElem_mem hil)
          have hPt := LDs_agg uPt iPt wr g' (off + i * 35) (ptL ins[i].tx ins[i].ix) (ptL_len hbdi.len _) (fun j v hv => hat.cell j v (by unfold inV; rw [List.getElem?_append_left (List.getElem?_eq_some_iff.1 hv).1]; exact hv))
          have htk : (ins.map fun i => ofO i.tx i.ix n).take (i + 1) = (ins.map fun i => ofO i.tx i.ix n).take i ++ [ofO ins[i].tx ins[i].ix n] := by
            rw [List.take_succ_eq_append_getElem (by simpa using hil)]; simp
          have htl : ((ins.map fun i => ofO i.tx i.ix n).take i).length ≤ 16 := by simp; omega
          have hof := rmof_any ins[i].tx hbdi.len hbdi.tx ins[i].ix n hbdi.ix hn wr
          rw [if_pos (okO_of HOK.out hx0 hx15)] at hof
          obtain ⟨ps, hps⟩ : ∃ ps, (ptL ins[i].tx ins[i].ix).toArray = ps := ⟨_, rfl⟩
          obtain ⟨x, hx⟩ : ∃ x, ofO ins[i].tx ins[i].ix n = x := ⟨_, rfl⟩
          rw [hps] at hPt hof
          rw [hx] at hof htk
          have HV := Lib.hid hv
          have HB := Lib.hid hB
          have HTK := Lib.hid htk
          have HTL := Lib.hid htl
          clear hv hB hat hbdi htk htl hps hx hx0 hx15
          go_wp2_with fail
          with_reducible refine hof.mono ?_
          rintro e w6 ⟨rfl, hB6⟩
          obtain ⟨A', N', c', w7, hap, ho, hB7⟩ := appI (ty := 53) (OwnW.keep HV.out hB6) x (by have := HTL.out; omega) (Nat.le_trans HB.out.size hB6.size)
          rw [← HTK.out] at ho
          have HO := Lib.hid ho
          have HB7 := Lib.hid ((HB.out.trans (hB6.mono HB.out.size)).trans hB7)
          clear ho hB6 hB7 hof
          go_wp2_with fail
          go_roundg (n1 - (i + 1))
          case measure => omega
          case rel => exact ⟨i + 1, by omega, by go_num, HO.out, HB7.out⟩
        · obtain rfl : n1 = i := by omega
          have hltI : ¬ (n1 : Int) < (n1 : Int) := by omega
          rw [List.take_of_length_le (by rw [List.length_map, HN1.out]; exact Nat.le_refl _)] at hv
          have HV := Lib.hid hv
          have HB := Lib.hid hB
          clear hv hB
          go_wp2_with fail
          go_ret
          exact ⟨_, rfl, OwnW.base HV.out HB0.out.size, HB0.out.trans (HB.out.mono HB0.out.size)⟩
    | true =>
      rw [if_pos rfl]
      go_enter Tryz.func20, Tryz.ntmps20
      go_upto_region 1 with fail
      rw [HW.out, HG.out]
      go_wp2_with fail
      with_reducible refine HCK.out.mono ?_
      rintro e w1 ⟨rfl, hB1⟩
      obtain ⟨q0a, q1a, q2a, q3a⟩ := HBOX.out w1 hB1
      have hidc := HID.out w1 hB1
      have HB1 := Lib.hid hB1
      clear q0 q1 q2 q3 hB1 HID
      go_wp2_with fail
      with_reducible refine hidc.mono ?_
      rintro e w2 ⟨rfl, hB2⟩
      have hDl : (bys D).length = 32 := by rw [bys_length, hD32]
      have hSu := HSU.out w2 (bys D) hDl (bys_one _)
      have b3 := Blk.new w2 41 (bys D).toArray
      have B2W := HB1.out.trans (hB2.mono HB1.out.size)
      have B3 : Below w2.heap.size w2 (w2.alloc (.cells (bys D).toArray 41)) := (Below.refl _ w2).alloc (Nat.le_refl _) _
      have B3W := B2W.trans (B3.mono B2W.size)
      obtain ⟨W3, hW3⟩ : ∃ W3, w2.alloc (.cells (bys D).toArray 41) = W3 := ⟨_, rfl⟩
      rw [hW3] at hSu b3 B3 B3W
      obtain ⟨dd, hdd⟩ : ∃ dd, w2.heap.size = dd := ⟨_, rfl⟩
      rw [hdd] at b3
      obtain ⟨ds, hds⟩ : ∃ ds, (bys D).toArray = ds := ⟨_, rfl⟩
      rw [hds] at hSu
      have HDS := Lib.hid hds
      have HDD := Lib.hid hdd
      have HB3 := Lib.hid b3
      have HB3W := Lib.hid B3W
      have HDL := Lib.hid hDl
      clear b3 B2W B3 B3W hB2 hidc hW3 hDl hds hdd q0a q1a q2a q3a
      rw [HDS.out]
      go_upto_region 12 with fail
      rw [HDD.out]
      clear hbl
      go_loopg [7, 10] n2 (fun kk u s wr => ∃ k : Nat, k + kk = n2 ∧ s = .int .i64 (k : Int) ∧ OwnI W3.heap.size wr u (((List.range n2).map fun k => ofO D (k : Nat) n).take k) ∧ Below W3.heap.size W3 wr)
      case atStart => exact ⟨0, by omega, rfl, by rw [List.take_zero]; exact OwnW.nil _ _ _ _, Below.refl _ _⟩
      case round =>
        obtain ⟨k, hk, rfl, hu, hB⟩ := hrel
        obtain ⟨Au, Nu, cu, rfl⟩ := hu.formN
        obtain ⟨q0, q1, q2, q3⟩ := HBOX.out wr (HB3W.out.trans (hB.mono HB3W.out.size))
        by_cases hlt2 : k < n2
        · have hltI : (k : Int) < (n2 : Int) := by omega
          have hbk := HB3.out.fr (Fr.of_below hB) (by have := HB3.out.lt; omega)
          have hld := LDs_aggB uIdA iId hbk (off := 0) (bys D) HDL.out (by simp [List.take_of_length_le, HDL.out])
          have hbd2 := bdPt hD32 (k : Int)
          have hof := rmof_any D hD32 HDB.out (k : Int) n (by omega) hn wr
          rw [if_pos (okO_of HOK.out (by omega) (by omega))] at hof
          rw [HDS.out] at hld hbd2
          have htk : ((List.range n2).map fun k => ofO D (k : Nat) n).take (k + 1) = ((List.range n2).map fun k => ofO D (k : Nat) n).take k ++ [ofO D (k : Nat) n] := by
            rw [List.take_succ_eq_append_getElem (by simpa using hlt2)]; simp
          have htl : (((List.range n2).map fun k => ofO D (k : Nat) n).take k).length ≤ 16 := by simp; omega
          obtain ⟨ps, hps⟩ : ∃ ps, (ptL D (k : Int)).toArray = ps := ⟨_, rfl⟩
          obtain ⟨x, hx⟩ : ∃ x, ofO D (k : Int) n = x := ⟨_, rfl⟩
          rw [hps] at hof hbd2
          rw [hx] at hof htk
          have HU := Lib.hid hu
          have HB := Lib.hid hB
          have HTK := Lib.hid htk
          have HTL := Lib.hid htl
          clear hu hB htk htl hps hx hbk
          go_wp2_with fail
          with_reducible refine hof.mono ?_
          rintro e w6 ⟨rfl, hB6⟩
          obtain ⟨A', N', c', w7, hap, ho, hB7⟩ := appI (ty := 53) (OwnW.keep HU.out hB6) x (by have := HTL.out; omega) (Nat.le_trans HB.out.size hB6.size)
          rw [← HTK.out] at ho
          have HO := Lib.hid ho
          have HB7 := Lib.hid ((HB.out.trans (hB6.mono HB.out.size)).trans hB7)
          clear ho hB6 hB7 hof
          go_wp2_with fail
          go_roundg (n2 - (k + 1))
          case measure => omega
          case rel => exact ⟨k + 1, by omega, by go_num, HO.out, HB7.out⟩
        · obtain rfl : n2 = k := by omega
          have hltI : ¬ (n2 : Int) < (n2 : Int) := by omega
          rw [List.take_of_length_le (by simp)] at hu
          have HU := Lib.hid hu
          have HB := Lib.hid hB
          clear hu hB
          go_wp2_with fail
          go_ret
          exact ⟨_, rfl, OwnW.base HU.out (Nat.le_trans HB0.out.size HB3W.out.size), (HB0.out.trans (HB3W.out.mono HB0.out.size)).trans (HB.out.mono (Nat.le_trans HB0.out.size HB3W.out.size))⟩
  · have hins : insP t n = [] := by unfold insP; rw [if_neg (by rw [HR.out]; exact hok)]
    have houts : outsP t n = [] := by unfold outsP; rw [if_neg (by rw [HR.out]; exact hok)]
    rw [hins, houts, show (if b = true then ([] : List Int) else []) = [] by cases b <;> rfl]
    unfold txV at HW HCK ⊢
    clear hins houts
    by_cases hR0 : R = 0
    · subst hR0
      have hn' : n < 1 ∨ 64 < n := by
        have : ¬ okN n = true := fun h => hok ⟨rfl, h⟩
        simp only [okN, decide_eq_true_eq] at this
        omega
      clear hok
      by_cases hlo : n < 1
      · go_enter Tryz.func20, Tryz.ntmps20
        go_upto_region 1 with fail
        rw [HW.out, HG.out]
        go_wp2_with fail
        with_reducible refine HCK.out.mono ?_
        rintro e w1 ⟨rfl, hB1⟩
        have HB1 := Lib.hid (HB0.out.trans (hB1.mono HB0.out.size))
        clear hB1
        go_wp2_with fail
        go_ret
        exact ⟨_, rfl, OwnW.nil _ _ _ _, HB1.out⟩
      · have hhi : 64 < n := by omega
        go_enter Tryz.func20, Tryz.ntmps20
        go_upto_region 1 with fail
        rw [HW.out, HG.out]
        go_wp2_with fail
        with_reducible refine HCK.out.mono ?_
        rintro e w1 ⟨rfl, hB1⟩
        have HB1 := Lib.hid (HB0.out.trans (hB1.mono HB0.out.size))
        clear hB1
        go_wp2_with fail
        go_ret
        exact ⟨_, rfl, OwnW.nil _ _ _ _, HB1.out⟩
    · have hRb : (R != 0) = true := by simp [hR0]
      go_enter Tryz.func20, Tryz.ntmps20
      go_upto_region 1 with fail
      rw [HW.out, HG.out]
      go_wp2_with fail
      with_reducible refine HCK.out.mono ?_
      rintro e w1 ⟨rfl, hB1⟩
      have HB1 := Lib.hid (HB0.out.trans (hB1.mono HB0.out.size))
      clear hB1
      go_wp2_with fail
      go_ret
      exact ⟨_, rfl, OwnW.nil _ _ _ _, HB1.out⟩
end Go.Proofs.YtmflhidmhefljaaGreatDoor
end

section
namespace Go.Proofs.YtmflhidmhefljaaGreatDoor
open Go.RowKit Go.Shelf
set_option maxRecDepth 100000

theorem bdIn_of (parts : Array (Nat × Value)) : Instr.build 58 parts = BDs 58 parts := rfl
theorem bdOut_of (parts : Array (Nat × Value)) : Instr.build 61 parts = BDs 61 parts := rfl
theorem bsIn_of (n : Nat) (parts : Array (Nat × Value)) : Instr.buildSlice 23 n parts = BSs 23 n parts := rfl
theorem bsOut_of (n : Nat) (parts : Array (Nat × Value)) : Instr.buildSlice 24 n parts = BSs 24 n parts := rfl
theorem uInS : Tryz.prog.underlying 23 = some (.slice 58) := by kernel_rfl
theorem uOutS : Tryz.prog.underlying 24 = some (.slice 61) := by kernel_rfl
theorem iInZ : (Tryz.prog.info? 58).map (fun i => (i.zero.map (·.cells.size), i.size)) = some (some 35, 35) := by kernel_rfl
theorem iOutZ : (Tryz.prog.info? 61).map (fun i => (i.zero.map (·.cells.size), i.size)) = some (some 33, 33) := by kernel_rfl
/-- The document's example. -/
def inE : InD := ⟨List.replicate 32 0, 0, 5, []⟩
def outE : OutD := ⟨List.replicate 32 0, 5⟩
def txE : TxD := ⟨[inE], [outE], 0, 0⟩
theorem zr32 : ∀ x ∈ List.replicate 32 (0 : Int), 0 ≤ x ∧ x ≤ 255 := fun x hx => by
  have := List.eq_of_mem_replicate hx
  omega
theorem inE_bd : inE.Bd := ⟨by simp [inE], zr32, by simp [inE], by simp [inE], by simp [inE]⟩
theorem outE_bd : outE.Bd := ⟨by simp [outE], zr32, by simp [outE]⟩
theorem txE_bd : txE.Bd := ⟨fun i hi => by simp only [txE, List.mem_singleton] at hi; subst hi; exact inE_bd, fun o ho => by simp only [txE, List.mem_singleton] at ho; subst ho; exact outE_bd, by simp [txE], by simp [txE]⟩
theorem bdIn_e (w : World) : (BDs 58 #[(1, .int .u64 5)]).run Tryz.prog w = .ok (.agg (inV inE none 0).toArray) w := by kernel_rfl
theorem bdOut_e (w : World) : (BDs 61 #[(1, .int .u64 5)]).run Tryz.prog w = .ok (.agg (outV outE).toArray) w := by kernel_rfl
theorem bdPt_3 (w : World) : (BDs 56 #[(1, .int .i64 3)]).run Tryz.prog w = .ok (.agg (ptL (List.replicate 32 0) 3).toArray) w := by kernel_rfl
theorem bdPt_0 (w : World) : (BDs 56 #[]).run Tryz.prog w = .ok (.agg (ptL (List.replicate 32 0) 0).toArray) w := by kernel_rfl
theorem txE_check : checkP txE = 0 := by decide
theorem ofO_one (tx : List Int) (ix : Int) : ofO tx ix 1 = 0 := by
  unfold ofO
  split
  · exact Int.emod_one _
  · rfl
theorem insE : insP txE 1 = [0] := by
  unfold insP
  rw [if_pos ⟨txE_check, rfl⟩]
  simp [txE, ofO_one]
theorem eachE : eachP (insP txE 1) = [0] := by
  rw [insE]
  decide
attribute [local go_sem ↓] bdIn_of bdOut_of bsIn_of bsOut_of bdPt_of

end Go.Proofs.YtmflhidmhefljaaGreatDoor
end
