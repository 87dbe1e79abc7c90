/-
  mapping.each: sorted, each number once.
  mapping.places; seisinref08.Places, Has, Each; seisinref01.Ints.
  mapping.spread.
  mapping.Ins, mapping.Outs, mapping.At.
  slices.Grow of nothing, slices.Concat: of numbers.
  mapping.Single; seisinref07.Great; seisinref08.Spread.
-/
import Derived.Test.YtdkanehjahpehaaGreatDoorJTxA
import Derived.Test.YtdkanehjahpehaaGreatDoorJOwnR
import Derived.Test.YtdkanehjahpehaaGreatDoorShelf
import Derived.Shelf.Slices.In.SortNone
import Derived.Lib.RowBridge
import Derived.BigQuiet
import Derived.Test.YtdkanehjahpehaaGreatDoorJTxG
import Derived.Lib.AppendZeros
import Derived.Lib.AppendZerosOnto
import Derived.Laws.AppendOwnNone
import Derived.Test.YtdkanehjahpehaaGreatDoorJRTxB

section
namespace Go.Proofs.YtdkanehjahpehaaGreatDoor
open Go.RowKit Go.Shelf Go.Sort
set_option maxRecDepth 100000

/-- A row of numbers of one's own. -/
def OwnI (B : Nat) (w : World) (v : Value) (l : List Int) : Prop := OwnW 3 .i64 B w v l

theorem fr_putRow {α : Type} [Inhabited α] (enc : α → Value) (w : World) (blk off : Nat) (d : Array α) : Fr (fun k => k = blk) w (putRow enc w blk off d) :=
  ⟨rfl, rfl, rfl, by simp [putRow, mapBlock], fun k hk hne => by
    have : blk ≠ k := fun e => hne e.symm
    simp [putRow, mapBlock, Array.getElem?_modify, this]⟩
theorem fr_ahead {F : Nat → Prop} {w w' : World} (h : Fr F w w') (n : Nat) : Fr F w (Sort.ahead w' n) := ⟨h.os, h.tape, h.output, h.size, h.block⟩
theorem fr_ahead' {F : Nat → Prop} {w w' : World} {n : Nat} (h : Fr F (Sort.ahead w n) w') : Fr F w w' := ⟨h.os, h.tape, h.output, h.size, h.block⟩
theorem fr_grow {F : Nat → Prop} {w w' : World} (h : Fr F w w') (os : Array Obj) : Fr F w (grow w' os) :=
  ⟨h.os, h.tape, h.output, by have := h.size; simp [grow]; omega, fun k hk hn => by
    rw [heap_grow_old w' os (Nat.lt_of_lt_of_le hk h.size)]
    exact h.block k hk hn⟩

theorem each_any (B : Nat) (A : Option Addr) (N c : Nat) (l : List Int) (w : World) (h : OwnI B w (.slice A N c) l) (hb : ∀ x ∈ l, 0 ≤ x ∧ x < 64) (hl : l.length ≤ 1000000) :
    Calls Tryz.prog 70 #[.slice A N c] w fun e w' => ∃ A' c', e = .returned (.slice A' (eachP l).length c') ∧ RdW .i64 w' A' (eachP l) ∧ Fr (fun k => (Value.slice A N c).ownBlock = some k) w w' := by
  rcases Nat.eq_zero_or_pos l.length with h0 | h0
  · obtain rfl : l = [] := List.length_eq_zero_iff.1 h0
    obtain ⟨A2, c2, e⟩ := h.form
    simp only [Value.slice.injEq, List.length_nil] at e
    obtain ⟨rfl, rfl, rfl⟩ := e
    have s1 := Any.slices_Sort_int_none Tryz.laysSo A c w
    have s2 := Any.slices_Compact_int_empty Tryz.laysCo A c w
    rw [eachP_nil]
    clear h h0 hb
    have s1' : Calls Tryz.prog 113 #[.slice A 0 c] w fun e w' => e = .returned (.tuple #[]) ∧ w' = w := s1
    have s2' : Calls Tryz.prog 114 #[.slice A 0 c] w fun e w' => e = .returned (.slice A 0 c) ∧ w' = w := s2
    clear s1 s2
    go_enter Tryz.func70, Tryz.ntmps70
    go_wp2_with fail
    with_reducible refine s1'.mono ?_
    rintro e w' ⟨rfl, rfl⟩
    go_wp2_with fail
    with_reducible refine s2'.mono ?_
    rintro e w' ⟨rfl, rfl⟩
    go_wp2_with fail
    go_ret
    exact ⟨_, _, rfl, RdW.nil _ _ _, Fr.refl _ _⟩
  · obtain ⟨g, cap, e, hcap, hBg, hg, hcell⟩ := h.cells h0
    simp only [Value.slice.injEq] at e
    obtain ⟨rfl, rfl, rfl⟩ := e
    have hH : Holds (Value.int .i64) w g 0 l.toArray := fun j hj => by
      have hj' : j < l.length := by simpa using hj
      obtain ⟨e1, e2⟩ := hcell j hj'
      rw [Nat.zero_add]
      exact ⟨by rw [e1]; simp [getElem!_pos, hj', List.getD], e2⟩
    have s1 : Calls Tryz.prog 113 #[.slice (some ⟨g, 0, none⟩) l.length c] w fun e w' => e = .returned (.tuple #[]) ∧ ∃ n os, w' = grow (putRow (Value.int .i64) (Sort.ahead w n) g 0 (l.mergeSort fun x y => decide (x ≤ y)).toArray) os :=
      Any.slices_Sort_int Tryz.laysSo g 0 c l w hH hg (by omega)
    obtain ⟨m, hm⟩ : ∃ m, (l.mergeSort fun x y => decide (x ≤ y)) = m := ⟨_, rfl⟩
    have hml : m.length = l.length := by rw [← hm]; exact List.length_mergeSort l
    have hec := each_eq hb
    rw [hm] at s1 hec
    have s2 : ∀ w1, Holds (Value.int .i64) w1 g 0 m.toArray → Calls Tryz.prog 114 #[.slice (some ⟨g, 0, none⟩) l.length c] w1 fun e w' => e = .returned (.slice (some ⟨g, 0, none⟩) (eachP l).length c) ∧ ∃ q, w' = putRow (Value.int .i64) (Sort.ahead w1 q) g 0 (eachP l ++ List.replicate (l.length - (eachP l).length) 0).toArray := fun w1 hH1 => by
      have := Any.slices_Compact_int Tryz.laysCo g 0 c m w1 hH1 (by omega) (by omega)
      rw [hec, hml] at this
      exact this
    have hle : (eachP l).length ≤ l.length := by rw [← hec, ← hml]; exact Lib.compact_length_le m
    obtain ⟨n, hn⟩ : ∃ n, l.length = n := ⟨_, rfl⟩
    obtain ⟨E, hE⟩ : ∃ E, eachP l = E := ⟨_, rfl⟩
    rw [hE] at s2 hle ⊢
    rw [hn] at s1 s2 hle
    have HH := Lib.hid hH
    have HS2 := Lib.hid s2
    have HML := Lib.hid hml
    have HN := Lib.hid hn
    clear hH hcell h hb hm hec hml hE hcap s2 hn h0 hl
    rw [HN.out]
    go_enter Tryz.func70, Tryz.ntmps70
    go_wp2_with fail
    with_reducible refine s1.mono ?_
    rintro e w1 ⟨rfl, k, os, hw1⟩
    have hH1 : Holds (Value.int .i64) w1 g 0 m.toArray := by
      rw [hw1]
      refine holds_grow _ _ _ _ _ _ (by simpa [putRow, mapBlock] using hg) ?_
      exact holds_putRow _ _ _ _ l.toArray m.toArray (holds_ahead _ _ _ _ _ _ HH.out) (by simp [HML.out])
    have hf1 : Fr (fun j => j = g) w w1 := by
      rw [hw1]
      exact fr_grow (fr_ahead' (fr_putRow _ _ _ _ _)) os
    have hc2 := HS2.out w1 hH1
    have HH1 := Lib.hid hH1
    have HF1 := Lib.hid hf1
    clear hw1 hH1 hf1 s1
    go_wp2_with fail
    with_reducible refine hc2.mono ?_
    rintro e w2 ⟨rfl, q, hw2⟩
    have hf2 : Fr (fun j => j = g) w1 w2 := by
      rw [hw2]
      exact fr_ahead' (fr_putRow _ _ _ _ _)
    have hH2 : Holds (Value.int .i64) w2 g 0 (E ++ List.replicate (n - E.length) 0).toArray := by
      rw [hw2]
      exact holds_putRow _ _ _ _ m.toArray _ (holds_ahead _ _ _ _ _ _ HH1.out) (by have := HML.out; have := HN.out; simp; omega)
    have HH2 := Lib.hid hH2
    have HF2 := Lib.hid hf2
    clear hw2 hf2 hH2 hc2
    go_wp2_with fail
    go_ret
    refine ⟨_, _, rfl, fun _ => ⟨g, 0, rfl, Nat.lt_of_lt_of_le hg (Nat.le_trans HF1.out.size HF2.out.size), fun j x hx => ?_⟩, ?_⟩
    · obtain ⟨hj, hx⟩ := List.getElem?_eq_some_iff.1 hx
      have := (HH2.out j (by simp; omega)).1
      rw [this]
      have hj2 : j < (E ++ List.replicate (n - E.length) 0).length := by simp; omega
      have e : (E ++ List.replicate (n - E.length) 0).toArray[j]! = x := by
        rw [getElem!_pos _ _ (by simpa using hj2)]
        simp only [List.getElem_toArray]
        rw [List.getElem_append_left hj, hx]
      rw [e]
    · exact (HF1.out.trans HF2.out (fun k _ e => e)).mono (fun k _ e => by subst e; rfl)
end Go.Proofs.YtdkanehjahpehaaGreatDoor
end

section
namespace Go.Proofs.YtdkanehjahpehaaGreatDoor
open Go.RowKit Go.Shelf
set_option maxRecDepth 100000

theorem uInts : Tryz.prog.underlying 101 = some (.slice 3) := by kernel_rfl
theorem iInts : (Tryz.prog.info? 3).map (fun i => (i.zero.map (·.cells.size), i.size, i.bytes)) = some (some 1, 1, 8) := by kernel_rfl
theorem apI_of (xs : Array Value) (t : TypeId) : Builtin.append_ #[101, 101] t xs = APs #[101, 101] t xs := rfl
attribute [local go_sem ↓] apI_of
theorem OwnI.formN {B : Nat} {w : World} {v : Value} {l : List Int} (h : OwnI B w v l) : ∃ A N c, v = .slice A N c := by
  obtain ⟨A, c, e⟩ := OwnW.form h
  exact ⟨A, _, c, e⟩
theorem OwnI.lenN {B N c : Nat} {w : World} {A : Option Addr} {l : List Int} (h : OwnI B w (.slice A N c) l) : N = l.length := by
  obtain ⟨A', c', e⟩ := OwnW.form h
  simp only [Value.slice.injEq] at e
  exact e.2.1
/-- One number more. -/
theorem appI {ty : TypeId} {B N c : Nat} {w : World} {A : Option Addr} {l : List Int} (h : OwnI B w (.slice A N c) l) (x : Int) (hlen : l.length + 1 ≤ 1000000000) (hB : B ≤ w.heap.size) :
    ∃ A' N' c' w', (APs #[101, 101] ty #[.slice A N c, .slice (some ⟨w.heap.size, 0, none⟩) 1 1]).run Tryz.prog (w.alloc (.cells #[.int .i64 x] 3)) = .ok (.slice A' N' c') w' ∧ OwnI B w' (.slice A' N' c') (l ++ [x]) ∧ Below B w w' := by
  obtain ⟨v', w', h1, h2, h3, _⟩ := appW_one (ty := ty) uInts iInts (by omega) h x hlen hB
  obtain ⟨A', N', c', rfl⟩ := OwnI.formN h2
  exact ⟨A', N', c', w', h1, h2, OwnW.step h h3 hB⟩
theorem RdW.at {q : IntKind} {w : World} {A : Option Addr} {l : List Int} (h : RdW q w A l) {i : Nat} (hi : i < l.length) : ∃ g off, A = some ⟨g, off, none⟩ ∧ g < w.heap.size ∧ w.cell? ⟨g, off + i, none⟩ = some (.int q (l.getD i 0)) := by
  obtain ⟨g, off, e, hg, hc⟩ := h (by omega)
  exact ⟨g, off, e, hg, hc i _ (by simp [List.getD, hi])⟩
theorem take_getD {l : List Int} {i : Nat} (hi : i < l.length) : l.take (i + 1) = l.take i ++ [l.getD i 0] := by
  rw [List.take_succ_eq_append_getElem hi]; simp [List.getD, hi]

set_option maxHeartbeats 2000000 in
theorem rplaces_any (A : Option Addr) (N c : Nat) (l : List Int) (x : Int) (w : World) (h : RdW .i64 w A l) (hN : N = l.length) (hl : l.length ≤ 1000000) :
    Calls Tryz.prog 122 #[.slice A N c, .int .i64 x] w fun e w' => ∃ v, e = .returned v ∧ OwnI w.heap.size w' v (placesP l x) ∧ Below w.heap.size w w' := by
  rw [← hN] at hl
  have H := Lib.hid h
  have HN := Lib.hid hN
  clear h hN
  go_enter Tryz.func122, Tryz.ntmps122
  go_upto_region 3 with fail
  go_loopg [5, 6] N (fun kk v s wr => ∃ i : Nat, i + kk = N ∧ s = .int .i64 (i : Int) ∧ OwnI w.heap.size wr v (placesP (l.take i) x) ∧ Below w.heap.size w wr)
  case atStart => exact ⟨0, by omega, rfl, by rw [List.take_zero, placesP_nil]; exact OwnW.nil _ _ _ _, Below.refl _ _⟩
  case round =>
    obtain ⟨i, hi, rfl, hv, hB⟩ := hrel
    obtain ⟨Av, Nv, cv, rfl⟩ := hv.formN
    by_cases hlt : i < N
    · have hltI : (i : Int) < (N : Int) := by omega
      have hil : i < l.length := by rw [← HN.out]; exact hlt
      obtain ⟨g, off, rfl, hg, hc⟩ := (H.out.below hB).at hil
      have htk := placesP_snoc (l.take i) (l.getD i 0) x
      rw [← take_getD hil, List.length_take, Nat.min_eq_left (by omega)] at htk
      obtain ⟨y, hy⟩ : ∃ y, l.getD i 0 = y := ⟨_, rfl⟩
      rw [hy] at hc htk
      have hle := placesP_len (l.take i) x
      rw [List.length_take] at hle
      by_cases hxy : y = x
      · subst hxy
        rw [if_pos rfl] at htk
        obtain ⟨A', N', c', w', hap, ho, hB2⟩ := appI (ty := 101) hv (i : Int) (by omega) hB.size
        rw [← htk] at ho
        have HO := Lib.hid ho
        have HB2 := Lib.hid (hB.trans hB2)
        clear hv hB htk hle ho hB2 hy
        go_wp2_with fail
        go_roundg (N - (i + 1))
        case measure => omega
        case rel => exact ⟨i + 1, by omega, by go_num, HO.out, HB2.out⟩
      · rw [if_neg hxy, List.append_nil] at htk
        rw [← htk] at hv
        have HV := Lib.hid hv
        have HB := Lib.hid hB
        clear hv hB htk hle hy
        go_wp2_with fail
        go_roundg (N - (i + 1))
        case measure => omega
        case rel => exact ⟨i + 1, by omega, by go_num, HV.out, HB.out⟩
    · obtain rfl : N = i := by omega
      have hltI : ¬ (N : Int) < (N : Int) := by omega
      rw [List.take_of_length_le (by rw [HN.out]; exact Nat.le_refl _)] at hv
      have HV := Lib.hid hv
      have HB := Lib.hid hB
      clear hv hB
      go_wp2_with fail
      go_ret
      exact ⟨_, rfl, HV.out, HB.out⟩

theorem rhas_any (A : Option Addr) (N c : Nat) (l : List Int) (x : Int) (w : World) (h : RdW .i64 w A l) (hN : N = l.length) (hl : l.length ≤ 1000000) :
    Calls Tryz.prog 78 #[.slice A N c, .int .i64 x] w fun e w' => e = .returned (.bool (l.contains x)) ∧ Below w.heap.size w w' := by
  have hp := rplaces_any A N c l x w h hN hl
  have hiff : l.contains x = decide ((0 : Int) < ((placesP l x).length : Int)) := by
    rw [Bool.eq_iff_iff, List.contains_iff_mem, decide_eq_true_eq, ← placesP_pos]
    omega
  have HI := Lib.hid hiff
  clear hiff h hN hl
  go_enter Tryz.func78, Tryz.ntmps78
  go_wp2_with fail
  with_reducible refine hp.mono ?_
  rintro e w' ⟨v, rfl, hv, hB⟩
  obtain ⟨A', N', c', rfl⟩ := hv.formN
  have hN' := hv.lenN
  have HN' := Lib.hid hN'
  have HB := Lib.hid hB
  clear hv hB hN' hp
  go_wp2_with fail
  go_ret
  have e : decide ((0 : Int) < (N' : Int)) = decide (0 < N') := by rw [decide_eq_decide]; omega
  exact ⟨by rw [HI.out, ← HN'.out, e]; rfl, HB.out⟩

/-- Numbers below k of a row, rising. -/
def eachU (l : List Int) (k : Nat) : List Int := ((List.range k).map fun (n : Nat) => (n : Int)).filter fun v => l.contains v
theorem eachU_zero (l : List Int) : eachU l 0 = [] := rfl
theorem eachU_succ (l : List Int) (k : Nat) : eachU l (k + 1) = eachU l k ++ (if l.contains (k : Int) then [(k : Int)] else []) := by
  unfold eachU
  rw [List.range_succ, List.map_append, List.filter_append]
  congr 1
  by_cases h : (k : Int) ∈ l
  · simp [h]
  · simp [h]
theorem eachU_64 (l : List Int) : eachU l 64 = eachP l := rfl
theorem eachU_len (l : List Int) (k : Nat) : (eachU l k).length ≤ k := by
  unfold eachU
  exact Nat.le_trans (List.length_filter_le _ _) (by simp)

set_option maxHeartbeats 2000000 in
theorem reach_any (A : Option Addr) (N c : Nat) (l : List Int) (w : World) (h : RdW .i64 w A l) (hN : N = l.length) (hl : l.length ≤ 1000000) :
    Calls Tryz.prog 77 #[.slice A N c] w fun e w' => ∃ v, e = .returned v ∧ OwnI w.heap.size w' v (eachP l) ∧ Below w.heap.size w w' := by
  rw [← hN] at hl
  have H := Lib.hid h
  have HN := Lib.hid hN
  clear h hN
  go_enter Tryz.func77, Tryz.ntmps77
  go_upto_region 3 with fail
  go_loopg [3, 4, 5] 64 (fun kk v s _ wr => ∃ k : Nat, k + kk = 64 ∧ s = .int .i64 (k : Int) ∧ OwnI w.heap.size wr v (eachU l k) ∧ Below w.heap.size w wr)
  case atStart => exact ⟨0, by omega, rfl, by rw [eachU_zero]; exact OwnW.nil _ _ _ _, Below.refl _ _⟩
  case round =>
    obtain ⟨k, hk, rfl, hv, hB⟩ := hrel
    obtain ⟨Av, Nv, cv, rfl⟩ := hv.formN
    have hul := eachU_len l k
    by_cases hlt : k < 64
    · have hltI : (k : Int) < 64 := by omega
      have hsu := eachU_succ l k
      obtain ⟨wo, hwo⟩ : ∃ wo, wo = wr := ⟨_, rfl⟩
      subst hwo
      have HSU := Lib.hid hsu
      have HV := Lib.hid hv
      have HB := Lib.hid hB
      clear hsu hv hB
      go_upto_region 6 with fail
      go_loopg [3, 5] N (fun kk v s wr => ∃ i : Nat, i + kk = N ∧ v = .slice Av Nv cv ∧ s = .int .i64 (i : Int) ∧ (∀ j, j < i → l.getD j 0 ≠ (k : Int)) ∧ wo = wr)
      case atStart => exact ⟨0, by omega, rfl, rfl, fun j hj => by omega, rfl⟩
      case round =>
        obtain ⟨i, hi, rfl, rfl, hne, rfl⟩ := hrel
        have HNE := Lib.hid hne
        clear hne
        by_cases hli : i < N
        · have hliI : (i : Int) < (N : Int) := by omega
          have hil : i < l.length := by rw [← HN.out]; exact hli
          obtain ⟨g, off, rfl, hg, hc⟩ := (H.out.below HB.out).at hil
          obtain ⟨y, hy⟩ : ∃ y, l.getD i 0 = y := ⟨_, rfl⟩
          rw [hy] at hc
          have HY := Lib.hid hy
          clear hy
          by_cases hxy : y = (k : Int)
          · subst hxy
            have hct : l.contains (k : Int) = true := by
              rw [List.contains_iff_mem, ← HY.out]
              simp [List.getD, hil]
            have hsu := HSU.out
            rw [if_pos hct] at hsu
            obtain ⟨A', N', c', w', hap, ho, hB2⟩ := appI (ty := 101) HV.out (k : Int) (by omega) HB.out.size
            rw [← hsu] at ho
            have HO := Lib.hid ho
            have HB2 := Lib.hid (HB.out.trans hB2)
            clear hsu ho hB2 hct
            go_wp2_with fail
            go_roundg (64 - (k + 1))
            case measure => omega
            case rel => exact ⟨k + 1, by omega, by go_num, HO.out, HB2.out⟩
          · have HXY := Lib.hid hxy
            go_wp2_with fail
            go_roundg (N - (i + 1))
            case measure => omega
            case rel => exact ⟨i + 1, by omega, rfl, by go_num, fun j hj => by
              by_cases e : j = i
              · subst e; rw [HY.out]; exact HXY.out
              · exact HNE.out j (by omega), rfl⟩
        · obtain rfl : N = i := by omega
          have hliI : ¬ (N : Int) < (N : Int) := by omega
          have hcf : l.contains (k : Int) = false := by
            rw [← Bool.not_eq_true, List.contains_iff_mem]
            intro hm
            obtain ⟨j, hj, e⟩ := List.getElem_of_mem hm
            exact HNE.out j (by rw [HN.out]; exact hj) (by simpa [List.getD, hj] using e)
          have hsu := HSU.out
          rw [if_neg (by rw [hcf]; simp), List.append_nil] at hsu
          have hv := HV.out
          rw [← hsu] at hv
          have HV2 := Lib.hid hv
          clear hsu hv hcf
          go_wp2_with fail
          go_roundg (64 - (k + 1))
          case measure => omega
          case rel => exact ⟨k + 1, by omega, by go_num, HV2.out, HB.out⟩
    · obtain rfl : k = 64 := by omega
      have hltI : ¬ (((64 : Nat) : Int) < 64) := by omega
      rw [eachU_64] at hv
      have HV := Lib.hid hv
      have HB := Lib.hid hB
      clear hv hB
      go_wp2_with fail
      go_ret
      exact ⟨_, rfl, HV.out, HB.out⟩
end Go.Proofs.YtdkanehjahpehaaGreatDoor
end

section
namespace Go.Proofs.YtdkanehjahpehaaGreatDoor
open Go.RowKit Go.Shelf
set_option maxRecDepth 100000

/-- A struct of two fields. -/
theorem BDs_twoN {P : Program} {t : TypeId} {f0 f1 : Field} {n m : Nat} (hu : P.underlying t = some (.struct #[f0, f1]))
    (hz : ((P.info? t).bind (·.zero)).map (·.cells.size) = some (n + m)) (h0 : (P.info? f0.type).map (·.size) = some n) (h1 : (P.info? f1.type).map (·.size) = some m) (o0 : f0.offset = 0) (o1 : f1.offset = n)
    (w : World) (v0 v1 : Value) (hv0 : v0.cells.size = n) (hv1 : v1.cells.size = m) :
    (BDs t #[(0, v0), (1, v1)]).run P w = .ok (.agg (v0.cells ++ v1.cells)) w := by
  refine run_build w t _ _ ?_
  obtain ⟨z, hz1, hz2⟩ := Option.map_eq_some_iff.1 hz
  obtain ⟨i, hq, hz3⟩ := Option.bind_eq_some_iff.1 hz1
  obtain ⟨i0, q0, s0⟩ := Option.map_eq_some_iff.1 h0
  obtain ⟨i1, q1, s1⟩ := Option.map_eq_some_iff.1 h1
  unfold Program.built
  simp only [hq, hu, hz3, List.mapM_cons, List.mapM_nil, q0, q1, s0, s1, o0, o1, Option.map_some, Option.bind_eq_bind, Option.bind_some, Option.pure_def]
  rw [fill_one _ _ 0 0 n v0 _ (by simp) hv0 (by omega), fill_one _ _ 1 n m v1 _ (by simp) hv1 (by rw [size_splice _ _ _ (by simp [hv0]; omega)]; omega)]
  simp only [Instr.fill, Option.some.injEq]
  apply Array.ext'
  have l0 : v0.cells.toList.length = n := by simpa using hv0
  have l1 : v1.cells.toList.length = m := by simpa using hv1
  simp [splice, l0, l1, List.drop_append, hz2]
theorem bdPt_of (parts : Array (Nat × Value)) : Instr.build 75 parts = BDs 75 parts := rfl
theorem zPt : (((Tryz.prog.info? 75).bind (·.zero)).map (·.cells.size)) = some (32 + 1) := by kernel_rfl
theorem iIntS : (Tryz.prog.info? 3).map (·.size) = some 1 := by kernel_rfl
theorem bdPt {tx : List Int} (hl : tx.length = 32) (ix : Int) (w : World) : (BDs 75 #[(0, .agg (bys tx).toArray), (1, .int .i64 ix)]).run Tryz.prog w = .ok (.agg (ptL tx ix).toArray) w := by
  obtain ⟨f0, f1, hu, t0, t1, o0, o1, _, _⟩ := uPtS
  have := BDs_twoN (P := Tryz.prog) hu zPt (by rw [t0]; exact iId) (by rw [t1]; exact iIntS) o0 o1 w (.agg (bys tx).toArray) (.int .i64 ix) (by simp [Value.cells, bys_length, hl]) rfl
  rw [this]
  simp [Value.cells, ptL]
theorem zIdS : (((Tryz.prog.info? 48).bind (·.zero)).map (·.cells.size)) = some 32 := by kernel_rfl
attribute [local go_sem ↓] ldIn_of stIn_of alIn_of ldPt_of ld123 st123 al123 bdPt_of apI_of

theorem okO_of {ix n : Int} (h : okN n = true) (h0 : 0 ≤ ix) (h1 : ix ≤ 15) : okO ix n = true := by
  simp only [okN, decide_eq_true_eq] at h
  simp only [okO, decide_eq_true_eq]
  omega

/-- Are there shards of a transaction's parts? -/
def spreadB (t : TxD) (n : Int) : Bool := decide (checkP t = 0 ∧ okN n = true)

set_option maxHeartbeats 8000000 in
theorem spread_any (A1 : Option Addr) (c1 : Nat) (A2 : Option Addr) (c2 : Nat) (t : TxD) (n : Int) (hn : -9223372036854775808 ≤ n ∧ n ≤ 9223372036854775807) (w : World) (h : TxAt w A1 A2 t) (hgl : Glob w) (hl : t.ins.length ≤ 1000000) (hl2 : t.outs.length ≤ 1000000) :
    Calls Tryz.prog 69 #[.agg (txV A1 c1 A2 c2 t), .int .i64 n] w fun e w' => ∃ v u, e = .returned (.tuple #[v, u, .bool (spreadB t n)]) ∧ OwnI w.heap.size w' v (insP t n) ∧ OwnI w.heap.size w' u (outsP t n) ∧ Below w.heap.size w w' := by
  have b0 := Blk.new w 26 (txV A1 c1 A2 c2 t)
  have B0 : Below w.heap.size w (w.alloc (.cells (txV A1 c1 A2 c2 t) 26)) := (Below.refl _ w).alloc (Nat.le_refl _) _
  obtain ⟨W, hW⟩ : ∃ W, w.alloc (.cells (txV A1 c1 A2 c2 t) 26) = W := ⟨_, rfl⟩
  obtain ⟨g, hg⟩ : ∃ g, w.heap.size = g := ⟨_, rfl⟩
  rw [hW] at B0
  rw [hW, hg] at b0
  have hgW : g < W.heap.size := b0.lt
  have hT := h.below B0
  have hbox : ∀ X, Below W.heap.size W X → X.cell? ⟨g, 0, none⟩ = some (.slice A1 t.ins.length c1) ∧ X.cell? ⟨g, 1, none⟩ = some (.slice A2 t.outs.length c2) ∧ X.cell? ⟨g, 2, none⟩ = some (.int .u64 t.fee) ∧ X.cell? ⟨g, 3, none⟩ = some (.int .i64 t.exp) := fun X hX =>
    ⟨(hX.cell (p := ⟨g, 0, none⟩) hgW).trans (b0.cell 0), (hX.cell (p := ⟨g, 1, none⟩) hgW).trans (b0.cell 1), (hX.cell (p := ⟨g, 2, none⟩) hgW).trans (b0.cell 2), (hX.cell (p := ⟨g, 3, none⟩) hgW).trans (b0.cell 3)⟩
  obtain ⟨q0, q1, q2, q3⟩ := hbox W (Below.refl _ _)
  have hck := txcheck_any A1 c1 A2 c2 t W hT hl hl2
  have hid := fun X (hX : Below W.heap.size W X) => txid_any A1 c1 A2 c2 t X (hT.below hX) ((hgl.below B0).below hX) hl hl2
  have hglW := hgl.below B0
  have HW := Lib.hid hW
  have HG := Lib.hid hg
  have HB0 := Lib.hid B0
  have HBOX := Lib.hid hbox
  have HT := Lib.hid hT
  have HID := Lib.hid hid
  have HGL := Lib.hid hglW
  have HCK := Lib.hid hck
  clear hW hg B0 b0 h hbox hT hck hl hl2 hgW hid hglW hgl
  obtain ⟨R, hR⟩ : ∃ R, checkP t = R := ⟨_, rfl⟩
  rw [hR] at HCK
  have HR := Lib.hid hR
  clear hR
  by_cases hok : R = 0 ∧ okN n = true
  · obtain ⟨rfl, hokn⟩ := hok
    have hn1 : 1 ≤ n ∧ n ≤ 64 := by simpa [okN] using hokn
    have hlo : ¬ n < 1 := by omega
    have hhi : ¬ 64 < n := by omega
    have hins : insP t n = t.ins.map fun i => ofO i.tx i.ix n := by unfold insP; rw [if_pos ⟨HR.out, hokn⟩]
    have houts : outsP t n = (List.range t.outs.length).map fun k => ofO (idP t) (k : Nat) n := by unfold outsP; rw [if_pos ⟨HR.out, hokn⟩]
    have hsb : spreadB t n = true := by unfold spreadB; rw [decide_eq_true_eq]; exact ⟨HR.out, hokn⟩
    rw [hins, houts, hsb]
    clear hsb
    obtain ⟨hlong, _⟩ := checkP_ok HR.out
    obtain ⟨⟨hi1, hi2⟩, ⟨ho1, ho2⟩, _, hsec⟩ := longP_not hlong
    have hD32 : (idP t).length = 32 := idP_len t
    have hDb := idP_bd t
    obtain ⟨D, hD⟩ : ∃ D, idP t = D := ⟨_, rfl⟩
    rw [hD] at hD32 hDb HID
    rw [hD]
    clear hins houts hD
    obtain ⟨hins, houts, hbd⟩ := HT.out
    have hbi := hbd.ins
    obtain ⟨ins, outs, fee, exp⟩ := t
    simp only at hi1 hi2 ho1 ho2 hsec hins houts hbi
    obtain ⟨n1, hn1e⟩ : ∃ n, ins.length = n := ⟨_, rfl⟩
    obtain ⟨n2, hn2e⟩ : ∃ n, outs.length = n := ⟨_, rfl⟩
    obtain ⟨Z, hal, hst⟩ := alst (P := Tryz.prog) (t := 77) iIn zIn
    obtain ⟨Y, hbl, hsu⟩ := alst (P := Tryz.prog) (t := 48) iId zIdS
    unfold txV at HW HCK HID ⊢
    simp only [hn1e, hn2e] at HW HBOX HCK HID q0 q1 q2 q3 ⊢
    rw [hn1e] at hi1 hi2
    rw [hn2e] at ho1 ho2
    have HN1 := Lib.hid hn1e
    have HI := Lib.hid hins
    have HBI := Lib.hid hbi
    have HSEC := Lib.hid hsec
    have HST := Lib.hid hst
    have HSU := Lib.hid hsu
    have HDB := Lib.hid hDb
    have HOK := Lib.hid hokn
    clear hn1e hn2e hins houts hbi hsec hst hsu hlong hbd HT hDb HR hokn
    go_enter Tryz.func69, Tryz.ntmps69
    go_upto_region 1 with fail
    rw [HW.out, HG.out]
    go_wp2_with fail
    with_reducible refine HCK.out.mono ?_
    rintro e w1 ⟨rfl, hB1⟩
    have HB1 := Lib.hid hB1
    clear q0 q1 q2 q3
    obtain ⟨q0, q1, q2, q3⟩ := HBOX.out w1 hB1
    clear hB1
    go_upto_region 4 with fail
    clear q0 q1 q2 q3
    go_loopg [4, 8, 9, 10, 29] n1 (fun kk v _ _ _ s wr => ∃ i : Nat, i + kk = n1 ∧ s = .int .i64 (i : Int) ∧ OwnI W.heap.size wr v ((ins.map fun i => ofO i.tx i.ix n).take i) ∧ Below W.heap.size W wr)
    case atStart => exact ⟨0, by omega, rfl, by rw [List.take_zero]; exact OwnW.nil _ _ _ _, HB1.out⟩
    case round =>
      obtain ⟨i, hi, rfl, hv, hB⟩ := hrel
      obtain ⟨Av, Nv, cv, rfl⟩ := hv.formN
      by_cases hlt : i < n1
      · have hltI : (i : Int) < (n1 : Int) := by omega
        have hil : i < ins.length := by rw [HN1.out]; exact hlt
        obtain ⟨g', off, As, cs, rfl, hg', hat⟩ := HI.out.below hB i hil
        have hbdi := HBI.out _ (List.getElem_mem hil)
        have hIn := LDs_agg uIn iIn wr g' (off + i * 35) (inV ins[i] As cs) (inV_len hbdi _ _) hat.cell
        have hSt := HST.out wr (inV ins[i] As cs) (inV_len hbdi _ _) (inV_one _ _ _)
        have b5 := Blk.new wr 77 (inV ins[i] As cs).toArray
        have hPt := LDs_aggB uPt iPt b5 (off := 0) (ptL ins[i].tx ins[i].ix) (ptL_len hbdi.len _) (inV_pt hbdi As cs)
        have B5 := hB.alloc hB.size (.cells (inV ins[i] As cs).toArray 77)
        have hv5 : OwnI W.heap.size (wr.alloc (.cells (inV ins[i] As cs).toArray 77)) (.slice Av Nv cv) ((ins.map fun i => ofO i.tx i.ix n).take i) := OwnW.alloc hv _
        have htk : (ins.map fun i => ofO i.tx i.ix n).take (i + 1) = (ins.map fun i => ofO i.tx i.ix n).take i ++ [ofO ins[i].tx ins[i].ix n] := by
          rw [List.take_succ_eq_append_getElem (by simpa using hil)]; simp
        have htl : ((ins.map fun i => ofO i.tx i.ix n).take i).length ≤ 16 := by simp; omega
        obtain ⟨W5, hW5⟩ : ∃ W5, wr.alloc (.cells (inV ins[i] As cs).toArray 77) = W5 := ⟨_, rfl⟩
        rw [hW5] at hSt b5 hPt B5 hv5
        obtain ⟨d, hd⟩ : ∃ d, wr.heap.size = d := ⟨_, rfl⟩
        rw [hd] at hPt b5
        have hof := mof_any ins[i].tx hbdi.len hbdi.tx ins[i].ix n hbdi.ix hn W5 (HGL.out.below B5)
        obtain ⟨xs, hxs⟩ : ∃ xs, (inV ins[i] As cs).toArray = xs := ⟨_, rfl⟩
        obtain ⟨ps, hps⟩ : ∃ ps, (ptL ins[i].tx ins[i].ix).toArray = ps := ⟨_, rfl⟩
        obtain ⟨x, hx⟩ : ∃ x, ofO ins[i].tx ins[i].ix n = x := ⟨_, rfl⟩
        obtain ⟨bb, hbb⟩ : ∃ bb, okO ins[i].ix n = bb := ⟨_, rfl⟩
        rw [hxs] at hIn hSt
        rw [hps] at hPt hof
        rw [hx] at hof htk
        rw [hbb] at hof
        have HV5 := Lib.hid hv5
        have HB5 := Lib.hid B5
        have HD := Lib.hid hd
        have HTK := Lib.hid htk
        have HTL := Lib.hid htl
        clear hv hB hat hbdi b5 B5 hv5 htk htl hxs hps hx hbb hW5 hd
        go_upto_region 6 with fail
        rw [HD.out]
        go_wp2_with fail
        with_reducible refine hof.mono ?_
        rintro e w6 ⟨rfl, hB6⟩
        obtain ⟨A', N', c', w7, hap, ho, hB7⟩ := appI (ty := 101) (OwnW.keep HV5.out hB6) x (by have := HTL.out; omega) (Nat.le_trans HB5.out.size hB6.size)
        rw [← HTK.out] at ho
        have HO := Lib.hid ho
        have HB7 := Lib.hid ((HB5.out.trans (hB6.mono HB5.out.size)).trans hB7)
        clear ho hB6 hB7 hof
        go_wp2_with fail
        go_roundg (n1 - (i + 1))
        case measure => omega
        case rel => exact ⟨i + 1, by omega, by go_num, HO.out, HB7.out⟩
      · obtain rfl : n1 = i := by omega
        have hltI : ¬ (n1 : Int) < (n1 : Int) := by omega
        rw [List.take_of_length_le (by rw [List.length_map, HN1.out]; exact Nat.le_refl _)] at hv
        obtain ⟨q0, q1, q2, q3⟩ := HBOX.out wr hB
        have hidc := HID.out wr hB
        obtain ⟨wo, hwo⟩ : ∃ wo, wo = wr := ⟨_, rfl⟩
        subst hwo
        have HV := Lib.hid hv
        have HB := Lib.hid hB
        clear hv hB hal
        go_wp2_with fail
        with_reducible refine hidc.mono ?_
        rintro e w2 ⟨rfl, hB2⟩
        have hDl : (bys D).length = 32 := by rw [bys_length, hD32]
        have hSu := HSU.out w2 (bys D) hDl (bys_one _)
        have b3 := Blk.new w2 48 (bys D).toArray
        have B2W := HB.out.trans (hB2.mono HB.out.size)
        have B3 : Below w2.heap.size w2 (w2.alloc (.cells (bys D).toArray 48)) := (Below.refl _ w2).alloc (Nat.le_refl _) _
        have hv3 : OwnI W.heap.size (w2.alloc (.cells (bys D).toArray 48)) (.slice Av Nv cv) (ins.map fun i => ofO i.tx i.ix n) := OwnW.keep (OwnW.keep HV.out hB2) B3
        have B3W := B2W.trans (B3.mono B2W.size)
        obtain ⟨W3, hW3⟩ : ∃ W3, w2.alloc (.cells (bys D).toArray 48) = W3 := ⟨_, rfl⟩
        rw [hW3] at hSu b3 B3 hv3 B3W
        obtain ⟨dd, hdd⟩ : ∃ dd, w2.heap.size = dd := ⟨_, rfl⟩
        rw [hdd] at b3
        obtain ⟨q0a, q1a, q2a, q3a⟩ := HBOX.out W3 B3W
        obtain ⟨ds, hds⟩ : ∃ ds, (bys D).toArray = ds := ⟨_, rfl⟩
        rw [hds] at hSu
        have HDS := Lib.hid hds
        have HDD := Lib.hid hdd
        have HB3 := Lib.hid b3
        have HB3W := Lib.hid B3W
        have HV3 := Lib.hid hv3
        have HDL := Lib.hid hDl
        clear b3 B2W B3 hv3 B3W hB2 hidc HV HB hW3 hDl hds hdd q0 q1 q2 q3
        rw [HDS.out]
        go_upto_region 11 with fail
        rw [HDD.out]
        clear q0a q1a q2a q3a hbl
        go_loopg [5, 12, 13, 14, 50] n2 (fun kk u _ _ _ s wr => ∃ k : Nat, k + kk = n2 ∧ s = .int .i64 (k : Int) ∧ OwnI W3.heap.size wr u (((List.range n2).map fun k => ofO D (k : Nat) n).take k) ∧ Below W3.heap.size W3 wr)
        case atStart => exact ⟨0, by omega, rfl, by rw [List.take_zero]; exact OwnW.nil _ _ _ _, Below.refl _ _⟩
        case round =>
          obtain ⟨k, hk, rfl, hu, hB⟩ := hrel
          obtain ⟨Au, Nu, cu, rfl⟩ := hu.formN
          by_cases hlt2 : k < n2
          · have hltI : (k : Int) < (n2 : Int) := by omega
            have hbk := HB3.out.fr (Fr.of_below hB) (by have := HB3.out.lt; omega)
            have hld := LDs_aggB uIdA iId hbk (off := 0) (bys D) HDL.out (by simp [List.take_of_length_le, HDL.out])
            have hbd2 := bdPt hD32 (k : Int)
            have hof := mof_any D hD32 HDB.out (k : Int) n (by omega) hn wr (HGL.out.below (HB3W.out.trans (hB.mono HB3W.out.size)))
            rw [HDS.out] at hld hbd2
            have htk : ((List.range n2).map fun k => ofO D (k : Nat) n).take (k + 1) = ((List.range n2).map fun k => ofO D (k : Nat) n).take k ++ [ofO D (k : Nat) n] := by
              rw [List.take_succ_eq_append_getElem (by simpa using hlt2)]; simp
            have htl : (((List.range n2).map fun k => ofO D (k : Nat) n).take k).length ≤ 16 := by simp; omega
            obtain ⟨ps, hps⟩ : ∃ ps, (ptL D (k : Int)).toArray = ps := ⟨_, rfl⟩
            obtain ⟨x, hx⟩ : ∃ x, ofO D (k : Int) n = x := ⟨_, rfl⟩
            obtain ⟨bb, hbb⟩ : ∃ bb, okO (k : Int) n = bb := ⟨_, rfl⟩
            rw [hps] at hof hbd2
            rw [hx] at hof htk
            rw [hbb] at hof
            have HU := Lib.hid hu
            have HB := Lib.hid hB
            have HTK := Lib.hid htk
            have HTL := Lib.hid htl
            clear hu hB htk htl hps hx hbb hbk
            go_wp2_with fail
            with_reducible refine hof.mono ?_
            rintro e w6 ⟨rfl, hB6⟩
            obtain ⟨A', N', c', w7, hap, ho, hB7⟩ := appI (ty := 101) (OwnW.keep HU.out hB6) x (by have := HTL.out; omega) (Nat.le_trans HB.out.size hB6.size)
            rw [← HTK.out] at ho
            have HO := Lib.hid ho
            have HB7 := Lib.hid ((HB.out.trans (hB6.mono HB.out.size)).trans hB7)
            clear ho hB6 hB7 hof
            go_wp2_with fail
            go_roundg (n2 - (k + 1))
            case measure => omega
            case rel => exact ⟨k + 1, by omega, by go_num, HO.out, HB7.out⟩
          · obtain rfl : n2 = k := by omega
            have hltI : ¬ (n2 : Int) < (n2 : Int) := by omega
            rw [List.take_of_length_le (by simp)] at hu
            have HU := Lib.hid hu
            have HB := Lib.hid hB
            clear hu hB
            go_wp2_with fail
            go_ret3
            exact ⟨_, _, rfl, (OwnW.keep HV3.out HB.out).base HB0.out.size, HU.out.base (Nat.le_trans HB0.out.size HB3W.out.size), (HB0.out.trans (HB3W.out.mono HB0.out.size)).trans (HB.out.mono (Nat.le_trans HB0.out.size HB3W.out.size))⟩
  · have hins : insP t n = [] := by unfold insP; rw [if_neg (by rw [HR.out]; exact hok)]
    have houts : outsP t n = [] := by unfold outsP; rw [if_neg (by rw [HR.out]; exact hok)]
    have hsb : spreadB t n = false := by unfold spreadB; rw [decide_eq_false_iff_not, HR.out]; exact hok
    rw [hins, houts, hsb]
    unfold txV at HW HCK ⊢
    clear hins houts hsb
    by_cases hR0 : R = 0
    · subst hR0
      have hn' : n < 1 ∨ 64 < n := by
        have : ¬ okN n = true := fun h => hok ⟨rfl, h⟩
        simp only [okN, decide_eq_true_eq] at this
        omega
      clear hok
      by_cases hlo : n < 1
      · go_enter Tryz.func69, Tryz.ntmps69
        go_upto_region 1 with fail
        rw [HW.out, HG.out]
        go_wp2_with fail
        with_reducible refine HCK.out.mono ?_
        rintro e w1 ⟨rfl, hB1⟩
        have HB1 := Lib.hid (HB0.out.trans (hB1.mono HB0.out.size))
        clear hB1
        go_wp2_with fail
        go_ret3
        exact ⟨_, _, rfl, OwnW.nil _ _ _ _, OwnW.nil _ _ _ _, HB1.out⟩
      · have hhi : 64 < n := by omega
        go_enter Tryz.func69, Tryz.ntmps69
        go_upto_region 1 with fail
        rw [HW.out, HG.out]
        go_wp2_with fail
        with_reducible refine HCK.out.mono ?_
        rintro e w1 ⟨rfl, hB1⟩
        have HB1 := Lib.hid (HB0.out.trans (hB1.mono HB0.out.size))
        clear hB1
        go_wp2_with fail
        go_ret3
        exact ⟨_, _, rfl, OwnW.nil _ _ _ _, OwnW.nil _ _ _ _, HB1.out⟩
    · go_enter Tryz.func69, Tryz.ntmps69
      go_upto_region 1 with fail
      rw [HW.out, HG.out]
      go_wp2_with fail
      with_reducible refine HCK.out.mono ?_
      rintro e w1 ⟨rfl, hB1⟩
      have HB1 := Lib.hid (HB0.out.trans (hB1.mono HB0.out.size))
      clear hB1
      go_wp2_with fail
      go_ret3
      exact ⟨_, _, rfl, OwnW.nil _ _ _ _, OwnW.nil _ _ _ _, HB1.out⟩
end Go.Proofs.YtdkanehjahpehaaGreatDoor
end

section
namespace Go.Proofs.YtdkanehjahpehaaGreatDoor
open Go.RowKit Go.Shelf
set_option maxRecDepth 100000

theorem insP_len {t : TxD} (n : Int) : (insP t n).length ≤ 16 := by
  unfold insP
  split
  · rename_i h
    have := (longP_not (checkP_ok h.1).1).1
    rw [List.length_map]
    exact this.2
  · simp
theorem outsP_len {t : TxD} (n : Int) : (outsP t n).length ≤ 16 := by
  unfold outsP
  split
  · rename_i h
    have := (longP_not (checkP_ok h.1).1).2.1
    rw [List.length_map, List.length_range]
    exact this.2
  · simp
theorem shards64 {l : List Int} {n : Int} (h : ∀ x ∈ l, 0 ≤ x ∧ x < n ∧ n ≤ 64) : ∀ x ∈ l, 0 ≤ x ∧ x < 64 := fun x hx => by have := h x hx; omega
theorem OwnI.rd {B N c : Nat} {w : World} {A : Option Addr} {l : List Int} (h : OwnI B w (.slice A N c) l) : RdW .i64 w A l := by
  obtain ⟨A', c', e, hr, _⟩ := OwnW.rd h
  simp only [Value.slice.injEq] at e
  rw [e.1]
  exact hr

set_option maxHeartbeats 2000000 in
theorem mins_any (A1 : Option Addr) (c1 : Nat) (A2 : Option Addr) (c2 : Nat) (t : TxD) (n : Int) (hn : -9223372036854775808 ≤ n ∧ n ≤ 9223372036854775807) (w : World) (h : TxAt w A1 A2 t) (hgl : Glob w) (hl : t.ins.length ≤ 1000000) (hl2 : t.outs.length ≤ 1000000) :
    Calls Tryz.prog 31 #[.agg (txV A1 c1 A2 c2 t), .int .i64 n] w fun e w' => ∃ A c, e = .returned (.slice A (eachP (insP t n)).length c) ∧ RdW .i64 w' A (eachP (insP t n)) ∧ Below w.heap.size w w' := by
  have b0 := Blk.new w 26 (txV A1 c1 A2 c2 t)
  have B0 : Below w.heap.size w (w.alloc (.cells (txV A1 c1 A2 c2 t) 26)) := (Below.refl _ w).alloc (Nat.le_refl _) _
  obtain ⟨W, hW⟩ : ∃ W, w.alloc (.cells (txV A1 c1 A2 c2 t) 26) = W := ⟨_, rfl⟩
  obtain ⟨g, hg⟩ : ∃ g, w.heap.size = g := ⟨_, rfl⟩
  rw [hW] at B0
  rw [hW, hg] at b0
  have q0 : W.cell? ⟨g, 0, none⟩ = some (.slice A1 t.ins.length c1) := b0.cell 0
  have q1 : W.cell? ⟨g, 1, none⟩ = some (.slice A2 t.outs.length c2) := b0.cell 1
  have q2 : W.cell? ⟨g, 2, none⟩ = some (.int .u64 t.fee) := b0.cell 2
  have q3 : W.cell? ⟨g, 3, none⟩ = some (.int .i64 t.exp) := b0.cell 3
  have hsp := spread_any A1 c1 A2 c2 t n hn W (h.below B0) (hgl.below B0) hl hl2
  have HW := Lib.hid hW
  have HG := Lib.hid hg
  have HB0 := Lib.hid B0
  clear hW hg B0 b0 h hgl hl hl2
  unfold txV at HW hsp ⊢
  go_enter Tryz.func31, Tryz.ntmps31
  go_upto_region 1 with fail
  rw [HW.out, HG.out]
  go_wp2_with fail
  with_reducible refine hsp.mono ?_
  rintro e w1 ⟨v, u, rfl, hv, hu, hB1⟩
  obtain ⟨Av, Nv, cv, rfl⟩ := hv.formN
  obtain ⟨Au, Nu, cu, rfl⟩ := hu.formN
  have he := each_any W.heap.size Av Nv cv (insP t n) w1 hv (shards64 (insP_bd t n)) (by have := @insP_len t n; omega)
  have HV := Lib.hid hv
  have HB1 := Lib.hid hB1
  clear hv hu hB1 hsp
  go_wp2_with fail
  with_reducible refine he.mono ?_
  rintro e w2 ⟨A', c', rfl, hr, hf⟩
  have hB2 := HB1.out.trans (OwnW.step HV.out hf HB1.out.size)
  have HR := Lib.hid hr
  have HB2 := Lib.hid (HB0.out.trans (hB2.mono HB0.out.size))
  clear hr hf hB2 he
  obtain ⟨E, hE⟩ : ∃ E, eachP (insP t n) = E := ⟨_, rfl⟩
  rw [hE] at HR
  have HE := Lib.hid hE
  clear hE
  rw [HE.out]
  obtain ⟨m, hm⟩ : ∃ m, E.length = m := ⟨_, rfl⟩
  have HM := Lib.hid hm
  rw [hm]
  clear hm
  go_wp2_with fail
  go_ret
  exact ⟨A', c', by rw [HE.out, HM.out]; rfl, by rw [HE.out]; exact HR.out, HB2.out⟩

set_option maxHeartbeats 2000000 in
theorem mouts_any (A1 : Option Addr) (c1 : Nat) (A2 : Option Addr) (c2 : Nat) (t : TxD) (n : Int) (hn : -9223372036854775808 ≤ n ∧ n ≤ 9223372036854775807) (w : World) (h : TxAt w A1 A2 t) (hgl : Glob w) (hl : t.ins.length ≤ 1000000) (hl2 : t.outs.length ≤ 1000000) :
    Calls Tryz.prog 139 #[.agg (txV A1 c1 A2 c2 t), .int .i64 n] w fun e w' => ∃ A c, e = .returned (.slice A (eachP (outsP t n)).length c) ∧ RdW .i64 w' A (eachP (outsP t n)) ∧ Below w.heap.size w w' := by
  have b0 := Blk.new w 26 (txV A1 c1 A2 c2 t)
  have B0 : Below w.heap.size w (w.alloc (.cells (txV A1 c1 A2 c2 t) 26)) := (Below.refl _ w).alloc (Nat.le_refl _) _
  obtain ⟨W, hW⟩ : ∃ W, w.alloc (.cells (txV A1 c1 A2 c2 t) 26) = W := ⟨_, rfl⟩
  obtain ⟨g, hg⟩ : ∃ g, w.heap.size = g := ⟨_, rfl⟩
  rw [hW] at B0
  rw [hW, hg] at b0
  have q0 : W.cell? ⟨g, 0, none⟩ = some (.slice A1 t.ins.length c1) := b0.cell 0
  have q1 : W.cell? ⟨g, 1, none⟩ = some (.slice A2 t.outs.length c2) := b0.cell 1
  have q2 : W.cell? ⟨g, 2, none⟩ = some (.int .u64 t.fee) := b0.cell 2
  have q3 : W.cell? ⟨g, 3, none⟩ = some (.int .i64 t.exp) := b0.cell 3
  have hsp := spread_any A1 c1 A2 c2 t n hn W (h.below B0) (hgl.below B0) hl hl2
  have HW := Lib.hid hW
  have HG := Lib.hid hg
  have HB0 := Lib.hid B0
  clear hW hg B0 b0 h hgl hl hl2
  unfold txV at HW hsp ⊢
  go_enter Tryz.func139, Tryz.ntmps139
  go_upto_region 1 with fail
  rw [HW.out, HG.out]
  go_wp2_with fail
  with_reducible refine hsp.mono ?_
  rintro e w1 ⟨v, u, rfl, hv, hu, hB1⟩
  obtain ⟨Av, Nv, cv, rfl⟩ := hv.formN
  obtain ⟨Au, Nu, cu, rfl⟩ := hu.formN
  have he := each_any W.heap.size Au Nu cu (outsP t n) w1 hu (shards64 (outsP_bd t n)) (by have := @outsP_len t n; omega)
  have HV := Lib.hid hu
  have HB1 := Lib.hid hB1
  clear hv hu hB1 hsp
  go_wp2_with fail
  with_reducible refine he.mono ?_
  rintro e w2 ⟨A', c', rfl, hr, hf⟩
  have hB2 := HB1.out.trans (OwnW.step HV.out hf HB1.out.size)
  have HR := Lib.hid hr
  have HB2 := Lib.hid (HB0.out.trans (hB2.mono HB0.out.size))
  clear hr hf hB2 he
  obtain ⟨E, hE⟩ : ∃ E, eachP (outsP t n) = E := ⟨_, rfl⟩
  rw [hE] at HR
  have HE := Lib.hid hE
  clear hE
  rw [HE.out]
  obtain ⟨m, hm⟩ : ∃ m, E.length = m := ⟨_, rfl⟩
  have HM := Lib.hid hm
  rw [hm]
  clear hm
  go_wp2_with fail
  go_ret
  exact ⟨A', c', by rw [HE.out, HM.out]; rfl, by rw [HE.out]; exact HR.out, HB2.out⟩

end Go.Proofs.YtdkanehjahpehaaGreatDoor
end

section
namespace Go.Proofs.YtdkanehjahpehaaGreatDoor
open Go.RowKit
set_option maxRecDepth 100000
theorem iI5 : (Tryz.prog.info? 3).map (·.size) = some 1 := by kernel_rfl

/-- A row of rows of numbers. -/
structure IntsV (w : World) (A : Option Addr) (xs : List Value) (L : List (List Int)) : Prop where
  len : xs.length = L.length
  cell : 0 < xs.length → ∃ g off, A = some ⟨g, off, none⟩ ∧ g < w.heap.size ∧ ∀ j x, xs[j]? = some x → w.cell? ⟨g, off + j, none⟩ = some x
  txt : ∀ i (h : i < xs.length) (h' : i < L.length), ∃ A c, xs[i] = .slice A L[i].length c ∧ RdW .i64 w A L[i] ∧ (A = none → c = 0)
/-- An append of numbers, wherever they lie. -/
theorem appIM {ty : TypeId} {B : Nat} {w : World} {v : Value} {l m : List Int} {A : Option Addr} {c : Nat} (h : OwnI B w v l) (hm : RdW .i64 w A m) (hlen : l.length + m.length ≤ 1000000000) (hB : B ≤ w.heap.size) (hc : A = none → c = 0) :
    ∃ v' w', (APs #[101, 101] ty #[v, .slice A m.length c]).run Tryz.prog w = .ok v' w' ∧ OwnI B w' v' (l ++ m) ∧ Fr (fun k => v.ownBlock = some k) w w' ∧ Foot w v v' := by
  cases A with
  | none =>
    have e : m = [] := by
      cases m with
      | nil => rfl
      | cons x r =>
        obtain ⟨g, o, e, _⟩ := hm (by simp)
        cases e
    subst e
    obtain rfl := hc rfl
    obtain ⟨i, hi⟩ := Option.map_eq_some_iff.1 iI5
    refine ⟨v, w, run_append_owned_none w B 101 ty 3 i 1 uInts hi.1 v l.length (wds .i64 l) h, by simpa using h, Fr.refl _ _, Foot.refl _ _⟩
  | some a =>
    refine appW (ty := ty) uInts iInts (by omega) h (fun j x hx => ?_) hlen hB
    have hj : j < m.length := (List.getElem?_eq_some_iff.1 hx).1
    obtain ⟨g, o, e, _, hcell⟩ := hm (by omega)
    cases e
    have hadd : (⟨g, o, none⟩ : Addr).add j = ⟨g, o + j, none⟩ := by unfold Addr.add; split <;> simp_all
    rw [hadd]
    exact hcell j x hx

theorem slcI (x : Value) (lo hi mx : Option Value) : Instr.sliceAt 101 x lo hi mx = SLs 101 x lo hi mx := rfl
theorem apIZ_of (xs : Array Value) (t : TypeId) : Builtin.append_ #[101, 3] t xs = APs #[101, 3] t xs := rfl
attribute [local go_sem ↓] apI_of apIZ_of slcI

theorem izI : (Tryz.prog.info? 3).map (fun i => (i.zero, i.size, i.bytes)) = some (some (.int .i64 0), 1, 8) := by kernel_rfl

/-- A row of one's own, cut to nothing. -/
theorem OwnI.none_ {B g cap : Nat} {w : World} {cur : Array Value} (hB : B ≤ g) (hb : Blk w g 3 cur) (hs : cur.size = cap) (hm : cap ≤ maxLen) : OwnI B w (.slice (some ⟨g, 0, none⟩) 0 cap) [] :=
  ⟨rfl, .inr ⟨g, cap, cur, rfl, hB, hb, Nat.zero_le _, hm, by omega, by simp [wds]⟩⟩

theorem SLsI_head {w : World} {g n cap : Nat} (hn : 0 < cap) (h : Int) (e : h = 0) : (SLs 101 (.slice (some ⟨g, 0, none⟩) n cap) none (some (.int .i64 h)) none).run Tryz.prog w = .ok (.slice (some ⟨g, 0, none⟩) 0 cap) w := by
  subst e
  obtain ⟨i, hq, hi⟩ := Option.map_eq_some_iff.1 iI5
  have hne : ¬ cap = 0 := by omega
  simp [SLs, Instr.sliceAt, Instr.slice, Instr.sliceBounds, Instr.sliceBound, asIntOf, run_underlying uInts, sizeOf, typeInfo, hq, Addr.add]
theorem SLsI_nil {w : World} (h : Int) (e : h = 0) : (SLs 101 (.slice none 0 0) none (some (.int .i64 h)) none).run Tryz.prog w = .ok (.slice none 0 0) w := by
  subst e
  obtain ⟨i, hq, hi⟩ := Option.map_eq_some_iff.1 iI5
  simp [SLs, Instr.sliceAt, Instr.slice, Instr.sliceBounds, Instr.sliceBound, asIntOf, run_underlying uInts, sizeOf, typeInfo, hq]

set_option maxHeartbeats 2000000 in
theorem growI_nil (n : Nat) (hn : n ≤ 1000000) (w : World) :
    Calls Tryz.prog 115 #[.slice none 0 0, .int .i64 (n : Int)] w fun e w' => ∃ v, e = .returned v ∧ OwnI w.heap.size w' v [] ∧ Below w.heap.size w w' := by
  by_cases h0 : n = 0
  · subst h0
    go_enter Tryz.func115, Tryz.ntmps115
    go_wp2
    go_ret
    exact ⟨_, rfl, OwnW.nil _ _ _ _, Below.refl _ _⟩
  · obtain ⟨i0, hi, hh⟩ := Option.map_eq_some_iff.1 izI
    simp only [Prod.mk.injEq] at hh
    obtain ⟨hz0, hz1, hz2⟩ := hh
    have happ0 := Lib.run_append_nil_zeros (P := Tryz.prog) w 101 3 101 3 i0 (.int .i64 0) .i64 .i64 uInts uI64 hi hz0 n (by omega) (by omega) (by omega) (by rw [hz2]; omega)
    have happ : (APs #[101, 3] 101 #[.slice none 0 0, .int .i64 (n : Int)]).run Tryz.prog w = _ := happ0
    clear happ0
    have hge := grownCap_ge w n 0 3
    have hle := grownCap_le_maxLen w n 0 3 (by unfold maxLen; omega)
    obtain ⟨cap, hcap⟩ : ∃ cap, grownCap w n 0 3 = cap := ⟨_, rfl⟩
    rw [hcap] at happ hge hle
    obtain ⟨Z, hZ⟩ : ∃ Z, Builtin.zeroCells (Value.int .i64 0).cells n ++ Builtin.zeroCells (Value.int .i64 0).cells (cap - n) = Z := ⟨_, rfl⟩
    rw [hZ] at happ
    have hZs : Z.size = cap := by rw [← hZ]; simp [size_zeroCells, Value.cells]; omega
    clear hcap hZ hi hz0 hz1 hz2 i0
    have hsl : ∀ W : World, (SLs 101 (.slice (some ⟨w.heap.size, 0, none⟩) n cap) none (some (.int .i64 0)) none).run Tryz.prog W = .ok (.slice (some ⟨w.heap.size, 0, none⟩) 0 cap) W := fun W => SLsI_head (by omega) 0 rfl
    have hsl0 : ∀ W : World, (SLs 101 (.slice none 0 0) none (some (.int .i64 0)) none).run Tryz.prog W = .ok (.slice none 0 0) W := fun W => SLsI_nil 0 rfl
    have hpos : (0 : Int) < (n : Int) := by omega
    go_enter Tryz.func115, Tryz.ntmps115
    go_wp2
    first
      | (go_ret
         refine ⟨_, rfl, OwnI.none_ (Nat.le_refl _) ((Blk.new w _ Z).drew) hZs hle, ((Below.refl _ w).alloc (Nat.le_refl _) _).drew⟩)

set_option maxHeartbeats 4000000 in
theorem concatI_any (A : Option Addr) (c : Nat) (xs : List Value) (L : List (List Int)) (w : World) (h : IntsV w A xs L) (hL : L.length ≤ 1000) (hlen : L.flatten.length ≤ 900000) :
    Calls Tryz.prog 71 #[.slice A L.length c] w fun e w' => ∃ v, e = .returned v ∧ OwnI w.heap.size w' v L.flatten ∧ Below w.heap.size w w' := by
  have H := Lib.hid h
  have HL := Lib.hid hlen
  clear h hlen
  have hpre : ∀ i, i < L.length → (L.take i).flatten.length + (L.getD i []).length = (L.take (i + 1)).flatten.length := fun i hi => by
    rw [List.take_succ_eq_append_getElem hi, List.flatten_append, List.flatten_singleton, List.length_append]
    have e : L.getD i [] = L[i] := by simp [List.getD, hi]
    rw [e]
  have hbd : ∀ i, (L.take i).flatten.length ≤ 900000 := fun i => by
    have := HL.out
    have e : L.flatten = (L.take i).flatten ++ (L.drop i).flatten := by rw [← List.flatten_append, List.take_append_drop]
    rw [e, List.length_append] at this
    omega
  have HP := Lib.hid hpre
  have HB := Lib.hid hbd
  clear hpre hbd
  go_enter Tryz.func71, Tryz.ntmps71
  go_wp2
  go_loopw [3, 11] (fun s t wr => ∃ i : Nat, i ≤ L.length ∧ s = .int .i64 ((L.take i).flatten.length : Nat) ∧ t = .int .i64 i ∧ wr = w)
    (fun _ t _ => L.length - (intOf t).toNat)
  case atStart => exact ⟨0, Nat.zero_le _, by simp, rfl, rfl⟩
  case round =>
    obtain ⟨i, hi, rfl, rfl, rfl⟩ := hrel
    by_cases hlt : i < L.length
    · obtain ⟨g, off, rfl, hg, hc⟩ := H.out.cell (by rw [H.out.len]; omega)
      have hx : i < xs.length := by rw [H.out.len]; exact hlt
      have hcx := hc i xs[i] (by simp [hx])
      obtain ⟨Ai, ci, hxi, hby, hn⟩ := H.out.txt i hx hlt
      rw [hxi] at hcx
      have e1 := HP.out i hlt
      have e2 := HB.out (i + 1)
      have e3 : L.getD i [] = L[i] := by simp [List.getD, hlt]
      rw [e3] at e1
      obtain ⟨s, hs⟩ : ∃ s, (L.take i).flatten.length = s := ⟨_, rfl⟩
      obtain ⟨m, hm⟩ : ∃ m, L[i].length = m := ⟨_, rfl⟩
      rw [hs, hm] at e1
      rw [hm] at hcx
      rw [hs]
      have b1 : (s : Int) + (m : Int) ≤ 900000 := by omega
      have E1 := Lib.hid e1
      clear hxi hby hn hc e3 hs hm hx e1 e2
      go_wp2
      go_roundw
      case rel => exact ⟨i + 1, by omega, by rw [← E1.out]; go_num, by go_num, by first | rfl | trivial⟩
      case measure => simp [intOf]; omega
    · obtain rfl : i = L.length := by omega
      have e2 := HB.out L.length
      obtain ⟨s, hs⟩ : ∃ s, (L.take L.length).flatten.length = s := ⟨_, rfl⟩
      rw [hs] at e2 ⊢
      clear hs
      go_wp2_with fail
      refine (growI_nil s (by omega) wr).mono ?_
      rintro e w1 ⟨v, rfl, ho, hb1⟩
      go_wp2_with fail
      go_loopw [6, 27] (fun v t wx => ∃ i : Nat, i ≤ L.length ∧ t = .int .i64 i ∧ OwnI wr.heap.size wx v (L.take i).flatten ∧ Below wr.heap.size wr wx)
        (fun _ t _ => L.length - (intOf t).toNat)
      case atStart => exact ⟨0, Nat.zero_le _, rfl, by simpa using ho, hb1⟩
      case round =>
        clear ho hb1 e2
        obtain ⟨i, hi, rfl, ho, hb⟩ := hrel
        by_cases hlt : i < L.length
        · obtain ⟨g, off, rfl, hg, hc⟩ := H.out.cell (by rw [H.out.len]; omega)
          have hx : i < xs.length := by rw [H.out.len]; exact hlt
          obtain ⟨Ai, ci, hxi, hby, hn⟩ := H.out.txt i hx hlt
          have hcx := hc i xs[i] (by simp [hx])
          rw [hxi] at hcx
          have hcx' := (hb.cell (p := ⟨g, off + i, none⟩) hg).trans hcx
          have e1 := HP.out i hlt
          have e2 := HB.out (i + 1)
          have e3 : L.getD i [] = L[i] := by simp [List.getD, hlt]
          rw [e3] at e1
          have e4 : (L.take (i + 1)).flatten = (L.take i).flatten ++ L[i] := by rw [List.take_succ_eq_append_getElem hlt, List.flatten_append, List.flatten_singleton]
          obtain ⟨m, hm⟩ : ∃ m, L[i] = m := ⟨_, rfl⟩
          rw [hm] at hcx' hby e1 e4
          obtain ⟨l, hl⟩ : ∃ l, (L.take i).flatten = l := ⟨_, rfl⟩
          rw [hl] at ho e1 e4
          obtain ⟨A2, c2, rfl⟩ := OwnW.form ho
          obtain ⟨v', w', hap, ho', hf', _⟩ := appIM (ty := 101) ho (hby.below hb) (by omega) hb.size hn
          obtain ⟨A3, c3, rfl⟩ := OwnW.form ho'
          rw [List.length_append] at ho' hap
          have E4 := Lib.hid e4
          have HO := Lib.hid ho'
          have HF := Lib.hid hf'
          have HBw := Lib.hid hb
          have HO0 := Lib.hid ho
          clear hxi hby hn hc hcx e3 hm hl hx e1 e2 e4 ho ho' hf' hb
          go_wp2_with fail
          go_roundw
          case rel =>
            refine ⟨i + 1, by omega, by go_num, by rw [E4.out]; exact HO.out, HBw.out.trans (HF.out.below HBw.out.size (fun k hk e => ?_))⟩
            have := (OwnW.lt HO0.out e).1
            omega
          case measure => simp [intOf]; omega
        · obtain rfl : i = L.length := by omega
          have HO := Lib.hid ho
          clear ho
          go_wp2_with fail
          go_ret
          refine ⟨_, rfl, ?_, hb⟩
          have := HO.out
          rw [List.take_length] at this
          exact this
end Go.Proofs.YtdkanehjahpehaaGreatDoor
end

section
namespace Go.Proofs.YtdkanehjahpehaaGreatDoor
open Go.RowKit Go.Shelf
set_option maxRecDepth 100000

/-- All shards of a transaction. -/
def allP (t : TxD) (n : Int) : List Int := eachP (insP t n ++ outsP t n)
/-- The one shard that has all. -/
def singleP (t : TxD) (n : Int) : Int × Bool := if (allP t n).length = 1 then ((allP t n).getD 0 0, true) else (0, false)

set_option maxHeartbeats 4000000 in
theorem msingle_any (A1 : Option Addr) (c1 : Nat) (A2 : Option Addr) (c2 : Nat) (t : TxD) (n : Int) (hn : -9223372036854775808 ≤ n ∧ n ≤ 9223372036854775807) (w : World) (h : TxAt w A1 A2 t) (hgl : Glob w) (hl : t.ins.length ≤ 1000000) (hl2 : t.outs.length ≤ 1000000) :
    Calls Tryz.prog 29 #[.agg (txV A1 c1 A2 c2 t), .int .i64 n] w fun e w' => e = .returned (.tuple #[.int .i64 (singleP t n).1, .bool (singleP t n).2]) ∧ Below w.heap.size w w' := by
  have b0 := Blk.new w 26 (txV A1 c1 A2 c2 t)
  have B0 : Below w.heap.size w (w.alloc (.cells (txV A1 c1 A2 c2 t) 26)) := (Below.refl _ w).alloc (Nat.le_refl _) _
  obtain ⟨W, hW⟩ : ∃ W, w.alloc (.cells (txV A1 c1 A2 c2 t) 26) = W := ⟨_, rfl⟩
  obtain ⟨g, hg⟩ : ∃ g, w.heap.size = g := ⟨_, rfl⟩
  rw [hW] at B0
  rw [hW, hg] at b0
  have q0 : W.cell? ⟨g, 0, none⟩ = some (.slice A1 t.ins.length c1) := b0.cell 0
  have q1 : W.cell? ⟨g, 1, none⟩ = some (.slice A2 t.outs.length c2) := b0.cell 1
  have q2 : W.cell? ⟨g, 2, none⟩ = some (.int .u64 t.fee) := b0.cell 2
  have q3 : W.cell? ⟨g, 3, none⟩ = some (.int .i64 t.exp) := b0.cell 3
  have hsp := spread_any A1 c1 A2 c2 t n hn W (h.below B0) (hgl.below B0) hl hl2
  have HW := Lib.hid hW
  have HG := Lib.hid hg
  have HB0 := Lib.hid B0
  clear hW hg B0 b0 h hgl hl hl2
  unfold txV at HW hsp ⊢
  go_enter Tryz.func29, Tryz.ntmps29
  go_upto_region 1 with fail
  rw [HW.out, HG.out]
  go_wp2_with fail
  with_reducible refine hsp.mono ?_
  rintro e w1 ⟨v, u, rfl, hv, hu, hB1⟩
  obtain ⟨Av, Nv, cv, rfl⟩ := hv.formN
  obtain ⟨Au, Nu, cu, rfl⟩ := hu.formN
  have hl1 := @insP_len t n
  have hl2 := @outsP_len t n
  have hN1 := hv.lenN
  have hN2 := hu.lenN
  have hrv := hv.rd
  have hru := hu.rd
  have hz1 : Av = none → cv = 0 := fun e => by
    subst e
    obtain ⟨_, ⟨e, _⟩ | ⟨g, cap, cur, e, _⟩⟩ := hv
    · simp only [Value.slice.injEq] at e
      exact e.2.2
    · simp at e
  have hz2 : Au = none → cu = 0 := fun e => by
    subst e
    obtain ⟨_, ⟨e, _⟩ | ⟨g, cap, cur, e, _⟩⟩ := hu
    · simp only [Value.slice.injEq] at e
      exact e.2.2
    · simp at e
  have bw := Blk.new w1 101 #[.slice Av Nv cv, .slice Au Nu cu]
  have B2 : Below w1.heap.size w1 (w1.alloc (.cells #[.slice Av Nv cv, .slice Au Nu cu] 101)) := (Below.refl _ w1).alloc (Nat.le_refl _) _
  have hrv2 := hrv.below B2
  have hru2 := hru.below B2
  have B2W := hB1.trans (B2.mono hB1.size)
  obtain ⟨w2, hw2⟩ : ∃ w2, w1.alloc (.cells #[.slice Av Nv cv, .slice Au Nu cu] 101) = w2 := ⟨_, rfl⟩
  rw [hw2] at bw hrv2 hru2 B2W
  have hlf : ([insP t n, outsP t n] : List (List Int)).flatten = insP t n ++ outsP t n := by simp
  have hcc := concatI_any (some ⟨w1.heap.size, 0, none⟩) 2 [.slice Av Nv cv, .slice Au Nu cu] [insP t n, outsP t n] w2 ⟨rfl, fun _ => ⟨w1.heap.size, 0, rfl, bw.lt, fun j x hx => by rw [Nat.zero_add, bw.cell j]; simpa using hx⟩, fun i hi hi' => by
    match i, hi with
    | 0, _ => exact ⟨Av, cv, by simp [hN1], hrv2, hz1⟩
    | 1, _ => exact ⟨Au, cu, by simp [hN2], hru2, hz2⟩⟩ (by simp) (by rw [hlf, List.length_append]; omega)
  rw [hlf, show ([insP t n, outsP t n] : List (List Int)).length = 2 from rfl] at hcc
  have hb64 : ∀ x ∈ insP t n ++ outsP t n, 0 ≤ x ∧ x < 64 := fun x hx => (List.mem_append.1 hx).elim (shards64 (insP_bd t n) x) (shards64 (outsP_bd t n) x)
  have hll : (insP t n ++ outsP t n).length ≤ 1000000 := by rw [List.length_append]; omega
  have HW2 := Lib.hid hw2
  have HB2 := Lib.hid B2W
  have H64 := Lib.hid hb64
  have HLL := Lib.hid hll
  clear hv hu hB1 hsp hl1 hl2 hN1 hN2 hrv hru hz1 hz2 bw B2 hrv2 hru2 B2W hw2 hlf hb64 hll
  obtain ⟨L, hL⟩ : ∃ L, insP t n ++ outsP t n = L := ⟨_, rfl⟩
  rw [hL] at hcc H64 HLL
  have hsg : singleP t n = if (eachP L).length = 1 then ((eachP L).getD 0 0, true) else (0, false) := by unfold singleP allP; rw [hL]
  have HSG := Lib.hid hsg
  clear hL hsg
  go_wp2_with fail
  rw [HW2.out]
  with_reducible refine hcc.mono ?_
  rintro e w3 ⟨v3, rfl, hv3, hB3⟩
  obtain ⟨A3, N3, c3, rfl⟩ := hv3.formN
  have he := each_any w2.heap.size A3 N3 c3 L w3 hv3 H64.out HLL.out
  have HV3 := Lib.hid hv3
  have HB3 := Lib.hid (HB2.out.trans (hB3.mono HB2.out.size))
  have hs23 := hB3.size
  clear hv3 hB3 hcc
  go_wp2_with fail
  with_reducible refine he.mono ?_
  rintro e w4 ⟨A4, c4, rfl, hr, hf⟩
  have hB4 := HB3.out.trans ((OwnW.step HV3.out hf hs23).mono HB2.out.size)
  have HB4 := Lib.hid (HB0.out.trans (hB4.mono HB0.out.size))
  obtain ⟨E, hE⟩ : ∃ E, eachP L = E := ⟨_, rfl⟩
  rw [hE] at hr HSG ⊢
  obtain ⟨m, hm⟩ : ∃ m, E.length = m := ⟨_, rfl⟩
  have hsg := HSG.out
  rw [hm] at hsg
  by_cases h1 : m = 1
  · subst h1
    obtain ⟨g4, o4, rfl, hg4, hc4⟩ := hr.at (i := 0) (by omega)
    rw [if_pos rfl] at hsg
    rw [Nat.add_zero] at hc4
    obtain ⟨x, hx⟩ : ∃ x, E.getD 0 0 = x := ⟨_, rfl⟩
    rw [hx] at hc4 hsg
    have HSG2 := Lib.hid hsg
    clear hr hf hB4 hE hsg HSG hx he
    have hmb : ((1 : Int) != 1) = false := rfl
    have hlt1 : ((0 : Int) < 1) := by omega
    rw [hm]
    clear hm
    go_wp2_with fail
    go_ret2
    exact ⟨by rw [HSG2.out]; rfl, HB4.out⟩
  · rw [if_neg h1] at hsg
    have HSG2 := Lib.hid hsg
    have hmb : ((m : Int) != 1) = true := by simp; omega
    clear hr hf hB4 hE hsg HSG he
    rw [hm]
    clear hm
    go_wp2_with fail
    go_ret2
    exact ⟨by rw [HSG2.out]; rfl, HB4.out⟩
end Go.Proofs.YtdkanehjahpehaaGreatDoor
end
