/-
  slices.Grow of nothing; slices.Concat of bytes.
-/
import Derived.Test.YtohadeijmmmcdaaDoorTxt
import Derived.Lib.AppendZeros
namespace Go.Proofs.YtohadeijmmmcdaaDoor
open Go.RowKit
set_option maxRecDepth 100000
theorem slc22 (x : Value) (lo hi mx : Option Value) : Instr.sliceAt 22 x lo hi mx = SLs 22 x lo hi mx := rfl
attribute [local go_sem ↓] APs_of slc22

theorem izb5 : (Tryd.prog.info? 5).map (fun i => (i.zero, i.size, i.bytes)) = some (some (.int .u8 0), 1, 1) := by kernel_rfl
theorem uI3 : Tryd.prog.underlying 3 = some (.int .i64) := by kernel_rfl

/-- A row of one's own, cut to nothing. -/
theorem Own8.none_ {B g cap : Nat} {w : World} {cur : Array Value} (hB : B ≤ g) (hb : Blk w g 5 cur) (hs : cur.size = cap) (hm : cap ≤ maxLen) : Own8 B w (.slice (some ⟨g, 0, none⟩) 0 cap) [] :=
  ⟨rfl, .inr ⟨g, cap, cur, rfl, hB, hb, Nat.zero_le _, hm, by omega, by simp [bys]⟩⟩

theorem SLs_head {w : World} {g n cap : Nat} (hn : 0 < cap) (h : Int) (e : h = 0) : (SLs 22 (.slice (some ⟨g, 0, none⟩) n cap) none (some (.int .i64 h)) none).run Tryd.prog w = .ok (.slice (some ⟨g, 0, none⟩) 0 cap) w := by
  subst e
  obtain ⟨i, hq, hi⟩ := Option.map_eq_some_iff.1 i5
  have hne : ¬ cap = 0 := by omega
  simp [SLs, Instr.sliceAt, Instr.slice, Instr.sliceBounds, Instr.sliceBound, asIntOf, run_underlying u22, sizeOf, typeInfo, hq, Addr.add]
theorem SLs_nil {w : World} (h : Int) (e : h = 0) : (SLs 22 (.slice none 0 0) none (some (.int .i64 h)) none).run Tryd.prog w = .ok (.slice none 0 0) w := by
  subst e
  obtain ⟨i, hq, hi⟩ := Option.map_eq_some_iff.1 i5
  simp [SLs, Instr.sliceAt, Instr.slice, Instr.sliceBounds, Instr.sliceBound, asIntOf, run_underlying u22, sizeOf, typeInfo, hq]

set_option maxHeartbeats 2000000 in
theorem grow_nil (n : Nat) (hn : n ≤ 1000000000) (w : World) :
    Calls Tryd.prog 81 #[.slice none 0 0, .int .i64 (n : Int)] w fun e w' => ∃ v, e = .returned v ∧ Own8 w.heap.size w' v [] ∧ Below w.heap.size w w' := by
  by_cases h0 : n = 0
  · subst h0
    go_enter Tryd.func81, Tryd.ntmps81
    go_wp2
    go_ret
    exact ⟨_, rfl, Own8.nil _ _, Below.refl _ _⟩
  · obtain ⟨i0, hi, hh⟩ := Option.map_eq_some_iff.1 izb5
    simp only [Prod.mk.injEq] at hh
    obtain ⟨hz0, hz1, hz2⟩ := hh
    have happ0 := Lib.run_append_nil_zeros (P := Tryd.prog) w 22 3 22 5 i0 (.int .u8 0) .i64 .i64 u22 uI3 hi hz0 n (by omega) (by omega) (by omega) (by rw [hz2]; omega)
    have happ : (APs #[22, 3] 22 #[.slice none 0 0, .int .i64 (n : Int)]).run Tryd.prog w = _ := happ0
    clear happ0
    have hge := grownCap_ge w n 0 5
    have hle := grownCap_le_maxLen w n 0 5 (by unfold maxLen; omega)
    obtain ⟨cap, hcap⟩ : ∃ cap, grownCap w n 0 5 = cap := ⟨_, rfl⟩
    rw [hcap] at happ hge hle
    obtain ⟨Z, hZ⟩ : ∃ Z, Builtin.zeroCells (Value.int .u8 0).cells n ++ Builtin.zeroCells (Value.int .u8 0).cells (cap - n) = Z := ⟨_, rfl⟩
    rw [hZ] at happ
    have hZs : Z.size = cap := by rw [← hZ]; simp [size_zeroCells, Value.cells]; omega
    clear hcap hZ hi hz0 hz1 hz2 i0
    have hsl : ∀ W : World, (SLs 22 (.slice (some ⟨w.heap.size, 0, none⟩) n cap) none (some (.int .i64 0)) none).run Tryd.prog W = .ok (.slice (some ⟨w.heap.size, 0, none⟩) 0 cap) W := fun W => SLs_head (by omega) 0 rfl
    have hsl0 : ∀ W : World, (SLs 22 (.slice none 0 0) none (some (.int .i64 0)) none).run Tryd.prog W = .ok (.slice none 0 0) W := fun W => SLs_nil 0 rfl
    have hpos : (0 : Int) < (n : Int) := by omega
    go_enter Tryd.func81, Tryd.ntmps81
    go_wp2
    first
      | (go_ret
         refine ⟨_, rfl, Own8.none_ (Nat.le_refl _) ((Blk.new w _ Z).drew) hZs hle, ((Below.refl _ w).alloc (Nat.le_refl _) _).drew⟩)

set_option maxHeartbeats 4000000 in
theorem concat_any (A : Option Addr) (c : Nat) (xs : List Value) (L : List (List Int)) (w : World) (h : TxsV w A xs L) (hL : L.length ≤ 1000000) (hlen : L.flatten.length ≤ 500000000) :
    Calls Tryd.prog 56 #[.slice A L.length c] w fun e w' => ∃ v, e = .returned v ∧ Own8 w.heap.size w' v L.flatten ∧ Below w.heap.size w w' := by
  have H := Lib.hid h
  have HL := Lib.hid hlen
  clear h hlen
  have hpre : ∀ i, i < L.length → (L.take i).flatten.length + (L.getD i []).length = (L.take (i + 1)).flatten.length := fun i hi => by
    rw [List.take_succ_eq_append_getElem hi, List.flatten_append, List.flatten_singleton, List.length_append]
    have e : L.getD i [] = L[i] := by simp [List.getD, hi]
    rw [e]
  have hbd : ∀ i, (L.take i).flatten.length ≤ 500000000 := fun i => by
    have := HL.out
    have e : L.flatten = (L.take i).flatten ++ (L.drop i).flatten := by rw [← List.flatten_append, List.take_append_drop]
    rw [e, List.length_append] at this
    omega
  have HP := Lib.hid hpre
  have HB := Lib.hid hbd
  clear hpre hbd
  go_enter Tryd.func56, Tryd.ntmps56
  go_wp2
  go_loopw [3, 11] (fun s t wr => ∃ i : Nat, i ≤ L.length ∧ s = .int .i64 ((L.take i).flatten.length : Nat) ∧ t = .int .i64 i ∧ wr = w)
    (fun _ t _ => L.length - (intOf t).toNat)
  case atStart => exact ⟨0, Nat.zero_le _, by simp, rfl, rfl⟩
  case round =>
    obtain ⟨i, hi, rfl, rfl, rfl⟩ := hrel
    by_cases hlt : i < L.length
    · obtain ⟨g, off, rfl, hg, hc⟩ := H.out.cell (by rw [H.out.len]; omega)
      have hx : i < xs.length := by rw [H.out.len]; exact hlt
      have hcx := hc i xs[i] (by simp [hx])
      obtain ⟨Ai, ci, hxi, hby, hn⟩ := H.out.txt i hx hlt
      rw [hxi] at hcx
      have e1 := HP.out i hlt
      have e2 := HB.out (i + 1)
      have e3 : L.getD i [] = L[i] := by simp [List.getD, hlt]
      rw [e3] at e1
      obtain ⟨s, hs⟩ : ∃ s, (L.take i).flatten.length = s := ⟨_, rfl⟩
      obtain ⟨m, hm⟩ : ∃ m, L[i].length = m := ⟨_, rfl⟩
      rw [hs, hm] at e1
      rw [hm] at hcx
      rw [hs]
      have b1 : (s : Int) + (m : Int) ≤ 500000000 := by omega
      have E1 := Lib.hid e1
      clear hxi hby hn hc e3 hs hm hx e1 e2
      go_wp2
      go_roundw
      case rel => exact ⟨i + 1, by omega, by rw [← E1.out]; go_num, by go_num, by first | rfl | trivial⟩
      case measure => simp [intOf]; omega
    · obtain rfl : i = L.length := by omega
      have e2 := HB.out L.length
      obtain ⟨s, hs⟩ : ∃ s, (L.take L.length).flatten.length = s := ⟨_, rfl⟩
      rw [hs] at e2 ⊢
      clear hs
      go_wp2_with fail
      refine (grow_nil s (by omega) wr).mono ?_
      rintro e w1 ⟨v, rfl, ho, hb1⟩
      go_wp2_with fail
      go_loopw [6, 27] (fun v t wx => ∃ i : Nat, i ≤ L.length ∧ t = .int .i64 i ∧ Own8 wr.heap.size wx v (L.take i).flatten ∧ Below wr.heap.size wr wx)
        (fun _ t _ => L.length - (intOf t).toNat)
      case atStart => exact ⟨0, Nat.zero_le _, rfl, by simpa using ho, hb1⟩
      case round =>
        clear ho hb1 e2
        obtain ⟨i, hi, rfl, ho, hb⟩ := hrel
        by_cases hlt : i < L.length
        · obtain ⟨g, off, rfl, hg, hc⟩ := H.out.cell (by rw [H.out.len]; omega)
          have hx : i < xs.length := by rw [H.out.len]; exact hlt
          obtain ⟨Ai, ci, hxi, hby, hn⟩ := H.out.txt i hx hlt
          have hcx := hc i xs[i] (by simp [hx])
          rw [hxi] at hcx
          have hcx' := (hb.cell (p := ⟨g, off + i, none⟩) hg).trans hcx
          have e1 := HP.out i hlt
          have e2 := HB.out (i + 1)
          have e3 : L.getD i [] = L[i] := by simp [List.getD, hlt]
          rw [e3] at e1
          have e4 : (L.take (i + 1)).flatten = (L.take i).flatten ++ L[i] := by rw [List.take_succ_eq_append_getElem hlt, List.flatten_append, List.flatten_singleton]
          obtain ⟨m, hm⟩ : ∃ m, L[i] = m := ⟨_, rfl⟩
          rw [hm] at hcx' hby e1 e4
          obtain ⟨l, hl⟩ : ∃ l, (L.take i).flatten = l := ⟨_, rfl⟩
          rw [hl] at ho e1 e4
          obtain ⟨A2, c2, rfl⟩ := ho.form
          obtain ⟨v', w', hap, ho', hf', _⟩ := app8 (ty := 22) ho (hby.below hb) (by omega) hb.size hn
          obtain ⟨A3, c3, rfl⟩ := ho'.form
          rw [List.length_append] at ho' hap
          have E4 := Lib.hid e4
          have HO := Lib.hid ho'
          have HF := Lib.hid hf'
          have HBw := Lib.hid hb
          have HO0 := Lib.hid ho
          clear hxi hby hn hc hcx e3 hm hl hx e1 e2 e4 ho ho' hf' hb
          go_wp2_with fail
          go_roundw
          case rel =>
            refine ⟨i + 1, by omega, by go_num, by rw [E4.out]; exact HO.out, HBw.out.trans (HF.out.below HBw.out.size (fun k hk e => ?_))⟩
            have := (HO0.out.lt e).1
            omega
          case measure => simp [intOf]; omega
        · obtain rfl : i = L.length := by omega
          have HO := Lib.hid ho
          clear ho
          go_wp2_with fail
          go_ret
          refine ⟨_, rfl, ?_, hb⟩
          have := HO.out
          rw [List.take_length] at this
          exact this

end Go.Proofs.YtohadeijmmmcdaaDoor
