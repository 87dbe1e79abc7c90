/-
  slices.Grow of nothing; slices.Concat of bytes.
  slices.Clone of bytes.
  append(b, make([]byte, k)...).
  sums.is, sums.Add, sums.All; seisinref02.Add, seisinref02.All.
-/
import Derived.Test.YtdkanehjahpehaaGreatDoorJBytA
import Derived.Lib.AppendZeros
import Derived.Lib.AppendZerosOnto
import Derived.Deep.CutRange
import Derived.Deep.CutBlock

section
section
namespace Go.Proofs.YtdkanehjahpehaaGreatDoor
open Go.RowKit
set_option maxRecDepth 100000
theorem slc22 (x : Value) (lo hi mx : Option Value) : Instr.sliceAt 28 x lo hi mx = SLs 28 x lo hi mx := rfl
attribute [local go_sem ↓] APs_of slc22

theorem izb5 : (Tryz.prog.info? 5).map (fun i => (i.zero, i.size, i.bytes)) = some (some (.int .u8 0), 1, 1) := by kernel_rfl
theorem uI3 : Tryz.prog.underlying 3 = some (.int .i64) := by kernel_rfl

/-- A row of one's own, cut to nothing. -/
theorem Own8.none_ {B g cap : Nat} {w : World} {cur : Array Value} (hB : B ≤ g) (hb : Blk w g 5 cur) (hs : cur.size = cap) (hm : cap ≤ maxLen) : Own8 B w (.slice (some ⟨g, 0, none⟩) 0 cap) [] :=
  ⟨rfl, .inr ⟨g, cap, cur, rfl, hB, hb, Nat.zero_le _, hm, by omega, by simp [bys]⟩⟩

theorem SLs_head {w : World} {g n cap : Nat} (hn : 0 < cap) (h : Int) (e : h = 0) : (SLs 28 (.slice (some ⟨g, 0, none⟩) n cap) none (some (.int .i64 h)) none).run Tryz.prog w = .ok (.slice (some ⟨g, 0, none⟩) 0 cap) w := by
  subst e
  obtain ⟨i, hq, hi⟩ := Option.map_eq_some_iff.1 i5
  have hne : ¬ cap = 0 := by omega
  simp [SLs, Instr.sliceAt, Instr.slice, Instr.sliceBounds, Instr.sliceBound, asIntOf, run_underlying u22, sizeOf, typeInfo, hq, Addr.add]
theorem SLs_nil {w : World} (h : Int) (e : h = 0) : (SLs 28 (.slice none 0 0) none (some (.int .i64 h)) none).run Tryz.prog w = .ok (.slice none 0 0) w := by
  subst e
  obtain ⟨i, hq, hi⟩ := Option.map_eq_some_iff.1 i5
  simp [SLs, Instr.sliceAt, Instr.slice, Instr.sliceBounds, Instr.sliceBound, asIntOf, run_underlying u22, sizeOf, typeInfo, hq]

set_option maxHeartbeats 2000000 in
theorem grow_nil (n : Nat) (hn : n ≤ 1000000000) (w : World) :
    Calls Tryz.prog 214 #[.slice none 0 0, .int .i64 (n : Int)] w fun e w' => ∃ v, e = .returned v ∧ Own8 w.heap.size w' v [] ∧ Below w.heap.size w w' := by
  by_cases h0 : n = 0
  · subst h0
    go_enter Tryz.func214, Tryz.ntmps214
    go_wp2
    go_ret
    exact ⟨_, rfl, Own8.nil _ _, Below.refl _ _⟩
  · obtain ⟨i0, hi, hh⟩ := Option.map_eq_some_iff.1 izb5
    simp only [Prod.mk.injEq] at hh
    obtain ⟨hz0, hz1, hz2⟩ := hh
    have happ0 := Lib.run_append_nil_zeros (P := Tryz.prog) w 28 3 28 5 i0 (.int .u8 0) .i64 .i64 u22 uI3 hi hz0 n (by omega) (by omega) (by omega) (by rw [hz2]; omega)
    have happ : (APs #[28, 3] 28 #[.slice none 0 0, .int .i64 (n : Int)]).run Tryz.prog w = _ := happ0
    clear happ0
    have hge := grownCap_ge w n 0 5
    have hle := grownCap_le_maxLen w n 0 5 (by unfold maxLen; omega)
    obtain ⟨cap, hcap⟩ : ∃ cap, grownCap w n 0 5 = cap := ⟨_, rfl⟩
    rw [hcap] at happ hge hle
    obtain ⟨Z, hZ⟩ : ∃ Z, Builtin.zeroCells (Value.int .u8 0).cells n ++ Builtin.zeroCells (Value.int .u8 0).cells (cap - n) = Z := ⟨_, rfl⟩
    rw [hZ] at happ
    have hZs : Z.size = cap := by rw [← hZ]; simp [size_zeroCells, Value.cells]; omega
    clear hcap hZ hi hz0 hz1 hz2 i0
    have hsl : ∀ W : World, (SLs 28 (.slice (some ⟨w.heap.size, 0, none⟩) n cap) none (some (.int .i64 0)) none).run Tryz.prog W = .ok (.slice (some ⟨w.heap.size, 0, none⟩) 0 cap) W := fun W => SLs_head (by omega) 0 rfl
    have hsl0 : ∀ W : World, (SLs 28 (.slice none 0 0) none (some (.int .i64 0)) none).run Tryz.prog W = .ok (.slice none 0 0) W := fun W => SLs_nil 0 rfl
    have hpos : (0 : Int) < (n : Int) := by omega
    go_enter Tryz.func214, Tryz.ntmps214
    go_wp2
    first
      | (go_ret
         refine ⟨_, rfl, Own8.none_ (Nat.le_refl _) ((Blk.new w _ Z).drew) hZs hle, ((Below.refl _ w).alloc (Nat.le_refl _) _).drew⟩)

set_option maxHeartbeats 4000000 in
theorem concat_any (A : Option Addr) (c : Nat) (xs : List Value) (L : List (List Int)) (w : World) (h : TxsV w A xs L) (hL : L.length ≤ 1000000) (hlen : L.flatten.length ≤ 500000000) :
    Calls Tryz.prog 197 #[.slice A L.length c] w fun e w' => ∃ v, e = .returned v ∧ Own8 w.heap.size w' v L.flatten ∧ Below w.heap.size w w' := by
  have H := Lib.hid h
  have HL := Lib.hid hlen
  clear h hlen
  have hpre : ∀ i, i < L.length → (L.take i).flatten.length + (L.getD i []).length = (L.take (i + 1)).flatten.length := fun i hi => by
    rw [List.take_succ_eq_append_getElem hi, List.flatten_append, List.flatten_singleton, List.length_append]
    have e : L.getD i [] = L[i] := by simp [List.getD, hi]
    rw [e]
  have hbd : ∀ i, (L.take i).flatten.length ≤ 500000000 := fun i => by
    have := HL.out
    have e : L.flatten = (L.take i).flatten ++ (L.drop i).flatten := by rw [← List.flatten_append, List.take_append_drop]
    rw [e, List.length_append] at this
    omega
  have HP := Lib.hid hpre
  have HB := Lib.hid hbd
  clear hpre hbd
  go_enter Tryz.func197, Tryz.ntmps197
  go_wp2
  go_loopw [3, 11] (fun s t wr => ∃ i : Nat, i ≤ L.length ∧ s = .int .i64 ((L.take i).flatten.length : Nat) ∧ t = .int .i64 i ∧ wr = w)
    (fun _ t _ => L.length - (intOf t).toNat)
  case atStart => exact ⟨0, Nat.zero_le _, by simp, rfl, rfl⟩
  case round =>
    obtain ⟨i, hi, rfl, rfl, rfl⟩ := hrel
    by_cases hlt : i < L.length
    · obtain ⟨g, off, rfl, hg, hc⟩ := H.out.cell (by rw [H.out.len]; omega)
      have hx : i < xs.length := by rw [H.out.len]; exact hlt
      have hcx := hc i xs[i] (by simp [hx])
      obtain ⟨Ai, ci, hxi, hby, hn⟩ := H.out.txt i hx hlt
      rw [hxi] at hcx
      have e1 := HP.out i hlt
      have e2 := HB.out (i + 1)
      have e3 : L.getD i [] = L[i] := by simp [List.getD, hlt]
      rw [e3] at e1
      obtain ⟨s, hs⟩ : ∃ s, (L.take i).flatten.length = s := ⟨_, rfl⟩
      obtain ⟨m, hm⟩ : ∃ m, L[i].length = m := ⟨_, rfl⟩
      rw [hs, hm] at e1
      rw [hm] at hcx
      rw [hs]
      have b1 : (s : Int) + (m : Int) ≤ 500000000 := by omega
      have E1 := Lib.hid e1
      clear hxi hby hn hc e3 hs hm hx e1 e2
      go_wp2
      go_roundw
      case rel => exact ⟨i + 1, by omega, by rw [← E1.out]; go_num, by go_num, by first | rfl | trivial⟩
      case measure => simp [intOf]; omega
    · obtain rfl : i = L.length := by omega
      have e2 := HB.out L.length
      obtain ⟨s, hs⟩ : ∃ s, (L.take L.length).flatten.length = s := ⟨_, rfl⟩
      rw [hs] at e2 ⊢
      clear hs
      go_wp2_with fail
      refine (grow_nil s (by omega) wr).mono ?_
      rintro e w1 ⟨v, rfl, ho, hb1⟩
      go_wp2_with fail
      go_loopw [6, 27] (fun v t wx => ∃ i : Nat, i ≤ L.length ∧ t = .int .i64 i ∧ Own8 wr.heap.size wx v (L.take i).flatten ∧ Below wr.heap.size wr wx)
        (fun _ t _ => L.length - (intOf t).toNat)
      case atStart => exact ⟨0, Nat.zero_le _, rfl, by simpa using ho, hb1⟩
      case round =>
        clear ho hb1 e2
        obtain ⟨i, hi, rfl, ho, hb⟩ := hrel
        by_cases hlt : i < L.length
        · obtain ⟨g, off, rfl, hg, hc⟩ := H.out.cell (by rw [H.out.len]; omega)
          have hx : i < xs.length := by rw [H.out.len]; exact hlt
          obtain ⟨Ai, ci, hxi, hby, hn⟩ := H.out.txt i hx hlt
          have hcx := hc i xs[i] (by simp [hx])
          rw [hxi] at hcx
          have hcx' := (hb.cell (p := ⟨g, off + i, none⟩) hg).trans hcx
          have e1 := HP.out i hlt
          have e2 := HB.out (i + 1)
          have e3 : L.getD i [] = L[i] := by simp [List.getD, hlt]
          rw [e3] at e1
          have e4 : (L.take (i + 1)).flatten = (L.take i).flatten ++ L[i] := by rw [List.take_succ_eq_append_getElem hlt, List.flatten_append, List.flatten_singleton]
          obtain ⟨m, hm⟩ : ∃ m, L[i] = m := ⟨_, rfl⟩
          rw [hm] at hcx' hby e1 e4
          obtain ⟨l, hl⟩ : ∃ l, (L.take i).flatten = l := ⟨_, rfl⟩
          rw [hl] at ho e1 e4
          obtain ⟨A2, c2, rfl⟩ := ho.form
          obtain ⟨v', w', hap, ho', hf', _⟩ := app8 (ty := 28) ho (hby.below hb) (by omega) hb.size hn
          obtain ⟨A3, c3, rfl⟩ := ho'.form
          rw [List.length_append] at ho' hap
          have E4 := Lib.hid e4
          have HO := Lib.hid ho'
          have HF := Lib.hid hf'
          have HBw := Lib.hid hb
          have HO0 := Lib.hid ho
          clear hxi hby hn hc hcx e3 hm hl hx e1 e2 e4 ho ho' hf' hb
          go_wp2_with fail
          go_roundw
          case rel =>
            refine ⟨i + 1, by omega, by go_num, by rw [E4.out]; exact HO.out, HBw.out.trans (HF.out.below HBw.out.size (fun k hk e => ?_))⟩
            have := (HO0.out.lt e).1
            omega
          case measure => simp [intOf]; omega
        · obtain rfl : i = L.length := by omega
          have HO := Lib.hid ho
          clear ho
          go_wp2_with fail
          go_ret
          refine ⟨_, rfl, ?_, hb⟩
          have := HO.out
          rw [List.take_length] at this
          exact this

end Go.Proofs.YtdkanehjahpehaaGreatDoor
end

section
namespace Go.Proofs.YtdkanehjahpehaaGreatDoor
open Go.RowKit
set_option maxRecDepth 100000
theorem apc_of (xs : Array Value) (t : TypeId) : Builtin.append_ #[28, 28] t xs = APs #[28, 28] t xs := rfl
attribute [local go_sem ↓] apc_of

set_option maxHeartbeats 2000000 in
theorem clone_any (A : Option Addr) (c : Nat) (hc : A = none → c = 0) (l : List Int) (w : World) (hb : Byt w A l) (hl : l.length ≤ 140737488355328) :
    Calls Tryz.prog 105 #[.slice A l.length c] w fun e w' => ∃ v, e = .returned v ∧ Own8 w.heap.size w' v l ∧ Below w.heap.size w w' := by
  have hq : ∀ (W : World) (n c : Nat), (binOp .eql 28 (.slice A n c) (.slice none 0 0)).run Tryz.prog W = .ok (.bool A.isNone) W := fun W n c => Lib.run_eql_slice_nil W _ _ A n c 0 0 u22
  cases A with
  | none =>
    have e : l = [] := by
      cases l with
      | nil => rfl
      | cons x r =>
        obtain ⟨g, o, e, _⟩ := hb.cell (by simp)
        cases e
    subst e
    obtain rfl := hc rfl
    go_enter Tryz.func105, Tryz.ntmps105
    go_wp2
    first
      | (go_ret; exact ⟨_, rfl, Own8.nil _ _, Below.refl _ _⟩)
  | some a =>
    have hrow : Own8 w.heap.size (w.alloc (.cells #[] 5)) (.slice (some ⟨w.heap.size, 0, none⟩) 0 0) [] := Own8.none_ (Nat.le_refl _) (Blk.new w _ _) rfl (by unfold maxLen; omega)
    have hby := hb.below ((Below.refl _ w).alloc (Nat.le_refl _) (.cells #[] 5))
    obtain ⟨v', w', hap, ho, hf, _⟩ := app8 (ty := 28) (c := c) hrow hby (by simpa using Nat.le_trans hl (by omega)) (by simp) (by simp)
    obtain ⟨m, hm⟩ : ∃ m, l.length = m := ⟨_, rfl⟩
    rw [hm] at hap ⊢
    have HO := Lib.hid ho
    have HB := Lib.hid (((Below.refl _ w).alloc (Nat.le_refl _) (.cells #[] 5)).trans (hf.below (by simp) (fun k hk e => by simp [Value.ownBlock] at e; omega)))
    clear hrow hby ho hf hb hm
    go_enter Tryz.func105, Tryz.ntmps105
    go_wp2
    first
      | (go_ret; exact ⟨_, rfl, by simpa using HO.out, HB.out⟩)

end Go.Proofs.YtdkanehjahpehaaGreatDoor
end

section
namespace Go.Proofs.YtdkanehjahpehaaGreatDoor
open Go.RowKit
set_option maxRecDepth 100000

theorem zc_bys (k : Nat) : (Builtin.zeroCells (Value.int .u8 0).cells k).toList = bys (List.replicate k 0) := by
  have h := size_zeroCells (Value.int .u8 0).cells k
  apply List.ext_getElem
  · rw [Array.length_toList, h, bys_length]
    simp [Value.cells]
  · intro i h1 h2
    have hi : i < k := by simpa [bys_length] using h2
    simp [Builtin.zeroCells, bys, Value.cells, Nat.mod_one]

/-- An append of k zeros. -/
theorem app8_zeros {ty : TypeId} {B : Nat} {w : World} {v : Value} {l : List Int} (k : Nat) (h : Own8 B w v l) (hlen : l.length + k ≤ 1000000000) (hB : B ≤ w.heap.size) :
    ∃ v' w', (APs #[28, 3] ty #[v, .int .i64 (k : Int)]).run Tryz.prog w = .ok v' w' ∧ Own8 B w' v' (l ++ List.replicate k 0) ∧ Fr (fun j => v.ownBlock = some j) w w' ∧ Foot w v v' := by
  obtain ⟨i0, hi, hh⟩ := Option.map_eq_some_iff.1 izb5
  simp only [Prod.mk.injEq] at hh
  obtain ⟨hz0, hz1, hz2⟩ := hh
  have hw : IntKind.i64.wrap (k : Int) = k := by rw [IntKind.wrap_i64]; omega
  have hw0 : IntKind.i64.wrap (0 : Int) = 0 := by decide
  have hneg : ¬ ((k : Int) < 0) := by omega
  have h48 : ¬ (281474976710656 < (k : Int)) := by omega
  obtain ⟨hl, ⟨rfl, hn⟩ | ⟨g, cap, cur, rfl, hg, hb, hnc, hcm, hcs, ht⟩⟩ := h
  · have e : l = [] := List.length_eq_zero_iff.1 hn
    subst e
    by_cases h0 : k = 0
    · subst h0
      refine ⟨.slice none 0 0, w, ?_, by simpa using Own8.nil B w, Fr.refl _ _, Foot.refl _ _⟩
      simp [APs, Builtin.append_, run_underlying u22, run_underlying uI3, sizeOf, typeInfo, hi, hz2, asInt, asIntOf, hw0]
    · have hr := Lib.run_append_nil_zeros (P := Tryz.prog) w 28 3 ty 5 i0 (.int .u8 0) .i64 .i64 u22 uI3 hi hz0 k (by omega) (by omega) (by omega) (by rw [hz2]; omega)
      have hge := grownCap_ge w k 0 5
      have hle := grownCap_le_maxLen w k 0 5 (by unfold maxLen; omega)
      refine ⟨_, _, hr, ⟨by simp [bys_length], .inr ⟨w.heap.size, _, _, by simp, hB, (Blk.new w.drew _ _), by simpa using hge, hle, ?_, ?_⟩⟩, (Fr.refl _ w).drew.alloc _, ?_⟩
      · simp [size_zeroCells, Value.cells]; omega
      · rw [Array.toList_append, zc_bys]
        simp [bys_length]
      · intro j hj
        right
        cases hj
        exact Nat.le_refl _
  · have hxs : (bys l).length = l.length := bys_length l
    by_cases hroom : l.length + k ≤ cap
    · have hst := run_storeCells_at (P := Tryz.prog) g l.length 5 (bys (List.replicate k 0)) 0 cur w hb (by simp [bys_length]; omega) (bys_one _)
      simp only [Nat.add_zero] at hst
      refine ⟨.slice (some ⟨g, 0, none⟩) (l.length + k) cap, w.setRow g (cur.toList.take l.length ++ bys (List.replicate k 0) ++ cur.toList.drop (l.length + (bys (List.replicate k 0)).length)).toArray, ?_, ?_, (Fr.refl (fun j => (Value.slice (some ⟨g, 0, none⟩) l.length cap).ownBlock = some j) w).setRow (fun _ => rfl) _, fun j hj => .inl hj⟩
      · by_cases h0 : k = 0
        · subst h0
          have e : ((cur.toList.take l.length ++ bys (List.replicate 0 0) ++ cur.toList.drop (l.length + (bys (List.replicate 0 0)).length)).toArray) = cur := by simp [bys]
          rw [e]
          rw [e] at hst
          simp only [List.replicate_zero] at hst
          have hs0 : (storeCells ⟨g, l.length, none⟩ ([] : List Value) 0).run Tryz.prog w = .ok () (w.setRow g cur) := by simpa [bys] using hst
          simp [APs, Builtin.append_, run_underlying u22, run_underlying uI3, sizeOf, typeInfo, hi, hz1, hz2, asInt, asIntOf, hw0, hnc, Addr.add_lit, hs0]
        · have hkk : ¬ k = 0 := h0
          simp [APs, Builtin.append_, run_underlying u22, run_underlying uI3, sizeOf, typeInfo, zeroValue, hi, hz0, hz1, hz2, asInt, asIntOf, hw, hneg, h48, hkk, hroom, Addr.add_lit, zc_bys, hst]
      · refine ⟨by simp [bys_length], .inr ⟨g, cap, _, by simp, hg, setRow_heap w g cur _ _ _ hb, by simpa using hroom, hcm, ?_, ?_⟩⟩
        · simp [bys_length]; omega
        · have e1 : (cur.toList.take l.length) = bys l := by simpa using ht
          rw [e1, bys_app]
          have e2 : (bys l ++ bys (List.replicate k 0)).length = (l ++ List.replicate k 0).length * 1 := by simp [bys_length]
          show ((bys l ++ bys (List.replicate k 0)) ++ _).take _ = _
          rw [← e2, List.take_left]
    · have hfc := run_firstCells_some (P := Tryz.prog) (w := w.drew) 1 l.length ⟨g, 0, none⟩ l.length cap (bys l) (by simp [bys_length]) (fun j u hu => World.ownsRow.cells (w := w) (base := B) (v := .slice (some ⟨g, 0, none⟩) l.length cap) (g := g) ⟨hl, .inr ⟨g, cap, cur, rfl, hg, hb, hnc, hcm, hcs, ht⟩⟩ rfl j u hu)
      have hr := Lib.run_append_grow_zeros (P := Tryz.prog) w 28 3 ty 5 i0 (.int .u8 0) .i64 .i64 u22 uI3 hi hz0 (some ⟨g, 0, none⟩) l.length cap (bys l) (by rw [hz1]; exact hfc) k (by omega) (by omega) (by omega) (by omega) (by rw [hz2]; omega) (by rw [hz2]; exact growslice_fits (by omega) (by omega))
      have hge := grownCap_ge w (l.length + k) cap 5
      have hle := grownCap_le_maxLen w (l.length + k) cap 5 (by unfold maxLen; omega)
      refine ⟨_, _, hr, ⟨by simp [bys_length], .inr ⟨w.heap.size, _, _, by simp, hB, (Blk.new w.drew _ _), by simpa using hge, hle, ?_, ?_⟩⟩, (Fr.refl _ w).drew.alloc _, ?_⟩
      · simp [size_zeroCells, Value.cells, bys_length]; omega
      · rw [Array.toList_append, Array.toList_append, zc_bys, bys_app]
        have e2 : (bys l ++ bys (List.replicate k 0)).length = (l ++ List.replicate k 0).length * 1 := by simp [bys_length]
        rw [← e2]
        exact List.take_left
      · intro j hj
        right
        cases hj
        exact Nat.le_refl _

end Go.Proofs.YtdkanehjahpehaaGreatDoor
end
end

section
namespace Go.Proofs.YtdkanehjahpehaaGreatDoor
open Go.RowKit Go.Shelf
set_option maxRecDepth 100000

/-- A sum, and an error. -/
def addQ (a b : Int) : Int × Int := if 4611686018427387904 < a ∨ 4611686018427387904 < b ∨ 4611686018427387904 < a + b then (0, 6) else (a + b, 0)
/-- The sum of all, from s on. -/
def allQ : Int → List Int → Int × Int
  | s, [] => (s, 0)
  | s, x :: l => if (addQ s x).2 = 0 then allQ (addQ s x).1 l else (0, (addQ s x).2)
/-- From A on lie these numbers. -/
structure U64 (w : World) (A : Option Addr) (l : List Int) : Prop where
  cell : 0 < l.length → ∃ g off, A = some ⟨g, off, none⟩ ∧ g < w.heap.size ∧ ∀ j x, l[j]? = some x → w.cell? ⟨g, off + j, none⟩ = some (.int .u64 x)
  bd : ∀ x ∈ l, 0 ≤ x ∧ x ≤ 18446744073709551615
theorem U64.below {w w' : World} {A : Option Addr} {l : List Int} (h : U64 w A l) (hb : Below w.heap.size w w') : U64 w' A l :=
  ⟨fun h0 => by
    obtain ⟨g, off, e, hg, hc⟩ := h.cell h0
    exact ⟨g, off, e, Nat.lt_of_lt_of_le hg hb.size, fun j x hx => (hb.cell (p := ⟨g, off + j, none⟩) hg).trans (hc j x hx)⟩, h.bd⟩
theorem U64.new (w : World) (l : List Int) (hl : ∀ x ∈ l, 0 ≤ x ∧ x ≤ 18446744073709551615) : U64 (w.alloc (.cells (l.map (Value.int .u64)).toArray 24)) (some ⟨w.heap.size, 0, none⟩) l :=
  ⟨fun _ => ⟨_, 0, rfl, by simp, fun j x hx => by
    rw [Nat.zero_add, (Blk.new w 24 (l.map (Value.int .u64)).toArray).cell j]
    simp [hx]⟩, hl⟩

set_option maxHeartbeats 2000000 in
theorem sis_any (A : Option Addr) (c : Nat) (l : List Int) (w : World) (h : U64 w A l) (hl : l.length ≤ 1000000000) :
    Calls Tryz.prog 146 #[.slice A l.length c] w fun e w' => e = .returned (.bool (l.all fun x => decide (x ≤ 4611686018427387904))) ∧ w = w' := by
  obtain ⟨n, hn⟩ : ∃ n, l.length = n := ⟨_, rfl⟩
  rw [hn] at hl ⊢
  obtain ⟨R, hR⟩ : ∃ R, (l.all fun x => decide (x ≤ 4611686018427387904)) = R := ⟨_, rfl⟩
  rw [hR]
  have HR := Lib.hid hR
  have H := Lib.hid h
  have HN := Lib.hid hn
  clear h hn hR
  go_enter Tryz.func146, Tryz.ntmps146
  go_wp2_with fail
  go_loopg [4, 7] n (fun kk _ t wr => ∃ i : Nat, i + kk = n ∧ t = .int .i64 (i : Int) ∧ ((l.take i).all fun x => decide (x ≤ 4611686018427387904)) = true ∧ wr = w)
  case atStart => exact ⟨0, by omega, rfl, by simp, rfl⟩
  case round =>
    obtain ⟨i, hi, rfl, hall, rfl⟩ := hrel
    by_cases hlt : i < n
    · have hltI : (i : Int) < (n : Int) := by omega
      have hil : i < l.length := by rw [HN.out]; exact hlt
      obtain ⟨g, off, rfl, hg, hc⟩ := H.out.cell (by omega)
      have hcx := hc i l[i] (by simp [hil])
      have htk : l.take (i + 1) = l.take i ++ [l[i]] := List.take_succ_eq_append_getElem hil
      have hmem : l[i] ∈ l := List.getElem_mem hil
      obtain ⟨x, hx⟩ : ∃ x, l[i] = x := ⟨_, rfl⟩
      rw [hx] at hcx htk hmem
      have hxb := H.out.bd x hmem
      by_cases hbig : 4611686018427387904 < x
      · have hRf : R = false := by
          rw [← HR.out, List.all_eq_false]
          exact ⟨x, hmem, by simp; omega⟩
        subst hRf
        clear htk hx hc hall
        go_wp2_with fail
        go_ret
        exact ⟨rfl, rfl⟩
      · have hall2 : ((l.take (i + 1)).all fun x => decide (x ≤ 4611686018427387904)) = true := by
          rw [htk, List.all_append, hall]
          simp
          omega
        have HA2 := Lib.hid hall2
        clear htk hx hc hall hall2
        go_wp2_with fail
        go_roundg (n - (i + 1))
        case measure => omega
        case rel => exact ⟨i + 1, by omega, by go_num, HA2.out, rfl⟩
    · obtain rfl : i = n := by omega
      have hltI : ¬ (i : Int) < (i : Int) := by omega
      rw [List.take_of_length_le (by rw [HN.out]; exact Nat.le_refl _), HR.out] at hall
      subst hall
      go_wp2_with fail
      go_ret
      exact ⟨rfl, rfl⟩

theorem addQ_bd (a b : Int) (ha : 0 ≤ a) (hb : 0 ≤ b) : 0 ≤ (addQ a b).1 ∧ (addQ a b).1 ≤ 4611686018427387904 := by
  unfold addQ
  split
  · exact ⟨Int.le_refl _, by simp⟩
  · simp only
    omega

set_option maxHeartbeats 2000000 in
theorem sadd_any (a b : Int) (ha : 0 ≤ a ∧ a ≤ 18446744073709551615) (hb : 0 ≤ b ∧ b ≤ 18446744073709551615) (w : World) :
    Calls Tryz.prog 103 #[.int .u64 a, .int .u64 b] w fun e w' => e = .returned (.tuple #[.int .u64 (addQ a b).1, .int .i64 (addQ a b).2]) ∧ Below w.heap.size w w' := by
  have B1 : Below w.heap.size w (w.alloc (.cells #[.int .u64 a, .int .u64 b] 24)) := (Below.refl _ w).alloc (Nat.le_refl _) _
  have s1 := sis_any _ 2 [a, b] _ (U64.new w [a, b] (fun x hx => by simp at hx; rcases hx with rfl | rfl <;> assumption)) (by simp)
  rw [show ([a, b].map (Value.int .u64)).toArray = #[.int .u64 a, .int .u64 b] from rfl, show ([a, b] : List Int).length = 2 from rfl] at s1
  obtain ⟨W1, hW1⟩ : ∃ W1, w.alloc (.cells #[.int .u64 a, .int .u64 b] 24) = W1 := ⟨_, rfl⟩
  rw [hW1] at B1 s1
  by_cases hbig : 4611686018427387904 < a ∨ 4611686018427387904 < b
  · have hq : addQ a b = (0, 6) := by unfold addQ; rw [if_pos (by omega)]
    have hall : ([a, b].all fun x => decide (x ≤ 4611686018427387904)) = false := by
      simp
      omega
    rw [hq]
    rw [hall] at s1
    have HW1 := Lib.hid hW1
    have HB1 := Lib.hid B1
    clear hW1 hq hall hbig B1
    go_enter Tryz.func103, Tryz.ntmps103
    go_wp2_with fail
    rw [HW1.out]
    with_reducible refine s1.mono ?_
    rintro e w' ⟨rfl, hw⟩
    rw [← hw]
    clear hw s1
    go_wp2_with fail
    go_ret2
    exact ⟨rfl, HB1.out⟩
  · have hall : ([a, b].all fun x => decide (x ≤ 4611686018427387904)) = true := by
      simp
      omega
    rw [hall] at s1
    have hw : IntKind.u64.wrap (a + b) = a + b := by rw [IntKind.wrap_u64]; omega
    have s2 := sis_any _ 1 [a + b] _ (U64.new W1 [a + b] (fun x hx => by simp at hx; subst hx; omega)) (by simp)
    have B2 : Below w.heap.size w (W1.alloc (.cells #[.int .u64 (a + b)] 24)) := B1.alloc B1.size _
    rw [show ([a + b].map (Value.int .u64)).toArray = #[.int .u64 (a + b)] from rfl, show ([a + b] : List Int).length = 1 from rfl] at s2
    have ha4 : a ≤ 4611686018427387904 := by omega
    have hb4 : b ≤ 4611686018427387904 := by omega
    have ha0 := ha.1
    have hb0 := hb.1
    by_cases hsum : 4611686018427387904 < a + b
    · have hq : addQ a b = (0, 6) := by unfold addQ; rw [if_pos (.inr (.inr hsum))]
      have hal2 : ([a + b].all fun x => decide (x ≤ 4611686018427387904)) = false := by
        simp
        omega
      rw [hal2] at s2
      rw [hq]
      have HW1 := Lib.hid hW1
      have HB2 := Lib.hid B2
      clear hW1 hq hall hal2 hbig B1 B2 ha hb
      go_enter Tryz.func103, Tryz.ntmps103
      go_wp2_with fail
      rw [HW1.out]
      with_reducible refine s1.mono ?_
      rintro e w' ⟨rfl, hw'⟩
      rw [← hw']
      clear hw' s1
      go_wp2_with fail
      with_reducible refine s2.mono ?_
      rintro e w' ⟨rfl, hw'⟩
      rw [← hw']
      clear hw' s2
      go_wp2_with fail
      go_ret2
      exact ⟨rfl, HB2.out⟩
    · have hq : addQ a b = (a + b, 0) := by unfold addQ; rw [if_neg (by omega)]
      have hal2 : ([a + b].all fun x => decide (x ≤ 4611686018427387904)) = true := by
        simp
        omega
      rw [hal2] at s2
      rw [hq]
      have HW1 := Lib.hid hW1
      have HB2 := Lib.hid B2
      clear hW1 hq hall hal2 hbig B1 B2 ha hb
      go_enter Tryz.func103, Tryz.ntmps103
      go_wp2_with fail
      rw [HW1.out]
      with_reducible refine s1.mono ?_
      rintro e w' ⟨rfl, hw'⟩
      rw [← hw']
      clear hw' s1
      go_wp2_with fail
      with_reducible refine s2.mono ?_
      rintro e w' ⟨rfl, hw'⟩
      rw [← hw']
      clear hw' s2
      go_wp2_with fail
      go_ret2
      exact ⟨rfl, HB2.out⟩

set_option maxHeartbeats 2000000 in
theorem radd_any (a b : Int) (ha : 0 ≤ a ∧ a ≤ 18446744073709551615) (hb : 0 ≤ b ∧ b ≤ 18446744073709551615) (w : World) :
    Calls Tryz.prog 50 #[.int .u64 a, .int .u64 b] w fun e w' => e = .returned (.tuple #[.int .u64 (addQ a b).1, .int .i64 (addQ a b).2]) ∧ w = w' := by
  have ha0 := ha.1
  have hb0 := hb.1
  by_cases h1 : 4611686018427387904 < a
  · have hq : addQ a b = (0, 6) := by unfold addQ; rw [if_pos (by omega)]
    rw [hq]
    clear hq
    go_enter Tryz.func50, Tryz.ntmps50
    go_wp2_with fail
    go_ret2
    exact ⟨rfl, rfl⟩
  by_cases h2 : 4611686018427387904 < b
  · have hq : addQ a b = (0, 6) := by unfold addQ; rw [if_pos (by omega)]
    rw [hq]
    clear hq
    go_enter Tryz.func50, Tryz.ntmps50
    go_wp2_with fail
    go_ret2
    exact ⟨rfl, rfl⟩
  have ha4 : a ≤ 4611686018427387904 := by omega
  have hb4 : b ≤ 4611686018427387904 := by omega
  have hs : IntKind.u64.wrap (4611686018427387904 - b) = 4611686018427387904 - b := by rw [IntKind.wrap_u64]; omega
  have hw : IntKind.u64.wrap (a + b) = a + b := by rw [IntKind.wrap_u64]; omega
  by_cases h3 : 4611686018427387904 - b < a
  · have hq : addQ a b = (0, 6) := by unfold addQ; rw [if_pos (by omega)]
    rw [hq]
    clear hq ha hb
    go_enter Tryz.func50, Tryz.ntmps50
    go_wp2_with fail
    go_ret2
    exact ⟨rfl, rfl⟩
  · have hq : addQ a b = (a + b, 0) := by unfold addQ; rw [if_neg (by omega)]
    rw [hq]
    clear hq ha hb
    go_enter Tryz.func50, Tryz.ntmps50
    go_wp2_with fail
    go_ret2
    exact ⟨rfl, rfl⟩

theorem allQ_bd : ∀ (l : List Int) (s : Int), (∀ x ∈ l, 0 ≤ x) → 0 ≤ s → s ≤ 4611686018427387904 → 0 ≤ (allQ s l).1 ∧ (allQ s l).1 ≤ 4611686018427387904
  | [], s, _, h0, h1 => ⟨h0, h1⟩
  | x :: l, s, hl, h0, h1 => by
    have hb := addQ_bd s x h0 (hl x (by simp))
    unfold allQ
    split
    · exact allQ_bd l _ (fun y hy => hl y (by simp [hy])) hb.1 hb.2
    · exact ⟨Int.le_refl _, by simp⟩
theorem addQ_e (a b : Int) : (addQ a b).2 = 0 ∨ (addQ a b).2 = 6 := by
  unfold addQ
  split
  · exact .inr rfl
  · exact .inl rfl
theorem allQ_e : ∀ (l : List Int) (s : Int), (allQ s l).2 = 0 ∨ (allQ s l).2 = 6
  | [], s => .inl rfl
  | x :: l, s => by
    unfold allQ
    split
    · exact allQ_e l _
    · exact addQ_e s x

set_option maxHeartbeats 2000000 in
theorem sall_any (A : Option Addr) (c : Nat) (l : List Int) (w : World) (h : U64 w A l) (hl : l.length ≤ 1000000000) :
    Calls Tryz.prog 61 #[.slice A l.length c] w fun e w' => e = .returned (.tuple #[.int .u64 (allQ 0 l).1, .int .i64 (allQ 0 l).2]) ∧ Below w.heap.size w w' := by
  obtain ⟨n, hn⟩ : ∃ n, l.length = n := ⟨_, rfl⟩
  rw [hn] at hl ⊢
  obtain ⟨R, hR⟩ : ∃ R, allQ 0 l = R := ⟨_, rfl⟩
  rw [hR]
  have HR := Lib.hid hR
  have H := Lib.hid h
  have HN := Lib.hid hn
  clear h hn hR
  go_enter Tryz.func61, Tryz.ntmps61
  go_wp2_with fail
  go_loopg [4, 6, 7, 8, 11] n (fun kk sv _ _ _ t wr => ∃ (i : Nat) (s : Int), i + kk = n ∧ t = .int .i64 (i : Int) ∧ sv = .int .u64 s ∧ 0 ≤ s ∧ s ≤ 4611686018427387904 ∧ allQ s (l.drop i) = R ∧ Below w.heap.size w wr)
  case atStart => exact ⟨0, 0, by omega, rfl, rfl, by omega, by omega, HR.out, Below.refl _ _⟩
  case round =>
    obtain ⟨i, s, hi, rfl, rfl, hs0, hs1, hq, hB⟩ := hrel
    by_cases hlt : i < n
    · have hltI : (i : Int) < (n : Int) := by omega
      have hil : i < l.length := by rw [HN.out]; exact hlt
      obtain ⟨g, off, rfl, hg, hc⟩ := H.out.cell (by omega)
      have hcx := (hB.cell (p := ⟨g, off + i, none⟩) hg).trans (hc i l[i] (by simp [hil]))
      have hmem : l[i] ∈ l := List.getElem_mem hil
      rw [List.drop_eq_getElem_cons hil] at hq
      obtain ⟨x, hx⟩ : ∃ x, l[i] = x := ⟨_, rfl⟩
      rw [hx] at hcx hmem hq
      have hxb := H.out.bd x hmem
      have hadd := sadd_any s x ⟨hs0, by omega⟩ hxb wr
      have hab := addQ_bd s x hs0 hxb.1
      unfold allQ at hq
      obtain ⟨P, hP⟩ : ∃ P, addQ s x = P := ⟨_, rfl⟩
      have hae := addQ_e s x
      rw [hP] at hadd hab hq hae
      obtain ⟨p1, p2⟩ := P
      simp only at hadd hab hq hae
      have HQ := Lib.hid hq
      have HB := Lib.hid hB
      have HADD := Lib.hid hadd
      clear hc hx hP hq hB hadd hmem
      rcases hae with rfl | rfl
      · have hq2 := HQ.out
        rw [if_pos rfl] at hq2
        have HQ2 := Lib.hid hq2
        clear hq2
        go_wp2_with fail
        with_reducible refine HADD.out.mono ?_
        rintro e w2 ⟨rfl, hB2⟩
        have HB2 := Lib.hid (HB.out.trans (hB2.mono HB.out.size))
        clear hB2 HADD
        go_wp2_with fail
        go_roundg (n - (i + 1))
        case measure => omega
        case rel => exact ⟨i + 1, p1, by omega, by go_num, rfl, hab.1, hab.2, HQ2.out, HB2.out⟩
      · have hq2 := HQ.out
        rw [if_neg (by omega)] at hq2
        subst hq2
        go_wp2_with fail
        with_reducible refine HADD.out.mono ?_
        rintro e w2 ⟨rfl, hB2⟩
        have HB2 := Lib.hid (HB.out.trans (hB2.mono HB.out.size))
        clear hB2 HADD
        go_wp2_with fail
        go_ret2
        exact ⟨rfl, HB2.out⟩
    · obtain rfl : i = n := by omega
      have hltI : ¬ (i : Int) < (i : Int) := by omega
      rw [List.drop_of_length_le (by rw [HN.out]; exact Nat.le_refl _)] at hq
      unfold allQ at hq
      subst hq
      have HB := Lib.hid hB
      clear hB
      go_wp2_with fail
      go_ret2
      exact ⟨rfl, HB.out⟩

set_option maxHeartbeats 2000000 in
theorem rall_any (A : Option Addr) (c : Nat) (l : List Int) (w : World) (h : U64 w A l) (hl : l.length ≤ 1000000000) :
    Calls Tryz.prog 20 #[.slice A l.length c] w fun e w' => e = .returned (.tuple #[.int .u64 (allQ 0 l).1, .int .i64 (allQ 0 l).2]) ∧ w = w' := by
  obtain ⟨n, hn⟩ : ∃ n, l.length = n := ⟨_, rfl⟩
  rw [hn] at hl ⊢
  obtain ⟨R, hR⟩ : ∃ R, allQ 0 l = R := ⟨_, rfl⟩
  rw [hR]
  have HR := Lib.hid hR
  have H := Lib.hid h
  have HN := Lib.hid hn
  clear h hn hR
  go_enter Tryz.func20, Tryz.ntmps20
  go_wp2_with fail
  go_loopg [4, 5, 6, 7] n (fun kk sv t _ _ wr => ∃ (i : Nat) (s : Int), i + kk = n ∧ t = .int .i64 (i : Int) ∧ sv = .int .u64 s ∧ 0 ≤ s ∧ s ≤ 4611686018427387904 ∧ allQ s (l.drop i) = R ∧ wr = w)
  case atStart => exact ⟨0, 0, by omega, rfl, rfl, by omega, by omega, HR.out, rfl⟩
  case round =>
    obtain ⟨i, s, hi, rfl, rfl, hs0, hs1, hq, rfl⟩ := hrel
    by_cases hlt : i < n
    · have hltI : (i : Int) < (n : Int) := by omega
      have hil : i < l.length := by rw [HN.out]; exact hlt
      obtain ⟨g, off, rfl, hg, hc⟩ := H.out.cell (by omega)
      have hcx := hc i l[i] (by simp [hil])
      have hmem : l[i] ∈ l := List.getElem_mem hil
      rw [List.drop_eq_getElem_cons hil] at hq
      obtain ⟨x, hx⟩ : ∃ x, l[i] = x := ⟨_, rfl⟩
      rw [hx] at hcx hmem hq
      have hxb := H.out.bd x hmem
      have hadd := radd_any s x ⟨hs0, by omega⟩ hxb wr
      have hab := addQ_bd s x hs0 hxb.1
      unfold allQ at hq
      obtain ⟨P, hP⟩ : ∃ P, addQ s x = P := ⟨_, rfl⟩
      have hae := addQ_e s x
      rw [hP] at hadd hab hq hae
      obtain ⟨p1, p2⟩ := P
      simp only at hadd hab hq hae
      have HQ := Lib.hid hq
      have HADD := Lib.hid hadd
      clear hc hx hP hq hadd hmem
      rcases hae with rfl | rfl
      · have hq2 := HQ.out
        rw [if_pos rfl] at hq2
        have HQ2 := Lib.hid hq2
        clear hq2
        go_wp2_with fail
        with_reducible refine HADD.out.mono ?_
        rintro e w2 ⟨rfl, hw2⟩
        rw [← hw2]
        clear hw2 HADD
        go_wp2_with fail
        go_roundg (n - (i + 1))
        case measure => omega
        case rel => exact ⟨i + 1, p1, by omega, by go_num, rfl, hab.1, hab.2, HQ2.out, rfl⟩
      · have hq2 := HQ.out
        rw [if_neg (by omega)] at hq2
        subst hq2
        go_wp2_with fail
        with_reducible refine HADD.out.mono ?_
        rintro e w2 ⟨rfl, hw2⟩
        rw [← hw2]
        clear hw2 HADD
        go_wp2_with fail
        go_ret2
        exact ⟨rfl, rfl⟩
    · obtain rfl : i = n := by omega
      have hltI : ¬ (i : Int) < (i : Int) := by omega
      rw [List.drop_of_length_le (by rw [HN.out]; exact Nat.le_refl _)] at hq
      unfold allQ at hq
      subst hq
      go_wp2_with fail
      go_ret2
      exact ⟨rfl, rfl⟩
end Go.Proofs.YtdkanehjahpehaaGreatDoor
end
