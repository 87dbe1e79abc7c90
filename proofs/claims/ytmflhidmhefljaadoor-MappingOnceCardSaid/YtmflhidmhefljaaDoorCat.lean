/-
  slices.Grow of nothing; slices.Concat of bytes.
  slices.Clone of bytes.
  append(b, make([]byte, k)...).
-/
import Derived.Test.YtmflhidmhefljaaDoorBytA
import Derived.Lib.AppendZeros
import Derived.Lib.AppendZerosOnto

section
namespace Go.Proofs.YtmflhidmhefljaaDoor
open Go.RowKit
set_option maxRecDepth 100000
theorem slc22 (x : Value) (lo hi mx : Option Value) : Instr.sliceAt 51 x lo hi mx = SLs 51 x lo hi mx := rfl
attribute [local go_sem ↓] APs_of slc22

theorem izb5 : (Tryd.prog.info? 5).map (fun i => (i.zero, i.size, i.bytes)) = some (some (.int .u8 0), 1, 1) := by kernel_rfl
theorem uI3 : Tryd.prog.underlying 3 = some (.int .i64) := by kernel_rfl

/-- A row of one's own, cut to nothing. -/
theorem Own8.none_ {B g cap : Nat} {w : World} {cur : Array Value} (hB : B ≤ g) (hb : Blk w g 5 cur) (hs : cur.size = cap) (hm : cap ≤ maxLen) : Own8 B w (.slice (some ⟨g, 0, none⟩) 0 cap) [] :=
  ⟨rfl, .inr ⟨g, cap, cur, rfl, hB, hb, Nat.zero_le _, hm, by omega, by simp [bys]⟩⟩

theorem SLs_head {w : World} {g n cap : Nat} (hn : 0 < cap) (h : Int) (e : h = 0) : (SLs 51 (.slice (some ⟨g, 0, none⟩) n cap) none (some (.int .i64 h)) none).run Tryd.prog w = .ok (.slice (some ⟨g, 0, none⟩) 0 cap) w := by
  subst e
  obtain ⟨i, hq, hi⟩ := Option.map_eq_some_iff.1 i5
  have hne : ¬ cap = 0 := by omega
  simp [SLs, Instr.sliceAt, Instr.slice, Instr.sliceBounds, Instr.sliceBound, asIntOf, run_underlying u22, sizeOf, typeInfo, hq, Addr.add]
theorem SLs_nil {w : World} (h : Int) (e : h = 0) : (SLs 51 (.slice none 0 0) none (some (.int .i64 h)) none).run Tryd.prog w = .ok (.slice none 0 0) w := by
  subst e
  obtain ⟨i, hq, hi⟩ := Option.map_eq_some_iff.1 i5
  simp [SLs, Instr.sliceAt, Instr.slice, Instr.sliceBounds, Instr.sliceBound, asIntOf, run_underlying u22, sizeOf, typeInfo, hq]

set_option maxHeartbeats 2000000 in
theorem grow_nil (n : Nat) (hn : n ≤ 1000000000) (w : World) :
    Calls Tryd.prog 56 #[.slice none 0 0, .int .i64 (n : Int)] w fun e w' => ∃ v, e = .returned v ∧ Own8 w.heap.size w' v [] ∧ Below w.heap.size w w' := by
  by_cases h0 : n = 0
  · subst h0
    go_enter Tryd.func56, Tryd.ntmps56
    go_wp2
    go_ret
    exact ⟨_, rfl, Own8.nil _ _, Below.refl _ _⟩
  · obtain ⟨i0, hi, hh⟩ := Option.map_eq_some_iff.1 izb5
    simp only [Prod.mk.injEq] at hh
    obtain ⟨hz0, hz1, hz2⟩ := hh
    have happ0 := Lib.run_append_nil_zeros (P := Tryd.prog) w 51 3 51 5 i0 (.int .u8 0) .i64 .i64 u22 uI3 hi hz0 n (by omega) (by omega) (by omega) (by rw [hz2]; omega)
    have happ : (APs #[51, 3] 51 #[.slice none 0 0, .int .i64 (n : Int)]).run Tryd.prog w = _ := happ0
    clear happ0
    have hge := grownCap_ge w n 0 5
    have hle := grownCap_le_maxLen w n 0 5 (by unfold maxLen; omega)
    obtain ⟨cap, hcap⟩ : ∃ cap, grownCap w n 0 5 = cap := ⟨_, rfl⟩
    rw [hcap] at happ hge hle
    obtain ⟨Z, hZ⟩ : ∃ Z, Builtin.zeroCells (Value.int .u8 0).cells n ++ Builtin.zeroCells (Value.int .u8 0).cells (cap - n) = Z := ⟨_, rfl⟩
    rw [hZ] at happ
    have hZs : Z.size = cap := by rw [← hZ]; simp [size_zeroCells, Value.cells]; omega
    clear hcap hZ hi hz0 hz1 hz2 i0
    have hsl : ∀ W : World, (SLs 51 (.slice (some ⟨w.heap.size, 0, none⟩) n cap) none (some (.int .i64 0)) none).run Tryd.prog W = .ok (.slice (some ⟨w.heap.size, 0, none⟩) 0 cap) W := fun W => SLs_head (by omega) 0 rfl
    have hsl0 : ∀ W : World, (SLs 51 (.slice none 0 0) none (some (.int .i64 0)) none).run Tryd.prog W = .ok (.slice none 0 0) W := fun W => SLs_nil 0 rfl
    have hpos : (0 : Int) < (n : Int) := by omega
    go_enter Tryd.func56, Tryd.ntmps56
    go_wp2
    first
      | (go_ret
         refine ⟨_, rfl, Own8.none_ (Nat.le_refl _) ((Blk.new w _ Z).drew) hZs hle, ((Below.refl _ w).alloc (Nat.le_refl _) _).drew⟩)

set_option maxHeartbeats 4000000 in
theorem concat_any (A : Option Addr) (c : Nat) (xs : List Value) (L : List (List Int)) (w : World) (h : TxsV w A xs L) (hL : L.length ≤ 1000000) (hlen : L.flatten.length ≤ 500000000) :
    Calls Tryd.prog 43 #[.slice A L.length c] w fun e w' => ∃ v, e = .returned v ∧ Own8 w.heap.size w' v L.flatten ∧ Below w.heap.size w w' := by
  have H := Lib.hid h
  have HL := Lib.hid hlen
  clear h hlen
  have hpre : ∀ i, i < L.length → (L.take i).flatten.length + (L.getD i []).length = (L.take (i + 1)).flatten.length := fun i hi => by
    rw [List.take_succ_eq_append_getElem hi, List.flatten_append, List.flatten_singleton, List.length_append]
    have e : L.getD i [] = L[i] := by simp [List.getD, hi]
    rw [e]
  have hbd : ∀ i, (L.take i).flatten.length ≤ 500000000 := fun i => by
    have := HL.out
    have e : L.flatten = (L.take i).flatten ++ (L.drop i).flatten := by rw [← List.flatten_append, List.take_append_drop]
    rw [e, List.length_append] at this
    omega
  have HP := Lib.hid hpre
  have HB := Lib.hid hbd
  clear hpre hbd
  go_enter Tryd.func43, Tryd.ntmps43
  go_wp2
  go_loopw [3, 11] (fun s t wr => ∃ i : Nat, i ≤ L.length ∧ s = .int .i64 ((L.take i).flatten.length : Nat) ∧ t = .int .i64 i ∧ wr = w)
    (fun _ t _ => L.length - (intOf t).toNat)
  case atStart => exact ⟨0, Nat.zero_le _, by simp, rfl, rfl⟩
  case round =>
    obtain ⟨i, hi, rfl, rfl, rfl⟩ := hrel
    by_cases hlt : i < L.length
    · obtain ⟨g, off, rfl, hg, hc⟩ := H.out.cell (by rw [H.out.len]; omega)
      have hx : i < xs.length := by rw [H.out.len]; exact hlt
      have hcx := hc i xs[i] (by simp [hx])
      obtain ⟨Ai, ci, hxi, hby, hn⟩ := H.out.txt i hx hlt
      rw [hxi] at hcx
      have e1 := HP.out i hlt
      have e2 := HB.out (i + 1)
      have e3 : L.getD i [] = L[i] := by simp [List.getD, hlt]
      rw [e3] at e1
      obtain ⟨s, hs⟩ : ∃ s, (L.take i).flatten.length = s := ⟨_, rfl⟩
      obtain ⟨m, hm⟩ : ∃ m, L[i].length = m := ⟨_, rfl⟩
      rw [hs, hm] at e1
      rw [hm] at hcx
      rw [hs]
      have b1 : (s : Int) + (m : Int) ≤ 500000000 := by omega
      have E1 := Lib.hid e1
      clear hxi hby hn hc e3 hs hm hx e1 e2
      go_wp2
      go_roundw
      case rel => exact ⟨i + 1, by omega, by rw [← E1.out]; go_num, by go_num, by first | rfl | trivial⟩
      case measure => simp [intOf]; omega
    · obtain rfl : i = L.length := by omega
      have e2 := HB.out L.length
      obtain ⟨s, hs⟩ : ∃ s, (L.take L.length).flatten.length = s := ⟨_, rfl⟩
      rw [hs] at e2 ⊢
      clear hs
      go_wp2_with fail
      refine (grow_nil s (by omega) wr).mono ?_
      rintro e w1 ⟨v, rfl, ho, hb1⟩
      go_wp2_with fail
      go_loopw [6, 27] (fun v t wx => ∃ i : Nat, i ≤ L.length ∧ t = .int .i64 i ∧ Own8 wr.heap.size wx v (L.take i).flatten ∧ Below wr.heap.size wr wx)
        (fun _ t _ => L.length - (intOf t).toNat)
      case atStart => exact ⟨0, Nat.zero_le _, rfl, by simpa using ho, hb1⟩
      case round =>
        clear ho hb1 e2
        obtain ⟨i, hi, rfl, ho, hb⟩ := hrel
        by_cases hlt : i < L.length
        · obtain ⟨g, off, rfl, hg, hc⟩ := H.out.cell (by rw [H.out.len]; omega)
          have hx : i < xs.length := by rw [H.out.len]; exact hlt
          obtain ⟨Ai, ci, hxi, hby, hn⟩ := H.out.txt i hx hlt
          have hcx := hc i xs[i] (by simp [hx])
          rw [hxi] at hcx
          have hcx' := (hb.cell (p := ⟨g, off + i, none⟩) hg).trans hcx
          have e1 := HP.out i hlt
          have e2 := HB.out (i + 1)
          have e3 : L.getD i [] = L[i] := by simp [List.getD, hlt]
          rw [e3] at e1
          have e4 : (L.take (i + 1)).flatten = (L.take i).flatten ++ L[i] := by rw [List.take_succ_eq_append_getElem hlt, List.flatten_append, List.flatten_singleton]
          obtain ⟨m, hm⟩ : ∃ m, L[i] = m := ⟨_, rfl⟩
          rw [hm] at hcx' hby e1 e4
          obtain ⟨l, hl⟩ : ∃ l, (L.take i).flatten = l := ⟨_, rfl⟩
          rw [hl] at ho e1 e4
          obtain ⟨A2, c2, rfl⟩ := ho.form
          obtain ⟨v', w', hap, ho', hf', _⟩ := app8 (ty := 51) ho (hby.below hb) (by omega) hb.size hn
          obtain ⟨A3, c3, rfl⟩ := ho'.form
          rw [List.length_append] at ho' hap
          have E4 := Lib.hid e4
          have HO := Lib.hid ho'
          have HF := Lib.hid hf'
          have HBw := Lib.hid hb
          have HO0 := Lib.hid ho
          clear hxi hby hn hc hcx e3 hm hl hx e1 e2 e4 ho ho' hf' hb
          go_wp2_with fail
          go_roundw
          case rel =>
            refine ⟨i + 1, by omega, by go_num, by rw [E4.out]; exact HO.out, HBw.out.trans (HF.out.below HBw.out.size (fun k hk e => ?_))⟩
            have := (HO0.out.lt e).1
            omega
          case measure => simp [intOf]; omega
        · obtain rfl : i = L.length := by omega
          have HO := Lib.hid ho
          clear ho
          go_wp2_with fail
          go_ret
          refine ⟨_, rfl, ?_, hb⟩
          have := HO.out
          rw [List.take_length] at this
          exact this

end Go.Proofs.YtmflhidmhefljaaDoor
end

section
namespace Go.Proofs.YtmflhidmhefljaaDoor
open Go.RowKit
set_option maxRecDepth 100000
theorem apc_of (xs : Array Value) (t : TypeId) : Builtin.append_ #[51, 51] t xs = APs #[51, 51] t xs := rfl
attribute [local go_sem ↓] apc_of

set_option maxHeartbeats 2000000 in
theorem clone_any (A : Option Addr) (c : Nat) (hc : A = none → c = 0) (l : List Int) (w : World) (hb : Byt w A l) (hl : l.length ≤ 140737488355328) :
    Calls Tryd.prog 85 #[.slice A l.length c] w fun e w' => ∃ v, e = .returned v ∧ Own8 w.heap.size w' v l ∧ Below w.heap.size w w' := by
  have hq : ∀ (W : World) (n c : Nat), (binOp .eql 51 (.slice A n c) (.slice none 0 0)).run Tryd.prog W = .ok (.bool A.isNone) W := fun W n c => Lib.run_eql_slice_nil W _ _ A n c 0 0 u22
  cases A with
  | none =>
    have e : l = [] := by
      cases l with
      | nil => rfl
      | cons x r =>
        obtain ⟨g, o, e, _⟩ := hb.cell (by simp)
        cases e
    subst e
    obtain rfl := hc rfl
    go_enter Tryd.func85, Tryd.ntmps85
    go_wp2
    first
      | (go_ret; exact ⟨_, rfl, Own8.nil _ _, Below.refl _ _⟩)
  | some a =>
    have hrow : Own8 w.heap.size (w.alloc (.cells #[] 5)) (.slice (some ⟨w.heap.size, 0, none⟩) 0 0) [] := Own8.none_ (Nat.le_refl _) (Blk.new w _ _) rfl (by unfold maxLen; omega)
    have hby := hb.below ((Below.refl _ w).alloc (Nat.le_refl _) (.cells #[] 5))
    obtain ⟨v', w', hap, ho, hf, _⟩ := app8 (ty := 51) (c := c) hrow hby (by simpa using Nat.le_trans hl (by omega)) (by simp) (by simp)
    obtain ⟨m, hm⟩ : ∃ m, l.length = m := ⟨_, rfl⟩
    rw [hm] at hap ⊢
    have HO := Lib.hid ho
    have HB := Lib.hid (((Below.refl _ w).alloc (Nat.le_refl _) (.cells #[] 5)).trans (hf.below (by simp) (fun k hk e => by simp [Value.ownBlock] at e; omega)))
    clear hrow hby ho hf hb hm
    go_enter Tryd.func85, Tryd.ntmps85
    go_wp2
    first
      | (go_ret; exact ⟨_, rfl, by simpa using HO.out, HB.out⟩)

end Go.Proofs.YtmflhidmhefljaaDoor
end

section
namespace Go.Proofs.YtmflhidmhefljaaDoor
open Go.RowKit
set_option maxRecDepth 100000

theorem zc_bys (k : Nat) : (Builtin.zeroCells (Value.int .u8 0).cells k).toList = bys (List.replicate k 0) := by
  have h := size_zeroCells (Value.int .u8 0).cells k
  apply List.ext_getElem
  · rw [Array.length_toList, h, bys_length]
    simp [Value.cells]
  · intro i h1 h2
    have hi : i < k := by simpa [bys_length] using h2
    simp [Builtin.zeroCells, bys, Value.cells, Nat.mod_one]

/-- An append of k zeros. -/
theorem app8_zeros {ty : TypeId} {B : Nat} {w : World} {v : Value} {l : List Int} (k : Nat) (h : Own8 B w v l) (hlen : l.length + k ≤ 1000000000) (hB : B ≤ w.heap.size) :
    ∃ v' w', (APs #[51, 3] ty #[v, .int .i64 (k : Int)]).run Tryd.prog w = .ok v' w' ∧ Own8 B w' v' (l ++ List.replicate k 0) ∧ Fr (fun j => v.ownBlock = some j) w w' ∧ Foot w v v' := by
  obtain ⟨i0, hi, hh⟩ := Option.map_eq_some_iff.1 izb5
  simp only [Prod.mk.injEq] at hh
  obtain ⟨hz0, hz1, hz2⟩ := hh
  have hw : IntKind.i64.wrap (k : Int) = k := by rw [IntKind.wrap_i64]; omega
  have hw0 : IntKind.i64.wrap (0 : Int) = 0 := by decide
  have hneg : ¬ ((k : Int) < 0) := by omega
  have h48 : ¬ (281474976710656 < (k : Int)) := by omega
  obtain ⟨hl, ⟨rfl, hn⟩ | ⟨g, cap, cur, rfl, hg, hb, hnc, hcm, hcs, ht⟩⟩ := h
  · have e : l = [] := List.length_eq_zero_iff.1 hn
    subst e
    by_cases h0 : k = 0
    · subst h0
      refine ⟨.slice none 0 0, w, ?_, by simpa using Own8.nil B w, Fr.refl _ _, Foot.refl _ _⟩
      simp [APs, Builtin.append_, run_underlying u22, run_underlying uI3, sizeOf, typeInfo, hi, hz2, asInt, asIntOf, hw0]
    · have hr := Lib.run_append_nil_zeros (P := Tryd.prog) w 51 3 ty 5 i0 (.int .u8 0) .i64 .i64 u22 uI3 hi hz0 k (by omega) (by omega) (by omega) (by rw [hz2]; omega)
      have hge := grownCap_ge w k 0 5
      have hle := grownCap_le_maxLen w k 0 5 (by unfold maxLen; omega)
      refine ⟨_, _, hr, ⟨by simp [bys_length], .inr ⟨w.heap.size, _, _, by simp, hB, (Blk.new w.drew _ _), by simpa using hge, hle, ?_, ?_⟩⟩, (Fr.refl _ w).drew.alloc _, ?_⟩
      · simp [size_zeroCells, Value.cells]; omega
      · rw [Array.toList_append, zc_bys]
        simp [bys_length]
      · intro j hj
        right
        cases hj
        exact Nat.le_refl _
  · have hxs : (bys l).length = l.length := bys_length l
    by_cases hroom : l.length + k ≤ cap
    · have hst := run_storeCells_at (P := Tryd.prog) g l.length 5 (bys (List.replicate k 0)) 0 cur w hb (by simp [bys_length]; omega) (bys_one _)
      simp only [Nat.add_zero] at hst
      refine ⟨.slice (some ⟨g, 0, none⟩) (l.length + k) cap, w.setRow g (cur.toList.take l.length ++ bys (List.replicate k 0) ++ cur.toList.drop (l.length + (bys (List.replicate k 0)).length)).toArray, ?_, ?_, (Fr.refl (fun j => (Value.slice (some ⟨g, 0, none⟩) l.length cap).ownBlock = some j) w).setRow (fun _ => rfl) _, fun j hj => .inl hj⟩
      · by_cases h0 : k = 0
        · subst h0
          have e : ((cur.toList.take l.length ++ bys (List.replicate 0 0) ++ cur.toList.drop (l.length + (bys (List.replicate 0 0)).length)).toArray) = cur := by simp [bys]
          rw [e]
          rw [e] at hst
          simp only [List.replicate_zero] at hst
          have hs0 : (storeCells ⟨g, l.length, none⟩ ([] : List Value) 0).run Tryd.prog w = .ok () (w.setRow g cur) := by simpa [bys] using hst
          simp [APs, Builtin.append_, run_underlying u22, run_underlying uI3, sizeOf, typeInfo, hi, hz1, hz2, asInt, asIntOf, hw0, hnc, Addr.add_lit, hs0]
        · have hkk : ¬ k = 0 := h0
          simp [APs, Builtin.append_, run_underlying u22, run_underlying uI3, sizeOf, typeInfo, zeroValue, hi, hz0, hz1, hz2, asInt, asIntOf, hw, hneg, h48, hkk, hroom, Addr.add_lit, zc_bys, hst]
      · refine ⟨by simp [bys_length], .inr ⟨g, cap, _, by simp, hg, setRow_heap w g cur _ _ _ hb, by simpa using hroom, hcm, ?_, ?_⟩⟩
        · simp [bys_length]; omega
        · have e1 : (cur.toList.take l.length) = bys l := by simpa using ht
          rw [e1, bys_app]
          have e2 : (bys l ++ bys (List.replicate k 0)).length = (l ++ List.replicate k 0).length * 1 := by simp [bys_length]
          show ((bys l ++ bys (List.replicate k 0)) ++ _).take _ = _
          rw [← e2, List.take_left]
    · have hfc := run_firstCells_some (P := Tryd.prog) (w := w.drew) 1 l.length ⟨g, 0, none⟩ l.length cap (bys l) (by simp [bys_length]) (fun j u hu => World.ownsRow.cells (w := w) (base := B) (v := .slice (some ⟨g, 0, none⟩) l.length cap) (g := g) ⟨hl, .inr ⟨g, cap, cur, rfl, hg, hb, hnc, hcm, hcs, ht⟩⟩ rfl j u hu)
      have hr := Lib.run_append_grow_zeros (P := Tryd.prog) w 51 3 ty 5 i0 (.int .u8 0) .i64 .i64 u22 uI3 hi hz0 (some ⟨g, 0, none⟩) l.length cap (bys l) (by rw [hz1]; exact hfc) k (by omega) (by omega) (by omega) (by omega) (by rw [hz2]; omega) (by rw [hz2]; exact growslice_fits (by omega) (by omega))
      have hge := grownCap_ge w (l.length + k) cap 5
      have hle := grownCap_le_maxLen w (l.length + k) cap 5 (by unfold maxLen; omega)
      refine ⟨_, _, hr, ⟨by simp [bys_length], .inr ⟨w.heap.size, _, _, by simp, hB, (Blk.new w.drew _ _), by simpa using hge, hle, ?_, ?_⟩⟩, (Fr.refl _ w).drew.alloc _, ?_⟩
      · simp [size_zeroCells, Value.cells, bys_length]; omega
      · rw [Array.toList_append, Array.toList_append, zc_bys, bys_app]
        have e2 : (bys l ++ bys (List.replicate k 0)).length = (l ++ List.replicate k 0).length * 1 := by simp [bys_length]
        rw [← e2]
        exact List.take_left
      · intro j hj
        right
        cases hj
        exact Nat.le_refl _

end Go.Proofs.YtmflhidmhefljaaDoor
end
