/-
  slices.Grow of nothing, slices.Concat: of numbers.
-/
import Derived.Test.YtmflhidmhefljaaDoorMapH
import Derived.Lib.AppendZeros
import Derived.Lib.AppendZerosOnto
import Derived.Laws.AppendOwnNone
namespace Go.Proofs.YtmflhidmhefljaaDoor
open Go.RowKit
set_option maxRecDepth 100000
theorem iI5 : (Tryd.prog.info? 3).map (·.size) = some 1 := by kernel_rfl

/-- A row of rows of numbers. -/
structure IntsV (w : World) (A : Option Addr) (xs : List Value) (L : List (List Int)) : Prop where
  len : xs.length = L.length
  cell : 0 < xs.length → ∃ g off, A = some ⟨g, off, none⟩ ∧ g < w.heap.size ∧ ∀ j x, xs[j]? = some x → w.cell? ⟨g, off + j, none⟩ = some x
  txt : ∀ i (h : i < xs.length) (h' : i < L.length), ∃ A c, xs[i] = .slice A L[i].length c ∧ RdW .i64 w A L[i] ∧ (A = none → c = 0)
/-- An append of numbers, wherever they lie. -/
theorem appIM {ty : TypeId} {B : Nat} {w : World} {v : Value} {l m : List Int} {A : Option Addr} {c : Nat} (h : OwnI B w v l) (hm : RdW .i64 w A m) (hlen : l.length + m.length ≤ 1000000000) (hB : B ≤ w.heap.size) (hc : A = none → c = 0) :
    ∃ v' w', (APs #[38, 38] ty #[v, .slice A m.length c]).run Tryd.prog w = .ok v' w' ∧ OwnI B w' v' (l ++ m) ∧ Fr (fun k => v.ownBlock = some k) w w' ∧ Foot w v v' := by
  cases A with
  | none =>
    have e : m = [] := by
      cases m with
      | nil => rfl
      | cons x r =>
        obtain ⟨g, o, e, _⟩ := hm (by simp)
        cases e
    subst e
    obtain rfl := hc rfl
    obtain ⟨i, hi⟩ := Option.map_eq_some_iff.1 iI5
    refine ⟨v, w, run_append_owned_none w B 38 ty 3 i 1 uInts hi.1 v l.length (wds .i64 l) h, by simpa using h, Fr.refl _ _, Foot.refl _ _⟩
  | some a =>
    refine appW (ty := ty) uInts iInts (by omega) h (fun j x hx => ?_) hlen hB
    have hj : j < m.length := (List.getElem?_eq_some_iff.1 hx).1
    obtain ⟨g, o, e, _, hcell⟩ := hm (by omega)
    cases e
    have hadd : (⟨g, o, none⟩ : Addr).add j = ⟨g, o + j, none⟩ := by unfold Addr.add; split <;> simp_all
    rw [hadd]
    exact hcell j x hx

theorem slcI (x : Value) (lo hi mx : Option Value) : Instr.sliceAt 38 x lo hi mx = SLs 38 x lo hi mx := rfl
theorem apIZ_of (xs : Array Value) (t : TypeId) : Builtin.append_ #[38, 3] t xs = APs #[38, 3] t xs := rfl
attribute [local go_sem ↓] apI_of apIZ_of slcI

theorem izI : (Tryd.prog.info? 3).map (fun i => (i.zero, i.size, i.bytes)) = some (some (.int .i64 0), 1, 8) := by kernel_rfl

/-- A row of one's own, cut to nothing. -/
theorem OwnI.none_ {B g cap : Nat} {w : World} {cur : Array Value} (hB : B ≤ g) (hb : Blk w g 3 cur) (hs : cur.size = cap) (hm : cap ≤ maxLen) : OwnI B w (.slice (some ⟨g, 0, none⟩) 0 cap) [] :=
  ⟨rfl, .inr ⟨g, cap, cur, rfl, hB, hb, Nat.zero_le _, hm, by omega, by simp [wds]⟩⟩

theorem SLsI_head {w : World} {g n cap : Nat} (hn : 0 < cap) (h : Int) (e : h = 0) : (SLs 38 (.slice (some ⟨g, 0, none⟩) n cap) none (some (.int .i64 h)) none).run Tryd.prog w = .ok (.slice (some ⟨g, 0, none⟩) 0 cap) w := by
  subst e
  obtain ⟨i, hq, hi⟩ := Option.map_eq_some_iff.1 iI5
  have hne : ¬ cap = 0 := by omega
  simp [SLs, Instr.sliceAt, Instr.slice, Instr.sliceBounds, Instr.sliceBound, asIntOf, run_underlying uInts, sizeOf, typeInfo, hq, Addr.add]
theorem SLsI_nil {w : World} (h : Int) (e : h = 0) : (SLs 38 (.slice none 0 0) none (some (.int .i64 h)) none).run Tryd.prog w = .ok (.slice none 0 0) w := by
  subst e
  obtain ⟨i, hq, hi⟩ := Option.map_eq_some_iff.1 iI5
  simp [SLs, Instr.sliceAt, Instr.slice, Instr.sliceBounds, Instr.sliceBound, asIntOf, run_underlying uInts, sizeOf, typeInfo, hq]

set_option maxHeartbeats 2000000 in
theorem growI_nil (n : Nat) (hn : n ≤ 1000000) (w : World) :
    Calls Tryd.prog 42 #[.slice none 0 0, .int .i64 (n : Int)] w fun e w' => ∃ v, e = .returned v ∧ OwnI w.heap.size w' v [] ∧ Below w.heap.size w w' := by
  by_cases h0 : n = 0
  · subst h0
    go_enter Tryd.func42, Tryd.ntmps42
    go_wp2
    go_ret
    exact ⟨_, rfl, OwnW.nil _ _ _ _, Below.refl _ _⟩
  · obtain ⟨i0, hi, hh⟩ := Option.map_eq_some_iff.1 izI
    simp only [Prod.mk.injEq] at hh
    obtain ⟨hz0, hz1, hz2⟩ := hh
    have happ0 := Lib.run_append_nil_zeros (P := Tryd.prog) w 38 3 38 3 i0 (.int .i64 0) .i64 .i64 uInts uI64 hi hz0 n (by omega) (by omega) (by omega) (by rw [hz2]; omega)
    have happ : (APs #[38, 3] 38 #[.slice none 0 0, .int .i64 (n : Int)]).run Tryd.prog w = _ := happ0
    clear happ0
    have hge := grownCap_ge w n 0 3
    have hle := grownCap_le_maxLen w n 0 3 (by unfold maxLen; omega)
    obtain ⟨cap, hcap⟩ : ∃ cap, grownCap w n 0 3 = cap := ⟨_, rfl⟩
    rw [hcap] at happ hge hle
    obtain ⟨Z, hZ⟩ : ∃ Z, Builtin.zeroCells (Value.int .i64 0).cells n ++ Builtin.zeroCells (Value.int .i64 0).cells (cap - n) = Z := ⟨_, rfl⟩
    rw [hZ] at happ
    have hZs : Z.size = cap := by rw [← hZ]; simp [size_zeroCells, Value.cells]; omega
    clear hcap hZ hi hz0 hz1 hz2 i0
    have hsl : ∀ W : World, (SLs 38 (.slice (some ⟨w.heap.size, 0, none⟩) n cap) none (some (.int .i64 0)) none).run Tryd.prog W = .ok (.slice (some ⟨w.heap.size, 0, none⟩) 0 cap) W := fun W => SLsI_head (by omega) 0 rfl
    have hsl0 : ∀ W : World, (SLs 38 (.slice none 0 0) none (some (.int .i64 0)) none).run Tryd.prog W = .ok (.slice none 0 0) W := fun W => SLsI_nil 0 rfl
    have hpos : (0 : Int) < (n : Int) := by omega
    go_enter Tryd.func42, Tryd.ntmps42
    go_wp2
    first
      | (go_ret
         refine ⟨_, rfl, OwnI.none_ (Nat.le_refl _) ((Blk.new w _ Z).drew) hZs hle, ((Below.refl _ w).alloc (Nat.le_refl _) _).drew⟩)

set_option maxHeartbeats 4000000 in
theorem concatI_any (A : Option Addr) (c : Nat) (xs : List Value) (L : List (List Int)) (w : World) (h : IntsV w A xs L) (hL : L.length ≤ 1000) (hlen : L.flatten.length ≤ 900000) :
    Calls Tryd.prog 30 #[.slice A L.length c] w fun e w' => ∃ v, e = .returned v ∧ OwnI w.heap.size w' v L.flatten ∧ Below w.heap.size w w' := by
  have H := Lib.hid h
  have HL := Lib.hid hlen
  clear h hlen
  have hpre : ∀ i, i < L.length → (L.take i).flatten.length + (L.getD i []).length = (L.take (i + 1)).flatten.length := fun i hi => by
    rw [List.take_succ_eq_append_getElem hi, List.flatten_append, List.flatten_singleton, List.length_append]
    have e : L.getD i [] = L[i] := by simp [List.getD, hi]
    rw [e]
  have hbd : ∀ i, (L.take i).flatten.length ≤ 900000 := fun i => by
    have := HL.out
    have e : L.flatten = (L.take i).flatten ++ (L.drop i).flatten := by rw [← List.flatten_append, List.take_append_drop]
    rw [e, List.length_append] at this
    omega
  have HP := Lib.hid hpre
  have HB := Lib.hid hbd
  clear hpre hbd
  go_enter Tryd.func30, Tryd.ntmps30
  go_wp2
  go_loopw [3, 11] (fun s t wr => ∃ i : Nat, i ≤ L.length ∧ s = .int .i64 ((L.take i).flatten.length : Nat) ∧ t = .int .i64 i ∧ wr = w)
    (fun _ t _ => L.length - (intOf t).toNat)
  case atStart => exact ⟨0, Nat.zero_le _, by simp, rfl, rfl⟩
  case round =>
    obtain ⟨i, hi, rfl, rfl, rfl⟩ := hrel
    by_cases hlt : i < L.length
    · obtain ⟨g, off, rfl, hg, hc⟩ := H.out.cell (by rw [H.out.len]; omega)
      have hx : i < xs.length := by rw [H.out.len]; exact hlt
      have hcx := hc i xs[i] (by simp [hx])
      obtain ⟨Ai, ci, hxi, hby, hn⟩ := H.out.txt i hx hlt
      rw [hxi] at hcx
      have e1 := HP.out i hlt
      have e2 := HB.out (i + 1)
      have e3 : L.getD i [] = L[i] := by simp [List.getD, hlt]
      rw [e3] at e1
      obtain ⟨s, hs⟩ : ∃ s, (L.take i).flatten.length = s := ⟨_, rfl⟩
      obtain ⟨m, hm⟩ : ∃ m, L[i].length = m := ⟨_, rfl⟩
      rw [hs, hm] at e1
      rw [hm] at hcx
      rw [hs]
      have b1 : (s : Int) + (m : Int) ≤ 900000 := by omega
      have E1 := Lib.hid e1
      clear hxi hby hn hc e3 hs hm hx e1 e2
      go_wp2
      go_roundw
      case rel => exact ⟨i + 1, by omega, by rw [← E1.out]; go_num, by go_num, by first | rfl | trivial⟩
      case measure => simp [intOf]; omega
    · obtain rfl : i = L.length := by omega
      have e2 := HB.out L.length
      obtain ⟨s, hs⟩ : ∃ s, (L.take L.length).flatten.length = s := ⟨_, rfl⟩
      rw [hs] at e2 ⊢
      clear hs
      go_wp2_with fail
      refine (growI_nil s (by omega) wr).mono ?_
      rintro e w1 ⟨v, rfl, ho, hb1⟩
      go_wp2_with fail
      go_loopw [6, 27] (fun v t wx => ∃ i : Nat, i ≤ L.length ∧ t = .int .i64 i ∧ OwnI wr.heap.size wx v (L.take i).flatten ∧ Below wr.heap.size wr wx)
        (fun _ t _ => L.length - (intOf t).toNat)
      case atStart => exact ⟨0, Nat.zero_le _, rfl, by simpa using ho, hb1⟩
      case round =>
        clear ho hb1 e2
        obtain ⟨i, hi, rfl, ho, hb⟩ := hrel
        by_cases hlt : i < L.length
        · obtain ⟨g, off, rfl, hg, hc⟩ := H.out.cell (by rw [H.out.len]; omega)
          have hx : i < xs.length := by rw [H.out.len]; exact hlt
          obtain ⟨Ai, ci, hxi, hby, hn⟩ := H.out.txt i hx hlt
          have hcx := hc i xs[i] (by simp [hx])
          rw [hxi] at hcx
          have hcx' := (hb.cell (p := ⟨g, off + i, none⟩) hg).trans hcx
          have e1 := HP.out i hlt
          have e2 := HB.out (i + 1)
          have e3 : L.getD i [] = L[i] := by simp [List.getD, hlt]
          rw [e3] at e1
          have e4 : (L.take (i + 1)).flatten = (L.take i).flatten ++ L[i] := by rw [List.take_succ_eq_append_getElem hlt, List.flatten_append, List.flatten_singleton]
          obtain ⟨m, hm⟩ : ∃ m, L[i] = m := ⟨_, rfl⟩
          rw [hm] at hcx' hby e1 e4
          obtain ⟨l, hl⟩ : ∃ l, (L.take i).flatten = l := ⟨_, rfl⟩
          rw [hl] at ho e1 e4
          obtain ⟨A2, c2, rfl⟩ := OwnW.form ho
          obtain ⟨v', w', hap, ho', hf', _⟩ := appIM (ty := 38) ho (hby.below hb) (by omega) hb.size hn
          obtain ⟨A3, c3, rfl⟩ := OwnW.form ho'
          rw [List.length_append] at ho' hap
          have E4 := Lib.hid e4
          have HO := Lib.hid ho'
          have HF := Lib.hid hf'
          have HBw := Lib.hid hb
          have HO0 := Lib.hid ho
          clear hxi hby hn hc hcx e3 hm hl hx e1 e2 e4 ho ho' hf' hb
          go_wp2_with fail
          go_roundw
          case rel =>
            refine ⟨i + 1, by omega, by go_num, by rw [E4.out]; exact HO.out, HBw.out.trans (HF.out.below HBw.out.size (fun k hk e => ?_))⟩
            have := (OwnW.lt HO0.out e).1
            omega
          case measure => simp [intOf]; omega
        · obtain rfl : i = L.length := by omega
          have HO := Lib.hid ho
          clear ho
          go_wp2_with fail
          go_ret
          refine ⟨_, rfl, ?_, hb⟩
          have := HO.out
          rw [List.take_length] at this
          exact this
end Go.Proofs.YtmflhidmhefljaaDoor
