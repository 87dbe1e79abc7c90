/-
  The drum without law 12's helpers: bytes compared; New.
-/
import Derived.Test.YtohadeijmmmcdaaDoorDrumG
namespace Go.Proofs.YtohadeijmmmcdaaDoor
open Go.RowKit
set_option maxRecDepth 100000

theorem iz5 : (Tryd.prog.info? 5).map (fun i => (i.zero, i.size, i.bytes)) = some (some (.int .u8 0), 1, 1) := by kernel_rfl

theorem made_bytes (n : Nat) : madeCells #[Value.int .u8 0] n = (bys (List.replicate n 0)).toArray := by
  apply Array.ext'
  rw [made_eq #[Value.int .u8 0] (.int .u8 0) n 1 rfl (by omega)]
  simp [bys]

/-- Make bytes. -/
theorem make_bytes (n : Nat) (hn : n ≤ 1000000000) (w : World) : (Instr.makeSlice 22 (.int .i64 (n : Int)) (.int .i64 (n : Int))).run Tryd.prog w = .ok (.slice (some ⟨w.heap.size, 0, none⟩) n n) (w.alloc (.cells (bys (List.replicate n 0)).toArray 5)) := by
  obtain ⟨i, hi, hh⟩ := Option.map_eq_some_iff.1 iz5
  simp only [Prod.mk.injEq] at hh
  obtain ⟨hz, hs, hb⟩ := hh
  have hr := run_make (P := Tryd.prog) w 22 5 i (.int .u8 0) Tryd.underlying22 hi hz .i64 .i64 n n (by omega) (Int.le_refl _) (by rw [hb]; omega) (by omega)
  rw [hs] at hr
  simp only [Int.toNat_natCast, Nat.mul_one, Value.cells, made_bytes] at hr
  exact hr

theorem take_more {α : Type} [DecidableEq α] {a b : List α} {i : Nat} (ha : i < a.length) (hb : i < b.length) (h : a.take i = b.take i) (he : a[i] = b[i]) : a.take (i + 1) = b.take (i + 1) := by
  rw [List.take_succ_eq_append_getElem ha, List.take_succ_eq_append_getElem hb, h, he]

set_option maxHeartbeats 1000000 in
theorem bytes_any (A1 A2 : Option Addr) (c1 c2 : Nat) (a b : List Int) (w : World) (ha : Byt w A1 a) (hb : Byt w A2 b) (hla : a.length ≤ 1000000000) (hlb : b.length ≤ 1000000000) :
    Calls Tryd.prog 17 #[.slice A1 a.length c1, .slice A2 b.length c2] w fun e w' => e = .returned (.bool (decide (a = b))) ∧ ∃ m, w' = w.drewN m := by
  by_cases hl : a.length = b.length
  · have hne : ((a.length : Int) != (b.length : Int)) = false := by simp [hl]
    have HL := Lib.hid hl
    have HA := Lib.hid ha
    have HB := Lib.hid hb
    rw [← hl]
    clear hl ha hb hne
    go_enter Tryd.func17, Tryd.ntmps17
    go_wp2
    go_loopw [5] (fun t wr => ∃ i : Nat, i ≤ a.length ∧ t = .int .i64 i ∧ a.take i = b.take i ∧ ∃ m, wr = w.drewN m)
      (fun t _ => a.length - (intOf t).toNat)
    case atStart => exact ⟨0, Nat.zero_le _, rfl, rfl, 0, rfl⟩
    case round =>
      obtain ⟨i, hi, rfl, ht, m, rfl⟩ := hrel
      have HT := Lib.hid ht
      clear ht
      by_cases hlt : i < a.length
      · have hlt2 : i < b.length := by rw [← HL.out]; exact hlt
        obtain ⟨g1, o1, rfl, _, hc1⟩ := HA.out.at_ hlt
        obtain ⟨g2, o2, rfl, _, hc2⟩ := HB.out.at_ hlt2
        have hc1' : w.cell? ⟨g1, o1 + i, none⟩ = some (.int .u8 a[i]) := hc1
        have hc2' : w.cell? ⟨g2, o2 + i, none⟩ = some (.int .u8 b[i]) := hc2
        obtain ⟨x, hx⟩ : ∃ x, a[i] = x := ⟨_, rfl⟩
        obtain ⟨y, hy⟩ : ∃ y, b[i] = y := ⟨_, rfl⟩
        rw [hx] at hc1'
        rw [hy] at hc2'
        have HX := Lib.hid hx
        have HY := Lib.hid hy
        by_cases hxy : x = y
        · have hn : (x != y) = false := by simp [hxy]
          have HXY := Lib.hid hxy
          clear hc1 hc2 hx hy hxy
          go_wp2
          go_region
          go_wp2
          refine ⟨⟨i + 1, by omega, by go_num, take_more hlt hlt2 HT.out (by rw [HX.out, HY.out, HXY.out]), m + 1, rfl⟩, by simp [intOf]; omega⟩
        · have hn : (x != y) = true := by simp [hxy]
          have HXY := Lib.hid hxy
          clear hc1 hc2 hx hy hxy
          go_wp2
          go_region
          go_wp2
          go_ret
          refine ⟨?_, m + 1, rfl⟩
          have hab : a ≠ b := fun e => by
            subst e
            exact HXY.out (HX.out.symm.trans HY.out)
          simp [hab]
      · obtain rfl : i = a.length := by omega
        go_wp2
        go_ret
        have hab : a = b := by
          have h1 := HT.out
          rw [List.take_length, HL.out, List.take_length] at h1
          exact h1
        exact ⟨by simp [hab], m, rfl⟩
  · have hne : ((a.length : Int) != (b.length : Int)) = true := by simp; omega
    have hab : decide (a = b) = false := by
      simp only [decide_eq_false_iff_not]
      intro e
      exact hl (by rw [e])
    have HAB := Lib.hid hab
    clear hl ha hb hab
    go_enter Tryd.func17, Tryd.ntmps17
    go_wp2
    go_ret
    exact ⟨by rw [HAB.out]; rfl, 0, rfl⟩

theorem wrap64_in (n : Int) (h : -9223372036854775808 ≤ n ∧ n ≤ 9223372036854775807) : wrap64 n = n := by unfold wrap64; omega

theorem new_drum (n : Nat) (w : World) (h1 : 1 ≤ n) (h2 : n ≤ 8192) :
    Calls Tryd.prog 18 #[.int .i64 (n : Int)] w fun e w' => e = .returned (.pointer (some ⟨w.heap.size + 1, 0, none⟩)) ∧
      IsDrum w.heap.size w' (w.heap.size + 1) w.heap.size (.slice none 0 0) (DS.new n) ∧ Below w.heap.size w w' := by
  refine (new_some n w h1 h2).mono ?_
  rintro e w' ⟨rfl, hd, hb, hf⟩
  refine ⟨rfl, ⟨DS.new_ok h1 h2, by omega, Nat.le_refl _, by simpa [DS.new] using hd, ?_, World.ownsRow_nil _ _ _ _⟩, hf.below (Nat.le_refl _) (fun _ _ f => f)⟩
  have e : bys (DS.new n).sure.flatten = List.replicate (n * 64) (Value.int .u8 0) := by
    show bys (List.replicate n (List.replicate 64 0)).flatten = _
    rw [List.flatten_replicate_replicate]
    exact List.map_replicate
  rw [e]
  exact hb

/-- A drum's frame is over B. -/
theorem IsDrum.below {B : Nat} {w w' : World} {p gs : Nat} {wv : Value} {S : DS} (h : IsDrum B w p gs wv S) (hf : Fr (DF p gs wv) w w') {B' : Nat} (hB : B' ≤ B) (hw : B' ≤ w.heap.size) : Below B' w w' :=
  hf.below hw (fun k hk hd => by have := (h.lt hd).1; omega)


end Go.Proofs.YtohadeijmmmcdaaDoor
