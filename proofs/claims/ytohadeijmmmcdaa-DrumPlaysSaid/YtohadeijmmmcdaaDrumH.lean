/-
  The statements' helpers: full, Bytes, Pick.
-/
import Derived.Test.YtohadeijmmmcdaaDrumG
namespace Go.Proofs.Ytohadeijmmmcdaa
open Go.RowKit

theorem iz5 : (Try.prog.info? 5).map (fun i => (i.zero, i.size, i.bytes)) = some (some (.int .u8 0), 1, 1) := by kernel_rfl

theorem made_bytes (n : Nat) : madeCells #[Value.int .u8 0] n = (bys (List.replicate n 0)).toArray := by
  apply Array.ext'
  rw [made_eq #[Value.int .u8 0] (.int .u8 0) n 1 rfl (by omega)]
  simp [bys]

/-- Make bytes. -/
theorem make_bytes (n : Nat) (hn : n ≤ 1000000000) (w : World) : (Instr.makeSlice 26 (.int .i64 (n : Int)) (.int .i64 (n : Int))).run Try.prog w = .ok (.slice (some ⟨w.heap.size, 0, none⟩) n n) (w.alloc (.cells (bys (List.replicate n 0)).toArray 5)) := by
  obtain ⟨i, hi, hh⟩ := Option.map_eq_some_iff.1 iz5
  simp only [Prod.mk.injEq] at hh
  obtain ⟨hz, hs, hb⟩ := hh
  have hr := run_make (P := Try.prog) w 26 5 i (.int .u8 0) Try.underlying26 hi hz .i64 .i64 n n (by omega) (Int.le_refl _) (by rw [hb]; omega) (by omega)
  rw [hs] at hr
  simp only [Int.toNat_natCast, Nat.mul_one, Value.cells, made_bytes] at hr
  exact hr

set_option maxHeartbeats 1000000 in
theorem full_any (c : Int) (w : World) :
    Calls Try.prog 9 #[.int .u8 c] w fun e w' => e = .returned (.slice (some ⟨w.heap.size, 0, none⟩) 64 64) ∧ Blk w' w.heap.size 5 (bys (List.replicate 64 c)).toArray ∧ Below w.heap.size w w' := by
  have hmk := make_bytes 64 (by omega)
  have hmk' : ∀ w : World, (Instr.makeSlice 26 (.int .i64 64) (.int .i64 64)).run Try.prog w = .ok (.slice (some ⟨w.heap.size, 0, none⟩) 64 64) (w.alloc (.cells (bys (List.replicate 64 0)).toArray 5)) := hmk
  obtain ⟨C, hC⟩ : ∃ C, (bys (List.replicate 64 0)).toArray = C := ⟨_, rfl⟩
  rw [hC] at hmk'
  have HC := Lib.hid hC
  clear hmk hC
  go_enter Try.func9, Try.ntmps9
  go_wp2
  have hb0 : Blk (w.alloc (.cells C 5)) w.heap.size 5 C := Blk.new _ _ _
  have hl0 : Below w.heap.size w (w.alloc (.cells C 5)) := (Below.refl _ _).alloc (Nat.le_refl _) _
  have HB0 := Lib.hid hb0
  have HL0 := Lib.hid hl0
  clear hb0 hl0 hmk'
  go_loopw [4] (fun t wr => ∃ i : Nat, i ≤ 64 ∧ t = .int .i64 i ∧ Blk wr w.heap.size 5 (bys (List.replicate i c ++ List.replicate (64 - i) 0)).toArray ∧ Below w.heap.size w wr)
    (fun t _ => 64 - (intOf t).toNat)
  case atStart => exact ⟨0, by omega, rfl, by rw [List.replicate_zero, List.nil_append, Nat.sub_zero, HC.out]; exact HB0.out, HL0.out⟩
  case round =>
    obtain ⟨i, hi, rfl, hb, hl⟩ := hrel
    by_cases hlt : i < 64
    · have hci : wr.cell? ⟨w.heap.size, i, none⟩ = some (.int .u8 0) := by
        rw [hb.cell]
        simp [bys_get, List.getElem?_append_right, List.getElem?_replicate]
        omega
      have hfi := hb.frozen i
      have HB := Lib.hid hb
      have HL := Lib.hid hl
      clear hb hl
      go_wp2
      refine ⟨⟨i + 1, by omega, by go_num, ?_, HL.out.setCell (p := ⟨w.heap.size, i, none⟩) (Nat.le_refl _) _⟩, by simp [intOf]; omega⟩
      have e : (bys (List.replicate (i + 1) c ++ List.replicate (64 - (i + 1)) 0)).toArray = (bys (List.replicate i c ++ List.replicate (64 - i) 0)).toArray.setIfInBounds i (.int .u8 c) := by
        apply Array.ext'
        have e2 : List.replicate (64 - i) (0 : Int) = 0 :: List.replicate (64 - (i + 1)) 0 := by
          rw [show 64 - i = (64 - (i + 1)) + 1 by omega, List.replicate_succ]
        rw [e2]
        simp [bys, List.replicate_succ', List.set_append_right]
      rw [e]
      exact HB.out.set_ i _
    · obtain rfl : i = 64 := by omega
      go_wp2
      go_ret
      exact ⟨rfl, by simpa using hb, hl⟩

theorem take_more {α : Type} [DecidableEq α] {a b : List α} {i : Nat} (ha : i < a.length) (hb : i < b.length) (h : a.take i = b.take i) (he : a[i] = b[i]) : a.take (i + 1) = b.take (i + 1) := by
  rw [List.take_succ_eq_append_getElem ha, List.take_succ_eq_append_getElem hb, h, he]

set_option maxHeartbeats 1000000 in
theorem bytes_any (A1 A2 : Option Addr) (c1 c2 : Nat) (a b : List Int) (w : World) (ha : Byt w A1 a) (hb : Byt w A2 b) (hla : a.length ≤ 1000000000) (hlb : b.length ≤ 1000000000) :
    Calls Try.prog 15 #[.slice A1 a.length c1, .slice A2 b.length c2] w fun e w' => e = .returned (.bool (decide (a = b))) ∧ ∃ m, w' = w.drewN m := by
  by_cases hl : a.length = b.length
  · have hne : ((a.length : Int) != (b.length : Int)) = false := by simp [hl]
    have HL := Lib.hid hl
    have HA := Lib.hid ha
    have HB := Lib.hid hb
    rw [← hl]
    clear hl ha hb hne
    go_enter Try.func15, Try.ntmps15
    go_wp2
    go_loopw [5] (fun t wr => ∃ i : Nat, i ≤ a.length ∧ t = .int .i64 i ∧ a.take i = b.take i ∧ ∃ m, wr = w.drewN m)
      (fun t _ => a.length - (intOf t).toNat)
    case atStart => exact ⟨0, Nat.zero_le _, rfl, rfl, 0, rfl⟩
    case round =>
      obtain ⟨i, hi, rfl, ht, m, rfl⟩ := hrel
      have HT := Lib.hid ht
      clear ht
      by_cases hlt : i < a.length
      · have hlt2 : i < b.length := by rw [← HL.out]; exact hlt
        obtain ⟨g1, o1, rfl, _, hc1⟩ := HA.out.at_ hlt
        obtain ⟨g2, o2, rfl, _, hc2⟩ := HB.out.at_ hlt2
        have hc1' : w.cell? ⟨g1, o1 + i, none⟩ = some (.int .u8 a[i]) := hc1
        have hc2' : w.cell? ⟨g2, o2 + i, none⟩ = some (.int .u8 b[i]) := hc2
        obtain ⟨x, hx⟩ : ∃ x, a[i] = x := ⟨_, rfl⟩
        obtain ⟨y, hy⟩ : ∃ y, b[i] = y := ⟨_, rfl⟩
        rw [hx] at hc1'
        rw [hy] at hc2'
        have HX := Lib.hid hx
        have HY := Lib.hid hy
        by_cases hxy : x = y
        · have hn : (x != y) = false := by simp [hxy]
          have HXY := Lib.hid hxy
          clear hc1 hc2 hx hy hxy
          go_wp2
          go_region
          go_wp2
          refine ⟨⟨i + 1, by omega, by go_num, take_more hlt hlt2 HT.out (by rw [HX.out, HY.out, HXY.out]), m + 1, rfl⟩, by simp [intOf]; omega⟩
        · have hn : (x != y) = true := by simp [hxy]
          have HXY := Lib.hid hxy
          clear hc1 hc2 hx hy hxy
          go_wp2
          go_region
          go_wp2
          go_ret
          refine ⟨?_, m + 1, rfl⟩
          have hab : a ≠ b := fun e => by
            subst e
            exact HXY.out (HX.out.symm.trans HY.out)
          simp [hab]
      · obtain rfl : i = a.length := by omega
        go_wp2
        go_ret
        have hab : a = b := by
          have h1 := HT.out
          rw [List.take_length, HL.out, List.take_length] at h1
          exact h1
        exact ⟨by simp [hab], m, rfl⟩
  · have hne : ((a.length : Int) != (b.length : Int)) = true := by simp; omega
    have hab : decide (a = b) = false := by
      simp only [decide_eq_false_iff_not]
      intro e
      exact hl (by rw [e])
    have HAB := Lib.hid hab
    clear hl ha hb hab
    go_enter Try.func15, Try.ntmps15
    go_wp2
    go_ret
    exact ⟨by rw [HAB.out]; rfl, 0, rfl⟩

theorem tmod_pick (k : Int) (n : Nat) (hn : 0 < n) : (k.tmod n < 0 → k.tmod n + n = k % n) ∧ (0 ≤ k.tmod n → k.tmod n = k % n) ∧ -(n : Int) ≤ k.tmod n ∧ k.tmod n ≤ n := by
  have h1 := Int.emod_nonneg k (show (n : Int) ≠ 0 by omega)
  have h2 := Int.emod_lt_of_pos k (show (0 : Int) < n by omega)
  have h3 : k.tmod n = k % n - ((if 0 ≤ k ∨ (n : Int) ∣ k then 0 else Int.natAbs n : Nat) : Int) := Int.tmod_eq_emod
  split at h3 <;> simp at h3 <;> omega
theorem wrap64_in (n : Int) (h : -9223372036854775808 ≤ n ∧ n ≤ 9223372036854775807) : wrap64 n = n := by unfold wrap64; omega

set_option maxHeartbeats 1000000 in
theorem pick_any (k : Int) (n : Nat) (w : World) (hn : 0 < n) (_hk : -9223372036854775808 ≤ k ∧ k ≤ 9223372036854775807) (hm : n ≤ 1000000) :
    Calls Try.prog 10 #[.int .i64 k, .int .i64 (n : Int)] w fun e w' => e = .returned (.int .i64 (k % n)) ∧ w = w' := by
  have h1 : decide ((n : Int) < 1) = false := by simp; omega
  have h0 : ((n : Int) == 0) = false := by simp; omega
  go_enter Try.func10, Try.ntmps10
  go_wp2
  · go_ret
    have ht := tmod_pick k n hn
    have hlt : k.tmod n < 0 := by assumption
    refine ⟨?_, rfl⟩
    have e : wrap64 (k.tmod n + n) = k % n := by
      rw [← ht.1 hlt]
      exact wrap64_in _ (by omega)
    rw [← e]
    rfl
  · go_ret
    have ht := tmod_pick k n hn
    have hlt : 0 ≤ k.tmod n := by assumption
    refine ⟨?_, rfl⟩
    rw [← ht.2.1 hlt]
    rfl

end Go.Proofs.Ytohadeijmmmcdaa
