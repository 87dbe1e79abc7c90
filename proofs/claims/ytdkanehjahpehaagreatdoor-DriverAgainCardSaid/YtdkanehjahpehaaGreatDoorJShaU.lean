/-
  A word turned; the words of the rounds.
  The digests' small functions: four bytes as a word, a number's bytes.
  The words of all rounds (sha.schedule).
  A block taken into the words (sha.step).
-/
import Derived.Test.YtdkanehjahpehaaGreatDoorJDrumA
import Derived.Test.YtdkanehjahpehaaGreatDoorChecked
import Derived.Test.YtdkanehjahpehaaGreatDoorJScrB
import Derived.Test.YtdkanehjahpehaaGreatDoorJBytA
import Derived.Deep.RegionHeld3
import Derived.Deep.LoopGhost
import Derived.BigQuiet
import Derived.Deep.QuietTactic

section
section
namespace Go.Proofs.YtdkanehjahpehaaGreatDoor
open Go.RowKit
set_option maxRecDepth 100000

theorem turn_2 (x : Int) (w : World) :
    Calls Tryz.prog 217 #[.int .u32 x, .int .i64 2] w fun e w' => e = .returned (.int .u32 (rotP x 2)) ∧ w' = w := by
  have hs : bits BinOp.and IntKind.u64 (IntKind.u64.wrap (-2)) 31 = 30 := by decide +kernel
  go_enter Tryz.func217, Tryz.ntmps217
  go_wp2
  go_ret
  exact ⟨rfl, rfl⟩
theorem turn_6 (x : Int) (w : World) :
    Calls Tryz.prog 217 #[.int .u32 x, .int .i64 6] w fun e w' => e = .returned (.int .u32 (rotP x 6)) ∧ w' = w := by
  have hs : bits BinOp.and IntKind.u64 (IntKind.u64.wrap (-6)) 31 = 26 := by decide +kernel
  go_enter Tryz.func217, Tryz.ntmps217
  go_wp2
  go_ret
  exact ⟨rfl, rfl⟩
theorem turn_7 (x : Int) (w : World) :
    Calls Tryz.prog 217 #[.int .u32 x, .int .i64 7] w fun e w' => e = .returned (.int .u32 (rotP x 7)) ∧ w' = w := by
  have hs : bits BinOp.and IntKind.u64 (IntKind.u64.wrap (-7)) 31 = 25 := by decide +kernel
  go_enter Tryz.func217, Tryz.ntmps217
  go_wp2
  go_ret
  exact ⟨rfl, rfl⟩
theorem turn_11 (x : Int) (w : World) :
    Calls Tryz.prog 217 #[.int .u32 x, .int .i64 11] w fun e w' => e = .returned (.int .u32 (rotP x 11)) ∧ w' = w := by
  have hs : bits BinOp.and IntKind.u64 (IntKind.u64.wrap (-11)) 31 = 21 := by decide +kernel
  go_enter Tryz.func217, Tryz.ntmps217
  go_wp2
  go_ret
  exact ⟨rfl, rfl⟩
theorem turn_13 (x : Int) (w : World) :
    Calls Tryz.prog 217 #[.int .u32 x, .int .i64 13] w fun e w' => e = .returned (.int .u32 (rotP x 13)) ∧ w' = w := by
  have hs : bits BinOp.and IntKind.u64 (IntKind.u64.wrap (-13)) 31 = 19 := by decide +kernel
  go_enter Tryz.func217, Tryz.ntmps217
  go_wp2
  go_ret
  exact ⟨rfl, rfl⟩
theorem turn_17 (x : Int) (w : World) :
    Calls Tryz.prog 217 #[.int .u32 x, .int .i64 17] w fun e w' => e = .returned (.int .u32 (rotP x 17)) ∧ w' = w := by
  have hs : bits BinOp.and IntKind.u64 (IntKind.u64.wrap (-17)) 31 = 15 := by decide +kernel
  go_enter Tryz.func217, Tryz.ntmps217
  go_wp2
  go_ret
  exact ⟨rfl, rfl⟩
theorem turn_18 (x : Int) (w : World) :
    Calls Tryz.prog 217 #[.int .u32 x, .int .i64 18] w fun e w' => e = .returned (.int .u32 (rotP x 18)) ∧ w' = w := by
  have hs : bits BinOp.and IntKind.u64 (IntKind.u64.wrap (-18)) 31 = 14 := by decide +kernel
  go_enter Tryz.func217, Tryz.ntmps217
  go_wp2
  go_ret
  exact ⟨rfl, rfl⟩
theorem turn_19 (x : Int) (w : World) :
    Calls Tryz.prog 217 #[.int .u32 x, .int .i64 19] w fun e w' => e = .returned (.int .u32 (rotP x 19)) ∧ w' = w := by
  have hs : bits BinOp.and IntKind.u64 (IntKind.u64.wrap (-19)) 31 = 13 := by decide +kernel
  go_enter Tryz.func217, Tryz.ntmps217
  go_wp2
  go_ret
  exact ⟨rfl, rfl⟩
theorem turn_22 (x : Int) (w : World) :
    Calls Tryz.prog 217 #[.int .u32 x, .int .i64 22] w fun e w' => e = .returned (.int .u32 (rotP x 22)) ∧ w' = w := by
  have hs : bits BinOp.and IntKind.u64 (IntKind.u64.wrap (-22)) 31 = 10 := by decide +kernel
  go_enter Tryz.func217, Tryz.ntmps217
  go_wp2
  go_ret
  exact ⟨rfl, rfl⟩
theorem turn_25 (x : Int) (w : World) :
    Calls Tryz.prog 217 #[.int .u32 x, .int .i64 25] w fun e w' => e = .returned (.int .u32 (rotP x 25)) ∧ w' = w := by
  have hs : bits BinOp.and IntKind.u64 (IntKind.u64.wrap (-25)) 31 = 7 := by decide +kernel
  go_enter Tryz.func217, Tryz.ntmps217
  go_wp2
  go_ret
  exact ⟨rfl, rfl⟩

theorem turn_c (x n : Int) (hn : n = 2 ∨ n = 6 ∨ n = 7 ∨ n = 11 ∨ n = 13 ∨ n = 17 ∨ n = 18 ∨ n = 19 ∨ n = 22 ∨ n = 25) (w : World) :
    Calls Tryz.prog 217 #[.int .u32 x, .int .i64 n] w fun e w' => e = .returned (.int .u32 (rotP x n.toNat)) ∧ w' = w := by
  rcases hn with rfl | rfl | rfl | rfl | rfl | rfl | rfl | rfl | rfl | rfl
  · exact turn_2 x w
  · exact turn_6 x w
  · exact turn_7 x w
  · exact turn_11 x w
  · exact turn_13 x w
  · exact turn_17 x w
  · exact turn_18 x w
  · exact turn_19 x w
  · exact turn_22 x w
  · exact turn_25 x w

end Go.Proofs.YtdkanehjahpehaaGreatDoor
end

section
namespace Go.Proofs.YtdkanehjahpehaaGreatDoor
open Go.RowKit
set_option maxRecDepth 100000

set_option maxHeartbeats 1000000 in
theorem word_any (A : Option Addr) (n c : Nat) (l : List Int) (h4 : 4 ≤ l.length) (hn : n = l.length) (w : World) (hb : Byt w A l) :
    Calls Tryz.prog 219 #[.slice A n c] w fun e w' => e = .returned (.int .u32 (wordB (l.getD 0 0) (l.getD 1 0) (l.getD 2 0) (l.getD 3 0))) ∧ ∃ k, w' = w.drewN k := by
  subst hn
  obtain ⟨g, o, rfl, _, hc⟩ := hb.cell (by omega)
  have c0 := hc 0 (l.getD 0 0) (by simp [List.getD, show 0 < l.length by omega])
  have c1 := hc 1 (l.getD 1 0) (by simp [List.getD, show 1 < l.length by omega])
  have c2 := hc 2 (l.getD 2 0) (by simp [List.getD, show 2 < l.length by omega])
  have c3 := hc 3 (l.getD 3 0) (by simp [List.getD, show 3 < l.length by omega])
  obtain ⟨a0, h0⟩ : ∃ a, l.getD 0 0 = a := ⟨_, rfl⟩
  obtain ⟨a1, h1⟩ : ∃ a, l.getD 1 0 = a := ⟨_, rfl⟩
  obtain ⟨a2, h2⟩ : ∃ a, l.getD 2 0 = a := ⟨_, rfl⟩
  obtain ⟨a3, h3⟩ : ∃ a, l.getD 3 0 = a := ⟨_, rfl⟩
  rw [h0] at c0 ⊢
  rw [h1] at c1 ⊢
  rw [h2] at c2 ⊢
  rw [h3] at c3 ⊢
  rw [Nat.add_zero] at c0
  clear h0 h1 h2 h3 hc hb
  go_enter Tryz.func219, Tryz.ntmps219
  go_wp2
  go_region
  all_goals
    go_wp2
    go_ret
    exact ⟨rfl, _, rfl⟩

theorem beN_get (v : Int) {n i : Nat} (h : i < n) : (beN v n).getD i 0 = IntKind.u8.wrap (v / 2 ^ (8 * (n - 1 - i))) := by simp [beN, List.getD, h]

/-- One byte more of those that are filled in, zeros behind. -/
theorem fill_step (L : List Int) (n i : Nat) (hL : L.length = n) (h : i < n) :
    (bys (L.take i ++ List.replicate (n - i) 0)).toArray.setIfInBounds i (.int .u8 (L.getD i 0)) = (bys (L.take (i + 1) ++ List.replicate (n - (i + 1)) 0)).toArray := by
  apply Array.ext'
  rw [Array.toList_setIfInBounds, bys_app, bys_app]
  have e : n - i = (n - (i + 1)) + 1 := by omega
  have hl : (bys (L.take i)).length = i := by simp [bys_length]; omega
  rw [e, List.set_append_right _ _ (by omega), hl, Nat.sub_self, List.replicate_succ]
  have e2 : L.getD i 0 = L[i] := by simp [List.getD, show i < L.length by omega]
  have e3 : bys (L.take (i + 1)) = bys (L.take i) ++ [.int .u8 L[i]] := by
    rw [List.take_succ_eq_append_getElem (by omega), bys_app]
    rfl
  rw [e3, e2]
  simp [bys]

set_option maxHeartbeats 2000000 in
theorem shb_any (v : Int) (_h0 : 0 ≤ v) (_h1 : v ≤ 18446744073709551615) (n : Nat) (hn : n ≤ 8) (w : World) :
    Calls Tryz.prog 174 #[.int .u64 v, .int .i64 (n : Int)] w fun e w' =>
      e = .returned (.slice (some ⟨w.heap.size, 0, none⟩) n n) ∧ Blk w' w.heap.size 5 (bys (beN v n)).toArray ∧ Below w.heap.size w w' := by
  have hmk := make_bytes n (by omega) w
  have hb0 : Blk (w.alloc (.cells (bys (List.replicate n 0)).toArray 5)) w.heap.size 5 (bys (List.replicate n 0)).toArray := Blk.new w _ _
  have hB0 : Below w.heap.size w (w.alloc (.cells (bys (List.replicate n 0)).toArray 5)) := (Below.refl _ w).alloc (Nat.le_refl _) _
  obtain ⟨W0, hW0⟩ : ∃ W0, w.alloc (.cells (bys (List.replicate n 0)).toArray 5) = W0 := ⟨_, rfl⟩
  rw [hW0] at hmk hb0 hB0
  clear hW0
  go_enter Tryz.func174, Tryz.ntmps174
  go_wp2
  go_loopw [11] (fun t wr => ∃ i : Nat, i ≤ n ∧ t = .int .i64 i ∧ Blk wr w.heap.size 5 (bys ((beN v n).take i ++ List.replicate (n - i) 0)).toArray ∧ Below w.heap.size w wr)
    (fun t _ => n - (intOf t).toNat)
  case atStart => exact ⟨0, Nat.zero_le _, rfl, by simpa using hb0, hB0⟩
  case round =>
    obtain ⟨i, hi, rfl, hb, hB⟩ := hrel
    by_cases hlt : i < n
    · have hl := hb.cell i
      have e1 : (bys ((beN v n).take i ++ List.replicate (n - i) 0)).toArray[i]? = some (.int .u8 0) := by
        simp only [List.getElem?_toArray, bys_get]
        rw [List.getElem?_append_right (by simp [beN_len]; omega)]
        simp [beN_len, show min i n = i by omega, show 0 < n - i by omega]
      rw [e1] at hl
      have hf := hb.frozen i
      have HB := Lib.hid hb
      have HB2 := Lib.hid hB
      clear hb hB e1
      go_wp2
      go_roundw
      case rel =>
        refine ⟨i + 1, by omega, by go_num, ?_, HB2.out.setCell (p := ⟨w.heap.size, i, none⟩) (Nat.le_refl _) _⟩
        have e := fill_step (beN v n) n i (beN_len _ _) hlt
        rw [beN_get v hlt, IntKind.wrap_u8'] at e
        rw [← e]
        exact HB.out.set_ i _
      case measure => simp [intOf]; omega
    · obtain rfl : i = n := by omega
      have HB := Lib.hid hb
      clear hb
      go_wp2
      go_ret
      refine ⟨rfl, ?_, hB⟩
      have := HB.out
      rw [Nat.sub_self, List.take_of_length_le (by rw [beN_len]; omega)] at this
      simpa using this

end Go.Proofs.YtdkanehjahpehaaGreatDoor
end
end

section
namespace Go.Proofs.YtdkanehjahpehaaGreatDoor
open Go.RowKit
set_option maxRecDepth 100000

theorem z175 : (((Tryz.prog.info? 310).bind (·.zero)).map (·.cells.toList)) = some (List.replicate 64 (.int .u32 0)) := by kernel_rfl
theorem i175 : (Tryz.prog.info? 310).map (·.size) = some 64 := by kernel_rfl
theorem u175 : Tryz.prog.underlying 310 = some (.array 64 241) := by kernel_rfl
theorem ld175 (v : Value) : Instr.loadAt 310 v = LDs 310 v := rfl
theorem st175 (v x : Value) : Instr.storeAt 310 v x = STs 310 v x := rfl
theorem al175 : Instr.alloc 310 true (.tuple #[]) = ALs 310 := rfl
theorem sl22 (x : Value) (lo hi mx : Option Value) : Instr.sliceAt 28 x lo hi mx = SLs 28 x lo hi mx := rfl
attribute [local go_sem ↓] ld175 st175 al175 sl22

/-- Words as values. -/
def w32s (l : List Int) : List Value := l.map (Value.int .u32)
theorem w32s_len (l : List Int) : (w32s l).length = l.length := by simp [w32s]
theorem w32s_one (l : List Int) : ∀ v ∈ w32s l, v.oneCell' = true := by
  intro v hv
  obtain ⟨x, _, rfl⟩ := List.mem_map.1 hv
  rfl
theorem w32s_at (L : List Int) (i : Nat) (h : i < L.length) : (w32s L).toArray[i]? = some (.int .u32 (L.getD i 0)) := by
  simp [w32s, List.getD, h]
theorem w32s_pre (L : List Int) (k i : Nat) (h : i < L.length) : (w32s (L ++ List.replicate k 0)).toArray[i]? = some (.int .u32 (L.getD i 0)) := by
  simp [w32s, List.getD, h, List.getElem?_append_left]
/-- A word more. -/
theorem w32s_step (L : List Int) (k : Nat) (x : Int) : (w32s (L ++ List.replicate (k + 1) 0)).toArray.setIfInBounds L.length (.int .u32 x) = (w32s (L ++ [x] ++ List.replicate k 0)).toArray := by
  apply Array.ext'
  rw [Array.toList_setIfInBounds]
  simp [w32s, List.replicate_succ, List.set_append_right]

theorem getD_part (L : List Int) (a k j : Nat) (h : j < k) : ((L.drop a).take k).getD j 0 = L.getD (a + j) 0 := by
  simp [List.getD, h, List.getElem?_drop]

theorem Below.drewN {n₀ : Nat} {w w' : World} (h : Below n₀ w w') (m : Nat) : Below n₀ w (w'.drewN m) := ⟨h.os, h.tape, h.output, h.size, h.block⟩
theorem Below.setRow {n₀ g : Nat} {w w' : World} (h : Below n₀ w w') (hg : n₀ ≤ g) (cs : Array Value) : Below n₀ w (w'.setRow g cs) :=
  ⟨h.os, h.tape, h.output, by simpa using h.size, fun k hk => (setRow_other _ _ _ _ (by omega)).trans (h.block k hk)⟩

set_option maxHeartbeats 4000000 in
theorem sched_any (A : Option Addr) (c : Nat) (hc : 64 ≤ c) (L : List Int) (h64 : L.length = 64) (w : World) (hb : Byt w A L) :
    Calls Tryz.prog 216 #[.slice A 64 c] w fun e w' => e = .returned (.agg (w32s (schedP L 64)).toArray) ∧ Below w.heap.size w w' := by
  obtain ⟨z, hz1, hz2⟩ := Option.map_eq_some_iff.1 z175
  have hal := ALs_new (P := Tryz.prog) (t := 310) z hz1 w
  have hzc : z.cells = (w32s (schedP L 0 ++ List.replicate 64 0)).toArray := by
    apply Array.ext'
    rw [hz2]
    simp [w32s, schedP]
  rw [hzc] at hal
  have hb0 : Blk (w.alloc (.cells (w32s (schedP L 0 ++ List.replicate 64 0)).toArray 310)) w.heap.size 310 (w32s (schedP L 0 ++ List.replicate 64 0)).toArray := Blk.new w _ _
  have hB0 : Below w.heap.size w (w.alloc (.cells (w32s (schedP L 0 ++ List.replicate 64 0)).toArray 310)) := (Below.refl _ w).alloc (Nat.le_refl _) _
  obtain ⟨W0, hW0⟩ : ∃ W0, w.alloc (.cells (w32s (schedP L 0 ++ List.replicate 64 0)).toArray 310) = W0 := ⟨_, rfl⟩
  rw [hW0] at hal hb0 hB0
  clear hW0 hzc hz1 hz2 z
  have HY := Lib.hid hb
  have H64 := Lib.hid h64
  clear hb h64
  go_enter Tryz.func216, Tryz.ntmps216
  go_wp2
  clear hal
  go_loopw [7] (fun t wr => ∃ i : Nat, i ≤ 16 ∧ t = .int .i64 i ∧ Blk wr w.heap.size 310 (w32s (schedP L i ++ List.replicate (64 - i) 0)).toArray ∧ Below w.heap.size w wr)
    (fun t _ => 16 - (intOf t).toNat)
  case atStart => exact ⟨0, Nat.zero_le _, rfl, hb0, hB0⟩
  case round =>
    obtain ⟨i, hi, rfl, hb, hB⟩ := hrel
    clear hb0 hB0 W0
    by_cases hlt : i < 16
    · obtain ⟨A', hsl, hby, _, _⟩ := part8 (HY.out.below hB) c (4 * i) L.length c (some (.int .i64 (4 * (i : Int)))) none none (by rw [H64.out]; omega) (Nat.le_refl _) (by rw [H64.out]; omega) (Nat.le_refl _)
        (.inr ⟨_, rfl, by omega⟩) (.inl ⟨rfl, rfl⟩) (.inl ⟨rfl, rfl⟩)
      rw [H64.out] at hsl hby
      have HBY := Lib.hid hby
      have HB := Lib.hid hb
      have HB2 := Lib.hid hB
      clear hby hb hB
      go_wp2_with fail
      refine (word_any A' (64 - 4 * i) (c - 4 * i) _ (by simp [H64.out]; omega) (by simp [H64.out]) wr HBY.out).mono ?_
      rintro e w1 ⟨rfl, m, rfl⟩
      have hl := HB.out.cell i
      have e1 : (w32s (schedP L i ++ List.replicate (64 - i) 0)).toArray[i]? = some (.int .u32 0) := by
        simp only [List.getElem?_toArray, w32s, List.getElem?_map]
        rw [List.getElem?_append_right (by rw [schedP_len]; omega)]
        simp [schedP_len, show 0 < 64 - i by omega]
      rw [e1] at hl
      have hf := HB.out.frozen i
      clear e1
      go_wp2
      go_roundw
      case rel =>
        refine ⟨i + 1, by omega, by go_num, ?_, (Below.drewN HB2.out m).setCell (p := ⟨w.heap.size, i, none⟩) (Nat.le_refl _) _⟩
        have e := w32s_step (schedP L i) (64 - (i + 1)) (wordAt L i)
        rw [schedP_len, show 64 - (i + 1) + 1 = 64 - i by omega] at e
        have e2 : schedP L (i + 1) = schedP L i ++ [wordAt L i] := by rw [schedP, if_pos (by omega)]
        rw [e2, ← e]
        have e3 : wordB (((L.drop (4 * i)).take (64 - 4 * i)).getD 0 0) (((L.drop (4 * i)).take (64 - 4 * i)).getD 1 0) (((L.drop (4 * i)).take (64 - 4 * i)).getD 2 0) (((L.drop (4 * i)).take (64 - 4 * i)).getD 3 0) = wordAt L i := by
          rw [getD_part _ _ _ _ (by omega), getD_part _ _ _ _ (by omega), getD_part _ _ _ _ (by omega), getD_part _ _ _ _ (by omega)]
          rfl
        rw [← e3]
        exact (HB.out.drewN m).set_ i _
      case measure => simp [intOf]; omega
    · obtain rfl : i = 16 := by omega
      obtain ⟨wo, hwo⟩ : ∃ wo, wo = wr := ⟨_, rfl⟩
      subst hwo
      go_wp2
      go_loopg [4] 48 (fun k t wr => ∃ i : Nat, 16 ≤ i ∧ i ≤ 64 ∧ k = 64 - i ∧ t = .int .i64 i ∧ Blk wr w.heap.size 310 (w32s (schedP L i ++ List.replicate (64 - i) 0)).toArray ∧ Below w.heap.size w wr)
      case atStart => exact ⟨16, Nat.le_refl _, by omega, rfl, rfl, hb, hB⟩
      case round =>
        clear hb hB wo
        obtain ⟨i, h16, hi, hk, rfl, hb, hB⟩ := hrel
        by_cases hlt : i < 64
        · obtain ⟨W, hW⟩ : ∃ W, schedP L i = W := ⟨_, rfl⟩
          have hWl : W.length = i := by rw [← hW, schedP_len]
          rw [hW] at hb
          have l15 := (hb.cell (i - 15)).trans (w32s_pre W (64 - i) (i - 15) (by omega))
          have l2 := (hb.cell (i - 2)).trans (w32s_pre W (64 - i) (i - 2) (by omega))
          have l16 := (hb.cell (i - 16)).trans (w32s_pre W (64 - i) (i - 16) (by omega))
          have l7 := (hb.cell (i - 7)).trans (w32s_pre W (64 - i) (i - 7) (by omega))
          have l0 : wr.cell? ⟨w.heap.size, i, none⟩ = some (.int .u32 0) := by
            rw [hb.cell i]
            simp only [List.getElem?_toArray, w32s, List.getElem?_map]
            rw [List.getElem?_append_right (by omega)]
            simp [hWl, show 0 < 64 - i by omega]
          have f0 := hb.frozen i
          obtain ⟨a, ha⟩ : ∃ a, W.getD (i - 15) 0 = a := ⟨_, rfl⟩
          obtain ⟨b, hbb⟩ : ∃ b, W.getD (i - 2) 0 = b := ⟨_, rfl⟩
          obtain ⟨p, hp⟩ : ∃ p, W.getD (i - 16) 0 = p := ⟨_, rfl⟩
          obtain ⟨q, hq⟩ : ∃ q, W.getD (i - 7) 0 = q := ⟨_, rfl⟩
          rw [ha] at l15
          rw [hbb] at l2
          rw [hp] at l16
          rw [hq] at l7
          have HWl := Lib.hid hWl
          have HW := Lib.hid hW
          have HA := Lib.hid ha
          have HBb := Lib.hid hbb
          have HP := Lib.hid hp
          have HQ := Lib.hid hq
          have HB := Lib.hid hb
          have HB2 := Lib.hid hB
          clear hWl hW ha hbb hp hq hb hB
          go_wp2_with fail
          go_region
          all_goals
            go_wp2_with fail
            have g1 : IntKind.i64.wrap ((i : Int) - 16) = ((i - 16 : Nat) : Int) := by rw [IntKind.wrap_i64]; omega
            have g2 : IntKind.i64.wrap ((i : Int) - 7) = ((i - 7 : Nat) : Int) := by rw [IntKind.wrap_i64]; omega
            have q1 : ((i - 16 : Nat) : Int) < 64 := by omega
            have q2 : ((i - 7 : Nat) : Int) < 64 := by omega
            have q3 : i - 16 < 64 := by omega
            have q4 : i - 7 < 64 := by omega
            have q5 : (i : Int) < 64 := by omega
            have n1 : ¬ (i = i - 16) := by omega
            have n2 : ¬ (i = i - 7) := by omega
            go_region_held3 (fun w' => w'.cell? ⟨w.heap.size, i - 16, none⟩ = some (.int .u32 p) ∧ w'.cell? ⟨w.heap.size, i - 7, none⟩ = some (.int .u32 q) ∧ w'.frozen? ⟨w.heap.size, i, none⟩ = false) (first | (go_keep; done) | (refine ⟨(World.cell?_setCell_other _ _ _ _ (by simp <;> omega)).trans l16, (World.cell?_setCell_other _ _ _ _ (by simp <;> omega)).trans l7, ?_⟩; simp [f0]))
              (first
                | (go_at_call 217; refine (turn_c _ _ (by omega) _).mono ?_; rintro e wx ⟨rfl, rfl⟩))
            all_goals
              go_wp2_with fail
              go_roundg (64 - (i + 1))
              case measure => omega
              case rel =>
                refine ⟨i + 1, by omega, by omega, rfl, by go_num, ?_, ((HB2.out.setCell (p := ⟨w.heap.size, i, none⟩) (Nat.le_refl _) _).drew).drew⟩
                have e := w32s_step W (64 - (i + 1)) (nextW p a q b)
                rw [HWl.out, show 64 - (i + 1) + 1 = 64 - i by omega] at e
                have e2 : schedP L (i + 1) = W ++ [nextW p a q b] := by
                  rw [schedP, if_neg (by omega), HW.out, HA.out, HBb.out, HP.out, HQ.out]
                rw [e2, ← e]
                exact HB.out.set_ i _
        · obtain rfl : i = 64 := by omega
          have hb' : Blk wr w.heap.size 310 (w32s (schedP L 64)).toArray := by simpa using hb
          have hld := LDs_blk (P := Tryz.prog) u175 rfl i175 hb' (off := 0) (w32s (schedP L 64)) (by rw [w32s_len, schedP_len]) (by simp [w32s, schedP_len, List.take_of_length_le])
          have hst := STs_blk (P := Tryz.prog) (t := 310) i175 hb' (off := 0) (w32s (schedP L 64)) (by rw [w32s_len, schedP_len]) (by simp [w32s_len, schedP_len]) (w32s_one _)
          rw [splice_whole _ _ (by simp)] at hst
          have HB := Lib.hid hb'
          have HB2 := Lib.hid hB
          clear hb hb' hB
          go_wp2
          refine bodyPost_ret (results_arr rfl _ _ w.heap.size 310 (w32s (schedP L 64)) _ rfl (HB.out.row_ _) u175 rfl (by rw [w32s_len, schedP_len]; exact i175)) rfl ?_
          exact ⟨rfl, Below.setRow HB2.out (Nat.le_refl _) _⟩

end Go.Proofs.YtdkanehjahpehaaGreatDoor
end

section
namespace Go.Proofs.YtdkanehjahpehaaGreatDoor
open Go.RowKit
set_option maxRecDepth 100000

theorem i167 : (Tryz.prog.info? 292).map (·.size) = some 8 := by kernel_rfl
theorem u167 : Tryz.prog.underlying 292 = some (.array 8 241) := by kernel_rfl
theorem z167 : (((Tryz.prog.info? 292).bind (·.zero)).map (·.cells.toList)) = some (List.replicate 8 (.int .u32 0)) := by kernel_rfl
theorem ld167 (v : Value) : Instr.loadAt 292 v = LDs 292 v := rfl
theorem st167 (v x : Value) : Instr.storeAt 292 v x = STs 292 v x := rfl
theorem al167 : Instr.alloc 292 true (.tuple #[]) = ALs 292 := rfl
theorem bd167 (parts : Array (Nat × Value)) : Instr.build 292 parts = BDs 292 parts := rfl
/-- An element of an array by value, kept shut. -/
def IXs (t : TypeId) (x i : Value) : Sem Value := Instr.index t x i
theorem ix175 (x i : Value) : Instr.index 310 x i = IXs 310 x i := rfl
theorem ix167 (x i : Value) : Instr.index 292 x i = IXs 292 x i := rfl
theorem p31 : Tryz.prog.underlying 241 = some (.int .u32) := by kernel_rfl
theorem i31 : (Tryz.prog.info? 241).map (·.size) = some 1 := by kernel_rfl
theorem IXs_arr {t : TypeId} {n : Nat} (hu : Tryz.prog.underlying t = some (.array n 241)) (cs : Array Value) (i : Nat) (hi : i < n) (v : Value) (hv : cs[i]? = some v) (w : World) :
    (IXs t (.agg cs) (.int .i64 (i : Int))).run Tryz.prog w = .ok v w := by
  obtain ⟨j, hq, hs⟩ := Option.map_eq_some_iff.1 i31
  have ha : (isAgg 241).run Tryz.prog w = .ok false w := by
    unfold isAgg
    rw [Sem.run_bind, run_underlying p31 w]
    rfl
  have hp : (part 241 cs i).run Tryz.prog w = .ok v w := by
    unfold part
    rw [Sem.run_bind, ha]
    simp [hv]
  have hb : (0 : Int) ≤ (i : Int) ∧ (i : Int) < (n : Int) := by omega
  have hsz : (sizeOf 241).run Tryz.prog w = .ok 1 w := by simp [sizeOf, typeInfo, hq, hs]
  unfold IXs Instr.index
  simp only [asIntOf, Sem.run_bind, Sem.run_pure, Result.andThen_ok, run_underlying hu, if_pos hb, hsz, Int.toNat_natCast, Nat.mul_one, hp]
attribute [local go_sem ↓] ld175 st175 al175 ld167 st167 al167 ix175 ix167

/-- The rounds' constants, and the words at first, lie where the program has them. -/
structure Glob (w : World) : Prop where
  k : ∀ i, i < 64 → w.cell? ⟨1, i, none⟩ = some (.int .u32 (K0.getD i 0))
  h : ∀ i, i < 8 → w.cell? ⟨0, i, none⟩ = some (.int .u32 (H0.getD i 0))
  size : 2 ≤ w.heap.size
theorem Glob.below {w w' : World} (g : Glob w) (hb : Below w.heap.size w w') : Glob w' :=
  ⟨fun i hi => (hb.cell (p := ⟨1, i, none⟩) (show 1 < _ by have := g.size; omega)).trans (g.k i hi), fun i hi => (hb.cell (p := ⟨0, i, none⟩) (show 0 < _ by have := g.size; omega)).trans (g.h i hi), Nat.le_trans g.size hb.size⟩
theorem Glob.fr {F : Nat → Prop} {w w' : World} (g : Glob w) (hf : Fr F w w') (h0 : ¬ F 0) (h1 : ¬ F 1) : Glob w' :=
  ⟨fun i hi => (hf.cell (p := ⟨1, i, none⟩) (show 1 < _ by have := g.size; omega) h1).trans (g.k i hi), fun i hi => (hf.cell (p := ⟨0, i, none⟩) (show 0 < _ by have := g.size; omega) h0).trans (g.h i hi), Nat.le_trans g.size hf.size⟩

theorem eight {l : List Int} (h : l.length = 8) : ∃ a b c d e f g i, l = [a, b, c, d, e, f, g, i] := by
  match l, h with
  | [a, b, c, d, e, f, g, i], _ => exact ⟨a, b, c, d, e, f, g, i, rfl⟩

theorem roundP_len (v : List Int) (k w : Int) : (roundP v k w).length = 8 := rfl
theorem roundsP_len (h m : List Int) (hh : h.length = 8) : ∀ k, (roundsP h m k).length = 8
  | 0 => by rw [roundsP_zero]; exact hh
  | k + 1 => by rw [roundsP_succ]; exact roundP_len _ _ _

/-- The first j words added up. -/
def mixP (h R : List Int) (j : Nat) : List Int := (List.range 8).map fun i => if i < j then (h.getD i 0 + R.getD i 0) % 4294967296 else h.getD i 0
theorem mixP_len (h R : List Int) (j : Nat) : (mixP h R j).length = 8 := by simp [mixP]
theorem mixP_zero {h R : List Int} (hh : h.length = 8) : mixP h R 0 = h := by
  apply List.ext_getElem
  · rw [mixP_len, hh]
  · intro i h1 h2
    simp [mixP, List.getD, h2]
theorem mixP_all (h M : List Int) : mixP h (roundsP h M 64) 8 = stepP h M := by
  apply List.ext_getElem
  · rw [mixP_len, stepP_len]
  · intro i h1 h2
    have : i < 8 := by rw [mixP_len] at h1; exact h1
    simp [mixP, stepP, this]
theorem mixP_step (h R : List Int) (j : Nat) (_hj : j < 8) : (w32s (mixP h R j)).toArray.setIfInBounds j (.int .u32 ((h.getD j 0 + R.getD j 0) % 4294967296)) = (w32s (mixP h R (j + 1))).toArray := by
  apply Array.ext'
  rw [Array.toList_setIfInBounds]
  apply List.ext_getElem
  · simp [w32s, mixP_len]
  · intro i h1 h2
    simp only [List.getElem_set, w32s, mixP, List.getElem_map, List.getElem_range]
    by_cases e : j = i
    · subst e
      simp
    · rw [if_neg e]
      by_cases e2 : i < j
      · rw [if_pos e2, if_pos (by omega)]
      · rw [if_neg e2, if_neg (by omega)]

set_option maxHeartbeats 8000000 in
theorem step_any (A : Option Addr) (c : Nat) (hc : 64 ≤ c) (M : List Int) (h64 : M.length = 64) (V : List Int) (hh : V.length = 8) (w : World) (hb : Byt w A M) (hg : Glob w) :
    Calls Tryz.prog 199 #[.agg (w32s V).toArray, .slice A 64 c] w fun e w' => e = .returned (.agg (w32s (stepP V M)).toArray) ∧ Below w.heap.size w w' := by
  obtain ⟨z, hz1, hz2⟩ := Option.map_eq_some_iff.1 z167
  have hzs : z.cells.size = 8 := by rw [← Array.length_toList, hz2]; rfl
  have hal := fun W => ALs_new (P := Tryz.prog) (t := 292) z hz1 W
  obtain ⟨Z, hZ⟩ : ∃ Z, z.cells = Z := ⟨_, rfl⟩
  rw [hZ] at hzs
  simp only [hZ] at hal
  clear hZ hz1 hz2 z
  obtain ⟨HV, hHV⟩ : ∃ HV, w32s V = HV := ⟨_, rfl⟩
  have hl8 : HV.length = 8 := by rw [← hHV, w32s_len, hh]
  have h1c : ∀ v ∈ HV, v.oneCell' = true := by rw [← hHV]; exact w32s_one V
  have hb0 := Blk.new w 292 HV.toArray
  have hld0 := LDs_blk (P := Tryz.prog) u167 rfl i167 ((hb0.alloc (.cells Z 292))) (off := 0) HV hl8 (by simp [List.take_of_length_le, hl8])
  have hst0 := STs_new (P := Tryz.prog) (t := 292) i167 ((w.alloc (.cells HV.toArray 292)).alloc (.cells Z 292)) Z hzs HV hl8 h1c
  have b0 := (hb0.alloc (.cells Z 292)).alloc (.cells HV.toArray 292)
  have b1 := (Blk.new (w.alloc (.cells HV.toArray 292)) 292 Z).alloc (.cells HV.toArray 292)
  have b2 := Blk.new ((w.alloc (.cells HV.toArray 292)).alloc (.cells Z 292)) 292 HV.toArray
  have B0 : Below w.heap.size w (((w.alloc (.cells HV.toArray 292)).alloc (.cells Z 292)).alloc (.cells HV.toArray 292)) := (((Below.refl _ w).alloc (Nat.le_refl _) _).alloc (by simp) _).alloc (by simp; omega) _
  simp only [World.size_alloc] at hst0 b1 b2
  rw [hHV]
  have HG := Lib.hid hg
  have HH := Lib.hid hh
  have H8 := Lib.hid hl8
  have H1 := Lib.hid h1c
  have HHV := Lib.hid hHV
  have HB := Lib.hid hb
  have H64 := Lib.hid h64
  clear hb0 hg hh hl8 h1c hHV hb h64
  go_enter Tryz.func199, Tryz.ntmps199
  go_wp2_with fail
  obtain ⟨W3, hW3⟩ : ∃ W3, ((w.alloc (.cells HV.toArray 292)).alloc (.cells Z 292)).alloc (.cells HV.toArray 292) = W3 := ⟨_, rfl⟩
  rw [hW3] at b0 b1 b2 B0 ⊢
  clear hW3 hst0 hld0 hal
  refine (sched_any A c hc M H64.out W3 (HB.out.below B0)).mono ?_
  rintro e W4 ⟨rfl, hB4⟩
  replace b0 := b0.fr (Fr.of_below hB4) (by have := b0.lt; omega)
  replace b1 := b1.fr (Fr.of_below hB4) (by have := b1.lt; omega)
  replace b2 := b2.fr (Fr.of_below hB4) (by have := b2.lt; omega)
  have B4 := B0.trans (hB4.mono B0.size)
  clear B0 hB4 W3
  obtain ⟨SW, hSW⟩ : ∃ SW, (w32s (schedP M 64)).toArray = SW := ⟨_, rfl⟩
  have HSW := Lib.hid hSW
  rw [hSW]
  clear hSW
  go_wp2_with fail
  go_loopg [16] 64 (fun k t wr => ∃ i : Nat, i ≤ 64 ∧ k = 64 - i ∧ t = .int .i64 i ∧ Blk wr w.heap.size 292 HV.toArray ∧ Blk wr (w.heap.size + 1) 292 Z ∧ Blk wr (w.heap.size + 1 + 1) 292 (w32s (roundsP V M i)).toArray ∧ Below w.heap.size w wr)
  case atStart => exact ⟨0, Nat.zero_le _, rfl, rfl, b0, b1, by rw [roundsP_zero, HHV.out]; exact b2, B4⟩
  case round =>
    clear b0 b1 b2 B4 W4
    obtain ⟨i, hi, hk, rfl, b0, b1, b2, B4⟩ := hrel
    by_cases hlt : i < 64
    · obtain ⟨a0, a1, a2, a3, a4, a5, a6, a7, ha⟩ := eight (roundsP_len V M HH.out i)
      rw [ha] at b2
      have c0 : wr.cell? ⟨w.heap.size + 1 + 1, 0, none⟩ = some (.int .u32 a0) := b2.cell 0
      have c1 : wr.cell? ⟨w.heap.size + 1 + 1, 1, none⟩ = some (.int .u32 a1) := b2.cell 1
      have c2 : wr.cell? ⟨w.heap.size + 1 + 1, 2, none⟩ = some (.int .u32 a2) := b2.cell 2
      have c3 : wr.cell? ⟨w.heap.size + 1 + 1, 3, none⟩ = some (.int .u32 a3) := b2.cell 3
      have c4 : wr.cell? ⟨w.heap.size + 1 + 1, 4, none⟩ = some (.int .u32 a4) := b2.cell 4
      have c5 : wr.cell? ⟨w.heap.size + 1 + 1, 5, none⟩ = some (.int .u32 a5) := b2.cell 5
      have c6 : wr.cell? ⟨w.heap.size + 1 + 1, 6, none⟩ = some (.int .u32 a6) := b2.cell 6
      have c7 : wr.cell? ⟨w.heap.size + 1 + 1, 7, none⟩ = some (.int .u32 a7) := b2.cell 7
      have gk : wr.cell? ⟨1, i, none⟩ = some (.int .u32 (K0.getD i 0)) := ((HG.out.below B4).k i hlt)
      obtain ⟨kk, hkk⟩ : ∃ kk, K0.getD i 0 = kk := ⟨_, rfl⟩
      rw [hkk] at gk
      have hsw := w32s_at (schedP M 64) i (by rw [schedP_len]; exact hlt)
      rw [HSW.out] at hsw
      have hix := fun W => IXs_arr (t := 310) u175 SW i hlt _ hsw W
      obtain ⟨ww, hww⟩ : ∃ ww, (schedP M 64).getD i 0 = ww := ⟨_, rfl⟩
      rw [hww] at hix
      clear hsw
      have hst : ∀ (m : Nat) (x0 x1 x2 x3 x4 x5 x6 x7 : Int), (STs 292 (.pointer (some ⟨w.heap.size + 1 + 1, 0, none⟩)) (.agg #[.int .u32 x0, .int .u32 x1, .int .u32 x2, .int .u32 x3, .int .u32 x4, .int .u32 x5, .int .u32 x6, .int .u32 x7])).run Tryz.prog (wr.drewN m) =
          .ok () ((wr.drewN m).setRow (w.heap.size + 1 + 1) #[.int .u32 x0, .int .u32 x1, .int .u32 x2, .int .u32 x3, .int .u32 x4, .int .u32 x5, .int .u32 x6, .int .u32 x7]) := fun m x0 x1 x2 x3 x4 x5 x6 x7 => by
        have e := STs_blk (P := Tryz.prog) (t := 292) i167 (b2.drewN m) (off := 0) (w32s [x0, x1, x2, x3, x4, x5, x6, x7]) rfl (by simp [w32s]) (w32s_one _)
        rw [splice_whole _ _ (by simp [w32s])] at e
        exact e
      have HHa := Lib.hid ha
      have HKK := Lib.hid hkk
      have HWW := Lib.hid hww
      have B0h := Lib.hid b0
      have B1h := Lib.hid b1
      have B2h := Lib.hid b2
      have B4h := Lib.hid B4
      clear ha hkk hww b0 b1 b2 B4
      go_wp2_with fail
      go_region
      all_goals
        go_wp2_with fail
        go_quiet ((go_at_call 217; refine (turn_c _ _ ?_ _).mono (fun _ _ V => ⟨V.1, _, V.2⟩); omega))
        all_goals
          go_wp2_with fail
          go_quiet ((go_at_call 217; refine (turn_c _ _ ?_ _).mono (fun _ _ V => ⟨V.1, _, V.2⟩); omega))
          all_goals
            go_wp2_with fail
            go_roundg (64 - (i + 1))
            case measure => omega
            case rel =>
              refine ⟨i + 1, by omega, rfl, by go_num, (B0h.out.drewN _).rowFar (by omega) _, (B1h.out.drewN _).rowFar (by omega) _, ?_, Below.setRow (Below.drewN B4h.out _) (by omega) _⟩
              have e : roundsP V M (i + 1) = [(tP a4 a5 a6 a7 kk ww + uP a0 a1 a2) % 4294967296, a0, a1, a2, (a3 + tP a4 a5 a6 a7 kk ww) % 4294967296, a4, a5, a6] := by
                rw [roundsP_succ, HHa.out, HKK.out, HWW.out]
                rfl
              rw [e]
              exact (B2h.out.drewN _).row_ _
    · obtain rfl : i = 64 := by omega
      obtain ⟨wo, hwo⟩ : ∃ wo, wo = wr := ⟨_, rfl⟩
      subst hwo
      obtain ⟨R, hR⟩ : ∃ R, roundsP V M 64 = R := ⟨_, rfl⟩
      have hRl : R.length = 8 := by rw [← hR]; exact roundsP_len V M HH.out 64
      rw [hR] at b2
      have HR := Lib.hid hR
      have HRl := Lib.hid hRl
      clear hR hRl
      rw [← HHV.out] at b0
      go_wp2_with fail
      go_loopg [97] 8 (fun k t wr => ∃ j : Nat, j ≤ 8 ∧ k = 8 - j ∧ t = .int .i64 j ∧ Blk wr w.heap.size 292 (w32s (mixP V R j)).toArray ∧ Blk wr (w.heap.size + 1) 292 Z ∧ Blk wr (w.heap.size + 1 + 1) 292 (w32s R).toArray ∧ Below w.heap.size w wr)
      case atStart => exact ⟨0, Nat.zero_le _, rfl, rfl, by rw [mixP_zero HH.out]; exact b0, b1, b2, B4⟩
      case round =>
        clear b0 b1 b2 B4 wo
        obtain ⟨j, hj, hk, rfl, b0, b1, b2, B4⟩ := hrel
        by_cases hlt : j < 8
        · have l0 : wr.cell? ⟨w.heap.size, j, none⟩ = some (.int .u32 (V.getD j 0)) := by
            rw [b0.cell j, w32s_at _ _ (by rw [mixP_len]; exact hlt)]
            simp [mixP, List.getD, hlt]
          have l2 : wr.cell? ⟨w.heap.size + 1 + 1, j, none⟩ = some (.int .u32 (R.getD j 0)) := by
            rw [b2.cell j, w32s_at _ _ (by rw [HRl.out]; exact hlt)]
          obtain ⟨x, hx⟩ : ∃ x, V.getD j 0 = x := ⟨_, rfl⟩
          obtain ⟨y, hy⟩ : ∃ y, R.getD j 0 = y := ⟨_, rfl⟩
          rw [hx] at l0
          rw [hy] at l2
          have f0 := b0.frozen j
          have HX := Lib.hid hx
          have HYy := Lib.hid hy
          have B0h := Lib.hid b0
          have B1h := Lib.hid b1
          have B2h := Lib.hid b2
          have B4h := Lib.hid B4
          clear hx hy b0 b1 b2 B4
          go_wp2_with fail
          go_region
          all_goals
            go_wp2_with fail
            go_roundg (8 - (j + 1))
            case measure => omega
            case rel =>
              refine ⟨j + 1, by omega, rfl, by go_num, ?_, B1h.out.far (p := ⟨w.heap.size, j, none⟩) (by simp <;> omega) _, B2h.out.far (p := ⟨w.heap.size, j, none⟩) (by simp <;> omega) _, (B4h.out.setCell (p := ⟨w.heap.size, j, none⟩) (Nat.le_refl _) _).drew⟩
              rw [← mixP_step V R j hlt, HX.out, HYy.out]
              exact B0h.out.set_ j _
        · obtain rfl : j = 8 := by omega
          have hS : mixP V R 8 = stepP V M := by rw [← HR.out]; exact mixP_all V M
          rw [hS] at b0
          obtain ⟨S8, hS8⟩ : ∃ S8, stepP V M = S8 := ⟨_, rfl⟩
          have hsl : S8.length = 8 := by rw [← hS8]; exact stepP_len _ _
          rw [hS8] at b0
          have HS8 := Lib.hid hS8
          have hld := LDs_blk (P := Tryz.prog) u167 rfl i167 b0 (off := 0) (w32s S8) (by rw [w32s_len, hsl]) (by simp [List.take_of_length_le, w32s_len, hsl])
          have hst := STs_blk (P := Tryz.prog) (t := 292) i167 b1 (off := 0) (w32s S8) (by rw [w32s_len, hsl]) (by omega) (w32s_one _)
          rw [splice_whole _ _ (by rw [w32s_len, hsl, hzs])] at hst
          have B1h := Lib.hid b1
          have B4h := Lib.hid B4
          have HSL := Lib.hid hsl
          clear b0 b1 b2 B4 hS hS8 hsl
          go_wp2_with fail
          refine bodyPost_ret (results_arr rfl _ _ (w.heap.size + 1) 292 (w32s S8) _ rfl (B1h.out.row_ _) u167 rfl (by rw [w32s_len, HSL.out]; exact i167)) rfl ?_
          exact ⟨by rw [HS8.out], Below.setRow B4h.out (by omega) _⟩

end Go.Proofs.YtdkanehjahpehaaGreatDoor
end
