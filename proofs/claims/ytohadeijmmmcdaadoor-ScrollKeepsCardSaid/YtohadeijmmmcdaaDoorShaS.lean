/-
  The words of all rounds (sha.schedule).
-/
import Derived.Test.YtohadeijmmmcdaaDoorShaA
import Derived.Test.YtohadeijmmmcdaaDoorDrumF
import Derived.Deep.RegionHeld3
import Derived.Deep.LoopGhost
namespace Go.Proofs.YtohadeijmmmcdaaDoor
open Go.RowKit
set_option maxRecDepth 100000

theorem z175 : (((Tryd.prog.info? 175).bind (·.zero)).map (·.cells.toList)) = some (List.replicate 64 (.int .u32 0)) := by kernel_rfl
theorem i175 : (Tryd.prog.info? 175).map (·.size) = some 64 := by kernel_rfl
theorem u175 : Tryd.prog.underlying 175 = some (.array 64 31) := by kernel_rfl
theorem ld175 (v : Value) : Instr.loadAt 175 v = LDs 175 v := rfl
theorem st175 (v x : Value) : Instr.storeAt 175 v x = STs 175 v x := rfl
theorem al175 : Instr.alloc 175 true (.tuple #[]) = ALs 175 := rfl
theorem sl22 (x : Value) (lo hi mx : Option Value) : Instr.sliceAt 22 x lo hi mx = SLs 22 x lo hi mx := rfl
attribute [local go_sem ↓] ld175 st175 al175 sl22

/-- Words as values. -/
def w32s (l : List Int) : List Value := l.map (Value.int .u32)
theorem w32s_len (l : List Int) : (w32s l).length = l.length := by simp [w32s]
theorem w32s_one (l : List Int) : ∀ v ∈ w32s l, v.oneCell' = true := by
  intro v hv
  obtain ⟨x, _, rfl⟩ := List.mem_map.1 hv
  rfl
theorem w32s_at (L : List Int) (i : Nat) (h : i < L.length) : (w32s L).toArray[i]? = some (.int .u32 (L.getD i 0)) := by
  simp [w32s, List.getD, h]
theorem w32s_pre (L : List Int) (k i : Nat) (h : i < L.length) : (w32s (L ++ List.replicate k 0)).toArray[i]? = some (.int .u32 (L.getD i 0)) := by
  simp [w32s, List.getD, h, List.getElem?_append_left]
/-- A word more. -/
theorem w32s_step (L : List Int) (k : Nat) (x : Int) : (w32s (L ++ List.replicate (k + 1) 0)).toArray.setIfInBounds L.length (.int .u32 x) = (w32s (L ++ [x] ++ List.replicate k 0)).toArray := by
  apply Array.ext'
  rw [Array.toList_setIfInBounds]
  simp [w32s, List.replicate_succ, List.set_append_right]

theorem getD_part (L : List Int) (a k j : Nat) (h : j < k) : ((L.drop a).take k).getD j 0 = L.getD (a + j) 0 := by
  simp [List.getD, h, List.getElem?_drop]

theorem Below.drewN {n₀ : Nat} {w w' : World} (h : Below n₀ w w') (m : Nat) : Below n₀ w (w'.drewN m) := ⟨h.os, h.tape, h.output, h.size, h.block⟩
theorem Below.setRow {n₀ g : Nat} {w w' : World} (h : Below n₀ w w') (hg : n₀ ≤ g) (cs : Array Value) : Below n₀ w (w'.setRow g cs) :=
  ⟨h.os, h.tape, h.output, by simpa using h.size, fun k hk => (setRow_other _ _ _ _ (by omega)).trans (h.block k hk)⟩

set_option maxHeartbeats 4000000 in
theorem sched_any (A : Option Addr) (c : Nat) (hc : 64 ≤ c) (L : List Int) (h64 : L.length = 64) (w : World) (hb : Byt w A L) :
    Calls Tryd.prog 110 #[.slice A 64 c] w fun e w' => e = .returned (.agg (w32s (schedP L 64)).toArray) ∧ Below w.heap.size w w' := by
  obtain ⟨z, hz1, hz2⟩ := Option.map_eq_some_iff.1 z175
  have hal := ALs_new (P := Tryd.prog) (t := 175) z hz1 w
  have hzc : z.cells = (w32s (schedP L 0 ++ List.replicate 64 0)).toArray := by
    apply Array.ext'
    rw [hz2]
    simp [w32s, schedP]
  rw [hzc] at hal
  have hb0 : Blk (w.alloc (.cells (w32s (schedP L 0 ++ List.replicate 64 0)).toArray 175)) w.heap.size 175 (w32s (schedP L 0 ++ List.replicate 64 0)).toArray := Blk.new w _ _
  have hB0 : Below w.heap.size w (w.alloc (.cells (w32s (schedP L 0 ++ List.replicate 64 0)).toArray 175)) := (Below.refl _ w).alloc (Nat.le_refl _) _
  obtain ⟨W0, hW0⟩ : ∃ W0, w.alloc (.cells (w32s (schedP L 0 ++ List.replicate 64 0)).toArray 175) = W0 := ⟨_, rfl⟩
  rw [hW0] at hal hb0 hB0
  clear hW0 hzc hz1 hz2 z
  have HY := Lib.hid hb
  have H64 := Lib.hid h64
  clear hb h64
  go_enter Tryd.func110, Tryd.ntmps110
  go_wp2
  clear hal
  go_loopw [7] (fun t wr => ∃ i : Nat, i ≤ 16 ∧ t = .int .i64 i ∧ Blk wr w.heap.size 175 (w32s (schedP L i ++ List.replicate (64 - i) 0)).toArray ∧ Below w.heap.size w wr)
    (fun t _ => 16 - (intOf t).toNat)
  case atStart => exact ⟨0, Nat.zero_le _, rfl, hb0, hB0⟩
  case round =>
    obtain ⟨i, hi, rfl, hb, hB⟩ := hrel
    clear hb0 hB0 W0
    by_cases hlt : i < 16
    · obtain ⟨A', hsl, hby, _, _⟩ := part8 (HY.out.below hB) c (4 * i) L.length c (some (.int .i64 (4 * (i : Int)))) none none (by rw [H64.out]; omega) (Nat.le_refl _) (by rw [H64.out]; omega) (Nat.le_refl _)
        (.inr ⟨_, rfl, by omega⟩) (.inl ⟨rfl, rfl⟩) (.inl ⟨rfl, rfl⟩)
      rw [H64.out] at hsl hby
      have HBY := Lib.hid hby
      have HB := Lib.hid hb
      have HB2 := Lib.hid hB
      clear hby hb hB
      go_wp2_with fail
      refine (word_any A' (64 - 4 * i) (c - 4 * i) _ (by simp [H64.out]; omega) (by simp [H64.out]) wr HBY.out).mono ?_
      rintro e w1 ⟨rfl, m, rfl⟩
      have hl := HB.out.cell i
      have e1 : (w32s (schedP L i ++ List.replicate (64 - i) 0)).toArray[i]? = some (.int .u32 0) := by
        simp only [List.getElem?_toArray, w32s, List.getElem?_map]
        rw [List.getElem?_append_right (by rw [schedP_len]; omega)]
        simp [schedP_len, show 0 < 64 - i by omega]
      rw [e1] at hl
      have hf := HB.out.frozen i
      clear e1
      go_wp2
      go_roundw
      case rel =>
        refine ⟨i + 1, by omega, by go_num, ?_, (Below.drewN HB2.out m).setCell (p := ⟨w.heap.size, i, none⟩) (Nat.le_refl _) _⟩
        have e := w32s_step (schedP L i) (64 - (i + 1)) (wordAt L i)
        rw [schedP_len, show 64 - (i + 1) + 1 = 64 - i by omega] at e
        have e2 : schedP L (i + 1) = schedP L i ++ [wordAt L i] := by rw [schedP, if_pos (by omega)]
        rw [e2, ← e]
        have e3 : wordB (((L.drop (4 * i)).take (64 - 4 * i)).getD 0 0) (((L.drop (4 * i)).take (64 - 4 * i)).getD 1 0) (((L.drop (4 * i)).take (64 - 4 * i)).getD 2 0) (((L.drop (4 * i)).take (64 - 4 * i)).getD 3 0) = wordAt L i := by
          rw [getD_part _ _ _ _ (by omega), getD_part _ _ _ _ (by omega), getD_part _ _ _ _ (by omega), getD_part _ _ _ _ (by omega)]
          rfl
        rw [← e3]
        exact (HB.out.drewN m).set_ i _
      case measure => simp [intOf]; omega
    · obtain rfl : i = 16 := by omega
      obtain ⟨wo, hwo⟩ : ∃ wo, wo = wr := ⟨_, rfl⟩
      subst hwo
      go_wp2
      go_loopg [4] 48 (fun k t wr => ∃ i : Nat, 16 ≤ i ∧ i ≤ 64 ∧ k = 64 - i ∧ t = .int .i64 i ∧ Blk wr w.heap.size 175 (w32s (schedP L i ++ List.replicate (64 - i) 0)).toArray ∧ Below w.heap.size w wr)
      case atStart => exact ⟨16, Nat.le_refl _, by omega, rfl, rfl, hb, hB⟩
      case round =>
        clear hb hB wo
        obtain ⟨i, h16, hi, hk, rfl, hb, hB⟩ := hrel
        by_cases hlt : i < 64
        · obtain ⟨W, hW⟩ : ∃ W, schedP L i = W := ⟨_, rfl⟩
          have hWl : W.length = i := by rw [← hW, schedP_len]
          rw [hW] at hb
          have l15 := (hb.cell (i - 15)).trans (w32s_pre W (64 - i) (i - 15) (by omega))
          have l2 := (hb.cell (i - 2)).trans (w32s_pre W (64 - i) (i - 2) (by omega))
          have l16 := (hb.cell (i - 16)).trans (w32s_pre W (64 - i) (i - 16) (by omega))
          have l7 := (hb.cell (i - 7)).trans (w32s_pre W (64 - i) (i - 7) (by omega))
          have l0 : wr.cell? ⟨w.heap.size, i, none⟩ = some (.int .u32 0) := by
            rw [hb.cell i]
            simp only [List.getElem?_toArray, w32s, List.getElem?_map]
            rw [List.getElem?_append_right (by omega)]
            simp [hWl, show 0 < 64 - i by omega]
          have f0 := hb.frozen i
          obtain ⟨a, ha⟩ : ∃ a, W.getD (i - 15) 0 = a := ⟨_, rfl⟩
          obtain ⟨b, hbb⟩ : ∃ b, W.getD (i - 2) 0 = b := ⟨_, rfl⟩
          obtain ⟨p, hp⟩ : ∃ p, W.getD (i - 16) 0 = p := ⟨_, rfl⟩
          obtain ⟨q, hq⟩ : ∃ q, W.getD (i - 7) 0 = q := ⟨_, rfl⟩
          rw [ha] at l15
          rw [hbb] at l2
          rw [hp] at l16
          rw [hq] at l7
          have HWl := Lib.hid hWl
          have HW := Lib.hid hW
          have HA := Lib.hid ha
          have HBb := Lib.hid hbb
          have HP := Lib.hid hp
          have HQ := Lib.hid hq
          have HB := Lib.hid hb
          have HB2 := Lib.hid hB
          clear hWl hW ha hbb hp hq hb hB
          go_wp2_with fail
          go_region
          all_goals
            go_wp2_with fail
            have g1 : IntKind.i64.wrap ((i : Int) - 16) = ((i - 16 : Nat) : Int) := by rw [IntKind.wrap_i64]; omega
            have g2 : IntKind.i64.wrap ((i : Int) - 7) = ((i - 7 : Nat) : Int) := by rw [IntKind.wrap_i64]; omega
            have q1 : ((i - 16 : Nat) : Int) < 64 := by omega
            have q2 : ((i - 7 : Nat) : Int) < 64 := by omega
            have q3 : i - 16 < 64 := by omega
            have q4 : i - 7 < 64 := by omega
            have q5 : (i : Int) < 64 := by omega
            have n1 : ¬ (i = i - 16) := by omega
            have n2 : ¬ (i = i - 7) := by omega
            go_region_held3 (fun w' => w'.cell? ⟨w.heap.size, i - 16, none⟩ = some (.int .u32 p) ∧ w'.cell? ⟨w.heap.size, i - 7, none⟩ = some (.int .u32 q) ∧ w'.frozen? ⟨w.heap.size, i, none⟩ = false) (first | (go_keep; done) | (refine ⟨(World.cell?_setCell_other _ _ _ _ (by simp <;> omega)).trans l16, (World.cell?_setCell_other _ _ _ _ (by simp <;> omega)).trans l7, ?_⟩; simp [f0]))
              (first
                | (go_at_call 111; refine (turn_c _ _ (by omega) _).mono ?_; rintro e wx ⟨rfl, rfl⟩))
            all_goals
              go_wp2_with fail
              go_roundg (64 - (i + 1))
              case measure => omega
              case rel =>
                refine ⟨i + 1, by omega, by omega, rfl, by go_num, ?_, ((HB2.out.setCell (p := ⟨w.heap.size, i, none⟩) (Nat.le_refl _) _).drew).drew⟩
                have e := w32s_step W (64 - (i + 1)) (nextW p a q b)
                rw [HWl.out, show 64 - (i + 1) + 1 = 64 - i by omega] at e
                have e2 : schedP L (i + 1) = W ++ [nextW p a q b] := by
                  rw [schedP, if_neg (by omega), HW.out, HA.out, HBb.out, HP.out, HQ.out]
                rw [e2, ← e]
                exact HB.out.set_ i _
        · obtain rfl : i = 64 := by omega
          have hb' : Blk wr w.heap.size 175 (w32s (schedP L 64)).toArray := by simpa using hb
          have hld := LDs_blk (P := Tryd.prog) u175 rfl i175 hb' (off := 0) (w32s (schedP L 64)) (by rw [w32s_len, schedP_len]) (by simp [w32s, schedP_len, List.take_of_length_le])
          have hst := STs_blk (P := Tryd.prog) (t := 175) i175 hb' (off := 0) (w32s (schedP L 64)) (by rw [w32s_len, schedP_len]) (by simp [w32s_len, schedP_len]) (w32s_one _)
          rw [splice_whole _ _ (by simp)] at hst
          have HB := Lib.hid hb'
          have HB2 := Lib.hid hB
          clear hb hb' hB
          go_wp2
          refine bodyPost_ret (results_arr rfl _ _ w.heap.size 175 (w32s (schedP L 64)) _ rfl (HB.out.row_ _) u175 rfl (by rw [w32s_len, schedP_len]; exact i175)) rfl ?_
          exact ⟨rfl, Below.setRow HB2.out (Nat.le_refl _) _⟩

end Go.Proofs.YtohadeijmmmcdaaDoor
