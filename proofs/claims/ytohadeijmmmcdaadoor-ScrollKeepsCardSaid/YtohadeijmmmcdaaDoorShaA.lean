/-
  A word turned; the words of the rounds.
  The digests' small functions: four bytes as a word, a number's bytes.
-/
import Derived.Test.YtohadeijmmmcdaaDoorBase
import Derived.Test.YtohadeijmmmcdaaDoorChecked
import Derived.Test.YtohadeijmmmcdaaDoorScrP
import Derived.Test.YtohadeijmmmcdaaDoorBytA

section
namespace Go.Proofs.YtohadeijmmmcdaaDoor
open Go.RowKit
set_option maxRecDepth 100000

theorem turn_2 (x : Int) (w : World) :
    Calls Tryd.prog 111 #[.int .u32 x, .int .i64 2] w fun e w' => e = .returned (.int .u32 (rotP x 2)) ∧ w' = w := by
  have hs : bits BinOp.and IntKind.u64 (IntKind.u64.wrap (-2)) 31 = 30 := by decide +kernel
  go_enter Tryd.func111, Tryd.ntmps111
  go_wp2
  go_ret
  exact ⟨rfl, rfl⟩
theorem turn_6 (x : Int) (w : World) :
    Calls Tryd.prog 111 #[.int .u32 x, .int .i64 6] w fun e w' => e = .returned (.int .u32 (rotP x 6)) ∧ w' = w := by
  have hs : bits BinOp.and IntKind.u64 (IntKind.u64.wrap (-6)) 31 = 26 := by decide +kernel
  go_enter Tryd.func111, Tryd.ntmps111
  go_wp2
  go_ret
  exact ⟨rfl, rfl⟩
theorem turn_7 (x : Int) (w : World) :
    Calls Tryd.prog 111 #[.int .u32 x, .int .i64 7] w fun e w' => e = .returned (.int .u32 (rotP x 7)) ∧ w' = w := by
  have hs : bits BinOp.and IntKind.u64 (IntKind.u64.wrap (-7)) 31 = 25 := by decide +kernel
  go_enter Tryd.func111, Tryd.ntmps111
  go_wp2
  go_ret
  exact ⟨rfl, rfl⟩
theorem turn_11 (x : Int) (w : World) :
    Calls Tryd.prog 111 #[.int .u32 x, .int .i64 11] w fun e w' => e = .returned (.int .u32 (rotP x 11)) ∧ w' = w := by
  have hs : bits BinOp.and IntKind.u64 (IntKind.u64.wrap (-11)) 31 = 21 := by decide +kernel
  go_enter Tryd.func111, Tryd.ntmps111
  go_wp2
  go_ret
  exact ⟨rfl, rfl⟩
theorem turn_13 (x : Int) (w : World) :
    Calls Tryd.prog 111 #[.int .u32 x, .int .i64 13] w fun e w' => e = .returned (.int .u32 (rotP x 13)) ∧ w' = w := by
  have hs : bits BinOp.and IntKind.u64 (IntKind.u64.wrap (-13)) 31 = 19 := by decide +kernel
  go_enter Tryd.func111, Tryd.ntmps111
  go_wp2
  go_ret
  exact ⟨rfl, rfl⟩
theorem turn_17 (x : Int) (w : World) :
    Calls Tryd.prog 111 #[.int .u32 x, .int .i64 17] w fun e w' => e = .returned (.int .u32 (rotP x 17)) ∧ w' = w := by
  have hs : bits BinOp.and IntKind.u64 (IntKind.u64.wrap (-17)) 31 = 15 := by decide +kernel
  go_enter Tryd.func111, Tryd.ntmps111
  go_wp2
  go_ret
  exact ⟨rfl, rfl⟩
theorem turn_18 (x : Int) (w : World) :
    Calls Tryd.prog 111 #[.int .u32 x, .int .i64 18] w fun e w' => e = .returned (.int .u32 (rotP x 18)) ∧ w' = w := by
  have hs : bits BinOp.and IntKind.u64 (IntKind.u64.wrap (-18)) 31 = 14 := by decide +kernel
  go_enter Tryd.func111, Tryd.ntmps111
  go_wp2
  go_ret
  exact ⟨rfl, rfl⟩
theorem turn_19 (x : Int) (w : World) :
    Calls Tryd.prog 111 #[.int .u32 x, .int .i64 19] w fun e w' => e = .returned (.int .u32 (rotP x 19)) ∧ w' = w := by
  have hs : bits BinOp.and IntKind.u64 (IntKind.u64.wrap (-19)) 31 = 13 := by decide +kernel
  go_enter Tryd.func111, Tryd.ntmps111
  go_wp2
  go_ret
  exact ⟨rfl, rfl⟩
theorem turn_22 (x : Int) (w : World) :
    Calls Tryd.prog 111 #[.int .u32 x, .int .i64 22] w fun e w' => e = .returned (.int .u32 (rotP x 22)) ∧ w' = w := by
  have hs : bits BinOp.and IntKind.u64 (IntKind.u64.wrap (-22)) 31 = 10 := by decide +kernel
  go_enter Tryd.func111, Tryd.ntmps111
  go_wp2
  go_ret
  exact ⟨rfl, rfl⟩
theorem turn_25 (x : Int) (w : World) :
    Calls Tryd.prog 111 #[.int .u32 x, .int .i64 25] w fun e w' => e = .returned (.int .u32 (rotP x 25)) ∧ w' = w := by
  have hs : bits BinOp.and IntKind.u64 (IntKind.u64.wrap (-25)) 31 = 7 := by decide +kernel
  go_enter Tryd.func111, Tryd.ntmps111
  go_wp2
  go_ret
  exact ⟨rfl, rfl⟩

theorem turn_c (x n : Int) (hn : n = 2 ∨ n = 6 ∨ n = 7 ∨ n = 11 ∨ n = 13 ∨ n = 17 ∨ n = 18 ∨ n = 19 ∨ n = 22 ∨ n = 25) (w : World) :
    Calls Tryd.prog 111 #[.int .u32 x, .int .i64 n] w fun e w' => e = .returned (.int .u32 (rotP x n.toNat)) ∧ w' = w := by
  rcases hn with rfl | rfl | rfl | rfl | rfl | rfl | rfl | rfl | rfl | rfl
  · exact turn_2 x w
  · exact turn_6 x w
  · exact turn_7 x w
  · exact turn_11 x w
  · exact turn_13 x w
  · exact turn_17 x w
  · exact turn_18 x w
  · exact turn_19 x w
  · exact turn_22 x w
  · exact turn_25 x w

end Go.Proofs.YtohadeijmmmcdaaDoor
end

section
namespace Go.Proofs.YtohadeijmmmcdaaDoor
open Go.RowKit
set_option maxRecDepth 100000

set_option maxHeartbeats 1000000 in
theorem word_any (A : Option Addr) (n c : Nat) (l : List Int) (h4 : 4 ≤ l.length) (hn : n = l.length) (w : World) (hb : Byt w A l) :
    Calls Tryd.prog 112 #[.slice A n c] w fun e w' => e = .returned (.int .u32 (wordB (l.getD 0 0) (l.getD 1 0) (l.getD 2 0) (l.getD 3 0))) ∧ ∃ k, w' = w.drewN k := by
  subst hn
  obtain ⟨g, o, rfl, _, hc⟩ := hb.cell (by omega)
  have c0 := hc 0 (l.getD 0 0) (by simp [List.getD, show 0 < l.length by omega])
  have c1 := hc 1 (l.getD 1 0) (by simp [List.getD, show 1 < l.length by omega])
  have c2 := hc 2 (l.getD 2 0) (by simp [List.getD, show 2 < l.length by omega])
  have c3 := hc 3 (l.getD 3 0) (by simp [List.getD, show 3 < l.length by omega])
  obtain ⟨a0, h0⟩ : ∃ a, l.getD 0 0 = a := ⟨_, rfl⟩
  obtain ⟨a1, h1⟩ : ∃ a, l.getD 1 0 = a := ⟨_, rfl⟩
  obtain ⟨a2, h2⟩ : ∃ a, l.getD 2 0 = a := ⟨_, rfl⟩
  obtain ⟨a3, h3⟩ : ∃ a, l.getD 3 0 = a := ⟨_, rfl⟩
  rw [h0] at c0 ⊢
  rw [h1] at c1 ⊢
  rw [h2] at c2 ⊢
  rw [h3] at c3 ⊢
  rw [Nat.add_zero] at c0
  clear h0 h1 h2 h3 hc hb
  go_enter Tryd.func112, Tryd.ntmps112
  go_wp2
  go_region
  all_goals
    go_wp2
    go_ret
    exact ⟨rfl, _, rfl⟩

theorem beN_get (v : Int) {n i : Nat} (h : i < n) : (beN v n).getD i 0 = IntKind.u8.wrap (v / 2 ^ (8 * (n - 1 - i))) := by simp [beN, List.getD, h]

/-- One byte more of those that are filled in, zeros behind. -/
theorem fill_step (L : List Int) (n i : Nat) (hL : L.length = n) (h : i < n) :
    (bys (L.take i ++ List.replicate (n - i) 0)).toArray.setIfInBounds i (.int .u8 (L.getD i 0)) = (bys (L.take (i + 1) ++ List.replicate (n - (i + 1)) 0)).toArray := by
  apply Array.ext'
  rw [Array.toList_setIfInBounds, bys_app, bys_app]
  have e : n - i = (n - (i + 1)) + 1 := by omega
  have hl : (bys (L.take i)).length = i := by simp [bys_length]; omega
  rw [e, List.set_append_right _ _ (by omega), hl, Nat.sub_self, List.replicate_succ]
  have e2 : L.getD i 0 = L[i] := by simp [List.getD, show i < L.length by omega]
  have e3 : bys (L.take (i + 1)) = bys (L.take i) ++ [.int .u8 L[i]] := by
    rw [List.take_succ_eq_append_getElem (by omega), bys_app]
    rfl
  rw [e3, e2]
  simp [bys]

set_option maxHeartbeats 2000000 in
theorem shb_any (v : Int) (_h0 : 0 ≤ v) (_h1 : v ≤ 18446744073709551615) (n : Nat) (hn : n ≤ 8) (w : World) :
    Calls Tryd.prog 92 #[.int .u64 v, .int .i64 (n : Int)] w fun e w' =>
      e = .returned (.slice (some ⟨w.heap.size, 0, none⟩) n n) ∧ Blk w' w.heap.size 5 (bys (beN v n)).toArray ∧ Below w.heap.size w w' := by
  have hmk := make_bytes n (by omega) w
  have hb0 : Blk (w.alloc (.cells (bys (List.replicate n 0)).toArray 5)) w.heap.size 5 (bys (List.replicate n 0)).toArray := Blk.new w _ _
  have hB0 : Below w.heap.size w (w.alloc (.cells (bys (List.replicate n 0)).toArray 5)) := (Below.refl _ w).alloc (Nat.le_refl _) _
  obtain ⟨W0, hW0⟩ : ∃ W0, w.alloc (.cells (bys (List.replicate n 0)).toArray 5) = W0 := ⟨_, rfl⟩
  rw [hW0] at hmk hb0 hB0
  clear hW0
  go_enter Tryd.func92, Tryd.ntmps92
  go_wp2
  go_loopw [11] (fun t wr => ∃ i : Nat, i ≤ n ∧ t = .int .i64 i ∧ Blk wr w.heap.size 5 (bys ((beN v n).take i ++ List.replicate (n - i) 0)).toArray ∧ Below w.heap.size w wr)
    (fun t _ => n - (intOf t).toNat)
  case atStart => exact ⟨0, Nat.zero_le _, rfl, by simpa using hb0, hB0⟩
  case round =>
    obtain ⟨i, hi, rfl, hb, hB⟩ := hrel
    by_cases hlt : i < n
    · have hl := hb.cell i
      have e1 : (bys ((beN v n).take i ++ List.replicate (n - i) 0)).toArray[i]? = some (.int .u8 0) := by
        simp only [List.getElem?_toArray, bys_get]
        rw [List.getElem?_append_right (by simp [beN_len]; omega)]
        simp [beN_len, show min i n = i by omega, show 0 < n - i by omega]
      rw [e1] at hl
      have hf := hb.frozen i
      have HB := Lib.hid hb
      have HB2 := Lib.hid hB
      clear hb hB e1
      go_wp2
      go_roundw
      case rel =>
        refine ⟨i + 1, by omega, by go_num, ?_, HB2.out.setCell (p := ⟨w.heap.size, i, none⟩) (Nat.le_refl _) _⟩
        have e := fill_step (beN v n) n i (beN_len _ _) hlt
        rw [beN_get v hlt, IntKind.wrap_u8'] at e
        rw [← e]
        exact HB.out.set_ i _
      case measure => simp [intOf]; omega
    · obtain rfl : i = n := by omega
      have HB := Lib.hid hb
      clear hb
      go_wp2
      go_ret
      refine ⟨rfl, ?_, hB⟩
      have := HB.out
      rw [Nat.sub_self, List.take_of_length_le (by rw [beN_len]; omega)] at this
      simpa using this

end Go.Proofs.YtohadeijmmmcdaaDoor
end
