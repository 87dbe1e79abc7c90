/-
  The document's numbers as bytes, lengths, digests and sums of fields.
-/
import Derived.Test.YtohadeijmmmcdaaDoorRShaA
import Derived.Test.YtohadeijmmmcdaaDoorRPl
import Derived.Test.YtohadeijmmmcdaaDoorCat
namespace Go.Proofs.YtohadeijmmmcdaaDoor
open Go.RowKit
set_option maxRecDepth 100000

/-- Bytes laid in a block of their own. -/
theorem own8_lit {B : Nat} (w : World) (l : List Int) (hB : B ≤ w.heap.size) (hl : l.length ≤ 1000000000) : Own8 B (w.alloc (.cells (bys l).toArray 5)) (.slice (some ⟨w.heap.size, 0, none⟩) l.length l.length) l :=
  ⟨by simp [bys_length], .inr ⟨w.heap.size, l.length, (bys l).toArray, rfl, hB, heap_alloc_new w _, Nat.le_refl _, by unfold maxLen; omega, by simp [bys_length], by simp [bys_length, List.take_of_length_le]⟩⟩

section
attribute [local go_sem ↓] apt22_of

set_option maxHeartbeats 4000000 in
theorem rnum_any (n : Nat) (hn : n < 18446744073709551616) (w : World) :
    Calls Tryd.prog 58 #[.int .u64 (n : Int)] w fun e w' => ∃ v, e = .returned v ∧ Own8 w.heap.size w' v (numP n) ∧ Below w.heap.size w w' := by
  obtain ⟨K, hK⟩ : ∃ K, (leP n).length = K := ⟨_, rfl⟩
  have hK8 : K ≤ 8 := hK ▸ leP_len8 hn
  have HK := Lib.hid hK
  clear hK
  go_enter Tryd.func58, Tryd.ntmps58
  go_wp2_with fail
  go_loop [3, 4] (fun k v => ∃ (m j : Nat), k = .int .i64 (j : Int) ∧ v = .int .u64 (m : Int) ∧ m ≤ n ∧ (leP m).length + j = K) (fun _ v => (intOf v).toNat)
  case atStart => exact ⟨n, 0, rfl, rfl, Nat.le_refl _, HK.out⟩
  case round =>
    obtain ⟨m, j, rfl, rfl, hm, hj⟩ := hrel
    by_cases h0 : 0 < m
    · have hpos : (0 : Int) < (m : Int) := by omega
      rw [leP_pos h0, List.length_cons] at hj
      have HJ := Lib.hid hj
      have hj8 : j ≤ 8 := by omega
      clear hj
      go_wp2_with fail
      go_round
      case rel => exact ⟨m / 256, j + 1, by go_num, by go_num, by omega, by have := HJ.out; omega⟩
      case measure => simp [intOf]; omega
    · obtain rfl : m = 0 := by omega
      have hjK : K = j := by rw [leP_zero] at hj; simpa using hj.symm
      subst hjK
      have hW := own8_lit (B := w.heap.size) w [(K : Int)] (Nat.le_refl _) (by simp)
      have hB0 : Below w.heap.size w (w.alloc (.cells (bys [(K : Int)]).toArray 5)) := (Below.refl _ w).alloc (Nat.le_refl _) _
      have HW := Lib.hid hW
      have HB0 := Lib.hid hB0
      clear hW hB0 hj
      go_wp2_with fail
      go_loopg [5, 6] K (fun k v t wr => ∃ (i : Nat) (A : Option Addr) (c : Nat), i + k = K ∧ ((i < K ∧ t = .int .i64 ((K - 1 - i : Nat) : Int)) ∨ (i = K ∧ t = .int .i64 (-1))) ∧ v = .slice A (1 + i) c ∧ Own8 w.heap.size wr v ((K : Int) :: (beN (n : Int) K).take i) ∧ Below w.heap.size w wr)
      case atStart =>
        refine ⟨0, _, _, by omega, ?_, rfl, HW.out, HB0.out⟩
        rcases Nat.eq_zero_or_pos K with h | h
        · exact .inr ⟨h.symm, by go_num⟩
        · exact .inl ⟨h, by go_num⟩
      case round =>
        clear HW HB0
        obtain ⟨i, A, c, hi, ht, rfl, ho, hbl⟩ := hrel
        have hlj : ((K : Int) :: (beN (n : Int) K).take i).length = 1 + i := by rw [List.length_cons, List.length_take, beN_len]; omega
        have HBl := Lib.hid hbl
        rcases ht with ⟨hiK, rfl⟩ | ⟨rfl, rfl⟩
        · have hxe : (beN (n : Int) K).getD i 0 = (n : Int) / 2 ^ (8 * (K - 1 - i)) % 256 := by
            rw [beN_get _ hiK, IntKind.wrap_u8']
          have hxt : (beN (n : Int) K).take (i + 1) = (beN (n : Int) K).take i ++ [(n : Int) / 2 ^ (8 * (K - 1 - i)) % 256] := by
            rw [List.take_succ_eq_append_getElem (by rw [beN_len]; exact hiK), ← hxe]
            simp [List.getD, beN_len, hiK]
          obtain ⟨v', w', hap, ho', hf', _⟩ := app8_one (ty := 22) (x := (n : Int) / 2 ^ (8 * (K - 1 - i)) % 256) ho (by omega) (by rw [hlj]; omega) hbl.size
          obtain ⟨A6, c6, rfl⟩ := ho'.form
          rw [List.length_append, hlj] at hap ho'
          rw [List.cons_append, ← hxt] at ho'
          have HO2 := Lib.hid ho
          have HO' := Lib.hid ho'
          have HF' := Lib.hid hf'
          clear ho ho' hf' hlj hbl hxe hxt
          go_wp2_with fail
          go_roundg (K - (i + 1))
          case measure => omega
          case rel =>
            refine ⟨i + 1, _, _, by omega, ?_, rfl, HO'.out, HBl.out.trans (HF'.out.below HBl.out.size (fun k hk e => by have := (HO2.out.lt e).1; omega))⟩
            by_cases h7 : i + 1 = K
            · exact .inr ⟨h7, by go_num⟩
            · exact .inl ⟨by omega, by go_num⟩
        · have hnum : (i : Int) :: beN (n : Int) i = numP n := by
            have h1 := beN_be n
            rw [HK.out] at h1
            rw [h1, numP, HK.out]
          rw [List.take_of_length_le (by rw [beN_len]; exact Nat.le_refl _), hnum] at ho
          have HO := Lib.hid ho
          clear ho hlj hbl hnum
          go_wp2_with fail
          go_ret
          exact ⟨_, rfl, HO.out, HBl.out⟩

theorem be4_cells (m : Nat) : (bys (be4P m)).toArray = #[.int .u8 ((m : Int) / 16777216 % 256), .int .u8 ((m : Int) / 65536 % 256), .int .u8 ((m : Int) / 256 % 256), .int .u8 ((m : Int) % 256)] := by
  simp [be4P, bys]

set_option maxHeartbeats 2000000 in
theorem rlong_any (A : Option Addr) (c : Nat) (hcA : A = none → c = 0) (b : List Int) (w : World) (hb : Byt w A b) (hl : b.length ≤ 500000000) :
    Calls Tryd.prog 59 #[.slice A b.length c] w fun e w' => ∃ v, e = .returned v ∧ Own8 w.heap.size w' v (be4P b.length ++ b) ∧ Below w.heap.size w w' := by
  obtain ⟨m, hm⟩ : ∃ m, b.length = m := ⟨_, rfl⟩
  have h0 := own8_lit (B := w.heap.size) w (be4P m) (Nat.le_refl _) (by simp [be4P_len])
  have hB0 : Below w.heap.size w (w.alloc (.cells (bys (be4P m)).toArray 5)) := (Below.refl _ w).alloc (Nat.le_refl _) _
  obtain ⟨v2, w2, hap, ho2, hf2, _⟩ := app8 (ty := 22) (c := c) h0 (hb.below hB0) (by rw [be4P_len]; omega) (by simp) hcA
  have hB2 : Below w.heap.size w w2 := hB0.trans (hf2.below (by simp) (fun k hk e => by have := (h0.lt e).1; omega))
  rw [hm, be4P_len, be4_cells] at hap
  rw [hm]
  have HO := Lib.hid ho2
  have HB := Lib.hid hB2
  clear hb hm h0 hB0 ho2 hf2 hB2
  go_enter Tryd.func59, Tryd.ntmps59
  go_wp2_with fail
  go_ret
  exact ⟨_, rfl, HO.out, HB.out⟩
end

end Go.Proofs.YtohadeijmmmcdaaDoor
