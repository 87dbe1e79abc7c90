/-
  The drum's land.
-/
import Derived.Test.YtohadeijmmmcdaaDoorDrumB
namespace Go.Proofs.YtohadeijmmmcdaaDoor
open Go.RowKit
set_option maxRecDepth 100000
attribute [local go_sem ↓] ld62 ld60 st62 st60 al62 al60 CPs_of SLs_of

theorem i5 : (Tryd.prog.info? 5).map (·.size) = some 1 := by kernel_rfl

/-- The first k words have landed. -/
def landK (a b : List Int) (mask k : Nat) : List Int := (List.range 64).map fun j => if j / 8 < k ∧ mask / 2 ^ (j / 8) % 2 = 1 then b.getD j 0 else a.getD j 0
theorem landK_len (a b : List Int) (m k : Nat) : (landK a b m k).length = 64 := by simp [landK]
theorem landK_zero {a b : List Int} (ha : a.length = 64) (m : Nat) : landK a b m 0 = a := by
  apply List.ext_getElem
  · simp [landK, ha]
  · intro i h1 h2
    simp [landK, List.getD, h2]
theorem landK_all (a b : List Int) (m : Nat) : landK a b m 8 = landW a b m := by
  unfold landK landW
  apply List.map_congr_left
  intro j hj
  have : j / 8 < 8 := by have := List.mem_range.1 hj; omega
  simp [this]
theorem landK_skip {a b : List Int} {m k : Nat} (h : m / 2 ^ k % 2 ≠ 1) : landK a b m (k + 1) = landK a b m k := by
  unfold landK
  apply List.map_congr_left
  intro j hj
  by_cases e : j / 8 = k
  · rw [if_neg (by rw [e]; exact fun h' => h h'.2), if_neg (by omega)]
  · have : (j / 8 < k + 1) ↔ (j / 8 < k) := by omega
    simp only [this]
theorem landK_take {a b : List Int} {m k : Nat} (hb : b.length = 64) (hk : k < 8) (h : m / 2 ^ k % 2 = 1) :
    (landK a b m k).take (k * 8) ++ (b.drop (k * 8)).take 8 ++ (landK a b m k).drop (k * 8 + 8) = landK a b m (k + 1) := by
  have hl := landK_len a b m k
  apply List.ext_getElem
  · simp [landK_len, hb]; omega
  · intro i h1 h2
    have hi : i < 64 := by rw [landK_len] at h2; exact h2
    by_cases c1 : i < k * 8
    · rw [List.getElem_append_left (by simp [hl, hb]; omega), List.getElem_append_left (by simp [hl]; omega)]
      have e : i / 8 < k := by omega
      have e' : i / 8 < k + 1 := by omega
      simp [landK, e, e']
    · by_cases c2 : i < k * 8 + 8
      · rw [List.getElem_append_left (by simp [hl, hb]; omega), List.getElem_append_right (by simp [hl]; omega)]
        have e : i / 8 = k := by omega
        have hm : min (k * 8) 64 = k * 8 := by omega
        simp only [List.getElem_take, List.getElem_drop, List.length_take, hl, hm]
        have e2 : k * 8 + (i - k * 8) = i := by omega
        simp only [e2]
        simp [landK, e, h, List.getD, hb, hi]
      · rw [List.getElem_append_right (by simp [hl, hb]; omega)]
        have e : ¬ i / 8 < k := by omega
        have e' : ¬ i / 8 < k + 1 := by omega
        have hm : min (k * 8) 64 = k * 8 := by omega
        have hm2 : min 8 (64 - k * 8) = 8 := by omega
        simp only [List.getElem_drop, List.length_append, List.length_take, List.length_drop, hl, hb, hm, hm2]
        have e2 : k * 8 + 8 + (i - (k * 8 + 8)) = i := by omega
        simp only [e2]
        simp [landK, e, e']
/-- Words laid into one of the sectors. -/
theorem splice_in (L : List (List Int)) (hL : ∀ s ∈ L, s.length = 64) (k o : Nat) (hk : k < L.length) (b : List Int) (hb : o + b.length ≤ 64) :
    splice (bys L.flatten).toArray (k * 64 + o) (bys b) = (bys (L.set k (L[k].take o ++ b ++ L[k].drop (o + b.length))).flatten).toArray := by
  have hs : L[k].length = 64 := hL _ (List.getElem_mem _)
  have h1 := flat_splice 64 L hL k hk (L[k].take o ++ b ++ L[k].drop (o + b.length)) (by simp [hs]; omega)
  have h2 := flat_splice 64 L hL k hk L[k] hs
  rw [List.set_getElem_self] at h2
  have hlen := flat_len 64 L hL
  have hkl : k * 64 + 64 ≤ L.length * 64 := by
    have : (k + 1) * 64 ≤ L.length * 64 := Nat.mul_le_mul_right _ hk
    omega
  rw [← h1]
  unfold splice
  rw [bys_length, bys_take, bys_drop, ← bys_app, ← bys_app]
  congr 2
  have ht : (L.flatten.take (k * 64)).length = k * 64 := by simp [hlen]; omega
  generalize hA : L.flatten.take (k * 64) = A at *
  generalize hC : L.flatten.drop (k * 64 + 64) = C at *
  rw [← h2]
  have e1 : (A ++ L[k] ++ C).take (k * 64 + o) = A ++ L[k].take o := by
    rw [List.append_assoc, List.take_append, ht, List.take_of_length_le (by omega), List.take_append]
    simp [hs]
    omega
  have e2 : (A ++ L[k] ++ C).drop (k * 64 + o + b.length) = L[k].drop (o + b.length) ++ C := by
    rw [List.append_assoc, List.drop_append, ht, List.drop_eq_nil_of_le (by omega), List.drop_append, hs]
    have : k * 64 + o + b.length - k * 64 = o + b.length := by omega
    rw [this]
    have : o + b.length - 64 = 0 := by omega
    simp [this]
  rw [e1, e2]
  simp

theorem and_one_u8 : ∀ v : Fin 256, bits .and .u8 (v.val : Int) 1 = ((v.val % 2 : Nat) : Int) := by decide +kernel
theorem bit_u8 (m k : Nat) (hm : m ≤ 255) : bits .and .u8 ((m : Int) / 2 ^ k) 1 = ((m / 2 ^ k % 2 : Nat) : Int) := by
  have h1 : ((m : Int) / 2 ^ k) = ((m / 2 ^ k : Nat) : Int) := by simp
  have h2 : m / 2 ^ k < 256 := Nat.lt_of_le_of_lt (Nat.div_le_self _ _) (by omega)
  rw [h1]
  exact and_one_u8 ⟨m / 2 ^ k, h2⟩

set_option maxHeartbeats 1000000 in
theorem land_any (p gs n : Nat) (wv : Value) (fuse : Int) (off : Bool) (L : List (List Int)) (x : Nat × List Int) (m : Nat) (w : World) (h : DrumB w p (.slice (some ⟨gs, 0, none⟩) n n) wv fuse off) (hn : n = L.length)
    (hb : Blk w gs 119 (bys L.flatten).toArray) (hL : ∀ s ∈ L, s.length = 64) (hk : x.1 < L.length) (hx : x.2.length = 64) (hm : m ≤ 255) :
    Calls Tryd.prog 69 #[.pointer (some ⟨p, 0, none⟩), .agg (wrow x).toArray, .int .u8 (m : Int)] w fun e w' =>
      e = .returned (.tuple #[]) ∧ Blk w' gs 119 (bys (L.set x.1 (landW (L.getD x.1 []) x.2 m)).flatten).toArray ∧ Fr (fun k => k = gs) w w' := by
  obtain ⟨A0, hA0⟩ : ∃ A0, L.getD x.1 [] = A0 := ⟨_, rfl⟩
  rw [hA0]
  have ha64 : A0.length = 64 := by rw [← hA0]; exact hL _ (getD_mem hk)
  have hset0 : L.set x.1 A0 = L := by
    rw [← hA0]
    simp [List.getD, hk]
  have HSET := Lib.hid hset0
  have HA64 := Lib.hid ha64
  clear hA0 ha64 hset0
  have H := Lib.hid h
  have HB := Lib.hid hb
  clear h hb
  go_enter Tryd.func69, Tryd.ntmps69
  go_wp2_with fail
  obtain ⟨W, hW⟩ : ∃ W, w.alloc (.cells (wrow x).toArray 121) = W := ⟨_, rfl⟩
  obtain ⟨bx, hbx⟩ : ∃ bx, w.heap.size = bx := ⟨_, rfl⟩
  have hbox : Blk W bx 121 (wrow x).toArray := by rw [← hW, ← hbx]; exact Blk.new _ _ _
  have hp : DrumB W p (.slice (some ⟨gs, 0, none⟩) n n) wv fuse off := by rw [← hW]; exact Blk.alloc H.out _
  have hbW : Blk W gs 119 (bys L.flatten).toArray := by rw [← hW]; exact HB.out.alloc _
  have hfW : Fr (fun k => k = gs) w W := by rw [← hW]; exact (Fr.refl _ w).alloc _
  have HBX := Lib.hid hbox
  have HP := Lib.hid hp
  have HNE := Lib.hid (hbox.ne_ hbW (by decide))
  have HPN := Lib.hid (Blk.ne_ hp hbW (by decide))
  have HBW := Lib.hid hbW
  have HFW := Lib.hid hfW
  rw [hW, hbx]
  clear hW hbx hbox hp hbW hfW
  go_loopw [7] (fun t wr => ∃ k : Nat, k ≤ 8 ∧ t = .int .i64 k ∧ Blk wr gs 119 (bys (L.set x.1 (landK (A0) x.2 m k)).flatten).toArray ∧ Fr (fun k => k = gs) W wr)
    (fun t _ => 8 - (intOf t).toNat)
  case atStart => exact ⟨0, by omega, rfl, by rw [landK_zero HA64.out, HSET.out]; exact HBW.out, Fr.refl _ _⟩
  case round =>
    obtain ⟨k, hk8, rfl, hbk, hfr⟩ := hrel
    by_cases hlt : k < 8
    · have hbit := bit_u8 m k hm
      have hcb : wr.drew.cell? ⟨bx, 0, none⟩ = some (.int .i64 (x.1 : Int)) := HBX.out.fr hfr (fun e => HNE.out e) |>.cell 0
      have hc0 : wr.drew.cell? ⟨p, 0, none⟩ = some (.slice (some ⟨gs, 0, none⟩) n n) := (Blk.fr HP.out hfr HPN.out).cell 0
      have hk1 : (x.1 : Int) < (n : Int) := by omega
      by_cases hon : m / 2 ^ k % 2 = 1
      · have hb1 : (bits .and .u8 ((m : Int) / 2 ^ k) 1 == 1) = true := by rw [hbit, hon]; rfl
        have hw1 : IntKind.i64.wrap ((k : Int) * 8) = (k : Int) * 8 := IntWalk.i64_in _ (by omega)
        have hw2 : IntKind.i64.wrap ((k : Int) + 1) = (k : Int) + 1 := IntWalk.i64_in _ (by omega)
        have hw3 : IntKind.i64.wrap (((k : Int) + 1) * 8) = ((k : Int) + 1) * 8 := IntWalk.i64_in _ (by omega)
        have hsl1 := SLs_arr (P := Tryd.prog) (t := 119) u54 i5 wr.drew gs (x.1 * 64) (k * 8) ((k + 1) * 8) ((k : Int) * 8) (((k : Int) + 1) * 8) (by omega) (by omega) (by omega) (by omega) (by omega) (by omega)
        have hsl2 := SLs_from (P := Tryd.prog) (t := 119) u54 i5 wr.drew bx 1 (k * 8) ((k : Int) * 8) (by omega) (by omega) (by omega)
        have hL' : ∀ s ∈ L.set x.1 (landK (A0) x.2 m k), s.length = 64 := by
          intro s hs
          rcases List.mem_or_eq_of_mem_set hs with h3 | h3
          · exact hL s h3
          · rw [h3, landK_len]
        have hcp := CPs_blk (P := Tryd.prog) (dT := 22) (sT := 22) (ty := 3) Tryd.underlying22 i5 hbk.drew (o := x.1 * 64 + k * 8) (dLen := (k + 1) * 8 - k * 8) (dCap := 64 - k * 8)
          (a := ⟨bx, 1 + k * 8, none⟩) (sLen := 64 - k * 8) (sCap := 64 - k * 8) (bys ((x.2.drop (k * 8)).take 8)) (by simp only [bys_length, List.length_take, List.length_drop, hx]; show _ = min _ _; omega)
          (fun j v hv => by
            have hadd : (⟨bx, 1 + k * 8, none⟩ : Addr).add j = ⟨bx, 1 + k * 8 + j, none⟩ := by unfold Addr.add; split <;> simp_all
            rw [hadd]
            refine ((HBX.out.fr hfr (fun e => HNE.out e)).cell _).trans ?_
            rw [bys_get, List.getElem?_take] at hv
            split at hv
            · rw [List.getElem?_drop] at hv
              rw [show 1 + k * 8 + j = (k * 8 + j) + 1 by omega]
              simpa [wrow, bys_get] using hv
            · cases hv)
          (by rw [List.size_toArray, bys_length, bys_length, flat_len 64 _ hL', List.length_set]; simp only [List.length_take, List.length_drop, hx]; omega) (bys_one _)
        rw [splice_in _ hL' _ _ (by simpa using hk) _ (by simp [hx]; omega)] at hcp
        have hset : (L.set x.1 (landK (A0) x.2 m k)).set x.1 ((L.set x.1 (landK (A0) x.2 m k))[x.1]'(by simpa using hk) |>.take (k * 8) |>.append ((x.2.drop (k * 8)).take 8) |>.append ((L.set x.1 (landK (A0) x.2 m k))[x.1]'(by simpa using hk) |>.drop (k * 8 + ((x.2.drop (k * 8)).take 8).length))) = L.set x.1 (landK (A0) x.2 m (k + 1)) := by
          rw [List.set_set]
          congr 1
          have h8 : ((x.2.drop (k * 8)).take 8).length = 8 := by simp [hx]; omega
          rw [h8, List.getElem_set_self]
          exact landK_take hx hlt hon
        rw [show ∀ A B C : List Int, A ++ B ++ C = (A.append B).append C from fun _ _ _ => rfl, hset] at hcp
        obtain ⟨o1, ho1⟩ : ∃ o1, x.1 * 64 + k * 8 = o1 := ⟨_, rfl⟩
        obtain ⟨l1, hl1⟩ : ∃ l1, (k + 1) * 8 - k * 8 = l1 := ⟨_, rfl⟩
        obtain ⟨c1, hc1⟩ : ∃ c1, 64 - k * 8 = c1 := ⟨_, rfl⟩
        obtain ⟨o2, ho2⟩ : ∃ o2, 1 + k * 8 = o2 := ⟨_, rfl⟩
        rw [ho1, hl1, hc1] at hsl1
        rw [hc1, ho2] at hsl2
        rw [ho1, hl1, hc1, ho2] at hcp
        clear hbit hon ho1 hl1 hc1 ho2 hset hL'
        go_wp2_with fail
        refine wp_still_tail 17 (by kernel_rfl) (by kernel_rfl) ?_
        simp only [List.take_succ_cons, List.take_zero, List.drop_succ_cons, List.drop_zero]
        repeat still_step
        refine wpStill_nil ?_
        go_wp2_with fail
        exact ⟨⟨k + 1, by omega, by go_num, (hbk.drew).row_ _, (hfr.drew).setRow (fun _ => rfl) _⟩, by simp [intOf]; omega⟩
      · have hb0 : (bits .and .u8 ((m : Int) / 2 ^ k) 1 == 1) = false := by rw [hbit]; exact beq_eq_false_iff_ne.2 (by omega)
        have HON := Lib.hid hon
        clear hbit hon
        go_wp2_with fail
        exact ⟨⟨k + 1, by omega, by go_num, by rw [landK_skip HON.out]; exact hbk, hfr⟩, by simp [intOf]; omega⟩
    · obtain rfl : k = 8 := by omega
      rw [landK_all] at hbk
      go_wp2_with fail
      go_end0
      exact ⟨rfl, hbk, HFW.out.trans hfr (fun _ _ e => e)⟩

end Go.Proofs.YtohadeijmmmcdaaDoor
