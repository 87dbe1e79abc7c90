/-
  The drum's land.
  The drum's Start.
  The drum's Write.
-/
import Derived.Test.YtohadeijmmmcdaaDoorDrumB

section
namespace Go.Proofs.YtohadeijmmmcdaaDoor
open Go.RowKit
set_option maxRecDepth 100000
attribute [local go_sem ↓] ld62 ld60 st62 st60 al62 al60 CPs_of SLs_of

theorem i5 : (Tryd.prog.info? 5).map (·.size) = some 1 := by kernel_rfl

/-- The first k words have landed. -/
def landK (a b : List Int) (mask k : Nat) : List Int := (List.range 64).map fun j => if j / 8 < k ∧ mask / 2 ^ (j / 8) % 2 = 1 then b.getD j 0 else a.getD j 0
theorem landK_len (a b : List Int) (m k : Nat) : (landK a b m k).length = 64 := by simp [landK]
theorem landK_zero {a b : List Int} (ha : a.length = 64) (m : Nat) : landK a b m 0 = a := by
  apply List.ext_getElem
  · simp [landK, ha]
  · intro i h1 h2
    simp [landK, List.getD, h2]
theorem landK_all (a b : List Int) (m : Nat) : landK a b m 8 = landW a b m := by
  unfold landK landW
  apply List.map_congr_left
  intro j hj
  have : j / 8 < 8 := by have := List.mem_range.1 hj; omega
  simp [this]
theorem landK_skip {a b : List Int} {m k : Nat} (h : m / 2 ^ k % 2 ≠ 1) : landK a b m (k + 1) = landK a b m k := by
  unfold landK
  apply List.map_congr_left
  intro j hj
  by_cases e : j / 8 = k
  · rw [if_neg (by rw [e]; exact fun h' => h h'.2), if_neg (by omega)]
  · have : (j / 8 < k + 1) ↔ (j / 8 < k) := by omega
    simp only [this]
theorem landK_take {a b : List Int} {m k : Nat} (hb : b.length = 64) (hk : k < 8) (h : m / 2 ^ k % 2 = 1) :
    (landK a b m k).take (k * 8) ++ (b.drop (k * 8)).take 8 ++ (landK a b m k).drop (k * 8 + 8) = landK a b m (k + 1) := by
  have hl := landK_len a b m k
  apply List.ext_getElem
  · simp [landK_len, hb]; omega
  · intro i h1 h2
    have hi : i < 64 := by rw [landK_len] at h2; exact h2
    by_cases c1 : i < k * 8
    · rw [List.getElem_append_left (by simp [hl, hb]; omega), List.getElem_append_left (by simp [hl]; omega)]
      have e : i / 8 < k := by omega
      have e' : i / 8 < k + 1 := by omega
      simp [landK, e, e']
    · by_cases c2 : i < k * 8 + 8
      · rw [List.getElem_append_left (by simp [hl, hb]; omega), List.getElem_append_right (by simp [hl]; omega)]
        have e : i / 8 = k := by omega
        have hm : min (k * 8) 64 = k * 8 := by omega
        simp only [List.getElem_take, List.getElem_drop, List.length_take, hl, hm]
        have e2 : k * 8 + (i - k * 8) = i := by omega
        simp only [e2]
        simp [landK, e, h, List.getD, hb, hi]
      · rw [List.getElem_append_right (by simp [hl, hb]; omega)]
        have e : ¬ i / 8 < k := by omega
        have e' : ¬ i / 8 < k + 1 := by omega
        have hm : min (k * 8) 64 = k * 8 := by omega
        have hm2 : min 8 (64 - k * 8) = 8 := by omega
        simp only [List.getElem_drop, List.length_append, List.length_take, List.length_drop, hl, hb, hm, hm2]
        have e2 : k * 8 + 8 + (i - (k * 8 + 8)) = i := by omega
        simp only [e2]
        simp [landK, e, e']
/-- Words laid into one of the sectors. -/
theorem splice_in (L : List (List Int)) (hL : ∀ s ∈ L, s.length = 64) (k o : Nat) (hk : k < L.length) (b : List Int) (hb : o + b.length ≤ 64) :
    splice (bys L.flatten).toArray (k * 64 + o) (bys b) = (bys (L.set k (L[k].take o ++ b ++ L[k].drop (o + b.length))).flatten).toArray := by
  have hs : L[k].length = 64 := hL _ (List.getElem_mem _)
  have h1 := flat_splice 64 L hL k hk (L[k].take o ++ b ++ L[k].drop (o + b.length)) (by simp [hs]; omega)
  have h2 := flat_splice 64 L hL k hk L[k] hs
  rw [List.set_getElem_self] at h2
  have hlen := flat_len 64 L hL
  have hkl : k * 64 + 64 ≤ L.length * 64 := by
    have : (k + 1) * 64 ≤ L.length * 64 := Nat.mul_le_mul_right _ hk
    omega
  rw [← h1]
  unfold splice
  rw [bys_length, bys_take, bys_drop, ← bys_app, ← bys_app]
  congr 2
  have ht : (L.flatten.take (k * 64)).length = k * 64 := by simp [hlen]; omega
  generalize hA : L.flatten.take (k * 64) = A at *
  generalize hC : L.flatten.drop (k * 64 + 64) = C at *
  rw [← h2]
  have e1 : (A ++ L[k] ++ C).take (k * 64 + o) = A ++ L[k].take o := by
    rw [List.append_assoc, List.take_append, ht, List.take_of_length_le (by omega), List.take_append]
    simp [hs]
    omega
  have e2 : (A ++ L[k] ++ C).drop (k * 64 + o + b.length) = L[k].drop (o + b.length) ++ C := by
    rw [List.append_assoc, List.drop_append, ht, List.drop_eq_nil_of_le (by omega), List.drop_append, hs]
    have : k * 64 + o + b.length - k * 64 = o + b.length := by omega
    rw [this]
    have : o + b.length - 64 = 0 := by omega
    simp [this]
  rw [e1, e2]
  simp

theorem and_one_u8 : ∀ v : Fin 256, bits .and .u8 (v.val : Int) 1 = ((v.val % 2 : Nat) : Int) := by decide +kernel
theorem bit_u8 (m k : Nat) (hm : m ≤ 255) : bits .and .u8 ((m : Int) / 2 ^ k) 1 = ((m / 2 ^ k % 2 : Nat) : Int) := by
  have h1 : ((m : Int) / 2 ^ k) = ((m / 2 ^ k : Nat) : Int) := by simp
  have h2 : m / 2 ^ k < 256 := Nat.lt_of_le_of_lt (Nat.div_le_self _ _) (by omega)
  rw [h1]
  exact and_one_u8 ⟨m / 2 ^ k, h2⟩

set_option maxHeartbeats 1000000 in
theorem land_any (p gs n : Nat) (wv : Value) (fuse : Int) (off : Bool) (L : List (List Int)) (x : Nat × List Int) (m : Nat) (w : World) (h : DrumB w p (.slice (some ⟨gs, 0, none⟩) n n) wv fuse off) (hn : n = L.length)
    (hb : Blk w gs 119 (bys L.flatten).toArray) (hL : ∀ s ∈ L, s.length = 64) (hk : x.1 < L.length) (hx : x.2.length = 64) (hm : m ≤ 255) :
    Calls Tryd.prog 69 #[.pointer (some ⟨p, 0, none⟩), .agg (wrow x).toArray, .int .u8 (m : Int)] w fun e w' =>
      e = .returned (.tuple #[]) ∧ Blk w' gs 119 (bys (L.set x.1 (landW (L.getD x.1 []) x.2 m)).flatten).toArray ∧ Fr (fun k => k = gs) w w' := by
  obtain ⟨A0, hA0⟩ : ∃ A0, L.getD x.1 [] = A0 := ⟨_, rfl⟩
  rw [hA0]
  have ha64 : A0.length = 64 := by rw [← hA0]; exact hL _ (getD_mem hk)
  have hset0 : L.set x.1 A0 = L := by
    rw [← hA0]
    simp [List.getD, hk]
  have HSET := Lib.hid hset0
  have HA64 := Lib.hid ha64
  clear hA0 ha64 hset0
  have H := Lib.hid h
  have HB := Lib.hid hb
  clear h hb
  go_enter Tryd.func69, Tryd.ntmps69
  go_wp2_with fail
  obtain ⟨W, hW⟩ : ∃ W, w.alloc (.cells (wrow x).toArray 121) = W := ⟨_, rfl⟩
  obtain ⟨bx, hbx⟩ : ∃ bx, w.heap.size = bx := ⟨_, rfl⟩
  have hbox : Blk W bx 121 (wrow x).toArray := by rw [← hW, ← hbx]; exact Blk.new _ _ _
  have hp : DrumB W p (.slice (some ⟨gs, 0, none⟩) n n) wv fuse off := by rw [← hW]; exact Blk.alloc H.out _
  have hbW : Blk W gs 119 (bys L.flatten).toArray := by rw [← hW]; exact HB.out.alloc _
  have hfW : Fr (fun k => k = gs) w W := by rw [← hW]; exact (Fr.refl _ w).alloc _
  have HBX := Lib.hid hbox
  have HP := Lib.hid hp
  have HNE := Lib.hid (hbox.ne_ hbW (by decide))
  have HPN := Lib.hid (Blk.ne_ hp hbW (by decide))
  have HBW := Lib.hid hbW
  have HFW := Lib.hid hfW
  rw [hW, hbx]
  clear hW hbx hbox hp hbW hfW
  go_loopw [7] (fun t wr => ∃ k : Nat, k ≤ 8 ∧ t = .int .i64 k ∧ Blk wr gs 119 (bys (L.set x.1 (landK (A0) x.2 m k)).flatten).toArray ∧ Fr (fun k => k = gs) W wr)
    (fun t _ => 8 - (intOf t).toNat)
  case atStart => exact ⟨0, by omega, rfl, by rw [landK_zero HA64.out, HSET.out]; exact HBW.out, Fr.refl _ _⟩
  case round =>
    obtain ⟨k, hk8, rfl, hbk, hfr⟩ := hrel
    by_cases hlt : k < 8
    · have hbit := bit_u8 m k hm
      have hcb : wr.drew.cell? ⟨bx, 0, none⟩ = some (.int .i64 (x.1 : Int)) := HBX.out.fr hfr (fun e => HNE.out e) |>.cell 0
      have hc0 : wr.drew.cell? ⟨p, 0, none⟩ = some (.slice (some ⟨gs, 0, none⟩) n n) := (Blk.fr HP.out hfr HPN.out).cell 0
      have hk1 : (x.1 : Int) < (n : Int) := by omega
      by_cases hon : m / 2 ^ k % 2 = 1
      · have hb1 : (bits .and .u8 ((m : Int) / 2 ^ k) 1 == 1) = true := by rw [hbit, hon]; rfl
        have hw1 : IntKind.i64.wrap ((k : Int) * 8) = (k : Int) * 8 := IntWalk.i64_in _ (by omega)
        have hw2 : IntKind.i64.wrap ((k : Int) + 1) = (k : Int) + 1 := IntWalk.i64_in _ (by omega)
        have hw3 : IntKind.i64.wrap (((k : Int) + 1) * 8) = ((k : Int) + 1) * 8 := IntWalk.i64_in _ (by omega)
        have hsl1 := SLs_arr (P := Tryd.prog) (t := 119) u54 i5 wr.drew gs (x.1 * 64) (k * 8) ((k + 1) * 8) ((k : Int) * 8) (((k : Int) + 1) * 8) (by omega) (by omega) (by omega) (by omega) (by omega) (by omega)
        have hsl2 := SLs_from (P := Tryd.prog) (t := 119) u54 i5 wr.drew bx 1 (k * 8) ((k : Int) * 8) (by omega) (by omega) (by omega)
        have hL' : ∀ s ∈ L.set x.1 (landK (A0) x.2 m k), s.length = 64 := by
          intro s hs
          rcases List.mem_or_eq_of_mem_set hs with h3 | h3
          · exact hL s h3
          · rw [h3, landK_len]
        have hcp := CPs_blk (P := Tryd.prog) (dT := 22) (sT := 22) (ty := 3) Tryd.underlying22 i5 hbk.drew (o := x.1 * 64 + k * 8) (dLen := (k + 1) * 8 - k * 8) (dCap := 64 - k * 8)
          (a := ⟨bx, 1 + k * 8, none⟩) (sLen := 64 - k * 8) (sCap := 64 - k * 8) (bys ((x.2.drop (k * 8)).take 8)) (by simp only [bys_length, List.length_take, List.length_drop, hx]; show _ = min _ _; omega)
          (fun j v hv => by
            have hadd : (⟨bx, 1 + k * 8, none⟩ : Addr).add j = ⟨bx, 1 + k * 8 + j, none⟩ := by unfold Addr.add; split <;> simp_all
            rw [hadd]
            refine ((HBX.out.fr hfr (fun e => HNE.out e)).cell _).trans ?_
            rw [bys_get, List.getElem?_take] at hv
            split at hv
            · rw [List.getElem?_drop] at hv
              rw [show 1 + k * 8 + j = (k * 8 + j) + 1 by omega]
              simpa [wrow, bys_get] using hv
            · cases hv)
          (by rw [List.size_toArray, bys_length, bys_length, flat_len 64 _ hL', List.length_set]; simp only [List.length_take, List.length_drop, hx]; omega) (bys_one _)
        rw [splice_in _ hL' _ _ (by simpa using hk) _ (by simp [hx]; omega)] at hcp
        have hset : (L.set x.1 (landK (A0) x.2 m k)).set x.1 ((L.set x.1 (landK (A0) x.2 m k))[x.1]'(by simpa using hk) |>.take (k * 8) |>.append ((x.2.drop (k * 8)).take 8) |>.append ((L.set x.1 (landK (A0) x.2 m k))[x.1]'(by simpa using hk) |>.drop (k * 8 + ((x.2.drop (k * 8)).take 8).length))) = L.set x.1 (landK (A0) x.2 m (k + 1)) := by
          rw [List.set_set]
          congr 1
          have h8 : ((x.2.drop (k * 8)).take 8).length = 8 := by simp [hx]; omega
          rw [h8, List.getElem_set_self]
          exact landK_take hx hlt hon
        rw [show ∀ A B C : List Int, A ++ B ++ C = (A.append B).append C from fun _ _ _ => rfl, hset] at hcp
        obtain ⟨o1, ho1⟩ : ∃ o1, x.1 * 64 + k * 8 = o1 := ⟨_, rfl⟩
        obtain ⟨l1, hl1⟩ : ∃ l1, (k + 1) * 8 - k * 8 = l1 := ⟨_, rfl⟩
        obtain ⟨c1, hc1⟩ : ∃ c1, 64 - k * 8 = c1 := ⟨_, rfl⟩
        obtain ⟨o2, ho2⟩ : ∃ o2, 1 + k * 8 = o2 := ⟨_, rfl⟩
        rw [ho1, hl1, hc1] at hsl1
        rw [hc1, ho2] at hsl2
        rw [ho1, hl1, hc1, ho2] at hcp
        clear hbit hon ho1 hl1 hc1 ho2 hset hL'
        go_wp2_with fail
        refine wp_still_tail 17 (by kernel_rfl) (by kernel_rfl) ?_
        simp only [List.take_succ_cons, List.take_zero, List.drop_succ_cons, List.drop_zero]
        repeat still_step
        refine wpStill_nil ?_
        go_wp2_with fail
        exact ⟨⟨k + 1, by omega, by go_num, (hbk.drew).row_ _, (hfr.drew).setRow (fun _ => rfl) _⟩, by simp [intOf]; omega⟩
      · have hb0 : (bits .and .u8 ((m : Int) / 2 ^ k) 1 == 1) = false := by rw [hbit]; exact beq_eq_false_iff_ne.2 (by omega)
        have HON := Lib.hid hon
        clear hbit hon
        go_wp2_with fail
        exact ⟨⟨k + 1, by omega, by go_num, by rw [landK_skip HON.out]; exact hbk, hfr⟩, by simp [intOf]; omega⟩
    · obtain rfl : k = 8 := by omega
      rw [landK_all] at hbk
      go_wp2_with fail
      go_end0
      exact ⟨rfl, hbk, HFW.out.trans hfr (fun _ _ e => e)⟩

end Go.Proofs.YtohadeijmmmcdaaDoor
end

section
namespace Go.Proofs.YtohadeijmmmcdaaDoor
open Go.RowKit
set_option maxRecDepth 100000
attribute [local go_sem ↓] ld62 ld60 st62 st60 al62 al60

/-- The slice at A holds these bytes. -/
structure Byt (w : World) (A : Option Addr) (l : List Int) : Prop where
  cell : 0 < l.length → ∃ g off, A = some ⟨g, off, none⟩ ∧ g < w.heap.size ∧ ∀ j x, l[j]? = some x → w.cell? ⟨g, off + j, none⟩ = some (.int .u8 x)
  bd : ∀ x ∈ l, 0 ≤ x ∧ x ≤ 255
theorem Byt.fr {w w' : World} {A : Option Addr} {l : List Int} {F : Nat → Prop} (h : Byt w A l) (hf : Fr F w w') (hn : ∀ a, A = some a → 0 < l.length → ¬ F a.block) : Byt w' A l :=
  ⟨fun h0 => by
    obtain ⟨g, off, rfl, hg, hc⟩ := h.cell h0
    exact ⟨g, off, rfl, Nat.lt_of_lt_of_le hg hf.size, fun j x hx => (hf.cell (p := ⟨g, off + j, none⟩) hg (hn ⟨g, off, none⟩ rfl h0)).trans (hc j x hx)⟩, h.bd⟩
theorem Byt.at_ {w : World} {A : Option Addr} {l : List Int} (h : Byt w A l) {i : Nat} (hi : i < l.length) : ∃ g off, A = some ⟨g, off, none⟩ ∧ g < w.heap.size ∧ w.cell? ⟨g, off + i, none⟩ = some (.int .u8 l[i]) := by
  obtain ⟨g, off, e, hg, hc⟩ := h.cell (by omega)
  exact ⟨g, off, e, hg, hc i _ (List.getElem?_eq_getElem hi)⟩

theorem maskAt_le {M : List Int} (hM : ∀ x ∈ M, 0 ≤ x ∧ x ≤ 255) (i : Nat) : maskAt M i ≤ 255 := by
  unfold maskAt
  split
  · rename_i h
    have := hM (M.getD i 0) (by simp [List.getD, h])
    omega
  · omega

set_option maxHeartbeats 1000000 in
theorem start_any (B : Nat) (p gs : Nat) (wv : Value) (S : DS) (A : Option Addr) (c : Nat) (M : List Int) (w : World) (h : IsDrum B w p gs wv S) (hM : Byt w A M) (hA : ∀ a, A = some a → 0 < M.length → ¬ DF p gs wv a.block) (hlen : S.waits.length ≤ 1000000000) (hml : M.length ≤ maxLen) :
    Calls Tryd.prog 31 #[.pointer (some ⟨p, 0, none⟩), .slice A M.length c] w fun e w' => e = .returned (.tuple #[]) ∧ IsDrum B w' p gs (.slice none 0 0) (S.start M) ∧ Fr (DF p gs wv) w w' := by
  obtain ⟨A', cap, hwv⟩ := own_form h.waits
  have H := Lib.hid h
  have HM := Lib.hid hM
  have HA := Lib.hid hA
  have c1 : w.cell? ⟨p, 1, none⟩ = some (.slice A' S.waits.length cap) := by rw [← hwv]; exact h.st.c1
  have HW := Lib.hid hwv
  unfold maxLen at hml
  clear h hM hA hwv
  go_enter Tryd.func31, Tryd.ntmps31
  go_wp2_with fail
  go_loopw [12] (fun t wr => ∃ i : Nat, i ≤ S.waits.length ∧ t = .int .i64 i ∧ Blk wr gs 119 (bys (landAll M 0 S.sure (S.waits.take i)).flatten).toArray ∧ Fr (fun k => k = gs) w wr)
    (fun t _ => S.waits.length - (intOf t).toNat)
  case atStart => exact ⟨0, Nat.zero_le _, rfl, H.out.sure, Fr.refl _ _⟩
  case round =>
    obtain ⟨i, hi, rfl, hb, hfr⟩ := hrel
    by_cases hlt : i < S.waits.length
    · have hml' := hml
      clear hml'
      obtain ⟨g, cap', hsl, hg, hld⟩ := load_wait H.out.waits (fun x hx => (H.out.ok.waits x hx).2.1) i hlt
      have hsl' := HW.out.symm.trans hsl
      simp only [Value.slice.injEq] at hsl'
      obtain ⟨rfl, -, rfl⟩ := hsl'
      have hgne : g ≠ gs := fun e => H.out.ne3 (by rw [HW.out, e]; rfl)
      have hld' := hld wr (hfr.block g hg hgne)
      have hxm := List.getElem_mem hlt
      have hk0 : S.waits[i].1 < S.sure.length := (H.out.ok.waits _ hxm).1
      have hx64 : S.waits[i].2.length = 64 := (H.out.ok.waits _ hxm).2.1
      obtain ⟨x, hx⟩ : ∃ x, S.waits[i] = x := ⟨_, rfl⟩
      have HX := Lib.hid hx
      rw [hx] at hld' hk0 hx64
      obtain ⟨d, hu, hd⟩ := Option.map_eq_some_iff.1 u62
      obtain ⟨z, hz1, hz2⟩ := Option.map_eq_some_iff.1 z62
      have hal := ALs_new (P := Tryd.prog) (t := 121) z hz1
      obtain ⟨Z, hZ⟩ : ∃ Z, z.cells = Z := ⟨_, rfl⟩
      rw [hZ] at hal hz2
      have hstz := fun W : World => STs_new (P := Tryd.prog) (t := 121) i62 W Z hz2 (wrow x) (wrow_len hx64) (wrow_one x)
      have hl62 : (LDs 121 (.pointer (some ⟨wr.heap.size, 0, none⟩))).run Tryd.prog (wr.alloc (.cells (wrow x).toArray 121)) = .ok (.agg (wrow x).toArray) (wr.alloc (.cells (wrow x).toArray 121)) :=
        LDs_blk hu hd i62 (Blk.new wr _ _) (wrow x) (wrow_len hx64) (by simp [wrow, bys_length, hx64, List.take_of_length_le])
      have hdr : DrumB (wr.alloc (.cells (wrow x).toArray 121)) p (.slice (some ⟨gs, 0, none⟩) S.sure.length S.sure.length) (.slice (some ⟨g, 0, none⟩) S.waits.length cap) S.fuse S.off := by
        rw [← HW.out]
        exact Blk.alloc (Blk.fr H.out.st hfr H.out.ne1) _
      have hland := land_any p gs S.sure.length _ _ _ (landAll M 0 S.sure (S.waits.take i)) x (maskAt M i) _ hdr (by rw [landAll_len]) (hb.alloc _)
        (fun s hs => (landAll_sec M _ _ _ H.out.ok.sure (fun x hx => H.out.ok.waits x (List.mem_of_mem_take hx)) s hs).1) (by rw [landAll_len]; exact hk0) hx64 (maskAt_le HM.out.bd i)
      have HLA := Lib.hid hland
      clear hland hdr hld hsl hz1 hz2 hZ hu hd hx hxm hgne
      by_cases him : i < M.length
      · obtain ⟨gm, om, rfl, hgm, hcm⟩ := HM.out.at_ him
        have hcm' : (wr.alloc (.cells (wrow x).toArray 121)).cell? ⟨gm, om + i, none⟩ = some (.int .u8 M[i]) := by
          rw [World.cell?_alloc_lt _ _ _ (Nat.lt_of_lt_of_le hgm hfr.size)]
          exact (hfr.cell (p := ⟨gm, om + i, none⟩) hgm (fun e => HA.out _ rfl (by omega) (.inr (.inl e)))).trans hcm
        have hmi : (maskAt M i : Int) = M[i] := by
          have := HM.out.bd _ (List.getElem_mem him)
          simp [maskAt, him, List.getD]
          omega
        have HLB := HLA.out
        rw [hmi] at HLB
        obtain ⟨mi, hmi2⟩ : ∃ mi, M[i] = mi := ⟨_, rfl⟩
        rw [hmi2] at HLB hcm'
        have HLC := Lib.hid HLB
        have hdec : decide (i < M.length) = true := by simpa using him
        clear hmi HLB hcm hmi2
        go_wp2_with fail
        refine HLC.out.mono ?_
        rintro e w2 ⟨rfl, hb2, hf2⟩
        go_wp2_with fail
        refine ⟨⟨i + 1, by omega, by go_num, ?_, (hfr.alloc _).trans hf2 (fun _ _ e => e)⟩, by simp [intOf]; omega⟩
        rw [List.take_succ_eq_append_getElem hlt, landAll_snoc, HX.out, List.length_take_of_le hi, Nat.zero_add]
        exact hb2
      · have hmi : (maskAt M i : Int) = 255 := by simp [maskAt, him]
        have HLB := HLA.out
        rw [hmi] at HLB
        have HLC := Lib.hid HLB
        have hdec : decide (i < M.length) = false := by simpa using him
        clear hmi HLB him
        go_wp2_with fail
        refine HLC.out.mono ?_
        rintro e w2 ⟨rfl, hb2, hf2⟩
        go_wp2_with fail
        refine ⟨⟨i + 1, by omega, by go_num, ?_, (hfr.alloc _).trans hf2 (fun _ _ e => e)⟩, by simp [intOf]; omega⟩
        rw [List.take_succ_eq_append_getElem hlt, landAll_snoc, HX.out, List.length_take_of_le hi, Nat.zero_add]
        exact hb2
    · obtain rfl : i = S.waits.length := by omega
      have hdr : DrumB wr p (.slice (some ⟨gs, 0, none⟩) S.sure.length S.sure.length) wv S.fuse S.off := Blk.fr H.out.st hfr H.out.ne1
      have f1' := Blk.frozen hdr 1
      have f2' := Blk.frozen hdr 2
      have f3' := Blk.frozen hdr 3
      have c1' := hdr.c1
      have c2' := hdr.c2
      have c3' := hdr.c3
      have HDR := Lib.hid hdr
      rw [List.take_length] at hb
      have HB := Lib.hid hb
      have HFR := Lib.hid hfr
      clear hdr hb hfr
      go_wp2_with fail
      go_end0
      refine ⟨rfl, ⟨DS.start_ok H.out.ok M, H.out.b1, H.out.b2, ?_, ?_, ?_⟩, ?_⟩
      · simp only [DS.start, landAll_len]
        have := Blk.set_ (Blk.set_ (Blk.set_ HDR.out 1 (.slice none 0 0)) 2 (.int .i64 0)) 3 (.bool false)
        simpa [DrumB] using this
      · exact ((HB.out.far (p := ⟨p, 1, none⟩) (fun e => H.out.ne1 e.symm) _).far (p := ⟨p, 2, none⟩) (fun e => H.out.ne1 e.symm) _).far (p := ⟨p, 3, none⟩) (fun e => H.out.ne1 e.symm) _
      · exact World.ownsRow_nil _ _ _ _
      · exact (((HFR.out.mono fun k _ e => .inr (.inl e)).setCell (p := ⟨p, 1, none⟩) (fun _ => .inl rfl) _).setCell (p := ⟨p, 2, none⟩) (fun _ => .inl rfl) _).setCell (p := ⟨p, 3, none⟩) (fun _ => .inl rfl) _

end Go.Proofs.YtohadeijmmmcdaaDoor
end

section
namespace Go.Proofs.YtohadeijmmmcdaaDoor
open Go.RowKit
set_option maxRecDepth 100000
attribute [local go_sem ↓] ld62 ld60 st62 st60 al62 al60 CPs_of APs_of BDs_of BSs_of

theorem su62 : ∃ f0 f1 : Field, Tryd.prog.underlying 121 = some (.struct #[f0, f1]) ∧ f0.type = 3 ∧ f1.type = 119 ∧ f0.offset = 0 ∧ f1.offset = 1 := ⟨_, _, Tryd.underlying121, rfl, rfl, rfl, rfl⟩
theorem i3 : (Tryd.prog.info? 3).map (·.size) = some 1 := by kernel_rfl
theorem iz62 : (Tryd.prog.info? 121).map (fun i => (i.zero.map (·.cells.size), i.size, i.bytes)) = some (some 65, 65, 72) := by kernel_rfl
theorem iz62' : (Tryd.prog.info? 121).map (fun i => (i.zero.map (·.cells.size), i.size)) = some (some 65, 65) := by kernel_rfl

theorem build_wait (k : Nat) (b : List Int) (hb : b.length = 64) (w : World) :
    (BDs 121 #[(0, .int .i64 (k : Int)), (1, .agg (bys b).toArray)]).run Tryd.prog w = .ok (.agg (wrow (k, b)).toArray) w := by
  obtain ⟨f0, f1, hu, t0, t1, o0, o1⟩ := su62
  have h := BDs_two (P := Tryd.prog) (t := 121) (m := 64) hu z62 (by rw [t0]; exact i3) (by rw [t1]; exact i60) o0 o1 w (.int .i64 (k : Int)) (.agg (bys b).toArray) rfl (by simp [Value.cells, bys_length, hb])
  rw [h]
  congr 2
  simp [Value.cells, wrow]

set_option maxHeartbeats 1000000 in
theorem write_ok (B : Nat) (p gs : Nat) (wv : Value) (S : DS) (k : Nat) (A : Option Addr) (c : Nat) (b : List Int) (w : World) (h : IsDrum B w p gs wv S) (hoff : S.off = false) (hf : S.fuse ≠ 1) (hk : k < S.sure.length) (hb64 : b.length = 64)
    (hb : Byt w A b) (hA : ∀ a, A = some a → a.block ≠ p) (hlen : S.waits.length ≤ 1000000000) (hB : B ≤ w.heap.size) :
    Calls Tryd.prog 23 #[.pointer (some ⟨p, 0, none⟩), .int .i64 (k : Int), .slice A 64 c] w fun e w' =>
      e = .returned (.int .i64 0) ∧ (∃ wv', IsDrum B w' p gs wv' (S.write k b).2 ∧ ∀ j, wv'.ownBlock = some j → wv.ownBlock = some j ∨ w.heap.size ≤ j) ∧ Fr (DF p gs wv) w w' := by
  obtain ⟨A', cap, hwv⟩ := own_form h.waits
  obtain ⟨g, off, rfl, hg, hc⟩ := hb.cell (by omega)
  have H := Lib.hid h
  have hst := h.st
  rw [hoff] at hst
  have HBG := Lib.hid (burns_go p _ wv S.fuse w hst hf h.ok.f0 h.ok.f1)
  have HIS := Lib.hid (is_yes p gs S.sure.length wv S.fuse false (k : Int) w hst (by omega) (by omega))
  have c3 : w.cell? ⟨p, 3, none⟩ = some (.bool false) := hst.c3
  have HW := Lib.hid hwv
  have HO := Lib.hid hoff
  have HF1 := Lib.hid hf
  have HC := Lib.hid hc
  have HBD := Lib.hid hb.bd
  have HB64 := Lib.hid hb64
  have HGP := Lib.hid (hA _ rfl)
  clear h hoff hf hst hwv hc hb hb64 hA
  go_enter Tryd.func23, Tryd.ntmps23
  go_wp2_with fail
  refine HIS.out.mono ?_
  rintro e w0 ⟨rfl, rfl⟩
  go_wp2_with fail
  refine HBG.out.mono ?_
  rintro e w1 ⟨rfl, hd1, hf1⟩
  clear HBG HIS c3
  have c1 : w1.drew.cell? ⟨p, 1, none⟩ = some (.slice A' S.waits.length cap) := by rw [← HW.out]; exact hd1.c1
  have hw1 : w1.ownsRow B 121 65 wv S.waits.length (S.waits.map wrow).flatten := own_fr H.out.waits hf1 (fun k hk e => H.out.ne2 (e ▸ hk))
  have hld : (LDs 119 (.pointer (some ⟨g, off, none⟩))).run Tryd.prog w1.drew = .ok (.agg (bys b).toArray) w1.drew := by
    refine LDs_part _ _ _ 64 u54 rfl i60 g off (bys b) (by rw [bys_length, HB64.out]) (fun j v hv => ?_)
    rw [bys_get] at hv
    obtain ⟨x, hx, rfl⟩ := Option.map_eq_some_iff.1 hv
    exact (hf1.cell (p := ⟨g, off + j, none⟩) hg HGP.out).trans (HC.out j x hx)
  have hbd := build_wait k b HB64.out w1.drew
  have haa := run_arrayAt (P := Tryd.prog) (t := 119) u54 (some ⟨g, off, none⟩) 64 c (Nat.le_refl _) w1.drew
  have hbs := BSs_one (P := Tryd.prog) (t := 106) Tryd.underlying106 iz62' (by omega) (by omega) w1.drew (.agg (wrow (k, b)).toArray) (by simp [Value.cells, wrow_len (x := (k, b)) HB64.out])
  simp only [Value.cells] at hbs
  have hbs' : (BSs 106 1 #[(0, .agg (wrow (k, b)).toArray)]).run Tryd.prog w1.drew = .ok (.slice (some ⟨w1.heap.size, 0, none⟩) 1 1) (w1.alloc (.cells (wrow (k, b)).toArray 121)).drew := hbs
  clear hbs
  have c1' : (w1.alloc (.cells (wrow (k, b)).toArray 121)).drew.cell? ⟨p, 1, none⟩ = some (.slice A' S.waits.length cap) := by
    rw [World.cell?_drew, World.cell?_alloc_lt _ _ _ (show p < _ from Blk.lt hd1)]
    exact c1
  have hap := APs_own (P := Tryd.prog) (t := 106) (ty := 106) Tryd.underlying106 iz62 (by omega) ((hw1.alloc (.cells (wrow (k, b)).toArray 121)).drew)
    (a := ⟨w1.heap.size, 0, none⟩) (m := 1) (c := 1) (wrow (k, b)) (by simp [wrow_len (x := (k, b)) HB64.out])
    (fun j u hu => by
      have hadd : (⟨w1.heap.size, 0, none⟩ : Addr).add j = ⟨w1.heap.size, j, none⟩ := by unfold Addr.add; split <;> simp_all
      rw [hadd]
      exact ((Blk.new w1 _ _).drew.cell j).trans (by simpa using hu))
    (wrow_one _) (by unfold maxLen; omega) (by omega) (by simp; exact Nat.le_trans hB (Nat.le_trans hf1.size (Nat.le_succ _)))
  obtain ⟨v', w', hrun, hown, hgr, hob⟩ := hap
  obtain ⟨A2, cap2, rfl⟩ := own_form hown
  rw [HW.out] at hrun
  have hd2 : DrumB w' p (.slice (some ⟨gs, 0, none⟩) S.sure.length S.sure.length) wv (dec S.fuse) false := Blk.grown ((Blk.alloc hd1 _).drew) hgr (fun e => H.out.ne2 e)
  have f2 := Blk.frozen hd2 1
  have cc2 := hd2.c1
  have HV := Lib.hid hown
  have HG := Lib.hid hgr
  have HOB := Lib.hid hob
  have HD2 := Lib.hid hd2
  have HFR := Lib.hid hf1
  clear hown hgr hob hd2 hd1 hw1 hf1
  go_wp2_with fail
  go_region
  all_goals
    go_wp2_with fail
    go_ret
    have hS : (S.write k b).2 = { S with fuse := dec S.fuse, waits := S.waits ++ [(k, b)] } := by
      unfold DS.write
      rw [HO.out, if_neg (by decide), if_neg (by omega), if_neg (by rw [HB64.out]; simp), if_neg HF1.out]
      rfl
    have hfr : Fr (DF p gs wv) w (w'.setCell ⟨p, 1, none⟩ (.slice A2 (S.waits.length + 1) cap2)) := by
      refine Fr.setCell ?_ (fun _ => .inl rfl) _
      exact Fr.grown (((HFR.out.mono fun k _ e => .inl e).alloc _).drew) HG.out (fun k _ e => .inr (.inr e))
    refine ⟨rfl, ⟨.slice A2 (S.waits.length + 1) cap2, ⟨DS.write_ok H.out.ok _ HBD.out, H.out.b1, H.out.b2, ?_, ?_, ?_⟩, ?_⟩, hfr⟩
    · rw [hS]
      rw [HO.out]
      simpa [DrumB] using Blk.set_ HD2.out 1 (.slice A2 (S.waits.length + 1) cap2)
    · rw [hS]
      refine Blk.far (p := ⟨p, 1, none⟩) ?_ (fun e => H.out.ne1 e.symm) _
      exact Blk.grown (((H.out.sure.fr HFR.out (fun e => H.out.ne1 e.symm)).alloc _).drew) HG.out (fun e => H.out.ne3 e)
    · rw [hS]
      simp only [List.map_append, List.map_cons, List.map_nil, List.flatten_append, List.flatten_cons, List.flatten_nil, List.append_nil, List.length_append, List.length_cons, List.length_nil, Nat.zero_add]
      exact own_fr (F := fun j => j = p) HV.out ((Fr.refl (fun j => j = p) w').setCell (p := ⟨p, 1, none⟩) (fun _ => rfl) _) (fun j hj e => own_ne HV.out HD2.out (by decide) (e ▸ hj))
    · intro j hj
      rcases HOB.out with e | e
      · exact .inl (by rw [← e]; exact hj)
      · right
        rw [e] at hj
        have := HFR.out.size
        simp at hj
        omega

/-- Write: the power is off. -/
theorem write_down (p : Nat) (sv wv : Value) (fuse : Int) (k : Int) (v : Value) (w : World) (h : DrumB w p sv wv fuse true) :
    Calls Tryd.prog 23 #[.pointer (some ⟨p, 0, none⟩), .int .i64 k, v] w fun e w' => e = .returned (.int .i64 21) ∧ w = w' := by
  have c3 := h.c3
  clear h
  go_enter Tryd.func23, Tryd.ntmps23
  go_wp2_with fail
  go_ret
  exact ⟨rfl, rfl⟩

/-- Write: there is no such sector. -/
theorem write_range (p gs n : Nat) (wv : Value) (fuse : Int) (k : Int) (v : Value) (w : World) (h : DrumB w p (.slice (some ⟨gs, 0, none⟩) n n) wv fuse false) (hk : k < 0 ∨ n ≤ k) :
    Calls Tryd.prog 23 #[.pointer (some ⟨p, 0, none⟩), .int .i64 k, v] w fun e w' => e = .returned (.int .i64 5) ∧ w = w' := by
  have c3 := h.c3
  have HIS := Lib.hid (is_no p gs n wv fuse false k w h hk)
  clear h hk
  go_enter Tryd.func23, Tryd.ntmps23
  go_wp2_with fail
  refine HIS.out.mono ?_
  rintro e w0 ⟨rfl, rfl⟩
  go_wp2_with fail
  go_ret
  exact ⟨rfl, rfl⟩

/-- Write: not 64 bytes. -/
theorem write_arg (p gs n : Nat) (wv : Value) (fuse : Int) (k : Int) (A : Option Addr) (m c : Nat) (w : World) (h : DrumB w p (.slice (some ⟨gs, 0, none⟩) n n) wv fuse false) (h0 : 0 ≤ k) (h1 : k < n) (hm : m ≠ 64) :
    Calls Tryd.prog 23 #[.pointer (some ⟨p, 0, none⟩), .int .i64 k, .slice A m c] w fun e w' => e = .returned (.int .i64 1) ∧ w = w' := by
  have c3 := h.c3
  have HIS := Lib.hid (is_yes p gs n wv fuse false k w h h0 h1)
  have hb : (!((m : Int) == 64)) = true := by simp; omega
  have hb2 : ((m : Int) == 64) = false := by simp; omega
  have hb3 : ((m : Int) != 64) = true := by simp; omega
  clear h hm
  go_enter Tryd.func23, Tryd.ntmps23
  go_wp2_with fail
  refine HIS.out.mono ?_
  rintro e w0 ⟨rfl, rfl⟩
  go_wp2_with fail
  go_ret
  exact ⟨rfl, rfl⟩

/-- Write: the fuse ends here. -/
theorem write_crash (p gs n : Nat) (wv : Value) (k : Int) (A : Option Addr) (c : Nat) (w : World) (h : DrumB w p (.slice (some ⟨gs, 0, none⟩) n n) wv 1 false) (h0 : 0 ≤ k) (h1 : k < n) :
    Calls Tryd.prog 23 #[.pointer (some ⟨p, 0, none⟩), .int .i64 k, .slice A 64 c] w fun e w' =>
      e = .returned (.int .i64 20) ∧ DrumB w' p (.slice (some ⟨gs, 0, none⟩) n n) wv 0 true ∧ Fr (fun k => k = p) w w' := by
  have c3 := h.c3
  have HIS := Lib.hid (is_yes p gs n wv 1 false k w h h0 h1)
  have HB := Lib.hid (burns_one p _ wv false w h)
  clear h
  go_enter Tryd.func23, Tryd.ntmps23
  go_wp2_with fail
  refine HIS.out.mono ?_
  rintro e w0 ⟨rfl, rfl⟩
  go_wp2_with fail
  refine HB.out.mono ?_
  rintro e w1 ⟨rfl, hd, hf⟩
  go_wp2_with fail
  go_ret
  exact ⟨rfl, hd, hf⟩

/-- Sync: the power is off. -/
theorem sync_down (p : Nat) (sv wv : Value) (fuse : Int) (w : World) (h : DrumB w p sv wv fuse true) :
    Calls Tryd.prog 68 #[.pointer (some ⟨p, 0, none⟩)] w fun e w' => e = .returned (.int .i64 21) ∧ w = w' := by
  have c3 := h.c3
  clear h
  go_enter Tryd.func68, Tryd.ntmps68
  go_wp2_with fail
  go_ret
  exact ⟨rfl, rfl⟩

/-- Sync: the fuse ends here. -/
theorem sync_crash (p : Nat) (sv wv : Value) (w : World) (h : DrumB w p sv wv 1 false) :
    Calls Tryd.prog 68 #[.pointer (some ⟨p, 0, none⟩)] w fun e w' =>
      e = .returned (.int .i64 20) ∧ DrumB w' p sv wv 0 true ∧ Fr (fun k => k = p) w w' := by
  have c3 := h.c3
  have HB := Lib.hid (burns_one p _ wv false w h)
  clear h
  go_enter Tryd.func68, Tryd.ntmps68
  go_wp2_with fail
  refine HB.out.mono ?_
  rintro e w1 ⟨rfl, hd, hf⟩
  go_wp2_with fail
  go_ret
  exact ⟨rfl, hd, hf⟩

/-- What may become of the row of what waits. -/
def Foot (w : World) (wv wv' : Value) : Prop := ∀ j, wv'.ownBlock = some j → wv.ownBlock = some j ∨ w.heap.size ≤ j
theorem Foot.refl (w : World) (wv : Value) : Foot w wv wv := fun _ h => .inl h
theorem Foot.nil (w : World) (wv : Value) : Foot w wv (.slice none 0 0) := fun _ h => by cases h

/-- SYNC. -/
theorem sync_any (B : Nat) (p gs : Nat) (wv : Value) (S : DS) (w : World) (h : IsDrum B w p gs wv S) (hlen : S.waits.length ≤ 1000000000) :
    Calls Tryd.prog 68 #[.pointer (some ⟨p, 0, none⟩)] w fun e w' => e = .returned (.int .i64 S.sync.1) ∧ (∃ wv', IsDrum B w' p gs wv' S.sync.2 ∧ Foot w wv wv') ∧ Fr (DF p gs wv) w w' := by
  by_cases hoff : S.off = true
  · have e1 : S.sync = (21, S) := by simp [DS.sync, hoff]
    have hst := h.st
    rw [hoff] at hst
    refine (sync_down p _ wv _ w hst).mono ?_
    rintro e w' ⟨rfl, rfl⟩
    rw [e1]
    exact ⟨rfl, ⟨wv, h, Foot.refl _ _⟩, Fr.refl _ _⟩
  · have hoff : S.off = false := by simpa using hoff
    by_cases hf : S.fuse = 1
    · have e1 : S.sync = (20, { S with fuse := 0, off := true }) := by simp [DS.sync, hoff, hf]
      have hok := DS.sync_ok h.ok
      have hst := h.st
      rw [hoff, hf] at hst
      refine (sync_crash p _ wv w hst).mono ?_
      rintro e w' ⟨rfl, hd, hfr⟩
      rw [e1] at hok ⊢
      refine ⟨rfl, ⟨wv, ⟨hok, h.b1, h.b2, hd, h.sure.fr hfr (fun e => h.ne1 e.symm), own_fr h.waits hfr (fun k hk e => h.ne2 (e ▸ hk))⟩, Foot.refl _ _⟩, hfr.mono fun k _ e => .inl e⟩
    · refine (sync_ok B p gs wv S w h hoff hf hlen).mono ?_
      rintro e w' ⟨rfl, hd, hfr⟩
      have e1 : S.sync.1 = 0 := by simp [DS.sync, hoff, hf]
      rw [e1]
      exact ⟨rfl, ⟨_, hd, Foot.nil _ _⟩, hfr⟩

/-- WRITE. -/
theorem write_any (B : Nat) (p gs : Nat) (wv : Value) (S : DS) (k : Int) (A : Option Addr) (c : Nat) (b : List Int) (w : World) (h : IsDrum B w p gs wv S) (hb : Byt w A b) (hA : ∀ a, A = some a → a.block ≠ p) (hlen : S.waits.length ≤ 1000000000) (hB : B ≤ w.heap.size) :
    Calls Tryd.prog 23 #[.pointer (some ⟨p, 0, none⟩), .int .i64 k, .slice A b.length c] w fun e w' =>
      e = .returned (.int .i64 (S.write k b).1) ∧ (∃ wv', IsDrum B w' p gs wv' (S.write k b).2 ∧ Foot w wv wv') ∧ Fr (DF p gs wv) w w' := by
  by_cases hoff : S.off = true
  · have e1 : S.write k b = (21, S) := by simp [DS.write, hoff]
    have hst := h.st
    rw [hoff] at hst
    refine (write_down p _ wv _ k _ w hst).mono ?_
    rintro e w' ⟨rfl, rfl⟩
    rw [e1]
    exact ⟨rfl, ⟨wv, h, Foot.refl _ _⟩, Fr.refl _ _⟩
  have hoff : S.off = false := by simpa using hoff
  have hst := h.st
  rw [hoff] at hst
  by_cases hk : k < 0 ∨ S.sure.length ≤ k
  · have e1 : S.write k b = (5, S) := by simp [DS.write, hoff, hk]
    refine (write_range p gs _ wv _ k _ w hst hk).mono ?_
    rintro e w' ⟨rfl, rfl⟩
    rw [e1]
    exact ⟨rfl, ⟨wv, h, Foot.refl _ _⟩, Fr.refl _ _⟩
  by_cases hb64 : b.length = 64
  · by_cases hf : S.fuse = 1
    · have e1 : S.write k b = (20, { S with fuse := 0, off := true }) := by simp [DS.write, hoff, hk, hb64, hf]
      have hok := DS.write_ok h.ok k hb.bd
      rw [hf] at hst
      rw [hb64]
      refine (write_crash p gs _ wv k A c w hst (by omega) (by omega)).mono ?_
      rintro e w' ⟨rfl, hd, hfr⟩
      rw [e1] at hok ⊢
      refine ⟨rfl, ⟨wv, ⟨hok, h.b1, h.b2, hd, h.sure.fr hfr (fun e => h.ne1 e.symm), own_fr h.waits hfr (fun k hk e => h.ne2 (e ▸ hk))⟩, Foot.refl _ _⟩, hfr.mono fun k _ e => .inl e⟩
    · have e1 : (S.write k b).1 = 0 := by simp [DS.write, hoff, hk, hb64, hf]
      have e2 : ((k.toNat : Nat) : Int) = k := by omega
      have hwr := write_ok B p gs wv S k.toNat A c b w h hoff hf (by omega) hb64 hb hA hlen hB
      rw [e2] at hwr
      rw [e1, hb64]
      exact hwr
  · have e1 : S.write k b = (1, S) := by simp [DS.write, hoff, hk, hb64]
    refine (write_arg p gs _ wv _ k A b.length c w hst (by omega) (by omega) hb64).mono ?_
    rintro e w' ⟨rfl, rfl⟩
    rw [e1]
    exact ⟨rfl, ⟨wv, h, Foot.refl _ _⟩, Fr.refl _ _⟩

end Go.Proofs.YtohadeijmmmcdaaDoor
end
