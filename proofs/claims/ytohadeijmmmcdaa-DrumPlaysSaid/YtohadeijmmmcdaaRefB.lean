/-
  The document's drum: New.
-/
import Derived.Test.YtohadeijmmmcdaaRefA
namespace Go.Proofs.Ytohadeijmmmcdaa
open Go.RowKit
attribute [local go_sem ↓] APs_of

theorem iz26 : (Try.prog.info? 26).map (fun i => (i.zero.map (·.cells.size), i.size, i.bytes)) = some (some 1, 1, 24) := by kernel_rfl

theorem make_64 : ∀ w : World, (Instr.makeSlice 26 (.int .i64 64) (.int .i64 64)).run Try.prog w = .ok (.slice (some ⟨w.heap.size, 0, none⟩) 64 64) (w.alloc (.cells (bys (List.replicate 64 0)).toArray 5)) := make_bytes 64 (by omega)

theorem RBs.snoc {B : Nat} {w : World} {ls : List Value} {L : List (List Int)} {v : Value} {s : List Int} (h : RBs B w ls L) (hv : RB B w v s) : RBs B w (ls ++ [v]) (L ++ [s]) := by
  refine ⟨by simp [h.1], fun i h1 h2 => ?_⟩
  by_cases hi : i < ls.length
  · have hi' : i < L.length := by rw [← h.1]; exact hi
    rw [List.getElem_append_left hi, List.getElem_append_left hi']
    exact h.2 i hi hi'
  · have e1 : i = ls.length := by simp at h1; omega
    subst e1
    have h1' := h.1
    rw [List.getElem_append_right (by omega), List.getElem_append_right (by omega)]
    simpa [h1'] using hv
theorem RWs.snoc {B : Nat} {w : World} {ws : List (Nat × Value)} {W : List (Nat × List Int)} {x : Nat × Value} {y : Nat × List Int} (h : RWs B w ws W) (he : x.1 = y.1) (hv : RB B w x.2 y.2) : RWs B w (ws ++ [x]) (W ++ [y]) := by
  refine ⟨by simp [h.1], fun i h1 h2 => ?_⟩
  by_cases hi : i < ws.length
  · have hi' : i < W.length := by rw [← h.1]; exact hi
    rw [List.getElem_append_left hi, List.getElem_append_left hi']
    exact h.2 i hi hi'
  · have e1 : i = ws.length := by simp at h1; omega
    subst e1
    have h1' := h.1
    rw [List.getElem_append_right (by omega), List.getElem_append_right (by omega)]
    exact ⟨by simpa [h1'] using he, by simpa [h1'] using hv⟩

theorem Fr.of_grown {w w' : World} {row : Option Nat} (h : w.grownBy w' row) : Fr (fun k => row = some k) w w' := (Fr.refl _ w).grown h (fun _ _ e => e)

set_option maxRecDepth 100000 in
set_option maxHeartbeats 2000000 in
theorem rnew_any (n : Nat) (w : World) (hn : n ≤ 12) :
    Calls Try.prog 19 #[.int .i64 (n : Int)] w fun e w' => ∃ lv ls, (e = .returned (.pointer (some ⟨w.heap.size, 0, none⟩)) ∧ Blk w' w.heap.size 50 #[lv, .slice none 0 0, .int .i64 0, .bool false] ∧
      w'.ownsRow w.heap.size 26 1 lv n ls ∧ RBs w.heap.size w' ls (List.replicate n (List.replicate 64 0)) ∧ Below w.heap.size w w') := by
  obtain ⟨q, hq⟩ : ∃ q, w.heap.size = q := ⟨_, rfl⟩
  have HQ := Lib.hid hq
  rw [hq]
  clear hq
  go_enter Try.func19, Try.ntmps19
  go_wp2_with fail
  rw [HQ.out]
  have hb0 : Blk (w.alloc (.cells #[.slice none 0 0, .slice none 0 0, .int .i64 0, .bool false] 50)) q 50 #[.slice none 0 0, .slice none 0 0, .int .i64 0, .bool false] := by rw [← HQ.out]; exact Blk.new _ _ _
  have hl0 : Below q w (w.alloc (.cells #[.slice none 0 0, .slice none 0 0, .int .i64 0, .bool false] 50)) := (Below.refl _ _).alloc (by rw [HQ.out]; exact Nat.le_refl _) _
  have HB0 := Lib.hid hb0
  have HL0 := Lib.hid hl0
  clear hb0 hl0
  go_loopw [4] (fun t wr => ∃ (i : Nat) (A : Option Addr) (cap : Nat) (ls : List Value), i ≤ n ∧ t = .int .i64 i ∧ Blk wr q 50 #[.slice A i cap, .slice none 0 0, .int .i64 0, .bool false] ∧ wr.ownsRow q 26 1 (.slice A i cap) i ls ∧ RBs q wr ls (List.replicate i (List.replicate 64 0)) ∧ Below q w wr)
    (fun t _ => n - (intOf t).toNat)
  case atStart => exact ⟨0, none, 0, [], Nat.zero_le _, rfl, HB0.out, World.ownsRow_nil _ _ _ _, ⟨rfl, fun i h => absurd h (by simp)⟩, HL0.out⟩
  case round =>
    obtain ⟨i, A, cap, ls, hi, rfl, hb, hown, hrb, hbl⟩ := hrel
    have HB := Lib.hid hb
    have HO := Lib.hid hown
    have HR := Lib.hid hrb
    have HBL := Lib.hid hbl
    clear hb hown hrb hbl
    by_cases hlt : i < n
    · have hmk := make_64
      obtain ⟨C, hC⟩ : ∃ C, (bys (List.replicate 64 0)).toArray = C := ⟨_, rfl⟩
      rw [hC] at hmk
      obtain ⟨W1, hW1⟩ : ∃ W1, (wr.alloc (.cells C 5)) = W1 := ⟨_, rfl⟩
      have c0 : wr.drew.cell? ⟨q, 0, none⟩ = some (.slice A i cap) := HB.out.cell 0
      have c01 : (wr.alloc (.cells C 5)).drew.cell? ⟨q, 0, none⟩ = some (.slice A i cap) := (HB.out.alloc _).cell 0
      have c02 : ((wr.alloc (.cells C 5)).alloc (.cells #[.slice (some ⟨wr.heap.size, 0, none⟩) 64 64] 26)).drew.cell? ⟨q, 0, none⟩ = some (.slice A i cap) := ((HB.out.alloc _).alloc _).cell 0
      have hap := APs_own (P := Try.prog) (t := 47) (ty := 47) Try.underlying47 iz26 (by omega) (((HO.out.alloc (.cells C 5)).alloc (.cells #[.slice (some ⟨wr.heap.size, 0, none⟩) 64 64] 26)).drew)
        (a := ⟨wr.heap.size + 1, 0, none⟩) (m := 1) (c := 1) [.slice (some ⟨wr.heap.size, 0, none⟩) 64 64] (by simp)
        (fun j u hu => by
          have hj : j = 0 := by have := (List.getElem?_eq_some_iff.1 hu).1; simpa using this
          subst hj
          have h1 := Blk.new (wr.alloc (.cells C 5)) 26 #[.slice (some ⟨wr.heap.size, 0, none⟩) 64 64]
          rw [World.size_alloc] at h1
          have h2 := h1.cell 0
          simp at hu
          subst hu
          exact h2)
        (by simp [Value.oneCell']) (by unfold maxLen; omega) (by omega) (by simp; have := HBL.out.size; rw [HQ.out] at this; omega)
      obtain ⟨v', w', hrun, hown', hgr, hob⟩ := hap
      obtain ⟨A2, cap2, rfl⟩ := own_form hown'
      have hb2 : Blk w' q 50 #[.slice A i cap, .slice none 0 0, .int .i64 0, .bool false] := Blk.grown (((HB.out.alloc _).alloc _).drew) hgr (fun e => own_ne HO.out HB.out (by decide) e)
      have cc2 : w'.cell? ⟨q, 0, none⟩ = some (.slice A i cap) := hb2.cell 0
      have f2 := hb2.frozen 0
      have HOW := Lib.hid hown'
      have HG := Lib.hid hgr
      have HB2 := Lib.hid hb2
      have HC := Lib.hid hC
      clear hown' hgr hob hb2 hC hW1 W1
      go_wp2_with fail
      go_region
      all_goals
        go_wp2_with fail
        have hfr : Fr (fun k => k = q ∨ (Value.slice A i cap).ownBlock = some k) wr (w'.setCell ⟨q, 0, none⟩ (.slice A2 (i + 1) cap2)) := by
          refine Fr.setCell ?_ (fun _ => .inl rfl) _
          exact Fr.grown ((((Fr.refl _ wr).alloc _).alloc _).drew) HG.out (fun k _ e => .inr e)
        have hnt : ∀ k cs, Blk wr k 5 cs → ¬ (k = q ∨ (Value.slice A i cap).ownBlock = some k) := fun k cs hk h => by
          rcases h with rfl | h
          · exact absurd (hk.inj HB.out).1 (by decide)
          · exact own_ne HO.out hk (by decide) h
        refine ⟨⟨i + 1, A2, cap2, ls ++ [.slice (some ⟨wr.heap.size, 0, none⟩) 64 64], by omega, by go_num, ?_, ?_, ?_, ?_⟩, by simp [intOf]; omega⟩
        · simpa using HB2.out.set_ 0 (.slice A2 (i + 1) cap2)
        · exact own_fr (F := fun j => j = q) HOW.out ((Fr.refl (fun j => j = q) w').setCell (p := ⟨q, 0, none⟩) (fun _ => rfl) _) (fun j hj e => own_ne HOW.out HB2.out (by decide) (e ▸ hj))
        · rw [List.replicate_succ']
          refine (HR.out.fr hfr hnt).snoc ⟨wr.heap.size, 64, (bys (List.replicate 64 0)).toArray, rfl, by have := HBL.out.size; rw [HQ.out] at this; exact this, ?_, by simp [bys], by simp⟩
          have h1 : Blk wr.drew q _ _ := HB.out
          have hlt2 := HB.out.lt
          have hb5 : Blk ((wr.alloc (.cells C 5)).alloc (.cells #[.slice (some ⟨wr.heap.size, 0, none⟩) 64 64] 26)).drew wr.heap.size 5 (bys (List.replicate 64 0)).toArray := by
            rw [HC.out]
            exact ((Blk.new wr _ _).alloc _).drew
          have hb6 := hb5.grown HG.out (fun e => by have := (HO.out.lt _ e).2; omega)
          exact hb6.far (p := ⟨q, 0, none⟩) (fun e => by have e' : wr.heap.size = q := e; omega) _
        · refine HBL.out.trans (hfr.below (by have := HBL.out.size; rw [HQ.out] at this; exact this) (fun k hk h => ?_))
          rcases h with rfl | h
          · omega
          · have := (HO.out.lt _ h).1
            omega
    · obtain rfl : i = n := by omega
      go_wp2_with fail
      go_ret
      exact ⟨_, ls, rfl, HB.out, HO.out, HR.out, HBL.out⟩

end Go.Proofs.Ytohadeijmmmcdaa
