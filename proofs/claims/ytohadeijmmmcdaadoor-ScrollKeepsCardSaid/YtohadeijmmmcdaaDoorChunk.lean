/-
  slices.Chunk over whole blocks of 64 bytes.
-/
import Derived.Test.YtohadeijmmmcdaaDoorBack
import Derived.Sort.BigQuietIn
import Derived.Sort.QuietTacIn
namespace Go.Proofs.YtohadeijmmmcdaaDoor
open Go.RowKit Go.Shelf
set_option maxRecDepth 100000
attribute [local go_sem] Oper.semAt_some
theorem slk22 (x : Value) (lo hi mx : Option Value) : Instr.sliceAt 22 x lo hi mx = SLs 22 x lo hi mx := rfl
attribute [local go_sem ↓] slk22

/-- A part that isn't at the end of the capacity: just where it lies. -/
theorem part8x {w : World} {g o n c l h m : Nat} (vl : Int) (vh vm : Option Int) (hl : l ≤ h) (hm : h ≤ m) (hmc : m ≤ c) (hlm : l < m) (hln : n ≤ c)
    (el : vl = l) (eh : (vh = none ∧ h = n) ∨ vh = some (h : Int)) (em : (vm = none ∧ m = c) ∨ (vm = some (m : Int) ∧ vh ≠ none)) :
    (SLs 22 (.slice (some ⟨g, o, none⟩) n c) (some (.int .i64 vl)) (vh.map (Value.int .i64)) (vm.map (Value.int .i64))).run Tryd.prog w = .ok (.slice (some ⟨g, o + l, none⟩) (h - l) (m - l)) w := by
  obtain ⟨i, hq, hi⟩ := Option.map_eq_some_iff.1 i5
  subst el
  have hne : ¬ m = l := by omega
  have hadd : (⟨g, o, none⟩ : Addr).add l = ⟨g, o + l, none⟩ := by unfold Addr.add; split <;> simp_all
  rcases eh with ⟨rfl, rfl⟩ | rfl <;> rcases em with ⟨rfl, rfl⟩ | ⟨rfl, hx⟩ <;>
    first
      | (exact absurd rfl hx)
      | (simp [SLs, Instr.sliceAt, Instr.slice, Instr.sliceBounds, Instr.sliceBound, asIntOf, run_underlying u22, sizeOf, typeInfo, hq, hi, hl, hm, hmc, hne, hadd])

theorem below_drewN {n₀ : Nat} {w w' : World} (h : Below n₀ w w') (m : Nat) : Below n₀ w (w'.drewN m) := ⟨h.os, h.tape, h.output, h.size, h.block⟩
/-- A round's value: the k-th block. -/
def encC (g o K : Nat) (k : Nat) : Array Value := #[.slice (some ⟨g, o + 64 * min k (K - 1), none⟩) 64 64]

set_option maxHeartbeats 4000000 in
theorem chunk1_in (n : Nat) (hn : 1 ≤ n) (lp Bs Bn g o cap K : Nat) (G : Nat → Prop) (hK : 64 * K ≤ 1000000000) (hcap : 64 * K ≤ cap) (_hcm : cap ≤ maxLen) (J Jx : List Nat → World → Prop)
    (hY : ∀ pre x W, J pre W → pre.length < K → YieldAt Fence.wide (n - 1) Tryd.prog lp (encC g o K x) W fun e W' =>
      (e = .returned (.bool true) ∧ J (pre ++ [x]) W' ∧ Fr G W W') ∨ (e = .returned (.bool false) ∧ Jx (pre ++ [x]) W'))
    (W : World) (hBs : W.cell? ⟨Bs, 0, none⟩ = some (.slice (some ⟨g, o, none⟩) (64 * K) cap)) (hBn : Bs < W.heap.size ∧ ¬ G Bs) (hBk : W.cell? ⟨Bn, 0, none⟩ = some (.int .i64 64)) (hBk2 : Bn < W.heap.size ∧ ¬ G Bn) (h0 : J [] W)
    (hd : ∀ s X m, J s X → J s (X.drewN m)) :
    CallsIn Fence.wide n Tryd.prog 109 #[.func (.yield lp) #[] #[], .pointer (some ⟨Bs, 0, none⟩), .pointer (some ⟨Bn, 0, none⟩)] W fun e W' => (∃ v, e = .returned v) ∧
      ((∃ ys, ys = List.range K ∧ J ys W') ∨ (∃ pre, (∃ k, k ≤ K ∧ pre = List.range k) ∧ Jx pre W')) := by
  refine callsIn_of_wp Tryd.func109 rfl trivial ?_ rfl
  simp only [Tryd.ntmps109, List.size_toArray, List.length_cons, List.length_nil, Nat.reduceAdd, Nat.reduceSub, Array.replicate_succ, Array.replicate_zero, List.push_toArray, List.append_toArray, List.nil_append, List.cons_append]
  gi_wp2
  gi_loopw [4] (fun i wr => ∃ k : Nat, k ≤ K ∧ i = .int .i64 (64 * (k : Int)) ∧ J (List.range k) wr ∧ Fr G W wr)
    (fun i _ => 64 * K - (intOf i).toNat)
  case atStart => exact ⟨0, Nat.zero_le _, rfl, h0, Fr.refl _ _⟩
  case round =>
    obtain ⟨k, hk, rfl, hJs, hnx⟩ := hrel
    have hcb : wr.cell? ⟨Bs, 0, none⟩ = some (.slice (some ⟨g, o, none⟩) (64 * K) cap) := (hnx.cell (p := ⟨Bs, 0, none⟩) hBn.1 hBn.2).trans hBs
    have hck : wr.cell? ⟨Bn, 0, none⟩ = some (.int .i64 64) := (hnx.cell (p := ⟨Bn, 0, none⟩) hBk2.1 hBk2.2).trans hBk
    by_cases hlt : k < K
    · have hs1 : ∀ X : World, (SLs 22 (.slice (some ⟨g, o, none⟩) (64 * K) cap) (some (.int .i64 (64 * (k : Int)))) none none).run Tryd.prog X = .ok (.slice (some ⟨g, o + 64 * k, none⟩) (64 * K - 64 * k) (cap - 64 * k)) X :=
        fun X => part8x (h := 64 * K) (m := cap) (64 * (k : Int)) none none (by omega) hcap (Nat.le_refl _) (by omega) hcap (by omega) (.inl ⟨rfl, rfl⟩) (.inl ⟨rfl, rfl⟩)
      have hs2 : ∀ X : World, (SLs 22 (.slice (some ⟨g, o, none⟩) (64 * K) cap) (some (.int .i64 (64 * (k : Int)))) (some (.int .i64 (64 * (k : Int) + 64))) (some (.int .i64 (64 * (k : Int) + 64)))).run Tryd.prog X = .ok (.slice (some ⟨g, o + 64 * k, none⟩) 64 64) X :=
        fun X => by
          have e := part8x (w := X) (g := g) (o := o) (n := 64 * K) (c := cap) (l := 64 * k) (h := 64 * k + 64) (m := 64 * k + 64) (64 * (k : Int)) (some (64 * (k : Int) + 64)) (some (64 * (k : Int) + 64)) (by omega) (Nat.le_refl _) (by omega) (by omega) hcap (by omega) (.inr (by simp)) (.inr ⟨by simp, by simp⟩)
          simpa using e
      have hcmp : decide (64 * (k : Int) < ((64 * K : Nat) : Int)) = true := by simp; omega
      have hmin : (64 : Int) ≤ ((64 * K - 64 * k : Nat) : Int) := by omega
      have HX := Lib.hid hnx
      have HJ := Lib.hid hJs
      clear hJs hnx
      gi_wp2
      gi_quiet (fail)
      rename_i nq
      obtain ⟨fn, tmps, assign, body, hy, hR⟩ := hY _ k (wr.drewN nq) (hd _ _ _ HJ.out) (by simpa using hlt)
      dsimp only [encC] at hy
      rw [Nat.min_eq_left (by omega)] at hy
      gi_wp2
      refine hR.mono ?_
      rintro e W3 (⟨rfl, hJ3, hk3⟩ | ⟨rfl, hJx3⟩)
      · have hck3 : W3.cell? ⟨Bn, 0, none⟩ = some (.int .i64 64) := (hk3.cell (p := ⟨Bn, 0, none⟩) (Nat.lt_of_lt_of_le hBk2.1 HX.out.size) hBk2.2).trans hck
        gi_wp2
        go_roundw
        case rel => exact ⟨k + 1, by omega, by go_num, by rw [List.range_succ]; exact hJ3, (HX.out.drewN nq).trans hk3 (fun _ _ h => h)⟩
        case measure => simp [intOf]; omega
      · gi_wp2
        refine bodyPost_ret (results_none rfl _ _ _) rfl ?_
        exact ⟨⟨_, rfl⟩, .inr ⟨_, ⟨k + 1, by omega, (List.range_succ).symm⟩, hJx3⟩⟩
    · obtain rfl : k = K := by omega
      have HJ := Lib.hid hJs
      clear hJs
      gi_wp2
      go_end0
      exact ⟨⟨_, rfl⟩, .inl ⟨_, rfl, HJ.out⟩⟩

set_option maxHeartbeats 1000000 in
theorem chunk_in (n : Nat) (a : Option Addr) (len cap : Nat) (w : World) :
    CallsIn Fence.wide n Tryd.prog 104 #[.slice a len cap, .int .i64 64] w fun e w' =>
      e = .returned (.func (.func 109) #[] #[.pointer (some ⟨w.heap.size, 0, none⟩), .pointer (some ⟨w.heap.size + 1, 0, none⟩)]) ∧ w' = (w.alloc (.cells #[.slice a len cap] 22)).alloc (.cells #[.int .i64 64] 3) := by
  refine callsIn_of_wp Tryd.func104 rfl trivial ?_ rfl
  simp only [Tryd.ntmps104, List.size_toArray, List.length_cons, List.length_nil, Nat.reduceAdd, Nat.reduceSub, Array.replicate_succ, Array.replicate_zero, List.push_toArray, List.append_toArray, List.nil_append, List.cons_append]
  gi_wp2
  go_ret
  exact ⟨rfl, rfl⟩

theorem chunk_stops (n : Nat) (hn : 1 ≤ n) (Bs Bn g o cap K : Nat) (G : Nat → Prop) (hK : 64 * K ≤ 1000000000) (hcap : 64 * K ≤ cap) (hcm : cap ≤ maxLen) (w : World) (hBs : Bs < w.heap.size ∧ ¬ G Bs) (hBn : Bn < w.heap.size ∧ ¬ G Bn)
    (hc : w.cell? ⟨Bs, 0, none⟩ = some (.slice (some ⟨g, o, none⟩) (64 * K) cap)) (hc2 : w.cell? ⟨Bn, 0, none⟩ = some (.int .i64 64)) :
    SeqStopsK Fence.wide n Tryd.prog 109 #[.pointer (some ⟨Bs, 0, none⟩), .pointer (some ⟨Bn, 0, none⟩)] (encC g o K) (Fr G) (fun ys => ys = List.range K) (fun pre => ∃ k, k ≤ K ∧ pre = List.range k) K w := fun lp J Jx W hW hJo _ hY h0 => by
  have hc' := (hW.cell (p := ⟨Bs, 0, none⟩) hBs.1).trans hc
  have hc2' := (hW.cell (p := ⟨Bn, 0, none⟩) hBn.1).trans hc2
  refine (chunk1_in n hn lp Bs Bn g o cap K G hK hcap hcm J Jx hY W hc' ⟨Nat.lt_of_lt_of_le hBs.1 hW.size, hBs.2⟩ hc2' ⟨Nat.lt_of_lt_of_le hBn.1 hW.size, hBn.2⟩ h0 (fun s X m hs => hJo s X (X.drewN m) none hs ⟨rfl, rfl, rfl, Nat.le_refl _, fun _ _ _ => rfl⟩ (fun r e => by cases e))).mono ?_
  rintro e W' ⟨he, ⟨ys, rfl, hj⟩ | ⟨pre, ⟨k, hk, rfl⟩, hj⟩⟩
  · exact ⟨he, .inl ⟨_, rfl, hj⟩⟩
  · exact ⟨he, .inr ⟨_, ⟨k, hk, rfl⟩, hj⟩⟩

theorem frK_t {G : Nat → Prop} {A B C : World} (h : Fr G A B) (k : Fr G B C) : Fr G A C := h.trans k (fun _ _ h => h)
theorem frK_b {G : Nat → Prop} {w : World} (hG : ∀ k, w.heap.size ≤ k → G k) (W : World) (l : Nat) (o o' : Obj) (hl : w.heap.size ≤ l) (h : W.heap[l]? = some o) (hc : o.isCells = false) (hw : o.isWalk = false) : Fr G W (W.putObj l o') := by
  have hb := belowK_b (n₀ := 0) (w := w) (Nat.zero_le _) W l o o' hl h hc hw
  exact ⟨hb.os, hb.tape, hb.output, hb.size, fun k hk hg => World.putObj_heap_other (fun e => hg (by subst e; exact hG _ hl))⟩

end Go.Proofs.YtohadeijmmmcdaaDoor
