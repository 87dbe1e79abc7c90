/-
  slices.Backward over bytes.
  slices.Chunk over whole blocks of 64 bytes.
  A region in the body of a range over a function: what holds of it outside a fence holds of it there.
-/
import Derived.Test.YtdkanehjahpehaaGreatDoorJDrumA
import Derived.Test.YtdkanehjahpehaaGreatDoorJBytA
import Derived.Sort.BigQuietIn
import Derived.Sort.QuietTacIn
import Derived.StillTail
import Derived.OrdersHeld

section
namespace Go.Proofs.YtdkanehjahpehaaGreatDoor
open Go.RowKit Go.Shelf
set_option maxRecDepth 100000
attribute [local go_sem] Oper.semAt_some

/-- A round's two values. -/
def encB (x : Nat × Int) : Array Value := #[.int .i64 (x.1 : Int), .int .u8 x.2]
/-- What has come when k rounds are over. -/
def backB (l : List Int) (k : Nat) : List (Nat × Int) := (List.range k).map fun j => (l.length - 1 - j, l.getD (l.length - 1 - j) 0)
theorem backB_succ (l : List Int) (k : Nat) : backB l (k + 1) = backB l k ++ [(l.length - 1 - k, l.getD (l.length - 1 - k) 0)] := by simp [backB, List.range_succ]
theorem backB_len (l : List Int) (k : Nat) : (backB l k).length = k := by simp [backB]
theorem backB_all (l : List Int) : (backB l l.length).map (·.2) = l.reverse := by
  apply List.ext_getElem
  · simp [backB]
  · intro i h1 h2
    have hi : i < l.length := by simpa [backB] using h1
    simp only [backB, List.getElem_map, List.getElem_range, List.getElem_reverse]
    simp [List.getD, show l.length - 1 - i < l.length by omega]

/-- Where the bytes lie, in none of the blocks G. -/
def BytesAt (G : Nat → Prop) (W : World) (A : Option Addr) (l : List Int) : Prop := ∀ i, (hi : i < l.length) → ∃ g o, A = some ⟨g, o, none⟩ ∧ g < W.heap.size ∧ ¬ G g ∧ W.cell? ⟨g, o + i, none⟩ = some (.int .u8 l[i])
theorem BytesAt.fr {G : Nat → Prop} {W W1 : World} {A : Option Addr} {l : List Int} (h : BytesAt G W A l) (hf : Fr G W W1) : BytesAt G W1 A l := fun i hi => by
  obtain ⟨g, o, e, hg, hn, hl⟩ := h i hi
  exact ⟨g, o, e, Nat.lt_of_lt_of_le hg hf.size, hn, (hf.cell (p := ⟨g, o + i, none⟩) hg hn).trans hl⟩
theorem BytesAt.below {G : Nat → Prop} {W W1 : World} {A : Option Addr} {l : List Int} (h : BytesAt G W A l) (hb : Below W.heap.size W W1) : BytesAt G W1 A l := fun i hi => by
  obtain ⟨g, o, e, hg, hn, hl⟩ := h i hi
  exact ⟨g, o, e, Nat.lt_of_lt_of_le hg hb.size, hn, (hb.cell (p := ⟨g, o + i, none⟩) hg).trans hl⟩

set_option maxHeartbeats 2000000 in
theorem backB1_in (F : Fence) (n : Nat) (h8 : F.fn 147) (hro : F.round = none) (hn : 1 ≤ n) (lp Bs cap : Nat) (G : Nat → Prop) (A : Option Addr) (l : List Int) (hlen : l.length ≤ 1000000000) (J Jx : List (Nat × Int) → World → Prop)
    (hY : ∀ pre x W, J pre W → pre.length < l.length → YieldAt F (n - 1) Tryz.prog lp (encB x) W fun e W' =>
      (e = .returned (.bool true) ∧ J (pre ++ [x]) W' ∧ Fr G W W') ∨ (e = .returned (.bool false) ∧ Jx (pre ++ [x]) W'))
    (W : World) (hBs : W.cell? ⟨Bs, 0, none⟩ = some (.slice A l.length cap)) (hBn : Bs < W.heap.size ∧ ¬ G Bs) (hc : BytesAt G W A l) (h0 : J [] W) :
    CallsIn F n Tryz.prog 147 #[.func (.yield lp) #[] #[], .pointer (some ⟨Bs, 0, none⟩)] W fun e W' => (∃ v, e = .returned v) ∧
      ((∃ ys, ys = backB l l.length ∧ J ys W') ∨ (∃ pre, (∃ k, k ≤ l.length ∧ pre = backB l k) ∧ Jx pre W')) := by
  refine callsIn_of_wp Tryz.func147 rfl h8 ?_ hro
  simp only [Tryz.ntmps147, List.size_toArray, List.length_cons, List.length_nil, Nat.reduceAdd, Nat.reduceSub, Array.replicate_succ, Array.replicate_zero, List.push_toArray, List.append_toArray, List.nil_append, List.cons_append]
  gi_wp2
  gi_loopw [3] (fun i wr => ∃ m : Nat, m ≤ l.length ∧ i = .int .i64 ((m : Int) - 1) ∧ J (backB l (l.length - m)) wr ∧ Fr G W wr)
    (fun i _ => (intOf i + 1).toNat)
  case atStart => exact ⟨l.length, Nat.le_refl _, rfl, by rw [Nat.sub_self]; exact h0, Fr.refl _ _⟩
  case round =>
    obtain ⟨m, hm, rfl, hJs, hnx⟩ := hrel
    cases m with
    | zero =>
      have hd : decide ((0 : Int) ≤ ((0 : Nat) : Int) - 1) = false := by decide
      gi_wp2
      go_end0
      exact ⟨⟨_, rfl⟩, .inl ⟨_, rfl, hJs⟩⟩
    | succ m =>
      have e1 : (((m + 1 : Nat) : Int) - 1) = (m : Int) := by omega
      rw [e1]
      have hml : m < l.length := by omega
      obtain ⟨g, o, rfl, hg, hng, hl⟩ := hc m hml
      have hld : wr.cell? ⟨g, o + m, none⟩ = some (.int .u8 l[m]) := (hnx.cell (p := ⟨g, o + m, none⟩) hg hng).trans hl
      have hcb : wr.cell? ⟨Bs, 0, none⟩ = some (.slice (some ⟨g, o, none⟩) l.length cap) := (hnx.cell (p := ⟨Bs, 0, none⟩) hBn.1 hBn.2).trans hBs
      obtain ⟨fn, tmps, assign, body, hy, hR⟩ := hY _ (m, l[m]) wr hJs (by rw [backB_len]; omega)
      dsimp only [encB] at hy
      have hge : decide ((0 : Int) ≤ (m : Int)) = true := by simp
      obtain ⟨x, hx⟩ : ∃ x, l[m] = x := ⟨_, rfl⟩
      have HX := Lib.hid hx
      rw [hx] at hld hy
      clear hl e1 hc hx
      gi_wp2
      refine hR.mono ?_
      rintro e W3 (⟨rfl, hJ3, hk3⟩ | ⟨rfl, hJx3⟩)
      · gi_wp2
        go_roundw
        case rel =>
          refine ⟨m, by omega, by go_num, ?_, hnx.trans hk3 (fun _ _ h => h)⟩
          have e2 : l.length - m = (l.length - (m + 1)) + 1 := by omega
          rw [e2, backB_succ]
          have e3 : l.length - 1 - (l.length - (m + 1)) = m := by omega
          rw [e3]
          have e4 : l.getD m 0 = l[m] := by simp [List.getD, hml]
          rw [e4]
          exact hJ3
        case measure => simp [intOf]
      · gi_wp2
        refine bodyPost_ret (results_none rfl _ _ _) rfl ?_
        refine ⟨⟨_, rfl⟩, .inr ⟨_, ⟨l.length - m, by omega, ?_⟩, hJx3⟩⟩
        have e2 : l.length - m = (l.length - (m + 1)) + 1 := by omega
        rw [e2, backB_succ]
        have e3 : l.length - 1 - (l.length - (m + 1)) = m := by omega
        rw [e3]
        have e4 : l.getD m 0 = l[m] := by simp [List.getD, hml]
        rw [e4]

set_option maxHeartbeats 1000000 in
theorem backB_in (F : Fence) (n : Nat) (h5 : F.fn 104) (hro : F.round = none) (a : Option Addr) (len cap : Nat) (w : World) :
    CallsIn F n Tryz.prog 104 #[.slice a len cap] w fun e w' =>
      e = .returned (.func (.func 147) #[] #[.pointer (some ⟨w.heap.size, 0, none⟩)]) ∧ w' = w.alloc (.cells #[.slice a len cap] 28) := by
  refine callsIn_of_wp Tryz.func104 rfl h5 ?_ hro
  simp only [Tryz.ntmps104, List.size_toArray, List.length_cons, List.length_nil, Nat.reduceAdd, Nat.reduceSub, Array.replicate_succ, Array.replicate_zero, List.push_toArray, List.append_toArray, List.nil_append, List.cons_append]
  gi_wp2
  go_ret
  exact ⟨rfl, rfl⟩

theorem backB_stops (F : Fence) (n : Nat) (h8 : F.fn 147) (hro : F.round = none) (hn : 1 ≤ n) (Bs cap : Nat) (G : Nat → Prop) (A : Option Addr) (l : List Int) (hlen : l.length ≤ 1000000000) (w : World) (hBs : Bs < w.heap.size ∧ ¬ G Bs)
    (hc : w.cell? ⟨Bs, 0, none⟩ = some (.slice A l.length cap)) (hI : BytesAt G w A l) :
    SeqStopsK F n Tryz.prog 147 #[.pointer (some ⟨Bs, 0, none⟩)] encB (Fr G) (fun ys => ys = backB l l.length) (fun pre => ∃ k, k ≤ l.length ∧ pre = backB l k) l.length w := fun lp J Jx W hW _ _ hY h0 => by
  have hc' := (hW.cell (p := ⟨Bs, 0, none⟩) hBs.1).trans hc
  refine (backB1_in F n h8 hro hn lp Bs cap G A l hlen J Jx hY W hc' ⟨Nat.lt_of_lt_of_le hBs.1 hW.size, hBs.2⟩ (hI.below hW) h0).mono ?_
  rintro e W' ⟨he, ⟨ys, rfl, hj⟩ | ⟨pre, ⟨k, hk, rfl⟩, hj⟩⟩
  · exact ⟨he, .inl ⟨_, rfl, hj⟩⟩
  · exact ⟨he, .inr ⟨_, ⟨k, hk, rfl⟩, hj⟩⟩

end Go.Proofs.YtdkanehjahpehaaGreatDoor
end

section
namespace Go.Proofs.YtdkanehjahpehaaGreatDoor
open Go.RowKit Go.Shelf
set_option maxRecDepth 100000
attribute [local go_sem] Oper.semAt_some
theorem slk22 (x : Value) (lo hi mx : Option Value) : Instr.sliceAt 28 x lo hi mx = SLs 28 x lo hi mx := rfl
attribute [local go_sem ↓] slk22

/-- A part that isn't at the end of the capacity: just where it lies. -/
theorem part8x {w : World} {g o n c l h m : Nat} (vl : Int) (vh vm : Option Int) (hl : l ≤ h) (hm : h ≤ m) (hmc : m ≤ c) (hlm : l < m) (hln : n ≤ c)
    (el : vl = l) (eh : (vh = none ∧ h = n) ∨ vh = some (h : Int)) (em : (vm = none ∧ m = c) ∨ (vm = some (m : Int) ∧ vh ≠ none)) :
    (SLs 28 (.slice (some ⟨g, o, none⟩) n c) (some (.int .i64 vl)) (vh.map (Value.int .i64)) (vm.map (Value.int .i64))).run Tryz.prog w = .ok (.slice (some ⟨g, o + l, none⟩) (h - l) (m - l)) w := by
  obtain ⟨i, hq, hi⟩ := Option.map_eq_some_iff.1 i5
  subst el
  have hne : ¬ m = l := by omega
  have hadd : (⟨g, o, none⟩ : Addr).add l = ⟨g, o + l, none⟩ := by unfold Addr.add; split <;> simp_all
  rcases eh with ⟨rfl, rfl⟩ | rfl <;> rcases em with ⟨rfl, rfl⟩ | ⟨rfl, hx⟩ <;>
    first
      | (exact absurd rfl hx)
      | (simp [SLs, Instr.sliceAt, Instr.slice, Instr.sliceBounds, Instr.sliceBound, asIntOf, run_underlying u22, sizeOf, typeInfo, hq, hi, hl, hm, hmc, hne, hadd])

theorem below_drewN {n₀ : Nat} {w w' : World} (h : Below n₀ w w') (m : Nat) : Below n₀ w (w'.drewN m) := ⟨h.os, h.tape, h.output, h.size, h.block⟩
/-- A round's value: the k-th block. -/
def encC (g o K : Nat) (k : Nat) : Array Value := #[.slice (some ⟨g, o + 64 * min k (K - 1), none⟩) 64 64]

set_option maxHeartbeats 4000000 in
theorem chunk1_in (n : Nat) (hn : 1 ≤ n) (lp Bs Bn g o cap K : Nat) (G : Nat → Prop) (hK : 64 * K ≤ 1000000000) (hcap : 64 * K ≤ cap) (_hcm : cap ≤ maxLen) (J Jx : List Nat → World → Prop)
    (hY : ∀ pre x W, J pre W → pre.length < K → YieldAt Fence.wide (n - 1) Tryz.prog lp (encC g o K x) W fun e W' =>
      (e = .returned (.bool true) ∧ J (pre ++ [x]) W' ∧ Fr G W W') ∨ (e = .returned (.bool false) ∧ Jx (pre ++ [x]) W'))
    (W : World) (hBs : W.cell? ⟨Bs, 0, none⟩ = some (.slice (some ⟨g, o, none⟩) (64 * K) cap)) (hBn : Bs < W.heap.size ∧ ¬ G Bs) (hBk : W.cell? ⟨Bn, 0, none⟩ = some (.int .i64 64)) (hBk2 : Bn < W.heap.size ∧ ¬ G Bn) (h0 : J [] W)
    (hd : ∀ s X m, J s X → J s (X.drewN m)) :
    CallsIn Fence.wide n Tryz.prog 215 #[.func (.yield lp) #[] #[], .pointer (some ⟨Bs, 0, none⟩), .pointer (some ⟨Bn, 0, none⟩)] W fun e W' => (∃ v, e = .returned v) ∧
      ((∃ ys, ys = List.range K ∧ J ys W') ∨ (∃ pre, (∃ k, k ≤ K ∧ pre = List.range k) ∧ Jx pre W')) := by
  refine callsIn_of_wp Tryz.func215 rfl trivial ?_ rfl
  simp only [Tryz.ntmps215, List.size_toArray, List.length_cons, List.length_nil, Nat.reduceAdd, Nat.reduceSub, Array.replicate_succ, Array.replicate_zero, List.push_toArray, List.append_toArray, List.nil_append, List.cons_append]
  gi_wp2
  gi_loopw [4] (fun i wr => ∃ k : Nat, k ≤ K ∧ i = .int .i64 (64 * (k : Int)) ∧ J (List.range k) wr ∧ Fr G W wr)
    (fun i _ => 64 * K - (intOf i).toNat)
  case atStart => exact ⟨0, Nat.zero_le _, rfl, h0, Fr.refl _ _⟩
  case round =>
    obtain ⟨k, hk, rfl, hJs, hnx⟩ := hrel
    have hcb : wr.cell? ⟨Bs, 0, none⟩ = some (.slice (some ⟨g, o, none⟩) (64 * K) cap) := (hnx.cell (p := ⟨Bs, 0, none⟩) hBn.1 hBn.2).trans hBs
    have hck : wr.cell? ⟨Bn, 0, none⟩ = some (.int .i64 64) := (hnx.cell (p := ⟨Bn, 0, none⟩) hBk2.1 hBk2.2).trans hBk
    by_cases hlt : k < K
    · have hs1 : ∀ X : World, (SLs 28 (.slice (some ⟨g, o, none⟩) (64 * K) cap) (some (.int .i64 (64 * (k : Int)))) none none).run Tryz.prog X = .ok (.slice (some ⟨g, o + 64 * k, none⟩) (64 * K - 64 * k) (cap - 64 * k)) X :=
        fun X => part8x (h := 64 * K) (m := cap) (64 * (k : Int)) none none (by omega) hcap (Nat.le_refl _) (by omega) hcap (by omega) (.inl ⟨rfl, rfl⟩) (.inl ⟨rfl, rfl⟩)
      have hs2 : ∀ X : World, (SLs 28 (.slice (some ⟨g, o, none⟩) (64 * K) cap) (some (.int .i64 (64 * (k : Int)))) (some (.int .i64 (64 * (k : Int) + 64))) (some (.int .i64 (64 * (k : Int) + 64)))).run Tryz.prog X = .ok (.slice (some ⟨g, o + 64 * k, none⟩) 64 64) X :=
        fun X => by
          have e := part8x (w := X) (g := g) (o := o) (n := 64 * K) (c := cap) (l := 64 * k) (h := 64 * k + 64) (m := 64 * k + 64) (64 * (k : Int)) (some (64 * (k : Int) + 64)) (some (64 * (k : Int) + 64)) (by omega) (Nat.le_refl _) (by omega) (by omega) hcap (by omega) (.inr (by simp)) (.inr ⟨by simp, by simp⟩)
          simpa using e
      have hcmp : decide (64 * (k : Int) < ((64 * K : Nat) : Int)) = true := by simp; omega
      have hmin : (64 : Int) ≤ ((64 * K - 64 * k : Nat) : Int) := by omega
      have HX := Lib.hid hnx
      have HJ := Lib.hid hJs
      clear hJs hnx
      gi_wp2
      gi_quiet (fail)
      rename_i nq
      obtain ⟨fn, tmps, assign, body, hy, hR⟩ := hY _ k (wr.drewN nq) (hd _ _ _ HJ.out) (by simpa using hlt)
      dsimp only [encC] at hy
      rw [Nat.min_eq_left (by omega)] at hy
      gi_wp2
      refine hR.mono ?_
      rintro e W3 (⟨rfl, hJ3, hk3⟩ | ⟨rfl, hJx3⟩)
      · have hck3 : W3.cell? ⟨Bn, 0, none⟩ = some (.int .i64 64) := (hk3.cell (p := ⟨Bn, 0, none⟩) (Nat.lt_of_lt_of_le hBk2.1 HX.out.size) hBk2.2).trans hck
        gi_wp2
        go_roundw
        case rel => exact ⟨k + 1, by omega, by go_num, by rw [List.range_succ]; exact hJ3, (HX.out.drewN nq).trans hk3 (fun _ _ h => h)⟩
        case measure => simp [intOf]; omega
      · gi_wp2
        refine bodyPost_ret (results_none rfl _ _ _) rfl ?_
        exact ⟨⟨_, rfl⟩, .inr ⟨_, ⟨k + 1, by omega, (List.range_succ).symm⟩, hJx3⟩⟩
    · obtain rfl : k = K := by omega
      have HJ := Lib.hid hJs
      clear hJs
      gi_wp2
      go_end0
      exact ⟨⟨_, rfl⟩, .inl ⟨_, rfl, HJ.out⟩⟩

set_option maxHeartbeats 1000000 in
theorem chunk_in (n : Nat) (a : Option Addr) (len cap : Nat) (w : World) :
    CallsIn Fence.wide n Tryz.prog 198 #[.slice a len cap, .int .i64 64] w fun e w' =>
      e = .returned (.func (.func 215) #[] #[.pointer (some ⟨w.heap.size, 0, none⟩), .pointer (some ⟨w.heap.size + 1, 0, none⟩)]) ∧ w' = (w.alloc (.cells #[.slice a len cap] 28)).alloc (.cells #[.int .i64 64] 3) := by
  refine callsIn_of_wp Tryz.func198 rfl trivial ?_ rfl
  simp only [Tryz.ntmps198, List.size_toArray, List.length_cons, List.length_nil, Nat.reduceAdd, Nat.reduceSub, Array.replicate_succ, Array.replicate_zero, List.push_toArray, List.append_toArray, List.nil_append, List.cons_append]
  gi_wp2
  go_ret
  exact ⟨rfl, rfl⟩

theorem chunk_stops (n : Nat) (hn : 1 ≤ n) (Bs Bn g o cap K : Nat) (G : Nat → Prop) (hK : 64 * K ≤ 1000000000) (hcap : 64 * K ≤ cap) (hcm : cap ≤ maxLen) (w : World) (hBs : Bs < w.heap.size ∧ ¬ G Bs) (hBn : Bn < w.heap.size ∧ ¬ G Bn)
    (hc : w.cell? ⟨Bs, 0, none⟩ = some (.slice (some ⟨g, o, none⟩) (64 * K) cap)) (hc2 : w.cell? ⟨Bn, 0, none⟩ = some (.int .i64 64)) :
    SeqStopsK Fence.wide n Tryz.prog 215 #[.pointer (some ⟨Bs, 0, none⟩), .pointer (some ⟨Bn, 0, none⟩)] (encC g o K) (Fr G) (fun ys => ys = List.range K) (fun pre => ∃ k, k ≤ K ∧ pre = List.range k) K w := fun lp J Jx W hW hJo _ hY h0 => by
  have hc' := (hW.cell (p := ⟨Bs, 0, none⟩) hBs.1).trans hc
  have hc2' := (hW.cell (p := ⟨Bn, 0, none⟩) hBn.1).trans hc2
  refine (chunk1_in n hn lp Bs Bn g o cap K G hK hcap hcm J Jx hY W hc' ⟨Nat.lt_of_lt_of_le hBs.1 hW.size, hBs.2⟩ hc2' ⟨Nat.lt_of_lt_of_le hBn.1 hW.size, hBn.2⟩ h0 (fun s X m hs => hJo s X (X.drewN m) none hs ⟨rfl, rfl, rfl, Nat.le_refl _, fun _ _ _ => rfl⟩ (fun r e => by cases e))).mono ?_
  rintro e W' ⟨he, ⟨ys, rfl, hj⟩ | ⟨pre, ⟨k, hk, rfl⟩, hj⟩⟩
  · exact ⟨he, .inl ⟨_, rfl, hj⟩⟩
  · exact ⟨he, .inr ⟨_, ⟨k, hk, rfl⟩, hj⟩⟩

theorem frK_t {G : Nat → Prop} {A B C : World} (h : Fr G A B) (k : Fr G B C) : Fr G A C := h.trans k (fun _ _ h => h)
theorem frK_b {G : Nat → Prop} {w : World} (hG : ∀ k, w.heap.size ≤ k → G k) (W : World) (l : Nat) (o o' : Obj) (hl : w.heap.size ≤ l) (h : W.heap[l]? = some o) (hc : o.isCells = false) (hw : o.isWalk = false) : Fr G W (W.putObj l o') := by
  have hb := belowK_b (n₀ := 0) (w := w) (Nat.zero_le _) W l o o' hl h hc hw
  exact ⟨hb.os, hb.tape, hb.output, hb.size, fun k hk hg => World.putObj_heap_other (fun e => hg (by subst e; exact hG _ hl))⟩

end Go.Proofs.YtdkanehjahpehaaGreatDoor
end

section
namespace Go.Proofs.YtdkanehjahpehaaGreatDoor
open Go

section
variable {P : Program} {md : Region.Mode} {ops : Array Oper} {Q : Exit → Act → World → Prop}

theorem wpIn_of_wp_round {l n : Nat} {o : Oper} {a : Act} {w : World} {K K' : Act → World → Prop} (hd : ∀ c : Call, o.op ≠ Op.defer c) (hK : ∀ a w, K a w → K' a w) (h : o.wp P a w K Q) : o.wpIn (Fence.wide.inRound l) n P a w K' Q := by
  refine ⟨fun f _ => trivial, ?_⟩
  unfold Oper.wp at h
  rw [show (Fence.wide.inRound l).round = some l from rfl, Oper.semAt_some l a.eval o hd]
  generalize (execOp a.eval o).run P w = r at h ⊢
  match r, h with
  | .ok (.value v) w', h => exact hK _ _ h
  | .ok .skip w', h => exact hK _ _ h
  | .ok (.defer d) w', h => exact hK _ _ h
  | .ok (.enter f args) w', h =>
    refine ⟨fun h => by simp [Fence.wide] at h, CallsIn.inRound l (callsIn_wide.2 (Calls.mono h ?_))⟩
    intro e w'' he
    match e, he with
    | .returned v, he => exact hK _ _ he
    | .panicked c, he => exact he
    | .outgrown, he => exact he
  | .ok (.row row args) w', h =>
    refine ⟨fun h => by simp [Fence.wide] at h, fun c cs _ => ?_⟩
    obtain ⟨v, w'', hr, hs⟩ := h c cs
    exact ⟨v, w'', hK _ _ hr, stepsIn_wide.2 hs⟩
  | .halt (.panic v) w', h => exact h

theorem wpAnyIn_of_wpAny {l n : Nat} (hd : ∀ (i : Nat) (o : Oper), ops[i]? = some o → ∀ c : Call, o.op ≠ Op.defer c) (hQ : ¬ LetsOut Q) : ∀ (fuel : Nat) (listed : Array Bool) (a : Act) (w : World), wpAny P md ops Q fuel listed a w → wpAnyIn (Fence.wide.inRound l) n P md ops Q fuel listed a w
  | 0, _, _, _, h => h
  | fuel + 1, listed, a, w, h => by
    refine ⟨h.1, fun i hi => ?_⟩
    have hh := h.2 i hi
    unfold wpOp at hh
    unfold wpOpIn
    cases ho : ops[i]? with
    | none =>
      rw [ho] at hh
      exact wpAnyIn_of_wpAny hd hQ fuel _ _ _ hh
    | some o =>
      rw [ho] at hh
      simp only at hh ⊢
      split
      · rename_i hw
        rw [if_pos hw] at hh
        rcases hh with hh | ⟨_, hl⟩
        · exact wpIn_of_wp_round (hd i o ho) (fun a w h => wpAnyIn_of_wpAny hd hQ fuel _ a w h) hh
        · exact absurd hl hQ
      · rename_i hw
        rw [if_neg hw] at hh
        exact ⟨fun _ _ => trivial, wpAnyIn_of_wpAny hd hQ fuel _ _ _ hh⟩

/-- Q, but 'False' where memory gives out. -/
def NoOut (Q : Exit → Act → World → Prop) : Exit → Act → World → Prop
  | .outgrown, _, _ => False
  | e, a, w => Q e a w
theorem NoOut.lets (Q : Exit → Act → World → Prop) : ¬ LetsOut (NoOut Q) := fun ⟨_, _, h⟩ => h
theorem NoOut.imp : ∀ (e : Exit) (a : Act) (w : World), NoOut Q e a w → Q e a w := fun e a w h => by
  cases e <;> first | exact h | exact (h : False).elim

def noDefer (o : Oper) : Bool := match o.op with | .defer _ => false | _ => true

/-- A region that draws its order, whose first k operations only read, in a round. -/
theorem wpIn_still_tail_round {l n id : Nat} {a : Act} {w : World} {L : List Oper} (k : Nat) (hm : P.follows .mixedOrders = true) (hB : Region.lexTailB .any L.toArray k = true) (hD : L.all noDefer = true)
    (h : wpStill P L.toArray w.drew (fun a' => wpList P L.toArray (NoOut Q) (L.drop k) a' w.drew) (L.take k) a) : (Code.region id L.toArray true).wpIn (Fence.wide.inRound l) n P Q a w := by
  simp only [Region.lexTailB, Bool.and_eq_true, decide_eq_true_eq] at hB
  obtain ⟨⟨⟨⟨hsel, hn⟩, hs⟩, hc⟩, hlex⟩ := hB
  have hn' : k < L.length := by simpa using hn
  have htl : (L.take k).length = k := by simp; omega
  have hdl : (L.drop k).length = L.toArray.size - k := by simp
  have inv0 : HeadInv .any L.toArray k (Array.replicate L.toArray.size false) :=
    ⟨by simp, fun j oj _ hl => (by rw [getD_replicate_false] at hl; cases hl), fun t _ ht => getD_in (by simpa using ht) (getD_replicate_false _ _)⟩
  have H := wpAnyL_lex (md := .any) (g := L.toArray.size - k) hsel hs hc hn (L.take k) 0 _ a (fun j hj => by
    have hj' : j < k := by rw [htl] at hj; exact hj
    simp [hj']) (by simpa using htl) inv0 (by rw [htl]; exact hlex) h
  have hd : ∀ (i : Nat) (o : Oper), L.toArray[i]? = some o → ∀ c : Call, o.op ≠ Op.defer c := fun i o ho c e => by
    have hmem : o ∈ L := by
      have := List.mem_of_getElem? (l := L) (i := i) (by simpa using ho)
      exact this
    have h1 := List.all_eq_true.1 hD o hmem
    unfold noDefer at h1
    rw [e] at h1
    cases h1
  refine wpIn_mono (wpIn_region_any (Q := NoOut Q) hm (wpAnyIn_of_wpAny hd (NoOut.lets Q) _ _ _ _ ?_)) NoOut.imp
  have := wpAny_of_head (Q' := NoOut Q) (g := L.toArray.size - k) (fun listed a' hL => by
    have := wpAny_of_seq (md := .any) (Q' := NoOut Q) (L.drop k) k listed a' w.drew (fun j => by simp [List.getElem?_drop]) (by rw [hdl]; exact hL.1) hL.2
    rwa [hdl] at this) _ _ _ H
  rw [htl, show k + (L.toArray.size - k) = L.toArray.size by omega] at this
  exact this

/-- A region that draws its order, in a round, out of the plain laws on orders. -/
theorem wpIn_region_plain {l n id : Nat} {a : Act} {w : World} {L : List Oper} (hm : P.follows .mixedOrders = true) (hD : L.all noDefer = true) (hQ : ¬ LetsOut Q)
    (h : wpAny P .any L.toArray Q L.toArray.size (Array.replicate L.toArray.size false) a w.drew) : (Code.region id L.toArray true).wpIn (Fence.wide.inRound l) n P Q a w := by
  have hd : ∀ (i : Nat) (o : Oper), L.toArray[i]? = some o → ∀ c : Call, o.op ≠ Op.defer c := fun i o ho c e => by
    have hmem : o ∈ L := by
      have := List.mem_of_getElem? (l := L) (i := i) (by simpa using ho)
      exact this
    have h1 := List.all_eq_true.1 hD o hmem
    unfold noDefer at h1
    rw [e] at h1
    cases h1
  exact wpIn_region_any hm (wpAnyIn_of_wpAny hd hQ _ _ _ _ h)

theorem wpOp_want {i : Nat} {o : Oper} {K : Act → World → Prop} {a : Act} {w : World} (ho : ops[i]? = some o) (hw : Region.wanted o (yielded ops a.tmps) = true)
    (h : ∀ K' : Act → World → Prop, (∀ a w, K a w → K' a w) → Oper.wp P o a w K' Q) : wpOp P ops Q i K a w := by
  unfold wpOp
  rw [ho]
  simp only [hw, if_true]
  exact .inl (h K (fun _ _ h => h))

end
end Go.Proofs.YtdkanehjahpehaaGreatDoor
end
