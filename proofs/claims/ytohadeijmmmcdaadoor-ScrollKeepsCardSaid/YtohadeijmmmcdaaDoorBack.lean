/-
  slices.Backward over bytes.
-/
import Derived.Test.YtohadeijmmmcdaaDoorDrumF
import Derived.Test.YtohadeijmmmcdaaDoorBytA
namespace Go.Proofs.YtohadeijmmmcdaaDoor
open Go.RowKit Go.Shelf
set_option maxRecDepth 100000
attribute [local go_sem] Oper.semAt_some

/-- A round's two values. -/
def encB (x : Nat × Int) : Array Value := #[.int .i64 (x.1 : Int), .int .u8 x.2]
/-- What has come when k rounds are over. -/
def backB (l : List Int) (k : Nat) : List (Nat × Int) := (List.range k).map fun j => (l.length - 1 - j, l.getD (l.length - 1 - j) 0)
theorem backB_succ (l : List Int) (k : Nat) : backB l (k + 1) = backB l k ++ [(l.length - 1 - k, l.getD (l.length - 1 - k) 0)] := by simp [backB, List.range_succ]
theorem backB_len (l : List Int) (k : Nat) : (backB l k).length = k := by simp [backB]
theorem backB_all (l : List Int) : (backB l l.length).map (·.2) = l.reverse := by
  apply List.ext_getElem
  · simp [backB]
  · intro i h1 h2
    have hi : i < l.length := by simpa [backB] using h1
    simp only [backB, List.getElem_map, List.getElem_range, List.getElem_reverse]
    simp [List.getD, show l.length - 1 - i < l.length by omega]

/-- Where the bytes lie, in none of the blocks G. -/
def BytesAt (G : Nat → Prop) (W : World) (A : Option Addr) (l : List Int) : Prop := ∀ i, (hi : i < l.length) → ∃ g o, A = some ⟨g, o, none⟩ ∧ g < W.heap.size ∧ ¬ G g ∧ W.cell? ⟨g, o + i, none⟩ = some (.int .u8 l[i])
theorem BytesAt.fr {G : Nat → Prop} {W W1 : World} {A : Option Addr} {l : List Int} (h : BytesAt G W A l) (hf : Fr G W W1) : BytesAt G W1 A l := fun i hi => by
  obtain ⟨g, o, e, hg, hn, hl⟩ := h i hi
  exact ⟨g, o, e, Nat.lt_of_lt_of_le hg hf.size, hn, (hf.cell (p := ⟨g, o + i, none⟩) hg hn).trans hl⟩
theorem BytesAt.below {G : Nat → Prop} {W W1 : World} {A : Option Addr} {l : List Int} (h : BytesAt G W A l) (hb : Below W.heap.size W W1) : BytesAt G W1 A l := fun i hi => by
  obtain ⟨g, o, e, hg, hn, hl⟩ := h i hi
  exact ⟨g, o, e, Nat.lt_of_lt_of_le hg hb.size, hn, (hb.cell (p := ⟨g, o + i, none⟩) hg).trans hl⟩

set_option maxHeartbeats 2000000 in
theorem backB1_in (F : Fence) (n : Nat) (h8 : F.fn 91) (hro : F.round = none) (hn : 1 ≤ n) (lp Bs cap : Nat) (G : Nat → Prop) (A : Option Addr) (l : List Int) (hlen : l.length ≤ 1000000000) (J Jx : List (Nat × Int) → World → Prop)
    (hY : ∀ pre x W, J pre W → pre.length < l.length → YieldAt F (n - 1) Tryd.prog lp (encB x) W fun e W' =>
      (e = .returned (.bool true) ∧ J (pre ++ [x]) W' ∧ Fr G W W') ∨ (e = .returned (.bool false) ∧ Jx (pre ++ [x]) W'))
    (W : World) (hBs : W.cell? ⟨Bs, 0, none⟩ = some (.slice A l.length cap)) (hBn : Bs < W.heap.size ∧ ¬ G Bs) (hc : BytesAt G W A l) (h0 : J [] W) :
    CallsIn F n Tryd.prog 91 #[.func (.yield lp) #[] #[], .pointer (some ⟨Bs, 0, none⟩)] W fun e W' => (∃ v, e = .returned v) ∧
      ((∃ ys, ys = backB l l.length ∧ J ys W') ∨ (∃ pre, (∃ k, k ≤ l.length ∧ pre = backB l k) ∧ Jx pre W')) := by
  refine callsIn_of_wp Tryd.func91 rfl h8 ?_ hro
  simp only [Tryd.ntmps91, List.size_toArray, List.length_cons, List.length_nil, Nat.reduceAdd, Nat.reduceSub, Array.replicate_succ, Array.replicate_zero, List.push_toArray, List.append_toArray, List.nil_append, List.cons_append]
  gi_wp2
  gi_loopw [3] (fun i wr => ∃ m : Nat, m ≤ l.length ∧ i = .int .i64 ((m : Int) - 1) ∧ J (backB l (l.length - m)) wr ∧ Fr G W wr)
    (fun i _ => (intOf i + 1).toNat)
  case atStart => exact ⟨l.length, Nat.le_refl _, rfl, by rw [Nat.sub_self]; exact h0, Fr.refl _ _⟩
  case round =>
    obtain ⟨m, hm, rfl, hJs, hnx⟩ := hrel
    cases m with
    | zero =>
      have hd : decide ((0 : Int) ≤ ((0 : Nat) : Int) - 1) = false := by decide
      gi_wp2
      go_end0
      exact ⟨⟨_, rfl⟩, .inl ⟨_, rfl, hJs⟩⟩
    | succ m =>
      have e1 : (((m + 1 : Nat) : Int) - 1) = (m : Int) := by omega
      rw [e1]
      have hml : m < l.length := by omega
      obtain ⟨g, o, rfl, hg, hng, hl⟩ := hc m hml
      have hld : wr.cell? ⟨g, o + m, none⟩ = some (.int .u8 l[m]) := (hnx.cell (p := ⟨g, o + m, none⟩) hg hng).trans hl
      have hcb : wr.cell? ⟨Bs, 0, none⟩ = some (.slice (some ⟨g, o, none⟩) l.length cap) := (hnx.cell (p := ⟨Bs, 0, none⟩) hBn.1 hBn.2).trans hBs
      obtain ⟨fn, tmps, assign, body, hy, hR⟩ := hY _ (m, l[m]) wr hJs (by rw [backB_len]; omega)
      dsimp only [encB] at hy
      have hge : decide ((0 : Int) ≤ (m : Int)) = true := by simp
      obtain ⟨x, hx⟩ : ∃ x, l[m] = x := ⟨_, rfl⟩
      have HX := Lib.hid hx
      rw [hx] at hld hy
      clear hl e1 hc hx
      gi_wp2
      refine hR.mono ?_
      rintro e W3 (⟨rfl, hJ3, hk3⟩ | ⟨rfl, hJx3⟩)
      · gi_wp2
        go_roundw
        case rel =>
          refine ⟨m, by omega, by go_num, ?_, hnx.trans hk3 (fun _ _ h => h)⟩
          have e2 : l.length - m = (l.length - (m + 1)) + 1 := by omega
          rw [e2, backB_succ]
          have e3 : l.length - 1 - (l.length - (m + 1)) = m := by omega
          rw [e3]
          have e4 : l.getD m 0 = l[m] := by simp [List.getD, hml]
          rw [e4]
          exact hJ3
        case measure => simp [intOf]
      · gi_wp2
        refine bodyPost_ret (results_none rfl _ _ _) rfl ?_
        refine ⟨⟨_, rfl⟩, .inr ⟨_, ⟨l.length - m, by omega, ?_⟩, hJx3⟩⟩
        have e2 : l.length - m = (l.length - (m + 1)) + 1 := by omega
        rw [e2, backB_succ]
        have e3 : l.length - 1 - (l.length - (m + 1)) = m := by omega
        rw [e3]
        have e4 : l.getD m 0 = l[m] := by simp [List.getD, hml]
        rw [e4]

set_option maxHeartbeats 1000000 in
theorem backB_in (F : Fence) (n : Nat) (h5 : F.fn 80) (hro : F.round = none) (a : Option Addr) (len cap : Nat) (w : World) :
    CallsIn F n Tryd.prog 80 #[.slice a len cap] w fun e w' =>
      e = .returned (.func (.func 91) #[] #[.pointer (some ⟨w.heap.size, 0, none⟩)]) ∧ w' = w.alloc (.cells #[.slice a len cap] 22) := by
  refine callsIn_of_wp Tryd.func80 rfl h5 ?_ hro
  simp only [Tryd.ntmps80, List.size_toArray, List.length_cons, List.length_nil, Nat.reduceAdd, Nat.reduceSub, Array.replicate_succ, Array.replicate_zero, List.push_toArray, List.append_toArray, List.nil_append, List.cons_append]
  gi_wp2
  go_ret
  exact ⟨rfl, rfl⟩

theorem backB_stops (F : Fence) (n : Nat) (h8 : F.fn 91) (hro : F.round = none) (hn : 1 ≤ n) (Bs cap : Nat) (G : Nat → Prop) (A : Option Addr) (l : List Int) (hlen : l.length ≤ 1000000000) (w : World) (hBs : Bs < w.heap.size ∧ ¬ G Bs)
    (hc : w.cell? ⟨Bs, 0, none⟩ = some (.slice A l.length cap)) (hI : BytesAt G w A l) :
    SeqStopsK F n Tryd.prog 91 #[.pointer (some ⟨Bs, 0, none⟩)] encB (Fr G) (fun ys => ys = backB l l.length) (fun pre => ∃ k, k ≤ l.length ∧ pre = backB l k) l.length w := fun lp J Jx W hW _ _ hY h0 => by
  have hc' := (hW.cell (p := ⟨Bs, 0, none⟩) hBs.1).trans hc
  refine (backB1_in F n h8 hro hn lp Bs cap G A l hlen J Jx hY W hc' ⟨Nat.lt_of_lt_of_le hBs.1 hW.size, hBs.2⟩ (hI.below hW) h0).mono ?_
  rintro e W' ⟨he, ⟨ys, rfl, hj⟩ | ⟨pre, ⟨k, hk, rfl⟩, hj⟩⟩
  · exact ⟨he, .inl ⟨_, rfl, hj⟩⟩
  · exact ⟨he, .inr ⟨_, ⟨k, hk, rfl⟩, hj⟩⟩

end Go.Proofs.YtohadeijmmmcdaaDoor
