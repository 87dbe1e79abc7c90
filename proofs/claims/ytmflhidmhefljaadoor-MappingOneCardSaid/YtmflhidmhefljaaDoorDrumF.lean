/-
  slices.Backward over the writes that wait; the drum's now.
-/
import Derived.RangeFuncNested
import Derived.RangeFuncBound
import Derived.RangeFuncCalls
import Derived.RangeFuncLeaves
import Derived.Shelf.Abstract
import Derived.Shelf.RegionOpen
import Derived.OwnWalkIn
import Derived.TacticsInMore
import Derived.LoopNIn
import Derived.LoopIn
import Derived.Test.YtmflhidmhefljaaDoorDrumE
namespace Go.Proofs.YtmflhidmhefljaaDoor
open Go.RowKit Go.Shelf
set_option maxRecDepth 100000
attribute [local go_sem] Oper.semAt_some
/-- A write, its sector made one of 64 bytes. -/
def nrm (y : Nat × List Int) : Nat × List Int := (y.1, if y.2.length = 64 then y.2 else List.replicate 64 0)
theorem nrm_len (y : Nat × List Int) : (nrm y).2.length = 64 := by
  unfold nrm; dsimp only; split <;> simp_all
theorem nrm_id {y : Nat × List Int} (h : y.2.length = 64) : nrm y = y := by simp [nrm, h]
/-- A round's two values. -/
def encW (x : Nat × (Nat × List Int)) : Array Value := #[.int .i64 (x.1 : Int), .agg (wrow (nrm x.2)).toArray]
/-- What has come when k rounds are over. -/
def backTo (l : List (Nat × List Int)) (k : Nat) : List (Nat × (Nat × List Int)) := (List.range k).map fun j => (l.length - 1 - j, l.getD (l.length - 1 - j) (0, []))
theorem backTo_succ (l : List (Nat × List Int)) (k : Nat) : backTo l (k + 1) = backTo l k ++ [(l.length - 1 - k, l.getD (l.length - 1 - k) (0, []))] := by simp [backTo, List.range_succ]
theorem backTo_len (l : List (Nat × List Int)) (k : Nat) : (backTo l k).length = k := by simp [backTo]

/-- None of those that came is of k: none of the last ones. -/
theorem backTo_mem {l : List (Nat × List Int)} {k i : Nat} (hi : i < l.length) (hk : l.length - k ≤ i) : (i, l[i]) ∈ backTo l k := by
  refine List.mem_map.2 ⟨l.length - 1 - i, List.mem_range.2 (by omega), ?_⟩
  have e : l.length - 1 - (l.length - 1 - i) = i := by omega
  rw [e]
  simp [List.getD, hi]
theorem now_none {S : DS} {k : Nat} (h : ∀ x ∈ backTo S.waits S.waits.length, x.2.1 ≠ k) : S.now k = S.sure.getD k [] := by
  refine lastAt_none k _ _ (fun y hy => ?_)
  obtain ⟨i, hi, rfl⟩ := List.getElem_of_mem hy
  exact h _ (backTo_mem hi (by omega))
theorem now_some {S : DS} {k j : Nat} {q : List (Nat × (Nat × List Int))} {x : Nat × (Nat × List Int)} (hj : j ≤ S.waits.length) (he : q ++ [x] = backTo S.waits j) (hq : ∀ y ∈ q, y.2.1 ≠ k) (hx : x.2.1 = k) : S.now k = x.2.2 ∧ x.2 ∈ S.waits := by
  cases j with
  | zero => simp [backTo] at he
  | succ j =>
    rw [backTo_succ] at he
    obtain ⟨rfl, h2⟩ := List.append_inj' he rfl
    have hlt : S.waits.length - 1 - j < S.waits.length := by omega
    simp only [List.cons.injEq, and_true] at h2
    subst h2
    have e : S.waits.getD (S.waits.length - 1 - j) (0, []) = S.waits[S.waits.length - 1 - j] := by simp [List.getD, hlt]
    simp only [e] at hx ⊢
    refine ⟨lastAt_at k _ _ _ hlt hx (fun i hi hij => ?_), List.getElem_mem _⟩
    exact hq _ (backTo_mem hi (by omega))

theorem Blk.putObj {w : World} {g : Nat} {t : TypeId} {cs : Array Value} (h : Blk w g t cs) {D : Nat} {o : Obj} (hD : w.heap[D]? = some o) (hoc : o.isCells = false) (o' : Obj) : Blk (w.putObj D o') g t cs := by
  refine (World.putObj_heap_other ?_).trans h
  rintro rfl
  rw [show w.heap[_]? = _ from h] at hD
  cases hD
  cases hoc

theorem grownBy_setRow (w : World) (g : Nat) (cs : Array Value) : w.grownBy (w.setRow g cs) (some g) :=
  ⟨rfl, rfl, rfl, by simp, fun k _ hne => setRow_other _ _ _ _ (fun e => hne (by rw [e]))⟩

theorem results_arr {P : Program} {fn : Func} {p : Tmp} {ty : TypeId} (h : fn.results = #[.cell p ty]) (tmps : Array Value) (w : World) (g : Nat) (t : TypeId) (xs : List Value) (d : TypeDesc)
    (hp : tmps.getD p undef = .pointer (some ⟨g, 0, none⟩)) (hg : Blk w g t xs.toArray) (hu : P.underlying ty = some d) (hd : isAggD d = true) (hi : (P.info? ty).map (·.size) = some xs.length) :
    (results fn tmps).run P w = .ok (.agg xs.toArray) w :=
  results_cell_row h tmps w g t xs.toArray (0, 0) d hp hg hu (by cases d <;> simp_all [isAggD]) (by simpa using hi)

end Go.Proofs.YtmflhidmhefljaaDoor
