/-
  A region in the body of a range over a function: what holds of it outside a fence holds of it there.
-/
import Derived.Test.YtohadeijmmmcdaaDoorBack
import Derived.StillTail
import Derived.OrdersHeld
namespace Go.Proofs.YtohadeijmmmcdaaDoor
open Go

section
variable {P : Program} {md : Region.Mode} {ops : Array Oper} {Q : Exit → Act → World → Prop}

theorem wpIn_of_wp_round {l n : Nat} {o : Oper} {a : Act} {w : World} {K K' : Act → World → Prop} (hd : ∀ c : Call, o.op ≠ Op.defer c) (hK : ∀ a w, K a w → K' a w) (h : o.wp P a w K Q) : o.wpIn (Fence.wide.inRound l) n P a w K' Q := by
  refine ⟨fun f _ => trivial, ?_⟩
  unfold Oper.wp at h
  rw [show (Fence.wide.inRound l).round = some l from rfl, Oper.semAt_some l a.eval o hd]
  generalize (execOp a.eval o).run P w = r at h ⊢
  match r, h with
  | .ok (.value v) w', h => exact hK _ _ h
  | .ok .skip w', h => exact hK _ _ h
  | .ok (.defer d) w', h => exact hK _ _ h
  | .ok (.enter f args) w', h =>
    refine ⟨fun h => by simp [Fence.wide] at h, CallsIn.inRound l (callsIn_wide.2 (Calls.mono h ?_))⟩
    intro e w'' he
    match e, he with
    | .returned v, he => exact hK _ _ he
    | .panicked c, he => exact he
    | .outgrown, he => exact he
  | .ok (.row row args) w', h =>
    refine ⟨fun h => by simp [Fence.wide] at h, fun c cs _ => ?_⟩
    obtain ⟨v, w'', hr, hs⟩ := h c cs
    exact ⟨v, w'', hK _ _ hr, stepsIn_wide.2 hs⟩
  | .halt (.panic v) w', h => exact h

theorem wpAnyIn_of_wpAny {l n : Nat} (hd : ∀ (i : Nat) (o : Oper), ops[i]? = some o → ∀ c : Call, o.op ≠ Op.defer c) (hQ : ¬ LetsOut Q) : ∀ (fuel : Nat) (listed : Array Bool) (a : Act) (w : World), wpAny P md ops Q fuel listed a w → wpAnyIn (Fence.wide.inRound l) n P md ops Q fuel listed a w
  | 0, _, _, _, h => h
  | fuel + 1, listed, a, w, h => by
    refine ⟨h.1, fun i hi => ?_⟩
    have hh := h.2 i hi
    unfold wpOp at hh
    unfold wpOpIn
    cases ho : ops[i]? with
    | none =>
      rw [ho] at hh
      exact wpAnyIn_of_wpAny hd hQ fuel _ _ _ hh
    | some o =>
      rw [ho] at hh
      simp only at hh ⊢
      split
      · rename_i hw
        rw [if_pos hw] at hh
        rcases hh with hh | ⟨_, hl⟩
        · exact wpIn_of_wp_round (hd i o ho) (fun a w h => wpAnyIn_of_wpAny hd hQ fuel _ a w h) hh
        · exact absurd hl hQ
      · rename_i hw
        rw [if_neg hw] at hh
        exact ⟨fun _ _ => trivial, wpAnyIn_of_wpAny hd hQ fuel _ _ _ hh⟩

/-- Q, but 'False' where memory gives out. -/
def NoOut (Q : Exit → Act → World → Prop) : Exit → Act → World → Prop
  | .outgrown, _, _ => False
  | e, a, w => Q e a w
theorem NoOut.lets (Q : Exit → Act → World → Prop) : ¬ LetsOut (NoOut Q) := fun ⟨_, _, h⟩ => h
theorem NoOut.imp : ∀ (e : Exit) (a : Act) (w : World), NoOut Q e a w → Q e a w := fun e a w h => by
  cases e <;> first | exact h | exact (h : False).elim

def noDefer (o : Oper) : Bool := match o.op with | .defer _ => false | _ => true

/-- A region that draws its order, whose first k operations only read, in a round. -/
theorem wpIn_still_tail_round {l n id : Nat} {a : Act} {w : World} {L : List Oper} (k : Nat) (hm : P.follows .mixedOrders = true) (hB : Region.lexTailB .any L.toArray k = true) (hD : L.all noDefer = true)
    (h : wpStill P L.toArray w.drew (fun a' => wpList P L.toArray (NoOut Q) (L.drop k) a' w.drew) (L.take k) a) : (Code.region id L.toArray true).wpIn (Fence.wide.inRound l) n P Q a w := by
  simp only [Region.lexTailB, Bool.and_eq_true, decide_eq_true_eq] at hB
  obtain ⟨⟨⟨⟨hsel, hn⟩, hs⟩, hc⟩, hlex⟩ := hB
  have hn' : k < L.length := by simpa using hn
  have htl : (L.take k).length = k := by simp; omega
  have hdl : (L.drop k).length = L.toArray.size - k := by simp
  have inv0 : HeadInv .any L.toArray k (Array.replicate L.toArray.size false) :=
    ⟨by simp, fun j oj _ hl => (by rw [getD_replicate_false] at hl; cases hl), fun t _ ht => getD_in (by simpa using ht) (getD_replicate_false _ _)⟩
  have H := wpAnyL_lex (md := .any) (g := L.toArray.size - k) hsel hs hc hn (L.take k) 0 _ a (fun j hj => by
    have hj' : j < k := by rw [htl] at hj; exact hj
    simp [hj']) (by simpa using htl) inv0 (by rw [htl]; exact hlex) h
  have hd : ∀ (i : Nat) (o : Oper), L.toArray[i]? = some o → ∀ c : Call, o.op ≠ Op.defer c := fun i o ho c e => by
    have hmem : o ∈ L := by
      have := List.mem_of_getElem? (l := L) (i := i) (by simpa using ho)
      exact this
    have h1 := List.all_eq_true.1 hD o hmem
    unfold noDefer at h1
    rw [e] at h1
    cases h1
  refine wpIn_mono (wpIn_region_any (Q := NoOut Q) hm (wpAnyIn_of_wpAny hd (NoOut.lets Q) _ _ _ _ ?_)) NoOut.imp
  have := wpAny_of_head (Q' := NoOut Q) (g := L.toArray.size - k) (fun listed a' hL => by
    have := wpAny_of_seq (md := .any) (Q' := NoOut Q) (L.drop k) k listed a' w.drew (fun j => by simp [List.getElem?_drop]) (by rw [hdl]; exact hL.1) hL.2
    rwa [hdl] at this) _ _ _ H
  rw [htl, show k + (L.toArray.size - k) = L.toArray.size by omega] at this
  exact this

/-- A region that draws its order, in a round, out of the plain laws on orders. -/
theorem wpIn_region_plain {l n id : Nat} {a : Act} {w : World} {L : List Oper} (hm : P.follows .mixedOrders = true) (hD : L.all noDefer = true) (hQ : ¬ LetsOut Q)
    (h : wpAny P .any L.toArray Q L.toArray.size (Array.replicate L.toArray.size false) a w.drew) : (Code.region id L.toArray true).wpIn (Fence.wide.inRound l) n P Q a w := by
  have hd : ∀ (i : Nat) (o : Oper), L.toArray[i]? = some o → ∀ c : Call, o.op ≠ Op.defer c := fun i o ho c e => by
    have hmem : o ∈ L := by
      have := List.mem_of_getElem? (l := L) (i := i) (by simpa using ho)
      exact this
    have h1 := List.all_eq_true.1 hD o hmem
    unfold noDefer at h1
    rw [e] at h1
    cases h1
  exact wpIn_region_any hm (wpAnyIn_of_wpAny hd hQ _ _ _ _ h)

theorem wpOp_want {i : Nat} {o : Oper} {K : Act → World → Prop} {a : Act} {w : World} (ho : ops[i]? = some o) (hw : Region.wanted o (yielded ops a.tmps) = true)
    (h : ∀ K' : Act → World → Prop, (∀ a w, K a w → K' a w) → Oper.wp P o a w K' Q) : wpOp P ops Q i K a w := by
  unfold wpOp
  rw [ho]
  simp only [hw, if_true]
  exact .inl (h K (fun _ _ h => h))

end
end Go.Proofs.YtohadeijmmmcdaaDoor
