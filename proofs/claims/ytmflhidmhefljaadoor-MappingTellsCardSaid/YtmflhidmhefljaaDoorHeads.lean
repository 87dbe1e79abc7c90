/-
  A region that draws its order: some operations that hang on no memory, then one order.
-/
import Derived.Test.YtmflhidmhefljaaDoorDrumA
import Derived.StillTail
import Derived.OrdersHeld
import Derived.RegionTactic
namespace Go.Proofs.YtmflhidmhefljaaDoor
open Go

section
variable {P : Program} {ops : Array Oper} {Q : Exit → Act → World → Prop}

/-- The operations l, each of which yields its value in whatever world; then K. -/
def wpHeads (P : Program) (ops : Array Oper) (K : Act → Prop) : List Oper → Act → Prop
  | [], a => K a
  | o :: l, a => ∃ v, Yields P ops o v a ∧ wpHeads P ops K l (a.put o.dst v)
theorem wpHeads_nil {K : Act → Prop} {a : Act} (h : K a) : wpHeads P ops K [] a := h
theorem wpHeads_cons {K : Act → Prop} {a : Act} {o : Oper} {l : List Oper} (v : Value) (hy : Yields P ops o v a) (h : wpHeads P ops K l (a.put o.dst v)) : wpHeads P ops K (o :: l) a := ⟨v, hy, h⟩

/-- From the k-th on n operations may each be taken first; then the rest has one order. -/
def headsB (ops : Array Oper) : Nat → Nat → Array Bool → Bool
  | 0, k, listed => Region.seqB .any ops (ops.size - k) k listed
  | n + 1, k, listed => Region.free .any ops listed k && (Region.ready .any ops listed).contains k && headsB ops n (k + 1) (listed.setIfInBounds k true)

theorem wpAny_heads {L : List Oper} {w : World} (hs : Region.noSelect L.toArray = true) (hQ : ∀ c a d v w, Q (.panic c) (Act.put a d v) w → Q (.panic c) a w) :
    ∀ (l : List Oper) (k : Nat) (listed : Array Bool) (a : Act), k + l.length ≤ L.length → (∀ j, j < l.length → l[j]? = L[k + j]?) → headsB L.toArray l.length k listed = true →
      wpHeads P L.toArray (fun a' => wpList P L.toArray Q (L.drop (k + l.length)) a' w) l a → wpAny P .any L.toArray Q (L.length - k) listed a w
  | [], k, listed, a, hk, _, hB, h => by
    simp only [headsB, List.length_nil, List.size_toArray] at hB
    have e : (L.drop k).length = L.length - k := by simp
    have h' : wpList P L.toArray Q (L.drop k) a w := h
    have := wpAny_of_seq (md := .any) (Q' := Q) (L.drop k) k listed a w (fun j => by simp [List.getElem?_drop]) (by rw [e]; exact hB) h'
    rw [e] at this
    exact this
  | o :: l, k, listed, a, hk, hl, hB, h => by
    simp only [headsB, List.length_cons, Bool.and_eq_true] at hB
    obtain ⟨⟨hf, hr⟩, hB⟩ := hB
    obtain ⟨v, hy, h⟩ := h
    have h0 : L.toArray[k]? = some o := by
      have := hl 0 (by simp)
      simp only [List.getElem?_cons_zero, Nat.add_zero] at this
      simpa using this.symm
    simp only [List.length_cons] at hk
    have ih := wpAny_heads hs hQ l (k + 1) (listed.setIfInBounds k true) (a.put o.dst v) (by omega) (fun j hj => by
      have := hl (j + 1) (by simp; omega)
      simp only [List.getElem?_cons_succ] at this
      rw [this, show k + (j + 1) = k + 1 + j by omega]) hB (by
        simp only [List.length_cons] at h
        rw [show k + 1 + l.length = k + (l.length + 1) by omega]
        exact h)
    rw [show L.length - k = (L.length - (k + 1)) + 1 by omega]
    exact wpAny_take h0 hs hf hr (fun c a w h => hQ c a _ _ w h) hy ih

/-- Q, but False at a panic. -/
def NoPan (Q : Exit → Act → World → Prop) : Exit → Act → World → Prop
  | .panic _, _, _ => False
  | e, a, w => Q e a w
@[go_sem] theorem noPan_normal (Q : Exit → Act → World → Prop) (a : Act) (w : World) : NoPan Q .normal a w = Q .normal a w := rfl
theorem NoPan.imp : ∀ (e : Exit) (a : Act) (w : World), NoPan Q e a w → Q e a w := fun e a w h => by
  cases e <;> first | exact h | exact (h : False).elim

/-- A region that draws its order and doesn't panic: its first n operations hang on no memory, the rest has one order. -/
theorem wp_headsN {id : Nat} {a : Act} {w : World} {L : List Oper} (n : Nat) (hm : P.follows .mixedOrders = true) (hn : decide (n ≤ L.length) = true) (hs : Region.noSelect L.toArray = true)
    (hB : headsB L.toArray n 0 (Array.replicate L.toArray.size false) = true)
    (h : wpHeads P L.toArray (fun a' => wpList P L.toArray (NoPan Q) (L.drop n) a' w.drew) (L.take n) a) : (Code.region id L.toArray true).wp P Q a w := by
  have hn' : n ≤ L.length := by simpa using hn
  have e : (L.take n).length = n := by simp; omega
  refine wp_mono (Q := NoPan Q) (wp_region_any hm ?_) NoPan.imp
  have := wpAny_heads (P := P) (Q := NoPan Q) (w := w.drew) hs (fun _ _ _ _ _ h => (h : False).elim) (L.take n) 0 (Array.replicate L.toArray.size false) a (by rw [e]; omega) (fun j hj => by
    rw [e] at hj
    rw [List.getElem?_take, if_pos hj, Nat.zero_add]) (by rw [e]; exact hB) (by rw [e, Nat.zero_add]; exact h)
  rw [Nat.sub_zero] at this
  exact this

/-- A region that draws its order: its first n operations hang on no memory, the rest has one order. -/
theorem wp_heads {id : Nat} {a : Act} {w : World} {L : List Oper} (n : Nat) (hm : P.follows .mixedOrders = true) (hn : decide (n ≤ L.length) = true) (hs : Region.noSelect L.toArray = true)
    (hB : headsB L.toArray n 0 (Array.replicate L.toArray.size false) = true) (hQ : ∀ c a d v w, Q (.panic c) (Act.put a d v) w → Q (.panic c) a w)
    (h : wpHeads P L.toArray (fun a' => wpList P L.toArray Q (L.drop n) a' w.drew) (L.take n) a) : (Code.region id L.toArray true).wp P Q a w := by
  have hn' : n ≤ L.length := by simpa using hn
  have e : (L.take n).length = n := by simp; omega
  refine wp_region_any hm ?_
  have := wpAny_heads (P := P) (Q := Q) (w := w.drew) hs hQ (L.take n) 0 (Array.replicate L.toArray.size false) a (by rw [e]; omega) (fun j hj => by
    rw [e] at hj
    rw [List.getElem?_take, if_pos hj, Nat.zero_add]) (by rw [e]; exact hB) (by rw [e, Nat.zero_add]; exact h)
  rw [Nat.sub_zero] at this
  exact this

/-- The operations in the order of the text: each that is marked yields its value in every world that meets S; each other one is carried out, and S holds behind it. -/
def wpTxt (P : Program) (ops : Array Oper) (Q : Exit → Act → World → Prop) (S : World → Prop) : List Bool → List Oper → Act → World → Prop
  | _, [], a, w => Q .normal a w
  | [], _ :: _, _, _ => False
  | true :: fl, o :: l, a, w => ∃ v, YieldsIf P ops S o v a ∧ wpTxt P ops Q S fl l (a.put o.dst v) w
  | false :: fl, o :: l, a, w => if Region.wanted o (yielded ops a.tmps) = true then o.wp P a w (fun a' w' => S w' ∧ wpTxt P ops Q S fl l a' w') Q else wpTxt P ops Q S fl l (a.put o.dst undef) w

section
variable {S : World → Prop} {fl : List Bool} {o : Oper} {l : List Oper} {a : Act} {w : World}
theorem wpTxt_nil (h : Q .normal a w) : wpTxt P ops Q S [] [] a w := h
theorem wpTxt_take {v : Value} (hw : Region.wanted o (yielded ops a.tmps) = true) (hy : ∀ W, S W → (execOp a.eval o).run P W = .ok (.value v) W) (h : wpTxt P ops Q S fl l (a.put o.dst v) w) : wpTxt P ops Q S (true :: fl) (o :: l) a w :=
  ⟨v, .inl ⟨hw, hy⟩, h⟩
theorem wpTxt_drop (hw : Region.wanted o (yielded ops a.tmps) = false) (h : wpTxt P ops Q S fl l (a.put o.dst undef) w) : wpTxt P ops Q S (true :: fl) (o :: l) a w :=
  ⟨undef, .inr ⟨hw, rfl⟩, h⟩
theorem wpTxt_want (hw : Region.wanted o (yielded ops a.tmps) = true) (h : ∀ K : Act → World → Prop, (∀ a' w', S w' → wpTxt P ops Q S fl l a' w' → K a' w') → o.wp P a w K Q) : wpTxt P ops Q S (false :: fl) (o :: l) a w := by
  unfold wpTxt
  rw [if_pos hw]
  exact h _ (fun a' w' h1 h2 => ⟨h1, h2⟩)
theorem wpTxt_skip (hw : Region.wanted o (yielded ops a.tmps) = false) (h : wpTxt P ops Q S fl l (a.put o.dst undef) w) : wpTxt P ops Q S (false :: fl) (o :: l) a w := by
  unfold wpTxt
  rw [if_neg (by rw [hw]; simp)]
  exact h
end

def txtB (ops : Array Oper) : List Bool → Nat → Array Bool → Bool
  | [], _, listed => (Region.ready .any ops listed).isEmpty
  | true :: fl, k, listed => Region.free .any ops listed k && (Region.ready .any ops listed).contains k && txtB ops fl (k + 1) (listed.setIfInBounds k true)
  | false :: fl, k, listed => decide (Region.ready .any ops listed = [k]) && txtB ops fl (k + 1) (listed.setIfInBounds k true)

theorem wpAnyH_txt {S : World → Prop} {L : List Oper} (hs : Region.noSelect L.toArray = true) (hQ : ∀ c a d v w, Q (.panic c) (Act.put a d v) w → Q (.panic c) a w) :
    ∀ (fl : List Bool) (l : List Oper) (k : Nat) (listed : Array Bool) (a : Act) (w : World), fl.length = l.length → k + l.length = L.length → (∀ j, j < l.length → l[j]? = L[k + j]?) → txtB L.toArray fl k listed = true →
      S w → wpTxt P L.toArray Q S fl l a w → wpAnyH P .any L.toArray Q S l.length listed a w
  | [], [], k, listed, a, w, _, _, _, hB, _, h => ⟨by simpa [txtB] using hB, h⟩
  | [], _ :: _, _, _, _, _, hl, _, _, _, _, _ => by simp at hl
  | _ :: _, [], _, _, _, _, hl, _, _, _, _, _ => by simp at hl
  | true :: fl, o :: l, k, listed, a, w, hl, hk, hlk, hB, hS, h => by
    simp only [txtB, Bool.and_eq_true] at hB
    obtain ⟨⟨hf, hr⟩, hB⟩ := hB
    obtain ⟨v, hy, h⟩ := h
    have h0 : L.toArray[k]? = some o := by
      have := hlk 0 (by simp)
      simp only [List.getElem?_cons_zero, Nat.add_zero] at this
      simpa using this.symm
    simp only [List.length_cons] at hk hl
    have ih := wpAnyH_txt hs hQ fl l (k + 1) (listed.setIfInBounds k true) (a.put o.dst v) w (by omega) (by omega) (fun j hj => by
      have := hlk (j + 1) (by simp; omega)
      simp only [List.getElem?_cons_succ] at this
      rw [this, show k + (j + 1) = k + 1 + j by omega]) hB hS h
    exact wpAnyH_take h0 hs hf hr (fun c a w h => hQ c a _ _ w h) hy hS ih
  | false :: fl, o :: l, k, listed, a, w, hl, hk, hlk, hB, hS, h => by
    simp only [txtB, Bool.and_eq_true, decide_eq_true_eq] at hB
    obtain ⟨hr, hB⟩ := hB
    have h0 : L.toArray[k]? = some o := by
      have := hlk 0 (by simp)
      simp only [List.getElem?_cons_zero, Nat.add_zero] at this
      simpa using this.symm
    simp only [List.length_cons] at hk hl
    have ih : ∀ a' w', S w' → wpTxt P L.toArray Q S fl l a' w' → wpAnyH P .any L.toArray Q S l.length (listed.setIfInBounds k true) a' w' := fun a' w' hS' h' =>
      wpAnyH_txt hs hQ fl l (k + 1) (listed.setIfInBounds k true) a' w' (by omega) (by omega) (fun j hj => by
        have := hlk (j + 1) (by simp; omega)
        simp only [List.getElem?_cons_succ] at this
        rw [this, show k + (j + 1) = k + 1 + j by omega]) hB hS' h'
    refine wpAnyH_all (rs := [k]) hr (by simp) (fun i hi => ?_)
    simp only [List.mem_singleton] at hi
    subst hi
    unfold wpTxt at h
    unfold wpOp
    rw [h0]
    simp only
    by_cases hw : Region.wanted o (yielded L.toArray a.tmps) = true
    · rw [if_pos hw] at h ⊢
      exact .inl (Oper.wp_mono (fun a' w' h' => ⟨h'.1, ih a' w' h'.1 h'.2⟩) h)
    · rw [if_neg hw] at h ⊢
      exact ⟨hS, ih _ _ hS h⟩

/-- A region that draws its order and doesn't panic, in the order of the text. -/
theorem wp_txt {id : Nat} {a : Act} {w : World} {L : List Oper} (fl : List Bool) (S : World → Prop) (hm : P.follows .mixedOrders = true) (hs : Region.noSelect L.toArray = true)
    (hl : decide (fl.length = L.length) = true) (hB : txtB L.toArray fl 0 (Array.replicate L.toArray.size false) = true) (hS : S w.drew) (h : wpTxt P L.toArray (NoPan Q) S fl L a w.drew) : (Code.region id L.toArray true).wp P Q a w := by
  refine wp_mono (Q := NoPan Q) (wp_region_any hm (wpAny_of_held (S := S) _ _ _ _ ?_)) NoPan.imp
  exact wpAnyH_txt (Q := NoPan Q) hs (fun _ _ _ _ _ h => (h : False).elim) fl L 0 _ a _ (by simpa using hl) (by simp) (fun j hj => by rw [Nat.zero_add]) hB hS h

end
end Go.Proofs.YtmflhidmhefljaaDoor
