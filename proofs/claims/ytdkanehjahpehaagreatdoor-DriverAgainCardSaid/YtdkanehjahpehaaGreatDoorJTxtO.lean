/-
  A region that draws its order: some operations that hang on no memory, then one order.
  A region that draws its order, in the order of the text; S need not hold behind those operations that wait for all that lean on it.
  A region that draws its order, in an order of one's own: each entry is an operation's number and its mark (the marks of wp_txJ).
  A region that draws its order, in an order of one's own for a while; then whatever order is picked.
  Guarded operations that are not wanted, in a region in an order of one's own.
-/
import Derived.Test.YtdkanehjahpehaaGreatDoorJDrumA
import Derived.StillTail
import Derived.OrdersHeld
import Derived.RegionTactic

section
namespace Go.Proofs.YtdkanehjahpehaaGreatDoor
open Go

section
variable {P : Program} {ops : Array Oper} {Q : Exit → Act → World → Prop}

/-- The operations l, each of which yields its value in whatever world; then K. -/
def wpHeads (P : Program) (ops : Array Oper) (K : Act → Prop) : List Oper → Act → Prop
  | [], a => K a
  | o :: l, a => ∃ v, Yields P ops o v a ∧ wpHeads P ops K l (a.put o.dst v)
theorem wpHeads_nil {K : Act → Prop} {a : Act} (h : K a) : wpHeads P ops K [] a := h
theorem wpHeads_cons {K : Act → Prop} {a : Act} {o : Oper} {l : List Oper} (v : Value) (hy : Yields P ops o v a) (h : wpHeads P ops K l (a.put o.dst v)) : wpHeads P ops K (o :: l) a := ⟨v, hy, h⟩

/-- From the k-th on n operations may each be taken first; then the rest has one order. -/
def headsB (ops : Array Oper) : Nat → Nat → Array Bool → Bool
  | 0, k, listed => Region.seqB .any ops (ops.size - k) k listed
  | n + 1, k, listed => Region.free .any ops listed k && (Region.ready .any ops listed).contains k && headsB ops n (k + 1) (listed.setIfInBounds k true)

theorem wpAny_heads {L : List Oper} {w : World} (hs : Region.noSelect L.toArray = true) (hQ : ∀ c a d v w, Q (.panic c) (Act.put a d v) w → Q (.panic c) a w) :
    ∀ (l : List Oper) (k : Nat) (listed : Array Bool) (a : Act), k + l.length ≤ L.length → (∀ j, j < l.length → l[j]? = L[k + j]?) → headsB L.toArray l.length k listed = true →
      wpHeads P L.toArray (fun a' => wpList P L.toArray Q (L.drop (k + l.length)) a' w) l a → wpAny P .any L.toArray Q (L.length - k) listed a w
  | [], k, listed, a, hk, _, hB, h => by
    simp only [headsB, List.length_nil, List.size_toArray] at hB
    have e : (L.drop k).length = L.length - k := by simp
    have h' : wpList P L.toArray Q (L.drop k) a w := h
    have := wpAny_of_seq (md := .any) (Q' := Q) (L.drop k) k listed a w (fun j => by simp [List.getElem?_drop]) (by rw [e]; exact hB) h'
    rw [e] at this
    exact this
  | o :: l, k, listed, a, hk, hl, hB, h => by
    simp only [headsB, List.length_cons, Bool.and_eq_true] at hB
    obtain ⟨⟨hf, hr⟩, hB⟩ := hB
    obtain ⟨v, hy, h⟩ := h
    have h0 : L.toArray[k]? = some o := by
      have := hl 0 (by simp)
      simp only [List.getElem?_cons_zero, Nat.add_zero] at this
      simpa using this.symm
    simp only [List.length_cons] at hk
    have ih := wpAny_heads hs hQ l (k + 1) (listed.setIfInBounds k true) (a.put o.dst v) (by omega) (fun j hj => by
      have := hl (j + 1) (by simp; omega)
      simp only [List.getElem?_cons_succ] at this
      rw [this, show k + (j + 1) = k + 1 + j by omega]) hB (by
        simp only [List.length_cons] at h
        rw [show k + 1 + l.length = k + (l.length + 1) by omega]
        exact h)
    rw [show L.length - k = (L.length - (k + 1)) + 1 by omega]
    exact wpAny_take h0 hs hf hr (fun c a w h => hQ c a _ _ w h) hy ih

/-- Q, but False at a panic. -/
def NoPan (Q : Exit → Act → World → Prop) : Exit → Act → World → Prop
  | .panic _, _, _ => False
  | e, a, w => Q e a w
@[go_sem] theorem noPan_normal (Q : Exit → Act → World → Prop) (a : Act) (w : World) : NoPan Q .normal a w = Q .normal a w := rfl
theorem NoPan.imp : ∀ (e : Exit) (a : Act) (w : World), NoPan Q e a w → Q e a w := fun e a w h => by
  cases e <;> first | exact h | exact (h : False).elim

/-- A region that draws its order and doesn't panic: its first n operations hang on no memory, the rest has one order. -/
theorem wp_headsN {id : Nat} {a : Act} {w : World} {L : List Oper} (n : Nat) (hm : P.follows .mixedOrders = true) (hn : decide (n ≤ L.length) = true) (hs : Region.noSelect L.toArray = true)
    (hB : headsB L.toArray n 0 (Array.replicate L.toArray.size false) = true)
    (h : wpHeads P L.toArray (fun a' => wpList P L.toArray (NoPan Q) (L.drop n) a' w.drew) (L.take n) a) : (Code.region id L.toArray true).wp P Q a w := by
  have hn' : n ≤ L.length := by simpa using hn
  have e : (L.take n).length = n := by simp; omega
  refine wp_mono (Q := NoPan Q) (wp_region_any hm ?_) NoPan.imp
  have := wpAny_heads (P := P) (Q := NoPan Q) (w := w.drew) hs (fun _ _ _ _ _ h => (h : False).elim) (L.take n) 0 (Array.replicate L.toArray.size false) a (by rw [e]; omega) (fun j hj => by
    rw [e] at hj
    rw [List.getElem?_take, if_pos hj, Nat.zero_add]) (by rw [e]; exact hB) (by rw [e, Nat.zero_add]; exact h)
  rw [Nat.sub_zero] at this
  exact this

/-- A region that draws its order: its first n operations hang on no memory, the rest has one order. -/
theorem wp_heads {id : Nat} {a : Act} {w : World} {L : List Oper} (n : Nat) (hm : P.follows .mixedOrders = true) (hn : decide (n ≤ L.length) = true) (hs : Region.noSelect L.toArray = true)
    (hB : headsB L.toArray n 0 (Array.replicate L.toArray.size false) = true) (hQ : ∀ c a d v w, Q (.panic c) (Act.put a d v) w → Q (.panic c) a w)
    (h : wpHeads P L.toArray (fun a' => wpList P L.toArray Q (L.drop n) a' w.drew) (L.take n) a) : (Code.region id L.toArray true).wp P Q a w := by
  have hn' : n ≤ L.length := by simpa using hn
  have e : (L.take n).length = n := by simp; omega
  refine wp_region_any hm ?_
  have := wpAny_heads (P := P) (Q := Q) (w := w.drew) hs hQ (L.take n) 0 (Array.replicate L.toArray.size false) a (by rw [e]; omega) (fun j hj => by
    rw [e] at hj
    rw [List.getElem?_take, if_pos hj, Nat.zero_add]) (by rw [e]; exact hB) (by rw [e, Nat.zero_add]; exact h)
  rw [Nat.sub_zero] at this
  exact this

/-- The operations in the order of the text: each that is marked yields its value in every world that meets S; each other one is carried out, and S holds behind it. -/
def wpTxt (P : Program) (ops : Array Oper) (Q : Exit → Act → World → Prop) (S : World → Prop) : List Bool → List Oper → Act → World → Prop
  | _, [], a, w => Q .normal a w
  | [], _ :: _, _, _ => False
  | true :: fl, o :: l, a, w => ∃ v, YieldsIf P ops S o v a ∧ wpTxt P ops Q S fl l (a.put o.dst v) w
  | false :: fl, o :: l, a, w => if Region.wanted o (yielded ops a.tmps) = true then o.wp P a w (fun a' w' => S w' ∧ wpTxt P ops Q S fl l a' w') Q else wpTxt P ops Q S fl l (a.put o.dst undef) w

section
variable {S : World → Prop} {fl : List Bool} {o : Oper} {l : List Oper} {a : Act} {w : World}
theorem wpTxt_nil (h : Q .normal a w) : wpTxt P ops Q S [] [] a w := h
theorem wpTxt_take {v : Value} (hw : Region.wanted o (yielded ops a.tmps) = true) (hy : ∀ W, S W → (execOp a.eval o).run P W = .ok (.value v) W) (h : wpTxt P ops Q S fl l (a.put o.dst v) w) : wpTxt P ops Q S (true :: fl) (o :: l) a w :=
  ⟨v, .inl ⟨hw, hy⟩, h⟩
theorem wpTxt_drop (hw : Region.wanted o (yielded ops a.tmps) = false) (h : wpTxt P ops Q S fl l (a.put o.dst undef) w) : wpTxt P ops Q S (true :: fl) (o :: l) a w :=
  ⟨undef, .inr ⟨hw, rfl⟩, h⟩
theorem wpTxt_want (hw : Region.wanted o (yielded ops a.tmps) = true) (h : ∀ K : Act → World → Prop, (∀ a' w', S w' → wpTxt P ops Q S fl l a' w' → K a' w') → o.wp P a w K Q) : wpTxt P ops Q S (false :: fl) (o :: l) a w := by
  unfold wpTxt
  rw [if_pos hw]
  exact h _ (fun a' w' h1 h2 => ⟨h1, h2⟩)
theorem wpTxt_skip (hw : Region.wanted o (yielded ops a.tmps) = false) (h : wpTxt P ops Q S fl l (a.put o.dst undef) w) : wpTxt P ops Q S (false :: fl) (o :: l) a w := by
  unfold wpTxt
  rw [if_neg (by rw [hw]; simp)]
  exact h
end

def txtB (ops : Array Oper) : List Bool → Nat → Array Bool → Bool
  | [], _, listed => (Region.ready .any ops listed).isEmpty
  | true :: fl, k, listed => Region.free .any ops listed k && (Region.ready .any ops listed).contains k && txtB ops fl (k + 1) (listed.setIfInBounds k true)
  | false :: fl, k, listed => decide (Region.ready .any ops listed = [k]) && txtB ops fl (k + 1) (listed.setIfInBounds k true)

theorem wpAnyH_txt {S : World → Prop} {L : List Oper} (hs : Region.noSelect L.toArray = true) (hQ : ∀ c a d v w, Q (.panic c) (Act.put a d v) w → Q (.panic c) a w) :
    ∀ (fl : List Bool) (l : List Oper) (k : Nat) (listed : Array Bool) (a : Act) (w : World), fl.length = l.length → k + l.length = L.length → (∀ j, j < l.length → l[j]? = L[k + j]?) → txtB L.toArray fl k listed = true →
      S w → wpTxt P L.toArray Q S fl l a w → wpAnyH P .any L.toArray Q S l.length listed a w
  | [], [], k, listed, a, w, _, _, _, hB, _, h => ⟨by simpa [txtB] using hB, h⟩
  | [], _ :: _, _, _, _, _, hl, _, _, _, _, _ => by simp at hl
  | _ :: _, [], _, _, _, _, hl, _, _, _, _, _ => by simp at hl
  | true :: fl, o :: l, k, listed, a, w, hl, hk, hlk, hB, hS, h => by
    simp only [txtB, Bool.and_eq_true] at hB
    obtain ⟨⟨hf, hr⟩, hB⟩ := hB
    obtain ⟨v, hy, h⟩ := h
    have h0 : L.toArray[k]? = some o := by
      have := hlk 0 (by simp)
      simp only [List.getElem?_cons_zero, Nat.add_zero] at this
      simpa using this.symm
    simp only [List.length_cons] at hk hl
    have ih := wpAnyH_txt hs hQ fl l (k + 1) (listed.setIfInBounds k true) (a.put o.dst v) w (by omega) (by omega) (fun j hj => by
      have := hlk (j + 1) (by simp; omega)
      simp only [List.getElem?_cons_succ] at this
      rw [this, show k + (j + 1) = k + 1 + j by omega]) hB hS h
    exact wpAnyH_take h0 hs hf hr (fun c a w h => hQ c a _ _ w h) hy hS ih
  | false :: fl, o :: l, k, listed, a, w, hl, hk, hlk, hB, hS, h => by
    simp only [txtB, Bool.and_eq_true, decide_eq_true_eq] at hB
    obtain ⟨hr, hB⟩ := hB
    have h0 : L.toArray[k]? = some o := by
      have := hlk 0 (by simp)
      simp only [List.getElem?_cons_zero, Nat.add_zero] at this
      simpa using this.symm
    simp only [List.length_cons] at hk hl
    have ih : ∀ a' w', S w' → wpTxt P L.toArray Q S fl l a' w' → wpAnyH P .any L.toArray Q S l.length (listed.setIfInBounds k true) a' w' := fun a' w' hS' h' =>
      wpAnyH_txt hs hQ fl l (k + 1) (listed.setIfInBounds k true) a' w' (by omega) (by omega) (fun j hj => by
        have := hlk (j + 1) (by simp; omega)
        simp only [List.getElem?_cons_succ] at this
        rw [this, show k + (j + 1) = k + 1 + j by omega]) hB hS' h'
    refine wpAnyH_all (rs := [k]) hr (by simp) (fun i hi => ?_)
    simp only [List.mem_singleton] at hi
    subst hi
    unfold wpTxt at h
    unfold wpOp
    rw [h0]
    simp only
    by_cases hw : Region.wanted o (yielded L.toArray a.tmps) = true
    · rw [if_pos hw] at h ⊢
      exact .inl (Oper.wp_mono (fun a' w' h' => ⟨h'.1, ih a' w' h'.1 h'.2⟩) h)
    · rw [if_neg hw] at h ⊢
      exact ⟨hS, ih _ _ hS h⟩

/-- A region that draws its order and doesn't panic, in the order of the text. -/
theorem wp_txt {id : Nat} {a : Act} {w : World} {L : List Oper} (fl : List Bool) (S : World → Prop) (hm : P.follows .mixedOrders = true) (hs : Region.noSelect L.toArray = true)
    (hl : decide (fl.length = L.length) = true) (hB : txtB L.toArray fl 0 (Array.replicate L.toArray.size false) = true) (hS : S w.drew) (h : wpTxt P L.toArray (NoPan Q) S fl L a w.drew) : (Code.region id L.toArray true).wp P Q a w := by
  refine wp_mono (Q := NoPan Q) (wp_region_any hm (wpAny_of_held (S := S) _ _ _ _ ?_)) NoPan.imp
  exact wpAnyH_txt (Q := NoPan Q) hs (fun _ _ _ _ _ h => (h : False).elim) fl L 0 _ a _ (by simpa using hl) (by simp) (fun j hj => by rw [Nat.zero_add]) hB hS h

end
end Go.Proofs.YtdkanehjahpehaaGreatDoor
end

section
section
namespace Go.Proofs.YtdkanehjahpehaaGreatDoor
open Go

section
variable {P : Program} {ops : Array Oper} {Q : Exit → Act → World → Prop} {S : World → Prop} {J : Nat → Bool} {md : Region.Mode}

/-- Whatever order is picked; S holds behind each operation of J. -/
def wpAnyJ (P : Program) (md : Region.Mode) (ops : Array Oper) (Q : Exit → Act → World → Prop) (S : World → Prop) (J : Nat → Bool) : Nat → Array Bool → Act → World → Prop
  | 0, listed, a, w => Region.ready md ops listed = [] ∧ Q .normal a w
  | fuel + 1, listed, a, w =>
    (Region.ready md ops listed = [] → Q .normal a w) ∧
    ∀ i ∈ Region.ready md ops listed, wpOp P ops Q i (fun a' w' => (J i = true → S w → S w') ∧ wpAnyJ P md ops Q S J fuel (listed.setIfInBounds i true) a' w') a w

theorem wpAny_of_J : ∀ (fuel : Nat) (listed : Array Bool) (a : Act) (w : World), wpAnyJ P md ops Q S J fuel listed a w → wpAny P md ops Q fuel listed a w
  | 0, _, _, _, h => h
  | fuel + 1, _, _, _, h => ⟨h.1, fun i hi => wpOp_mono (fun a' w' h' => wpAny_of_J fuel _ a' w' h'.2) (h.2 i hi)⟩

theorem wpAnyJ_first {T : World → Prop} (hT : (∀ W, T W) ∨ T = S) {i : Nat} {oi : Oper} {v : Value} (hi : ops[i]? = some oi) (hsel : ∀ (j : Nat) (o : Oper) cs b, ops[j]? = some o → o.op ≠ .select cs b)
    (hQ : ∀ c a w, Q (.panic c) (a.put oi.dst v) w → Q (.panic c) a w) (D : Nat → Bool)
    (hD : ∀ k ok, ops[k]? = some ok → D k = true → k ≠ i → ∃ e ∈ ok.after, Region.binds md e = true ∧ D e.on = true) :
    ∀ (fuel : Nat) (listed : Array Bool) (a : Act) (w : World),
      (∀ j oj, ops[j]? = some oj → j ≠ i → D j = false → listed.getD j true = false → oi.apart ops oj = true ∧ ((∀ W, T W) ∨ J j = true)) →
      (∀ k, D k = true → listed.getD k false = false) →
      i ∈ Region.ready md ops listed → YieldsIf P ops T oi v a → T w →
      wpAnyJ P md ops Q S J fuel (listed.setIfInBounds i true) (a.put oi.dst v) w → wpAnyJ P md ops Q S J (fuel + 1) listed a w := by
  intro fuel
  induction fuel with
  | zero =>
    intro listed a w _ _ hr hy hS H
    refine ⟨fun h => (by rw [h] at hr; cases hr), fun j hj => ?_⟩
    by_cases hji : j = i
    · subst hji; exact hy.wpOp hi hS ⟨fun _ h => h, H⟩
    · have := ready_mono hj hji
      rw [H.1] at this
      cases this
  | succ fuel ih =>
    intro listed a w hfree hund hr hy hS H
    refine ⟨fun h => (by rw [h] at hr; cases hr), fun j hj => ?_⟩
    by_cases hji : j = i
    · subst hji; exact hy.wpOp hi hS ⟨fun _ h => h, H⟩
    · have h1 := H.2 j (ready_mono hj hji)
      obtain ⟨hjun, oj, hoj, hall⟩ := mem_ready.1 hj
      have hDj : D j = false := by
        cases hd : D j with
        | false => rfl
        | true =>
          obtain ⟨e, he, hb, hde⟩ := hD j oj hoj hd hji
          have h1 := hall e he hb
          rw [hund e.on hde] at h1
          cases h1
      have hap := hfree j oj hoj hji hDj hjun
      have h2 := wpOp_putIf hoj hap.1 (fun cs b => hsel i oi cs b hi) (fun cs b => hsel j oj cs b hoj) hQ hy h1
      have hfree' : ∀ k ok, ops[k]? = some ok → k ≠ i → D k = false → (listed.setIfInBounds j true).getD k true = false → oi.apart ops ok = true ∧ ((∀ W, T W) ∨ J k = true) := fun k ok hk hki hdk hun => by
        refine hfree k ok hk hki hdk ?_
        by_cases hjk : j = k
        · subst hjk; exact hjun
        · rw [getD_set_ne true hjk] at hun; exact hun
      have hund' : ∀ k, D k = true → (listed.setIfInBounds j true).getD k false = false := fun k hk => by
        have hjk : j ≠ k := fun e => by rw [e, hk] at hDj; cases hDj
        have := hund k hk
        simp only [Array.getD_eq_getD_getElem?] at this ⊢
        rw [Array.getElem?_setIfInBounds_ne hjk]
        exact this
      have hS' : ∀ w', (J j = true → S w → S w') → T w' := fun w' h => by
        rcases hT with hT | rfl
        · exact hT w'
        · exact hap.2.elim (fun h' => h' w') (fun h' => h h' hS)
      refine wpOp_mono (fun a' w' h3 => ⟨h3.2.1, ih (listed.setIfInBounds j true) a' w' hfree' hund' (ready_mono hr (Ne.symm hji)) h3.1 (hS' w' h3.2.1) ?_⟩) h2
      rw [Array.setIfInBounds_comm _ _ hji]
      exact h3.2.2

/-- An operation that hangs on no memory may be taken first. -/
theorem wpAnyJ_firstE {i : Nat} {oi : Oper} {v : Value} (hi : ops[i]? = some oi) (hsel : ∀ (j : Nat) (o : Oper) cs b, ops[j]? = some o → o.op ≠ .select cs b)
    (hQ : ∀ c a w, Q (.panic c) (a.put oi.dst v) w → Q (.panic c) a w) :
    ∀ (fuel : Nat) (listed : Array Bool) (a : Act) (w : World),
      (∀ j oj, ops[j]? = some oj → j ≠ i → listed.getD j true = false → (∀ e ∈ oj.after, Region.binds md e = true → e.on ≠ i) → oi.apart ops oj = true) →
      i ∈ Region.ready md ops listed → YieldsIf P ops (fun _ => True) oi v a →
      wpAnyJ P md ops Q S J fuel (listed.setIfInBounds i true) (a.put oi.dst v) w → wpAnyJ P md ops Q S J (fuel + 1) listed a w := by
  intro fuel
  induction fuel with
  | zero =>
    intro listed a w _ hr hy H
    refine ⟨fun h => (by rw [h] at hr; cases hr), fun j hj => ?_⟩
    by_cases hji : j = i
    · subst hji; exact hy.wpOp hi trivial ⟨fun _ h => h, H⟩
    · have := ready_mono hj hji
      rw [H.1] at this
      cases this
  | succ fuel ih =>
    intro listed a w hfree hr hy H
    refine ⟨fun h => (by rw [h] at hr; cases hr), fun j hj => ?_⟩
    by_cases hji : j = i
    · subst hji; exact hy.wpOp hi trivial ⟨fun _ h => h, H⟩
    · have h1 := H.2 j (ready_mono hj hji)
      obtain ⟨hjun, oj, hoj, hall⟩ := mem_ready.1 hj
      have hnot : ∀ e ∈ oj.after, Region.binds md e = true → e.on ≠ i := fun e he hb heq => by
        have h1 := hall e he hb
        have h0 := (mem_ready.1 hr).1
        rw [heq] at h1
        rcases Nat.lt_or_ge i listed.size with h' | h'
        · simp [h'] at h0 h1; rw [h0] at h1; cases h1
        · simp [Array.getElem?_eq_none h'] at h1
      have h2 := wpOp_putIf hoj (hfree j oj hoj hji hjun hnot) (fun cs b => hsel i oi cs b hi) (fun cs b => hsel j oj cs b hoj) hQ hy h1
      have hfree' : ∀ k ok, ops[k]? = some ok → k ≠ i → (listed.setIfInBounds j true).getD k true = false →
          (∀ e ∈ ok.after, Region.binds md e = true → e.on ≠ i) → oi.apart ops ok = true := fun k ok hk hki hun hno => by
        refine hfree k ok hk hki ?_ hno
        by_cases hjk : j = k
        · subst hjk; exact hjun
        · rw [getD_set_ne true hjk] at hun; exact hun
      refine wpOp_mono (fun a' w' h3 => ⟨h3.2.1, ih (listed.setIfInBounds j true) a' w' hfree' (ready_mono hr (Ne.symm hji)) h3.1 ?_⟩) h2
      rw [Array.setIfInBounds_comm _ _ hji]
      exact h3.2.2

/-- All that waits for i, i itself too: the operations are gone through once. -/
def waitsFor (md : Region.Mode) (ops : Array Oper) (i : Nat) : Nat → Array Bool → Array Bool
  | 0, D => D
  | n + 1, D => waitsFor md ops i n (D.push ((D.size == i) || (match ops[D.size]? with | some o => o.after.any (fun e => Region.binds md e && D.getD e.on false) | none => false)))
def depB (md : Region.Mode) (ops : Array Oper) (i : Nat) (D : Nat → Bool) : Bool :=
  (List.range ops.size).all fun k => !(D k) || k == i || (match ops[k]? with | some o => o.after.any (fun e => Region.binds md e && D e.on) | none => true)
theorem depB_spec {i : Nat} {D : Nat → Bool} (h : depB md ops i D = true) : ∀ k ok, ops[k]? = some ok → D k = true → k ≠ i → ∃ e ∈ ok.after, Region.binds md e = true ∧ D e.on = true := by
  intro k ok hk hd hki
  have hlt : k < ops.size := (Array.getElem?_eq_some_iff.1 hk).1
  have := List.all_eq_true.1 h k (List.mem_range.2 hlt)
  simp only [hk, hd, Bool.not_true, Bool.false_or, Bool.or_eq_true, beq_iff_eq] at this
  rcases this with h1 | h1
  · exact absurd h1 hki
  · obtain ⟨e, he, hb⟩ := Array.any_eq_true'.1 h1
    simp only [Bool.and_eq_true] at hb
    exact ⟨e, he, hb.1, hb.2⟩
def openB (D : Nat → Bool) (listed : Array Bool) (n : Nat) : Bool := (List.range n).all fun k => !(D k) || !(listed.getD k false)
theorem openB_spec {D : Nat → Bool} {listed : Array Bool} (h : openB D listed listed.size = true) : ∀ k, D k = true → listed.getD k false = false := by
  intro k hk
  rcases Nat.lt_or_ge k listed.size with h' | h'
  · have := List.all_eq_true.1 h k (List.mem_range.2 h')
    simpa [hk] using this
  · simp [Array.getElem?_eq_none h']

/-- Who might come ahead of i lets it be, and is one of J. -/
def freeJB (ops : Array Oper) (J : Nat → Bool) (D : Nat → Bool) (listed : Array Bool) (i : Nat) : Bool :=
  (List.range ops.size).all fun j => (j == i) || listed.getD j true || D j || (J j && (match ops[i]?, ops[j]? with | some oi, some oj => oi.apart ops oj | _, _ => true))
theorem freeJ_spec {D : Nat → Bool} {listed : Array Bool} {i : Nat} {oi : Oper} (hi : ops[i]? = some oi) (h : freeJB ops J D listed i = true) : ∀ j oj, ops[j]? = some oj → j ≠ i → D j = false → listed.getD j true = false → oi.apart ops oj = true ∧ J j = true := by
  intro j oj hj hji hd hun
  have hlt : j < ops.size := (Array.getElem?_eq_some_iff.1 hj).1
  have := List.all_eq_true.1 h j (List.mem_range.2 hlt)
  simp only [hj, hi, hd, hun, Bool.or_false, Bool.or_eq_true, beq_iff_eq, Bool.and_eq_true] at this
  rcases this with h1 | h1
  · exact absurd h1 hji
  · exact ⟨h1.2, h1.1⟩

/-- The operations in the order of the text: 3: it yields its value in every world; 0: it yields its value in every world that meets S; 1: it is carried out, and S holds behind it; 2: it is carried out. -/
def wpTxJ (P : Program) (ops : Array Oper) (Q : Exit → Act → World → Prop) (S : World → Prop) : List Nat → List Oper → Act → World → Prop
  | _, [], a, w => Q .normal a w
  | [], _ :: _, _, _ => False
  | 0 :: fl, o :: l, a, w => ∃ v, YieldsIf P ops S o v a ∧ wpTxJ P ops Q S fl l (a.put o.dst v) w
  | 1 :: fl, o :: l, a, w => if Region.wanted o (yielded ops a.tmps) = true then o.wp P a w (fun a' w' => S w' ∧ wpTxJ P ops Q S fl l a' w') Q else S w ∧ wpTxJ P ops Q S fl l (a.put o.dst undef) w
  | 2 :: fl, o :: l, a, w => if Region.wanted o (yielded ops a.tmps) = true then o.wp P a w (fun a' w' => wpTxJ P ops Q S fl l a' w') Q else wpTxJ P ops Q S fl l (a.put o.dst undef) w
  | _ :: fl, o :: l, a, w => ∃ v, YieldsIf P ops (fun _ => True) o v a ∧ wpTxJ P ops Q S fl l (a.put o.dst v) w

section
variable {fl : List Nat} {o : Oper} {l : List Oper} {a : Act} {w : World}
theorem wpTxJ_one : wpTxJ P ops Q S (1 :: fl) (o :: l) a w = (if Region.wanted o (yielded ops a.tmps) = true then o.wp P a w (fun a' w' => S w' ∧ wpTxJ P ops Q S fl l a' w') Q else S w ∧ wpTxJ P ops Q S fl l (a.put o.dst undef) w) := rfl
theorem wpTxJ_two : wpTxJ P ops Q S (2 :: fl) (o :: l) a w = (if Region.wanted o (yielded ops a.tmps) = true then o.wp P a w (fun a' w' => wpTxJ P ops Q S fl l a' w') Q else wpTxJ P ops Q S fl l (a.put o.dst undef) w) := rfl
theorem wpTxJ_ev {v : Value} (hw : Region.wanted o (yielded ops a.tmps) = true) (hy : ∀ W, (execOp a.eval o).run P W = .ok (.value v) W) (h : wpTxJ P ops Q S fl l (a.put o.dst v) w) : wpTxJ P ops Q S (3 :: fl) (o :: l) a w :=
  ⟨v, .inl ⟨hw, fun W _ => hy W⟩, h⟩
theorem wpTxJ_evN {v : Value} {a' : Act} (hw : Region.wanted o (yielded ops a.tmps) = true) (hy : ∀ W, (execOp a.eval o).run P W = .ok (.value v) W) (ha : a.put o.dst v = a') (h : wpTxJ P ops Q S fl l a' w) : wpTxJ P ops Q S (3 :: fl) (o :: l) a w :=
  wpTxJ_ev hw hy (ha ▸ h)
theorem wpTxJ_evd (hw : Region.wanted o (yielded ops a.tmps) = false) (h : wpTxJ P ops Q S fl l (a.put o.dst undef) w) : wpTxJ P ops Q S (3 :: fl) (o :: l) a w :=
  ⟨undef, .inr ⟨hw, rfl⟩, h⟩
theorem wpTxJ_nil (h : Q .normal a w) : wpTxJ P ops Q S [] [] a w := h
theorem wpTxJ_take {v : Value} (hw : Region.wanted o (yielded ops a.tmps) = true) (hy : ∀ W, S W → (execOp a.eval o).run P W = .ok (.value v) W) (h : wpTxJ P ops Q S fl l (a.put o.dst v) w) : wpTxJ P ops Q S (0 :: fl) (o :: l) a w :=
  ⟨v, .inl ⟨hw, hy⟩, h⟩
theorem wpTxJ_takeN {v : Value} {a' : Act} (hw : Region.wanted o (yielded ops a.tmps) = true) (hy : ∀ W, S W → (execOp a.eval o).run P W = .ok (.value v) W) (ha : a.put o.dst v = a') (h : wpTxJ P ops Q S fl l a' w) : wpTxJ P ops Q S (0 :: fl) (o :: l) a w :=
  wpTxJ_take hw hy (ha ▸ h)
theorem wpTxJ_drop (hw : Region.wanted o (yielded ops a.tmps) = false) (h : wpTxJ P ops Q S fl l (a.put o.dst undef) w) : wpTxJ P ops Q S (0 :: fl) (o :: l) a w :=
  ⟨undef, .inr ⟨hw, rfl⟩, h⟩
theorem wpTxJ_want (hw : Region.wanted o (yielded ops a.tmps) = true) (h : ∀ K : Act → World → Prop, (∀ a' w', S w' → wpTxJ P ops Q S fl l a' w' → K a' w') → o.wp P a w K Q) : wpTxJ P ops Q S (1 :: fl) (o :: l) a w := by
  rw [wpTxJ_one, if_pos hw]
  exact h _ (fun a' w' h1 h2 => ⟨h1, h2⟩)
theorem wpTxJ_last (hw : Region.wanted o (yielded ops a.tmps) = true) (h : ∀ K : Act → World → Prop, (∀ a' w', wpTxJ P ops Q S fl l a' w' → K a' w') → o.wp P a w K Q) : wpTxJ P ops Q S (2 :: fl) (o :: l) a w := by
  rw [wpTxJ_two, if_pos hw]
  exact h _ (fun a' w' h2 => h2)
end

/-- What is to be checked of a region: fl the marks from k on; J: marked 0 or 1; 'held': S is at hand. -/
def txJB (ops : Array Oper) (J : Nat → Bool) : List Nat → Nat → Bool → Array Bool → Bool
  | [], _, _, listed => (Region.ready .any ops listed).isEmpty
  | 0 :: fl, k, held, listed =>
    held && depB .any ops k (fun j => (waitsFor .any ops k ops.size #[]).getD j false) && openB (fun j => (waitsFor .any ops k ops.size #[]).getD j false) listed listed.size && (Region.ready .any ops listed).contains k &&
      freeJB ops J (fun j => (waitsFor .any ops k ops.size #[]).getD j false) listed k && txJB ops J fl (k + 1) held (listed.setIfInBounds k true)
  | 1 :: fl, k, held, listed => decide (Region.ready .any ops listed = [k]) && txJB ops J fl (k + 1) held (listed.setIfInBounds k true)
  | 2 :: fl, k, _, listed => !(J k) && decide (Region.ready .any ops listed = [k]) && txJB ops J fl (k + 1) false (listed.setIfInBounds k true)
  | _ :: fl, k, held, listed => Region.free .any ops listed k && (Region.ready .any ops listed).contains k && txJB ops J fl (k + 1) held (listed.setIfInBounds k true)

theorem wpAnyJ_txt {L : List Oper} (hs : Region.noSelect L.toArray = true) (hQ : ∀ c a d v w, Q (.panic c) (Act.put a d v) w → Q (.panic c) a w) :
    ∀ (fl : List Nat) (l : List Oper) (k : Nat) (held : Bool) (listed : Array Bool) (a : Act) (w : World), fl.length = l.length → k + l.length = L.length → (∀ j, j < l.length → l[j]? = L[k + j]?) → txJB L.toArray J fl k held listed = true →
      (held = true → S w) → wpTxJ P L.toArray Q S fl l a w → wpAnyJ P .any L.toArray Q S J l.length listed a w
  | [], [], k, held, listed, a, w, _, _, _, hB, _, h => ⟨by simpa [txJB] using hB, h⟩
  | [], _ :: _, _, _, _, _, _, hl, _, _, _, _, _ => by simp at hl
  | _ :: _, [], _, _, _, _, _, hl, _, _, _, _, _ => by simp at hl
  | f :: fl, o :: l, k, held, listed, a, w, hl, hk, hlk, hB, hS, h => by
    have h0 : L.toArray[k]? = some o := by
      have := hlk 0 (by simp)
      simp only [List.getElem?_cons_zero, Nat.add_zero] at this
      simpa using this.symm
    simp only [List.length_cons] at hk hl
    have hlk' : ∀ j, j < l.length → l[j]? = L[k + 1 + j]? := fun j hj => by
      have := hlk (j + 1) (by simp; omega)
      simp only [List.getElem?_cons_succ] at this
      rw [this, show k + (j + 1) = k + 1 + j by omega]
    match f, hB, h with
    | 0, hB, h =>
      simp only [txJB, Bool.and_eq_true] at hB
      obtain ⟨⟨⟨⟨⟨hh, hdp⟩, hop⟩, hr⟩, hj⟩, hB⟩ := hB
      obtain ⟨v, hy, h⟩ := h
      have ih := wpAnyJ_txt hs hQ fl l (k + 1) held (listed.setIfInBounds k true) (a.put o.dst v) w (by omega) (by omega) hlk' hB hS h
      exact wpAnyJ_first (T := S) (.inr rfl) h0 (Region.noSelect_spec hs) (fun c a w h => hQ c a _ _ w h) _ (depB_spec hdp) _ _ _ _ (fun j oj h1 h2 h3 h4 => ⟨(freeJ_spec h0 hj j oj h1 h2 h3 h4).1, .inr (freeJ_spec h0 hj j oj h1 h2 h3 h4).2⟩) (openB_spec hop) (by simpa using hr) hy (hS hh) ih
    | 1, hB, h =>
      simp only [txJB, Bool.and_eq_true, decide_eq_true_eq] at hB
      obtain ⟨hr, hB⟩ := hB
      have ih : ∀ a' w', (held = true → S w') → wpTxJ P L.toArray Q S fl l a' w' → wpAnyJ P .any L.toArray Q S J l.length (listed.setIfInBounds k true) a' w' := fun a' w' hS' h' =>
        wpAnyJ_txt hs hQ fl l (k + 1) held (listed.setIfInBounds k true) a' w' (by omega) (by omega) hlk' hB hS' h'
      refine ⟨fun e => (by rw [hr] at e; cases e), fun i hi => ?_⟩
      rw [hr] at hi
      simp only [List.mem_singleton] at hi
      subst hi
      rw [wpTxJ_one] at h
      unfold wpOp
      rw [h0]
      simp only
      by_cases hw : Region.wanted o (yielded L.toArray a.tmps) = true
      · rw [if_pos hw] at h ⊢
        exact .inl (Oper.wp_mono (fun a' w' h' => ⟨fun _ _ => h'.1, ih a' w' (fun _ => h'.1) h'.2⟩) h)
      · rw [if_neg hw] at h ⊢
        exact ⟨fun _ _ => h.1, ih _ _ (fun _ => h.1) h.2⟩
    | 2, hB, h =>
      simp only [txJB, Bool.and_eq_true, decide_eq_true_eq, Bool.not_eq_true'] at hB
      obtain ⟨⟨hj, hr⟩, hB⟩ := hB
      have ih : ∀ a' w', wpTxJ P L.toArray Q S fl l a' w' → wpAnyJ P .any L.toArray Q S J l.length (listed.setIfInBounds k true) a' w' := fun a' w' h' =>
        wpAnyJ_txt hs hQ fl l (k + 1) false (listed.setIfInBounds k true) a' w' (by omega) (by omega) hlk' hB (fun e => by cases e) h'
      refine ⟨fun e => (by rw [hr] at e; cases e), fun i hi => ?_⟩
      rw [hr] at hi
      simp only [List.mem_singleton] at hi
      subst hi
      rw [wpTxJ_two] at h
      unfold wpOp
      rw [h0]
      simp only
      by_cases hw : Region.wanted o (yielded L.toArray a.tmps) = true
      · rw [if_pos hw] at h ⊢
        exact .inl (Oper.wp_mono (fun a' w' h' => ⟨fun e => (by rw [hj] at e; cases e), ih a' w' h'⟩) h)
      · rw [if_neg hw] at h ⊢
        exact ⟨fun e => (by rw [hj] at e; cases e), ih _ _ h⟩
    | n + 3, hB, h =>
      simp only [txJB, Bool.and_eq_true] at hB
      obtain ⟨⟨hf, hr⟩, hB⟩ := hB
      obtain ⟨v, hy, h⟩ := h
      have ih := wpAnyJ_txt hs hQ fl l (k + 1) held (listed.setIfInBounds k true) (a.put o.dst v) w (by omega) (by omega) hlk' hB hS h
      exact wpAnyJ_firstE h0 (Region.noSelect_spec hs) (fun c a w h => hQ c a _ _ w h) _ _ _ _ (Region.free_spec h0 hf) (by simpa using hr) hy ih

/-- A region that draws its order and doesn't panic, in the order of the text. -/
theorem wp_txJ {id : Nat} {a : Act} {w : World} {L : List Oper} (fl : List Nat) (S : World → Prop) (hm : P.follows .mixedOrders = true) (hs : Region.noSelect L.toArray = true)
    (hl : decide (fl.length = L.length) = true) (hB : txJB L.toArray (fun i => fl.getD i 0 != 2) fl 0 true (Array.replicate L.toArray.size false) = true) (hS : S w.drew) (h : wpTxJ P L.toArray (NoPan Q) S fl L a w.drew) : (Code.region id L.toArray true).wp P Q a w := by
  refine wp_mono (Q := NoPan Q) (wp_region_any hm (wpAny_of_J (S := S) (J := fun i => fl.getD i 0 != 2) _ _ _ _ ?_)) NoPan.imp
  exact wpAnyJ_txt (Q := NoPan Q) hs (fun _ _ _ _ _ h => (h : False).elim) fl L 0 true _ a _ (by simpa using hl) (by simp) (fun j hj => by rw [Nat.zero_add]) hB (fun _ => hS) h

end
end Go.Proofs.YtdkanehjahpehaaGreatDoor
end

section
namespace Go.Proofs.YtdkanehjahpehaaGreatDoor
open Go

section
variable {P : Program} {ops : Array Oper} {Q : Exit → Act → World → Prop} {S : World → Prop} {J : Nat → Bool} {md : Region.Mode}

def wpTxO (P : Program) (ops : Array Oper) (Q : Exit → Act → World → Prop) (S : World → Prop) : List (Nat × Nat) → Act → World → Prop
  | [], a, w => Q .normal a w
  | (k, 0) :: fl, a, w => ∃ o, ops[k]? = some o ∧ ∃ v, YieldsIf P ops S o v a ∧ wpTxO P ops Q S fl (a.put o.dst v) w
  | (k, 1) :: fl, a, w => ∃ o, ops[k]? = some o ∧ if Region.wanted o (yielded ops a.tmps) = true then o.wp P a w (fun a' w' => S w' ∧ wpTxO P ops Q S fl a' w') Q else S w ∧ wpTxO P ops Q S fl (a.put o.dst undef) w
  | (k, 2) :: fl, a, w => ∃ o, ops[k]? = some o ∧ if Region.wanted o (yielded ops a.tmps) = true then o.wp P a w (fun a' w' => wpTxO P ops Q S fl a' w') Q else wpTxO P ops Q S fl (a.put o.dst undef) w
  | (k, _) :: fl, a, w => ∃ o, ops[k]? = some o ∧ ∃ v, YieldsIf P ops (fun _ => True) o v a ∧ wpTxO P ops Q S fl (a.put o.dst v) w

section
variable {fl : List (Nat × Nat)} {k : Nat} {o : Oper} {a : Act} {w : World}
theorem wpTxO_evN {v : Value} {a' : Act} (ho : ops[k]? = some o) (hw : Region.wanted o (yielded ops a.tmps) = true) (hy : ∀ W, (execOp a.eval o).run P W = .ok (.value v) W) (ha : a.put o.dst v = a') (h : wpTxO P ops Q S fl a' w) : wpTxO P ops Q S ((k, 3) :: fl) a w :=
  ⟨o, ho, v, .inl ⟨hw, fun W _ => hy W⟩, ha ▸ h⟩
theorem wpTxO_takeN {v : Value} {a' : Act} (ho : ops[k]? = some o) (hw : Region.wanted o (yielded ops a.tmps) = true) (hy : ∀ W, S W → (execOp a.eval o).run P W = .ok (.value v) W) (ha : a.put o.dst v = a') (h : wpTxO P ops Q S fl a' w) : wpTxO P ops Q S ((k, 0) :: fl) a w :=
  ⟨o, ho, v, .inl ⟨hw, hy⟩, ha ▸ h⟩
theorem wpTxO_nil (h : Q .normal a w) : wpTxO P ops Q S [] a w := h
theorem wpTxO_want (ho : ops[k]? = some o) (hw : Region.wanted o (yielded ops a.tmps) = true) (h : ∀ K : Act → World → Prop, (∀ a' w', S w' → wpTxO P ops Q S fl a' w' → K a' w') → o.wp P a w K Q) : wpTxO P ops Q S ((k, 1) :: fl) a w := by
  refine ⟨o, ho, ?_⟩
  rw [if_pos hw]
  exact h _ (fun a' w' h1 h2 => ⟨h1, h2⟩)
theorem wpTxO_last (ho : ops[k]? = some o) (hw : Region.wanted o (yielded ops a.tmps) = true) (h : ∀ K : Act → World → Prop, (∀ a' w', wpTxO P ops Q S fl a' w' → K a' w') → o.wp P a w K Q) : wpTxO P ops Q S ((k, 2) :: fl) a w := by
  refine ⟨o, ho, ?_⟩
  rw [if_pos hw]
  exact h _ (fun a' w' h2 => h2)
end

/-- What is to be checked of a region. -/
def txOB (ops : Array Oper) (J : Nat → Bool) : List (Nat × Nat) → Bool → Array Bool → Bool
  | [], _, listed => (Region.ready .any ops listed).isEmpty
  | (k, 0) :: fl, held, listed =>
    held && depB .any ops k (fun j => (waitsFor .any ops k ops.size #[]).getD j false) && openB (fun j => (waitsFor .any ops k ops.size #[]).getD j false) listed listed.size && (Region.ready .any ops listed).contains k &&
      freeJB ops J (fun j => (waitsFor .any ops k ops.size #[]).getD j false) listed k && txOB ops J fl held (listed.setIfInBounds k true)
  | (k, 1) :: fl, held, listed => decide (Region.ready .any ops listed = [k]) && txOB ops J fl held (listed.setIfInBounds k true)
  | (k, 2) :: fl, _, listed => !(J k) && decide (Region.ready .any ops listed = [k]) && txOB ops J fl false (listed.setIfInBounds k true)
  | (k, _) :: fl, held, listed => Region.free .any ops listed k && (Region.ready .any ops listed).contains k && txOB ops J fl held (listed.setIfInBounds k true)

theorem wpAnyJ_ord (hs : Region.noSelect ops = true) (hQ : ∀ c a d v w, Q (.panic c) (Act.put a d v) w → Q (.panic c) a w) :
    ∀ (fl : List (Nat × Nat)) (held : Bool) (listed : Array Bool) (a : Act) (w : World), txOB ops J fl held listed = true →
      (held = true → S w) → wpTxO P ops Q S fl a w → wpAnyJ P .any ops Q S J fl.length listed a w
  | [], held, listed, a, w, hB, _, h => ⟨by simpa [txOB] using hB, h⟩
  | (k, f) :: fl, held, listed, a, w, hB, hS, h => by
    match f, hB, h with
    | 0, hB, h =>
      simp only [txOB, Bool.and_eq_true] at hB
      obtain ⟨⟨⟨⟨⟨hh, hdp⟩, hop⟩, hr⟩, hj⟩, hB⟩ := hB
      obtain ⟨o, h0, v, hy, h⟩ := h
      have ih := wpAnyJ_ord hs hQ fl held (listed.setIfInBounds k true) (a.put o.dst v) w hB hS h
      exact wpAnyJ_first (T := S) (.inr rfl) h0 (Region.noSelect_spec hs) (fun c a w h => hQ c a _ _ w h) _ (depB_spec hdp) _ _ _ _ (fun j oj h1 h2 h3 h4 => ⟨(freeJ_spec h0 hj j oj h1 h2 h3 h4).1, .inr (freeJ_spec h0 hj j oj h1 h2 h3 h4).2⟩) (openB_spec hop) (by simpa using hr) hy (hS hh) ih
    | 1, hB, h =>
      simp only [txOB, Bool.and_eq_true, decide_eq_true_eq] at hB
      obtain ⟨hr, hB⟩ := hB
      obtain ⟨o, h0, hz⟩ := h
      have ih : ∀ a' w', (held = true → S w') → wpTxO P ops Q S fl a' w' → wpAnyJ P .any ops Q S J fl.length (listed.setIfInBounds k true) a' w' := fun a' w' hS' h' =>
        wpAnyJ_ord hs hQ fl held (listed.setIfInBounds k true) a' w' hB hS' h'
      refine ⟨fun e => (by rw [hr] at e; cases e), fun i hi => ?_⟩
      rw [hr] at hi
      simp only [List.mem_singleton] at hi
      subst hi
      unfold wpOp
      rw [h0]
      simp only
      by_cases hw : Region.wanted o (yielded ops a.tmps) = true
      · rw [if_pos hw] at hz ⊢
        exact .inl (Oper.wp_mono (fun a' w' h' => ⟨fun _ _ => h'.1, ih a' w' (fun _ => h'.1) h'.2⟩) hz)
      · rw [if_neg hw] at hz ⊢
        exact ⟨fun _ _ => hz.1, ih _ _ (fun _ => hz.1) hz.2⟩
    | 2, hB, h =>
      simp only [txOB, Bool.and_eq_true, decide_eq_true_eq, Bool.not_eq_true'] at hB
      obtain ⟨⟨hj, hr⟩, hB⟩ := hB
      obtain ⟨o, h0, hz⟩ := h
      have ih : ∀ a' w', wpTxO P ops Q S fl a' w' → wpAnyJ P .any ops Q S J fl.length (listed.setIfInBounds k true) a' w' := fun a' w' h' =>
        wpAnyJ_ord hs hQ fl false (listed.setIfInBounds k true) a' w' hB (fun e => by cases e) h'
      refine ⟨fun e => (by rw [hr] at e; cases e), fun i hi => ?_⟩
      rw [hr] at hi
      simp only [List.mem_singleton] at hi
      subst hi
      unfold wpOp
      rw [h0]
      simp only
      by_cases hw : Region.wanted o (yielded ops a.tmps) = true
      · rw [if_pos hw] at hz ⊢
        exact .inl (Oper.wp_mono (fun a' w' h' => ⟨fun e => (by rw [hj] at e; cases e), ih a' w' h'⟩) hz)
      · rw [if_neg hw] at hz ⊢
        exact ⟨fun e => (by rw [hj] at e; cases e), ih _ _ hz⟩
    | n + 3, hB, h =>
      simp only [txOB, Bool.and_eq_true] at hB
      obtain ⟨⟨hf, hr⟩, hB⟩ := hB
      obtain ⟨o, h0, v, hy, h⟩ := h
      have ih := wpAnyJ_ord hs hQ fl held (listed.setIfInBounds k true) (a.put o.dst v) w hB hS h
      exact wpAnyJ_firstE h0 (Region.noSelect_spec hs) (fun c a w h => hQ c a _ _ w h) _ _ _ _ (Region.free_spec h0 hf) (by simpa using hr) hy ih

/-- The marks of an order, by the operations' numbers. -/
def markOf (fl : List (Nat × Nat)) (i : Nat) : Bool := fl.any fun e => e.1 == i && e.2 == 2

/-- A region that draws its order and doesn't panic, in an order of one's own. -/
theorem wp_txO {id : Nat} {a : Act} {w : World} {L : List Oper} (fl : List (Nat × Nat)) (S : World → Prop) (hm : P.follows .mixedOrders = true) (hs : Region.noSelect L.toArray = true)
    (hl : decide (fl.length = L.length) = true) (hB : txOB L.toArray (fun i => !(markOf fl i)) fl true (Array.replicate L.toArray.size false) = true) (hS : S w.drew) (h : wpTxO P L.toArray (NoPan Q) S fl a w.drew) : (Code.region id L.toArray true).wp P Q a w := by
  refine wp_mono (Q := NoPan Q) (wp_region_any hm (wpAny_of_J (S := S) (J := fun i => !(markOf fl i)) _ _ _ _ ?_)) NoPan.imp
  have h1 := wpAnyJ_ord (Q := NoPan Q) (J := fun i => !(markOf fl i)) hs (fun _ _ _ _ _ h => (h : False).elim) fl true _ a _ hB (fun _ => hS) h
  have h2 : fl.length = L.toArray.size := by simpa using hl
  rw [h2] at h1
  exact h1

end
end Go.Proofs.YtdkanehjahpehaaGreatDoor
end
end

section
section
namespace Go.Proofs.YtdkanehjahpehaaGreatDoor
open Go

section
variable {P : Program} {ops : Array Oper} {Q : Exit → Act → World → Prop} {S : World → Prop} {J : Nat → Bool} {md : Region.Mode}

def wpTxC (P : Program) (ops : Array Oper) (Q : Exit → Act → World → Prop) (S : World → Prop) (E : Act → World → Prop) : List (Nat × Nat) → Act → World → Prop
  | [], a, w => E a w
  | (k, 0) :: fl, a, w => ∃ o, ops[k]? = some o ∧ ∃ v, YieldsIf P ops S o v a ∧ wpTxC P ops Q S E fl (a.put o.dst v) w
  | (k, 1) :: fl, a, w => ∃ o, ops[k]? = some o ∧ if Region.wanted o (yielded ops a.tmps) = true then o.wp P a w (fun a' w' => S w' ∧ wpTxC P ops Q S E fl a' w') Q else S w ∧ wpTxC P ops Q S E fl (a.put o.dst undef) w
  | (k, 2) :: fl, a, w => ∃ o, ops[k]? = some o ∧ if Region.wanted o (yielded ops a.tmps) = true then o.wp P a w (fun a' w' => wpTxC P ops Q S E fl a' w') Q else wpTxC P ops Q S E fl (a.put o.dst undef) w
  | (k, _) :: fl, a, w => ∃ o, ops[k]? = some o ∧ ∃ v, YieldsIf P ops (fun _ => True) o v a ∧ wpTxC P ops Q S E fl (a.put o.dst v) w

section
variable {fl : List (Nat × Nat)} {E : Act → World → Prop} {k : Nat} {o : Oper} {a : Act} {w : World}
theorem wpTxC_evN {v : Value} {a' : Act} (ho : ops[k]? = some o) (hw : Region.wanted o (yielded ops a.tmps) = true) (hy : ∀ W, (execOp a.eval o).run P W = .ok (.value v) W) (ha : a.put o.dst v = a') (h : wpTxC P ops Q S E fl a' w) : wpTxC P ops Q S E ((k, 3) :: fl) a w :=
  ⟨o, ho, v, .inl ⟨hw, fun W _ => hy W⟩, ha ▸ h⟩
theorem wpTxC_takeN {v : Value} {a' : Act} (ho : ops[k]? = some o) (hw : Region.wanted o (yielded ops a.tmps) = true) (hy : ∀ W, S W → (execOp a.eval o).run P W = .ok (.value v) W) (ha : a.put o.dst v = a') (h : wpTxC P ops Q S E fl a' w) : wpTxC P ops Q S E ((k, 0) :: fl) a w :=
  ⟨o, ho, v, .inl ⟨hw, hy⟩, ha ▸ h⟩
theorem wpTxC_nil (h : E a w) : wpTxC P ops Q S E [] a w := h
theorem wpTxC_want (ho : ops[k]? = some o) (hw : Region.wanted o (yielded ops a.tmps) = true) (h : ∀ K : Act → World → Prop, (∀ a' w', S w' → wpTxC P ops Q S E fl a' w' → K a' w') → o.wp P a w K Q) : wpTxC P ops Q S E ((k, 1) :: fl) a w := by
  refine ⟨o, ho, ?_⟩
  rw [if_pos hw]
  exact h _ (fun a' w' h1 h2 => ⟨h1, h2⟩)
theorem wpTxC_last (ho : ops[k]? = some o) (hw : Region.wanted o (yielded ops a.tmps) = true) (h : ∀ K : Act → World → Prop, (∀ a' w', wpTxC P ops Q S E fl a' w' → K a' w') → o.wp P a w K Q) : wpTxC P ops Q S E ((k, 2) :: fl) a w := by
  refine ⟨o, ho, ?_⟩
  rw [if_pos hw]
  exact h _ (fun a' w' h2 => h2)
end

/-- What is to be checked of a region. -/
def txCB (ops : Array Oper) (J : Nat → Bool) (Lf : Array Bool) : List (Nat × Nat) → Bool → Array Bool → Bool
  | [], _, listed => decide (listed = Lf)
  | (k, 0) :: fl, held, listed =>
    held && depB .any ops k (fun j => (waitsFor .any ops k ops.size #[]).getD j false) && openB (fun j => (waitsFor .any ops k ops.size #[]).getD j false) listed listed.size && (Region.ready .any ops listed).contains k &&
      freeJB ops J (fun j => (waitsFor .any ops k ops.size #[]).getD j false) listed k && txCB ops J Lf fl held (listed.setIfInBounds k true)
  | (k, 1) :: fl, held, listed => decide (Region.ready .any ops listed = [k]) && txCB ops J Lf fl held (listed.setIfInBounds k true)
  | (k, 2) :: fl, _, listed => !(J k) && decide (Region.ready .any ops listed = [k]) && txCB ops J Lf fl false (listed.setIfInBounds k true)
  | (k, _) :: fl, held, listed => Region.free .any ops listed k && (Region.ready .any ops listed).contains k && txCB ops J Lf fl held (listed.setIfInBounds k true)

theorem wpAnyJ_ordC {E : Act → World → Prop} {Lf : Array Bool} {n : Nat} (hs : Region.noSelect ops = true) (hQ : ∀ c a d v w, Q (.panic c) (Act.put a d v) w → Q (.panic c) a w) (hE : ∀ a w, E a w → wpAnyJ P .any ops Q S J n Lf a w) :
    ∀ (fl : List (Nat × Nat)) (held : Bool) (listed : Array Bool) (a : Act) (w : World), txCB ops J Lf fl held listed = true →
      (held = true → S w) → wpTxC P ops Q S E fl a w → wpAnyJ P .any ops Q S J (fl.length + n) listed a w
  | [], held, listed, a, w, hB, _, h => by
    have hB' : listed = Lf := by simpa [txCB] using hB
    subst hB'
    simpa using hE _ _ h
  | (k, f) :: fl, held, listed, a, w, hB, hS, h => by
    rw [show ((k, f) :: fl).length + n = fl.length + n + 1 by simp; omega]
    match f, hB, h with
    | 0, hB, h =>
      simp only [txCB, Bool.and_eq_true] at hB
      obtain ⟨⟨⟨⟨⟨hh, hdp⟩, hop⟩, hr⟩, hj⟩, hB⟩ := hB
      obtain ⟨o, h0, v, hy, h⟩ := h
      have ih := wpAnyJ_ordC hs hQ hE fl held (listed.setIfInBounds k true) (a.put o.dst v) w hB hS h
      exact wpAnyJ_first (T := S) (.inr rfl) h0 (Region.noSelect_spec hs) (fun c a w h => hQ c a _ _ w h) _ (depB_spec hdp) _ _ _ _ (fun j oj h1 h2 h3 h4 => ⟨(freeJ_spec h0 hj j oj h1 h2 h3 h4).1, .inr (freeJ_spec h0 hj j oj h1 h2 h3 h4).2⟩) (openB_spec hop) (by simpa using hr) hy (hS hh) ih
    | 1, hB, h =>
      simp only [txCB, Bool.and_eq_true, decide_eq_true_eq] at hB
      obtain ⟨hr, hB⟩ := hB
      obtain ⟨o, h0, hz⟩ := h
      have ih : ∀ a' w', (held = true → S w') → wpTxC P ops Q S E fl a' w' → wpAnyJ P .any ops Q S J (fl.length + n) (listed.setIfInBounds k true) a' w' := fun a' w' hS' h' =>
        wpAnyJ_ordC hs hQ hE fl held (listed.setIfInBounds k true) a' w' hB hS' h'
      refine ⟨fun e => (by rw [hr] at e; cases e), fun i hi => ?_⟩
      rw [hr] at hi
      simp only [List.mem_singleton] at hi
      subst hi
      unfold wpOp
      rw [h0]
      simp only
      by_cases hw : Region.wanted o (yielded ops a.tmps) = true
      · rw [if_pos hw] at hz ⊢
        exact .inl (Oper.wp_mono (fun a' w' h' => ⟨fun _ _ => h'.1, ih a' w' (fun _ => h'.1) h'.2⟩) hz)
      · rw [if_neg hw] at hz ⊢
        exact ⟨fun _ _ => hz.1, ih _ _ (fun _ => hz.1) hz.2⟩
    | 2, hB, h =>
      simp only [txCB, Bool.and_eq_true, decide_eq_true_eq, Bool.not_eq_true'] at hB
      obtain ⟨⟨hj, hr⟩, hB⟩ := hB
      obtain ⟨o, h0, hz⟩ := h
      have ih : ∀ a' w', wpTxC P ops Q S E fl a' w' → wpAnyJ P .any ops Q S J (fl.length + n) (listed.setIfInBounds k true) a' w' := fun a' w' h' =>
        wpAnyJ_ordC hs hQ hE fl false (listed.setIfInBounds k true) a' w' hB (fun e => by cases e) h'
      refine ⟨fun e => (by rw [hr] at e; cases e), fun i hi => ?_⟩
      rw [hr] at hi
      simp only [List.mem_singleton] at hi
      subst hi
      unfold wpOp
      rw [h0]
      simp only
      by_cases hw : Region.wanted o (yielded ops a.tmps) = true
      · rw [if_pos hw] at hz ⊢
        exact .inl (Oper.wp_mono (fun a' w' h' => ⟨fun e => (by rw [hj] at e; cases e), ih a' w' h'⟩) hz)
      · rw [if_neg hw] at hz ⊢
        exact ⟨fun e => (by rw [hj] at e; cases e), ih _ _ hz⟩
    | n + 3, hB, h =>
      simp only [txCB, Bool.and_eq_true] at hB
      obtain ⟨⟨hf, hr⟩, hB⟩ := hB
      obtain ⟨o, h0, v, hy, h⟩ := h
      have ih := wpAnyJ_ordC hs hQ hE fl held (listed.setIfInBounds k true) (a.put o.dst v) w hB hS h
      exact wpAnyJ_firstE h0 (Region.noSelect_spec hs) (fun c a w h => hQ c a _ _ w h) _ _ _ _ (Region.free_spec h0 hf) (by simpa using hr) hy ih

/-- A region that draws its order and doesn't panic, in an order of one's own for a while. -/
theorem wp_txC {id : Nat} {a : Act} {w : World} {L : List Oper} (J : Nat → Bool) (fl : List (Nat × Nat)) (n : Nat) (Lf : Array Bool) (S : World → Prop) (hm : P.follows .mixedOrders = true) (hs : Region.noSelect L.toArray = true)
    (hl : decide (fl.length + n = L.length) = true) (hB : txCB L.toArray J Lf fl true (Array.replicate L.toArray.size false) = true) (hS : S w.drew)
    (h : wpTxC P L.toArray (NoPan Q) S (fun a w => wpAnyJ P .any L.toArray (NoPan Q) S J n Lf a w) fl a w.drew) : (Code.region id L.toArray true).wp P Q a w := by
  refine wp_mono (Q := NoPan Q) (wp_region_any hm (wpAny_of_J (S := S) (J := J) _ _ _ _ ?_)) NoPan.imp
  have h1 := wpAnyJ_ordC (Q := NoPan Q) (J := J) (n := n) hs (fun _ _ _ _ _ h => (h : False).elim) (fun a w h => h) fl true _ a _ hB (fun _ => hS) h
  have h2 : fl.length + n = L.toArray.size := by simpa using hl
  rw [h2] at h1
  exact h1
/-- Two may come up. -/
theorem wpAnyJ_two {i j n : Nat} {listed : Array Bool} {a : Act} {w : World} (hr : Region.ready .any ops listed = [i, j])
    (hi : wpOp P ops Q i (fun a' w' => (J i = true → S w → S w') ∧ wpAnyJ P .any ops Q S J n (listed.setIfInBounds i true) a' w') a w)
    (hj : wpOp P ops Q j (fun a' w' => (J j = true → S w → S w') ∧ wpAnyJ P .any ops Q S J n (listed.setIfInBounds j true) a' w') a w) : wpAnyJ P .any ops Q S J (n + 1) listed a w :=
  ⟨fun e => (by rw [hr] at e; cases e), fun k hk => by
    rw [hr] at hk
    simp only [List.mem_cons, List.not_mem_nil, or_false] at hk
    rcases hk with rfl | rfl
    · exact hi
    · exact hj⟩
/-- It is picked. -/
theorem wpOp_pick {i n : Nat} {oi : Oper} {Lf : Array Bool} {a : Act} {w : World} (h0 : ops[i]? = some oi) (hw : Region.wanted oi (yielded ops a.tmps) = true)
    (h : ∀ K : Act → World → Prop, (∀ a' w', S w' → wpAnyJ P .any ops Q S J n Lf a' w' → K a' w') → oi.wp P a w K Q) : wpOp P ops Q i (fun a' w' => (J i = true → S w → S w') ∧ wpAnyJ P .any ops Q S J n Lf a' w') a w := by
  unfold wpOp
  rw [h0]
  simp only
  rw [if_pos hw]
  exact .inl (h _ (fun a' w' h1 h2 => ⟨fun _ _ => h1, h2⟩))
/-- The rest in an order of one's own. -/
theorem wpAnyJ_rest {L : List Oper} {a : Act} {w : World} {listed : Array Bool} {n : Nat} (fl : List (Nat × Nat)) (hn : decide (fl.length = n) = true) (hs : Region.noSelect L.toArray = true) (hB : txOB L.toArray J fl false listed = true)
    (h : wpTxO P L.toArray (NoPan Q) S fl a w) : wpAnyJ P .any L.toArray (NoPan Q) S J n listed a w := by
  have h1 := wpAnyJ_ord (Q := NoPan Q) (J := J) hs (fun _ _ _ _ _ h => (h : False).elim) fl false listed a w hB (fun e => by cases e) h
  rw [show fl.length = n by simpa using hn] at h1
  exact h1
end
end Go.Proofs.YtdkanehjahpehaaGreatDoor
end
end

section
namespace Go.Proofs.YtdkanehjahpehaaGreatDoor
open Go
section
variable {P : Program} {ops : Array Oper} {Q : Exit → Act → World → Prop} {S : World → Prop} {fl : List (Nat × Nat)} {k : Nat} {o : Oper} {a : Act} {w : World}
theorem wpTxO_evd {a' : Act} (ho : ops[k]? = some o) (hw : Region.wanted o (yielded ops a.tmps) = false) (ha : a.put o.dst undef = a') (h : wpTxO P ops Q S fl a' w) : wpTxO P ops Q S ((k, 3) :: fl) a w := ⟨o, ho, undef, .inr ⟨hw, rfl⟩, ha ▸ h⟩
theorem wpTxO_drop {a' : Act} (ho : ops[k]? = some o) (hw : Region.wanted o (yielded ops a.tmps) = false) (ha : a.put o.dst undef = a') (h : wpTxO P ops Q S fl a' w) : wpTxO P ops Q S ((k, 0) :: fl) a w := ⟨o, ho, undef, .inr ⟨hw, rfl⟩, ha ▸ h⟩
end
section
variable {P : Program} {ops : Array Oper} {Q : Exit → Act → World → Prop} {S : World → Prop} {J : Nat → Bool} {fl : List (Nat × Nat)} {E : Act → World → Prop} {k : Nat} {o : Oper} {a : Act} {w : World}
theorem wpTxC_evd {a' : Act} (ho : ops[k]? = some o) (hw : Region.wanted o (yielded ops a.tmps) = false) (ha : a.put o.dst undef = a') (h : wpTxC P ops Q S E fl a' w) : wpTxC P ops Q S E ((k, 3) :: fl) a w := ⟨o, ho, undef, .inr ⟨hw, rfl⟩, ha ▸ h⟩
/-- It is picked; nobody asks for S behind it. -/
theorem wpOp_pickN {i n : Nat} {oi : Oper} {Lf : Array Bool} (h0 : ops[i]? = some oi) (hw : Region.wanted oi (yielded ops a.tmps) = true) (hJ : J i = false)
    (h : ∀ K : Act → World → Prop, (∀ a' w', wpAnyJ P .any ops Q S J n Lf a' w' → K a' w') → oi.wp P a w K Q) : wpOp P ops Q i (fun a' w' => (J i = true → S w → S w') ∧ wpAnyJ P .any ops Q S J n Lf a' w') a w := by
  unfold wpOp
  rw [h0]
  simp only
  rw [if_pos hw]
  exact .inl (h _ (fun a' w' h2 => ⟨fun e => (by rw [hJ] at e; cases e), h2⟩))
/-- The rest of a region in an order of one's own; S is held if it is said so. -/
theorem wpAnyJ_restS {L : List Oper} {listed : Array Bool} {n : Nat} (fl : List (Nat × Nat)) (held : Bool) (hn : decide (fl.length = n) = true) (hs : Region.noSelect L.toArray = true) (hB : txOB L.toArray J fl held listed = true)
    (hS : held = true → S w) (h : wpTxO P L.toArray (NoPan Q) S fl a w) : wpAnyJ P .any L.toArray (NoPan Q) S J n listed a w := by
  have h1 := wpAnyJ_ord (Q := NoPan Q) (J := J) hs (fun _ _ _ _ _ h => (h : False).elim) fl held listed a w hB hS h
  rw [show fl.length = n by simpa using hn] at h1
  exact h1
/-- Some of a region in an order of one's own. -/
theorem wpAnyJ_mid {L : List Oper} {listed Lf : Array Bool} {n m : Nat} (fl : List (Nat × Nat)) (held : Bool) (hn : decide (fl.length + m = n) = true) (hs : Region.noSelect L.toArray = true) (hB : txCB L.toArray J Lf fl held listed = true)
    (hS : held = true → S w) (h : wpTxC P L.toArray (NoPan Q) S (fun a w => wpAnyJ P .any L.toArray (NoPan Q) S J m Lf a w) fl a w) : wpAnyJ P .any L.toArray (NoPan Q) S J n listed a w := by
  have h1 := wpAnyJ_ordC (Q := NoPan Q) (J := J) (n := m) hs (fun _ _ _ _ _ h => (h : False).elim) (fun a w h => h) fl held listed a w hB hS h
  rw [show fl.length + m = n by simpa using hn] at h1
  exact h1
/-- A region that draws its order and doesn't panic: whatever order is picked. -/
theorem wp_anyJ {id : Nat} {L : List Oper} (J : Nat → Bool) (S : World → Prop) (hm : P.follows .mixedOrders = true)
    (h : wpAnyJ P .any L.toArray (NoPan Q) S J L.toArray.size (Array.replicate L.toArray.size false) a w.drew) : (Code.region id L.toArray true).wp P Q a w :=
  wp_mono (Q := NoPan Q) (wp_region_any hm (wpAny_of_J (S := S) (J := J) _ _ _ _ h)) NoPan.imp
end
end Go.Proofs.YtdkanehjahpehaaGreatDoor
end
