/-
  A region that draws its order, in the order of the text; S need not hold behind those operations that wait for all that lean on it.
  A region that draws its order, in an order of one's own: each entry is an operation's number and its mark (the marks of wp_txJ).
-/
import Derived.Test.YtmflhidmhefljaaDoorHeads

section
namespace Go.Proofs.YtmflhidmhefljaaDoor
open Go

section
variable {P : Program} {ops : Array Oper} {Q : Exit → Act → World → Prop} {S : World → Prop} {J : Nat → Bool} {md : Region.Mode}

/-- Whatever order is picked; S holds behind each operation of J. -/
def wpAnyJ (P : Program) (md : Region.Mode) (ops : Array Oper) (Q : Exit → Act → World → Prop) (S : World → Prop) (J : Nat → Bool) : Nat → Array Bool → Act → World → Prop
  | 0, listed, a, w => Region.ready md ops listed = [] ∧ Q .normal a w
  | fuel + 1, listed, a, w =>
    (Region.ready md ops listed = [] → Q .normal a w) ∧
    ∀ i ∈ Region.ready md ops listed, wpOp P ops Q i (fun a' w' => (J i = true → S w → S w') ∧ wpAnyJ P md ops Q S J fuel (listed.setIfInBounds i true) a' w') a w

theorem wpAny_of_J : ∀ (fuel : Nat) (listed : Array Bool) (a : Act) (w : World), wpAnyJ P md ops Q S J fuel listed a w → wpAny P md ops Q fuel listed a w
  | 0, _, _, _, h => h
  | fuel + 1, _, _, _, h => ⟨h.1, fun i hi => wpOp_mono (fun a' w' h' => wpAny_of_J fuel _ a' w' h'.2) (h.2 i hi)⟩

theorem wpAnyJ_first {T : World → Prop} (hT : (∀ W, T W) ∨ T = S) {i : Nat} {oi : Oper} {v : Value} (hi : ops[i]? = some oi) (hsel : ∀ (j : Nat) (o : Oper) cs b, ops[j]? = some o → o.op ≠ .select cs b)
    (hQ : ∀ c a w, Q (.panic c) (a.put oi.dst v) w → Q (.panic c) a w) (D : Nat → Bool)
    (hD : ∀ k ok, ops[k]? = some ok → D k = true → k ≠ i → ∃ e ∈ ok.after, Region.binds md e = true ∧ D e.on = true) :
    ∀ (fuel : Nat) (listed : Array Bool) (a : Act) (w : World),
      (∀ j oj, ops[j]? = some oj → j ≠ i → D j = false → listed.getD j true = false → oi.apart ops oj = true ∧ ((∀ W, T W) ∨ J j = true)) →
      (∀ k, D k = true → listed.getD k false = false) →
      i ∈ Region.ready md ops listed → YieldsIf P ops T oi v a → T w →
      wpAnyJ P md ops Q S J fuel (listed.setIfInBounds i true) (a.put oi.dst v) w → wpAnyJ P md ops Q S J (fuel + 1) listed a w := by
  intro fuel
  induction fuel with
  | zero =>
    intro listed a w _ _ hr hy hS H
    refine ⟨fun h => (by rw [h] at hr; cases hr), fun j hj => ?_⟩
    by_cases hji : j = i
    · subst hji; exact hy.wpOp hi hS ⟨fun _ h => h, H⟩
    · have := ready_mono hj hji
      rw [H.1] at this
      cases this
  | succ fuel ih =>
    intro listed a w hfree hund hr hy hS H
    refine ⟨fun h => (by rw [h] at hr; cases hr), fun j hj => ?_⟩
    by_cases hji : j = i
    · subst hji; exact hy.wpOp hi hS ⟨fun _ h => h, H⟩
    · have h1 := H.2 j (ready_mono hj hji)
      obtain ⟨hjun, oj, hoj, hall⟩ := mem_ready.1 hj
      have hDj : D j = false := by
        cases hd : D j with
        | false => rfl
        | true =>
          obtain ⟨e, he, hb, hde⟩ := hD j oj hoj hd hji
          have h1 := hall e he hb
          rw [hund e.on hde] at h1
          cases h1
      have hap := hfree j oj hoj hji hDj hjun
      have h2 := wpOp_putIf hoj hap.1 (fun cs b => hsel i oi cs b hi) (fun cs b => hsel j oj cs b hoj) hQ hy h1
      have hfree' : ∀ k ok, ops[k]? = some ok → k ≠ i → D k = false → (listed.setIfInBounds j true).getD k true = false → oi.apart ops ok = true ∧ ((∀ W, T W) ∨ J k = true) := fun k ok hk hki hdk hun => by
        refine hfree k ok hk hki hdk ?_
        by_cases hjk : j = k
        · subst hjk; exact hjun
        · rw [getD_set_ne true hjk] at hun; exact hun
      have hund' : ∀ k, D k = true → (listed.setIfInBounds j true).getD k false = false := fun k hk => by
        have hjk : j ≠ k := fun e => by rw [e, hk] at hDj; cases hDj
        have := hund k hk
        simp only [Array.getD_eq_getD_getElem?] at this ⊢
        rw [Array.getElem?_setIfInBounds_ne hjk]
        exact this
      have hS' : ∀ w', (J j = true → S w → S w') → T w' := fun w' h => by
        rcases hT with hT | rfl
        · exact hT w'
        · exact hap.2.elim (fun h' => h' w') (fun h' => h h' hS)
      refine wpOp_mono (fun a' w' h3 => ⟨h3.2.1, ih (listed.setIfInBounds j true) a' w' hfree' hund' (ready_mono hr (Ne.symm hji)) h3.1 (hS' w' h3.2.1) ?_⟩) h2
      rw [Array.setIfInBounds_comm _ _ hji]
      exact h3.2.2

/-- An operation that hangs on no memory may be taken first. -/
theorem wpAnyJ_firstE {i : Nat} {oi : Oper} {v : Value} (hi : ops[i]? = some oi) (hsel : ∀ (j : Nat) (o : Oper) cs b, ops[j]? = some o → o.op ≠ .select cs b)
    (hQ : ∀ c a w, Q (.panic c) (a.put oi.dst v) w → Q (.panic c) a w) :
    ∀ (fuel : Nat) (listed : Array Bool) (a : Act) (w : World),
      (∀ j oj, ops[j]? = some oj → j ≠ i → listed.getD j true = false → (∀ e ∈ oj.after, Region.binds md e = true → e.on ≠ i) → oi.apart ops oj = true) →
      i ∈ Region.ready md ops listed → YieldsIf P ops (fun _ => True) oi v a →
      wpAnyJ P md ops Q S J fuel (listed.setIfInBounds i true) (a.put oi.dst v) w → wpAnyJ P md ops Q S J (fuel + 1) listed a w := by
  intro fuel
  induction fuel with
  | zero =>
    intro listed a w _ hr hy H
    refine ⟨fun h => (by rw [h] at hr; cases hr), fun j hj => ?_⟩
    by_cases hji : j = i
    · subst hji; exact hy.wpOp hi trivial ⟨fun _ h => h, H⟩
    · have := ready_mono hj hji
      rw [H.1] at this
      cases this
  | succ fuel ih =>
    intro listed a w hfree hr hy H
    refine ⟨fun h => (by rw [h] at hr; cases hr), fun j hj => ?_⟩
    by_cases hji : j = i
    · subst hji; exact hy.wpOp hi trivial ⟨fun _ h => h, H⟩
    · have h1 := H.2 j (ready_mono hj hji)
      obtain ⟨hjun, oj, hoj, hall⟩ := mem_ready.1 hj
      have hnot : ∀ e ∈ oj.after, Region.binds md e = true → e.on ≠ i := fun e he hb heq => by
        have h1 := hall e he hb
        have h0 := (mem_ready.1 hr).1
        rw [heq] at h1
        rcases Nat.lt_or_ge i listed.size with h' | h'
        · simp [h'] at h0 h1; rw [h0] at h1; cases h1
        · simp [Array.getElem?_eq_none h'] at h1
      have h2 := wpOp_putIf hoj (hfree j oj hoj hji hjun hnot) (fun cs b => hsel i oi cs b hi) (fun cs b => hsel j oj cs b hoj) hQ hy h1
      have hfree' : ∀ k ok, ops[k]? = some ok → k ≠ i → (listed.setIfInBounds j true).getD k true = false →
          (∀ e ∈ ok.after, Region.binds md e = true → e.on ≠ i) → oi.apart ops ok = true := fun k ok hk hki hun hno => by
        refine hfree k ok hk hki ?_ hno
        by_cases hjk : j = k
        · subst hjk; exact hjun
        · rw [getD_set_ne true hjk] at hun; exact hun
      refine wpOp_mono (fun a' w' h3 => ⟨h3.2.1, ih (listed.setIfInBounds j true) a' w' hfree' (ready_mono hr (Ne.symm hji)) h3.1 ?_⟩) h2
      rw [Array.setIfInBounds_comm _ _ hji]
      exact h3.2.2

/-- All that waits for i, i itself too: the operations are gone through once. -/
def waitsFor (md : Region.Mode) (ops : Array Oper) (i : Nat) : Nat → Array Bool → Array Bool
  | 0, D => D
  | n + 1, D => waitsFor md ops i n (D.push ((D.size == i) || (match ops[D.size]? with | some o => o.after.any (fun e => Region.binds md e && D.getD e.on false) | none => false)))
def depB (md : Region.Mode) (ops : Array Oper) (i : Nat) (D : Nat → Bool) : Bool :=
  (List.range ops.size).all fun k => !(D k) || k == i || (match ops[k]? with | some o => o.after.any (fun e => Region.binds md e && D e.on) | none => true)
theorem depB_spec {i : Nat} {D : Nat → Bool} (h : depB md ops i D = true) : ∀ k ok, ops[k]? = some ok → D k = true → k ≠ i → ∃ e ∈ ok.after, Region.binds md e = true ∧ D e.on = true := by
  intro k ok hk hd hki
  have hlt : k < ops.size := (Array.getElem?_eq_some_iff.1 hk).1
  have := List.all_eq_true.1 h k (List.mem_range.2 hlt)
  simp only [hk, hd, Bool.not_true, Bool.false_or, Bool.or_eq_true, beq_iff_eq] at this
  rcases this with h1 | h1
  · exact absurd h1 hki
  · obtain ⟨e, he, hb⟩ := Array.any_eq_true'.1 h1
    simp only [Bool.and_eq_true] at hb
    exact ⟨e, he, hb.1, hb.2⟩
def openB (D : Nat → Bool) (listed : Array Bool) (n : Nat) : Bool := (List.range n).all fun k => !(D k) || !(listed.getD k false)
theorem openB_spec {D : Nat → Bool} {listed : Array Bool} (h : openB D listed listed.size = true) : ∀ k, D k = true → listed.getD k false = false := by
  intro k hk
  rcases Nat.lt_or_ge k listed.size with h' | h'
  · have := List.all_eq_true.1 h k (List.mem_range.2 h')
    simpa [hk] using this
  · simp [Array.getElem?_eq_none h']

/-- Who might come ahead of i lets it be, and is one of J. -/
def freeJB (ops : Array Oper) (J : Nat → Bool) (D : Nat → Bool) (listed : Array Bool) (i : Nat) : Bool :=
  (List.range ops.size).all fun j => (j == i) || listed.getD j true || D j || (J j && (match ops[i]?, ops[j]? with | some oi, some oj => oi.apart ops oj | _, _ => true))
theorem freeJ_spec {D : Nat → Bool} {listed : Array Bool} {i : Nat} {oi : Oper} (hi : ops[i]? = some oi) (h : freeJB ops J D listed i = true) : ∀ j oj, ops[j]? = some oj → j ≠ i → D j = false → listed.getD j true = false → oi.apart ops oj = true ∧ J j = true := by
  intro j oj hj hji hd hun
  have hlt : j < ops.size := (Array.getElem?_eq_some_iff.1 hj).1
  have := List.all_eq_true.1 h j (List.mem_range.2 hlt)
  simp only [hj, hi, hd, hun, Bool.or_false, Bool.or_eq_true, beq_iff_eq, Bool.and_eq_true] at this
  rcases this with h1 | h1
  · exact absurd h1 hji
  · exact ⟨h1.2, h1.1⟩

/-- The operations in the order of the text: 3: it yields its value in every world; 0: it yields its value in every world that meets S; 1: it is carried out, and S holds behind it; 2: it is carried out. -/
def wpTxJ (P : Program) (ops : Array Oper) (Q : Exit → Act → World → Prop) (S : World → Prop) : List Nat → List Oper → Act → World → Prop
  | _, [], a, w => Q .normal a w
  | [], _ :: _, _, _ => False
  | 0 :: fl, o :: l, a, w => ∃ v, YieldsIf P ops S o v a ∧ wpTxJ P ops Q S fl l (a.put o.dst v) w
  | 1 :: fl, o :: l, a, w => if Region.wanted o (yielded ops a.tmps) = true then o.wp P a w (fun a' w' => S w' ∧ wpTxJ P ops Q S fl l a' w') Q else S w ∧ wpTxJ P ops Q S fl l (a.put o.dst undef) w
  | 2 :: fl, o :: l, a, w => if Region.wanted o (yielded ops a.tmps) = true then o.wp P a w (fun a' w' => wpTxJ P ops Q S fl l a' w') Q else wpTxJ P ops Q S fl l (a.put o.dst undef) w
  | _ :: fl, o :: l, a, w => ∃ v, YieldsIf P ops (fun _ => True) o v a ∧ wpTxJ P ops Q S fl l (a.put o.dst v) w

section
variable {fl : List Nat} {o : Oper} {l : List Oper} {a : Act} {w : World}
theorem wpTxJ_one : wpTxJ P ops Q S (1 :: fl) (o :: l) a w = (if Region.wanted o (yielded ops a.tmps) = true then o.wp P a w (fun a' w' => S w' ∧ wpTxJ P ops Q S fl l a' w') Q else S w ∧ wpTxJ P ops Q S fl l (a.put o.dst undef) w) := rfl
theorem wpTxJ_two : wpTxJ P ops Q S (2 :: fl) (o :: l) a w = (if Region.wanted o (yielded ops a.tmps) = true then o.wp P a w (fun a' w' => wpTxJ P ops Q S fl l a' w') Q else wpTxJ P ops Q S fl l (a.put o.dst undef) w) := rfl
theorem wpTxJ_ev {v : Value} (hw : Region.wanted o (yielded ops a.tmps) = true) (hy : ∀ W, (execOp a.eval o).run P W = .ok (.value v) W) (h : wpTxJ P ops Q S fl l (a.put o.dst v) w) : wpTxJ P ops Q S (3 :: fl) (o :: l) a w :=
  ⟨v, .inl ⟨hw, fun W _ => hy W⟩, h⟩
theorem wpTxJ_evN {v : Value} {a' : Act} (hw : Region.wanted o (yielded ops a.tmps) = true) (hy : ∀ W, (execOp a.eval o).run P W = .ok (.value v) W) (ha : a.put o.dst v = a') (h : wpTxJ P ops Q S fl l a' w) : wpTxJ P ops Q S (3 :: fl) (o :: l) a w :=
  wpTxJ_ev hw hy (ha ▸ h)
theorem wpTxJ_evd (hw : Region.wanted o (yielded ops a.tmps) = false) (h : wpTxJ P ops Q S fl l (a.put o.dst undef) w) : wpTxJ P ops Q S (3 :: fl) (o :: l) a w :=
  ⟨undef, .inr ⟨hw, rfl⟩, h⟩
theorem wpTxJ_nil (h : Q .normal a w) : wpTxJ P ops Q S [] [] a w := h
theorem wpTxJ_take {v : Value} (hw : Region.wanted o (yielded ops a.tmps) = true) (hy : ∀ W, S W → (execOp a.eval o).run P W = .ok (.value v) W) (h : wpTxJ P ops Q S fl l (a.put o.dst v) w) : wpTxJ P ops Q S (0 :: fl) (o :: l) a w :=
  ⟨v, .inl ⟨hw, hy⟩, h⟩
theorem wpTxJ_takeN {v : Value} {a' : Act} (hw : Region.wanted o (yielded ops a.tmps) = true) (hy : ∀ W, S W → (execOp a.eval o).run P W = .ok (.value v) W) (ha : a.put o.dst v = a') (h : wpTxJ P ops Q S fl l a' w) : wpTxJ P ops Q S (0 :: fl) (o :: l) a w :=
  wpTxJ_take hw hy (ha ▸ h)
theorem wpTxJ_drop (hw : Region.wanted o (yielded ops a.tmps) = false) (h : wpTxJ P ops Q S fl l (a.put o.dst undef) w) : wpTxJ P ops Q S (0 :: fl) (o :: l) a w :=
  ⟨undef, .inr ⟨hw, rfl⟩, h⟩
theorem wpTxJ_want (hw : Region.wanted o (yielded ops a.tmps) = true) (h : ∀ K : Act → World → Prop, (∀ a' w', S w' → wpTxJ P ops Q S fl l a' w' → K a' w') → o.wp P a w K Q) : wpTxJ P ops Q S (1 :: fl) (o :: l) a w := by
  rw [wpTxJ_one, if_pos hw]
  exact h _ (fun a' w' h1 h2 => ⟨h1, h2⟩)
theorem wpTxJ_last (hw : Region.wanted o (yielded ops a.tmps) = true) (h : ∀ K : Act → World → Prop, (∀ a' w', wpTxJ P ops Q S fl l a' w' → K a' w') → o.wp P a w K Q) : wpTxJ P ops Q S (2 :: fl) (o :: l) a w := by
  rw [wpTxJ_two, if_pos hw]
  exact h _ (fun a' w' h2 => h2)
end

/-- What is to be checked of a region: fl the marks from k on; J: marked 0 or 1; 'held': S is at hand. -/
def txJB (ops : Array Oper) (J : Nat → Bool) : List Nat → Nat → Bool → Array Bool → Bool
  | [], _, _, listed => (Region.ready .any ops listed).isEmpty
  | 0 :: fl, k, held, listed =>
    held && depB .any ops k (fun j => (waitsFor .any ops k ops.size #[]).getD j false) && openB (fun j => (waitsFor .any ops k ops.size #[]).getD j false) listed listed.size && (Region.ready .any ops listed).contains k &&
      freeJB ops J (fun j => (waitsFor .any ops k ops.size #[]).getD j false) listed k && txJB ops J fl (k + 1) held (listed.setIfInBounds k true)
  | 1 :: fl, k, held, listed => decide (Region.ready .any ops listed = [k]) && txJB ops J fl (k + 1) held (listed.setIfInBounds k true)
  | 2 :: fl, k, _, listed => !(J k) && decide (Region.ready .any ops listed = [k]) && txJB ops J fl (k + 1) false (listed.setIfInBounds k true)
  | _ :: fl, k, held, listed => Region.free .any ops listed k && (Region.ready .any ops listed).contains k && txJB ops J fl (k + 1) held (listed.setIfInBounds k true)

theorem wpAnyJ_txt {L : List Oper} (hs : Region.noSelect L.toArray = true) (hQ : ∀ c a d v w, Q (.panic c) (Act.put a d v) w → Q (.panic c) a w) :
    ∀ (fl : List Nat) (l : List Oper) (k : Nat) (held : Bool) (listed : Array Bool) (a : Act) (w : World), fl.length = l.length → k + l.length = L.length → (∀ j, j < l.length → l[j]? = L[k + j]?) → txJB L.toArray J fl k held listed = true →
      (held = true → S w) → wpTxJ P L.toArray Q S fl l a w → wpAnyJ P .any L.toArray Q S J l.length listed a w
  | [], [], k, held, listed, a, w, _, _, _, hB, _, h => ⟨by simpa [txJB] using hB, h⟩
  | [], _ :: _, _, _, _, _, _, hl, _, _, _, _, _ => by simp at hl
  | _ :: _, [], _, _, _, _, _, hl, _, _, _, _, _ => by simp at hl
  | f :: fl, o :: l, k, held, listed, a, w, hl, hk, hlk, hB, hS, h => by
    have h0 : L.toArray[k]? = some o := by
      have := hlk 0 (by simp)
      simp only [List.getElem?_cons_zero, Nat.add_zero] at this
      simpa using this.symm
    simp only [List.length_cons] at hk hl
    have hlk' : ∀ j, j < l.length → l[j]? = L[k + 1 + j]? := fun j hj => by
      have := hlk (j + 1) (by simp; omega)
      simp only [List.getElem?_cons_succ] at this
      rw [this, show k + (j + 1) = k + 1 + j by omega]
    match f, hB, h with
    | 0, hB, h =>
      simp only [txJB, Bool.and_eq_true] at hB
      obtain ⟨⟨⟨⟨⟨hh, hdp⟩, hop⟩, hr⟩, hj⟩, hB⟩ := hB
      obtain ⟨v, hy, h⟩ := h
      have ih := wpAnyJ_txt hs hQ fl l (k + 1) held (listed.setIfInBounds k true) (a.put o.dst v) w (by omega) (by omega) hlk' hB hS h
      exact wpAnyJ_first (T := S) (.inr rfl) h0 (Region.noSelect_spec hs) (fun c a w h => hQ c a _ _ w h) _ (depB_spec hdp) _ _ _ _ (fun j oj h1 h2 h3 h4 => ⟨(freeJ_spec h0 hj j oj h1 h2 h3 h4).1, .inr (freeJ_spec h0 hj j oj h1 h2 h3 h4).2⟩) (openB_spec hop) (by simpa using hr) hy (hS hh) ih
    | 1, hB, h =>
      simp only [txJB, Bool.and_eq_true, decide_eq_true_eq] at hB
      obtain ⟨hr, hB⟩ := hB
      have ih : ∀ a' w', (held = true → S w') → wpTxJ P L.toArray Q S fl l a' w' → wpAnyJ P .any L.toArray Q S J l.length (listed.setIfInBounds k true) a' w' := fun a' w' hS' h' =>
        wpAnyJ_txt hs hQ fl l (k + 1) held (listed.setIfInBounds k true) a' w' (by omega) (by omega) hlk' hB hS' h'
      refine ⟨fun e => (by rw [hr] at e; cases e), fun i hi => ?_⟩
      rw [hr] at hi
      simp only [List.mem_singleton] at hi
      subst hi
      rw [wpTxJ_one] at h
      unfold wpOp
      rw [h0]
      simp only
      by_cases hw : Region.wanted o (yielded L.toArray a.tmps) = true
      · rw [if_pos hw] at h ⊢
        exact .inl (Oper.wp_mono (fun a' w' h' => ⟨fun _ _ => h'.1, ih a' w' (fun _ => h'.1) h'.2⟩) h)
      · rw [if_neg hw] at h ⊢
        exact ⟨fun _ _ => h.1, ih _ _ (fun _ => h.1) h.2⟩
    | 2, hB, h =>
      simp only [txJB, Bool.and_eq_true, decide_eq_true_eq, Bool.not_eq_true'] at hB
      obtain ⟨⟨hj, hr⟩, hB⟩ := hB
      have ih : ∀ a' w', wpTxJ P L.toArray Q S fl l a' w' → wpAnyJ P .any L.toArray Q S J l.length (listed.setIfInBounds k true) a' w' := fun a' w' h' =>
        wpAnyJ_txt hs hQ fl l (k + 1) false (listed.setIfInBounds k true) a' w' (by omega) (by omega) hlk' hB (fun e => by cases e) h'
      refine ⟨fun e => (by rw [hr] at e; cases e), fun i hi => ?_⟩
      rw [hr] at hi
      simp only [List.mem_singleton] at hi
      subst hi
      rw [wpTxJ_two] at h
      unfold wpOp
      rw [h0]
      simp only
      by_cases hw : Region.wanted o (yielded L.toArray a.tmps) = true
      · rw [if_pos hw] at h ⊢
        exact .inl (Oper.wp_mono (fun a' w' h' => ⟨fun e => (by rw [hj] at e; cases e), ih a' w' h'⟩) h)
      · rw [if_neg hw] at h ⊢
        exact ⟨fun e => (by rw [hj] at e; cases e), ih _ _ h⟩
    | n + 3, hB, h =>
      simp only [txJB, Bool.and_eq_true] at hB
      obtain ⟨⟨hf, hr⟩, hB⟩ := hB
      obtain ⟨v, hy, h⟩ := h
      have ih := wpAnyJ_txt hs hQ fl l (k + 1) held (listed.setIfInBounds k true) (a.put o.dst v) w (by omega) (by omega) hlk' hB hS h
      exact wpAnyJ_firstE h0 (Region.noSelect_spec hs) (fun c a w h => hQ c a _ _ w h) _ _ _ _ (Region.free_spec h0 hf) (by simpa using hr) hy ih

/-- A region that draws its order and doesn't panic, in the order of the text. -/
theorem wp_txJ {id : Nat} {a : Act} {w : World} {L : List Oper} (fl : List Nat) (S : World → Prop) (hm : P.follows .mixedOrders = true) (hs : Region.noSelect L.toArray = true)
    (hl : decide (fl.length = L.length) = true) (hB : txJB L.toArray (fun i => fl.getD i 0 != 2) fl 0 true (Array.replicate L.toArray.size false) = true) (hS : S w.drew) (h : wpTxJ P L.toArray (NoPan Q) S fl L a w.drew) : (Code.region id L.toArray true).wp P Q a w := by
  refine wp_mono (Q := NoPan Q) (wp_region_any hm (wpAny_of_J (S := S) (J := fun i => fl.getD i 0 != 2) _ _ _ _ ?_)) NoPan.imp
  exact wpAnyJ_txt (Q := NoPan Q) hs (fun _ _ _ _ _ h => (h : False).elim) fl L 0 true _ a _ (by simpa using hl) (by simp) (fun j hj => by rw [Nat.zero_add]) hB (fun _ => hS) h

end
end Go.Proofs.YtmflhidmhefljaaDoor
end

section
namespace Go.Proofs.YtmflhidmhefljaaDoor
open Go

section
variable {P : Program} {ops : Array Oper} {Q : Exit → Act → World → Prop} {S : World → Prop} {J : Nat → Bool} {md : Region.Mode}

def wpTxO (P : Program) (ops : Array Oper) (Q : Exit → Act → World → Prop) (S : World → Prop) : List (Nat × Nat) → Act → World → Prop
  | [], a, w => Q .normal a w
  | (k, 0) :: fl, a, w => ∃ o, ops[k]? = some o ∧ ∃ v, YieldsIf P ops S o v a ∧ wpTxO P ops Q S fl (a.put o.dst v) w
  | (k, 1) :: fl, a, w => ∃ o, ops[k]? = some o ∧ if Region.wanted o (yielded ops a.tmps) = true then o.wp P a w (fun a' w' => S w' ∧ wpTxO P ops Q S fl a' w') Q else S w ∧ wpTxO P ops Q S fl (a.put o.dst undef) w
  | (k, 2) :: fl, a, w => ∃ o, ops[k]? = some o ∧ if Region.wanted o (yielded ops a.tmps) = true then o.wp P a w (fun a' w' => wpTxO P ops Q S fl a' w') Q else wpTxO P ops Q S fl (a.put o.dst undef) w
  | (k, _) :: fl, a, w => ∃ o, ops[k]? = some o ∧ ∃ v, YieldsIf P ops (fun _ => True) o v a ∧ wpTxO P ops Q S fl (a.put o.dst v) w

section
variable {fl : List (Nat × Nat)} {k : Nat} {o : Oper} {a : Act} {w : World}
theorem wpTxO_evN {v : Value} {a' : Act} (ho : ops[k]? = some o) (hw : Region.wanted o (yielded ops a.tmps) = true) (hy : ∀ W, (execOp a.eval o).run P W = .ok (.value v) W) (ha : a.put o.dst v = a') (h : wpTxO P ops Q S fl a' w) : wpTxO P ops Q S ((k, 3) :: fl) a w :=
  ⟨o, ho, v, .inl ⟨hw, fun W _ => hy W⟩, ha ▸ h⟩
theorem wpTxO_takeN {v : Value} {a' : Act} (ho : ops[k]? = some o) (hw : Region.wanted o (yielded ops a.tmps) = true) (hy : ∀ W, S W → (execOp a.eval o).run P W = .ok (.value v) W) (ha : a.put o.dst v = a') (h : wpTxO P ops Q S fl a' w) : wpTxO P ops Q S ((k, 0) :: fl) a w :=
  ⟨o, ho, v, .inl ⟨hw, hy⟩, ha ▸ h⟩
theorem wpTxO_nil (h : Q .normal a w) : wpTxO P ops Q S [] a w := h
theorem wpTxO_want (ho : ops[k]? = some o) (hw : Region.wanted o (yielded ops a.tmps) = true) (h : ∀ K : Act → World → Prop, (∀ a' w', S w' → wpTxO P ops Q S fl a' w' → K a' w') → o.wp P a w K Q) : wpTxO P ops Q S ((k, 1) :: fl) a w := by
  refine ⟨o, ho, ?_⟩
  rw [if_pos hw]
  exact h _ (fun a' w' h1 h2 => ⟨h1, h2⟩)
theorem wpTxO_last (ho : ops[k]? = some o) (hw : Region.wanted o (yielded ops a.tmps) = true) (h : ∀ K : Act → World → Prop, (∀ a' w', wpTxO P ops Q S fl a' w' → K a' w') → o.wp P a w K Q) : wpTxO P ops Q S ((k, 2) :: fl) a w := by
  refine ⟨o, ho, ?_⟩
  rw [if_pos hw]
  exact h _ (fun a' w' h2 => h2)
end

/-- What is to be checked of a region. -/
def txOB (ops : Array Oper) (J : Nat → Bool) : List (Nat × Nat) → Bool → Array Bool → Bool
  | [], _, listed => (Region.ready .any ops listed).isEmpty
  | (k, 0) :: fl, held, listed =>
    held && depB .any ops k (fun j => (waitsFor .any ops k ops.size #[]).getD j false) && openB (fun j => (waitsFor .any ops k ops.size #[]).getD j false) listed listed.size && (Region.ready .any ops listed).contains k &&
      freeJB ops J (fun j => (waitsFor .any ops k ops.size #[]).getD j false) listed k && txOB ops J fl held (listed.setIfInBounds k true)
  | (k, 1) :: fl, held, listed => decide (Region.ready .any ops listed = [k]) && txOB ops J fl held (listed.setIfInBounds k true)
  | (k, 2) :: fl, _, listed => !(J k) && decide (Region.ready .any ops listed = [k]) && txOB ops J fl false (listed.setIfInBounds k true)
  | (k, _) :: fl, held, listed => Region.free .any ops listed k && (Region.ready .any ops listed).contains k && txOB ops J fl held (listed.setIfInBounds k true)

theorem wpAnyJ_ord (hs : Region.noSelect ops = true) (hQ : ∀ c a d v w, Q (.panic c) (Act.put a d v) w → Q (.panic c) a w) :
    ∀ (fl : List (Nat × Nat)) (held : Bool) (listed : Array Bool) (a : Act) (w : World), txOB ops J fl held listed = true →
      (held = true → S w) → wpTxO P ops Q S fl a w → wpAnyJ P .any ops Q S J fl.length listed a w
  | [], held, listed, a, w, hB, _, h => ⟨by simpa [txOB] using hB, h⟩
  | (k, f) :: fl, held, listed, a, w, hB, hS, h => by
    match f, hB, h with
    | 0, hB, h =>
      simp only [txOB, Bool.and_eq_true] at hB
      obtain ⟨⟨⟨⟨⟨hh, hdp⟩, hop⟩, hr⟩, hj⟩, hB⟩ := hB
      obtain ⟨o, h0, v, hy, h⟩ := h
      have ih := wpAnyJ_ord hs hQ fl held (listed.setIfInBounds k true) (a.put o.dst v) w hB hS h
      exact wpAnyJ_first (T := S) (.inr rfl) h0 (Region.noSelect_spec hs) (fun c a w h => hQ c a _ _ w h) _ (depB_spec hdp) _ _ _ _ (fun j oj h1 h2 h3 h4 => ⟨(freeJ_spec h0 hj j oj h1 h2 h3 h4).1, .inr (freeJ_spec h0 hj j oj h1 h2 h3 h4).2⟩) (openB_spec hop) (by simpa using hr) hy (hS hh) ih
    | 1, hB, h =>
      simp only [txOB, Bool.and_eq_true, decide_eq_true_eq] at hB
      obtain ⟨hr, hB⟩ := hB
      obtain ⟨o, h0, hz⟩ := h
      have ih : ∀ a' w', (held = true → S w') → wpTxO P ops Q S fl a' w' → wpAnyJ P .any ops Q S J fl.length (listed.setIfInBounds k true) a' w' := fun a' w' hS' h' =>
        wpAnyJ_ord hs hQ fl held (listed.setIfInBounds k true) a' w' hB hS' h'
      refine ⟨fun e => (by rw [hr] at e; cases e), fun i hi => ?_⟩
      rw [hr] at hi
      simp only [List.mem_singleton] at hi
      subst hi
      unfold wpOp
      rw [h0]
      simp only
      by_cases hw : Region.wanted o (yielded ops a.tmps) = true
      · rw [if_pos hw] at hz ⊢
        exact .inl (Oper.wp_mono (fun a' w' h' => ⟨fun _ _ => h'.1, ih a' w' (fun _ => h'.1) h'.2⟩) hz)
      · rw [if_neg hw] at hz ⊢
        exact ⟨fun _ _ => hz.1, ih _ _ (fun _ => hz.1) hz.2⟩
    | 2, hB, h =>
      simp only [txOB, Bool.and_eq_true, decide_eq_true_eq, Bool.not_eq_true'] at hB
      obtain ⟨⟨hj, hr⟩, hB⟩ := hB
      obtain ⟨o, h0, hz⟩ := h
      have ih : ∀ a' w', wpTxO P ops Q S fl a' w' → wpAnyJ P .any ops Q S J fl.length (listed.setIfInBounds k true) a' w' := fun a' w' h' =>
        wpAnyJ_ord hs hQ fl false (listed.setIfInBounds k true) a' w' hB (fun e => by cases e) h'
      refine ⟨fun e => (by rw [hr] at e; cases e), fun i hi => ?_⟩
      rw [hr] at hi
      simp only [List.mem_singleton] at hi
      subst hi
      unfold wpOp
      rw [h0]
      simp only
      by_cases hw : Region.wanted o (yielded ops a.tmps) = true
      · rw [if_pos hw] at hz ⊢
        exact .inl (Oper.wp_mono (fun a' w' h' => ⟨fun e => (by rw [hj] at e; cases e), ih a' w' h'⟩) hz)
      · rw [if_neg hw] at hz ⊢
        exact ⟨fun e => (by rw [hj] at e; cases e), ih _ _ hz⟩
    | n + 3, hB, h =>
      simp only [txOB, Bool.and_eq_true] at hB
      obtain ⟨⟨hf, hr⟩, hB⟩ := hB
      obtain ⟨o, h0, v, hy, h⟩ := h
      have ih := wpAnyJ_ord hs hQ fl held (listed.setIfInBounds k true) (a.put o.dst v) w hB hS h
      exact wpAnyJ_firstE h0 (Region.noSelect_spec hs) (fun c a w h => hQ c a _ _ w h) _ _ _ _ (Region.free_spec h0 hf) (by simpa using hr) hy ih

/-- The marks of an order, by the operations' numbers. -/
def markOf (fl : List (Nat × Nat)) (i : Nat) : Bool := fl.any fun e => e.1 == i && e.2 == 2

/-- A region that draws its order and doesn't panic, in an order of one's own. -/
theorem wp_txO {id : Nat} {a : Act} {w : World} {L : List Oper} (fl : List (Nat × Nat)) (S : World → Prop) (hm : P.follows .mixedOrders = true) (hs : Region.noSelect L.toArray = true)
    (hl : decide (fl.length = L.length) = true) (hB : txOB L.toArray (fun i => !(markOf fl i)) fl true (Array.replicate L.toArray.size false) = true) (hS : S w.drew) (h : wpTxO P L.toArray (NoPan Q) S fl a w.drew) : (Code.region id L.toArray true).wp P Q a w := by
  refine wp_mono (Q := NoPan Q) (wp_region_any hm (wpAny_of_J (S := S) (J := fun i => !(markOf fl i)) _ _ _ _ ?_)) NoPan.imp
  have h1 := wpAnyJ_ord (Q := NoPan Q) (J := fun i => !(markOf fl i)) hs (fun _ _ _ _ _ h => (h : False).elim) fl true _ a _ hB (fun _ => hS) h
  have h2 : fl.length = L.toArray.size := by simpa using hl
  rw [h2] at h1
  exact h1

end
end Go.Proofs.YtmflhidmhefljaaDoor
end
