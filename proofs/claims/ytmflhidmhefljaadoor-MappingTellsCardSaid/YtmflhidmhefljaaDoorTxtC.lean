/-
  A region that draws its order, in an order of one's own for a while; then whatever order is picked.
-/
import Derived.Test.YtmflhidmhefljaaDoorTxtO

section
namespace Go.Proofs.YtmflhidmhefljaaDoor
open Go

section
variable {P : Program} {ops : Array Oper} {Q : Exit → Act → World → Prop} {S : World → Prop} {J : Nat → Bool} {md : Region.Mode}

def wpTxC (P : Program) (ops : Array Oper) (Q : Exit → Act → World → Prop) (S : World → Prop) (E : Act → World → Prop) : List (Nat × Nat) → Act → World → Prop
  | [], a, w => E a w
  | (k, 0) :: fl, a, w => ∃ o, ops[k]? = some o ∧ ∃ v, YieldsIf P ops S o v a ∧ wpTxC P ops Q S E fl (a.put o.dst v) w
  | (k, 1) :: fl, a, w => ∃ o, ops[k]? = some o ∧ if Region.wanted o (yielded ops a.tmps) = true then o.wp P a w (fun a' w' => S w' ∧ wpTxC P ops Q S E fl a' w') Q else S w ∧ wpTxC P ops Q S E fl (a.put o.dst undef) w
  | (k, 2) :: fl, a, w => ∃ o, ops[k]? = some o ∧ if Region.wanted o (yielded ops a.tmps) = true then o.wp P a w (fun a' w' => wpTxC P ops Q S E fl a' w') Q else wpTxC P ops Q S E fl (a.put o.dst undef) w
  | (k, _) :: fl, a, w => ∃ o, ops[k]? = some o ∧ ∃ v, YieldsIf P ops (fun _ => True) o v a ∧ wpTxC P ops Q S E fl (a.put o.dst v) w

section
variable {fl : List (Nat × Nat)} {E : Act → World → Prop} {k : Nat} {o : Oper} {a : Act} {w : World}
theorem wpTxC_evN {v : Value} {a' : Act} (ho : ops[k]? = some o) (hw : Region.wanted o (yielded ops a.tmps) = true) (hy : ∀ W, (execOp a.eval o).run P W = .ok (.value v) W) (ha : a.put o.dst v = a') (h : wpTxC P ops Q S E fl a' w) : wpTxC P ops Q S E ((k, 3) :: fl) a w :=
  ⟨o, ho, v, .inl ⟨hw, fun W _ => hy W⟩, ha ▸ h⟩
theorem wpTxC_takeN {v : Value} {a' : Act} (ho : ops[k]? = some o) (hw : Region.wanted o (yielded ops a.tmps) = true) (hy : ∀ W, S W → (execOp a.eval o).run P W = .ok (.value v) W) (ha : a.put o.dst v = a') (h : wpTxC P ops Q S E fl a' w) : wpTxC P ops Q S E ((k, 0) :: fl) a w :=
  ⟨o, ho, v, .inl ⟨hw, hy⟩, ha ▸ h⟩
theorem wpTxC_nil (h : E a w) : wpTxC P ops Q S E [] a w := h
theorem wpTxC_want (ho : ops[k]? = some o) (hw : Region.wanted o (yielded ops a.tmps) = true) (h : ∀ K : Act → World → Prop, (∀ a' w', S w' → wpTxC P ops Q S E fl a' w' → K a' w') → o.wp P a w K Q) : wpTxC P ops Q S E ((k, 1) :: fl) a w := by
  refine ⟨o, ho, ?_⟩
  rw [if_pos hw]
  exact h _ (fun a' w' h1 h2 => ⟨h1, h2⟩)
theorem wpTxC_last (ho : ops[k]? = some o) (hw : Region.wanted o (yielded ops a.tmps) = true) (h : ∀ K : Act → World → Prop, (∀ a' w', wpTxC P ops Q S E fl a' w' → K a' w') → o.wp P a w K Q) : wpTxC P ops Q S E ((k, 2) :: fl) a w := by
  refine ⟨o, ho, ?_⟩
  rw [if_pos hw]
  exact h _ (fun a' w' h2 => h2)
end

/-- What is to be checked of a region. -/
def txCB (ops : Array Oper) (J : Nat → Bool) (Lf : Array Bool) : List (Nat × Nat) → Bool → Array Bool → Bool
  | [], _, listed => decide (listed = Lf)
  | (k, 0) :: fl, held, listed =>
    held && depB .any ops k (fun j => (waitsFor .any ops k ops.size #[]).getD j false) && openB (fun j => (waitsFor .any ops k ops.size #[]).getD j false) listed listed.size && (Region.ready .any ops listed).contains k &&
      freeJB ops J (fun j => (waitsFor .any ops k ops.size #[]).getD j false) listed k && txCB ops J Lf fl held (listed.setIfInBounds k true)
  | (k, 1) :: fl, held, listed => decide (Region.ready .any ops listed = [k]) && txCB ops J Lf fl held (listed.setIfInBounds k true)
  | (k, 2) :: fl, _, listed => !(J k) && decide (Region.ready .any ops listed = [k]) && txCB ops J Lf fl false (listed.setIfInBounds k true)
  | (k, _) :: fl, held, listed => Region.free .any ops listed k && (Region.ready .any ops listed).contains k && txCB ops J Lf fl held (listed.setIfInBounds k true)

theorem wpAnyJ_ordC {E : Act → World → Prop} {Lf : Array Bool} {n : Nat} (hs : Region.noSelect ops = true) (hQ : ∀ c a d v w, Q (.panic c) (Act.put a d v) w → Q (.panic c) a w) (hE : ∀ a w, E a w → wpAnyJ P .any ops Q S J n Lf a w) :
    ∀ (fl : List (Nat × Nat)) (held : Bool) (listed : Array Bool) (a : Act) (w : World), txCB ops J Lf fl held listed = true →
      (held = true → S w) → wpTxC P ops Q S E fl a w → wpAnyJ P .any ops Q S J (fl.length + n) listed a w
  | [], held, listed, a, w, hB, _, h => by
    have hB' : listed = Lf := by simpa [txCB] using hB
    subst hB'
    simpa using hE _ _ h
  | (k, f) :: fl, held, listed, a, w, hB, hS, h => by
    rw [show ((k, f) :: fl).length + n = fl.length + n + 1 by simp; omega]
    match f, hB, h with
    | 0, hB, h =>
      simp only [txCB, Bool.and_eq_true] at hB
      obtain ⟨⟨⟨⟨⟨hh, hdp⟩, hop⟩, hr⟩, hj⟩, hB⟩ := hB
      obtain ⟨o, h0, v, hy, h⟩ := h
      have ih := wpAnyJ_ordC hs hQ hE fl held (listed.setIfInBounds k true) (a.put o.dst v) w hB hS h
      exact wpAnyJ_first (T := S) (.inr rfl) h0 (Region.noSelect_spec hs) (fun c a w h => hQ c a _ _ w h) _ (depB_spec hdp) _ _ _ _ (fun j oj h1 h2 h3 h4 => ⟨(freeJ_spec h0 hj j oj h1 h2 h3 h4).1, .inr (freeJ_spec h0 hj j oj h1 h2 h3 h4).2⟩) (openB_spec hop) (by simpa using hr) hy (hS hh) ih
    | 1, hB, h =>
      simp only [txCB, Bool.and_eq_true, decide_eq_true_eq] at hB
      obtain ⟨hr, hB⟩ := hB
      obtain ⟨o, h0, hz⟩ := h
      have ih : ∀ a' w', (held = true → S w') → wpTxC P ops Q S E fl a' w' → wpAnyJ P .any ops Q S J (fl.length + n) (listed.setIfInBounds k true) a' w' := fun a' w' hS' h' =>
        wpAnyJ_ordC hs hQ hE fl held (listed.setIfInBounds k true) a' w' hB hS' h'
      refine ⟨fun e => (by rw [hr] at e; cases e), fun i hi => ?_⟩
      rw [hr] at hi
      simp only [List.mem_singleton] at hi
      subst hi
      unfold wpOp
      rw [h0]
      simp only
      by_cases hw : Region.wanted o (yielded ops a.tmps) = true
      · rw [if_pos hw] at hz ⊢
        exact .inl (Oper.wp_mono (fun a' w' h' => ⟨fun _ _ => h'.1, ih a' w' (fun _ => h'.1) h'.2⟩) hz)
      · rw [if_neg hw] at hz ⊢
        exact ⟨fun _ _ => hz.1, ih _ _ (fun _ => hz.1) hz.2⟩
    | 2, hB, h =>
      simp only [txCB, Bool.and_eq_true, decide_eq_true_eq, Bool.not_eq_true'] at hB
      obtain ⟨⟨hj, hr⟩, hB⟩ := hB
      obtain ⟨o, h0, hz⟩ := h
      have ih : ∀ a' w', wpTxC P ops Q S E fl a' w' → wpAnyJ P .any ops Q S J (fl.length + n) (listed.setIfInBounds k true) a' w' := fun a' w' h' =>
        wpAnyJ_ordC hs hQ hE fl false (listed.setIfInBounds k true) a' w' hB (fun e => by cases e) h'
      refine ⟨fun e => (by rw [hr] at e; cases e), fun i hi => ?_⟩
      rw [hr] at hi
      simp only [List.mem_singleton] at hi
      subst hi
      unfold wpOp
      rw [h0]
      simp only
      by_cases hw : Region.wanted o (yielded ops a.tmps) = true
      · rw [if_pos hw] at hz ⊢
        exact .inl (Oper.wp_mono (fun a' w' h' => ⟨fun e => (by rw [hj] at e; cases e), ih a' w' h'⟩) hz)
      · rw [if_neg hw] at hz ⊢
        exact ⟨fun e => (by rw [hj] at e; cases e), ih _ _ hz⟩
    | n + 3, hB, h =>
      simp only [txCB, Bool.and_eq_true] at hB
      obtain ⟨⟨hf, hr⟩, hB⟩ := hB
      obtain ⟨o, h0, v, hy, h⟩ := h
      have ih := wpAnyJ_ordC hs hQ hE fl held (listed.setIfInBounds k true) (a.put o.dst v) w hB hS h
      exact wpAnyJ_firstE h0 (Region.noSelect_spec hs) (fun c a w h => hQ c a _ _ w h) _ _ _ _ (Region.free_spec h0 hf) (by simpa using hr) hy ih

/-- A region that draws its order and doesn't panic, in an order of one's own for a while. -/
theorem wp_txC {id : Nat} {a : Act} {w : World} {L : List Oper} (J : Nat → Bool) (fl : List (Nat × Nat)) (n : Nat) (Lf : Array Bool) (S : World → Prop) (hm : P.follows .mixedOrders = true) (hs : Region.noSelect L.toArray = true)
    (hl : decide (fl.length + n = L.length) = true) (hB : txCB L.toArray J Lf fl true (Array.replicate L.toArray.size false) = true) (hS : S w.drew)
    (h : wpTxC P L.toArray (NoPan Q) S (fun a w => wpAnyJ P .any L.toArray (NoPan Q) S J n Lf a w) fl a w.drew) : (Code.region id L.toArray true).wp P Q a w := by
  refine wp_mono (Q := NoPan Q) (wp_region_any hm (wpAny_of_J (S := S) (J := J) _ _ _ _ ?_)) NoPan.imp
  have h1 := wpAnyJ_ordC (Q := NoPan Q) (J := J) (n := n) hs (fun _ _ _ _ _ h => (h : False).elim) (fun a w h => h) fl true _ a _ hB (fun _ => hS) h
  have h2 : fl.length + n = L.toArray.size := by simpa using hl
  rw [h2] at h1
  exact h1
/-- Two may come up. -/
theorem wpAnyJ_two {i j n : Nat} {listed : Array Bool} {a : Act} {w : World} (hr : Region.ready .any ops listed = [i, j])
    (hi : wpOp P ops Q i (fun a' w' => (J i = true → S w → S w') ∧ wpAnyJ P .any ops Q S J n (listed.setIfInBounds i true) a' w') a w)
    (hj : wpOp P ops Q j (fun a' w' => (J j = true → S w → S w') ∧ wpAnyJ P .any ops Q S J n (listed.setIfInBounds j true) a' w') a w) : wpAnyJ P .any ops Q S J (n + 1) listed a w :=
  ⟨fun e => (by rw [hr] at e; cases e), fun k hk => by
    rw [hr] at hk
    simp only [List.mem_cons, List.not_mem_nil, or_false] at hk
    rcases hk with rfl | rfl
    · exact hi
    · exact hj⟩
/-- It is picked. -/
theorem wpOp_pick {i n : Nat} {oi : Oper} {Lf : Array Bool} {a : Act} {w : World} (h0 : ops[i]? = some oi) (hw : Region.wanted oi (yielded ops a.tmps) = true)
    (h : ∀ K : Act → World → Prop, (∀ a' w', S w' → wpAnyJ P .any ops Q S J n Lf a' w' → K a' w') → oi.wp P a w K Q) : wpOp P ops Q i (fun a' w' => (J i = true → S w → S w') ∧ wpAnyJ P .any ops Q S J n Lf a' w') a w := by
  unfold wpOp
  rw [h0]
  simp only
  rw [if_pos hw]
  exact .inl (h _ (fun a' w' h1 h2 => ⟨fun _ _ => h1, h2⟩))
/-- The rest in an order of one's own. -/
theorem wpAnyJ_rest {L : List Oper} {a : Act} {w : World} {listed : Array Bool} {n : Nat} (fl : List (Nat × Nat)) (hn : decide (fl.length = n) = true) (hs : Region.noSelect L.toArray = true) (hB : txOB L.toArray J fl false listed = true)
    (h : wpTxO P L.toArray (NoPan Q) S fl a w) : wpAnyJ P .any L.toArray (NoPan Q) S J n listed a w := by
  have h1 := wpAnyJ_ord (Q := NoPan Q) (J := J) hs (fun _ _ _ _ _ h => (h : False).elim) fl false listed a w hB (fun e => by cases e) h
  rw [show fl.length = n by simpa using hn] at h1
  exact h1
end
end Go.Proofs.YtmflhidmhefljaaDoor
end
