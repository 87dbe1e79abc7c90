/-
  A region that draws its order, in an order of one's own for a while; then whatever order is picked.
  ChestKeeps: where a note that is kept is written down (a region that draws its order).
-/
import Derived.Test.YtohadeijmmmcdaaDoorTxtO
import Derived.Test.YtohadeijmmmcdaaDoorKpU

section
section
namespace Go.Proofs.YtohadeijmmmcdaaDoor
open Go

section
variable {P : Program} {ops : Array Oper} {Q : Exit → Act → World → Prop} {S : World → Prop} {J : Nat → Bool} {md : Region.Mode}

def wpTxC (P : Program) (ops : Array Oper) (Q : Exit → Act → World → Prop) (S : World → Prop) (E : Act → World → Prop) : List (Nat × Nat) → Act → World → Prop
  | [], a, w => E a w
  | (k, 0) :: fl, a, w => ∃ o, ops[k]? = some o ∧ ∃ v, YieldsIf P ops S o v a ∧ wpTxC P ops Q S E fl (a.put o.dst v) w
  | (k, 1) :: fl, a, w => ∃ o, ops[k]? = some o ∧ if Region.wanted o (yielded ops a.tmps) = true then o.wp P a w (fun a' w' => S w' ∧ wpTxC P ops Q S E fl a' w') Q else S w ∧ wpTxC P ops Q S E fl (a.put o.dst undef) w
  | (k, 2) :: fl, a, w => ∃ o, ops[k]? = some o ∧ if Region.wanted o (yielded ops a.tmps) = true then o.wp P a w (fun a' w' => wpTxC P ops Q S E fl a' w') Q else wpTxC P ops Q S E fl (a.put o.dst undef) w
  | (k, _) :: fl, a, w => ∃ o, ops[k]? = some o ∧ ∃ v, YieldsIf P ops (fun _ => True) o v a ∧ wpTxC P ops Q S E fl (a.put o.dst v) w

section
variable {fl : List (Nat × Nat)} {E : Act → World → Prop} {k : Nat} {o : Oper} {a : Act} {w : World}
theorem wpTxC_evN {v : Value} {a' : Act} (ho : ops[k]? = some o) (hw : Region.wanted o (yielded ops a.tmps) = true) (hy : ∀ W, (execOp a.eval o).run P W = .ok (.value v) W) (ha : a.put o.dst v = a') (h : wpTxC P ops Q S E fl a' w) : wpTxC P ops Q S E ((k, 3) :: fl) a w :=
  ⟨o, ho, v, .inl ⟨hw, fun W _ => hy W⟩, ha ▸ h⟩
theorem wpTxC_takeN {v : Value} {a' : Act} (ho : ops[k]? = some o) (hw : Region.wanted o (yielded ops a.tmps) = true) (hy : ∀ W, S W → (execOp a.eval o).run P W = .ok (.value v) W) (ha : a.put o.dst v = a') (h : wpTxC P ops Q S E fl a' w) : wpTxC P ops Q S E ((k, 0) :: fl) a w :=
  ⟨o, ho, v, .inl ⟨hw, hy⟩, ha ▸ h⟩
theorem wpTxC_nil (h : E a w) : wpTxC P ops Q S E [] a w := h
theorem wpTxC_want (ho : ops[k]? = some o) (hw : Region.wanted o (yielded ops a.tmps) = true) (h : ∀ K : Act → World → Prop, (∀ a' w', S w' → wpTxC P ops Q S E fl a' w' → K a' w') → o.wp P a w K Q) : wpTxC P ops Q S E ((k, 1) :: fl) a w := by
  refine ⟨o, ho, ?_⟩
  rw [if_pos hw]
  exact h _ (fun a' w' h1 h2 => ⟨h1, h2⟩)
theorem wpTxC_last (ho : ops[k]? = some o) (hw : Region.wanted o (yielded ops a.tmps) = true) (h : ∀ K : Act → World → Prop, (∀ a' w', wpTxC P ops Q S E fl a' w' → K a' w') → o.wp P a w K Q) : wpTxC P ops Q S E ((k, 2) :: fl) a w := by
  refine ⟨o, ho, ?_⟩
  rw [if_pos hw]
  exact h _ (fun a' w' h2 => h2)
end

/-- What is to be checked of a region. -/
def txCB (ops : Array Oper) (J : Nat → Bool) (Lf : Array Bool) : List (Nat × Nat) → Bool → Array Bool → Bool
  | [], _, listed => decide (listed = Lf)
  | (k, 0) :: fl, held, listed =>
    held && depB .any ops k (fun j => (waitsFor .any ops k ops.size #[]).getD j false) && openB (fun j => (waitsFor .any ops k ops.size #[]).getD j false) listed listed.size && (Region.ready .any ops listed).contains k &&
      freeJB ops J (fun j => (waitsFor .any ops k ops.size #[]).getD j false) listed k && txCB ops J Lf fl held (listed.setIfInBounds k true)
  | (k, 1) :: fl, held, listed => decide (Region.ready .any ops listed = [k]) && txCB ops J Lf fl held (listed.setIfInBounds k true)
  | (k, 2) :: fl, _, listed => !(J k) && decide (Region.ready .any ops listed = [k]) && txCB ops J Lf fl false (listed.setIfInBounds k true)
  | (k, _) :: fl, held, listed => Region.free .any ops listed k && (Region.ready .any ops listed).contains k && txCB ops J Lf fl held (listed.setIfInBounds k true)

theorem wpAnyJ_ordC {E : Act → World → Prop} {Lf : Array Bool} {n : Nat} (hs : Region.noSelect ops = true) (hQ : ∀ c a d v w, Q (.panic c) (Act.put a d v) w → Q (.panic c) a w) (hE : ∀ a w, E a w → wpAnyJ P .any ops Q S J n Lf a w) :
    ∀ (fl : List (Nat × Nat)) (held : Bool) (listed : Array Bool) (a : Act) (w : World), txCB ops J Lf fl held listed = true →
      (held = true → S w) → wpTxC P ops Q S E fl a w → wpAnyJ P .any ops Q S J (fl.length + n) listed a w
  | [], held, listed, a, w, hB, _, h => by
    have hB' : listed = Lf := by simpa [txCB] using hB
    subst hB'
    simpa using hE _ _ h
  | (k, f) :: fl, held, listed, a, w, hB, hS, h => by
    rw [show ((k, f) :: fl).length + n = fl.length + n + 1 by simp; omega]
    match f, hB, h with
    | 0, hB, h =>
      simp only [txCB, Bool.and_eq_true] at hB
      obtain ⟨⟨⟨⟨⟨hh, hdp⟩, hop⟩, hr⟩, hj⟩, hB⟩ := hB
      obtain ⟨o, h0, v, hy, h⟩ := h
      have ih := wpAnyJ_ordC hs hQ hE fl held (listed.setIfInBounds k true) (a.put o.dst v) w hB hS h
      exact wpAnyJ_first (T := S) (.inr rfl) h0 (Region.noSelect_spec hs) (fun c a w h => hQ c a _ _ w h) _ (depB_spec hdp) _ _ _ _ (fun j oj h1 h2 h3 h4 => ⟨(freeJ_spec h0 hj j oj h1 h2 h3 h4).1, .inr (freeJ_spec h0 hj j oj h1 h2 h3 h4).2⟩) (openB_spec hop) (by simpa using hr) hy (hS hh) ih
    | 1, hB, h =>
      simp only [txCB, Bool.and_eq_true, decide_eq_true_eq] at hB
      obtain ⟨hr, hB⟩ := hB
      obtain ⟨o, h0, hz⟩ := h
      have ih : ∀ a' w', (held = true → S w') → wpTxC P ops Q S E fl a' w' → wpAnyJ P .any ops Q S J (fl.length + n) (listed.setIfInBounds k true) a' w' := fun a' w' hS' h' =>
        wpAnyJ_ordC hs hQ hE fl held (listed.setIfInBounds k true) a' w' hB hS' h'
      refine ⟨fun e => (by rw [hr] at e; cases e), fun i hi => ?_⟩
      rw [hr] at hi
      simp only [List.mem_singleton] at hi
      subst hi
      unfold wpOp
      rw [h0]
      simp only
      by_cases hw : Region.wanted o (yielded ops a.tmps) = true
      · rw [if_pos hw] at hz ⊢
        exact .inl (Oper.wp_mono (fun a' w' h' => ⟨fun _ _ => h'.1, ih a' w' (fun _ => h'.1) h'.2⟩) hz)
      · rw [if_neg hw] at hz ⊢
        exact ⟨fun _ _ => hz.1, ih _ _ (fun _ => hz.1) hz.2⟩
    | 2, hB, h =>
      simp only [txCB, Bool.and_eq_true, decide_eq_true_eq, Bool.not_eq_true'] at hB
      obtain ⟨⟨hj, hr⟩, hB⟩ := hB
      obtain ⟨o, h0, hz⟩ := h
      have ih : ∀ a' w', wpTxC P ops Q S E fl a' w' → wpAnyJ P .any ops Q S J (fl.length + n) (listed.setIfInBounds k true) a' w' := fun a' w' h' =>
        wpAnyJ_ordC hs hQ hE fl false (listed.setIfInBounds k true) a' w' hB (fun e => by cases e) h'
      refine ⟨fun e => (by rw [hr] at e; cases e), fun i hi => ?_⟩
      rw [hr] at hi
      simp only [List.mem_singleton] at hi
      subst hi
      unfold wpOp
      rw [h0]
      simp only
      by_cases hw : Region.wanted o (yielded ops a.tmps) = true
      · rw [if_pos hw] at hz ⊢
        exact .inl (Oper.wp_mono (fun a' w' h' => ⟨fun e => (by rw [hj] at e; cases e), ih a' w' h'⟩) hz)
      · rw [if_neg hw] at hz ⊢
        exact ⟨fun e => (by rw [hj] at e; cases e), ih _ _ hz⟩
    | n + 3, hB, h =>
      simp only [txCB, Bool.and_eq_true] at hB
      obtain ⟨⟨hf, hr⟩, hB⟩ := hB
      obtain ⟨o, h0, v, hy, h⟩ := h
      have ih := wpAnyJ_ordC hs hQ hE fl held (listed.setIfInBounds k true) (a.put o.dst v) w hB hS h
      exact wpAnyJ_firstE h0 (Region.noSelect_spec hs) (fun c a w h => hQ c a _ _ w h) _ _ _ _ (Region.free_spec h0 hf) (by simpa using hr) hy ih

/-- A region that draws its order and doesn't panic, in an order of one's own for a while. -/
theorem wp_txC {id : Nat} {a : Act} {w : World} {L : List Oper} (J : Nat → Bool) (fl : List (Nat × Nat)) (n : Nat) (Lf : Array Bool) (S : World → Prop) (hm : P.follows .mixedOrders = true) (hs : Region.noSelect L.toArray = true)
    (hl : decide (fl.length + n = L.length) = true) (hB : txCB L.toArray J Lf fl true (Array.replicate L.toArray.size false) = true) (hS : S w.drew)
    (h : wpTxC P L.toArray (NoPan Q) S (fun a w => wpAnyJ P .any L.toArray (NoPan Q) S J n Lf a w) fl a w.drew) : (Code.region id L.toArray true).wp P Q a w := by
  refine wp_mono (Q := NoPan Q) (wp_region_any hm (wpAny_of_J (S := S) (J := J) _ _ _ _ ?_)) NoPan.imp
  have h1 := wpAnyJ_ordC (Q := NoPan Q) (J := J) (n := n) hs (fun _ _ _ _ _ h => (h : False).elim) (fun a w h => h) fl true _ a _ hB (fun _ => hS) h
  have h2 : fl.length + n = L.toArray.size := by simpa using hl
  rw [h2] at h1
  exact h1
/-- Two may come up. -/
theorem wpAnyJ_two {i j n : Nat} {listed : Array Bool} {a : Act} {w : World} (hr : Region.ready .any ops listed = [i, j])
    (hi : wpOp P ops Q i (fun a' w' => (J i = true → S w → S w') ∧ wpAnyJ P .any ops Q S J n (listed.setIfInBounds i true) a' w') a w)
    (hj : wpOp P ops Q j (fun a' w' => (J j = true → S w → S w') ∧ wpAnyJ P .any ops Q S J n (listed.setIfInBounds j true) a' w') a w) : wpAnyJ P .any ops Q S J (n + 1) listed a w :=
  ⟨fun e => (by rw [hr] at e; cases e), fun k hk => by
    rw [hr] at hk
    simp only [List.mem_cons, List.not_mem_nil, or_false] at hk
    rcases hk with rfl | rfl
    · exact hi
    · exact hj⟩
/-- It is picked. -/
theorem wpOp_pick {i n : Nat} {oi : Oper} {Lf : Array Bool} {a : Act} {w : World} (h0 : ops[i]? = some oi) (hw : Region.wanted oi (yielded ops a.tmps) = true)
    (h : ∀ K : Act → World → Prop, (∀ a' w', S w' → wpAnyJ P .any ops Q S J n Lf a' w' → K a' w') → oi.wp P a w K Q) : wpOp P ops Q i (fun a' w' => (J i = true → S w → S w') ∧ wpAnyJ P .any ops Q S J n Lf a' w') a w := by
  unfold wpOp
  rw [h0]
  simp only
  rw [if_pos hw]
  exact .inl (h _ (fun a' w' h1 h2 => ⟨fun _ _ => h1, h2⟩))
/-- The rest in an order of one's own. -/
theorem wpAnyJ_rest {L : List Oper} {a : Act} {w : World} {listed : Array Bool} {n : Nat} (fl : List (Nat × Nat)) (hn : decide (fl.length = n) = true) (hs : Region.noSelect L.toArray = true) (hB : txOB L.toArray J fl false listed = true)
    (h : wpTxO P L.toArray (NoPan Q) S fl a w) : wpAnyJ P .any L.toArray (NoPan Q) S J n listed a w := by
  have h1 := wpAnyJ_ord (Q := NoPan Q) (J := J) hs (fun _ _ _ _ _ h => (h : False).elim) fl false listed a w hB (fun e => by cases e) h
  rw [show fl.length = n by simpa using hn] at h1
  exact h1
end
end Go.Proofs.YtohadeijmmmcdaaDoor
end
end

section
namespace Go.Proofs.YtohadeijmmmcdaaDoor
open Go Go.RowKit Machine
set_option maxRecDepth 100000

def findReg14 (n : Nat) : Code → Option Code
  | .region id ops d => if id = n then some (.region id ops d) else none
  | .seq a b => match findReg14 n a with
    | some c => some c
    | none => findReg14 n b
  | .block _ c => findReg14 n c
  | .loop c => findReg14 n c
  | .scope c => findReg14 n c
  | .cond _ a b => match findReg14 n a with
    | some c => some c
    | none => findReg14 n b
  | _ => none

section
attribute [local go_sem ↓] apt33_of
set_option maxHeartbeats 16000000 in
theorem keeps_r28 {Q : Exit → Act → World → Prop} {c0 c1 c2 c3 c4 c5 c8 c9 c10 c12 c13 c14 c15 c16 c17 c18 c19 c20 c21 c22 c23 c24 c25 c26 c27 c28 c29 c30 c31 c32 c33 c34 c35 c36 c37 c38 c39 c40 c41 c42 c43 c44 c45 c46 c47 c48 c49 c50 c51 c52 c53 c54 c55 c56 c57 c58 c59 c60 c61 c62 c63 c64 c65 c66 c67 c68 c69 c70 c71 c72 c73 c74 c75 c76 c77 c78 c79 c80 c81 c82 c83 c84 c85 c86 c87 c88 c89 c90 c91 c92 c93 c94 c95 c96 c97 c98 c99 c100 c101 c102 c103 c104 c105 c106 c107 c108 c109 c110 c111 c112 c113 c114 c115 c116 c117 c118 c119 c120 c121 c122 c123 c124 c125 c126 c127 c128 c129 c130 c131 c132 c133 c134 c135 c136 c137 c138 c139 c140 c141 c142 c143 c144 c145 c146 c147 c148 c149 c150 c151 c152 c153 c154 c155 c156 c157 c158 c159 c160 c161 c162 c163 c164 c165 c166 c167 c168 c169 c170 c171 c172 c173 c174 c175 c176 c177 c178 c179 c180 c181 c182 c183 c184 c185 c186 c187 : Value} {g m ct cur g8 nb cb p gs i r T k m0 e0 : Nat} {AB A0 : Option Addr} {w w0 : World} (c : Code) (hcode : (Tryd.f13.body.bind (findReg14 28)).getD .skip = c) {W9 : World} (hW9 : w.drew = W9) (hcl : cur < m) (hce : W9.cell? ⟨g, cur * 2 + 1, none⟩ = some (.slice A0 m0 e0)) (hgl : g < W9.heap.size) (hk2 : W9.cell? ⟨g8, 2, none⟩ = some (.slice AB nb cb)) (hg8 : g8 < W9.heap.size)
    (eA : ∃ A1 c1 w1 A3 c3 w3, (APs #[33, 33] 33 #[.slice (some ⟨W9.heap.size, 0, none⟩) 0 0, .slice A0 m0 e0]).run Tryd.prog (W9.alloc (.cells #[] 22)) = .ok (.slice A1 m0 c1) w1 ∧
        (APs #[33, 33] 33 #[.slice A1 m0 c1, .slice (some ⟨w1.heap.size, 0, none⟩) 1 1]).run Tryd.prog (w1.alloc (.cells #[.slice AB nb cb] 22)) = .ok (.slice A3 (m0 + 1) c3) w3 ∧ Below W9.heap.size W9 w1 ∧ PutEnd w0 p gs i r T k cur g m ct W9 w3 A3 m0 c3)
    (eB : ∃ A1 c1 w1 A3 c3 w3, (APs #[33, 33] 33 #[.slice (some ⟨W9.heap.size, 0, none⟩) 0 0, .slice A0 m0 e0]).run Tryd.prog ((W9.alloc (.cells #[] 22)).alloc (.cells #[.slice AB nb cb] 22)) = .ok (.slice A1 m0 c1) w1 ∧
        (APs #[33, 33] 33 #[.slice A1 m0 c1, .slice (some ⟨W9.heap.size + 1, 0, none⟩) 1 1]).run Tryd.prog w1 = .ok (.slice A3 (m0 + 1) c3) w3 ∧ Below W9.heap.size W9 w1 ∧ PutEnd w0 p gs i r T k cur g m ct W9 w3 A3 m0 c3)
    (eC : ∃ A1 c1 w1 A3 c3 w3, (APs #[33, 33] 33 #[.slice (some ⟨W9.heap.size + 1, 0, none⟩) 0 0, .slice A0 m0 e0]).run Tryd.prog ((W9.alloc (.cells #[.slice AB nb cb] 22)).alloc (.cells #[] 22)) = .ok (.slice A1 m0 c1) w1 ∧
        (APs #[33, 33] 33 #[.slice A1 m0 c1, .slice (some ⟨W9.heap.size, 0, none⟩) 1 1]).run Tryd.prog w1 = .ok (.slice A3 (m0 + 1) c3) w3 ∧ Below W9.heap.size W9 w1 ∧ PutEnd w0 p gs i r T k cur g m ct W9 w3 A3 m0 c3)
    (h : ∀ (x114 x115 x116 x117 x118 x119 x120 x121 x122 x123 x124 x125 x126 x127 x128 : Value) (w' : World) (_ : KpR w0 p gs i r T k cur g m ct w'), Q .normal ⟨#[c0, c1, c2, c3, c4, c5, .slice (some ⟨g, 0, none⟩) m ct, .int .i64 (cur : Int), c8, c9, c10, .pointer (some ⟨g8, 0, none⟩), c12, c13, c14, c15, c16, c17, c18, c19, c20, c21, c22, c23, c24, c25, c26, c27, c28, c29, c30, c31, c32, c33, c34, c35, c36, c37, c38, c39, c40, c41, c42, c43, c44, c45, c46, c47, c48, c49, c50, c51, c52, c53, c54, c55, c56, c57, c58, c59, c60, c61, c62, c63, c64, c65, c66, c67, c68, c69, c70, c71, c72, c73, c74, c75, c76, c77, c78, c79, c80, c81, c82, c83, c84, c85, c86, c87, c88, c89, c90, c91, c92, c93, c94, c95, c96, c97, c98, c99, c100, c101, c102, c103, c104, c105, c106, c107, c108, c109, c110, c111, c112, c113, x114, x115, x116, x117, x118, x119, x120, x121, x122, x123, x124, x125, x126, x127, x128, c129, c130, c131, c132, c133, c134, c135, c136, c137, c138, c139, c140, c141, c142, c143, c144, c145, c146, c147, c148, c149, c150, c151, c152, c153, c154, c155, c156, c157, c158, c159, c160, c161, c162, c163, c164, c165, c166, c167, c168, c169, c170, c171, c172, c173, c174, c175, c176, c177, c178, c179, c180, c181, c182, c183, c184, c185, c186, c187], []⟩ w') :
    Code.wp Tryd.prog c Q ⟨#[c0, c1, c2, c3, c4, c5, .slice (some ⟨g, 0, none⟩) m ct, .int .i64 (cur : Int), c8, c9, c10, .pointer (some ⟨g8, 0, none⟩), c12, c13, c14, c15, c16, c17, c18, c19, c20, c21, c22, c23, c24, c25, c26, c27, c28, c29, c30, c31, c32, c33, c34, c35, c36, c37, c38, c39, c40, c41, c42, c43, c44, c45, c46, c47, c48, c49, c50, c51, c52, c53, c54, c55, c56, c57, c58, c59, c60, c61, c62, c63, c64, c65, c66, c67, c68, c69, c70, c71, c72, c73, c74, c75, c76, c77, c78, c79, c80, c81, c82, c83, c84, c85, c86, c87, c88, c89, c90, c91, c92, c93, c94, c95, c96, c97, c98, c99, c100, c101, c102, c103, c104, c105, c106, c107, c108, c109, c110, c111, c112, c113, c114, c115, c116, c117, c118, c119, c120, c121, c122, c123, c124, c125, c126, c127, c128, c129, c130, c131, c132, c133, c134, c135, c136, c137, c138, c139, c140, c141, c142, c143, c144, c145, c146, c147, c148, c149, c150, c151, c152, c153, c154, c155, c156, c157, c158, c159, c160, c161, c162, c163, c164, c165, c166, c167, c168, c169, c170, c171, c172, c173, c174, c175, c176, c177, c178, c179, c180, c181, c182, c183, c184, c185, c186, c187], []⟩ w := by
  subst hcode
  conv => arg 2; whnf
  have EA := Lib.hid eA
  have EB := Lib.hid eB
  have EC := Lib.hid eC
  have hclI : (cur : Int) < (m : Int) := by omega
  let S0 : World → Prop := fun X => X.cell? ⟨g, cur * 2 + 1, none⟩ = some (.slice A0 m0 e0) ∧ X.cell? ⟨g8, 2, none⟩ = some (.slice AB nb cb)
  have hS : ∀ X, Below W9.heap.size W9 X → S0 X := fun X hX => ⟨(hX.cell (p := ⟨g, cur * 2 + 1, none⟩) hgl).trans hce, (hX.cell (p := ⟨g8, 2, none⟩) hg8).trans hk2⟩
  have HS := Lib.hid hS
  have HW9 := Lib.hid hW9
  clear eA eB eC hS hce hgl hk2 hg8 hW9
  refine wp_txC (fun i => i != 12 && i != 15) [(0, 3), (1, 3), (3, 3), (4, 3), (5, 3), (6, 3), (9, 3), (7, 0), (10, 0)] 7 #[true, true, false, true, true, true, true, true, false, true, true, false, false, false, false, false] S0 (by kernel_rfl) (by kernel_rfl) (by kernel_rfl) (by kernel_rfl) (by rw [HW9.out]; exact HS.out _ (Below.refl _ _)) ?_
  rw [HW9.out]
  iterate 7 (with_reducible refine wpTxC_evN (o := ?_) (v := ?_) (a' := ?_) (by with_unfolding_all rfl) (by with_unfolding_all rfl) (fun W' => ?_) ?_ ?_; rotate_left 2; (focus (go_simp <;> with_reducible rfl)); focus (go_simp <;> with_reducible rfl))
  iterate 2 (with_reducible refine wpTxC_takeN (o := ?_) (v := ?_) (a' := ?_) (by with_unfolding_all rfl) (by with_unfolding_all rfl) (fun W' hS' => ?_) ?_ ?_; rotate_left 2; (focus (obtain ⟨j0, j1⟩ := hS'; go_simp <;> with_reducible rfl)); focus (go_simp <;> with_reducible rfl))
  with_reducible refine wpTxC_nil ?_
  refine wpAnyJ_two (i := 2) (j := 11) (by kernel_rfl) ?_ ?_
  focus
    with_reducible refine wpOp_pick (J := fun i => i != 12 && i != 15) (oi := ?_) (by with_unfolding_all rfl) (by with_unfolding_all rfl) (fun K hK => ?_)
    simp only [List.getElem_toArray, List.getElem_cons_succ, List.getElem_cons_zero]
    go_simp
    with_reducible refine hK _ _ (HS.out _ ((Below.refl _ _).alloc (Nat.le_refl _) _)) ?_
    clear hK K
    refine wpAnyJ_two (i := 8) (j := 11) (by kernel_rfl) ?_ ?_
    focus
      obtain ⟨A1, e1, w10, A3, e3, w11, r1, r2, hb1, hb3, ⟨xo, hxo⟩, hfo, hkr⟩ := EA.out
      with_reducible refine wpOp_pick (J := fun i => i != 12 && i != 15) (oi := ?_) (by with_unfolding_all rfl) (by with_unfolding_all rfl) (fun K hK => ?_)
      simp only [List.getElem_toArray, List.getElem_cons_succ, List.getElem_cons_zero]
      go_simp
      with_reducible refine hK _ _ (HS.out _ hb1) ?_
      clear hK K
      refine wpAnyJ_rest [(11, 1), (12, 2), (13, 3), (14, 3), (15, 2)] (by kernel_rfl) (by kernel_rfl) (by kernel_rfl) ?_
      with_reducible refine wpTxO_want (o := ?_) (by with_unfolding_all rfl) (by with_unfolding_all rfl) (fun K hK => ?_)
      simp only [List.getElem_toArray, List.getElem_cons_succ, List.getElem_cons_zero]
      go_simp
      with_reducible refine hK _ _ (HS.out _ (hb1.alloc hb1.size _)) ?_
      clear hK K
      with_reducible refine wpTxO_last (o := ?_) (by with_unfolding_all rfl) (by with_unfolding_all rfl) (fun K hK => ?_)
      simp only [List.getElem_toArray, List.getElem_cons_succ, List.getElem_cons_zero]
      go_simp
      with_reducible refine hK _ _ ?_
      clear hK K
      iterate 2 (with_reducible refine wpTxO_evN (o := ?_) (v := ?_) (a' := ?_) (by with_unfolding_all rfl) (by with_unfolding_all rfl) (fun W' => ?_) ?_ ?_; rotate_left 2; (focus (go_simp <;> with_reducible rfl)); focus (go_simp <;> with_reducible rfl))
      with_reducible refine wpTxO_last (o := ?_) (by with_unfolding_all rfl) (by with_unfolding_all rfl) (fun K hK => ?_)
      simp only [List.getElem_toArray, List.getElem_cons_succ, List.getElem_cons_zero]
      go_simp
      with_reducible refine hK _ _ ?_
      clear hK K
      with_reducible refine wpTxO_nil ?_
      rw [noPan_normal]
      exact h _ _ _ _ _ _ _ _ _ _ _ _ _ _ _ _ hkr
    focus
      obtain ⟨A1, e1, w10, A3, e3, w11, r1, r2, hb1, hb3, ⟨xo, hxo⟩, hfo, hkr⟩ := EB.out
      with_reducible refine wpOp_pick (J := fun i => i != 12 && i != 15) (oi := ?_) (by with_unfolding_all rfl) (by with_unfolding_all rfl) (fun K hK => ?_)
      simp only [List.getElem_toArray, List.getElem_cons_succ, List.getElem_cons_zero]
      go_simp
      with_reducible refine hK _ _ (HS.out _ (((Below.refl _ _).alloc (Nat.le_refl _) _).alloc (by simp) _)) ?_
      clear hK K
      refine wpAnyJ_rest [(8, 1), (12, 2), (13, 3), (14, 3), (15, 2)] (by kernel_rfl) (by kernel_rfl) (by kernel_rfl) ?_
      with_reducible refine wpTxO_want (o := ?_) (by with_unfolding_all rfl) (by with_unfolding_all rfl) (fun K hK => ?_)
      simp only [List.getElem_toArray, List.getElem_cons_succ, List.getElem_cons_zero]
      go_simp
      with_reducible refine hK _ _ (HS.out _ hb1) ?_
      clear hK K
      with_reducible refine wpTxO_last (o := ?_) (by with_unfolding_all rfl) (by with_unfolding_all rfl) (fun K hK => ?_)
      simp only [List.getElem_toArray, List.getElem_cons_succ, List.getElem_cons_zero]
      go_simp
      with_reducible refine hK _ _ ?_
      clear hK K
      iterate 2 (with_reducible refine wpTxO_evN (o := ?_) (v := ?_) (a' := ?_) (by with_unfolding_all rfl) (by with_unfolding_all rfl) (fun W' => ?_) ?_ ?_; rotate_left 2; (focus (go_simp <;> with_reducible rfl)); focus (go_simp <;> with_reducible rfl))
      with_reducible refine wpTxO_last (o := ?_) (by with_unfolding_all rfl) (by with_unfolding_all rfl) (fun K hK => ?_)
      simp only [List.getElem_toArray, List.getElem_cons_succ, List.getElem_cons_zero]
      go_simp
      with_reducible refine hK _ _ ?_
      clear hK K
      with_reducible refine wpTxO_nil ?_
      rw [noPan_normal]
      exact h _ _ _ _ _ _ _ _ _ _ _ _ _ _ _ _ hkr
  focus
    obtain ⟨A1, e1, w10, A3, e3, w11, r1, r2, hb1, hb3, ⟨xo, hxo⟩, hfo, hkr⟩ := EC.out
    with_reducible refine wpOp_pick (J := fun i => i != 12 && i != 15) (oi := ?_) (by with_unfolding_all rfl) (by with_unfolding_all rfl) (fun K hK => ?_)
    simp only [List.getElem_toArray, List.getElem_cons_succ, List.getElem_cons_zero]
    go_simp
    with_reducible refine hK _ _ (HS.out _ ((Below.refl _ _).alloc (Nat.le_refl _) _)) ?_
    clear hK K
    refine wpAnyJ_rest [(2, 1), (8, 1), (12, 2), (13, 3), (14, 3), (15, 2)] (by kernel_rfl) (by kernel_rfl) (by kernel_rfl) ?_
    with_reducible refine wpTxO_want (o := ?_) (by with_unfolding_all rfl) (by with_unfolding_all rfl) (fun K hK => ?_)
    simp only [List.getElem_toArray, List.getElem_cons_succ, List.getElem_cons_zero]
    go_simp
    with_reducible refine hK _ _ (HS.out _ (((Below.refl _ _).alloc (Nat.le_refl _) _).alloc (by simp) _)) ?_
    clear hK K
    with_reducible refine wpTxO_want (o := ?_) (by with_unfolding_all rfl) (by with_unfolding_all rfl) (fun K hK => ?_)
    simp only [List.getElem_toArray, List.getElem_cons_succ, List.getElem_cons_zero]
    go_simp
    with_reducible refine hK _ _ (HS.out _ hb1) ?_
    clear hK K
    with_reducible refine wpTxO_last (o := ?_) (by with_unfolding_all rfl) (by with_unfolding_all rfl) (fun K hK => ?_)
    simp only [List.getElem_toArray, List.getElem_cons_succ, List.getElem_cons_zero]
    go_simp
    with_reducible refine hK _ _ ?_
    clear hK K
    iterate 2 (with_reducible refine wpTxO_evN (o := ?_) (v := ?_) (a' := ?_) (by with_unfolding_all rfl) (by with_unfolding_all rfl) (fun W' => ?_) ?_ ?_; rotate_left 2; (focus (go_simp <;> with_reducible rfl)); focus (go_simp <;> with_reducible rfl))
    with_reducible refine wpTxO_last (o := ?_) (by with_unfolding_all rfl) (by with_unfolding_all rfl) (fun K hK => ?_)
    simp only [List.getElem_toArray, List.getElem_cons_succ, List.getElem_cons_zero]
    go_simp
    with_reducible refine hK _ _ ?_
    clear hK K
    with_reducible refine wpTxO_nil ?_
    rw [noPan_normal]
    exact h _ _ _ _ _ _ _ _ _ _ _ _ _ _ _ _ hkr

end
end Go.Proofs.YtohadeijmmmcdaaDoor
end
