/-
  A row of words of one's own, of whatever integer kind; a row of words that is read.
  A row of records of m cells, of one's own; a row of records that is read.
  Structs and slices put together, whatever their fields.
-/
import Derived.Test.YtdkanehjahpehaaGreatDoorJBytA
import Derived.Great.BuildSlice

section
namespace Go.Proofs.YtdkanehjahpehaaGreatDoor
open Go.RowKit Go.Shelf
set_option maxRecDepth 100000

def wds (q : IntKind) (l : List Int) : List Value := l.map (Value.int q)
theorem wds_len (q : IntKind) (l : List Int) : (wds q l).length = l.length := by simp [wds]
theorem wds_one (q : IntKind) (l : List Int) : ∀ v ∈ wds q l, v.oneCell' = true := by
  intro v hv
  obtain ⟨x, _, rfl⟩ := List.mem_map.1 hv
  rfl
theorem wds_get (q : IntKind) (l : List Int) (j : Nat) : (wds q l)[j]? = (l[j]?).map (Value.int q) := by simp [wds]
/-- From A on lie the words l. -/
def RdW (q : IntKind) (w : World) (A : Option Addr) (l : List Int) : Prop := 0 < l.length → ∃ g off, A = some ⟨g, off, none⟩ ∧ g < w.heap.size ∧ ∀ j x, l[j]? = some x → w.cell? ⟨g, off + j, none⟩ = some (.int q x)
theorem RdW.below {q : IntKind} {w w' : World} {A : Option Addr} {l : List Int} (h : RdW q w A l) (hb : Below w.heap.size w w') : RdW q w' A l := fun h0 => by
  obtain ⟨g, off, e, hg, hc⟩ := h h0
  exact ⟨g, off, e, Nat.lt_of_lt_of_le hg hb.size, fun j x hx => (hb.cell (p := ⟨g, off + j, none⟩) hg).trans (hc j x hx)⟩
theorem RdW.blk {q : IntKind} {w : World} {g : Nat} {t : TypeId} {l : List Int} (h : Blk w g t (wds q l).toArray) : RdW q w (some ⟨g, 0, none⟩) l := fun _ =>
  ⟨g, 0, rfl, h.lt, fun j x hx => by rw [Nat.zero_add, h.cell j]; simp [wds_get, hx]⟩
theorem RdW.nil (q : IntKind) (w : World) (A : Option Addr) : RdW q w A [] := fun h => absurd h (by simp)

/-- The slice v has the words l, in a row of one's own. -/
def OwnW (e : TypeId) (q : IntKind) (B : Nat) (w : World) (v : Value) (l : List Int) : Prop := w.ownsRow B e 1 v l.length (wds q l)
section
variable {P : Program} {e t ty : TypeId} {q : IntKind} {B bytes : Nat} {w w' : World} {v : Value} {l : List Int}
theorem OwnW.nil (e : TypeId) (q : IntKind) (B : Nat) (w : World) : OwnW e q B w (.slice none 0 0) [] := World.ownsRow_nil _ _ _ _
theorem OwnW.fr {F : Nat → Prop} (h : OwnW e q B w v l) (hf : Fr F w w') (hn : ∀ k, v.ownBlock = some k → ¬ F k) : OwnW e q B w' v l := own_fr h hf hn
theorem OwnW.below {n₀ : Nat} (h : OwnW e q B w v l) (hb : Below n₀ w w') (hn : ∀ k, v.ownBlock = some k → k < n₀) : OwnW e q B w' v l := h.fr (Fr.of_below hb) (fun k hk f => by have := hn k hk; omega)
theorem OwnW.form (h : OwnW e q B w v l) : ∃ A c, v = .slice A l.length c := own_form h
theorem OwnW.lt (h : OwnW e q B w v l) {k : Nat} (hk : v.ownBlock = some k) : B ≤ k ∧ k < w.heap.size := World.ownsRow.lt h k hk
theorem OwnW.keep (h : OwnW e q B w v l) (hb : Below w.heap.size w w') : OwnW e q B w' v l := h.below hb (fun _ hk => (h.lt hk).2)
theorem OwnW.alloc (h : OwnW e q B w v l) (o : Obj) : OwnW e q B (w.alloc o) v l := World.ownsRow.alloc h o
theorem OwnW.base {B' : Nat} (h : OwnW e q B w v l) (hB : B' ≤ B) : OwnW e q B' w v l := by
  refine ⟨h.1, ?_⟩
  rcases h.2 with h0 | ⟨g, cap, cur, h1, h2, h3⟩
  · exact .inl h0
  · exact .inr ⟨g, cap, cur, h1, by omega, h3⟩
/-- Where the words lie. -/
theorem OwnW.cells (h : OwnW e q B w v l) (h0 : 0 < l.length) : ∃ g cap, v = .slice (some ⟨g, 0, none⟩) l.length cap ∧ l.length ≤ cap ∧ B ≤ g ∧ g < w.heap.size ∧ ∀ i, i < l.length → w.cell? ⟨g, i, none⟩ = some (.int q (l.getD i 0)) ∧ w.frozen? ⟨g, i, none⟩ = false := by
  obtain ⟨h1, ⟨_, h3⟩ | ⟨g, cap, cur, rfl, hg, hh, hl, hm, hs, ht⟩⟩ := h
  · omega
  · refine ⟨g, cap, rfl, hl, hg, (Array.getElem?_eq_some_iff.1 hh).1, fun i hi => ⟨?_, frozen_of_row w g i cur _ hh⟩⟩
    rw [cell_of_row w g i cur _ (0, 0) hh]
    have e : (wds q l)[i]? = some (.int q (l.getD i 0)) := by simp [wds, List.getD, hi]
    rw [← ht, List.getElem?_take, if_pos (by omega), Array.getElem?_toList] at e
    exact e
theorem OwnW.rd (h : OwnW e q B w v l) : ∃ A c, v = .slice A l.length c ∧ RdW q w A l ∧ l.length ≤ c := by
  rcases Nat.eq_zero_or_pos l.length with h0 | h0
  · obtain ⟨A, c, rfl⟩ := h.form
    exact ⟨A, c, rfl, fun h => by omega, by omega⟩
  · obtain ⟨g, cap, rfl, hc, _, hg, hcell⟩ := h.cells h0
    exact ⟨_, cap, rfl, fun _ => ⟨g, 0, rfl, hg, fun j x hx => by
      obtain ⟨hj, e⟩ := List.getElem?_eq_some_iff.1 hx
      rw [Nat.zero_add, (hcell j hj).1]
      simp [List.getD, hj, e]⟩, hc⟩
/-- An append of words, wherever they lie. -/
theorem appW (ht : P.underlying t = some (.slice e)) (hi : (P.info? e).map (fun i => (i.zero.map (·.cells.size), i.size, i.bytes)) = some (some 1, 1, bytes)) (hb8 : bytes ≤ 8)
    (h : OwnW e q B w v l) {a : Addr} {m : List Int} {c : Nat} (hm : ∀ j x, m[j]? = some x → w.cell? (a.add j) = some (.int q x)) (hlen : l.length + m.length ≤ 1000000000) (hB : B ≤ w.heap.size) :
    ∃ v' w', (APs #[t, t] ty #[v, .slice (some a) m.length c]).run P w = .ok v' w' ∧ OwnW e q B w' v' (l ++ m) ∧ Fr (fun k => v.ownBlock = some k) w w' ∧ Foot w v v' := by
  have hby : (l.length + m.length) * bytes ≤ 140737488355328 := Nat.le_trans (Nat.mul_le_mul hlen hb8) (by omega)
  obtain ⟨v', w', h1, h2, h3, h4⟩ := APs_own (P := P) (ty := ty) ht hi (by omega) h (a := a) (m := m.length) (c := c) (wds q m) (by simp [wds_len]) (fun j u hu => by
    rw [wds_get] at hu
    obtain ⟨x, hx, rfl⟩ := Option.map_eq_some_iff.1 hu
    exact hm j x hx) (wds_one q m) (by unfold maxLen; omega) hby hB
  refine ⟨v', w', h1, ?_, (Fr.refl _ w).grown h3 (fun k _ e => e), ?_⟩
  · unfold OwnW
    rw [show wds q (l ++ m) = wds q l ++ wds q m from by simp [wds], List.length_append]
    exact h2
  · intro j hj
    rcases h4 with e | e
    · exact .inl (e ▸ hj)
    · right
      rw [e] at hj
      injection hj with hj
      omega
/-- One word more, which is laid in a block of its own ahead. -/
theorem appW_one (ht : P.underlying t = some (.slice e)) (hi : (P.info? e).map (fun i => (i.zero.map (·.cells.size), i.size, i.bytes)) = some (some 1, 1, bytes)) (hb8 : bytes ≤ 8)
    (h : OwnW e q B w v l) (x : Int) (hlen : l.length + 1 ≤ 1000000000) (hB : B ≤ w.heap.size) :
    ∃ v' w', (APs #[t, t] ty #[v, .slice (some ⟨w.heap.size, 0, none⟩) 1 1]).run P (w.alloc (.cells #[.int q x] e)) = .ok v' w' ∧ OwnW e q B w' v' (l ++ [x]) ∧ Fr (fun k => v.ownBlock = some k) w w' ∧ Foot w v v' := by
  have hb : Blk (w.alloc (.cells #[.int q x] e)) w.heap.size e #[.int q x] := Blk.new w _ _
  obtain ⟨v', w', h1, h2, h3, h4⟩ := appW (ty := ty) ht hi hb8 (m := [x]) (c := 1) (a := ⟨w.heap.size, 0, none⟩) (h.alloc (.cells #[.int q x] e)) (fun j y hy => by
    have hadd : (⟨w.heap.size, 0, none⟩ : Addr).add j = ⟨w.heap.size, j, none⟩ := by unfold Addr.add; split <;> simp_all
    rw [hadd, hb.cell j]
    have hj : j < [x].length := (List.getElem?_eq_some_iff.1 hy).1
    obtain rfl : j = 0 := by simpa using hj
    simp at hy
    subst hy
    rfl) (by simpa using hlen) (by simp; omega)
  refine ⟨v', w', h1, h2, ((Fr.refl _ w).alloc _).trans h3 (fun k _ e => e), ?_⟩
  intro j hj
  rcases h4 j hj with e | e
  · exact .inl e
  · right; simp at e; omega
/-- Own rows in what lies below. -/
theorem OwnW.step (h : OwnW e q B w v l) (hf : Fr (fun k => v.ownBlock = some k) w w') (hB : B ≤ w.heap.size) : Below B w w' :=
  hf.below hB (fun k hk e => by have := (h.lt e).1; omega)
end
end Go.Proofs.YtdkanehjahpehaaGreatDoor
end

section
namespace Go.Proofs.YtdkanehjahpehaaGreatDoor
open Go.RowKit Go.Shelf
set_option maxRecDepth 100000

/-- From A on lie the records R, of m cells each. -/
def RdR (m : Nat) (w : World) (A : Option Addr) (R : List (List Value)) : Prop := ∀ j (h : j < R.length), ∃ g off, A = some ⟨g, off, none⟩ ∧ g < w.heap.size ∧ ∀ k x, R[j][k]? = some x → w.cell? ⟨g, off + j * m + k, none⟩ = some x
theorem RdR.below {m : Nat} {w w' : World} {A : Option Addr} {R : List (List Value)} (h : RdR m w A R) (hb : Below w.heap.size w w') : RdR m w' A R := fun j hj => by
  obtain ⟨g, off, e, hg, hc⟩ := h j hj
  exact ⟨g, off, e, Nat.lt_of_lt_of_le hg hb.size, fun k x hx => (hb.cell (p := ⟨g, off + j * m + k, none⟩) hg).trans (hc k x hx)⟩
theorem RdR.nil (m : Nat) (w : World) (A : Option Addr) : RdR m w A [] := fun j h => absurd h (by simp)
theorem RdR.take {m : Nat} {w : World} {A : Option Addr} {R : List (List Value)} (h : RdR m w A R) (n : Nat) : RdR m w A (R.take n) := fun j hj => by
  have hj' : j < R.length := by rw [List.length_take] at hj; omega
  obtain ⟨g, off, e, hg, hc⟩ := h j hj'
  exact ⟨g, off, e, hg, fun k x hx => hc k x (by rw [List.getElem_take] at hx; exact hx)⟩
theorem RdR.drop {m : Nat} {w : World} {g off : Nat} {R : List (List Value)} (h : RdR m w (some ⟨g, off, none⟩) R) (n : Nat) : RdR m w (some ⟨g, off + n * m, none⟩) (R.drop n) := fun j hj => by
  have hj' : n + j < R.length := by rw [List.length_drop] at hj; omega
  obtain ⟨g', off', e, hg, hc⟩ := h (n + j) hj'
  simp only [Option.some.injEq, Addr.mk.injEq, and_true] at e
  obtain ⟨rfl, rfl⟩ := e
  exact ⟨g, _, rfl, hg, fun k x hx => by
    have := hc k x (by rw [List.getElem_drop] at hx; exact hx)
    rw [Nat.add_mul] at this
    rw [← this]
    congr 2
    omega⟩
theorem flat_get {α : Type} (m : Nat) : ∀ (L : List (List α)) (_ : ∀ s ∈ L, s.length = m) (j k : Nat) (_ : j < L.length) (_ : k < m), L.flatten[j * m + k]? = (L.getD j [])[k]?
  | [], _, _, _, h, _ => absurd h (by simp)
  | s :: L, hL, 0, k, _, hk => by
    have hs : s.length = m := hL s (by simp)
    simp only [List.flatten_cons, Nat.zero_mul, Nat.zero_add, List.getD_cons_zero]
    rw [List.getElem?_append_left (by omega)]
  | s :: L, hL, j + 1, k, h, hk => by
    have hs : s.length = m := hL s (by simp)
    simp only [List.flatten_cons, List.getD_cons_succ]
    rw [List.getElem?_append_right (by rw [Nat.add_mul]; omega), hs, show (j + 1) * m + k - m = j * m + k by rw [Nat.add_mul]; omega]
    exact flat_get m L (fun s hs => hL s (List.mem_cons_of_mem _ hs)) j k (by simpa using h) hk

/-- The slice v has the records R, in a row of one's own. -/
structure OwnR (e : TypeId) (m : Nat) (B : Nat) (w : World) (v : Value) (R : List (List Value)) : Prop where
  own : w.ownsRow B e m v R.length R.flatten
  len : ∀ r ∈ R, r.length = m
section
variable {P : Program} {e t ty : TypeId} {m B bytes : Nat} {w w' : World} {v : Value} {R : List (List Value)}
theorem OwnR.nil (e : TypeId) (m B : Nat) (w : World) : OwnR e m B w (.slice none 0 0) [] := ⟨World.ownsRow_nil _ _ _ _, by simp⟩
theorem OwnR.fr {F : Nat → Prop} (h : OwnR e m B w v R) (hf : Fr F w w') (hn : ∀ k, v.ownBlock = some k → ¬ F k) : OwnR e m B w' v R := ⟨own_fr h.own hf hn, h.len⟩
theorem OwnR.lt (h : OwnR e m B w v R) {k : Nat} (hk : v.ownBlock = some k) : B ≤ k ∧ k < w.heap.size := World.ownsRow.lt h.own k hk
theorem OwnR.keep (h : OwnR e m B w v R) (hb : Below w.heap.size w w') : OwnR e m B w' v R := h.fr (Fr.of_below hb) (fun k hk f => by have := (h.lt hk).2; omega)
theorem OwnR.form (h : OwnR e m B w v R) : ∃ A c, v = .slice A R.length c := own_form h.own
theorem OwnR.alloc (h : OwnR e m B w v R) (o : Obj) : OwnR e m B (w.alloc o) v R := ⟨World.ownsRow.alloc h.own o, h.len⟩
theorem OwnR.base {B' : Nat} (h : OwnR e m B w v R) (hB : B' ≤ B) : OwnR e m B' w v R := by
  refine ⟨⟨h.own.1, ?_⟩, h.len⟩
  rcases h.own.2 with h0 | ⟨g, cap, cur, h1, h2, h3⟩
  · exact .inl h0
  · exact .inr ⟨g, cap, cur, h1, by omega, h3⟩
theorem OwnR.formN (h : OwnR e m B w v R) : ∃ A N c, v = .slice A N c ∧ N = R.length := by
  obtain ⟨A, c, e⟩ := h.form
  exact ⟨A, _, c, e, rfl⟩
/-- Where the records lie. -/
theorem OwnR.rd (h : OwnR e m B w v R) : ∃ A c, v = .slice A R.length c ∧ RdR m w A R ∧ R.length ≤ c ∧ (A = none → c = 0) ∧ ∀ a, A = some a → B ≤ a.block ∧ a.block < w.heap.size := by
  obtain ⟨h1, ⟨rfl, h3⟩ | ⟨g, cap, cur, rfl, hg, hh, hl, hm, hs, ht⟩⟩ := h.own
  · have hR : R = [] := List.length_eq_zero_iff.1 (by omega)
    subst hR
    exact ⟨none, 0, rfl, RdR.nil _ _ _, by simp, fun _ => rfl, by simp⟩
  · have hgl : g < w.heap.size := (Array.getElem?_eq_some_iff.1 hh).1
    refine ⟨some ⟨g, 0, none⟩, cap, rfl, fun j hj => ⟨g, 0, rfl, hgl, fun k x hx => ?_⟩, hl, by simp, fun a e => by cases e; exact ⟨hg, hgl⟩⟩
    have hkm : k < m := by
      have := (List.getElem?_eq_some_iff.1 hx).1
      rw [h.len _ (List.getElem_mem hj)] at this
      exact this
    rw [Nat.zero_add, cell_of_row w g _ cur _ (0, 0) hh]
    have hf := flat_get m R h.len j k hj hkm
    have hx' : (R.getD j [])[k]? = some x := by simpa [List.getD, hj] using hx
    rw [hx', ← ht, List.getElem?_take] at hf
    split at hf
    · simpa using hf
    · cases hf

/-- An append of records, wherever they lie. -/
theorem appR (ht : P.underlying t = some (.slice e)) (hi : (P.info? e).map (fun i => (i.zero.map (·.cells.size), i.size, i.bytes)) = some (some m, m, bytes)) (h0 : 0 < m) (hb8 : bytes ≤ 4096)
    (h : OwnR e m B w v R) {A : Option Addr} {S : List (List Value)} {c : Nat} (hS : RdR m w A S) (hSl : ∀ s ∈ S, s.length = m) (hS1 : ∀ s ∈ S, ∀ u ∈ s, u.oneCell' = true) (hc : A = none → c = 0) (hlen : R.length + S.length ≤ 1000000000) (hB : B ≤ w.heap.size) :
    ∃ v' w', (APs #[t, t] ty #[v, .slice A S.length c]).run P w = .ok v' w' ∧ OwnR e m B w' v' (R ++ S) ∧ Fr (fun k => v.ownBlock = some k) w w' ∧ Foot w v v' := by
  cases A with
  | none =>
    have e : S = [] := by
      cases S with
      | nil => rfl
      | cons x r =>
        obtain ⟨g, o, e, _⟩ := hS 0 (by simp)
        cases e
    subst e
    obtain rfl := hc rfl
    obtain ⟨i, hi1, hi2⟩ := Option.map_eq_some_iff.1 hi
    simp only [Prod.mk.injEq] at hi2
    refine ⟨v, w, ?_, by simpa using h, Fr.refl _ _, Foot.refl _ _⟩
    obtain ⟨hi2a, hi2b, hi2c⟩ := hi2
    subst hi2b
    exact run_append_owned_none w B t ty _ i i.size ht hi1 v R.length R.flatten h.own
  | some a =>
    have hby : (R.length + S.length) * bytes ≤ 140737488355328 := Nat.le_trans (Nat.mul_le_mul hlen hb8) (by omega)
    have hnews : ∀ j u, S.flatten[j]? = some u → w.cell? (a.add j) = some u := by
      intro j u hu
      have hj : j < S.flatten.length := (List.getElem?_eq_some_iff.1 hu).1
      rw [flat_len m S hSl] at hj
      have hq : j / m < S.length := Nat.div_lt_of_lt_mul (by rw [Nat.mul_comm]; exact hj)
      have hr : j % m < m := Nat.mod_lt _ h0
      have e : j = j / m * m + j % m := by have := Nat.div_add_mod j m; rw [Nat.mul_comm] at this; exact this.symm
      obtain ⟨g, off, e2, hg, hcell⟩ := hS (j / m) hq
      cases e2
      have hadd : (⟨g, off, none⟩ : Addr).add j = ⟨g, off + j, none⟩ := by
        clear hu hj hq hr e hcell
        unfold Addr.add
        split <;> simp_all
      rw [hadd]
      rw [e, flat_get m S hSl _ _ hq hr] at hu
      have := hcell (j % m) u (by simpa [List.getD, hq] using hu)
      rw [Nat.add_assoc, ← e] at this
      exact this
    obtain ⟨v', w', h1, h2, h3, h4⟩ := APs_own (P := P) (ty := ty) ht hi h0 h.own (a := a) (m := S.length) (c := c) S.flatten (flat_len m S hSl) hnews (fun u hu => by
      obtain ⟨s, hs, hus⟩ := List.mem_flatten.1 hu
      exact hS1 s hs u hus) (by unfold maxLen; omega) hby hB
    refine ⟨v', w', h1, ⟨?_, fun r hr => (List.mem_append.1 hr).elim (h.len r) (hSl r)⟩, (Fr.refl _ w).grown h3 (fun k _ e => e), ?_⟩
    · rw [List.length_append, List.flatten_append]
      exact h2
    · intro j hj
      rcases h4 with e | e
      · exact .inl (e ▸ hj)
      · right
        rw [e] at hj
        injection hj with hj
        omega
/-- One record more, which is laid in a block of its own ahead. -/
theorem appR_one (ht : P.underlying t = some (.slice e)) (hi : (P.info? e).map (fun i => (i.zero.map (·.cells.size), i.size, i.bytes)) = some (some m, m, bytes)) (h0 : 0 < m) (hb8 : bytes ≤ 4096)
    (h : OwnR e m B w v R) (r : List Value) (hr : r.length = m) (hr1 : ∀ u ∈ r, u.oneCell' = true) (hlen : R.length + 1 ≤ 1000000000) (hB : B ≤ w.heap.size) :
    ∃ v' w', (APs #[t, t] ty #[v, .slice (some ⟨w.heap.size, 0, none⟩) 1 1]).run P (w.alloc (.cells r.toArray e)) = .ok v' w' ∧ OwnR e m B w' v' (R ++ [r]) ∧ Fr (fun k => v.ownBlock = some k) w w' ∧ Foot w v v' := by
  have hb : Blk (w.alloc (.cells r.toArray e)) w.heap.size e r.toArray := Blk.new w _ _
  obtain ⟨v', w', h1, h2, h3, h4⟩ := appR (ty := ty) ht hi h0 hb8 (A := some ⟨w.heap.size, 0, none⟩) (S := [r]) (c := 1) (h.alloc (.cells r.toArray e)) (fun j hj => ⟨w.heap.size, 0, rfl, by simp, fun k x hx => by
    obtain rfl : j = 0 := by simpa using hj
    rw [show 0 + 0 * m + k = k by omega, hb.cell k]
    simpa using hx⟩) (by simpa using hr) (by simpa using hr1) (by simp) (by simpa using hlen) (by simp; omega)
  refine ⟨v', w', h1, h2, ((Fr.refl _ w).alloc _).trans h3 (fun k _ e => e), ?_⟩
  intro j hj
  rcases h4 j hj with e | e
  · exact .inl e
  · right; simp at e; omega
theorem OwnR.step (h : OwnR e m B w v R) (hf : Fr (fun k => v.ownBlock = some k) w w') (hB : B ≤ w.heap.size) : Below B w w' :=
  hf.below hB (fun k hk e => by have := (h.lt e).1; omega)
end
end Go.Proofs.YtdkanehjahpehaaGreatDoor
end

section
namespace Go.Proofs.YtdkanehjahpehaaGreatDoor
open Go.RowKit Go.Shelf
set_option maxRecDepth 100000

/-- Where a struct's fields lie. -/
def placesOf (P : Program) (t : TypeId) : Option (List (Nat × Nat)) :=
  match P.underlying t with
  | some (.struct fields) => fields.toList.mapM (fun f => (P.info? f.type).map fun i => (f.offset, i.size))
  | _ => none
/-- Parts put in, one by one. -/
def fillL (pl : List (Nat × Nat)) : List Value → List (Nat × Value) → Option (List Value)
  | cs, [] => some cs
  | cs, (i, v) :: r =>
    match pl[i]? with
    | none => none
    | some (off, size) => if v.cells.size ≠ size ∨ cs.length < off + size then none else fillL pl (cs.take off ++ v.cells.toList ++ cs.drop (off + size)) r
theorem fillL_nil (pl : List (Nat × Nat)) (cs : List Value) : fillL pl cs [] = some cs := rfl
theorem fillL_cons {pl : List (Nat × Nat)} {cs : List Value} {i : Nat} {v : Value} {r : List (Nat × Value)} {off size : Nat} (hp : pl[i]? = some (off, size)) (hs : v.cells.size = size) (hl : off + size ≤ cs.length) :
    fillL pl cs ((i, v) :: r) = fillL pl (cs.take off ++ v.cells.toList ++ cs.drop (off + size)) r := by
  rw [fillL, hp]
  simp only
  rw [if_neg (by omega)]
theorem fill_L (pl : List (Nat × Nat)) : ∀ (parts : List (Nat × Value)) (cs out : List Value), fillL pl cs parts = some out → Instr.fill (pl.toArray[·]?) cs.toArray parts = some out.toArray
  | [], cs, out, h => by
    rw [fillL, Option.some.injEq] at h
    subst h
    rfl
  | (i, v) :: r, cs, out, h => by
    rw [fillL] at h
    cases hp : pl[i]? with
    | none => rw [hp] at h; cases h
    | some q =>
      obtain ⟨off, size⟩ := q
      rw [hp] at h
      simp only at h
      split at h
      · cases h
      · rename_i hn
        have hs : v.cells.size = size := by omega
        have hl : off + size ≤ cs.length := by omega
        rw [fill_one _ _ i off size v _ (by simpa using hp) hs (by simpa using hl)]
        have e : splice cs.toArray off v.cells.toList = (cs.take off ++ v.cells.toList ++ cs.drop (off + size)).toArray := by
          unfold splice
          simp [hs]
        rw [e]
        exact fill_L pl r _ out h
/-- A struct put together. -/
theorem BDs_list {P : Program} {t : TypeId} {pl : List (Nat × Nat)} {Z : List Value} (hp : placesOf P t = some pl) (hz : (((P.info? t).bind (·.zero)).map (·.cells.toList)) = some Z) (parts : Array (Nat × Value)) (cs : List Value)
    (h : fillL pl Z parts.toList = some cs) (w : World) : (BDs t parts).run P w = .ok (.agg cs.toArray) w := by
  refine run_build w t parts cs.toArray ?_
  obtain ⟨z, hz1, hz2⟩ := Option.map_eq_some_iff.1 hz
  obtain ⟨i, hq, hz3⟩ := Option.bind_eq_some_iff.1 hz1
  unfold placesOf at hp
  cases hu : P.underlying t with
  | none => rw [hu] at hp; cases hp
  | some d =>
    rw [hu] at hp
    cases d with
    | struct fields =>
      simp only at hp
      unfold Program.built
      simp only [hq, hu, hz3, hp]
      have := fill_L pl parts.toList Z cs h
      rw [← hz2] at this
      simpa using this
    | _ => simp at hp

/-- A slice of two elements put together. -/
theorem BSs_two {P : Program} {t e : TypeId} {size : Nat} (hu : P.underlying t = some (.slice e)) (hi : (P.info? e).map (fun i => (i.zero.map (·.cells.size), i.size)) = some (some size, size)) (h0 : 0 < size) (h24 : size ≤ 8388608)
    (w : World) (v u : Value) (hv : v.cells.size = size) (hw : u.cells.size = size) :
    (BSs t 2 #[(0, v), (1, u)]).run P w = .ok (.slice (some ⟨w.heap.size, 0, none⟩) 2 2) (w.alloc (.cells (v.cells ++ u.cells) e)) := by
  obtain ⟨i, hq, hh⟩ := Option.map_eq_some_iff.1 hi
  simp only [Prod.mk.injEq] at hh
  obtain ⟨hz, hs⟩ := hh
  obtain ⟨z, hz1, hz2⟩ := Option.map_eq_some_iff.1 hz
  refine run_buildSlice w t e 2 _ _ i z hu hq hz1 (by rw [hs]; omega) (by rw [hs]; omega) ?_
  rw [hs]
  have hl1 : v.cells.toList.length = size := by simpa using hv
  have hl2 : u.cells.toList.length = size := by simpa using hw
  rw [show (#[(0, v), (1, u)] : Array (Nat × Value)).toList = [(0, v), (1, u)] from rfl]
  rw [fill_one _ _ 0 (0 * size) size v _ rfl hv (by simp; omega), fill_one _ _ 1 (1 * size) size u _ rfl hw (by rw [size_splice _ _ _ (by simp [hl1]; omega)]; simp; omega)]
  simp only [Instr.fill, Option.some.injEq]
  apply Array.ext'
  simp only [splice, Nat.zero_mul, Nat.one_mul, List.take_zero, List.nil_append, Nat.zero_add, hl1, hl2]
  simp only [Array.toList_append]
  rw [List.take_append_of_le_length (by omega), List.take_of_length_le (by omega), List.drop_append, List.drop_of_length_le (by omega), hl1]
  simp
  omega
end Go.Proofs.YtdkanehjahpehaaGreatDoor
end
