/-
  A row of words of one's own, of whatever integer kind; a row of words that is read.
-/
import Derived.Test.YtmflhidmhefljaaDoorBytA
namespace Go.Proofs.YtmflhidmhefljaaDoor
open Go.RowKit Go.Shelf
set_option maxRecDepth 100000

def wds (q : IntKind) (l : List Int) : List Value := l.map (Value.int q)
theorem wds_len (q : IntKind) (l : List Int) : (wds q l).length = l.length := by simp [wds]
theorem wds_one (q : IntKind) (l : List Int) : ∀ v ∈ wds q l, v.oneCell' = true := by
  intro v hv
  obtain ⟨x, _, rfl⟩ := List.mem_map.1 hv
  rfl
theorem wds_get (q : IntKind) (l : List Int) (j : Nat) : (wds q l)[j]? = (l[j]?).map (Value.int q) := by simp [wds]
/-- From A on lie the words l. -/
def RdW (q : IntKind) (w : World) (A : Option Addr) (l : List Int) : Prop := 0 < l.length → ∃ g off, A = some ⟨g, off, none⟩ ∧ g < w.heap.size ∧ ∀ j x, l[j]? = some x → w.cell? ⟨g, off + j, none⟩ = some (.int q x)
theorem RdW.below {q : IntKind} {w w' : World} {A : Option Addr} {l : List Int} (h : RdW q w A l) (hb : Below w.heap.size w w') : RdW q w' A l := fun h0 => by
  obtain ⟨g, off, e, hg, hc⟩ := h h0
  exact ⟨g, off, e, Nat.lt_of_lt_of_le hg hb.size, fun j x hx => (hb.cell (p := ⟨g, off + j, none⟩) hg).trans (hc j x hx)⟩
theorem RdW.blk {q : IntKind} {w : World} {g : Nat} {t : TypeId} {l : List Int} (h : Blk w g t (wds q l).toArray) : RdW q w (some ⟨g, 0, none⟩) l := fun _ =>
  ⟨g, 0, rfl, h.lt, fun j x hx => by rw [Nat.zero_add, h.cell j]; simp [wds_get, hx]⟩
theorem RdW.nil (q : IntKind) (w : World) (A : Option Addr) : RdW q w A [] := fun h => absurd h (by simp)

/-- The slice v has the words l, in a row of one's own. -/
def OwnW (e : TypeId) (q : IntKind) (B : Nat) (w : World) (v : Value) (l : List Int) : Prop := w.ownsRow B e 1 v l.length (wds q l)
section
variable {P : Program} {e t ty : TypeId} {q : IntKind} {B bytes : Nat} {w w' : World} {v : Value} {l : List Int}
theorem OwnW.nil (e : TypeId) (q : IntKind) (B : Nat) (w : World) : OwnW e q B w (.slice none 0 0) [] := World.ownsRow_nil _ _ _ _
theorem OwnW.fr {F : Nat → Prop} (h : OwnW e q B w v l) (hf : Fr F w w') (hn : ∀ k, v.ownBlock = some k → ¬ F k) : OwnW e q B w' v l := own_fr h hf hn
theorem OwnW.below {n₀ : Nat} (h : OwnW e q B w v l) (hb : Below n₀ w w') (hn : ∀ k, v.ownBlock = some k → k < n₀) : OwnW e q B w' v l := h.fr (Fr.of_below hb) (fun k hk f => by have := hn k hk; omega)
theorem OwnW.form (h : OwnW e q B w v l) : ∃ A c, v = .slice A l.length c := own_form h
theorem OwnW.lt (h : OwnW e q B w v l) {k : Nat} (hk : v.ownBlock = some k) : B ≤ k ∧ k < w.heap.size := World.ownsRow.lt h k hk
theorem OwnW.keep (h : OwnW e q B w v l) (hb : Below w.heap.size w w') : OwnW e q B w' v l := h.below hb (fun _ hk => (h.lt hk).2)
theorem OwnW.alloc (h : OwnW e q B w v l) (o : Obj) : OwnW e q B (w.alloc o) v l := World.ownsRow.alloc h o
theorem OwnW.base {B' : Nat} (h : OwnW e q B w v l) (hB : B' ≤ B) : OwnW e q B' w v l := by
  refine ⟨h.1, ?_⟩
  rcases h.2 with h0 | ⟨g, cap, cur, h1, h2, h3⟩
  · exact .inl h0
  · exact .inr ⟨g, cap, cur, h1, by omega, h3⟩
/-- Where the words lie. -/
theorem OwnW.cells (h : OwnW e q B w v l) (h0 : 0 < l.length) : ∃ g cap, v = .slice (some ⟨g, 0, none⟩) l.length cap ∧ l.length ≤ cap ∧ B ≤ g ∧ g < w.heap.size ∧ ∀ i, i < l.length → w.cell? ⟨g, i, none⟩ = some (.int q (l.getD i 0)) ∧ w.frozen? ⟨g, i, none⟩ = false := by
  obtain ⟨h1, ⟨_, h3⟩ | ⟨g, cap, cur, rfl, hg, hh, hl, hm, hs, ht⟩⟩ := h
  · omega
  · refine ⟨g, cap, rfl, hl, hg, (Array.getElem?_eq_some_iff.1 hh).1, fun i hi => ⟨?_, frozen_of_row w g i cur _ hh⟩⟩
    rw [cell_of_row w g i cur _ (0, 0) hh]
    have e : (wds q l)[i]? = some (.int q (l.getD i 0)) := by simp [wds, List.getD, hi]
    rw [← ht, List.getElem?_take, if_pos (by omega), Array.getElem?_toList] at e
    exact e
theorem OwnW.rd (h : OwnW e q B w v l) : ∃ A c, v = .slice A l.length c ∧ RdW q w A l ∧ l.length ≤ c := by
  rcases Nat.eq_zero_or_pos l.length with h0 | h0
  · obtain ⟨A, c, rfl⟩ := h.form
    exact ⟨A, c, rfl, fun h => by omega, by omega⟩
  · obtain ⟨g, cap, rfl, hc, _, hg, hcell⟩ := h.cells h0
    exact ⟨_, cap, rfl, fun _ => ⟨g, 0, rfl, hg, fun j x hx => by
      obtain ⟨hj, e⟩ := List.getElem?_eq_some_iff.1 hx
      rw [Nat.zero_add, (hcell j hj).1]
      simp [List.getD, hj, e]⟩, hc⟩
/-- An append of words, wherever they lie. -/
theorem appW (ht : P.underlying t = some (.slice e)) (hi : (P.info? e).map (fun i => (i.zero.map (·.cells.size), i.size, i.bytes)) = some (some 1, 1, bytes)) (hb8 : bytes ≤ 8)
    (h : OwnW e q B w v l) {a : Addr} {m : List Int} {c : Nat} (hm : ∀ j x, m[j]? = some x → w.cell? (a.add j) = some (.int q x)) (hlen : l.length + m.length ≤ 1000000000) (hB : B ≤ w.heap.size) :
    ∃ v' w', (APs #[t, t] ty #[v, .slice (some a) m.length c]).run P w = .ok v' w' ∧ OwnW e q B w' v' (l ++ m) ∧ Fr (fun k => v.ownBlock = some k) w w' ∧ Foot w v v' := by
  have hby : (l.length + m.length) * bytes ≤ 140737488355328 := Nat.le_trans (Nat.mul_le_mul hlen hb8) (by omega)
  obtain ⟨v', w', h1, h2, h3, h4⟩ := APs_own (P := P) (ty := ty) ht hi (by omega) h (a := a) (m := m.length) (c := c) (wds q m) (by simp [wds_len]) (fun j u hu => by
    rw [wds_get] at hu
    obtain ⟨x, hx, rfl⟩ := Option.map_eq_some_iff.1 hu
    exact hm j x hx) (wds_one q m) (by unfold maxLen; omega) hby hB
  refine ⟨v', w', h1, ?_, (Fr.refl _ w).grown h3 (fun k _ e => e), ?_⟩
  · unfold OwnW
    rw [show wds q (l ++ m) = wds q l ++ wds q m from by simp [wds], List.length_append]
    exact h2
  · intro j hj
    rcases h4 with e | e
    · exact .inl (e ▸ hj)
    · right
      rw [e] at hj
      injection hj with hj
      omega
/-- One word more, which is laid in a block of its own ahead. -/
theorem appW_one (ht : P.underlying t = some (.slice e)) (hi : (P.info? e).map (fun i => (i.zero.map (·.cells.size), i.size, i.bytes)) = some (some 1, 1, bytes)) (hb8 : bytes ≤ 8)
    (h : OwnW e q B w v l) (x : Int) (hlen : l.length + 1 ≤ 1000000000) (hB : B ≤ w.heap.size) :
    ∃ v' w', (APs #[t, t] ty #[v, .slice (some ⟨w.heap.size, 0, none⟩) 1 1]).run P (w.alloc (.cells #[.int q x] e)) = .ok v' w' ∧ OwnW e q B w' v' (l ++ [x]) ∧ Fr (fun k => v.ownBlock = some k) w w' ∧ Foot w v v' := by
  have hb : Blk (w.alloc (.cells #[.int q x] e)) w.heap.size e #[.int q x] := Blk.new w _ _
  obtain ⟨v', w', h1, h2, h3, h4⟩ := appW (ty := ty) ht hi hb8 (m := [x]) (c := 1) (a := ⟨w.heap.size, 0, none⟩) (h.alloc (.cells #[.int q x] e)) (fun j y hy => by
    have hadd : (⟨w.heap.size, 0, none⟩ : Addr).add j = ⟨w.heap.size, j, none⟩ := by unfold Addr.add; split <;> simp_all
    rw [hadd, hb.cell j]
    have hj : j < [x].length := (List.getElem?_eq_some_iff.1 hy).1
    obtain rfl : j = 0 := by simpa using hj
    simp at hy
    subst hy
    rfl) (by simpa using hlen) (by simp; omega)
  refine ⟨v', w', h1, h2, ((Fr.refl _ w).alloc _).trans h3 (fun k _ e => e), ?_⟩
  intro j hj
  rcases h4 j hj with e | e
  · exact .inl e
  · right; simp at e; omega
/-- Own rows in what lies below. -/
theorem OwnW.step (h : OwnW e q B w v l) (hf : Fr (fun k => v.ownBlock = some k) w w') (hB : B ≤ w.heap.size) : Below B w w' :=
  hf.below hB (fun k hk e => by have := (h.lt e).1; omega)
end
end Go.Proofs.YtmflhidmhefljaaDoor
