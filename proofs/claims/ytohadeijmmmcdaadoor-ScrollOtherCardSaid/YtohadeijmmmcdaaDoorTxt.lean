/-
  Texts: rows whose elements are byte slices.
-/
import Derived.Test.YtohadeijmmmcdaaDoorBytA
namespace Go.Proofs.YtohadeijmmmcdaaDoor
open Go.RowKit
set_option maxRecDepth 100000

theorem uT : Tryd.prog.underlying 33 = some (.slice 22) := by kernel_rfl
theorem iT : (Tryd.prog.info? 22).map (fun i => (i.zero.map (·.cells.size), i.size, i.bytes)) = some (some 1, 1, 24) := by kernel_rfl

/-- The value x is a slice of the bytes l. -/
def TxV (w : World) (x : Value) (l : List Int) : Prop := ∃ A c, x = .slice A l.length c ∧ Byt w A l ∧ (A = none → c = 0)
theorem TxV.fr {w w' : World} {x : Value} {l : List Int} {F : Nat → Prop} (h : TxV w x l) (hf : Fr F w w') (hn : ∀ k, x.ownBlock = some k → ¬ F k) : TxV w' x l := by
  obtain ⟨A, c, rfl, hb, hc⟩ := h
  exact ⟨A, c, rfl, hb.fr hf (fun a e _ => hn _ (by subst e; rfl)), hc⟩
theorem TxV.one {w : World} {x : Value} {l : List Int} (h : TxV w x l) : x.oneCell' = true := by
  obtain ⟨A, c, rfl, _⟩ := h
  rfl
theorem Byt.below {w w' : World} {A : Option Addr} {l : List Int} (h : Byt w A l) (hb : Below w.heap.size w w') : Byt w' A l :=
  ⟨fun h0 => by
    obtain ⟨g, off, rfl, hg, hc⟩ := h.cell h0
    exact ⟨g, off, rfl, Nat.lt_of_lt_of_le hg hb.size, fun j x hx => (hb.cell (p := ⟨g, off + j, none⟩) hg).trans (hc j x hx)⟩, h.bd⟩
/-- The same with any bound under which the bytes lie. -/
theorem Byt.belowB {n₀ : Nat} {w w' : World} {A : Option Addr} {l : List Int} (h : Byt w A l) (hb : Below n₀ w w') (ha : ∀ a, A = some a → 0 < l.length → a.block < n₀) : Byt w' A l :=
  ⟨fun h0 => by
    obtain ⟨g, off, rfl, hg, hc⟩ := h.cell h0
    exact ⟨g, off, rfl, Nat.lt_of_lt_of_le hg hb.size, fun j x hx => (hb.cell (p := ⟨g, off + j, none⟩) (show g < n₀ from ha ⟨g, off, none⟩ rfl h0)).trans (hc j x hx)⟩, h.bd⟩
theorem TxV.below {w w' : World} {x : Value} {l : List Int} (h : TxV w x l) (hb : Below w.heap.size w w') : TxV w' x l := by
  obtain ⟨A, c, rfl, hy, hc⟩ := h
  exact ⟨A, c, rfl, hy.below hb, hc⟩

/-- From A on lie the values xs, slices of the texts L. -/
structure TxsV (w : World) (A : Option Addr) (xs : List Value) (L : List (List Int)) : Prop where
  len : xs.length = L.length
  cell : 0 < xs.length → ∃ g off, A = some ⟨g, off, none⟩ ∧ g < w.heap.size ∧ ∀ j x, xs[j]? = some x → w.cell? ⟨g, off + j, none⟩ = some x
  txt : ∀ i, (h : i < xs.length) → (h' : i < L.length) → TxV w xs[i] L[i]
theorem TxsV.below {w w' : World} {A : Option Addr} {xs : List Value} {L : List (List Int)} (h : TxsV w A xs L) (hb : Below w.heap.size w w') : TxsV w' A xs L :=
  ⟨h.len, fun h0 => by
    obtain ⟨g, off, rfl, hg, hc⟩ := h.cell h0
    exact ⟨g, off, rfl, Nat.lt_of_lt_of_le hg hb.size, fun j x hx => (hb.cell (p := ⟨g, off + j, none⟩) hg).trans (hc j x hx)⟩, fun i h1 h2 => (h.txt i h1 h2).below hb⟩

/-- An append of values that are laid in a block of their own ahead. -/
theorem appT {ty : TypeId} {B : Nat} {w : World} {v : Value} {n : Nat} {xs : List Value} (h : w.ownsRow B 22 1 v n xs) (news : List Value) (h1 : ∀ u ∈ news, u.oneCell' = true) (hlen : n + news.length ≤ 1000000000) (hB : B ≤ w.heap.size) :
    ∃ v' w', (APs #[33, 33] ty #[v, .slice (some ⟨w.heap.size, 0, none⟩) news.length news.length]).run Tryd.prog (w.alloc (.cells news.toArray 22)) = .ok v' w' ∧
      w'.ownsRow B 22 1 v' (n + news.length) (xs ++ news) ∧ Fr (fun k => v.ownBlock = some k) w w' ∧ Foot w v v' := by
  have hb : Blk (w.alloc (.cells news.toArray 22)) w.heap.size 22 news.toArray := Blk.new w _ _
  obtain ⟨v', w', e1, e2, e3, e4⟩ := APs_own (P := Tryd.prog) (ty := ty) uT iT (by omega) (World.ownsRow.alloc h (.cells news.toArray 22)) (a := ⟨w.heap.size, 0, none⟩) (m := news.length) (c := news.length) news (by omega)
    (fun j u hu => by
      have hadd : (⟨w.heap.size, 0, none⟩ : Addr).add j = ⟨w.heap.size, j, none⟩ := by unfold Addr.add; split <;> simp_all
      rw [hadd, hb.cell j]
      simpa using hu) h1 (by unfold maxLen; omega) (by omega) (by simp; omega)
  refine ⟨v', w', e1, e2, ((Fr.refl _ w).alloc (.cells news.toArray 22)).grown e3 (fun k _ e => e), ?_⟩
  intro j hj
  rcases e4 with e | e
  · exact .inl (e ▸ hj)
  · right
    rw [e] at hj
    simp at hj
    omega

end Go.Proofs.YtohadeijmmmcdaaDoor
