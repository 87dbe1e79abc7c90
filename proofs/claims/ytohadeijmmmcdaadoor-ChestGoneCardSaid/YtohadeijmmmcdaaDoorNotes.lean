/-
  Texts in a row of one's own that may begin within the row: a [][]byte cut behind its first element.
-/
import Derived.Test.YtohadeijmmmcdaaDoorScrollB
import Derived.Deep.AppendSrc
namespace Go.Proofs.YtohadeijmmmcdaaDoor
open Go.RowKit
set_option maxRecDepth 100000

/-- An append of one element onto a slice that begins within its row: there is room. -/
theorem run_append_room_off {P : Program} (w : World) (t ty e : TypeId) (i : TypeInfo) (ht : P.underlying t = some (.slice e)) (hi : P.info? e = some i)
    (g off sLen sCap : Nat) (cur : Array Value) (hg : w.heap[g]? = some (.cells cur e (0, 0)))
    (a : Addr) (m c : Nat) (news : List Value) (hl : news.length = m * i.size) (hnews : ∀ j u, news[j]? = some u → w.cell? (a.add j) = some u) (h1 : ∀ u ∈ news, u.oneCell' = true)
    (hroom : sLen + m ≤ sCap) (hfit : off + sLen * i.size + news.length ≤ cur.size) :
    (Builtin.append_ #[t, t] ty #[.slice (some ⟨g, off, none⟩) sLen sCap, .slice (some a) m c]).run P w =
      .ok (.slice (some ⟨g, off, none⟩) (sLen + m) sCap) (w.setRow g (cur.toList.take (off + sLen * i.size) ++ news ++ cur.toList.drop (off + sLen * i.size + news.length)).toArray) := by
  have hf := run_firstCells_some (P := P) w i.size m a m c news hl hnews
  have hst := run_storeCells_at P g (off + sLen * i.size) e news 0 cur w hg (by simpa using hfit) h1
  simp only [Nat.add_zero] at hst
  simp [Builtin.append_, run_underlying ht, sizeOf, typeInfo, hi, Builtin.lenOf, hroom, hf, Addr.add_lit, hst]

/-- The slice v has the values xs (one cell each) in a row of one's own; it may begin within the row. -/
def OwnR (B : Nat) (w : World) (e : TypeId) (v : Value) (xs : List Value) : Prop :=
  (∃ A, v = .slice A 0 0 ∧ xs = [] ∧ ∀ a, A = some a → B ≤ a.block ∧ ∃ cs, Blk w a.block e cs) ∨
  ∃ g off cap cur, v = .slice (some ⟨g, off, none⟩) xs.length cap ∧ B ≤ g ∧ Blk w g e cur ∧ xs.length ≤ cap ∧ cap ≤ maxLen ∧ cur.size = off + cap ∧ (cur.toList.drop off).take xs.length = xs

section
variable {B : Nat} {w w' : World} {e : TypeId} {v : Value} {xs : List Value}
theorem OwnR.of (h : w.ownsRow B e 1 v xs.length xs) : OwnR B w e v xs := by
  obtain ⟨_, ⟨rfl, h2⟩ | ⟨g, cap, cur, rfl, hb, hg, hn, hm, hs, ht⟩⟩ := h
  · exact .inl ⟨none, rfl, List.eq_nil_of_length_eq_zero h2, fun a e => by cases e⟩
  · exact .inr ⟨g, 0, cap, cur, rfl, hb, hg, hn, hm, by omega, by simpa using ht⟩
theorem OwnR.form (h : OwnR B w e v xs) : ∃ A c, v = .slice A xs.length c := by
  obtain ⟨A, rfl, rfl, _⟩ | ⟨g, off, cap, cur, rfl, _⟩ := h
  · exact ⟨A, 0, rfl⟩
  · exact ⟨_, cap, rfl⟩
theorem OwnR.blk (h : OwnR B w e v xs) {k : Nat} (hk : v.ownBlock = some k) : ∃ cs, Blk w k e cs ∧ B ≤ k := by
  obtain ⟨A, rfl, rfl, ha⟩ | ⟨g, off, cap, cur, rfl, hb, hg, _⟩ := h
  · cases A with
    | none => cases hk
    | some a =>
      simp only [Value.ownBlock, Option.some.injEq] at hk
      subst hk
      obtain ⟨h1, cs, h2⟩ := ha a rfl
      exact ⟨cs, h2, h1⟩
  · simp only [Value.ownBlock, Option.some.injEq] at hk
    subst hk
    exact ⟨cur, hg, hb⟩
theorem OwnR.map (h : OwnR B w e v xs) (hk : ∀ k cs, v.ownBlock = some k → Blk w k e cs → Blk w' k e cs) : OwnR B w' e v xs := by
  obtain ⟨A, rfl, rfl, ha⟩ | ⟨g, off, cap, cur, rfl, hb, hg, r⟩ := h
  · refine .inl ⟨A, rfl, rfl, fun a e => ?_⟩
    obtain ⟨h1, cs, h2⟩ := ha a e
    exact ⟨h1, cs, hk _ _ (by rw [e]; rfl) h2⟩
  · exact .inr ⟨g, off, cap, cur, rfl, hb, hk _ _ rfl hg, r⟩
theorem OwnR.base {B' : Nat} (h : OwnR B w e v xs) (hB : B' ≤ B) : OwnR B' w e v xs := by
  obtain ⟨A, rfl, rfl, ha⟩ | ⟨g, off, cap, cur, rfl, hb, r⟩ := h
  · exact .inl ⟨A, rfl, rfl, fun a e => ⟨Nat.le_trans hB (ha a e).1, (ha a e).2⟩⟩
  · exact .inr ⟨g, off, cap, cur, rfl, Nat.le_trans hB hb, r⟩
theorem OwnR.lt (h : OwnR B w e v xs) {k : Nat} (hk : v.ownBlock = some k) : B ≤ k ∧ k < w.heap.size := by
  obtain ⟨cs, h1, h2⟩ := h.blk hk
  exact ⟨h2, h1.lt⟩
theorem OwnR.ne (h : OwnR B w e v xs) {g : Nat} {t : TypeId} {cs : Array Value} (hb : Blk w g t cs) (ht : e ≠ t) : v.ownBlock ≠ some g := by
  intro he
  obtain ⟨cs', h1, _⟩ := h.blk he
  exact ht (h1.inj hb).1
/-- Where the values lie. -/
theorem OwnR.cells (h : OwnR B w e v xs) (h0 : 0 < xs.length) : ∃ g off cap, v = .slice (some ⟨g, off, none⟩) xs.length cap ∧ B ≤ g ∧ g < w.heap.size ∧ ∀ (j : Nat) (hj : j < xs.length), w.cell? ⟨g, off + j, none⟩ = some xs[j] := by
  obtain ⟨A, rfl, rfl, ha⟩ | ⟨g, off, cap, cur, rfl, hb, hg, hn, hm, hs, ht⟩ := h
  · cases h0
  · refine ⟨g, off, cap, rfl, hb, hg.lt, fun j hj => ?_⟩
    rw [hg.cell]
    have e := congrArg (fun l : List Value => l[j]?) ht
    rw [List.getElem?_take, if_pos hj, List.getElem?_drop, Array.getElem?_toList, List.getElem?_eq_getElem hj] at e
    exact e
end

/-- One value more. -/
theorem OwnR.app1 {ty t e : TypeId} (ht : Tryd.prog.underlying t = some (.slice e)) {bytes : Nat} (hi : (Tryd.prog.info? e).map (fun i => (i.zero.map (·.cells.size), i.size, i.bytes)) = some (some 1, 1, bytes)) (hbb : bytes ≤ 1000)
    {B : Nat} {w : World} {v : Value} {xs : List Value} (h : OwnR B w e v xs) {x : Value} (hx1 : x.oneCell' = true) (hlen : xs.length + 1 ≤ 1000000000) (hB : B ≤ w.heap.size) :
    ∃ v' w', (APs #[t, t] ty #[v, .slice (some ⟨w.heap.size, 0, none⟩) 1 1]).run Tryd.prog (w.alloc (.cells #[x] e)) = .ok v' w' ∧ OwnR B w' e v' (xs ++ [x]) ∧ Fr (fun k => v.ownBlock = some k) w w' ∧ Foot w v v' := by
  obtain ⟨i, hq, hh⟩ := Option.map_eq_some_iff.1 hi
  simp only [Prod.mk.injEq] at hh
  obtain ⟨hz, hs1, hby⟩ := hh
  obtain ⟨z, hz1, hz2⟩ := Option.map_eq_some_iff.1 hz
  have hbx : Blk (w.alloc (.cells #[x] e)) w.heap.size e #[x] := Blk.new w _ _
  have hnews : ∀ j u, [x][j]? = some u → (w.alloc (.cells #[x] e)).cell? ((⟨w.heap.size, 0, none⟩ : Addr).add j) = some u := fun j u hu => by
    have hadd : (⟨w.heap.size, 0, none⟩ : Addr).add j = ⟨w.heap.size, j, none⟩ := by unfold Addr.add; split <;> simp_all
    rw [hadd, hbx.cell j]
    simpa using hu
  have hsrc : Src Tryd.prog i.size t (.slice (some ⟨w.heap.size, 0, none⟩) 1 1) 1 [x] (w.alloc (.cells #[x] e)) :=
    Src.ofSlice _ ht _ 1 1 [x] (by simp [hs1]) hnews (by intro u hu; simp at hu; subst hu; exact hx1)
  have grown : ∀ (base : Option Addr) (sCap : Nat), v = .slice base xs.length sCap → (Builtin.firstCells i.size xs.length (.slice base xs.length sCap)).run Tryd.prog (w.alloc (.cells #[x] e)).drew = .ok xs.toArray (w.alloc (.cells #[x] e)).drew → sCap < xs.length + 1 →
      ∃ v' w', (APs #[t, t] ty #[v, .slice (some ⟨w.heap.size, 0, none⟩) 1 1]).run Tryd.prog (w.alloc (.cells #[x] e)) = .ok v' w' ∧ OwnR B w' e v' (xs ++ [x]) ∧ Fr (fun k => v.ownBlock = some k) w w' ∧ Foot w v v' := by
    intro base sCap hv hold hg
    have hm : xs.length + 1 ≤ maxLen := by unfold maxLen; omega
    have hr := run_append_grow_src (P := Tryd.prog) (w.alloc (.cells #[x] e)) t t ty e i z ht hq hz1 base xs.length sCap xs hold _ 1 [x] hsrc hg (by omega) (growslice_fits hg (by
      rw [hby]
      have : (xs.length + 1) * bytes ≤ 1000000000 * 1000 := Nat.mul_le_mul hlen hbb
      omega))
    have hge := grownCap_ge (w.alloc (.cells #[x] e)) (xs.length + 1) sCap e
    rw [← hv] at hr
    refine ⟨_, _, hr, .inr ⟨(w.alloc (.cells #[x] e)).heap.size, 0, grownCap (w.alloc (.cells #[x] e)) (xs.length + 1) sCap e, _, by simp, by simp; omega, heap_alloc_new (w.alloc (.cells #[x] e)).drew _, by simpa using hge, grownCap_le_maxLen _ _ _ _ hm, ?_, ?_⟩, ?_, ?_⟩
    · simp only [Array.size_append, List.size_toArray, size_zeroCells, hz2, List.length_append, List.length_singleton]
      omega
    · have e : (xs ++ [x]).toArray.toList = xs ++ [x] := rfl
      rw [List.drop_zero, Array.toList_append, e, List.take_left]
    · exact (((Fr.refl _ w).alloc _).drew).alloc _
    · intro j hj
      right
      simp [Value.ownBlock] at hj
      omega
  obtain ⟨A, hv, rfl, ha⟩ | ⟨g, off, cap, cur, hv, hb, hgk, hn, hm, hs, htk⟩ := id h
  · refine grown A 0 hv ?_ (by simp)
    cases A with
    | none => exact run_firstCells_none _ _ _ _ _
    | some a => exact run_firstCells_some _ _ _ _ _ _ [] (by simp) (by simp)
  · by_cases hroom : xs.length + 1 ≤ cap
    · have hgW : Blk (w.alloc (.cells #[x] e)) g e cur := hgk.alloc _
      have hr := run_append_room_off (P := Tryd.prog) (w.alloc (.cells #[x] e)) t ty e i ht hq g off xs.length cap cur hgW ⟨w.heap.size, 0, none⟩ 1 1 [x] (by simp [hs1]) hnews (by intro u hu; simp at hu; subst hu; exact hx1) hroom (by simp [hs1]; omega)
      rw [hs1, Nat.mul_one] at hr
      refine ⟨_, _, by rw [hv]; exact hr, .inr ⟨g, off, cap, _, by simp, hb, setRow_heap _ g cur _ e _ hgW, by simpa using hroom, hm, ?_, ?_⟩, ?_, fun j hj => .inl (by rw [hv]; exact hj)⟩
      · simp only [List.size_toArray, List.length_append, List.length_take, List.length_drop, Array.length_toList, List.length_singleton]
        omega
      · have e1 : (cur.toList.take (off + xs.length)).drop off = xs := by
          rw [List.drop_take, show off + xs.length - off = xs.length by omega]
          exact htk
        have hl : (cur.toList.take (off + xs.length)).length = off + xs.length := by simp; omega
        simp only [List.append_assoc, List.length_append, List.length_singleton]
        rw [List.drop_append_of_le_length (by rw [hl]; omega), e1, List.take_append, List.take_of_length_le (by omega)]
        simp
      · exact ((Fr.refl _ w).alloc _).trans (G := fun k => v.ownBlock = some k) ((Fr.refl (fun k => v.ownBlock = some k) _).setRow (fun _ => by rw [hv]; rfl) _) (fun _ _ h => h)
    · refine grown _ _ hv ?_ (by omega)
      refine run_firstCells_some _ _ _ _ _ _ xs (by simp [hs1]) (fun j u hu => ?_)
      have hadd : (⟨g, off, none⟩ : Addr).add j = ⟨g, off + j, none⟩ := by unfold Addr.add; split <;> simp_all
      have hj : j < xs.length := (List.getElem?_eq_some_iff.1 hu).1
      rw [hadd]
      have hc : (w.alloc (.cells #[x] e)).cell? ⟨g, off + j, none⟩ = some u := by
        rw [(hgk.alloc _).cell]
        have e := congrArg (fun l : List Value => l[j]?) htk
        rw [List.getElem?_take, if_pos hj, List.getElem?_drop, Array.getElem?_toList, hu] at e
        exact e
      simpa using hc

/-- The slice v has the texts L, all in blocks of one's own; it may begin within its row. -/
def NT (B : Nat) (w : World) (v : Value) (L : List (List Int)) : Prop :=
  ∃ xs, OwnR B w 22 v xs ∧ xs.length = L.length ∧ ∀ (i : Nat) (h : i < xs.length) (h' : i < L.length), Own8 B w xs[i] L[i]

section
variable {B : Nat} {w w' : World} {v : Value} {L : List (List Int)}
theorem NT.of (h : OwnT B w v L) : NT B w v L := by
  obtain ⟨xs, h1, h2, h3⟩ := h
  exact ⟨xs, .of (by rw [h2]; exact h1), h2, h3⟩
theorem NT.nil (B : Nat) (w : World) : NT B w (.slice none 0 0) [] := .of (OwnT.nil B w)
theorem NT.form (h : NT B w v L) : ∃ A c, v = .slice A L.length c := by
  obtain ⟨xs, h1, h2, _⟩ := h
  rw [← h2]
  exact h1.form
theorem NT.map (h : NT B w v L) (hF : ∀ k t cs, Blk w k t cs → t = 22 ∨ t = 5 → Blk w' k t cs) : NT B w' v L := by
  obtain ⟨xs, h1, h2, h3⟩ := h
  refine ⟨xs, h1.map (fun k cs _ hb => hF k _ cs hb (.inl rfl)), h2, fun i hi hi' => ?_⟩
  obtain ⟨e1, ⟨e2, e3⟩ | ⟨g, cap, cur, e2, e3, e4, e5⟩⟩ := h3 i hi hi'
  · exact ⟨e1, .inl ⟨e2, e3⟩⟩
  · exact ⟨e1, .inr ⟨g, cap, cur, e2, e3, hF g _ cur e4 (.inr rfl), e5⟩⟩
theorem NT.fr {F : Nat → Prop} (h : NT B w v L) (hf : Fr F w w') (hF : ∀ k t cs, F k → Blk w k t cs → t ≠ 22 ∧ t ≠ 5) : NT B w' v L :=
  h.map (fun k t cs hb ht => hb.fr hf (fun f => by
    rcases ht with rfl | rfl
    · exact (hF k _ cs f hb).1 rfl
    · exact (hF k _ cs f hb).2 rfl))
theorem NT.below (h : NT B w v L) (hb : Below w.heap.size w w') : NT B w' v L :=
  h.fr (Fr.of_below hb) (fun k t cs f hk => by have := hk.lt; omega)
theorem NT.base {B' : Nat} (h : NT B w v L) (hB : B' ≤ B) : NT B' w v L := by
  obtain ⟨xs, h1, h2, h3⟩ := h
  exact ⟨xs, h1.base hB, h2, fun i hi hi' => (h3 i hi hi').base hB⟩
theorem NT.lt (h : NT B w v L) {k : Nat} (hk : v.ownBlock = some k) : B ≤ k ∧ k < w.heap.size := by
  obtain ⟨xs, h1, _⟩ := h
  exact h1.lt hk
theorem NT.ne (h : NT B w v L) {g : Nat} {t : TypeId} {cs : Array Value} (hb : Blk w g t cs) (ht : 22 ≠ t) : v.ownBlock ≠ some g := by
  obtain ⟨xs, h1, _⟩ := h
  exact h1.ne hb ht
theorem NT.blk (h : NT B w v L) {k : Nat} (hk : v.ownBlock = some k) : ∃ cs, Blk w k 22 cs ∧ B ≤ k := by
  obtain ⟨xs, h1, _⟩ := h
  exact h1.blk hk
theorem Kept.nt {n₀ : Nat} {ts : List TypeId} (h : Kept n₀ ts w w') (ho : NT B w v L) (h1 : 22 ∉ ts) (h2 : 5 ∉ ts) : NT B w' v L :=
  ho.map (fun k t cs hb ht => h.kt k t cs hb (by rcases ht with rfl | rfl; exact h1; exact h2))
/-- Where the texts lie. -/
theorem NT.cells (h : NT B w v L) (h0 : 0 < L.length) : ∃ g off cap, v = .slice (some ⟨g, off, none⟩) L.length cap ∧ B ≤ g ∧ g < w.heap.size ∧ ∀ (j : Nat) (hj : j < L.length), ∃ x, w.cell? ⟨g, off + j, none⟩ = some x ∧ Own8 B w x L[j] := by
  obtain ⟨xs, h1, h2, h3⟩ := h
  obtain ⟨g, off, cap, e1, e2, e3, e4⟩ := h1.cells (by omega)
  exact ⟨g, off, cap, by rw [e1, h2], e2, e3, fun j hj => ⟨_, e4 j (by omega), h3 j (by omega) hj⟩⟩

/-- One text more. -/
theorem NT.app {ty : TypeId} (h : NT B w v L) {x : Value} {l : List Int} (hx : Own8 B w x l) (hlen : L.length + 1 ≤ 1000000000) (hB : B ≤ w.heap.size) :
    ∃ v' w', (APs #[33, 33] ty #[v, .slice (some ⟨w.heap.size, 0, none⟩) 1 1]).run Tryd.prog (w.alloc (.cells #[x] 22)) = .ok v' w' ∧ NT B w' v' (L ++ [l]) ∧ Fr (fun k => v.ownBlock = some k) w w' ∧ Foot w v v' := by
  obtain ⟨xs, h1, h2, h3⟩ := h
  have hx1 : x.oneCell' = true := by obtain ⟨A, c, rfl⟩ := hx.form; rfl
  obtain ⟨v', w', e1, e2, e3, e4⟩ := h1.app1 (ty := ty) uT iT (by omega) hx1 (by omega) hB
  have hk : ∀ y l, Own8 B w y l → Own8 B w' y l := fun y l hy => hy.fr e3 (fun k hk f => by
    obtain ⟨cs, hb, _⟩ := h1.blk f
    obtain ⟨cs', hb', _⟩ := own_blk hy hk
    exact absurd (hb.inj hb').1 (by decide))
  refine ⟨v', w', e1, ⟨xs ++ [x], e2, by simp [h2], fun i hi hi' => ?_⟩, e3, e4⟩
  by_cases hlt : i < xs.length
  · have := hk _ _ (h3 i hlt (by omega))
    rw [List.getElem_append_left hlt, List.getElem_append_left (by omega)]
    exact this
  · have : i = xs.length := by simp at hi; omega
    subst this
    simp only [List.getElem_append_right (Nat.le_refl _), Nat.sub_self, List.getElem_cons_zero]
    simp only [h2, List.getElem_append_right (Nat.le_refl _), Nat.sub_self, List.getElem_cons_zero]
    exact hk _ _ hx

/-- What is behind the first text. -/
theorem NT.tail {y : List Int} (h : NT B w v (y :: L)) : ∃ A c, v = .slice A (L.length + 1) c ∧ ∃ v', (∀ W, (SLs 33 (.slice A (L.length + 1) c) (some (.int .i64 1)) none none).run Tryd.prog W = .ok v' W) ∧ NT B w v' L := by
  obtain ⟨xs, h1, h2, h3⟩ := h
  obtain ⟨i, hq, hh⟩ := Option.map_eq_some_iff.1 iT
  simp only [Prod.mk.injEq] at hh
  have hs := hh.2.1
  cases xs with
  | nil => simp at h2
  | cons x xs =>
    simp only [List.length_cons, Nat.add_right_cancel_iff] at h2
    obtain ⟨A, _, e, _⟩ | ⟨g, off, cap, cur, hv, hb, hgk, hn, hm, hs2, htk⟩ := id h1
    · cases e
    · simp only [List.length_cons] at hv hn htk
      have htail : ∀ (j : Nat) (h : j < xs.length) (h' : j < L.length), Own8 B w xs[j] L[j] := fun j hj hj' => by
        have := h3 (j + 1) (by simp; omega) (by simp; omega)
        simpa using this
      have hadd : (⟨g, off, none⟩ : Addr).add 1 = ⟨g, off + 1, none⟩ := by unfold Addr.add; split <;> simp_all
      refine ⟨some ⟨g, off, none⟩, cap, by rw [hv, h2], .slice (if cap = 1 then some ⟨g, off, none⟩ else some ⟨g, off + 1, none⟩) L.length (cap - 1), ?_, xs, ?_, h2, htail⟩
      · clear h3 htail
        intro W
        have b2 : ((0 : Int) ≤ 1 ∧ (1 : Int) ≤ ((L.length : Int) + 1)) := by omega
        have b3 : (1 : Nat) ≤ L.length + 1 := by omega
        have b4 : L.length + 1 ≤ cap := by omega
        by_cases hc1 : cap = 1
        · subst hc1
          simp [SLs, Instr.sliceAt, Instr.slice, Instr.sliceBounds, Instr.sliceBound, asIntOf, run_underlying uT, sizeOf, typeInfo, hq, b4, if_pos b2.2]
          omega
        · simp [SLs, Instr.sliceAt, Instr.slice, Instr.sliceBounds, Instr.sliceBound, asIntOf, run_underlying uT, sizeOf, typeInfo, hq, hs, hc1, hadd, if_pos b2.2]
      · by_cases hc1 : cap = 1
        · subst hc1
          have h0 : xs = [] := List.eq_nil_of_length_eq_zero (by omega)
          subst h0
          have hL : L.length = 0 := by simpa using h2.symm
          exact .inl ⟨some ⟨g, off, none⟩, by simp [hL], rfl, fun a e => by cases e; exact ⟨hb, cur, hgk⟩⟩
        · refine .inr ⟨g, off + 1, cap - 1, cur, by simp [hc1, h2], hb, hgk, by omega, by omega, by omega, ?_⟩
          have e := congrArg (List.drop 1) htk
          rw [List.drop_take, List.drop_drop] at e
          simpa using e
end

end Go.Proofs.YtohadeijmmmcdaaDoor
