/-
  Texts in a row of one's own that may begin within the row: a [][]byte cut behind its first element.
  A chest: fresh, Sync, Head, Keep.
  A chest: Keep.
-/
import Derived.Test.YtohadeijmmmcdaaDoorScrollB
import Derived.Deep.AppendSrc
import Derived.Test.YtohadeijmmmcdaaDoorChestA
import Derived.Test.YtohadeijmmmcdaaDoorTxtO

section
namespace Go.Proofs.YtohadeijmmmcdaaDoor
open Go.RowKit
set_option maxRecDepth 100000

/-- An append of one element onto a slice that begins within its row: there is room. -/
theorem run_append_room_off {P : Program} (w : World) (t ty e : TypeId) (i : TypeInfo) (ht : P.underlying t = some (.slice e)) (hi : P.info? e = some i)
    (g off sLen sCap : Nat) (cur : Array Value) (hg : w.heap[g]? = some (.cells cur e (0, 0)))
    (a : Addr) (m c : Nat) (news : List Value) (hl : news.length = m * i.size) (hnews : ∀ j u, news[j]? = some u → w.cell? (a.add j) = some u) (h1 : ∀ u ∈ news, u.oneCell' = true)
    (hroom : sLen + m ≤ sCap) (hfit : off + sLen * i.size + news.length ≤ cur.size) :
    (Builtin.append_ #[t, t] ty #[.slice (some ⟨g, off, none⟩) sLen sCap, .slice (some a) m c]).run P w =
      .ok (.slice (some ⟨g, off, none⟩) (sLen + m) sCap) (w.setRow g (cur.toList.take (off + sLen * i.size) ++ news ++ cur.toList.drop (off + sLen * i.size + news.length)).toArray) := by
  have hf := run_firstCells_some (P := P) w i.size m a m c news hl hnews
  have hst := run_storeCells_at P g (off + sLen * i.size) e news 0 cur w hg (by simpa using hfit) h1
  simp only [Nat.add_zero] at hst
  simp [Builtin.append_, run_underlying ht, sizeOf, typeInfo, hi, Builtin.lenOf, hroom, hf, Addr.add_lit, hst]

/-- The slice v has the values xs (one cell each) in a row of one's own; it may begin within the row. -/
def OwnR (B : Nat) (w : World) (e : TypeId) (v : Value) (xs : List Value) : Prop :=
  (∃ A, v = .slice A 0 0 ∧ xs = [] ∧ ∀ a, A = some a → B ≤ a.block ∧ ∃ cs, Blk w a.block e cs) ∨
  ∃ g off cap cur, v = .slice (some ⟨g, off, none⟩) xs.length cap ∧ B ≤ g ∧ Blk w g e cur ∧ xs.length ≤ cap ∧ cap ≤ maxLen ∧ cur.size = off + cap ∧ (cur.toList.drop off).take xs.length = xs

section
variable {B : Nat} {w w' : World} {e : TypeId} {v : Value} {xs : List Value}
theorem OwnR.of (h : w.ownsRow B e 1 v xs.length xs) : OwnR B w e v xs := by
  obtain ⟨_, ⟨rfl, h2⟩ | ⟨g, cap, cur, rfl, hb, hg, hn, hm, hs, ht⟩⟩ := h
  · exact .inl ⟨none, rfl, List.eq_nil_of_length_eq_zero h2, fun a e => by cases e⟩
  · exact .inr ⟨g, 0, cap, cur, rfl, hb, hg, hn, hm, by omega, by simpa using ht⟩
theorem OwnR.form (h : OwnR B w e v xs) : ∃ A c, v = .slice A xs.length c := by
  obtain ⟨A, rfl, rfl, _⟩ | ⟨g, off, cap, cur, rfl, _⟩ := h
  · exact ⟨A, 0, rfl⟩
  · exact ⟨_, cap, rfl⟩
theorem OwnR.blk (h : OwnR B w e v xs) {k : Nat} (hk : v.ownBlock = some k) : ∃ cs, Blk w k e cs ∧ B ≤ k := by
  obtain ⟨A, rfl, rfl, ha⟩ | ⟨g, off, cap, cur, rfl, hb, hg, _⟩ := h
  · cases A with
    | none => cases hk
    | some a =>
      simp only [Value.ownBlock, Option.some.injEq] at hk
      subst hk
      obtain ⟨h1, cs, h2⟩ := ha a rfl
      exact ⟨cs, h2, h1⟩
  · simp only [Value.ownBlock, Option.some.injEq] at hk
    subst hk
    exact ⟨cur, hg, hb⟩
theorem OwnR.map (h : OwnR B w e v xs) (hk : ∀ k cs, v.ownBlock = some k → Blk w k e cs → Blk w' k e cs) : OwnR B w' e v xs := by
  obtain ⟨A, rfl, rfl, ha⟩ | ⟨g, off, cap, cur, rfl, hb, hg, r⟩ := h
  · refine .inl ⟨A, rfl, rfl, fun a e => ?_⟩
    obtain ⟨h1, cs, h2⟩ := ha a e
    exact ⟨h1, cs, hk _ _ (by rw [e]; rfl) h2⟩
  · exact .inr ⟨g, off, cap, cur, rfl, hb, hk _ _ rfl hg, r⟩
theorem OwnR.base {B' : Nat} (h : OwnR B w e v xs) (hB : B' ≤ B) : OwnR B' w e v xs := by
  obtain ⟨A, rfl, rfl, ha⟩ | ⟨g, off, cap, cur, rfl, hb, r⟩ := h
  · exact .inl ⟨A, rfl, rfl, fun a e => ⟨Nat.le_trans hB (ha a e).1, (ha a e).2⟩⟩
  · exact .inr ⟨g, off, cap, cur, rfl, Nat.le_trans hB hb, r⟩
theorem OwnR.lt (h : OwnR B w e v xs) {k : Nat} (hk : v.ownBlock = some k) : B ≤ k ∧ k < w.heap.size := by
  obtain ⟨cs, h1, h2⟩ := h.blk hk
  exact ⟨h2, h1.lt⟩
theorem OwnR.ne (h : OwnR B w e v xs) {g : Nat} {t : TypeId} {cs : Array Value} (hb : Blk w g t cs) (ht : e ≠ t) : v.ownBlock ≠ some g := by
  intro he
  obtain ⟨cs', h1, _⟩ := h.blk he
  exact ht (h1.inj hb).1
/-- Where the values lie. -/
theorem OwnR.cells (h : OwnR B w e v xs) (h0 : 0 < xs.length) : ∃ g off cap, v = .slice (some ⟨g, off, none⟩) xs.length cap ∧ B ≤ g ∧ g < w.heap.size ∧ ∀ (j : Nat) (hj : j < xs.length), w.cell? ⟨g, off + j, none⟩ = some xs[j] := by
  obtain ⟨A, rfl, rfl, ha⟩ | ⟨g, off, cap, cur, rfl, hb, hg, hn, hm, hs, ht⟩ := h
  · cases h0
  · refine ⟨g, off, cap, rfl, hb, hg.lt, fun j hj => ?_⟩
    rw [hg.cell]
    have e := congrArg (fun l : List Value => l[j]?) ht
    rw [List.getElem?_take, if_pos hj, List.getElem?_drop, Array.getElem?_toList, List.getElem?_eq_getElem hj] at e
    exact e
end

/-- One value more. -/
theorem OwnR.app1 {ty t e : TypeId} (ht : Tryd.prog.underlying t = some (.slice e)) {bytes : Nat} (hi : (Tryd.prog.info? e).map (fun i => (i.zero.map (·.cells.size), i.size, i.bytes)) = some (some 1, 1, bytes)) (hbb : bytes ≤ 1000)
    {B : Nat} {w : World} {v : Value} {xs : List Value} (h : OwnR B w e v xs) {x : Value} (hx1 : x.oneCell' = true) (hlen : xs.length + 1 ≤ 1000000000) (hB : B ≤ w.heap.size) :
    ∃ v' w', (APs #[t, t] ty #[v, .slice (some ⟨w.heap.size, 0, none⟩) 1 1]).run Tryd.prog (w.alloc (.cells #[x] e)) = .ok v' w' ∧ OwnR B w' e v' (xs ++ [x]) ∧ Fr (fun k => v.ownBlock = some k) w w' ∧ Foot w v v' := by
  obtain ⟨i, hq, hh⟩ := Option.map_eq_some_iff.1 hi
  simp only [Prod.mk.injEq] at hh
  obtain ⟨hz, hs1, hby⟩ := hh
  obtain ⟨z, hz1, hz2⟩ := Option.map_eq_some_iff.1 hz
  have hbx : Blk (w.alloc (.cells #[x] e)) w.heap.size e #[x] := Blk.new w _ _
  have hnews : ∀ j u, [x][j]? = some u → (w.alloc (.cells #[x] e)).cell? ((⟨w.heap.size, 0, none⟩ : Addr).add j) = some u := fun j u hu => by
    have hadd : (⟨w.heap.size, 0, none⟩ : Addr).add j = ⟨w.heap.size, j, none⟩ := by unfold Addr.add; split <;> simp_all
    rw [hadd, hbx.cell j]
    simpa using hu
  have hsrc : Src Tryd.prog i.size t (.slice (some ⟨w.heap.size, 0, none⟩) 1 1) 1 [x] (w.alloc (.cells #[x] e)) :=
    Src.ofSlice _ ht _ 1 1 [x] (by simp [hs1]) hnews (by intro u hu; simp at hu; subst hu; exact hx1)
  have grown : ∀ (base : Option Addr) (sCap : Nat), v = .slice base xs.length sCap → (Builtin.firstCells i.size xs.length (.slice base xs.length sCap)).run Tryd.prog (w.alloc (.cells #[x] e)).drew = .ok xs.toArray (w.alloc (.cells #[x] e)).drew → sCap < xs.length + 1 →
      ∃ v' w', (APs #[t, t] ty #[v, .slice (some ⟨w.heap.size, 0, none⟩) 1 1]).run Tryd.prog (w.alloc (.cells #[x] e)) = .ok v' w' ∧ OwnR B w' e v' (xs ++ [x]) ∧ Fr (fun k => v.ownBlock = some k) w w' ∧ Foot w v v' := by
    intro base sCap hv hold hg
    have hm : xs.length + 1 ≤ maxLen := by unfold maxLen; omega
    have hr := run_append_grow_src (P := Tryd.prog) (w.alloc (.cells #[x] e)) t t ty e i z ht hq hz1 base xs.length sCap xs hold _ 1 [x] hsrc hg (by omega) (growslice_fits hg (by
      rw [hby]
      have : (xs.length + 1) * bytes ≤ 1000000000 * 1000 := Nat.mul_le_mul hlen hbb
      omega))
    have hge := grownCap_ge (w.alloc (.cells #[x] e)) (xs.length + 1) sCap e
    rw [← hv] at hr
    refine ⟨_, _, hr, .inr ⟨(w.alloc (.cells #[x] e)).heap.size, 0, grownCap (w.alloc (.cells #[x] e)) (xs.length + 1) sCap e, _, by simp, by simp; omega, heap_alloc_new (w.alloc (.cells #[x] e)).drew _, by simpa using hge, grownCap_le_maxLen _ _ _ _ hm, ?_, ?_⟩, ?_, ?_⟩
    · simp only [Array.size_append, List.size_toArray, size_zeroCells, hz2, List.length_append, List.length_singleton]
      omega
    · have e : (xs ++ [x]).toArray.toList = xs ++ [x] := rfl
      rw [List.drop_zero, Array.toList_append, e, List.take_left]
    · exact (((Fr.refl _ w).alloc _).drew).alloc _
    · intro j hj
      right
      simp [Value.ownBlock] at hj
      omega
  obtain ⟨A, hv, rfl, ha⟩ | ⟨g, off, cap, cur, hv, hb, hgk, hn, hm, hs, htk⟩ := id h
  · refine grown A 0 hv ?_ (by simp)
    cases A with
    | none => exact run_firstCells_none _ _ _ _ _
    | some a => exact run_firstCells_some _ _ _ _ _ _ [] (by simp) (by simp)
  · by_cases hroom : xs.length + 1 ≤ cap
    · have hgW : Blk (w.alloc (.cells #[x] e)) g e cur := hgk.alloc _
      have hr := run_append_room_off (P := Tryd.prog) (w.alloc (.cells #[x] e)) t ty e i ht hq g off xs.length cap cur hgW ⟨w.heap.size, 0, none⟩ 1 1 [x] (by simp [hs1]) hnews (by intro u hu; simp at hu; subst hu; exact hx1) hroom (by simp [hs1]; omega)
      rw [hs1, Nat.mul_one] at hr
      refine ⟨_, _, by rw [hv]; exact hr, .inr ⟨g, off, cap, _, by simp, hb, setRow_heap _ g cur _ e _ hgW, by simpa using hroom, hm, ?_, ?_⟩, ?_, fun j hj => .inl (by rw [hv]; exact hj)⟩
      · simp only [List.size_toArray, List.length_append, List.length_take, List.length_drop, Array.length_toList, List.length_singleton]
        omega
      · have e1 : (cur.toList.take (off + xs.length)).drop off = xs := by
          rw [List.drop_take, show off + xs.length - off = xs.length by omega]
          exact htk
        have hl : (cur.toList.take (off + xs.length)).length = off + xs.length := by simp; omega
        simp only [List.append_assoc, List.length_append, List.length_singleton]
        rw [List.drop_append_of_le_length (by rw [hl]; omega), e1, List.take_append, List.take_of_length_le (by omega)]
        simp
      · exact ((Fr.refl _ w).alloc _).trans (G := fun k => v.ownBlock = some k) ((Fr.refl (fun k => v.ownBlock = some k) _).setRow (fun _ => by rw [hv]; rfl) _) (fun _ _ h => h)
    · refine grown _ _ hv ?_ (by omega)
      refine run_firstCells_some _ _ _ _ _ _ xs (by simp [hs1]) (fun j u hu => ?_)
      have hadd : (⟨g, off, none⟩ : Addr).add j = ⟨g, off + j, none⟩ := by unfold Addr.add; split <;> simp_all
      have hj : j < xs.length := (List.getElem?_eq_some_iff.1 hu).1
      rw [hadd]
      have hc : (w.alloc (.cells #[x] e)).cell? ⟨g, off + j, none⟩ = some u := by
        rw [(hgk.alloc _).cell]
        have e := congrArg (fun l : List Value => l[j]?) htk
        rw [List.getElem?_take, if_pos hj, List.getElem?_drop, Array.getElem?_toList, hu] at e
        exact e
      simpa using hc

/-- The slice v has the texts L, all in blocks of one's own; it may begin within its row. -/
def NT (B : Nat) (w : World) (v : Value) (L : List (List Int)) : Prop :=
  ∃ xs, OwnR B w 22 v xs ∧ xs.length = L.length ∧ ∀ (i : Nat) (h : i < xs.length) (h' : i < L.length), Own8 B w xs[i] L[i]

section
variable {B : Nat} {w w' : World} {v : Value} {L : List (List Int)}
theorem NT.of (h : OwnT B w v L) : NT B w v L := by
  obtain ⟨xs, h1, h2, h3⟩ := h
  exact ⟨xs, .of (by rw [h2]; exact h1), h2, h3⟩
theorem NT.nil (B : Nat) (w : World) : NT B w (.slice none 0 0) [] := .of (OwnT.nil B w)
theorem NT.form (h : NT B w v L) : ∃ A c, v = .slice A L.length c := by
  obtain ⟨xs, h1, h2, _⟩ := h
  rw [← h2]
  exact h1.form
theorem NT.map (h : NT B w v L) (hF : ∀ k t cs, Blk w k t cs → t = 22 ∨ t = 5 → Blk w' k t cs) : NT B w' v L := by
  obtain ⟨xs, h1, h2, h3⟩ := h
  refine ⟨xs, h1.map (fun k cs _ hb => hF k _ cs hb (.inl rfl)), h2, fun i hi hi' => ?_⟩
  obtain ⟨e1, ⟨e2, e3⟩ | ⟨g, cap, cur, e2, e3, e4, e5⟩⟩ := h3 i hi hi'
  · exact ⟨e1, .inl ⟨e2, e3⟩⟩
  · exact ⟨e1, .inr ⟨g, cap, cur, e2, e3, hF g _ cur e4 (.inr rfl), e5⟩⟩
theorem NT.fr {F : Nat → Prop} (h : NT B w v L) (hf : Fr F w w') (hF : ∀ k t cs, F k → Blk w k t cs → t ≠ 22 ∧ t ≠ 5) : NT B w' v L :=
  h.map (fun k t cs hb ht => hb.fr hf (fun f => by
    rcases ht with rfl | rfl
    · exact (hF k _ cs f hb).1 rfl
    · exact (hF k _ cs f hb).2 rfl))
theorem NT.below (h : NT B w v L) (hb : Below w.heap.size w w') : NT B w' v L :=
  h.fr (Fr.of_below hb) (fun k t cs f hk => by have := hk.lt; omega)
theorem NT.base {B' : Nat} (h : NT B w v L) (hB : B' ≤ B) : NT B' w v L := by
  obtain ⟨xs, h1, h2, h3⟩ := h
  exact ⟨xs, h1.base hB, h2, fun i hi hi' => (h3 i hi hi').base hB⟩
theorem NT.lt (h : NT B w v L) {k : Nat} (hk : v.ownBlock = some k) : B ≤ k ∧ k < w.heap.size := by
  obtain ⟨xs, h1, _⟩ := h
  exact h1.lt hk
theorem NT.ne (h : NT B w v L) {g : Nat} {t : TypeId} {cs : Array Value} (hb : Blk w g t cs) (ht : 22 ≠ t) : v.ownBlock ≠ some g := by
  obtain ⟨xs, h1, _⟩ := h
  exact h1.ne hb ht
theorem NT.blk (h : NT B w v L) {k : Nat} (hk : v.ownBlock = some k) : ∃ cs, Blk w k 22 cs ∧ B ≤ k := by
  obtain ⟨xs, h1, _⟩ := h
  exact h1.blk hk
theorem Kept.nt {n₀ : Nat} {ts : List TypeId} (h : Kept n₀ ts w w') (ho : NT B w v L) (h1 : 22 ∉ ts) (h2 : 5 ∉ ts) : NT B w' v L :=
  ho.map (fun k t cs hb ht => h.kt k t cs hb (by rcases ht with rfl | rfl; exact h1; exact h2))
/-- Where the texts lie. -/
theorem NT.cells (h : NT B w v L) (h0 : 0 < L.length) : ∃ g off cap, v = .slice (some ⟨g, off, none⟩) L.length cap ∧ B ≤ g ∧ g < w.heap.size ∧ ∀ (j : Nat) (hj : j < L.length), ∃ x, w.cell? ⟨g, off + j, none⟩ = some x ∧ Own8 B w x L[j] := by
  obtain ⟨xs, h1, h2, h3⟩ := h
  obtain ⟨g, off, cap, e1, e2, e3, e4⟩ := h1.cells (by omega)
  exact ⟨g, off, cap, by rw [e1, h2], e2, e3, fun j hj => ⟨_, e4 j (by omega), h3 j (by omega) hj⟩⟩

/-- One text more. -/
theorem NT.app {ty : TypeId} (h : NT B w v L) {x : Value} {l : List Int} (hx : Own8 B w x l) (hlen : L.length + 1 ≤ 1000000000) (hB : B ≤ w.heap.size) :
    ∃ v' w', (APs #[33, 33] ty #[v, .slice (some ⟨w.heap.size, 0, none⟩) 1 1]).run Tryd.prog (w.alloc (.cells #[x] 22)) = .ok v' w' ∧ NT B w' v' (L ++ [l]) ∧ Fr (fun k => v.ownBlock = some k) w w' ∧ Foot w v v' := by
  obtain ⟨xs, h1, h2, h3⟩ := h
  have hx1 : x.oneCell' = true := by obtain ⟨A, c, rfl⟩ := hx.form; rfl
  obtain ⟨v', w', e1, e2, e3, e4⟩ := h1.app1 (ty := ty) uT iT (by omega) hx1 (by omega) hB
  have hk : ∀ y l, Own8 B w y l → Own8 B w' y l := fun y l hy => hy.fr e3 (fun k hk f => by
    obtain ⟨cs, hb, _⟩ := h1.blk f
    obtain ⟨cs', hb', _⟩ := own_blk hy hk
    exact absurd (hb.inj hb').1 (by decide))
  refine ⟨v', w', e1, ⟨xs ++ [x], e2, by simp [h2], fun i hi hi' => ?_⟩, e3, e4⟩
  by_cases hlt : i < xs.length
  · have := hk _ _ (h3 i hlt (by omega))
    rw [List.getElem_append_left hlt, List.getElem_append_left (by omega)]
    exact this
  · have : i = xs.length := by simp at hi; omega
    subst this
    simp only [List.getElem_append_right (Nat.le_refl _), Nat.sub_self, List.getElem_cons_zero]
    simp only [h2, List.getElem_append_right (Nat.le_refl _), Nat.sub_self, List.getElem_cons_zero]
    exact hk _ _ hx

/-- What is behind the first text. -/
theorem NT.tail {y : List Int} (h : NT B w v (y :: L)) : ∃ A c, v = .slice A (L.length + 1) c ∧ ∃ v', (∀ W, (SLs 33 (.slice A (L.length + 1) c) (some (.int .i64 1)) none none).run Tryd.prog W = .ok v' W) ∧ NT B w v' L := by
  obtain ⟨xs, h1, h2, h3⟩ := h
  obtain ⟨i, hq, hh⟩ := Option.map_eq_some_iff.1 iT
  simp only [Prod.mk.injEq] at hh
  have hs := hh.2.1
  cases xs with
  | nil => simp at h2
  | cons x xs =>
    simp only [List.length_cons, Nat.add_right_cancel_iff] at h2
    obtain ⟨A, _, e, _⟩ | ⟨g, off, cap, cur, hv, hb, hgk, hn, hm, hs2, htk⟩ := id h1
    · cases e
    · simp only [List.length_cons] at hv hn htk
      have htail : ∀ (j : Nat) (h : j < xs.length) (h' : j < L.length), Own8 B w xs[j] L[j] := fun j hj hj' => by
        have := h3 (j + 1) (by simp; omega) (by simp; omega)
        simpa using this
      have hadd : (⟨g, off, none⟩ : Addr).add 1 = ⟨g, off + 1, none⟩ := by unfold Addr.add; split <;> simp_all
      refine ⟨some ⟨g, off, none⟩, cap, by rw [hv, h2], .slice (if cap = 1 then some ⟨g, off, none⟩ else some ⟨g, off + 1, none⟩) L.length (cap - 1), ?_, xs, ?_, h2, htail⟩
      · clear h3 htail
        intro W
        have b2 : ((0 : Int) ≤ 1 ∧ (1 : Int) ≤ ((L.length : Int) + 1)) := by omega
        have b3 : (1 : Nat) ≤ L.length + 1 := by omega
        have b4 : L.length + 1 ≤ cap := by omega
        by_cases hc1 : cap = 1
        · subst hc1
          simp [SLs, Instr.sliceAt, Instr.slice, Instr.sliceBounds, Instr.sliceBound, asIntOf, run_underlying uT, sizeOf, typeInfo, hq, b4, if_pos b2.2]
          omega
        · simp [SLs, Instr.sliceAt, Instr.slice, Instr.sliceBounds, Instr.sliceBound, asIntOf, run_underlying uT, sizeOf, typeInfo, hq, hs, hc1, hadd, if_pos b2.2]
      · by_cases hc1 : cap = 1
        · subst hc1
          have h0 : xs = [] := List.eq_nil_of_length_eq_zero (by omega)
          subst h0
          have hL : L.length = 0 := by simpa using h2.symm
          exact .inl ⟨some ⟨g, off, none⟩, by simp [hL], rfl, fun a e => by cases e; exact ⟨hb, cur, hgk⟩⟩
        · refine .inr ⟨g, off + 1, cap - 1, cur, by simp [hc1, h2], hb, hgk, by omega, by omega, by omega, ?_⟩
          have e := congrArg (List.drop 1) htk
          rw [List.drop_take, List.drop_drop] at e
          simpa using e
end

end Go.Proofs.YtohadeijmmmcdaaDoor
end

section
namespace Go.Proofs.YtohadeijmmmcdaaDoor
open Go.RowKit
set_option maxRecDepth 100000
attribute [local go_sem ↓] bd70_of bd72_of

/-- A chest. -/
structure CS where
  sd : Nat
  t : Nat
  h : List Int
  l : List (List Int)
  gone : Bool

def ChestB (w : World) (r q p : Nat) (x : CS) (hv nv : Value) : Prop :=
  Blk w r 72 #[.pointer (some ⟨q, 0, none⟩), .pointer (some ⟨p, 0, none⟩), .int .i64 (x.sd : Int), .int .i64 (x.t : Int), hv, nv, .bool x.gone]
structure IsChest (B : Nat) (w : World) (r q p : Nat) (x : CS) (hv nv : Value) : Prop where
  st : ChestB w r q p x hv nv
  br : B ≤ r
  bq : B ≤ q
  hd : Own8 B w hv x.h
  nt : NT B w nv x.l
  hb : ∀ y ∈ x.h, 0 ≤ y ∧ y ≤ 255
  nb : ∀ l ∈ x.l, ∀ y ∈ l, 0 ≤ y ∧ y ≤ 255

def FreshPost (n₀ p : Nat) (R : Int × SS × DS) (e : Ending) (w' : World) : Prop :=
  (R.1 = 0 ∧ ∃ r q, e = .returned (.tuple #[.pointer (some ⟨r, 0, none⟩), .int .i64 0]) ∧ IsScroll w' q p R.2.1 ∧ IsChest n₀ w' r q p ⟨0, 1, [], [], false⟩ (.slice none 0 0) (.slice none 0 0)) ∨ (R.1 ≠ 0 ∧ e = .returned (.tuple #[.pointer none, .int .i64 R.1]))

set_option maxHeartbeats 4000000 in
theorem fresh_any (B p gs : Nat) (wv : Value) (S : DS) (w : World) (hd : IsDrum B w p gs wv S) (hlen : S.waits.length + 10000 ≤ 1000000000) (hg : Glob w) (h2 : 2 ≤ B) :
    Calls Tryd.prog 74 #[.pointer (some ⟨p, 0, none⟩)] w fun e w' =>
      FreshPost w.heap.size p (beginR S 0 1 []) e w' ∧ (∃ wv', IsDrum B w' p gs wv' (beginR S 0 1 []).2.2) ∧ Kept B sts w w' := by
  have hBw : B ≤ w.heap.size := by have := hd.lt (.inl rfl); omega
  have hbe := begin_any B p gs wv S 0 1 none 0 (fun _ => rfl) [] w hd (by omega) (by omega) hlen (fun W hk => ⟨fun h => by simp at h, fun x hx => by cases hx⟩) (by simp) hg h2
  obtain ⟨⟨er, s, T⟩, hE⟩ : ∃ E, beginR S 0 1 [] = E := ⟨_, rfl⟩
  rw [hE] at hbe ⊢
  rw [show ((0 : Nat) : Int) = 0 from rfl, show ((1 : Nat) : Int) = 1 from rfl, show ([] : List Int).length = 0 from rfl] at hbe
  simp only at hbe ⊢
  clear hd hg hE
  go_enter Tryd.func74, Tryd.ntmps74
  go_wp2_with fail
  with_reducible refine hbe.mono ?_
  rintro e w1 ⟨hp1, ⟨wv1, hd1⟩, hk1⟩
  have K1 := Lib.hid hk1
  have HD1 := Lib.hid hd1
  have hs1 := hk1.size
  clear hbe hk1 hd1
  rcases hp1 with ⟨he, q, rfl, hs1, hq⟩ | ⟨he, rfl⟩
  · simp only at he
    subst he
    have HS := Lib.hid hs1
    clear hs1
    have hb1 := bd70_1 (some ⟨q, 0, none⟩)
    have hb2 := bd72_3 (some ⟨q, 0, none⟩) (some ⟨p, 0, none⟩)
    go_wp2_with fail
    go_ret2
    refine ⟨.inl ⟨rfl, _, q, rfl, HS.out.alloc _, Blk.new _ _ _, by omega, by omega, World.ownsRow_nil _ _ _ _, NT.nil _ _, (fun y hy => by cases hy), (fun y hy => by cases hy)⟩, ⟨wv1, HD1.out.fr (F := fun _ => False) ((Fr.refl _ _).alloc _) (fun _ _ h => h)⟩, K1.out.trans (Kept.of_below ((Below.refl _ _).alloc (Nat.le_refl _) _) (by omega))⟩
  · have h0' := Lib.hid he
    have hI : (er != 0) = true := by simpa using he
    clear he
    go_wp2_with fail
    go_ret2
    exact ⟨.inr ⟨h0'.out, rfl⟩, ⟨wv1, HD1.out⟩, K1.out⟩

/-- The types that a chest's doing changes (but the notes' row). -/
def cts : List TypeId := 72 :: sts
/-- All blocks of other types are kept, but the notes' row. -/
structure KeptC (B : Nat) (nv : Value) (w w' : World) : Prop where
  below : Below B w w'
  kt : ∀ k t cs, Blk w k t cs → t ∉ cts → nv.ownBlock ≠ some k → Blk w' k t cs

section
variable {B : Nat} {nv nv1 : Value} {w w1 w2 : World}
theorem KeptC.of {ts : List TypeId} (h : Kept B ts w w1) (ht : ∀ t, t ∈ ts → t ∈ cts) : KeptC B nv w w1 := ⟨h.below, fun k t cs hb hn _ => h.kt k t cs hb (fun e => hn (ht t e))⟩
theorem KeptC.sts (h : Kept B sts w w1) : KeptC B nv w w1 := .of h (fun _t ht => List.mem_cons_of_mem _ ht)
theorem KeptC.trans (h : KeptC B nv w w1) (h' : KeptC B nv1 w1 w2) (hn : ∀ k, nv1.ownBlock = some k → nv.ownBlock = some k ∨ w.heap.size ≤ k) : KeptC B nv w w2 :=
  ⟨h.below.trans h'.below, fun k t cs hb ht hk => h'.kt k t cs (h.kt k t cs hb ht hk) ht (fun e => (hn k e).elim hk (fun hl => by have := hb.lt; omega))⟩
theorem KeptC.size (h : KeptC B nv w w1) : w.heap.size ≤ w1.heap.size := h.below.size
end

/-- Sync's answer. -/
def csyncR (x : CS) (s : SS) (S : DS) : Int × CS × SS × DS := if x.gone = true then (20, x, s, S) else ((syncR s S).1, { x with gone := (syncR s S).1 != 0 }, (syncR s S).2.1, (syncR s S).2.2)

theorem IsChest.kept {B r q p : Nat} {w w' : World} {x : CS} {hv nv : Value} (h : IsChest B w r q p x hv nv) (hk : Kept B sts w w') : IsChest B w' r q p x hv nv :=
  ⟨hk.kt _ _ _ h.st (by decide), h.br, h.bq, hk.own8 h.hd (by decide), hk.nt h.nt (by decide) (by decide), h.hb, h.nb⟩

/-- A store to a field of a chest. -/
theorem ChestB.set {B r q q' p gs : Nat} {w : World} {x x' : CS} {hv nv hv' nv' wv : Value} {S : DS} (st : ChestB w r q p x hv nv) (hbr : B ≤ r) (hd : IsDrum B w p gs wv S) (i : Nat) (v : Value)
    (e : (#[.pointer (some ⟨q, 0, none⟩), .pointer (some ⟨p, 0, none⟩), .int .i64 (x.sd : Int), .int .i64 (x.t : Int), hv, nv, .bool x.gone] : Array Value).setIfInBounds i v =
      #[.pointer (some ⟨q', 0, none⟩), .pointer (some ⟨p, 0, none⟩), .int .i64 (x'.sd : Int), .int .i64 (x'.t : Int), hv', nv', .bool x'.gone])
    (hq : B ≤ q') (h1 : Own8 B w hv' x'.h) (h2 : NT B w nv' x'.l) (h3 : ∀ y ∈ x'.h, 0 ≤ y ∧ y ≤ 255) (h4 : ∀ l ∈ x'.l, ∀ y ∈ l, 0 ≤ y ∧ y ≤ 255) :
    IsChest B (w.setCell ⟨r, i, none⟩ v) r q' p x' hv' nv' ∧ (∀ q0 s0, IsScroll w q0 p s0 → IsScroll (w.setCell ⟨r, i, none⟩ v) q0 p s0) ∧ IsDrum B (w.setCell ⟨r, i, none⟩ v) p gs wv S ∧ Kept B cts w (w.setCell ⟨r, i, none⟩ v) := by
  have hf : Fr (fun k => k = r) w (w.setCell ⟨r, i, none⟩ v) := (Fr.refl (fun k => k = r) w).setCell (p := ⟨r, i, none⟩) (fun _ => rfl) _
  refine ⟨⟨?_, hbr, hq, h1.fr hf (fun k hk f => own_ne h1 st (by decide) (f ▸ hk)), h2.fr hf (fun k t cs f hb => ?_), h3, h4⟩, fun q0 s0 hs => Blk.fr hs hf (fun f => (Blk.ne_ hs st (by decide)) f), hd.fr hf (fun k hk f => ?_), Kept.of_fr hf (by have := hd.lt (.inl rfl); omega) (fun k hk f => by omega) (fun k t cs f hb => ?_)⟩
  · have := st.set_ i v
    rw [e] at this
    exact this
  · subst f
    rw [(hb.inj st).1]
    exact ⟨by decide, by decide⟩
  · subst f
    rcases hk with e | e | e
    · exact st.ne_ hd.st (by decide) e
    · exact st.ne_ hd.sure (by decide) e
    · exact own_ne hd.waits st (by decide) e
  · subst f
    rw [(hb.inj st).1]
    exact List.mem_cons_self

theorem IsChest.set {B r q q' p gs : Nat} {w : World} {x x' : CS} {hv nv hv' nv' wv : Value} {S : DS} (h : IsChest B w r q p x hv nv) (hd : IsDrum B w p gs wv S) (i : Nat) (v : Value)
    (e : (#[.pointer (some ⟨q, 0, none⟩), .pointer (some ⟨p, 0, none⟩), .int .i64 (x.sd : Int), .int .i64 (x.t : Int), hv, nv, .bool x.gone] : Array Value).setIfInBounds i v =
      #[.pointer (some ⟨q', 0, none⟩), .pointer (some ⟨p, 0, none⟩), .int .i64 (x'.sd : Int), .int .i64 (x'.t : Int), hv', nv', .bool x'.gone])
    (hq : B ≤ q') (h1 : Own8 B w hv' x'.h) (h2 : NT B w nv' x'.l) (h3 : ∀ y ∈ x'.h, 0 ≤ y ∧ y ≤ 255) (h4 : ∀ l ∈ x'.l, ∀ y ∈ l, 0 ≤ y ∧ y ≤ 255) :
    IsChest B (w.setCell ⟨r, i, none⟩ v) r q' p x' hv' nv' ∧ (∀ q0 s0, IsScroll w q0 p s0 → IsScroll (w.setCell ⟨r, i, none⟩ v) q0 p s0) ∧ IsDrum B (w.setCell ⟨r, i, none⟩ v) p gs wv S ∧ Kept B cts w (w.setCell ⟨r, i, none⟩ v) :=
  h.st.set h.br hd i v e hq h1 h2 h3 h4

set_option maxHeartbeats 4000000 in
theorem csync_any (B r q p gs : Nat) (wv hv nv : Value) (x : CS) (s : SS) (S : DS) (w : World) (hd : IsDrum B w p gs wv S) (hs : IsScroll w q p s) (hc : IsChest B w r q p x hv nv) (hlen : S.waits.length ≤ 1000000000) :
    Calls Tryd.prog 45 #[.pointer (some ⟨r, 0, none⟩)] w fun e w' => e = .returned (.int .i64 (csyncR x s S).1) ∧ (∃ wv', IsDrum B w' p gs wv' (csyncR x s S).2.2.2) ∧ IsScroll w' q p (csyncR x s S).2.2.1 ∧ IsChest B w' r q p (csyncR x s S).2.1 hv nv ∧ KeptC B nv w w' := by
  have k6 : w.cell? ⟨r, 6, none⟩ = some (.bool x.gone) := hc.st.cell 6
  have k0 : w.cell? ⟨r, 0, none⟩ = some (.pointer (some ⟨q, 0, none⟩)) := hc.st.cell 0
  cases hg : x.gone with
  | true =>
    have hR : csyncR x s S = (20, x, s, S) := by unfold csyncR; rw [if_pos hg]
    rw [hR]
    rw [hg] at k6
    have HC := Lib.hid hc
    have HS := Lib.hid hs
    have HD := Lib.hid hd
    clear hc hs hd hR hg
    go_enter Tryd.func45, Tryd.ntmps45
    go_wp2_with fail
    go_ret
    exact ⟨rfl, ⟨wv, HD.out⟩, HS.out, HC.out, .sts (Kept.refl _ _ _)⟩
  | false =>
    have hR : csyncR x s S = ((syncR s S).1, { x with gone := (syncR s S).1 != 0 }, (syncR s S).2.1, (syncR s S).2.2) := by unfold csyncR; rw [if_neg (by rw [hg]; simp)]
    rw [hR]
    rw [hg] at k6
    have hsy := ssync_any B q p gs wv s S w hd hs hc.bq hlen
    obtain ⟨⟨er, s1, T⟩, hE⟩ : ∃ E, syncR s S = E := ⟨_, rfl⟩
    rw [hE] at hsy ⊢
    simp only at hsy ⊢
    have HC := Lib.hid hc
    clear hc hs hd hR hE
    go_enter Tryd.func45, Tryd.ntmps45
    go_wp2_with fail
    with_reducible refine hsy.mono ?_
    rintro e w1 ⟨rfl, ⟨wv1, hd1⟩, hs1, hk1⟩
    have hc1 := HC.out.kept hk1
    have j6 : w1.cell? ⟨r, 6, none⟩ = some (.bool x.gone) := hc1.st.cell 6
    have jf := hc1.st.frozen 6
    have hfin : ∀ b : Bool, _ := fun b => hc1.set (x' := { x with gone := b }) (q' := q) (hv' := hv) (nv' := nv) hd1 6 (.bool b) (by simp) hc1.bq hc1.hd hc1.nt hc1.hb hc1.nb
    have HF := Lib.hid hfin
    have HS1 := Lib.hid hs1
    have K1 := Lib.hid hk1
    clear hsy hd1 hs1 hk1 hc1 hfin
    go_wp2_with fail
    go_ret
    obtain ⟨f1, f2, f3, f4⟩ := HF.out (er != 0)
    exact ⟨rfl, ⟨wv1, f3⟩, f2 _ _ HS1.out, f1, (KeptC.sts K1.out).trans (KeptC.of (nv := nv) f4 (fun _ h => h)) (fun k hk => .inl hk)⟩

end Go.Proofs.YtohadeijmmmcdaaDoor
end

section
namespace Go.Proofs.YtohadeijmmmcdaaDoor
open Go.RowKit
set_option maxRecDepth 100000
attribute [local go_sem ↓] apt33_of

/-- Keep's answer. -/
def ckeepR (x : CS) (s : SS) (S : DS) (b : List Int) : Int × CS × SS × DS :=
  if x.gone = true then (20, x, s, S) else
  if (putR s S b).1 = 0 then (0, { x with l := x.l ++ [b] }, (putR s S b).2.1, (putR s S b).2.2) else
  if (putR s S b).1 = 18 ∨ (putR s S b).1 = 4 then ((putR s S b).1, x, (putR s S b).2.1, (putR s S b).2.2) else
  ((putR s S b).1, { x with gone := true }, (putR s S b).2.1, (putR s S b).2.2)

set_option maxHeartbeats 4000000 in
theorem ckeep_any (B r q p gs : Nat) (wv hv nv : Value) (x : CS) (s : SS) (S : DS) (A : Option Addr) (c : Nat) (hcA : A = none → c = 0) (b : List Int) (w : World) (hd : IsDrum B w p gs wv S) (hs : IsScroll w q p s) (hc : IsChest B w r q p x hv nv)
    (hum : s.u ≤ s.m) (hfm : s.f + s.m ≤ S.sure.length) (hn : s.n ≤ 1099511627776) (hlen : S.waits.length + 1024 ≤ 1000000000) (hnl : x.l.length + 1 ≤ 1000000000) (hb : ∀ W, Kept B sts w W → Byt W A b) (hbl : b.length ≤ 100000000) (hg : Glob w) (_h2 : 2 ≤ B) :
    Calls Tryd.prog 37 #[.pointer (some ⟨r, 0, none⟩), .slice A b.length c] w fun e w' => e = .returned (.int .i64 (ckeepR x s S b).1) ∧ (∃ wv', IsDrum B w' p gs wv' (ckeepR x s S b).2.2.2) ∧ IsScroll w' q p (ckeepR x s S b).2.2.1 ∧
      (∃ nv', IsChest B w' r q p (ckeepR x s S b).2.1 hv nv' ∧ Foot w nv nv') ∧ KeptC B nv w w' := by
  have k6 : w.cell? ⟨r, 6, none⟩ = some (.bool x.gone) := hc.st.cell 6
  have k0 : w.cell? ⟨r, 0, none⟩ = some (.pointer (some ⟨q, 0, none⟩)) := hc.st.cell 0
  obtain ⟨R, hR⟩ : ∃ R, ckeepR x s S b = R := ⟨_, rfl⟩
  rw [hR]
  unfold ckeepR at hR
  have hBw : B ≤ w.heap.size := by have := hd.lt (.inl rfl); omega
  have hbb := (hb w (Kept.refl _ _ _)).bd
  cases hg : x.gone with
  | true =>
    rw [if_pos hg] at hR
    rw [hg] at k6
    have HC := Lib.hid hc
    have HS := Lib.hid hs
    have HD := Lib.hid hd
    have HR := Lib.hid hR
    clear hc hs hd hR hg hb
    go_enter Tryd.func37, Tryd.ntmps37
    go_wp2_with fail
    go_ret
    rw [← HR.out]
    exact ⟨rfl, ⟨wv, HD.out⟩, HS.out, ⟨nv, HC.out, Foot.refl _ _⟩, .sts (Kept.refl _ _ _)⟩
  | false =>
    rw [if_neg (by rw [hg]; simp)] at hR
    rw [hg] at k6
    have hpu := put_any B q p gs wv s S A c hcA b w hd hs hc.bq hum hfm hn hlen (hb w (Kept.refl _ _ _)) hbl (by assumption)
    obtain ⟨⟨er, s1, T⟩, hE⟩ : ∃ E, putR s S b = E := ⟨_, rfl⟩
    rw [hE] at hpu hR
    simp only at hpu hR
    have HC := Lib.hid hc
    have HR := Lib.hid hR
    have HB := Lib.hid hb
    have HBB := Lib.hid hbb
    obtain ⟨L, hL⟩ : ∃ L, b.length = L := ⟨_, rfl⟩
    rw [hL] at hpu ⊢
    have HL := Lib.hid hL
    clear hc hs hd hR hE hb hbb hL
    go_enter Tryd.func37, Tryd.ntmps37
    go_wp2_with fail
    with_reducible refine hpu.mono ?_
    rintro e w1 ⟨rfl, ⟨wv1, hd1⟩, hs1, hk1⟩
    have hc1 := HC.out.kept hk1
    have HD1 := Lib.hid hd1
    have HS1 := Lib.hid hs1
    have HC1 := Lib.hid hc1
    have K1 := Lib.hid hk1
    clear hpu hd1 hs1 hc1 hk1
    by_cases he : er = 0
    · subst he
      have hR : (0, { x with l := x.l ++ [b] }, s1, T) = R := by
        have := HR.out
        simpa using this
      have HR := Lib.hid hR
      clear hR
      have hc1 := HC1.out
      have j5 : w1.drew.cell? ⟨r, 5, none⟩ = some nv := hc1.st.cell 5
      have hcl := clone_any A c hcA b w1.drew ((HB.out _ K1.out).below ((Below.refl _ w1).drew)) (by omega)
      rw [HL.out] at hcl
      clear hc1
      go_wp2_with fail
      refine wp_txJ [0, 0, 0, 0, 0, 0, 1, 1, 1, 0, 0, 2] (fun W => W.cell? ⟨r, 5, none⟩ = some nv) (by kernel_rfl) (by kernel_rfl) (by kernel_rfl) (by kernel_rfl) j5 ?_
      repeat (refine wpTxJ_take (v := ?_) (by rfl) (fun W' hS => ?_) ?_; rotate_left; focus (go_simp; (try with_reducible rfl)))
      refine wpTxJ_want (by rfl) (fun K hK => ?_)
      go_simp
      with_reducible refine hcl.mono ?_
      rintro e w2 ⟨v, rfl, ho, hB2⟩
      obtain ⟨Av, cv, rfl⟩ := ho.form
      have B2 : Below w1.heap.size w1 w2 := ((Below.refl _ w1).drew).trans hB2
      have hc2 := HC1.out.kept (Kept.of_below B2 (Nat.le_trans hBw K1.out.size))
      have hBw2 : B ≤ w2.heap.size := Nat.le_trans hBw (Nat.le_trans K1.out.size B2.size)
      have ho' : Own8 B w2 (.slice Av b.length cv) b := ho.base (Nat.le_trans hBw (Nat.le_trans K1.out.size (Nat.le_refl _)))
      obtain ⟨v5, w5, hap, ho5, hf5, hft5⟩ := hc2.nt.app (ty := 33) ho' (by omega) hBw2
      have i5 : w2.cell? ⟨r, 5, none⟩ = some nv := hc2.st.cell 5
      obtain ⟨An, cn, hnv⟩ := hc2.nt.form
      have f5 := hf5.below (B := B) hBw2 (fun k hk e => by have := (hc2.nt.lt e).1; omega)
      refine hK _ _ i5 ?_
      clear hK K hcl
      subst hnv
      refine wpTxJ_want (by rfl) (fun K hK => ?_)
      go_simp
      refine hK _ _ (hc2.st.alloc _ |>.cell 5) ?_
      clear hK K
      refine wpTxJ_want (by rfl) (fun K hK => ?_)
      go_simp
      have hst5 : ChestB w5 r q p x hv (.slice An x.l.length cn) := hc2.st.fr hf5 (hc2.nt.ne hc2.st (by decide))
      have K5 : Kept B [22] w2 w5 := Kept.of_fr hf5 hBw2 (fun k hk e => by have := (hc2.nt.lt e).1; omega) (fun k t cs f hb => by
        obtain ⟨cs', hb', _⟩ := hc2.nt.blk f
        rw [(hb.inj hb').1]
        exact List.mem_cons_self)
      have K2 : Kept B ([] : List TypeId) w1 w2 := Kept.of_below B2 (Nat.le_trans hBw K1.out.size)
      have hd5 := K5.drum (K2.drum HD1.out (by simp) (by simp) (by simp)) (by decide) (by decide) (by decide)
      have hs5 : IsScroll w5 q p s1 := K5.kt _ _ _ (K2.kt _ _ _ HS1.out (by simp)) (by decide)
      have kc5 : KeptC B (.slice An x.l.length cn) w w5 := ((KeptC.sts (nv := .slice An x.l.length cn) K1.out).trans (KeptC.of (nv := .slice An x.l.length cn) K2 (by simp)) (fun k hk => .inl hk)).trans (nv1 := .slice An x.l.length cn) ⟨f5, fun k t cs hb _ hk => hb.fr hf5 hk⟩ (fun k hk => .inl hk)
      have hfin := hst5.set (x' := { x with l := x.l ++ [b] }) (q' := q) (hv' := hv) (nv' := v5) hc2.br hd5 5 v5 (by simp) hc2.bq (K5.own8 hc2.hd (by decide)) ho5 hc2.hb (fun l hl => by
        rcases List.mem_append.1 hl with h | h
        · exact hc2.nb l h
        · rw [List.mem_singleton.1 h]; exact HBB.out)
      have c5 : w5.cell? ⟨r, 5, none⟩ = some (.slice An x.l.length cn) := hst5.cell 5
      have fr5 := hst5.frozen 5
      have hw2s := B2.size
      have HF := Lib.hid hfin
      have HS5 := Lib.hid hs5
      have HK5 := Lib.hid kc5
      have HFT := Lib.hid hft5
      obtain ⟨A5, cc5, rfl⟩ := ho5.form
      clear hap ho5 hf5 hft5 hc2 ho ho' B2 K5 K2 hd5 hs5 kc5 hfin hst5 i5
      refine hK _ _ c5 ?_
      clear hK K
      repeat (refine wpTxJ_take (v := ?_) (by rfl) (fun W' hS => ?_) ?_; rotate_left; focus (go_simp; (try with_reducible rfl)))
      refine wpTxJ_last (by rfl) (fun K hK => ?_)
      go_simp
      refine hK _ _ ?_
      clear hK K
      refine wpTxJ_nil ?_
      rw [noPan_normal]
      go_wp2_with fail
      go_ret
      rw [← HR.out]
      obtain ⟨f1, f2, f3, f4⟩ := HF.out
      simp only [List.length_append, List.length_singleton] at f1 f2 f3 f4
      exact ⟨rfl, ⟨wv1, f3⟩, f2 _ _ HS5.out, ⟨_, f1, fun k hk => (HFT.out k (by simpa using hk)).imp id (fun h => Nat.le_trans K1.out.size (Nat.le_trans hw2s h))⟩, HK5.out.trans (KeptC.of (nv := .slice An x.l.length cn) f4 (fun _ h => h)) (fun k hk => .inl hk)⟩
    · have hI : (er == 0) = false := by simpa using he
      have hR := HR.out
      rw [if_neg he] at hR
      by_cases he2 : er = 18 ∨ er = 4
      · rw [if_pos he2] at hR
        have HR := Lib.hid hR
        clear hR
        obtain rfl | rfl := he2
        · go_wp2_with fail
          go_ret
          rw [← HR.out]
          exact ⟨rfl, ⟨wv1, HD1.out⟩, HS1.out, ⟨nv, HC1.out, Foot.refl _ _⟩, .sts K1.out⟩
        · go_wp2_with fail
          go_ret
          rw [← HR.out]
          exact ⟨rfl, ⟨wv1, HD1.out⟩, HS1.out, ⟨nv, HC1.out, Foot.refl _ _⟩, .sts K1.out⟩
      · rw [if_neg he2] at hR
        have HR := Lib.hid hR
        have hI2 : (er == 18) = false := by simp; omega
        have hI3 : (er == 4) = false := by simp; omega
        have hc1 := HC1.out
        have j6 : w1.cell? ⟨r, 6, none⟩ = some (.bool x.gone) := hc1.st.cell 6
        have jf := hc1.st.frozen 6
        have hfin := hc1.set (x' := { x with gone := true }) (q' := q) (hv' := hv) (nv' := nv) HD1.out 6 (.bool true) (by simp) hc1.bq hc1.hd hc1.nt hc1.hb hc1.nb
        have HF := Lib.hid hfin
        clear hR he he2 hc1 hfin
        go_wp2_with fail
        go_ret
        rw [← HR.out]
        obtain ⟨f1, f2, f3, f4⟩ := HF.out
        exact ⟨rfl, ⟨wv1, f3⟩, f2 _ _ HS1.out, ⟨nv, f1, Foot.refl _ _⟩, (KeptC.sts K1.out).trans (KeptC.of (nv := nv) f4 (fun _ h => h)) (fun k hk => .inl hk)⟩

end Go.Proofs.YtohadeijmmmcdaaDoor
end
