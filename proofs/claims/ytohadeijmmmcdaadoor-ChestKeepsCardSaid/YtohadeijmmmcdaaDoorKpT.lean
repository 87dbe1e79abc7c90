/-
  ChestKeeps: what was put is written down.
-/
import Derived.Test.YtohadeijmmmcdaaDoorKpS
import Derived.Test.YtohadeijmmmcdaaDoorRChF
namespace Go.Proofs.YtohadeijmmmcdaaDoor
open Go Go.RowKit Machine
set_option maxRecDepth 100000

theorem own_setN {base : Nat} {w : World} {e : TypeId} {size n g cap : Nat} {xs : List Value} (h : w.ownsRow base e size (.slice (some ⟨g, 0, none⟩) n cap) n xs) (i : Nat) (u : Value) : (w.setCell ⟨g, i, none⟩ u).ownsRow base e size (.slice (some ⟨g, 0, none⟩) n cap) n (xs.set i u) := by
  refine ⟨by simpa using h.1, ?_⟩
  rcases h.2 with ⟨h0, _⟩ | ⟨g', cap', cur, hv, hb, hh, hn, hm, hsz, ht⟩
  · cases h0
  · simp only [Value.slice.injEq, Option.some.injEq, Addr.mk.injEq, and_true, true_and] at hv
    obtain ⟨rfl, rfl⟩ := hv
    refine .inr ⟨g, cap, cur.setIfInBounds i u, rfl, hb, heap_setCell_same w g i cur e u hh, hn, hm, by simpa using hsz, ?_⟩
    rw [Array.toList_setIfInBounds, List.take_set, ht]

theorem try_kept {B g o : Nat} {w : World} {cs : Array Value} (hg : Blk w g 90 cs) (hB : B ≤ g) (v : Value) : Kept B [90] w (w.setCell ⟨g, o, none⟩ v) :=
  Kept.of_fr ((Fr.refl (fun k => k = g) w).setCell (p := ⟨g, o, none⟩) (fun _ => rfl) v) (by have := hg.lt; omega) (fun k hk e => by omega) (fun k t cs' e hb => by
    subst e
    rw [(hb.inj hg).1]
    simp)

section
variable {B : Nat} {nv : Value} {w : World} {v : Value} {ts : List (Int × List (List Int))}
theorem TrV.blk {g c : Nat} (h : TrV B nv w (.slice (some ⟨g, 0, none⟩) ts.length c) ts) : B ≤ g ∧ ∃ cs, Blk w g 90 cs := by
  obtain ⟨xs, h1, _⟩ := h
  obtain ⟨cs, h2, h3⟩ := own_blk h1 (g := g) rfl
  exact ⟨h3, cs, h2⟩
/-- A try's texts turn. -/
theorem TrV.set {g c : Nat} (h : TrV B nv w (.slice (some ⟨g, 0, none⟩) ts.length c) ts) {j : Nat} (hj : j < ts.length) {A : Option Addr} {d : Nat} {L : List (List Int)} (hC : ChT B w A d L) (hA : ∀ a, A = some a → 0 < L.length → nv.ownBlock ≠ some a.block) :
    TrV B nv (w.setCell ⟨g, 2 * j + 1, none⟩ (.slice A L.length d)) (.slice (some ⟨g, 0, none⟩) ts.length c) (ts.set j (ts[j].1, L)) ∧ Kept B [90] w (w.setCell ⟨g, 2 * j + 1, none⟩ (.slice A L.length d)) := by
  obtain ⟨hB, cs, hb⟩ := h.blk
  have hk := try_kept (o := 2 * j + 1) hb hB (.slice A L.length d)
  obtain ⟨xs, h1, h2⟩ := h
  refine ⟨⟨xs.set (2 * j + 1) (.slice A L.length d), by rw [List.length_set]; exact own_setN h1 _ _, fun i hi => ?_⟩, hk⟩
  have hi2 : i < ts.length := by rw [List.length_set] at hi; exact hi
  have hxl := h1.1
  by_cases e : i = j
  · subst e
    obtain ⟨A0, c0, e1, _⟩ := h2 i hi2
    rw [List.getElem_set_self]
    exact ⟨A, d, by rw [List.getElem?_set_ne (by omega)]; exact e1, by rw [List.getElem?_set_self (by omega)], hC.kept hk (by decide) (by decide), hA⟩
  · obtain ⟨A0, c0, e1, e2, e3, e4⟩ := h2 i hi2
    rw [List.getElem_set_ne (by omega)]
    exact ⟨A0, c0, by rw [List.getElem?_set_ne (by omega)]; exact e1, by rw [List.getElem?_set_ne (by omega)]; exact e2, e3.kept hk (by decide) (by decide), e4⟩
/-- One more try. -/
theorem TrV.app (h : TrV B nv w v ts) (hB : B ≤ w.heap.size) (hts : ts.length ≤ 1000) (t : Int) {A : Option Addr} {d : Nat} {L : List (List Int)} (hC : ChT B w A d L) (hA : ∀ a, A = some a → 0 < L.length → nv.ownBlock ≠ some a.block) :
    ∃ v' w', (APs #[91, 91] 91 #[v, .slice (some ⟨w.heap.size, 0, none⟩) 1 1]).run Tryd.prog (w.alloc (.cells #[.int .i64 t, .slice A L.length d] 90)) = .ok v' w' ∧
      TrV B nv w' v' (ts ++ [(t, L)]) ∧ Kept B [90] w w' := by
  obtain ⟨xs, h1, h2⟩ := h
  have hxl := h1.1
  obtain ⟨w0, hw0⟩ : ∃ w0, w.alloc (.cells #[.int .i64 t, .slice A L.length d] 90) = w0 := ⟨_, rfl⟩
  have hb : Blk w0 w.heap.size 90 #[.int .i64 t, .slice A L.length d] := by rw [← hw0]; exact Blk.new w _ _
  obtain ⟨v', w', e1, e2, e3, _⟩ := APs_own (P := Tryd.prog) (ty := 91) u91 i90 (by omega) (World.ownsRow.alloc h1 (.cells #[.int .i64 t, .slice A L.length d] 90)) (a := ⟨w.heap.size, 0, none⟩) (m := 1) (c := 1) [.int .i64 t, .slice A L.length d] (by simp)
    (fun j u hu => by
      have hadd : (⟨w.heap.size, 0, none⟩ : Addr).add j = ⟨w.heap.size, j, none⟩ := by unfold Addr.add; split <;> simp_all
      rw [hadd, hw0, hb.cell j]
      simpa using hu) (by intro u hu; simp at hu; rcases hu with rfl | rfl <;> rfl) (by unfold maxLen; omega) (by omega) (by simp; omega)
  rw [hw0] at e1 e3
  have hf : Fr (fun k => v.ownBlock = some k) w w' := by
    have := ((Fr.refl (fun k => v.ownBlock = some k) w).alloc (.cells #[.int .i64 t, .slice A L.length d] 90))
    rw [hw0] at this
    exact this.grown e3 (fun k _ e => e)
  have hk : Kept B [90] w w' := Kept.of_fr hf hB (fun k hk e => by have := (World.ownsRow.lt h1 k e).1; omega) (fun k t' cs' e hb' => by
    obtain ⟨cs, h3, _⟩ := own_blk h1 e
    rw [(hb'.inj h3).1]
    simp)
  refine ⟨v', w', by rw [hw0]; exact e1, ⟨xs ++ [.int .i64 t, .slice A L.length d], by rw [List.length_append]; exact e2, fun i hi => ?_⟩, hk⟩
  by_cases hlt : i < ts.length
  · obtain ⟨A0, c0, k1, k2, k3, k4⟩ := h2 i hlt
    rw [List.getElem_append_left hlt]
    exact ⟨A0, c0, by rw [List.getElem?_append_left (by omega)]; exact k1, by rw [List.getElem?_append_left (by omega)]; exact k2, k3.kept hk (by decide) (by decide), k4⟩
  · simp at hi
    obtain rfl : i = ts.length := by omega
    rw [List.getElem_append_right (Nat.le_refl _)]
    simp only [Nat.sub_self, List.getElem_cons_zero]
    refine ⟨A, d, ?_, ?_, hC.kept hk (by decide) (by decide), hA⟩
    · rw [List.getElem?_append_right (by omega), show 2 * ts.length - xs.length = 0 by omega]
      rfl
    · rw [List.getElem?_append_right (by omega), show 2 * ts.length + 1 - xs.length = 1 by omega]
      rfl
end

/-! ### Texts copied, and one behind them, in whatever order -/
theorem copyG {n₀ : Nat} {X : World} {g0 : Nat} (o0 : X.ownsRow n₀ 22 1 (.slice (some ⟨g0, 0, none⟩) 0 0) 0 []) (hn : n₀ ≤ X.heap.size) {A : Option Addr} {c : Nat} {xs : List Value} {L : List (List Int)} (h : TxsV X A xs L) (hA : A = none → c = 0) (hlen : L.length ≤ 1000000) :
    ∃ A1 c1 w1, (APs #[33, 33] 33 #[.slice (some ⟨g0, 0, none⟩) 0 0, .slice A L.length c]).run Tryd.prog X = .ok (.slice A1 L.length c1) w1 ∧
      w1.ownsRow n₀ 22 1 (.slice A1 L.length c1) L.length xs ∧ Fr (fun k => k = g0) X w1 := by
  have hcopy : ∃ v1 w1, (APs #[33, 33] 33 #[.slice (some ⟨g0, 0, none⟩) 0 0, .slice A L.length c]).run Tryd.prog X = .ok v1 w1 ∧ w1.ownsRow n₀ 22 1 v1 L.length xs ∧ Fr (fun k => k = g0) X w1 := by
    cases A with
    | none =>
      have e : xs = [] := by
        cases xs with
        | nil => rfl
        | cons x r =>
          obtain ⟨g, o, e, _⟩ := h.cell (by simp)
          cases e
      subst e
      have eL : L.length = 0 := by rw [← h.len]; rfl
      obtain rfl := hA rfl
      obtain ⟨i, hi⟩ := Option.map_eq_some_iff.1 iT
      rw [eL]
      exact ⟨_, _, run_append_owned_none _ n₀ 33 33 22 i 1 uT hi.1 _ _ _ o0, o0, Fr.refl _ _⟩
    | some a =>
      obtain ⟨v', w', e1, e2, e3, _⟩ := APs_own (P := Tryd.prog) (ty := 33) uT iT (by omega) o0 (a := a) (m := L.length) (c := c) xs (by rw [h.len]; omega) (fun j u hu => by
        have hj : j < xs.length := (List.getElem?_eq_some_iff.1 hu).1
        obtain ⟨g, o, e, _, hc⟩ := h.cell (by omega)
        cases e
        rw [addN]
        exact hc j u hu) (fun u hu => by
        obtain ⟨i, hi, rfl⟩ := List.getElem_of_mem hu
        exact (h.txt i hi (by rw [← h.len]; exact hi)).one) (by unfold maxLen; omega) (by omega) (by simpa using hn)
      refine ⟨v', w', e1, by simpa using e2, (Fr.refl _ _).grown e3 (fun k _ e => ?_)⟩
      simpa [Value.ownBlock, eq_comm] using e
  obtain ⟨v1, w1, r1, o1, f1⟩ := hcopy
  obtain ⟨A1, c1, rfl⟩ := own_form o1
  exact ⟨A1, c1, w1, r1, o1, f1⟩
theorem appG {n₀ : Nat} {X : World} {v : Value} {n : Nat} {xs : List Value} (o1 : X.ownsRow n₀ 22 1 v n xs) (hn : n₀ ≤ X.heap.size) {s : Nat} {u : Value} (hs : Blk X s 22 #[u]) (hu : u.oneCell' = true) (hlen : n ≤ 1000000) :
    ∃ A3 c3 w3, (APs #[33, 33] 33 #[v, .slice (some ⟨s, 0, none⟩) 1 1]).run Tryd.prog X = .ok (.slice A3 (n + 1) c3) w3 ∧ w3.ownsRow n₀ 22 1 (.slice A3 (n + 1) c3) (n + 1) (xs ++ [u]) ∧ Fr (fun k => v.ownBlock = some k) X w3 := by
  obtain ⟨v', w', e1, e2, e3, _⟩ := APs_own (P := Tryd.prog) (ty := 33) uT iT (by omega) o1 (a := ⟨s, 0, none⟩) (m := 1) (c := 1) [u] (by simp) (fun j x hx => by
    have hadd : (⟨s, 0, none⟩ : Addr).add j = ⟨s, j, none⟩ := by unfold Addr.add; split <;> simp_all
    rw [hadd, hs.cell j]
    simpa using hx) (by intro x hx; simp at hx; subst hx; exact hu) (by unfold maxLen; omega) (by omega) (by simpa using hn)
  obtain ⟨A3, c3, rfl⟩ := own_form e2
  exact ⟨A3, c3, w', e1, e2, (Fr.refl _ _).grown e3 (fun k _ e => e)⟩
theorem snocT (n₀ : Nat) {w w3 : World} (_hn₀ : n₀ ≤ w.heap.size) {A : Option Addr} {c : Nat} {L : List (List Int)} (hC : ChT n₀ w A c L) {xs : List Value} (h1 : TxsV w A xs L) (h2 : ∀ i (hi : i < xs.length) (hi' : i < L.length) k, (xs[i]).ownBlock = some k → 0 < (L[i]).length → k < n₀ ∨ ∃ cs, Blk w k 5 cs) {B : Option Addr} {d : Nat} {b : List Int} (hb : Byt w B b) (hbl : b.length ≤ 80000000) (hd : B = none → d = 0) (hB : ∀ a, B = some a → 0 < b.length → a.block < n₀ ∨ ∃ cs, Blk w a.block 5 cs)
    {A3 : Option Addr} {c3 : Nat} (o3 : w3.ownsRow w.heap.size 22 1 (.slice A3 (L.length + 1) c3) (L.length + 1) (xs ++ [.slice B b.length d])) (b3 : Below w.heap.size w w3) :
    ChT n₀ w3 A3 c3 (L ++ [b]) ∧ (∀ a, A3 = some a → w.heap.size ≤ a.block) := by
  have hT := h1.below b3
  have hy := hb.below b3
  refine ⟨⟨⟨xs ++ [.slice B b.length d], ⟨by simp [h1.len], fun h0 => ?_, fun i hi hi' => ?_⟩, fun i hi hi' k hk hk0 => ?_⟩, fun e => ?_, fun a ha _ => ?_, fun l hl => ?_, by rw [List.length_append]; exact own_cap o3⟩, fun a ha => ?_⟩
  · obtain ⟨g, cap, e, _, hg, hc⟩ := own_cells o3 (by simp)
    simp only [Value.slice.injEq] at e
    exact ⟨g, 0, e.1, hg, fun j x hx => hc j x hx⟩
  · by_cases hlt : i < xs.length
    · rw [List.getElem_append_left hlt, List.getElem_append_left (by rw [← h1.len]; exact hlt)]
      exact hT.txt i hlt (by rw [← h1.len]; exact hlt)
    · have hi2 : i = xs.length := by simp at hi; omega
      subst hi2
      simp only [List.getElem_append_right (Nat.le_refl _), Nat.sub_self, List.getElem_cons_zero]
      simp only [h1.len, List.getElem_append_right (Nat.le_refl _), Nat.sub_self, List.getElem_cons_zero]
      exact ⟨B, d, rfl, hy, hd⟩
  · by_cases hlt : i < xs.length
    · have hlt' : i < L.length := by rw [← h1.len]; exact hlt
      rw [List.getElem_append_left hlt] at hk
      rw [List.getElem_append_left hlt'] at hk0
      rcases h2 i hlt hlt' k hk hk0 with h | ⟨cs, h⟩
      · exact .inl h
      · exact .inr ⟨cs, h.fr (Fr.of_below b3) (by have := h.lt; omega)⟩
    · have hi2 : i = xs.length := by simp at hi; omega
      subst hi2
      simp only [List.getElem_append_right (Nat.le_refl _), Nat.sub_self, List.getElem_cons_zero] at hk
      simp only [h1.len, List.getElem_append_right (Nat.le_refl _), Nat.sub_self, List.getElem_cons_zero] at hk0
      cases B with
      | none => cases hk
      | some a =>
        simp only [Value.ownBlock, Option.some.injEq] at hk
        subst hk
        rcases hB a rfl hk0 with h | ⟨cs, h⟩
        · exact .inl h
        · exact .inr ⟨cs, h.fr (Fr.of_below b3) (by have := h.lt; omega)⟩
  · subst e
    rcases o3.2 with ⟨e, _⟩ | ⟨g, cap, cur, e, _⟩
    · cases e
    · cases e
  · obtain ⟨cs, hc, _⟩ := own_blk o3 (g := a.block) (by rw [ha]; rfl)
    exact .inr ⟨cs, hc⟩
  · rcases List.mem_append.1 hl with h | h
    · exact hC.bd l h
    · simp at h
      subst h
      exact ⟨hb.bd, hbl⟩
  · obtain ⟨cs, _, hB⟩ := own_blk o3 (g := a.block) (by rw [ha]; rfl)
    exact hB


theorem app_three (n₀ : Nat) (w : World) (hn : n₀ ≤ w.heap.size) {A : Option Addr} {c : Nat} {L : List (List Int)} (hC : ChT n₀ w A c L) (hlen : L.length < 1000000) {B : Option Addr} {d : Nat} {b : List Int} (hb : Byt w B b) (hbl : b.length ≤ 80000000) (hd : B = none → d = 0) (hB : ∀ a, B = some a → 0 < b.length → a.block < n₀ ∨ ∃ cs, Blk w a.block 5 cs) :
    (∃ A1 c1 w1 A3 c3 w3, (APs #[33, 33] 33 #[.slice (some ⟨w.heap.size, 0, none⟩) 0 0, .slice A L.length c]).run Tryd.prog (w.alloc (.cells #[] 22)) = .ok (.slice A1 L.length c1) w1 ∧
      (APs #[33, 33] 33 #[.slice A1 L.length c1, .slice (some ⟨w1.heap.size, 0, none⟩) 1 1]).run Tryd.prog (w1.alloc (.cells #[.slice B b.length d] 22)) = .ok (.slice A3 (L.length + 1) c3) w3 ∧ Below w.heap.size w w1 ∧ Below w.heap.size w w3 ∧ ChT n₀ w3 A3 c3 (L ++ [b]) ∧ (∀ a, A3 = some a → w.heap.size ≤ a.block)) ∧
    (∃ A1 c1 w1 A3 c3 w3, (APs #[33, 33] 33 #[.slice (some ⟨w.heap.size, 0, none⟩) 0 0, .slice A L.length c]).run Tryd.prog ((w.alloc (.cells #[] 22)).alloc (.cells #[.slice B b.length d] 22)) = .ok (.slice A1 L.length c1) w1 ∧
      (APs #[33, 33] 33 #[.slice A1 L.length c1, .slice (some ⟨w.heap.size + 1, 0, none⟩) 1 1]).run Tryd.prog w1 = .ok (.slice A3 (L.length + 1) c3) w3 ∧ Below w.heap.size w w1 ∧ Below w.heap.size w w3 ∧ ChT n₀ w3 A3 c3 (L ++ [b]) ∧ (∀ a, A3 = some a → w.heap.size ≤ a.block)) ∧
    (∃ A1 c1 w1 A3 c3 w3, (APs #[33, 33] 33 #[.slice (some ⟨w.heap.size + 1, 0, none⟩) 0 0, .slice A L.length c]).run Tryd.prog ((w.alloc (.cells #[.slice B b.length d] 22)).alloc (.cells #[] 22)) = .ok (.slice A1 L.length c1) w1 ∧
      (APs #[33, 33] 33 #[.slice A1 L.length c1, .slice (some ⟨w.heap.size, 0, none⟩) 1 1]).run Tryd.prog w1 = .ok (.slice A3 (L.length + 1) c3) w3 ∧ Below w.heap.size w w1 ∧ Below w.heap.size w w3 ∧ ChT n₀ w3 A3 c3 (L ++ [b]) ∧ (∀ a, A3 = some a → w.heap.size ≤ a.block)) := by
  obtain ⟨xs, h1, h2⟩ := hC.ex
  have hu : (Value.slice B b.length d).oneCell' = true := rfl
  have fin : ∀ {A1 : Option Addr} {c1 : Nat} {w1 w3 : World} {A3 : Option Addr} {c3 : Nat}, w3.ownsRow w.heap.size 22 1 (.slice A3 (L.length + 1) c3) (L.length + 1) (xs ++ [.slice B b.length d]) → w1.ownsRow w.heap.size 22 1 (.slice A1 L.length c1) L.length xs → Below w.heap.size w w1 → Fr (fun k => (Value.slice A1 L.length c1).ownBlock = some k) w1 w3 →
      Below w.heap.size w w3 ∧ ChT n₀ w3 A3 c3 (L ++ [b]) ∧ (∀ a, A3 = some a → w.heap.size ≤ a.block) := fun o3 o1 b1 f3 => by
    have b3 := b1.trans (f3.below b1.size (fun k hk e => by have := (World.ownsRow.lt o1 k e).1; omega))
    exact ⟨b3, snocT n₀ hn hC h1 h2 hb hbl hd hB o3 b3⟩
  refine ⟨?_, ?_, ?_⟩
  · have b0 : Below w.heap.size w (w.alloc (.cells #[] 22)) := (Below.refl _ w).alloc (Nat.le_refl _) _
    obtain ⟨A1, c1, w1, r1, o1, f1⟩ := copyG (own_nul w _ _ (Nat.le_refl _)) (by simp) (h1.below b0) hC.nul (by omega)
    have b1 : Below w.heap.size w w1 := b0.trans (f1.below (by simp) (fun k hk e => by omega))
    have o1' := World.ownsRow.alloc o1 (.cells #[.slice B b.length d] 22)
    obtain ⟨A3, c3, w3, r3, o3, f3⟩ := appG o1' (by have := b1.size; simp; omega) (Blk.new w1 22 #[.slice B b.length d]) hu (by omega)
    obtain ⟨q1, q2⟩ := fin o3 o1' (b1.alloc b1.size _) f3
    exact ⟨A1, c1, w1, A3, c3, w3, r1, r3, b1, q1, q2⟩
  · have b0 : Below w.heap.size w ((w.alloc (.cells #[] 22)).alloc (.cells #[.slice B b.length d] 22)) := ((Below.refl _ w).alloc (Nat.le_refl _) _).alloc (by simp) _
    obtain ⟨A1, c1, w1, r1, o1, f1⟩ := copyG (World.ownsRow.alloc (own_nul w _ _ (Nat.le_refl _)) (.cells #[.slice B b.length d] 22)) (by simp; omega) (h1.below b0) hC.nul (by omega)
    have b1 : Below w.heap.size w w1 := b0.trans (f1.below (by simp; omega) (fun k hk e => by omega))
    have hs := (Blk.new (w.alloc (.cells #[] 22)) 22 #[.slice B b.length d]).fr f1 (by simp)
    rw [World.size_alloc] at hs
    obtain ⟨A3, c3, w3, r3, o3, f3⟩ := appG o1 b1.size hs hu (by omega)
    obtain ⟨q1, q2⟩ := fin o3 o1 b1 f3
    exact ⟨A1, c1, w1, A3, c3, w3, r1, r3, b1, q1, q2⟩
  · have b0 : Below w.heap.size w ((w.alloc (.cells #[.slice B b.length d] 22)).alloc (.cells #[] 22)) := ((Below.refl _ w).alloc (Nat.le_refl _) _).alloc (by simp) _
    have o0 := own_nul (w.alloc (.cells #[.slice B b.length d] 22)) 22 w.heap.size (by simp)
    rw [World.size_alloc] at o0
    obtain ⟨A1, c1, w1, r1, o1, f1⟩ := copyG o0 (by simp; omega) (h1.below b0) hC.nul (by omega)
    have b1 : Below w.heap.size w w1 := b0.trans (f1.below (by simp; omega) (fun k hk e => by omega))
    have hs := ((Blk.new w 22 #[.slice B b.length d]).alloc (.cells #[] 22)).fr f1 (by omega)
    obtain ⟨A3, c3, w3, r3, o3, f3⟩ := appG o1 b1.size hs hu (by omega)
    obtain ⟨q1, q2⟩ := fin o3 o1 b1 f3
    exact ⟨A1, c1, w1, A3, c3, w3, r1, r3, b1, q1, q2⟩

/-- A row of one text that lies elsewhere. -/
theorem one_txt (n₀ : Nat) (w : World) {B : Option Addr} {d : Nat} {b : List Int} (hb : Byt w B b) (hbl : b.length ≤ 80000000) (hd : B = none → d = 0) (hB : ∀ a, B = some a → 0 < b.length → a.block < n₀ ∨ ∃ cs, Blk w a.block 5 cs) :
    ChT n₀ (w.alloc (.cells #[.slice B b.length d] 22)) (some ⟨w.heap.size, 0, none⟩) 1 [b] ∧ Below w.heap.size w (w.alloc (.cells #[.slice B b.length d] 22)) := by
  have b0 : Below w.heap.size w (w.alloc (.cells #[.slice B b.length d] 22)) := (Below.refl _ _).alloc (Nat.le_refl _) _
  have hk := Blk.new w 22 #[.slice B b.length d]
  refine ⟨⟨⟨[.slice B b.length d], ⟨rfl, fun _ => ⟨_, 0, rfl, by simp, fun j x hx => ?_⟩, fun i hi hi' => ?_⟩, fun i hi hi' k hk' hk0 => ?_⟩, (fun e => by cases e), fun a ha _ => ?_, fun l hl => ?_, Nat.le_refl _⟩, b0⟩
  · rw [Nat.zero_add, hk.cell]
    simpa using hx
  · simp at hi
    subst hi
    exact ⟨B, d, rfl, hb.below b0, hd⟩
  · simp at hi
    subst hi
    simp only [List.getElem_cons_zero] at hk' hk0
    cases B with
    | none => cases hk'
    | some a =>
      simp only [Value.ownBlock, Option.some.injEq] at hk'
      subst hk'
      rcases hB a rfl hk0 with h | ⟨cs, h⟩
      · exact .inl h
      · exact .inr ⟨cs, h.fr (Fr.of_below b0) (by have := h.lt; omega)⟩
  · cases ha
    exact .inr ⟨_, hk⟩
  · simp at hl
    subst hl
    exact ⟨hb.bd, hbl⟩

section
variable {w : World} {p gs i r T k n : Nat} {nv : Value} {gone : Bool} {W W' : World}
theorem KpS.other {ts : List TypeId} (h : KpS w p gs i r T k n nv gone W) (hk : Kept w.heap.size ts W W') (h1 : 108 ∉ ts) (h2 : 119 ∉ ts) (h3 : 121 ∉ ts) (h4 : 111 ∉ ts) (h5 : 72 ∉ ts) (h6 : 5 ∉ ts) (h7 : 22 ∉ ts) : KpS w p gs i r T k n nv gone W' := by
  obtain ⟨x, s, S, sd, mx, P, L, a1, a2⟩ := h.ex
  exact ⟨x, s, S, sd, mx, P, L, a1.other hk h1 h2 h3 h4 h5 h6 h7, a2⟩
end
end Go.Proofs.YtohadeijmmmcdaaDoor
