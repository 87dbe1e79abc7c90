/-
  The drum's Read.
  The drum without law 12's helpers: bytes compared; New.
  Bytes: rows of one's own that are appended to; parts of a slice.
  Texts: rows whose elements are byte slices.
-/
import Derived.Test.YtdkanehjahpehaaGreatDoorJDrumA
import Derived.Laws.AppendOwnNone
import Derived.Laws.OwnMore

section
namespace Go.Proofs.YtdkanehjahpehaaGreatDoor
open Go.RowKit
set_option maxRecDepth 100000
/-- A new slice of these bytes: nil, or in a block of its own. -/
structure NewB (n₀ : Nat) (w : World) (A : Option Addr) (l : List Int) : Prop where
  byt : Byt w A l
  new : ∀ a, A = some a → n₀ ≤ a.block

theorem Blk.byt {w : World} {g : Nat} {t : TypeId} {l : List Int} (h : Blk w g t (bys l).toArray) (hl : ∀ x ∈ l, 0 ≤ x ∧ x ≤ 255) : Byt w (some ⟨g, 0, none⟩) l :=
  ⟨fun _ => ⟨g, 0, rfl, h.lt, fun j x hx => by rw [h.cell]; simp [bys_get, hx]⟩, hl⟩
theorem Byt.nil (w : World) (A : Option Addr) : Byt w A [] := ⟨fun h => absurd h (by simp), by simp⟩

end Go.Proofs.YtdkanehjahpehaaGreatDoor
end

section
namespace Go.Proofs.YtdkanehjahpehaaGreatDoor
open Go.RowKit
set_option maxRecDepth 100000

theorem iz5 : (Tryz.prog.info? 5).map (fun i => (i.zero, i.size, i.bytes)) = some (some (.int .u8 0), 1, 1) := by kernel_rfl

theorem made_bytes (n : Nat) : madeCells #[Value.int .u8 0] n = (bys (List.replicate n 0)).toArray := by
  apply Array.ext'
  rw [made_eq #[Value.int .u8 0] (.int .u8 0) n 1 rfl (by omega)]
  simp [bys]

/-- Make bytes. -/
theorem make_bytes (n : Nat) (hn : n ≤ 1000000000) (w : World) : (Instr.makeSlice 28 (.int .i64 (n : Int)) (.int .i64 (n : Int))).run Tryz.prog w = .ok (.slice (some ⟨w.heap.size, 0, none⟩) n n) (w.alloc (.cells (bys (List.replicate n 0)).toArray 5)) := by
  obtain ⟨i, hi, hh⟩ := Option.map_eq_some_iff.1 iz5
  simp only [Prod.mk.injEq] at hh
  obtain ⟨hz, hs, hb⟩ := hh
  have hr := run_make (P := Tryz.prog) w 28 5 i (.int .u8 0) Tryz.underlying28 hi hz .i64 .i64 n n (by omega) (Int.le_refl _) (by rw [hb]; omega) (by omega)
  rw [hs] at hr
  simp only [Int.toNat_natCast, Nat.mul_one, Value.cells, made_bytes] at hr
  exact hr

theorem take_more {α : Type} [DecidableEq α] {a b : List α} {i : Nat} (ha : i < a.length) (hb : i < b.length) (h : a.take i = b.take i) (he : a[i] = b[i]) : a.take (i + 1) = b.take (i + 1) := by
  rw [List.take_succ_eq_append_getElem ha, List.take_succ_eq_append_getElem hb, h, he]

theorem wrap64_in (n : Int) (h : -9223372036854775808 ≤ n ∧ n ≤ 9223372036854775807) : wrap64 n = n := by unfold wrap64; omega

end Go.Proofs.YtdkanehjahpehaaGreatDoor
end

section
section
namespace Go.Proofs.YtdkanehjahpehaaGreatDoor
open Go.RowKit
set_option maxRecDepth 100000

theorem u22 : Tryz.prog.underlying 28 = some (.slice 5) := by kernel_rfl
theorem ib5 : (Tryz.prog.info? 5).map (fun i => (i.zero.map (·.cells.size), i.size, i.bytes)) = some (some 1, 1, 1) := by kernel_rfl

/-- The slice v has the bytes l, in a row of one's own. -/
def Own8 (B : Nat) (w : World) (v : Value) (l : List Int) : Prop := w.ownsRow B 5 1 v l.length (bys l)

section
variable {B : Nat} {w w' : World} {v : Value} {l : List Int}
theorem Own8.nil (B : Nat) (w : World) : Own8 B w (.slice none 0 0) [] := World.ownsRow_nil _ _ _ _
theorem Own8.fr {F : Nat → Prop} (h : Own8 B w v l) (hf : Fr F w w') (hn : ∀ k, v.ownBlock = some k → ¬ F k) : Own8 B w' v l := own_fr h hf hn
theorem Own8.form (h : Own8 B w v l) : ∃ A c, v = .slice A l.length c := own_form h
theorem Own8.byt (h : Own8 B w v l) (hb : ∀ x ∈ l, 0 ≤ x ∧ x ≤ 255) : ∃ A c, v = .slice A l.length c ∧ Byt w A l ∧ (∀ a, A = some a → B ≤ a.block) ∧ l.length ≤ c := by
  obtain ⟨h1, ⟨rfl, h2⟩ | ⟨g, cap, cur, rfl, hg, hh, hn, _, hs, ht⟩⟩ := h
  · exact ⟨none, 0, by rw [h2], ⟨fun h0 => by omega, hb⟩, by simp, by omega⟩
  · refine ⟨some ⟨g, 0, none⟩, cap, rfl, ⟨fun _ => ⟨g, 0, rfl, (Array.getElem?_eq_some_iff.1 hh).1, fun j x hx => ?_⟩, hb⟩, fun a e => ?_, hn⟩
    · rw [cell_of_row w g (0 + j) cur _ (0, 0) hh]
      have hj : j < l.length := (List.getElem?_eq_some_iff.1 hx).1
      have e : (bys l)[j]? = some (.int .u8 x) := by rw [bys_get, hx]; rfl
      rw [← ht, List.getElem?_take] at e
      simp only [show j < l.length * 1 by omega, if_true, Array.getElem?_toList] at e
      rw [Nat.zero_add]
      exact e
    · cases e; exact hg
theorem Own8.lt (h : Own8 B w v l) {k : Nat} (hk : v.ownBlock = some k) : B ≤ k ∧ k < w.heap.size := World.ownsRow.lt h k hk
end

/-- An append of bytes, wherever they lie. -/
theorem app8 {ty : TypeId} {B : Nat} {w : World} {v : Value} {l m : List Int} {A : Option Addr} {c : Nat} (h : Own8 B w v l) (hm : Byt w A m) (hlen : l.length + m.length ≤ 140737488355328) (hB : B ≤ w.heap.size) (hc : A = none → c = 0) :
    ∃ v' w', (APs #[28, 28] ty #[v, .slice A m.length c]).run Tryz.prog w = .ok v' w' ∧ Own8 B w' v' (l ++ m) ∧ Fr (fun k => v.ownBlock = some k) w w' ∧ Foot w v v' := by
  cases A with
  | none =>
    have e : m = [] := by
      cases m with
      | nil => rfl
      | cons x r =>
        obtain ⟨g, o, e, _⟩ := hm.cell (by simp)
        cases e
    subst e
    obtain rfl := hc rfl
    obtain ⟨i, hi⟩ := Option.map_eq_some_iff.1 i5
    refine ⟨v, w, run_append_owned_none w B 28 ty 5 i 1 u22 hi.1 v l.length (bys l) h, by simpa using h, Fr.refl _ _, Foot.refl _ _⟩
  | some a =>
    have hnews : ∀ j u, (bys m)[j]? = some u → w.cell? (a.add j) = some u := by
      intro j u hu
      rw [bys_get] at hu
      obtain ⟨x, hx, rfl⟩ := Option.map_eq_some_iff.1 hu
      have hj : j < m.length := (List.getElem?_eq_some_iff.1 hx).1
      obtain ⟨g, o, e, _, hcell⟩ := hm.cell (by omega)
      cases e
      have hadd : (⟨g, o, none⟩ : Addr).add j = ⟨g, o + j, none⟩ := by unfold Addr.add; split <;> simp_all
      rw [hadd]
      exact hcell j x hx
    obtain ⟨v', w', h1, h2, h3, h4⟩ := APs_own (P := Tryz.prog) (ty := ty) u22 ib5 (by omega) h (a := a) (m := m.length) (c := c) (bys m) (by simp [bys_length]) hnews (bys_one m) (by unfold maxLen; omega) (by omega) hB
    refine ⟨v', w', h1, ?_, (Fr.refl _ w).grown h3 (fun k _ e => e), ?_⟩
    · unfold Own8
      rw [bys_app, List.length_append]
      exact h2
    · intro j hj
      rcases h4 with e | e
      · exact .inl (e ▸ hj)
      · right
        rw [e] at hj
        injection hj with hj
        omega

/-- An append of one byte, which is laid in a block of its own ahead. -/
theorem app8_one {ty : TypeId} {B : Nat} {w : World} {v : Value} {l : List Int} {x : Int} (h : Own8 B w v l) (hx : 0 ≤ x ∧ x ≤ 255) (hlen : l.length + 1 ≤ 1000000000) (hB : B ≤ w.heap.size) :
    ∃ v' w', (APs #[28, 28] ty #[v, .slice (some ⟨w.heap.size, 0, none⟩) 1 1]).run Tryz.prog (w.alloc (.cells #[.int .u8 x] 5)) = .ok v' w' ∧ Own8 B w' v' (l ++ [x]) ∧ Fr (fun k => v.ownBlock = some k) w w' ∧ Foot w v v' := by
  have hb : Blk (w.alloc (.cells #[.int .u8 x] 5)) w.heap.size 5 (bys [x]).toArray := Blk.new w _ _
  obtain ⟨v', w', h1, h2, h3, h4⟩ := app8 (ty := ty) (m := [x]) (c := 1) (World.ownsRow.alloc h (.cells #[.int .u8 x] 5)) (hb.byt (by simpa using hx)) (by simp only [List.length_cons, List.length_nil]; omega) (by simp; omega) (by simp)
  refine ⟨v', w', h1, h2, ((Fr.refl _ w).alloc (.cells #[.int .u8 x] 5)).trans h3 (fun k _ e => e), ?_⟩
  intro j hj
  rcases h4 j hj with e | e
  · exact .inl e
  · right; simp at e; omega

/-- A part of a slice. -/
theorem part8 {w : World} {A : Option Addr} {L : List Int} (hb : Byt w A L) (c l h m : Nat) (vl vh vm : Option Value) (hl : l ≤ h) (hh : h ≤ L.length) (hm : h ≤ m) (hmc : m ≤ c)
    (el : (vl = none ∧ l = 0) ∨ ∃ x : Int, vl = some (.int .i64 x) ∧ x = l) (eh : (vh = none ∧ h = L.length) ∨ ∃ x : Int, vh = some (.int .i64 x) ∧ x = h) (em : (vm = none ∧ m = c) ∨ (∃ x : Int, vm = some (.int .i64 x) ∧ x = m) ∧ vh ≠ none) :
    ∃ A', (SLs 28 (.slice A L.length c) vl vh vm).run Tryz.prog w = .ok (.slice A' (h - l) (m - l)) w ∧ Byt w A' ((L.drop l).take (h - l)) ∧ (∀ a, A' = some a → ∃ b, A = some b ∧ a.block = b.block) ∧ (A = none → A' = none) := by
  obtain ⟨i, hq, hi⟩ := Option.map_eq_some_iff.1 i5
  refine ⟨if m = l then A else A.map (·.add l), ?_, ⟨fun h0 => ?_, fun x hx => hb.bd x (List.mem_of_mem_drop (List.mem_of_mem_take hx))⟩, ?_, ?_⟩
  · have e1 : ¬ ((h : Int) < 0 ∨ (L.length : Int) < (h : Int)) := by omega
    have b1 : ((0 : Int) ≤ (h : Int) ∧ (h : Int) ≤ (m : Int)) := by omega
    have b2 : ((0 : Int) ≤ (l : Int) ∧ (l : Int) ≤ (h : Int)) := by omega
    have b3 : ((0 : Int) ≤ (m : Int) ∧ (m : Int) ≤ (c : Int)) := by omega
    rcases el with ⟨rfl, rfl⟩ | ⟨x, rfl, rfl⟩ <;> rcases eh with ⟨rfl, rfl⟩ | ⟨y, rfl, rfl⟩ <;> rcases em with ⟨rfl, rfl⟩ | ⟨⟨z, rfl, rfl⟩, hne⟩ <;>
      first
        | (exact absurd rfl hne)
        | (simp [SLs, Instr.sliceAt, Instr.slice, Instr.sliceBounds, Instr.sliceBound, asIntOf, run_underlying u22, sizeOf, typeInfo, hq, hi, hl, hm, hmc])
  · have hlen : 0 < ((L.drop l).take (h - l)).length := h0
    simp only [List.length_take, List.length_drop] at hlen
    obtain ⟨g, o, rfl, hg, hc⟩ := hb.cell (by omega)
    have hadd : (⟨g, o, none⟩ : Addr).add l = ⟨g, o + l, none⟩ := by unfold Addr.add; split <;> simp_all
    refine ⟨g, o + l, ?_, hg, fun j x hx => ?_⟩
    · rw [if_neg (by omega)]
      simp [hadd]
    · rw [List.getElem?_take] at hx
      split at hx
      · rw [List.getElem?_drop] at hx
        rw [Nat.add_assoc]
        exact hc _ x hx
      · cases hx
  · intro a e
    split at e
    · exact ⟨a, e, rfl⟩
    · obtain ⟨b, hb1, rfl⟩ := Option.map_eq_some_iff.1 e
      exact ⟨b, hb1, by unfold Addr.add; split <;> simp_all⟩
  · rintro rfl
    simp

end Go.Proofs.YtdkanehjahpehaaGreatDoor
end

section
namespace Go.Proofs.YtdkanehjahpehaaGreatDoor
open Go.RowKit
set_option maxRecDepth 100000

theorem uT : Tryz.prog.underlying 158 = some (.slice 28) := by kernel_rfl
theorem iT : (Tryz.prog.info? 28).map (fun i => (i.zero.map (·.cells.size), i.size, i.bytes)) = some (some 1, 1, 24) := by kernel_rfl

/-- The value x is a slice of the bytes l. -/
def TxV (w : World) (x : Value) (l : List Int) : Prop := ∃ A c, x = .slice A l.length c ∧ Byt w A l ∧ (A = none → c = 0)
theorem TxV.fr {w w' : World} {x : Value} {l : List Int} {F : Nat → Prop} (h : TxV w x l) (hf : Fr F w w') (hn : ∀ k, x.ownBlock = some k → ¬ F k) : TxV w' x l := by
  obtain ⟨A, c, rfl, hb, hc⟩ := h
  exact ⟨A, c, rfl, hb.fr hf (fun a e _ => hn _ (by subst e; rfl)), hc⟩
theorem TxV.one {w : World} {x : Value} {l : List Int} (h : TxV w x l) : x.oneCell' = true := by
  obtain ⟨A, c, rfl, _⟩ := h
  rfl
theorem Byt.below {w w' : World} {A : Option Addr} {l : List Int} (h : Byt w A l) (hb : Below w.heap.size w w') : Byt w' A l :=
  ⟨fun h0 => by
    obtain ⟨g, off, rfl, hg, hc⟩ := h.cell h0
    exact ⟨g, off, rfl, Nat.lt_of_lt_of_le hg hb.size, fun j x hx => (hb.cell (p := ⟨g, off + j, none⟩) hg).trans (hc j x hx)⟩, h.bd⟩
/-- The same with any bound under which the bytes lie. -/
theorem Byt.belowB {n₀ : Nat} {w w' : World} {A : Option Addr} {l : List Int} (h : Byt w A l) (hb : Below n₀ w w') (ha : ∀ a, A = some a → 0 < l.length → a.block < n₀) : Byt w' A l :=
  ⟨fun h0 => by
    obtain ⟨g, off, rfl, hg, hc⟩ := h.cell h0
    exact ⟨g, off, rfl, Nat.lt_of_lt_of_le hg hb.size, fun j x hx => (hb.cell (p := ⟨g, off + j, none⟩) (show g < n₀ from ha ⟨g, off, none⟩ rfl h0)).trans (hc j x hx)⟩, h.bd⟩
theorem TxV.below {w w' : World} {x : Value} {l : List Int} (h : TxV w x l) (hb : Below w.heap.size w w') : TxV w' x l := by
  obtain ⟨A, c, rfl, hy, hc⟩ := h
  exact ⟨A, c, rfl, hy.below hb, hc⟩

/-- From A on lie the values xs, slices of the texts L. -/
structure TxsV (w : World) (A : Option Addr) (xs : List Value) (L : List (List Int)) : Prop where
  len : xs.length = L.length
  cell : 0 < xs.length → ∃ g off, A = some ⟨g, off, none⟩ ∧ g < w.heap.size ∧ ∀ j x, xs[j]? = some x → w.cell? ⟨g, off + j, none⟩ = some x
  txt : ∀ i, (h : i < xs.length) → (h' : i < L.length) → TxV w xs[i] L[i]
theorem TxsV.below {w w' : World} {A : Option Addr} {xs : List Value} {L : List (List Int)} (h : TxsV w A xs L) (hb : Below w.heap.size w w') : TxsV w' A xs L :=
  ⟨h.len, fun h0 => by
    obtain ⟨g, off, rfl, hg, hc⟩ := h.cell h0
    exact ⟨g, off, rfl, Nat.lt_of_lt_of_le hg hb.size, fun j x hx => (hb.cell (p := ⟨g, off + j, none⟩) hg).trans (hc j x hx)⟩, fun i h1 h2 => (h.txt i h1 h2).below hb⟩

/-- An append of values that are laid in a block of their own ahead. -/
theorem appT {ty : TypeId} {B : Nat} {w : World} {v : Value} {n : Nat} {xs : List Value} (h : w.ownsRow B 28 1 v n xs) (news : List Value) (h1 : ∀ u ∈ news, u.oneCell' = true) (hlen : n + news.length ≤ 1000000000) (hB : B ≤ w.heap.size) :
    ∃ v' w', (APs #[158, 158] ty #[v, .slice (some ⟨w.heap.size, 0, none⟩) news.length news.length]).run Tryz.prog (w.alloc (.cells news.toArray 28)) = .ok v' w' ∧
      w'.ownsRow B 28 1 v' (n + news.length) (xs ++ news) ∧ Fr (fun k => v.ownBlock = some k) w w' ∧ Foot w v v' := by
  have hb : Blk (w.alloc (.cells news.toArray 28)) w.heap.size 28 news.toArray := Blk.new w _ _
  obtain ⟨v', w', e1, e2, e3, e4⟩ := APs_own (P := Tryz.prog) (ty := ty) uT iT (by omega) (World.ownsRow.alloc h (.cells news.toArray 28)) (a := ⟨w.heap.size, 0, none⟩) (m := news.length) (c := news.length) news (by omega)
    (fun j u hu => by
      have hadd : (⟨w.heap.size, 0, none⟩ : Addr).add j = ⟨w.heap.size, j, none⟩ := by unfold Addr.add; split <;> simp_all
      rw [hadd, hb.cell j]
      simpa using hu) h1 (by unfold maxLen; omega) (by omega) (by simp; omega)
  refine ⟨v', w', e1, e2, ((Fr.refl _ w).alloc (.cells news.toArray 28)).grown e3 (fun k _ e => e), ?_⟩
  intro j hj
  rcases e4 with e | e
  · exact .inl (e ▸ hj)
  · right
    rw [e] at hj
    simp at hj
    omega

end Go.Proofs.YtdkanehjahpehaaGreatDoor
end
end
