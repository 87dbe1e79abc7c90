/-
  ChestPlays: the walk.
-/
import Derived.Test.YtohadeijmmmcdaaDoorChPlays
import Derived.Test.YtohadeijmmmcdaaDoorChM
namespace Go.Proofs.YtohadeijmmmcdaaDoor
open Go Go.RowKit Machine
set_option maxRecDepth 100000

theorem keepQ_bd {t h : Int} {L : List (List Int)} {b : List Int} {k : Nat} (hl : ∀ l ∈ L, l.length ≤ k) (hb : b.length ≤ k) : (keepQ t h L b).2.2.length ≤ L.length + 1 ∧ ∀ l ∈ (keepQ t h L b).2.2, l.length ≤ k := by
  unfold keepQ
  split
  · exact ⟨by simp, hl⟩
  split
  · exact ⟨by simp, hl⟩
  · refine ⟨by simp, fun l hl' => ?_⟩
    simp only [List.mem_append, List.mem_singleton] at hl'
    rcases hl' with h | rfl
    · exact hl l h
    · exact hb
theorem changeQ_bd {t h : Int} {L : List (List Int)} {b : List Int} {k : Nat} (h1 : 1 ≤ L.length) (hl : ∀ l ∈ L, l.length ≤ k) (hb : b.length ≤ k) : (changeQ t h L b).2.2.length ≤ L.length ∧ ∀ l ∈ (changeQ t h L b).2.2, l.length ≤ k := by
  unfold changeQ
  split
  · exact ⟨Nat.le_refl _, hl⟩
  split
  · exact ⟨Nat.le_refl _, hl⟩
  split
  · exact ⟨Nat.le_refl _, hl⟩
  · refine ⟨by simpa using h1, fun l hl' => ?_⟩
    simp only [List.mem_singleton] at hl'
    subst hl'
    exact hb

/-- The law's rounds. -/
structure PlS (w : World) (p gs N H i g r T : Nat) (L : List (List Int)) (A : Option Addr) (c : Nat) (W : World) : Prop where
  half : N / 2 = H
  ex : ∃ (x : CS) (s : SS) (S : DS) (nv : Value), ChN w w.heap.size p gs r x s S nv W ∧ ChOk x s S T L ∧ S.sure.length = N ∧ S.waits.length ≤ i * 2000 ∧ (∀ a, A = some a → 0 < L.length → nv.ownBlock ≠ some a.block)
  blk : Blk W g 75 (chL T H (.slice A L.length c)).toArray
  gB : w.heap.size ≤ g
  chT : ChT w.heap.size W A c L
  len : L.length ≤ i
  bd : ∀ l ∈ L, l.length ≤ 1000
theorem PlS.below {w : World} {p gs N H i g r T : Nat} {L : List (List Int)} {A : Option Addr} {c : Nat} {W W' : World} (h : PlS w p gs N H i g r T L A c W) (hb : Below W.heap.size W W') : PlS w p gs N H i g r T L A c W' := by
  obtain ⟨x, s, S, nv, h1, h2, h3, h4, h5⟩ := h.ex
  exact ⟨h.half, ⟨x, s, S, nv, h1.after hb, h2, h3, h4, h5⟩, h.blk.fr (Fr.of_below hb) (by have := h.blk.lt; omega), h.gB, h.chT.below hb h1.at_.size, h.len, h.bd⟩
theorem PlS.at_ {w : World} {p gs N H i g r T : Nat} {L : List (List Int)} {A : Option Addr} {c : Nat} {W : World} (h : PlS w p gs N H i g r T L A c W) : Below w.heap.size w W ∧ Glob W := by
  obtain ⟨x, s, S, nv, h1, h2, h3, h4, h5⟩ := h.ex
  exact ⟨h1.at_.below, h1.at_.glob⟩
theorem PlS.is {w : World} {p gs N H i g r T : Nat} {L : List (List Int)} {A : Option Addr} {c : Nat} {W : World} (h : PlS w p gs N H i g r T L A c W) (hN : N ≤ 60) (hi : i ≤ 1000) :
    Calls Tryd.prog 40 #[.pointer (some ⟨r, 0, none⟩), .agg (chL T H (.slice A L.length c)).toArray] W fun e W' => e = .returned (.bool true) ∧ Below W.heap.size W W' := by
  obtain ⟨x, s, S, nv, h1, h2, h3, h4, h5⟩ := h.ex
  obtain ⟨xs, hT, _⟩ := h.chT.ex
  have hl := h2.l
  have hm := h2.m
  have hlq := leftQ_has h2.has
  have hH := h.half
  rw [h2.st, hm, h3, hH] at hlq
  have hbd := h.bd
  have hlen := h.len
  have hcap := h.chT.cap
  rw [hl] at hT hlq hbd hlen hcap ⊢
  simp only [List.length_cons] at hlq hlen hcap ⊢
  refine is_any h1.old h2.xg (by have := hbd x.h (by simp); omega) (fun l hl' => by have := hbd l (by simp [hl']); omega) (by omega) (by omega) h2.has.um (T : Int) (H : Int) (by omega) A c xs hT (by omega) ?_
  rw [hlq, hm, h3, hH]

/-- What the document's chest becomes. -/
theorem ChPost.ne {n₀ : Nat} {h : Int} {w : World} {A : Option Addr} {L : List (List Int)} {c : Nat} {R : Int × Int × List (List Int)} {e : Ending} {w' : World} (hp : ChPost n₀ h w A R e w') (_hC : ChT n₀ w A c L) (h0 : 0 < L.length) {nv : Value} (hv : ∀ k, nv.ownBlock = some k → k < w.heap.size) (hA : ∀ a, A = some a → 0 < L.length → nv.ownBlock ≠ some a.block) :
    ∃ A' c', e = .returned (.tuple #[.agg (chL R.2.1 h (.slice A' R.2.2.length c')).toArray, .int .i64 R.1]) ∧ ChT n₀ w' A' c' R.2.2 ∧ ∀ a, A' = some a → 0 < R.2.2.length → nv.ownBlock ≠ some a.block := by
  obtain ⟨A', c', he, hT, hn⟩ := hp
  refine ⟨A', c', he, hT, fun a ha _ e => ?_⟩
  rcases hn a ha with h1 | h1
  · exact hA a h1 h0 e
  · have := hv _ e
    omega

theorem BytN.at_ {w W : World} {A : Option Addr} {c : Nat} {b : List Int} (h : BytN w A c b) (hb : Below w.heap.size w W) : Byt W A b :=
  h.byt.belowB hb (fun a ha h0 => by
    obtain ⟨g9, o9, e9, hg9, _⟩ := h.byt.cell h0
    rw [ha] at e9
    cases e9
    exact hg9)
theorem BytN.old {w W : World} {A : Option Addr} {c : Nat} {b : List Int} (h : BytN w A c b) : ∀ a, A = some a → 0 < b.length → a.block < w.heap.size ∨ ∃ cs, Blk W a.block 5 cs := fun a ha h0 => by
  obtain ⟨g9, o9, e9, hg9, _⟩ := h.byt.cell h0
  rw [ha] at e9
  cases e9
  exact .inl hg9

section
variable {w : World} {p gs N H i g r T : Nat} {L : List (List Int)} {A : Option Addr} {c : Nat} {W : World}
/-- The document keeps; then the chest. -/
theorem PlS.keep (h : PlS w p gs N H i g r T L A c W) (hN : N ≤ 60) (hi : i ≤ 1000) (B : Option Addr) (d : Nat) (b : List Int) (hb : BytN w B d b) (hbl : b.length ≤ 300) :
    Calls Tryd.prog 44 #[.agg (chL T H (.slice A L.length c)).toArray, .slice B b.length d] W fun e W' =>
      ∃ (E : Int) (L' : List (List Int)) (A' : Option Addr) (c' : Nat), e = .returned (.tuple #[.agg (chL T H (.slice A' L'.length c')).toArray, .int .i64 E]) ∧ Below W.heap.size W W' ∧ Blk W' g 75 (chL T H (.slice A L.length c)).toArray ∧
        Calls Tryd.prog 37 #[.pointer (some ⟨r, 0, none⟩), .slice B b.length d] (W'.setRow g (chL T H (.slice A' L'.length c')).toArray) fun e W2 => e = .returned (.int .i64 E) ∧ PlS w p gs N H (i + 1) g r T L' A' c' W2 := by
  obtain ⟨x, s, S, nv, h1, h2, rfl, h4, h5⟩ := h.ex
  obtain rfl := h.half
  have hl := h2.l
  have h0 : 0 < L.length := by rw [hl]; simp
  have hn := h2.has.n
  have hlen := h.len
  obtain ⟨o1, o2, o3, o4⟩ := h2.keep b (by unfold mostP; omega)
  have hsz := ckeepR_sz x s S b
  have hbd := keepQ_bd (t := T) (h := (S.sure.length / 2 : Nat)) (k := 1000) (b := b) h.bd (by omega)
  refine (rkeep_any w.heap.size (T : Int) ((S.sure.length / 2 : Nat) : Int) (by omega) A c L (by omega) B d hb.nil_ b W h.chT (hb.at_ h1.at_.below) (by omega) h1.at_.size).mono ?_
  rintro e W' ⟨hp, hbel⟩
  obtain ⟨A', c', rfl, hT', hne⟩ := hp.ne h.chT h0 (fun k hk => by obtain ⟨_, cs, hb⟩ := h1.nvb k hk; exact hb.lt) h5
  rw [o2]
  obtain ⟨Q, hQ⟩ : ∃ Q, keepQ T (S.sure.length / 2 : Nat) L b = Q := ⟨_, rfl⟩
  rw [hQ] at o1 o4 hbd hT' hne ⊢
  have hblk := h.blk.fr (Fr.of_below hbel) (by have := h.blk.lt; omega)
  refine ⟨_, _, A', c', rfl, hbel, hblk, ?_⟩
  have hb1 := hblk.row_ (chL T (S.sure.length / 2 : Nat) (.slice A' Q.2.2.length c')).toArray
  have hc1 := (h1.after hbel).set75 hblk h.gB (chL T (S.sure.length / 2 : Nat) (.slice A' Q.2.2.length c')).toArray
  have hT1 := hT'.setRow hblk h.gB (chL T (S.sure.length / 2 : Nat) (.slice A' Q.2.2.length c')).toArray
  have hxl : x.l.length + 1 = L.length := by rw [hl]; simp
  refine (kkeep_n hc1 h2.xg B d hb.nil_ b (hb.at_ hc1.at_.below) hb.old (by omega) h2.has.um h2.has.room (by omega) (by omega) (by omega)).mono ?_
  rintro e W2 ⟨rfl, nv', hN', hF, hK⟩
  refine ⟨by rw [o1], ⟨rfl, ⟨_, _, _, nv', hN', o4, by rw [o3], by have := hsz.2; omega, fun a ha h0' => hF.ne (hne a ha h0') (hT1.rowlt ha h0')⟩, hc1.q75 hb1 hK, h.gB, hc1.qT hT1 hK hne, by have := hbd.1; omega, hbd.2⟩⟩

theorem PlS.sync (h : PlS w p gs N H i g r T L A c W) (hN : N ≤ 60) (hi : i ≤ 1000) :
    Calls Tryd.prog 45 #[.pointer (some ⟨r, 0, none⟩)] W fun e W2 => e = .returned (.int .i64 0) ∧ PlS w p gs N H (i + 1) g r T L A c W2 := by
  obtain ⟨x, s, S, nv, h1, h2, rfl, h4, h5⟩ := h.ex
  obtain rfl := h.half
  obtain ⟨e1, e2⟩ := h2.sync
  have hs := ksync_n h1 h2.xg (by omega)
  rw [e1] at hs
  refine hs.mono ?_
  rintro e W2 ⟨rfl, hN', hK⟩
  exact ⟨rfl, ⟨rfl, ⟨x, s, _, nv, hN', e2, by simp only; rw [applyAll_len], by simp, h5⟩, h1.q75 h.blk hK, h.gB, h1.qT h.chT hK h5, by have := h.len; omega, h.bd⟩⟩

/-- The document turns; then the chest. -/
theorem PlS.turn (h : PlS w p gs N H i g r T L A c W) (hN : N ≤ 60) (hi : i ≤ 1000) (B : Option Addr) (d : Nat) (b : List Int) (hb : BytN w B d b) (hbl : b.length ≤ 300) :
    Calls Tryd.prog 41 #[.agg (chL T H (.slice A L.length c)).toArray, .slice B b.length d] W fun e W' =>
      ∃ (E : Int) (T' : Nat) (L' : List (List Int)) (A' : Option Addr) (c' : Nat), e = .returned (.tuple #[.agg (chL T' H (.slice A' L'.length c')).toArray, .int .i64 E]) ∧ Below W.heap.size W W' ∧ Blk W' g 75 (chL T H (.slice A L.length c)).toArray ∧
        Calls Tryd.prog 42 #[.pointer (some ⟨r, 0, none⟩), .slice B b.length d] (W'.setRow g (chL T' H (.slice A' L'.length c')).toArray) fun e W2 => e = .returned (.int .i64 E) ∧ PlS w p gs N H (i + 1) g r T' L' A' c' W2 := by
  obtain ⟨x, s, S, nv, h1, h2, rfl, h4, h5⟩ := h.ex
  obtain rfl := h.half
  have hl := h2.l
  have h0 : 0 < L.length := by rw [hl]; simp
  have ht := h2.has.t
  rw [h2.st] at ht
  unfold mostP at ht
  have hxt := h2.t
  obtain ⟨o1, o3, T', o2, o4⟩ := h2.turn h1.at_.ok b
  have hsz := turnR_sz x s S b hN
  have hbd := changeQ_bd (t := T) (h := (S.sure.length / 2 : Nat)) (k := 1000) (b := b) h0 h.bd (by omega)
  have hlen := h.len
  refine (rchange_any w.heap.size (T : Int) ((S.sure.length / 2 : Nat) : Int) (by omega) (by omega) A c L B d hb.nil_ b W h.chT (hb.at_ h1.at_.below) (by omega) h1.at_.size).mono ?_
  rintro e W' ⟨hp, hbel⟩
  obtain ⟨A', c', rfl, hT', hne⟩ := hp.ne h.chT h0 (fun k hk => by obtain ⟨_, cs, hb⟩ := h1.nvb k hk; exact hb.lt) h5
  rw [o2]
  obtain ⟨Q, hQ⟩ : ∃ Q, changeQ T (S.sure.length / 2 : Nat) L b = Q := ⟨_, rfl⟩
  rw [hQ] at o1 o4 hbd hT' hne ⊢
  have hblk := h.blk.fr (Fr.of_below hbel) (by have := h.blk.lt; omega)
  refine ⟨_, T', _, A', c', rfl, hbel, hblk, ?_⟩
  have hb1 := hblk.row_ (chL T' (S.sure.length / 2 : Nat) (.slice A' Q.2.2.length c')).toArray
  have hc1 := (h1.after hbel).set75 hblk h.gB (chL T' (S.sure.length / 2 : Nat) (.slice A' Q.2.2.length c')).toArray
  have hT1 := hT'.setRow hblk h.gB (chL T' (S.sure.length / 2 : Nat) (.slice A' Q.2.2.length c')).toArray
  refine (kturn_n hc1 B d hb.nil_ b (hb.at_ hc1.at_.below) hb.old (by omega) h2.sd (by omega) (by omega)).mono ?_
  rintro e W2 ⟨rfl, nv', hN', hF, hK⟩
  exact ⟨by rw [o1], ⟨rfl, ⟨_, _, _, nv', hN', o4, o3, by have := hsz.2; omega, fun a ha h0' => hF.ne (hne a ha h0') (hT1.rowlt ha h0')⟩, hc1.q75 hb1 hK, h.gB, hc1.qT hT1 hK hne, by have := hbd.1; omega, hbd.2⟩⟩

theorem PlS.open_ (h : PlS w p gs N H i g r T L A c W) (hN : N ≤ 60) (h2N : 2 ≤ N) (hi : i ≤ 1000) :
    Calls Tryd.prog 35 #[.pointer (some ⟨p, 0, none⟩)] W fun e W2 => ∃ r', e = .returned (.tuple #[.pointer (some ⟨r', 0, none⟩), .int .i64 0]) ∧ PlS w p gs N H (i + 1) g r' T L A c W2 := by
  obtain ⟨x, s, S, nv, h1, h2, rfl, h4, h5⟩ := h.ex
  obtain rfl := h.half
  obtain ⟨e1, e2, e3, e4, e5, e6⟩ := h2.open_ h1.at_.ok
  refine (copen_n h1.at_ h2.has.good.1 h2N (by omega) e1).mono ?_
  rintro e W2 ⟨r', nv', rfl, hN', hv, hK⟩
  rw [e2, e3] at hN'
  exact ⟨r', rfl, ⟨rfl, ⟨x, s, _, nv', hN', e6, e4, by omega, fun a ha h0 e => by have := hv _ e; have := h.chT.rowlt ha h0; omega⟩, hK.kt _ _ _ h.blk (by decide), h.gB, h.chT.kept hK (by decide) (by decide), by have := h.len; omega, h.bd⟩⟩
end
end Go.Proofs.YtohadeijmmmcdaaDoor
