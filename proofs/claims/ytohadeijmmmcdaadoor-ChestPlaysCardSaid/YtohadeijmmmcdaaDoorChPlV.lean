/-
  ChestPlays: the walk.
  ChestPlays: the walk.
-/
import Derived.Test.YtohadeijmmmcdaaDoorChPlays
import Derived.Test.YtohadeijmmmcdaaDoorChM

section
namespace Go.Proofs.YtohadeijmmmcdaaDoor
open Go Go.RowKit Machine
set_option maxRecDepth 100000

theorem keepQ_bd {t h : Int} {L : List (List Int)} {b : List Int} {k : Nat} (hl : ∀ l ∈ L, l.length ≤ k) (hb : b.length ≤ k) : (keepQ t h L b).2.2.length ≤ L.length + 1 ∧ ∀ l ∈ (keepQ t h L b).2.2, l.length ≤ k := by
  unfold keepQ
  split
  · exact ⟨by simp, hl⟩
  split
  · exact ⟨by simp, hl⟩
  · refine ⟨by simp, fun l hl' => ?_⟩
    simp only [List.mem_append, List.mem_singleton] at hl'
    rcases hl' with h | rfl
    · exact hl l h
    · exact hb
theorem changeQ_bd {t h : Int} {L : List (List Int)} {b : List Int} {k : Nat} (h1 : 1 ≤ L.length) (hl : ∀ l ∈ L, l.length ≤ k) (hb : b.length ≤ k) : (changeQ t h L b).2.2.length ≤ L.length ∧ ∀ l ∈ (changeQ t h L b).2.2, l.length ≤ k := by
  unfold changeQ
  split
  · exact ⟨Nat.le_refl _, hl⟩
  split
  · exact ⟨Nat.le_refl _, hl⟩
  split
  · exact ⟨Nat.le_refl _, hl⟩
  · refine ⟨by simpa using h1, fun l hl' => ?_⟩
    simp only [List.mem_singleton] at hl'
    subst hl'
    exact hb

/-- The law's rounds. -/
structure PlS (w : World) (p gs N H i g r T : Nat) (L : List (List Int)) (A : Option Addr) (c : Nat) (W : World) : Prop where
  half : N / 2 = H
  ex : ∃ (x : CS) (s : SS) (S : DS) (nv : Value), ChN w w.heap.size p gs r x s S nv W ∧ ChOk x s S T L ∧ S.sure.length = N ∧ S.waits.length ≤ i * 2000 ∧ (∀ a, A = some a → 0 < L.length → nv.ownBlock ≠ some a.block)
  blk : Blk W g 75 (chL T H (.slice A L.length c)).toArray
  gB : w.heap.size ≤ g
  chT : ChT w.heap.size W A c L
  len : L.length ≤ i
  bd : ∀ l ∈ L, l.length ≤ 300
theorem PlS.below {w : World} {p gs N H i g r T : Nat} {L : List (List Int)} {A : Option Addr} {c : Nat} {W W' : World} (h : PlS w p gs N H i g r T L A c W) (hb : Below W.heap.size W W') : PlS w p gs N H i g r T L A c W' := by
  obtain ⟨x, s, S, nv, h1, h2, h3, h4, h5⟩ := h.ex
  exact ⟨h.half, ⟨x, s, S, nv, h1.after hb, h2, h3, h4, h5⟩, h.blk.fr (Fr.of_below hb) (by have := h.blk.lt; omega), h.gB, h.chT.below hb h1.at_.size, h.len, h.bd⟩
theorem PlS.at_ {w : World} {p gs N H i g r T : Nat} {L : List (List Int)} {A : Option Addr} {c : Nat} {W : World} (h : PlS w p gs N H i g r T L A c W) : Below w.heap.size w W ∧ Glob W := by
  obtain ⟨x, s, S, nv, h1, h2, h3, h4, h5⟩ := h.ex
  exact ⟨h1.at_.below, h1.at_.glob⟩
theorem PlS.is {w : World} {p gs N H i g r T : Nat} {L : List (List Int)} {A : Option Addr} {c : Nat} {W : World} (h : PlS w p gs N H i g r T L A c W) (hN : N ≤ 60) (hi : i ≤ 1000) :
    Calls Tryd.prog 40 #[.pointer (some ⟨r, 0, none⟩), .agg (chL T H (.slice A L.length c)).toArray] W fun e W' => e = .returned (.bool true) ∧ Below W.heap.size W W' := by
  obtain ⟨x, s, S, nv, h1, h2, h3, h4, h5⟩ := h.ex
  obtain ⟨xs, hT, _⟩ := h.chT.ex
  have hl := h2.l
  have hm := h2.m
  have hlq := leftQ_has h2.has
  have hH := h.half
  rw [h2.st, hm, h3, hH] at hlq
  have hbd := h.bd
  have hlen := h.len
  have hcap := h.chT.cap
  rw [hl] at hT hlq hbd hlen hcap ⊢
  simp only [List.length_cons] at hlq hlen hcap ⊢
  refine is_any h1.old h2.xg (by have := hbd x.h (by simp); omega) (fun l hl' => by have := hbd l (by simp [hl']); omega) (by omega) (by omega) h2.has.um (T : Int) (H : Int) (by omega) A c xs hT (by omega) ?_
  rw [hlq, hm, h3, hH]

/-- What the document's chest becomes. -/
theorem ChPost.ne {n₀ : Nat} {h : Int} {w : World} {A : Option Addr} {L : List (List Int)} {c : Nat} {R : Int × Int × List (List Int)} {e : Ending} {w' : World} (hp : ChPost n₀ h w A R e w') (_hC : ChT n₀ w A c L) (h0 : 0 < L.length) {nv : Value} (hv : ∀ k, nv.ownBlock = some k → k < w.heap.size) (hA : ∀ a, A = some a → 0 < L.length → nv.ownBlock ≠ some a.block) :
    ∃ A' c', e = .returned (.tuple #[.agg (chL R.2.1 h (.slice A' R.2.2.length c')).toArray, .int .i64 R.1]) ∧ ChT n₀ w' A' c' R.2.2 ∧ ∀ a, A' = some a → 0 < R.2.2.length → nv.ownBlock ≠ some a.block := by
  obtain ⟨A', c', he, hT, hn⟩ := hp
  refine ⟨A', c', he, hT, fun a ha _ e => ?_⟩
  rcases hn a ha with h1 | h1
  · exact hA a h1 h0 e
  · have := hv _ e
    omega

theorem BytN.at_ {w W : World} {A : Option Addr} {c : Nat} {b : List Int} (h : BytN w A c b) (hb : Below w.heap.size w W) : Byt W A b :=
  h.byt.belowB hb (fun a ha h0 => by
    obtain ⟨g9, o9, e9, hg9, _⟩ := h.byt.cell h0
    rw [ha] at e9
    cases e9
    exact hg9)
theorem BytN.old {w W : World} {A : Option Addr} {c : Nat} {b : List Int} (h : BytN w A c b) : ∀ a, A = some a → 0 < b.length → a.block < w.heap.size ∨ ∃ cs, Blk W a.block 5 cs := fun a ha h0 => by
  obtain ⟨g9, o9, e9, hg9, _⟩ := h.byt.cell h0
  rw [ha] at e9
  cases e9
  exact .inl hg9

section
variable {w : World} {p gs N H i g r T : Nat} {L : List (List Int)} {A : Option Addr} {c : Nat} {W : World}
/-- The document keeps; then the chest. -/
theorem PlS.keep (h : PlS w p gs N H i g r T L A c W) (hN : N ≤ 60) (hi : i ≤ 1000) (B : Option Addr) (d : Nat) (b : List Int) (hb : BytN w B d b) (hbl : b.length ≤ 300) :
    Calls Tryd.prog 44 #[.agg (chL T H (.slice A L.length c)).toArray, .slice B b.length d] W fun e W' =>
      ∃ (E : Int) (L' : List (List Int)) (A' : Option Addr) (c' : Nat), e = .returned (.tuple #[.agg (chL T H (.slice A' L'.length c')).toArray, .int .i64 E]) ∧ Below W.heap.size W W' ∧ Blk W' g 75 (chL T H (.slice A L.length c)).toArray ∧
        Calls Tryd.prog 37 #[.pointer (some ⟨r, 0, none⟩), .slice B b.length d] (W'.setRow g (chL T H (.slice A' L'.length c')).toArray) fun e W2 => e = .returned (.int .i64 E) ∧ PlS w p gs N H (i + 1) g r T L' A' c' W2 := by
  obtain ⟨x, s, S, nv, h1, h2, rfl, h4, h5⟩ := h.ex
  obtain rfl := h.half
  have hl := h2.l
  have h0 : 0 < L.length := by rw [hl]; simp
  have hn := h2.has.n
  have hlen := h.len
  obtain ⟨o1, o2, o3, o4⟩ := h2.keep b (by unfold mostP; omega)
  have hsz := ckeepR_sz x s S b
  have hbd := keepQ_bd (t := T) (h := (S.sure.length / 2 : Nat)) h.bd hbl
  refine (rkeep_any w.heap.size (T : Int) ((S.sure.length / 2 : Nat) : Int) (by omega) A c L (by omega) B d hb.nil_ b W h.chT (hb.at_ h1.at_.below) (by omega) h1.at_.size).mono ?_
  rintro e W' ⟨hp, hbel⟩
  obtain ⟨A', c', rfl, hT', hne⟩ := hp.ne h.chT h0 (fun k hk => by obtain ⟨_, cs, hb⟩ := h1.nvb k hk; exact hb.lt) h5
  rw [o2]
  obtain ⟨Q, hQ⟩ : ∃ Q, keepQ T (S.sure.length / 2 : Nat) L b = Q := ⟨_, rfl⟩
  rw [hQ] at o1 o4 hbd hT' hne ⊢
  have hblk := h.blk.fr (Fr.of_below hbel) (by have := h.blk.lt; omega)
  refine ⟨_, _, A', c', rfl, hbel, hblk, ?_⟩
  have hb1 := hblk.row_ (chL T (S.sure.length / 2 : Nat) (.slice A' Q.2.2.length c')).toArray
  have hc1 := (h1.after hbel).set75 hblk h.gB (chL T (S.sure.length / 2 : Nat) (.slice A' Q.2.2.length c')).toArray
  have hT1 := hT'.setRow hblk h.gB (chL T (S.sure.length / 2 : Nat) (.slice A' Q.2.2.length c')).toArray
  have hxl : x.l.length + 1 = L.length := by rw [hl]; simp
  refine (kkeep_n hc1 h2.xg B d hb.nil_ b (hb.at_ hc1.at_.below) hb.old (by omega) h2.has.um h2.has.room (by omega) (by omega) (by omega)).mono ?_
  rintro e W2 ⟨rfl, nv', hN', hF, hK⟩
  refine ⟨by rw [o1], ⟨rfl, ⟨_, _, _, nv', hN', o4, by rw [o3], by have := hsz.2; omega, fun a ha h0' => hF.ne (hne a ha h0') (hT1.rowlt ha h0')⟩, hc1.q75 hb1 hK, h.gB, hc1.qT hT1 hK hne, by have := hbd.1; omega, hbd.2⟩⟩

theorem PlS.sync (h : PlS w p gs N H i g r T L A c W) (hN : N ≤ 60) (hi : i ≤ 1000) :
    Calls Tryd.prog 45 #[.pointer (some ⟨r, 0, none⟩)] W fun e W2 => e = .returned (.int .i64 0) ∧ PlS w p gs N H (i + 1) g r T L A c W2 := by
  obtain ⟨x, s, S, nv, h1, h2, rfl, h4, h5⟩ := h.ex
  obtain rfl := h.half
  obtain ⟨e1, e2⟩ := h2.sync
  have hs := ksync_n h1 h2.xg (by omega)
  rw [e1] at hs
  refine hs.mono ?_
  rintro e W2 ⟨rfl, hN', hK⟩
  exact ⟨rfl, ⟨rfl, ⟨x, s, _, nv, hN', e2, by simp only; rw [applyAll_len], by simp, h5⟩, h1.q75 h.blk hK, h.gB, h1.qT h.chT hK h5, by have := h.len; omega, h.bd⟩⟩

/-- The document turns; then the chest. -/
theorem PlS.turn (h : PlS w p gs N H i g r T L A c W) (hN : N ≤ 60) (hi : i ≤ 1000) (B : Option Addr) (d : Nat) (b : List Int) (hb : BytN w B d b) (hbl : b.length ≤ 300) :
    Calls Tryd.prog 41 #[.agg (chL T H (.slice A L.length c)).toArray, .slice B b.length d] W fun e W' =>
      ∃ (E : Int) (T' : Nat) (L' : List (List Int)) (A' : Option Addr) (c' : Nat), e = .returned (.tuple #[.agg (chL T' H (.slice A' L'.length c')).toArray, .int .i64 E]) ∧ Below W.heap.size W W' ∧ Blk W' g 75 (chL T H (.slice A L.length c)).toArray ∧
        Calls Tryd.prog 42 #[.pointer (some ⟨r, 0, none⟩), .slice B b.length d] (W'.setRow g (chL T' H (.slice A' L'.length c')).toArray) fun e W2 => e = .returned (.int .i64 E) ∧ PlS w p gs N H (i + 1) g r T' L' A' c' W2 := by
  obtain ⟨x, s, S, nv, h1, h2, rfl, h4, h5⟩ := h.ex
  obtain rfl := h.half
  have hl := h2.l
  have h0 : 0 < L.length := by rw [hl]; simp
  have ht := h2.has.t
  rw [h2.st] at ht
  unfold mostP at ht
  have hxt := h2.t
  obtain ⟨o1, o3, T', o2, o4⟩ := h2.turn h1.at_.ok b
  have hsz := turnR_sz x s S b hN
  have hbd := changeQ_bd (t := T) (h := (S.sure.length / 2 : Nat)) h0 h.bd hbl
  have hlen := h.len
  refine (rchange_any w.heap.size (T : Int) ((S.sure.length / 2 : Nat) : Int) (by omega) (by omega) A c L B d hb.nil_ b W h.chT (hb.at_ h1.at_.below) (by omega) h1.at_.size).mono ?_
  rintro e W' ⟨hp, hbel⟩
  obtain ⟨A', c', rfl, hT', hne⟩ := hp.ne h.chT h0 (fun k hk => by obtain ⟨_, cs, hb⟩ := h1.nvb k hk; exact hb.lt) h5
  rw [o2]
  obtain ⟨Q, hQ⟩ : ∃ Q, changeQ T (S.sure.length / 2 : Nat) L b = Q := ⟨_, rfl⟩
  rw [hQ] at o1 o4 hbd hT' hne ⊢
  have hblk := h.blk.fr (Fr.of_below hbel) (by have := h.blk.lt; omega)
  refine ⟨_, T', _, A', c', rfl, hbel, hblk, ?_⟩
  have hb1 := hblk.row_ (chL T' (S.sure.length / 2 : Nat) (.slice A' Q.2.2.length c')).toArray
  have hc1 := (h1.after hbel).set75 hblk h.gB (chL T' (S.sure.length / 2 : Nat) (.slice A' Q.2.2.length c')).toArray
  have hT1 := hT'.setRow hblk h.gB (chL T' (S.sure.length / 2 : Nat) (.slice A' Q.2.2.length c')).toArray
  refine (kturn_n hc1 B d hb.nil_ b (hb.at_ hc1.at_.below) hb.old (by omega) h2.sd (by omega) (by omega)).mono ?_
  rintro e W2 ⟨rfl, nv', hN', hF, hK⟩
  exact ⟨by rw [o1], ⟨rfl, ⟨_, _, _, nv', hN', o4, o3, by have := hsz.2; omega, fun a ha h0' => hF.ne (hne a ha h0') (hT1.rowlt ha h0')⟩, hc1.q75 hb1 hK, h.gB, hc1.qT hT1 hK hne, by have := hbd.1; omega, hbd.2⟩⟩

theorem PlS.open_ (h : PlS w p gs N H i g r T L A c W) (hN : N ≤ 60) (h2N : 2 ≤ N) (hi : i ≤ 1000) :
    Calls Tryd.prog 35 #[.pointer (some ⟨p, 0, none⟩)] W fun e W2 => ∃ r', e = .returned (.tuple #[.pointer (some ⟨r', 0, none⟩), .int .i64 0]) ∧ PlS w p gs N H (i + 1) g r' T L A c W2 := by
  obtain ⟨x, s, S, nv, h1, h2, rfl, h4, h5⟩ := h.ex
  obtain rfl := h.half
  obtain ⟨e1, e2, e3, e4, e5, e6⟩ := h2.open_ h1.at_.ok
  refine (copen_n h1.at_ h2.has.good.1 h2N (by omega) e1).mono ?_
  rintro e W2 ⟨r', nv', rfl, hN', hv, hK⟩
  rw [e2, e3] at hN'
  exact ⟨r', rfl, ⟨rfl, ⟨x, s, _, nv', hN', e6, e4, by omega, fun a ha h0 e => by have := hv _ e; have := h.chT.rowlt ha h0; omega⟩, hK.kt _ _ _ h.blk (by decide), h.gB, h.chT.kept hK (by decide) (by decide), by have := h.len; omega, h.bd⟩⟩
end
end Go.Proofs.YtohadeijmmmcdaaDoor
end

section
namespace Go.Proofs.YtohadeijmmmcdaaDoor
open Go Go.RowKit Machine
set_option maxRecDepth 100000

section
attribute [local go_sem ↓] ld75 st75 al75 bd75
attribute [local go_sem] al75_new bd75_3

set_option maxHeartbeats 16000000 in
theorem chplays_law (a : Int) (A : Option Addr) (c : Nat) (l : List ActD) (w : World) (ha : -9223372036854775808 ≤ a ∧ a ≤ 9223372036854775807) (hl : Acts w A l) (hm : l.length ≤ maxLen) (hg : Glob w) :
    Calls Tryd.prog 11 #[.int .i64 a, .slice A l.length c] w fun e w' => e = .returned (.bool true) ∧ Below w.heap.size w w' := by
  have hgr := great14 A c l w hl hm
  obtain ⟨n, hN⟩ : ∃ n, l.length = n := ⟨_, rfl⟩
  rw [hN] at hgr hm ⊢
  have HL := Lib.hid hl
  have HN := Lib.hid hN
  have HG := Lib.hid hg
  clear hl hN hg
  go_enter Tryd.func11, Tryd.ntmps11
  go_wp2_with fail
  with_reducible refine hgr.mono ?_
  rintro e w1 ⟨⟨R, rfl, hR⟩, hk⟩
  have HB1 : Below w.heap.size w w1 := by obtain ⟨k, rfl⟩ := hk; exact below_drewN (Below.refl _ _) k
  have h1s : w1.heap.size = w.heap.size := by obtain ⟨k, rfl⟩ := hk; rfl
  have hg1 := HG.out.below HB1
  have aw := awake14 w1 hg1
  have HR := Lib.hid hR
  clear hk hgr hR
  by_cases hbig : R = true ∨ 40 < a
  · have hbI : (if R = true then true else decide (40 < a)) = true := by rcases hbig with h | h <;> simp [h]
    have aw2 := aw
    cases R with
    | true =>
      clear hbig hbI
      go_wp2_with fail
      with_reducible refine aw.mono ?_
      rintro e w2 ⟨rfl, c2⟩
      have C2 := Lib.hid (HB1.trans (c2.mono HB1.size))
      clear c2 aw
      go_wp2_with fail
      go_ret
      exact ⟨rfl, C2.out⟩
    | false =>
      have h40 : 40 < a := by rcases hbig with h | h; cases h; exact h
      clear hbig hbI
      go_wp2_with fail
      with_reducible refine aw.mono ?_
      rintro e w2 ⟨rfl, c2⟩
      have C2 := Lib.hid (HB1.trans (c2.mono HB1.size))
      clear c2 aw
      go_wp2_with fail
      go_ret
      exact ⟨rfl, C2.out⟩
  obtain rfl : R = false := by cases R <;> simp_all
  have h40 : ¬ 40 < a := fun h => hbig (.inr h)
  obtain ⟨hn30, hall⟩ := HR.out rfl
  rw [HN.out] at hn30
  have HALL := Lib.hid hall
  clear hbig hall HR
  by_cases h1 : a < 1
  · have f3 := new_none a w1 (.inl h1)
    have f4 := copen_nil w1
    have h2I : a < 2 := by omega
    go_wp2_with fail
    with_reducible refine f3.mono ?_
    rintro e w' ⟨rfl, hw⟩
    rw [← hw]
    clear hw f3
    go_wp2_with fail
    with_reducible refine f4.mono ?_
    rintro e w' ⟨rfl, hw⟩
    rw [← hw]
    clear hw f4
    go_wp2_with fail
    with_reducible refine aw.mono ?_
    rintro e w2 ⟨rfl, c2⟩
    have C2 := Lib.hid (HB1.trans (c2.mono HB1.size))
    clear c2 aw
    go_wp2_with fail
    go_ret
    exact ⟨rfl, C2.out⟩
  obtain ⟨N, rfl⟩ : ∃ N : Nat, a = (N : Int) := ⟨a.toNat, by omega⟩
  have f3 := new_drum N w1 (by omega) (by omega)
  clear aw
  go_wp2_with fail
  with_reducible refine f3.mono ?_
  rintro e w3 ⟨rfl, d3, c3⟩
  have at3 := At.new HG.out HG.out.size HB1 N d3 c3
  rw [h1s] at at3 ⊢
  clear f3 d3 c3
  by_cases h2 : N < 2
  · have f4 := copen_small at3 (by simp [DS.new]; exact h2)
    have h2I : (N : Int) < 2 := by omega
    have aw3 := awake14 w3 at3.glob
    have AT3 := Lib.hid at3.below
    clear at3
    go_wp2_with fail
    with_reducible refine f4.mono ?_
    rintro e w' ⟨rfl, hw⟩
    rw [← hw]
    clear hw f4
    go_wp2_with fail
    with_reducible refine aw3.mono ?_
    rintro e w2 ⟨rfl, c2⟩
    have C2 := Lib.hid (AT3.out.trans (c2.mono AT3.out.size))
    clear c2 aw3
    go_wp2_with fail
    go_ret
    exact ⟨rfl, C2.out⟩
  have h2I : ¬ (N : Int) < 2 := by omega
  have nl : (DS.new N).sure.length = N := by simp [DS.new]
  have h0w : (DS.new N).waits.length = 0 := by simp [DS.new]
  obtain ⟨cf1, cf2, cf3⟩ := ChOk.fresh (S := DS.new N) at3.ok (DS.new_good N) (by rw [nl]; omega) (by rw [new_find]; simp)
  have csz := copenR_sz (DS.new N) (by rw [nl]; omega)
  have f4 := copen_n at3 rfl (by rw [nl]; omega) (by omega) cf1
  obtain ⟨Q, hQ⟩ : ∃ Q, copenR (DS.new N) = Q := ⟨_, rfl⟩
  rw [hQ] at f4 cf2 cf3 csz
  have hwz : Q.2.2.2.waits.length ≤ 1 * 2000 := by have := csz.2; omega
  rw [nl] at cf2
  have CF2 := Lib.hid cf2
  have CF3 := Lib.hid cf3
  have HWZ := Lib.hid hwz
  clear at3 cf1 cf2 cf3 csz hQ hwz h0w
  go_wp2_with fail
  with_reducible refine f4.mono ?_
  rintro e w4 ⟨r, nv, rfl, hN4, hv4, _⟩
  have pq := peq65 r
  have hs4 := hN4.at_.size
  obtain ⟨H, hH⟩ : ∃ H, N / 2 = H := ⟨_, rfl⟩
  have f5 := rfresh_any w.heap.size (H : Int) w4 hs4
  have e2 : (N : Int) / 2 = (H : Int) := by omega
  have HN4 := Lib.hid hN4
  have HV4 := Lib.hid hv4
  clear f4 hN4 hv4
  go_wp2_with fail
  with_reducible refine f5.mono ?_
  rintro e w5 ⟨⟨A5, c5, rfl, hT5, hA5⟩, b5⟩
  have hs5 := b5.size
  have hb6 := Blk.new w5 75 (chL 0 0 (.slice none 0 0)).toArray
  have b6 : Below w5.heap.size w5 (w5.alloc (.cells (chL 0 0 (.slice none 0 0)).toArray 75)) := (Below.refl _ _).alloc (Nat.le_refl _) _
  have st6 := st75_blk hb6 rfl 1 (H : Int) A5 1 c5
  have hPS : PlS w (w.heap.size + 1) w.heap.size N H 1 w5.heap.size r 1 [[]] A5 c5 ((w5.alloc (.cells (chL 0 0 (.slice none 0 0)).toArray 75)).setRow w5.heap.size (chL 1 (H : Int) (.slice A5 1 c5)).toArray) := by
    have hC := (HN4.out.after (b5.trans (b6.mono hs5))).set75 hb6 (by omega) (chL 1 (H : Int) (.slice A5 1 c5)).toArray
    have hT := (hT5.below b6 (by omega)).setRow hb6 (by omega) (chL 1 (H : Int) (.slice A5 1 c5)).toArray
    refine ⟨hH, ⟨_, _, _, nv, hC, CF3.out, CF2.out, HWZ.out, fun a ha h0 e => ?_⟩, ?_, by omega, hT, by simp, by simp⟩
    · obtain ⟨_, cs, hb⟩ := HN4.out.nvb _ e
      have h8 := hb.lt
      have h9 := hA5 a ha
      omega
    · exact hb6.row_ _
  obtain ⟨g, hg⟩ : ∃ g, w5.heap.size = g := ⟨_, rfl⟩
  obtain ⟨w6, hw6⟩ : ∃ w6, (w5.alloc (.cells (chL 0 0 (.slice none 0 0)).toArray 75)).setRow w5.heap.size (chL 1 (H : Int) (.slice A5 1 c5)).toArray = w6 := ⟨_, rfl⟩
  rw [hw6] at st6 hPS
  rw [hg] at st6 hPS
  have hld := ld75_blk hPS.blk
  have his := hPS.is (by omega) (by omega)
  rw [show ([[]] : List (List Int)).length = 1 from rfl, show ((1 : Nat) : Int) = 1 from rfl] at hld his
  have HPS := Lib.hid hPS
  clear f5 hT5 b5 hb6 b6 hPS hw6 HN4 HV4 hA5
  go_wp2_with fail
  with_reducible refine his.mono ?_
  rintro e w7 ⟨rfl, b7⟩
  have HP7 := Lib.hid (HPS.out.below b7)
  clear his hld b7 HPS st6 hg hs5 hs4
  go_wp2_with fail
  clear CF2 CF3 HWZ pq nl
  have h40 : N ≤ 60 := by omega
  have h2N : 2 ≤ N := by omega
  have hHP0 : ∃ T L A' c', PlS w (w.heap.size + 1) w.heap.size N H 1 g r T L A' c' w7 := ⟨1, [[]], A5, c5, HP7.out⟩
  have HP0 := Lib.hid hHP0
  clear hHP0 HP7
  go_loopg [6, 7, 9, 11] n (fun k cv ev iv wv wr => ∃ (i r : Nat), i + k = n ∧ cv = .pointer (some ⟨r, 0, none⟩) ∧ iv = .int .i64 (i : Int) ∧ ∃ T L A' c', PlS w (w.heap.size + 1) w.heap.size N H (i + 1) g r T L A' c' wr)
  case atStart => exact ⟨0, r, by omega, rfl, rfl, HP0.out⟩
  case round =>
    clear HP0
    obtain ⟨i, r, hi, rfl, rfl, T, L, A1, c1, hP⟩ := hrel
    by_cases hlt : i < n
    · have hltI : (i : Int) < (n : Int) := by omega
      obtain ⟨ga, oa, rfl, hga, hact⟩ := HL.out i (by rw [HN.out]; exact hlt)
      have hal := HALL.out _ (List.getElem_mem (show i < l.length by rw [HN.out]; exact hlt))
      obtain ⟨a, ha⟩ : ∃ a, l[i]'(by rw [HN.out]; exact hlt) = a := ⟨_, rfl⟩
      rw [ha] at hact hal
      obtain ⟨_, _, c0, c1', ⟨AB, cb, c2, hbB, _⟩, ⟨AM, cm, c3, hbM, _⟩⟩ := hact
      have hbel := hP.at_.1
      have d0 : wr.cell? ⟨ga, oa + i * 4, none⟩ = some (.int .i64 a.what) := (hbel.cell (p := ⟨ga, _, none⟩) hga).trans c0
      have d1 : wr.cell? ⟨ga, oa + i * 4 + 1, none⟩ = some (.int .i64 a.where_) := (hbel.cell (p := ⟨ga, _, none⟩) hga).trans c1'
      have d2 : wr.cell? ⟨ga, oa + i * 4 + 2, none⟩ = some (.slice AB a.b.length cb) := (hbel.cell (p := ⟨ga, _, none⟩) hga).trans c2
      have d3 : wr.cell? ⟨ga, oa + i * 4 + 3, none⟩ = some (.slice AM a.m.length cm) := (hbel.cell (p := ⟨ga, _, none⟩) hga).trans c3
      obtain ⟨aw, haw⟩ : ∃ aw, a.what = aw := ⟨_, rfl⟩
      obtain ⟨ax, hax⟩ : ∃ ax, a.where_ = ax := ⟨_, rfl⟩
      obtain ⟨ab, hab⟩ : ∃ ab, a.b = ab := ⟨_, rfl⟩
      obtain ⟨nm, hnm⟩ : ∃ nm, a.m.length = nm := ⟨_, rfl⟩
      rw [haw] at d0
      rw [hax] at d1
      rw [hab] at d2 hbB
      rw [hnm] at d3
      have hab3 : ab.length ≤ 300 := by rw [← hab]; exact hal.1
      obtain ⟨nb, hnb⟩ : ∃ nb, ab.length = nb := ⟨_, rfl⟩
      rw [hnb] at d2
      have HNB := Lib.hid hnb
      have HAB3 := Lib.hid hab3
      have HBB := Lib.hid hbB
      have hbk := Blk.new wr 85 #[.int .i64 aw, .int .i64 ax, .slice AB nb cb, .slice AM nm cm]
      have hP0 := hP.below ((Below.refl _ wr).alloc (Nat.le_refl _) (.cells #[.int .i64 aw, .int .i64 ax, .slice AB nb cb, .slice AM nm cm] 85))
      clear c0 c1' c2 c3 ha haw hax hab hnm hnb hal hbM hbB hab3 hbel hP
      have HP0 := Lib.hid hP0
      have HBK := Lib.hid hbk
      clear hP0 hbk
      obtain ⟨w8, hw8⟩ : ∃ w8, wr.alloc (.cells #[.int .i64 aw, .int .i64 ax, .slice AB nb cb, .slice AM nm cm] 85) = w8 := ⟨_, rfl⟩
      obtain ⟨g8, hg8⟩ : ∃ g8, wr.heap.size = g8 := ⟨_, rfl⟩
      rw [hw8] at HP0 HBK
      rw [hg8] at HBK
      have k0 : w8.cell? ⟨g8, 0, none⟩ = some (.int .i64 aw) := HBK.out.cell 0
      have k2 : w8.cell? ⟨g8, 2, none⟩ = some (.slice AB nb cb) := HBK.out.cell 2
      have hkb : ∀ W' (G : Array Value), Below w8.heap.size w8 W' → Blk W' g 75 (chL T H (.slice A1 L.length c1)).toArray → (W'.setRow g G).cell? ⟨g8, 2, none⟩ = some (.slice AB nb cb) := fun W' G hb h75 => by
        have h8 := HBK.out.fr (Fr.of_below hb) (by have := HBK.out.lt; omega)
        exact (h8.fr ((Fr.refl (fun k => k = g) W').setRow (fun _ => rfl) G) (fun e => by subst e; exact absurd (h8.inj h75).1 (by decide))).cell 2
      have HKB := Lib.hid hkb
      have hld := ld75_blk HP0.out.blk
      clear hkb
      by_cases a0 : aw = 0
      focus
        subst a0
        have kp := HP0.out.keep h40 (by omega) AB cb ab HBB.out HAB3.out
        rw [HNB.out] at kp
        have KP := Lib.hid kp
        clear kp
        go_wp2_with fail
        with_reducible refine KP.out.mono ?_
        rintro e w9 ⟨E, L', A', c', rfl, b9, hblk9, hck⟩
        have st9 := st75_blk hblk9 rfl T H A' L'.length c'
        have k9 := HKB.out w9 (chL T H (.slice A' L'.length c')).toArray b9 hblk9
        obtain ⟨w10, hw10⟩ : ∃ w10, w9.setRow g (chL T H (.slice A' L'.length c')).toArray = w10 := ⟨_, rfl⟩
        rw [hw10] at st9 k9 hck
        have HCK := Lib.hid hck
        clear hck b9 hblk9 hw10 KP hld d0 d1 d2 d3
        go_wp2_with fail
        with_reducible refine HCK.out.mono ?_
        rintro e w11 ⟨rfl, hP11⟩
        have HP11 := Lib.hid hP11
        clear hP11 HCK st9 k9
        go_upto_region 25 with fail
        obtain ⟨r', hr'⟩ : ∃ r', r = r' := ⟨_, rfl⟩
        obtain ⟨T', hT'⟩ : ∃ T', T = T' := ⟨_, rfl⟩
        rw [hr', hT'] at HP11
        rw [hr']
        clear hr' hT'
      rotate_left
      by_cases a1 : aw = 1
      focus
        subst a1
        have KP := Lib.hid (HP0.out.sync h40 (by omega))
        clear hld
        go_wp2_with fail
        with_reducible refine KP.out.mono ?_
        rintro e w11 ⟨rfl, hP11⟩
        have HP11 := Lib.hid hP11
        clear hP11 KP d0 d1 d2 d3
        go_upto_region 25 with fail
        obtain ⟨r', hr'⟩ : ∃ r', r = r' := ⟨_, rfl⟩
        obtain ⟨T', hT'⟩ : ∃ T', T = T' := ⟨_, rfl⟩
        obtain ⟨L', hL'⟩ : ∃ L', L = L' := ⟨_, rfl⟩
        obtain ⟨A', hA'⟩ : ∃ A', A1 = A' := ⟨_, rfl⟩
        obtain ⟨c', hc'⟩ : ∃ c', c1 = c' := ⟨_, rfl⟩
        rw [hr', hT', hL', hA', hc'] at HP11
        rw [hr']
        clear hr' hT' hL' hA' hc'
      rotate_left
      by_cases a2 : aw = 2
      focus
        subst a2
        have kp := HP0.out.turn h40 (by omega) AB cb ab HBB.out HAB3.out
        rw [HNB.out] at kp
        have KP := Lib.hid kp
        clear kp
        go_wp2_with fail
        with_reducible refine KP.out.mono ?_
        rintro e w9 ⟨E, T', L', A', c', rfl, b9, hblk9, hck⟩
        have st9 := st75_blk hblk9 rfl T' H A' L'.length c'
        have k9 := HKB.out w9 (chL T' H (.slice A' L'.length c')).toArray b9 hblk9
        obtain ⟨w10, hw10⟩ : ∃ w10, w9.setRow g (chL T' H (.slice A' L'.length c')).toArray = w10 := ⟨_, rfl⟩
        rw [hw10] at st9 k9 hck
        have HCK := Lib.hid hck
        clear hck b9 hblk9 hw10 KP hld d0 d1 d2 d3
        go_wp2_with fail
        with_reducible refine HCK.out.mono ?_
        rintro e w11 ⟨rfl, hP11⟩
        have HP11 := Lib.hid hP11
        clear hP11 HCK st9 k9
        go_upto_region 25 with fail
        obtain ⟨r', hr'⟩ : ∃ r', r = r' := ⟨_, rfl⟩
        rw [hr'] at HP11
        rw [hr']
        clear hr'
      rotate_left
      focus
        have KP := Lib.hid (HP0.out.open_ h40 h2N (by omega))
        clear hld
        go_wp2_with fail
        with_reducible refine KP.out.mono ?_
        rintro e w11 ⟨r', rfl, hP11⟩
        have HP11 := Lib.hid hP11
        clear hP11 KP d0 d1 d2 d3
        go_upto_region 25 with fail
        obtain ⟨T', hT'⟩ : ∃ T', T = T' := ⟨_, rfl⟩
        obtain ⟨L', hL'⟩ : ∃ L', L = L' := ⟨_, rfl⟩
        obtain ⟨A', hA'⟩ : ∃ A', A1 = A' := ⟨_, rfl⟩
        obtain ⟨c', hc'⟩ : ∃ c', c1 = c' := ⟨_, rfl⟩
        rw [hT', hL', hA', hc'] at HP11
        clear hT' hL' hA' hc'
      all_goals
        clear HP0 HBK HKB HBB HAB3 HNB
        have pq := peq65 r'
        have hld := ld75_blk HP11.out.blk
        have his := HP11.out.is h40 (by omega)
        have HIS := Lib.hid his
        clear his
        go_wp2_with fail
        with_reducible refine HIS.out.mono ?_
        rintro e w12 ⟨rfl, b12⟩
        have HP12 := Lib.hid (HP11.out.below b12)
        clear b12 HIS hld pq HP11
        go_wp2_with fail
        go_roundg (n - (i + 1))
        case measure => omega
        case rel => exact ⟨i + 1, r', by omega, rfl, by go_num, T', L', A', c', HP12.out⟩
    · obtain rfl : i = n := by omega
      have hltI : ¬ (i : Int) < (i : Int) := by omega
      have aw := awake14 wr hP.at_.2
      have HB := Lib.hid hP.at_.1
      clear hP
      go_wp2_with fail
      with_reducible refine aw.mono ?_
      rintro e w2 ⟨rfl, c2⟩
      have C2 := Lib.hid (HB.out.trans (c2.mono HB.out.size))
      clear c2 aw
      go_wp2_with fail
      go_ret
      exact ⟨rfl, C2.out⟩
end
end Go.Proofs.YtohadeijmmmcdaaDoor
end
