/-
  A chest of one's own: what each of its methods makes of it.
  seisinlaw14.awake.
-/
import Derived.Test.YtohadeijmmmcdaaDoorChestG
import Derived.Test.YtohadeijmmmcdaaDoorGoneW

section
namespace Go.Proofs.YtohadeijmmmcdaaDoor
open Go.RowKit
set_option maxRecDepth 100000

theorem ckeep_gone (r : Nat) (v : Value) (w : World) (k6 : w.cell? ⟨r, 6, none⟩ = some (.bool true)) :
    Calls Tryd.prog 37 #[.pointer (some ⟨r, 0, none⟩), v] w fun e w' => e = .returned (.int .i64 20) ∧ w = w' := by
  go_enter Tryd.func37, Tryd.ntmps37
  go_wp2_with fail
  go_ret
  exact ⟨rfl, rfl⟩
theorem csync_gone (r : Nat) (w : World) (k6 : w.cell? ⟨r, 6, none⟩ = some (.bool true)) :
    Calls Tryd.prog 45 #[.pointer (some ⟨r, 0, none⟩)] w fun e w' => e = .returned (.int .i64 20) ∧ w = w' := by
  go_enter Tryd.func45, Tryd.ntmps45
  go_wp2_with fail
  go_ret
  exact ⟨rfl, rfl⟩

/-- Bytes that lie in old blocks, or in a row of bytes, are kept. -/
theorem Byt.kept {B : Nat} {ts : List TypeId} {W W' : World} {A : Option Addr} {b : List Int} (hb : Byt W A b) (hA : ∀ a, A = some a → 0 < b.length → a.block < B ∨ ∃ cs, Blk W a.block 5 cs) (hk : Kept B ts W W') (hu : 5 ∉ ts) : Byt W' A b :=
  ⟨fun h0 => by
    obtain ⟨g, off, rfl, hg, hc⟩ := hb.cell h0
    refine ⟨g, off, rfl, Nat.lt_of_lt_of_le hg hk.size, fun j x hx => ?_⟩
    have hj : j < b.length := (List.getElem?_eq_some_iff.1 hx).1
    rcases hA _ rfl h0 with h1 | ⟨cs, h1⟩
    · exact (hk.below.cell (p := ⟨g, off + j, none⟩) h1).trans (hc j x hx)
    · rw [(hk.kt _ _ _ h1 hu).cell, ← h1.cell]
      exact hc j x hx, hb.bd⟩

/-- The chest r on a drum of one's own. -/
structure ChestAt (w : World) (B p gs r : Nat) (x : CS) (s : SS) (S : DS) (W : World) : Prop where
  at_ : At w B p gs S W
  ch : ∃ q hv nv, (x.gone = false → IsScroll W q p s) ∧ IsChest B W r q p x hv nv

section
variable {w W W' : World} {B p gs r : Nat} {x : CS} {s : SS} {S S' : DS}
theorem ChestAt.after (h : ChestAt w B p gs r x s S W) (hb : Below W.heap.size W W') : ChestAt w B p gs r x s S W' := by
  obtain ⟨q, hv, nv, h1, h2⟩ := h.ch
  exact ⟨h.at_.after hb, q, hv, nv, fun g => (Kept.of_below (ts := []) hb h.at_.size).kt _ _ _ (h1 g) (by simp), h2.kept (Kept.of_below hb h.at_.size)⟩
/-- The drum alone is worked on. -/
theorem ChestAt.drum (h : ChestAt w B p gs r x s S W) (hk : Kept B dts W W') (ha : At w B p gs S' W') : ChestAt w B p gs r x s S' W' := by
  obtain ⟨q, hv, nv, h1, h2⟩ := h.ch
  exact ⟨ha, q, hv, nv, fun g => hk.kt _ _ _ (h1 g) (by decide), h2.kept hk.ds⟩
theorem At.keptB (h : At w B p gs S W) (hk : Below B W W') (hd : ∃ wv, IsDrum B W' p gs wv S') : At w B p gs S' W' :=
  ⟨hd, h.below.trans (hk.mono h.base), h.base, h.two, h.glob.fr (Fr.of_below hk) (by have := h.base; have := h.two; omega) (by have := h.base; have := h.two; omega)⟩

theorem ksync_c (h : ChestAt w B p gs r x s S W) (hlen : S.waits.length ≤ 1000000000) :
    Calls Tryd.prog 45 #[.pointer (some ⟨r, 0, none⟩)] W fun e W' => e = .returned (.int .i64 (csyncR x s S).1) ∧ ChestAt w B p gs r (csyncR x s S).2.1 (csyncR x s S).2.2.1 (csyncR x s S).2.2.2 W' := by
  obtain ⟨q, hv, nv, h1, h2⟩ := h.ch
  obtain ⟨wv, hd⟩ := h.at_.drum
  cases hg : x.gone with
  | true =>
    have hR : csyncR x s S = (20, x, s, S) := by unfold csyncR; rw [if_pos hg]
    rw [hR]
    have k6 : W.cell? ⟨r, 6, none⟩ = some (.bool true) := by rw [← hg]; exact h2.st.cell 6
    refine (csync_gone r W k6).mono ?_
    rintro e W' ⟨rfl, rfl⟩
    exact ⟨rfl, h⟩
  | false =>
    refine (csync_any B r q p gs wv hv nv x s S W hd (h1 hg) h2 hlen).mono ?_
    rintro e W' ⟨rfl, hd', hs', hc', hk⟩
    exact ⟨rfl, h.at_.keptB hk.below hd', q, hv, nv, fun _ => hs', hc'⟩

theorem kkeep_c (h : ChestAt w B p gs r x s S W) (A : Option Addr) (c : Nat) (hcA : A = none → c = 0) (b : List Int) (hb : Byt W A b) (hA : ∀ a, A = some a → 0 < b.length → a.block < B ∨ ∃ cs, Blk W a.block 5 cs) (hbl : b.length ≤ 100000000)
    (hok : x.gone = false → s.u ≤ s.m ∧ s.f + s.m ≤ S.sure.length ∧ s.n ≤ 1099511627776) (hlen : S.waits.length + 1024 ≤ 1000000000) (hnl : x.l.length + 1 ≤ 1000000000) :
    Calls Tryd.prog 37 #[.pointer (some ⟨r, 0, none⟩), .slice A b.length c] W fun e W' => e = .returned (.int .i64 (ckeepR x s S b).1) ∧ ChestAt w B p gs r (ckeepR x s S b).2.1 (ckeepR x s S b).2.2.1 (ckeepR x s S b).2.2.2 W' := by
  obtain ⟨q, hv, nv, h1, h2⟩ := h.ch
  obtain ⟨wv, hd⟩ := h.at_.drum
  cases hg : x.gone with
  | true =>
    have hR : ckeepR x s S b = (20, x, s, S) := by unfold ckeepR; rw [if_pos hg]
    rw [hR]
    have k6 : W.cell? ⟨r, 6, none⟩ = some (.bool true) := by rw [← hg]; exact h2.st.cell 6
    refine (ckeep_gone r _ W k6).mono ?_
    rintro e W' ⟨rfl, rfl⟩
    exact ⟨rfl, h⟩
  | false =>
    obtain ⟨o1, o2, o3⟩ := hok hg
    have hB2 : 2 ≤ B := Nat.le_trans h.at_.two h.at_.base
    refine (ckeep_any B r q p gs wv hv nv x s S A c hcA b W hd (h1 hg) h2 o1 o2 o3 hlen hnl (fun W' hk => hb.kept hA hk (by decide)) hbl h.at_.glob hB2).mono ?_
    rintro e W' ⟨rfl, hd', hs', ⟨nv', hc', _⟩, hk⟩
    exact ⟨rfl, h.at_.keptB hk.below hd', q, hv, nv', fun _ => hs', hc'⟩

theorem kturn_c (h : ChestAt w B p gs r x s S W) (A : Option Addr) (c : Nat) (hcA : A = none → c = 0) (b : List Int) (hb : Byt W A b) (hA : ∀ a, A = some a → 0 < b.length → a.block < B ∨ ∃ cs, Blk W a.block 5 cs) (hbl : b.length ≤ 100000000)
    (hsd : x.sd ≤ 1) (hxt : x.t ≤ 1099511627776) (hlen : S.waits.length + 10000 ≤ 1000000000) :
    Calls Tryd.prog 42 #[.pointer (some ⟨r, 0, none⟩), .slice A b.length c] W fun e W' => e = .returned (.int .i64 (turnR x s S b).1) ∧ ChestAt w B p gs r (turnR x s S b).2.1 (turnR x s S b).2.2.1 (turnR x s S b).2.2.2 W' := by
  obtain ⟨q, hv, nv, h1, h2⟩ := h.ch
  obtain ⟨wv, hd⟩ := h.at_.drum
  have hB2 : 2 ≤ B := Nat.le_trans h.at_.two h.at_.base
  refine (cturn_any B r q p gs wv hv nv x s S A c hcA b W hd h1 h2 hsd hxt hlen (fun W' hk => hb.kept hA hk (by decide)) hbl h.at_.glob hB2).mono ?_
  rintro e W' ⟨rfl, hd', ⟨q', hv', nv', hs', hc', _⟩, hk⟩
  exact ⟨rfl, h.at_.keptB hk.below hd', q', hv', nv', hs', hc'⟩

theorem khead_c (h : ChestAt w B p gs r x s S W) (hl : x.h.length ≤ 500000000) :
    Calls Tryd.prog 46 #[.pointer (some ⟨r, 0, none⟩)] W fun e W' => ∃ v, e = .returned v ∧ Own8 W.heap.size W' v x.h ∧ ChestAt w B p gs r x s S W' ∧ Below W.heap.size W W' := by
  obtain ⟨q, hv, nv, h1, h2⟩ := h.ch
  refine (chead_any B r q p hv nv x W h2 hl).mono ?_
  rintro e W' ⟨v, rfl, ho, hb⟩
  exact ⟨v, rfl, ho, h.after hb, hb⟩

theorem knotes_c (h : ChestAt w B p gs r x s S W) (hl : ∀ l ∈ x.l, l.length ≤ 500000000) (hn : x.l.length ≤ 900000000) :
    Calls Tryd.prog 71 #[.pointer (some ⟨r, 0, none⟩)] W fun e W' => ∃ v, e = .returned v ∧ OwnT W.heap.size W' v x.l ∧ ChestAt w B p gs r x s S W' ∧ Below W.heap.size W W' := by
  obtain ⟨q, hv, nv, h1, h2⟩ := h.ch
  refine (cnotes_any B r q p hv nv x W h2 hl hn).mono ?_
  rintro e W' ⟨v, rfl, ho, hb⟩
  exact ⟨v, rfl, ho, h.after hb, hb⟩

/-- The scroll of a chest that isn't gone. -/
theorem ChestAt.scroll (h : ChestAt w B p gs r x s S W) (hg : x.gone = false) : ∃ q, W.cell? ⟨r, 0, none⟩ = some (.pointer (some ⟨q, 0, none⟩)) ∧ IsScroll W q p s := by
  obtain ⟨q, hv, nv, h1, h2⟩ := h.ch
  exact ⟨q, h2.st.cell 0, h1 hg⟩

theorem copen_c (h : At w B p gs S W) (hof : S.off = false) (h2s : 2 ≤ S.sure.length) (hlen : S.waits.length + 10000 ≤ 1000000000) :
    Calls Tryd.prog 35 #[.pointer (some ⟨p, 0, none⟩)] W fun e W' =>
      ((copenR S).1 = 0 ∧ ∃ r, e = .returned (.tuple #[.pointer (some ⟨r, 0, none⟩), .int .i64 0]) ∧ ChestAt w B p gs r (copenR S).2.1 (copenR S).2.2.1 (copenR S).2.2.2 W') ∨
      ((copenR S).1 ≠ 0 ∧ e = .returned (.tuple #[.pointer none, .int .i64 (copenR S).1]) ∧ At w B p gs (copenR S).2.2.2 W') := by
  obtain ⟨wv, hd⟩ := h.drum
  have hB2 : 2 ≤ B := Nat.le_trans h.two h.base
  refine (copen_any B p gs wv S W hd hof h2s hlen h.glob hB2).mono ?_
  rintro e W' ⟨hp, hd', hk⟩
  have ha := h.keptB hk.below hd'
  rcases hp with ⟨h0, r, q, hv, nv, rfl, hs, hc⟩ | ⟨h0, rfl⟩
  · have hBW := h.size
    exact .inl ⟨h0, r, rfl, ha, q, hv, nv, fun _ => hs, ⟨hc.st, by have := hc.br; omega, by have := hc.bq; omega, hc.hd.base hBW, hc.nt.base hBW, hc.hb, hc.nb⟩⟩
  · exact .inr ⟨h0, rfl, ha⟩
end

/-! ### A new drum -/
theorem new_peek {n f m : Nat} (hf : f + m ≤ n) : peekT (DS.new n) f m = 0 := by
  have hl : (DS.new n).sure.length = n := by simp [DS.new]
  unfold peekT peekP
  have hz : readP (stP (DS.new n) f m) = none := readP_zeros (stP_zero (fun j h1 h2 => DS.new_now (by omega)))
  simp only [Int.toNat_natCast, show (DS.new n).off = false from rfl, Bool.false_eq_true, if_false, hz, ite_self]
theorem new_find (n : Nat) : findP (DS.new n) = (0, 0) := by
  have hl : (DS.new n).sure.length = n := by simp [DS.new]
  unfold findP
  rw [hl, new_peek (n := n) (f := n / 2) (m := n / 2) (by omega), new_peek (n := n) (f := 0) (m := n / 2) (by omega)]
  rfl

theorem recS_nil1 : recS 1 0 [] = 1 := by
  have h : (fieldsP 1 0 []).length ≤ 27 := by
    rw [fieldsP_len]
    have h1 := numP_len9 (n := 1) (by omega)
    have h2 := numP_len9 (n := 0) (by omega)
    have h3 := numP_len9 (n := ([] : List Int).length) (by simp)
    simp only [List.length_nil] at h3 ⊢
    omega
  unfold recS secP
  omega

/-- What begin makes on a drum that is on, where the head fits. -/
theorem beginR_good {S : DS} (h : S.Ok) (hg : S.Good) {sd t : Nat} (hsd : sd ≤ 1) (ht : t ≤ mostP) {b : List Int} (he : formE (t : Int) ((0 : Nat) : Int) b = 0) (hr : recS t 0 b ≤ S.sure.length / 2) :
    ∃ T, beginR S sd t b = (0, ⟨sd * (S.sure.length / 2), S.sure.length / 2, t, recS t 0 b, 1, false⟩, T) ∧ Has T ⟨sd * (S.sure.length / 2), S.sure.length / 2, t, recS t 0 b, 1, false⟩ [b] ∧ T.waits = [] ∧ T.sure.length = S.sure.length ∧
      (∀ j, j < sd * (S.sure.length / 2) ∨ sd * (S.sure.length / 2) + S.sure.length / 2 ≤ j → j < S.sure.length → T.now j = S.now j) := by
  have hF1 : sd * (S.sure.length / 2) ≤ 1 * (S.sure.length / 2) := Nat.mul_le_mul hsd (Nat.le_refl _)
  unfold beginR
  obtain ⟨H, hH⟩ : ∃ H, S.sure.length / 2 = H := ⟨_, rfl⟩
  rw [hH] at hr hF1 ⊢
  obtain ⟨F, hF⟩ : ∃ F, sd * H = F := ⟨_, rfl⟩
  rw [hF] at hF1 ⊢
  obtain ⟨w1, w2, w3, w4, w5⟩ := wipeR_good h hg (f := F) (m := H) (by omega)
  have hb := Has.blank h hg (f := F) (m := H) (t := t) (by omega) ht
  obtain ⟨p1, p2, p3, p4, p5, p6⟩ := hb.put (b := b) he (by simpa using hr)
  simp only [Nat.zero_add, List.nil_append] at p2 p3
  obtain ⟨y1, y2⟩ := p3.sync
  rw [if_neg (by rw [w1]; simp), if_neg (by rw [p1]; simp), p2, y1]
  refine ⟨_, rfl, y2, rfl, ?_, fun j hj hjl => ?_⟩
  · simp only
    rw [applyAll_len, p4, w3]
  · rw [now_sync _ (by rw [p4, w3]; exact hjl), p6 j (by simpa using hj), w5 j hjl, if_neg (by omega)]

/-- A chest on a new drum. -/
theorem copen_new {n : Nat} (h1 : 2 ≤ n) (h2 : n ≤ 8192) : ∃ T, copenR (DS.new n) = (0, ⟨0, 1, [], [], false⟩, ⟨0, n / 2, 1, 1, 1, false⟩, T) ∧ Has T ⟨0, n / 2, 1, 1, 1, false⟩ [[]] ∧ T.waits = [] ∧ T.sure.length = n ∧ (∀ j, n / 2 ≤ j → j < n → T.now j = Z64) := by
  have hl : (DS.new n).sure.length = n := by simp [DS.new]
  have hok : (DS.new n).Ok := DS.new_ok (by omega) h2
  obtain ⟨T, e1, e2, e3, e4, e5⟩ := beginR_good hok (DS.new_good n) (sd := 0) (t := 1) (by omega) (by unfold mostP; omega) (b := []) (formE_small (by omega) (by omega) (by simp)) (by rw [recS_nil1, hl]; omega)
  rw [hl, recS_nil1, Nat.zero_mul] at e1 e2
  rw [hl, Nat.zero_mul] at e5
  refine ⟨T, ?_, e2, e3, by rw [e4, hl], fun j h3 h4 => ?_⟩
  · unfold copenR
    rw [new_find]
    simp only
    rw [if_pos (by omega), e1]
  · rw [e5 j (by omega) h4, DS.new_now h4]

end Go.Proofs.YtohadeijmmmcdaaDoor
end

section
namespace Go.Proofs.YtohadeijmmmcdaaDoor
open Go.RowKit
set_option maxRecDepth 100000

theorem peq65 (q : Nat) (W : World) : (binOp .eql 65 (.pointer (some ⟨q, 0, none⟩)) (.pointer none)).run Tryd.prog W = .ok (.bool false) W := by rfl

set_option maxHeartbeats 8000000 in
theorem awake14 (w : World) (hg : Glob w) : Calls Tryd.prog 34 #[] w fun e w' => e = .returned (.bool true) ∧ Below w.heap.size w w' := by
  have f3 := new_drum 7 w (by omega) (by omega)
  rw [show ((7 : Nat) : Int) = 7 from rfl] at f3
  have HG := Lib.hid hg
  clear hg
  go_enter Tryd.func34, Tryd.ntmps34
  go_wp2_with fail
  with_reducible refine f3.mono ?_
  rintro e w3 ⟨rfl, d3, c3⟩
  have at3 := At.new HG.out HG.out.size (Below.refl _ _) 7 d3 c3
  obtain ⟨T, e4, H4, l4, r4, _⟩ := copen_new (n := 7) (by omega) (by omega)
  have f4 := copen_c at3 rfl (by simp [DS.new]) (by simp [DS.new])
  rw [e4] at f4
  simp only [show (7 / 2 : Nat) = 3 from rfl] at f4 H4
  clear f3 d3 at3 c3 e4
  go_wp2_with fail
  with_reducible refine f4.mono ?_
  rintro e w4 (⟨_, r, rfl, ch4⟩ | ⟨h, _⟩)
  rotate_left
  focus exact absurd rfl h
  have f5 := copen_nil w4
  have pq := peq65 r
  clear f4
  go_wp2_with fail
  with_reducible refine f5.mono ?_
  rintro e w5 ⟨rfl, hw5⟩
  rw [← hw5]
  obtain ⟨q, k0, s4⟩ := ch4.scroll rfl
  have f6 := left_any q (w.heap.size + 1) _ (by simp) (by simp) w4 s4
  simp only at f6
  have HCH := Lib.hid ch4
  have HH4 := Lib.hid H4
  clear f5 hw5 ch4 s4 H4
  go_wp2_with fail
  with_reducible refine f6.mono ?_
  rintro e w6 ⟨rfl, k6, hw6⟩
  have ch6 := HCH.out.after (W' := w6) (by rw [hw6]; exact below_drewN (Below.refl _ _) _)
  obtain ⟨y7, b7⟩ := one_byte w6 (x := 5) (by omega)
  have ch7 := ch6.after b7
  have hrs := recS_one (a := 5) (t := 1) (n := 1) (by omega) (by omega)
  have f8 := kkeep_c ch7 (some ⟨w6.heap.size, 0, none⟩) 1 (by simp) [5] y7 (fun a ha _ => .inr (by cases ha; exact ⟨_, Blk.new w6 _ _⟩)) (by simp) (fun _ => by simp; omega) (by rw [l4]; simp) (by simp)
  obtain ⟨p1, p2, p3, p4, p5, p6⟩ := HH4.out.put (b := [5]) (formE_small (t := 1) (n := 1) (by omega) (by omega) (by simp)) (by simp only; rw [hrs]; omega)
  have hk : ckeepR ⟨0, 1, [], [], false⟩ ⟨0, 3, 1, 1, 1, false⟩ T [5] = (0, ⟨0, 1, [], [[5]], false⟩, ⟨0, 3, 1, 2, 2, false⟩, (putR ⟨0, 3, 1, 1, 1, false⟩ T [5]).2.2) := by
    unfold ckeepR
    rw [if_neg (by simp), if_pos p1, p2]
    simp [hrs]
  rw [hk] at f8
  simp only at f8
  rw [show ([5] : List Int).length = 1 from rfl] at f8
  clear f6 ch6 y7 b7 ch7 hrs p1 p2 p3 p4 p5 p6 hk hw6
  go_wp2_with fail
  with_reducible refine f8.mono ?_
  rintro e w8 ⟨rfl, ch8⟩
  obtain ⟨q8, k8, s8⟩ := ch8.scroll rfl
  have f9 := left_any q8 (w.heap.size + 1) _ (by simp) (by simp) w8 s8
  simp only at f9
  have HCH8 := Lib.hid ch8
  clear f8 ch8 s8
  go_wp2_with fail
  with_reducible refine f9.mono ?_
  rintro e w9 ⟨rfl, k9, hw9⟩
  have ch9 := HCH8.out.after (W' := w9) (by rw [hw9]; exact below_drewN (Below.refl _ _) _)
  have f10 := knotes_c ch9 (by simp) (by simp)
  clear f9 ch9 hw9
  go_wp2_with fail
  with_reducible refine f10.mono ?_
  rintro e w10 ⟨v10, rfl, o10, ch10, b10⟩
  (try simp only at o10)
  obtain ⟨A10, c10, rfl⟩ := o10.form
  obtain ⟨g, cap, y, e1, _, hgs, hcx, hox⟩ := o10.at_ (i := 0) (by simp)
  rw [show ([[5]] : List (List Int)).length = 1 from rfl] at e1 ⊢
  simp only [Value.slice.injEq] at e1
  obtain ⟨rfl, _, rfl⟩ := e1
  simp only [List.getElem_cons_zero] at hox
  obtain ⟨Ax, cx, rfl, hyx, _, _⟩ := hox.byt (by intro y hy; simp at hy; omega)
  rw [show ([5] : List Int).length = 1 from rfl] at hcx
  obtain ⟨gx, ox, rfl, hgx, hcc⟩ := hyx.cell (by simp)
  have hc5 := hcc 0 5 rfl
  rw [Nat.add_zero] at hc5
  have f11 := khead_c ch10 (by simp)
  have HCH10 := Lib.hid ch10
  clear f10 o10 ch10 b10 hox hyx hcc
  go_wp2_with fail
  with_reducible refine f11.mono ?_
  rintro e w11 ⟨v11, rfl, o11, ch11, b11⟩
  obtain ⟨A11, c11, rfl⟩ := o11.form
  (try simp only at o11)
  rw [show ([] : List Int).length = 0 from rfl]
  have HB := Lib.hid ch11.at_.below
  clear f11 o11 ch11 b11
  go_wp2_with fail
  go_ret
  exact ⟨rfl, HB.out⟩

end Go.Proofs.YtohadeijmmmcdaaDoor
end
