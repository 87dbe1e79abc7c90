/-
  The chest's laws, plain: what is left.
  A chest whose notes' row is named, beside the document's chest.
  The chest's laws, plain: what is found by the document is what is opened.
  A chest and the document's chest, side by side: what is kept.
-/
import Derived.Test.YtohadeijmmmcdaaDoorChIs

section
namespace Go.Proofs.YtohadeijmmmcdaaDoor
open Go Go.RowKit Machine

theorem FitP.get {t : Nat} : ∀ {l : List (List Int)} {n : Nat}, FitP t n l → ∀ i, i < l.length → formE t (n + i : Nat) (l.getD i []) = 0
  | [], _, _, i, h => by simp at h
  | b :: l, n, ⟨h1, h2⟩, 0, _ => by simpa using h1
  | b :: l, n, ⟨h1, h2⟩, i + 1, h => by
    have := FitP.get h2 i (by simpa using h)
    rw [show n + (i + 1) = n + 1 + i by omega]
    simpa using this
theorem szQ_fit {t n : Nat} {b : List Int} (h : formE t n b = 0) : szQ t n b = (recS t n b : Int) := by
  unfold szQ
  rw [if_pos h]
  simp
theorem leftQ_fit {t : Nat} (h : Int) {l : List (List Int)} (hf : FitP t 0 l) : ∀ k, k ≤ l.length → leftQ t h l k = h - (sizeP t 0 (l.take k) : Int)
  | 0, _ => by simp [leftQ, sizeP]
  | k + 1, hk => by
    have h1 := leftQ_fit h hf k (by omega)
    have h2 := hf.get k (by omega)
    rw [Nat.zero_add] at h2
    have e : l.getD k [] = l[k] := by simp [List.getD, show k < l.length by omega]
    rw [leftQ, h1, szQ_fit h2, List.take_succ_eq_append_getElem (by omega), sizeP_snoc, e]
    simp only [Nat.zero_add, List.length_take, Nat.min_eq_left (show k ≤ l.length by omega)]
    omega
/-- What is left in a scroll. -/
theorem leftQ_has {S : DS} {s : SS} {l : List (List Int)} (h : Has S s l) : leftQ s.t s.m l l.length = (s.m : Int) - (s.u : Int) := by
  rw [leftQ_fit _ h.fit _ (Nat.le_refl _), List.take_length, h.u]

/-- A chest on a drum that is on. -/
structure ChOk (x : CS) (s : SS) (S : DS) (T : Nat) (L : List (List Int)) : Prop where
  has : Has S s L
  l : L = x.h :: x.l
  xg : x.gone = false
  t : x.t = T
  st : s.t = T
  t1 : 1 ≤ T
  sd : x.sd ≤ 1
  f : s.f = x.sd * (S.sure.length / 2)
  m : s.m = S.sure.length / 2
  other : peekT S ((1 - x.sd) * (S.sure.length / 2)) (S.sure.length / 2) < T ∨ (x.sd = 0 ∧ peekT S ((1 - x.sd) * (S.sure.length / 2)) (S.sure.length / 2) = T)

theorem peekT_congr {S S' : DS} {f m : Nat} (hs : S'.sure.length = S.sure.length) (ho : S'.off = S.off) (h : ∀ j, f ≤ j → j < f + m → S'.now j = S.now j) : peekT S' f m = peekT S f m := by
  have e : stP S' f m = stP S f m := stP_congr (fun j h1 h2 => h j h1 h2)
  unfold peekT peekP
  rw [hs, ho]
  simp only [Int.toNat_natCast, e]

theorem ChOk.keep {x : CS} {s : SS} {S : DS} {T : Nat} {L : List (List Int)} (h : ChOk x s S T L) (b : List Int) (hn : s.n ≤ mostP) :
    (ckeepR x s S b).1 = (keepQ T (S.sure.length / 2 : Nat) L b).1 ∧ (keepQ T (S.sure.length / 2 : Nat) L b).2.1 = T ∧ (ckeepR x s S b).2.2.2.sure = S.sure ∧
      ChOk (ckeepR x s S b).2.1 (ckeepR x s S b).2.2.1 (ckeepR x s S b).2.2.2 T (keepQ T (S.sure.length / 2 : Nat) L b).2.2 := by
  have hl := leftQ_has h.has
  rw [h.st, h.m] at hl
  have hum := h.has.um
  rw [h.m] at hum
  have hsz : szQ (T : Int) (L.length : Int) b = if formE T L.length b = 0 then (recS T L.length b : Int) else -1 := by unfold szQ; simp
  have hnn := h.has.n
  by_cases he : formE (T : Int) (L.length : Int) b = 0
  · rw [if_pos he] at hsz
    by_cases hr : S.sure.length / 2 - s.u < recS T L.length b
    · have e1 : putR s S b = (18, s, S) := by
        unfold putR
        rw [if_neg (by rw [h.has.gone]; simp), h.st, hnn, if_neg (by simpa using he), h.m, if_pos hr]
      have e2 : ckeepR x s S b = (18, x, s, S) := by
        unfold ckeepR
        rw [if_neg (by rw [h.xg]; simp), e1]
        simp
      have e3 : keepQ T (S.sure.length / 2 : Nat) L b = ((18 : Int), (T : Int), L) := by
        unfold keepQ
        rw [hsz, hl, if_neg (by omega), if_pos (by omega)]
      rw [e2, e3]
      exact ⟨rfl, rfl, rfl, h⟩
    · obtain ⟨p1, p2, p3, p4, p5, p6⟩ := h.has.put (b := b) (by rw [h.st, hnn]; exact he) (by rw [h.st, hnn, h.m]; omega)
      have e2 : ckeepR x s S b = (0, { x with l := x.l ++ [b] }, (putR s S b).2.1, (putR s S b).2.2) := by
        unfold ckeepR
        rw [if_neg (by rw [h.xg]; simp), if_pos p1]
      have e3 : keepQ T (S.sure.length / 2 : Nat) L b = ((0 : Int), (T : Int), L ++ [b]) := by
        unfold keepQ
        rw [hsz, hl, if_neg (by omega), if_neg (by omega)]
      rw [e2, e3]
      refine ⟨rfl, rfl, p4, ⟨by rw [p2]; exact p3, by simp [h.l], h.xg, h.t, by rw [p2]; exact h.st, h.t1, h.sd, by rw [p2, p4]; exact h.f, by rw [p2, p4]; exact h.m, ?_⟩⟩
      simp only [p4]
      rw [peekT_congr (by rw [p4]) (by rw [p3.good.1, h.has.good.1]) (fun j h1 h2 => p6 j ?_)]
      · exact h.other
      · have hsd := h.sd
        have : x.sd = 0 ∨ x.sd = 1 := by omega
        rw [h.f, h.m]
        rcases this with e | e <;> rw [e] at h1 h2 ⊢ <;> omega
  · have ht := h.has.t
    rw [h.st] at ht
    rw [hnn] at hn
    have h4 : formE (T : Int) (L.length : Int) b = 4 := by
      unfold mostP at ht hn
      unfold formE at he ⊢
      rw [if_neg (by omega)] at he ⊢
      split at he
      · rw [if_pos (by assumption)]
      · exact absurd rfl he
    rw [if_neg he] at hsz
    have e1 : putR s S b = (4, s, S) := by
      unfold putR
      rw [if_neg (by rw [h.has.gone]; simp), h.st, hnn, if_pos he, h4]
    have e2 : ckeepR x s S b = (4, x, s, S) := by
      unfold ckeepR
      rw [if_neg (by rw [h.xg]; simp), e1]
      simp
    have e3 : keepQ T (S.sure.length / 2 : Nat) L b = ((4 : Int), (T : Int), L) := by
      unfold keepQ
      rw [hsz, if_pos (by omega)]
    rw [e2, e3]
    exact ⟨rfl, rfl, rfl, h⟩

theorem ChOk.sync {x : CS} {s : SS} {S : DS} {T : Nat} {L : List (List Int)} (h : ChOk x s S T L) :
    csyncR x s S = (0, x, s, { S with sure := applyAll S.sure S.waits, waits := [] }) ∧ ChOk x s { S with sure := applyAll S.sure S.waits, waits := [] } T L := by
  have hl : (applyAll S.sure S.waits).length = S.sure.length := applyAll_len _ _
  obtain ⟨e1, e2⟩ := h.has.sync
  refine ⟨?_, ⟨e2, h.l, h.xg, h.t, h.st, h.t1, h.sd, by simp only [hl]; exact h.f, by simp only [hl]; exact h.m, ?_⟩⟩
  · unfold csyncR
    rw [if_neg (by rw [h.xg]; simp), e1]
    have hg := h.xg
    cases x
    simp only at hg
    subst hg
    rfl
  · simp only [hl]
    have e3 : peekT { S with sure := applyAll S.sure S.waits, waits := [] } ((1 - x.sd) * (S.sure.length / 2)) (S.sure.length / 2) = peekT S ((1 - x.sd) * (S.sure.length / 2)) (S.sure.length / 2) := by
      refine peekT_congr hl rfl (fun j h1 h2 => now_sync S ?_)
      have hsd := h.sd
      have : x.sd = 0 ∨ x.sd = 1 := by omega
      rcases this with e | e
      · rw [e] at h2; omega
      · rw [e] at h2; omega
    rw [e3]
    exact h.other

/-- What is found: the live side. -/
theorem ChOk.find {x : CS} {s : SS} {S : DS} {T : Nat} {L : List (List Int)} (h : ChOk x s S T L) : findP S = (x.sd, T) := by
  have hp := h.has
  rw [h.l] at hp
  have hk := hp.peek
  have hT : peekT S s.f s.m = T := by unfold peekT; rw [hk]; exact h.st
  rw [h.f, h.m] at hT
  have ho := h.other
  have hsd := h.sd
  have : x.sd = 0 ∨ x.sd = 1 := by omega
  unfold findP
  rcases this with e | e
  · rw [e] at hT ho ⊢
    simp only [Nat.zero_mul, Nat.sub_zero, Nat.one_mul] at hT ho
    rw [if_neg (by omega), hT]
  · rw [e] at hT ho ⊢
    simp only [Nat.one_mul, Nat.sub_self, Nat.zero_mul] at hT ho
    rw [if_pos (by omega), hT]

/-- Opened anew. -/
theorem ChOk.open_ {x : CS} {s : SS} {S : DS} {T : Nat} {L : List (List Int)} (h : ChOk x s S T L) (hok : S.Ok) :
    (copenR S).1 = 0 ∧ (copenR S).2.1 = x ∧ (copenR S).2.2.1 = s ∧ (copenR S).2.2.2.sure.length = S.sure.length ∧ (copenR S).2.2.2.waits.length ≤ S.waits.length + S.sure.length / 2 ∧ ChOk x s (copenR S).2.2.2 T L := by
  have hf := h.find
  have hsc := h.has.scan
  have hrm := h.has.room
  have htm := h.has.t
  rw [h.f, h.m] at hrm
  rw [h.st] at htm
  rw [h.st, h.f, h.m] at hsc
  obtain ⟨o1, o2, o3, o4, o5, o6⟩ := Has.opened hok h.has.good hrm htm
  have hu := h.has.um
  rw [h.m] at hu
  have hw := (wipeR_good hok h.has.good (f := x.sd * (S.sure.length / 2) + s.u) (m := S.sure.length / 2 - s.u) (by omega)).2.2.2.2
  have hD : (openR S (x.sd * (S.sure.length / 2)) (S.sure.length / 2) T).2.2.2 = (wipeR S (x.sd * (S.sure.length / 2) + s.u) (S.sure.length / 2 - s.u)).2 := by
    unfold openR
    rw [if_neg (by rw [h.has.good.1]; simp), hsc]
  rw [← hD] at hw
  rw [hsc] at o2 o3 o6
  simp only at o2 o3 o6
  have hs : (⟨x.sd * (S.sure.length / 2), S.sure.length / 2, T, s.u, L.length, false⟩ : SS) = s := by
    have h1 := h.f
    have h2 := h.m
    have h3 := h.st
    have h4 := h.has.n
    have h5 := h.has.gone
    cases s
    simp only at h1 h2 h3 h4 h5
    simp only [SS.mk.injEq]
    exact ⟨h1.symm, h2.symm, h3.symm, trivial, h4.symm, h5.symm⟩
  have hx : (⟨x.sd, T, L.headD [], L.tail, false⟩ : CS) = x := by
    have h1 := h.l
    have h2 := h.t
    have h3 := h.xg
    rw [h1]
    cases x
    simp only at h2 h3
    simp only [List.headD_cons, List.tail_cons, CS.mk.injEq]
    exact ⟨trivial, h2.symm, trivial, trivial, h3.symm⟩
  have hc : copenR S = (0, x, s, (openR S (x.sd * (S.sure.length / 2)) (S.sure.length / 2) T).2.2.2) := by
    unfold copenR
    rw [hf]
    simp only
    rw [if_neg (by have := h.t1; omega), o1, o2, o3, hs, hx]
  rw [hs] at o6
  rw [hc]
  refine ⟨rfl, rfl, rfl, o4, o5, ⟨o6, h.l, h.xg, h.t, h.st, h.t1, h.sd, by simp only [o4]; exact h.f, by simp only [o4]; exact h.m, ?_⟩⟩
  simp only [o4]
  have e3 : peekT (openR S (x.sd * (S.sure.length / 2)) (S.sure.length / 2) T).2.2.2 ((1 - x.sd) * (S.sure.length / 2)) (S.sure.length / 2) = peekT S ((1 - x.sd) * (S.sure.length / 2)) (S.sure.length / 2) := by
    refine peekT_congr o4 (by rw [o6.good.1, h.has.good.1]) (fun j h1 h2 => ?_)
    have hsd := h.sd
    have : x.sd = 0 ∨ x.sd = 1 := by omega
    rcases this with e | e
    · rw [hw j (by rw [e] at h2; omega), if_neg (by rw [e] at h1 h2 ⊢; omega)]
    · rw [hw j (by rw [e] at h2; omega), if_neg (by rw [e] at h1 h2 ⊢; omega)]
  rw [e3]
  exact h.other

/-- A side that is begun. -/
theorem begin_ok {S : DS} (hok : S.Ok) (hg : S.Good) {sd t : Nat} (hsd : sd ≤ 1) {b : List Int} (ht : t ≤ mostP) (he : formE (t : Int) 0 b = 0) (hr : recS t 0 b ≤ S.sure.length / 2) :
    (beginR S sd t b).1 = 0 ∧ (beginR S sd t b).2.1 = ⟨sd * (S.sure.length / 2), S.sure.length / 2, t, recS t 0 b, 1, false⟩ ∧ Has (beginR S sd t b).2.2 ⟨sd * (S.sure.length / 2), S.sure.length / 2, t, recS t 0 b, 1, false⟩ [b] ∧
      (beginR S sd t b).2.2.sure.length = S.sure.length ∧ ∀ j, j < S.sure.length → ¬ (sd * (S.sure.length / 2) ≤ j ∧ j < sd * (S.sure.length / 2) + S.sure.length / 2) → (beginR S sd t b).2.2.now j = S.now j := by
  have hf : sd * (S.sure.length / 2) + S.sure.length / 2 ≤ S.sure.length := by
    have : sd = 0 ∨ sd = 1 := by omega
    rcases this with e | e <;> rw [e] <;> omega
  obtain ⟨w1, w2, w3, w4, w5⟩ := wipeR_good hok hg hf
  have hb := Has.blank hok hg hf ht
  obtain ⟨p1, p2, p3, p4, p5, p6⟩ := hb.put (b := b) he (by simp only; omega)
  obtain ⟨e1, e2⟩ := p3.sync
  simp only [Nat.zero_add, List.nil_append] at p2 e1 e2
  obtain ⟨P, hP⟩ : ∃ P, putR ⟨sd * (S.sure.length / 2), S.sure.length / 2, t, 0, 0, false⟩ (wipeR S (sd * (S.sure.length / 2)) (S.sure.length / 2)).2 b = P := ⟨_, rfl⟩
  rw [hP] at p1 p2 p3 p4 p5 p6 e1 e2
  have hB : beginR S sd t b = syncR P.2.1 P.2.2 := by
    unfold beginR
    rw [if_neg (by rw [w1]; simp), hP, if_neg (by rw [p1]; simp)]
  rw [p2, e1] at hB
  rw [hB]
  refine ⟨rfl, rfl, e2, ?_, fun j h1 h2 => ?_⟩
  · simp only
    rw [applyAll_len, p4, w3]
  · simp only
    rw [now_sync _ (by rw [p4, w3]; exact h1), p6 j (by simp only; omega), w5 j h1, if_neg h2]

theorem ChOk.turn {x : CS} {s : SS} {S : DS} {T : Nat} {L : List (List Int)} (h : ChOk x s S T L) (hok : S.Ok) (b : List Int) :
    (turnR x s S b).1 = (changeQ T (S.sure.length / 2 : Nat) L b).1 ∧ (turnR x s S b).2.2.2.sure.length = S.sure.length ∧
      ∃ T' : Nat, (changeQ T (S.sure.length / 2 : Nat) L b).2.1 = T' ∧ ChOk (turnR x s S b).2.1 (turnR x s S b).2.2.1 (turnR x s S b).2.2.2 T' (changeQ T (S.sure.length / 2 : Nat) L b).2.2 := by
  have ht := h.t
  by_cases h5 : 1099511627776 ≤ T
  · have e2 : turnR x s S b = (5, x, s, S) := by
      unfold turnR
      rw [if_neg (by rw [h.xg]; simp), if_pos (by omega)]
    have e3 : changeQ T (S.sure.length / 2 : Nat) L b = ((5 : Int), (T : Int), L) := by
      unfold changeQ
      rw [if_pos (by omega)]
    rw [e2, e3]
    exact ⟨rfl, rfl, T, rfl, h⟩
  have hsz : szQ ((T : Int) + 1) 0 b = if formE ((T + 1 : Nat) : Int) 0 b = 0 then (recS (T + 1) 0 b : Int) else -1 := by
    unfold szQ
    rw [show (T : Int) + 1 = ((T + 1 : Nat) : Int) by omega]
    simp
  by_cases he : formE ((T + 1 : Nat) : Int) 0 b = 0
  · rw [if_pos he] at hsz
    by_cases hr : S.sure.length / 2 < recS (T + 1) 0 b
    · have e2 : turnR x s S b = (18, x, s, S) := by
        unfold turnR
        rw [if_neg (by rw [h.xg]; simp), if_neg (by omega), ht, if_neg (by rw [he]; simp), if_pos hr]
      have e3 : changeQ T (S.sure.length / 2 : Nat) L b = ((18 : Int), (T : Int), L) := by
        unfold changeQ
        rw [if_neg (by omega), hsz, if_neg (by omega), if_pos (by omega)]
      rw [e2, e3]
      exact ⟨rfl, rfl, T, rfl, h⟩
    · obtain ⟨b1, b2, b3, b4, b5⟩ := begin_ok hok h.has.good (sd := 1 - x.sd) (t := T + 1) (by omega) (b := b) (by unfold mostP; omega) he (by omega)
      have e2 : turnR x s S b = (0, ⟨1 - x.sd, T + 1, b, [], false⟩, (beginR S (1 - x.sd) (T + 1) b).2.1, (beginR S (1 - x.sd) (T + 1) b).2.2) := by
        unfold turnR
        rw [if_neg (by rw [h.xg]; simp), if_neg (by omega), ht, if_neg (by rw [he]; simp), if_neg hr, if_neg (by rw [b1]; simp)]
      have e3 : changeQ T (S.sure.length / 2 : Nat) L b = ((0 : Int), (T : Int) + 1, [b]) := by
        unfold changeQ
        rw [if_neg (by omega), hsz, if_neg (by omega), if_neg (by omega)]
      have hp := h.has
      rw [h.l] at hp
      have hT : peekT S s.f s.m = T := by unfold peekT; rw [hp.peek]; exact h.st
      rw [h.f, h.m] at hT
      rw [e2, e3]
      refine ⟨rfl, b4, T + 1, by simp, ⟨by rw [b2]; exact b3, rfl, rfl, rfl, by rw [b2], by omega, by simp only; omega, by rw [b2]; simp only [b4], by rw [b2]; simp only [b4], ?_⟩⟩
      simp only [b4]
      have hsd := h.sd
      have e4 : 1 - (1 - x.sd) = x.sd := by omega
      rw [e4]
      have e5 : peekT (beginR S (1 - x.sd) (T + 1) b).2.2 (x.sd * (S.sure.length / 2)) (S.sure.length / 2) = peekT S (x.sd * (S.sure.length / 2)) (S.sure.length / 2) := by
        refine peekT_congr b4 (by rw [b3.good.1, h.has.good.1]) (fun j h1 h2 => b5 j ?_ ?_)
        · have : x.sd = 0 ∨ x.sd = 1 := by omega
          rcases this with e | e <;> rw [e] at h2 <;> omega
        · have : x.sd = 0 ∨ x.sd = 1 := by omega
          rcases this with e | e <;> rw [e] at h1 h2 ⊢ <;> omega
      rw [e5, hT]
      exact .inl (by omega)
  · have h4 : formE ((T + 1 : Nat) : Int) 0 b = 4 := by
      unfold formE at he ⊢
      rw [if_neg (by omega)] at he ⊢
      split at he
      · rw [if_pos (by assumption)]
      · exact absurd rfl he
    rw [if_neg he] at hsz
    have e2 : turnR x s S b = (4, x, s, S) := by
      unfold turnR
      rw [if_neg (by rw [h.xg]; simp), if_neg (by omega), ht, if_pos he, h4]
    have e3 : changeQ T (S.sure.length / 2 : Nat) L b = ((4 : Int), (T : Int), L) := by
      unfold changeQ
      rw [if_neg (by omega), hsz, if_pos (by omega)]
    rw [e2, e3]
    exact ⟨rfl, rfl, T, rfl, h⟩

/-- A drum on which nothing stands. -/
theorem ChOk.fresh {S : DS} (hok : S.Ok) (hg : S.Good) (h2 : 2 ≤ S.sure.length) (hf : (findP S).2 < 1) :
    (copenR S).1 = 0 ∧ (copenR S).2.2.2.sure.length = S.sure.length ∧ ChOk (copenR S).2.1 (copenR S).2.2.1 (copenR S).2.2.2 1 [[]] := by
  obtain ⟨b1, b2, b3, b4, b5⟩ := begin_ok hok hg (sd := 0) (t := 1) (by omega) (b := []) (by unfold mostP; omega) (by decide +kernel) (by
    have : recS 1 0 [] = 1 := by decide +kernel
    omega)
  have hc : copenR S = (0, ⟨0, 1, [], [], false⟩, (beginR S 0 1 []).2.1, (beginR S 0 1 []).2.2) := by
    unfold copenR
    rw [if_pos hf, b1]
  have hp : peekT S (S.sure.length / 2) (S.sure.length / 2) < 1 := by
    unfold findP at hf
    split at hf <;> simp only at hf <;> omega
  rw [hc]
  refine ⟨rfl, b4, ⟨by rw [b2]; exact b3, rfl, rfl, rfl, by rw [b2], by omega, by simp, by rw [b2]; simp only [b4], by rw [b2]; simp only [b4], ?_⟩⟩
  simp only [b4, Nat.sub_zero, Nat.one_mul]
  rw [peekT_congr (S := S) b4 (by rw [b3.good.1, hg.1]) (fun j h1 h3 => b5 j (by omega) (by omega))]
  exact .inl hp
end Go.Proofs.YtohadeijmmmcdaaDoor
end

section
namespace Go.Proofs.YtohadeijmmmcdaaDoor
open Go Go.RowKit Machine
set_option maxRecDepth 100000

structure ChN (w : World) (B p gs r : Nat) (x : CS) (s : SS) (S : DS) (nv : Value) (W : World) : Prop where
  at_ : At w B p gs S W
  ch : ∃ q hv, (x.gone = false → IsScroll W q p s) ∧ IsChest B W r q p x hv nv

section
variable {w W W' : World} {B p gs r : Nat} {x : CS} {s : SS} {S : DS} {nv : Value}
theorem ChN.old (h : ChN w B p gs r x s S nv W) : ChestAt w B p gs r x s S W := by
  obtain ⟨q, hv, h1, h2⟩ := h.ch
  exact ⟨h.at_, q, hv, nv, h1, h2⟩
theorem ChN.after (h : ChN w B p gs r x s S nv W) (hb : Below W.heap.size W W') : ChN w B p gs r x s S nv W' := by
  obtain ⟨q, hv, h1, h2⟩ := h.ch
  exact ⟨h.at_.after hb, q, hv, fun g => (Kept.of_below (ts := []) hb h.at_.size).kt _ _ _ (h1 g) (by simp), h2.kept (Kept.of_below hb h.at_.size)⟩

theorem ksync_n (h : ChN w B p gs r x s S nv W) (hg : x.gone = false) (hlen : S.waits.length ≤ 1000000000) :
    Calls Tryd.prog 45 #[.pointer (some ⟨r, 0, none⟩)] W fun e W' => e = .returned (.int .i64 (csyncR x s S).1) ∧ ChN w B p gs r (csyncR x s S).2.1 (csyncR x s S).2.2.1 (csyncR x s S).2.2.2 nv W' ∧ KeptC B nv W W' := by
  obtain ⟨q, hv, h1, h2⟩ := h.ch
  obtain ⟨wv, hd⟩ := h.at_.drum
  refine (csync_any B r q p gs wv hv nv x s S W hd (h1 hg) h2 hlen).mono ?_
  rintro e W' ⟨rfl, hd', hs', hc', hk⟩
  exact ⟨rfl, ⟨h.at_.keptB hk.below hd', q, hv, fun _ => hs', hc'⟩, hk⟩

theorem kkeep_n (h : ChN w B p gs r x s S nv W) (hg : x.gone = false) (A : Option Addr) (c : Nat) (hcA : A = none → c = 0) (b : List Int) (hb : Byt W A b) (hA : ∀ a, A = some a → 0 < b.length → a.block < B ∨ ∃ cs, Blk W a.block 5 cs) (hbl : b.length ≤ 100000000)
    (o1 : s.u ≤ s.m) (o2 : s.f + s.m ≤ S.sure.length) (o3 : s.n ≤ 1099511627776) (hlen : S.waits.length + 1024 ≤ 1000000000) (hnl : x.l.length + 1 ≤ 1000000000) :
    Calls Tryd.prog 37 #[.pointer (some ⟨r, 0, none⟩), .slice A b.length c] W fun e W' => e = .returned (.int .i64 (ckeepR x s S b).1) ∧
      ∃ nv', ChN w B p gs r (ckeepR x s S b).2.1 (ckeepR x s S b).2.2.1 (ckeepR x s S b).2.2.2 nv' W' ∧ Foot W nv nv' ∧ KeptC B nv W W' := by
  obtain ⟨q, hv, h1, h2⟩ := h.ch
  obtain ⟨wv, hd⟩ := h.at_.drum
  have hB2 : 2 ≤ B := Nat.le_trans h.at_.two h.at_.base
  refine (ckeep_any B r q p gs wv hv nv x s S A c hcA b W hd (h1 hg) h2 o1 o2 o3 hlen hnl (fun W' hk => hb.kept hA hk (by decide)) hbl h.at_.glob hB2).mono ?_
  rintro e W' ⟨rfl, hd', hs', ⟨nv', hc', hf⟩, hk⟩
  exact ⟨rfl, nv', ⟨h.at_.keptB hk.below hd', q, hv, fun _ => hs', hc'⟩, hf, hk⟩

theorem kturn_n (h : ChN w B p gs r x s S nv W) (A : Option Addr) (c : Nat) (hcA : A = none → c = 0) (b : List Int) (hb : Byt W A b) (hA : ∀ a, A = some a → 0 < b.length → a.block < B ∨ ∃ cs, Blk W a.block 5 cs) (hbl : b.length ≤ 100000000)
    (hsd : x.sd ≤ 1) (hxt : x.t ≤ 1099511627776) (hlen : S.waits.length + 10000 ≤ 1000000000) :
    Calls Tryd.prog 42 #[.pointer (some ⟨r, 0, none⟩), .slice A b.length c] W fun e W' => e = .returned (.int .i64 (turnR x s S b).1) ∧
      ∃ nv', ChN w B p gs r (turnR x s S b).2.1 (turnR x s S b).2.2.1 (turnR x s S b).2.2.2 nv' W' ∧ Foot W nv nv' ∧ KeptC B nv W W' := by
  obtain ⟨q, hv, h1, h2⟩ := h.ch
  obtain ⟨wv, hd⟩ := h.at_.drum
  have hB2 : 2 ≤ B := Nat.le_trans h.at_.two h.at_.base
  refine (cturn_any B r q p gs wv hv nv x s S A c hcA b W hd h1 h2 hsd hxt hlen (fun W' hk => hb.kept hA hk (by decide)) hbl h.at_.glob hB2).mono ?_
  rintro e W' ⟨rfl, hd', ⟨q', hv', nv', hs', hc', hf⟩, hk⟩
  exact ⟨rfl, nv', ⟨h.at_.keptB hk.below hd', q', hv', hs', hc'⟩, hf, hk⟩

theorem copen_n (h : At w B p gs S W) (hof : S.off = false) (h2s : 2 ≤ S.sure.length) (hlen : S.waits.length + 10000 ≤ 1000000000) (h0 : (copenR S).1 = 0) :
    Calls Tryd.prog 35 #[.pointer (some ⟨p, 0, none⟩)] W fun e W' => ∃ r nv, e = .returned (.tuple #[.pointer (some ⟨r, 0, none⟩), .int .i64 0]) ∧
      ChN w B p gs r (copenR S).2.1 (copenR S).2.2.1 (copenR S).2.2.2 nv W' ∧ (∀ k, nv.ownBlock = some k → W.heap.size ≤ k) ∧ Kept B sts W W' := by
  obtain ⟨wv, hd⟩ := h.drum
  have hB2 : 2 ≤ B := Nat.le_trans h.two h.base
  refine (copen_any B p gs wv S W hd hof h2s hlen h.glob hB2).mono ?_
  rintro e W' ⟨hp, hd', hk⟩
  have ha := h.keptB hk.below hd'
  rcases hp with ⟨_, r, q, hv, nv, rfl, hs, hc⟩ | ⟨h1, rfl⟩
  · have hBW := h.size
    exact ⟨r, nv, rfl, ⟨ha, q, hv, fun _ => hs, ⟨hc.st, by have := hc.br; omega, by have := hc.bq; omega, hc.hd.base hBW, hc.nt.base hBW, hc.hb, hc.nb⟩⟩, fun k hk2 => by obtain ⟨_, _, h9⟩ := hc.nt.blk hk2; exact h9, hk⟩
  · exact absurd h0 h1
end

/-- The document's chest is kept where the program's is worked on. -/
theorem ChT.keptC {n₀ B : Nat} {w w' : World} {nv : Value} {A : Option Addr} {c : Nat} {L : List (List Int)} (h : ChT n₀ w A c L) (hk : KeptC B nv w w') (hn : n₀ ≤ B) (hB : ∀ k, nv.ownBlock = some k → ∃ cs, Blk w k 22 cs) (hA : ∀ a, A = some a → 0 < L.length → nv.ownBlock ≠ some a.block) : ChT n₀ w' A c L := by
  obtain ⟨xs, h1, h2⟩ := h.ex
  have hu : ∀ (k : Nat), (∃ cs, Blk w k 5 cs) → ∃ cs, Blk w k 5 cs ∧ Blk w' k 5 cs := fun k ⟨cs, hc⟩ => ⟨cs, hc, hk.kt _ _ _ hc (by decide) (fun e => by
    obtain ⟨cs2, h3⟩ := hB k e
    exact absurd (hc.inj h3).1 (by decide))⟩
  have hbl : Below n₀ w w' := hk.below.mono hn
  refine ⟨⟨xs, ⟨h1.len, fun h0 => ?_, fun i hi hi' => ?_⟩, fun i hi hi' k hk0 h0 => (h2 i hi hi' k hk0 h0).imp id (fun hc => by obtain ⟨cs, _, h4⟩ := hu k hc; exact ⟨cs, h4⟩)⟩, h.nul, fun a ha h0 => (h.row a ha h0).imp id (fun ⟨cs, hc⟩ => ⟨cs, hk.kt _ _ _ hc (by decide) (hA a ha h0)⟩), h.bd, h.cap⟩
  · obtain ⟨g, o, rfl, hg, hc⟩ := h1.cell h0
    refine ⟨g, o, rfl, Nat.lt_of_lt_of_le hg hk.size, fun j x hx => ?_⟩
    rw [← hc j x hx]
    have hL : 0 < L.length := by rw [← h1.len]; exact h0
    rcases h.row _ rfl hL with h3 | ⟨cs, h3⟩
    · exact hbl.cell (p := ⟨g, o + j, none⟩) h3
    · exact ((hk.kt _ _ _ h3 (by decide) (hA _ rfl hL)).cell (o + j)).trans (h3.cell (o + j)).symm
  · obtain ⟨A', c', e, hy, hn'⟩ := h1.txt i hi hi'
    refine ⟨A', c', e, ⟨fun h0 => ?_, hy.bd⟩, hn'⟩
    obtain ⟨g, o, e2, hg, hc⟩ := hy.cell h0
    refine ⟨g, o, e2, Nat.lt_of_lt_of_le hg hk.size, fun j y hy' => ?_⟩
    rw [← hc j y hy']
    rcases h2 i hi hi' g (by rw [e, e2]; rfl) h0 with h3 | h3
    · exact hbl.cell (p := ⟨g, o + j, none⟩) h3
    · obtain ⟨cs, h4, h5⟩ := hu g h3
      exact (h5.cell (o + j)).trans (h4.cell (o + j)).symm
end Go.Proofs.YtohadeijmmmcdaaDoor
end

section
namespace Go.Proofs.YtohadeijmmmcdaaDoor
open Go Go.RowKit Machine

theorem peekT_eq {S : DS} (ho : S.off = false) {f m : Nat} (hf : f + m ≤ S.sure.length) :
    peekT S f m = match readP (stP S f m) with | none => 0 | some r => if r.n = 0 then r.t else 0 := by
  have hs : strP S.sure.length (f : Int) (m : Int) = true := by
    simp only [strP, Bool.and_eq_true, decide_eq_true_eq]
    omega
  unfold peekT peekP
  rw [if_pos hs, ho, if_neg (by simp)]
  simp only [Int.toNat_natCast]
  cases readP (stP S f m) with
  | none => rfl
  | some r =>
    by_cases hn : r.n = 0
    · simp [hn]
    · simp [hn]

theorem sideP_stP {S : DS} (hok : S.Ok) {i : Nat} (hi : i ≤ 1) : sideP (stP S 0 S.sure.length) i = stP S (i * (S.sure.length / 2)) (S.sure.length / 2) := by
  obtain ⟨n, hn⟩ : ∃ n, S.sure.length = n := ⟨_, rfl⟩
  rw [hn]
  have hl : (stP S 0 n).length = 64 * n := stP_len hok 0 n (by omega)
  have h1 : stP S 0 n = stP S 0 (n / 2) ++ (stP S (n / 2) (n / 2) ++ stP S (n / 2 + n / 2) (n - n / 2 - n / 2)) := by
    have e1 := stP_add S 0 (n - n / 2) (n / 2)
    rw [show n / 2 + (n - n / 2) = n by omega, Nat.zero_add] at e1
    have e2 := stP_add S (n / 2) (n - n / 2 - n / 2) (n / 2)
    rw [show n / 2 + (n - n / 2 - n / 2) = n - n / 2 by omega] at e2
    rw [e1, e2]
  have l1 : (stP S 0 (n / 2)).length = 64 * (n / 2) := stP_len hok 0 (n / 2) (by omega)
  have l2 : (stP S (n / 2) (n / 2)).length = 64 * (n / 2) := stP_len hok (n / 2) (n / 2) (by omega)
  unfold sideP
  rw [hl, show 64 * n / 64 / 2 = n / 2 by omega, h1]
  have hi' : i = 0 ∨ i = 1 := by omega
  rcases hi' with rfl | rfl
  · rw [Nat.mul_zero, List.drop_zero, ← l1, List.take_left]
    rw [Nat.zero_mul]
  · rw [Nat.mul_one, Nat.one_mul]
    conv => lhs; rw [← l1, List.drop_left, l1, ← l2, List.take_left]

theorem bestP_one {b : List Int} (i : Nat) : bestP b (i + 1) = if (bestP b i).1 < (match readP (sideP b i) with | none => 0 | some r => if r.n = 0 then r.t else 0) then
    ((match readP (sideP b i) with | none => 0 | some r => if r.n = 0 then r.t else 0), (scanAll (match readP (sideP b i) with | none => 0 | some r => if r.n = 0 then r.t else 0) (sideP b i)).1) else bestP b i := by
  conv => lhs; unfold bestP
  cases readP (sideP b i) with
  | none => simp
  | some r =>
    simp only
    by_cases hn : r.n = 0
    · simp [hn]
    · simp [hn]

/-- What is found by the document: the live side. -/
theorem best_find {S : DS} (hok : S.Ok) (hg : S.Good) :
    bestP (stP S 0 S.sure.length) 2 = if (findP S).2 < 1 then (0, []) else ((findP S).2, (scanAll (findP S).2 (stP S ((findP S).1 * (S.sure.length / 2)) (S.sure.length / 2))).1) := by
  have p0 := peekT_eq hg.1 (f := 0) (m := S.sure.length / 2) (by omega)
  have p1 := peekT_eq hg.1 (f := S.sure.length / 2) (m := S.sure.length / 2) (by omega)
  have s0 := sideP_stP hok (i := 0) (by omega)
  have s1 := sideP_stP hok (i := 1) (by omega)
  rw [Nat.zero_mul] at s0
  rw [Nat.one_mul] at s1
  rw [bestP_one 1, bestP_one 0, s0, s1, ← p0, ← p1]
  have b0 : bestP (stP S 0 S.sure.length) 0 = (0, []) := by unfold bestP; rfl
  rw [b0]
  simp only
  unfold findP
  obtain ⟨a, ha⟩ : ∃ a, peekT S 0 (S.sure.length / 2) = a := ⟨_, rfl⟩
  obtain ⟨c, hc⟩ : ∃ c, peekT S (S.sure.length / 2) (S.sure.length / 2) = c := ⟨_, rfl⟩
  rw [ha, hc]
  by_cases h0 : 0 < a
  · rw [if_pos h0]
    simp only
    by_cases h1 : a < c
    · rw [if_pos h1, if_pos h1]
      simp only
      rw [if_neg (by omega), Nat.one_mul]
    · rw [if_neg h1, if_neg h1]
      simp only
      rw [if_neg (by omega), Nat.zero_mul]
  · obtain rfl : a = 0 := by omega
    rw [if_neg h0]
    simp only
    by_cases h1 : 0 < c
    · rw [if_pos h1, if_pos h1]
      simp only
      rw [if_neg (by omega), Nat.one_mul]
    · rw [if_neg h1, if_neg h1]
      simp only
      rw [if_pos (by omega)]

/-- What is opened where something stands. -/
theorem ChOk.opened {S : DS} (hok : S.Ok) (hg : S.Good) (hf : ¬ (findP S).2 < 1) :
    (copenR S).1 = 0 ∧ (copenR S).2.2.2.sure.length = S.sure.length ∧ (copenR S).2.2.2.waits.length ≤ S.waits.length + S.sure.length / 2 ∧
      ChOk (copenR S).2.1 (copenR S).2.2.1 (copenR S).2.2.2 (findP S).2 (scanAll (findP S).2 (stP S ((findP S).1 * (S.sure.length / 2)) (S.sure.length / 2))).1 := by
  obtain ⟨f1, f2, b, l, f3⟩ := findP_in hg.1 hf
  have hrm : (findP S).1 * (S.sure.length / 2) + S.sure.length / 2 ≤ S.sure.length := by
    have : (findP S).1 = 0 ∨ (findP S).1 = 1 := by omega
    rcases this with e | e <;> rw [e] <;> omega
  obtain ⟨o1, o2, o3, o4, o5, o6⟩ := Has.opened hok hg hrm f2
  have hu := o6.um
  simp only at hu
  have hw := (wipeR_good hok hg (f := (findP S).1 * (S.sure.length / 2) + (scanAll (findP S).2 (stP S ((findP S).1 * (S.sure.length / 2)) (S.sure.length / 2))).2) (m := S.sure.length / 2 - (scanAll (findP S).2 (stP S ((findP S).1 * (S.sure.length / 2)) (S.sure.length / 2))).2) (by omega)).2.2.2.2
  have hD : (openR S ((findP S).1 * (S.sure.length / 2)) (S.sure.length / 2) (findP S).2).2.2.2 = (wipeR S ((findP S).1 * (S.sure.length / 2) + (scanAll (findP S).2 (stP S ((findP S).1 * (S.sure.length / 2)) (S.sure.length / 2))).2) (S.sure.length / 2 - (scanAll (findP S).2 (stP S ((findP S).1 * (S.sure.length / 2)) (S.sure.length / 2))).2)).2 := by
    unfold openR
    rw [if_neg (by rw [hg.1]; simp)]
  rw [← hD] at hw
  have hc : copenR S = (0, ⟨(findP S).1, (findP S).2, b, l, false⟩,
      ⟨(findP S).1 * (S.sure.length / 2), S.sure.length / 2, (findP S).2, (scanAll (findP S).2 (stP S ((findP S).1 * (S.sure.length / 2)) (S.sure.length / 2))).2, (scanAll (findP S).2 (stP S ((findP S).1 * (S.sure.length / 2)) (S.sure.length / 2))).1.length, false⟩,
      (openR S ((findP S).1 * (S.sure.length / 2)) (S.sure.length / 2) (findP S).2).2.2.2) := by
    unfold copenR
    rw [if_neg hf, o1, o2, o3, f3]
    rfl
  rw [hc]
  refine ⟨rfl, o4, o5, ⟨o6, f3, rfl, rfl, rfl, by omega, f1, by simp only; rw [o4], by simp only; rw [o4], ?_⟩⟩
  simp only [o4]
  have e3 : peekT (openR S ((findP S).1 * (S.sure.length / 2)) (S.sure.length / 2) (findP S).2).2.2.2 ((1 - (findP S).1) * (S.sure.length / 2)) (S.sure.length / 2) = peekT S ((1 - (findP S).1) * (S.sure.length / 2)) (S.sure.length / 2) := by
    refine peekT_congr o4 (by rw [o6.good.1, hg.1]) (fun j h1 h2 => ?_)
    have : (findP S).1 = 0 ∨ (findP S).1 = 1 := by omega
    rcases this with e | e
    · rw [hw j (by rw [e] at h2; omega), if_neg (by rw [e] at h1 h2 ⊢; omega)]
    · rw [hw j (by rw [e] at h2; omega), if_neg (by rw [e] at h1 h2 ⊢; omega)]
  rw [e3]
  unfold findP at hf ⊢
  split
  · simp only [Nat.sub_self, Nat.zero_mul]
    exact .inl (by omega)
  · simp only [Nat.sub_zero, Nat.one_mul]
    rename_i hlt
    have : peekT S (S.sure.length / 2) (S.sure.length / 2) < peekT S 0 (S.sure.length / 2) ∨ peekT S (S.sure.length / 2) (S.sure.length / 2) = peekT S 0 (S.sure.length / 2) := by omega
    exact this.imp id (fun h => ⟨trivial, h⟩)
end Go.Proofs.YtohadeijmmmcdaaDoor
end

section
namespace Go.Proofs.YtohadeijmmmcdaaDoor
open Go Go.RowKit Machine
set_option maxRecDepth 100000

/-- A drum of one sector has no chest. -/
theorem copen_small {w W : World} {B p gs : Nat} {S : DS} (h : At w B p gs S W) (h2s : S.sure.length < 2) :
    Calls Tryd.prog 35 #[.pointer (some ⟨p, 0, none⟩)] W fun e W' => e = .returned (.tuple #[.pointer none, .int .i64 1]) ∧ W = W' := by
  obtain ⟨wv, hd⟩ := h.drum
  have hl := len_any p gs S.sure.length wv S.fuse S.off W hd.st
  have pq := peq35 p
  have hI : (S.sure.length : Int) < 2 := by omega
  obtain ⟨N, hN⟩ : ∃ N, S.sure.length = N := ⟨_, rfl⟩
  rw [hN] at hl hI
  clear hd h h2s hN
  go_enter Tryd.func35, Tryd.ntmps35
  go_wp2_with fail
  with_reducible refine hl.mono ?_
  rintro e w' ⟨rfl, hw⟩
  rw [← hw]
  clear hl hw
  go_wp2_with fail
  go_ret2
  exact ⟨rfl, rfl⟩

section
variable {w W W' : World} {B p gs r : Nat} {x : CS} {s : SS} {S : DS} {nv : Value}
/-- Blocks of another type may turn. -/
theorem ChN.other {ts : List TypeId} (h : ChN w B p gs r x s S nv W) (hk : Kept B ts W W') (h1 : 108 ∉ ts) (h2 : 119 ∉ ts) (h3 : 121 ∉ ts) (h4 : 111 ∉ ts) (h5 : 72 ∉ ts) (h6 : 5 ∉ ts) (h7 : 22 ∉ ts) : ChN w B p gs r x s S nv W' := by
  obtain ⟨q, hv, a1, a2⟩ := h.ch
  exact ⟨h.at_.kept hk (by obtain ⟨wv, hd⟩ := h.at_.drum; exact ⟨wv, hk.drum hd h1 h2 h3⟩), q, hv, fun g => (a1 g).kept hk h4, ⟨hk.kt _ _ _ a2.st h5, a2.br, a2.bq, hk.own8 a2.hd h6, hk.nt a2.nt h7 h6, a2.hb, a2.nb⟩⟩
/-- The notes' row is a block of its own. -/
theorem ChN.nvb (h : ChN w B p gs r x s S nv W) : ∀ k, nv.ownBlock = some k → B ≤ k ∧ ∃ cs, Blk W k 22 cs := fun k hk => by
  obtain ⟨q, hv, a1, a2⟩ := h.ch
  obtain ⟨cs, hb, hB⟩ := a2.nt.blk hk
  exact ⟨hB, cs, hb⟩
theorem ChN.set75 {g : Nat} {cs : Array Value} (h : ChN w B p gs r x s S nv W) (hg : Blk W g 75 cs) (hB : B ≤ g) (G : Array Value) : ChN w B p gs r x s S nv (W.setRow g G) :=
  h.other (ts := [75]) (Kept.of_fr ((Fr.refl (fun k => k = g) W).setRow (fun _ => rfl) G) h.at_.size (fun k hk e => by omega) (fun k t cs' e hb => by
    subst e
    rw [(hb.inj hg).1]
    simp)) (by decide) (by decide) (by decide) (by decide) (by decide) (by decide) (by decide)
/-- The document's chest is kept while the program's is worked on. -/
theorem ChN.q75 {g : Nat} {cs : Array Value} (h : ChN w B p gs r x s S nv W) (hg : Blk W g 75 cs) (hk : KeptC B nv W W') : Blk W' g 75 cs :=
  hk.kt _ _ _ hg (by decide) (fun e => by
    obtain ⟨_, cs2, h3⟩ := h.nvb _ e
    exact absurd (hg.inj h3).1 (by decide))
theorem ChN.qT {A : Option Addr} {c : Nat} {L : List (List Int)} (h : ChN w B p gs r x s S nv W) (hC : ChT B W A c L) (hk : KeptC B nv W W') (hA : ∀ a, A = some a → 0 < L.length → nv.ownBlock ≠ some a.block) : ChT B W' A c L :=
  hC.keptC hk (Nat.le_refl _) (fun k hk => (h.nvb k hk).2) hA
end

/-- Where the row of the document's chest lies. -/
theorem ChT.rowlt {n₀ : Nat} {W : World} {A : Option Addr} {c : Nat} {L : List (List Int)} (h : ChT n₀ W A c L) {a : Addr} (ha : A = some a) (h0 : 0 < L.length) : a.block < W.heap.size := by
  obtain ⟨xs, h1, _⟩ := h.ex
  obtain ⟨g, o, e, hg, _⟩ := h1.cell (by rw [h1.len]; exact h0)
  rw [ha] at e
  cases e
  exact hg
theorem Foot.ne {W : World} {nv nv' : Value} {k : Nat} (h : Foot W nv nv') (h1 : nv.ownBlock ≠ some k) (h2 : k < W.heap.size) : nv'.ownBlock ≠ some k := fun e => by
  rcases h k e with h3 | h3
  · exact h1 h3
  · omega

/-! How many writes wait -/
theorem ckeepR_sz (x : CS) (s : SS) (S : DS) (b : List Int) : Sz 2000 S (ckeepR x s S b).2.2.2 := by
  unfold ckeepR
  repeat' split
  · exact Sz.refl _ _
  all_goals exact (putR_sz _ _ _).mono (by omega)
theorem turnR_sz (x : CS) (s : SS) (S : DS) (b : List Int) (h : S.sure.length ≤ 60) : Sz 2000 S (turnR x s S b).2.2.2 := by
  unfold turnR
  repeat' split
  · exact Sz.refl _ _
  · exact Sz.refl _ _
  · exact Sz.refl _ _
  · exact Sz.refl _ _
  all_goals exact (beginR_sz _ _ _ _).mono (by omega)
theorem copenR_sz (S : DS) (h : S.sure.length ≤ 60) : Sz 2000 S (copenR S).2.2.2 := by
  unfold copenR
  split
  · exact (beginR_sz _ _ _ _).mono (by omega)
  · simp only
    unfold openR
    split
    · exact Sz.refl _ _
    · exact (wipeR_sz _ _ _).mono (by omega)
end Go.Proofs.YtohadeijmmmcdaaDoor
end
