/-
  What a scroll's records are, plainly: what is put is scanned; what is wiped has none.
-/
import Derived.Test.YtohadeijmmmcdaaDoorScrollB
namespace Go.Proofs.YtohadeijmmmcdaaDoor

/-- The power is on, and no fuse is set. -/
def DS.Good (S : DS) : Prop := S.off = false ∧ S.fuse = 0

theorem DS.write_good {S : DS} (hg : S.Good) {a : Nat} (ha : a < S.sure.length) {b : List Int} (hb : b.length = 64) : S.write (a : Int) b = (0, { S with waits := S.waits ++ [(a, b)] }) := by
  obtain ⟨h1, h2⟩ := hg
  unfold DS.write
  rw [if_neg (by simp [h1]), if_neg (by omega), if_neg (by omega), if_neg (by omega)]
  simp [h2, dec]
theorem DS.sync_good {S : DS} (hg : S.Good) : S.sync = (0, { S with sure := applyAll S.sure S.waits, waits := [] }) := by
  obtain ⟨h1, h2⟩ := hg
  unfold DS.sync
  rw [if_neg (by simp [h1]), if_neg (by omega)]
  simp [h2, dec]
theorem now_snoc (S : DS) (a : Nat) (b : List Int) (j : Nat) : DS.now { S with waits := S.waits ++ [(a, b)] } j = if a = j then b else S.now j := by
  unfold DS.now
  rw [lastAt_snoc]
theorem now_sync (S : DS) {j : Nat} (hj : j < S.sure.length) : DS.now { S with sure := applyAll S.sure S.waits, waits := [] } j = S.now j := by
  unfold DS.now
  show lastAt j ((applyAll S.sure S.waits).getD j []) [] = _
  rw [applyAll_get j _ _ hj]
  rfl

/-- What is put lies there. -/
theorem putGo_good (F : List Int) (a : Nat) : ∀ (k i : Nat) (T : DS), T.Good → a + i + k ≤ T.sure.length → 64 * (i + k) ≤ F.length →
    (putGo F a k i T).1 = 0 ∧ (putGo F a k i T).2.Good ∧ (putGo F a k i T).2.sure = T.sure ∧ (putGo F a k i T).2.waits.length = T.waits.length + k ∧
      ∀ j, (putGo F a k i T).2.now j = if a + i ≤ j ∧ j < a + i + k then (F.drop (64 * (j - a))).take 64 else T.now j
  | 0, i, T, hg, _, _ => by
    rw [putGo_zero]
    refine ⟨rfl, hg, rfl, rfl, fun j => ?_⟩
    rw [if_neg (by omega)]
  | k + 1, i, T, hg, ha, hF => by
    have hb : ((F.drop (64 * i)).take 64).length = 64 := by simp; omega
    have hw := T.write_good hg (a := a + i) (by omega) hb
    rw [putGo_succ, hw]
    simp only [if_true]
    obtain ⟨e1, e2, e3, e4, e5⟩ := putGo_good F a k (i + 1) { T with waits := T.waits ++ [(a + i, (F.drop (64 * i)).take 64)] } ⟨hg.1, hg.2⟩ (by simp only; omega) (by omega)
    refine ⟨e1, e2, e3, ?_, fun j => ?_⟩
    · rw [e4]; simp; omega
    · rw [e5 j, now_snoc]
      by_cases h1 : a + i = j
      · subst h1
        rw [if_neg (by omega), if_pos rfl, if_pos (by omega), show a + i - a = i by omega]
      · by_cases h2 : a + (i + 1) ≤ j ∧ j < a + (i + 1) + k
        · rw [if_pos h2, if_pos (by omega)]
        · rw [if_neg h2, if_neg h1, if_neg (by omega)]

/-! ### Stretches -/
theorem stP_congr {S T : DS} {f m : Nat} (h : ∀ j, f ≤ j → j < f + m → S.now j = T.now j) : stP S f m = stP T f m := by
  unfold stP
  congr 1
  apply List.map_congr_left
  intro i hi
  have := List.mem_range.1 hi
  exact h _ (by omega) (by omega)
theorem stP_add (S : DS) (f : Nat) : ∀ (n m : Nat), stP S f (m + n) = stP S f m ++ stP S (f + m) n
  | 0, m => by simp [stP]
  | n + 1, m => by
    rw [← Nat.add_assoc, stP_succ, stP_add S f n m, stP_succ, List.append_assoc, Nat.add_assoc]
theorem parts_flat (F : List Int) : ∀ (k i : Nat), F.length = 64 * (i + k) → ((List.range k).map fun j => (F.drop (64 * (i + j))).take 64).flatten = F.drop (64 * i)
  | 0, i, h => by simp; omega
  | k + 1, i, h => by
    rw [List.range_succ_eq_map, List.map_cons, List.flatten_cons, List.map_map]
    have e : ((fun j => (F.drop (64 * (i + j))).take 64) ∘ Nat.succ) = fun j => (F.drop (64 * ((i + 1) + j))).take 64 := by
      funext j
      simp only [Function.comp_apply]
      rw [show i + Nat.succ j = i + 1 + j by omega]
    rw [e, parts_flat F k (i + 1) (by omega), Nat.add_zero]
    have := List.take_append_drop 64 (F.drop (64 * i))
    rw [List.drop_drop, show 64 * i + 64 = 64 * (i + 1) by omega] at this
    exact this
/-- A stretch in which something was put. -/
theorem stP_put {S T : DS} {f m u k : Nat} {F : List Int} (hF : F.length = 64 * k) (hm : u + k ≤ m) (h : ∀ j, T.now j = if f + u + 0 ≤ j ∧ j < f + u + 0 + k then (F.drop (64 * (j - (f + u)))).take 64 else S.now j) :
    stP T f m = stP S f u ++ F ++ stP S (f + u + k) (m - u - k) := by
  rw [show m = u + (k + (m - u - k)) by omega, stP_add, stP_add, show u + (k + (m - u - k)) - u - k = m - u - k by omega]
  rw [List.append_assoc]
  congr 1
  · exact stP_congr (fun j h1 h2 => by rw [h j, if_neg (by omega)])
  · congr 1
    · unfold stP
      have e : (List.range k).map (fun i => T.now (f + u + i)) = (List.range k).map (fun j => (F.drop (64 * (0 + j))).take 64) := by
        apply List.map_congr_left
        intro i hi
        have := List.mem_range.1 hi
        rw [h _, if_pos (by omega), show f + u + i - (f + u) = 0 + i by omega]
      rw [e, parts_flat F k 0 (by rw [hF, Nat.zero_add])]
      simp
    · exact stP_congr (fun j h1 h2 => by rw [h j, if_neg (by omega)])

/-! ### Records behind each other -/
/-- Records from number n on. -/
def formsP (t : Nat) : Nat → List (List Int) → List Int
  | _, [] => []
  | n, b :: l => formP t n b ++ formsP t (n + 1) l
/-- How many sectors they have. -/
def sizeP (t : Nat) : Nat → List (List Int) → Nat
  | _, [] => 0
  | n, b :: l => recS t n b + sizeP t (n + 1) l
/-- Each of them has a form. -/
def FitP (t : Nat) : Nat → List (List Int) → Prop
  | _, [] => True
  | n, b :: l => formE t n b = 0 ∧ FitP t (n + 1) l
theorem formsP_len (t : Nat) : ∀ (l : List (List Int)) (n : Nat), (formsP t n l).length = 64 * sizeP t n l
  | [], _ => rfl
  | b :: l, n => by
    simp only [formsP, sizeP, List.length_append, formP_len, formsP_len t l]
    unfold recS
    omega
theorem formsP_snoc (t : Nat) (b : List Int) : ∀ (l : List (List Int)) (n : Nat), formsP t n (l ++ [b]) = formsP t n l ++ formP t (n + l.length) b
  | [], n => by simp [formsP]
  | c :: l, n => by
    simp only [List.cons_append, formsP, formsP_snoc t b l, List.length_cons, List.append_assoc]
    rw [show n + 1 + l.length = n + (l.length + 1) by omega]
theorem sizeP_snoc (t : Nat) (b : List Int) : ∀ (l : List (List Int)) (n : Nat), sizeP t n (l ++ [b]) = sizeP t n l + recS t (n + l.length) b
  | [], n => by simp [sizeP]
  | c :: l, n => by
    simp only [List.cons_append, sizeP, sizeP_snoc t b l, List.length_cons]
    rw [show n + 1 + l.length = n + (l.length + 1) by omega]
    omega
theorem FitP_snoc {t : Nat} {b : List Int} : ∀ {l : List (List Int)} {n : Nat}, FitP t n l → formE t (n + l.length : Nat) b = 0 → FitP t n (l ++ [b])
  | [], n, _, h => ⟨by simpa using h, trivial⟩
  | c :: l, n, ⟨h1, h2⟩, h => ⟨h1, FitP_snoc h2 (by simpa [show n + 1 + l.length = n + (l.length + 1) by omega] using h)⟩
theorem scanP_forms (t : Nat) (rest : List Int) : ∀ (l : List (List Int)) (n fuel : Nat), FitP t n l → (formsP t n l ++ rest).length < fuel → (∀ r, readP rest = some r → ¬ (r.t = t ∧ r.n = n + l.length)) →
    scanP t fuel (formsP t n l ++ rest) n = (l, sizeP t n l)
  | [], n, 0, _, h, _ => by simp at h
  | [], n, fuel + 1, _, _, hr => by
    simp only [formsP, List.nil_append, scanP, sizeP]
    cases e : readP rest with
    | none => rfl
    | some r => simp only; rw [if_neg (by simpa using hr r e)]
  | b :: l, n, 0, _, h, _ => by simp at h
  | b :: l, n, fuel + 1, ⟨h1, h2⟩, hl, hr => by
    obtain ⟨ht, hn, hs⟩ := formE_zero h1
    have e := readP_form (rest := formsP t (n + 1) l ++ rest) ht hn hs
    have ed : (formsP t n (b :: l) ++ rest).drop (64 * recS t n b) = formsP t (n + 1) l ++ rest := by
      simp only [formsP, List.append_assoc]
      have : (formP t n b).length = 64 * recS t n b := by rw [formP_len]; unfold recS; omega
      rw [← this]
      simp
    have ih := scanP_forms t rest l (n + 1) fuel h2 (by
      have := formP_len t n b
      simp only [formsP, List.length_append] at hl ⊢
      unfold secP at this
      omega) (fun r hr' => by
      have := hr r hr'
      simp only [List.length_cons] at this
      rw [show n + 1 + l.length = n + (l.length + 1) by omega]
      exact this)
    simp only [scanP]
    rw [show formsP t n (b :: l) ++ rest = formP t n b ++ (formsP t (n + 1) l ++ rest) by simp [formsP]] at ed ⊢
    rw [e]
    simp only [if_true, and_self]
    rw [show secP (12 + (fieldsP t n b).length) = recS t n b from rfl, ed, ih]
    simp [sizeP]
theorem scanAll_forms {t : Nat} {rest : List Int} {l : List (List Int)} (h : FitP t 0 l) (hr : ∀ r, readP rest = some r → ¬ (r.t = t ∧ r.n = l.length)) : scanAll t (formsP t 0 l ++ rest) = (l, sizeP t 0 l) :=
  scanP_forms t rest l 0 _ h (by omega) (by simpa using hr)


/-! ### Wiping -/
theorem applyAll_now {S : DS} {j : Nat} (hj : j < S.sure.length) : DS.now { S with sure := applyAll S.sure S.waits, waits := [] } j = S.now j := now_sync S hj
theorem zeros_eq {l : List Int} (hl : l.length = 64) (h : l.any (· != 0) = false) : l = Z64 := by
  rw [Z64_eq]
  refine List.ext_getElem (by simp [hl]) (fun i h1 h2 => ?_)
  rw [List.getElem_replicate]
  have := List.any_eq_false.1 h _ (List.getElem_mem h1)
  simpa using this
theorem wipeGo_good (S : DS) (f : Nat) (hS : ∀ j, j < S.sure.length → (S.now j).length = 64) : ∀ (k i : Nat) (T : DS) (any : Bool), T.Good → f + i + k ≤ S.sure.length → T.sure.length = S.sure.length → (∀ j, f + i ≤ j → j < f + i + k → T.now j = S.now j) →
    (wipeGo S f k i T any).1 = 0 ∧ (wipeGo S f k i T any).2.Good ∧ (wipeGo S f k i T any).2.sure.length = S.sure.length ∧ (wipeGo S f k i T any).2.waits.length ≤ T.waits.length + k ∧
      ∀ j, j < S.sure.length → (wipeGo S f k i T any).2.now j = if f + i ≤ j ∧ j < f + i + k then Z64 else T.now j
  | 0, i, T, any, hg, _, hl, _ => by
    rw [wipeGo_zero]
    cases any with
    | false =>
      rw [if_neg (by simp)]
      refine ⟨rfl, hg, hl, by simp, fun j hj => ?_⟩
      rw [if_neg (by omega)]
    | true =>
      rw [if_pos rfl, T.sync_good hg]
      refine ⟨rfl, ⟨hg.1, hg.2⟩, by simp only; rw [applyAll_len, hl], by simp, fun j hj => ?_⟩
      rw [if_neg (by omega), now_sync T (by omega)]
  | k + 1, i, T, any, hg, ha, hl, hn => by
    rw [wipeGo_succ]
    by_cases hz : (S.now (f + i)).any (· != 0) = true
    · have hw := T.write_good hg (a := f + i) (by omega) Z64_len
      rw [if_pos hz, hw]
      simp only [if_true]
      obtain ⟨e1, e2, e3, e4, e5⟩ := wipeGo_good S f hS k (i + 1) { T with waits := T.waits ++ [(f + i, Z64)] } true ⟨hg.1, hg.2⟩ (by omega) hl (fun j h1 h2 => by rw [now_snoc, if_neg (by omega)]; exact hn j (by omega) (by omega))
      refine ⟨e1, e2, e3, by simp only [List.length_append, List.length_singleton] at e4; omega, fun j hj => ?_⟩
      rw [e5 j hj, now_snoc]
      by_cases h1 : f + i = j
      · rw [if_neg (by omega), if_pos h1, if_pos (by omega)]
      · by_cases h2 : f + (i + 1) ≤ j ∧ j < f + (i + 1) + k
        · rw [if_pos h2, if_pos (by omega)]
        · rw [if_neg h2, if_neg h1, if_neg (by omega)]
    · rw [if_neg hz]
      obtain ⟨e1, e2, e3, e4, e5⟩ := wipeGo_good S f hS k (i + 1) T any hg (by omega) hl (fun j h1 h2 => hn j (by omega) (by omega))
      refine ⟨e1, e2, e3, by omega, fun j hj => ?_⟩
      rw [e5 j hj]
      by_cases h1 : f + i = j
      · subst h1
        rw [if_neg (by omega), if_pos (by omega), hn _ (by omega) (by omega)]
        exact zeros_eq (hS _ hj) (by simpa using hz)
      · by_cases h2 : f + (i + 1) ≤ j ∧ j < f + (i + 1) + k
        · rw [if_pos h2, if_pos (by omega)]
        · rw [if_neg h2, if_neg (by omega)]
theorem wipeR_good {S : DS} (h : S.Ok) (hg : S.Good) {f m : Nat} (hf : f + m ≤ S.sure.length) :
    (wipeR S f m).1 = 0 ∧ (wipeR S f m).2.Good ∧ (wipeR S f m).2.sure.length = S.sure.length ∧ (wipeR S f m).2.waits.length ≤ S.waits.length + m ∧
      ∀ j, j < S.sure.length → (wipeR S f m).2.now j = if f ≤ j ∧ j < f + m then Z64 else S.now j := by
  unfold wipeR
  rw [if_neg (by rw [hg.1]; simp)]
  have := wipeGo_good S f (fun j hj => (DS.now_sec h hj).1) m 0 S false hg (by omega) rfl (fun _ _ _ => rfl)
  simpa using this
theorem stP_zero {S : DS} {f m : Nat} (h : ∀ j, f ≤ j → j < f + m → S.now j = Z64) : ∀ x ∈ stP S f m, x = 0 := by
  intro x hx
  simp only [stP, List.mem_flatten, List.mem_map, List.mem_range] at hx
  obtain ⟨l, ⟨i, hi, rfl⟩, hx⟩ := hx
  rw [h (f + i) (by omega) (by omega), Z64_eq] at hx
  exact List.eq_of_mem_replicate hx
theorem DS.new_now {n j : Nat} (hj : j < n) : (DS.new n).now j = Z64 := by
  rw [Z64_eq]
  simp [DS.now, DS.new, lastAt, List.getD, hj]
theorem DS.new_good (n : Nat) : (DS.new n).Good := ⟨rfl, rfl⟩

/-! ### A scroll that has its records, and zeros behind -/
/-- The scroll s on the drum S has the records l. -/
structure Has (S : DS) (s : SS) (l : List (List Int)) : Prop where
  good : S.Good
  gone : s.gone = false
  room : s.f + s.m ≤ S.sure.length
  t : s.t ≤ mostP
  n : s.n = l.length
  u : s.u = sizeP s.t 0 l
  um : s.u ≤ s.m
  fit : FitP s.t 0 l
  bytes : stP S s.f s.m = formsP s.t 0 l ++ stP S (s.f + s.u) (s.m - s.u)
  zero : ∀ j, s.f + s.u ≤ j → j < s.f + s.m → S.now j = Z64
theorem Has.scan {S : DS} {s : SS} {l : List (List Int)} (h : Has S s l) : scanAll s.t (stP S s.f s.m) = (l, s.u) := by
  rw [h.bytes, h.u]
  exact scanAll_forms h.fit (fun r hr => by
    rw [← h.u, readP_zeros (stP_zero (fun j h1 h2 => h.zero j h1 (by have := h.um; omega)))] at hr
    cases hr)
/-- A blank scroll. -/
theorem Has.blank {S : DS} (hS : S.Ok) (hg : S.Good) {f m t : Nat} (hf : f + m ≤ S.sure.length) (ht : t ≤ mostP) : Has (wipeR S f m).2 ⟨f, m, t, 0, 0, false⟩ [] := by
  obtain ⟨_, e2, e3, _, e5⟩ := wipeR_good hS hg hf
  exact ⟨e2, rfl, by simp only; omega, ht, rfl, rfl, Nat.zero_le _, trivial, rfl, fun j h1 h2 => by
    simp only at h1 h2
    rw [e5 j (by omega), if_pos (by omega)]⟩
/-- One record more. -/
theorem Has.put {S : DS} {s : SS} {l : List (List Int)} (h : Has S s l) {b : List Int} (he : formE s.t s.n b = 0) (hr : s.u + recS s.t s.n b ≤ s.m) :
    (putR s S b).1 = 0 ∧ (putR s S b).2.1 = { s with u := s.u + recS s.t s.n b, n := s.n + 1 } ∧ Has (putR s S b).2.2 { s with u := s.u + recS s.t s.n b, n := s.n + 1 } (l ++ [b]) ∧
      (putR s S b).2.2.sure = S.sure ∧ (putR s S b).2.2.waits.length = S.waits.length + recS s.t s.n b ∧ (∀ j, j < s.f ∨ s.f + s.m ≤ j → (putR s S b).2.2.now j = S.now j) := by
  obtain ⟨ht, hn, hs⟩ := formE_zero he
  have hroom := h.room
  have hum := h.um
  have hF : (formP s.t s.n b).length = 64 * recS s.t s.n b := by rw [formP_len]; unfold recS; omega
  obtain ⟨e1, e2, e3, e4, e5⟩ := putGo_good (formP s.t s.n b) (s.f + s.u) (recS s.t s.n b) 0 S h.good (by omega) (by rw [hF]; omega)
  have hp : putR s S b = (0, { s with u := s.u + recS s.t s.n b, n := s.n + 1 }, (putGo (formP s.t s.n b) (s.f + s.u) (recS s.t s.n b) 0 S).2) := by
    unfold putR
    rw [if_neg (by rw [h.gone]; simp), if_neg (by rw [he]; simp), if_neg (by omega), if_pos e1]
  rw [hp]
  simp only
  have hst := stP_put (S := S) (T := (putGo (formP s.t s.n b) (s.f + s.u) (recS s.t s.n b) 0 S).2) (f := s.f) (m := s.m) (u := s.u) (k := recS s.t s.n b) hF hr e5
  refine ⟨trivial, trivial, ⟨e2, h.gone, by simp only; rw [e3]; exact hroom, h.t, by simp [h.n], by simp only; rw [sizeP_snoc, Nat.zero_add, ← h.n, ← h.u], hr, FitP_snoc h.fit (by rw [Nat.zero_add, ← h.n]; exact he), ?_, fun j h1 h2 => ?_⟩, e3, e4, fun j hj => ?_⟩
  · simp only
    have hsu : stP S s.f s.u = formsP s.t 0 l := by
      have h1 := h.bytes
      have h2 := stP_add S s.f (s.m - s.u) s.u
      rw [show s.u + (s.m - s.u) = s.m by omega, h1] at h2
      exact (List.append_cancel_right h2).symm
    rw [hst, hsu, formsP_snoc, Nat.zero_add, ← h.n]
    congr 1
    rw [← Nat.add_assoc, show s.m - (s.u + recS s.t s.n b) = s.m - s.u - recS s.t s.n b by omega]
    exact stP_congr (fun j h1 h2 => by rw [e5 j, if_neg (by omega)])
  · simp only at h1 h2
    rw [e5 j, if_neg (by omega)]
    exact h.zero j (by omega) h2
  · rw [e5 j, if_neg (by omega)]

end Go.Proofs.YtohadeijmmmcdaaDoor
