/-
  What a scroll's records are, plainly: what is put is scanned; what is wiped has none.
  A scroll's functions, where all goes well, on a drum of one's own.
  A drum of one's own: a fuse, a failure, a start.
  The document's example of a scroll: it is so.
-/
import Derived.Test.YtohadeijmmmcdaaDoorScrollB

section
namespace Go.Proofs.YtohadeijmmmcdaaDoor

/-- The power is on, and no fuse is set. -/
def DS.Good (S : DS) : Prop := S.off = false ∧ S.fuse = 0

theorem DS.write_good {S : DS} (hg : S.Good) {a : Nat} (ha : a < S.sure.length) {b : List Int} (hb : b.length = 64) : S.write (a : Int) b = (0, { S with waits := S.waits ++ [(a, b)] }) := by
  obtain ⟨h1, h2⟩ := hg
  unfold DS.write
  rw [if_neg (by simp [h1]), if_neg (by omega), if_neg (by omega), if_neg (by omega)]
  simp [h2, dec]
theorem DS.sync_good {S : DS} (hg : S.Good) : S.sync = (0, { S with sure := applyAll S.sure S.waits, waits := [] }) := by
  obtain ⟨h1, h2⟩ := hg
  unfold DS.sync
  rw [if_neg (by simp [h1]), if_neg (by omega)]
  simp [h2, dec]
theorem now_snoc (S : DS) (a : Nat) (b : List Int) (j : Nat) : DS.now { S with waits := S.waits ++ [(a, b)] } j = if a = j then b else S.now j := by
  unfold DS.now
  rw [lastAt_snoc]
theorem now_sync (S : DS) {j : Nat} (hj : j < S.sure.length) : DS.now { S with sure := applyAll S.sure S.waits, waits := [] } j = S.now j := by
  unfold DS.now
  show lastAt j ((applyAll S.sure S.waits).getD j []) [] = _
  rw [applyAll_get j _ _ hj]
  rfl

/-- What is put lies there. -/
theorem putGo_good (F : List Int) (a : Nat) : ∀ (k i : Nat) (T : DS), T.Good → a + i + k ≤ T.sure.length → 64 * (i + k) ≤ F.length →
    (putGo F a k i T).1 = 0 ∧ (putGo F a k i T).2.Good ∧ (putGo F a k i T).2.sure = T.sure ∧ (putGo F a k i T).2.waits.length = T.waits.length + k ∧
      ∀ j, (putGo F a k i T).2.now j = if a + i ≤ j ∧ j < a + i + k then (F.drop (64 * (j - a))).take 64 else T.now j
  | 0, i, T, hg, _, _ => by
    rw [putGo_zero]
    refine ⟨rfl, hg, rfl, rfl, fun j => ?_⟩
    rw [if_neg (by omega)]
  | k + 1, i, T, hg, ha, hF => by
    have hb : ((F.drop (64 * i)).take 64).length = 64 := by simp; omega
    have hw := T.write_good hg (a := a + i) (by omega) hb
    rw [putGo_succ, hw]
    simp only [if_true]
    obtain ⟨e1, e2, e3, e4, e5⟩ := putGo_good F a k (i + 1) { T with waits := T.waits ++ [(a + i, (F.drop (64 * i)).take 64)] } ⟨hg.1, hg.2⟩ (by simp only; omega) (by omega)
    refine ⟨e1, e2, e3, ?_, fun j => ?_⟩
    · rw [e4]; simp; omega
    · rw [e5 j, now_snoc]
      by_cases h1 : a + i = j
      · subst h1
        rw [if_neg (by omega), if_pos rfl, if_pos (by omega), show a + i - a = i by omega]
      · by_cases h2 : a + (i + 1) ≤ j ∧ j < a + (i + 1) + k
        · rw [if_pos h2, if_pos (by omega)]
        · rw [if_neg h2, if_neg h1, if_neg (by omega)]

/-! ### Stretches -/
theorem stP_congr {S T : DS} {f m : Nat} (h : ∀ j, f ≤ j → j < f + m → S.now j = T.now j) : stP S f m = stP T f m := by
  unfold stP
  congr 1
  apply List.map_congr_left
  intro i hi
  have := List.mem_range.1 hi
  exact h _ (by omega) (by omega)
theorem stP_add (S : DS) (f : Nat) : ∀ (n m : Nat), stP S f (m + n) = stP S f m ++ stP S (f + m) n
  | 0, m => by simp [stP]
  | n + 1, m => by
    rw [← Nat.add_assoc, stP_succ, stP_add S f n m, stP_succ, List.append_assoc, Nat.add_assoc]
theorem parts_flat (F : List Int) : ∀ (k i : Nat), F.length = 64 * (i + k) → ((List.range k).map fun j => (F.drop (64 * (i + j))).take 64).flatten = F.drop (64 * i)
  | 0, i, h => by simp; omega
  | k + 1, i, h => by
    rw [List.range_succ_eq_map, List.map_cons, List.flatten_cons, List.map_map]
    have e : ((fun j => (F.drop (64 * (i + j))).take 64) ∘ Nat.succ) = fun j => (F.drop (64 * ((i + 1) + j))).take 64 := by
      funext j
      simp only [Function.comp_apply]
      rw [show i + Nat.succ j = i + 1 + j by omega]
    rw [e, parts_flat F k (i + 1) (by omega), Nat.add_zero]
    have := List.take_append_drop 64 (F.drop (64 * i))
    rw [List.drop_drop, show 64 * i + 64 = 64 * (i + 1) by omega] at this
    exact this
/-- A stretch in which something was put. -/
theorem stP_put {S T : DS} {f m u k : Nat} {F : List Int} (hF : F.length = 64 * k) (hm : u + k ≤ m) (h : ∀ j, T.now j = if f + u + 0 ≤ j ∧ j < f + u + 0 + k then (F.drop (64 * (j - (f + u)))).take 64 else S.now j) :
    stP T f m = stP S f u ++ F ++ stP S (f + u + k) (m - u - k) := by
  rw [show m = u + (k + (m - u - k)) by omega, stP_add, stP_add, show u + (k + (m - u - k)) - u - k = m - u - k by omega]
  rw [List.append_assoc]
  congr 1
  · exact stP_congr (fun j h1 h2 => by rw [h j, if_neg (by omega)])
  · congr 1
    · unfold stP
      have e : (List.range k).map (fun i => T.now (f + u + i)) = (List.range k).map (fun j => (F.drop (64 * (0 + j))).take 64) := by
        apply List.map_congr_left
        intro i hi
        have := List.mem_range.1 hi
        rw [h _, if_pos (by omega), show f + u + i - (f + u) = 0 + i by omega]
      rw [e, parts_flat F k 0 (by rw [hF, Nat.zero_add])]
      simp
    · exact stP_congr (fun j h1 h2 => by rw [h j, if_neg (by omega)])

/-! ### Records behind each other -/
/-- Records from number n on. -/
def formsP (t : Nat) : Nat → List (List Int) → List Int
  | _, [] => []
  | n, b :: l => formP t n b ++ formsP t (n + 1) l
/-- How many sectors they have. -/
def sizeP (t : Nat) : Nat → List (List Int) → Nat
  | _, [] => 0
  | n, b :: l => recS t n b + sizeP t (n + 1) l
/-- Each of them has a form. -/
def FitP (t : Nat) : Nat → List (List Int) → Prop
  | _, [] => True
  | n, b :: l => formE t n b = 0 ∧ FitP t (n + 1) l
theorem formsP_len (t : Nat) : ∀ (l : List (List Int)) (n : Nat), (formsP t n l).length = 64 * sizeP t n l
  | [], _ => rfl
  | b :: l, n => by
    simp only [formsP, sizeP, List.length_append, formP_len, formsP_len t l]
    unfold recS
    omega
theorem formsP_snoc (t : Nat) (b : List Int) : ∀ (l : List (List Int)) (n : Nat), formsP t n (l ++ [b]) = formsP t n l ++ formP t (n + l.length) b
  | [], n => by simp [formsP]
  | c :: l, n => by
    simp only [List.cons_append, formsP, formsP_snoc t b l, List.length_cons, List.append_assoc]
    rw [show n + 1 + l.length = n + (l.length + 1) by omega]
theorem sizeP_snoc (t : Nat) (b : List Int) : ∀ (l : List (List Int)) (n : Nat), sizeP t n (l ++ [b]) = sizeP t n l + recS t (n + l.length) b
  | [], n => by simp [sizeP]
  | c :: l, n => by
    simp only [List.cons_append, sizeP, sizeP_snoc t b l, List.length_cons]
    rw [show n + 1 + l.length = n + (l.length + 1) by omega]
    omega
theorem FitP_snoc {t : Nat} {b : List Int} : ∀ {l : List (List Int)} {n : Nat}, FitP t n l → formE t (n + l.length : Nat) b = 0 → FitP t n (l ++ [b])
  | [], n, _, h => ⟨by simpa using h, trivial⟩
  | c :: l, n, ⟨h1, h2⟩, h => ⟨h1, FitP_snoc h2 (by simpa [show n + 1 + l.length = n + (l.length + 1) by omega] using h)⟩
theorem scanP_forms (t : Nat) (rest : List Int) : ∀ (l : List (List Int)) (n fuel : Nat), FitP t n l → (formsP t n l ++ rest).length < fuel → (∀ r, readP rest = some r → ¬ (r.t = t ∧ r.n = n + l.length)) →
    scanP t fuel (formsP t n l ++ rest) n = (l, sizeP t n l)
  | [], n, 0, _, h, _ => by simp at h
  | [], n, fuel + 1, _, _, hr => by
    simp only [formsP, List.nil_append, scanP, sizeP]
    cases e : readP rest with
    | none => rfl
    | some r => simp only; rw [if_neg (by simpa using hr r e)]
  | b :: l, n, 0, _, h, _ => by simp at h
  | b :: l, n, fuel + 1, ⟨h1, h2⟩, hl, hr => by
    obtain ⟨ht, hn, hs⟩ := formE_zero h1
    have e := readP_form (rest := formsP t (n + 1) l ++ rest) ht hn hs
    have ed : (formsP t n (b :: l) ++ rest).drop (64 * recS t n b) = formsP t (n + 1) l ++ rest := by
      simp only [formsP, List.append_assoc]
      have : (formP t n b).length = 64 * recS t n b := by rw [formP_len]; unfold recS; omega
      rw [← this]
      simp
    have ih := scanP_forms t rest l (n + 1) fuel h2 (by
      have := formP_len t n b
      simp only [formsP, List.length_append] at hl ⊢
      unfold secP at this
      omega) (fun r hr' => by
      have := hr r hr'
      simp only [List.length_cons] at this
      rw [show n + 1 + l.length = n + (l.length + 1) by omega]
      exact this)
    simp only [scanP]
    rw [show formsP t n (b :: l) ++ rest = formP t n b ++ (formsP t (n + 1) l ++ rest) by simp [formsP]] at ed ⊢
    rw [e]
    simp only [if_true, and_self]
    rw [show secP (12 + (fieldsP t n b).length) = recS t n b from rfl, ed, ih]
    simp [sizeP]
theorem scanAll_forms {t : Nat} {rest : List Int} {l : List (List Int)} (h : FitP t 0 l) (hr : ∀ r, readP rest = some r → ¬ (r.t = t ∧ r.n = l.length)) : scanAll t (formsP t 0 l ++ rest) = (l, sizeP t 0 l) :=
  scanP_forms t rest l 0 _ h (by omega) (by simpa using hr)


/-! ### Wiping -/
theorem applyAll_now {S : DS} {j : Nat} (hj : j < S.sure.length) : DS.now { S with sure := applyAll S.sure S.waits, waits := [] } j = S.now j := now_sync S hj
theorem zeros_eq {l : List Int} (hl : l.length = 64) (h : l.any (· != 0) = false) : l = Z64 := by
  rw [Z64_eq]
  refine List.ext_getElem (by simp [hl]) (fun i h1 h2 => ?_)
  rw [List.getElem_replicate]
  have := List.any_eq_false.1 h _ (List.getElem_mem h1)
  simpa using this
theorem wipeGo_good (S : DS) (f : Nat) (hS : ∀ j, j < S.sure.length → (S.now j).length = 64) : ∀ (k i : Nat) (T : DS) (any : Bool), T.Good → f + i + k ≤ S.sure.length → T.sure.length = S.sure.length → (∀ j, f + i ≤ j → j < f + i + k → T.now j = S.now j) →
    (wipeGo S f k i T any).1 = 0 ∧ (wipeGo S f k i T any).2.Good ∧ (wipeGo S f k i T any).2.sure.length = S.sure.length ∧ (wipeGo S f k i T any).2.waits.length ≤ T.waits.length + k ∧
      ∀ j, j < S.sure.length → (wipeGo S f k i T any).2.now j = if f + i ≤ j ∧ j < f + i + k then Z64 else T.now j
  | 0, i, T, any, hg, _, hl, _ => by
    rw [wipeGo_zero]
    cases any with
    | false =>
      rw [if_neg (by simp)]
      refine ⟨rfl, hg, hl, by simp, fun j hj => ?_⟩
      rw [if_neg (by omega)]
    | true =>
      rw [if_pos rfl, T.sync_good hg]
      refine ⟨rfl, ⟨hg.1, hg.2⟩, by simp only; rw [applyAll_len, hl], by simp, fun j hj => ?_⟩
      rw [if_neg (by omega), now_sync T (by omega)]
  | k + 1, i, T, any, hg, ha, hl, hn => by
    rw [wipeGo_succ]
    by_cases hz : (S.now (f + i)).any (· != 0) = true
    · have hw := T.write_good hg (a := f + i) (by omega) Z64_len
      rw [if_pos hz, hw]
      simp only [if_true]
      obtain ⟨e1, e2, e3, e4, e5⟩ := wipeGo_good S f hS k (i + 1) { T with waits := T.waits ++ [(f + i, Z64)] } true ⟨hg.1, hg.2⟩ (by omega) hl (fun j h1 h2 => by rw [now_snoc, if_neg (by omega)]; exact hn j (by omega) (by omega))
      refine ⟨e1, e2, e3, by simp only [List.length_append, List.length_singleton] at e4; omega, fun j hj => ?_⟩
      rw [e5 j hj, now_snoc]
      by_cases h1 : f + i = j
      · rw [if_neg (by omega), if_pos h1, if_pos (by omega)]
      · by_cases h2 : f + (i + 1) ≤ j ∧ j < f + (i + 1) + k
        · rw [if_pos h2, if_pos (by omega)]
        · rw [if_neg h2, if_neg h1, if_neg (by omega)]
    · rw [if_neg hz]
      obtain ⟨e1, e2, e3, e4, e5⟩ := wipeGo_good S f hS k (i + 1) T any hg (by omega) hl (fun j h1 h2 => hn j (by omega) (by omega))
      refine ⟨e1, e2, e3, by omega, fun j hj => ?_⟩
      rw [e5 j hj]
      by_cases h1 : f + i = j
      · subst h1
        rw [if_neg (by omega), if_pos (by omega), hn _ (by omega) (by omega)]
        exact zeros_eq (hS _ hj) (by simpa using hz)
      · by_cases h2 : f + (i + 1) ≤ j ∧ j < f + (i + 1) + k
        · rw [if_pos h2, if_pos (by omega)]
        · rw [if_neg h2, if_neg (by omega)]
theorem wipeR_good {S : DS} (h : S.Ok) (hg : S.Good) {f m : Nat} (hf : f + m ≤ S.sure.length) :
    (wipeR S f m).1 = 0 ∧ (wipeR S f m).2.Good ∧ (wipeR S f m).2.sure.length = S.sure.length ∧ (wipeR S f m).2.waits.length ≤ S.waits.length + m ∧
      ∀ j, j < S.sure.length → (wipeR S f m).2.now j = if f ≤ j ∧ j < f + m then Z64 else S.now j := by
  unfold wipeR
  rw [if_neg (by rw [hg.1]; simp)]
  have := wipeGo_good S f (fun j hj => (DS.now_sec h hj).1) m 0 S false hg (by omega) rfl (fun _ _ _ => rfl)
  simpa using this
theorem stP_zero {S : DS} {f m : Nat} (h : ∀ j, f ≤ j → j < f + m → S.now j = Z64) : ∀ x ∈ stP S f m, x = 0 := by
  intro x hx
  simp only [stP, List.mem_flatten, List.mem_map, List.mem_range] at hx
  obtain ⟨l, ⟨i, hi, rfl⟩, hx⟩ := hx
  rw [h (f + i) (by omega) (by omega), Z64_eq] at hx
  exact List.eq_of_mem_replicate hx
theorem DS.new_now {n j : Nat} (hj : j < n) : (DS.new n).now j = Z64 := by
  rw [Z64_eq]
  simp [DS.now, DS.new, lastAt, List.getD, hj]
theorem DS.new_good (n : Nat) : (DS.new n).Good := ⟨rfl, rfl⟩

/-! ### A scroll that has its records, and zeros behind -/
/-- The scroll s on the drum S has the records l. -/
structure Has (S : DS) (s : SS) (l : List (List Int)) : Prop where
  good : S.Good
  gone : s.gone = false
  room : s.f + s.m ≤ S.sure.length
  t : s.t ≤ mostP
  n : s.n = l.length
  u : s.u = sizeP s.t 0 l
  um : s.u ≤ s.m
  fit : FitP s.t 0 l
  bytes : stP S s.f s.m = formsP s.t 0 l ++ stP S (s.f + s.u) (s.m - s.u)
  zero : ∀ j, s.f + s.u ≤ j → j < s.f + s.m → S.now j = Z64
theorem Has.scan {S : DS} {s : SS} {l : List (List Int)} (h : Has S s l) : scanAll s.t (stP S s.f s.m) = (l, s.u) := by
  rw [h.bytes, h.u]
  exact scanAll_forms h.fit (fun r hr => by
    rw [← h.u, readP_zeros (stP_zero (fun j h1 h2 => h.zero j h1 (by have := h.um; omega)))] at hr
    cases hr)
/-- A blank scroll. -/
theorem Has.blank {S : DS} (hS : S.Ok) (hg : S.Good) {f m t : Nat} (hf : f + m ≤ S.sure.length) (ht : t ≤ mostP) : Has (wipeR S f m).2 ⟨f, m, t, 0, 0, false⟩ [] := by
  obtain ⟨_, e2, e3, _, e5⟩ := wipeR_good hS hg hf
  exact ⟨e2, rfl, by simp only; omega, ht, rfl, rfl, Nat.zero_le _, trivial, rfl, fun j h1 h2 => by
    simp only at h1 h2
    rw [e5 j (by omega), if_pos (by omega)]⟩
/-- One record more. -/
theorem Has.put {S : DS} {s : SS} {l : List (List Int)} (h : Has S s l) {b : List Int} (he : formE s.t s.n b = 0) (hr : s.u + recS s.t s.n b ≤ s.m) :
    (putR s S b).1 = 0 ∧ (putR s S b).2.1 = { s with u := s.u + recS s.t s.n b, n := s.n + 1 } ∧ Has (putR s S b).2.2 { s with u := s.u + recS s.t s.n b, n := s.n + 1 } (l ++ [b]) ∧
      (putR s S b).2.2.sure = S.sure ∧ (putR s S b).2.2.waits.length = S.waits.length + recS s.t s.n b ∧ (∀ j, j < s.f ∨ s.f + s.m ≤ j → (putR s S b).2.2.now j = S.now j) := by
  obtain ⟨ht, hn, hs⟩ := formE_zero he
  have hroom := h.room
  have hum := h.um
  have hF : (formP s.t s.n b).length = 64 * recS s.t s.n b := by rw [formP_len]; unfold recS; omega
  obtain ⟨e1, e2, e3, e4, e5⟩ := putGo_good (formP s.t s.n b) (s.f + s.u) (recS s.t s.n b) 0 S h.good (by omega) (by rw [hF]; omega)
  have hp : putR s S b = (0, { s with u := s.u + recS s.t s.n b, n := s.n + 1 }, (putGo (formP s.t s.n b) (s.f + s.u) (recS s.t s.n b) 0 S).2) := by
    unfold putR
    rw [if_neg (by rw [h.gone]; simp), if_neg (by rw [he]; simp), if_neg (by omega), if_pos e1]
  rw [hp]
  simp only
  have hst := stP_put (S := S) (T := (putGo (formP s.t s.n b) (s.f + s.u) (recS s.t s.n b) 0 S).2) (f := s.f) (m := s.m) (u := s.u) (k := recS s.t s.n b) hF hr e5
  refine ⟨trivial, trivial, ⟨e2, h.gone, by simp only; rw [e3]; exact hroom, h.t, by simp [h.n], by simp only; rw [sizeP_snoc, Nat.zero_add, ← h.n, ← h.u], hr, FitP_snoc h.fit (by rw [Nat.zero_add, ← h.n]; exact he), ?_, fun j h1 h2 => ?_⟩, e3, e4, fun j hj => ?_⟩
  · simp only
    have hsu : stP S s.f s.u = formsP s.t 0 l := by
      have h1 := h.bytes
      have h2 := stP_add S s.f (s.m - s.u) s.u
      rw [show s.u + (s.m - s.u) = s.m by omega, h1] at h2
      exact (List.append_cancel_right h2).symm
    rw [hst, hsu, formsP_snoc, Nat.zero_add, ← h.n]
    congr 1
    rw [← Nat.add_assoc, show s.m - (s.u + recS s.t s.n b) = s.m - s.u - recS s.t s.n b by omega]
    exact stP_congr (fun j h1 h2 => by rw [e5 j, if_neg (by omega)])
  · simp only at h1 h2
    rw [e5 j, if_neg (by omega)]
    exact h.zero j (by omega) h2
  · rw [e5 j, if_neg (by omega)]

end Go.Proofs.YtohadeijmmmcdaaDoor
end

section
namespace Go.Proofs.YtohadeijmmmcdaaDoor
open Go.RowKit
set_option maxRecDepth 100000

/-- What a walk with a drum of its own knows: the drum stands from base B on, all below is kept. -/
structure At (w : World) (B p gs : Nat) (S : DS) (W : World) : Prop where
  drum : ∃ wv, IsDrum B W p gs wv S
  below : Below w.heap.size w W
  base : w.heap.size ≤ B
  two : 2 ≤ w.heap.size
  glob : Glob W
section
variable {w W W' : World} {B p gs : Nat} {S S' : DS} {ts : List TypeId}
theorem At.ok (h : At w B p gs S W) : S.Ok := by obtain ⟨wv, hd⟩ := h.drum; exact hd.ok
theorem At.size (h : At w B p gs S W) : B ≤ W.heap.size := by obtain ⟨wv, hd⟩ := h.drum; have := hd.lt (.inl rfl); omega
theorem At.kept (h : At w B p gs S W) (hk : Kept B ts W W') (hd : ∃ wv, IsDrum B W' p gs wv S') : At w B p gs S' W' :=
  ⟨hd, h.below.trans (hk.below.mono h.base), h.base, h.two, h.glob.fr (Fr.of_below hk.below) (by have := h.base; have := h.two; omega) (by have := h.base; have := h.two; omega)⟩
theorem At.after (h : At w B p gs S W) (hb : Below W.heap.size W W') : At w B p gs S W' := by
  obtain ⟨wv, hd⟩ := h.drum
  exact h.kept (ts := []) (Kept.of_below hb h.size) ⟨wv, Kept.drum_below hb hd⟩
theorem At.new (hg : Glob w) (h2 : 2 ≤ w.heap.size) {w2 : World} (h1 : Below w.heap.size w w2) (n : Nat) (hd : IsDrum w2.heap.size W (w2.heap.size + 1) w2.heap.size (.slice none 0 0) (DS.new n)) (hb : Below w2.heap.size w2 W) : At w w2.heap.size (w2.heap.size + 1) w2.heap.size (DS.new n) W :=
  ⟨⟨_, hd⟩, h1.trans (hb.mono h1.size), h1.size, h2, (hg.below (h1.trans (hb.mono h1.size)))⟩
end

theorem blank_has {w W : World} {B p gs : Nat} {S : DS} (h : At w B p gs S W) (hg : S.Good) (f m t : Nat) (hf : f + m ≤ S.sure.length) (ht : t ≤ 1099511627776) (hlen : S.waits.length + m ≤ 1000000000) :
    Calls Tryd.prog 19 #[.pointer (some ⟨p, 0, none⟩), .int .i64 (f : Int), .int .i64 (m : Int), .int .i64 (t : Int)] W fun e W' =>
      ∃ q T, e = .returned (.tuple #[.pointer (some ⟨q, 0, none⟩), .int .i64 0]) ∧ IsScroll W' q p ⟨f, m, t, 0, 0, false⟩ ∧ W.heap.size ≤ q ∧ At w B p gs T W' ∧ Has T ⟨f, m, t, 0, 0, false⟩ [] ∧ T.waits.length ≤ S.waits.length + m ∧ T.sure.length = S.sure.length ∧
        (∀ j, j < S.sure.length → T.now j = if f ≤ j ∧ j < f + m then Z64 else S.now j) ∧ Kept B dts W W' := by
  obtain ⟨wv, hd⟩ := h.drum
  refine (blank_any B p gs wv S f m t W hd hf ht hlen h.glob).mono ?_
  rintro e W' ⟨hb, hd', hk⟩
  obtain ⟨h1, h2, h3, h4, h5⟩ := wipeR_good hd.ok hg hf
  rcases hb with ⟨_, q, rfl, hs, hq⟩ | ⟨hn, _⟩
  · exact ⟨q, _, rfl, hs, hq, h.kept hk hd', Has.blank hd.ok hg hf ht, h4, h3, h5, hk⟩
  · exact absurd h1 hn

theorem put_has {w W : World} {B q p gs : Nat} {S : DS} {s : SS} {l : List (List Int)} (h : At w B p gs S W) (hs : IsScroll W q p s) (hq : B ≤ q) (H : Has S s l) (A : Option Addr) (c : Nat) (b : List Int) (hb : Byt W A b) (hcA : A = none → c = 0) (hbl : b.length ≤ 100000000)
    (he : formE s.t s.n b = 0) (hr : s.u + recS s.t s.n b ≤ s.m) (hlen : S.waits.length + 1024 ≤ 1000000000) :
    Calls Tryd.prog 20 #[.pointer (some ⟨q, 0, none⟩), .slice A b.length c] W fun e W' =>
      e = .returned (.int .i64 0) ∧ ∃ T, IsScroll W' q p { s with u := s.u + recS s.t s.n b, n := s.n + 1 } ∧ At w B p gs T W' ∧ Has T { s with u := s.u + recS s.t s.n b, n := s.n + 1 } (l ++ [b]) ∧
        T.waits.length = S.waits.length + recS s.t s.n b ∧ T.sure = S.sure ∧ (∀ j, j < s.f ∨ s.f + s.m ≤ j → T.now j = S.now j) ∧ Kept B sts W W' := by
  obtain ⟨wv, hd⟩ := h.drum
  obtain ⟨p1, p2, p3, p4, p5, p6⟩ := H.put he hr
  obtain ⟨_, hn, _⟩ := formE_zero he
  refine (put_any B q p gs wv s S A c hcA b W hd hs hq H.um H.room hn hlen hb hbl h.glob).mono ?_
  rintro e W' ⟨rfl, hd', hs', hk⟩
  rw [p1]
  rw [p2] at hs'
  exact ⟨rfl, _, hs', h.kept hk hd', p3, p5, p4, p6, hk⟩

/-- A scan, whatever the turn. -/
theorem scan_gen {w W : World} {B p gs : Nat} {S : DS} (h : At w B p gs S W) (hg : S.Good) (f m t : Nat) (hf : f + m ≤ S.sure.length) (ht : t ≤ 1099511627776) (hlen : S.waits.length ≤ 1000000000) :
    Calls Tryd.prog 21 #[.pointer (some ⟨p, 0, none⟩), .int .i64 (f : Int), .int .i64 (m : Int), .int .i64 (t : Int)] W fun e W' =>
      ∃ v, e = .returned (.tuple #[v, .int .i64 ((scanAll t (stP S f m)).2 : Int), .int .i64 0]) ∧ OwnT W.heap.size W' v (scanAll t (stP S f m)).1 ∧ At w B p gs S W' ∧ Below W.heap.size W W' := by
  obtain ⟨wv, hd⟩ := h.drum
  have hn := hd.ok.n2
  refine (scan_any B p gs wv S (f : Int) (m : Int) (t : Int) (by omega) W hd hlen h.glob).mono ?_
  rintro e W' ⟨⟨v, rfl, ho⟩, hb⟩
  rw [scanR_ok hf ht, if_neg (by rw [hg.1]; simp)] at ho ⊢
  exact ⟨v, rfl, ho, h.after hb, hb⟩
theorem scan_has {w W : World} {B p gs : Nat} {S : DS} {s : SS} {l : List (List Int)} (h : At w B p gs S W) (H : Has S s l) (hlen : S.waits.length ≤ 1000000000) :
    Calls Tryd.prog 21 #[.pointer (some ⟨p, 0, none⟩), .int .i64 (s.f : Int), .int .i64 (s.m : Int), .int .i64 (s.t : Int)] W fun e W' =>
      ∃ v, e = .returned (.tuple #[v, .int .i64 (s.u : Int), .int .i64 0]) ∧ OwnT W.heap.size W' v l ∧ At w B p gs S W' ∧ Below W.heap.size W W' := by
  have := scan_gen h H.good s.f s.m s.t H.room H.t hlen
  rw [H.scan] at this
  exact this

end Go.Proofs.YtohadeijmmmcdaaDoor
end

section
namespace Go.Proofs.YtohadeijmmmcdaaDoor
open Go.RowKit
set_option maxRecDepth 100000

theorem fuse_at {w W : World} {B p gs : Nat} {S : DS} (h : At w B p gs S W) (n : Int) (hn : n ≤ 9223372036854775807) :
    Calls Tryd.prog 30 #[.pointer (some ⟨p, 0, none⟩), .int .i64 n] W fun e W' => e = .returned (.tuple #[]) ∧ At w B p gs { S with fuse := max n 0 } W' ∧ Kept B dts W W' := by
  obtain ⟨wv, hd⟩ := h.drum
  refine (fuse_any p _ wv S.fuse S.off n W hd.st).mono ?_
  rintro e W' ⟨rfl, hst, hf⟩
  have hk : Kept B dts W W' := Kept.of_fr hf h.size (fun k hk e => by have := hd.b1; omega) (fun k t cs e hb => by subst e; rw [(hb.inj hd.st).1]; simp [dts])
  exact ⟨rfl, h.kept hk ⟨wv, ⟨hd.ok.n1, hd.ok.n2, hd.ok.sure, hd.ok.waits, by simp only; omega, by simp only; omega⟩, hd.b1, hd.b2, hst, hd.sure.fr hf (fun e => hd.ne1 e.symm), own_fr hd.waits hf (fun k hk e => hd.ne2 (e ▸ hk))⟩, hk⟩

theorem fail_at {w W : World} {B p gs : Nat} {S : DS} (h : At w B p gs S W) :
    Calls Tryd.prog 27 #[.pointer (some ⟨p, 0, none⟩)] W fun e W' => e = .returned (.tuple #[]) ∧ At w B p gs { S with off := true } W' ∧ Kept B dts W W' := by
  obtain ⟨wv, hd⟩ := h.drum
  refine (fail_any p _ wv S.fuse S.off W hd.st).mono ?_
  rintro e W' ⟨rfl, hst, hf⟩
  have hk : Kept B dts W W' := Kept.of_fr hf h.size (fun k hk e => by have := hd.b1; omega) (fun k t cs e hb => by subst e; rw [(hb.inj hd.st).1]; simp [dts])
  exact ⟨rfl, h.kept hk ⟨wv, ⟨hd.ok.n1, hd.ok.n2, hd.ok.sure, hd.ok.waits, hd.ok.f0, hd.ok.f1⟩, hd.b1, hd.b2, hst, hd.sure.fr hf (fun e => hd.ne1 e.symm), own_fr hd.waits hf (fun k hk e => hd.ne2 (e ▸ hk))⟩, hk⟩

theorem start_at {w W : World} {B p gs : Nat} {S : DS} (h : At w B p gs S W) (A : Option Addr) (c : Nat) (M : List Int) (hM : Byt W A M) (hA : ∀ a, A = some a → 0 < M.length → a.block < B ∨ ∃ cs, Blk W a.block 5 cs) (hlen : S.waits.length ≤ 1000000000) (hml : M.length ≤ maxLen) :
    Calls Tryd.prog 31 #[.pointer (some ⟨p, 0, none⟩), .slice A M.length c] W fun e W' => e = .returned (.tuple #[]) ∧ At w B p gs (S.start M) W' ∧ Kept B dts W W' := by
  obtain ⟨wv, hd⟩ := h.drum
  refine (start_any B p gs wv S A c M W hd hM (fun a ha h0 hf => ?_) hlen hml).mono ?_
  · rcases hA a ha h0 with h1 | ⟨cs, hb⟩
    · have := (hd.lt hf).1; omega
    · rcases hf with e | e | e
      · rw [e] at hb; exact absurd (hb.inj hd.st).1 (by decide)
      · rw [e] at hb; exact absurd (hb.inj hd.sure).1 (by decide)
      · exact own_ne hd.waits hb (by decide) e
  · rintro e W' ⟨rfl, hd', hf⟩
    have hk := Kept.of_drum hd hf
    exact ⟨rfl, h.kept hk ⟨_, hd'⟩, hk⟩

theorem landW_none {a b : List Int} (ha : a.length = 64) : landW a b 0 = a := by
  unfold landW
  refine List.ext_getElem (by simp [ha]) (fun i h1 h2 => ?_)
  simp [List.getD, show i < a.length by omega]
theorem landAll_none (M : List Int) : ∀ (l : List (Nat × List Int)) (k : Nat) (L : List (List Int)), (∀ s ∈ L, s.length = 64) → (∀ x ∈ l, x.1 < L.length) → (∀ j, k ≤ j → j < k + l.length → maskAt M j = 0) → landAll M k L l = L
  | [], _, _, _, _, _ => rfl
  | x :: l, k, L, hL, hx, hm => by
    simp only [landAll]
    rw [hm k (Nat.le_refl _) (by simp)]
    have hxl := hx x (by simp)
    have e : L.set x.1 (landW (L.getD x.1 []) x.2 0) = L := by
      rw [landW_none (hL _ (getD_mem hxl))]
      refine List.ext_getElem (by simp) (fun i h1 h2 => ?_)
      rw [List.getElem_set]
      split
      · rename_i e
        subst e
        simp [List.getD, hxl]
      · rfl
    rw [e]
    exact landAll_none M l (k + 1) L hL (fun y hy => hx y (by simp [hy])) (fun j h1 h2 => hm j (by omega) (by simp only [List.length_cons]; omega))
/-- Where no word lands, a start leaves what is sure. -/
theorem start_none {S : DS} (h : S.Ok) {M : List Int} (hm : ∀ j, j < S.waits.length → maskAt M j = 0) : S.start M = { sure := S.sure, waits := [], fuse := 0, off := false } := by
  unfold DS.start
  rw [landAll_none M S.waits 0 S.sure (fun s hs => (h.sure s hs).1) (fun x hx => (h.waits x hx).1) (fun j _ hj => hm j (by omega))]

/-- What was synced stays. -/
theorem Has.sync {S : DS} {s : SS} {l : List (List Int)} (h : Has S s l) : syncR s S = (0, s, { S with sure := applyAll S.sure S.waits, waits := [] }) ∧ Has { S with sure := applyAll S.sure S.waits, waits := [] } s l := by
  have hl : (applyAll S.sure S.waits).length = S.sure.length := applyAll_len _ _
  have hr := h.room
  have hum := h.um
  constructor
  · unfold syncR
    rw [if_neg (by rw [h.gone]; simp), S.sync_good h.good]
    obtain ⟨f, m, t, u, n, g⟩ := s
    have := h.gone
    simp only at this
    subst this
    rfl
  · refine ⟨⟨h.good.1, h.good.2⟩, h.gone, by simp only; rw [hl]; exact hr, h.t, h.n, h.u, hum, h.fit, ?_, fun j h1 h2 => ?_⟩
    · rw [stP_congr (T := S) (fun j h1 h2 => now_sync S (by omega)), h.bytes, stP_congr (S := S) (T := { S with sure := applyAll S.sure S.waits, waits := [] }) (fun j h1 h2 => (now_sync S (by omega)).symm)]
    · rw [now_sync S (by omega)]
      exact h.zero j h1 h2

theorem ssync_has {w W : World} {B q p gs : Nat} {S : DS} {s : SS} {l : List (List Int)} (h : At w B p gs S W) (hs : IsScroll W q p s) (hq : B ≤ q) (H : Has S s l) (hlen : S.waits.length ≤ 1000000000) :
    Calls Tryd.prog 29 #[.pointer (some ⟨q, 0, none⟩)] W fun e W' => e = .returned (.int .i64 0) ∧ IsScroll W' q p s ∧ At w B p gs { S with sure := applyAll S.sure S.waits, waits := [] } W' ∧ Has { S with sure := applyAll S.sure S.waits, waits := [] } s l ∧ Kept B sts W W' := by
  obtain ⟨wv, hd⟩ := h.drum
  obtain ⟨h1, h2⟩ := H.sync
  refine (ssync_any B q p gs wv s S W hd hs hq hlen).mono ?_
  rintro e W' ⟨rfl, hd', hs', hk⟩
  rw [h1] at hs' hd' ⊢
  exact ⟨rfl, hs', h.kept hk hd', h2, hk⟩

/-- Put, whatever becomes of it. -/
theorem put_at {w W : World} {B q p gs : Nat} {S : DS} {s : SS} (h : At w B p gs S W) (hs : IsScroll W q p s) (hq : B ≤ q) (A : Option Addr) (c : Nat) (hcA : A = none → c = 0) (b : List Int) (hb : Byt W A b) (hum : s.u ≤ s.m) (hfm : s.f + s.m ≤ S.sure.length) (hn : s.n ≤ 1099511627776) (hlen : S.waits.length + 1024 ≤ 1000000000) (hbl : b.length ≤ 100000000) :
    Calls Tryd.prog 20 #[.pointer (some ⟨q, 0, none⟩), .slice A b.length c] W fun e W' => e = .returned (.int .i64 (putR s S b).1) ∧ IsScroll W' q p (putR s S b).2.1 ∧ At w B p gs (putR s S b).2.2 W' ∧ Kept B sts W W' := by
  obtain ⟨wv, hd⟩ := h.drum
  refine (put_any B q p gs wv s S A c hcA b W hd hs hq hum hfm hn hlen hb hbl h.glob).mono ?_
  rintro e W' ⟨rfl, hd', hs', hk⟩
  exact ⟨rfl, hs', h.kept hk hd', hk⟩
theorem ssync_at {w W : World} {B q p gs : Nat} {S : DS} {s : SS} (h : At w B p gs S W) (hs : IsScroll W q p s) (hq : B ≤ q) (hlen : S.waits.length ≤ 1000000000) :
    Calls Tryd.prog 29 #[.pointer (some ⟨q, 0, none⟩)] W fun e W' => e = .returned (.int .i64 (syncR s S).1) ∧ IsScroll W' q p (syncR s S).2.1 ∧ At w B p gs (syncR s S).2.2 W' ∧ Kept B sts W W' := by
  obtain ⟨wv, hd⟩ := h.drum
  refine (ssync_any B q p gs wv s S W hd hs hq hlen).mono ?_
  rintro e W' ⟨rfl, hd', hs', hk⟩
  exact ⟨rfl, hs', h.kept hk hd', hk⟩
theorem putR_gone {s : SS} (h : s.gone = true) (S : DS) (b : List Int) : putR s S b = (20, s, S) := by unfold putR; rw [if_pos h]
theorem syncR_gone {s : SS} (h : s.gone = true) (S : DS) : syncR s S = (20, s, S) := by unfold syncR; rw [if_pos h]

end Go.Proofs.YtohadeijmmmcdaaDoor
end

section
namespace Go.Proofs.YtohadeijmmmcdaaDoor
open Go.RowKit
set_option maxRecDepth 100000

theorem numP_len0 : (numP 0).length = 1 := by rw [numP_len, leP_zero]; rfl
theorem numP_len1 {n : Nat} (h0 : 0 < n) (h : n < 256) : (numP n).length = 2 := by
  rw [numP_len, leP_pos h0, show n / 256 = 0 by omega, leP_zero]; rfl
theorem numP_len9 {n : Nat} (h : n < 18446744073709551616) : (numP n).length ≤ 9 := by
  rw [numP_len]; have := leP_len8 h; omega
theorem fieldsP_len (t n : Nat) (b : List Int) : (fieldsP t n b).length = (numP t).length + (numP n).length + (numP b.length).length + b.length := by
  simp [fieldsP]; omega
theorem formE_small {t n : Nat} {b : List Int} (ht : t ≤ 1099511627776) (hn : n ≤ 1099511627776) (hb : b.length ≤ 65000) : formE (t : Int) (n : Int) b = 0 := by
  unfold formE
  rw [if_neg (by omega), if_neg]
  rw [Int.toNat_natCast, Int.toNat_natCast, fieldsP_len]
  have h1 := numP_len9 (n := t) (by omega)
  have h2 := numP_len9 (n := n) (by omega)
  have h3 := numP_len9 (n := b.length) (by omega)
  unfold secP
  omega
theorem Has.peek {S : DS} {s : SS} {b : List Int} {l : List (List Int)} (h : Has S s (b :: l)) : peekP S (s.f : Int) (s.m : Int) = some (s.t, b) := by
  unfold peekP
  have hr := h.room
  rw [if_pos (by simp [strP]; omega), if_neg (by rw [h.good.1]; simp), Int.toNat_natCast, Int.toNat_natCast, h.bytes]
  obtain ⟨h1, h2⟩ := h.fit
  obtain ⟨ht, hn, hs⟩ := formE_zero h1
  simp only [formsP, List.append_assoc]
  rw [readP_form ht hn hs]
  simp

theorem b60 : ∃ Z : List Int, Z.length = 60 ∧ (∀ x ∈ Z, 0 ≤ x ∧ x ≤ 255) ∧ ∀ W : World, (Instr.makeSlice 22 (.int .i64 60) (.int .i64 60)).run Tryd.prog W = .ok (.slice (some ⟨W.heap.size, 0, none⟩) 60 60) (W.alloc (.cells (bys Z).toArray 5)) :=
  ⟨List.replicate 60 0, by simp, fun x hx => by rw [List.eq_of_mem_replicate hx]; omega, fun W => make_bytes 60 (by omega) W⟩
theorem peq37 (q : Nat) (W : World) : (binOp .eql 37 (.pointer (some ⟨q, 0, none⟩)) (.pointer none)).run Tryd.prog W = .ok (.bool false) W := by rfl

set_option maxHeartbeats 4000000 in
theorem awake13 (w : World) (hg : Glob w) : Calls Tryd.prog 14 #[] w fun e w' => e = .returned (.bool true) ∧ Below w.heap.size w w' := by
  -- the first form
  have b1 : Below w.heap.size w (w.alloc (.cells #[.int .u8 1, .int .u8 2, .int .u8 3] 5)) := (Below.refl _ w).alloc (Nat.le_refl _) _
  have y1 : Byt (w.alloc (.cells #[.int .u8 1, .int .u8 2, .int .u8 3] 5)) (some ⟨w.heap.size, 0, none⟩) [1, 2, 3] := (Blk.new w 5 (bys [1, 2, 3]).toArray).byt (by intro x hx; simp at hx; omega)
  have f1 := form_any 0 0 (some ⟨w.heap.size, 0, none⟩) 3 (by simp) [1, 2, 3] _ y1 (by simp) (hg.below b1)
  have e1 : formE 0 0 [1, 2, 3] = 0 := formE_small (t := 0) (n := 0) (by omega) (by omega) (by simp)
  have l1 : (formV 0 0 [1, 2, 3]).length = 64 := by
    unfold formV
    rw [if_pos e1, formP_len, fieldsP_len]
    simp only [Int.toNat_zero, numP_len0, List.length_cons, List.length_nil]
    rw [show 0 + 1 + 1 + 1 = 3 from rfl, numP_len1 (by omega) (by omega)]
    rfl
  rw [e1] at f1
  obtain ⟨V1, hV1⟩ : ∃ V, formV 0 0 [1, 2, 3] = V := ⟨_, rfl⟩
  rw [hV1] at f1 l1
  rw [show ([1, 2, 3] : List Int).length = 3 from rfl] at f1
  obtain ⟨Z, hZl, hZb, hmk⟩ := b60
  have e2 : formE 0 0 Z = 0 := formE_small (t := 0) (n := 0) (by omega) (by omega) (by omega)
  have l2 : (formV 0 0 Z).length = 128 := by
    unfold formV
    rw [if_pos e2, formP_len, fieldsP_len, hZl]
    simp only [Int.toNat_zero, numP_len0]
    rw [numP_len1 (by omega) (by omega)]
    rfl
  obtain ⟨V2, hV2⟩ : ∃ V, formV 0 0 Z = V := ⟨_, rfl⟩
  rw [hV2] at l2
  have HG := Lib.hid hg
  have B1 := Lib.hid b1
  have HZ := Lib.hid hZb
  have HZl := Lib.hid hZl
  have HV2 := Lib.hid hV2
  have E2 := Lib.hid e2
  have L1 := Lib.hid l1
  have L2 := Lib.hid l2
  obtain ⟨ZA, hZA⟩ : ∃ ZA, (bys Z).toArray = ZA := ⟨_, rfl⟩
  rw [hZA] at hmk
  have HZA := Lib.hid hZA
  clear hg y1 b1 hV1 hV2 e1 e2 l1 l2 hZb hZl hZA
  go_enter Tryd.func14, Tryd.ntmps14
  go_wp2_with fail
  with_reducible refine f1.mono ?_
  rintro e w1 ⟨v1, rfl, o1, c1⟩
  have k1 : Below w.heap.size w w1 := B1.out.trans (c1.mono (by simp))
  obtain ⟨A1, d1, rfl⟩ := o1.form
  rw [L1.out]
  have b2 : Below w1.heap.size w1 (w1.alloc (.cells ZA 5)) := (Below.refl _ w1).alloc (Nat.le_refl _) _
  have y2 : Byt (w1.alloc (.cells ZA 5)) (some ⟨w1.heap.size, 0, none⟩) Z := by rw [← HZA.out]; exact (Blk.new w1 5 (bys Z).toArray).byt HZ.out
  have f2 := form_any 0 0 (some ⟨w1.heap.size, 0, none⟩) 60 (by simp) Z _ y2 (by rw [HZl.out]; omega) (HG.out.below (k1.trans (b2.mono k1.size)))
  rw [E2.out, HV2.out, HZl.out] at f2
  have K1 := Lib.hid k1
  have B2 := Lib.hid b2
  clear f1 o1 c1 k1 y2 b2
  go_wp2_with fail
  with_reducible refine f2.mono ?_
  rintro e w2 ⟨v2, rfl, o2, c2⟩
  have k2 : Below w.heap.size w w2 := K1.out.trans ((B2.out.mono K1.out.size).trans (c2.mono (by have := K1.out.size; simp; omega)))
  obtain ⟨A2, d2, rfl⟩ := o2.form
  rw [L2.out]
  have f3 := new_drum 4 w2 (by omega) (by omega)
  rw [show ((4 : Nat) : Int) = 4 from rfl] at f3
  obtain ⟨S0, hS0⟩ : ∃ S, DS.new 4 = S := ⟨_, rfl⟩
  have g0 : S0.Good := by rw [← hS0]; exact DS.new_good 4
  have n0 : S0.sure.length = 4 := by rw [← hS0]; simp [DS.new]
  have m0 : S0.waits.length = 0 := by rw [← hS0]; rfl
  rw [hS0] at f3
  have K2 := Lib.hid k2
  clear f2 o2 c2 k2 hS0
  go_wp2_with fail
  with_reducible refine f3.mono ?_
  rintro e w3 ⟨rfl, d3, c3⟩
  have k3 : Below w.heap.size w w3 := K2.out.trans (c3.mono K2.out.size)
  have f4 := blank_any w2.heap.size (w2.heap.size + 1) w2.heap.size (.slice none 0 0) S0 1 3 7 w3 d3 (by omega) (by omega) (by omega) (HG.out.below k3)
  rw [show ((1 : Nat) : Int) = 1 from rfl, show ((3 : Nat) : Int) = 3 from rfl, show ((7 : Nat) : Int) = 7 from rfl] at f4
  obtain ⟨h1, _, _, h4, _⟩ := wipeR_good d3.ok g0 (f := 1) (m := 3) (by omega)
  have hb := Has.blank d3.ok g0 (f := 1) (m := 3) (t := 7) (by omega) (by unfold mostP; omega)
  obtain ⟨⟨er, S1⟩, hW⟩ : ∃ P, wipeR S0 1 3 = P := ⟨_, rfl⟩
  rw [hW] at f4 h1 h4 hb
  simp only at f4 h1 h4 hb
  subst h1
  have hs3 : w2.heap.size ≤ w3.heap.size := c3.size
  have K3 := Lib.hid k3
  have HB := Lib.hid hb
  clear f3 d3 c3 k3 hW hb g0 n0
  go_wp2_with fail
  with_reducible refine f4.mono ?_
  rintro e w4 ⟨hbp, ⟨wv4, d4⟩, c4⟩
  rcases hbp with ⟨_, q, rfl, s4, hq⟩ | ⟨h, _⟩
  rotate_left
  · exact absurd rfl h
  have pq := peq37 q
  have b5 : Below w4.heap.size w4 (w4.alloc (.cells #[.int .u8 9] 5)) := (Below.refl _ w4).alloc (Nat.le_refl _) _
  have y5 : Byt (w4.alloc (.cells #[.int .u8 9] 5)) (some ⟨w4.heap.size, 0, none⟩) [9] := (Blk.new w4 5 (bys [9]).toArray).byt (by intro x hx; simp at hx; omega)
  have kb5 : Kept w2.heap.size dts w4 (w4.alloc (.cells #[.int .u8 9] 5)) := Kept.of_below b5 (by have := d4.lt (.inl rfl); omega)
  have hr5 : recS 7 0 [9] = 1 := by
    unfold recS
    rw [fieldsP_len, numP_len0, numP_len1 (by omega) (by omega)]
    simp only [List.length_cons, List.length_nil]
    rw [numP_len1 (by omega) (by omega)]
    rfl
  have he5 : formE ((7 : Nat) : Int) ((0 : Nat) : Int) [9] = 0 := formE_small (by omega) (by omega) (by simp)
  obtain ⟨p1, p2, p3, p4, p5, _⟩ := HB.out.put (b := [9]) he5 (by simp only; rw [hr5]; omega)
  have f5 := put_any w2.heap.size q (w2.heap.size + 1) w2.heap.size wv4 ⟨1, 3, 7, 0, 0, false⟩ S1 (some ⟨w4.heap.size, 0, none⟩) 1 (by simp) [9] _ (Kept.drum_below b5 d4) (s4.kept kb5 (by decide)) (by omega) (by simp) (by have := HB.out.room; simp only at this ⊢; omega) (by simp) (by omega) y5 (by simp) (HG.out.below ((K3.out.trans (c4.below.mono (by have := K2.out.size; omega))).trans (b5.mono (by have := c4.size; have := K3.out.size; omega))))
  rw [show ([9] : List Int).length = 1 from rfl] at f5
  obtain ⟨⟨pe, ps, S2⟩, hP⟩ : ∃ P, putR ⟨1, 3, 7, 0, 0, false⟩ S1 [9] = P := ⟨_, rfl⟩
  rw [hP] at f5 p1 p2 p3 p4 p5
  simp only at f5 p1 p2 p3 p4 p5
  subst p1
  subst p2
  rw [hr5] at p3 p5
  simp only [hr5] at f5
  have HP3 := Lib.hid p3
  have C4 := Lib.hid c4
  have KB5 := Lib.hid kb5
  have hpq : w2.heap.size ≤ q := by omega
  have hs4 : w2.heap.size ≤ w4.heap.size := Nat.le_trans hs3 c4.size
  clear f4 d4 c4 s4 y5 kb5 he5 hr5 hP p3 p4
  go_wp2_with fail
  with_reducible refine f5.mono ?_
  rintro e w5 ⟨rfl, ⟨wv5, d5⟩, s5, c5⟩
  have hlf := left_any q (w2.heap.size + 1) _ (by simp only; omega) (by simp only; omega) w5 s5
  simp only at hlf
  have D5 := Lib.hid d5
  have C5 := Lib.hid c5
  clear f5 d5 s5 c5
  go_wp2_with fail
  with_reducible refine hlf.mono ?_
  rintro e w6 ⟨rfl, k6, hw6⟩
  have d6 : IsDrum w2.heap.size w6 (w2.heap.size + 1) w2.heap.size wv5 S2 := by rw [hw6]; exact D5.out.fr (F := fun _ => False) ((Fr.refl _ _).drewN _) (fun _ _ h => h)
  have k6 : Below w.heap.size w w6 := by
    rw [hw6]
    refine below_drewN ?_ _
    have hK2 := K2.out.size
    exact K3.out.trans ((C4.out.below.mono hK2).trans ((KB5.out.below.mono hK2).trans (C5.out.below.mono hK2)))
  have f7 := peek_any w2.heap.size (w2.heap.size + 1) w2.heap.size wv5 S2 1 3 (by omega) w6 d6 (by omega) (HG.out.below k6)
  have e7 := HP3.out.peek
  simp only at e7
  rw [show ((1 : Nat) : Int) = 1 from rfl, show ((3 : Nat) : Int) = 3 from rfl] at e7
  rw [e7] at f7
  have K6 := Lib.hid k6
  clear hlf d6 k6 hw6 e7
  go_wp2_with fail
  with_reducible refine f7.mono ?_
  rintro e w7 ⟨⟨v7, rfl, o7⟩, c7⟩
  obtain ⟨A7, d7, rfl⟩ := o7.form
  have k7 : w7.cell? ⟨0, 0, none⟩ = w7.cell? ⟨0, 0, none⟩ := rfl
  obtain ⟨g, oo, e9, hg9, hc9⟩ : ∃ g o, A7 = some ⟨g, o, none⟩ ∧ g < w7.heap.size ∧ w7.cell? ⟨g, o, none⟩ = some (.int .u8 9) := by
    obtain ⟨A', c', e1, hy, _, _⟩ := o7.byt (by intro x hx; simp at hx; omega)
    cases e1
    obtain ⟨g, o, e2, hg, hc⟩ := hy.cell (by simp)
    exact ⟨g, o, e2, hg, by simpa using hc 0 9 (by simp)⟩
  subst e9
  rw [show ([9] : List Int).length = 1 from rfl]
  have C7 := Lib.hid c7
  clear f7 o7 c7 k7 hg9
  go_wp2_with fail
  go_ret
  exact ⟨rfl, K6.out.trans (C7.out.mono K6.out.size)⟩

end Go.Proofs.YtohadeijmmmcdaaDoor
end
