/-
  ChestKeeps, plainly: a chest while its drum may fail, and what is found when the power is on again.
  ChestKeeps, plainly: whatever a chest does while the power may fail.
  ChestKeeps, plainly: the law's invariant.
  ChestKeeps, plainly: turning, the fuse, and the power on again.
-/
import Derived.Test.YtohadeijmmmcdaaDoorChM
import Derived.Test.YtohadeijmmmcdaaDoorCGoneL

section
namespace Go.Proofs.YtohadeijmmmcdaaDoor
open Go Go.RowKit Machine

/-! ### The word in which a head's turn stands -/
def HdW (sd mx : Nat) (b : List Int) : Prop := b.getD 12 0 = 0 ∨ (b.getD 12 0 = 1 ∧ ∃ t : Nat, b.getD 13 0 = (t : Int) ∧ 1 ≤ t ∧ t ≤ mx ∧ t % 2 = (sd + 1) % 2)
theorem HdW.mono {sd mx mx' : Nat} {b : List Int} (h : HdW sd mx b) (hm : mx ≤ mx') : HdW sd mx' b := by
  rcases h with h | ⟨h, t, h1, h2, h3, h4⟩
  · exact .inl h
  · exact .inr ⟨h, t, h1, h2, by omega, h4⟩
theorem HdW.zero (sd mx : Nat) : HdW sd mx Z64 := .inl (by rw [Z64_eq]; rfl)
theorem landW_getD (a b : List Int) (m : Nat) {j : Nat} (hj : j < 64) : (landW a b m).getD j 0 = if m / 2 ^ (j / 8) % 2 = 1 then b.getD j 0 else a.getD j 0 := by
  unfold landW
  rw [List.getD_eq_getElem?_getD, List.getElem?_map, List.getElem?_range hj]
  rfl
theorem HdW.land {sd mx : Nat} {a b : List Int} (ha : HdW sd mx a) (hb : HdW sd mx b) (m : Nat) : HdW sd mx (landW a b m) := by
  unfold HdW
  rw [landW_getD a b m (j := 12) (by omega), landW_getD a b m (j := 13) (by omega)]
  rw [show (12 / 8 : Nat) = 1 from rfl]
  split
  · exact hb
  · exact ha
theorem HdW.pre {sd mx : Nat} {a b : List Int} (h : HdW sd mx a) (hl : 14 ≤ a.length) : HdW sd mx (a ++ b) := by
  unfold HdW at h ⊢
  rw [List.getD_eq_getElem?_getD, List.getD_eq_getElem?_getD, List.getElem?_append_left (by omega), List.getElem?_append_left (by omega), ← List.getD_eq_getElem?_getD, ← List.getD_eq_getElem?_getD]
  exact h

theorem readP_turn {b : List Int} {r : RecP} (h : readP b = some r) {sd mx : Nat} (hh : HdW sd mx b) : r.t = 0 ∨ (1 ≤ r.t ∧ r.t ≤ mx ∧ r.t % 2 = (sd + 1) % 2) := by
  unfold readP at h
  split at h
  · cases h
  split at h
  · cases h
  split at h
  · cases h
  split at h
  · cases h
  rename_i t n x he
  simp only [Option.some.injEq] at h
  subst h
  simp only
  obtain ⟨L, hL⟩ : ∃ L, word4P b = L := ⟨_, rfl⟩
  rw [hL] at he
  unfold eyeP at he
  obtain ⟨f, hf⟩ : ∃ f, (b.drop 12).take L = f := ⟨_, rfl⟩
  rw [hf] at he
  cases h1 : takeNumP mostP f with
  | none => rw [h1] at he; cases he
  | some vr =>
    obtain ⟨v, rest⟩ := vr
    rw [h1] at he
    simp only at he
    have hvt : v = t := by
      split at he
      · cases he
      · split at he
        · cases he
        · split at he
          · simp only [Option.some.injEq, Prod.mk.injEq] at he
            exact he.1
          · cases he
    subst hvt
    have g0 : ∀ j, j < f.length → f.getD j 0 = b.getD (12 + j) 0 := fun j hj => by
      have hj2 : j < L := by rw [← hf, List.length_take] at hj; omega
      rw [← hf, List.getD_eq_getElem?_getD, List.getElem?_take_of_lt hj2, List.getElem?_drop, ← List.getD_eq_getElem?_getD]
    cases f with
    | nil => simp [takeNumP] at h1
    | cons k tl =>
      have k0 : k = b.getD 12 0 := by have := g0 0 (by simp); simpa using this
      simp only [takeNumP] at h1
      split at h1
      · cases h1
      · rename_i hc
        simp only [Option.some.injEq, Prod.mk.injEq] at h1
        obtain ⟨hv, _⟩ := h1
        rcases hh with h2 | ⟨h2, t', h3, h4, h5, h6⟩
        · rw [k0, h2] at hv
          left
          rw [← hv]
          rfl
        · right
          rw [h2] at k0
          subst k0
          simp only [not_or, Nat.not_lt] at hc
          have htl : 1 ≤ tl.length := by have := hc.2.1; simpa using this
          have g1 := g0 1 (by simp; omega)
          rw [show 12 + 1 = 13 from rfl, h3] at g1
          cases tl with
          | nil => simp at htl
          | cons y q =>
            simp only [List.getD_cons_succ, List.getD_cons_zero] at g1
            rw [← hv, g1]
            have : valP ((((t' : Nat) : Int) :: q).take (1 : Int).toNat) = t' := by simp [valP]
            rw [this]
            exact ⟨h4, h5, h6⟩

theorem peek_turn {S : DS} (hok : S.Ok) (ho : S.off = false) {f m sd mx : Nat} (hf : f + m ≤ S.sure.length) (hm : 1 ≤ m) (hh : HdW sd mx (S.now f)) :
    peekT S f m = 0 ∨ (1 ≤ peekT S f m ∧ peekT S f m ≤ mx ∧ peekT S f m % 2 = (sd + 1) % 2) := by
  rw [peekT_eq ho hf]
  have e : stP S f m = S.now f ++ stP S (f + 1) (m - 1) := by
    have := stP_add S f (m - 1) 1
    rw [show 1 + (m - 1) = m by omega] at this
    rw [this]
    congr 1
    simp [stP]
  have hl := (DS.now_sec hok (k := f) (by omega)).1
  have h2 : HdW sd mx (stP S f m) := by rw [e]; exact hh.pre (by omega)
  cases hr : readP (stP S f m) with
  | none => exact .inl rfl
  | some r =>
    simp only
    split
    · exact readP_turn hr h2
    · exact .inl rfl

/-- A head's form: its turn's word. -/
theorem leP_one {t : Nat} (h1 : 1 ≤ t) (h2 : t < 256) : leP t = [(t : Int)] := by
  rw [leP_pos (by omega), show t / 256 = 0 by omega, leP_zero, show t % 256 = t by omega]
theorem formP_hd {t n : Nat} {b : List Int} (h1 : 1 ≤ t) (h2 : t < 256) {sd mx : Nat} (h3 : t ≤ mx) (h4 : t % 2 = (sd + 1) % 2) : HdW sd mx ((formP t n b).take 64) := by
  have e : ∃ r, formP t n b = (be4P (fieldsP t n b).length ++ sumP (fieldsP t n b)) ++ (1 : Int) :: (t : Int) :: r := by
    unfold formP
    have : ∃ r, fieldsP t n b = (1 : Int) :: (t : Int) :: r := by
      unfold fieldsP numP beP
      rw [leP_one h1 h2]
      exact ⟨_, rfl⟩
    obtain ⟨r, hr⟩ := this
    refine ⟨r ++ List.replicate (secP (12 + (fieldsP t n b).length) * 64 - (12 + (fieldsP t n b).length)) 0, ?_⟩
    conv => lhs; arg 1; arg 2; rw [hr]
    simp
  obtain ⟨r, hr⟩ := e
  have hl : (be4P (fieldsP t n b).length ++ sumP (fieldsP t n b)).length = 12 := by rw [List.length_append, be4P_len, sumP_len]
  have g12 : ((formP t n b).take 64).getD 12 0 = 1 := by
    rw [List.getD_eq_getElem?_getD, List.getElem?_take_of_lt (by omega), hr, List.getElem?_append_right (by omega), hl]
    rfl
  have g13 : ((formP t n b).take 64).getD 13 0 = (t : Int) := by
    rw [List.getD_eq_getElem?_getD, List.getElem?_take_of_lt (by omega), hr, List.getElem?_append_right (by omega), hl]
    rfl
  exact .inr ⟨g12, t, g13, h1, h3, h4⟩

/-! ### Both sides' heads -/
structure KD (S : DS) (mx : Nat) : Prop where
  sure : ∀ sd, sd ≤ 1 → HdW sd mx (S.sure.getD (sd * (S.sure.length / 2)) [])
  waits : ∀ x ∈ S.waits, ∀ sd, sd ≤ 1 → x.1 = sd * (S.sure.length / 2) → HdW sd mx x.2
theorem KD.mono {S : DS} {mx mx' : Nat} (h : KD S mx) (hm : mx ≤ mx') : KD S mx' := ⟨fun sd hs => (h.sure sd hs).mono hm, fun x hx sd hs e => (h.waits x hx sd hs e).mono hm⟩
theorem lastAt_hd {sd mx j : Nat} : ∀ (l : List (Nat × List Int)) (d : List Int), HdW sd mx d → (∀ x ∈ l, x.1 = j → HdW sd mx x.2) → HdW sd mx (lastAt j d l)
  | [], d, h, _ => h
  | y :: l, d, h, h2 => by
    simp only [lastAt]
    refine lastAt_hd l _ ?_ (fun x hx => h2 x (by simp [hx]))
    split
    · rename_i e
      exact h2 y (by simp) e
    · exact h
theorem landAll_hd {sd mx j : Nat} (M : List Int) : ∀ (l : List (Nat × List Int)) (k : Nat) (L : List (List Int)), j < L.length → HdW sd mx (L.getD j []) → (∀ x ∈ l, x.1 = j → HdW sd mx x.2) → HdW sd mx ((landAll M k L l).getD j [])
  | [], _, L, _, h, _ => h
  | y :: l, k, L, hj, h, h2 => by
    simp only [landAll]
    refine landAll_hd M l (k + 1) _ (by simpa using hj) ?_ (fun x hx => h2 x (by simp [hx]))
    by_cases e : y.1 = j
    · rw [e, List.getD_eq_getElem?_getD, List.getElem?_set_self hj]
      exact h.land (h2 y (by simp) e) _
    · rw [List.getD_eq_getElem?_getD, List.getElem?_set_ne e, ← List.getD_eq_getElem?_getD]
      exact h
theorem KD.now {S : DS} {mx : Nat} (h : KD S mx) {sd : Nat} (hs : sd ≤ 1) : HdW sd mx (S.now (sd * (S.sure.length / 2))) := lastAt_hd _ _ (h.sure sd hs) (fun x hx e => h.waits x hx sd hs e)
theorem KD.start {S : DS} {mx : Nat} (h : KD S mx) (h2 : 2 ≤ S.sure.length) (M : List Int) : KD (S.start M) mx := by
  have hl := start_len S M
  refine ⟨fun sd hs => ?_, fun x hx => ?_⟩
  · rw [hl]
    unfold DS.start
    simp only
    refine landAll_hd M _ _ _ ?_ (h.sure sd hs) (fun x hx e => h.waits x hx sd hs e)
    have : sd = 0 ∨ sd = 1 := by omega
    rcases this with e | e <;> rw [e] <;> omega
  · unfold DS.start at hx
    cases hx
theorem KD.write {S : DS} {mx : Nat} (h : KD S mx) {k : Nat} {b : List Int} (hb : ∀ sd, sd ≤ 1 → k = sd * (S.sure.length / 2) → HdW sd mx b) : KD (S.write (k : Int) b).2 mx := by
  unfold DS.write
  split
  · exact h
  split
  · exact h
  split
  · exact h
  split
  · exact ⟨h.sure, h.waits⟩
  · refine ⟨h.sure, fun x hx sd hs e => ?_⟩
    simp only [List.mem_append, List.mem_singleton] at hx
    rcases hx with hx | rfl
    · exact h.waits x hx sd hs e
    · exact hb sd hs (by simpa using e)
theorem KD.sync {S : DS} {mx : Nat} (h : KD S mx) (h2 : 2 ≤ S.sure.length) : KD S.sync.2 mx := by
  unfold DS.sync
  split
  · exact h
  split
  · exact ⟨h.sure, h.waits⟩
  · refine ⟨fun sd hs => ?_, fun x hx => by cases hx⟩
    simp only [applyAll_len]
    have hlt : sd * (S.sure.length / 2) < S.sure.length := by
      have : sd = 0 ∨ sd = 1 := by omega
      rcases this with e | e <;> rw [e] <;> omega
    rw [applyAll_get _ _ _ hlt]
    exact h.now hs

/-! ### Records that are sure -/
structure Front (S : DS) (f t : Nat) (P : List (List Int)) : Prop where
  fit : FitP t 0 P
  room : f + sizeP t 0 P ≤ S.sure.length
  bytes : stP S f (sizeP t 0 P) = formsP t 0 P
  waits : ∀ x ∈ S.waits, x.1 < f ∨ f + sizeP t 0 P ≤ x.1
theorem Front.congr {S S' : DS} {f t : Nat} {P : List (List Int)} (h : Front S f t P) (hl : S'.sure.length = S.sure.length) (hn : ∀ j, f ≤ j → j < f + sizeP t 0 P → S'.now j = S.now j) (hw : ∀ x ∈ S'.waits, x ∈ S.waits ∨ (x.1 < f ∨ f + sizeP t 0 P ≤ x.1)) : Front S' f t P :=
  ⟨h.fit, by rw [hl]; exact h.room, by rw [stP_congr hn]; exact h.bytes, fun x hx => (hw x hx).elim (h.waits x) id⟩
theorem Front.write {S : DS} {f t : Nat} {P : List (List Int)} (h : Front S f t P) {k : Nat} (hk : k < f ∨ f + sizeP t 0 P ≤ k) (b : List Int) : Front (S.write (k : Int) b).2 f t P := by
  refine h.congr (S.write_len _ _).2 (fun j h1 h2 => ?_) (fun x hx => (write_waits S k b x hx).imp id (fun e => by rw [e]; exact hk))
  unfold DS.write
  split
  · rfl
  split
  · rfl
  split
  · rfl
  split
  · rfl
  · unfold DS.now
    simp only
    rw [lastAt_snoc, if_neg (by simp only [Int.toNat_natCast]; omega)]
theorem Front.sync {S : DS} {f t : Nat} {P : List (List Int)} (h : Front S f t P) : Front S.sync.2 f t P := by
  unfold DS.sync
  split
  · exact h
  split
  · exact h.congr rfl (fun _ _ _ => rfl) (fun x hx => .inl hx)
  · refine h.congr (by simp only; rw [applyAll_len]) (fun j h1 h2 => ?_) (fun x hx => by cases hx)
    exact now_sync S (by have := h.room; omega)
theorem Front.start {S : DS} {f t : Nat} {P : List (List Int)} (h : Front S f t P) (M : List Int) : Front (S.start M) f t P :=
  h.congr (start_len S M) (fun j h1 h2 => start_now M (fun x hx e => by have := h.waits x hx; omega)) (fun x hx => by unfold DS.start at hx; cases hx)
theorem Front.nil (S : DS) {f : Nat} (t : Nat) (hf : f ≤ S.sure.length) : Front S f t [] := ⟨trivial, by simpa [sizeP] using hf, by simp [sizeP, formsP, stP], fun x hx => by simp [sizeP]; omega⟩
/-- What is sure is told. -/
theorem Front.scan {S : DS} {f t : Nat} {P : List (List Int)} (h : Front S f t P) {m : Nat} (hm : sizeP t 0 P ≤ m) : ∃ R, (scanAll t (stP S f m)).1 = P ++ R := by
  have hspl : stP S f m = formsP t 0 P ++ stP S (f + sizeP t 0 P) (m - sizeP t 0 P) := by
    have := stP_add S f (m - sizeP t 0 P) (sizeP t 0 P)
    rw [show sizeP t 0 P + (m - sizeP t 0 P) = m by omega, h.bytes] at this
    exact this
  obtain ⟨fuel', _, e⟩ := scanP_app t (stP S (f + sizeP t 0 P) (m - sizeP t 0 P)) P 0 ((stP S f m).length + 1) h.fit (by rw [← hspl]; omega)
  rw [← hspl] at e
  unfold scanAll
  rw [e]
  exact ⟨_, rfl⟩
theorem Front.peek {S : DS} (ho : S.off = false) {f t m : Nat} {b : List Int} {P : List (List Int)} (h : Front S f t (b :: P)) (hm : sizeP t 0 (b :: P) ≤ m) (hf : f + m ≤ S.sure.length) : peekT S f m = t := by
  rw [peekT_eq ho hf]
  have hspl : stP S f m = formsP t 0 (b :: P) ++ stP S (f + sizeP t 0 (b :: P)) (m - sizeP t 0 (b :: P)) := by
    have := stP_add S f (m - sizeP t 0 (b :: P)) (sizeP t 0 (b :: P))
    rw [show sizeP t 0 (b :: P) + (m - sizeP t 0 (b :: P)) = m by omega, h.bytes] at this
    exact this
  obtain ⟨h1, _⟩ := h.fit
  obtain ⟨ht, hn, hs⟩ := formE_zero h1
  rw [hspl]
  simp only [formsP, List.append_assoc]
  rw [readP_form ht hn hs]
  simp
end Go.Proofs.YtohadeijmmmcdaaDoor
end

section
namespace Go.Proofs.YtohadeijmmmcdaaDoor
open Go Go.RowKit Machine

/-! ### What writes and syncs keep, all that is done keeps -/
theorem wipeGo_q (Q : DS → Prop) (S : DS) (f m : Nat) (hw : ∀ T j, j < m → Q T → Q (T.write ((f + j : Nat) : Int) Z64).2) (hs : ∀ T, Q T → Q T.sync.2) : ∀ (k i : Nat) (T : DS) (any : Bool), i + k ≤ m → Q T → Q (wipeGo S f k i T any).2
  | 0, i, T, any, _, h => by
    rw [wipeGo_zero]
    split
    · exact hs T h
    · exact h
  | k + 1, i, T, any, hi, h => by
    rw [wipeGo_succ]
    have h1 := hw T i (by omega) h
    split
    · split
      · exact wipeGo_q Q S f m hw hs k (i + 1) _ true (by omega) h1
      · exact h1
    · exact wipeGo_q Q S f m hw hs k (i + 1) T any (by omega) h
theorem wipeR_q (Q : DS → Prop) {S : DS} {f m : Nat} (hw : ∀ T j, j < m → Q T → Q (T.write ((f + j : Nat) : Int) Z64).2) (hs : ∀ T, Q T → Q T.sync.2) (h : Q S) : Q (wipeR S f m).2 := by
  unfold wipeR
  split
  · exact h
  · exact wipeGo_q Q S f m hw hs m 0 S false (by omega) h
theorem putGo_q (Q : DS → Prop) (F : List Int) (a m : Nat) (hw : ∀ T j, j < m → Q T → Q (T.write ((a + j : Nat) : Int) ((F.drop (64 * j)).take 64)).2) : ∀ (k i : Nat) (T : DS), i + k ≤ m → Q T → Q (putGo F a k i T).2
  | 0, i, T, _, h => by rw [putGo_zero]; exact h
  | k + 1, i, T, hi, h => by
    rw [putGo_succ]
    have h1 := hw T i (by omega) h
    split
    · exact putGo_q Q F a m hw k (i + 1) _ (by omega) h1
    · exact h1
theorem putR_q (Q : DS → Prop) {s : SS} {S : DS} {b : List Int} (hw : formE s.t s.n b = 0 → s.u + recS s.t s.n b ≤ s.m → ∀ T j, j < recS s.t s.n b → Q T → Q (T.write ((s.f + s.u + j : Nat) : Int) (((formP s.t s.n b).drop (64 * j)).take 64)).2) (hu : s.u ≤ s.m) (h : Q S) : Q (putR s S b).2.2 := by
  unfold putR
  split
  · exact h
  split
  · exact h
  rename_i he
  have he' := Decidable.not_not.1 he
  split
  · exact h
  rename_i hr
  have := putGo_q Q (formP s.t s.n b) (s.f + s.u) (recS s.t s.n b) (hw he' (by omega)) (recS s.t s.n b) 0 S (by omega) h
  split
  · exact this
  · exact this
theorem syncR_q (Q : DS → Prop) {s : SS} {S : DS} (hs : ∀ T, Q T → Q T.sync.2) (h : Q S) : Q (syncR s S).2.2 := by
  unfold syncR
  split
  · exact h
  · exact hs S h
theorem beginR_q (Q : DS → Prop) {S : DS} {sd t : Nat} {b : List Int} (hz : ∀ T j, j < S.sure.length / 2 → Q T → Q (T.write ((sd * (S.sure.length / 2) + j : Nat) : Int) Z64).2) (hs : ∀ T, Q T → Q T.sync.2)
    (hw : formE (t : Int) 0 b = 0 → recS t 0 b ≤ S.sure.length / 2 → ∀ T j, j < recS t 0 b → Q T → Q (T.write ((sd * (S.sure.length / 2) + j : Nat) : Int) (((formP t 0 b).drop (64 * j)).take 64)).2) (h : Q S) : Q (beginR S sd t b).2.2 := by
  have h1 := wipeR_q Q (S := S) (f := sd * (S.sure.length / 2)) (m := S.sure.length / 2) hz hs h
  have h2 := putR_q Q (s := ⟨sd * (S.sure.length / 2), S.sure.length / 2, t, 0, 0, false⟩) (b := b) (fun e hr => by simpa using hw e (by simpa using hr)) (Nat.zero_le _) h1
  unfold beginR
  split
  · exact h1
  split
  · exact h2
  · exact syncR_q Q hs h2

/-! ### While nothing fails it is as if there were no fuse -/
def DS.clear (S : DS) : DS := { S with fuse := 0, off := false }
theorem DS.clear_good (S : DS) : S.clear.Good := ⟨rfl, rfl⟩
theorem DS.clear_ok {S : DS} (h : S.Ok) : S.clear.Ok := ⟨h.n1, h.n2, h.sure, h.waits, by simp [DS.clear], by simp [DS.clear]⟩
def Sim (R R' : Int × DS) : Prop := (R.1 = 20 ∧ R.2.off = true) ∨ (R.1 = R'.1 ∧ R.2.clear = R'.2 ∧ R.2.off = false)
theorem write_sim {S : DS} (h : S.off = false) (k : Int) (b : List Int) : Sim (S.write k b) (S.clear.write k b) := by
  unfold DS.write Sim DS.clear
  simp only [h, Bool.false_eq_true, if_false]
  by_cases h1 : k < 0 ∨ S.sure.length ≤ k
  · rw [if_pos h1, if_pos h1]
    exact .inr ⟨rfl, rfl, h⟩
  · rw [if_neg h1, if_neg h1]
    by_cases h2 : b.length ≠ 64
    · rw [if_pos h2, if_pos h2]
      exact .inr ⟨rfl, rfl, h⟩
    · rw [if_neg h2, if_neg h2, if_neg (show ¬ ((0 : Int) = 1) by omega)]
      by_cases h3 : S.fuse = 1
      · rw [if_pos h3]
        exact .inl ⟨rfl, rfl⟩
      · rw [if_neg h3]
        exact .inr ⟨rfl, by simp [dec], rfl⟩
theorem sync_sim {S : DS} (h : S.off = false) : Sim S.sync S.clear.sync := by
  unfold DS.sync Sim DS.clear
  simp only [h, Bool.false_eq_true, if_false]
  rw [if_neg (show ¬ ((0 : Int) = 1) by omega)]
  by_cases h3 : S.fuse = 1
  · rw [if_pos h3]
    exact .inl ⟨rfl, rfl⟩
  · rw [if_neg h3]
    exact .inr ⟨rfl, by simp [dec], rfl⟩
theorem wipeGo_sim (S : DS) (f : Nat) : ∀ (k i : Nat) (T : DS) (any : Bool), T.off = false → Sim (wipeGo S f k i T any) (wipeGo S.clear f k i T.clear any)
  | 0, i, T, any, h => by
    rw [wipeGo_zero, wipeGo_zero]
    split
    · exact sync_sim h
    · exact .inr ⟨rfl, rfl, h⟩
  | k + 1, i, T, any, h => by
    rw [wipeGo_succ, wipeGo_succ]
    have hn : S.clear.now (f + i) = S.now (f + i) := rfl
    rw [hn]
    have hw := write_sim h ((f + i : Nat) : Int) Z64
    split
    · rcases hw with ⟨h1, h2⟩ | ⟨h1, h2, h3⟩
      · rw [if_neg (by rw [h1]; simp)]
        exact .inl ⟨h1, h2⟩
      · rw [← h1]
        split
        · rw [← h2]
          exact wipeGo_sim S f k (i + 1) _ true h3
        · exact .inr ⟨h1, h2, h3⟩
    · exact wipeGo_sim S f k (i + 1) T any h
theorem wipeR_sim {S : DS} (h : S.off = false) (f m : Nat) : Sim (wipeR S f m) (wipeR S.clear f m) := by
  unfold wipeR
  rw [if_neg (by rw [h]; simp), if_neg (by simp [DS.clear])]
  exact wipeGo_sim S f m 0 S false h
theorem putGo_sim (F : List Int) (a : Nat) : ∀ (k i : Nat) (T : DS), T.off = false → Sim (putGo F a k i T) (putGo F a k i T.clear)
  | 0, i, T, h => by rw [putGo_zero, putGo_zero]; exact .inr ⟨rfl, rfl, h⟩
  | k + 1, i, T, h => by
    rw [putGo_succ, putGo_succ]
    rcases write_sim h ((a + i : Nat) : Int) ((F.drop (64 * i)).take 64) with ⟨h1, h2⟩ | ⟨h1, h2, h3⟩
    · rw [if_neg (by rw [h1]; simp)]
      exact .inl ⟨h1, h2⟩
    · rw [← h1]
      split
      · rw [← h2]
        exact putGo_sim F a k (i + 1) _ h3
      · exact .inr ⟨h1, h2, h3⟩
def Sim3 {α : Type} (R R' : Int × α × DS) : Prop := (R.1 = 20 ∧ R.2.2.off = true) ∨ (R.1 = R'.1 ∧ R.2.1 = R'.2.1 ∧ R.2.2.clear = R'.2.2 ∧ R.2.2.off = false)
theorem putR_sim {s : SS} {S : DS} (h : S.off = false) (hg : s.gone = false) (b : List Int) : Sim3 (putR s S b) (putR s S.clear b) := by
  unfold putR
  rw [if_neg (show ¬ s.gone = true by rw [hg]; simp), if_neg (show ¬ s.gone = true by rw [hg]; simp)]
  split
  · exact .inr ⟨rfl, rfl, rfl, h⟩
  split
  · exact .inr ⟨rfl, rfl, rfl, h⟩
  rcases putGo_sim (formP s.t s.n b) (s.f + s.u) (recS s.t s.n b) 0 S h with ⟨h1, h2⟩ | ⟨h1, h2, h3⟩
  · rw [if_neg (by rw [h1]; simp)]
    exact .inl ⟨h1, h2⟩
  · rw [← h1]
    split
    · exact .inr ⟨rfl, rfl, h2, h3⟩
    · exact .inr ⟨rfl, rfl, h2, h3⟩
theorem syncR_sim {s : SS} {S : DS} (h : S.off = false) (hg : s.gone = false) : Sim3 (syncR s S) (syncR s S.clear) := by
  unfold syncR
  rw [if_neg (show ¬ s.gone = true by rw [hg]; simp), if_neg (show ¬ s.gone = true by rw [hg]; simp)]
  rcases sync_sim h with ⟨h1, h2⟩ | ⟨h1, h2, h3⟩
  · exact .inl ⟨h1, h2⟩
  · exact .inr ⟨h1, by rw [h1], h2, h3⟩
theorem beginR_sim {S : DS} (h : S.off = false) (sd t : Nat) (b : List Int) : Sim3 (beginR S sd t b) (beginR S.clear sd t b) := by
  unfold beginR
  rw [show S.clear.sure = S.sure from rfl]
  rcases wipeR_sim h (sd * (S.sure.length / 2)) (S.sure.length / 2) with ⟨h1, h2⟩ | ⟨h1, h2, h3⟩
  · rw [if_pos (by rw [h1]; simp)]
    exact .inl ⟨h1, h2⟩
  · rw [← h1, ← h2]
    split
    · exact .inr ⟨rfl, rfl, rfl, h3⟩
    · rename_i h0
      rcases putR_sim (s := ⟨sd * (S.sure.length / 2), S.sure.length / 2, t, 0, 0, false⟩) h3 rfl b with ⟨g1, g2⟩ | ⟨g1, g2, g3, g4⟩
      · rw [if_pos (by rw [g1]; simp)]
        exact .inl ⟨g1, g2⟩
      · rw [← g1, ← g2, ← g3]
        split
        · exact .inr ⟨g1, g2, g3, g4⟩
        · rename_i h0'
          have hgn : (putR ⟨sd * (S.sure.length / 2), S.sure.length / 2, t, 0, 0, false⟩ (wipeR S (sd * (S.sure.length / 2)) (S.sure.length / 2)).2 b).2.1.gone = false := by
            have e0 := Decidable.not_not.1 h0'
            unfold putR at e0 ⊢
            rw [if_neg (by simp)] at e0 ⊢
            split at e0
            · rename_i e1; exact absurd e0 e1
            · rename_i e1
              rw [if_neg e1]
              split at e0
              · cases e0
              · rename_i e2
                rw [if_neg e2]
                split at e0
                · rename_i e3
                  rw [if_pos e3]
                · rename_i e3
                  exact absurd e0 e3
          exact syncR_sim g4 hgn

/-- A chest's answer: the power failed, or as if there were no fuse. -/
def SimC (R R' : Int × CS × SS × DS) : Prop := (R.1 = 20 ∧ R.2.1.gone = true ∧ R.2.2.2.off = true) ∨ (R.1 = R'.1 ∧ R.2.1 = R'.2.1 ∧ R.2.2.1 = R'.2.2.1 ∧ R.2.2.2.clear = R'.2.2.2 ∧ R.2.2.2.off = false)
theorem ckeepR_sim {x : CS} {s : SS} {S : DS} (h : S.off = false) (hg : s.gone = false) (hx : x.gone = false) (b : List Int) : SimC (ckeepR x s S b) (ckeepR x s S.clear b) := by
  unfold ckeepR
  rw [if_neg (show ¬ x.gone = true by rw [hx]; simp), if_neg (show ¬ x.gone = true by rw [hx]; simp)]
  rcases putR_sim h hg b with ⟨h1, h2⟩ | ⟨h1, h2, h3, h4⟩
  · rw [if_neg (by rw [h1]; simp), if_neg (by rw [h1]; simp)]
    exact .inl ⟨h1, rfl, h2⟩
  · rw [← h1]
    split
    · exact .inr ⟨rfl, rfl, h2, h3, h4⟩
    split
    · exact .inr ⟨rfl, rfl, h2, h3, h4⟩
    · exact .inr ⟨rfl, rfl, h2, h3, h4⟩
theorem csyncR_sim {x : CS} {s : SS} {S : DS} (h : S.off = false) (hg : s.gone = false) (hx : x.gone = false) : SimC (csyncR x s S) (csyncR x s S.clear) := by
  unfold csyncR
  rw [if_neg (show ¬ x.gone = true by rw [hx]; simp), if_neg (show ¬ x.gone = true by rw [hx]; simp)]
  rcases syncR_sim h hg with ⟨h1, h2⟩ | ⟨h1, h2, h3, h4⟩
  · exact .inl ⟨h1, by rw [h1]; rfl, h2⟩
  · exact .inr ⟨h1, by rw [h1], h2, h3, h4⟩
theorem turnR_sim {x : CS} {s : SS} {S : DS} (h : S.off = false) (hx : x.gone = false) (b : List Int) : SimC (turnR x s S b) (turnR x s S.clear b) := by
  unfold turnR
  rw [show S.clear.sure = S.sure from rfl]
  rw [if_neg (show ¬ x.gone = true by rw [hx]; simp), if_neg (show ¬ x.gone = true by rw [hx]; simp)]
  by_cases c1 : 1099511627776 ≤ x.t
  · rw [if_pos c1, if_pos c1]
    exact .inr ⟨rfl, rfl, rfl, rfl, h⟩
  rw [if_neg c1, if_neg c1]
  by_cases c2 : formE ((x.t + 1 : Nat) : Int) 0 b ≠ 0
  · rw [if_pos c2, if_pos c2]
    exact .inr ⟨rfl, rfl, rfl, rfl, h⟩
  rw [if_neg c2, if_neg c2]
  by_cases c3 : S.sure.length / 2 < recS (x.t + 1) 0 b
  · rw [if_pos c3, if_pos c3]
    exact .inr ⟨rfl, rfl, rfl, rfl, h⟩
  rw [if_neg c3, if_neg c3]
  have hb := beginR_sim h (1 - x.sd) (x.t + 1) b
  obtain ⟨R, hR⟩ : ∃ R, beginR S (1 - x.sd) (x.t + 1) b = R := ⟨_, rfl⟩
  obtain ⟨R', hR'⟩ : ∃ R', beginR S.clear (1 - x.sd) (x.t + 1) b = R' := ⟨_, rfl⟩
  rw [hR, hR'] at hb
  rw [hR, hR']
  clear hR hR' c1 c2 c3
  rcases hb with ⟨h1, h2⟩ | ⟨h1, h2, h3, h4⟩
  · rw [if_pos (by rw [h1]; simp)]
    exact .inl ⟨h1, rfl, h2⟩
  · rw [← h1]
    by_cases c4 : R.1 ≠ 0
    · rw [if_pos c4, if_pos c4]
      exact .inr ⟨rfl, rfl, rfl, h3, h4⟩
    · rw [if_neg c4, if_neg c4]
      exact .inr ⟨rfl, rfl, h2, h3, h4⟩
end Go.Proofs.YtohadeijmmmcdaaDoor
end

section
namespace Go.Proofs.YtohadeijmmmcdaaDoor
open Go Go.RowKit Machine

/-- What the drum is known to have, whatever the power does. -/
structure KQ (n f t : Nat) (P : List (List Int)) (mx : Nat) (S : DS) : Prop where
  ok : S.Ok
  len : S.sure.length = n
  kd : KD S mx
  fr : Front S f t P
theorem KQ.write {n f t mx : Nat} {P : List (List Int)} {S : DS} (h : KQ n f t P mx S) {k : Nat} {b : List Int} (hb : ∀ v ∈ b, 0 ≤ v ∧ v ≤ 255) (h1 : k < f ∨ f + sizeP t 0 P ≤ k) (h2 : ∀ sd, sd ≤ 1 → k = sd * (n / 2) → HdW sd mx b) : KQ n f t P mx (S.write (k : Int) b).2 :=
  ⟨DS.write_ok h.ok _ hb, by rw [(S.write_len _ _).2, h.len], h.kd.write (fun sd hs e => h2 sd hs (by rw [← h.len]; exact e)), h.fr.write h1 b⟩
theorem KQ.sync {n f t mx : Nat} {P : List (List Int)} {S : DS} (h : KQ n f t P mx S) (h2 : 2 ≤ n) : KQ n f t P mx S.sync.2 :=
  ⟨DS.sync_ok h.ok, by rw [(sync_sz S).1, h.len], h.kd.sync (by rw [h.len]; exact h2), h.fr.sync⟩
theorem KQ.mono {n f t mx mx' : Nat} {P : List (List Int)} {S : DS} (h : KQ n f t P mx S) (hm : mx ≤ mx') : KQ n f t P mx' S := ⟨h.ok, h.len, h.kd.mono hm, h.fr⟩
theorem KQ.front {n f f' t t' mx : Nat} {P P' : List (List Int)} {S : DS} (h : KQ n f t P mx S) (hf : Front S f' t' P') : KQ n f' t' P' mx S := ⟨h.ok, h.len, h.kd, hf⟩

theorem formP_part {t n : Nat} {b : List Int} (he : formE t n b = 0) (hb : ∀ v ∈ b, 0 ≤ v ∧ v ≤ 255) (hl : b.length ≤ 1000000) (j : Nat) : ∀ v ∈ ((formP t n b).drop (64 * j)).take 64, 0 ≤ v ∧ v ≤ 255 := fun v hv => by
  obtain ⟨ht, hn, _⟩ := formE_zero he
  exact formP_bd ht hn hb (by omega) v (List.mem_of_mem_drop (List.mem_of_mem_take hv))

theorem wipe_q {n f t mx : Nat} {P : List (List Int)} {S : DS} (h : KQ n f t P mx S) (h2 : 2 ≤ n) {g m : Nat} (hg : ∀ j, j < m → g + j < f ∨ f + sizeP t 0 P ≤ g + j) : KQ n f t P mx (wipeR S g m).2 :=
  wipeR_q (KQ n f t P mx) (fun T j hj hT => hT.write (fun v hv => by rw [Z64_eq] at hv; rw [List.eq_of_mem_replicate hv]; omega) (hg j hj) (fun sd _ _ => HdW.zero sd mx)) (fun T hT => hT.sync h2) h

/-- The law's chest: what is sure (P, on side sd, of turn T), what it has (L, while it isn't gone). -/
structure KInv (mx : Nat) (x : CS) (s : SS) (S : DS) (sd T : Nat) (P L : List (List Int)) : Prop where
  q : KQ 24 (sd * 12) T P mx S
  sd1 : sd ≤ 1
  t1 : 1 ≤ T
  tm : T ≤ mx
  mt : mx ≤ T + 1
  par : T % 2 = (sd + 1) % 2
  pn : P ≠ []
  ps : sizeP T 0 P ≤ 12
  live : x.gone = false → S.off = false ∧ ChOk x s S.clear T L ∧ x.sd = sd ∧ ∃ k, P = L.take k
  xsd : x.sd ≤ 1
  xt : x.t ≤ mx

theorem KInv.keep {mx : Nat} {x : CS} {s : SS} {S : DS} {sd T : Nat} {P L : List (List Int)} (h : KInv mx x s S sd T P L) {b : List Int} (hb : ∀ v ∈ b, 0 ≤ v ∧ v ≤ 255) (hbl : b.length ≤ 1000000) (hn : L.length ≤ 1000) :
    ((ckeepR x s S b).1 = 0 ∧ x.gone = false ∧ (ckeepR x s S b).2.1.gone = false ∧ KInv mx (ckeepR x s S b).2.1 (ckeepR x s S b).2.2.1 (ckeepR x s S b).2.2.2 sd T P (L ++ [b])) ∨
    (((ckeepR x s S b).1 = 4 ∨ (ckeepR x s S b).1 = 18) ∧ x.gone = false ∧ (ckeepR x s S b).2.1.gone = false ∧ KInv mx (ckeepR x s S b).2.1 (ckeepR x s S b).2.2.1 (ckeepR x s S b).2.2.2 sd T P L) ∨
    ((ckeepR x s S b).1 = 20 ∧ (ckeepR x s S b).2.1.gone = true ∧ KInv mx (ckeepR x s S b).2.1 (ckeepR x s S b).2.2.1 (ckeepR x s S b).2.2.2 sd T P L) := by
  cases hg : x.gone with
  | true =>
    have hR : ckeepR x s S b = (20, x, s, S) := by unfold ckeepR; rw [if_pos hg]
    rw [hR]
    exact .inr (.inr ⟨rfl, hg, h⟩)
  | false =>
    obtain ⟨ho, hok, hxs, k, hP⟩ := h.live hg
    have hsl : S.clear.sure.length = 24 := h.q.len
    have hm := hok.m
    have hf := hok.f
    rw [hsl] at hm hf
    have hn' := hok.has.n
    have hu := hok.has.u
    have hum := hok.has.um
    have hst := hok.st
    have hLn : 1 ≤ sizeP T 0 L := by
      rw [hok.l]
      simp only [sizeP]
      have : 1 ≤ recS T 0 x.h := by unfold recS secP; omega
      omega
    have hPs : sizeP T 0 P ≤ s.u := by rw [hu, hst, hP]; exact sizeP_take_le _ _ _
    have hxsd := hok.sd
    have hq : KQ 24 (sd * 12) T P mx (ckeepR x s S b).2.2.2 := by
      have hq1 : KQ 24 (sd * 12) T P mx (putR s S b).2.2 := by
        refine putR_q (KQ 24 (sd * 12) T P mx) (fun he hr T' j hj hT' => hT'.write (formP_part he hb hbl j) ?_ (fun sd' hs' e => ?_)) hum h.q
        · right
          have e1 : s.f = sd * 12 := by rw [hf, hxs]
          omega
        · exfalso
          have h1 : sd = 0 ∨ sd = 1 := by omega
          have h2 : sd' = 0 ∨ sd' = 1 := by omega
          rw [hst] at hu
          rw [hxs] at hf
          rcases h1 with rfl | rfl <;> rcases h2 with rfl | rfl <;> omega
      unfold ckeepR
      split
      · exact h.q
      split
      · exact hq1
      split
      · exact hq1
      · exact hq1
    have hk := hok.keep b (by unfold mostP; omega)
    rcases ckeepR_sim ho hok.has.gone hg b with ⟨s1, s2, s3⟩ | ⟨s1, s2, s3, s4, s5⟩
    · refine .inr (.inr ⟨s1, s2, ⟨hq, h.sd1, h.t1, h.tm, h.mt, h.par, h.pn, h.ps, fun e => ?_, ?_, ?_⟩⟩)
      · rw [s2] at e; cases e
      all_goals
        unfold ckeepR
        rw [if_neg (by rw [hg]; simp)]
        have h8 := h.xsd
        have h9 := h.xt
        repeat' split
        all_goals assumption
    · obtain ⟨k1, k2, k3, k4⟩ := hk
      rw [← s1] at k1
      rw [← s2, ← s3, ← s4] at k4
      have hxg := k4.xg
      have hx2 : (ckeepR x s S b).2.1.sd = x.sd ∧ (ckeepR x s S b).2.1.t = x.t := by
        unfold ckeepR
        repeat' split
        all_goals exact ⟨rfl, rfl⟩
      have base : ∀ L', (keepQ T (S.clear.sure.length / 2 : Nat) L b).2.2 = L' → (∃ k, P = L'.take k) → KInv mx (ckeepR x s S b).2.1 (ckeepR x s S b).2.2.1 (ckeepR x s S b).2.2.2 sd T P L' := fun L' e hk' =>
        ⟨hq, h.sd1, h.t1, h.tm, h.mt, h.par, h.pn, h.ps, fun _ => ⟨s5, e ▸ k4, by rw [hx2.1, hxs], hk'⟩, by rw [hx2.1]; exact h.xsd, by rw [hx2.2]; exact h.xt⟩
      unfold keepQ at k1 base
      split at k1
      · rename_i c1
        rw [if_pos c1] at base
        exact .inr (.inl ⟨.inl k1, rfl, hxg, base L rfl ⟨k, hP⟩⟩)
      rename_i c1
      rw [if_neg c1] at base
      split at k1
      · rename_i c2
        rw [if_pos c2] at base
        exact .inr (.inl ⟨.inr k1, rfl, hxg, base L rfl ⟨k, hP⟩⟩)
      · rename_i c2
        rw [if_neg c2] at base
        refine .inl ⟨k1, rfl, hxg, base (L ++ [b]) rfl ⟨min k L.length, ?_⟩⟩
        rw [List.take_append_of_le_length (by omega), hP]
        rcases Nat.le_total k L.length with h1 | h1
        · rw [Nat.min_eq_left h1]
        · rw [Nat.min_eq_right h1, List.take_of_length_le h1, List.take_of_length_le (Nat.le_refl _)]

theorem KInv.sync {mx : Nat} {x : CS} {s : SS} {S : DS} {sd T : Nat} {P L : List (List Int)} (h : KInv mx x s S sd T P L) :
    ((csyncR x s S).1 = 0 ∧ x.gone = false ∧ (csyncR x s S).2.1.gone = false ∧ KInv mx (csyncR x s S).2.1 (csyncR x s S).2.2.1 (csyncR x s S).2.2.2 sd T L L) ∨
    ((csyncR x s S).1 = 20 ∧ (csyncR x s S).2.1.gone = true ∧ KInv mx (csyncR x s S).2.1 (csyncR x s S).2.2.1 (csyncR x s S).2.2.2 sd T P L) := by
  cases hg : x.gone with
  | true =>
    have hR : csyncR x s S = (20, x, s, S) := by unfold csyncR; rw [if_pos hg]
    rw [hR]
    exact .inr ⟨rfl, hg, h⟩
  | false =>
    obtain ⟨ho, hok, hxs, k, hP⟩ := h.live hg
    have hsl : S.clear.sure.length = 24 := h.q.len
    have hq : KQ 24 (sd * 12) T P mx (csyncR x s S).2.2.2 := by
      unfold csyncR
      rw [if_neg (by rw [hg]; simp)]
      exact syncR_q (KQ 24 (sd * 12) T P mx) (fun T hT => hT.sync (by omega)) h.q
    have hx2 : (csyncR x s S).2.1.sd = x.sd ∧ (csyncR x s S).2.1.t = x.t := by
      unfold csyncR
      split
      all_goals exact ⟨rfl, rfl⟩
    obtain ⟨e1, e2⟩ := hok.sync
    rcases csyncR_sim ho hok.has.gone hg with ⟨s1, s2, s3⟩ | ⟨s1, s2, s3, s4, s5⟩
    · exact .inr ⟨s1, s2, ⟨hq, h.sd1, h.t1, h.tm, h.mt, h.par, h.pn, h.ps, fun e => (by rw [s2] at e; cases e), by rw [hx2.1]; exact h.xsd, by rw [hx2.2]; exact h.xt⟩⟩
    · rw [e1] at s1 s2 s3 s4
      simp only at s1 s2 s3 s4
      have hok' : ChOk (csyncR x s S).2.1 (csyncR x s S).2.2.1 (csyncR x s S).2.2.2.clear T L := by rw [s2, s3, s4]; exact e2
      have hsl' : (csyncR x s S).2.2.2.sure.length = 24 := hq.len
      have hfr : Front (csyncR x s S).2.2.2 (sd * 12) T L := by
        have hb := hok'.has.bytes
        have hum := hok'.has.um
        have hu := hok'.has.u
        have hroom := hok'.has.room
        have hst := hok'.st
        have hf : (csyncR x s S).2.2.1.f = sd * 12 := by rw [s3, hok.f, hsl, hxs]
        have hcl : (csyncR x s S).2.2.2.clear.sure = (csyncR x s S).2.2.2.sure := rfl
        rw [hcl] at hroom
        have hfit := hok'.has.fit
        obtain ⟨s', hs'⟩ : ∃ s', (csyncR x s S).2.2.1 = s' := ⟨_, rfl⟩
        rw [hs'] at hb hum hu hroom hst hf hfit
        rw [hst] at hb hu hfit
        rw [hf] at hb hroom
        have hsp := stP_add (csyncR x s S).2.2.2.clear (sd * 12) (s'.m - s'.u) s'.u
        rw [show s'.u + (s'.m - s'.u) = s'.m by omega, hb] at hsp
        have hsu := (List.append_cancel_right hsp)
        refine ⟨hfit, by rw [← hu]; omega, ?_, fun y hy => ?_⟩
        · rw [← hu]
          exact hsu.symm
        · have : (csyncR x s S).2.2.2.waits = [] := by
            have := congrArg DS.waits s4
            exact this
          rw [this] at hy
          cases hy
      have hps : sizeP T 0 L ≤ 12 := by
        have h1 := hok.has.u
        have h2 := hok.has.um
        rw [hok.st] at h1
        rw [hok.m, hsl] at h2
        omega
      exact .inl ⟨s1, rfl, by rw [s2]; exact hg, ⟨hq.front hfr, h.sd1, h.t1, h.tm, h.mt, h.par, by rw [hok.l]; simp, hps, fun _ => ⟨s5, hok', by rw [hx2.1, hxs], L.length, by simp⟩, by rw [hx2.1]; exact h.xsd, by rw [hx2.2]; exact h.xt⟩⟩
end Go.Proofs.YtohadeijmmmcdaaDoor
end

section
namespace Go.Proofs.YtohadeijmmmcdaaDoor
open Go Go.RowKit Machine

theorem Has.front {S : DS} {s : SS} {l : List (List Int)} (h : Has S s l) (hw : S.waits = []) : Front S s.f s.t l := by
  have hum := h.um
  have hsp := stP_add S s.f (s.m - s.u) s.u
  rw [show s.u + (s.m - s.u) = s.m by omega, h.bytes] at hsp
  have hsu := List.append_cancel_right hsp
  refine ⟨h.fit, by rw [← h.u]; have := h.room; omega, by rw [← h.u]; exact hsu.symm, fun y hy => by rw [hw] at hy; cases hy⟩
theorem Front.of_clear {S : DS} {f t : Nat} {P : List (List Int)} (h : Front S.clear f t P) : Front S f t P := ⟨h.fit, h.room, h.bytes, h.waits⟩
theorem DS.clear_eq {S : DS} (h : S.Good) : S.clear = S := by
  obtain ⟨h1, h2⟩ := h
  cases S
  simp only at h1 h2
  subst h1 h2
  rfl

theorem KInv.up {mx : Nat} {x : CS} {s : SS} {S : DS} {sd T : Nat} {P L : List (List Int)} (h : KInv mx x s S sd T P L) : KInv (T + 1) x s S sd T P L :=
  ⟨h.q.mono h.mt, h.sd1, h.t1, by omega, Nat.le_refl _, h.par, h.pn, h.ps, h.live, h.xsd, by have := h.xt; have := h.mt; omega⟩

/-- What a turn does keeps what is sure. -/
theorem turn_q {x : CS} {s : SS} {S : DS} {sd T : Nat} {P : List (List Int)} (hq : KQ 24 (sd * 12) T P (T + 1) S) (hsd : sd ≤ 1) (ht : T < 255) (hpar : T % 2 = (sd + 1) % 2) (hps : sizeP T 0 P ≤ 12) (hx : x.sd = sd) (hxt : x.t = T) {b : List Int} (hb : ∀ v ∈ b, 0 ≤ v ∧ v ≤ 255) (hbl : b.length ≤ 1000000) :
    KQ 24 (sd * 12) T P (T + 1) (turnR x s S b).2.2.2 := by
  have h2 : sd = 0 ∨ sd = 1 := by omega
  have hbq : KQ 24 (sd * 12) T P (T + 1) (beginR S (1 - x.sd) (x.t + 1) b).2.2 := by
    rw [hx, hxt]
    refine beginR_q (KQ 24 (sd * 12) T P (T + 1)) ?_ (fun T' hT' => hT'.sync (by omega)) ?_ hq
    · rw [hq.len]
      intro T' j hj hT'
      exact hT'.write (fun v hv => by rw [Z64_eq] at hv; rw [List.eq_of_mem_replicate hv]; omega) (by rcases h2 with rfl | rfl <;> omega) (fun sd' _ _ => HdW.zero sd' _)
    · rw [hq.len]
      intro he hr T' j hj hT'
      refine hT'.write (formP_part he hb hbl j) (by rcases h2 with rfl | rfl <;> omega) (fun sd' hs' e => ?_)
      have h3 : sd' = 0 ∨ sd' = 1 := by omega
      have hj0 : j = 0 ∧ sd' = 1 - sd := by rcases h2 with rfl | rfl <;> rcases h3 with rfl | rfl <;> omega
      obtain ⟨rfl, rfl⟩ := hj0
      rw [Nat.mul_zero, List.drop_zero]
      exact formP_hd (by omega) (by omega) (by omega) (by rcases h2 with rfl | rfl <;> omega)
  unfold turnR
  split
  · exact hq
  split
  · exact hq
  split
  · exact hq
  split
  · exact hq
  split
  · exact hbq
  · exact hbq

theorem KInv.turn {mx : Nat} {x : CS} {s : SS} {S : DS} {sd T : Nat} {P L : List (List Int)} (h : KInv mx x s S sd T P L) (hmx : mx ≤ 100) {b : List Int} (hb : ∀ v ∈ b, 0 ≤ v ∧ v ≤ 255) (hbl : b.length ≤ 1000000) :
    ((turnR x s S b).1 = 0 ∧ x.gone = false ∧ (turnR x s S b).2.1.gone = false ∧ KInv (T + 1) (turnR x s S b).2.1 (turnR x s S b).2.2.1 (turnR x s S b).2.2.2 (1 - sd) (T + 1) [b] [b]) ∨
    (((turnR x s S b).1 = 4 ∨ (turnR x s S b).1 = 18) ∧ x.gone = false ∧ (turnR x s S b).2.1.gone = false ∧ KInv (T + 1) (turnR x s S b).2.1 (turnR x s S b).2.2.1 (turnR x s S b).2.2.2 sd T P L) ∨
    ((turnR x s S b).1 = 20 ∧ (turnR x s S b).2.1.gone = true ∧ KInv (T + 1) (turnR x s S b).2.1 (turnR x s S b).2.2.1 (turnR x s S b).2.2.2 sd T P L) := by
  have hTm := h.tm
  cases hg : x.gone with
  | true =>
    have hR : turnR x s S b = (20, x, s, S) := by unfold turnR; rw [if_pos hg]
    rw [hR]
    exact .inr (.inr ⟨rfl, hg, h.up⟩)
  | false =>
    obtain ⟨ho, hok, hxs, k, hP⟩ := h.live hg
    have hsl : S.clear.sure.length = 24 := h.q.len
    have hq := turn_q (s := s) (h.q.mono h.mt) h.sd1 (by omega) h.par h.ps hxs hok.t hb hbl
    obtain ⟨o1, o3, T', o2, o4⟩ := hok.turn (DS.clear_ok h.q.ok) b
    rw [hsl] at o1 o2 o4
    rcases turnR_sim (s := s) ho hg b with ⟨s1, s2, s3⟩ | ⟨s1, s2, s3, s4, s5⟩
    · refine .inr (.inr ⟨s1, s2, ⟨hq, h.sd1, h.t1, by omega, Nat.le_refl _, h.par, h.pn, h.ps, fun e => ?_, ?_, ?_⟩⟩)
      · rw [s2] at e; cases e
      all_goals
        have h8 := h.xsd
        have h9 := h.xt
        have h10 := h.mt
        have h11 := hok.t
        unfold turnR
        rw [if_neg (by rw [hg]; simp)]
        repeat' split
        all_goals simp only
        all_goals omega
    · rw [← s1] at o1
      have o4' := o4
      rw [← s2, ← s3, ← s4] at o4
      have hxg := o4.xg
      have hx2 := o4.t
      by_cases hz : (turnR x s S b).1 = 0
      · left
        rw [hz] at o1
        have hc : changeQ T (24 / 2 : Nat) L b = (0, (T : Int) + 1, [b]) := by
          unfold changeQ at o1 ⊢
          rw [if_neg (by omega)] at o1 ⊢
          split at o1
          · cases o1
          rename_i c1
          split at o1
          · cases o1
          rename_i c2
          rw [if_neg c1, if_neg c2]
        rw [hc] at o2 o4
        simp only at o2 o4
        obtain rfl : T' = T + 1 := by omega
        have hsc : (turnR x s S.clear b).1 = 0 := by rw [← s1]; exact hz
        have hw : (turnR x s S b).2.2.2.waits = [] ∧ (turnR x s S b).2.1.sd = 1 - sd := by
          rw [show (turnR x s S b).2.2.2.waits = (turnR x s S b).2.2.2.clear.waits from rfl, s4, s2]
          unfold turnR at hsc ⊢
          rw [if_neg (show ¬ x.gone = true by rw [hg]; simp)] at hsc ⊢
          by_cases c1 : 1099511627776 ≤ x.t
          · rw [if_pos c1] at hsc; exact absurd hsc (by simp)
          rw [if_neg c1] at hsc ⊢
          by_cases c2 : formE ((x.t + 1 : Nat) : Int) 0 b ≠ 0
          · rw [if_pos c2] at hsc; simp only at hsc; exact absurd hsc c2
          rw [if_neg c2] at hsc ⊢
          by_cases c3 : S.clear.sure.length / 2 < recS (x.t + 1) 0 b
          · rw [if_pos c3] at hsc; exact absurd hsc (by simp)
          rw [if_neg c3] at hsc ⊢
          by_cases c4 : (beginR S.clear (1 - x.sd) (x.t + 1) b).1 ≠ 0
          · rw [if_pos c4] at hsc; simp only at hsc; exact absurd hsc c4
          rw [if_neg c4]
          obtain ⟨T2, e1, _, e3, _⟩ := beginR_good (DS.clear_ok h.q.ok) S.clear_good (sd := 1 - x.sd) (t := x.t + 1) (by omega) (by rw [hok.t]; unfold mostP; omega) (b := b) (by simpa using Decidable.not_not.1 c2) (by omega)
          rw [e1]
          exact ⟨e3, by simp only; rw [hxs]⟩
        have hfr : Front (turnR x s S b).2.2.2 ((1 - sd) * 12) (T + 1) [b] := by
          have hh := o4.has.front (by show (turnR x s S b).2.2.2.waits = []; exact hw.1)
          have hf := o4.f
          rw [show (turnR x s S b).2.2.2.clear.sure.length = 24 from hq.len, hw.2] at hf
          rw [hf, o4.st] at hh
          exact hh.of_clear
        have hu := o4.has.u
        have hum := o4.has.um
        rw [o4.st] at hu
        rw [o4.m, show (turnR x s S b).2.2.2.clear.sure.length = 24 from hq.len] at hum
        have h2 := h.sd1
        have h3 := h.par
        refine ⟨hz, rfl, hxg, ⟨hq.front hfr, by omega, by omega, Nat.le_refl _, by omega, ?_, by simp, by omega, fun _ => ⟨s5, o4, hw.2, 1, rfl⟩, by rw [hw.2]; omega, by rw [hx2]; exact Nat.le_refl _⟩⟩
        have h4 : sd = 0 ∨ sd = 1 := by omega
        rcases h4 with rfl | rfl <;> omega
      · right
        left
        have hc : ((changeQ T (24 / 2 : Nat) L b).1 = 4 ∨ (changeQ T (24 / 2 : Nat) L b).1 = 18) ∧ (changeQ T (24 / 2 : Nat) L b).2 = ((T : Int), L) := by
          unfold changeQ at o1 ⊢
          rw [if_neg (by omega)] at o1 ⊢
          split at o1
          · rename_i c1
            rw [if_pos c1]
            exact ⟨.inl rfl, rfl⟩
          rename_i c1
          rw [if_neg c1]
          split at o1
          · rename_i c2
            rw [if_pos c2]
            exact ⟨.inr rfl, rfl⟩
          · exact absurd o1 hz
        rw [hc.2] at o2 o4
        simp only at o2 o4
        obtain rfl : T' = T := by omega
        have hsc : (turnR x s S.clear b).1 ≠ 0 := by rw [← s1]; exact hz
        have hxsd : (turnR x s S b).2.1.sd = x.sd := by
          rw [s2]
          unfold turnR at hsc ⊢
          rw [if_neg (show ¬ x.gone = true by rw [hg]; simp)] at hsc ⊢
          by_cases c1 : 1099511627776 ≤ x.t
          · rw [if_pos c1]
          rw [if_neg c1] at hsc ⊢
          by_cases c2 : formE ((x.t + 1 : Nat) : Int) 0 b ≠ 0
          · rw [if_pos c2]
          rw [if_neg c2] at hsc ⊢
          by_cases c3 : S.clear.sure.length / 2 < recS (x.t + 1) 0 b
          · rw [if_pos c3]
          rw [if_neg c3] at hsc ⊢
          by_cases c4 : (beginR S.clear (1 - x.sd) (x.t + 1) b).1 ≠ 0
          · rw [if_pos c4]
          rw [if_neg c4] at hsc
          exact absurd rfl hsc
        refine ⟨by rw [o1]; exact hc.1, rfl, hxg, ⟨hq, h.sd1, h.t1, by omega, Nat.le_refl _, h.par, h.pn, h.ps, fun _ => ⟨s5, o4, by rw [hxsd, hxs], k, hP⟩, by rw [hxsd]; exact h.xsd, by rw [hx2]; omega⟩⟩

theorem KInv.fuse {mx : Nat} {x : CS} {s : SS} {S : DS} {sd T : Nat} {P L : List (List Int)} (h : KInv mx x s S sd T P L) {n : Int} (h0 : 0 ≤ n) (h1 : n ≤ 9223372036854775807) : KInv mx x s { S with fuse := n } sd T P L :=
  ⟨⟨⟨h.q.ok.n1, h.q.ok.n2, h.q.ok.sure, h.q.ok.waits, h0, h1⟩, h.q.len, ⟨h.q.kd.sure, h.q.kd.waits⟩, ⟨h.q.fr.fit, h.q.fr.room, h.q.fr.bytes, h.q.fr.waits⟩⟩, h.sd1, h.t1, h.tm, h.mt, h.par, h.pn, h.ps, h.live, h.xsd, h.xt⟩

/-- What is found when the power is on again. -/
theorem KInv.start {mx : Nat} {x : CS} {s : SS} {S : DS} {sd T : Nat} {P L : List (List Int)} (h : KInv mx x s S sd T P L) (M : List Int) {T1 : Nat} {L1 : List (List Int)} (hB : bestP (stP (S.start M) 0 24) 2 = (T1, L1)) :
    T ≤ T1 ∧ T1 ≤ mx ∧ (T1 = T → P.length ≤ L1.length) ∧ (S.start M).Good ∧ (copenR (S.start M)).1 = 0 ∧ (copenR (S.start M)).2.1.gone = false ∧
      ∃ sd1, KInv mx (copenR (S.start M)).2.1 (copenR (S.start M)).2.2.1 (copenR (S.start M)).2.2.2 sd1 T1 L1 L1 := by
  obtain ⟨S1, hS1⟩ : ∃ S1, S.start M = S1 := ⟨_, rfl⟩
  have hg : S1.Good := by rw [← hS1]; exact start_good S M
  have hok : S1.Ok := by rw [← hS1]; exact DS.start_ok h.q.ok M
  have hl : S1.sure.length = 24 := by rw [← hS1, start_len, h.q.len]
  have hkd : KD S1 mx := by rw [← hS1]; exact h.q.kd.start (by rw [h.q.len]; omega) M
  have hfr : Front S1 (sd * 12) T P := by rw [← hS1]; exact h.q.fr.start M
  have hw : S1.waits = [] := by rw [← hS1]; rfl
  rw [hS1] at hB ⊢
  have hsd := h.sd1
  have hpar := h.par
  have ht1 := h.t1
  have htm := h.tm
  have hmt := h.mt
  have h2 : sd = 0 ∨ sd = 1 := by omega
  have hpk : peekT S1 (sd * 12) 12 = T := by
    cases hP : P with
    | nil => exact absurd hP h.pn
    | cons b P' =>
      rw [hP] at hfr
      exact hfr.peek hg.1 (by rw [← hP]; exact h.ps) (by rw [hl]; rcases h2 with rfl | rfl <;> omega)
  have hot := peek_turn hok hg.1 (f := (1 - sd) * 12) (m := 12) (sd := 1 - sd) (mx := mx) (by rw [hl]; rcases h2 with rfl | rfl <;> omega) (by omega) (by
    have := hkd.now (sd := 1 - sd) (by omega)
    rw [hl] at this
    exact this)
  have hF : (findP S1).1 ≤ 1 ∧ T ≤ (findP S1).2 ∧ (findP S1).2 ≤ mx ∧ (findP S1).2 % 2 = ((findP S1).1 + 1) % 2 ∧ ((findP S1).2 = T → (findP S1).1 = sd) := by
    unfold findP
    rw [hl, show (24 / 2 : Nat) = 12 from rfl]
    rcases h2 with rfl | rfl
    · rw [Nat.zero_mul] at hpk
      rw [show (1 - 0) * 12 = 12 from rfl] at hot
      rw [hpk]
      split
      · simp only
        refine ⟨by omega, by omega, by omega, by omega, fun e => by omega⟩
      · simp only
        refine ⟨by omega, by omega, by omega, by omega, fun e => trivial⟩
    · rw [Nat.one_mul] at hpk
      rw [show (1 - 1) * 12 = 0 from rfl] at hot
      rw [hpk]
      split
      · simp only
        refine ⟨by omega, by omega, by omega, by omega, fun e => trivial⟩
      · simp only
        refine ⟨by omega, by omega, by omega, by omega, fun e => by omega⟩
  obtain ⟨f1, f2, f3, f4, f5⟩ := hF
  have hbf := best_find hok hg
  rw [hl, hB, if_neg (by omega), show (24 / 2 : Nat) = 12 from rfl] at hbf
  simp only [Prod.mk.injEq] at hbf
  obtain ⟨rfl, hL1⟩ := hbf
  obtain ⟨o1, o2, o3, o4⟩ := ChOk.opened hok hg (by omega)
  rw [hl, show (24 / 2 : Nat) = 12 from rfl, ← hL1] at o4
  rw [hl] at o2
  have hrm : (findP S1).1 * 12 + 12 ≤ 24 := by
    have : (findP S1).1 = 0 ∨ (findP S1).1 = 1 := by omega
    rcases this with e | e <;> rw [e] <;> omega
  obtain ⟨i1, i2, i3, i4⟩ := scanP_inv (findP S1).2 ((stP S1 ((findP S1).1 * 12) 12).length + 1) (stP S1 ((findP S1).1 * 12) 12) 0 (stP_bd hok _ 12 (by omega))
  change (stP S1 ((findP S1).1 * 12) 12).take (64 * (scanAll (findP S1).2 (stP S1 ((findP S1).1 * 12) 12)).2) = formsP (findP S1).2 0 (scanAll (findP S1).2 (stP S1 ((findP S1).1 * 12) 12)).1 at i1
  change FitP (findP S1).2 0 (scanAll (findP S1).2 (stP S1 ((findP S1).1 * 12) 12)).1 at i2
  change (scanAll (findP S1).2 (stP S1 ((findP S1).1 * 12) 12)).2 = sizeP (findP S1).2 0 (scanAll (findP S1).2 (stP S1 ((findP S1).1 * 12) 12)).1 at i3
  change 64 * (scanAll (findP S1).2 (stP S1 ((findP S1).1 * 12) 12)).2 ≤ (stP S1 ((findP S1).1 * 12) 12).length at i4
  rw [stP_len hok _ 12 (by omega)] at i4
  rw [← hL1] at i1 i2 i3
  obtain ⟨u, hu⟩ : ∃ u, (scanAll (findP S1).2 (stP S1 ((findP S1).1 * 12) 12)).2 = u := ⟨_, rfl⟩
  rw [hu] at i1 i3 i4
  have hfr1 : Front S1 ((findP S1).1 * 12) (findP S1).2 L1 := by
    refine ⟨i2, by rw [← i3]; omega, ?_, fun y hy => by rw [hw] at hy; cases hy⟩
    rw [← i3, ← i1]
    have hsp2 := stP_add S1 ((findP S1).1 * 12) (12 - u) u
    rw [show u + (12 - u) = 12 by omega] at hsp2
    rw [hsp2, List.take_append_of_le_length (by rw [stP_len hok _ u (by omega)]; exact Nat.le_refl _), List.take_of_length_le (by rw [stP_len hok _ u (by omega)]; exact Nat.le_refl _)]
  have hD : (copenR S1).2.2.2 = (wipeR S1 ((findP S1).1 * 12 + u) (12 - u)).2 := by
    unfold copenR
    rw [if_neg (by omega)]
    simp only
    unfold openR
    rw [if_neg (by rw [hg.1]; simp), hl, show (24 / 2 : Nat) = 12 from rfl, hu]
  have hq : KQ 24 ((findP S1).1 * 12) (findP S1).2 L1 mx (copenR S1).2.2.2 := by
    rw [hD]
    exact wipe_q ⟨hok, hl, hkd, hfr1⟩ (by omega) (fun j hj => .inr (by omega))
  have hLl := o4.l
  refine ⟨f2, f3, fun e => ?_, hg, o1, o4.xg, (findP S1).1, ⟨hq, f1, by omega, f3, by omega, f4, by rw [hLl]; simp, by omega, fun _ => ⟨o4.has.good.1, by rw [DS.clear_eq o4.has.good]; exact o4, ?_, L1.length, by simp⟩, o4.sd, by rw [o4.t]; exact f3⟩⟩
  · have e1 := f5 e
    obtain ⟨R, hR⟩ := hfr.scan (m := 12) h.ps
    rw [← e1, ← e] at hR
    rw [hL1, hR]
    simp
  · unfold copenR
    rw [if_neg (by omega)]
end Go.Proofs.YtohadeijmmmcdaaDoor
end
