/-
  ScrollKeeps, plainly: what was synced is told, whatever the power does.
-/
import Derived.Test.YtohadeijmmmcdaaDoorRInv
namespace Go.Proofs.YtohadeijmmmcdaaDoor

/-! ### Records that are read are forms -/
theorem scanP_app (t : Nat) (rest : List Int) : ∀ (l : List (List Int)) (n fuel : Nat), FitP t n l → (formsP t n l ++ rest).length < fuel →
    ∃ fuel', rest.length < fuel' ∧ scanP t fuel (formsP t n l ++ rest) n = (l ++ (scanP t fuel' rest (n + l.length)).1, sizeP t n l + (scanP t fuel' rest (n + l.length)).2)
  | [], n, fuel, _, h => ⟨fuel, by simpa [formsP] using h, by simp [formsP, sizeP]⟩
  | b :: l, n, 0, _, h => by simp at h
  | b :: l, n, fuel + 1, ⟨h1, h2⟩, hl => by
    obtain ⟨ht, hn, hs⟩ := formE_zero h1
    have e := readP_form (rest := formsP t (n + 1) l ++ rest) ht hn hs
    have ed : (formsP t n (b :: l) ++ rest).drop (64 * recS t n b) = formsP t (n + 1) l ++ rest := by
      simp only [formsP, List.append_assoc]
      have : (formP t n b).length = 64 * recS t n b := by rw [formP_len]; unfold recS; omega
      rw [← this]
      simp
    obtain ⟨fuel', hf, ih⟩ := scanP_app t rest l (n + 1) fuel h2 (by
      have := formP_len t n b
      simp only [formsP, List.length_append] at hl ⊢
      unfold secP at this
      omega)
    refine ⟨fuel', hf, ?_⟩
    simp only [scanP]
    rw [show formsP t n (b :: l) ++ rest = formP t n b ++ (formsP t (n + 1) l ++ rest) by simp [formsP]] at ed ⊢
    rw [e]
    simp only [if_true, and_self]
    rw [show secP (12 + (fieldsP t n b).length) = recS t n b from rfl, ed, ih]
    simp only [sizeP, List.cons_append, List.length_cons]
    rw [show n + 1 + l.length = n + (l.length + 1) by omega]
    simp only [Prod.mk.injEq, true_and]
    omega

/-- What a scan tells stands there, form by form. -/
theorem scanP_inv (t : Nat) : ∀ (k : Nat) (b : List Int) (n : Nat), (∀ x ∈ b, 0 ≤ x ∧ x ≤ 255) →
    b.take (64 * (scanP t k b n).2) = formsP t n (scanP t k b n).1 ∧ FitP t n (scanP t k b n).1 ∧ (scanP t k b n).2 = sizeP t n (scanP t k b n).1 ∧ 64 * (scanP t k b n).2 ≤ b.length
  | 0, b, n, _ => by simp [scanP, formsP, FitP, sizeP]
  | k + 1, b, n, hb => by
    simp only [scanP]
    cases hr : readP b with
    | none => simp [formsP, FitP, sizeP]
    | some r =>
      simp only
      by_cases hc : r.t = t ∧ r.n = n
      · rw [if_pos hc]
        obtain ⟨rfl, rfl⟩ := hc
        obtain ⟨e1, e2, e3⟩ := readP_inv hb hr
        obtain ⟨_, _, hsz⟩ := readP_size hr
        obtain ⟨i1, i2, i3, i4⟩ := scanP_inv r.t k (b.drop (64 * r.size)) (r.n + 1) (fun x hx => hb x (List.mem_of_mem_drop hx))
        rw [List.length_drop] at i4
        refine ⟨?_, ⟨e3, i2⟩, ?_, ?_⟩
        · simp only [formsP]
          rw [Nat.mul_add, List.take_add, e1, i1]
        · simp only [sizeP]
          rw [← e2, i3]
        · simp only
          omega
      · rw [if_neg hc]
        simp [formsP, FitP, sizeP]

theorem formsP_app (t : Nat) : ∀ (l m : List (List Int)) (n : Nat), formsP t n (l ++ m) = formsP t n l ++ formsP t (n + l.length) m
  | [], m, n => by simp [formsP]
  | b :: l, m, n => by
    simp only [List.cons_append, formsP, formsP_app t l m, List.length_cons, List.append_assoc]
    rw [show n + 1 + l.length = n + (l.length + 1) by omega]
theorem sizeP_app (t : Nat) : ∀ (l m : List (List Int)) (n : Nat), sizeP t n (l ++ m) = sizeP t n l + sizeP t (n + l.length) m
  | [], m, n => by simp [sizeP]
  | b :: l, m, n => by
    simp only [List.cons_append, sizeP, sizeP_app t l m, List.length_cons]
    rw [show n + 1 + l.length = n + (l.length + 1) by omega]
    omega
theorem FitP_app {t : Nat} : ∀ {l m : List (List Int)} {n : Nat}, FitP t n (l ++ m) → FitP t n l
  | [], _, _, _ => trivial
  | _ :: _, _, _, ⟨h1, h2⟩ => ⟨h1, FitP_app h2⟩

/-! ### What no write touches stays -/
theorem lastAt_no {j : Nat} : ∀ {l : List (Nat × List Int)} {d : List Int}, (∀ x ∈ l, x.1 ≠ j) → lastAt j d l = d
  | [], _, _ => rfl
  | x :: l, d, h => by
    simp only [lastAt]
    rw [if_neg (h x (by simp))]
    exact lastAt_no (fun y hy => h y (by simp [hy]))
theorem landAll_other {j : Nat} (M : List Int) : ∀ (l : List (Nat × List Int)) (k : Nat) (L : List (List Int)), (∀ x ∈ l, x.1 ≠ j) → (landAll M k L l).getD j [] = L.getD j []
  | [], _, _, _ => rfl
  | x :: l, k, L, h => by
    simp only [landAll]
    rw [landAll_other M l (k + 1) _ (fun y hy => h y (by simp [hy]))]
    have hx := h x (by simp)
    simp only [List.getD_eq_getElem?_getD]
    rw [List.getElem?_set_ne hx]
theorem start_now {S : DS} (M : List Int) {j : Nat} (h : ∀ x ∈ S.waits, x.1 ≠ j) : (S.start M).now j = S.now j := by
  unfold DS.start DS.now
  simp only [lastAt]
  rw [landAll_other M _ _ _ h, lastAt_no h]
theorem start_len (S : DS) (M : List Int) : (S.start M).sure.length = S.sure.length := by
  unfold DS.start
  simp only
  exact landAll_len _ _ _ _
theorem start_good (S : DS) (M : List Int) : (S.start M).Good := by
  unfold DS.start
  exact ⟨rfl, rfl⟩

/-- The first k records of l are sure: no write waits for their sectors. -/
structure Sure (S : DS) (s : SS) (l : List (List Int)) (k : Nat) : Prop where
  le : k ≤ l.length
  waits : ∀ x ∈ S.waits, s.f + sizeP s.t 0 (l.take k) ≤ x.1
theorem Sure.start {S : DS} {s : SS} {l : List (List Int)} {k : Nat} (hok : S.Ok) (h : Has S s l) (hk : Sure S s l k) (M : List Int) :
    (scanAll s.t (stP (S.start M) s.f s.m)).1.take k = l.take k ∧ k ≤ (scanAll s.t (stP (S.start M) s.f s.m)).1.length := by
  obtain ⟨u, hu⟩ : ∃ u, sizeP s.t 0 (l.take k) = u := ⟨_, rfl⟩
  have hl : l.take k ++ l.drop k = l := List.take_append_drop k l
  have hsz : sizeP s.t 0 l = u + sizeP s.t (0 + (l.take k).length) (l.drop k) := by
    rw [← hu, ← sizeP_app, hl]
  have hum : u ≤ s.m := by have := h.um; rw [h.u, hsz] at this; omega
  have hfit : FitP s.t 0 (l.take k) := FitP_app (by rw [hl]; exact h.fit)
  have hst : stP (S.start M) s.f u = formsP s.t 0 (l.take k) := by
    have e1 : stP (S.start M) s.f u = stP S s.f u := stP_congr (fun j h1 h2 => start_now M (fun x hx e => by
      have := hk.waits x hx
      rw [hu] at this
      omega))
    rw [e1]
    have e2 := stP_add S s.f (s.m - u) u
    rw [show u + (s.m - u) = s.m by omega, h.bytes] at e2
    have e3 : formsP s.t 0 l = formsP s.t 0 (l.take k) ++ formsP s.t (0 + (l.take k).length) (l.drop k) := by rw [← formsP_app, hl]
    rw [e3, List.append_assoc] at e2
    have e4 : (formsP s.t 0 (l.take k)).length = (stP S s.f u).length := by
      rw [formsP_len, hu]
      rw [stP_len hok s.f u (by have := h.room; omega)]
    exact ((List.append_inj e2 e4).1).symm
  have hspl : stP (S.start M) s.f s.m = formsP s.t 0 (l.take k) ++ stP (S.start M) (s.f + u) (s.m - u) := by
    have := stP_add (S.start M) s.f (s.m - u) u
    rw [show u + (s.m - u) = s.m by omega, hst] at this
    exact this
  obtain ⟨fuel', _, e⟩ := scanP_app s.t (stP (S.start M) (s.f + u) (s.m - u)) (l.take k) 0 ((stP (S.start M) s.f s.m).length + 1) hfit (by rw [← hspl]; omega)
  rw [← hspl] at e
  have hlk : (l.take k).length = k := by rw [List.length_take]; have := hk.le; omega
  unfold scanAll
  rw [e]
  constructor
  · simp only
    rw [List.take_append_of_le_length (by omega), List.take_of_length_le (by omega)]
  · simp only [List.length_append]
    omega


/-- A record that is put waits behind what is there. -/
theorem write_waits (S : DS) (a : Nat) (b : List Int) : ∀ x ∈ (S.write (a : Int) b).2.waits, x ∈ S.waits ∨ x.1 = a := by
  unfold DS.write
  split
  · exact fun x hx => .inl hx
  split
  · exact fun x hx => .inl hx
  split
  · exact fun x hx => .inl hx
  split
  · exact fun x hx => .inl hx
  · intro x hx
    simp only [List.mem_append, List.mem_singleton] at hx
    rcases hx with hx | rfl
    · exact .inl hx
    · right
      simp
theorem putGo_waits (F : List Int) (a : Nat) : ∀ (k i : Nat) (T : DS), ∀ x ∈ (putGo F a k i T).2.waits, x ∈ T.waits ∨ a + i ≤ x.1
  | 0, i, T => by rw [putGo_zero]; exact fun x hx => .inl hx
  | k + 1, i, T => by
    intro x hx
    rw [putGo_succ] at hx
    split at hx
    · rcases putGo_waits F a k (i + 1) _ x hx with h | h
      · rcases write_waits T (a + i) _ x h with h | h
        · exact .inl h
        · exact .inr (by omega)
      · exact .inr (by omega)
    · rcases write_waits T (a + i) _ x hx with h | h
      · exact .inl h
      · exact .inr (by omega)
theorem putR_waits (s : SS) (S : DS) (b : List Int) : ∀ x ∈ (putR s S b).2.2.waits, x ∈ S.waits ∨ s.f + s.u ≤ x.1 := by
  unfold putR
  split
  · exact fun x hx => .inl hx
  split
  · exact fun x hx => .inl hx
  split
  · exact fun x hx => .inl hx
  · intro x hx
    split at hx
    · rcases putGo_waits _ _ _ _ _ x hx with h | h
      · exact .inl h
      · exact .inr (by omega)
    · rcases putGo_waits _ _ _ _ _ x hx with h | h
      · exact .inl h
      · exact .inr (by omega)
theorem sizeP_take_le (t : Nat) (l : List (List Int)) (k : Nat) : sizeP t 0 (l.take k) ≤ sizeP t 0 l := by
  have := sizeP_app t (l.take k) (l.drop k) 0
  rw [List.take_append_drop] at this
  omega
theorem Sure.put {S : DS} {s : SS} {l : List (List Int)} {k : Nat} (hk : Sure S s l k) (hu : s.u = sizeP s.t 0 l) {b : List Int} {s' : SS} (hf : s'.f = s.f) (ht : s'.t = s.t) : Sure (putR s S b).2.2 s' (l ++ [b]) k := by
  refine ⟨by have := hk.le; simp; omega, fun x hx => ?_⟩
  rw [hf, ht, List.take_append_of_le_length hk.le]
  rcases putR_waits s S b x hx with h | h
  · exact hk.waits x h
  · have := sizeP_take_le s.t l k
    omega

/-- A scroll that is opened on what stands there. -/
theorem Has.opened {S : DS} (hok : S.Ok) (hg : S.Good) {f m t : Nat} (hf : f + m ≤ S.sure.length) (ht : t ≤ mostP) :
    (openR S f m t).1 = 0 ∧ (openR S f m t).2.1 = (scanAll t (stP S f m)).1 ∧ (openR S f m t).2.2.1 = (scanAll t (stP S f m)).2 ∧ (openR S f m t).2.2.2.sure.length = S.sure.length ∧ (openR S f m t).2.2.2.waits.length ≤ S.waits.length + m ∧
      Has (openR S f m t).2.2.2 ⟨f, m, t, (scanAll t (stP S f m)).2, (scanAll t (stP S f m)).1.length, false⟩ (scanAll t (stP S f m)).1 := by
  obtain ⟨i1, i2, i3, i4⟩ := scanP_inv t ((stP S f m).length + 1) (stP S f m) 0 (stP_bd hok f m hf)
  change (stP S f m).take (64 * (scanAll t (stP S f m)).2) = formsP t 0 (scanAll t (stP S f m)).1 at i1
  change FitP t 0 (scanAll t (stP S f m)).1 at i2
  change (scanAll t (stP S f m)).2 = sizeP t 0 (scanAll t (stP S f m)).1 at i3
  change 64 * (scanAll t (stP S f m)).2 ≤ (stP S f m).length at i4
  rw [stP_len hok f m hf] at i4
  obtain ⟨W, u, hW⟩ : ∃ W u, scanAll t (stP S f m) = (W, u) := ⟨_, _, rfl⟩
  have hR : openR S f m t = ((wipeR S (f + u) (m - u)).1, W, u, (wipeR S (f + u) (m - u)).2) := by
    unfold openR
    rw [if_neg (by rw [hg.1]; simp), hW]
  rw [hW] at i1 i2 i3 i4
  simp only at i1 i2 i3 i4
  obtain ⟨e1, e2, e3, e4, e5⟩ := wipeR_good hok hg (f := f + u) (m := m - u) (by omega)
  rw [hR, hW]
  refine ⟨e1, rfl, rfl, e3, by simp only; omega, ⟨e2, rfl, by simp only; rw [e3]; exact hf, ht, rfl, i3, by simp only; omega, i2, ?_, fun j h1 h2 => ?_⟩⟩
  · simp only
    have hsp := stP_add (wipeR S (f + u) (m - u)).2 f (m - u) u
    rw [show u + (m - u) = m by omega] at hsp
    rw [hsp]
    congr 1
    rw [← i1]
    have hsp2 := stP_add S f (m - u) u
    rw [show u + (m - u) = m by omega] at hsp2
    rw [hsp2, List.take_append_of_le_length (by rw [stP_len hok f u (by omega)]; exact Nat.le_refl _), List.take_of_length_le (by rw [stP_len hok f u (by omega)]; exact Nat.le_refl _)]
    exact stP_congr (fun j h1 h2 => by rw [e5 j (by omega), if_neg (by omega)])
  · simp only at h1 h2
    rw [e5 j (by omega), if_pos (by omega)]

end Go.Proofs.YtohadeijmmmcdaaDoor
