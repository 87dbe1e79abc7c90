/-
  What is read is just what is put: bytes that begin with a record are its form. Plainly.
  ScrollKeeps, plainly: what was synced is told, whatever the power does.
  What a stretch of a drum has (seisinlaw13.bytes).
-/
import Derived.Test.YtohadeijmmmcdaaDoorLawS
import Derived.Test.YtohadeijmmmcdaaDoorRScan
import Derived.Test.YtohadeijmmmcdaaDoorChestG

section
namespace Go.Proofs.YtohadeijmmmcdaaDoor

theorem beP_snoc {n x : Nat} (hx : x < 256) (h : 0 < n * 256 + x) : beP (n * 256 + x) = beP n ++ [(x : Int)] := by
  unfold beP
  rw [leP_pos h, show (n * 256 + x) % 256 = x by omega, show (n * 256 + x) / 256 = n by omega]
  simp
theorem beP_zero : beP 0 = [] := by simp [beP, leP_zero]
theorem valP_inv' : ∀ (k : Nat) (q : List Int), q.length = k → (∀ x ∈ q, 0 ≤ x ∧ x ≤ 255) → (0 < q.length → q.headD 1 ≠ 0) → beP (valP q) = q
  | 0, q, hl, _, _ => by
    have : q = [] := List.length_eq_zero_iff.1 hl
    subst this
    exact beP_zero
  | k + 1, q, hl, hb, hh => by
    rcases List.eq_nil_or_concat q with rfl | ⟨p, x, rfl⟩
    · simp at hl
    · rw [List.concat_eq_append] at hl hb hh ⊢
      have hxb := hb x (by simp)
      obtain ⟨X, rfl⟩ : ∃ X : Nat, x = X := ⟨x.toNat, by omega⟩
      rw [valP_snoc, Int.toNat_natCast]
      cases p with
      | nil =>
        have : X ≠ 0 := by
          have := hh (by simp)
          simpa using this
        rw [beP_snoc (by omega) (by simp [valP]; omega)]
        simp [valP, beP_zero]
      | cons y p =>
        have ih := valP_inv' k (y :: p) (by simpa using hl) (fun z hz => hb z (by
          rcases List.mem_append.2 (.inl hz) with h
          exact List.mem_append.2 (.inl hz))) (fun _ => by simpa using hh (by simp))
        have hpos : 0 < valP (y :: p) := by
          rcases Nat.eq_zero_or_pos (valP (y :: p)) with e | e
          · rw [e, beP_zero] at ih; cases ih
          · exact e
        rw [beP_snoc (by omega) (by omega), ih]
theorem valP_inv {q : List Int} (hb : ∀ x ∈ q, 0 ≤ x ∧ x ≤ 255) (hh : 0 < q.length → q.headD 1 ≠ 0) : beP (valP q) = q := valP_inv' _ q rfl hb hh

theorem takeNumP_inv {most v : Nat} {l r : List Int} (hb : ∀ x ∈ l, 0 ≤ x ∧ x ≤ 255) (h : takeNumP most l = some (v, r)) : l = numP v ++ r ∧ v ≤ most := by
  cases l with
  | nil => simp [takeNumP] at h
  | cons k tl =>
    simp only [takeNumP] at h
    split at h
    · cases h
    · rename_i hc
      simp only [Option.some.injEq, Prod.mk.injEq] at h
      obtain ⟨hv, rfl⟩ := h
      simp only [not_or, Nat.not_lt] at hc
      obtain ⟨h8, hl, hz, hm⟩ := hc
      have hk := hb k (by simp)
      have e := valP_inv (q := tl.take k.toNat) (fun x hx => hb x (by simp [List.mem_of_mem_take hx])) (fun h0 => by
        simp only [List.length_take] at h0
        have h1 : 0 < k.toNat := by omega
        have h2 : tl.headD 1 ≠ 0 := fun e => hz ⟨h1, e⟩
        cases tl with
        | nil => simp at h0
        | cons a q => obtain ⟨j, hj⟩ : ∃ j, k.toNat = j + 1 := ⟨k.toNat - 1, by omega⟩
                      rw [hj]
                      simpa using h2)
      rw [hv] at e hm
      refine ⟨?_, hm⟩
      have hlen : (leP v).length = k.toNat := by rw [← beP_len, e, List.length_take]; omega
      unfold numP
      rw [hlen, e, List.cons_append, List.take_append_drop]
      congr 1
      omega
theorem takeTextP_inv {most : Nat} {l t r : List Int} (hb : ∀ x ∈ l, 0 ≤ x ∧ x ≤ 255) (h : takeTextP most l = some (t, r)) : l = numP t.length ++ t ++ r ∧ t.length ≤ most := by
  unfold takeTextP at h
  cases hR : takeNumP most l with
  | none => rw [hR] at h; cases h
  | some vr =>
    obtain ⟨v, r'⟩ := vr
    rw [hR] at h
    simp only at h
    split at h
    · cases h
    · rename_i hl
      simp only [Option.some.injEq, Prod.mk.injEq] at h
      obtain ⟨rfl, rfl⟩ := h
      obtain ⟨e, hm⟩ := takeNumP_inv hb hR
      have hlen : (r'.take v).length = v := by rw [List.length_take]; omega
      refine ⟨?_, by rw [hlen]; exact hm⟩
      rw [hlen, List.append_assoc, List.take_append_drop]
      exact e
theorem eyeP_inv {f x : List Int} {long t n : Nat} (hb : ∀ y ∈ f, 0 ≤ y ∧ y ≤ 255) (h : eyeP f long = some (t, n, x)) : f = fieldsP t n x ∧ t ≤ mostP ∧ n ≤ mostP := by
  unfold eyeP at h
  cases h1 : takeNumP mostP f with
  | none => rw [h1] at h; cases h
  | some vr =>
    obtain ⟨v, r⟩ := vr
    rw [h1] at h
    simp only at h
    obtain ⟨e1, m1⟩ := takeNumP_inv hb h1
    have hb1 : ∀ y ∈ r, 0 ≤ y ∧ y ≤ 255 := fun y hy => hb y (by rw [e1]; simp [hy])
    cases h2 : takeNumP mostP r with
    | none => rw [h2] at h; cases h
    | some vr2 =>
      obtain ⟨v2, r2⟩ := vr2
      rw [h2] at h
      simp only at h
      obtain ⟨e2, m2⟩ := takeNumP_inv hb1 h2
      have hb2 : ∀ y ∈ r2, 0 ≤ y ∧ y ≤ 255 := fun y hy => hb1 y (by rw [e2]; simp [hy])
      cases h3 : takeTextP long r2 with
      | none => rw [h3] at h; cases h
      | some xr =>
        obtain ⟨y, r3⟩ := xr
        rw [h3] at h
        simp only at h
        split at h
        · rename_i hr3
          simp only [Option.some.injEq, Prod.mk.injEq] at h
          obtain ⟨rfl, rfl, rfl⟩ := h
          obtain ⟨e3, _⟩ := takeTextP_inv hb2 h3
          rw [hr3, List.append_nil] at e3
          refine ⟨?_, m1, m2⟩
          unfold fieldsP
          rw [← e3, List.append_assoc, ← e2]
          exact e1
        · cases h
theorem be4_word {b : List Int} (hb : ∀ x ∈ b, 0 ≤ x ∧ x ≤ 255) (h : 4 ≤ b.length) : be4P (word4P b) = b.take 4 := by
  match b, h with
  | a0 :: a1 :: a2 :: a3 :: r, _ =>
    have h0 := hb a0 (by simp)
    have h1 := hb a1 (by simp)
    have h2 := hb a2 (by simp)
    have h3 := hb a3 (by simp)
    simp only [be4P, word4P, List.getD_cons_zero, List.getD_cons_succ, List.take_succ_cons, List.take_zero, List.cons.injEq, and_true]
    omega
theorem zeros_of_any {l : List Int} (h : l.any (· != 0) = false) : l = List.replicate l.length 0 := by
  refine List.ext_getElem (by simp) (fun i h1 h2 => ?_)
  rw [List.getElem_replicate]
  have := List.any_eq_false.1 h _ (List.getElem_mem h1)
  simpa using this

/-- Bytes that begin with a record begin with its form. -/
theorem readP_inv {b : List Int} {r : RecP} (hb : ∀ x ∈ b, 0 ≤ x ∧ x ≤ 255) (h : readP b = some r) :
    b.take (64 * r.size) = formP r.t r.n r.b ∧ r.size = recS r.t r.n r.b ∧ formE r.t r.n r.b = 0 := by
  unfold readP at h
  split at h
  · cases h
  rename_i h12
  split at h
  · cases h
  rename_i hsz
  split at h
  · cases h
  rename_i hbad
  simp only [not_or, Nat.not_lt] at hsz
  have hs : (b.drop 4).take 8 = sumP ((b.drop 12).take (word4P b)) := by
    by_cases e : (b.drop 4).take 8 = sumP ((b.drop 12).take (word4P b))
    · exact e
    · exact absurd (.inl e) hbad
  have hz : ((b.drop (12 + word4P b)).take (secP (12 + word4P b) * 64 - (12 + word4P b))).any (· != 0) = false := by
    cases e : ((b.drop (12 + word4P b)).take (secP (12 + word4P b) * 64 - (12 + word4P b))).any (· != 0) with
    | false => rfl
    | true => exact absurd (.inr e) hbad
  obtain ⟨L, hL⟩ : ∃ L, word4P b = L := ⟨_, rfl⟩
  have hbe := be4_word hb (by omega)
  rw [hL] at h hsz hs hz hbe
  cases he : eyeP ((b.drop 12).take L) L with
  | none => rw [he] at h; cases h
  | some x =>
    obtain ⟨t, n, y⟩ := x
    rw [he] at h
    simp only [Option.some.injEq] at h
    subst h
    obtain ⟨ef, ht, hn⟩ := eyeP_inv (fun z hz => hb z (List.mem_of_mem_drop (List.mem_of_mem_take hz))) he
    have hfl : ((b.drop 12).take L).length = L := by
      rw [List.length_take, List.length_drop]
      have : 12 + L ≤ secP (12 + L) * 64 := by unfold secP; omega
      omega
    have hlt : 12 + L ≤ secP (12 + L) * 64 := by unfold secP; omega
    have hFl : (fieldsP t n y).length = L := by rw [← ef, hfl]
    refine ⟨?_, by simp only [recS, hFl], ?_⟩
    · simp only
      unfold formP
      rw [hFl, ← ef, hbe, ← hs]
      have hzl : ((b.drop (12 + L)).take (secP (12 + L) * 64 - (12 + L))).length = secP (12 + L) * 64 - (12 + L) := by
        rw [List.length_take, List.length_drop]; omega
      have hz' := zeros_of_any hz
      rw [hzl] at hz'
      rw [← hz']
      rw [show 64 * secP (12 + L) = 4 + (8 + (L + (secP (12 + L) * 64 - (12 + L)))) by omega]
      rw [List.take_add, List.take_add, List.take_add, List.drop_drop, List.drop_drop]
      simp only [List.append_assoc]
    · simp only
      unfold formE
      rw [if_neg (by unfold mostP at ht hn; omega), Int.toNat_natCast, Int.toNat_natCast, hFl, if_neg (by omega)]

end Go.Proofs.YtohadeijmmmcdaaDoor
end

section
namespace Go.Proofs.YtohadeijmmmcdaaDoor

/-! ### Records that are read are forms -/
theorem scanP_app (t : Nat) (rest : List Int) : ∀ (l : List (List Int)) (n fuel : Nat), FitP t n l → (formsP t n l ++ rest).length < fuel →
    ∃ fuel', rest.length < fuel' ∧ scanP t fuel (formsP t n l ++ rest) n = (l ++ (scanP t fuel' rest (n + l.length)).1, sizeP t n l + (scanP t fuel' rest (n + l.length)).2)
  | [], n, fuel, _, h => ⟨fuel, by simpa [formsP] using h, by simp [formsP, sizeP]⟩
  | b :: l, n, 0, _, h => by simp at h
  | b :: l, n, fuel + 1, ⟨h1, h2⟩, hl => by
    obtain ⟨ht, hn, hs⟩ := formE_zero h1
    have e := readP_form (rest := formsP t (n + 1) l ++ rest) ht hn hs
    have ed : (formsP t n (b :: l) ++ rest).drop (64 * recS t n b) = formsP t (n + 1) l ++ rest := by
      simp only [formsP, List.append_assoc]
      have : (formP t n b).length = 64 * recS t n b := by rw [formP_len]; unfold recS; omega
      rw [← this]
      simp
    obtain ⟨fuel', hf, ih⟩ := scanP_app t rest l (n + 1) fuel h2 (by
      have := formP_len t n b
      simp only [formsP, List.length_append] at hl ⊢
      unfold secP at this
      omega)
    refine ⟨fuel', hf, ?_⟩
    simp only [scanP]
    rw [show formsP t n (b :: l) ++ rest = formP t n b ++ (formsP t (n + 1) l ++ rest) by simp [formsP]] at ed ⊢
    rw [e]
    simp only [if_true, and_self]
    rw [show secP (12 + (fieldsP t n b).length) = recS t n b from rfl, ed, ih]
    simp only [sizeP, List.cons_append, List.length_cons]
    rw [show n + 1 + l.length = n + (l.length + 1) by omega]
    simp only [Prod.mk.injEq, true_and]
    omega

/-- What a scan tells stands there, form by form. -/
theorem scanP_inv (t : Nat) : ∀ (k : Nat) (b : List Int) (n : Nat), (∀ x ∈ b, 0 ≤ x ∧ x ≤ 255) →
    b.take (64 * (scanP t k b n).2) = formsP t n (scanP t k b n).1 ∧ FitP t n (scanP t k b n).1 ∧ (scanP t k b n).2 = sizeP t n (scanP t k b n).1 ∧ 64 * (scanP t k b n).2 ≤ b.length
  | 0, b, n, _ => by simp [scanP, formsP, FitP, sizeP]
  | k + 1, b, n, hb => by
    simp only [scanP]
    cases hr : readP b with
    | none => simp [formsP, FitP, sizeP]
    | some r =>
      simp only
      by_cases hc : r.t = t ∧ r.n = n
      · rw [if_pos hc]
        obtain ⟨rfl, rfl⟩ := hc
        obtain ⟨e1, e2, e3⟩ := readP_inv hb hr
        obtain ⟨_, _, hsz⟩ := readP_size hr
        obtain ⟨i1, i2, i3, i4⟩ := scanP_inv r.t k (b.drop (64 * r.size)) (r.n + 1) (fun x hx => hb x (List.mem_of_mem_drop hx))
        rw [List.length_drop] at i4
        refine ⟨?_, ⟨e3, i2⟩, ?_, ?_⟩
        · simp only [formsP]
          rw [Nat.mul_add, List.take_add, e1, i1]
        · simp only [sizeP]
          rw [← e2, i3]
        · simp only
          omega
      · rw [if_neg hc]
        simp [formsP, FitP, sizeP]

theorem formsP_app (t : Nat) : ∀ (l m : List (List Int)) (n : Nat), formsP t n (l ++ m) = formsP t n l ++ formsP t (n + l.length) m
  | [], m, n => by simp [formsP]
  | b :: l, m, n => by
    simp only [List.cons_append, formsP, formsP_app t l m, List.length_cons, List.append_assoc]
    rw [show n + 1 + l.length = n + (l.length + 1) by omega]
theorem sizeP_app (t : Nat) : ∀ (l m : List (List Int)) (n : Nat), sizeP t n (l ++ m) = sizeP t n l + sizeP t (n + l.length) m
  | [], m, n => by simp [sizeP]
  | b :: l, m, n => by
    simp only [List.cons_append, sizeP, sizeP_app t l m, List.length_cons]
    rw [show n + 1 + l.length = n + (l.length + 1) by omega]
    omega
theorem FitP_app {t : Nat} : ∀ {l m : List (List Int)} {n : Nat}, FitP t n (l ++ m) → FitP t n l
  | [], _, _, _ => trivial
  | _ :: _, _, _, ⟨h1, h2⟩ => ⟨h1, FitP_app h2⟩

/-! ### What no write touches stays -/
theorem lastAt_no {j : Nat} : ∀ {l : List (Nat × List Int)} {d : List Int}, (∀ x ∈ l, x.1 ≠ j) → lastAt j d l = d
  | [], _, _ => rfl
  | x :: l, d, h => by
    simp only [lastAt]
    rw [if_neg (h x (by simp))]
    exact lastAt_no (fun y hy => h y (by simp [hy]))
theorem landAll_other {j : Nat} (M : List Int) : ∀ (l : List (Nat × List Int)) (k : Nat) (L : List (List Int)), (∀ x ∈ l, x.1 ≠ j) → (landAll M k L l).getD j [] = L.getD j []
  | [], _, _, _ => rfl
  | x :: l, k, L, h => by
    simp only [landAll]
    rw [landAll_other M l (k + 1) _ (fun y hy => h y (by simp [hy]))]
    have hx := h x (by simp)
    simp only [List.getD_eq_getElem?_getD]
    rw [List.getElem?_set_ne hx]
theorem start_now {S : DS} (M : List Int) {j : Nat} (h : ∀ x ∈ S.waits, x.1 ≠ j) : (S.start M).now j = S.now j := by
  unfold DS.start DS.now
  simp only [lastAt]
  rw [landAll_other M _ _ _ h, lastAt_no h]
theorem start_len (S : DS) (M : List Int) : (S.start M).sure.length = S.sure.length := by
  unfold DS.start
  simp only
  exact landAll_len _ _ _ _
theorem start_good (S : DS) (M : List Int) : (S.start M).Good := by
  unfold DS.start
  exact ⟨rfl, rfl⟩

/-- The first k records of l are sure: no write waits for their sectors. -/
structure Sure (S : DS) (s : SS) (l : List (List Int)) (k : Nat) : Prop where
  le : k ≤ l.length
  waits : ∀ x ∈ S.waits, s.f + sizeP s.t 0 (l.take k) ≤ x.1
theorem Sure.start {S : DS} {s : SS} {l : List (List Int)} {k : Nat} (hok : S.Ok) (h : Has S s l) (hk : Sure S s l k) (M : List Int) :
    (scanAll s.t (stP (S.start M) s.f s.m)).1.take k = l.take k ∧ k ≤ (scanAll s.t (stP (S.start M) s.f s.m)).1.length := by
  obtain ⟨u, hu⟩ : ∃ u, sizeP s.t 0 (l.take k) = u := ⟨_, rfl⟩
  have hl : l.take k ++ l.drop k = l := List.take_append_drop k l
  have hsz : sizeP s.t 0 l = u + sizeP s.t (0 + (l.take k).length) (l.drop k) := by
    rw [← hu, ← sizeP_app, hl]
  have hum : u ≤ s.m := by have := h.um; rw [h.u, hsz] at this; omega
  have hfit : FitP s.t 0 (l.take k) := FitP_app (by rw [hl]; exact h.fit)
  have hst : stP (S.start M) s.f u = formsP s.t 0 (l.take k) := by
    have e1 : stP (S.start M) s.f u = stP S s.f u := stP_congr (fun j h1 h2 => start_now M (fun x hx e => by
      have := hk.waits x hx
      rw [hu] at this
      omega))
    rw [e1]
    have e2 := stP_add S s.f (s.m - u) u
    rw [show u + (s.m - u) = s.m by omega, h.bytes] at e2
    have e3 : formsP s.t 0 l = formsP s.t 0 (l.take k) ++ formsP s.t (0 + (l.take k).length) (l.drop k) := by rw [← formsP_app, hl]
    rw [e3, List.append_assoc] at e2
    have e4 : (formsP s.t 0 (l.take k)).length = (stP S s.f u).length := by
      rw [formsP_len, hu]
      rw [stP_len hok s.f u (by have := h.room; omega)]
    exact ((List.append_inj e2 e4).1).symm
  have hspl : stP (S.start M) s.f s.m = formsP s.t 0 (l.take k) ++ stP (S.start M) (s.f + u) (s.m - u) := by
    have := stP_add (S.start M) s.f (s.m - u) u
    rw [show u + (s.m - u) = s.m by omega, hst] at this
    exact this
  obtain ⟨fuel', _, e⟩ := scanP_app s.t (stP (S.start M) (s.f + u) (s.m - u)) (l.take k) 0 ((stP (S.start M) s.f s.m).length + 1) hfit (by rw [← hspl]; omega)
  rw [← hspl] at e
  have hlk : (l.take k).length = k := by rw [List.length_take]; have := hk.le; omega
  unfold scanAll
  rw [e]
  constructor
  · simp only
    rw [List.take_append_of_le_length (by omega), List.take_of_length_le (by omega)]
  · simp only [List.length_append]
    omega


/-- A record that is put waits behind what is there. -/
theorem write_waits (S : DS) (a : Nat) (b : List Int) : ∀ x ∈ (S.write (a : Int) b).2.waits, x ∈ S.waits ∨ x.1 = a := by
  unfold DS.write
  split
  · exact fun x hx => .inl hx
  split
  · exact fun x hx => .inl hx
  split
  · exact fun x hx => .inl hx
  split
  · exact fun x hx => .inl hx
  · intro x hx
    simp only [List.mem_append, List.mem_singleton] at hx
    rcases hx with hx | rfl
    · exact .inl hx
    · right
      simp
theorem putGo_waits (F : List Int) (a : Nat) : ∀ (k i : Nat) (T : DS), ∀ x ∈ (putGo F a k i T).2.waits, x ∈ T.waits ∨ a + i ≤ x.1
  | 0, i, T => by rw [putGo_zero]; exact fun x hx => .inl hx
  | k + 1, i, T => by
    intro x hx
    rw [putGo_succ] at hx
    split at hx
    · rcases putGo_waits F a k (i + 1) _ x hx with h | h
      · rcases write_waits T (a + i) _ x h with h | h
        · exact .inl h
        · exact .inr (by omega)
      · exact .inr (by omega)
    · rcases write_waits T (a + i) _ x hx with h | h
      · exact .inl h
      · exact .inr (by omega)
theorem putR_waits (s : SS) (S : DS) (b : List Int) : ∀ x ∈ (putR s S b).2.2.waits, x ∈ S.waits ∨ s.f + s.u ≤ x.1 := by
  unfold putR
  split
  · exact fun x hx => .inl hx
  split
  · exact fun x hx => .inl hx
  split
  · exact fun x hx => .inl hx
  · intro x hx
    split at hx
    · rcases putGo_waits _ _ _ _ _ x hx with h | h
      · exact .inl h
      · exact .inr (by omega)
    · rcases putGo_waits _ _ _ _ _ x hx with h | h
      · exact .inl h
      · exact .inr (by omega)
theorem sizeP_take_le (t : Nat) (l : List (List Int)) (k : Nat) : sizeP t 0 (l.take k) ≤ sizeP t 0 l := by
  have := sizeP_app t (l.take k) (l.drop k) 0
  rw [List.take_append_drop] at this
  omega
theorem Sure.put {S : DS} {s : SS} {l : List (List Int)} {k : Nat} (hk : Sure S s l k) (hu : s.u = sizeP s.t 0 l) {b : List Int} {s' : SS} (hf : s'.f = s.f) (ht : s'.t = s.t) : Sure (putR s S b).2.2 s' (l ++ [b]) k := by
  refine ⟨by have := hk.le; simp; omega, fun x hx => ?_⟩
  rw [hf, ht, List.take_append_of_le_length hk.le]
  rcases putR_waits s S b x hx with h | h
  · exact hk.waits x h
  · have := sizeP_take_le s.t l k
    omega

/-- A scroll that is opened on what stands there. -/
theorem Has.opened {S : DS} (hok : S.Ok) (hg : S.Good) {f m t : Nat} (hf : f + m ≤ S.sure.length) (ht : t ≤ mostP) :
    (openR S f m t).1 = 0 ∧ (openR S f m t).2.1 = (scanAll t (stP S f m)).1 ∧ (openR S f m t).2.2.1 = (scanAll t (stP S f m)).2 ∧ (openR S f m t).2.2.2.sure.length = S.sure.length ∧ (openR S f m t).2.2.2.waits.length ≤ S.waits.length + m ∧
      Has (openR S f m t).2.2.2 ⟨f, m, t, (scanAll t (stP S f m)).2, (scanAll t (stP S f m)).1.length, false⟩ (scanAll t (stP S f m)).1 := by
  obtain ⟨i1, i2, i3, i4⟩ := scanP_inv t ((stP S f m).length + 1) (stP S f m) 0 (stP_bd hok f m hf)
  change (stP S f m).take (64 * (scanAll t (stP S f m)).2) = formsP t 0 (scanAll t (stP S f m)).1 at i1
  change FitP t 0 (scanAll t (stP S f m)).1 at i2
  change (scanAll t (stP S f m)).2 = sizeP t 0 (scanAll t (stP S f m)).1 at i3
  change 64 * (scanAll t (stP S f m)).2 ≤ (stP S f m).length at i4
  rw [stP_len hok f m hf] at i4
  obtain ⟨W, u, hW⟩ : ∃ W u, scanAll t (stP S f m) = (W, u) := ⟨_, _, rfl⟩
  have hR : openR S f m t = ((wipeR S (f + u) (m - u)).1, W, u, (wipeR S (f + u) (m - u)).2) := by
    unfold openR
    rw [if_neg (by rw [hg.1]; simp), hW]
  rw [hW] at i1 i2 i3 i4
  simp only at i1 i2 i3 i4
  obtain ⟨e1, e2, e3, e4, e5⟩ := wipeR_good hok hg (f := f + u) (m := m - u) (by omega)
  rw [hR, hW]
  refine ⟨e1, rfl, rfl, e3, by simp only; omega, ⟨e2, rfl, by simp only; rw [e3]; exact hf, ht, rfl, i3, by simp only; omega, i2, ?_, fun j h1 h2 => ?_⟩⟩
  · simp only
    have hsp := stP_add (wipeR S (f + u) (m - u)).2 f (m - u) u
    rw [show u + (m - u) = m by omega] at hsp
    rw [hsp]
    congr 1
    rw [← i1]
    have hsp2 := stP_add S f (m - u) u
    rw [show u + (m - u) = m by omega] at hsp2
    rw [hsp2, List.take_append_of_le_length (by rw [stP_len hok f u (by omega)]; exact Nat.le_refl _), List.take_of_length_le (by rw [stP_len hok f u (by omega)]; exact Nat.le_refl _)]
    exact stP_congr (fun j h1 h2 => by rw [e5 j (by omega), if_neg (by omega)])
  · simp only at h1 h2
    rw [e5 j (by omega), if_pos (by omega)]

end Go.Proofs.YtohadeijmmmcdaaDoor
end

section
namespace Go.Proofs.YtohadeijmmmcdaaDoor
open Go.RowKit
set_option maxRecDepth 100000

section
attribute [local go_sem ↓] apt22_of
set_option maxHeartbeats 4000000 in
theorem lbytes_any (B : Nat) (p gs : Nat) (wv : Value) (S : DS) (f n : Nat) (w : World) (h : IsDrum B w p gs wv S) (hoff : S.off = false) (hf : f + n ≤ S.sure.length) (hlen : S.waits.length ≤ 1000000000) :
    Calls Tryd.prog 32 #[.pointer (some ⟨p, 0, none⟩), .int .i64 (f : Int), .int .i64 (n : Int)] w fun e w' => ∃ v, e = .returned v ∧ Own8 w.heap.size w' v (stP S f n) ∧ Below w.heap.size w w' := by
  have hn2 := h.ok.n2
  have H := Lib.hid h
  have HOF := Lib.hid hoff
  clear h hoff
  go_enter Tryd.func32, Tryd.ntmps32
  go_wp2_with fail
  go_loopg [7, 8] n (fun k v t wr => ∃ (i N : Nat) (A : Option Addr) (c : Nat), i + k = n ∧ t = .int .i64 (i : Int) ∧ N = 64 * i ∧ v = .slice A N c ∧ Own8 w.heap.size wr v (stP S f i) ∧ Below w.heap.size w wr)
  case atStart => exact ⟨0, 0, none, 0, by omega, rfl, rfl, rfl, by simpa [stP] using Own8.nil _ _, Below.refl _ _⟩
  case round =>
    obtain ⟨i, N, A2, c2, hi, rfl, hN, rfl, ho, hb⟩ := hrel
    have hsl : (stP S f i).length = N := by rw [stP_len H.out.ok f i (by omega), hN]
    have HO := Lib.hid ho
    have HB := Lib.hid hb
    have HSL := Lib.hid hsl
    have HN := Lib.hid hN
    clear ho hb hsl hN
    by_cases hlt : i < n
    · have hltI : (i : Int) < (n : Int) := by omega
      have hd := H.out.fr (Fr.of_below HB.out) (fun k hk h => by have := (H.out.lt hk).2; omega)
      have hr := read_any B p gs wv S ((f + i : Nat) : Int) wr hd hlen
      have e1 : S.read ((f + i : Nat) : Int) = (S.now (f + i), 0) := by
        unfold DS.read
        rw [HOF.out, if_neg (by simp), if_neg (by omega), Int.toNat_natCast]
      have h64 : (S.now (f + i)).length = 64 := (DS.now_sec H.out.ok (by omega)).1
      rw [e1, Int.natCast_add] at hr
      simp only [h64] at hr
      have HR := Lib.hid hr
      have H64 := Lib.hid h64
      clear hr e1 h64 hd
      go_wp2_with fail
      with_reducible refine HR.out.mono ?_
      rintro e w1 ⟨A3, c3, rfl, hnew, hB1⟩
      have hA3 : A3 = none → c3 = 0 := by
        rintro rfl
        obtain ⟨g, o, e, _⟩ := hnew.byt.cell (by rw [H64.out]; omega)
        cases e
      have ho1 := HO.out.fr (Fr.of_below hB1) (fun k hk h => by have := (HO.out.lt hk).2; omega)
      obtain ⟨v4, w4, hap, ho4, hf4, _⟩ := app8 (ty := 22) (c := c3) ho1 hnew.byt (by rw [HSL.out, H64.out]; have := HN.out; omega) (Nat.le_trans HB.out.size hB1.size) hA3
      obtain ⟨A4, c4, rfl⟩ := ho4.form
      rw [H64.out] at hap
      have hl4 : (stP S f i ++ S.now (f + i)).length = N + 64 := by rw [List.length_append, HSL.out, H64.out]
      rw [hl4] at hap ho4
      rw [← stP_succ] at ho4
      have HO4 := Lib.hid ho4
      have BB4 := Lib.hid ((HB.out.trans (hB1.mono HB.out.size)).trans (hf4.below (Nat.le_trans HB.out.size hB1.size) (fun k hk e => by have := (HO.out.lt e).1; omega)))
      clear hnew hB1 ho1 ho4 hf4 hA3 hl4 HR
      go_wp2_with fail
      go_roundg (n - (i + 1))
      case measure => omega
      case rel => exact ⟨i + 1, N + 64, _, _, by omega, by go_num, by have := HN.out; omega, rfl, HO4.out, BB4.out⟩
    · obtain rfl : i = n := by omega
      have hltI : ¬ (i : Int) < (i : Int) := by omega
      go_wp2_with fail
      go_ret
      exact ⟨_, rfl, HO.out, HB.out⟩
end

/-! ### Texts behind texts -/
theorem TxsV.take {w : World} {A : Option Addr} {xs : List Value} {L : List (List Int)} (h : TxsV w A xs L) (n : Nat) : TxsV w A (xs.take n) (L.take n) := by
  refine ⟨by rw [List.length_take, List.length_take, h.len], fun h0 => ?_, fun i hi hi' => ?_⟩
  · rw [List.length_take] at h0
    obtain ⟨g, o, e, hg, hc⟩ := h.cell (by omega)
    refine ⟨g, o, e, hg, fun j x hx => hc j x ?_⟩
    rw [List.getElem?_take] at hx
    split at hx
    · exact hx
    · cases hx
  · rw [List.getElem_take, List.getElem_take]
    exact h.txt i (by rw [List.length_take] at hi; omega) (by rw [List.length_take] at hi'; omega)
theorem Byt.keptS {n₀ : Nat} {ts : List TypeId} {w w' : World} {A : Option Addr} {l : List Int} (h : Byt w A l) (hk : Kept n₀ ts w w') (hu : 5 ∉ ts) (hA : ∀ a, A = some a → 0 < l.length → a.block < n₀ ∨ ∃ cs, Blk w a.block 5 cs) : Byt w' A l := by
  refine ⟨fun h0 => ?_, h.bd⟩
  obtain ⟨g, o, rfl, hg, hc⟩ := h.cell h0
  refine ⟨g, o, rfl, Nat.lt_of_lt_of_le hg hk.size, fun j x hx => ?_⟩
  rw [← hc j x hx]
  rcases hA _ rfl h0 with h1 | ⟨cs, hb⟩
  · exact hk.below.cell (p := ⟨g, o + j, none⟩) h1
  · have hb' := hk.kt _ _ _ hb hu
    exact (hb'.cell (o + j)).trans (hb.cell (o + j)).symm
theorem TxsV.kept {n₀ : Nat} {ts : List TypeId} {w w' : World} {A : Option Addr} {xs : List Value} {L : List (List Int)} (h : TxsV w A xs L) (hk : Kept n₀ ts w w') (hu : 5 ∉ ts) (ht : 22 ∉ ts)
    (hA : ∀ a, A = some a → ∃ cs, Blk w a.block 22 cs) (hX : ∀ i (h : i < xs.length) (h' : i < L.length), ∀ k, xs[i].ownBlock = some k → 0 < L[i].length → k < n₀ ∨ ∃ cs, Blk w k 5 cs) : TxsV w' A xs L := by
  refine ⟨h.len, fun h0 => ?_, fun i hi hi' => ?_⟩
  · obtain ⟨g, o, rfl, hg, hc⟩ := h.cell h0
    obtain ⟨cs, hb⟩ := hA _ rfl
    have hb' := hk.kt _ _ _ hb ht
    exact ⟨g, o, rfl, Nat.lt_of_lt_of_le hg hk.size, fun j x hx => by rw [← hc j x hx]; exact (hb'.cell (o + j)).trans (hb.cell (o + j)).symm⟩
  · obtain ⟨A', c, e, hb, hn⟩ := h.txt i hi hi'
    refine ⟨A', c, e, hb.keptS hk hu (fun a ha h0 => hX i hi hi' a.block (by rw [e, ha]; rfl) h0), hn⟩

/-- Texts copied, and one more of two bytes. -/
theorem app_two (w : World) {A : Option Addr} {c : Nat} {xs : List Value} {L : List (List Int)} (h : TxsV w A xs L) (hA : A = none → c = 0) (hlen : L.length ≤ 1000000) :
    ∃ A1 c1 w1 A2 c2 w2 xs2, (APs #[33, 33] 33 #[.slice (some ⟨w.heap.size, 0, none⟩) 0 0, .slice A L.length c]).run Tryd.prog (w.alloc (.cells #[] 22)) = .ok (.slice A1 L.length c1) w1 ∧
      (APs #[33, 33] 33 #[.slice A1 L.length c1, .slice (some ⟨w1.heap.size + 1, 0, none⟩) 1 1]).run Tryd.prog ((w1.alloc (.cells #[.int .u8 1, .int .u8 2] 5)).alloc (.cells #[.slice (some ⟨w1.heap.size, 0, none⟩) 2 2] 22)) = .ok (.slice A2 (L.length + 1) c2) w2 ∧
      TxsV w2 A2 xs2 (L ++ [[1, 2]]) ∧ Below w.heap.size w w2 := by
  have hb0 : Below w.heap.size w (w.alloc (.cells #[] 22)) := (Below.refl _ w).alloc (Nat.le_refl _) _
  have h0 : (w.alloc (.cells #[] 22)).ownsRow w.heap.size 22 1 (.slice (some ⟨w.heap.size, 0, none⟩) 0 0) 0 [] := own_nul w _ _ (Nat.le_refl _)
  have hT0 := h.below hb0
  -- the copy
  have hcopy : ∃ v1 w1, (APs #[33, 33] 33 #[.slice (some ⟨w.heap.size, 0, none⟩) 0 0, .slice A L.length c]).run Tryd.prog (w.alloc (.cells #[] 22)) = .ok v1 w1 ∧ w1.ownsRow w.heap.size 22 1 v1 L.length xs ∧ Fr (fun k => k = w.heap.size) (w.alloc (.cells #[] 22)) w1 := by
    cases A with
    | none =>
      have e : xs = [] := by
        cases xs with
        | nil => rfl
        | cons x r =>
          obtain ⟨g, o, e, _⟩ := h.cell (by simp)
          cases e
      subst e
      have eL : L.length = 0 := by rw [← h.len]; rfl
      obtain rfl := hA rfl
      obtain ⟨i, hi⟩ := Option.map_eq_some_iff.1 iT
      rw [eL]
      exact ⟨_, _, run_append_owned_none _ w.heap.size 33 33 22 i 1 uT hi.1 _ _ _ h0, h0, Fr.refl _ _⟩
    | some a =>
      obtain ⟨v', w', e1, e2, e3, _⟩ := APs_own (P := Tryd.prog) (ty := 33) uT iT (by omega) h0 (a := a) (m := L.length) (c := c) xs (by rw [h.len]; omega) (fun j u hu => by
        have hj : j < xs.length := (List.getElem?_eq_some_iff.1 hu).1
        obtain ⟨g, o, e, _, hc⟩ := hT0.cell (by omega)
        cases e
        rw [addN]
        exact hc j u hu) (fun u hu => by
        obtain ⟨i, hi, rfl⟩ := List.getElem_of_mem hu
        exact (h.txt i hi (by rw [← h.len]; exact hi)).one) (by unfold maxLen; omega) (by omega) (by simp)
      refine ⟨v', w', e1, by simpa using e2, (Fr.refl _ _).grown e3 (fun k _ e => ?_)⟩
      simpa [Value.ownBlock, eq_comm] using e
  obtain ⟨v1, w1, r1, o1, f1⟩ := hcopy
  obtain ⟨A1, c1, rfl⟩ := own_form o1
  have hb1 : Below w.heap.size w w1 := hb0.trans (f1.below (by simp) (fun k hk e => by omega))
  have hT1 := h.below hb1
  -- one more
  have hz : (w1.alloc (.cells #[.int .u8 1, .int .u8 2] 5)).heap.size = w1.heap.size + 1 := by simp
  have hbk : Blk (w1.alloc (.cells #[.int .u8 1, .int .u8 2] 5)) w1.heap.size 5 (bys [1, 2]).toArray := Blk.new w1 _ _
  have hb2 : Below w1.heap.size w1 (w1.alloc (.cells #[.int .u8 1, .int .u8 2] 5)) := (Below.refl _ w1).alloc (Nat.le_refl _) _
  have o1' : (w1.alloc (.cells #[.int .u8 1, .int .u8 2] 5)).ownsRow w.heap.size 22 1 (.slice A1 L.length c1) L.length xs := World.ownsRow.alloc o1 _
  obtain ⟨v2, w2, r2, o2, f2, _⟩ := appT (ty := 33) o1' [.slice (some ⟨w1.heap.size, 0, none⟩) 2 2] (by intro u hu; simp at hu; subst hu; rfl) (by simp; omega) (Nat.le_trans hb1.size hb2.size)
  obtain ⟨A2, c2, rfl⟩ := own_form o2
  rw [hz] at r2
  have hrow : ∀ k, (Value.slice A1 L.length c1).ownBlock = some k → w.heap.size ≤ k := fun k hk => (World.ownsRow.lt o1 k hk).1
  refine ⟨A1, c1, w1, A2, c2, w2, xs ++ [.slice (some ⟨w1.heap.size, 0, none⟩) 2 2], r1, r2, ⟨by simp [h.len], fun h0 => ?_, fun i hi hi' => ?_⟩, (hb1.trans (hb2.mono hb1.size)).trans (f2.below (Nat.le_trans hb1.size hb2.size) (fun k hk e => by have := hrow k e; omega))⟩
  · obtain ⟨g, cap, e, _, hg, hc⟩ := own_cells o2 (by simp)
    simp only [Value.slice.injEq] at e
    refine ⟨g, 0, e.1, hg, fun j x hx => hc j x hx⟩
  · have hT2 := h.below (hb1.trans (hb2.mono hb1.size))
    by_cases hlt : i < xs.length
    · rw [List.getElem_append_left hlt, List.getElem_append_left (by rw [← h.len]; exact hlt)]
      have ht := h.txt i hlt (by rw [← h.len]; exact hlt)
      obtain ⟨A', c', e, hy, hn⟩ := ht
      refine ⟨A', c', e, ((hy.below (hb1.trans (hb2.mono hb1.size))).fr f2 (fun a ha h0 f => ?_)), hn⟩
      obtain ⟨g, o, e2, hg, _⟩ := hy.cell h0
      rw [ha] at e2
      cases e2
      have : w.heap.size ≤ g := hrow _ f
      omega
    · have hi2 : i = xs.length := by simp at hi; omega
      subst hi2
      simp only [List.getElem_append_right (Nat.le_refl _), Nat.sub_self, List.getElem_cons_zero]
      simp only [h.len, List.getElem_append_right (Nat.le_refl _), Nat.sub_self, List.getElem_cons_zero]
      refine ⟨some ⟨w1.heap.size, 0, none⟩, 2, rfl, ((hbk.byt (by intro x hx; simp at hx; omega)).fr f2 (fun a ha _ f => ?_)), by simp⟩
      cases ha
      exact own_ne o1' hbk (by decide) f

theorem OwnV.kept2 {B n₀ : Nat} {G : Nat → Prop} {ts : List TypeId} {w w' : World} {v : Value} {L : List (List Int)} (h : OwnV B G w v L) (hk : Kept n₀ ts w w') (ht : 22 ∉ ts) (hu : 5 ∉ ts) (hG : ∀ k, G k → k < n₀ ∨ ∃ cs, Blk w k 5 cs) : OwnV B G w' v L := by
  obtain ⟨xs, h1, h2, h3⟩ := h
  refine ⟨xs, hk.own h1 ht, h2, fun i hi hi' => ⟨?_, (h3 i hi hi').2⟩⟩
  obtain ⟨A', c, e, hb, hn⟩ := (h3 i hi hi').1
  exact ⟨A', c, e, hb.keptS hk hu (fun a ha h0 => hG _ ((h3 i hi hi').2 a.block (by rw [e, ha]; rfl) h0)), hn⟩
theorem slT_ofS (x : Value) (lo hi mx : Option Value) : Instr.sliceAt 33 x lo hi mx = SLs 33 x lo hi mx := rfl
theorem sTz : (Tryd.prog.info? 22).map (·.size) = some 1 := by kernel_rfl
theorem OwnV.head {B n c j : Nat} {G : Nat → Prop} {w : World} {A : Option Addr} {L : List (List Int)} (h : OwnV B G w (.slice A n c) L) (hj : j ≤ n) (W : World) :
    (SLs 33 (.slice A n c) none (some (.int .i64 (j : Int))) none).run Tryd.prog W = .ok (.slice A j c) W := by
  obtain ⟨i, hq, hi⟩ := Option.map_eq_some_iff.1 sTz
  obtain ⟨xs, ⟨h1, ⟨h2, h3⟩ | ⟨g, cap, cur, h2, _, _, hn, _⟩⟩, _⟩ := h
  · simp only [Value.slice.injEq] at h2
    obtain ⟨rfl, hn, rfl⟩ := h2
    obtain rfl : j = 0 := by omega
    subst hn
    simp [SLs, Instr.sliceAt, Instr.slice, Instr.sliceBounds, Instr.sliceBound, asIntOf, run_underlying uT, sizeOf, typeInfo, hq]
  · simp only [Value.slice.injEq] at h2
    obtain ⟨rfl, e, rfl⟩ := h2
    have hc : j ≤ c := by omega
    have hadd : (⟨g, 0, none⟩ : Addr).add 0 = ⟨g, 0, none⟩ := by unfold Addr.add; split <;> simp_all
    simp [SLs, Instr.sliceAt, Instr.slice, Instr.sliceBounds, Instr.sliceBound, asIntOf, run_underlying uT, sizeOf, typeInfo, hq, hc, hadd]

end Go.Proofs.YtohadeijmmmcdaaDoor
end
