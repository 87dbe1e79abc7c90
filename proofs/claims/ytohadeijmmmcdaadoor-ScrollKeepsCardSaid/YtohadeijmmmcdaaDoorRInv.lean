/-
  What is read is just what is put: bytes that begin with a record are its form. Plainly.
-/
import Derived.Test.YtohadeijmmmcdaaDoorLawS
namespace Go.Proofs.YtohadeijmmmcdaaDoor

theorem beP_snoc {n x : Nat} (hx : x < 256) (h : 0 < n * 256 + x) : beP (n * 256 + x) = beP n ++ [(x : Int)] := by
  unfold beP
  rw [leP_pos h, show (n * 256 + x) % 256 = x by omega, show (n * 256 + x) / 256 = n by omega]
  simp
theorem beP_zero : beP 0 = [] := by simp [beP, leP_zero]
theorem valP_inv' : ∀ (k : Nat) (q : List Int), q.length = k → (∀ x ∈ q, 0 ≤ x ∧ x ≤ 255) → (0 < q.length → q.headD 1 ≠ 0) → beP (valP q) = q
  | 0, q, hl, _, _ => by
    have : q = [] := List.length_eq_zero_iff.1 hl
    subst this
    exact beP_zero
  | k + 1, q, hl, hb, hh => by
    rcases List.eq_nil_or_concat q with rfl | ⟨p, x, rfl⟩
    · simp at hl
    · rw [List.concat_eq_append] at hl hb hh ⊢
      have hxb := hb x (by simp)
      obtain ⟨X, rfl⟩ : ∃ X : Nat, x = X := ⟨x.toNat, by omega⟩
      rw [valP_snoc, Int.toNat_natCast]
      cases p with
      | nil =>
        have : X ≠ 0 := by
          have := hh (by simp)
          simpa using this
        rw [beP_snoc (by omega) (by simp [valP]; omega)]
        simp [valP, beP_zero]
      | cons y p =>
        have ih := valP_inv' k (y :: p) (by simpa using hl) (fun z hz => hb z (by
          rcases List.mem_append.2 (.inl hz) with h
          exact List.mem_append.2 (.inl hz))) (fun _ => by simpa using hh (by simp))
        have hpos : 0 < valP (y :: p) := by
          rcases Nat.eq_zero_or_pos (valP (y :: p)) with e | e
          · rw [e, beP_zero] at ih; cases ih
          · exact e
        rw [beP_snoc (by omega) (by omega), ih]
theorem valP_inv {q : List Int} (hb : ∀ x ∈ q, 0 ≤ x ∧ x ≤ 255) (hh : 0 < q.length → q.headD 1 ≠ 0) : beP (valP q) = q := valP_inv' _ q rfl hb hh

theorem takeNumP_inv {most v : Nat} {l r : List Int} (hb : ∀ x ∈ l, 0 ≤ x ∧ x ≤ 255) (h : takeNumP most l = some (v, r)) : l = numP v ++ r ∧ v ≤ most := by
  cases l with
  | nil => simp [takeNumP] at h
  | cons k tl =>
    simp only [takeNumP] at h
    split at h
    · cases h
    · rename_i hc
      simp only [Option.some.injEq, Prod.mk.injEq] at h
      obtain ⟨hv, rfl⟩ := h
      simp only [not_or, Nat.not_lt] at hc
      obtain ⟨h8, hl, hz, hm⟩ := hc
      have hk := hb k (by simp)
      have e := valP_inv (q := tl.take k.toNat) (fun x hx => hb x (by simp [List.mem_of_mem_take hx])) (fun h0 => by
        simp only [List.length_take] at h0
        have h1 : 0 < k.toNat := by omega
        have h2 : tl.headD 1 ≠ 0 := fun e => hz ⟨h1, e⟩
        cases tl with
        | nil => simp at h0
        | cons a q => obtain ⟨j, hj⟩ : ∃ j, k.toNat = j + 1 := ⟨k.toNat - 1, by omega⟩
                      rw [hj]
                      simpa using h2)
      rw [hv] at e hm
      refine ⟨?_, hm⟩
      have hlen : (leP v).length = k.toNat := by rw [← beP_len, e, List.length_take]; omega
      unfold numP
      rw [hlen, e, List.cons_append, List.take_append_drop]
      congr 1
      omega
theorem takeTextP_inv {most : Nat} {l t r : List Int} (hb : ∀ x ∈ l, 0 ≤ x ∧ x ≤ 255) (h : takeTextP most l = some (t, r)) : l = numP t.length ++ t ++ r ∧ t.length ≤ most := by
  unfold takeTextP at h
  cases hR : takeNumP most l with
  | none => rw [hR] at h; cases h
  | some vr =>
    obtain ⟨v, r'⟩ := vr
    rw [hR] at h
    simp only at h
    split at h
    · cases h
    · rename_i hl
      simp only [Option.some.injEq, Prod.mk.injEq] at h
      obtain ⟨rfl, rfl⟩ := h
      obtain ⟨e, hm⟩ := takeNumP_inv hb hR
      have hlen : (r'.take v).length = v := by rw [List.length_take]; omega
      refine ⟨?_, by rw [hlen]; exact hm⟩
      rw [hlen, List.append_assoc, List.take_append_drop]
      exact e
theorem eyeP_inv {f x : List Int} {long t n : Nat} (hb : ∀ y ∈ f, 0 ≤ y ∧ y ≤ 255) (h : eyeP f long = some (t, n, x)) : f = fieldsP t n x ∧ t ≤ mostP ∧ n ≤ mostP := by
  unfold eyeP at h
  cases h1 : takeNumP mostP f with
  | none => rw [h1] at h; cases h
  | some vr =>
    obtain ⟨v, r⟩ := vr
    rw [h1] at h
    simp only at h
    obtain ⟨e1, m1⟩ := takeNumP_inv hb h1
    have hb1 : ∀ y ∈ r, 0 ≤ y ∧ y ≤ 255 := fun y hy => hb y (by rw [e1]; simp [hy])
    cases h2 : takeNumP mostP r with
    | none => rw [h2] at h; cases h
    | some vr2 =>
      obtain ⟨v2, r2⟩ := vr2
      rw [h2] at h
      simp only at h
      obtain ⟨e2, m2⟩ := takeNumP_inv hb1 h2
      have hb2 : ∀ y ∈ r2, 0 ≤ y ∧ y ≤ 255 := fun y hy => hb1 y (by rw [e2]; simp [hy])
      cases h3 : takeTextP long r2 with
      | none => rw [h3] at h; cases h
      | some xr =>
        obtain ⟨y, r3⟩ := xr
        rw [h3] at h
        simp only at h
        split at h
        · rename_i hr3
          simp only [Option.some.injEq, Prod.mk.injEq] at h
          obtain ⟨rfl, rfl, rfl⟩ := h
          obtain ⟨e3, _⟩ := takeTextP_inv hb2 h3
          rw [hr3, List.append_nil] at e3
          refine ⟨?_, m1, m2⟩
          unfold fieldsP
          rw [← e3, List.append_assoc, ← e2]
          exact e1
        · cases h
theorem be4_word {b : List Int} (hb : ∀ x ∈ b, 0 ≤ x ∧ x ≤ 255) (h : 4 ≤ b.length) : be4P (word4P b) = b.take 4 := by
  match b, h with
  | a0 :: a1 :: a2 :: a3 :: r, _ =>
    have h0 := hb a0 (by simp)
    have h1 := hb a1 (by simp)
    have h2 := hb a2 (by simp)
    have h3 := hb a3 (by simp)
    simp only [be4P, word4P, List.getD_cons_zero, List.getD_cons_succ, List.take_succ_cons, List.take_zero, List.cons.injEq, and_true]
    omega
theorem zeros_of_any {l : List Int} (h : l.any (· != 0) = false) : l = List.replicate l.length 0 := by
  refine List.ext_getElem (by simp) (fun i h1 h2 => ?_)
  rw [List.getElem_replicate]
  have := List.any_eq_false.1 h _ (List.getElem_mem h1)
  simpa using this

/-- Bytes that begin with a record begin with its form. -/
theorem readP_inv {b : List Int} {r : RecP} (hb : ∀ x ∈ b, 0 ≤ x ∧ x ≤ 255) (h : readP b = some r) :
    b.take (64 * r.size) = formP r.t r.n r.b ∧ r.size = recS r.t r.n r.b ∧ formE r.t r.n r.b = 0 := by
  unfold readP at h
  split at h
  · cases h
  rename_i h12
  split at h
  · cases h
  rename_i hsz
  split at h
  · cases h
  rename_i hbad
  simp only [not_or, Nat.not_lt] at hsz
  have hs : (b.drop 4).take 8 = sumP ((b.drop 12).take (word4P b)) := by
    by_cases e : (b.drop 4).take 8 = sumP ((b.drop 12).take (word4P b))
    · exact e
    · exact absurd (.inl e) hbad
  have hz : ((b.drop (12 + word4P b)).take (secP (12 + word4P b) * 64 - (12 + word4P b))).any (· != 0) = false := by
    cases e : ((b.drop (12 + word4P b)).take (secP (12 + word4P b) * 64 - (12 + word4P b))).any (· != 0) with
    | false => rfl
    | true => exact absurd (.inr e) hbad
  obtain ⟨L, hL⟩ : ∃ L, word4P b = L := ⟨_, rfl⟩
  have hbe := be4_word hb (by omega)
  rw [hL] at h hsz hs hz hbe
  cases he : eyeP ((b.drop 12).take L) L with
  | none => rw [he] at h; cases h
  | some x =>
    obtain ⟨t, n, y⟩ := x
    rw [he] at h
    simp only [Option.some.injEq] at h
    subst h
    obtain ⟨ef, ht, hn⟩ := eyeP_inv (fun z hz => hb z (List.mem_of_mem_drop (List.mem_of_mem_take hz))) he
    have hfl : ((b.drop 12).take L).length = L := by
      rw [List.length_take, List.length_drop]
      have : 12 + L ≤ secP (12 + L) * 64 := by unfold secP; omega
      omega
    have hlt : 12 + L ≤ secP (12 + L) * 64 := by unfold secP; omega
    have hFl : (fieldsP t n y).length = L := by rw [← ef, hfl]
    refine ⟨?_, by simp only [recS, hFl], ?_⟩
    · simp only
      unfold formP
      rw [hFl, ← ef, hbe, ← hs]
      have hzl : ((b.drop (12 + L)).take (secP (12 + L) * 64 - (12 + L))).length = secP (12 + L) * 64 - (12 + L) := by
        rw [List.length_take, List.length_drop]; omega
      have hz' := zeros_of_any hz
      rw [hzl] at hz'
      rw [← hz']
      rw [show 64 * secP (12 + L) = 4 + (8 + (L + (secP (12 + L) * 64 - (12 + L)))) by omega]
      rw [List.take_add, List.take_add, List.take_add, List.drop_drop, List.drop_drop]
      simp only [List.append_assoc]
    · simp only
      unfold formE
      rw [if_neg (by unfold mostP at ht hn; omega), Int.toNat_natCast, Int.toNat_natCast, hFl, if_neg (by omega)]

end Go.Proofs.YtohadeijmmmcdaaDoor
