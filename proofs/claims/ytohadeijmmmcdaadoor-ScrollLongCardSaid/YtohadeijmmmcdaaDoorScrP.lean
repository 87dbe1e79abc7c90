/-
  Numbers, texts and records as bytes, plainly. No program in sight.
-/
import Derived.Test.YtohadeijmmmcdaaDoorShaP
namespace Go.Proofs.YtohadeijmmmcdaaDoor

/-- A number's bytes, the lowest first. -/
def leP (n : Nat) : List Int := if h : n = 0 then [] else ((n % 256 : Nat) : Int) :: leP (n / 256)
termination_by n
decreasing_by omega
theorem leP_zero : leP 0 = [] := by rw [leP]; simp
theorem leP_pos {n : Nat} (h : 0 < n) : leP n = ((n % 256 : Nat) : Int) :: leP (n / 256) := by rw [leP]; simp [show n ≠ 0 by omega]
theorem leP_bd (n : Nat) : ∀ x ∈ leP n, 0 ≤ x ∧ x ≤ 255 := by
  induction n using Nat.strongRecOn with
  | ind n ih =>
    intro x hx
    by_cases h : n = 0
    · subst h; rw [leP_zero] at hx; cases hx
    · rw [leP_pos (by omega)] at hx
      rcases List.mem_cons.1 hx with rfl | hx
      · omega
      · exact ih (n / 256) (by omega) x hx
theorem leP_len : ∀ (k n : Nat), n < 256 ^ k → (leP n).length ≤ k
  | 0, n, h => by
    have : n = 0 := by simpa using h
    subst this; simp [leP_zero]
  | k + 1, n, h => by
    by_cases h0 : n = 0
    · subst h0; simp [leP_zero]
    · rw [leP_pos (by omega)]
      have := leP_len k (n / 256) (by rw [Nat.pow_succ] at h; omega)
      simp only [List.length_cons]; omega

/-- A number's bytes, the highest first. -/
def beP (n : Nat) : List Int := (leP n).reverse
/-- A number as a field. -/
def numP (n : Nat) : List Int := ((leP n).length : Int) :: beP n
theorem beP_len (n : Nat) : (beP n).length = (leP n).length := by simp [beP]
theorem numP_len (n : Nat) : (numP n).length = (leP n).length + 1 := by simp [numP, beP_len]
theorem leP_len8 {n : Nat} (h : n < 18446744073709551616) : (leP n).length ≤ 8 := leP_len 8 n (by simpa using h)
theorem numP_bd {n : Nat} (h : n < 18446744073709551616) : ∀ x ∈ numP n, 0 ≤ x ∧ x ≤ 255 := by
  intro x hx
  have := leP_len8 h
  rcases List.mem_cons.1 hx with rfl | hx
  · omega
  · exact leP_bd n x (by simpa [beP] using hx)

/-- What bytes are as a number, the highest first. -/
def valP (l : List Int) : Nat := l.foldl (fun v c => v * 256 + c.toNat) 0
theorem valP_snoc (l : List Int) (c : Int) : valP (l ++ [c]) = valP l * 256 + c.toNat := by simp [valP]
theorem valP_be (n : Nat) : valP (beP n) = n := by
  induction n using Nat.strongRecOn with
  | ind n ih =>
    by_cases h : n = 0
    · subst h; simp [beP, leP_zero, valP]
    · have e : beP n = beP (n / 256) ++ [((n % 256 : Nat) : Int)] := by unfold beP; rw [leP_pos (by omega)]; simp
      rw [e, valP_snoc, ih (n / 256) (by omega)]
      omega
theorem be_head (n : Nat) (h : 0 < n) : (beP n).headD 1 ≠ 0 := by
  induction n using Nat.strongRecOn with
  | ind n ih =>
    have e : beP n = beP (n / 256) ++ [((n % 256 : Nat) : Int)] := by unfold beP; rw [leP_pos (by omega)]; simp
    rw [e]
    by_cases h0 : n / 256 = 0
    · rw [h0]
      simp [beP, leP_zero]
      omega
    · have := ih (n / 256) (by omega) (by omega)
      cases hb : beP (n / 256) with
      | nil =>
        have h1 := congrArg List.length hb
        rw [beP_len, leP_pos (by omega)] at h1
        simp at h1
      | cons x l => rw [hb] at this; simpa using this

/-- The number with which bytes begin, and what is behind it. -/
def takeNumP (most : Nat) : List Int → Option (Nat × List Int)
  | [] => none
  | k :: tl => if 8 < k.toNat ∨ tl.length < k.toNat ∨ (0 < k.toNat ∧ tl.headD 1 = 0) ∨ most < valP (tl.take k.toNat) then none else some (valP (tl.take k.toNat), tl.drop k.toNat)
/-- The text. -/
def takeTextP (most : Nat) (l : List Int) : Option (List Int × List Int) :=
  match takeNumP most l with
  | none => none
  | some (n, r) => if r.length < n then none else some (r.take n, r.drop n)
theorem takeNumP_num {most n : Nat} (r : List Int) (h : n ≤ most) (h8 : n < 18446744073709551616) : takeNumP most (numP n ++ r) = some (n, r) := by
  have h1 := leP_len8 h8
  have h2 : ((leP n).length : Int).toNat = (leP n).length := by omega
  have h3 : (beP n ++ r).take (leP n).length = beP n := by rw [← beP_len]; simp
  have h4 : (beP n ++ r).drop (leP n).length = r := by rw [← beP_len]; simp
  have h5 : ¬ (0 < (leP n).length ∧ (beP n ++ r).headD 1 = 0) := by
    rintro ⟨h6, h7⟩
    have hn : 0 < n := by
      rcases Nat.eq_zero_or_pos n with e | e
      · subst e; simp [leP_zero] at h6
      · exact e
    have := be_head n hn
    cases hb : beP n with
    | nil => rw [← beP_len, hb] at h6; simp at h6
    | cons x l => rw [hb] at this h7; simp at this h7; exact this h7
  have h6 : ¬ (beP n ++ r).length < (leP n).length := by rw [← beP_len]; simp
  simp only [numP, List.cons_append, takeNumP, h2, h3, h4, valP_be]
  rw [if_neg]
  rintro (h | h | h | h)
  · omega
  · exact h6 h
  · exact h5 h
  · omega
theorem takeTextP_text {most : Nat} (b r : List Int) (h : b.length ≤ most) (h8 : b.length < 18446744073709551616) : takeTextP most (numP b.length ++ b ++ r) = some (b, r) := by
  unfold takeTextP
  rw [List.append_assoc, takeNumP_num _ h h8]
  simp

/-- The greatest number of a record. -/
def mostP : Nat := 1099511627776
/-- A record's fields. -/
def fieldsP (t n : Nat) (b : List Int) : List Int := numP t ++ numP n ++ (numP b.length ++ b)
/-- What fields have. -/
def eyeP (f : List Int) (long : Nat) : Option (Nat × Nat × List Int) :=
  match takeNumP mostP f with
  | none => none
  | some (t, r) => match takeNumP mostP r with
    | none => none
    | some (n, r) => match takeTextP long r with
      | none => none
      | some (x, r) => if r = [] then some (t, n, x) else none
theorem eyeP_fields {t n long : Nat} {b : List Int} (ht : t ≤ mostP) (hn : n ≤ mostP) (hb : b.length ≤ long) (h8 : b.length < 18446744073709551616) : eyeP (fieldsP t n b) long = some (t, n, b) := by
  have h1 := takeTextP_text b [] hb h8
  rw [List.append_nil] at h1
  unfold eyeP fieldsP
  rw [List.append_assoc, takeNumP_num _ ht (by unfold mostP at ht; omega)]
  simp only
  rw [takeNumP_num _ hn (by unfold mostP at hn; omega)]
  simp only
  rw [h1]
  simp
theorem eyeP_nil (long : Nat) : eyeP [] long = none := rfl
theorem fieldsP_bd {t n : Nat} {b : List Int} (ht : t ≤ mostP) (hn : n ≤ mostP) (hb : ∀ x ∈ b, 0 ≤ x ∧ x ≤ 255) (h8 : b.length < 18446744073709551616) : ∀ x ∈ fieldsP t n b, 0 ≤ x ∧ x ≤ 255 := by
  intro x hx
  simp only [fieldsP, List.mem_append] at hx
  rcases hx with (hx | hx) | hx | hx
  · exact numP_bd (by unfold mostP at ht; omega) x hx
  · exact numP_bd (by unfold mostP at hn; omega) x hx
  · exact numP_bd h8 x hx
  · exact hb x hx

/-- A length as four bytes. -/
def be4P (n : Nat) : List Int := [((n / 16777216 % 256 : Nat) : Int), ((n / 65536 % 256 : Nat) : Int), ((n / 256 % 256 : Nat) : Int), ((n % 256 : Nat) : Int)]
/-- The four bytes with which bytes begin, as a number. -/
def word4P (l : List Int) : Nat := (l.getD 0 0).toNat * 16777216 + (l.getD 1 0).toNat * 65536 + (l.getD 2 0).toNat * 256 + (l.getD 3 0).toNat
theorem be4P_len (n : Nat) : (be4P n).length = 4 := rfl
theorem be4P_bd (n : Nat) : ∀ x ∈ be4P n, 0 ≤ x ∧ x ≤ 255 := by
  intro x hx
  simp only [be4P, List.mem_cons, List.mem_nil_iff, or_false] at hx
  omega
theorem word4P_be4 {n : Nat} (h : n < 4294967296) (r : List Int) : word4P (be4P n ++ r) = n := by
  simp [word4P, be4P]
  omega

/-- How many sectors so many bytes have. -/
def secP (k : Nat) : Nat := (k + 63) / 64
/-- The sum of fields. -/
def sumP (f : List Int) : List Int := (shaP (13 :: (be4P f.length ++ f))).take 8
theorem sumP_len (f : List Int) : (sumP f).length = 8 := by simp [sumP, shaP_len]
theorem sumP_bd (f : List Int) : ∀ x ∈ sumP f, 0 ≤ x ∧ x ≤ 255 := fun x hx => shaP_bd _ x (List.mem_of_mem_take hx)
/-- A record's form. -/
def formP (t n : Nat) (b : List Int) : List Int :=
  be4P (fieldsP t n b).length ++ sumP (fieldsP t n b) ++ fieldsP t n b ++ List.replicate (secP (12 + (fieldsP t n b).length) * 64 - (12 + (fieldsP t n b).length)) 0
theorem formP_len (t n : Nat) (b : List Int) : (formP t n b).length = secP (12 + (fieldsP t n b).length) * 64 := by
  simp [formP, be4P_len, sumP_len, secP]
  omega
theorem formP_bd {t n : Nat} {b : List Int} (ht : t ≤ mostP) (hn : n ≤ mostP) (hb : ∀ x ∈ b, 0 ≤ x ∧ x ≤ 255) (h8 : b.length < 18446744073709551616) : ∀ x ∈ formP t n b, 0 ≤ x ∧ x ≤ 255 := by
  intro x hx
  simp only [formP, List.mem_append] at hx
  rcases hx with ((hx | hx) | hx) | hx
  · exact be4P_bd _ x hx
  · exact sumP_bd _ x hx
  · exact fieldsP_bd ht hn hb h8 x hx
  · rw [List.eq_of_mem_replicate hx]; omega

structure RecP where
  t : Nat
  n : Nat
  size : Nat
  b : List Int

/-- The record with which bytes begin. -/
def readP (b : List Int) : Option RecP :=
  if b.length < 12 then none else
  if 1024 < secP (12 + word4P b) ∨ b.length < secP (12 + word4P b) * 64 then none else
  if (b.drop 4).take 8 ≠ sumP ((b.drop 12).take (word4P b)) ∨ ((b.drop (12 + word4P b)).take (secP (12 + word4P b) * 64 - (12 + word4P b))).any (· != 0) = true then none else
  match eyeP ((b.drop 12).take (word4P b)) (word4P b) with
  | none => none
  | some (t, n, x) => some ⟨t, n, secP (12 + word4P b), x⟩

theorem readP_size {b : List Int} {r : RecP} (h : readP b = some r) : 1 ≤ r.size ∧ r.size ≤ 1024 ∧ r.size * 64 ≤ b.length := by
  unfold readP at h
  split at h
  · cases h
  split at h
  · cases h
  rename_i h2
  split at h
  · cases h
  split at h
  · cases h
  · injection h with h
    subst h
    simp only [not_or, Nat.not_lt] at h2
    refine ⟨?_, h2.1, h2.2⟩
    show 1 ≤ secP _
    unfold secP; omega

/-- What was put is read. -/
theorem readP_form {t n : Nat} {b rest : List Int} (ht : t ≤ mostP) (hn : n ≤ mostP) (hs : secP (12 + (fieldsP t n b).length) ≤ 1024) :
    readP (formP t n b ++ rest) = some ⟨t, n, secP (12 + (fieldsP t n b).length), b⟩ := by
  obtain ⟨F, hF⟩ : ∃ F, fieldsP t n b = F := ⟨_, rfl⟩
  have hbl : b.length ≤ F.length := by rw [← hF]; simp [fieldsP]; omega
  have hfl := formP_len t n b
  have hey := eyeP_fields (long := F.length) ht hn hbl (by unfold secP at hs; rw [hF] at hs; omega)
  rw [hF] at hs hfl hey ⊢
  have hL : F.length < 4294967296 := by unfold secP at hs; omega
  have hlt : 12 + F.length ≤ secP (12 + F.length) * 64 := by unfold secP; omega
  have hw : word4P (formP t n b ++ rest) = F.length := by
    unfold formP
    rw [hF]
    simp only [List.append_assoc]
    exact word4P_be4 hL _
  have e4 : ∀ l, (be4P F.length ++ l).drop 4 = l := fun l => by simp [be4P]
  have e8 : ∀ l, (sumP F ++ l).take 8 = sumP F := fun l => by rw [← sumP_len F]; simp
  have e8' : ∀ l, (sumP F ++ l).drop 8 = l := fun l => by rw [← sumP_len F]; simp
  have hd4 : ((formP t n b ++ rest).drop 4).take 8 = sumP F := by
    unfold formP
    rw [hF]
    simp only [List.append_assoc]
    rw [e4, e8]
  have hd12 : (formP t n b ++ rest).drop 12 = F ++ (List.replicate (secP (12 + F.length) * 64 - (12 + F.length)) 0 ++ rest) := by
    unfold formP
    rw [hF]
    simp only [List.append_assoc]
    rw [show (12 : Nat) = 4 + 8 from rfl, ← List.drop_drop, e4, e8']
  have hF12 : ((formP t n b ++ rest).drop 12).take F.length = F := by rw [hd12]; simp
  have hz : ((formP t n b ++ rest).drop (12 + F.length)).take (secP (12 + F.length) * 64 - (12 + F.length)) = List.replicate (secP (12 + F.length) * 64 - (12 + F.length)) 0 := by
    rw [← List.drop_drop, hd12]
    simp
  unfold readP
  rw [hw, hd4, hF12, hz, hey]
  have c1 : ¬ (formP t n b ++ rest).length < 12 := by rw [List.length_append, hfl]; omega
  have c2 : ¬ (1024 < secP (12 + F.length) ∨ (formP t n b ++ rest).length < secP (12 + F.length) * 64) := by rw [List.length_append, hfl]; omega
  rw [if_neg c1, if_neg c2, if_neg]
  rintro (h | h)
  · exact h rfl
  · rw [List.any_replicate] at h
    simp at h

/-- Zeros begin with no record. -/
theorem readP_zeros {b : List Int} (h : ∀ x ∈ b, x = 0) : readP b = none := by
  unfold readP
  split; · rfl
  rename_i h12
  have hg : ∀ i, (b.getD i 0).toNat = 0 := fun i => by
    by_cases hi : i < b.length
    · have e : b.getD i 0 = b[i] := by simp [List.getD, hi]
      rw [e, h _ (List.getElem_mem hi)]
      rfl
    · have e : b.getD i 0 = 0 := by simp [List.getD, hi]
      rw [e]
      rfl
  have hw : word4P b = 0 := by simp only [word4P, hg]
  rw [hw]
  simp only [List.take_zero, eyeP_nil]
  split; · rfl
  exact ite_self _

/-- The records of a turn. -/
def scanP (turn : Nat) : Nat → List Int → Nat → List (List Int) × Nat
  | 0, _, _ => ([], 0)
  | fuel + 1, b, n => match readP b with
    | none => ([], 0)
    | some r => if r.t = turn ∧ r.n = n then (r.b :: (scanP turn fuel (b.drop (64 * r.size)) (n + 1)).1, r.size + (scanP turn fuel (b.drop (64 * r.size)) (n + 1)).2) else ([], 0)
theorem scanP_fuel (turn : Nat) : ∀ (k k' : Nat) (b : List Int) (n : Nat), b.length < k → b.length < k' → scanP turn k b n = scanP turn k' b n
  | 0, _, b, n, h, _ => by omega
  | _ + 1, 0, b, n, _, h => by omega
  | k + 1, k' + 1, b, n, h, h' => by
    simp only [scanP]
    cases hr : readP b with
    | none => rfl
    | some r =>
      have hs := readP_size hr
      have e := scanP_fuel turn k k' (b.drop (64 * r.size)) (n + 1) (by simp; omega) (by simp; omega)
      simp only [e]
/-- All of them. -/
def scanAll (turn : Nat) (b : List Int) : List (List Int) × Nat := scanP turn (b.length + 1) b 0

end Go.Proofs.YtohadeijmmmcdaaDoor
