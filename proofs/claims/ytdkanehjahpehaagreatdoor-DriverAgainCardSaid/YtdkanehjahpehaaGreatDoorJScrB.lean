/-
  Digests, plainly: the words turned, a block taken in, a sum. No program in sight.
  Numbers, texts and records as bytes, plainly. No program in sight.
  scroll's small functions: all zeros, bytes compared, a stretch, its bytes.
  A stretch of a drum, and its bytes.
-/
import Derived.Test.YtdkanehjahpehaaGreatDoorJDrumA
import Derived.Test.YtdkanehjahpehaaGreatDoorJBytA

section
section
namespace Go.Proofs.YtdkanehjahpehaaGreatDoor
open Go.RowKit

/-- A word turned right. -/
def rotP (x : Int) (n : Nat) : Int := bits .or .u32 (IntKind.u32.wrap (x * 2 ^ (32 - n))) (x / 2 ^ n)
def x3P (a b c : Int) : Int := bits .xor .u32 (bits .xor .u32 a b) c
def s0P (a : Int) : Int := x3P (rotP a 7) (rotP a 18) (a / 8)
def s1P (b : Int) : Int := x3P (rotP b 17) (rotP b 19) (b / 1024)
/-- Four bytes as a word. -/
def wordB (a b c d : Int) : Int := bits .or .u32 (bits .or .u32 (bits .or .u32 (a % 4294967296 * 16777216 % 4294967296) (b % 4294967296 * 65536 % 4294967296)) (c % 4294967296 * 256 % 4294967296)) (d % 4294967296)
def wordAt (m : List Int) (i : Nat) : Int := wordB (m.getD (4 * i) 0) (m.getD (4 * i + 1) 0) (m.getD (4 * i + 2) 0) (m.getD (4 * i + 3) 0)
/-- The next word of the schedule. -/
def nextW (a b c d : Int) : Int := IntKind.u32.wrap (IntKind.u32.wrap (IntKind.u32.wrap (a + s0P b) + c) + s1P d)
/-- The first k words of the rounds. -/
def schedP (m : List Int) : Nat → List Int
  | 0 => []
  | k + 1 => schedP m k ++ [if k < 16 then wordAt m k else nextW ((schedP m k).getD (k - 16) 0) ((schedP m k).getD (k - 15) 0) ((schedP m k).getD (k - 7) 0) ((schedP m k).getD (k - 2) 0)]
theorem schedP_len (m : List Int) : ∀ k, (schedP m k).length = k
  | 0 => rfl
  | k + 1 => by simp [schedP, schedP_len m k]
theorem schedP_pre (m : List Int) {j : Nat} : ∀ {k : Nat}, j ≤ k → (schedP m k).take j = schedP m j
  | 0, h => by obtain rfl : j = 0 := by omega
               simp [schedP]
  | k + 1, h => by
    by_cases e : j = k + 1
    · subst e; rw [List.take_of_length_le (by rw [schedP_len]; omega)]
    · rw [schedP, List.take_append_of_le_length (by rw [schedP_len]; omega), schedP_pre m (by omega)]

/-- A round's two sums. -/
def tP (e f g h k w : Int) : Int := h + x3P (rotP e 6) (rotP e 11) (rotP e 25) + bits .xor .u32 (bits .and .u32 e f) (bits .and .u32 (bits .xor .u32 IntKind.u32.max e) g) + k + w
def uP (a b c : Int) : Int := x3P (rotP a 2) (rotP a 13) (rotP a 22) + x3P (bits .and .u32 a b) (bits .and .u32 a c) (bits .and .u32 b c)
def roundP (v : List Int) (k w : Int) : List Int :=
  [(tP (v.getD 4 0) (v.getD 5 0) (v.getD 6 0) (v.getD 7 0) k w + uP (v.getD 0 0) (v.getD 1 0) (v.getD 2 0)) % 4294967296, v.getD 0 0, v.getD 1 0, v.getD 2 0, (v.getD 3 0 + tP (v.getD 4 0) (v.getD 5 0) (v.getD 6 0) (v.getD 7 0) k w) % 4294967296, v.getD 4 0, v.getD 5 0, v.getD 6 0]
def K0 : List Int := [
  1116352408, 1899447441, 3049323471, 3921009573, 961987163, 1508970993, 2453635748, 2870763221, 3624381080, 310598401, 607225278, 1426881987, 1925078388, 2162078206, 2614888103, 3248222580,
  3835390401, 4022224774, 264347078, 604807628, 770255983, 1249150122, 1555081692, 1996064986, 2554220882, 2821834349, 2952996808, 3210313671, 3336571891, 3584528711, 113926993, 338241895,
  666307205, 773529912, 1294757372, 1396182291, 1695183700, 1986661051, 2177026350, 2456956037, 2730485921, 2820302411, 3259730800, 3345764771, 3516065817, 3600352804, 4094571909, 275423344,
  430227734, 506948616, 659060556, 883997877, 958139571, 1322822218, 1537002063, 1747873779, 1955562222, 2024104815, 2227730452, 2361852424, 2428436474, 2756734187, 3204031479, 3329325298]
def H0 : List Int := [1779033703, 3144134277, 1013904242, 2773480762, 1359893119, 2600822924, 528734635, 1541459225]
/-- The first k rounds of a block. -/
def roundsP (h m : List Int) : Nat → List Int
  | 0 => h
  | k + 1 => roundP (roundsP h m k) (K0.getD k 0) ((schedP m 64).getD k 0)
/-- A block taken into the words. -/
def stepP (h m : List Int) : List Int := (List.range 8).map fun i => (h.getD i 0 + (roundsP h m 64).getD i 0) % 4294967296
theorem stepP_len (h m : List Int) : (stepP h m).length = 8 := by simp [stepP]
/-- The first k blocks taken in. -/
def hashP (m : List Int) : Nat → List Int
  | 0 => H0
  | k + 1 => stepP (hashP m k) ((m.drop (64 * k)).take 64)
theorem hashP_len (m : List Int) : ∀ k, (hashP m k).length = 8
  | 0 => rfl
  | _k + 1 => stepP_len _ _
/-- A number's n bytes, the highest first. -/
def beN (v : Int) (n : Nat) : List Int := (List.range n).map fun i => IntKind.u8.wrap (v / 2 ^ (8 * (n - 1 - i)))
theorem beN_len (v : Int) (n : Nat) : (beN v n).length = n := by simp [beN]
theorem beN_bd (v : Int) (n : Nat) : ∀ x ∈ beN v n, 0 ≤ x ∧ x ≤ 255 := by
  intro x hx
  obtain ⟨i, _, rfl⟩ := List.mem_map.1 hx
  rw [IntKind.wrap_u8']
  omega
/-- Bytes up to a number of blocks, their length behind. -/
def padP (b : List Int) : List Int := b ++ 128 :: (List.replicate ((119 - b.length % 64) % 64) 0 ++ beN (8 * b.length) 8)
theorem padP_len (b : List Int) : (padP b).length % 64 = 0 := by
  simp [padP, beN_len]; omega
def shaP (b : List Int) : List Int := (hashP (padP b) ((padP b).length / 64)).flatMap fun w => beN w 4
theorem flatMap_len {α β : Type} (f : α → List β) (n : Nat) (h : ∀ x, (f x).length = n) : ∀ l : List α, (l.flatMap f).length = l.length * n
  | [] => by simp
  | x :: l => by simp [flatMap_len f n h l, h, Nat.add_mul]; omega
theorem shaP_len (b : List Int) : (shaP b).length = 32 := by
  unfold shaP
  rw [flatMap_len _ 4 (fun w => beN_len w 4), hashP_len]
theorem shaP_bd (b : List Int) : ∀ x ∈ shaP b, 0 ≤ x ∧ x ≤ 255 := by
  intro x hx
  obtain ⟨w, _, hw⟩ := List.mem_flatMap.1 hx
  exact beN_bd w 4 x hw

theorem schedP_zero (m : List Int) : schedP m 0 = [] := rfl
theorem roundsP_zero (h m : List Int) : roundsP h m 0 = h := rfl
theorem roundsP_succ (h m : List Int) (k : Nat) : roundsP h m (k + 1) = roundP (roundsP h m k) (K0.getD k 0) ((schedP m 64).getD k 0) := rfl
theorem hashP_zero (m : List Int) : hashP m 0 = H0 := rfl
theorem hashP_succ (m : List Int) (k : Nat) : hashP m (k + 1) = stepP (hashP m k) ((m.drop (64 * k)).take 64) := rfl
attribute [irreducible] schedP roundsP hashP shaP

end Go.Proofs.YtdkanehjahpehaaGreatDoor
end

section
namespace Go.Proofs.YtdkanehjahpehaaGreatDoor

/-- A number's bytes, the lowest first. -/
def leP (n : Nat) : List Int := if h : n = 0 then [] else ((n % 256 : Nat) : Int) :: leP (n / 256)
termination_by n
decreasing_by omega
theorem leP_zero : leP 0 = [] := by rw [leP]; simp
theorem leP_pos {n : Nat} (h : 0 < n) : leP n = ((n % 256 : Nat) : Int) :: leP (n / 256) := by rw [leP]; simp [show n ≠ 0 by omega]
theorem leP_bd (n : Nat) : ∀ x ∈ leP n, 0 ≤ x ∧ x ≤ 255 := by
  induction n using Nat.strongRecOn with
  | ind n ih =>
    intro x hx
    by_cases h : n = 0
    · subst h; rw [leP_zero] at hx; cases hx
    · rw [leP_pos (by omega)] at hx
      rcases List.mem_cons.1 hx with rfl | hx
      · omega
      · exact ih (n / 256) (by omega) x hx
theorem leP_len : ∀ (k n : Nat), n < 256 ^ k → (leP n).length ≤ k
  | 0, n, h => by
    have : n = 0 := by simpa using h
    subst this; simp [leP_zero]
  | k + 1, n, h => by
    by_cases h0 : n = 0
    · subst h0; simp [leP_zero]
    · rw [leP_pos (by omega)]
      have := leP_len k (n / 256) (by rw [Nat.pow_succ] at h; omega)
      simp only [List.length_cons]; omega

/-- A number's bytes, the highest first. -/
def beP (n : Nat) : List Int := (leP n).reverse
/-- A number as a field. -/
def numP (n : Nat) : List Int := ((leP n).length : Int) :: beP n
theorem beP_len (n : Nat) : (beP n).length = (leP n).length := by simp [beP]
theorem numP_len (n : Nat) : (numP n).length = (leP n).length + 1 := by simp [numP, beP_len]
theorem leP_len8 {n : Nat} (h : n < 18446744073709551616) : (leP n).length ≤ 8 := leP_len 8 n (by simpa using h)
theorem numP_bd {n : Nat} (h : n < 18446744073709551616) : ∀ x ∈ numP n, 0 ≤ x ∧ x ≤ 255 := by
  intro x hx
  have := leP_len8 h
  rcases List.mem_cons.1 hx with rfl | hx
  · omega
  · exact leP_bd n x (by simpa [beP] using hx)

/-- What bytes are as a number, the highest first. -/
def valP (l : List Int) : Nat := l.foldl (fun v c => v * 256 + c.toNat) 0
theorem valP_snoc (l : List Int) (c : Int) : valP (l ++ [c]) = valP l * 256 + c.toNat := by simp [valP]
theorem valP_be (n : Nat) : valP (beP n) = n := by
  induction n using Nat.strongRecOn with
  | ind n ih =>
    by_cases h : n = 0
    · subst h; simp [beP, leP_zero, valP]
    · have e : beP n = beP (n / 256) ++ [((n % 256 : Nat) : Int)] := by unfold beP; rw [leP_pos (by omega)]; simp
      rw [e, valP_snoc, ih (n / 256) (by omega)]
      omega
theorem be_head (n : Nat) (h : 0 < n) : (beP n).headD 1 ≠ 0 := by
  induction n using Nat.strongRecOn with
  | ind n ih =>
    have e : beP n = beP (n / 256) ++ [((n % 256 : Nat) : Int)] := by unfold beP; rw [leP_pos (by omega)]; simp
    rw [e]
    by_cases h0 : n / 256 = 0
    · rw [h0]
      simp [beP, leP_zero]
      omega
    · have := ih (n / 256) (by omega) (by omega)
      cases hb : beP (n / 256) with
      | nil =>
        have h1 := congrArg List.length hb
        rw [beP_len, leP_pos (by omega)] at h1
        simp at h1
      | cons x l => rw [hb] at this; simpa using this

/-- The number with which bytes begin, and what is behind it. -/
def takeNumP (most : Nat) : List Int → Option (Nat × List Int)
  | [] => none
  | k :: tl => if 8 < k.toNat ∨ tl.length < k.toNat ∨ (0 < k.toNat ∧ tl.headD 1 = 0) ∨ most < valP (tl.take k.toNat) then none else some (valP (tl.take k.toNat), tl.drop k.toNat)
/-- The text. -/
def takeTextP (most : Nat) (l : List Int) : Option (List Int × List Int) :=
  match takeNumP most l with
  | none => none
  | some (n, r) => if r.length < n then none else some (r.take n, r.drop n)
theorem takeNumP_num {most n : Nat} (r : List Int) (h : n ≤ most) (h8 : n < 18446744073709551616) : takeNumP most (numP n ++ r) = some (n, r) := by
  have h1 := leP_len8 h8
  have h2 : ((leP n).length : Int).toNat = (leP n).length := by omega
  have h3 : (beP n ++ r).take (leP n).length = beP n := by rw [← beP_len]; simp
  have h4 : (beP n ++ r).drop (leP n).length = r := by rw [← beP_len]; simp
  have h5 : ¬ (0 < (leP n).length ∧ (beP n ++ r).headD 1 = 0) := by
    rintro ⟨h6, h7⟩
    have hn : 0 < n := by
      rcases Nat.eq_zero_or_pos n with e | e
      · subst e; simp [leP_zero] at h6
      · exact e
    have := be_head n hn
    cases hb : beP n with
    | nil => rw [← beP_len, hb] at h6; simp at h6
    | cons x l => rw [hb] at this h7; simp at this h7; exact this h7
  have h6 : ¬ (beP n ++ r).length < (leP n).length := by rw [← beP_len]; simp
  simp only [numP, List.cons_append, takeNumP, h2, h3, h4, valP_be]
  rw [if_neg]
  rintro (h | h | h | h)
  · omega
  · exact h6 h
  · exact h5 h
  · omega
theorem takeTextP_text {most : Nat} (b r : List Int) (h : b.length ≤ most) (h8 : b.length < 18446744073709551616) : takeTextP most (numP b.length ++ b ++ r) = some (b, r) := by
  unfold takeTextP
  rw [List.append_assoc, takeNumP_num _ h h8]
  simp

/-- The greatest number of a record. -/
def mostP : Nat := 1099511627776
/-- A record's fields. -/
def fieldsP (t n : Nat) (b : List Int) : List Int := numP t ++ numP n ++ (numP b.length ++ b)
/-- What fields have. -/
def eyeP (f : List Int) (long : Nat) : Option (Nat × Nat × List Int) :=
  match takeNumP mostP f with
  | none => none
  | some (t, r) => match takeNumP mostP r with
    | none => none
    | some (n, r) => match takeTextP long r with
      | none => none
      | some (x, r) => if r = [] then some (t, n, x) else none
theorem eyeP_fields {t n long : Nat} {b : List Int} (ht : t ≤ mostP) (hn : n ≤ mostP) (hb : b.length ≤ long) (h8 : b.length < 18446744073709551616) : eyeP (fieldsP t n b) long = some (t, n, b) := by
  have h1 := takeTextP_text b [] hb h8
  rw [List.append_nil] at h1
  unfold eyeP fieldsP
  rw [List.append_assoc, takeNumP_num _ ht (by unfold mostP at ht; omega)]
  simp only
  rw [takeNumP_num _ hn (by unfold mostP at hn; omega)]
  simp only
  rw [h1]
  simp
theorem eyeP_nil (long : Nat) : eyeP [] long = none := rfl
theorem fieldsP_bd {t n : Nat} {b : List Int} (ht : t ≤ mostP) (hn : n ≤ mostP) (hb : ∀ x ∈ b, 0 ≤ x ∧ x ≤ 255) (h8 : b.length < 18446744073709551616) : ∀ x ∈ fieldsP t n b, 0 ≤ x ∧ x ≤ 255 := by
  intro x hx
  simp only [fieldsP, List.mem_append] at hx
  rcases hx with (hx | hx) | hx | hx
  · exact numP_bd (by unfold mostP at ht; omega) x hx
  · exact numP_bd (by unfold mostP at hn; omega) x hx
  · exact numP_bd h8 x hx
  · exact hb x hx

/-- A length as four bytes. -/
def be4P (n : Nat) : List Int := [((n / 16777216 % 256 : Nat) : Int), ((n / 65536 % 256 : Nat) : Int), ((n / 256 % 256 : Nat) : Int), ((n % 256 : Nat) : Int)]
/-- The four bytes with which bytes begin, as a number. -/
def word4P (l : List Int) : Nat := (l.getD 0 0).toNat * 16777216 + (l.getD 1 0).toNat * 65536 + (l.getD 2 0).toNat * 256 + (l.getD 3 0).toNat
theorem be4P_len (n : Nat) : (be4P n).length = 4 := rfl
theorem be4P_bd (n : Nat) : ∀ x ∈ be4P n, 0 ≤ x ∧ x ≤ 255 := by
  intro x hx
  simp only [be4P, List.mem_cons, List.mem_nil_iff, or_false] at hx
  omega
theorem word4P_be4 {n : Nat} (h : n < 4294967296) (r : List Int) : word4P (be4P n ++ r) = n := by
  simp [word4P, be4P]
  omega

/-- How many sectors so many bytes have. -/
def secP (k : Nat) : Nat := (k + 63) / 64
/-- The sum of fields. -/
def sumP (f : List Int) : List Int := (shaP (13 :: (be4P f.length ++ f))).take 8
theorem sumP_len (f : List Int) : (sumP f).length = 8 := by simp [sumP, shaP_len]
theorem sumP_bd (f : List Int) : ∀ x ∈ sumP f, 0 ≤ x ∧ x ≤ 255 := fun x hx => shaP_bd _ x (List.mem_of_mem_take hx)
/-- A record's form. -/
def formP (t n : Nat) (b : List Int) : List Int :=
  be4P (fieldsP t n b).length ++ sumP (fieldsP t n b) ++ fieldsP t n b ++ List.replicate (secP (12 + (fieldsP t n b).length) * 64 - (12 + (fieldsP t n b).length)) 0
theorem formP_len (t n : Nat) (b : List Int) : (formP t n b).length = secP (12 + (fieldsP t n b).length) * 64 := by
  simp [formP, be4P_len, sumP_len, secP]
  omega
theorem formP_bd {t n : Nat} {b : List Int} (ht : t ≤ mostP) (hn : n ≤ mostP) (hb : ∀ x ∈ b, 0 ≤ x ∧ x ≤ 255) (h8 : b.length < 18446744073709551616) : ∀ x ∈ formP t n b, 0 ≤ x ∧ x ≤ 255 := by
  intro x hx
  simp only [formP, List.mem_append] at hx
  rcases hx with ((hx | hx) | hx) | hx
  · exact be4P_bd _ x hx
  · exact sumP_bd _ x hx
  · exact fieldsP_bd ht hn hb h8 x hx
  · rw [List.eq_of_mem_replicate hx]; omega

structure RecP where
  t : Nat
  n : Nat
  size : Nat
  b : List Int

/-- The record with which bytes begin. -/
def readP (b : List Int) : Option RecP :=
  if b.length < 12 then none else
  if 1024 < secP (12 + word4P b) ∨ b.length < secP (12 + word4P b) * 64 then none else
  if (b.drop 4).take 8 ≠ sumP ((b.drop 12).take (word4P b)) ∨ ((b.drop (12 + word4P b)).take (secP (12 + word4P b) * 64 - (12 + word4P b))).any (· != 0) = true then none else
  match eyeP ((b.drop 12).take (word4P b)) (word4P b) with
  | none => none
  | some (t, n, x) => some ⟨t, n, secP (12 + word4P b), x⟩

theorem readP_size {b : List Int} {r : RecP} (h : readP b = some r) : 1 ≤ r.size ∧ r.size ≤ 1024 ∧ r.size * 64 ≤ b.length := by
  unfold readP at h
  split at h
  · cases h
  split at h
  · cases h
  rename_i h2
  split at h
  · cases h
  split at h
  · cases h
  · injection h with h
    subst h
    simp only [not_or, Nat.not_lt] at h2
    refine ⟨?_, h2.1, h2.2⟩
    show 1 ≤ secP _
    unfold secP; omega

/-- What was put is read. -/
theorem readP_form {t n : Nat} {b rest : List Int} (ht : t ≤ mostP) (hn : n ≤ mostP) (hs : secP (12 + (fieldsP t n b).length) ≤ 1024) :
    readP (formP t n b ++ rest) = some ⟨t, n, secP (12 + (fieldsP t n b).length), b⟩ := by
  obtain ⟨F, hF⟩ : ∃ F, fieldsP t n b = F := ⟨_, rfl⟩
  have hbl : b.length ≤ F.length := by rw [← hF]; simp [fieldsP]; omega
  have hfl := formP_len t n b
  have hey := eyeP_fields (long := F.length) ht hn hbl (by unfold secP at hs; rw [hF] at hs; omega)
  rw [hF] at hs hfl hey ⊢
  have hL : F.length < 4294967296 := by unfold secP at hs; omega
  have hlt : 12 + F.length ≤ secP (12 + F.length) * 64 := by unfold secP; omega
  have hw : word4P (formP t n b ++ rest) = F.length := by
    unfold formP
    rw [hF]
    simp only [List.append_assoc]
    exact word4P_be4 hL _
  have e4 : ∀ l, (be4P F.length ++ l).drop 4 = l := fun l => by simp [be4P]
  have e8 : ∀ l, (sumP F ++ l).take 8 = sumP F := fun l => by rw [← sumP_len F]; simp
  have e8' : ∀ l, (sumP F ++ l).drop 8 = l := fun l => by rw [← sumP_len F]; simp
  have hd4 : ((formP t n b ++ rest).drop 4).take 8 = sumP F := by
    unfold formP
    rw [hF]
    simp only [List.append_assoc]
    rw [e4, e8]
  have hd12 : (formP t n b ++ rest).drop 12 = F ++ (List.replicate (secP (12 + F.length) * 64 - (12 + F.length)) 0 ++ rest) := by
    unfold formP
    rw [hF]
    simp only [List.append_assoc]
    rw [show (12 : Nat) = 4 + 8 from rfl, ← List.drop_drop, e4, e8']
  have hF12 : ((formP t n b ++ rest).drop 12).take F.length = F := by rw [hd12]; simp
  have hz : ((formP t n b ++ rest).drop (12 + F.length)).take (secP (12 + F.length) * 64 - (12 + F.length)) = List.replicate (secP (12 + F.length) * 64 - (12 + F.length)) 0 := by
    rw [← List.drop_drop, hd12]
    simp
  unfold readP
  rw [hw, hd4, hF12, hz, hey]
  have c1 : ¬ (formP t n b ++ rest).length < 12 := by rw [List.length_append, hfl]; omega
  have c2 : ¬ (1024 < secP (12 + F.length) ∨ (formP t n b ++ rest).length < secP (12 + F.length) * 64) := by rw [List.length_append, hfl]; omega
  rw [if_neg c1, if_neg c2, if_neg]
  rintro (h | h)
  · exact h rfl
  · rw [List.any_replicate] at h
    simp at h

/-- Zeros begin with no record. -/
theorem readP_zeros {b : List Int} (h : ∀ x ∈ b, x = 0) : readP b = none := by
  unfold readP
  split; · rfl
  rename_i h12
  have hg : ∀ i, (b.getD i 0).toNat = 0 := fun i => by
    by_cases hi : i < b.length
    · have e : b.getD i 0 = b[i] := by simp [List.getD, hi]
      rw [e, h _ (List.getElem_mem hi)]
      rfl
    · have e : b.getD i 0 = 0 := by simp [List.getD, hi]
      rw [e]
      rfl
  have hw : word4P b = 0 := by simp only [word4P, hg]
  rw [hw]
  simp only [List.take_zero, eyeP_nil]
  split; · rfl
  exact ite_self _

/-- The records of a turn. -/
def scanP (turn : Nat) : Nat → List Int → Nat → List (List Int) × Nat
  | 0, _, _ => ([], 0)
  | fuel + 1, b, n => match readP b with
    | none => ([], 0)
    | some r => if r.t = turn ∧ r.n = n then (r.b :: (scanP turn fuel (b.drop (64 * r.size)) (n + 1)).1, r.size + (scanP turn fuel (b.drop (64 * r.size)) (n + 1)).2) else ([], 0)
theorem scanP_fuel (turn : Nat) : ∀ (k k' : Nat) (b : List Int) (n : Nat), b.length < k → b.length < k' → scanP turn k b n = scanP turn k' b n
  | 0, _, b, n, h, _ => by omega
  | _ + 1, 0, b, n, _, h => by omega
  | k + 1, k' + 1, b, n, h, h' => by
    simp only [scanP]
    cases hr : readP b with
    | none => rfl
    | some r =>
      have hs := readP_size hr
      have e := scanP_fuel turn k k' (b.drop (64 * r.size)) (n + 1) (by simp; omega) (by simp; omega)
      simp only [e]
/-- All of them. -/
def scanAll (turn : Nat) (b : List Int) : List (List Int) × Nat := scanP turn (b.length + 1) b 0

end Go.Proofs.YtdkanehjahpehaaGreatDoor
end
end

section
section
namespace Go.Proofs.YtdkanehjahpehaaGreatDoor
open Go.RowKit
set_option maxRecDepth 100000
theorem aps_of (xs : Array Value) (t : TypeId) : Builtin.append_ #[28, 28] t xs = APs #[28, 28] t xs := rfl
attribute [local go_sem ↓] aps_of

/-- The first place that is no zero, or -1. -/
def idxNz : List Int → Nat → Int
  | [], _ => -1
  | x :: l, k => if x != 0 then (k : Int) else idxNz l (k + 1)
theorem idxNz_any : ∀ (l : List Int) (k : Nat), decide (0 ≤ idxNz l k) = l.any (· != 0)
  | [], k => by simp [idxNz]
  | x :: l, k => by
    by_cases h : (x != 0) = true
    · simp only [idxNz, h, if_true, List.any_cons, Bool.true_or]
      simp
    · have h' : (x != 0) = false := by simpa using h
      simp only [idxNz, h', List.any_cons, Bool.false_or]
      exact idxNz_any l (k + 1)

set_option maxHeartbeats 2000000 in
theorem equal_any (A1 A2 : Option Addr) (c1 c2 : Nat) (a b : List Int) (w : World) (ha : Byt w A1 a) (hb : Byt w A2 b) (hl : a.length = b.length) (hla : a.length ≤ 1000000000) :
    Calls Tryz.prog 209 #[.slice A1 a.length c1, .slice A2 b.length c2] w fun e w' => e = .returned (.bool (decide (a = b))) ∧ ∃ m, w' = w.drewN m := by
  have hne : ((a.length : Int) != (b.length : Int)) = false := by simp [hl]
  have HL := Lib.hid hl
  have HA := Lib.hid ha
  have HB := Lib.hid hb
  rw [← hl]
  clear hl ha hb hne
  go_enter Tryz.func209, Tryz.ntmps209
  go_wp2
  go_loopw [13] (fun t wr => ∃ i : Nat, i ≤ a.length ∧ t = .int .i64 i ∧ a.take i = b.take i ∧ ∃ m, wr = w.drewN m)
    (fun t _ => a.length - (intOf t).toNat)
  case atStart => exact ⟨0, Nat.zero_le _, rfl, rfl, 0, rfl⟩
  case round =>
    obtain ⟨i, hi, rfl, ht, m, rfl⟩ := hrel
    have HT := Lib.hid ht
    clear ht
    by_cases hlt : i < a.length
    · have hlt2 : i < b.length := by rw [← HL.out]; exact hlt
      obtain ⟨g1, o1, rfl, _, hc1⟩ := HA.out.at_ hlt
      obtain ⟨g2, o2, rfl, _, hc2⟩ := HB.out.at_ hlt2
      have hc1' : w.cell? ⟨g1, o1 + i, none⟩ = some (.int .u8 a[i]) := hc1
      have hc2' : w.cell? ⟨g2, o2 + i, none⟩ = some (.int .u8 b[i]) := hc2
      obtain ⟨x, hx⟩ : ∃ x, a[i] = x := ⟨_, rfl⟩
      obtain ⟨y, hy⟩ : ∃ y, b[i] = y := ⟨_, rfl⟩
      rw [hx] at hc1'
      rw [hy] at hc2'
      have HX := Lib.hid hx
      have HY := Lib.hid hy
      by_cases hxy : x = y
      · have hn : (x != y) = false := by simp [hxy]
        have HXY := Lib.hid hxy
        clear hc1 hc2 hx hy hxy
        go_wp2
        go_region
        go_wp2
        refine ⟨⟨i + 1, by omega, by go_num, take_more hlt hlt2 HT.out (by rw [HX.out, HY.out, HXY.out]), m + 1, rfl⟩, by simp [intOf]; omega⟩
      · have hn : (x != y) = true := by simp [hxy]
        have HXY := Lib.hid hxy
        clear hc1 hc2 hx hy hxy
        go_wp2
        go_region
        go_wp2
        go_ret
        refine ⟨?_, m + 1, rfl⟩
        have hab : a ≠ b := fun e => by
          subst e
          exact HXY.out (HX.out.symm.trans HY.out)
        simp [hab]
    · obtain rfl : i = a.length := by omega
      go_wp2
      go_ret
      have hab : a = b := by
        have h1 := HT.out
        rw [List.take_length, HL.out, List.take_length] at h1
        exact h1
      exact ⟨by simp [hab], m, rfl⟩

end Go.Proofs.YtdkanehjahpehaaGreatDoor
end

section
namespace Go.Proofs.YtdkanehjahpehaaGreatDoor
open Go.RowKit
set_option maxRecDepth 100000
attribute [local go_sem ↓] aps_of

theorem own_sl2 (A : Option Addr) (n c n' c' : Nat) : (Value.slice A n c).ownBlock = (Value.slice A n' c').ownBlock := by cases A <;> rfl
/-- Is it a stretch of a drum of n sectors? -/
def strP (n : Nat) (from_ many : Int) : Bool := decide (0 ≤ from_) && decide (0 ≤ many) && decide (many ≤ n) && decide (from_ ≤ n - many)

/-- The bytes of a stretch. -/
def stP (S : DS) (f n : Nat) : List Int := ((List.range n).map fun i => S.now (f + i)).flatten
theorem stP_len {S : DS} (h : S.Ok) (f : Nat) : ∀ n, f + n ≤ S.sure.length → (stP S f n).length = 64 * n
  | 0, _ => by simp [stP]
  | n + 1, hn => by
    have e : stP S f (n + 1) = stP S f n ++ S.now (f + n) := by simp [stP, List.range_succ]
    rw [e, List.length_append, stP_len h f n (by omega), (DS.now_sec h (by omega)).1]
    omega
theorem stP_succ (S : DS) (f n : Nat) : stP S f (n + 1) = stP S f n ++ S.now (f + n) := by simp [stP, List.range_succ]
theorem stP_bd {S : DS} (h : S.Ok) (f : Nat) : ∀ n, f + n ≤ S.sure.length → ∀ x ∈ stP S f n, 0 ≤ x ∧ x ≤ 255
  | 0, _ => by simp [stP]
  | n + 1, hn => by
    intro x hx
    rw [stP_succ, List.mem_append] at hx
    rcases hx with hx | hx
    · exact stP_bd h f n (by omega) x hx
    · exact (DS.now_sec h (by omega)).2 x hx

end Go.Proofs.YtdkanehjahpehaaGreatDoor
end
end
