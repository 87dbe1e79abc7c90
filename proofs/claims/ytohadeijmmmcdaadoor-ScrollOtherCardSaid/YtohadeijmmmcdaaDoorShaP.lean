/-
  Digests, plainly: the words turned, a block taken in, a sum. No program in sight.
-/
import Derived.Test.YtohadeijmmmcdaaDoorBase
namespace Go.Proofs.YtohadeijmmmcdaaDoor
open Go.RowKit

/-- A word turned right. -/
def rotP (x : Int) (n : Nat) : Int := bits .or .u32 (IntKind.u32.wrap (x * 2 ^ (32 - n))) (x / 2 ^ n)
def x3P (a b c : Int) : Int := bits .xor .u32 (bits .xor .u32 a b) c
def s0P (a : Int) : Int := x3P (rotP a 7) (rotP a 18) (a / 8)
def s1P (b : Int) : Int := x3P (rotP b 17) (rotP b 19) (b / 1024)
/-- Four bytes as a word. -/
def wordB (a b c d : Int) : Int := bits .or .u32 (bits .or .u32 (bits .or .u32 (a % 4294967296 * 16777216 % 4294967296) (b % 4294967296 * 65536 % 4294967296)) (c % 4294967296 * 256 % 4294967296)) (d % 4294967296)
def wordAt (m : List Int) (i : Nat) : Int := wordB (m.getD (4 * i) 0) (m.getD (4 * i + 1) 0) (m.getD (4 * i + 2) 0) (m.getD (4 * i + 3) 0)
/-- The next word of the schedule. -/
def nextW (a b c d : Int) : Int := IntKind.u32.wrap (IntKind.u32.wrap (IntKind.u32.wrap (a + s0P b) + c) + s1P d)
/-- The first k words of the rounds. -/
def schedP (m : List Int) : Nat → List Int
  | 0 => []
  | k + 1 => schedP m k ++ [if k < 16 then wordAt m k else nextW ((schedP m k).getD (k - 16) 0) ((schedP m k).getD (k - 15) 0) ((schedP m k).getD (k - 7) 0) ((schedP m k).getD (k - 2) 0)]
theorem schedP_len (m : List Int) : ∀ k, (schedP m k).length = k
  | 0 => rfl
  | k + 1 => by simp [schedP, schedP_len m k]
theorem schedP_pre (m : List Int) {j : Nat} : ∀ {k : Nat}, j ≤ k → (schedP m k).take j = schedP m j
  | 0, h => by obtain rfl : j = 0 := by omega
               simp [schedP]
  | k + 1, h => by
    by_cases e : j = k + 1
    · subst e; rw [List.take_of_length_le (by rw [schedP_len]; omega)]
    · rw [schedP, List.take_append_of_le_length (by rw [schedP_len]; omega), schedP_pre m (by omega)]

/-- A round's two sums. -/
def tP (e f g h k w : Int) : Int := h + x3P (rotP e 6) (rotP e 11) (rotP e 25) + bits .xor .u32 (bits .and .u32 e f) (bits .and .u32 (bits .xor .u32 IntKind.u32.max e) g) + k + w
def uP (a b c : Int) : Int := x3P (rotP a 2) (rotP a 13) (rotP a 22) + x3P (bits .and .u32 a b) (bits .and .u32 a c) (bits .and .u32 b c)
def roundP (v : List Int) (k w : Int) : List Int :=
  [(tP (v.getD 4 0) (v.getD 5 0) (v.getD 6 0) (v.getD 7 0) k w + uP (v.getD 0 0) (v.getD 1 0) (v.getD 2 0)) % 4294967296, v.getD 0 0, v.getD 1 0, v.getD 2 0, (v.getD 3 0 + tP (v.getD 4 0) (v.getD 5 0) (v.getD 6 0) (v.getD 7 0) k w) % 4294967296, v.getD 4 0, v.getD 5 0, v.getD 6 0]
def K0 : List Int := [
  1116352408, 1899447441, 3049323471, 3921009573, 961987163, 1508970993, 2453635748, 2870763221, 3624381080, 310598401, 607225278, 1426881987, 1925078388, 2162078206, 2614888103, 3248222580,
  3835390401, 4022224774, 264347078, 604807628, 770255983, 1249150122, 1555081692, 1996064986, 2554220882, 2821834349, 2952996808, 3210313671, 3336571891, 3584528711, 113926993, 338241895,
  666307205, 773529912, 1294757372, 1396182291, 1695183700, 1986661051, 2177026350, 2456956037, 2730485921, 2820302411, 3259730800, 3345764771, 3516065817, 3600352804, 4094571909, 275423344,
  430227734, 506948616, 659060556, 883997877, 958139571, 1322822218, 1537002063, 1747873779, 1955562222, 2024104815, 2227730452, 2361852424, 2428436474, 2756734187, 3204031479, 3329325298]
def H0 : List Int := [1779033703, 3144134277, 1013904242, 2773480762, 1359893119, 2600822924, 528734635, 1541459225]
/-- The first k rounds of a block. -/
def roundsP (h m : List Int) : Nat → List Int
  | 0 => h
  | k + 1 => roundP (roundsP h m k) (K0.getD k 0) ((schedP m 64).getD k 0)
/-- A block taken into the words. -/
def stepP (h m : List Int) : List Int := (List.range 8).map fun i => (h.getD i 0 + (roundsP h m 64).getD i 0) % 4294967296
theorem stepP_len (h m : List Int) : (stepP h m).length = 8 := by simp [stepP]
/-- The first k blocks taken in. -/
def hashP (m : List Int) : Nat → List Int
  | 0 => H0
  | k + 1 => stepP (hashP m k) ((m.drop (64 * k)).take 64)
theorem hashP_len (m : List Int) : ∀ k, (hashP m k).length = 8
  | 0 => rfl
  | _k + 1 => stepP_len _ _
/-- A number's n bytes, the highest first. -/
def beN (v : Int) (n : Nat) : List Int := (List.range n).map fun i => IntKind.u8.wrap (v / 2 ^ (8 * (n - 1 - i)))
theorem beN_len (v : Int) (n : Nat) : (beN v n).length = n := by simp [beN]
theorem beN_bd (v : Int) (n : Nat) : ∀ x ∈ beN v n, 0 ≤ x ∧ x ≤ 255 := by
  intro x hx
  obtain ⟨i, _, rfl⟩ := List.mem_map.1 hx
  rw [IntKind.wrap_u8']
  omega
/-- Bytes up to a number of blocks, their length behind. -/
def padP (b : List Int) : List Int := b ++ 128 :: (List.replicate ((119 - b.length % 64) % 64) 0 ++ beN (8 * b.length) 8)
theorem padP_len (b : List Int) : (padP b).length % 64 = 0 := by
  simp [padP, beN_len]; omega
def shaP (b : List Int) : List Int := (hashP (padP b) ((padP b).length / 64)).flatMap fun w => beN w 4
theorem flatMap_len {α β : Type} (f : α → List β) (n : Nat) (h : ∀ x, (f x).length = n) : ∀ l : List α, (l.flatMap f).length = l.length * n
  | [] => by simp
  | x :: l => by simp [flatMap_len f n h l, h, Nat.add_mul]; omega
theorem shaP_len (b : List Int) : (shaP b).length = 32 := by
  unfold shaP
  rw [flatMap_len _ 4 (fun w => beN_len w 4), hashP_len]
theorem shaP_bd (b : List Int) : ∀ x ∈ shaP b, 0 ≤ x ∧ x ≤ 255 := by
  intro x hx
  obtain ⟨w, _, hw⟩ := List.mem_flatMap.1 hx
  exact beN_bd w 4 x hw

theorem schedP_zero (m : List Int) : schedP m 0 = [] := rfl
theorem roundsP_zero (h m : List Int) : roundsP h m 0 = h := rfl
theorem roundsP_succ (h m : List Int) (k : Nat) : roundsP h m (k + 1) = roundP (roundsP h m k) (K0.getD k 0) ((schedP m 64).getD k 0) := rfl
theorem hashP_zero (m : List Int) : hashP m 0 = H0 := rfl
theorem hashP_succ (m : List Int) (k : Nat) : hashP m (k + 1) = stepP (hashP m k) ((m.drop (64 * k)).take 64) := rfl
attribute [irreducible] schedP roundsP hashP shaP

end Go.Proofs.YtohadeijmmmcdaaDoor
