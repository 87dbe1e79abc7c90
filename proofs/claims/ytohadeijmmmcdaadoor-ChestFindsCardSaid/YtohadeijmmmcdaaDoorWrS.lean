/-
  A new drum that was written through.
-/
import Derived.Test.YtohadeijmmmcdaaDoorLawS
namespace Go.Proofs.YtohadeijmmmcdaaDoor
open Go.RowKit
set_option maxRecDepth 100000

/-! ### A drum that was written through -/
/-- Sector j of bytes. -/
def secB (all : List Int) (j : Nat) : List Int := (all.drop (64 * j)).take 64
/-- The first k sectors of a new drum of n written. -/
def wrS (n : Nat) (all : List Int) (k : Nat) : DS := { DS.new n with waits := (List.range k).map fun j => (j, secB all j) }
theorem wrS_good (n : Nat) (all : List Int) (k : Nat) : (wrS n all k).Good := ⟨rfl, rfl⟩
theorem wrS_len (n : Nat) (all : List Int) (k : Nat) : (wrS n all k).sure.length = n ∧ (wrS n all k).waits.length = k := by simp [wrS, DS.new]
theorem wrS_zero (n : Nat) (all : List Int) : wrS n all 0 = DS.new n := rfl
theorem secB_len {all : List Int} {n j : Nat} (h : all.length = 64 * n) (hj : j < n) : (secB all j).length = 64 := by
  unfold secB
  rw [List.length_take, List.length_drop, h]
  omega
theorem wrS_succ {n : Nat} {all : List Int} (h : all.length = 64 * n) {k : Nat} (hk : k < n) : (wrS n all k).write (k : Int) (secB all k) = (0, wrS n all (k + 1)) := by
  rw [(wrS n all k).write_good (wrS_good _ _ _) (by rw [(wrS_len n all k).1]; exact hk) (secB_len h hk)]
  simp [wrS, List.range_succ]
theorem wrS_now {n : Nat} {all : List Int} (j : Nat) : ∀ k, j < k → (wrS n all k).now j = secB all j
  | 0, h => by omega
  | k + 1, h => by
    have e : wrS n all (k + 1) = { wrS n all k with waits := (wrS n all k).waits ++ [(k, secB all k)] } := by simp [wrS, List.range_succ]
    rw [e, now_snoc]
    by_cases hk : k = j
    · rw [if_pos hk, hk]
    · rw [if_neg hk]
      exact wrS_now j k (by omega)
theorem wrS_st {n : Nat} {all : List Int} (f : Nat) : ∀ m, f + m ≤ n → stP (wrS n all n) f m = (all.drop (64 * f)).take (64 * m)
  | 0, _ => by simp [stP]
  | m + 1, h => by
    rw [stP_succ, wrS_st f m (by omega), wrS_now (f + m) n (by omega), Nat.mul_succ, List.take_add, List.drop_drop]
    unfold secB
    rw [show 64 * f + 64 * m = 64 * (f + m) by omega]

theorem peq35s (q : Nat) (W : World) : (binOp .eql 35 (.pointer (some ⟨q, 0, none⟩)) (.pointer none)).run Tryd.prog W = .ok (.bool false) W := by rfl

theorem write_at {w W : World} {B p gs : Nat} {S : DS} (h : At w B p gs S W) (k : Int) (A : Option Addr) (c : Nat) (b : List Int) (hb : Byt W A b) (hA : ∀ a, A = some a → a.block ≠ p) (hlen : S.waits.length ≤ 1000000000) :
    Calls Tryd.prog 23 #[.pointer (some ⟨p, 0, none⟩), .int .i64 k, .slice A b.length c] W fun e W' => e = .returned (.int .i64 (S.write k b).1) ∧ At w B p gs (S.write k b).2 W' ∧ Kept B dts W W' := by
  obtain ⟨wv, hd⟩ := h.drum
  refine (write_any B p gs wv S k A c b W hd hb hA hlen h.size).mono ?_
  rintro e W' ⟨rfl, ⟨wv', hd', _⟩, hf⟩
  have hk := Kept.of_drum hd hf
  exact ⟨rfl, h.kept hk ⟨_, hd'⟩, hk⟩
theorem aps223s (xs : Array Value) (t : TypeId) : Builtin.append_ #[22, 3] t xs = APs #[22, 3] t xs := rfl
end Go.Proofs.YtohadeijmmmcdaaDoor
