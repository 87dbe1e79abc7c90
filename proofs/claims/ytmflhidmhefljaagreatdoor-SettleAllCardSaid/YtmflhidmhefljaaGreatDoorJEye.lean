/-
  field.Eye: what ends a reading; bytes taken.
  field.Eye: a text read; what is left.
  What scroll.read asks of an eye (its closure).
-/
import Derived.Test.YtmflhidmhefljaaGreatDoorJScrB
import Derived.Test.YtmflhidmhefljaaGreatDoorJCat

section
namespace Go.Proofs.YtmflhidmhefljaaGreatDoor
open Go.RowKit
set_option maxRecDepth 100000
theorem sle_of (x : Value) (lo hi mx : Option Value) : Instr.sliceAt 22 x lo hi mx = SLs 22 x lo hi mx := rfl
attribute [local go_sem ↓] sle_of

theorem or_low (a c : Nat) (ha : a * 256 + 255 < 18446744073709551616) (hc : c < 256) : bits .or .u64 ((a * 256 : Nat) : Int) (c : Int) = ((a * 256 + c : Nat) : Int) := by
  rw [u64_or_nat _ _ (by omega) (by omega)]
  congr 1
  have e := Nat.shiftLeft_add_eq_or_of_lt (i := 8) (b := c) (by omega) a
  rw [Nat.shiftLeft_eq] at e
  rw [← e]
theorem valP_lt' : ∀ (n : Nat) (l : List Int), l.length = n → (∀ x ∈ l, 0 ≤ x ∧ x ≤ 255) → valP l < 256 ^ n
  | 0, l, hl, _ => by
    have : l = [] := List.length_eq_zero_iff.1 hl
    subst this
    simp [valP]
  | n + 1, l, hl, h => by
    rcases List.eq_nil_or_concat l with rfl | ⟨q, x, rfl⟩
    · simp at hl
    · rw [List.concat_eq_append] at hl h ⊢
      have h1 := valP_lt' n q (by simpa using hl) (fun y hy => h y (by simp [hy]))
      have h2 := h x (by simp)
      rw [valP_snoc, Nat.pow_succ]
      omega
theorem valP_lt (l : List Int) (h : ∀ x ∈ l, 0 ≤ x ∧ x ≤ 255) : valP l < 256 ^ l.length := valP_lt' _ l rfl h

end Go.Proofs.YtmflhidmhefljaaGreatDoor
end

section
namespace Go.Proofs.YtmflhidmhefljaaGreatDoor
open Go.RowKit
set_option maxRecDepth 100000

theorem takeNumP_le {most : Nat} {l r : List Int} {v : Nat} (h : takeNumP most l = some (v, r)) : v ≤ most ∧ r.length ≤ l.length := by
  cases l with
  | nil => simp [takeNumP] at h
  | cons k tl =>
    simp only [takeNumP] at h
    split at h
    · cases h
    · rename_i hc
      simp only [Option.some.injEq, Prod.mk.injEq] at h
      obtain ⟨rfl, rfl⟩ := h
      simp only [not_or, Nat.not_lt] at hc
      refine ⟨hc.2.2.2, ?_⟩
      simp
      omega

end Go.Proofs.YtmflhidmhefljaaGreatDoor
end

section
namespace Go.Proofs.YtmflhidmhefljaaGreatDoor
open Go.RowKit
set_option maxRecDepth 100000

/-- A record's fields, and what is left. -/
def fldP (l : List Int) (long : Nat) : Option (Nat × Nat × List Int × List Int) :=
  match takeNumP mostP l with
  | none => none
  | some (t, r) => match takeNumP mostP r with
    | none => none
    | some (n, r) => match takeTextP long r with
      | none => none
      | some (x, r) => some (t, n, x, r)
theorem eyeP_fld (l : List Int) (long : Nat) : eyeP l long = match fldP l long with | none => none | some (t, n, x, r) => if r = [] then some (t, n, x) else none := by
  unfold eyeP fldP
  cases takeNumP mostP l with
  | none => rfl
  | some a =>
    obtain ⟨t, r⟩ := a
    simp only
    cases takeNumP mostP r with
    | none => rfl
    | some a =>
      obtain ⟨n, r⟩ := a
      simp only
      cases takeTextP long r with
      | none => rfl
      | some a => rfl

theorem byt_ne {w : World} {rb : Nat} {t : TypeId} {cs : Array Value} {A : Option Addr} {l : List Int} (hb : Blk w rb t cs) (hcs : ∀ (i : Nat) (y : Int), cs[i]? ≠ some (Value.int .u8 y)) (hy : Byt w A l) : ∀ a, A = some a → 0 < l.length → a.block ≠ rb := by
  intro a ha h0 e
  obtain ⟨g, o, e2, _, hc⟩ := hy.at_ h0
  cases ha.symm.trans e2
  simp only at e
  subst e
  rw [hb.cell] at hc
  exact hcs _ _ hc
theorem Own8.base {B B' : Nat} {w : World} {v : Value} {l : List Int} (h : Own8 B w v l) (hB : B' ≤ B) : Own8 B' w v l := by
  obtain ⟨hl5, hh5⟩ := h
  exact ⟨hl5, hh5.imp id (fun ⟨g, cap, cur, h1, h2, h3⟩ => ⟨g, cap, cur, h1, Nat.le_trans hB h2, h3⟩)⟩

end Go.Proofs.YtmflhidmhefljaaGreatDoor
end
