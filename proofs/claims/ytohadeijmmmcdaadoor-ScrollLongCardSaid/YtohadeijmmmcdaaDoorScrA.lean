/-
  scroll's small functions: all zeros, bytes compared, a stretch, its bytes.
-/
import Derived.Test.YtohadeijmmmcdaaDoorTxt
import Derived.Test.YtohadeijmmmcdaaDoorScrP
namespace Go.Proofs.YtohadeijmmmcdaaDoor
open Go.RowKit
set_option maxRecDepth 100000
theorem aps_of (xs : Array Value) (t : TypeId) : Builtin.append_ #[22, 22] t xs = APs #[22, 22] t xs := rfl
attribute [local go_sem ↓] aps_of

set_option maxHeartbeats 1000000 in
theorem zero1_any (x : Int) (w : World) : Calls Tryd.prog 98 #[.int .u8 x] w fun e w' => e = .returned (.bool (x != 0)) ∧ w' = w := by
  go_enter Tryd.func98, Tryd.ntmps98
  go_wp2
  go_ret
  exact ⟨rfl, rfl⟩

/-- The first place that is no zero, or -1. -/
def idxNz : List Int → Nat → Int
  | [], _ => -1
  | x :: l, k => if x != 0 then (k : Int) else idxNz l (k + 1)
theorem idxNz_any : ∀ (l : List Int) (k : Nat), decide (0 ≤ idxNz l k) = l.any (· != 0)
  | [], k => by simp [idxNz]
  | x :: l, k => by
    by_cases h : (x != 0) = true
    · simp only [idxNz, h, if_true, List.any_cons, Bool.true_or]
      simp
    · have h' : (x != 0) = false := by simpa using h
      simp only [idxNz, h', List.any_cons, Bool.false_or]
      exact idxNz_any l (k + 1)

set_option maxHeartbeats 2000000 in
theorem idx_any (A : Option Addr) (c : Nat) (l : List Int) (w : World) (hb : Byt w A l) (hl : l.length ≤ 1000000000) :
    Calls Tryd.prog 107 #[.slice A l.length c, .func (.func 98) #[] #[]] w fun e w' => e = .returned (.int .i64 (idxNz l 0)) ∧ w' = w := by
  obtain ⟨n, hn⟩ : ∃ n, l.length = n := ⟨_, rfl⟩
  rw [hn] at hl ⊢
  have HB := Lib.hid hb
  have HN := Lib.hid hn
  clear hb hn
  go_enter Tryd.func107, Tryd.ntmps107
  go_wp2
  go_loopw [8] (fun t wr => ∃ i : Nat, i ≤ n ∧ t = .int .i64 i ∧ idxNz l 0 = idxNz (l.drop i) i ∧ wr = w)
    (fun t _ => n - (intOf t).toNat)
  case atStart => exact ⟨0, Nat.zero_le _, rfl, rfl, rfl⟩
  case round =>
    obtain ⟨i, hi, rfl, hx, hw⟩ := hrel
    subst hw
    by_cases hlt : i < n
    · have hil : i < l.length := by rw [HN.out]; exact hlt
      obtain ⟨g, o, rfl, _, hc⟩ := HB.out.at_ hil
      have hdr : l.drop i = l[i] :: l.drop (i + 1) := List.drop_eq_getElem_cons hil
      rw [hdr] at hx
      simp only [idxNz] at hx
      obtain ⟨x, hxx⟩ : ∃ x, l[i] = x := ⟨_, rfl⟩
      rw [hxx] at hx hc
      have HX := Lib.hid hx
      clear hx hdr hxx hil
      go_wp2_with fail
      refine (zero1_any x wr).mono ?_
      rintro e w' ⟨rfl, hw⟩
      rw [hw]
      clear hw
      by_cases hz : (x != 0) = true
      · have e := HX.out
        rw [if_pos hz] at e
        have E := Lib.hid e
        clear e
        go_wp2_with fail
        go_ret
        exact ⟨by rw [E.out]; rfl, rfl⟩
      · have hz' : (x != 0) = false := by simpa using hz
        have e := HX.out
        rw [if_neg hz] at e
        have E := Lib.hid e
        clear e hz
        go_wp2_with fail
        go_roundw
        case rel => exact ⟨i + 1, by omega, by go_num, E.out, by first | rfl | trivial⟩
        case measure => simp [intOf]; omega
    · obtain rfl : i = n := by omega
      have e : idxNz (l.drop i) i = -1 := by rw [List.drop_eq_nil_of_le (by rw [HN.out]; exact Nat.le_refl _)]; rfl
      rw [e] at hx
      have HX := Lib.hid hx
      clear hx e
      go_wp2_with fail
      go_ret
      exact ⟨by rw [HX.out]; rfl, rfl⟩

set_option maxHeartbeats 1000000 in
theorem iszero_any (A : Option Addr) (c : Nat) (l : List Int) (w : World) (hb : Byt w A l) (hl : l.length ≤ 1000000000) :
    Calls Tryd.prog 84 #[.slice A l.length c] w fun e w' => e = .returned (.bool (!l.any (· != 0))) ∧ w' = w := by
  have hi := idx_any A c l w hb hl
  obtain ⟨n, hn⟩ : ∃ n, l.length = n := ⟨_, rfl⟩
  rw [hn] at hi ⊢
  obtain ⟨v, hv⟩ : ∃ v, idxNz l 0 = v := ⟨_, rfl⟩
  have ha := idxNz_any l 0
  rw [hv] at ha hi
  have HI := Lib.hid hi
  have HA := Lib.hid ha
  clear hi ha hb hn
  go_enter Tryd.func84, Tryd.ntmps84
  go_wp2_with (first | (go_at_call 97; go_in) | (go_at_call 107; refine HI.out.mono ?_; rintro e w' ⟨rfl, hw⟩; rw [hw]; clear hw))
  first
    | (go_ret; exact ⟨by rw [← HA.out]; rfl, rfl⟩)

set_option maxHeartbeats 2000000 in
theorem equal_any (A1 A2 : Option Addr) (c1 c2 : Nat) (a b : List Int) (w : World) (ha : Byt w A1 a) (hb : Byt w A2 b) (hl : a.length = b.length) (hla : a.length ≤ 1000000000) :
    Calls Tryd.prog 85 #[.slice A1 a.length c1, .slice A2 b.length c2] w fun e w' => e = .returned (.bool (decide (a = b))) ∧ ∃ m, w' = w.drewN m := by
  have hne : ((a.length : Int) != (b.length : Int)) = false := by simp [hl]
  have HL := Lib.hid hl
  have HA := Lib.hid ha
  have HB := Lib.hid hb
  rw [← hl]
  clear hl ha hb hne
  go_enter Tryd.func85, Tryd.ntmps85
  go_wp2
  go_loopw [13] (fun t wr => ∃ i : Nat, i ≤ a.length ∧ t = .int .i64 i ∧ a.take i = b.take i ∧ ∃ m, wr = w.drewN m)
    (fun t _ => a.length - (intOf t).toNat)
  case atStart => exact ⟨0, Nat.zero_le _, rfl, rfl, 0, rfl⟩
  case round =>
    obtain ⟨i, hi, rfl, ht, m, rfl⟩ := hrel
    have HT := Lib.hid ht
    clear ht
    by_cases hlt : i < a.length
    · have hlt2 : i < b.length := by rw [← HL.out]; exact hlt
      obtain ⟨g1, o1, rfl, _, hc1⟩ := HA.out.at_ hlt
      obtain ⟨g2, o2, rfl, _, hc2⟩ := HB.out.at_ hlt2
      have hc1' : w.cell? ⟨g1, o1 + i, none⟩ = some (.int .u8 a[i]) := hc1
      have hc2' : w.cell? ⟨g2, o2 + i, none⟩ = some (.int .u8 b[i]) := hc2
      obtain ⟨x, hx⟩ : ∃ x, a[i] = x := ⟨_, rfl⟩
      obtain ⟨y, hy⟩ : ∃ y, b[i] = y := ⟨_, rfl⟩
      rw [hx] at hc1'
      rw [hy] at hc2'
      have HX := Lib.hid hx
      have HY := Lib.hid hy
      by_cases hxy : x = y
      · have hn : (x != y) = false := by simp [hxy]
        have HXY := Lib.hid hxy
        clear hc1 hc2 hx hy hxy
        go_wp2
        go_region
        go_wp2
        refine ⟨⟨i + 1, by omega, by go_num, take_more hlt hlt2 HT.out (by rw [HX.out, HY.out, HXY.out]), m + 1, rfl⟩, by simp [intOf]; omega⟩
      · have hn : (x != y) = true := by simp [hxy]
        have HXY := Lib.hid hxy
        clear hc1 hc2 hx hy hxy
        go_wp2
        go_region
        go_wp2
        go_ret
        refine ⟨?_, m + 1, rfl⟩
        have hab : a ≠ b := fun e => by
          subst e
          exact HXY.out (HX.out.symm.trans HY.out)
        simp [hab]
    · obtain rfl : i = a.length := by omega
      go_wp2
      go_ret
      have hab : a = b := by
        have h1 := HT.out
        rw [List.take_length, HL.out, List.take_length] at h1
        exact h1
      exact ⟨by simp [hab], m, rfl⟩

end Go.Proofs.YtohadeijmmmcdaaDoor
