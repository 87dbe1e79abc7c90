/-
  slices.Clone of bytes.
-/
import Derived.Test.YtohadeijmmmcdaaDoorCat
namespace Go.Proofs.YtohadeijmmmcdaaDoor
open Go.RowKit
set_option maxRecDepth 100000
theorem apc_of (xs : Array Value) (t : TypeId) : Builtin.append_ #[22, 22] t xs = APs #[22, 22] t xs := rfl
attribute [local go_sem ↓] apc_of

set_option maxHeartbeats 2000000 in
theorem clone_any (A : Option Addr) (c : Nat) (hc : A = none → c = 0) (l : List Int) (w : World) (hb : Byt w A l) (hl : l.length ≤ 500000000) :
    Calls Tryd.prog 76 #[.slice A l.length c] w fun e w' => ∃ v, e = .returned v ∧ Own8 w.heap.size w' v l ∧ Below w.heap.size w w' := by
  have hq : ∀ (W : World) (n c : Nat), (binOp .eql 22 (.slice A n c) (.slice none 0 0)).run Tryd.prog W = .ok (.bool A.isNone) W := fun W n c => Lib.run_eql_slice_nil W _ _ A n c 0 0 u22
  cases A with
  | none =>
    have e : l = [] := by
      cases l with
      | nil => rfl
      | cons x r =>
        obtain ⟨g, o, e, _⟩ := hb.cell (by simp)
        cases e
    subst e
    obtain rfl := hc rfl
    go_enter Tryd.func76, Tryd.ntmps76
    go_wp2
    first
      | (go_ret; exact ⟨_, rfl, Own8.nil _ _, Below.refl _ _⟩)
  | some a =>
    have hrow : Own8 w.heap.size (w.alloc (.cells #[] 5)) (.slice (some ⟨w.heap.size, 0, none⟩) 0 0) [] := Own8.none_ (Nat.le_refl _) (Blk.new w _ _) rfl (by unfold maxLen; omega)
    have hby := hb.below ((Below.refl _ w).alloc (Nat.le_refl _) (.cells #[] 5))
    obtain ⟨v', w', hap, ho, hf, _⟩ := app8 (ty := 22) (c := c) hrow hby (by simpa using Nat.le_trans hl (by omega)) (by simp) (by simp)
    obtain ⟨m, hm⟩ : ∃ m, l.length = m := ⟨_, rfl⟩
    rw [hm] at hap ⊢
    have HO := Lib.hid ho
    have HB := Lib.hid (((Below.refl _ w).alloc (Nat.le_refl _) (.cells #[] 5)).trans (hf.below (by simp) (fun k hk e => by simp [Value.ownBlock] at e; omega)))
    clear hrow hby ho hf hb hm
    go_enter Tryd.func76, Tryd.ntmps76
    go_wp2
    first
      | (go_ret; exact ⟨_, rfl, by simpa using HO.out, HB.out⟩)

end Go.Proofs.YtohadeijmmmcdaaDoor
