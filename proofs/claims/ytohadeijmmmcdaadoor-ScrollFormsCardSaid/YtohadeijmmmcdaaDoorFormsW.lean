/-
  ScrollForms: the walk.
-/
import Derived.Test.YtohadeijmmmcdaaDoorRForm
import Derived.Test.YtohadeijmmmcdaaDoorLawS
import Derived.Test.YtohadeijmmmcdaaDoorOpenD
namespace Go.Proofs.YtohadeijmmmcdaaDoor
open Go.RowKit
set_option maxRecDepth 100000

theorem formV_bd {t n : Int} {b : List Int} (hb : ∀ x ∈ b, 0 ≤ x ∧ x ≤ 255) (hl : b.length ≤ 80000000) : (∀ x ∈ formV t n b, 0 ≤ x ∧ x ≤ 255) ∧ (formV t n b).length ≤ 100000000 := by
  unfold formV
  split
  · rename_i h
    have hr : ¬ (¬ (0 ≤ t ∧ t ≤ 1099511627776) ∨ ¬ (0 ≤ n ∧ n ≤ 1099511627776)) := fun h' => by
      unfold formE at h
      rw [if_pos h'] at h
      cases h
    have ht : t.toNat ≤ mostP := by unfold mostP; omega
    have hn : n.toNat ≤ mostP := by unfold mostP; omega
    refine ⟨formP_bd ht hn hb (by omega), ?_⟩
    rw [formP_len, fieldsP_len]
    have h1 := numP_len9 (n := t.toNat) (by unfold mostP at ht; omega)
    have h2 := numP_len9 (n := n.toNat) (by unfold mostP at hn; omega)
    have h3 := numP_len9 (n := b.length) (by omega)
    unfold secP
    omega
  · simp

set_option maxHeartbeats 4000000 in
theorem forms_law (t n : Int) (A : Option Addr) (c : Nat) (b : List Int) (w : World) (_ht : -9223372036854775808 ≤ t ∧ t ≤ 9223372036854775807) (_hn : -9223372036854775808 ≤ n ∧ n ≤ 9223372036854775807) (hb : BytN w A c b) (hm : b.length ≤ maxLen) (hg : Glob w) :
    Calls Tryd.prog 3 #[.int .i64 t, .int .i64 n, .slice A b.length c] w fun e w' => e = .returned (.bool true) ∧ Below w.heap.size w w' := by
  unfold maxLen at hm
  obtain ⟨m, hm'⟩ : ∃ m, b.length = m := ⟨_, rfl⟩
  rw [hm'] at hm ⊢
  have HB := Lib.hid hb
  have HM := Lib.hid hm'
  have HG := Lib.hid hg
  clear hb hm' hg
  by_cases hbig : 700 < m
  · have hbI : (700 : Int) < (m : Int) := by omega
    go_enter Tryd.func3, Tryd.ntmps3
    go_wp2_with fail
    with_reducible refine (awake13 w HG.out).mono ?_
    rintro e w' ⟨rfl, hb⟩
    have HB := Lib.hid hb
    clear hb
    go_wp2_with fail
    go_ret
    exact ⟨rfl, HB.out⟩
  · have hbI : (m : Int) ≤ 700 := by omega
    go_enter Tryd.func3, Tryd.ntmps3
    go_wp2_with fail
    have h1 := form_any t n A c HB.out.nil_ b w HB.out.byt (by rw [HM.out]; omega) HG.out
    rw [HM.out] at h1
    with_reducible refine h1.mono ?_
    rintro e w1 ⟨v1, rfl, o1, b1⟩
    obtain ⟨hfb, hfl⟩ := formV_bd (t := t) (n := n) HB.out.byt.bd (by rw [HM.out]; omega)
    obtain ⟨E, hE⟩ : ∃ E, formE t n b = E := ⟨_, rfl⟩
    obtain ⟨F, hF⟩ : ∃ F, formV t n b = F := ⟨_, rfl⟩
    rw [hF] at o1 hfb hfl
    rw [hE]
    obtain ⟨A1, c1, rfl⟩ := o1.form
    obtain ⟨k, hk⟩ : ∃ k, F.length = k := ⟨_, rfl⟩
    rw [hk] at o1 ⊢
    have O1 := Lib.hid o1
    have B1 := Lib.hid b1
    have HE := Lib.hid hE
    have HF := Lib.hid hF
    have HFB := Lib.hid hfb
    have HFL := Lib.hid hfl
    have HK := Lib.hid hk
    clear o1 b1 hE hF hfb hk h1 hfl
    go_wp2_with fail
    have h2 := rform_any t n A c HB.out.nil_ b w1 (HB.out.byt.below B1.out) (by rw [HM.out]; omega)
    rw [HM.out] at h2
    with_reducible refine h2.mono ?_
    rintro e w2 ⟨⟨v2, rfl, o2⟩, b2⟩
    rw [HF.out] at o2
    rw [HE.out]
    obtain ⟨A2, c2, rfl⟩ := o2.form
    have o1' : Own8 w.heap.size w2 (.slice A1 k c1) F := O1.out.fr (Fr.of_below b2) (fun k hk e => by have := (O1.out.lt hk).2; omega)
    obtain ⟨A1', c1', e1, y1, _, _⟩ := o1'.byt HFB.out
    rw [HK.out] at e1
    simp only [Value.slice.injEq, true_and] at e1
    obtain ⟨rfl, rfl⟩ := e1
    obtain ⟨A2', c2', e2, y2, _, _⟩ := o2.byt HFB.out
    simp only [Value.slice.injEq, true_and] at e2
    obtain ⟨rfl, rfl⟩ := e2
    rw [HK.out]
    have hby := bytes_any A1 A2 c1 c2 F F w2 y1 y2 (by have := HFL.out; omega) (by have := HFL.out; omega)
    rw [HK.out, decide_eq_true rfl] at hby
    have B2 := Lib.hid (B1.out.trans (b2.mono B1.out.size))
    have HBY := Lib.hid hby
    clear o1' o2 y1 y2 h2 b2 hby
    go_wp2_with fail
    with_reducible refine HBY.out.mono ?_
    rintro e w3 ⟨rfl, q, rfl⟩
    go_wp2_with fail
    have B3 := below_drewN B2.out q
    with_reducible refine (awake13 _ (HG.out.below B3)).mono ?_
    rintro e w4 ⟨rfl, hb4⟩
    have B4 := Lib.hid (B3.trans (hb4.mono B3.size))
    clear hb4 B3
    go_wp2_with fail
    go_ret
    exact ⟨rfl, B4.out⟩

end Go.Proofs.YtohadeijmmmcdaaDoor
