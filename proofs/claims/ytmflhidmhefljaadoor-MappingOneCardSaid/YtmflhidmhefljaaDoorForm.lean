/-
  field.Pen: a text; all fields.
  scroll.Form.
-/
import Derived.Test.YtmflhidmhefljaaDoorPen
import Derived.Test.YtmflhidmhefljaaDoorCat
import Derived.Test.YtmflhidmhefljaaDoorSum

section
namespace Go.Proofs.YtmflhidmhefljaaDoor
open Go.RowKit Go.Shelf
set_option maxRecDepth 100000
attribute [local go_sem ↓] ap22_of

set_option maxHeartbeats 4000000 in
theorem text_any (B p : Nat) (v : Value) (l : List Int) (A : Option Addr) (c : Nat) (hcA : A = none → c = 0) (b : List Int) (w : World) (h : IsPen B w p v l) (hb : Byt w A b) (hA : ∀ a, A = some a → 0 < b.length → ¬ (a.block = p ∨ v.ownBlock = some a.block)) (hl : l.length + b.length ≤ 140737488355000) (hl0 : l.length ≤ 400000000) (hB : B ≤ w.heap.size) :
    Calls Tryd.prog 67 #[.pointer (some ⟨p, 0, none⟩), .slice A b.length c] w fun e w' => e = .returned (.tuple #[]) ∧ (∃ v', IsPen B w' p v' (l ++ (numP b.length ++ b)) ∧ Foot w v v') ∧ Fr (fun k => k = p ∨ v.ownBlock = some k) w w' := by
  obtain ⟨m, hm⟩ : ∃ m, b.length = m := ⟨_, rfl⟩
  rw [hm]
  have hm2 : m ≤ 140737488355000 := by omega
  have H := Lib.hid h
  have HB := Lib.hid hb
  have HM := Lib.hid hm
  have HA := Lib.hid hA
  clear h hb hA hm
  go_enter Tryd.func67, Tryd.ntmps67
  go_wp2_with fail
  refine (num_any B p v l m (by omega) w H.out (by omega) hB).mono ?_
  rintro e w1 ⟨rfl, ⟨v1, h1, hft1⟩, hf1⟩
  have hb1 := HB.out.fr hf1 (fun a e h0 => HA.out a e (by rw [HM.out] at h0 ⊢; exact h0))
  have hnl : (numP m).length ≤ 9 := by
    have := leP_len8 (n := m) (by omega)
    rw [numP_len]; omega
  obtain ⟨v2, w2, hap, ho2, hf2, hft2⟩ := app8 (ty := 51) (c := c) h1.own hb1 (by rw [List.length_append]; have := HM.out; omega) (Nat.le_trans hB hf1.size) hcA
  obtain ⟨A1, c1, rfl⟩ := h1.own.form
  obtain ⟨A2, c2, rfl⟩ := ho2.form
  rw [HM.out] at hap
  have hne := own8_ne h1.own h1.st (by decide)
  have hst2 := h1.st.fr hf2 (fun e => hne e)
  obtain ⟨N1, hN1⟩ : ∃ N1, (l ++ numP m).length = N1 := ⟨_, rfl⟩
  obtain ⟨N2, hN2⟩ : ∃ N2, (l ++ numP m ++ b).length = N2 := ⟨_, rfl⟩
  have k1 : w1.cell? ⟨p, 0, none⟩ = some (.slice A1 N1 c1) := by rw [← hN1]; exact h1.st.cell 0
  have k2 : w2.cell? ⟨p, 0, none⟩ = some (.slice A1 N1 c1) := by rw [← hN1]; exact hst2.cell 0
  have f2 := hst2.frozen 0
  have hap' : (APs #[51, 51] 51 #[.slice A1 N1 c1, .slice A m c]).run Tryd.prog w1 = .ok (.slice A2 N2 c2) w2 := by rw [← hN1, ← hN2]; exact hap
  have H1 := Lib.hid h1
  have O2 := Lib.hid ho2
  have F1 := Lib.hid hf1
  have F2 := Lib.hid hf2
  have FT1 := Lib.hid hft1
  have FT2 := Lib.hid hft2
  have S2 := Lib.hid hst2
  have HN1 := Lib.hid hN1
  have HN2 := Lib.hid hN2
  clear h1 ho2 hf1 hf2 hft1 hft2 hst2 hb1 hap hne hN1 hN2
  go_wp2_with fail
  go_end0
  have hnp := own8_ne O2.out S2.out (by decide)
  refine ⟨rfl, ⟨.slice A2 N2 c2, ⟨by simpa using S2.out.set_ 0 (.slice A2 N2 c2), H.out.b1, ?_⟩, ?_⟩, ?_⟩
  · have e := O2.out.fr (F := fun j => j = p) ((Fr.refl (fun j => j = p) w2).setCell (p := ⟨p, 0, none⟩) (fun _ => rfl) (.slice A2 N2 c2)) (fun j hj e => hnp (e ▸ hj))
    rw [HN2.out, List.append_assoc] at e
    exact e
  · intro j hj
    rcases FT2.out j ((own_sl A2 _ _ _ _).trans hj) with h | h
    · exact FT1.out j h
    · exact .inr (Nat.le_trans F1.out.size h)
  · refine (F1.out.trans (F2.out.mono (G := fun j => j = p ∨ (Value.slice A1 N1 c1).ownBlock = some j) (fun j _ h => .inr ((own_sl A1 _ _ _ _).trans h))) (fun j hj h => ?_)).setCell (p := ⟨p, 0, none⟩) (fun _ => .inl rfl) _
    rcases h with h | h
    · exact .inl h
    · rcases FT1.out j ((own_sl A1 _ _ _ _).trans h) with h | h
      · exact .inr h
      · omega

set_option maxHeartbeats 2000000 in
theorem pbytes_any (B p : Nat) (v : Value) (l : List Int) (hlb : ∀ x ∈ l, 0 ≤ x ∧ x ≤ 255) (w : World) (h : IsPen B w p v l) (hl : l.length ≤ 140737488355328) :
    Calls Tryd.prog 68 #[.pointer (some ⟨p, 0, none⟩)] w fun e w' => ∃ v', e = .returned v' ∧ Own8 w.heap.size w' v' l ∧ Below w.heap.size w w' := by
  obtain ⟨A1, c1, e1, hby, _, hc⟩ := h.own.byt hlb
  have hcA : A1 = none → c1 = 0 := by
    rintro rfl
    obtain ⟨_, ⟨h2, _⟩ | ⟨g, cap, cur, h2, _⟩⟩ := h.own
    · rw [e1] at h2
      simp only [Value.slice.injEq] at h2
      exact h2.2.2
    · rw [e1] at h2
      simp at h2
  have k1 := h.st.cell 0
  rw [e1] at k1
  have k1' : w.cell? ⟨p, 0, none⟩ = some (.slice A1 l.length c1) := k1
  obtain ⟨n, hn⟩ : ∃ n, l.length = n := ⟨_, rfl⟩
  have HC := Lib.hid (clone_any A1 c1 hcA l w hby hl)
  rw [hn] at k1'
  have HN := Lib.hid hn
  clear k1 e1 hby h hn
  go_enter Tryd.func68, Tryd.ntmps68
  go_wp2_with fail
  have hcl := HC.out
  rw [HN.out] at hcl
  refine hcl.mono ?_
  rintro e w' ⟨v', rfl, ho, hb⟩
  have HO := Lib.hid ho
  have HB := Lib.hid hb
  clear ho hb hcl HC
  go_wp2_with fail
  go_ret
  exact ⟨v', rfl, HO.out, HB.out⟩

end Go.Proofs.YtmflhidmhefljaaDoor
end

section
namespace Go.Proofs.YtmflhidmhefljaaDoor
open Go.RowKit Go.Shelf
set_option maxRecDepth 100000
theorem ap223_of (xs : Array Value) (t : TypeId) : Builtin.append_ #[51, 3] t xs = APs #[51, 3] t xs := rfl
attribute [local go_sem ↓] ap22_of ap223_of

/-- The error with which Form answers. -/
def formE (t n : Int) (b : List Int) : Int :=
  if ¬ (0 ≤ t ∧ t ≤ 1099511627776) ∨ ¬ (0 ≤ n ∧ n ≤ 1099511627776) then 5 else if 1024 < secP (12 + (fieldsP t.toNat n.toNat b).length) then 4 else 0
/-- The bytes. -/
def formV (t n : Int) (b : List Int) : List Int := if formE t n b = 0 then formP t.toNat n.toNat b else []

end Go.Proofs.YtmflhidmhefljaaDoor
end
