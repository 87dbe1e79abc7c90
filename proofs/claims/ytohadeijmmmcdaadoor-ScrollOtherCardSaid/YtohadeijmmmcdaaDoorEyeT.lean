/-
  field.Eye: a text read; what is left.
-/
import Derived.Test.YtohadeijmmmcdaaDoorEye
import Derived.Test.YtohadeijmmmcdaaDoorClone
namespace Go.Proofs.YtohadeijmmmcdaaDoor
open Go.RowKit
set_option maxRecDepth 100000

theorem takeNumP_le {most : Nat} {l r : List Int} {v : Nat} (h : takeNumP most l = some (v, r)) : v ≤ most ∧ r.length ≤ l.length := by
  cases l with
  | nil => simp [takeNumP] at h
  | cons k tl =>
    simp only [takeNumP] at h
    split at h
    · cases h
    · rename_i hc
      simp only [Option.some.injEq, Prod.mk.injEq] at h
      obtain ⟨rfl, rfl⟩ := h
      simp only [not_or, Nat.not_lt] at hc
      refine ⟨hc.2.2.2, ?_⟩
      simp
      omega

theorem IsEye.below {w w' : World} {p : Nat} {A : Option Addr} {c : Nat} {l : List Int} (h : IsEye w p A c l) (hb : Below w.heap.size w w') : IsEye w' p A c l :=
  ⟨h.st.fr (Fr.of_below hb) (by have := h.st.lt; omega), h.by_.below hb, h.ne, h.cap⟩

/-- What is behind the reading of a text. -/
def TextPost (n₀ p : Nat) (R : Option (List Int × List Int)) (e : Ending) (w' : World) : Prop :=
  match R with
  | none => ∃ x, (x != 0) = true ∧ e = .panicked [{ v := brokenV x, recovered := false }]
  | some (t, r) => ∃ v, e = .returned v ∧ Own8 n₀ w' v t ∧ ∃ A2 c2, IsEye w' p A2 c2 r

set_option maxHeartbeats 8000000 in
theorem etext_any (p : Nat) (A : Option Addr) (c : Nat) (l : List Int) (most : Nat) (hm : most ≤ 400000000) (hl : l.length ≤ 400000000) (w : World) (h : IsEye w p A c l) :
    Calls Tryd.prog 89 #[.pointer (some ⟨p, 0, none⟩), .int .i64 (most : Int)] w fun e w' => Fr (fun k => k = p) w w' ∧ TextPost w.heap.size p (takeTextP most l) e w' := by
  have hen := enum_any p A c l most (by omega) (by omega) w h
  have hmx : (0 : Int) ≤ (most : Int) := by omega
  cases hR : takeNumP most l with
  | none =>
    have hT : takeTextP most l = none := by unfold takeTextP; rw [hR]
    rw [hT]
    rw [hR] at hen
    have HEN := Lib.hid hen
    clear hen hR hT
    go_enter Tryd.func89, Tryd.ntmps89
    go_wp2_with fail
    refine HEN.out.mono ?_
    rintro e w1 ⟨f1, x, hx, rfl⟩
    exact ⟨rfl, f1, x, hx, rfl⟩
  | some vr =>
    obtain ⟨v, r⟩ := vr
    obtain ⟨hv, hrl⟩ := takeNumP_le hR
    have hT : takeTextP most l = if r.length < v then none else some (r.take v, r.drop v) := by unfold takeTextP; rw [hR]
    rw [hT]
    rw [hR] at hen
    have HEN := Lib.hid hen
    clear hen hR hT
    by_cases hfew : r.length < v
    · rw [if_pos hfew]
      go_enter Tryd.func89, Tryd.ntmps89
      go_wp2_with fail
      refine HEN.out.mono ?_
      rintro e w1 ⟨f1, rfl, A2, c2, h2⟩
      have H2 := Lib.hid h2
      have F1 := Lib.hid f1
      clear h2 f1
      go_wp2_with fail
      refine (take_few p A2 c2 r v hfew w1 H2.out).mono ?_
      rintro e w' ⟨rfl, hw⟩
      rw [hw]
      exact ⟨rfl, F1.out, 2, rfl, rfl⟩
    · rw [if_neg hfew]
      go_enter Tryd.func89, Tryd.ntmps89
      go_wp2_with fail
      refine HEN.out.mono ?_
      rintro e w1 ⟨f1, rfl, A2, c2, h2⟩
      have H2 := Lib.hid h2
      have F1 := Lib.hid f1
      clear h2 f1
      go_wp2_with fail
      refine (take_ok p A2 c2 r v (by omega) (by omega) w1 H2.out).mono ?_
      rintro e w2 ⟨A3, rfl, y3, ⟨A4, c4, h4⟩, f2⟩
      have hl3 : (r.take v).length = v := by rw [List.length_take]; omega
      have hc3 : A3 = none → v = 0 := by
        rintro rfl
        rcases Nat.eq_zero_or_pos v with h0 | h0
        · exact h0
        · obtain ⟨g, o, e, _⟩ := y3.cell (by omega)
          cases e
      have hcl := clone_any A3 v hc3 (r.take v) w2 y3 (by omega)
      rw [hl3] at hcl
      have HCL := Lib.hid hcl
      have H4 := Lib.hid h4
      have F2 := Lib.hid (F1.out.trans f2 (fun _ _ h => h))
      clear y3 h4 f2 hl3 hc3 hcl
      go_wp2_with fail
      refine HCL.out.mono ?_
      rintro e w3 ⟨v5, rfl, ho, hb3⟩
      have HO := Lib.hid ho
      have HB := Lib.hid hb3
      clear ho hb3
      go_wp2_with fail
      go_ret
      have hF3 : Fr (fun k => k = p) w w3 := F2.out.trans ((Fr.of_below HB.out).mono (G := fun k => k = p) (fun k hk h => absurd hk (by omega))) (fun _ _ h => h)
      obtain ⟨hl5, hh5⟩ := HO.out
      refine ⟨hF3, v5, rfl, ⟨hl5, hh5.imp id (fun ⟨g, cap, cur, h1, h2, h3⟩ => ⟨g, cap, cur, h1, Nat.le_trans F2.out.size h2, h3⟩)⟩, A4, c4, H4.out.below HB.out⟩

set_option maxHeartbeats 1000000 in
theorem eleft_any (p : Nat) (A : Option Addr) (c : Nat) (l : List Int) (w : World) (h : IsEye w p A c l) :
    Calls Tryd.prog 100 #[.pointer (some ⟨p, 0, none⟩)] w fun e w' => e = .returned (.int .i64 (l.length : Int)) ∧ w' = w := by
  have k : w.cell? ⟨p, 0, none⟩ = some (.slice A l.length c) := h.st.cell 0
  obtain ⟨n, hn⟩ : ∃ n, l.length = n := ⟨_, rfl⟩
  rw [hn] at k ⊢
  clear h hn
  go_enter Tryd.func100, Tryd.ntmps100
  go_wp2
  go_ret
  exact ⟨rfl, rfl⟩

end Go.Proofs.YtohadeijmmmcdaaDoor
