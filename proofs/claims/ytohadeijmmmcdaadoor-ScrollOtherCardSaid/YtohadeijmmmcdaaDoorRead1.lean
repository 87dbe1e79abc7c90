/-
  What scroll.read asks of an eye (its closure).
-/
import Derived.Test.YtohadeijmmmcdaaDoorEyeT
namespace Go.Proofs.YtohadeijmmmcdaaDoor
open Go.RowKit
set_option maxRecDepth 100000

/-- A record's fields, and what is left. -/
def fldP (l : List Int) (long : Nat) : Option (Nat × Nat × List Int × List Int) :=
  match takeNumP mostP l with
  | none => none
  | some (t, r) => match takeNumP mostP r with
    | none => none
    | some (n, r) => match takeTextP long r with
      | none => none
      | some (x, r) => some (t, n, x, r)
theorem eyeP_fld (l : List Int) (long : Nat) : eyeP l long = match fldP l long with | none => none | some (t, n, x, r) => if r = [] then some (t, n, x) else none := by
  unfold eyeP fldP
  cases takeNumP mostP l with
  | none => rfl
  | some a =>
    obtain ⟨t, r⟩ := a
    simp only
    cases takeNumP mostP r with
    | none => rfl
    | some a =>
      obtain ⟨n, r⟩ := a
      simp only
      cases takeTextP long r with
      | none => rfl
      | some a => rfl

theorem byt_ne {w : World} {rb : Nat} {t : TypeId} {cs : Array Value} {A : Option Addr} {l : List Int} (hb : Blk w rb t cs) (hcs : ∀ (i : Nat) (y : Int), cs[i]? ≠ some (Value.int .u8 y)) (hy : Byt w A l) : ∀ a, A = some a → 0 < l.length → a.block ≠ rb := by
  intro a ha h0 e
  obtain ⟨g, o, e2, _, hc⟩ := hy.at_ h0
  cases ha.symm.trans e2
  simp only at e
  subst e
  rw [hb.cell] at hc
  exact hcs _ _ hc
theorem Own8.base {B B' : Nat} {w : World} {v : Value} {l : List Int} (h : Own8 B w v l) (hB : B' ≤ B) : Own8 B' w v l := by
  obtain ⟨hl5, hh5⟩ := h
  exact ⟨hl5, hh5.imp id (fun ⟨g, cap, cur, h1, h2, h3⟩ => ⟨g, cap, cur, h1, Nat.le_trans hB h2, h3⟩)⟩

def Read1Post (n₀ p rb : Nat) (sz : Int) (R : Option (Nat × Nat × List Int × List Int)) (e : Ending) (w' : World) : Prop :=
  match R with
  | none => (∃ x, (x != 0) = true ∧ e = .panicked [{ v := brokenV x, recovered := false }]) ∧ ∃ a b v, v.oneCell' = true ∧ Blk w' rb 115 #[.int .i64 a, .int .i64 b, .int .i64 sz, v]
  | some (t, n, x, r) => e = .returned (.tuple #[]) ∧ (∃ A2 c2, IsEye w' p A2 c2 r) ∧ ∃ v, Own8 n₀ w' v x ∧ Blk w' rb 115 #[.int .i64 (t : Int), .int .i64 (n : Int), .int .i64 sz, v]

set_option maxHeartbeats 8000000 in
theorem read1_any (p rb lb : Nat) (A : Option Addr) (c : Nat) (l : List Int) (t0 n0 sz : Int) (vb : Value) (long : Nat) (hlong : long ≤ 400000000) (hl : l.length ≤ 400000000) (w : World) (h : IsEye w p A c l)
    (hb : Blk w rb 115 #[.int .i64 t0, .int .i64 n0, .int .i64 sz, vb]) (hlb : Blk w lb 3 #[.int .i64 (long : Int)]) (hvb : ∀ y, vb ≠ .int .u8 y) (hv1 : vb.oneCell' = true) :
    Calls Tryd.prog 87 #[.pointer (some ⟨p, 0, none⟩), .pointer (some ⟨rb, 0, none⟩), .pointer (some ⟨lb, 0, none⟩)] w fun e w' => Fr (fun k => k = p ∨ k = rb) w w' ∧ Read1Post w.heap.size p rb sz (fldP l long) e w' := by
  have hprb : p ≠ rb := h.st.ne_ hb (by decide)
  have hplb : p ≠ lb := h.st.ne_ hlb (by decide)
  have hrlb : rb ≠ lb := hb.ne_ hlb (by decide)
  have hen : Calls Tryd.prog 88 #[.pointer (some ⟨p, 0, none⟩), .int .u64 1099511627776] w fun e w' => Fr (fun k => k = p) w w' ∧ NumPost p (takeNumP mostP l) e w' := enum_any p A c l 1099511627776 (by omega) (by omega) w h
  obtain ⟨F, hF⟩ : ∃ F, fldP l long = F := ⟨_, rfl⟩
  rw [hF]
  unfold fldP at hF
  have HB := Lib.hid hb
  have HV1 := Lib.hid hv1
  clear hv1
  have HLB := Lib.hid hlb
  cases hR : takeNumP mostP l with
  | none =>
    rw [hR] at hen hF
    have HEN := Lib.hid hen
    have HF := Lib.hid hF
    clear hen hR hF h hb hlb
    go_enter Tryd.func87, Tryd.ntmps87
    go_wp2_with fail
    refine HEN.out.mono ?_
    rintro e w1 ⟨f1, x, hx, rfl⟩
    refine ⟨rfl, f1.mono (fun k _ h => .inl h), ?_⟩
    rw [show F = none from HF.out.symm]
    exact ⟨⟨x, hx, rfl⟩, _, _, _, HV1.out, HB.out.fr f1 (fun e => hprb e.symm)⟩
  | some tr =>
    obtain ⟨t, r⟩ := tr
    obtain ⟨ht, hrl⟩ := takeNumP_le hR
    rw [hR] at hen hF
    simp only at hF
    have HEN := Lib.hid hen
    have ht2 : t ≤ 1099511627776 := ht
    clear hen hR h hb hlb ht
    go_enter Tryd.func87, Tryd.ntmps87
    go_wp2_with fail
    refine HEN.out.mono ?_
    rintro e w1 ⟨f1, rfl, A2, c2, h2⟩
    have hb1 := HB.out.fr f1 (fun e => hprb e.symm)
    have hlb1 := HLB.out.fr f1 (fun e => hplb e.symm)
    have hen2 : Calls Tryd.prog 88 #[.pointer (some ⟨p, 0, none⟩), .int .u64 1099511627776] w1 fun e w' => Fr (fun k => k = p) w1 w' ∧ NumPost p (takeNumP mostP r) e w' := enum_any p A2 c2 r 1099511627776 (by omega) (by omega) w1 h2
    have F1 := Lib.hid f1
    have HB1 := Lib.hid hb1
    have HLB1 := Lib.hid hlb1
    clear h2 f1 hb1 hlb1
    go_wp2_with fail
    cases hR2 : takeNumP mostP r with
    | none =>
      rw [hR2] at hen2 hF
      have HF := Lib.hid hF
      have HEN2 := Lib.hid hen2
      clear hR2 hF hen2
      refine HEN2.out.mono ?_
      rintro e w2 ⟨f2, x, hx, rfl⟩
      refine ⟨rfl, (F1.out.trans f2 (fun _ _ h => h)).mono (fun k _ h => .inl h), ?_⟩
      rw [show F = none from HF.out.symm]
      exact ⟨⟨x, hx, rfl⟩, _, _, _, HV1.out, HB1.out.fr f2 (fun e => hprb e.symm)⟩
    | some nr =>
      obtain ⟨n, q⟩ := nr
      obtain ⟨hn, hql⟩ := takeNumP_le hR2
      rw [hR2] at hen2 hF
      simp only at hF
      have hn2 : n ≤ 1099511627776 := hn
      have HF := Lib.hid hF
      clear hn hR2 hF
      refine hen2.mono ?_
      rintro e w2 ⟨f2, rfl, A4, c4, h4⟩
      have hb2 := HB1.out.fr f2 (fun e => hprb e.symm)
      have hlb2 := HLB1.out.fr f2 (fun e => hplb e.symm)
      have hcs : ∀ (i : Nat) (y : Int), (#[.int .i64 t0, .int .i64 n0, .int .i64 sz, vb] : Array Value)[i]? ≠ some (.int .u8 y) := by
        intro i y h
        match i with
        | 0 => simp at h
        | 1 => simp at h
        | 2 => simp at h
        | 3 => simp at h; exact hvb y h
        | i + 4 => simp at h
      have hne := byt_ne hb2 hcs h4.by_
      have f3 : Fr (fun k => k = rb) w2 ((w2.setCell ⟨rb, 0, none⟩ (.int .i64 (t : Int))).setCell ⟨rb, 1, none⟩ (.int .i64 (n : Int))) := ((Fr.refl (fun k => k = rb) w2).setCell (p := ⟨rb, 0, none⟩) (fun _ => rfl) _).setCell (p := ⟨rb, 1, none⟩) (fun _ => rfl) _
      have hb3 : Blk ((w2.setCell ⟨rb, 0, none⟩ (.int .i64 (t : Int))).setCell ⟨rb, 1, none⟩ (.int .i64 (n : Int))) rb 115 #[.int .i64 (t : Int), .int .i64 (n : Int), .int .i64 sz, vb] := by
        simpa using (hb2.set_ 0 (.int .i64 (t : Int))).set_ 1 (.int .i64 (n : Int))
      have hlb3 := hlb2.fr f3 (fun e => hrlb e.symm)
      have he3 : IsEye ((w2.setCell ⟨rb, 0, none⟩ (.int .i64 (t : Int))).setCell ⟨rb, 1, none⟩ (.int .i64 (n : Int))) p A4 c4 q := ⟨h4.st.fr f3 hprb, h4.by_.fr f3 (fun a e h0 => hne a e h0), h4.ne, h4.cap⟩
      have k0 : w2.cell? ⟨rb, 0, none⟩ = some (.int .i64 t0) := hb2.cell 0
      have k1 : w2.cell? ⟨rb, 1, none⟩ = some (.int .i64 n0) := hb2.cell 1
      have kf0 := hb2.frozen 0
      have kf1 := hb2.frozen 1
      have kl : w2.cell? ⟨lb, 0, none⟩ = some (.int .i64 (long : Int)) := hlb2.cell 0
      have hw3 : w.heap.size ≤ ((w2.setCell ⟨rb, 0, none⟩ (.int .i64 (t : Int))).setCell ⟨rb, 1, none⟩ (.int .i64 (n : Int))).heap.size := Nat.le_trans F1.out.size (Nat.le_trans f2.size f3.size)
      have f13 := ((F1.out.trans f2 (fun _ _ h => h)).mono (G := fun k => k = p ∨ k = rb) (fun k _ h => .inl h)).trans (f3.mono (G := fun k => k = p ∨ k = rb) (fun k _ h => .inr h)) (fun _ _ h => h)
      have htx := etext_any p A4 c4 q long hlong (by omega) _ he3
      have HB3 := Lib.hid hb3
      have F13 := Lib.hid f13
      have HW3 := Lib.hid hw3
      have HTX := Lib.hid htx
      have hne3 : ¬ (lb = rb) := fun e => hrlb e.symm
      clear hen2 hb2 hlb2 hne f3 hb3 hlb3 he3 h4 f2 hw3 f13 htx
      go_wp2_with fail
      cases hR3 : takeTextP long q with
      | none =>
        have htx := HTX.out
        have hF := HF.out
        rw [hR3] at htx hF
        have HF := Lib.hid hF
        clear hF hR3
        refine htx.mono ?_
        rintro e w4 ⟨f4, x, hx, rfl⟩
        refine ⟨rfl, F13.out.trans (f4.mono (G := fun k => k = p ∨ k = rb) (fun k _ h => .inl h)) (fun _ _ h => h), ?_⟩
        rw [show F = none from HF.out.symm]
        exact ⟨⟨x, hx, rfl⟩, _, _, _, HV1.out, HB3.out.fr f4 (fun e => hprb e.symm)⟩
      | some xr =>
        obtain ⟨x, r3⟩ := xr
        have htx := HTX.out
        have hF := HF.out
        rw [hR3] at htx hF
        have HF := Lib.hid hF
        clear hF hR3
        refine htx.mono ?_
        rintro e w4 ⟨f4, v, rfl, ho, A6, c6, h6⟩
        have hb4 := HB3.out.fr f4 (fun e => hprb e.symm)
        have j3 : w4.cell? ⟨rb, 3, none⟩ = some vb := hb4.cell 3
        have jf3 := hb4.frozen 3
        obtain ⟨Av, cv, rfl⟩ := ho.form
        obtain ⟨X, hX⟩ : ∃ X, x.length = X := ⟨_, rfl⟩
        rw [hX] at ho ⊢
        have hcs3 : ∀ (i : Nat) (y : Int), (#[.int .i64 (t : Int), .int .i64 (n : Int), .int .i64 sz, vb] : Array Value)[i]? ≠ some (.int .u8 y) := by
          intro i y h
          match i with
          | 0 => simp at h
          | 1 => simp at h
          | 2 => simp at h
          | 3 => simp at h; exact hvb y h
          | i + 4 => simp at h
        have hne6 := byt_ne hb4 hcs3 h6.by_
        have hown := own_ne ho hb4 (by decide)
        have f5 : ∀ u, Fr (fun k => k = rb) w4 (w4.setCell ⟨rb, 3, none⟩ u) := fun u => (Fr.refl (fun k => k = rb) w4).setCell (p := ⟨rb, 3, none⟩) (fun _ => rfl) u
        have HO := Lib.hid ho
        have H6 := Lib.hid h6
        have F4 := Lib.hid f4
        have F5 := Lib.hid f5
        have HB4 := Lib.hid hb4
        have HNE := Lib.hid hne6
        have HOW := Lib.hid hown
        clear ho h6 f4 f5 hb4 hne6 hown htx HTX
        go_wp2_with fail
        go_end0
        refine ⟨(F13.out.trans (F4.out.mono (G := fun k => k = p ∨ k = rb) (fun k _ h => .inl h)) (fun _ _ h => h)).trans ((F5.out _).mono (G := fun k => k = p ∨ k = rb) (fun k _ h => .inr h)) (fun _ _ h => h), ?_⟩
        rw [show F = some (t, n, x, r3) from HF.out.symm]
        exact ⟨rfl, ⟨A6, c6, H6.out.st.fr (F5.out _) hprb, H6.out.by_.fr (F5.out _) (fun a e h0 => HNE.out a e h0), H6.out.ne, H6.out.cap⟩, .slice Av X cv, (HO.out.fr (F5.out _) (fun k hk e => HOW.out (e ▸ hk))).base HW3.out, by simpa using HB4.out.set_ 3 (.slice Av X cv)⟩

end Go.Proofs.YtohadeijmmmcdaaDoor
