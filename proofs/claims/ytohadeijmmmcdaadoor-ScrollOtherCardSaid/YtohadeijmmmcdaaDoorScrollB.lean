/-
  A scroll: Put.
-/
import Derived.Test.YtohadeijmmmcdaaDoorScrollA
namespace Go.Proofs.YtohadeijmmmcdaaDoor
open Go.RowKit
set_option maxRecDepth 100000
attribute [local go_sem ↓] slr_of

/-- What is left of the writing of k sectors of F from the i-th on, to a place. -/
def putGo (F : List Int) (a : Nat) : Nat → Nat → DS → Int × DS
  | 0, _, T => (0, T)
  | k + 1, i, T => if (T.write ((a + i : Nat) : Int) ((F.drop (64 * i)).take 64)).1 = 0 then putGo F a k (i + 1) (T.write ((a + i : Nat) : Int) ((F.drop (64 * i)).take 64)).2 else T.write ((a + i : Nat) : Int) ((F.drop (64 * i)).take 64)
theorem putGo_zero (F : List Int) (a i : Nat) (T : DS) : putGo F a 0 i T = (0, T) := rfl
theorem putGo_succ (F : List Int) (a k i : Nat) (T : DS) : putGo F a (k + 1) i T =
    if (T.write ((a + i : Nat) : Int) ((F.drop (64 * i)).take 64)).1 = 0 then putGo F a k (i + 1) (T.write ((a + i : Nat) : Int) ((F.drop (64 * i)).take 64)).2 else T.write ((a + i : Nat) : Int) ((F.drop (64 * i)).take 64) := rfl
attribute [irreducible] putGo

/-- How many sectors a record has. -/
def recS (t n : Nat) (b : List Int) : Nat := secP (12 + (fieldsP t n b).length)
/-- Put's answer. -/
def putR (s : SS) (S : DS) (b : List Int) : Int × SS × DS :=
  if s.gone = true then (20, s, S) else
  if formE s.t s.n b ≠ 0 then (formE s.t s.n b, s, S) else
  if s.m - s.u < recS s.t s.n b then (18, s, S) else
  if (putGo (formP s.t s.n b) (s.f + s.u) (recS s.t s.n b) 0 S).1 = 0 then (0, { s with u := s.u + recS s.t s.n b, n := s.n + 1 }, (putGo (formP s.t s.n b) (s.f + s.u) (recS s.t s.n b) 0 S).2)
  else ((putGo (formP s.t s.n b) (s.f + s.u) (recS s.t s.n b) 0 S).1, { s with gone := true }, (putGo (formP s.t s.n b) (s.f + s.u) (recS s.t s.n b) 0 S).2)

theorem formE_zero {t n : Nat} {b : List Int} (h : formE t n b = 0) : t ≤ mostP ∧ n ≤ mostP ∧ recS t n b ≤ 1024 := by
  unfold formE at h
  split at h
  · cases h
  · rename_i h1
    split at h
    · cases h
    · rename_i h2
      rw [Int.toNat_natCast, Int.toNat_natCast] at h2
      unfold mostP recS
      omega

/-- A store to a field of a scroll. -/
theorem IsScroll.put {B q p gs : Nat} {wv : Value} {s s' : SS} {S : DS} {w : World} (h : IsScroll w q p s) (hd : IsDrum B w p gs wv S) (hq : B ≤ q) (i : Nat) (v : Value)
    (hs : (#[.pointer (some ⟨p, 0, none⟩), .int .i64 (s.f : Int), .int .i64 (s.m : Int), .int .i64 (s.t : Int), .int .i64 (s.u : Int), .int .i64 (s.n : Int), .bool s.gone] : Array Value).setIfInBounds i v =
      #[.pointer (some ⟨p, 0, none⟩), .int .i64 (s'.f : Int), .int .i64 (s'.m : Int), .int .i64 (s'.t : Int), .int .i64 (s'.u : Int), .int .i64 (s'.n : Int), .bool s'.gone]) :
    IsScroll (w.setCell ⟨q, i, none⟩ v) q p s' ∧ IsDrum B (w.setCell ⟨q, i, none⟩ v) p gs wv S ∧ Kept B sts w (w.setCell ⟨q, i, none⟩ v) := by
  have hqp : q ≠ p := h.ne_ hd.st (by decide)
  have hf : Fr (fun k => k = q) w (w.setCell ⟨q, i, none⟩ v) := (Fr.refl (fun k => k = q) w).setCell (p := ⟨q, i, none⟩) (fun _ => rfl) _
  refine ⟨?_, hd.fr hf (fun k hk e => ?_), Kept.of_fr hf (by have := hd.lt (.inl rfl); omega) (fun k hk e => by omega) (fun k t cs e hb => by subst e; rw [(hb.inj h).1]; simp [sts])⟩
  · have := h.set_ i v
    rw [hs] at this
    exact this
  · subst e
    rcases hk with e | e | e
    · exact hqp e
    · exact (h.ne_ hd.sure (by decide)) e
    · exact own_ne hd.waits h (by decide) e

/-- Bytes don't lie in a drum's struct. -/
theorem IsDrum.byt_ne {B p gs : Nat} {wv : Value} {S : DS} {w : World} (hd : IsDrum B w p gs wv S) {A : Option Addr} {l : List Int} (hy : Byt w A l) : ∀ a, A = some a → 0 < l.length → a.block ≠ p :=
  Go.Proofs.YtohadeijmmmcdaaDoor.byt_ne hd.st (fun i y h => by
    obtain ⟨A0, c0, e⟩ := own_form hd.waits
    rw [e] at h
    match i with
    | 0 => simp at h
    | 1 => simp at h
    | 2 => simp at h
    | 3 => simp at h
    | i + 4 => simp at h) hy

set_option maxHeartbeats 4000000 in
theorem put_any (B q p gs : Nat) (wv : Value) (s : SS) (S : DS) (A : Option Addr) (c : Nat) (hcA : A = none → c = 0) (b : List Int) (w : World) (hd : IsDrum B w p gs wv S) (h : IsScroll w q p s) (hq : B ≤ q) (hum : s.u ≤ s.m) (hfm : s.f + s.m ≤ S.sure.length) (hn : s.n ≤ 1099511627776)
    (hlen : S.waits.length + 1024 ≤ 1000000000) (hb : Byt w A b) (hbl : b.length ≤ 100000000) (hg : Glob w) :
    Calls Tryd.prog 20 #[.pointer (some ⟨q, 0, none⟩), .slice A b.length c] w fun e w' =>
      e = .returned (.int .i64 (putR s S b).1) ∧ (∃ wv', IsDrum B w' p gs wv' (putR s S b).2.2) ∧ IsScroll w' q p (putR s S b).2.1 ∧ Kept B sts w w' := by
  have hBw : B ≤ w.heap.size := by have := hd.lt (.inl rfl); omega
  have hs2 := hd.ok.n2
  obtain ⟨F0, M0, T, U0, N, gn⟩ := s
  simp only at hum hfm hn
  have k6 : w.cell? ⟨q, 6, none⟩ = some (.bool gn) := h.cell 6
  have k3 : w.cell? ⟨q, 3, none⟩ = some (.int .i64 (T : Int)) := h.cell 3
  have k5 : w.cell? ⟨q, 5, none⟩ = some (.int .i64 (N : Int)) := h.cell 5
  obtain ⟨R, hR⟩ : ∃ R, putR ⟨F0, M0, T, U0, N, gn⟩ S b = R := ⟨_, rfl⟩
  rw [hR]
  unfold putR at hR
  simp only at hR
  cases gn with
  | true =>
    rw [if_pos rfl] at hR
    have H := Lib.hid h
    have HD := Lib.hid hd
    have HR := Lib.hid hR
    clear h hd hR hb hg k3 k5
    go_enter Tryd.func20, Tryd.ntmps20
    go_wp2_with fail
    go_ret
    rw [← HR.out]
    exact ⟨rfl, ⟨wv, HD.out⟩, H.out, Kept.refl _ _ _⟩
  | false =>
    rw [if_neg (by simp)] at hR
    have k3' : w.drew.cell? ⟨q, 3, none⟩ = some (.int .i64 (T : Int)) := k3
    have k5' : w.drew.cell? ⟨q, 5, none⟩ = some (.int .i64 (N : Int)) := k5
    have hb' : Byt w.drew A b := hb.below ((Below.refl _ w).drew)
    have hg' : Glob w.drew := hg.below ((Below.refl _ w).drew)
    have hfo := form_any (T : Int) (N : Int) A c hcA b w.drew hb' hbl hg'
    have hbb := hb.bd
    obtain ⟨L, hL⟩ : ∃ L, b.length = L := ⟨_, rfl⟩
    rw [hL] at hfo ⊢
    obtain ⟨E, hE⟩ : ∃ E, formE (T : Int) (N : Int) b = E := ⟨_, rfl⟩
    rw [hE] at hfo hR
    have HE := Lib.hid hE
    have H := Lib.hid h
    have HD := Lib.hid hd
    have HR := Lib.hid hR
    have HL := Lib.hid hL
    have HBB := Lib.hid hbb
    clear h hd hR hb hg hb' hg' hE hL hbb
    go_enter Tryd.func20, Tryd.ntmps20
    go_wp2_with fail
    refine wp_txt [true, true, true, true, true, true, true, true, true, false, true, true, true, false, false] (fun W => W.cell? ⟨q, 3, none⟩ = some (.int .i64 (T : Int)) ∧ W.cell? ⟨q, 5, none⟩ = some (.int .i64 (N : Int))) (by kernel_rfl) (by kernel_rfl) (by kernel_rfl) (by kernel_rfl) ⟨k3', k5'⟩ ?_
    repeat (refine wpTxt_take (v := ?_) (by rfl) (fun W' hS => ?_) ?_; rotate_left; focus (have s1 := hS.1; have s2 := hS.2; clear hS; (try simp only at s1 s2); go_simp; (try with_reducible rfl)))
    refine wpTxt_want (by rfl) (fun K hK => ?_)
    go_simp
    with_reducible refine hfo.mono ?_
    rintro e w1 ⟨v, rfl, ho, hB1⟩
    clear hfo
    have B1 : Below w.heap.size w w1 := ((Below.refl _ w).drew).trans hB1
    have h1 := H.out.kept (Kept.of_below (n₀ := B) (ts := []) B1 hBw) (by simp)
    have hd1 := (Kept.of_below (n₀ := B) (ts := []) B1 hBw).drum HD.out (by simp) (by simp) (by simp)
    have j3 : w1.cell? ⟨q, 3, none⟩ = some (.int .i64 (T : Int)) := h1.cell 3
    have j5 : w1.cell? ⟨q, 5, none⟩ = some (.int .i64 (N : Int)) := h1.cell 5
    refine hK _ _ ⟨j3, j5⟩ ?_
    clear hK K
    obtain ⟨Av, cv, rfl⟩ := ho.form
    obtain ⟨V, hV⟩ : ∃ V, formV (T : Int) (N : Int) b = V := ⟨_, rfl⟩
    rw [hV] at ho ⊢
    obtain ⟨VL, hVL⟩ : ∃ VL, V.length = VL := ⟨_, rfl⟩
    rw [hVL] at ho ⊢
    have HO := Lib.hid ho
    have HV := Lib.hid hV
    have HVL := Lib.hid hVL
    have H1 := Lib.hid h1
    have HD1 := Lib.hid hd1
    have HB1 := Lib.hid B1
    clear ho hV hVL h1 hd1 hB1 B1
    repeat (refine wpTxt_take (v := ?_) (by rfl) (fun W' hS => ?_) ?_; rotate_left; focus (clear hS; go_simp; (try with_reducible rfl)))
    refine wpTxt_want (by rfl) (fun K hK => ?_)
    go_simp
    refine hK _ _ ⟨j3, j5⟩ ?_
    clear hK K
    refine wpTxt_want (by rfl) (fun K hK => ?_)
    go_simp
    refine hK _ _ ⟨j3, j5⟩ ?_
    clear hK K
    refine wpTxt_nil ?_
    rw [noPan_normal]
    clear j3 j5 k3 k5 k3' k5'
    by_cases he : E = 0
    · subst he
      have hz := formE_zero HE.out
      have hVe : V = formP T N b := by rw [← HV.out]; unfold formV; rw [if_pos HE.out, Int.toNat_natCast, Int.toNat_natCast]
      have hVl : VL = recS T N b * 64 := by rw [← HVL.out, hVe, formP_len]; rfl
      have hK1024 := hz.2.2
      have hK1 : 1 ≤ recS T N b := by unfold recS secP; omega
      have hVb : ∀ x ∈ V, 0 ≤ x ∧ x ≤ 255 := by rw [hVe]; exact formP_bd hz.1 hz.2.1 HBB.out (by omega)
      have hR := HR.out
      rw [if_neg (by simp), ← hVe] at hR
      obtain ⟨K, hK⟩ : ∃ K, recS T N b = K := ⟨_, rfl⟩
      rw [hK] at hVl hK1024 hK1 hR
      have hqv : ((VL : Nat) : Int) / 64 = (K : Int) := by omega
      have HVB := Lib.hid hVb
      have HVE := Lib.hid hVl
      have hdv1 : (0 : Int) ≤ (VL : Int) := by omega
      have hdv2 : (VL : Int) ≤ 65536 := by omega
      clear hz hVe hVb hVl hK
      have hlf := left_any q p _ (by simp only; omega) hum w1 H1.out
      simp only at hlf
      by_cases hfull : M0 - U0 < K
      · rw [if_pos hfull] at hR
        have hfI : (M0 : Int) - (U0 : Int) < (K : Int) := by omega
        have HR2 := Lib.hid hR
        clear hR hfull
        go_wp2_with fail
        with_reducible refine hlf.mono ?_
        rintro e w2 ⟨rfl, k2, rfl⟩
        clear hlf
        go_wp2_with fail
        go_ret
        rw [← HR2.out]
        exact ⟨rfl, ⟨wv, HD1.out.fr (F := fun _ => False) ((Fr.refl _ _).drewN _) (fun _ _ h => h)⟩, H1.out.drewN _, Kept.of_below (below_drewN HB1.out _) hBw⟩
      · rw [if_neg hfull] at hR
        have hfI : ¬ ((M0 : Int) - (U0 : Int) < (K : Int)) := by omega
        have hfit : U0 + K ≤ M0 := by omega
        obtain ⟨⟨pe, pT⟩, hPG⟩ : ∃ P, putGo V (F0 + U0) K 0 S = P := ⟨_, rfl⟩
        rw [hPG] at hR
        simp only at hR
        have HPG := Lib.hid hPG
        have HR2 := Lib.hid hR
        clear hR hfull hPG
        go_wp2_with fail
        with_reducible refine hlf.mono ?_
        rintro e w2 ⟨rfl, k2, hw2⟩
        clear hlf
        have h2 : IsScroll w2 q p ⟨F0, M0, T, U0, N, false⟩ := by rw [hw2]; exact H1.out.drewN _
        have hd2 : IsDrum B w2 p gs wv S := by rw [hw2]; exact HD1.out.fr (F := fun _ => False) ((Fr.refl _ _).drewN _) (fun _ _ h => h)
        have ho2 : Own8 w.drew.heap.size w2 (.slice Av VL cv) V := HO.out.fr (F := fun _ => False) (w' := w2) (by rw [hw2]; exact (Fr.refl _ _).drewN _) (fun _ _ h => h)
        have K2 : Kept B sts w w2 := by rw [hw2]; exact Kept.of_below (below_drewN HB1.out _) hBw
        have H2 := Lib.hid h2
        have HD2 := Lib.hid hd2
        have HO2 := Lib.hid ho2
        have HK2 := Lib.hid K2
        clear h2 hd2 ho2 K2 hw2
        go_wp2_with fail
        go_loopg [40] K (fun k t wr => ∃ (i : Nat) (D : DS), t = .int .i64 (i : Int) ∧ i ≤ K ∧ k = K - i ∧ (∃ wv', IsDrum B wr p gs wv' D) ∧ D.waits.length ≤ S.waits.length + i ∧ D.sure.length = S.sure.length ∧ Kept B dts w2 wr ∧ putGo V (F0 + U0) (K - i) i D = (pe, pT))
        case atStart => exact ⟨0, S, rfl, Nat.zero_le _, rfl, ⟨wv, HD2.out⟩, by omega, rfl, Kept.refl _ _ _, by rw [Nat.sub_zero]; exact HPG.out⟩
        case round =>
          obtain ⟨i, D, rfl, hi, hk, ⟨wv', hdr⟩, hDw, hDs, hKr, hgo⟩ := hrel
          have hsr := H2.out.kept hKr (by decide)
          by_cases hlt : i < K
          · rw [show K - i = (K - (i + 1)) + 1 by omega, putGo_succ] at hgo
            have hor := hKr.own8 HO2.out (by decide)
            rw [show VL = V.length from HVL.out.symm] at hor
            obtain ⟨A9, c9, e9, hy9, _, hc9⟩ := hor.byt HVB.out
            simp only [Value.slice.injEq] at e9
            obtain ⟨rfl, _, rfl⟩ := e9
            obtain ⟨g9, o9, rfl, _, _⟩ := hy9.cell (by rw [HVL.out, HVE.out]; omega)
            obtain ⟨a2, hsl, hy2⟩ := part8s hy9 cv (64 * i) (64 * (i + 1)) cv (some (.int .i64 ((i : Int) * 64))) (some (.int .i64 (((i : Int) + 1) * 64))) none (by omega) (by rw [HVL.out, HVE.out]; omega) (by rw [HVL.out, HVE.out] at hc9; omega) (Nat.le_refl _) (.inr ⟨_, rfl, by omega⟩) (.inr ⟨_, rfl, by omega⟩) (.inl ⟨rfl, rfl⟩)
            rw [HVL.out, show 64 * (i + 1) - 64 * i = 64 by omega] at hsl
            rw [show 64 * (i + 1) - 64 * i = 64 by omega] at hy2
            obtain ⟨X, hX⟩ : ∃ X, (V.drop (64 * i)).take 64 = X := ⟨_, rfl⟩
            have hXl : X.length = 64 := by rw [← hX]; simp [HVL.out, HVE.out]; omega
            rw [hX] at hgo hy2
            have hne9 : a2.block ≠ p := hdr.byt_ne hy2 a2 rfl (by omega)
            have hwr := write_any B p gs wv' D (((F0 + U0) + i : Nat) : Int) (some a2) (cv - 64 * i) X wr.drew (hdr.fr (F := fun _ => False) ((Fr.refl _ _).drew) (fun _ _ h => h)) (hy2.below ((Below.refl _ wr).drew)) (fun a e => by cases e; exact hne9) (by omega) (by have := hdr.lt (.inl rfl); show B ≤ wr.heap.size; omega)
            have hwl := DS.write_len D (((F0 + U0) + i : Nat) : Int) X
            obtain ⟨⟨we, wD⟩, hWE⟩ : ∃ P, D.write (((F0 + U0) + i : Nat) : Int) X = P := ⟨_, rfl⟩
            rw [hWE] at hwr hwl hgo
            rw [hXl, Int.natCast_add, Int.natCast_add] at hwr
            simp only at hwr hwl hgo
            have k0 : wr.drew.cell? ⟨q, 0, none⟩ = some (.pointer (some ⟨p, 0, none⟩)) := hsr.cell 0
            have k1 : wr.drew.cell? ⟨q, 1, none⟩ = some (.int .i64 (F0 : Int)) := hsr.cell 1
            have k4 : wr.drew.cell? ⟨q, 4, none⟩ = some (.int .i64 (U0 : Int)) := hsr.cell 4
            have g1 : IntKind.i64.wrap ((F0 : Int) + (U0 : Int)) = (F0 : Int) + (U0 : Int) := by rw [IntKind.wrap_i64]; omega
            have g2 : IntKind.i64.wrap ((F0 : Int) + (U0 : Int) + (i : Int)) = (F0 : Int) + (U0 : Int) + (i : Int) := by rw [IntKind.wrap_i64]; omega
            have g3 : IntKind.i64.wrap ((i : Int) * 64) = (i : Int) * 64 := by rw [IntKind.wrap_i64]; omega
            have g4 : IntKind.i64.wrap ((i : Int) + 1) = (i : Int) + 1 := by rw [IntKind.wrap_i64]; omega
            have g5 : IntKind.i64.wrap (((i : Int) + 1) * 64) = ((i : Int) + 1) * 64 := by rw [IntKind.wrap_i64]; omega
            have HDR := Lib.hid hdr
            have HKR := Lib.hid hKr
            have HGO := Lib.hid hgo
            have HSR := Lib.hid hsr
            clear hor hy9 hc9 hdr hKr hgo hsr hy2 hX hXl hne9 hWE
            go_wp2_with fail
            refine wp_txt [true, true, true, true, true, true, true, true, true, true, true, true, true, true, true, true, true, true, true, true, true, true, false, false] (fun W => W.cell? ⟨q, 0, none⟩ = some (.pointer (some ⟨p, 0, none⟩)) ∧ W.cell? ⟨q, 1, none⟩ = some (.int .i64 (F0 : Int)) ∧ W.cell? ⟨q, 4, none⟩ = some (.int .i64 (U0 : Int))) (by kernel_rfl) (by kernel_rfl) (by kernel_rfl) (by kernel_rfl) ⟨k0, k1, k4⟩ ?_
            repeat (refine wpTxt_take (v := ?_) (by rfl) (fun W' hS => ?_) ?_; rotate_left; focus (have s1 := hS.1; have s2 := hS.2.1; have s3 := hS.2.2; clear hS; (try simp only at s1 s2 s3); go_simp; (try with_reducible rfl)))
            refine wpTxt_want (by rfl) (fun KK hKK => ?_)
            go_simp
            with_reducible refine hwr.mono ?_
            rintro e w4 ⟨rfl, ⟨wv4, hd4, _⟩, hf4⟩
            have K4 : Kept B dts wr w4 := (Kept.of_fr (F := fun _ => False) ((Fr.refl _ wr).drew) (by have := HDR.out.lt (.inl rfl); omega) (fun _ _ f => f) (fun _ _ _ f => f.elim)).trans (Kept.of_drum (HDR.out.fr (F := fun _ => False) ((Fr.refl _ _).drew) (fun _ _ h => h)) hf4)
            have hs4 := HSR.out.kept K4 (by decide)
            have j0 : w4.cell? ⟨q, 0, none⟩ = some (.pointer (some ⟨p, 0, none⟩)) := hs4.cell 0
            have j1 : w4.cell? ⟨q, 1, none⟩ = some (.int .i64 (F0 : Int)) := hs4.cell 1
            have j4 : w4.cell? ⟨q, 4, none⟩ = some (.int .i64 (U0 : Int)) := hs4.cell 4
            have HK4 := Lib.hid K4
            have HD4 := Lib.hid hd4
            have HS4 := Lib.hid hs4
            clear hwr hf4 hd4 K4 hs4 g1 g2 g3 g4 g5 k0 k1 k4
            refine hKK _ _ ⟨j0, j1, j4⟩ ?_
            clear hKK KK
            refine wpTxt_want (by rfl) (fun KK hKK => ?_)
            go_simp
            refine hKK _ _ ⟨j0, j1, j4⟩ ?_
            clear hKK KK j0 j1 j4
            refine wpTxt_nil ?_
            rw [noPan_normal]
            by_cases hwe : we = 0
            · subst hwe
              have hgo := HGO.out
              rw [if_pos rfl] at hgo
              have HGO := Lib.hid hgo
              clear hgo
              go_wp2_with fail
              go_roundg (K - (i + 1))
              case measure => omega
              case rel => exact ⟨i + 1, wD, by go_num, by omega, rfl, ⟨wv4, HD4.out⟩, by omega, by omega, HKR.out.trans HK4.out, HGO.out⟩
            · have hwI : (we != 0) = true := by simpa using hwe
              have hgo := HGO.out
              rw [if_neg hwe] at hgo
              simp only [Prod.mk.injEq] at hgo
              obtain ⟨rfl, rfl⟩ := hgo
              have hR := HR2.out
              rw [if_neg hwe] at hR
              have HR3 := Lib.hid hR
              obtain ⟨p1, p2, p3⟩ := HS4.out.put (s' := ⟨F0, M0, T, U0, N, true⟩) HD4.out hq 6 (.bool true) (by simp)
              have j6 : w4.cell? ⟨q, 6, none⟩ = some (.bool false) := HS4.out.cell 6
              have jf := HS4.out.frozen 6
              have P1 := Lib.hid p1
              have P2 := Lib.hid p2
              have P3 := Lib.hid p3
              clear hR hwe p1 p2 p3
              go_wp2_with fail
              go_ret
              rw [← HR3.out]
              exact ⟨rfl, ⟨wv4, P2.out⟩, P1.out, HK2.out.trans ((HKR.out.ds.trans HK4.out.ds).trans P3.out)⟩
          · obtain rfl : i = K := by omega
            rw [Nat.sub_self, putGo_zero] at hgo
            simp only [Prod.mk.injEq] at hgo
            obtain ⟨rfl, rfl⟩ := hgo
            have hR := HR2.out
            rw [if_pos rfl] at hR
            obtain ⟨a1, a2, a3⟩ := hsr.put (s' := ⟨F0, M0, T, U0 + i, N, false⟩) hdr hq 4 (.int .i64 ((U0 + i : Nat) : Int)) (by simp)
            obtain ⟨b1, b2, b3⟩ := a1.put (s' := ⟨F0, M0, T, U0 + i, N + 1, false⟩) a2 hq 5 (.int .i64 ((N + 1 : Nat) : Int)) (by simp)
            have j4 : wr.cell? ⟨q, 4, none⟩ = some (.int .i64 (U0 : Int)) := hsr.cell 4
            have j5 : wr.cell? ⟨q, 5, none⟩ = some (.int .i64 (N : Int)) := hsr.cell 5
            have jf4 := hsr.frozen 4
            have jf5 := hsr.frozen 5
            have l5 : (wr.setCell ⟨q, 4, none⟩ (.int .i64 ((U0 : Int) + (i : Int)))).cell? ⟨q, 5, none⟩ = some (.int .i64 (N : Int)) := by
              have := a1.cell 5
              rw [Int.natCast_add] at this
              exact this
            rw [Int.natCast_add] at a1 a2 a3 b1 b2 b3
            rw [Int.natCast_add] at b1 b2 b3
            have HR3 := Lib.hid hR
            have P1 := Lib.hid b1
            have P2 := Lib.hid b2
            have P3 := Lib.hid (a3.trans b3)
            have HKR := Lib.hid hKr
            clear hR a1 a2 a3 b1 b2 b3 hsr hKr hdr
            go_wp2_with fail
            go_ret
            rw [← HR3.out]
            exact ⟨rfl, ⟨wv', P2.out⟩, P1.out, HK2.out.trans (HKR.out.ds.trans P3.out)⟩
    · have heI : (E != 0) = true := by simpa using he
      have hR := HR.out
      rw [if_pos he] at hR
      have HR2 := Lib.hid hR
      clear hR he
      go_wp2_with fail
      go_ret
      rw [← HR2.out]
      exact ⟨rfl, ⟨wv, HD1.out⟩, H1.out, Kept.of_below HB1.out hBw⟩

end Go.Proofs.YtohadeijmmmcdaaDoor
