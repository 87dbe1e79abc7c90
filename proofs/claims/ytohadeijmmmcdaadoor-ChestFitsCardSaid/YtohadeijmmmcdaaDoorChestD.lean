/-
  A chest: Head, Turn.
-/
import Derived.Test.YtohadeijmmmcdaaDoorChestC
namespace Go.Proofs.YtohadeijmmmcdaaDoor
open Go.RowKit
set_option maxRecDepth 100000
attribute [local go_sem ↓] bd70_of

theorem own8_c {B n c : Nat} {w : World} {A : Option Addr} {l : List Int} (h : Own8 B w (.slice A n c) l) : A = none → c = 0 := by
  intro hA
  obtain ⟨h1, ⟨e, h2⟩ | ⟨g, cap, cur, e, _⟩⟩ := h
  · cases e; rfl
  · cases e; cases hA

theorem chead_any (B r q p : Nat) (hv nv : Value) (x : CS) (w : World) (hc : IsChest B w r q p x hv nv) (hl : x.h.length ≤ 500000000) :
    Calls Tryd.prog 46 #[.pointer (some ⟨r, 0, none⟩)] w fun e w' => ∃ v, e = .returned v ∧ Own8 w.heap.size w' v x.h ∧ Below w.heap.size w w' := by
  obtain ⟨A, c, rfl⟩ := hc.hd.form
  have hcA := own8_c hc.hd
  have k4 : w.cell? ⟨r, 4, none⟩ = some (.slice A x.h.length c) := hc.st.cell 4
  obtain ⟨A', c', e, hy, _⟩ := hc.hd.byt hc.hb
  simp only [Value.slice.injEq, true_and] at e
  obtain ⟨rfl, rfl⟩ := e
  have hcl := clone_any A c hcA x.h w hy (Nat.le_trans hl (by omega))
  obtain ⟨L, hL⟩ : ∃ L, x.h.length = L := ⟨_, rfl⟩
  rw [hL] at hcl k4
  clear hc hy hL
  go_enter Tryd.func46, Tryd.ntmps46
  go_wp2_with fail
  with_reducible refine hcl.mono ?_
  rintro e w1 ⟨v, rfl, ho, hB⟩
  have H := Lib.hid ho
  have HB := Lib.hid hB
  clear hcl ho hB
  go_wp2_with fail
  go_ret
  exact ⟨v, rfl, H.out, HB.out⟩

/-- Turn's answer. -/
def turnR (x : CS) (s : SS) (S : DS) (b : List Int) : Int × CS × SS × DS :=
  if x.gone = true then (20, x, s, S) else
  if 1099511627776 ≤ x.t then (5, x, s, S) else
  if formE ((x.t + 1 : Nat) : Int) 0 b ≠ 0 then (formE ((x.t + 1 : Nat) : Int) 0 b, x, s, S) else
  if S.sure.length / 2 < recS (x.t + 1) 0 b then (18, x, s, S) else
  if (beginR S (1 - x.sd) (x.t + 1) b).1 ≠ 0 then ((beginR S (1 - x.sd) (x.t + 1) b).1, { x with gone := true }, s, (beginR S (1 - x.sd) (x.t + 1) b).2.2) else
  (0, ⟨1 - x.sd, x.t + 1, b, [], false⟩, (beginR S (1 - x.sd) (x.t + 1) b).2.1, (beginR S (1 - x.sd) (x.t + 1) b).2.2)

def TurnPost (B r p : Nat) (nv : Value) (w : World) (R : Int × CS × SS × DS) (w' : World) : Prop :=
  ∃ q' hv' nv', (R.2.1.gone = false → IsScroll w' q' p R.2.2.1) ∧ IsChest B w' r q' p R.2.1 hv' nv' ∧ Foot w nv nv'

set_option maxHeartbeats 8000000 in
theorem cturn_any (B r q p gs : Nat) (wv hv nv : Value) (x : CS) (s : SS) (S : DS) (A : Option Addr) (c : Nat) (hcA : A = none → c = 0) (b : List Int) (w : World) (hd : IsDrum B w p gs wv S) (hs : x.gone = false → IsScroll w q p s) (hc : IsChest B w r q p x hv nv)
    (hsd : x.sd ≤ 1) (hxt : x.t ≤ 1099511627776) (hlen : S.waits.length + 10000 ≤ 1000000000) (hb : ∀ W, Kept B cts w W → Byt W A b) (hbl : b.length ≤ 100000000) (hg : Glob w) (h2 : 2 ≤ B) :
    Calls Tryd.prog 42 #[.pointer (some ⟨r, 0, none⟩), .slice A b.length c] w fun e w' => e = .returned (.int .i64 (turnR x s S b).1) ∧ (∃ wv', IsDrum B w' p gs wv' (turnR x s S b).2.2.2) ∧ TurnPost B r p nv w (turnR x s S b) w' ∧ KeptC B nv w w' := by
  have k6 : w.cell? ⟨r, 6, none⟩ = some (.bool x.gone) := hc.st.cell 6
  have k3 : w.cell? ⟨r, 3, none⟩ = some (.int .i64 (x.t : Int)) := hc.st.cell 3
  obtain ⟨R, hR⟩ : ∃ R, turnR x s S b = R := ⟨_, rfl⟩
  rw [hR]
  unfold turnR at hR
  have hBw : B ≤ w.heap.size := by have := hd.lt (.inl rfl); omega
  have hn2 := hd.ok.n2
  have hb0 := hb w (Kept.refl _ _ _)
  have hbb := hb0.bd
  have hK0 : ∀ R', R' = R → R'.2 = (x, s, S) → (∃ wv', IsDrum B w p gs wv' R.2.2.2) ∧ TurnPost B r p nv w R w := fun R' e1 e2 => by
    subst e1
    rw [e2]
    exact ⟨⟨wv, hd⟩, q, hv, nv, by rw [e2]; exact hs, by rw [e2]; exact hc, Foot.refl _ _⟩
  cases hgx : x.gone with
  | true =>
    rw [if_pos hgx] at hR
    rw [hgx] at k6
    have HK := Lib.hid hK0
    have HR := Lib.hid hR
    clear hc hs hd hR hgx hb hb0 hbb hK0
    go_enter Tryd.func42, Tryd.ntmps42
    go_wp2_with fail
    go_ret
    obtain ⟨g1, g2⟩ := HK.out _ HR.out rfl
    rw [← HR.out] at g1 g2 ⊢
    exact ⟨rfl, g1, g2, .sts (Kept.refl _ _ _)⟩
  | false =>
    rw [if_neg (by rw [hgx]; simp)] at hR
    rw [hgx] at k6
    have hs := hs hgx
    by_cases ht : 1099511627776 ≤ x.t
    · rw [if_pos ht] at hR
      have hI : (1099511627776 : Int) ≤ (x.t : Int) := by omega
      have HK := Lib.hid hK0
      have HR := Lib.hid hR
      clear hc hs hd hR hgx hb hb0 hbb hK0 ht
      go_enter Tryd.func42, Tryd.ntmps42
      go_wp2_with fail
      go_ret
      obtain ⟨g1, g2⟩ := HK.out _ HR.out rfl
      rw [← HR.out] at g1 g2 ⊢
      exact ⟨rfl, g1, g2, .sts (Kept.refl _ _ _)⟩
    · rw [if_neg ht] at hR
      have hI : ¬ ((1099511627776 : Int) ≤ (x.t : Int)) := by omega
      have hfo := form_any ((x.t + 1 : Nat) : Int) 0 A c hcA b w hb0 (Nat.le_trans hbl (by omega)) hg
      obtain ⟨T1, hT1⟩ : ∃ T1, x.t + 1 = T1 := ⟨_, rfl⟩
      rw [hT1] at hfo hR
      have hwt : IntKind.i64.wrap ((x.t : Int) + 1) = (T1 : Int) := by rw [IntKind.wrap_i64]; omega
      obtain ⟨L, hL⟩ : ∃ L, b.length = L := ⟨_, rfl⟩
      rw [hL] at hfo ⊢
      obtain ⟨E, hE⟩ : ∃ E, formE (T1 : Int) 0 b = E := ⟨_, rfl⟩
      rw [hE] at hfo hR
      obtain ⟨V, hV⟩ : ∃ V, formV (T1 : Int) 0 b = V := ⟨_, rfl⟩
      rw [hV] at hfo
      have HE := Lib.hid hE
      have HGX := Lib.hid hgx
      have HV := Lib.hid hV
      have HK := Lib.hid hK0
      have HR := Lib.hid hR
      have HC := Lib.hid hc
      have HS := Lib.hid hs
      have HD := Lib.hid hd
      have HB := Lib.hid hb
      have HG := Lib.hid hg
      have HL := Lib.hid hL
      have HT1 := Lib.hid hT1
      clear hc hs hd hR hgx hb hb0 hbb hK0 ht hE hV hL hg
      go_enter Tryd.func42, Tryd.ntmps42
      go_wp2_with fail
      with_reducible refine hfo.mono ?_
      rintro e w1 ⟨v, rfl, ho, hB1⟩
      have K1 : Kept B ([] : List TypeId) w w1 := Kept.of_below hB1 hBw
      have hd1 := K1.drum HD.out (by simp) (by simp) (by simp)
      have hs1 : IsScroll w1 q p s := K1.kt _ _ _ HS.out (by simp)
      have hc1 := HC.out.kept (K1.mono (fun t h => by cases h))
      have hha := half_any p gs S.sure.length wv S.fuse S.off w1 hd1.st (by omega)
      have j1 : w1.cell? ⟨r, 1, none⟩ = some (.pointer (some ⟨p, 0, none⟩)) := hc1.st.cell 1
      have j2 : w1.cell? ⟨r, 2, none⟩ = some (.int .i64 (x.sd : Int)) := hc1.st.cell 2
      have j3 : w1.cell? ⟨r, 3, none⟩ = some (.int .i64 (x.t : Int)) := hc1.st.cell 3
      obtain ⟨Av, cv, rfl⟩ := ho.form
      obtain ⟨VL, hVL⟩ : ∃ VL, V.length = VL := ⟨_, rfl⟩
      rw [hVL] at ho ⊢
      obtain ⟨H, hH⟩ : ∃ H, S.sure.length / 2 = H := ⟨_, rfl⟩
      have hR := HR.out
      rw [hH] at hha hR
      have HR := Lib.hid hR
      have HVL := Lib.hid hVL
      have HH := Lib.hid hH
      have HK1 := Lib.hid K1
      have HD1 := Lib.hid hd1
      have HS1 := Lib.hid hs1
      have HC1 := Lib.hid hc1
      have HO := Lib.hid ho
      have hB1s := hB1.size
      clear hfo hB1 K1 hd1 hs1 hc1 hVL hH hR ho k6 k3 hI
      by_cases he : E = 0
      · subst he
        have hz := formE_zero (t := T1) (n := 0) (b := b) HE.out
        have hVe : V = formP T1 0 b := by rw [← HV.out]; unfold formV; rw [if_pos HE.out, Int.toNat_natCast, Int.toNat_zero]
        have hVl : VL = recS T1 0 b * 64 := by rw [← HVL.out, hVe, formP_len]; rfl
        have hR := HR.out
        rw [if_neg (by simp)] at hR
        obtain ⟨K, hK⟩ : ∃ K, recS T1 0 b = K := ⟨_, rfl⟩
        rw [hK] at hVl hz hR
        have hqv : ((VL : Nat) : Int) / 64 = (K : Int) := by omega
        have hqw : IntKind.i64.wrap ((VL : Int) / 64) = (K : Int) := by rw [hqv, IntKind.wrap_i64]; have := hz.2.2; omega
        have hT1b := hz.1
        unfold mostP at hT1b
        by_cases hlt : H < K
        · rw [if_pos hlt] at hR
          have hI3 : H < K := hlt
          have HR := Lib.hid hR
          clear hz hVe hVl hR hK hlt hqv
          go_wp2_with fail
          with_reducible refine hha.mono ?_
          rintro e w' ⟨rfl, hw⟩
          rw [← hw]
          clear hw hha
          go_wp2_with fail
          go_ret
          rw [← HR.out]
          exact ⟨rfl, ⟨wv, HD1.out⟩, ⟨q, hv, nv, fun _ => HS1.out, HC1.out, Foot.refl _ _⟩, KeptC.of HK1.out (fun t h => by cases h)⟩
        · rw [if_neg hlt] at hR
          have hI3 : ¬ (H < K) := hlt
          have HR := Lib.hid hR
          clear hz hVe hVl hR hK hlt hqv
          go_wp2_with fail
          with_reducible refine hha.mono ?_
          rintro e w' ⟨rfl, hw⟩
          rw [← hw]
          clear hw hha
          go_wp2_with fail
          have hbe := begin_any B p gs wv S (1 - x.sd) T1 A c hcA b w1.drew (Kept.drum_below ((Below.refl _ w1).drew) HD1.out) (by omega) hT1b hlen (fun W hk => HB.out W ((HK1.out.mono (fun t h => by cases h)).trans ((Kept.of_below (ts := cts) ((Below.refl _ w1).drew) (Nat.le_trans hBw hB1s)).trans (hk.mono (fun t h => List.mem_cons_of_mem _ h))))) hbl ((HK1.out.glob HG.out h2).below ((Below.refl _ w1).drew)) h2
          obtain ⟨⟨e2, s2, T2⟩, hE2⟩ : ∃ E, beginR S (1 - x.sd) T1 b = E := ⟨_, rfl⟩
          have hR := HR.out
          rw [hE2] at hbe hR
          rw [HL.out] at hbe
          obtain ⟨N, hN⟩ : ∃ N, 1 - x.sd = N := ⟨_, rfl⟩
          rw [hN] at hbe hR
          have hws : IntKind.i64.wrap (1 - (x.sd : Int)) = (N : Int) := by rw [IntKind.wrap_i64]; omega
          simp only at hbe hR
          have HR := Lib.hid hR
          have j1' : w1.drew.cell? ⟨r, 1, none⟩ = some (.pointer (some ⟨p, 0, none⟩)) := j1
          have j2' : w1.drew.cell? ⟨r, 2, none⟩ = some (.int .i64 (x.sd : Int)) := j2
          have j3' : w1.drew.cell? ⟨r, 3, none⟩ = some (.int .i64 (x.t : Int)) := j3
          clear hR hE2
          refine wp_txJ [0, 0, 0, 0, 0, 0, 0, 0, 0, 0, 0, 0, 0, 0, 0, 1, 0, 0, 0, 1, 1] (fun W => W.cell? ⟨r, 1, none⟩ = some (.pointer (some ⟨p, 0, none⟩)) ∧ W.cell? ⟨r, 2, none⟩ = some (.int .i64 (x.sd : Int)) ∧ W.cell? ⟨r, 3, none⟩ = some (.int .i64 (x.t : Int))) (by kernel_rfl) (by kernel_rfl) (by kernel_rfl) (by kernel_rfl) ⟨j1', j2', j3'⟩ ?_
          repeat (refine wpTxJ_take (v := ?_) (by rfl) (fun W' hS => ?_) ?_; rotate_left; focus (have s1 := hS.1; have s2 := hS.2.1; have s3 := hS.2.2; clear hS; (try simp only at s1 s2 s3); go_simp; (try with_reducible rfl)))
          refine wpTxJ_want (by rfl) (fun K hK => ?_)
          go_simp
          with_reducible refine hbe.mono ?_
          rintro e w2 ⟨hp2, ⟨wv2, hd2⟩, hk2⟩
          have hcase : ∃ pa, e = .returned (.tuple #[.pointer pa, .int .i64 e2]) ∧ ((e2 = 0 ∧ ∃ q2, pa = some ⟨q2, 0, none⟩ ∧ IsScroll w2 q2 p s2 ∧ w1.heap.size ≤ q2) ∨ e2 ≠ 0) := by
            rcases hp2 with ⟨h0, q2, rfl, h3, h4⟩ | ⟨h0, rfl⟩
            · simp only at h0
              subst h0
              exact ⟨_, rfl, .inl ⟨rfl, q2, rfl, h3, h4⟩⟩
            · exact ⟨none, rfl, .inr h0⟩
          obtain ⟨pa, rfl, hcase⟩ := hcase
          have K2 : Kept B sts w1 w2 := (Kept.of_below ((Below.refl _ w1).drew) (Nat.le_trans hBw hB1s)).trans hk2
          have hc2 := HC1.out.kept K2
          have i1 : w2.cell? ⟨r, 1, none⟩ = some (.pointer (some ⟨p, 0, none⟩)) := hc2.st.cell 1
          have i2 : w2.cell? ⟨r, 2, none⟩ = some (.int .i64 (x.sd : Int)) := hc2.st.cell 2
          have i3 : w2.cell? ⟨r, 3, none⟩ = some (.int .i64 (x.t : Int)) := hc2.st.cell 3
          have HC2 := Lib.hid hc2
          have HD2 := Lib.hid hd2
          have HK2 := Lib.hid K2
          have HCA := Lib.hid hcase
          clear hbe hp2 hd2 hk2 hc2 K2 hcase j1 j2 j3 j1' j2' j3'
          refine hK _ _ ⟨i1, i2, i3⟩ ?_
          clear hK K
          repeat (refine wpTxJ_take (v := ?_) (by rfl) (fun W' hS => ?_) ?_; rotate_left; focus (clear hS; go_simp; (try with_reducible rfl)))
          refine wpTxJ_want (by rfl) (fun K hK => ?_)
          go_simp
          refine hK _ _ ⟨i1, i2, i3⟩ ?_
          clear hK K
          refine wpTxJ_want (by rfl) (fun K hK => ?_)
          go_simp
          refine hK _ _ ⟨i1, i2, i3⟩ ?_
          clear hK K
          refine wpTxJ_nil ?_
          rw [noPan_normal]
          by_cases h0 : e2 = 0
          · subst h0
            have hR := HR.out
            rw [if_neg (by simp)] at hR
            obtain ⟨_, q2, rfl, hs2, hq2⟩ := HCA.out.resolve_right (by simp)
            have HR := Lib.hid hR
            have HS2 := Lib.hid hs2
            have i2' : w2.drew.cell? ⟨r, 2, none⟩ = some (.int .i64 (x.sd : Int)) := i2
            have i3' : w2.drew.cell? ⟨r, 3, none⟩ = some (.int .i64 (x.t : Int)) := i3
            clear hR hs2 i1 HCA
            go_wp2_with fail
            have hb70 := bd70_1 (some ⟨q2, 0, none⟩)
            have hc2 := HC2.out
            have if0 := hc2.st.frozen 0
            have if2 := hc2.st.frozen 2
            have if3 := hc2.st.frozen 3
            have i0 : w2.cell? ⟨r, 0, none⟩ = some (.pointer (some ⟨q, 0, none⟩)) := hc2.st.cell 0
            clear hc2
            refine wp_txJ [3, 3, 3, 3, 3, 3, 3, 3, 0, 3, 3, 3, 3, 0, 3, 3, 3, 2, 3, 3, 2, 3, 3, 2] (fun W => W.cell? ⟨r, 2, none⟩ = some (.int .i64 (x.sd : Int)) ∧ W.cell? ⟨r, 3, none⟩ = some (.int .i64 (x.t : Int))) (by kernel_rfl) (by kernel_rfl) (by kernel_rfl) (by kernel_rfl) ⟨i2', i3'⟩ ?_
            iterate 8 (with_reducible refine wpTxJ_ev (v := ?_) (by with_unfolding_all rfl) (fun W' => ?_) ?_; rotate_left; focus (go_simp; (try with_reducible rfl)))
            with_reducible refine wpTxJ_take (v := ?_) (by with_unfolding_all rfl) (fun W' hS => ?_) ?_; rotate_left; focus (have s1 := hS.1; clear hS; (try simp only at s1); go_simp; (try with_reducible rfl))
            iterate 4 (with_reducible refine wpTxJ_ev (v := ?_) (by with_unfolding_all rfl) (fun W' => ?_) ?_; rotate_left; focus (go_simp; (try with_reducible rfl)))
            with_reducible refine wpTxJ_take (v := ?_) (by with_unfolding_all rfl) (fun W' hS => ?_) ?_; rotate_left; focus (have s2 := hS.2; clear hS; (try simp only at s2); go_simp; (try with_reducible rfl))
            iterate 3 (with_reducible refine wpTxJ_ev (v := ?_) (by with_unfolding_all rfl) (fun W' => ?_) ?_; rotate_left; focus (go_simp; (try with_reducible rfl)))
            with_reducible refine wpTxJ_last (by with_unfolding_all rfl) (fun K hK => ?_)
            go_simp
            with_reducible refine hK _ _ ?_
            clear hK K
            iterate 2 (with_reducible refine wpTxJ_ev (v := ?_) (by with_unfolding_all rfl) (fun W' => ?_) ?_; rotate_left; focus (go_simp; (try with_reducible rfl)))
            with_reducible refine wpTxJ_last (by with_unfolding_all rfl) (fun K hK => ?_)
            go_simp
            with_reducible refine hK _ _ ?_
            clear hK K
            iterate 2 (with_reducible refine wpTxJ_ev (v := ?_) (by with_unfolding_all rfl) (fun W' => ?_) ?_; rotate_left; focus (go_simp; (try with_reducible rfl)))
            with_reducible refine wpTxJ_last (by with_unfolding_all rfl) (fun K hK => ?_)
            go_simp
            with_reducible refine hK _ _ ?_
            clear hK K
            with_reducible refine wpTxJ_nil ?_
            rw [noPan_normal]
            have hBw2 : B ≤ w2.heap.size := Nat.le_trans hBw (Nat.le_trans hB1s HK2.out.size)
            have hc2' := HC2.out
            have hd2' := HD2.out
            obtain ⟨a1, a2, a3, a4⟩ := hc2'.set (x' := x) (q' := q2) (hv' := hv) (nv' := nv) hd2' 0 (.pointer (some ⟨q2, 0, none⟩)) (by simp) (by omega) hc2'.hd hc2'.nt hc2'.hb hc2'.nb
            obtain ⟨b1, b2, b3, b4⟩ := a1.set (x' := { x with sd := N }) (q' := q2) (hv' := hv) (nv' := nv) a3 2 (.int .i64 (N : Int)) (by simp) (by omega) a1.hd a1.nt a1.hb a1.nb
            obtain ⟨c1, c2, c3, c4⟩ := b1.set (x' := { x with sd := N, t := T1 }) (q' := q2) (hv' := hv) (nv' := nv) b3 3 (.int .i64 (T1 : Int)) (by simp) (by omega) b1.hd b1.nt b1.hb b1.nb
            have s3 : IsScroll _ q2 p s2 := (c2 _ _ (b2 _ _ (a2 _ _ HS2.out))).drew
            have c1' := c1.kept (Kept.of_below (ts := sts) ((Below.refl _ _).drew) (by simpa using hBw2))
            have c3' := Kept.drum_below ((Below.refl _ _).drew) c3
            have k3 := ((a4.trans b4).trans c4).trans (Kept.of_below (ts := cts) ((Below.refl _ _).drew) (by simpa using hBw2))
            obtain ⟨W3, hW3⟩ : ∃ W, (((w2.setCell ⟨r, 0, none⟩ (.pointer (some ⟨q2, 0, none⟩))).setCell ⟨r, 2, none⟩ (.int .i64 (N : Int))).setCell ⟨r, 3, none⟩ (.int .i64 (T1 : Int))).drew = W := ⟨_, rfl⟩
            rw [hW3] at c1' c3' s3 k3 ⊢
            have k3' : Kept B cts w1 W3 := (HK2.out.mono (fun t h => List.mem_cons_of_mem _ h)).trans k3
            have hB3 := HB.out W3 ((HK1.out.mono (fun t h => by cases h)).trans k3')
            have hcl := clone_any A c hcA b W3 hB3 (by omega)
            rw [HL.out] at hcl
            have hbd := hB3.bd
            have C1 := Lib.hid c1'
            have C3 := Lib.hid c3'
            have S3 := Lib.hid s3
            have K3 := Lib.hid k3'
            have HBD := Lib.hid hbd
            clear a1 a2 a3 a4 b1 b2 b3 b4 c1 c2 c3 c4 c1' c3' s3 k3 k3' hc2' hd2' hW3 if0 if2 if3 i0 i2 i3 i2' i3' hb70 hB3 hbd
            go_wp2_with fail
            with_reducible refine hcl.mono ?_
            rintro e w4 ⟨v, rfl, ho, hB4⟩
            obtain ⟨Av4, cv4, rfl⟩ := ho.form
            have hBW3 : B ≤ W3.heap.size := Nat.le_trans hBw (Nat.le_trans hB1s K3.out.size)
            have k4 : Kept B ([] : List TypeId) W3 w4 := Kept.of_below hB4 hBW3
            have c4 := C1.out.kept (k4.mono (fun t h => by cases h))
            have d4 := Kept.drum_below hB4 C3.out
            have s4 : IsScroll w4 q2 p s2 := k4.kt _ _ _ S3.out (by simp)
            obtain ⟨a1, a2, a3, a4⟩ := c4.set (x' := { x with sd := N, t := T1, h := b }) (q' := q2) (hv' := .slice Av4 b.length cv4) (nv' := nv) d4 4 (.slice Av4 b.length cv4) (by simp) c4.bq (ho.base hBW3) c4.nt HBD.out c4.nb
            obtain ⟨b1, b2, b3, b4⟩ := a1.set (x' := { x with sd := N, t := T1, h := b, l := [] }) (q' := q2) (hv' := .slice Av4 b.length cv4) (nv' := .slice none 0 0) a3 5 (.slice none 0 0) (by simp) a1.bq a1.hd (NT.nil _ _) a1.hb (fun l hl => by cases hl)
            have f4 := c4.st.frozen 4
            have f5 := c4.st.frozen 5
            have l4 : w4.cell? ⟨r, 4, none⟩ = some hv := c4.st.cell 4
            have l5 : w4.cell? ⟨r, 5, none⟩ = some nv := c4.st.cell 5
            have sfin := b2 _ _ (a2 _ _ s4)
            have kfin := k4
            have B1 := Lib.hid b1
            have B3 := Lib.hid b3
            have SF := Lib.hid sfin
            have KF := Lib.hid ((k4.mono (us := cts) (fun t h => by cases h)).trans (a4.trans b4))
            clear ho hB4 k4 c4 d4 s4 a1 a2 a3 a4 b1 b2 b3 b4 sfin kfin hcl
            go_wp2_with fail
            go_ret
            rw [← HR.out]
            have bfin := B1.out
            rw [HGX.out] at bfin
            exact ⟨rfl, ⟨wv2, B3.out⟩, ⟨q2, _, .slice none 0 0, fun _ => SF.out, bfin, Foot.nil _ _⟩, ((KeptC.of (nv := nv) HK1.out (fun t h => by cases h)).trans (KeptC.of (nv := nv) K3.out (fun _ h => h)) (fun k hk => .inl hk)).trans (KeptC.of (nv := nv) KF.out (fun _ h => h)) (fun k hk => .inl hk)⟩
          · have hI0 : (e2 != 0) = true := by simpa using h0
            have hR := HR.out
            rw [if_pos h0] at hR
            have HR := Lib.hid hR
            have hc2 := HC2.out
            have i6 : w2.cell? ⟨r, 6, none⟩ = some (.bool x.gone) := hc2.st.cell 6
            have if6 := hc2.st.frozen 6
            have hfin := hc2.set (x' := { x with gone := true }) (q' := q) (hv' := hv) (nv' := nv) HD2.out 6 (.bool true) (by simp) hc2.bq hc2.hd hc2.nt hc2.hb hc2.nb
            have HF := Lib.hid hfin
            clear hR h0 hc2 hfin
            go_wp2_with fail
            go_ret
            rw [← HR.out]
            obtain ⟨f1, f2, f3, f4⟩ := HF.out
            exact ⟨rfl, ⟨wv2, f3⟩, ⟨q, hv, nv, (fun h => by cases h), f1, Foot.refl _ _⟩, ((KeptC.of (nv := nv) HK1.out (fun t h => by cases h)).trans (KeptC.sts (nv := nv) HK2.out) (fun k hk => .inl hk)).trans (KeptC.of (nv := nv) f4 (fun _ h => h)) (fun k hk => .inl hk)⟩
      · have hR := HR.out
        rw [if_pos he] at hR
        have hI2 : (E != 0) = true := by simpa using he
        have HR := Lib.hid hR
        clear hR he
        go_wp2_with fail
        go_ret
        rw [← HR.out]
        exact ⟨rfl, ⟨wv, HD1.out⟩, ⟨q, hv, nv, fun _ => HS1.out, HC1.out, Foot.refl _ _⟩, KeptC.of HK1.out (fun t h => by cases h)⟩

end Go.Proofs.YtohadeijmmmcdaaDoor
