/-
  scroll.Fits.
-/
import Derived.Test.YtohadeijmmmcdaaDoorChestF
import Derived.Test.YtohadeijmmmcdaaDoorOpenD
namespace Go.Proofs.YtohadeijmmmcdaaDoor
open Go.RowKit
set_option maxRecDepth 100000

/-- From A on lie slices of the texts l. -/
def TX (w : World) (A : Option Addr) (l : List (List Int)) : Prop :=
  ∀ i (hi : i < l.length), ∃ g off, A = some ⟨g, off, none⟩ ∧ g < w.heap.size ∧ ∃ Ax cx, w.cell? ⟨g, off + i, none⟩ = some (.slice Ax (l[i]).length cx) ∧ Byt w Ax l[i] ∧ (Ax = none → cx = 0)
theorem TX.nil (w : World) (A : Option Addr) : TX w A [] := fun i hi => absurd hi (by simp)
theorem TX.below {w w' : World} {A : Option Addr} {l : List (List Int)} (h : TX w A l) (hb : Below w.heap.size w w') : TX w' A l := fun i hi => by
  obtain ⟨g, off, e, hg, Ax, cx, h1, h2, h3⟩ := h i hi
  exact ⟨g, off, e, Nat.lt_of_lt_of_le hg hb.size, Ax, cx, (hb.cell (p := ⟨g, off + i, none⟩) hg).trans h1, h2.below hb, h3⟩
theorem Txs.tx {w : World} {A : Option Addr} {l : List (List Int)} (h : Txs w A l) : TX w A l := fun i hi => by
  obtain ⟨g, off, e, hg, A', c', h1, h2, _⟩ := h i hi
  exact ⟨g, off, e, hg, A', c', h1, h2.byt, h2.nil_⟩
theorem TX.one {w : World} {x : Value} {b : List Int} {Ax : Option Addr} {cx : Nat} (hx : x = .slice Ax b.length cx) (hb : Byt w Ax b) (hz : Ax = none → cx = 0) : TX (w.alloc (.cells #[x] 22)) (some ⟨w.heap.size, 0, none⟩) [b] := fun i hi => by
  obtain rfl : i = 0 := by simpa using hi
  refine ⟨w.heap.size, 0, rfl, by simp, Ax, cx, ?_, hb.below ((Below.refl _ w).alloc (Nat.le_refl _) _), hz⟩
  rw [(Blk.new w 22 #[x]).cell]
  simp [hx]

/-- Whether all of l fit, from the i-th on, into so many sectors. -/
def fitsGo (t n : Nat) : List (List Int) → Nat → Nat → Bool
  | [], _, _ => true
  | b :: l, i, left => if formE (t : Int) ((n + i : Nat) : Int) b = 0 ∧ recS t (n + i) b ≤ left then fitsGo t n l (i + 1) (left - recS t (n + i) b) else false
/-- Fits's answer. -/
def fitsR (s : SS) (l : List (List Int)) : Bool := fitsGo s.t s.n l 0 (s.m - s.u)

set_option maxHeartbeats 4000000 in
theorem sfits_any (q p : Nat) (s : SS) (A : Option Addr) (c : Nat) (l : List (List Int)) (w : World) (hs : IsScroll w q p s) (hm : s.m ≤ 8192) (hu : s.u ≤ s.m) (_ht : s.t ≤ 1099511627776) (hn : s.n ≤ 1099511627776) (hl : TX w A l) (hll : l.length ≤ 1000000000) (hlb : ∀ b ∈ l, b.length ≤ 100000000) (hg : Glob w) :
    Calls Tryd.prog 36 #[.pointer (some ⟨q, 0, none⟩), .slice A l.length c] w fun e w' => e = .returned (.bool (fitsR s l)) ∧ Below w.heap.size w w' := by
  have hle := left_any q p s hm hu w hs
  obtain ⟨N, hN⟩ : ∃ N, l.length = N := ⟨_, rfl⟩
  obtain ⟨F, hF⟩ : ∃ F, fitsR s l = F := ⟨_, rfl⟩
  rw [hN, hF]
  have h0 : fitsGo s.t s.n (l.drop 0) 0 (s.m - s.u) = F := hF
  rw [hN] at hll
  have hlq := hs.lt
  have HN := Lib.hid hN
  have HL := Lib.hid hl
  have HB := Lib.hid hlb
  have HS := Lib.hid hs
  have HG := Lib.hid hg
  have H0 := Lib.hid h0
  clear hN hl hlb hs hg h0 hF
  go_enter Tryd.func36, Tryd.ntmps36
  go_wp2_with fail
  with_reducible refine hle.mono ?_
  rintro e w1 ⟨rfl, k1, rfl⟩
  have hB1 : Below w.heap.size w (w.drewN k1) := below_drewN (Below.refl _ _) _
  obtain ⟨w1, hw1⟩ : ∃ w1, w.drewN k1 = w1 := ⟨_, rfl⟩
  rw [hw1] at hB1 ⊢
  clear hle hw1
  have hlI : ((s.m : Int) - (s.u : Int)) = ((s.m - s.u : Nat) : Int) := by omega
  rw [hlI]
  go_wp2_with fail
  go_loopg [5, 14] N (fun k lf t wr => ∃ (i left : Nat), i ≤ N ∧ left ≤ 8192 ∧ k = N - i ∧ t = .int .i64 (i : Int) ∧ lf = .int .i64 (left : Int) ∧ fitsGo s.t s.n (l.drop i) i left = F ∧ Below w.heap.size w wr)
  case atStart => exact ⟨0, s.m - s.u, Nat.zero_le _, by omega, rfl, rfl, rfl, H0.out, hB1⟩
  case round =>
    obtain ⟨i, left, hi, hlf, hk, rfl, rfl, hgo, hbl⟩ := hrel
    by_cases hlt : i < N
    · obtain ⟨g, off, hA, hgs, Ax, cx, hcx, hy, hz⟩ := HL.out i (by rw [HN.out]; exact hlt)
      obtain ⟨b, hb⟩ : ∃ b, l[i]'(by rw [HN.out]; exact hlt) = b := ⟨_, rfl⟩
      rw [hb] at hcx hy
      have hltI : (i : Int) < (N : Int) := by omega
      have hbl2 : b.length ≤ 100000000 := HB.out b (by rw [← hb]; exact List.getElem_mem _)
      have hc' : wr.cell? ⟨g, off + i, none⟩ = some (.slice Ax b.length cx) := (hbl.cell (p := ⟨g, off + i, none⟩) hgs).trans hcx
      have hyr := hy.belowB hbl (fun a ha h0 => by
        obtain ⟨g9, o9, e9, hg9, _⟩ := hy.cell h0
        rw [ha] at e9
        cases e9
        exact hg9)
      have hsr : IsScroll wr q p s := (hbl.block q hlq).trans HS.out
      have k3 : wr.drew.cell? ⟨q, 3, none⟩ = some (.int .i64 (s.t : Int)) := hsr.cell 3
      have k5 : wr.drew.cell? ⟨q, 5, none⟩ = some (.int .i64 (s.n : Int)) := hsr.cell 5
      have hgr := HG.out.below hbl
      have hfo := form_any (s.t : Int) ((s.n + i : Nat) : Int) Ax cx hz b wr.drew (hyr.below ((Below.refl _ wr).drew)) hbl2 (hgr.below ((Below.refl _ wr).drew))
      have hdr : l.drop i = b :: l.drop (i + 1) := by rw [← hb]; exact List.drop_eq_getElem_cons _
      rw [hdr] at hgo
      simp only [fitsGo] at hgo
      obtain ⟨E, hE⟩ : ∃ E, formE (s.t : Int) ((s.n + i : Nat) : Int) b = E := ⟨_, rfl⟩
      obtain ⟨V, hV⟩ : ∃ V, formV (s.t : Int) ((s.n + i : Nat) : Int) b = V := ⟨_, rfl⟩
      obtain ⟨KK, hKK⟩ : ∃ KK, recS s.t (s.n + i) b = KK := ⟨_, rfl⟩
      have hVl : E = 0 → V.length = KK * 64 ∧ KK ≤ 1024 := fun h => by
        rw [← hE] at h
        rw [← hV]
        unfold formV
        rw [if_pos h, Int.toNat_natCast, Int.toNat_natCast, formP_len, ← hKK]
        exact ⟨rfl, (formE_zero h).2.2⟩
      have hV0 : E ≠ 0 → V.length = 0 := fun h => by
        rw [← hE] at h
        rw [← hV]
        unfold formV
        rw [if_neg h]
        rfl
      rw [hE, hV] at hfo
      rw [hE, hKK] at hgo
      obtain ⟨L, hL⟩ : ∃ L, b.length = L := ⟨_, rfl⟩
      rw [hL] at hfo hc'
      subst hA
      have hni : IntKind.i64.wrap ((s.n : Int) + (i : Int)) = ((s.n + i : Nat) : Int) := by rw [IntKind.wrap_i64]; omega
      obtain ⟨NI, hNI⟩ : ∃ NI, s.n + i = NI := ⟨_, rfl⟩
      rw [hNI] at hfo hni
      have HBL := Lib.hid hbl
      have HGO := Lib.hid hgo
      have HVL := Lib.hid hVl
      have HV0 := Lib.hid hV0
      clear hbl hy hcx hb hL hgo hyr hsr hE hV hKK hVl hV0 hgr hNI hdr
      go_wp2_with fail
      refine wp_txJ [3, 3, 3, 0, 3, 3, 3, 0, 3, 3, 3, 2, 3, 3, 3, 3, 3] (fun W => W.cell? ⟨q, 3, none⟩ = some (.int .i64 (s.t : Int)) ∧ W.cell? ⟨q, 5, none⟩ = some (.int .i64 (s.n : Int))) (by kernel_rfl) (by kernel_rfl) (by kernel_rfl) (by kernel_rfl) ⟨k3, k5⟩ ?_
      iterate 3 (with_reducible refine wpTxJ_ev (v := ?_) (by with_unfolding_all rfl) (fun W' => ?_) ?_; rotate_left; focus (go_simp; (try with_reducible rfl)))
      with_reducible refine wpTxJ_take (v := ?_) (by with_unfolding_all rfl) (fun W' hS => ?_) ?_; rotate_left; focus (have s1 := hS.1; clear hS; (try simp only at s1); go_simp; (try with_reducible rfl))
      iterate 3 (with_reducible refine wpTxJ_ev (v := ?_) (by with_unfolding_all rfl) (fun W' => ?_) ?_; rotate_left; focus (go_simp; (try with_reducible rfl)))
      with_reducible refine wpTxJ_take (v := ?_) (by with_unfolding_all rfl) (fun W' hS => ?_) ?_; rotate_left; focus (have s1 := hS.2; clear hS; (try simp only at s1); go_simp; (try with_reducible rfl))
      iterate 3 (with_reducible refine wpTxJ_ev (v := ?_) (by with_unfolding_all rfl) (fun W' => ?_) ?_; rotate_left; focus (go_simp; (try with_reducible rfl)))
      with_reducible refine wpTxJ_last (by with_unfolding_all rfl) (fun K hK => ?_)
      go_simp
      with_reducible refine hfo.mono ?_
      rintro e w2 ⟨v, rfl, ho, hB2⟩
      obtain ⟨Av, cv, rfl⟩ := ho.form
      obtain ⟨VL, hVL⟩ : ∃ VL, V.length = VL := ⟨_, rfl⟩
      have hB3 : Below w.heap.size w w2 := HBL.out.trans (((Below.refl _ wr).drew.trans hB2).mono HBL.out.size)
      rw [hVL]
      have HB3 := Lib.hid hB3
      have HVLn := Lib.hid hVL
      clear ho hB2 hB3 hfo hVL k3 k5
      with_reducible refine hK _ _ ?_
      clear hK K
      iterate 5 (with_reducible refine wpTxJ_ev (v := ?_) (by with_unfolding_all rfl) (fun W' => ?_) ?_; rotate_left; focus (go_simp; (try with_reducible rfl)))
      with_reducible refine wpTxJ_nil ?_
      rw [noPan_normal]
      by_cases hE : E = 0
      · obtain ⟨hv1, hv2⟩ := HVL.out hE
        rw [HVLn.out] at hv1
        have hgo := HGO.out
        subst hE
        have hwq : IntKind.i64.wrap ((VL : Int) / 64) = (KK : Int) := by rw [IntKind.wrap_i64]; omega
        by_cases hfit : KK ≤ left
        · have hgo' : fitsGo s.t s.n (l.drop (i + 1)) (i + 1) (left - KK) = F := by simpa [hfit] using hgo
          have hwl : IntKind.i64.wrap ((left : Int) - (KK : Int)) = ((left - KK : Nat) : Int) := by rw [IntKind.wrap_i64]; omega
          have HGO' := Lib.hid hgo'
          have hlk : left - KK ≤ 8192 := by omega
          have hnn : ¬ (((left - KK : Nat) : Int) < 0) := by omega
          clear hgo hgo' hv1 hv2 hlI
          go_wp2_with fail
          go_roundg (N - (i + 1))
          case measure => omega
          case rel => exact ⟨i + 1, left - KK, by omega, hlk, rfl, by go_num, rfl, HGO'.out, HB3.out⟩
        · have hF : F = false := by rw [← hgo, if_neg (fun h => hfit h.2)]
          have hwl : IntKind.i64.wrap ((left : Int) - (KK : Int)) = (left : Int) - (KK : Int) := by rw [IntKind.wrap_i64]; omega
          have hnn : (left : Int) - (KK : Int) < 0 := by omega
          subst hF
          clear hgo hv1 hv2 hlI
          go_wp2_with fail
          go_ret
          exact ⟨rfl, HB3.out⟩
      · have hv0 := HV0.out hE
        rw [HVLn.out] at hv0
        have hF : F = false := by rw [← HGO.out, if_neg (fun h => hE h.1)]
        have hEI : (E != 0) = true := by simpa using hE
        subst hv0 hF
        clear hE hlI
        have hwl : IntKind.i64.wrap ((left : Int) - 0) = (left : Int) := by rw [IntKind.wrap_i64]; omega
        go_wp2_with fail
        go_ret
        exact ⟨rfl, HB3.out⟩
    · obtain rfl : i = N := by omega
      rw [List.drop_eq_nil_of_le (by rw [HN.out]; exact Nat.le_refl _)] at hgo
      have hF : F = true := by rw [← hgo]; rfl
      have hltI : ¬ ((i : Int) < (i : Int)) := by omega
      have HBL := Lib.hid hbl
      clear hbl hgo
      go_wp2_with fail
      go_ret
      exact ⟨rfl, HBL.out⟩

end Go.Proofs.YtohadeijmmmcdaaDoor
