/-
  A chest: Keep.
-/
import Derived.Test.YtohadeijmmmcdaaDoorChestB
namespace Go.Proofs.YtohadeijmmmcdaaDoor
open Go.RowKit
set_option maxRecDepth 100000
attribute [local go_sem ↓] apt33_of

/-- Keep's answer. -/
def ckeepR (x : CS) (s : SS) (S : DS) (b : List Int) : Int × CS × SS × DS :=
  if x.gone = true then (20, x, s, S) else
  if (putR s S b).1 = 0 then (0, { x with l := x.l ++ [b] }, (putR s S b).2.1, (putR s S b).2.2) else
  if (putR s S b).1 = 18 ∨ (putR s S b).1 = 4 then ((putR s S b).1, x, (putR s S b).2.1, (putR s S b).2.2) else
  ((putR s S b).1, { x with gone := true }, (putR s S b).2.1, (putR s S b).2.2)

set_option maxHeartbeats 4000000 in
theorem ckeep_any (B r q p gs : Nat) (wv hv nv : Value) (x : CS) (s : SS) (S : DS) (A : Option Addr) (c : Nat) (hcA : A = none → c = 0) (b : List Int) (w : World) (hd : IsDrum B w p gs wv S) (hs : IsScroll w q p s) (hc : IsChest B w r q p x hv nv)
    (hum : s.u ≤ s.m) (hfm : s.f + s.m ≤ S.sure.length) (hn : s.n ≤ 1099511627776) (hlen : S.waits.length + 1024 ≤ 1000000000) (hnl : x.l.length + 1 ≤ 1000000000) (hb : ∀ W, Kept B sts w W → Byt W A b) (hbl : b.length ≤ 100000000) (hg : Glob w) (_h2 : 2 ≤ B) :
    Calls Tryd.prog 37 #[.pointer (some ⟨r, 0, none⟩), .slice A b.length c] w fun e w' => e = .returned (.int .i64 (ckeepR x s S b).1) ∧ (∃ wv', IsDrum B w' p gs wv' (ckeepR x s S b).2.2.2) ∧ IsScroll w' q p (ckeepR x s S b).2.2.1 ∧
      (∃ nv', IsChest B w' r q p (ckeepR x s S b).2.1 hv nv' ∧ Foot w nv nv') ∧ KeptC B nv w w' := by
  have k6 : w.cell? ⟨r, 6, none⟩ = some (.bool x.gone) := hc.st.cell 6
  have k0 : w.cell? ⟨r, 0, none⟩ = some (.pointer (some ⟨q, 0, none⟩)) := hc.st.cell 0
  obtain ⟨R, hR⟩ : ∃ R, ckeepR x s S b = R := ⟨_, rfl⟩
  rw [hR]
  unfold ckeepR at hR
  have hBw : B ≤ w.heap.size := by have := hd.lt (.inl rfl); omega
  have hbb := (hb w (Kept.refl _ _ _)).bd
  cases hg : x.gone with
  | true =>
    rw [if_pos hg] at hR
    rw [hg] at k6
    have HC := Lib.hid hc
    have HS := Lib.hid hs
    have HD := Lib.hid hd
    have HR := Lib.hid hR
    clear hc hs hd hR hg hb
    go_enter Tryd.func37, Tryd.ntmps37
    go_wp2_with fail
    go_ret
    rw [← HR.out]
    exact ⟨rfl, ⟨wv, HD.out⟩, HS.out, ⟨nv, HC.out, Foot.refl _ _⟩, .sts (Kept.refl _ _ _)⟩
  | false =>
    rw [if_neg (by rw [hg]; simp)] at hR
    rw [hg] at k6
    have hpu := put_any B q p gs wv s S A c hcA b w hd hs hc.bq hum hfm hn hlen (hb w (Kept.refl _ _ _)) hbl (by assumption)
    obtain ⟨⟨er, s1, T⟩, hE⟩ : ∃ E, putR s S b = E := ⟨_, rfl⟩
    rw [hE] at hpu hR
    simp only at hpu hR
    have HC := Lib.hid hc
    have HR := Lib.hid hR
    have HB := Lib.hid hb
    have HBB := Lib.hid hbb
    obtain ⟨L, hL⟩ : ∃ L, b.length = L := ⟨_, rfl⟩
    rw [hL] at hpu ⊢
    have HL := Lib.hid hL
    clear hc hs hd hR hE hb hbb hL
    go_enter Tryd.func37, Tryd.ntmps37
    go_wp2_with fail
    with_reducible refine hpu.mono ?_
    rintro e w1 ⟨rfl, ⟨wv1, hd1⟩, hs1, hk1⟩
    have hc1 := HC.out.kept hk1
    have HD1 := Lib.hid hd1
    have HS1 := Lib.hid hs1
    have HC1 := Lib.hid hc1
    have K1 := Lib.hid hk1
    clear hpu hd1 hs1 hc1 hk1
    by_cases he : er = 0
    · subst he
      have hR : (0, { x with l := x.l ++ [b] }, s1, T) = R := by
        have := HR.out
        simpa using this
      have HR := Lib.hid hR
      clear hR
      have hc1 := HC1.out
      have j5 : w1.drew.cell? ⟨r, 5, none⟩ = some nv := hc1.st.cell 5
      have hcl := clone_any A c hcA b w1.drew ((HB.out _ K1.out).below ((Below.refl _ w1).drew)) (by omega)
      rw [HL.out] at hcl
      clear hc1
      go_wp2_with fail
      refine wp_txJ [0, 0, 0, 0, 0, 0, 1, 1, 1, 0, 0, 2] (fun W => W.cell? ⟨r, 5, none⟩ = some nv) (by kernel_rfl) (by kernel_rfl) (by kernel_rfl) (by kernel_rfl) j5 ?_
      repeat (refine wpTxJ_take (v := ?_) (by rfl) (fun W' hS => ?_) ?_; rotate_left; focus (go_simp; (try with_reducible rfl)))
      refine wpTxJ_want (by rfl) (fun K hK => ?_)
      go_simp
      with_reducible refine hcl.mono ?_
      rintro e w2 ⟨v, rfl, ho, hB2⟩
      obtain ⟨Av, cv, rfl⟩ := ho.form
      have B2 : Below w1.heap.size w1 w2 := ((Below.refl _ w1).drew).trans hB2
      have hc2 := HC1.out.kept (Kept.of_below B2 (Nat.le_trans hBw K1.out.size))
      have hBw2 : B ≤ w2.heap.size := Nat.le_trans hBw (Nat.le_trans K1.out.size B2.size)
      have ho' : Own8 B w2 (.slice Av b.length cv) b := ho.base (Nat.le_trans hBw (Nat.le_trans K1.out.size (Nat.le_refl _)))
      obtain ⟨v5, w5, hap, ho5, hf5, hft5⟩ := hc2.nt.app (ty := 33) ho' (by omega) hBw2
      have i5 : w2.cell? ⟨r, 5, none⟩ = some nv := hc2.st.cell 5
      obtain ⟨An, cn, hnv⟩ := hc2.nt.form
      have f5 := hf5.below (B := B) hBw2 (fun k hk e => by have := (hc2.nt.lt e).1; omega)
      refine hK _ _ i5 ?_
      clear hK K hcl
      subst hnv
      refine wpTxJ_want (by rfl) (fun K hK => ?_)
      go_simp
      refine hK _ _ (hc2.st.alloc _ |>.cell 5) ?_
      clear hK K
      refine wpTxJ_want (by rfl) (fun K hK => ?_)
      go_simp
      have hst5 : ChestB w5 r q p x hv (.slice An x.l.length cn) := hc2.st.fr hf5 (hc2.nt.ne hc2.st (by decide))
      have K5 : Kept B [22] w2 w5 := Kept.of_fr hf5 hBw2 (fun k hk e => by have := (hc2.nt.lt e).1; omega) (fun k t cs f hb => by
        obtain ⟨cs', hb', _⟩ := hc2.nt.blk f
        rw [(hb.inj hb').1]
        exact List.mem_cons_self)
      have K2 : Kept B ([] : List TypeId) w1 w2 := Kept.of_below B2 (Nat.le_trans hBw K1.out.size)
      have hd5 := K5.drum (K2.drum HD1.out (by simp) (by simp) (by simp)) (by decide) (by decide) (by decide)
      have hs5 : IsScroll w5 q p s1 := K5.kt _ _ _ (K2.kt _ _ _ HS1.out (by simp)) (by decide)
      have kc5 : KeptC B (.slice An x.l.length cn) w w5 := ((KeptC.sts (nv := .slice An x.l.length cn) K1.out).trans (KeptC.of (nv := .slice An x.l.length cn) K2 (by simp)) (fun k hk => .inl hk)).trans (nv1 := .slice An x.l.length cn) ⟨f5, fun k t cs hb _ hk => hb.fr hf5 hk⟩ (fun k hk => .inl hk)
      have hfin := hst5.set (x' := { x with l := x.l ++ [b] }) (q' := q) (hv' := hv) (nv' := v5) hc2.br hd5 5 v5 (by simp) hc2.bq (K5.own8 hc2.hd (by decide)) ho5 hc2.hb (fun l hl => by
        rcases List.mem_append.1 hl with h | h
        · exact hc2.nb l h
        · rw [List.mem_singleton.1 h]; exact HBB.out)
      have c5 : w5.cell? ⟨r, 5, none⟩ = some (.slice An x.l.length cn) := hst5.cell 5
      have fr5 := hst5.frozen 5
      have hw2s := B2.size
      have HF := Lib.hid hfin
      have HS5 := Lib.hid hs5
      have HK5 := Lib.hid kc5
      have HFT := Lib.hid hft5
      obtain ⟨A5, cc5, rfl⟩ := ho5.form
      clear hap ho5 hf5 hft5 hc2 ho ho' B2 K5 K2 hd5 hs5 kc5 hfin hst5 i5
      refine hK _ _ c5 ?_
      clear hK K
      repeat (refine wpTxJ_take (v := ?_) (by rfl) (fun W' hS => ?_) ?_; rotate_left; focus (go_simp; (try with_reducible rfl)))
      refine wpTxJ_last (by rfl) (fun K hK => ?_)
      go_simp
      refine hK _ _ ?_
      clear hK K
      refine wpTxJ_nil ?_
      rw [noPan_normal]
      go_wp2_with fail
      go_ret
      rw [← HR.out]
      obtain ⟨f1, f2, f3, f4⟩ := HF.out
      simp only [List.length_append, List.length_singleton] at f1 f2 f3 f4
      exact ⟨rfl, ⟨wv1, f3⟩, f2 _ _ HS5.out, ⟨_, f1, fun k hk => (HFT.out k (by simpa using hk)).imp id (fun h => Nat.le_trans K1.out.size (Nat.le_trans hw2s h))⟩, HK5.out.trans (KeptC.of (nv := .slice An x.l.length cn) f4 (fun _ h => h)) (fun k hk => .inl hk)⟩
    · have hI : (er == 0) = false := by simpa using he
      have hR := HR.out
      rw [if_neg he] at hR
      by_cases he2 : er = 18 ∨ er = 4
      · rw [if_pos he2] at hR
        have HR := Lib.hid hR
        clear hR
        obtain rfl | rfl := he2
        · go_wp2_with fail
          go_ret
          rw [← HR.out]
          exact ⟨rfl, ⟨wv1, HD1.out⟩, HS1.out, ⟨nv, HC1.out, Foot.refl _ _⟩, .sts K1.out⟩
        · go_wp2_with fail
          go_ret
          rw [← HR.out]
          exact ⟨rfl, ⟨wv1, HD1.out⟩, HS1.out, ⟨nv, HC1.out, Foot.refl _ _⟩, .sts K1.out⟩
      · rw [if_neg he2] at hR
        have HR := Lib.hid hR
        have hI2 : (er == 18) = false := by simp; omega
        have hI3 : (er == 4) = false := by simp; omega
        have hc1 := HC1.out
        have j6 : w1.cell? ⟨r, 6, none⟩ = some (.bool x.gone) := hc1.st.cell 6
        have jf := hc1.st.frozen 6
        have hfin := hc1.set (x' := { x with gone := true }) (q' := q) (hv' := hv) (nv' := nv) HD1.out 6 (.bool true) (by simp) hc1.bq hc1.hd hc1.nt hc1.hb hc1.nb
        have HF := Lib.hid hfin
        clear hR he he2 hc1 hfin
        go_wp2_with fail
        go_ret
        rw [← HR.out]
        obtain ⟨f1, f2, f3, f4⟩ := HF.out
        exact ⟨rfl, ⟨wv1, f3⟩, f2 _ _ HS1.out, ⟨nv, f1, Foot.refl _ _⟩, (KeptC.sts K1.out).trans (KeptC.of (nv := nv) f4 (fun _ h => h)) (fun k hk => .inl hk)⟩

end Go.Proofs.YtohadeijmmmcdaaDoor
