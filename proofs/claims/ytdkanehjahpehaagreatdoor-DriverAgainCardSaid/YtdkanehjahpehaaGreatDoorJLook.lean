/-
  field.Eye where what is asked for is there: a number, a text, a digest. A right transaction's form, part by part.
  Rows of inputs and of outputs that are read: where they lie.
  tx.look: a right transaction's form is read.
  tx.Read of a right transaction's form: that transaction.
-/
import Derived.Test.YtdkanehjahpehaaGreatDoorJRead2
import Derived.Test.YtdkanehjahpehaaGreatDoorJTxA
import Derived.Test.YtdkanehjahpehaaGreatDoorJRTxA
import Derived.Test.YtdkanehjahpehaaGreatDoorJOwnR

section
namespace Go.Proofs.YtdkanehjahpehaaGreatDoor
open Go.RowKit Go.Shelf
set_option maxRecDepth 100000
attribute [local go_sem ↓] sle_of

/-- An eye whose bytes lie in the block s. -/
def IsEyeS (w : World) (p s : Nat) (l : List Int) : Prop := ∃ A c, IsEye w p A c l ∧ ∀ a, A = some a → a.block = s
theorem IsEyeS.fr {w w' : World} {p s : Nat} {l : List Int} {F : Nat → Prop} (h : IsEyeS w p s l) (hf : Fr F w w') (hp : ¬ F p) (hs : ¬ F s) : IsEyeS w' p s l := by
  obtain ⟨A, c, he, ha⟩ := h
  exact ⟨A, c, ⟨he.st.fr hf hp, he.by_.fr hf (fun a e _ => by rw [ha a e]; exact hs), he.ne, he.cap⟩, ha⟩
theorem IsEyeS.far {w : World} {p s g : Nat} {l : List Int} {t : TypeId} {cs : Array Value} (h : IsEyeS w p s l) (hb : Blk w g t cs) (ht : 202 ≠ t) : p ≠ g := by
  obtain ⟨A, c, he, _⟩ := h
  exact he.st.ne_ hb ht

set_option maxHeartbeats 4000000 in
theorem takeS_ok (p s : Nat) (l : List Int) (n : Nat) (hn : n ≤ l.length) (hl : l.length ≤ 1000000000) (w : World) (h : IsEyeS w p s l) :
    Calls Tryz.prog 148 #[.pointer (some ⟨p, 0, none⟩), .int .i64 (n : Int)] w fun e w' =>
      (∃ A', e = .returned (.slice A' n n) ∧ Byt w' A' (l.take n)) ∧ IsEyeS w' p s (l.drop n) ∧ Fr (fun k => k = p) w w' := by
  obtain ⟨A, c, h, hs⟩ := h
  have k' : w.cell? ⟨p, 0, none⟩ = some (.slice A l.length c) := h.st.cell 0
  have f' := h.st.frozen 0
  obtain ⟨A1, hs1, hy1, hb1, _⟩ := part8 h.by_ c 0 n n none (some (.int .i64 (n : Int))) (some (.int .i64 (n : Int))) (Nat.zero_le _) hn (Nat.le_refl _) (Nat.le_trans hn h.cap) (.inl ⟨rfl, rfl⟩) (.inr ⟨_, rfl, rfl⟩) (.inr ⟨⟨_, rfl, rfl⟩, by simp⟩)
  obtain ⟨A2, hs2, hy2, hb2, hn2⟩ := part8 h.by_ c n l.length c (some (.int .i64 (n : Int))) none none hn (Nat.le_refl _) h.cap (Nat.le_refl _) (.inr ⟨_, rfl, rfl⟩) (.inl ⟨rfl, rfl⟩) (.inl ⟨rfl, rfl⟩)
  simp only [Nat.sub_zero, List.drop_zero] at hs1 hy1
  rw [List.take_of_length_le (by simp)] at hy2
  obtain ⟨N, hN⟩ : ∃ N, l.length = N := ⟨_, rfl⟩
  rw [hN] at k' hs1 hs2
  have hnN : (n : Int) ≤ (N : Int) := by omega
  have H := Lib.hid h
  have HN := Lib.hid hN
  have Y1 := Lib.hid hy1
  have Y2 := Lib.hid hy2
  have B1 := Lib.hid hb1
  have B2 := Lib.hid hb2
  have N2 := Lib.hid hn2
  have HS := Lib.hid hs
  clear h hN hy1 hy2 hb1 hb2 hn2 hs
  go_enter Tryz.func148, Tryz.ntmps148
  go_wp2_with fail
  go_ret
  have hF : Fr (fun k => k = p) w (w.setCell ⟨p, 0, none⟩ (.slice A2 (N - n) (c - n))) := (Fr.refl (fun k => k = p) w).setCell (p := ⟨p, 0, none⟩) (fun _ => rfl) _
  have hne : ∀ A' : Option Addr, (∀ a, A' = some a → ∃ b, A = some b ∧ a.block = b.block) → 0 < N → ∀ a, A' = some a → a.block ≠ p := fun A' hA h0 a ha => by
    obtain ⟨b, e1, e2⟩ := hA a ha
    rw [e2]
    exact H.out.ne b e1 (by rw [HN.out]; exact h0)
  refine ⟨⟨A1, rfl, Y1.out.fr hF (fun a ha h0 => hne A1 B1.out (by have := HN.out; simp at h0; omega) a ha)⟩, ⟨A2, c - n, ⟨?_, Y2.out.fr hF (fun a ha h0 => hne A2 B2.out (by have := HN.out; simp at h0; omega) a ha), fun a ha h0 => hne A2 B2.out (by have := HN.out; simp at h0; omega) a ha, ?_⟩, fun a ha => ?_⟩, hF⟩
  · have := H.out.st.set_ 0 (.slice A2 (N - n) (c - n))
    rw [List.length_drop, HN.out]
    simpa using this
  · have := H.out.cap
    rw [List.length_drop]
    omega
  · obtain ⟨b, e1, e2⟩ := B2.out a ha
    rw [e2]
    exact HS.out b e1

set_option maxHeartbeats 8000000 in
/-- The next number, where there is one. -/
theorem enumS_ok (p s : Nat) (l : List Int) (most val : Nat) (rest : List Int) (_hm : most ≤ 18446744073709551615) (hl : l.length ≤ 1000000000) (w : World) (h : IsEyeS w p s l) (hR : takeNumP most l = some (val, rest)) :
    Calls Tryz.prog 108 #[.pointer (some ⟨p, 0, none⟩), .int .u64 (most : Int)] w fun e w' => e = .returned (.int .u64 (val : Int)) ∧ IsEyeS w' p s rest ∧ Fr (fun k => k = p) w w' := by
  cases l with
  | nil => simp [takeNumP] at hR
  | cons k tl =>
    have hby : ∀ x ∈ k :: tl, 0 ≤ x ∧ x ≤ 255 := by
      obtain ⟨A, c, he, _⟩ := h
      exact he.by_.bd
    have hk := hby k (by simp)
    obtain ⟨K, rfl⟩ : ∃ K : Nat, k = K := ⟨k.toNat, by omega⟩
    have hKb : K ≤ 255 := by omega
    simp only [takeNumP, Int.toNat_natCast] at hR
    split at hR
    · cases hR
    rename_i hno
    simp only [Option.some.injEq, Prod.mk.injEq] at hR
    obtain ⟨hval, hrest⟩ := hR
    have h8i : (K : Int) ≤ 8 := by omega
    have hfew : K ≤ tl.length := by omega
    have htl : tl.length ≤ 1000000000 := by simp at hl; omega
    have HV := Lib.hid hval
    have HREST := Lib.hid hrest
    have HNO := Lib.hid hno
    have H := Lib.hid h
    have HBY := Lib.hid hby
    clear hval hrest hno h hby hk
    go_enter Tryz.func108, Tryz.ntmps108
    go_wp2_with fail
    have ht1 := takeS_ok p s ((K : Int) :: tl) 1 (by simp) hl w H.out
    rw [show ((1 : Nat) : Int) = 1 from rfl] at ht1
    with_reducible refine ht1.mono ?_
    rintro e w1 ⟨⟨A1, rfl, y1⟩, h2, f1⟩
    obtain ⟨g1, o1, rfl, _, hc1⟩ := y1.at_ (i := 0) (by simp)
    have hc1' : w1.cell? ⟨g1, o1, none⟩ = some (.int .u8 (K : Int)) := by simpa using hc1
    have h2' : IsEyeS w1 p s tl := by simpa using h2
    have ht2 := takeS_ok p s tl K hfew htl w1 h2'
    have F1 := Lib.hid f1
    clear f1 y1 h2 hc1 h2' ht1
    go_wp2_with fail
    with_reducible refine ht2.mono ?_
    rintro e w2 ⟨⟨A3, rfl, y3⟩, h4, f2⟩
    have hl3 : (tl.take K).length = K := by rw [List.length_take]; omega
    have F2 := Lib.hid (F1.out.trans f2 (fun _ _ h => h))
    have Y3 := Lib.hid y3
    have H4 := Lib.hid h4
    have HL3 := Lib.hid hl3
    clear y3 h4 hl3 f2 ht2
    go_wp2_with fail
    go_loopw [6, 22] (fun v t wr => ∃ i : Nat, i ≤ K ∧ t = .int .i64 i ∧ v = .int .u64 (valP ((tl.take K).take i) : Nat) ∧ wr = w2)
      (fun _ t _ => K - (intOf t).toNat)
    case atStart => exact ⟨0, Nat.zero_le _, rfl, rfl, rfl⟩
    case round =>
      obtain ⟨i, hi, rfl, rfl, hw⟩ := hrel
      subst hw
      have hvl := valP_lt ((tl.take K).take i) (fun x hx => HBY.out x (List.mem_cons_of_mem _ (List.mem_of_mem_take (List.mem_of_mem_take hx))))
      rw [List.length_take, HL3.out, Nat.min_eq_left hi] at hvl
      have hvb : valP ((tl.take K).take i) < 256 ^ i := hvl
      have HVB := Lib.hid hvb
      clear hvb hvl
      by_cases hlt : i < K
      · have hi3 : i < (tl.take K).length := by rw [HL3.out]; exact hlt
        obtain ⟨g3, o3, rfl, _, hc3⟩ := Y3.out.at_ hi3
        have hxb := Y3.out.bd (tl.take K)[i] (List.getElem_mem _)
        have e1 : (tl.take K).take (i + 1) = (tl.take K).take i ++ [(tl.take K)[i]] := List.take_succ_eq_append_getElem hi3
        have e2 : i = 0 → tl.headD 1 = (tl.take K)[i] := fun e => by
          subst e
          cases tl with
          | nil => simp at hi3
          | cons a r => simp
        obtain ⟨x, hx⟩ : ∃ x, (tl.take K)[i] = x := ⟨_, rfl⟩
        rw [hx] at hc3 hxb e1 e2
        obtain ⟨X, rfl⟩ : ∃ X : Nat, x = X := ⟨x.toNat, by omega⟩
        obtain ⟨v, hv⟩ : ∃ v, valP ((tl.take K).take i) = v := ⟨_, rfl⟩
        rw [hv] at HVB ⊢
        have h7 : i ≤ 7 := by omega
        have hv56 : v < 72057594037927936 := Nat.lt_of_lt_of_le HVB.out (by
          have := Nat.pow_le_pow_right (n := 256) (by omega) h7
          simpa using this)
        have hXb : X ≤ 255 := by omega
        have horl : bits .or .u64 ((v : Int) * 256) (X : Int) = ((v * 256 + X : Nat) : Int) := by
          have e := or_low v X (by omega) (by omega)
          rwa [Int.natCast_mul] at e
        have hval : valP ((tl.take K).take (i + 1)) = v * 256 + X := by rw [e1, valP_snoc, hv, Int.toNat_natCast]
        have hno0 := HNO.out
        have hX0' : i = 0 → X ≠ 0 := fun e e' => by
          have e3 := e2 e
          rw [e'] at e3
          exact hno0 (.inr (.inr (.inl ⟨by omega, e3⟩)))
        have HVAL := Lib.hid hval
        have HE2 := Lib.hid e2
        clear hval e2 hx hxb hi3 hv e1 hno0
        by_cases h0 : i = 0
        · subst h0
          have hX0 : ((X : Int) == 0) = false := by have := hX0' rfl; simp; omega
          simp only [Nat.add_zero] at hc3
          clear hX0'
          go_wp2_with fail
          go_roundw
          case rel => exact ⟨1, by omega, by go_num, by rw [HVAL.out]; go_num, by first | rfl | trivial⟩
          case measure => simp [intOf]; omega
        · have hi0 : ((i : Int) == 0) = false := by simp; omega
          clear hX0'
          go_wp2_with fail
          go_roundw
          case rel => exact ⟨i + 1, by omega, by go_num, by rw [HVAL.out]; go_num, by first | rfl | trivial⟩
          case measure => simp [intOf]; omega
      · obtain rfl : i = K := by omega
        have ht : (tl.take i).take i = tl.take i := by rw [List.take_take, Nat.min_self]
        rw [ht, HV.out] at HVB
        rw [ht, HV.out]
        have hbi : (val : Int) ≤ (most : Int) := by
          have := HNO.out
          rw [HV.out] at this
          omega
        clear ht
        go_wp2_with fail
        go_ret
        refine ⟨rfl, ?_, F2.out⟩
        rw [← HREST.out]
        exact H4.out

set_option maxHeartbeats 4000000 in
theorem etextS_ok (p s : Nat) (l : List Int) (most : Nat) (x r : List Int) (hm : most ≤ 400000000) (hl : l.length ≤ 400000000) (w : World) (h : IsEyeS w p s l) (hR : takeTextP most l = some (x, r)) :
    Calls Tryz.prog 110 #[.pointer (some ⟨p, 0, none⟩), .int .i64 (most : Int)] w fun e w' => (∃ v, e = .returned v ∧ Own8 w.heap.size w' v x) ∧ IsEyeS w' p s r ∧ Fr (fun k => k = p) w w' := by
  have hmx : (0 : Int) ≤ (most : Int) := by omega
  unfold takeTextP at hR
  cases hN : takeNumP most l with
  | none => rw [hN] at hR; cases hR
  | some vr =>
    obtain ⟨v, q⟩ := vr
    obtain ⟨hv, hrl⟩ := takeNumP_le hN
    rw [hN] at hR
    simp only at hR
    split at hR
    · cases hR
    rename_i hfew
    simp only [Option.some.injEq, Prod.mk.injEq] at hR
    obtain ⟨rfl, rfl⟩ := hR
    have hen := enumS_ok p s l most v q (by omega) (by omega) w h hN
    clear h hN
    go_enter Tryz.func110, Tryz.ntmps110
    go_wp2_with fail
    with_reducible refine hen.mono ?_
    rintro e w1 ⟨rfl, h2, f1⟩
    have ht := takeS_ok p s q v (by omega) (by omega) w1 h2
    have F1 := Lib.hid f1
    clear f1 h2 hen
    go_wp2_with fail
    with_reducible refine ht.mono ?_
    rintro e w2 ⟨⟨A3, rfl, y3⟩, h4, f2⟩
    have hl3 : (q.take v).length = v := by rw [List.length_take]; omega
    have hc3 : A3 = none → v = 0 := by
      rintro rfl
      rcases Nat.eq_zero_or_pos v with h0 | h0
      · exact h0
      · obtain ⟨g, o, e, _⟩ := y3.cell (by omega)
        cases e
    have hcl := clone_any A3 v hc3 (q.take v) w2 y3 (by omega)
    rw [hl3] at hcl
    have HCL := Lib.hid hcl
    have H4 := Lib.hid h4
    have F2 := Lib.hid (F1.out.trans f2 (fun _ _ h => h))
    clear hcl h4 ht y3 hl3 hc3 f2
    have hsz := F2.out.size
    have HSZ := Lib.hid hsz
    clear hsz
    go_wp2_with fail
    with_reducible refine HCL.out.mono ?_
    rintro e w3 ⟨u, rfl, ho, hb⟩
    have HO := Lib.hid ho
    have HB := Lib.hid hb
    clear ho hb
    go_wp2_with fail
    go_ret
    obtain ⟨A4, c4, he4, hs4⟩ := H4.out
    exact ⟨⟨u, rfl, HO.out.base HSZ.out⟩, ⟨A4, c4, he4.below HB.out, hs4⟩, F2.out.trans (Fr.of_below HB.out) (fun k hk h => by have := F2.out.size; omega)⟩

/-- A new variable, and a store of it. -/
theorem alstY {P : Program} {t : TypeId} {n : Nat} (hi : (P.info? t).map (·.size) = some n) (hz : (((P.info? t).bind (·.zero)).map (·.cells.size)) = some n) :
    ∃ Z : Array Value, (∀ W : World, (ALs t).run P W = .ok (.pointer (some ⟨W.heap.size, 0, none⟩)) (W.alloc (.cells Z t))) ∧
      (∀ (W : World) (xs : List Value), xs.length = n → (∀ v ∈ xs, v.oneCell' = true) → (STs t (.pointer (some ⟨W.heap.size, 0, none⟩)) (.agg xs.toArray)).run P (W.alloc (.cells Z t)) = .ok () (W.alloc (.cells xs.toArray t))) ∧ Z.size = n := by
  obtain ⟨z, h1, h2⟩ := Option.map_eq_some_iff.1 hz
  exact ⟨z.cells, fun W => ALs_new z h1 W, fun W xs hl h1 => STs_new hi W _ h2 xs hl h1, h2⟩
theorem z123Y : (((Tryz.prog.info? 48).bind (·.zero)).map (·.cells.size)) = some 32 := by kernel_rfl
theorem u123Y : (Tryz.prog.underlying 48).map isAggD = some true := by kernel_rfl
attribute [local go_sem ↓] ld123 st123 al123

set_option maxHeartbeats 4000000 in
theorem eidS_ok (p s : Nat) (l : List Int) (h32 : 32 ≤ l.length) (hl : l.length ≤ 1000000000) (w : World) (h : IsEyeS w p s l) (hp : p < w.heap.size) (hs : s < w.heap.size) :
    Calls Tryz.prog 109 #[.pointer (some ⟨p, 0, none⟩)] w fun e w' => e = .returned (.agg (bys (l.take 32)).toArray) ∧ IsEyeS w' p s (l.drop 32) ∧ Fr (fun k => k = p) w w' := by
  obtain ⟨Z, hal, _, hZ⟩ := alstY (P := Tryz.prog) (t := 48) i123 z123Y
  have hal0 := hal w
  have b0 := Blk.new w 48 Z
  have B0 : Below w.heap.size w (w.alloc (.cells Z 48)) := (Below.refl _ w).alloc (Nat.le_refl _) _
  obtain ⟨W, hW⟩ : ∃ W, w.alloc (.cells Z 48) = W := ⟨_, rfl⟩
  obtain ⟨g, hg⟩ : ∃ g, w.heap.size = g := ⟨_, rfl⟩
  rw [hW] at B0
  rw [hW, hg] at b0 hal0
  have h0 := h.fr (Fr.of_below B0) (show ¬ _ ≤ _ by omega) (show ¬ _ ≤ _ by omega)
  have hpg := h0.far b0 (by decide)
  have ht := takeS_ok p s l 32 h32 hl W h0
  rw [show ((32 : Nat) : Int) = 32 from rfl] at ht
  have hlen : (l.take 32).length = 32 := by rw [List.length_take]; omega
  have f0 : Fr (fun k => k = p) w W := (Fr.of_below B0).mono (fun k hk h => by omega)
  obtain ⟨T, hT⟩ : ∃ T, l.take 32 = T := ⟨_, rfl⟩
  rw [hT] at ht hlen ⊢
  have HW := Lib.hid hW
  have HG := Lib.hid hg
  have HB0 := Lib.hid b0
  have HPG := Lib.hid hpg
  have HF0 := Lib.hid f0
  have HZ := Lib.hid hZ
  clear hW hg b0 hpg f0 hZ hT h h0 B0 hal
  go_enter Tryz.func109, Tryz.ntmps109
  go_upto_region 1 with fail
  clear hal0
  go_wp2_with fail
  with_reducible refine ht.mono ?_
  rintro e w1 ⟨⟨A1, rfl, y1⟩, h2, f1⟩
  obtain ⟨g1, o, rfl, hg1, hc⟩ := y1.cell (by omega)
  have haa := run_arrayAt (P := Tryz.prog) (t := 48) u123 (some ⟨g1, o, none⟩) 32 32 (Nat.le_refl _)
  have hbl : (bys T).length = 32 := by rw [bys_length]; exact hlen
  have hld := LDs_agg (P := Tryz.prog) u123Y i123 w1 g1 o (bys T) hbl (fun j v hv => by
    rw [bys_get] at hv
    obtain ⟨x, hx, rfl⟩ := Option.map_eq_some_iff.1 hv
    exact hc j x hx)
  have hb1 := HB0.out.fr f1 (fun e => HPG.out e.symm)
  have hst := STs_blk (P := Tryz.prog) (t := 48) i123 hb1 (off := 0) (bys T) hbl (by rw [HZ.out]; omega) (bys_one _)
  rw [splice_whole _ _ (by rw [hbl, HZ.out])] at hst
  have fs : Fr (fun k => k = g) w1 (w1.setRow g (bys T).toArray) := (Fr.refl (fun k => k = g) w1).setRow (g := g) (fun _ => rfl) _
  have h3 := h2.fr fs (show ¬ _ = _ from HPG.out) (show ¬ _ = _ by have := HG.out; omega)
  have f3 := (HF0.out.trans f1 (fun _ _ h => h)).trans fs (fun k hk e => by have := HG.out; omega)
  have H3 := Lib.hid h3
  have F3 := Lib.hid f3
  have HB1 := Lib.hid hb1
  have HBL := Lib.hid hbl
  clear h3 f3 hb1 hbl h2 f1 y1 hc hlen ht fs
  go_wp2_with fail
  refine bodyPost_ret (results_arr rfl _ _ g 48 (bys T) _ rfl (HB1.out.row_ _) u123 rfl (by rw [HBL.out]; exact i123)) rfl ?_
  exact ⟨rfl, H3.out, F3.out⟩

/-- What is behind the first i inputs in a right transaction's form. -/
def insRest (t : TxD) (i : Nat) : List Int := (t.ins.drop i).flatMap inF ++ (numP t.outs.length ++ (t.outs.flatMap outF ++ (numP t.fee.toNat ++ numP t.exp.toNat)))
def outsRest (t : TxD) (i : Nat) : List Int := (t.outs.drop i).flatMap outF ++ (numP t.fee.toNat ++ numP t.exp.toNat)
theorem formTx_rest (t : TxD) : formTx t = numP t.ins.length ++ insRest t 0 := by
  unfold formTx insRest
  simp only [List.append_assoc, List.drop_zero]
theorem insRest_step (t : TxD) {i : Nat} (h : i < t.ins.length) : insRest t i = inF t.ins[i] ++ insRest t (i + 1) := by
  unfold insRest
  rw [List.drop_eq_getElem_cons h, List.flatMap_cons, List.append_assoc]
theorem insRest_end (t : TxD) : insRest t t.ins.length = numP t.outs.length ++ outsRest t 0 := by
  unfold insRest outsRest
  rw [List.drop_length, List.drop_zero, List.flatMap_nil, List.nil_append]
theorem outsRest_step (t : TxD) {i : Nat} (h : i < t.outs.length) : outsRest t i = outF t.outs[i] ++ outsRest t (i + 1) := by
  unfold outsRest
  rw [List.drop_eq_getElem_cons h, List.flatMap_cons, List.append_assoc]
theorem outsRest_end (t : TxD) : outsRest t t.outs.length = numP t.fee.toNat ++ (numP t.exp.toNat ++ []) := by
  unfold outsRest
  rw [List.drop_length, List.flatMap_nil, List.nil_append, List.append_nil]
theorem insRest_le (t : TxD) (i : Nat) : (insRest t i).length ≤ (formTx t).length := by
  have h : ((t.ins.drop i).flatMap inF).length ≤ (t.ins.flatMap inF).length := by
    have e : t.ins.flatMap inF = (t.ins.take i).flatMap inF ++ (t.ins.drop i).flatMap inF := by rw [← List.flatMap_append, List.take_append_drop]
    rw [e, List.length_append]
    omega
  rw [formTx_rest]
  unfold insRest
  simp only [List.length_append, List.drop_zero]
  omega
theorem outsRest_le (t : TxD) (i : Nat) : (outsRest t i).length ≤ (formTx t).length := by
  have h : ((t.outs.drop i).flatMap outF).length ≤ (t.outs.flatMap outF).length := by
    have e : t.outs.flatMap outF = (t.outs.take i).flatMap outF ++ (t.outs.drop i).flatMap outF := by rw [← List.flatMap_append, List.take_append_drop]
    rw [e, List.length_append]
    omega
  rw [formTx_rest]
  unfold insRest outsRest
  simp only [List.length_append, List.drop_zero]
  omega
end Go.Proofs.YtdkanehjahpehaaGreatDoor
end

section
namespace Go.Proofs.YtdkanehjahpehaaGreatDoor
open Go.RowKit Go.Shelf
set_option maxRecDepth 100000

theorem bdIn_ofY (parts : Array (Nat × Value)) : Instr.build 77 parts = BDs 77 parts := rfl
theorem bdOut_ofY (parts : Array (Nat × Value)) : Instr.build 80 parts = BDs 80 parts := rfl
theorem bsIn_ofY (n : Nat) (parts : Array (Nat × Value)) : Instr.buildSlice 22 n parts = BSs 22 n parts := rfl
theorem bsOut_ofY (n : Nat) (parts : Array (Nat × Value)) : Instr.buildSlice 23 n parts = BSs 23 n parts := rfl
theorem uInSY : Tryz.prog.underlying 22 = some (.slice 77) := by kernel_rfl
theorem uOutSY : Tryz.prog.underlying 23 = some (.slice 80) := by kernel_rfl
theorem iInZY : (Tryz.prog.info? 77).map (fun i => (i.zero.map (·.cells.size), i.size)) = some (some 35, 35) := by kernel_rfl
theorem iOutZY : (Tryz.prog.info? 80).map (fun i => (i.zero.map (·.cells.size), i.size)) = some (some 33, 33) := by kernel_rfl
theorem plPtY : placesOf Tryz.prog 75 = some [(0, 32), (32, 1)] := by kernel_rfl
theorem zlPtY : (((Tryz.prog.info? 75).bind (·.zero)).map (·.cells.toList)) = some (ptL (List.replicate 32 0) 0) := by kernel_rfl
theorem bdPt_ofY (parts : Array (Nat × Value)) : Instr.build 75 parts = BDs 75 parts := rfl
theorem bdPtY {tx : List Int} (hl : tx.length = 32) (ix : Int) (w : World) : (BDs 75 #[(0, .agg (bys tx).toArray), (1, .int .i64 ix)]).run Tryz.prog w = .ok (.agg (ptL tx ix).toArray) w := by
  refine BDs_list plPtY zlPtY _ _ ?_ w
  rw [fillL_cons (off := 0) (size := 32) rfl (by simp [Value.cells, bys_length, hl]) (by simp [ptL, bys_length])]
  have e1 : (ptL (List.replicate 32 0) 0).take 0 ++ (Value.agg (bys tx).toArray).cells.toList ++ (ptL (List.replicate 32 0) 0).drop (0 + 32) = ptL tx 0 := by
    unfold ptL
    simp [Value.cells, bys_length]
  rw [e1, fillL_cons (off := 32) (size := 1) rfl rfl (by simp [ptL, bys_length, hl]), fillL_nil]
  congr 1
  unfold ptL
  simp [Value.cells, bys_length, hl, List.drop_append]
theorem plInY : placesOf Tryz.prog 77 = some [(0, 33), (33, 1), (34, 1)] := by kernel_rfl
theorem zlInY : (((Tryz.prog.info? 77).bind (·.zero)).map (·.cells.toList)) = some (inV ⟨List.replicate 32 0, 0, 0, []⟩ none 0) := by kernel_rfl
theorem plOutY : placesOf Tryz.prog 80 = some [(0, 32), (32, 1)] := by kernel_rfl
theorem zlOutY : (((Tryz.prog.info? 80).bind (·.zero)).map (·.cells.toList)) = some (outV ⟨List.replicate 32 0, 0⟩) := by kernel_rfl
/-- An input of a point alone. -/
theorem bdIn_pt {tx : List Int} (hl : tx.length = 32) (ix : Int) (w : World) : (BDs 77 #[(0, .agg (ptL tx ix).toArray)]).run Tryz.prog w = .ok (.agg (inV ⟨tx, ix, 0, []⟩ none 0).toArray) w := by
  refine BDs_list plInY zlInY _ _ ?_ w
  rw [fillL_cons (off := 0) (size := 33) rfl (by simp [Value.cells, ptL_len hl]) (by simp [inV, ptL, bys_length]), fillL_nil]
  rfl
theorem bdIn_am {tx : List Int} (hl : tx.length = 32) (ix am : Int) (w : World) : (BDs 77 #[(0, .agg (ptL tx ix).toArray), (1, .int .u64 am)]).run Tryz.prog w = .ok (.agg (inV ⟨tx, ix, am, []⟩ none 0).toArray) w := by
  refine BDs_list plInY zlInY _ _ ?_ w
  rw [fillL_cons (off := 0) (size := 33) rfl (by simp [Value.cells, ptL_len hl]) (by simp [inV, ptL, bys_length])]
  have e1 : (inV ⟨List.replicate 32 0, 0, 0, []⟩ none 0).take 0 ++ (Value.agg (ptL tx ix).toArray).cells.toList ++ (inV ⟨List.replicate 32 0, 0, 0, []⟩ none 0).drop (0 + 33) = inV ⟨tx, ix, 0, []⟩ none 0 := by
    unfold inV
    simp [Value.cells, ptL, bys_length, List.drop_append]
  rw [e1, fillL_cons (off := 33) (size := 1) rfl rfl (by simp [inV, ptL, bys_length, hl]), fillL_nil]
  congr 1
  unfold inV
  have h1 : (bys tx).take 33 = bys tx := List.take_of_length_le (by rw [bys_length]; omega)
  have h2 : (bys tx).drop 34 = [] := List.drop_of_length_le (by rw [bys_length]; omega)
  simp [Value.cells, ptL, bys_length, hl, List.drop_append, List.take_append, h1, h2]
theorem bdOut_ow {ow : List Int} (hl : ow.length = 32) (w : World) : (BDs 80 #[(0, .agg (bys ow).toArray)]).run Tryz.prog w = .ok (.agg (outV ⟨ow, 0⟩).toArray) w := by
  refine BDs_list plOutY zlOutY _ _ ?_ w
  rw [fillL_cons (off := 0) (size := 32) rfl (by simp [Value.cells, bys_length, hl]) (by simp [outV, bys_length]), fillL_nil]
  rfl
theorem inV_set33 {tx : List Int} (hl : tx.length = 32) (ix am : Int) : (inV ⟨tx, ix, 0, []⟩ none 0).toArray.setIfInBounds 33 (.int .u64 am) = (inV ⟨tx, ix, am, []⟩ none 0).toArray := by
  unfold inV
  apply Array.ext'
  simp [ptL, bys_length, hl]
theorem inV_set34 {tx : List Int} (hl : tx.length = 32) (ix am : Int) (sec : List Int) (A : Option Addr) (c : Nat) : (inV ⟨tx, ix, am, []⟩ none 0).toArray.setIfInBounds 34 (.slice A sec.length c) = (inV ⟨tx, ix, am, sec⟩ A c).toArray := by
  unfold inV
  apply Array.ext'
  simp [ptL, bys_length, hl]
theorem outV_set32 {ow : List Int} (hl : ow.length = 32) (am : Int) : (outV ⟨ow, 0⟩).toArray.setIfInBounds 32 (.int .u64 am) = (outV ⟨ow, am⟩).toArray := by
  unfold outV
  apply Array.ext'
  simp [bys_length, hl]
theorem iInR : (Tryz.prog.info? 77).map (fun i => (i.zero.map (·.cells.size), i.size, i.bytes)) = some (some 35, 35, 72) := by kernel_rfl
theorem iOutR : (Tryz.prog.info? 80).map (fun i => (i.zero.map (·.cells.size), i.size, i.bytes)) = some (some 33, 33, 40) := by kernel_rfl
theorem apIn_ofY (xs : Array Value) (t : TypeId) : Builtin.append_ #[22, 22] t xs = APs #[22, 22] t xs := rfl
theorem apOut_ofY (xs : Array Value) (t : TypeId) : Builtin.append_ #[23, 23] t xs = APs #[23, 23] t xs := rfl
theorem LDs_allY {P : Program} {t : TypeId} {n : Nat} (hu : (P.underlying t).map isAggD = some true) (hi : (P.info? t).map (·.size) = some n) {w : World} {g : Nat} {e : TypeId} (xs : List Value) (hb : Blk w g e xs.toArray) (hl : xs.length = n) :
    (LDs t (.pointer (some ⟨g, 0, none⟩))).run P w = .ok (.agg xs.toArray) w := LDs_aggB hu hi hb (off := 0) xs hl (by simp [List.take_of_length_le, hl])
theorem ldTx_ofY (v : Value) : Instr.loadAt 26 v = LDs 26 v := rfl
theorem uTxY : (Tryz.prog.underlying 26).map isAggD = some true := by kernel_rfl
theorem iTxY : (Tryz.prog.info? 26).map (·.size) = some 4 := by kernel_rfl
theorem stTx_ofY (v x : Value) : Instr.storeAt 26 v x = STs 26 v x := rfl
theorem alTx_ofY : Instr.alloc 26 true (.tuple #[]) = ALs 26 := rfl
theorem alTxY (w : World) : (ALs 26).run Tryz.prog w = .ok (.pointer (some ⟨w.heap.size, 0, none⟩)) (w.alloc (.cells #[.slice none 0 0, .slice none 0 0, .int .u64 0, .int .i64 0] 26)) := ALs_new (.agg #[.slice none 0 0, .slice none 0 0, .int .u64 0, .int .i64 0]) (by kernel_rfl) w

/-- The records R (they lie in v) are these inputs; their secrets lie elsewhere, in blocks from b on. -/
structure InRow (b : Nat) (w : World) (v : Value) (R : List (List Value)) (L : List InD) : Prop where
  len : R.length = L.length
  at_ : ∀ j (h : j < L.length), ∃ B cap, R[j]? = some (inV L[j] B cap) ∧ Byt w B L[j].sec ∧ L[j].sec.length ≤ cap ∧ (B = none → cap = 0) ∧ L[j].sec.length ≤ 64 ∧ ∀ a, B = some a → b ≤ a.block ∧ a.block < w.heap.size ∧ v.ownBlock ≠ some a.block
theorem InRow.nil (b : Nat) (w : World) (v : Value) : InRow b w v [] [] := ⟨rfl, fun j h => absurd h (by simp)⟩
theorem InRow.fr {b : Nat} {w w' : World} {v : Value} {R : List (List Value)} {L : List InD} {F : Nat → Prop} (h : InRow b w v R L) (hf : Fr F w w') (hn : ∀ k, b ≤ k → k < w.heap.size → ¬ F k) : InRow b w' v R L := ⟨h.len, fun j hj => by
  obtain ⟨B, cap, h1, h2, h3, h4, h5, h6⟩ := h.at_ j hj
  exact ⟨B, cap, h1, h2.fr hf (fun a ha _ => hn _ (h6 a ha).1 (h6 a ha).2.1), h3, h4, h5, fun a ha => ⟨(h6 a ha).1, Nat.lt_of_lt_of_le (h6 a ha).2.1 hf.size, (h6 a ha).2.2⟩⟩⟩
theorem InRow.below {b : Nat} {w w' : World} {v : Value} {R : List (List Value)} {L : List InD} (h : InRow b w v R L) (hb : Below w.heap.size w w') : InRow b w' v R L := ⟨h.len, fun j hj => by
  obtain ⟨B, cap, h1, h2, h3, h4, h5, h6⟩ := h.at_ j hj
  exact ⟨B, cap, h1, h2.below hb, h3, h4, h5, fun a ha => ⟨(h6 a ha).1, Nat.lt_of_lt_of_le (h6 a ha).2.1 hb.size, (h6 a ha).2.2⟩⟩⟩
theorem InRow.grow {b : Nat} {w w' : World} {v v' : Value} {R : List (List Value)} {L : List InD} (h : InRow b w v R L) (hf : Fr (fun k => v.ownBlock = some k) w w') (ht : Foot w v v') : InRow b w' v' R L := ⟨h.len, fun j hj => by
  obtain ⟨B, cap, h1, h2, h3, h4, h5, h6⟩ := h.at_ j hj
  refine ⟨B, cap, h1, h2.fr hf (fun a ha _ e => (h6 a ha).2.2 e), h3, h4, h5, fun a ha => ⟨(h6 a ha).1, Nat.lt_of_lt_of_le (h6 a ha).2.1 hf.size, fun e => ?_⟩⟩
  rcases ht _ e with h7 | h7
  · exact (h6 a ha).2.2 h7
  · have := (h6 a ha).2.1; omega⟩
theorem InRow.snoc {b : Nat} {w : World} {v : Value} {R : List (List Value)} {L : List InD} (h : InRow b w v R L) {i : InD} {B : Option Addr} {cap : Nat} (hP : Byt w B i.sec) (hcap : i.sec.length ≤ cap) (hn : B = none → cap = 0) (hs : i.sec.length ≤ 64) (hfar : ∀ a, B = some a → b ≤ a.block ∧ a.block < w.heap.size ∧ v.ownBlock ≠ some a.block) : InRow b w v (R ++ [inV i B cap]) (L ++ [i]) := by
  have hl := h.len
  refine ⟨by simp [hl], fun j hj => ?_⟩
  by_cases hjl : j < L.length
  · obtain ⟨B', cap', h1, h2, h3, h4, h5, h6⟩ := h.at_ j hjl
    rw [List.getElem_append_left hjl, List.getElem?_append_left (by omega)]
    exact ⟨B', cap', h1, h2, h3, h4, h5, h6⟩
  · obtain rfl : j = L.length := by simp at hj; omega
    refine ⟨B, cap, ?_, ?_, ?_, hn, ?_, hfar⟩
    · rw [List.getElem?_append_right (by omega)]; simp [hl]
    · simpa using hP
    · simpa using hcap
    · simpa using hs
/-- So they lie. -/
theorem InRow.ins {b : Nat} {w : World} {v : Value} {A : Option Addr} {R : List (List Value)} {L : List InD} (h : InRow b w v R L) (hr : RdR 35 w A R) : InsAt w A L := fun j hj => by
  obtain ⟨B, cap, h1, h2, h3, h4, h5, _⟩ := h.at_ j hj
  obtain ⟨hjr, h1e⟩ := List.getElem?_eq_some_iff.1 h1
  obtain ⟨g, off, e, hg, hc⟩ := hr j hjr
  exact ⟨g, off, B, cap, e, hg, ⟨fun k x hx => hc k x (by rw [h1e]; exact hx), h2, h3, h4, by unfold maxLen; omega⟩⟩
theorem outs_of {w : World} {A : Option Addr} {L : List OutD} (hr : RdR 33 w A (L.map outV)) : OutsAt w A L := fun j hj => by
  obtain ⟨g, off, e, hg, hc⟩ := hr j (by simpa using hj)
  exact ⟨g, off, e, hg, fun k x hx => hc k x (by simpa using hx)⟩
/-- Two rows of one's own, of unlike types. -/
theorem own_apart {w : World} {b b' : Nat} {e e' : TypeId} {m m' n n' : Nat} {v v' : Value} {xs xs' : List Value} (h : w.ownsRow b e m v n xs) (h' : w.ownsRow b' e' m' v' n' xs') (hne : e ≠ e') {k : Nat} (hk : v.ownBlock = some k) : v'.ownBlock ≠ some k := by
  obtain ⟨cs, hb, _⟩ := own_blk h hk
  exact own_ne h' hb (fun e => hne e.symm)
/-- A transaction whose parts lie in blocks from b on. -/
def TxFar (b : Nat) (w : World) (A1 A2 : Option Addr) (t : TxD) : Prop := ∀ (F : Nat → Prop) (w' : World), Fr F w w' → (∀ k, b ≤ k → ¬ F k) → TxAt w' A1 A2 t
theorem TxFar.at_ {b : Nat} {w : World} {A1 A2 : Option Addr} {t : TxD} (h : TxFar b w A1 A2 t) : TxAt w A1 A2 t := h (fun _ => False) w (Fr.refl _ _) (fun _ _ => id)
theorem TxFar.fr {b : Nat} {w w' : World} {A1 A2 : Option Addr} {t : TxD} {F : Nat → Prop} (h : TxFar b w A1 A2 t) (hf : Fr F w w') (hn : ∀ k, b ≤ k → ¬ F k) : TxFar b w' A1 A2 t := fun G w2 hg hG =>
  h (fun k => F k ∨ G k) w2 ((hf.mono (fun _ _ h => .inl h)).trans (hg.mono (G := fun k => F k ∨ G k) (fun _ _ h => .inr h)) (fun _ _ h => h)) (fun k hk e => e.elim (hn k hk) (hG k hk))
theorem TxFar.base {b b' : Nat} {w : World} {A1 A2 : Option Addr} {t : TxD} (h : TxFar b w A1 A2 t) (hb : b' ≤ b) : TxFar b' w A1 A2 t := fun F w' hf hn => h F w' hf (fun k hk => hn k (Nat.le_trans hb hk))
theorem TxFar.below {b : Nat} {w w' : World} {A1 A2 : Option Addr} {t : TxD} (h : TxFar b w A1 A2 t) (hb : Below w.heap.size w w') : TxFar b w' A1 A2 t := fun F w2 hf hn =>
  h F w2 (((Fr.of_below hb).mono (G := F) (fun k hk e => absurd e (by omega))).trans hf (fun _ _ h => h)) hn
theorem TxFar.of {b : Nat} {w : World} {v u : Value} {R : List (List Value)} {t : TxD} (h1 : OwnR 77 35 b w v R) (h2 : InRow b w v R t.ins) (h3 : OwnR 80 33 b w u (t.outs.map outV)) (hb : t.Bd) :
    ∃ A1 c1 A2 c2, v = .slice A1 t.ins.length c1 ∧ u = .slice A2 t.outs.length c2 ∧ TxFar b w A1 A2 t := by
  obtain ⟨A1, c1, e1, _⟩ := h1.rd
  obtain ⟨A2, c2, e2, _⟩ := h3.rd
  rw [h2.len] at e1
  rw [List.length_map] at e2
  refine ⟨A1, c1, A2, c2, e1, e2, fun F w' hf hn => ?_⟩
  have h1' := h1.fr hf (fun k hk => hn k (h1.lt hk).1)
  have h3' := h3.fr hf (fun k hk => hn k (h3.lt hk).1)
  have h2' := h2.fr hf (fun k hk _ => hn k hk)
  obtain ⟨B1, d1, e1', r1, _⟩ := h1'.rd
  obtain ⟨B2, d2, e2', r2, _⟩ := h3'.rd
  rw [e1] at e1'
  rw [e2] at e2'
  injection e1' with e1'
  injection e2' with e2'
  subst e1' e2'
  exact ⟨h2'.ins r1, outs_of r2, hb⟩
end Go.Proofs.YtdkanehjahpehaaGreatDoor
end

section
namespace Go.Proofs.YtdkanehjahpehaaGreatDoor
open Go.RowKit Go.Shelf
set_option maxRecDepth 100000
attribute [local go_sem ↓] ld123 ldIn_of stIn_of alIn_of ldOut_of stOut_of alOut_of bdIn_ofY bdOut_ofY bdPt_ofY bsIn_ofY bsOut_ofY apIn_ofY apOut_ofY ldTx_ofY stTx_ofY alTx_ofY

/-- What an input's form is, part by part. -/
theorem in_parts {i : InD} (hb : i.Bd) (hs : i.sec.length ≤ 64) (hx : 0 ≤ i.ix ∧ i.ix ≤ 15) (r : List Int) : ∃ r1 r2 r3, inF i ++ r = i.tx ++ r1 ∧ (∃ X A : Nat, i.ix = (X : Int) ∧ X ≤ 15 ∧ i.am = (A : Int) ∧ A ≤ 18446744073709551615 ∧ takeNumP 15 r1 = some (X, r2) ∧ takeNumP 18446744073709551615 r2 = some (A, r3)) ∧ takeTextP 64 r3 = some (i.sec, r) := by
  obtain ⟨X, hX⟩ : ∃ X : Nat, i.ix = (X : Int) := ⟨i.ix.toNat, by omega⟩
  obtain ⟨A, hA⟩ : ∃ A : Nat, i.am = (A : Int) := ⟨i.am.toNat, by have := hb.am; omega⟩
  have hA2 := hb.am
  refine ⟨numP X ++ (numP A ++ (numP i.sec.length ++ (i.sec ++ r))), numP A ++ (numP i.sec.length ++ (i.sec ++ r)), numP i.sec.length ++ (i.sec ++ r), ?_, ⟨X, A, hX, by omega, hA, by omega, takeNumP_num _ (by omega) (by omega), takeNumP_num _ (by omega) (by omega)⟩, by have := takeTextP_text (most := 64) i.sec r hs (by omega); rwa [List.append_assoc] at this⟩
  unfold inF
  rw [hX, hA]
  simp only [List.append_assoc, Int.toNat_natCast]
theorem out_parts {o : OutD} (hb : o.Bd) (r : List Int) : ∃ r1, outF o ++ r = o.ow ++ r1 ∧ ∃ A : Nat, o.am = (A : Int) ∧ A ≤ 18446744073709551615 ∧ takeNumP 18446744073709551615 r1 = some (A, r) := by
  obtain ⟨A, hA⟩ : ∃ A : Nat, o.am = (A : Int) := ⟨o.am.toNat, by have := hb.am; omega⟩
  have hA2 := hb.am
  refine ⟨numP A ++ r, ?_, A, hA, by omega, takeNumP_num _ (by omega) (by omega)⟩
  unfold outF
  rw [hA]
  simp only [List.append_assoc, Int.toNat_natCast]

set_option maxHeartbeats 16000000 in
theorem look_ok (p s : Nat) (t : TxD) (hck : checkP t = 0) (hbd : t.Bd) (w : World) (h : IsEyeS w p s (formTx t)) (hp : p < w.heap.size) (hs : s < w.heap.size) :
    Calls Tryz.prog 68 #[.pointer (some ⟨p, 0, none⟩)] w fun e w' => ∃ A1 c1 A2 c2, e = .returned (.agg (txV A1 c1 A2 c2 t)) ∧ TxFar w.heap.size w' A1 A2 t ∧ IsEyeS w' p s [] ∧ Fr (fun k => k = p) w w' := by
  obtain ⟨hl1, _, _, _⟩ := checkP_ok hck
  have hfl := formTx_len hbd hl1
  obtain ⟨⟨hn1, hn16⟩, ⟨hm1, hm16⟩, hex, hsec⟩ := longP_not hl1
  have hir := fun i => Nat.le_trans (insRest_le t i) hfl
  have hor := fun i => Nat.le_trans (outsRest_le t i) hfl
  obtain ⟨n, hn⟩ : ∃ n, t.ins.length = n := ⟨_, rfl⟩
  obtain ⟨m, hm⟩ : ∃ m, t.outs.length = m := ⟨_, rfl⟩
  have hR0 : takeNumP 16 (formTx t) = some (n, insRest t 0) := by
    rw [formTx_rest, hn]
    exact takeNumP_num _ (by omega) (by omega)
  have hR1 : takeNumP 16 (insRest t n) = some (m, outsRest t 0) := by
    rw [← hn, insRest_end, hm]
    exact takeNumP_num _ (by omega) (by omega)
  obtain ⟨fe, hfe⟩ : ∃ x : Nat, t.fee = (x : Int) := ⟨t.fee.toNat, by have := hbd.fee; omega⟩
  obtain ⟨ex, hexx⟩ : ∃ x : Nat, t.exp = (x : Int) := ⟨t.exp.toNat, by omega⟩
  have hfb := hbd.fee
  have hR2 : takeNumP 18446744073709551615 (outsRest t m) = some (fe, numP ex ++ []) := by
    rw [← hm, outsRest_end, hfe, hexx]
    simp only [Int.toNat_natCast]
    exact takeNumP_num _ (by omega) (by omega)
  have hR3 : takeNumP 1099511627776 (numP ex ++ []) = some (ex, []) := takeNumP_num _ (by omega) (by omega)
  have hal := alTxY
  obtain ⟨Zi, hali, hsti, _⟩ := alstY (P := Tryz.prog) (t := 77) iIn zIn
  obtain ⟨Zo, halo, hsto, _⟩ := alstY (P := Tryz.prog) (t := 80) iOut zOut
  have b0 := Blk.new w 26 (#[.slice none 0 0, .slice none 0 0, .int .u64 0, .int .i64 0])
  have B0 : Below w.heap.size w (w.alloc (.cells (#[.slice none 0 0, .slice none 0 0, .int .u64 0, .int .i64 0]) 26)) := (Below.refl _ w).alloc (Nat.le_refl _) _
  obtain ⟨W, hW⟩ : ∃ W, w.alloc (.cells (#[.slice none 0 0, .slice none 0 0, .int .u64 0, .int .i64 0]) 26) = W := ⟨_, rfl⟩
  rw [hW] at b0 B0
  obtain ⟨g, hg⟩ : ∃ g, w.heap.size = g := ⟨_, rfl⟩
  rw [hg] at b0
  have hal0 := hal w
  rw [hW, hg] at hal0
  have f0 : Fr (fun k => k = p) w W := (Fr.of_below B0).mono (fun k hk h => by omega)
  have he0 := h.fr (Fr.of_below B0) (show ¬ _ ≤ _ by omega) (show ¬ _ ≤ _ by omega)
  have hpg := he0.far b0 (by decide)
  have hen := enumS_ok p s (formTx t) 16 n (insRest t 0) (by omega) (by omega) W he0 hR0
  rw [show ((16 : Nat) : Int) = 16 from rfl] at hen
  have hWs : w.heap.size ≤ W.heap.size := B0.size
  have hin := fun j (hj : j < t.ins.length) => in_parts (hbd.ins _ (List.getElem_mem hj)) (hsec _ (List.getElem_mem hj)).1 (hsec _ (List.getElem_mem hj)).2 (insRest t (j + 1))
  have hout := fun j (hj : j < t.outs.length) => out_parts (hbd.outs _ (List.getElem_mem hj)) (outsRest t (j + 1))
  have F0 := Lib.hid f0
  have HW := Lib.hid hW
  have HG := Lib.hid hg
  have HIR := Lib.hid hir
  have HOR := Lib.hid hor
  have HN := Lib.hid hn
  have HM := Lib.hid hm
  have HR1 := Lib.hid hR1
  have HR2 := Lib.hid hR2
  have HR3 := Lib.hid hR3
  have HFE := Lib.hid hfe
  have HEX := Lib.hid hexx
  have HBD := Lib.hid hbd
  have HIN := Lib.hid hin
  have HOUT := Lib.hid hout
  have HSEC := Lib.hid hsec
  have HBI := Lib.hid hsti
  have HBO := Lib.hid hsto
  have HB0 := Lib.hid b0
  have HPG := Lib.hid hpg
  have HWS := Lib.hid hWs
  clear f0 hW hg hir hor hn hm hR1 hR2 hR3 hfe hexx hbd hin hout hsec hsti hsto b0 hpg hWs h he0 B0 hR0 hck hfl hl1 hex hfb hal
  go_enter Tryz.func68, Tryz.ntmps68
  go_upto_region 1 with fail
  clear hal0
  go_wp2_with fail
  with_reducible refine hen.mono ?_
  rintro e w1 ⟨rfl, he1, f1⟩
  have HE1 := Lib.hid he1
  have F1 := Lib.hid ((F0.out.trans f1 (fun _ _ h => h)))
  clear he1 hen
  have hb1 := HB0.out.fr f1 (fun e => HPG.out e.symm)
  clear f1
  go_wp2_with fail
  go_loopg [3, 7] n (fun kk _ c wr => ∃ (j : Nat) (v : Value) (R : List (List Value)), j + kk = n ∧ c = .int .u64 (j : Int) ∧ OwnR 77 35 (g + 1) wr v R ∧ InRow (g + 1) wr v R (t.ins.take j) ∧ Blk wr g 26 #[v, .slice none 0 0, .int .u64 0, .int .i64 0] ∧ IsEyeS wr p s (insRest t j) ∧ Fr (fun k => k = p) w wr)
  case atStart => exact ⟨0, .slice none 0 0, [], by omega, rfl, OwnR.nil _ _ _ _, InRow.nil _ _ _, hb1, HE1.out, F1.out⟩
  case round =>
    obtain ⟨j, v, R, hj, rfl, hOwn, hRow, hB, hE, hF⟩ := hrel
    clear hb1
    by_cases hlt : j < n
    · have hltI : (j : Int) < (n : Int) := by omega
      have hjl : j < t.ins.length := by rw [HN.out]; exact hlt
      obtain ⟨r1, r2, r3, hi0, ⟨X, A, hX, hX15, hA, hAm, hT1, hT2⟩, hT3⟩ := HIN.out j hjl
      have hstep := insRest_step t hjl
      have hbi := HBD.out.ins _ (List.getElem_mem hjl)
      have hsl := (HSEC.out _ (List.getElem_mem hjl)).1
      have htk : t.ins.take (j + 1) = t.ins.take j ++ [t.ins[j]] := List.take_succ_eq_append_getElem hjl
      obtain ⟨i, hi⟩ : ∃ i, t.ins[j] = i := ⟨_, rfl⟩
      rw [hi] at hi0 hX hA hT3 hstep hbi hsl htk
      rw [hi0] at hstep
      have hlen := HIR.out j
      rw [hstep] at hE hlen
      have htx := hbi.len
      have hr1 : r1.length ≤ 2660 := by rw [List.length_append] at hlen; omega
      have hr2 := (takeNumP_le hT1).2
      have hr3 := (takeNumP_le hT2).2
      have hgw := hB.lt
      have hWr : w.heap.size ≤ wr.heap.size := hF.size
      have hid := eidS_ok p s (i.tx ++ r1) (by rw [List.length_append]; omega) (by rw [List.length_append]; omega) wr hE (by omega) (by omega)
      rw [List.take_left' htx, List.drop_left' htx] at hid
      have hbp := fun W => bdPtY htx (X : Int) W
      have hbin := fun W => bdIn_pt htx (X : Int) W
      have hinl : (inV ⟨i.tx, (X : Int), 0, []⟩ none 0).length = 35 := by simp [inV, ptL_len htx]
      have hin1 := inV_one ⟨i.tx, (X : Int), 0, []⟩ none 0
      have h33 := inV_set33 htx (X : Int) (A : Int)
      have h34 := inV_set34 htx (X : Int) (A : Int) i.sec
      have hc33 : (inV ⟨i.tx, (X : Int), 0, []⟩ none 0).toArray[33]? = some (.int .u64 0) := by
        unfold inV
        simp [ptL, bys_length, htx]
      have hc34 : (inV ⟨i.tx, (X : Int), (A : Int), []⟩ none 0).toArray[34]? = some (.slice none 0 0) := by
        unfold inV
        simp [ptL, bys_length, htx]
      have hei : i = ⟨i.tx, (X : Int), (A : Int), i.sec⟩ := by rw [← hX, ← hA]
      obtain ⟨iv, hiv⟩ : ∃ iv, inV ⟨i.tx, (X : Int), 0, []⟩ none 0 = iv := ⟨_, rfl⟩
      simp only [hiv] at hbin h33 hc33
      rw [hiv] at hinl hin1
      obtain ⟨pv, hpv⟩ : ∃ pv, (ptL i.tx (X : Int)).toArray = pv := ⟨_, rfl⟩
      simp only [hpv] at hbp hbin
      obtain ⟨tv, htv⟩ : ∃ tv, (bys i.tx).toArray = tv := ⟨_, rfl⟩
      simp only [htv] at hbp hid
      have HOWN := Lib.hid hOwn
      have HROW := Lib.hid hRow
      have HBB := Lib.hid hB
      have HF := Lib.hid hF
      have HT1 := Lib.hid hT1
      have HT2 := Lib.hid hT2
      have HT3 := Lib.hid hT3
      have H33 := Lib.hid h33
      have H34 := Lib.hid h34
      have HC33 := Lib.hid hc33
      have HC34 := Lib.hid hc34
      have HEI := Lib.hid hei
      have HIB := Lib.hid hbi
      have HSL := Lib.hid hsl
      have HTK := Lib.hid htk
      have HI1 := Lib.hid hin1
      have HIL := Lib.hid hinl
      have HWR := Lib.hid hWr
      have HTX := Lib.hid htx
      clear hOwn hRow hB hF hT1 hT2 hT3 h33 h34 hc33 hc34 hei hbi hsl htk hin1 hinl hWr htx hstep hlen hi0 hiv hpv htv hE hX hA hi
      go_wp2_with fail
      with_reducible refine hid.mono ?_
      rintro e w2 ⟨rfl, he2, f2⟩
      have hnum := enumS_ok p s r1 15 X r2 (by omega) (by omega) w2 he2 HT1.out
      rw [show ((15 : Nat) : Int) = 15 from rfl] at hnum
      have F2 := Lib.hid f2
      clear f2 hid he2
      go_wp2_with fail
      with_reducible refine hnum.mono ?_
      rintro e w3 ⟨rfl, he3, f3⟩
      have hal3 := hali w3
      have hst3 := HBI.out w3 iv HIL.out HI1.out
      have hF3 := F2.out.trans f3 (fun _ _ h => h)
      have b4 := Blk.new w3 77 (iv.toArray)
      have B4 : Below w3.heap.size w3 (w3.alloc (.cells (iv.toArray) 77)) := (Below.refl _ w3).alloc (Nat.le_refl _) _
      obtain ⟨w4, hw4⟩ : ∃ W, w3.alloc (.cells (iv.toArray) 77) = W := ⟨_, rfl⟩
      rw [hw4] at b4 B4
      obtain ⟨ib, hib0⟩ : ∃ ib, w3.heap.size = ib := ⟨_, rfl⟩
      rw [hib0] at b4
      have f4 := hF3.trans (Fr.of_below B4) (fun k hk h => by have := hF3.size; omega)
      have he4 : IsEyeS w4 p s r2 := he3.fr (Fr.of_below B4) (show ¬ _ ≤ _ by have := hF3.size; have := HWR.out; omega) (show ¬ _ ≤ _ by have := hF3.size; have := HWR.out; omega)
      have hpi := he4.far b4 (by decide)
      have hnum2 := enumS_ok p s r2 18446744073709551615 A r3 (by omega) (by omega) w4 he4 HT2.out
      rw [show ((18446744073709551615 : Nat) : Int) = 18446744073709551615 from rfl] at hnum2
      have hib := b4.lt
      have HW4 := Lib.hid hw4
      have HB4 := Lib.hid b4
      have HF4 := Lib.hid f4
      have HPI := Lib.hid hpi
      have HIBE := Lib.hid hib0
      have HF3 := Lib.hid hF3
      clear hw4 b4 f4 hpi hib0 hF3 hnum he3 B4 he4 f3
      go_upto_region 4 with fail
      rw [HW4.out, HIBE.out]
      clear hal3 hst3 hbp hbin
      go_wp2_with fail
      with_reducible refine hnum2.mono ?_
      rintro e w5 ⟨rfl, he5, f5⟩
      have b5 := HB4.out.fr f5 (fun e => HPI.out e.symm)
      have q33 : w5.cell? ⟨ib, 33, none⟩ = some (.int .u64 0) := (b5.cell 33).trans HC33.out
      have z33 := b5.frozen 33
      have b6 := b5.set_ 33 (.int .u64 (A : Int))
      rw [H33.out] at b6
      have fs : Fr (fun k => k = ib) w5 (w5.setCell ⟨ib, 33, none⟩ (.int .u64 (A : Int))) := (Fr.refl (fun k => k = ib) w5).setCell (p := ⟨ib, 33, none⟩) (fun _ => rfl) _
      have hibr : wr.heap.size ≤ ib := by rw [← HIBE.out]; exact HF3.out.size
      have f6 := (HF4.out.trans f5 (fun _ _ h => h)).trans fs (fun k hk e => by omega)
      have he6 := he5.fr fs (show ¬ _ = _ from HPI.out) (show ¬ _ = _ by have := HWR.out; omega)
      obtain ⟨w6, hw6⟩ : ∃ X, w5.setCell ⟨ib, 33, none⟩ (.int .u64 (A : Int)) = X := ⟨_, rfl⟩
      rw [hw6] at b6 f6 he6
      have htxt := etextS_ok p s r3 64 i.sec (insRest t (j + 1)) (by omega) (by omega) w6 he6 HT3.out
      rw [show ((64 : Nat) : Int) = 64 from rfl] at htxt
      have HW6 := Lib.hid hw6
      have HB6 := Lib.hid b6
      have HF6 := Lib.hid f6
      have HIBR := Lib.hid hibr
      clear hw6 b6 f6 hibr he5 f5 b5 fs he6 hnum2
      go_upto_region 5 with fail
      rw [HW6.out]
      clear q33 z33
      go_wp2_with fail
      with_reducible refine htxt.mono ?_
      rintro e w7 ⟨⟨u, rfl, ho⟩, he7, f7⟩
      obtain ⟨As, cs, hu, hyb, hAs, hcs⟩ := ho.byt HIB.out.sec
      subst hu
      have hls := fun k hk => ho.lt (k := k) hk
      have hnil : As = none → cs = 0 := by
        rintro rfl
        obtain ⟨_, ⟨e, _⟩ | ⟨g9, cap9, cur9, e, _⟩⟩ := ho
        · simp only [Value.slice.injEq] at e
          exact e.2.2
        · simp at e
      have b7 := HB6.out.fr f7 (fun e => HPI.out e.symm)
      have q34 : w7.cell? ⟨ib, 34, none⟩ = some (.slice none 0 0) := (b7.cell 34).trans HC34.out
      have z34 := b7.frozen 34
      have b8 := b7.set_ 34 (.slice As i.sec.length cs)
      rw [H34.out] at b8
      have fs : Fr (fun k => k = ib) w7 (w7.setCell ⟨ib, 34, none⟩ (.slice As i.sec.length cs)) := (Fr.refl (fun k => k = ib) w7).setCell (p := ⟨ib, 34, none⟩) (fun _ => rfl) _
      have hib6 := HB6.out.lt
      have hyb8 := hyb.fr fs (fun a ha _ => by have := hAs a ha; omega)
      have f8 := (HF6.out.trans f7 (fun _ _ h => h)).trans fs (fun k hk e => by have := HIBR.out; omega)
      have he8 := he7.fr fs (show ¬ _ = _ from HPI.out) (show ¬ _ = _ by have := HIBR.out; have := HWR.out; omega)
      have hsz8 : ∀ a, As = some a → w6.heap.size ≤ a.block ∧ a.block < w7.heap.size := fun a ha => ⟨hAs a ha, by
        subst ha
        exact (hls a.block rfl).2⟩
      have hs78 := fs.size
      obtain ⟨w8, hw8⟩ : ∃ X, w7.setCell ⟨ib, 34, none⟩ (.slice As i.sec.length cs) = X := ⟨_, rfl⟩
      rw [hw8] at b8 f8 he8 hyb8 hs78
      rw [← HEI.out] at b8
      -- the row grows
      have hB8 := HBB.out.fr f8 (fun e => HPG.out e.symm)
      have hO8 := HOWN.out.fr f8 (fun k hk e => by have := (HOWN.out.lt hk).1; have := HG.out; omega)
      have hR8 := HROW.out.fr f8 (fun k hk _ e => by have := HG.out; omega)
      obtain ⟨Av, Nv, cv, rfl, hNv⟩ := hO8.formN
      have hq0 : w8.cell? ⟨g, 0, none⟩ = some (.slice Av Nv cv) := hB8.cell 0
      have hld := LDs_allY (P := Tryz.prog) uIn iIn (inV i As cs) b8 (inV_len HIB.out As cs)
      have hbs := BSs_one (P := Tryz.prog) uInSY iInZY (by omega) (by omega) w8 (.agg (inV i As cs).toArray) (by simp [Value.cells, inV_len HIB.out])
      simp only [Value.cells] at hbs
      have hRl : R.length ≤ 16 := by
        have := HROW.out.len
        rw [List.length_take] at this
        omega
      have hg8 := hB8.lt
      obtain ⟨v', w9, hap, hO9, hf9, hft9⟩ := appR_one (P := Tryz.prog) (ty := 22) uInSY iInR (by omega) (by omega) hO8 (inV i As cs) (inV_len HIB.out As cs) (inV_one i As cs) (by omega) (by omega)
      obtain ⟨A9, N9, c9, rfl, hN9⟩ := hO9.formN
      have hfar8 : ∀ a, As = some a → g + 1 ≤ a.block ∧ a.block < w8.heap.size ∧ (Value.slice Av Nv cv).ownBlock ≠ some a.block := fun a ha => by
        have h1 := hsz8 a ha
        have h2 := HIBR.out
        refine ⟨by omega, by omega, fun e => ?_⟩
        have := (HOWN.out.lt e).2
        omega
      have hR9 := (hR8.snoc hyb8 hcs hnil HSL.out hfar8).grow hf9 hft9
      rw [← HTK.out] at hR9
      have hvg : (Value.slice Av Nv cv).ownBlock ≠ some g := own_ne hO8.own hB8 (by decide)
      have hvp : (Value.slice Av Nv cv).ownBlock ≠ some p := fun e => by have := (hO8.lt e).1; have := HG.out; omega
      have hvs : (Value.slice Av Nv cv).ownBlock ≠ some s := fun e => by have := (hO8.lt e).1; have := HG.out; omega
      have hB9 := hB8.fr hf9 (fun e => hvg e)
      have he9 := he8.fr hf9 (fun e => hvp e) (fun e => hvs e)
      have q9 : w9.cell? ⟨g, 0, none⟩ = some (.slice Av Nv cv) := hB9.cell 0
      have z9 := hB9.frozen 0
      have hB10 : Blk (w9.setCell ⟨g, 0, none⟩ (.slice A9 N9 c9)) g 26 #[.slice A9 N9 c9, .slice none 0 0, .int .u64 0, .int .i64 0] := by simpa using hB9.set_ 0 (.slice A9 N9 c9)
      have fs2 : Fr (fun k => k = g) w9 (w9.setCell ⟨g, 0, none⟩ (.slice A9 N9 c9)) := (Fr.refl (fun k => k = g) w9).setCell (p := ⟨g, 0, none⟩) (fun _ => rfl) _
      have he10 := he9.fr fs2 (show ¬ _ = _ from HPG.out) (show ¬ _ = _ by have := HG.out; omega)
      have hO10 := hO9.fr fs2 (fun k hk e => by have := (hO9.lt hk).1; omega)
      have hR10 := hR9.fr fs2 (fun k hk _ e => by omega)
      have hfin : Fr (fun k => k = p) w (w9.setCell ⟨g, 0, none⟩ (.slice A9 N9 c9)) := ((HF.out.trans f8 (fun _ _ h => h)).trans hf9 (fun k hk e => by have := (hO8.lt e).1; have := HG.out; omega)).trans fs2 (fun k hk e => by have := HG.out; omega)
      obtain ⟨xs, hxs⟩ : ∃ xs, (inV i As cs).toArray = xs := ⟨_, rfl⟩
      rw [hxs] at hld hbs hap
      have HO10 := Lib.hid hO10
      have HR10 := Lib.hid hR10
      have HB10 := Lib.hid hB10
      have HE10 := Lib.hid he10
      have HFIN := Lib.hid hfin
      have HW8 := Lib.hid hw8
      clear hO10 hR10 hB10 he10 hfin hw8 htxt ho hyb hAs hcs hls hnil b7 b8 fs hib6 hyb8 f8 he8 hsz8 hB8 hO8 hR8 hNv hRl hg8 hO9 hf9 hft9 hN9 hfar8 hR9 hvg hvp hvs hB9 he9 fs2 hxs f7 he7 hs78
      go_upto_region 6 with fail
      rw [HW8.out]
      clear q34 z34
      go_wp2_with fail
      go_roundg (n - (j + 1))
      case measure => omega
      case rel => exact ⟨j + 1, .slice A9 N9 c9, R ++ [inV i As cs], by omega, by go_num, HO10.out, HR10.out, HB10.out, HE10.out, HFIN.out⟩
    · obtain rfl : j = n := by omega
      obtain ⟨wo, hwo⟩ : ∃ wo, wo = wr := ⟨_, rfl⟩
      subst hwo
      have hgw := hB.lt
      have htk : t.ins.take j = t.ins := by rw [← HN.out, List.take_length]
      rw [htk] at hRow
      have hen := enumS_ok p s (insRest t j) 16 m (outsRest t 0) (by omega) (by have := HIR.out j; omega) wo hE HR1.out
      rw [show ((16 : Nat) : Int) = 16 from rfl] at hen
      have HOWN := Lib.hid hOwn
      have HROW := Lib.hid hRow
      have HBB := Lib.hid hB
      have HF := Lib.hid hF
      clear hOwn hRow hB hF hE htk
      go_wp2_with fail
      with_reducible refine hen.mono ?_
      rintro e x1 ⟨rfl, he1, f1⟩
      have hB1 := HBB.out.fr f1 (fun e => HPG.out e.symm)
      have f1' := f1.mono (G := fun k => k = p ∨ k = g) (fun _ _ h => .inl h)
      have hsx := f1.size
      have HE1 := Lib.hid he1
      have F1 := Lib.hid f1'
      have HSX := Lib.hid hsx
      clear he1 f1' hsx f1 hen
      go_wp2_with fail
      go_loopg [4, 31] m (fun kk _ c wr => ∃ (j : Nat) (u : Value), j + kk = m ∧ c = .int .u64 (j : Int) ∧ OwnR 80 33 wo.heap.size wr u ((t.outs.take j).map outV) ∧ Blk wr g 26 #[v, u, .int .u64 0, .int .i64 0] ∧ IsEyeS wr p s (outsRest t j) ∧ Fr (fun k => k = p ∨ k = g) wo wr)
      case atStart => exact ⟨0, .slice none 0 0, by omega, rfl, by simpa using OwnR.nil _ _ _ _, hB1, HE1.out, F1.out⟩
      case round =>
        obtain ⟨q, u, hq, rfl, hOu, hBx, hEx, hFx⟩ := hrel
        clear hB1
        have hgr : g < wo.heap.size := hgw
        have hWr : w.heap.size ≤ wo.heap.size := HF.out.size
        have HWo := Lib.hid (show g + 1 ≤ wo.heap.size from hgw)
        have hOr := HOR.out q
        by_cases hltq : q < m
        · have hltqI : (q : Int) < (m : Int) := by omega
          have hql : q < t.outs.length := by rw [HM.out]; exact hltq
          obtain ⟨r1, ho0, A, hA, hAm, hT1⟩ := HOUT.out q hql
          have hstep := outsRest_step t hql
          have hbo := HBD.out.outs _ (List.getElem_mem hql)
          have htk : (t.outs.take (q + 1)).map outV = (t.outs.take q).map outV ++ [outV t.outs[q]] := by rw [List.take_succ_eq_append_getElem hql, List.map_append]; rfl
          obtain ⟨o, ho⟩ : ∃ o, t.outs[q] = o := ⟨_, rfl⟩
          rw [ho] at ho0 hA hstep hbo htk
          rw [ho0] at hstep
          rw [hstep] at hEx hOr
          have how := hbo.len
          have hr1 : r1.length ≤ 2660 := by rw [List.length_append] at hOr; omega
          have hxs : wo.heap.size ≤ wr.heap.size := hFx.size
          have hid := eidS_ok p s (o.ow ++ r1) (by rw [List.length_append]; omega) (by rw [List.length_append]; omega) wr hEx (by omega) (by omega)
          rw [List.take_left' how, List.drop_left' how] at hid
          have hbin := fun W => bdOut_ow how W
          have hovl : (outV ⟨o.ow, 0⟩).length = 33 := by simp [outV, bys_length, how]
          have hov1 := outV_one ⟨o.ow, 0⟩
          have h32 := outV_set32 how (A : Int)
          have hc32 : (outV ⟨o.ow, 0⟩).toArray[32]? = some (.int .u64 0) := by
            unfold outV
            simp [bys_length, how]
          have hoe : o = ⟨o.ow, (A : Int)⟩ := by rw [← hA]
          obtain ⟨ov, hov⟩ : ∃ ov, outV ⟨o.ow, 0⟩ = ov := ⟨_, rfl⟩
          simp only [hov] at hbin h32 hc32
          rw [hov] at hovl hov1
          obtain ⟨tv, htv⟩ : ∃ tv, (bys o.ow).toArray = tv := ⟨_, rfl⟩
          simp only [htv] at hid hbin
          have HOU := Lib.hid hOu
          have HBX := Lib.hid hBx
          have HFX := Lib.hid hFx
          have HT1 := Lib.hid hT1
          have H32 := Lib.hid h32
          have HC32 := Lib.hid hc32
          have HOE := Lib.hid hoe
          have HOBD := Lib.hid hbo
          have HTK := Lib.hid htk
          have HOV1 := Lib.hid hov1
          have HOVL := Lib.hid hovl
          have HXS := Lib.hid hxs
          clear hOu hBx hFx hT1 h32 hc32 hoe hbo htk hov1 hovl hxs hstep hOr ho0 hov htv hEx hA ho
          go_wp2_with fail
          with_reducible refine hid.mono ?_
          rintro e x2 ⟨rfl, he2, f2⟩
          have hal3 := halo x2
          have hst3 := HBO.out x2 ov HOVL.out HOV1.out
          have b3 := Blk.new x2 80 (ov.toArray)
          have B3 : Below x2.heap.size x2 (x2.alloc (.cells (ov.toArray) 80)) := (Below.refl _ x2).alloc (Nat.le_refl _) _
          obtain ⟨x3, hx3⟩ : ∃ W, x2.alloc (.cells (ov.toArray) 80) = W := ⟨_, rfl⟩
          rw [hx3] at b3 B3
          obtain ⟨ob, hob0⟩ : ∃ ob, x2.heap.size = ob := ⟨_, rfl⟩
          rw [hob0] at b3
          have f3 := f2.trans (Fr.of_below B3) (fun k hk h => by have := f2.size; omega)
          have hobx : wr.heap.size ≤ ob := by rw [← hob0]; exact f2.size
          have he3 : IsEyeS x3 p s r1 := he2.fr (Fr.of_below B3) (show ¬ _ ≤ _ by have := HXS.out; omega) (show ¬ _ ≤ _ by have := HXS.out; omega)
          have hpo := he3.far b3 (by decide)
          have hnum := enumS_ok p s r1 18446744073709551615 A (outsRest t (q + 1)) (by omega) (by omega) x3 he3 HT1.out
          rw [show ((18446744073709551615 : Nat) : Int) = 18446744073709551615 from rfl] at hnum
          have HX3 := Lib.hid hx3
          have HB3 := Lib.hid b3
          have HF3 := Lib.hid f3
          have HPO := Lib.hid hpo
          have HOBE := Lib.hid hob0
          have HOBX := Lib.hid hobx
          clear hx3 b3 f3 hpo hob0 hobx he2 B3 he3 f2
          go_upto_region 11 with fail
          rw [HX3.out, HOBE.out]
          clear hal3 hst3 hbin
          go_wp2_with fail
          with_reducible refine hnum.mono ?_
          rintro e x4 ⟨rfl, he4, f4⟩
          have b4 := HB3.out.fr f4 (fun e => HPO.out e.symm)
          have q32 : x4.cell? ⟨ob, 32, none⟩ = some (.int .u64 0) := (b4.cell 32).trans HC32.out
          have z32 := b4.frozen 32
          have b5 := b4.set_ 32 (.int .u64 (A : Int))
          rw [H32.out, ← HOE.out] at b5
          have fs : Fr (fun k => k = ob) x4 (x4.setCell ⟨ob, 32, none⟩ (.int .u64 (A : Int))) := (Fr.refl (fun k => k = ob) x4).setCell (p := ⟨ob, 32, none⟩) (fun _ => rfl) _
          have f5 := (HF3.out.trans f4 (fun _ _ h => h)).trans fs (fun k hk e => by have := HOBX.out; omega)
          have he5 := he4.fr fs (show ¬ _ = _ from HPO.out) (show ¬ _ = _ by have := HOBX.out; have := HXS.out; omega)
          obtain ⟨x5, hx5⟩ : ∃ X, x4.setCell ⟨ob, 32, none⟩ (.int .u64 (A : Int)) = X := ⟨_, rfl⟩
          rw [hx5] at b5 f5 he5
          have hB5 := HBX.out.fr f5 (fun e => HPG.out e.symm)
          have hO5 := HOU.out.fr f5 (fun k hk e => by have := (HOU.out.lt hk).1; omega)
          obtain ⟨Au, Nu, cu, rfl, hNu⟩ := hO5.formN
          have hq1 : x5.cell? ⟨g, 1, none⟩ = some (.slice Au Nu cu) := hB5.cell 1
          have hld := LDs_allY (P := Tryz.prog) uOut iOut (outV o) b5 (outV_len HOBD.out)
          have hbs := BSs_one (P := Tryz.prog) uOutSY iOutZY (by omega) (by omega) x5 (.agg (outV o).toArray) (by simp [Value.cells, outV_len HOBD.out])
          simp only [Value.cells] at hbs
          have hx5s := HOU.out
          obtain ⟨u', x6, hap, hO6, hf6, hft6⟩ := appR_one (P := Tryz.prog) (ty := 23) uOutSY iOutR (by omega) (by omega) hO5 (outV o) (outV_len HOBD.out) (outV_one o) (by rw [List.length_map, List.length_take]; omega) (by have := f5.size; have := HXS.out; omega)
          obtain ⟨A6, N6, c6, rfl, hN6⟩ := hO6.formN
          rw [← HTK.out] at hO6
          have hug : (Value.slice Au Nu cu).ownBlock ≠ some g := own_ne hO5.own hB5 (by decide)
          have hlt5 := fun k hk => (hO5.lt (k := k) hk).1
          have hB6 := hB5.fr hf6 (fun e => hug e)
          have he6 := he5.fr hf6 (fun e => by have := hlt5 _ e; omega) (fun e => by have := hlt5 _ e; omega)
          have q6 : x6.cell? ⟨g, 1, none⟩ = some (.slice Au Nu cu) := hB6.cell 1
          have z6 := hB6.frozen 1
          have hB7 : Blk (x6.setCell ⟨g, 1, none⟩ (.slice A6 N6 c6)) g 26 #[v, .slice A6 N6 c6, .int .u64 0, .int .i64 0] := by simpa using hB6.set_ 1 (.slice A6 N6 c6)
          have fs2 : Fr (fun k => k = g) x6 (x6.setCell ⟨g, 1, none⟩ (.slice A6 N6 c6)) := (Fr.refl (fun k => k = g) x6).setCell (p := ⟨g, 1, none⟩) (fun _ => rfl) _
          have he7 := he6.fr fs2 (show ¬ _ = _ from HPG.out) (show ¬ _ = _ by have := HG.out; omega)
          have hO7 := hO6.fr fs2 (fun k hk e => by have := (hO6.lt hk).1; omega)
          have hfin : Fr (fun k => k = p ∨ k = g) wo (x6.setCell ⟨g, 1, none⟩ (.slice A6 N6 c6)) := ((HFX.out.trans f5 (fun _ _ h => .inl h)).trans hf6 (fun k hk e => by have := hlt5 _ e; omega)).trans fs2 (fun k hk e => .inr e)
          obtain ⟨xs, hxs⟩ : ∃ xs, (outV o).toArray = xs := ⟨_, rfl⟩
          rw [hxs] at hld hbs hap
          have HO7 := Lib.hid hO7
          have HB7 := Lib.hid hB7
          have HE7 := Lib.hid he7
          have HFIN := Lib.hid hfin
          have HX5 := Lib.hid hx5
          clear hO7 hB7 he7 hfin hx5 b5 b4 f4 fs f5 he5 hB5 hO5 hNu hx5s hO6 hf6 hft6 hN6 hug hlt5 hB6 he6 fs2 hxs hnum he4
          go_upto_region 12 with fail
          rw [HX5.out]
          clear q32 z32
          go_wp2_with fail
          go_roundg (m - (q + 1))
          case measure => omega
          case rel => exact ⟨q + 1, .slice A6 N6 c6, by omega, by go_num, HO7.out, HB7.out, HE7.out, HFIN.out⟩
        · obtain rfl : q = m := by omega
          have htk : t.outs.take q = t.outs := by rw [← HM.out, List.take_length]
          rw [htk] at hOu
          have hen := enumS_ok p s (outsRest t q) 18446744073709551615 fe (numP ex ++ []) (by omega) (by omega) wr hEx HR2.out
          rw [show ((18446744073709551615 : Nat) : Int) = 18446744073709551615 from rfl] at hen
          have hel := (takeNumP_le HR2.out).2
          have HOU := Lib.hid hOu
          have HBX := Lib.hid hBx
          have HFX := Lib.hid hFx
          clear hOu hBx hFx hEx htk
          go_wp2_with fail
          with_reducible refine hen.mono ?_
          rintro e x1 ⟨rfl, he1, f1⟩
          have hB1 := HBX.out.fr f1 (fun e => HPG.out e.symm)
          have q2 : x1.cell? ⟨g, 2, none⟩ = some (.int .u64 0) := hB1.cell 2
          have z2 := hB1.frozen 2
          have hB2 : Blk (x1.setCell ⟨g, 2, none⟩ (.int .u64 (fe : Int))) g 26 #[v, u, .int .u64 (fe : Int), .int .i64 0] := by simpa using hB1.set_ 2 (.int .u64 (fe : Int))
          have fs : Fr (fun k => k = g) x1 (x1.setCell ⟨g, 2, none⟩ (.int .u64 (fe : Int))) := (Fr.refl (fun k => k = g) x1).setCell (p := ⟨g, 2, none⟩) (fun _ => rfl) _
          have he2 := he1.fr fs (show ¬ _ = _ from HPG.out) (show ¬ _ = _ by have := HG.out; omega)
          have f2 : Fr (fun k => k = p ∨ k = g) wr _ := (f1.mono (G := fun k => k = p ∨ k = g) (fun _ _ h => .inl h)).trans fs (fun k hk e => .inr e)
          obtain ⟨x2, hx2⟩ : ∃ X, x1.setCell ⟨g, 2, none⟩ (.int .u64 (fe : Int)) = X := ⟨_, rfl⟩
          rw [hx2] at hB2 he2 f2
          have hen2 := enumS_ok p s (numP ex ++ []) 1099511627776 ex [] (by omega) (by omega) x2 he2 HR3.out
          rw [show ((1099511627776 : Nat) : Int) = 1099511627776 from rfl] at hen2
          have hexb : (ex : Int) ≤ 1099511627776 := by
            have := (takeNumP_le HR3.out).1
            omega
          have HX2 := Lib.hid hx2
          have HB2 := Lib.hid hB2
          have HF2 := Lib.hid f2
          clear hx2 hB2 f2 hen hB1 he1 f1 fs he2
          go_upto_region 15 with fail
          rw [HX2.out]
          clear q2 z2
          go_wp2_with fail
          with_reducible refine hen2.mono ?_
          rintro e x3 ⟨rfl, he3, f3⟩
          have hB3 := HB2.out.fr f3 (fun e => HPG.out e.symm)
          have q3 : x3.cell? ⟨g, 3, none⟩ = some (.int .i64 0) := hB3.cell 3
          have z3 := hB3.frozen 3
          have hB4 : Blk (x3.setCell ⟨g, 3, none⟩ (.int .i64 (ex : Int))) g 26 #[v, u, .int .u64 (fe : Int), .int .i64 (ex : Int)] := by simpa using hB3.set_ 3 (.int .i64 (ex : Int))
          have fs : Fr (fun k => k = g) x3 (x3.setCell ⟨g, 3, none⟩ (.int .i64 (ex : Int))) := (Fr.refl (fun k => k = g) x3).setCell (p := ⟨g, 3, none⟩) (fun _ => rfl) _
          have he4 := he3.fr fs (show ¬ _ = _ from HPG.out) (show ¬ _ = _ by have := HG.out; omega)
          have f4 := (HF2.out.trans f3 (fun _ _ h => .inl h)).trans fs (fun k hk e => .inr e)
          have fW := HFX.out.trans f4 (fun _ _ h => h)
          obtain ⟨x4, hx4⟩ : ∃ X, x3.setCell ⟨g, 3, none⟩ (.int .i64 (ex : Int)) = X := ⟨_, rfl⟩
          rw [hx4] at hB4 he4 f4 fW
          have hOi := HOWN.out.fr fW (fun k hk e => by have := (HOWN.out.lt hk).1; have := HG.out; rcases e with e | e <;> omega)
          have hRi := HROW.out.fr fW (fun k hk _ e => by have := HG.out; rcases e with e | e <;> omega)
          have hOo := (HOU.out.fr f4 (fun k hk e => by have := (HOU.out.lt hk).1; have := HG.out; have := HWo.out; rcases e with e | e <;> omega)).base (B' := g + 1) HWo.out
          obtain ⟨A1, c1, A2, c2, rfl, rfl, hfar⟩ := TxFar.of hOi hRi hOo HBD.out
          obtain ⟨xs, hxs⟩ : ∃ xs : List Value, [.slice A1 t.ins.length c1, .slice A2 t.outs.length c2, .int .u64 (fe : Int), .int .i64 (ex : Int)] = xs := ⟨_, rfl⟩
          have hxl : xs.length = 4 := by rw [← hxs]; rfl
          have hx1 : ∀ v ∈ xs, v.oneCell' = true := by rw [← hxs]; simp [Value.oneCell']
          have hB4' : Blk x4 g 26 xs.toArray := by rw [← hxs]; exact hB4
          have hld := LDs_allY (P := Tryz.prog) uTxY iTxY xs hB4' hxl
          have hst := STs_blk (P := Tryz.prog) iTxY hB4' (off := 0) xs hxl (by simp [hxl]) hx1
          rw [splice_whole _ _ (by simp)] at hst
          have fs4 : Fr (fun k => k = g) x4 (x4.setRow g xs.toArray) := (Fr.refl (fun k => k = g) x4).setRow (g := g) (fun _ => rfl) _
          have he5 := he4.fr fs4 (show ¬ _ = _ from HPG.out) (show ¬ _ = _ by have := HG.out; omega)
          have hfar5 := (hfar.fr fs4 (fun k hk e => by omega)).base (b' := w.heap.size) (by have := HG.out; omega)
          have f5 := (HF.out.trans fW (fun k hk e => by have := HG.out; rcases e with e | e <;> omega)).trans fs4 (fun k hk e => by have := HG.out; omega)
          have hb5 := hB4'.row_ xs.toArray
          have htv : txV A1 c1 A2 c2 t = xs.toArray := by rw [← hxs]; unfold txV; rw [HFE.out, HEX.out]
          have HX4 := Lib.hid hx4
          have HFAR := Lib.hid hfar5
          have HE5 := Lib.hid he5
          have F5 := Lib.hid f5
          have HB5 := Lib.hid hb5
          have HTV := Lib.hid htv
          have HXL := Lib.hid hxl
          clear hx4 hfar5 he5 f5 hb5 htv hxl hen2 hB3 he3 f3 fs he4 hB4 f4 fW hOi hRi hOo hfar hB4' fs4 hxs hx1
          go_upto_region 16 with fail
          rw [HX4.out]
          clear q3 z3
          go_wp2_with fail
          obtain ⟨dT, hdT, hdA⟩ := Option.map_eq_some_iff.1 uTxY
          refine bodyPost_ret (results_arr rfl _ _ g 26 xs dT rfl HB5.out hdT hdA (by rw [HXL.out]; exact iTxY)) rfl ?_
          exact ⟨A1, c1, A2, c2, by rw [HTV.out], HFAR.out, HE5.out, F5.out⟩
end Go.Proofs.YtdkanehjahpehaaGreatDoor
end

section
namespace Go.Proofs.YtdkanehjahpehaaGreatDoor
open Go.RowKit Go.Shelf
set_option maxRecDepth 100000
attribute [local go_sem ↓] ldTx_ofY stTx_ofY alTx_ofY

def zTxV : Array Value := #[.slice none 0 0, .slice none 0 0, .int .u64 0, .int .i64 0]
/-- In the block tb lies the transaction; its parts lie in blocks from b on. -/
def ReadTx (t : TxD) (b tb : Nat) (w' : World) : Prop := ∃ A1 c1 A2 c2, Blk w' tb 26 (txV A1 c1 A2 c2 t) ∧ TxFar b w' A1 A2 t

set_option maxHeartbeats 4000000 in
theorem rd1_any (p s tb : Nat) (t : TxD) (hck : checkP t = 0) (hbd : t.Bd) (w : World) (h : IsEyeS w p s (formTx t)) (hs : s < w.heap.size) (hst : s ≠ tb) (ht0 : Blk w tb 26 zTxV) :
    Calls Tryz.prog 67 #[.pointer (some ⟨p, 0, none⟩), .pointer (some ⟨tb, 0, none⟩)] w fun e w' => e = .returned (.tuple #[]) ∧ ReadTx t w.heap.size tb w' ∧ IsEyeS w' p s [] ∧ Fr (fun k => k = p ∨ k = tb) w w' := by
  have hp : p < w.heap.size := by
    obtain ⟨A, c, he, _⟩ := h
    exact he.st.lt
  have hlk := look_ok p s t hck hbd w h hp hs
  have hptb : p ≠ tb := h.far ht0 (by decide)
  have htl := ht0.lt
  have HT := Lib.hid ht0
  have HL := Lib.hid htl
  clear ht0 htl h
  go_enter Tryz.func67, Tryz.ntmps67
  go_wp2_with fail
  with_reducible refine hlk.mono ?_
  rintro e w1 ⟨A1, c1, A2, c2, rfl, hfar, he, hf⟩
  have hb1 := HT.out.fr hf (fun e => hptb e.symm)
  have hstt := STs_blk (P := Tryz.prog) iTxY hb1 (off := 0) (txV A1 c1 A2 c2 t).toList rfl (by simp [zTxV]) (by simp [txV, Value.oneCell'])
  rw [splice_whole zTxV (txV A1 c1 A2 c2 t).toList rfl] at hstt
  simp only [show (txV A1 c1 A2 c2 t).toList.toArray = txV A1 c1 A2 c2 t by simp] at hstt
  have hb2 := hb1.row_ (txV A1 c1 A2 c2 t)
  have f2 : Fr (fun k => k = tb) w1 (w1.setRow tb (txV A1 c1 A2 c2 t)) := (Fr.refl (fun k => k = tb) w1).setRow (g := tb) (fun _ => rfl) _
  have hfar2 := hfar.fr f2 (fun k hk e => by have := HL.out; omega)
  have he2 := he.fr f2 (show ¬ _ = _ from hptb) (show ¬ _ = _ from hst)
  have f3 := (hf.mono (G := fun k => k = p ∨ k = tb) (fun _ _ h => .inl h)).trans f2 (fun k hk e => .inr e)
  obtain ⟨xs, hxs⟩ : ∃ xs, txV A1 c1 A2 c2 t = xs := ⟨_, rfl⟩
  rw [hxs] at hstt hb2 hfar2 he2 f3 ⊢
  have HB2 := Lib.hid hb2
  have HF2 := Lib.hid hfar2
  have HE2 := Lib.hid he2
  have F3 := Lib.hid f3
  have HXS := Lib.hid hxs
  clear hb2 hfar2 he2 f3 hxs hfar he hf hb1 f2 hlk
  go_wp2_with fail
  go_end0
  exact ⟨rfl, ⟨A1, c1, A2, c2, by rw [HXS.out]; exact HB2.out, HF2.out⟩, HE2.out, F3.out⟩

set_option maxHeartbeats 8000000 in
theorem freadT_ok (tb : Nat) (A : Option Addr) (c : Nat) (hcA : A = none → c = 0) (t : TxD) (hck : checkP t = 0) (hbd : t.Bd) (w : World) (hy : Byt w A (formTx t)) (hb : Blk w tb 26 zTxV) :
    Calls Tryz.prog 66 #[.slice A (formTx t).length c, .func (.func 67) #[] #[.pointer (some ⟨tb, 0, none⟩)]] w fun e w' => e = .returned (.int .i64 0) ∧ ReadTx t w.heap.size tb w' ∧ Fr (fun k => k = tb) w w' := by
  obtain ⟨hl1, _, _, _⟩ := checkP_ok hck
  have hfl := formTx_len hbd hl1
  have hf0 : 0 < (formTx t).length := by
    rw [formTx_rest, List.length_append, numP_len]
    omega
  have hrd := fun p s w h hs hst ht0 => rd1_any p s tb t hck hbd w h hs hst ht0
  obtain ⟨l, hll⟩ : ∃ l, formTx t = l := ⟨_, rfl⟩
  simp only [hll] at hrd
  rw [hll] at hy hfl hf0 ⊢
  have hmf : ∀ (fn : Fn) (first cap : Array Value) (w : World), (Instr.makeFunc fn first cap).run Tryz.prog w = .ok (.func fn first cap) w := fun _ _ _ _ => rfl
  have hcl := clone_any A c hcA l (w.alloc (.cells #[.int .i64 0] 53)) (hy.below ((Below.refl _ w).alloc (Nat.le_refl _) _)) (by omega)
  have HY := Lib.hid hy
  have HB := Lib.hid hb
  have HCL := Lib.hid hcl
  have HRD := Lib.hid hrd
  have HF0 := Lib.hid hf0
  clear hy hb hcl hrd hf0 hll
  go_enter_defers Tryz.func66, Tryz.ntmps66
  go_wp2_with fail
  with_reducible refine HCL.out.mono ?_
  rintro e w1 ⟨v, rfl, ho, hbl⟩
  have hs1 : w.heap.size + 1 ≤ w1.heap.size := by have := hbl.size; simpa using this
  have b0 : Below w.heap.size w w1 := ((Below.refl _ w).alloc (Nat.le_refl _) _).trans (hbl.mono (by simp))
  obtain ⟨A1, c1, rfl, hy1, hA1, hc1⟩ := ho.byt HY.out.bd
  obtain ⟨g1, o1, rfl, hg1, _⟩ := hy1.cell HF0.out
  obtain ⟨L, hL⟩ : ∃ L, l.length = L := ⟨_, rfl⟩
  have hq1 : Blk w1 w.heap.size 53 #[.int .i64 0] := (Blk.new w 53 #[.int .i64 0]).fr (Fr.of_below hbl) (by simp)
  have htbl := HB.out.lt
  have hb1 := HB.out.fr (Fr.of_below b0) (by omega)
  have hrq : tb ≠ w.heap.size := by omega
  obtain ⟨w2, hw2⟩ : ∃ w2, w1.alloc (.cells #[.slice (some ⟨g1, o1, none⟩) l.length c1] 202) = w2 := ⟨_, rfl⟩
  have hq2 := hq1.alloc (.cells #[.slice (some ⟨g1, o1, none⟩) l.length c1] 202)
  have hb2 := hb1.alloc (.cells #[.slice (some ⟨g1, o1, none⟩) l.length c1] 202)
  have hst2 := Blk.new w1 202 #[.slice (some ⟨g1, o1, none⟩) l.length c1]
  have hy2 := hy1.below ((Below.refl _ w1).alloc (Nat.le_refl _) (.cells #[.slice (some ⟨g1, o1, none⟩) l.length c1] 202))
  have b2 := b0.alloc (by have := b0.size; omega) (.cells #[.slice (some ⟨g1, o1, none⟩) l.length c1] 202)
  rw [hw2] at hq2 hb2 hst2 hy2 b2
  have he : IsEyeS w2 w1.heap.size g1 l := ⟨_, _, ⟨hst2, hy2, fun a ha h0 => by
    cases ha
    simp only
    omega, hc1⟩, fun a ha => by cases ha; rfl⟩
  have hg1w := hA1 _ rfl
  simp only [World.size_alloc] at hg1w
  have hrd := HRD.out w1.heap.size g1 w2 he (by rw [← hw2]; simp; omega) (by omega) hb2
  have hpq : w1.heap.size ≠ w.heap.size := by omega
  have hw2s : w.heap.size + 1 ≤ w2.heap.size := by rw [← hw2]; simp; omega
  have HW2 := Lib.hid hw2
  have HRD2 := Lib.hid hrd
  have HQ2 := Lib.hid hq2
  have B2 := Lib.hid b2
  have HL := Lib.hid hL
  have HW2S := Lib.hid hw2s
  clear hw2 hrd hq2 b2 hL hw2s ho hbl b0 hy1 hA1 hc1 hq1 hb1 hb2 hst2 hy2 he HRD hg1w hg1
  go_wp2_with fail
  rw [HW2.out]
  have hrd := HRD2.out
  clear HRD2
  with_reducible refine hrd.mono ?_
  rintro e w3 ⟨rfl, hrt, he3, f3⟩
  have hq3 := HQ2.out.fr f3 (fun e => by rcases e with e | e <;> omega)
  have f23 := ((Fr.of_below B2.out).mono (G := fun k => k = tb ∨ w.heap.size ≤ k) (fun k _ h => .inr h)).trans (f3.mono (G := fun k => k = tb ∨ w.heap.size ≤ k) (fun k _ h => by rcases h with h | h <;> omega)) (fun _ _ h => h)
  obtain ⟨A5, c5, he5, _⟩ := he3
  have hlf := eleft_any w1.heap.size A5 c5 [] w3 he5
  have hlf2 : Calls Tryz.prog 107 #[.pointer (some ⟨w1.heap.size, 0, none⟩)] w3 fun e w' => e = .returned (.int .i64 0) ∧ w' = w3 := hlf
  have k3 : w3.cell? ⟨w.heap.size, 0, none⟩ = some (.int .i64 0) := hq3.cell 0
  have kf3 := hq3.frozen 0
  have HQ3 := Lib.hid hq3
  have F23 := Lib.hid f23
  have HRT := Lib.hid hrt
  clear hq3 f23 hrt hrd f3 he5 hlf
  have hclose : ∀ (w4 : World), w4 = w3.setCell ⟨w.heap.size, 0, none⟩ (.int .i64 0) → Blk w4 w.heap.size 53 #[.int .i64 0] ∧ Fr (fun k => k = tb) w w4 ∧ ReadTx t w.heap.size tb w4 := by
    rintro w4 rfl
    have f4 : Fr (fun k => k = w.heap.size) w3 (w3.setCell ⟨w.heap.size, 0, none⟩ (.int .i64 0)) := (Fr.refl (fun k => k = w.heap.size) w3).setCell (p := ⟨w.heap.size, 0, none⟩) (fun _ => rfl) _
    obtain ⟨B1, d1, B2', d2, hbt, hft⟩ := HRT.out
    refine ⟨by simpa using HQ3.out.set_ 0 (.int .i64 0), (F23.out.trans (f4.mono (G := fun k => k = tb ∨ w.heap.size ≤ k) (fun k _ h => .inr (by omega))) (fun _ _ h => h)).mono (fun k hk h => by rcases h with h | h <;> omega), B1, d1, B2', d2, hbt.fr f4 hrq, ?_⟩
    exact (hft.fr f4 (fun k hk e => by have := HW2S.out; omega)).base (Nat.le_of_succ_le HW2S.out)
  have HCLO := Lib.hid hclose
  clear hclose
  go_wp2_with fail
  refine hlf2.mono ?_
  rintro e w5 ⟨rfl, hw5⟩
  rw [hw5]
  clear hlf2 hw5
  go_wp2_with fail
  obtain ⟨hq4, f4, hr4⟩ := HCLO.out _ rfl
  refine leaves_cons (f := 106) (args := #[.pointer (some ⟨w.heap.size, 0, none⟩)]) (by simp) (by simp [go_sem]) ?_
  refine (catch_idle ⟨w.heap.size, 0, none⟩ _).mono ?_
  rintro e u' w4 ⟨rfl, rfl, hw4⟩
  rw [← hw4] at hq4 f4 hr4
  have k4 : w4.cell? ⟨w.heap.size, 0, none⟩ = some (.int .i64 0) := hq4.cell 0
  clear hw4
  simp [Leaves, settle, results, Tryz.results66, go_sem, k4]
  exact ⟨hr4, f4⟩
theorem results_cell_tmpY {P : Program} {fn : Func} {p q : Tmp} {ty : TypeId} (h : fn.results = #[.cell p ty, .tmp q]) (tmps : Array Value) (w : World) (g : Nat) (t : TypeId) (cs : Array Value) (fr : Nat × Nat) {d : TypeDesc}
    (hg : w.heap[g]? = some (.cells cs t fr)) (hu : P.underlying ty = some d) (hd : isAggD d = true) (hi : (P.info? ty).map (·.size) = some cs.size)
    (hp : tmps.getD p undef = .pointer (some ⟨g, 0, none⟩)) {v : Value} (hq : tmps.getD q undef = v := by rfl) :
    (results fn tmps).run P w = .ok (.tuple #[.agg cs, v]) w := by
  have hp' : tmps[p]?.getD undef = .pointer (some ⟨g, 0, none⟩) := by simpa using hp
  have hq' : tmps[q]?.getD undef = v := by simpa using hq
  simp [results, h, hp', hq', asAddr, run_loadVar_row w g t ty cs fr d hg hu (by cases d <;> simp_all [isAggD]) hi]

set_option maxHeartbeats 8000000 in
theorem txread_ok (A : Option Addr) (c : Nat) (hcA : A = none → c = 0) (t : TxD) (hck : checkP t = 0) (hbd : t.Bd) (w : World) (hy : Byt w A (formTx t)) :
    Calls Tryz.prog 28 #[.slice A (formTx t).length c] w fun e w' => (∃ A1 c1 A2 c2, e = .returned (.tuple #[.agg (txV A1 c1 A2 c2 t), .int .i64 0]) ∧ TxFar w.heap.size w' A1 A2 t) ∧ Below w.heap.size w w' := by
  obtain ⟨hl1, _, _, _⟩ := checkP_ok hck
  obtain ⟨⟨_, hn16⟩, ⟨_, hm16⟩, _⟩ := longP_not hl1
  have hmf : ∀ (fn : Fn) (first cap : Array Value) (w : World), (Instr.makeFunc fn first cap).run Tryz.prog w = .ok (.func fn first cap) w := fun _ _ _ _ => rfl
  obtain ⟨zz, hzz⟩ : ∃ z : Array Value, zTxV = z := ⟨_, rfl⟩
  have hal : ∀ W : World, (ALs 26).run Tryz.prog W = .ok (.pointer (some ⟨W.heap.size, 0, none⟩)) (W.alloc (.cells zz 26)) := by rw [← hzz]; exact alTxY
  obtain ⟨g, hg⟩ : ∃ g, w.heap.size = g := ⟨_, rfl⟩
  have b0 := Blk.new w 26 zz
  have B0 : Below w.heap.size w (w.alloc (.cells zz 26)) := (Below.refl _ w).alloc (Nat.le_refl _) _
  have hal0 := hal w
  obtain ⟨W, hW⟩ : ∃ W, w.alloc (.cells zz 26) = W := ⟨_, rfl⟩
  have hWs : W.heap.size = g + 1 := by rw [← hW, ← hg]; simp
  rw [hW] at b0 B0 hal0
  rw [hg] at b0 hal0
  have b1 := Blk.new W 26 zz
  have b01 := b0.alloc (.cells zz 26)
  have B1 := B0.alloc B0.size (.cells zz 26)
  have hal1 := hal W
  obtain ⟨V, hV⟩ : ∃ V, W.alloc (.cells zz 26) = V := ⟨_, rfl⟩
  rw [hV] at b1 b01 B1 hal1
  rw [hWs] at b1 hal1
  have hfr := freadT_ok (g + 1) A c hcA t hck hbd V (hy.below B1) (by rw [hzz]; exact b1)
  have hVs : V.heap.size = g + 2 := by rw [← hV]; simp; omega
  have HB01 := Lib.hid b01
  have HB1 := Lib.hid B1
  have HG := Lib.hid hg
  have HVS := Lib.hid hVs
  clear b01 B1 hg hVs b0 b1 B0 hV hW hWs hal hy
  go_enter Tryz.func28, Tryz.ntmps28
  go_upto_region 2 with fail
  clear hal0 hal1
  go_wp2_with fail
  with_reducible refine hfr.mono ?_
  rintro e w1 ⟨rfl, ⟨A1, c1, A2, c2, hbt, hft⟩, f1⟩
  have hb1 := HB01.out.fr f1 (show ¬ _ = _ by omega)
  have hck1 := txcheck_any A1 c1 A2 c2 t w1 hft.at_ (by omega) (by omega)
  rw [hck] at hck1
  have hld := fun X (hX : Below w1.heap.size w1 X) => LDs_allY (P := Tryz.prog) uTxY iTxY (w := X) (txV A1 c1 A2 c2 t).toList (by simpa using hbt.fr (Fr.of_below hX) (by have := hbt.lt; omega)) rfl
  simp only [show (txV A1 c1 A2 c2 t).toList.toArray = txV A1 c1 A2 c2 t by simp] at hld
  obtain ⟨xs, hxs⟩ : ∃ xs, txV A1 c1 A2 c2 t = xs := ⟨_, rfl⟩
  have hxl : xs.size = 4 := by rw [← hxs]; rfl
  have hx1 : ∀ v ∈ xs.toList, v.oneCell' = true := by rw [← hxs]; simp [txV, Value.oneCell']
  simp only [hxs] at hld hck1
  have hld1 := hld w1 (Below.refl _ _)
  have hBw := HB1.out.trans (f1.below (B := w.heap.size) (by rw [HVS.out, HG.out]; omega) (fun k hk e => by have := HG.out; omega))
  have HLD := Lib.hid hld
  have HFT := Lib.hid hft
  have HB := Lib.hid hb1
  have HBW := Lib.hid hBw
  have HXS := Lib.hid hxs
  have HXL := Lib.hid hxl
  have HX1 := Lib.hid hx1
  clear hld hft hb1 hBw hxs hxl hx1 hfr hbt f1
  go_wp2_with fail
  with_reducible refine hck1.mono ?_
  rintro e w2 ⟨rfl, hB2⟩
  have hld2 := HLD.out w2 hB2
  have hb2 := HB.out.fr (Fr.of_below hB2) (by have := HB.out.lt; omega)
  have hst := STs_blk (P := Tryz.prog) iTxY hb2 (off := 0) xs.toList (by simpa using HXL.out) (by rw [← hzz]; simp [zTxV]) HX1.out
  rw [splice_whole zz xs.toList (by rw [← hzz]; simp [zTxV, HXL.out])] at hst
  simp only [show xs.toList.toArray = xs by simp] at hst
  have fs : Fr (fun k => k = g) w2 (w2.setRow g xs) := (Fr.refl (fun k => k = g) w2).setRow (g := g) (fun _ => rfl) _
  have hfar := ((HFT.out.below hB2).fr fs (fun k hk e => by have := HVS.out; omega)).base (b' := w.heap.size) (by have := HVS.out; have := HG.out; omega)
  have hB3 : Below w.heap.size w (w2.setRow g xs) := Below.setRow (HBW.out.trans (hB2.mono HBW.out.size)) (by have := HG.out; omega) _
  have HFAR := Lib.hid hfar
  have HB3 := Lib.hid hB3
  have HRB := Lib.hid (hb2.row_ xs)
  clear hfar hB3 hB2 hld1 hck1 fs hb2
  clear hzz
  go_wp2_with fail
  obtain ⟨dT, hdT, hdA⟩ := Option.map_eq_some_iff.1 uTxY
  refine bodyPost_ret (v := .tuple #[.agg xs, .int .i64 0]) (results_cell_tmpY rfl _ _ g _ _ (0, 0) HRB.out hdT hdA (by rw [HXL.out]; exact iTxY) rfl) rfl ?_
  exact ⟨⟨A1, c1, A2, c2, by rw [HXS.out], HFAR.out⟩, HB3.out⟩
end Go.Proofs.YtdkanehjahpehaaGreatDoor
end
