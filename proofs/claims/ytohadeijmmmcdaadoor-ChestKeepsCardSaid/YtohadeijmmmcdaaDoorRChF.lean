/-
  The document's chest: what stands on a drum.
-/
import Derived.Test.YtohadeijmmmcdaaDoorRCh

section
set_option autoImplicit false

namespace Go.Proofs.YtohadeijmmmcdaaDoor
open Go Go.RowKit Machine
set_option maxRecDepth 100000

theorem own_cap {B n c size : Nat} {e : TypeId} {w : World} {A : Option Addr} {xs : List Value} (h : w.ownsRow B e size (.slice A n c) n xs) : n ≤ c := by
  rcases h.2 with ⟨e, h0⟩ | ⟨g, cap, cur, e, _, _, hn, _⟩
  · omega
  · simp only [Value.slice.injEq] at e
    rw [e.2.2]
    exact hn

/-- Texts copied. -/
theorem copyT (w : World) {A : Option Addr} {c : Nat} {xs : List Value} {L : List (List Int)} (h : TxsV w A xs L) (hA : A = none → c = 0) (hlen : L.length ≤ 1000000) :
    ∃ A1 c1 w1, (APs #[33, 33] 33 #[.slice (some ⟨w.heap.size, 0, none⟩) 0 0, .slice A L.length c]).run Tryd.prog (w.alloc (.cells #[] 22)) = .ok (.slice A1 L.length c1) w1 ∧
      w1.ownsRow w.heap.size 22 1 (.slice A1 L.length c1) L.length xs ∧ Below w.heap.size w w1 := by
  have hb0 : Below w.heap.size w (w.alloc (.cells #[] 22)) := (Below.refl _ w).alloc (Nat.le_refl _) _
  have h0 : (w.alloc (.cells #[] 22)).ownsRow w.heap.size 22 1 (.slice (some ⟨w.heap.size, 0, none⟩) 0 0) 0 [] := own_nul w _ _ (Nat.le_refl _)
  have hT0 := h.below hb0
  have hcopy : ∃ v1 w1, (APs #[33, 33] 33 #[.slice (some ⟨w.heap.size, 0, none⟩) 0 0, .slice A L.length c]).run Tryd.prog (w.alloc (.cells #[] 22)) = .ok v1 w1 ∧ w1.ownsRow w.heap.size 22 1 v1 L.length xs ∧ Fr (fun k => k = w.heap.size) (w.alloc (.cells #[] 22)) w1 := by
    cases A with
    | none =>
      have e : xs = [] := by
        cases xs with
        | nil => rfl
        | cons x r =>
          obtain ⟨g, o, e, _⟩ := h.cell (by simp)
          cases e
      subst e
      have eL : L.length = 0 := by rw [← h.len]; rfl
      obtain rfl := hA rfl
      obtain ⟨i, hi⟩ := Option.map_eq_some_iff.1 iT
      rw [eL]
      exact ⟨_, _, run_append_owned_none _ w.heap.size 33 33 22 i 1 uT hi.1 _ _ _ h0, h0, Fr.refl _ _⟩
    | some a =>
      obtain ⟨v', w', e1, e2, e3, _⟩ := APs_own (P := Tryd.prog) (ty := 33) uT iT (by omega) h0 (a := a) (m := L.length) (c := c) xs (by rw [h.len]; omega) (fun j u hu => by
        have hj : j < xs.length := (List.getElem?_eq_some_iff.1 hu).1
        obtain ⟨g, o, e, _, hc⟩ := hT0.cell (by omega)
        cases e
        rw [addN]
        exact hc j u hu) (fun u hu => by
        obtain ⟨i, hi, rfl⟩ := List.getElem_of_mem hu
        exact (h.txt i hi (by rw [← h.len]; exact hi)).one) (by unfold maxLen; omega) (by omega) (by simp)
      refine ⟨v', w', e1, by simpa using e2, (Fr.refl _ _).grown e3 (fun k _ e => ?_)⟩
      simpa [Value.ownBlock, eq_comm] using e
  obtain ⟨v1, w1, r1, o1, f1⟩ := hcopy
  obtain ⟨A1, c1, rfl⟩ := own_form o1
  exact ⟨A1, c1, w1, r1, o1, hb0.trans (f1.below (by simp) (fun k hk e => by omega))⟩

/-- Texts copied, and one more behind them. -/
theorem app_txt (n₀ : Nat) (w : World) (_hn : n₀ ≤ w.heap.size) {A : Option Addr} {c : Nat} {L : List (List Int)} (hC : ChT n₀ w A c L) (hlen : L.length < 1000000) {B : Option Addr} {d : Nat} {b : List Int} (hb : Byt w B b) (hbl : b.length ≤ 80000000) (hd : B = none → d = 0) :
    ∃ A1 c1 w1 A2 c2 w2 A3 c3 w3, (APs #[33, 33] 33 #[.slice (some ⟨w.heap.size, 0, none⟩) 0 0, .slice A L.length c]).run Tryd.prog (w.alloc (.cells #[] 22)) = .ok (.slice A1 L.length c1) w1 ∧
      (APs #[22, 22] 22 #[.slice (some ⟨w1.heap.size, 0, none⟩) 0 0, .slice B b.length d]).run Tryd.prog (w1.alloc (.cells #[] 5)) = .ok (.slice A2 b.length c2) w2 ∧
      (APs #[33, 33] 33 #[.slice A1 L.length c1, .slice (some ⟨w2.heap.size, 0, none⟩) 1 1]).run Tryd.prog (w2.alloc (.cells #[.slice A2 b.length c2] 22)) = .ok (.slice A3 (L.length + 1) c3) w3 ∧
      ChT n₀ w3 A3 c3 (L ++ [b]) ∧ Below w.heap.size w w3 ∧ (∀ a, A3 = some a → w.heap.size ≤ a.block) := by
  obtain ⟨xs, h1, h2⟩ := hC.ex
  obtain ⟨A1, c1, w1, r1, o1, b1⟩ := copyT w h1 hC.nul (by omega)
  have h0 : Own8 w1.heap.size (w1.alloc (.cells #[] 5)) (.slice (some ⟨w1.heap.size, 0, none⟩) 0 0) [] := own_nul w1 _ _ (Nat.le_refl _)
  have b1a : Below w1.heap.size w1 (w1.alloc (.cells #[] 5)) := (Below.refl _ w1).alloc (Nat.le_refl _) _
  obtain ⟨v2, w2, r2, o2, f2, _⟩ := app8 (ty := 22) (c := d) h0 ((hb.below b1).below b1a) (by simp; omega) (by simp) hd
  rw [List.nil_append] at o2
  obtain ⟨A2, c2, rfl⟩ := o2.form
  have b2 : Below w1.heap.size w1 w2 := b1a.trans (f2.below (by simp) (fun k hk e => by have := (h0.lt e).1; omega))
  have o1' : w2.ownsRow w.heap.size 22 1 (.slice A1 L.length c1) L.length xs := own_fr o1 (Fr.of_below b2) (fun k hk f => by have := (World.ownsRow.lt o1 k hk).2; omega)
  obtain ⟨v3, w3, r3, o3, f3, _⟩ := appT (ty := 33) o1' [.slice A2 b.length c2] (by intro u hu; simp at hu; subst hu; rfl) (by simp; omega) (Nat.le_trans b1.size b2.size)
  obtain ⟨A3, c3, rfl⟩ := own_form o3
  have b12 : Below w.heap.size w w2 := b1.trans (b2.mono b1.size)
  have b3 : Below w.heap.size w w3 := b12.trans (f3.below b12.size (fun k hk e => by have := (World.ownsRow.lt o1' k e).1; omega))
  have hT := h1.below b3
  obtain ⟨A', c', e, hy, _, _⟩ := o2.byt hb.bd
  simp only [Value.slice.injEq] at e
  obtain ⟨rfl, _, rfl⟩ := e
  have hown : ∀ k, (Value.slice A2 b.length c2).ownBlock = some k → ∃ cs, Blk w3 k 5 cs := fun k hk => by
    obtain ⟨cs, hc, _⟩ := own_blk o2 hk
    exact ⟨cs, hc.fr f3 (fun f => own_ne o1' hc (by decide) f)⟩
  refine ⟨A1, c1, w1, A2, c2, w2, A3, c3, w3, r1, r2, r3, ⟨⟨xs ++ [.slice A2 b.length c2], ⟨by simp [h1.len], fun h0 => ?_, fun i hi hi' => ?_⟩, fun i hi hi' k hk hk0 => ?_⟩, fun e => ?_, fun a ha _ => ?_, fun l hl => ?_, by rw [List.length_append]; exact own_cap o3⟩, b3, fun a ha => ?_⟩
  · obtain ⟨g, cap, e, _, hg, hc⟩ := own_cells o3 (by simp)
    simp only [Value.slice.injEq] at e
    exact ⟨g, 0, e.1, hg, fun j x hx => hc j x hx⟩
  · by_cases hlt : i < xs.length
    · rw [List.getElem_append_left hlt, List.getElem_append_left (by rw [← h1.len]; exact hlt)]
      exact hT.txt i hlt (by rw [← h1.len]; exact hlt)
    · have hi2 : i = xs.length := by simp at hi; omega
      subst hi2
      simp only [List.getElem_append_right (Nat.le_refl _), Nat.sub_self, List.getElem_cons_zero]
      simp only [h1.len, List.getElem_append_right (Nat.le_refl _), Nat.sub_self, List.getElem_cons_zero]
      refine ⟨A2, c2, rfl, hy.fr f3 (fun a ha _ f => ?_), fun e => by subst e; exact o2.nul⟩
      obtain ⟨cs, hc, _⟩ := own_blk o2 (g := a.block) (by rw [ha]; rfl)
      exact own_ne o1' hc (by decide) f
  · by_cases hlt : i < xs.length
    · have hlt' : i < L.length := by rw [← h1.len]; exact hlt
      rw [List.getElem_append_left hlt] at hk
      rw [List.getElem_append_left hlt'] at hk0
      rcases h2 i hlt hlt' k hk hk0 with h | ⟨cs, h⟩
      · exact .inl h
      · exact .inr ⟨cs, h.fr (Fr.of_below b3) (by have := h.lt; omega)⟩
    · have hi2 : i = xs.length := by simp at hi; omega
      subst hi2
      simp only [List.getElem_append_right (Nat.le_refl _), Nat.sub_self, List.getElem_cons_zero] at hk
      exact .inr (hown k hk)
  · subst e
    rcases o3.2 with ⟨e, _⟩ | ⟨g, cap, cur, e, _⟩
    · cases e
    · cases e
  · obtain ⟨cs, hc, _⟩ := own_blk o3 (g := a.block) (by rw [ha]; rfl)
    exact .inr ⟨cs, hc⟩
  · rcases List.mem_append.1 hl with h | h
    · exact hC.bd l h
    · simp at h
      subst h
      exact ⟨hb.bd, hbl⟩
  · obtain ⟨cs, _, hB⟩ := own_blk o3 (g := a.block) (by rw [ha]; rfl)
    exact hB

/-- The document's keeping: the error, the turn, the records. -/
def keepQ (t h : Int) (L : List (List Int)) (b : List Int) : Int × Int × List (List Int) :=
  if szQ t L.length b < 0 then (4, t, L) else if leftQ t h L L.length < szQ t L.length b then (18, t, L) else (0, t, L ++ [b])

theorem ChT.setCell {n₀ g o : Nat} {X : World} {A : Option Addr} {c : Nat} {L : List (List Int)} {cs : Array Value} (hC : ChT n₀ X A c L) (hg : Blk X g 75 cs) (hn : n₀ ≤ g) (v : Value) : ChT n₀ (X.setCell ⟨g, o, none⟩ v) A c L :=
  hC.kept (n₀ := n₀) (ts := [75]) (Kept.of_fr ((Fr.refl (fun k => k = g) X).setCell (p := ⟨g, o, none⟩) (fun _ => rfl) v) (by have := hg.lt; omega) (fun k hk e => by omega) (fun k t cs' e hb => by
    subst e
    rw [(hb.inj hg).1]
    simp)) (by decide) (by decide)

section
attribute [local go_sem ↓] ld75 st75 al75 bd75 apt33_of apt22_of
attribute [local go_sem] al75_new bd75_3

set_option maxHeartbeats 8000000 in
theorem rkeep_any (n₀ : Nat) (t h : Int) (hh : 0 ≤ h ∧ h ≤ 1000000) (A : Option Addr) (c : Nat) (L : List (List Int)) (hL : L.length < 1000000) (B : Option Addr) (d : Nat) (hd : B = none → d = 0) (b : List Int) (w : World) (hC : ChT n₀ w A c L) (hb : Byt w B b) (hbl : b.length ≤ 80000000) (hn : n₀ ≤ w.heap.size) :
    Calls Tryd.prog 44 #[.agg (chL t h (.slice A L.length c)).toArray, .slice B b.length d] w fun e w' => ChPost n₀ h w A (keepQ t h L b) e w' ∧ Below w.heap.size w w' := by
  obtain ⟨n, hnL⟩ : ∃ n, L.length = n := ⟨_, rfl⟩
  obtain ⟨m, hm⟩ : ∃ m, b.length = m := ⟨_, rfl⟩
  rw [hnL] at hL
  rw [hnL, hm]
  have b0 := (Blk.new w 75 (chL t h (.slice A n c)).toArray).alloc (.cells (chL 0 0 (.slice none 0 0)).toArray 75)
  have b1 := Blk.new (w.alloc (.cells (chL t h (.slice A n c)).toArray 75)) 75 (chL 0 0 (.slice none 0 0)).toArray
  have B0 : Below w.heap.size w ((w.alloc (.cells (chL t h (.slice A n c)).toArray 75)).alloc (.cells (chL 0 0 (.slice none 0 0)).toArray 75)) := ((Below.refl _ w).alloc (Nat.le_refl _) _).alloc (by simp) _
  simp only [World.size_alloc] at b1
  obtain ⟨W, hW⟩ : ∃ W, (w.alloc (.cells (chL t h (.slice A n c)).toArray 75)).alloc (.cells (chL 0 0 (.slice none 0 0)).toArray 75) = W := ⟨_, rfl⟩
  rw [hW] at b0 b1 B0
  have hWs : w.heap.size + 1 < W.heap.size := b1.lt
  have hend : ∀ (X : World) (G : List Value) (tm : Array Value) (v : Value), Blk X (w.heap.size + 1) 75 (chL 0 0 (.slice none 0 0)).toArray → G.length = 3 → tm.getD 4 undef = .pointer (some ⟨w.heap.size + 1, 0, none⟩) → tm.getD 5 undef = v →
      (results Tryd.f44 tm).run Tryd.prog (X.setRow (w.heap.size + 1) G.toArray) = .ok (.tuple #[.agg G.toArray, v]) (X.setRow (w.heap.size + 1) G.toArray) := fun X G tm v hX hG h2 h3 => by
    obtain ⟨d, hd, he⟩ := Option.map_eq_some_iff.1 u75
    exact results_ct rfl tm _ (w.heap.size + 1) _ _ (0, 0) (hX.row_ G.toArray) hd he (by rw [List.size_toArray, hG]; exact i75) h2 h3
  obtain ⟨q0, q1, q2⟩ := ch_parts b0
  have hz := rsize_any t n B d hd b W (hb.below B0) hbl
  rw [hm] at hz
  obtain ⟨Z, hZ⟩ : ∃ Z, szQ t n b = Z := ⟨_, rfl⟩
  have hzb := szQ_bd t n b
  rw [hZ] at hz hzb
  have HZ := Lib.hid hz
  have HZe := Lib.hid hZ
  have HEND := Lib.hid hend
  have HW := Lib.hid hW
  have H0 := Lib.hid b0
  have H1 := Lib.hid b1
  have HB := Lib.hid B0
  have HC := Lib.hid (hC.below B0 hn)
  have HY := Lib.hid (hb.below B0)
  have HNL := Lib.hid hnL
  have HM := Lib.hid hm
  rw [hm] at hbl
  clear hend hW b0 b1 B0 hC hb hnL hm hz hZ
  go_enter Tryd.func44, Tryd.ntmps44
  go_upto_region 1 with fail
  rw [HW.out]
  -- nothing turned
  have hsame : ∀ X : World, Below W.heap.size W X → (LDs 75 (.pointer (some ⟨w.heap.size, 0, none⟩))).run Tryd.prog X = .ok (.agg (chL t h (.slice A n c)).toArray) X ∧
      (STs 75 (.pointer (some ⟨w.heap.size + 1, 0, none⟩)) (.agg (chL t h (.slice A n c)).toArray)).run Tryd.prog X = .ok () (X.setRow (w.heap.size + 1) (chL t h (.slice A n c)).toArray) ∧
      Blk X (w.heap.size + 1) 75 (chL 0 0 (.slice none 0 0)).toArray ∧ ChT n₀ (X.setRow (w.heap.size + 1) (chL t h (.slice A n c)).toArray) A c L ∧ Below w.heap.size w (X.setRow (w.heap.size + 1) (chL t h (.slice A n c)).toArray) := fun X hX => by
    have x0 := H0.out.fr (Fr.of_below hX) (by omega)
    have x1 := H1.out.fr (Fr.of_below hX) (by omega)
    exact ⟨ld75_blk x0, st75_blk x1 rfl t h A n c, x1, (HC.out.below hX (by omega)).setRow x1 (by omega) _, Below.setRow (HB.out.trans (hX.mono HB.out.size)) (by omega) _⟩
  go_wp2_with fail
  with_reducible refine HZ.out.mono ?_
  rintro e w5 ⟨rfl, b5⟩
  obtain ⟨r1, r2, r3, r4, r5⟩ := hsame w5 b5
  have HSAME := Lib.hid hsame
  have R3 := Lib.hid r3
  have R4 := Lib.hid r4
  have R5 := Lib.hid r5
  have HB5 := Lib.hid b5
  clear r3 r4 r5 hsame b5 HZ q0 q1 q2
  by_cases hneg : Z < 0
  · have hQ : keepQ t h L b = (4, t, L) := by unfold keepQ; rw [HNL.out, if_pos (by rw [HZe.out]; exact hneg)]
    have HQ := Lib.hid hQ
    clear hQ
    go_wp2_with fail
    exact bodyPost_ret (HEND.out _ _ _ _ R3.out rfl rfl rfl) rfl ⟨by rw [HQ.out]; exact ⟨A, c, by simp only; rw [HNL.out]; rfl, R4.out, fun a h => .inl h⟩, R5.out⟩
  have hneg' : 0 ≤ Z := by omega
  obtain ⟨xs, hT, hO⟩ := (HC.out.below HB5.out (by omega)).ex
  have hl := rchleft_any t h hh A c xs L w5 hT (by rw [HNL.out]; omega) (fun l hl => (HC.out.bd l hl).2)
  rw [HNL.out] at hl
  have hlb := leftQ_bd t h L n
  obtain ⟨V, hV⟩ : ∃ V, leftQ t h L n = V := ⟨_, rfl⟩
  rw [hV] at hl hlb
  have HL := Lib.hid hl
  have HV := Lib.hid hV
  clear hT hO hl hV
  go_wp2_with fail
  with_reducible refine HL.out.mono ?_
  rintro e w6 ⟨rfl, b6⟩
  have b6' : Below W.heap.size W w6 := HB5.out.trans (b6.mono HB5.out.size)
  obtain ⟨r1', r2', r3, r4, r5⟩ := HSAME.out w6 b6'
  have R3' := Lib.hid r3
  have R4' := Lib.hid r4
  have R5' := Lib.hid r5
  have HB6 := Lib.hid b6'
  clear r1 r2 R3 R4 R5 r3 r4 r5 b6 b6' HL HB5 HSAME
  by_cases hfull : V < Z
  · have hQ : keepQ t h L b = (18, t, L) := by unfold keepQ; rw [HNL.out, if_neg (by rw [HZe.out]; omega), if_pos (by rw [HZe.out, HV.out]; exact hfull)]
    have HQ := Lib.hid hQ
    clear hQ
    go_wp2_with fail
    exact bodyPost_ret (HEND.out _ _ _ _ R3'.out rfl rfl rfl) rfl ⟨by rw [HQ.out]; exact ⟨A, c, by simp only; rw [HNL.out]; rfl, R4'.out, fun a h => .inl h⟩, R5'.out⟩
  have hfull' : Z ≤ V := by omega
  have hQ : keepQ t h L b = (0, t, L ++ [b]) := by unfold keepQ; rw [HNL.out, if_neg (by rw [HZe.out]; omega), if_neg (by rw [HZe.out, HV.out]; omega)]
  have hC6 := HC.out.below HB6.out (by omega)
  have hs6 := HB6.out.size
  obtain ⟨A1, c1, w7, A2, c2, w8, A3, c3, w9, a1, a2, a3, hC9, b9, hA3⟩ := app_txt n₀ w6 (by omega) hC6 (by rw [HNL.out]; exact hL) (HY.out.below HB6.out) (by rw [HM.out]; exact hbl) hd
  rw [HM.out] at a2
  rw [HNL.out] at a1 a3
  rw [HM.out] at a3
  have hs9 := b9.size
  have y0 := (H0.out.fr (Fr.of_below HB6.out) (by omega)).fr (Fr.of_below b9) (by omega)
  have y1 := R3'.out.fr (Fr.of_below b9) (by omega)
  obtain ⟨q0, q1, q2⟩ := ch_parts (H0.out.fr (Fr.of_below HB6.out) (by omega))
  have q3 : (w6.alloc (.cells #[] 22)).cell? ⟨w.heap.size, 2, none⟩ = some (.slice A n c) := (((Below.refl _ w6).alloc (Nat.le_refl _) _).cell (p := ⟨w.heap.size, 2, none⟩) (by simp only; omega)).trans q2
  have z0 := y0.set_ 2 (.slice A3 (n + 1) c3)
  have hz0 : (chL t h (.slice A n c)).toArray.setIfInBounds 2 (.slice A3 (n + 1) c3) = (chL t h (.slice A3 (n + 1) c3)).toArray := rfl
  rw [hz0] at z0
  have z1 := y1.far (p := ⟨w.heap.size, 2, none⟩) (by simp) (.slice A3 (n + 1) c3)
  have k9 : w9.cell? ⟨w.heap.size, 2, none⟩ = some (.slice A n c) := (y0.cell 2).trans rfl
  have jf := y0.frozen 2
  have l1 := ld75_blk z0
  have l2 := st75_blk z1 rfl t h A3 (n + 1) c3
  have hb9 : Below w.heap.size w (w9.setCell ⟨w.heap.size, 2, none⟩ (.slice A3 (n + 1) c3)) := Below.setCell (HB.out.trans ((HB6.out.trans (b9.mono hs6)).mono HB.out.size)) (Nat.le_refl _) _
  have hC10 := hC9.setCell (o := 2) y0 hn (.slice A3 (n + 1) c3)
  have HQ := Lib.hid hQ
  have HA3 := Lib.hid hA3
  have HZ1 := Lib.hid z1
  have HC10 := Lib.hid hC10
  have HB9 := Lib.hid hb9
  have yl := y0.lt
  clear hA3 hQ hC6 b9 y0 z0 y1 z1 hz0 hC9 hC10 hb9 r1' r2' R3' R4' R5'
  go_wp2_with fail
  exact bodyPost_ret (HEND.out _ _ _ _ HZ1.out rfl rfl rfl) rfl ⟨by rw [HQ.out]; exact ⟨A3, c3, by simp only [List.length_append, List.length_cons, List.length_nil]; rw [HNL.out]; rfl, HC10.out.setRow HZ1.out (by omega) _, fun a h => .inr (Nat.le_trans (Nat.le_trans HB.out.size HB6.out.size) (HA3.out a h))⟩, Below.setRow HB9.out (by omega) _⟩
end
end Go.Proofs.YtohadeijmmmcdaaDoor
end

section
namespace Go.Proofs.YtohadeijmmmcdaaDoor
open Go Go.RowKit Machine
set_option maxRecDepth 100000

/-- A side of a drum. -/
def sideP (b : List Int) (i : Nat) : List Int := (b.drop (64 * (b.length / 64 / 2) * i)).take (64 * (b.length / 64 / 2))
/-- What stands on the first i sides: the turn, the records. -/
def bestP (b : List Int) : Nat → Nat × List (List Int)
  | 0 => (0, [])
  | i + 1 => match readP (sideP b i) with
    | none => bestP b i
    | some r => if r.n = 0 ∧ (bestP b i).1 < r.t then (r.t, (scanAll r.t (sideP b i)).1) else bestP b i

theorem OwnV.chT {B n₀ c : Nat} {G : Nat → Prop} {w : World} {A : Option Addr} {L : List (List Int)} (h : OwnV B G w (.slice A L.length c) L) (hG : ∀ k, G k → k < n₀ ∨ ∃ cs, Blk w k 5 cs) (hb : ∀ l ∈ L, (∀ x ∈ l, 0 ≤ x ∧ x ≤ 255) ∧ l.length ≤ 80000000) : ChT n₀ w A c L := by
  obtain ⟨xs0, hT0⟩ := h.txs
  obtain ⟨xs, h1, h2, h3⟩ := h
  refine ⟨⟨xs, ⟨h2, fun h0 => ?_, fun i hi hi' => (h3 i hi hi').1⟩, fun i hi hi' k hk h0 => hG k ((h3 i hi hi').2 k hk h0)⟩, fun e => ?_, fun a ha _ => ?_, hb, own_cap h1⟩
  · obtain ⟨g, cap, e, _, hg, hc⟩ := own_cells h1 (by rw [← h2]; exact h0)
    simp only [Value.slice.injEq] at e
    exact ⟨g, 0, e.1, hg, fun j x hx => hc j x hx⟩
  · subst e
    rcases h1.2 with ⟨e, _⟩ | ⟨g, cap, cur, e, _⟩
    · simp only [Value.slice.injEq] at e
      exact e.2.2
    · simp only [Value.slice.injEq] at e
      cases e.1
  · obtain ⟨cs, hc, _⟩ := own_blk h1 (g := a.block) (by rw [ha]; rfl)
    exact .inr ⟨cs, hc⟩

section
attribute [local go_sem ↓] ld75 st75 al75 bd75 apt33_of apt22_of sle_of ld49 st49 al49 bd49
attribute [local go_sem] al75_new bd75_3 al49_new st49_new

set_option maxHeartbeats 8000000 in
theorem rfind_any (n₀ : Nat) (A : Option Addr) (c : Nat) (b : List Int) (w : World) (hb : Byt w A b) (hc : b.length ≤ c) (hl : b.length ≤ 80000000) (hA : ∀ a, A = some a → a.block < n₀ ∨ ∃ cs, Blk w a.block 5 cs) (hn : n₀ ≤ w.heap.size) :
    Calls Tryd.prog 38 #[.slice A b.length c] w fun e w' =>
      (∃ A' c', e = .returned (.agg (chL (bestP b 2).1 ((b.length / 64 / 2 : Nat) : Int) (.slice A' (bestP b 2).2.length c')).toArray) ∧ ChT n₀ w' A' c' (bestP b 2).2) ∧ Below w.heap.size w w' := by
  obtain ⟨N, hN⟩ : ∃ N, b.length = N := ⟨_, rfl⟩
  obtain ⟨H, hH⟩ : ∃ H, N / 64 / 2 = H := ⟨_, rfl⟩
  have hHN : 64 * H * 2 ≤ N := by omega
  have hHi : (N : Int) / 64 / 2 = (H : Int) := by omega
  have b0 := (Blk.new w 75 (chL 0 0 (.slice none 0 0)).toArray).alloc (.cells (chL 0 0 (.slice none 0 0)).toArray 75)
  have b1 := Blk.new (w.alloc (.cells (chL 0 0 (.slice none 0 0)).toArray 75)) 75 (chL 0 0 (.slice none 0 0)).toArray
  have B0 : Below w.heap.size w ((w.alloc (.cells (chL 0 0 (.slice none 0 0)).toArray 75)).alloc (.cells (chL 0 0 (.slice none 0 0)).toArray 75)) := ((Below.refl _ w).alloc (Nat.le_refl _) _).alloc (by simp) _
  simp only [World.size_alloc] at b1
  rw [hN] at hc hl
  have hBb : bestP b 0 = (0, []) := rfl
  rw [hN, hH]
  have H0 := Lib.hid b0
  have H1 := Lib.hid b1
  have HB0 := Lib.hid B0
  have HB := Lib.hid hb
  have HN := Lib.hid hN
  have HH := Lib.hid hH
  clear b0 b1 B0 hb hN hH
  go_enter Tryd.func38, Tryd.ntmps38
  go_wp2_with fail
  rw [hHi]
  clear hHi
  go_loopg [5] 2 (fun k t wr => ∃ (i : Nat) (T : Nat) (L : List (List Int)) (h' : Int) (A' : Option Addr) (c' : Nat), i + k = 2 ∧ t = .int .i64 (i : Int) ∧ bestP b i = (T, L) ∧ Blk wr w.heap.size 75 (chL 0 0 (.slice none 0 0)).toArray ∧ Blk wr (w.heap.size + 1) 75 (chL T h' (.slice A' L.length c')).toArray ∧ ChT n₀ wr A' c' L ∧ Below w.heap.size w wr)
  case atStart => exact ⟨0, 0, [], 0, none, 0, by omega, rfl, hBb, H0.out, H1.out, ChT.nil _ _, HB0.out⟩
  case round =>
    obtain ⟨i, T, L, h', A', c', hi, rfl, hbest, y0, y1, hC, hbl⟩ := hrel
    by_cases hin : i < 2
    · have hinI : (i : Int) < 2 := by omega
      obtain ⟨S, hS⟩ : ∃ S, 64 * H = S := ⟨_, rfl⟩
      obtain ⟨o, ho⟩ : ∃ o, S * i = o := ⟨_, rfl⟩
      have hoS : o ≤ S := by
        rw [← ho]
        have : i = 0 ∨ i = 1 := by omega
        rcases this with rfl | rfl <;> omega
      have e1 : 64 * (H : Int) * (i : Int) = (o : Int) := by rw [← ho, ← hS]; push_cast; rfl
      have e2 : 64 * (H : Int) * ((i : Int) + 1) = ((o + S : Nat) : Int) := by rw [Int.mul_add, e1, ← hS]; push_cast; omega
      have hw1 : IntKind.i64.wrap (64 * (H : Int) * (i : Int)) = (o : Int) := by rw [e1, IntKind.wrap_i64]; omega
      have hw2 : IntKind.i64.wrap (64 * (H : Int) * ((i : Int) + 1)) = (o : Int) + (S : Int) := by rw [e2, IntKind.wrap_i64]; omega
      have hsd : sideP b i = (b.drop o).take S := by unfold sideP; rw [HN.out, HH.out, hS, ho]
      obtain ⟨A2, hsl, hy2, hb2, hn2⟩ := part8u (HB.out.below hbl) c o (o + S) (some (.int .i64 (o : Int))) (some (.int .i64 ((o : Int) + (S : Int)))) (by omega) (by rw [HN.out]; omega) (by rw [HN.out]; exact hc) (.inr ⟨_, _, rfl, rfl⟩) (.inr ⟨_, _, rfl, by omega⟩)
      rw [HN.out, Nat.add_sub_cancel_left] at hsl
      rw [Nat.add_sub_cancel_left, ← hsd] at hy2
      have hdl : (sideP b i).length = S := by rw [hsd, List.length_take, List.length_drop, HN.out]; omega
      obtain ⟨c2, hc2⟩ : ∃ x, c - o = x := ⟨_, rfl⟩
      rw [hc2] at hsl
      have hrd := rread_any A2 c2 (sideP b i) wr hy2 (by rw [hdl]; omega) (by rw [hdl]; omega)
      rw [hdl] at hrd
      have hsl1 := hsl wr
      have hA2 : ∀ a, A2 = some a → a.block < n₀ ∨ ∃ cs, Blk w a.block 5 cs := fun a ha => by
        obtain ⟨a', e1, e2⟩ := hb2 a ha
        rw [e2]
        exact hA a' e1
      have HRD := Lib.hid hrd
      have HA2 := Lib.hid hA2
      have HY2 := Lib.hid hy2
      have HDL := Lib.hid hdl
      have HBE := Lib.hid hbest
      have Y0 := Lib.hid y0
      have Y1 := Lib.hid y1
      have HC := Lib.hid hC
      have HBL := Lib.hid hbl
      have HI := Lib.hid hi
      have HSb : S ≤ 40000000 := by omega
      have HC2 : S ≤ c2 := by omega
      clear hsl hy2 hb2 hn2 hdl hc2 hrd hA2 hsd hbest y0 y1 hC hbl hi e1 e2 ho hS
      go_wp2_with fail
      with_reducible refine HRD.out.mono ?_
      rintro e w1 ⟨hp, r1⟩
      have hn1 : n₀ ≤ w1.heap.size := Nat.le_trans hn (Nat.le_trans HBL.out.size r1.size)
      have hn2 : n₀ ≤ wr.heap.size := Nat.le_trans hn HBL.out.size
      cases hR : readP (sideP b i) with
      | none =>
        rw [hR] at hp
        obtain rfl : e = .returned (.tuple #[.agg (recL 0 0 0 (.slice none 0 0)).toArray, .bool false]) := hp
        have hnx : bestP b (i + 1) = (T, L) := by rw [bestP, hR]; exact HBE.out
        have hX := r1.alloc r1.size (.cells (recL 0 0 0 (.slice none 0 0)).toArray 49)
        have HNX := Lib.hid hnx
        have Z0 := Lib.hid (Y0.out.fr (Fr.of_below hX) (by have := Y0.out.lt; omega))
        have Z1 := Lib.hid (Y1.out.fr (Fr.of_below hX) (by have := Y1.out.lt; omega))
        have ZC := Lib.hid (HC.out.below hX hn2)
        have ZB := Lib.hid (HBL.out.trans (hX.mono HBL.out.size))
        clear hnx hX r1 hR
        go_wp2_with fail
        go_roundg (2 - (i + 1))
        case measure => have := HI.out; omega
        case rel => exact ⟨i + 1, T, L, h', A', c', by omega, by go_num, HNX.out, Z0.out, Z1.out, ZC.out, ZB.out⟩
      | some r =>
        rw [hR] at hp
        obtain ⟨A3, c3, rfl, hp3⟩ := (hp : RReadPost w1 A2 (some r) e)
        obtain ⟨nb, hnb⟩ : ∃ n, r.b.length = n := ⟨_, rfl⟩
        rw [hnb]
        have hX := r1.alloc r1.size (.cells (recL r.t r.n r.size (.slice A3 nb c3)).toArray 49)
        have hbk := Blk.new w1 49 (recL r.t r.n r.size (.slice A3 nb c3)).toArray
        obtain ⟨X, hXX⟩ : ∃ X, w1.alloc (.cells (recL r.t r.n r.size (.slice A3 nb c3)).toArray 49) = X := ⟨_, rfl⟩
        rw [hXX] at hX hbk
        obtain ⟨k0, k1, k2, k3⟩ := rec_parts hbk
        have z1 := Y1.out.fr (Fr.of_below hX) (by have := Y1.out.lt; omega)
        obtain ⟨q0, q1, q2⟩ := ch_parts z1
        have Z0 := Lib.hid (Y0.out.fr (Fr.of_below hX) (by have := Y0.out.lt; omega))
        have Z1 := Lib.hid z1
        have ZC := Lib.hid (HC.out.below hX hn2)
        have ZB := Lib.hid (HBL.out.trans (hX.mono HBL.out.size))
        have ZY := Lib.hid (HY2.out.below hX)
        have HXX := Lib.hid hXX
        have HR := Lib.hid hR
        have HBK := Lib.hid hbk
        have hXs := hX.size
        clear hXX hX hbk z1 hR hp3 r1 hnb Y0 Y1 HC HBL HY2 HRD
        have hsame : ¬ (r.n = 0 ∧ T < r.t) → bestP b (i + 1) = (T, L) := fun h => by
          rw [bestP, HR.out]
          simp only
          rw [if_neg (by rw [HBE.out]; exact h)]
          exact HBE.out
        have HSAME := Lib.hid hsame
        clear hsame
        go_upto_region 8 with fail
        rw [HXX.out]
        by_cases h0 : r.n = 0
        · have h0I : ((r.n : Nat) : Int) = 0 := by omega
          by_cases ht : T < r.t
          · have htI : (T : Int) < (r.t : Int) := by omega
            go_wp2_with fail
            have hnx : bestP b (i + 1) = (r.t, (scanAll r.t (sideP b i)).1) := by
              rw [bestP, HR.out]
              simp only
              rw [if_pos (by rw [HBE.out]; exact ⟨h0, ht⟩)]
            have hsc := rscan_any r.t A2 c2 (sideP b i) X ZY.out (by rw [HDL.out]; exact HC2) (by rw [HDL.out]; omega) (fun a ha => by
              have h8 := ZB.out.size
              rcases HA2.out a ha with h9 | ⟨cs, h9⟩
              · omega
              · have := h9.lt
                omega)
            rw [HDL.out] at hsc
            have hbs : ∀ l ∈ (scanAll r.t (sideP b i)).1, (∀ x ∈ l, 0 ≤ x ∧ x ≤ 255) ∧ l.length ≤ 80000000 := fun l hl => by
              have h1 := scanAll_bdR ZY.out.bd l hl
              rw [HDL.out] at h1
              exact ⟨h1.1, by omega⟩
            obtain ⟨Ls, hLs⟩ : ∃ Ls, scanAll r.t (sideP b i) = Ls := ⟨_, rfl⟩
            rw [hLs] at hnx hsc hbs
            have HNX := Lib.hid hnx
            have HSC := Lib.hid hsc
            have HBS := Lib.hid hbs
            clear hnx hsc hbs hLs
            go_wp2_with fail
            with_reducible refine HSC.out.mono ?_
            rintro e w2 ⟨⟨v, rfl, hov⟩, r2⟩
            obtain ⟨A5, c5, rfl⟩ := hov.form
            have hr2 := r2.size
            have x0 := Z0.out.fr (Fr.of_below r2) (by have := Z0.out.lt; omega)
            have x1 := Z1.out.fr (Fr.of_below r2) (by have := Z1.out.lt; omega)
            have hst := st75_blk x1 rfl (r.t : Int) (H : Int) A5 Ls.1.length c5
            have k0' : w2.cell? ⟨w1.heap.size, 0, none⟩ = some (.int .i64 (r.t : Int)) := (r2.cell (p := ⟨w1.heap.size, 0, none⟩) HBK.out.lt).trans k0
            have hch := OwnV.chT (n₀ := n₀) hov (fun k ⟨a, ha, e⟩ => by
              rw [← e]
              rcases HA2.out a ha with h9 | ⟨cs, h9⟩
              · exact .inl h9
              · exact .inr ⟨cs, h9.fr (Fr.of_below (ZB.out.trans (r2.mono ZB.out.size))) (by have := h9.lt; omega)⟩) HBS.out
            have X0 := Lib.hid (x0.rowFar (g' := w.heap.size + 1) (by omega) (chL (r.t : Int) (H : Int) (.slice A5 Ls.1.length c5)).toArray)
            have X1 := Lib.hid (x1.row_ (chL (r.t : Int) (H : Int) (.slice A5 Ls.1.length c5)).toArray)
            have XC := Lib.hid (hch.setRow x1 (by omega) (chL (r.t : Int) (H : Int) (.slice A5 Ls.1.length c5)).toArray)
            have XB := Lib.hid (Below.setRow (ZB.out.trans (r2.mono ZB.out.size)) (by omega : w.heap.size ≤ w.heap.size + 1) (chL (r.t : Int) (H : Int) (.slice A5 Ls.1.length c5)).toArray)
            clear hov x0 x1 hch r2 ht h0 HSC
            go_wp2_with fail
            go_roundg (2 - (i + 1))
            case measure => have := HI.out; omega
            case rel => exact ⟨i + 1, r.t, Ls.1, H, A5, c5, by omega, by go_num, HNX.out, X0.out, X1.out, XC.out, XB.out⟩
          · have htI : ¬ (T : Int) < (r.t : Int) := by omega
            have hnx := HSAME.out (fun h => ht h.2)
            have HNX := Lib.hid hnx
            clear hnx ht
            go_wp2_with fail
            go_roundg (2 - (i + 1))
            case measure => have := HI.out; omega
            case rel => exact ⟨i + 1, T, L, h', A', c', by omega, by go_num, HNX.out, Z0.out, Z1.out, ZC.out, ZB.out⟩
        · have h0I : ¬ ((r.n : Nat) : Int) = 0 := by omega
          have hnx := HSAME.out (fun h => h0 h.1)
          have HNX := Lib.hid hnx
          clear hnx h0
          go_wp2_with fail
          go_roundg (2 - (i + 1))
          case measure => have := HI.out; omega
          case rel => exact ⟨i + 1, T, L, h', A', c', by omega, by go_num, HNX.out, Z0.out, Z1.out, ZC.out, ZB.out⟩
    · obtain rfl : i = 2 := by omega
      have hltI : ¬ ((2 : Nat) : Int) < 2 := by omega
      obtain ⟨q0, q1, q2⟩ := ch_parts y1
      have jf := y1.frozen 1
      have z1 := y1.set_ 1 (.int .i64 (H : Int))
      have hz1 : (chL (T : Int) h' (.slice A' L.length c')).toArray.setIfInBounds 1 (.int .i64 (H : Int)) = (chL (T : Int) (H : Int) (.slice A' L.length c')).toArray := rfl
      rw [hz1] at z1
      have z0 := y0.far (p := ⟨w.heap.size + 1, 1, none⟩) (by simp) (.int .i64 (H : Int))
      have l1 := ld75_blk z1
      have l2 := st75_blk z0 rfl (T : Int) (H : Int) A' L.length c'
      have hC2 := (hC.setCell (o := 1) y1 (by omega) (.int .i64 (H : Int))).setRow z0 hn (chL (T : Int) (H : Int) (.slice A' L.length c')).toArray
      have hb2 := Below.setRow (Below.setCell hbl (p := ⟨w.heap.size + 1, 1, none⟩) (by simp) (.int .i64 (H : Int))) (Nat.le_refl _) (chL (T : Int) (H : Int) (.slice A' L.length c')).toArray
      have HZ0 := Lib.hid z0
      have HC2 := Lib.hid hC2
      have HB2 := Lib.hid hb2
      clear z0 z1 hz1 y0 y1 hC hC2 hb2 hbl
      go_wp2_with fail
      obtain ⟨d, hd, he⟩ := Option.map_eq_some_iff.1 u75
      exact bodyPost_ret (results_arr rfl _ _ w.heap.size 75 (chL (T : Int) (H : Int) (.slice A' L.length c')) d rfl (HZ0.out.row_ _) hd he i75) rfl ⟨⟨_, _, rfl, HC2.out⟩, HB2.out⟩
end
end Go.Proofs.YtohadeijmmmcdaaDoor
end
