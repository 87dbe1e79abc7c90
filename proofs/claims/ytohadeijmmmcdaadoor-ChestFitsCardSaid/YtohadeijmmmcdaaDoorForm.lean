/-
  field.Pen: a text; all fields.
  scroll.Form.
-/
import Derived.Test.YtohadeijmmmcdaaDoorPen
import Derived.Test.YtohadeijmmmcdaaDoorCat
import Derived.Test.YtohadeijmmmcdaaDoorSum

section
namespace Go.Proofs.YtohadeijmmmcdaaDoor
open Go.RowKit Go.Shelf
set_option maxRecDepth 100000
attribute [local go_sem ↓] ap22_of

set_option maxHeartbeats 4000000 in
theorem text_any (B p : Nat) (v : Value) (l : List Int) (A : Option Addr) (c : Nat) (hcA : A = none → c = 0) (b : List Int) (w : World) (h : IsPen B w p v l) (hb : Byt w A b) (hA : ∀ a, A = some a → 0 < b.length → ¬ (a.block = p ∨ v.ownBlock = some a.block)) (hl : l.length + b.length ≤ 140737488355000) (hl0 : l.length ≤ 400000000) (hB : B ≤ w.heap.size) :
    Calls Tryd.prog 53 #[.pointer (some ⟨p, 0, none⟩), .slice A b.length c] w fun e w' => e = .returned (.tuple #[]) ∧ (∃ v', IsPen B w' p v' (l ++ (numP b.length ++ b)) ∧ Foot w v v') ∧ Fr (fun k => k = p ∨ v.ownBlock = some k) w w' := by
  obtain ⟨m, hm⟩ : ∃ m, b.length = m := ⟨_, rfl⟩
  rw [hm]
  have hm2 : m ≤ 140737488355000 := by omega
  have H := Lib.hid h
  have HB := Lib.hid hb
  have HM := Lib.hid hm
  have HA := Lib.hid hA
  clear h hb hA hm
  go_enter Tryd.func53, Tryd.ntmps53
  go_wp2_with fail
  refine (num_any B p v l m (by omega) w H.out (by omega) hB).mono ?_
  rintro e w1 ⟨rfl, ⟨v1, h1, hft1⟩, hf1⟩
  have hb1 := HB.out.fr hf1 (fun a e h0 => HA.out a e (by rw [HM.out] at h0 ⊢; exact h0))
  have hnl : (numP m).length ≤ 9 := by
    have := leP_len8 (n := m) (by omega)
    rw [numP_len]; omega
  obtain ⟨v2, w2, hap, ho2, hf2, hft2⟩ := app8 (ty := 22) (c := c) h1.own hb1 (by rw [List.length_append]; have := HM.out; omega) (Nat.le_trans hB hf1.size) hcA
  obtain ⟨A1, c1, rfl⟩ := h1.own.form
  obtain ⟨A2, c2, rfl⟩ := ho2.form
  rw [HM.out] at hap
  have hne := own8_ne h1.own h1.st (by decide)
  have hst2 := h1.st.fr hf2 (fun e => hne e)
  obtain ⟨N1, hN1⟩ : ∃ N1, (l ++ numP m).length = N1 := ⟨_, rfl⟩
  obtain ⟨N2, hN2⟩ : ∃ N2, (l ++ numP m ++ b).length = N2 := ⟨_, rfl⟩
  have k1 : w1.cell? ⟨p, 0, none⟩ = some (.slice A1 N1 c1) := by rw [← hN1]; exact h1.st.cell 0
  have k2 : w2.cell? ⟨p, 0, none⟩ = some (.slice A1 N1 c1) := by rw [← hN1]; exact hst2.cell 0
  have f2 := hst2.frozen 0
  have hap' : (APs #[22, 22] 22 #[.slice A1 N1 c1, .slice A m c]).run Tryd.prog w1 = .ok (.slice A2 N2 c2) w2 := by rw [← hN1, ← hN2]; exact hap
  have H1 := Lib.hid h1
  have O2 := Lib.hid ho2
  have F1 := Lib.hid hf1
  have F2 := Lib.hid hf2
  have FT1 := Lib.hid hft1
  have FT2 := Lib.hid hft2
  have S2 := Lib.hid hst2
  have HN1 := Lib.hid hN1
  have HN2 := Lib.hid hN2
  clear h1 ho2 hf1 hf2 hft1 hft2 hst2 hb1 hap hne hN1 hN2
  go_wp2_with fail
  go_end0
  have hnp := own8_ne O2.out S2.out (by decide)
  refine ⟨rfl, ⟨.slice A2 N2 c2, ⟨by simpa using S2.out.set_ 0 (.slice A2 N2 c2), H.out.b1, ?_⟩, ?_⟩, ?_⟩
  · have e := O2.out.fr (F := fun j => j = p) ((Fr.refl (fun j => j = p) w2).setCell (p := ⟨p, 0, none⟩) (fun _ => rfl) (.slice A2 N2 c2)) (fun j hj e => hnp (e ▸ hj))
    rw [HN2.out, List.append_assoc] at e
    exact e
  · intro j hj
    rcases FT2.out j ((own_sl A2 _ _ _ _).trans hj) with h | h
    · exact FT1.out j h
    · exact .inr (Nat.le_trans F1.out.size h)
  · refine (F1.out.trans (F2.out.mono (G := fun j => j = p ∨ (Value.slice A1 N1 c1).ownBlock = some j) (fun j _ h => .inr ((own_sl A1 _ _ _ _).trans h))) (fun j hj h => ?_)).setCell (p := ⟨p, 0, none⟩) (fun _ => .inl rfl) _
    rcases h with h | h
    · exact .inl h
    · rcases FT1.out j ((own_sl A1 _ _ _ _).trans h) with h | h
      · exact .inr h
      · omega

set_option maxHeartbeats 2000000 in
theorem pbytes_any (B p : Nat) (v : Value) (l : List Int) (hlb : ∀ x ∈ l, 0 ≤ x ∧ x ≤ 255) (w : World) (h : IsPen B w p v l) (hl : l.length ≤ 140737488355328) :
    Calls Tryd.prog 54 #[.pointer (some ⟨p, 0, none⟩)] w fun e w' => ∃ v', e = .returned v' ∧ Own8 w.heap.size w' v' l ∧ Below w.heap.size w w' := by
  obtain ⟨A1, c1, e1, hby, _, hc⟩ := h.own.byt hlb
  have hcA : A1 = none → c1 = 0 := by
    rintro rfl
    obtain ⟨_, ⟨h2, _⟩ | ⟨g, cap, cur, h2, _⟩⟩ := h.own
    · rw [e1] at h2
      simp only [Value.slice.injEq] at h2
      exact h2.2.2
    · rw [e1] at h2
      simp at h2
  have k1 := h.st.cell 0
  rw [e1] at k1
  have k1' : w.cell? ⟨p, 0, none⟩ = some (.slice A1 l.length c1) := k1
  obtain ⟨n, hn⟩ : ∃ n, l.length = n := ⟨_, rfl⟩
  have HC := Lib.hid (clone_any A1 c1 hcA l w hby hl)
  rw [hn] at k1'
  have HN := Lib.hid hn
  clear k1 e1 hby h hn
  go_enter Tryd.func54, Tryd.ntmps54
  go_wp2_with fail
  have hcl := HC.out
  rw [HN.out] at hcl
  refine hcl.mono ?_
  rintro e w' ⟨v', rfl, ho, hb⟩
  have HO := Lib.hid ho
  have HB := Lib.hid hb
  clear ho hb hcl HC
  go_wp2_with fail
  go_ret
  exact ⟨v', rfl, HO.out, HB.out⟩

end Go.Proofs.YtohadeijmmmcdaaDoor
end

section
namespace Go.Proofs.YtohadeijmmmcdaaDoor
open Go.RowKit Go.Shelf
set_option maxRecDepth 100000
theorem ap223_of (xs : Array Value) (t : TypeId) : Builtin.append_ #[22, 3] t xs = APs #[22, 3] t xs := rfl
attribute [local go_sem ↓] ap22_of ap223_of

set_option maxHeartbeats 1000000 in
theorem scis_any (n : Int) (w : World) :
    Calls Tryd.prog 51 #[.int .i64 n] w fun e w' => e = .returned (.bool (decide (0 ≤ n ∧ n ≤ 1099511627776))) ∧ w' = w := by
  by_cases h0 : 0 ≤ n
  · by_cases h1 : n ≤ 1099511627776
    · go_enter Tryd.func51, Tryd.ntmps51
      go_wp2
      go_ret
      simp [h0, h1]
    · go_enter Tryd.func51, Tryd.ntmps51
      go_wp2
      go_ret
      simp [h1]
  · go_enter Tryd.func51, Tryd.ntmps51
    go_wp2
    go_ret
    simp
    omega

set_option maxHeartbeats 1000000 in
theorem sectors_any (n : Nat) (hn : n ≤ 140737488356000) (w : World) :
    Calls Tryd.prog 55 #[.int .i64 (n : Int)] w fun e w' => e = .returned (.int .i64 (secP n : Nat)) ∧ w' = w := by
  have e : (((n : Int) + 64 - 1) / 64) = ((secP n : Nat) : Int) := by unfold secP; omega
  have HE := Lib.hid e
  clear e
  go_enter Tryd.func55, Tryd.ntmps55
  go_wp2
  go_ret
  exact ⟨by rw [← HE.out]; rfl, rfl⟩

/-- The error with which Form answers. -/
def formE (t n : Int) (b : List Int) : Int :=
  if ¬ (0 ≤ t ∧ t ≤ 1099511627776) ∨ ¬ (0 ≤ n ∧ n ≤ 1099511627776) then 5 else if 1024 < secP (12 + (fieldsP t.toNat n.toNat b).length) then 4 else 0
/-- The bytes. -/
def formV (t n : Int) (b : List Int) : List Int := if formE t n b = 0 then formP t.toNat n.toNat b else []

set_option maxHeartbeats 8000000 in
theorem form_any (t n : Int) (A : Option Addr) (c : Nat) (hcA : A = none → c = 0) (b : List Int) (w : World) (hb : Byt w A b) (hlen : b.length ≤ 140737488351232) (hg : Glob w) :
    Calls Tryd.prog 15 #[.int .i64 t, .int .i64 n, .slice A b.length c] w fun e w' => ∃ v, e = .returned (.tuple #[v, .int .i64 (formE t n b)]) ∧ Own8 w.heap.size w' v (formV t n b) ∧ Below w.heap.size w w' := by
  obtain ⟨m, hm⟩ : ∃ m, b.length = m := ⟨_, rfl⟩
  rw [hm] at hlen ⊢
  by_cases ht : 0 ≤ t ∧ t ≤ 1099511627776
  · by_cases hn : 0 ≤ n ∧ n ≤ 1099511627776
    · obtain ⟨T, rfl⟩ : ∃ T : Nat, t = T := ⟨t.toNat, by omega⟩
      obtain ⟨N, rfl⟩ : ∃ N : Nat, n = N := ⟨n.toNat, by omega⟩
      have hT : T ≤ mostP := by unfold mostP; omega
      have hN : N ≤ mostP := by unfold mostP; omega
      have hT1 : (T : Int) ≤ 1099511627776 := by omega
      have hN1 : (N : Int) ≤ 1099511627776 := by omega
      have d1 : decide ((0 : Int) ≤ (T : Int) ∧ (T : Int) ≤ 1099511627776) = true := by simpa using hT1
      have d2 : decide ((0 : Int) ≤ (N : Int) ∧ (N : Int) ≤ 1099511627776) = true := by simpa using hN1
      have HB := Lib.hid hb
      have HG := Lib.hid hg
      have HM := Lib.hid hm
      have HT := Lib.hid hT
      have HN := Lib.hid hN
      have p0 : IsPen w.heap.size (w.alloc (.cells #[.slice none 0 0] 97)) w.heap.size (.slice none 0 0) [] := ⟨Blk.new w _ _, Nat.le_refl _, Own8.nil _ _⟩
      have B0 : Below w.heap.size w (w.alloc (.cells #[.slice none 0 0] 97)) := (Below.refl _ w).alloc (Nat.le_refl _) _
      have P0 := Lib.hid p0
      have BB0 := Lib.hid B0
      clear hb hg hm hT hN ht hn p0 B0
      go_enter Tryd.func15, Tryd.ntmps15
      go_wp2_with (first | (go_at_call 51; refine (scis_any _ _).mono ?_; rintro e w' ⟨rfl, hw⟩; rw [hw]; clear hw))
      have hTn : (numP T).length ≤ 9 := by have := leP_len8 (n := T) (by omega); rw [numP_len]; omega
      have hNn : (numP N).length ≤ 9 := by have := leP_len8 (n := N) (by omega); rw [numP_len]; omega
      have hMn : (numP m).length ≤ 9 := by have := leP_len8 (n := m) (by omega); rw [numP_len]; omega
      refine (num_any w.heap.size w.heap.size _ [] T (by omega) _ P0.out (by simp) (by simp)).mono ?_
      rintro e w1 ⟨rfl, ⟨v1, h1, ft1⟩, f1⟩
      have B1 : Below w.heap.size w w1 := BB0.out.trans (f1.below (by simp) (fun k hk h => by
        rcases h with h | h
        · omega
        · cases h))
      have H1 := Lib.hid h1
      have BB1 := Lib.hid B1
      clear h1 ft1 f1 B1
      go_wp2_with fail
      refine (num_any w.heap.size w.heap.size _ _ N (by omega) w1 H1.out (by simp; omega) BB1.out.size).mono ?_
      rintro e w2 ⟨rfl, ⟨v2, h2, ft2⟩, f2⟩
      have B2 : Below w.heap.size w w2 := BB1.out.trans (f2.below BB1.out.size (fun k hk h => by
        rcases h with h | h
        · omega
        · have := (H1.out.own.lt h).1; omega))
      have H2 := Lib.hid h2
      have BB2 := Lib.hid B2
      clear h2 ft2 f2 B2
      go_wp2_with fail
      have htx := text_any w.heap.size w.heap.size _ _ A c hcA b w2 H2.out (HB.out.below BB2.out) (fun a e h0 h => by
        obtain ⟨g, o, e2, hg, _⟩ := HB.out.cell h0
        cases e.symm.trans e2
        rcases h with h | h
        · simp at h; omega
        · have := (H2.out.own.lt h).1; simp at this; omega) (by rw [HM.out]; simp; omega) (by simp; omega) BB2.out.size
      rw [HM.out] at htx
      refine htx.mono ?_
      rintro e w3 ⟨rfl, ⟨v3, h3, ft3⟩, f3⟩
      have B3 : Below w.heap.size w w3 := BB2.out.trans (f3.below BB2.out.size (fun k hk h => by
        rcases h with h | h
        · omega
        · have := (H2.out.own.lt h).1; omega))
      have hF : [] ++ numP T ++ numP N ++ (numP m ++ b) = fieldsP T N b := by rw [← HM.out]; simp [fieldsP]
      rw [hF] at h3
      have hFb := fieldsP_bd HT.out HN.out HB.out.bd (by rw [HM.out]; omega)
      have hFl : (fieldsP T N b).length ≤ 140737488351259 := by rw [← hF]; simp [HM.out]; omega
      obtain ⟨F, hFF⟩ : ∃ F, fieldsP T N b = F := ⟨_, rfl⟩
      rw [hFF] at h3 hFb hFl
      have H3 := Lib.hid h3
      have BB3 := Lib.hid B3
      have HF := Lib.hid hFF
      have HFb := Lib.hid hFb
      clear h3 ft3 f3 B3 hF hFF hFb htx
      go_wp2_with fail
      refine (pbytes_any w.heap.size w.heap.size _ F HFb.out w3 H3.out (by omega)).mono ?_
      rintro e w4 ⟨v4, rfl, h4, hb4⟩
      obtain ⟨A4, c4, rfl, hy4, _, hc4⟩ := h4.byt HFb.out
      obtain ⟨L, hL⟩ : ∃ L, F.length = L := ⟨_, rfl⟩
      rw [hL] at h4 hFl ⊢
      have B4 := BB3.out.trans (hb4.mono BB3.out.size)
      have hcA4 : A4 = none → c4 = 0 := by
        rintro rfl
        obtain ⟨_, ⟨h2, _⟩ | ⟨g, cap, cur, h2, _⟩⟩ := h4
        · simp only [Value.slice.injEq] at h2
          exact h2.2.2
        · simp at h2
      have hse := sectors_any (12 + L) (by omega) w4
      obtain ⟨S, hS⟩ : ∃ S, secP (12 + L) = S := ⟨_, rfl⟩
      rw [Int.natCast_add, hS] at hse
      have H4 := Lib.hid hy4
      have BB4 := Lib.hid B4
      have HL := Lib.hid hL
      have HS := Lib.hid hS
      have HC4 := Lib.hid hcA4
      clear h4 hy4 hb4 B4 hL hS hcA4
      go_wp2_with fail
      refine hse.mono ?_
      rintro e w' ⟨rfl, hw⟩
      rw [hw]
      clear hw hse
      have hE1 : formE (T : Int) (N : Int) b = if 1024 < S then 4 else 0 := by
        unfold formE
        rw [if_neg (by omega), Int.toNat_natCast, Int.toNat_natCast, HF.out, HL.out, HS.out]
      have HE := Lib.hid hE1
      clear hE1
      by_cases hbig : 1024 < S
      · have hbI : (1024 : Int) < (S : Int) := by omega
        go_wp2_with fail
        go_ret2
        have e1 : formE (T : Int) (N : Int) b = 4 := by rw [HE.out, if_pos hbig]
        rw [e1]
        refine ⟨_, rfl, ?_, BB4.out⟩
        unfold formV
        rw [e1]
        exact Own8.nil _ _
      · have hbI : (S : Int) ≤ 1024 := by omega
        have hLs : L ≤ 100000027 := by have := HS.out; unfold secP at this; omega
        clear hFl
        go_wp2_with fail
        have b5 := Blk.new w4 5 #[.int .u8 ((L : Int) / 16777216), .int .u8 ((L : Int) / 65536 % 256), .int .u8 ((L : Int) / 256 % 256), .int .u8 ((L : Int) % 256)]
        have e5 : (#[.int .u8 ((L : Int) / 16777216), .int .u8 ((L : Int) / 65536 % 256), .int .u8 ((L : Int) / 256 % 256), .int .u8 ((L : Int) % 256)] : Array Value) = (bys (be4P L)).toArray := by
          simp [bys, be4P]
          omega
        have B5 := (Below.refl w4.heap.size w4).alloc (Nat.le_refl _) (.cells #[.int .u8 ((L : Int) / 16777216), .int .u8 ((L : Int) / 65536 % 256), .int .u8 ((L : Int) / 256 % 256), .int .u8 ((L : Int) % 256)] 5)
        have hs5 : (w4.alloc (.cells #[.int .u8 ((L : Int) / 16777216), .int .u8 ((L : Int) / 65536 % 256), .int .u8 ((L : Int) / 256 % 256), .int .u8 ((L : Int) % 256)] 5)).heap.size = w4.heap.size + 1 := World.size_alloc _ _
        have hsc := scsum_any A4 c4 HC4.out F _ (H4.out.below B5) (by rw [HL.out]; omega) (HG.out.below (BB4.out.trans (B5.mono BB4.out.size)))
        rw [HL.out] at hsc
        refine hsc.mono ?_
        clear hsc
        obtain ⟨W5, hW5⟩ : ∃ W5, w4.alloc (.cells #[.int .u8 ((L : Int) / 16777216), .int .u8 ((L : Int) / 65536 % 256), .int .u8 ((L : Int) / 256 % 256), .int .u8 ((L : Int) % 256)] 5) = W5 := ⟨_, rfl⟩
        rw [hW5] at b5 B5 hs5 ⊢
        rw [e5] at b5
        clear hW5 e5
        rintro e w6 ⟨A5, c5, rfl, hnew, hB6⟩
        have hA5 : A5 = none → c5 = 0 := by
          rintro rfl
          obtain ⟨g, o, e, _⟩ := hnew.byt.cell (by rw [sumP_len]; omega)
          cases e
        have b6 := b5.fr (Fr.of_below hB6) (by have := b5.lt; omega)
        have B6 := BB4.out.trans ((B5.mono BB4.out.size).trans (hB6.mono (Nat.le_trans BB4.out.size B5.size)))
        have hy6 := (H4.out.below B5).below hB6
        have H6 := Lib.hid hnew
        have Y6 := Lib.hid hy6
        have BK6 := Lib.hid b6
        have BB6 := Lib.hid B6
        have HA5 := Lib.hid hA5
        clear hnew hy6 b5 b6 B5 B6 hB6 hA5
        go_wp2_with fail
        have b7 := Blk.new w6 22 #[.slice (some ⟨w4.heap.size, 0, none⟩) 4 4, .slice A5 8 c5, .slice A4 L c4]
        have B7 := (Below.refl w6.heap.size w6).alloc (Nat.le_refl _) (.cells #[.slice (some ⟨w4.heap.size, 0, none⟩) 4 4, .slice A5 8 c5, .slice A4 L c4] 22)
        have hT7 : TxsV (w6.alloc (.cells #[.slice (some ⟨w4.heap.size, 0, none⟩) 4 4, .slice A5 8 c5, .slice A4 L c4] 22)) (some ⟨w6.heap.size, 0, none⟩) [.slice (some ⟨w4.heap.size, 0, none⟩) 4 4, .slice A5 8 c5, .slice A4 L c4] [be4P L, sumP F, F] :=
          ⟨rfl, fun _ => ⟨w6.heap.size, 0, rfl, b7.lt, fun j x hx => by rw [Nat.zero_add, b7.cell j]; simpa using hx⟩, fun i h1 h2 => by
            match i, h1 with
            | 0, _ => exact ⟨_, 4, rfl, (BK6.out.byt (be4P_bd L)).below B7, by simp⟩
            | 1, _ => exact ⟨A5, c5, by show _ = Value.slice A5 (sumP F).length c5; rw [sumP_len]; rfl, H6.out.byt.below B7, HA5.out⟩
            | 2, _ => exact ⟨A4, c4, by rw [← HL.out]; rfl, Y6.out.below B7, HC4.out⟩⟩
        have hfl : [be4P L, sumP F, F].flatten = be4P L ++ sumP F ++ F := by simp
        have hfl2 : (be4P L ++ sumP F ++ F).length = 12 + L := by simp [be4P_len, sumP_len, HL.out]; omega
        have hcc := concat_any (some ⟨w6.heap.size, 0, none⟩) 3 _ _ _ hT7 (by simp) (by rw [hfl, hfl2]; omega)
        rw [hfl] at hcc
        refine hcc.mono ?_
        rintro e w8 ⟨v8, rfl, h8, hB8⟩
        have hS64 : 12 + L ≤ S * 64 := by rw [← HS.out]; unfold secP; omega
        obtain ⟨v9, w9, hap, ho9, hf9, _⟩ := app8_zeros (ty := 22) (S * 64 - (12 + L)) h8 (by rw [hfl2]; omega) hB8.size
        obtain ⟨A8, c8, rfl⟩ := h8.form
        rw [hfl2] at hap ⊢
        rw [show ((S * 64 - (12 + L) : Nat) : Int) = (S : Int) * 64 - (12 + (L : Int)) by omega] at hap
        have hform : be4P L ++ sumP F ++ F ++ List.replicate (S * 64 - (12 + L)) 0 = formP T N b := by
          unfold formP
          rw [HF.out, HL.out, HS.out]
        rw [hform] at ho9
        have B9 : Below w.heap.size w w9 := BB6.out.trans ((B7.mono BB6.out.size).trans ((hB8.mono (Nat.le_trans BB6.out.size B7.size)).trans (hf9.below (Nat.le_trans BB6.out.size (Nat.le_trans B7.size hB8.size)) (fun k hk e => by
          have := (h8.lt e).1
          have := BB6.out.size
          simp at *
          omega))))
        have hsz9 : w.heap.size ≤ (w6.alloc (.cells #[.slice (some ⟨w4.heap.size, 0, none⟩) 4 4, .slice A5 8 c5, .slice A4 L c4] 22)).heap.size := by have := BB6.out.size; simp; omega
        have HO := Lib.hid ho9
        have BB9 := Lib.hid B9
        have HSZ := Lib.hid hsz9
        clear b7 B7 hT7 hfl hfl2 hcc h8 hB8 ho9 hf9 hform B9 hsz9
        go_wp2_with fail
        go_ret2
        have e1 : formE (T : Int) (N : Int) b = 0 := by rw [HE.out, if_neg hbig]
        rw [e1]
        refine ⟨_, rfl, ?_, BB9.out⟩
        unfold formV
        rw [if_pos e1, Int.toNat_natCast, Int.toNat_natCast]
        obtain ⟨hl, hh⟩ := HO.out
        exact ⟨hl, hh.imp id (fun ⟨g, cap, cur, h1, h2, h3⟩ => ⟨g, cap, cur, h1, Nat.le_trans HSZ.out h2, h3⟩)⟩
    · have d1 : decide (0 ≤ t ∧ t ≤ 1099511627776) = true := by simpa using ht
      have d2 : decide (0 ≤ n ∧ n ≤ 1099511627776) = false := by simpa using hn
      have e1 : formE t n b = 5 := by unfold formE; rw [if_pos (.inr hn)]
      have HE := Lib.hid e1
      clear ht hn hb hg e1
      go_enter Tryd.func15, Tryd.ntmps15
      go_wp2_with (first | (go_at_call 51; refine (scis_any _ _).mono ?_; rintro e w' ⟨rfl, hw⟩; rw [hw]; clear hw))
      go_ret2
      rw [HE.out]
      refine ⟨_, rfl, ?_, Below.refl _ _⟩
      unfold formV
      rw [HE.out]
      exact Own8.nil _ _
  · have d1 : decide (0 ≤ t ∧ t ≤ 1099511627776) = false := by simpa using ht
    have e1 : formE t n b = 5 := by unfold formE; rw [if_pos (.inl ht)]
    have HE := Lib.hid e1
    clear ht hb hg e1
    go_enter Tryd.func15, Tryd.ntmps15
    go_wp2_with (first | (go_at_call 51; refine (scis_any _ _).mono ?_; rintro e w' ⟨rfl, hw⟩; rw [hw]; clear hw))
    go_ret2
    rw [HE.out]
    refine ⟨_, rfl, ?_, Below.refl _ _⟩
    unfold formV
    rw [HE.out]
    exact Own8.nil _ _

end Go.Proofs.YtohadeijmmmcdaaDoor
end
