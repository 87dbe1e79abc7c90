/-
  field.Eye: what ends a reading; bytes taken.
  field.Eye: a text read; what is left.
  What scroll.read asks of an eye (its closure).
-/
import Derived.Test.YtdkanehjahpehaaGreatDoorJScrB
import Derived.Test.YtdkanehjahpehaaGreatDoorJCat

section
namespace Go.Proofs.YtdkanehjahpehaaGreatDoor
open Go.RowKit
set_option maxRecDepth 100000
theorem sle_of (x : Value) (lo hi mx : Option Value) : Instr.sliceAt 28 x lo hi mx = SLs 28 x lo hi mx := rfl
attribute [local go_sem ↓] sle_of

/-- What a reading that fails panics with. -/
def brokenV (x : Int) : Value := .iface 200 (.agg #[.int .i64 x])
/-- An eye that has l before it. -/
structure IsEye (w : World) (p : Nat) (A : Option Addr) (c : Nat) (l : List Int) : Prop where
  st : Blk w p 202 #[.slice A l.length c]
  by_ : Byt w A l
  ne : ∀ a, A = some a → 0 < l.length → a.block ≠ p
  cap : l.length ≤ c

set_option maxHeartbeats 1000000 in
theorem efail_any (v : Value) (x : Int) (hx : (x != 0) = true) (w : World) :
    Calls Tryz.prog 149 #[v, .int .i64 x] w fun e w' => e = .panicked [{ v := brokenV x, recovered := false }] ∧ w' = w := by
  go_enter Tryz.func149, Tryz.ntmps149
  go_wp2
  first
    | exact ⟨rfl, rfl, rfl⟩

set_option maxHeartbeats 2000000 in
theorem take_few (p : Nat) (A : Option Addr) (c : Nat) (l : List Int) (n : Nat) (hn : l.length < n) (w : World) (h : IsEye w p A c l) :
    Calls Tryz.prog 148 #[.pointer (some ⟨p, 0, none⟩), .int .i64 (n : Int)] w fun e w' => e = .panicked [{ v := brokenV 2, recovered := false }] ∧ w' = w := by
  have k := h.st.cell 0
  have k' : w.cell? ⟨p, 0, none⟩ = some (.slice A l.length c) := k
  have hlt : (l.length : Int) < (n : Int) := by omega
  clear h k
  go_enter Tryz.func148, Tryz.ntmps148
  go_wp2_with fail
  refine (efail_any _ 2 rfl w).mono ?_
  rintro e w' ⟨rfl, hw⟩
  rw [hw]
  first
    | exact ⟨rfl, rfl, rfl⟩

set_option maxHeartbeats 4000000 in
theorem take_ok (p : Nat) (A : Option Addr) (c : Nat) (l : List Int) (n : Nat) (hn : n ≤ l.length) (hl : l.length ≤ 1000000000) (w : World) (h : IsEye w p A c l) :
    Calls Tryz.prog 148 #[.pointer (some ⟨p, 0, none⟩), .int .i64 (n : Int)] w fun e w' =>
      ∃ A', e = .returned (.slice A' n n) ∧ Byt w' A' (l.take n) ∧ (∃ A2 c2, IsEye w' p A2 c2 (l.drop n)) ∧ Fr (fun k => k = p) w w' := by
  have k' : w.cell? ⟨p, 0, none⟩ = some (.slice A l.length c) := h.st.cell 0
  have f' := h.st.frozen 0
  obtain ⟨A1, hs1, hy1, hb1, _⟩ := part8 h.by_ c 0 n n none (some (.int .i64 (n : Int))) (some (.int .i64 (n : Int))) (Nat.zero_le _) hn (Nat.le_refl _) (Nat.le_trans hn h.cap) (.inl ⟨rfl, rfl⟩) (.inr ⟨_, rfl, rfl⟩) (.inr ⟨⟨_, rfl, rfl⟩, by simp⟩)
  obtain ⟨A2, hs2, hy2, hb2, hn2⟩ := part8 h.by_ c n l.length c (some (.int .i64 (n : Int))) none none hn (Nat.le_refl _) h.cap (Nat.le_refl _) (.inr ⟨_, rfl, rfl⟩) (.inl ⟨rfl, rfl⟩) (.inl ⟨rfl, rfl⟩)
  simp only [Nat.sub_zero, List.drop_zero] at hs1 hy1
  rw [List.take_of_length_le (by simp)] at hy2
  obtain ⟨N, hN⟩ : ∃ N, l.length = N := ⟨_, rfl⟩
  rw [hN] at k' hs1 hs2
  have hnN : (n : Int) ≤ (N : Int) := by omega
  have H := Lib.hid h
  have HN := Lib.hid hN
  have Y1 := Lib.hid hy1
  have Y2 := Lib.hid hy2
  have B1 := Lib.hid hb1
  have B2 := Lib.hid hb2
  have N2 := Lib.hid hn2
  clear h hN hy1 hy2 hb1 hb2 hn2
  go_enter Tryz.func148, Tryz.ntmps148
  go_wp2_with fail
  go_ret
  have hF : Fr (fun k => k = p) w (w.setCell ⟨p, 0, none⟩ (.slice A2 (N - n) (c - n))) := (Fr.refl (fun k => k = p) w).setCell (p := ⟨p, 0, none⟩) (fun _ => rfl) _
  have hne : ∀ A' : Option Addr, (∀ a, A' = some a → ∃ b, A = some b ∧ a.block = b.block) → 0 < N → ∀ a, A' = some a → a.block ≠ p := fun A' hA h0 a ha => by
    obtain ⟨b, e1, e2⟩ := hA a ha
    rw [e2]
    exact H.out.ne b e1 (by rw [HN.out]; exact h0)
  refine ⟨A1, rfl, Y1.out.fr hF (fun a ha h0 => hne A1 B1.out (by have := HN.out; simp at h0; omega) a ha), ⟨A2, c - n, ?_, Y2.out.fr hF (fun a ha h0 => hne A2 B2.out (by have := HN.out; simp at h0; omega) a ha), fun a ha h0 => hne A2 B2.out (by have := HN.out; simp at h0; omega) a ha, ?_⟩, hF⟩
  · have := H.out.st.set_ 0 (.slice A2 (N - n) (c - n))
    rw [List.length_drop, HN.out]
    simpa using this
  · have := H.out.cap
    rw [List.length_drop]
    omega

theorem or_low (a c : Nat) (ha : a * 256 + 255 < 18446744073709551616) (hc : c < 256) : bits .or .u64 ((a * 256 : Nat) : Int) (c : Int) = ((a * 256 + c : Nat) : Int) := by
  rw [u64_or_nat _ _ (by omega) (by omega)]
  congr 1
  have e := Nat.shiftLeft_add_eq_or_of_lt (i := 8) (b := c) (by omega) a
  rw [Nat.shiftLeft_eq] at e
  rw [← e]
theorem valP_lt' : ∀ (n : Nat) (l : List Int), l.length = n → (∀ x ∈ l, 0 ≤ x ∧ x ≤ 255) → valP l < 256 ^ n
  | 0, l, hl, _ => by
    have : l = [] := List.length_eq_zero_iff.1 hl
    subst this
    simp [valP]
  | n + 1, l, hl, h => by
    rcases List.eq_nil_or_concat l with rfl | ⟨q, x, rfl⟩
    · simp at hl
    · rw [List.concat_eq_append] at hl h ⊢
      have h1 := valP_lt' n q (by simpa using hl) (fun y hy => h y (by simp [hy]))
      have h2 := h x (by simp)
      rw [valP_snoc, Nat.pow_succ]
      omega
theorem valP_lt (l : List Int) (h : ∀ x ∈ l, 0 ≤ x ∧ x ≤ 255) : valP l < 256 ^ l.length := valP_lt' _ l rfl h

/-- What is behind the reading of a number. -/
def NumPost (p : Nat) (R : Option (Nat × List Int)) (e : Ending) (w' : World) : Prop :=
  match R with
  | none => ∃ x, (x != 0) = true ∧ e = .panicked [{ v := brokenV x, recovered := false }]
  | some (v, r) => e = .returned (.int .u64 (v : Int)) ∧ ∃ A2 c2, IsEye w' p A2 c2 r

set_option maxHeartbeats 8000000 in
/-- The next number: what it is; or what it panics with. -/
theorem enum_any (p : Nat) (A : Option Addr) (c : Nat) (l : List Int) (most : Nat) (_hm : most ≤ 18446744073709551615) (hl : l.length ≤ 1000000000) (w : World) (h : IsEye w p A c l) :
    Calls Tryz.prog 108 #[.pointer (some ⟨p, 0, none⟩), .int .u64 (most : Int)] w fun e w' => Fr (fun k => k = p) w w' ∧ NumPost p (takeNumP most l) e w' := by
  cases l with
  | nil =>
    go_enter Tryz.func108, Tryz.ntmps108
    go_wp2_with fail
    refine (take_few p A c [] 1 (by simp) w h).mono ?_
    rintro e w' ⟨rfl, hw⟩
    rw [hw]
    exact ⟨rfl, Fr.refl _ _, 2, rfl, rfl⟩
  | cons k tl =>
    have hk := h.by_.bd k (by simp)
    have htb : ∀ x ∈ tl, 0 ≤ x ∧ x ≤ 255 := fun x hx => h.by_.bd x (by simp [hx])
    obtain ⟨K, rfl⟩ : ∃ K : Nat, k = K := ⟨k.toNat, by omega⟩
    have hKb : K ≤ 255 := by omega
    have hT : takeNumP most ((K : Int) :: tl) = if 8 < K ∨ tl.length < K ∨ (0 < K ∧ tl.headD 1 = 0) ∨ most < valP (tl.take K) then none else some (valP (tl.take K), tl.drop K) := by
      simp only [takeNumP, Int.toNat_natCast]
    obtain ⟨R, hR⟩ : ∃ R, takeNumP most ((K : Int) :: tl) = R := ⟨_, rfl⟩
    rw [hR]
    rw [hT] at hR
    have HR := Lib.hid hR
    have H := Lib.hid h
    have HTB := Lib.hid htb
    have htl : tl.length ≤ 1000000000 := by simp at hl; omega
    clear h htb hk hT hR
    go_enter Tryz.func108, Tryz.ntmps108
    go_wp2_with fail
    refine (take_ok p A c ((K : Int) :: tl) 1 (by simp) hl w H.out).mono ?_
    rintro e w1 ⟨A1, rfl, y1, ⟨A2, c2, h2⟩, f1⟩
    obtain ⟨g1, o1, rfl, _, hc1⟩ := y1.at_ (i := 0) (by simp)
    have hc1' : w1.cell? ⟨g1, o1, none⟩ = some (.int .u8 (K : Int)) := by simpa using hc1
    have h2' : IsEye w1 p A2 c2 tl := by simpa using h2
    have H2 := Lib.hid h2'
    have F1 := Lib.hid f1
    clear y1 h2 h2' f1 hc1
    by_cases h8 : 8 < K
    · have h8i : (8 : Int) < (K : Int) := by omega
      have P : (if 8 < K ∨ tl.length < K ∨ (0 < K ∧ tl.headD 1 = 0) ∨ most < valP (tl.take K) then (none : Option (Nat × List Int)) else some (valP (tl.take K), tl.drop K)) = none := if_pos (.inl h8)
      have HP := Lib.hid P
      clear P
      go_wp2_with fail
      refine (efail_any _ 3 rfl w1).mono ?_
      rintro e w' ⟨rfl, hw⟩
      rw [hw]
      refine ⟨rfl, F1.out, ?_⟩
      rw [show R = none from HR.out.symm.trans HP.out]
      exact ⟨3, rfl, rfl⟩
    · have h8i : (K : Int) ≤ 8 := by omega
      by_cases hfew : tl.length < K
      · have P : (if 8 < K ∨ tl.length < K ∨ (0 < K ∧ tl.headD 1 = 0) ∨ most < valP (tl.take K) then (none : Option (Nat × List Int)) else some (valP (tl.take K), tl.drop K)) = none := if_pos (.inr (.inl hfew))
        have HP := Lib.hid P
        clear P
        go_wp2_with fail
        refine (take_few p A2 c2 tl K hfew w1 H2.out).mono ?_
        rintro e w' ⟨rfl, hw⟩
        rw [hw]
        refine ⟨rfl, F1.out, ?_⟩
        rw [show R = none from HR.out.symm.trans HP.out]
        exact ⟨2, rfl, rfl⟩
      · go_wp2_with fail
        refine (take_ok p A2 c2 tl K (by omega) htl w1 H2.out).mono ?_
        rintro e w2 ⟨A3, rfl, y3, ⟨A4, c4, h4⟩, f2⟩
        have F2 := Lib.hid (F1.out.trans f2 (fun _ _ h => h))
        have Y3 := Lib.hid y3
        have H4 := Lib.hid h4
        have hl3 : (tl.take K).length = K := by rw [List.length_take]; omega
        have HL3 := Lib.hid hl3
        clear y3 h4 f2 hl3
        go_wp2_with fail
        go_loopw [6, 22] (fun v t wr => ∃ i : Nat, i ≤ K ∧ t = .int .i64 i ∧ v = .int .u64 (valP ((tl.take K).take i) : Nat) ∧ (0 < i → tl.headD 1 ≠ 0) ∧ wr = w2)
          (fun _ t _ => K - (intOf t).toNat)
        case atStart => exact ⟨0, Nat.zero_le _, rfl, rfl, fun h => absurd h (by omega), rfl⟩
        case round =>
          obtain ⟨i, hi, rfl, rfl, hh, hw⟩ := hrel
          subst hw
          have HH := Lib.hid hh
          have hvl := valP_lt ((tl.take K).take i) (fun x hx => HTB.out x (List.mem_of_mem_take (List.mem_of_mem_take hx)))
          rw [List.length_take, HL3.out, Nat.min_eq_left hi] at hvl
          have hvb : valP ((tl.take K).take i) < 256 ^ i := hvl
          have HVB := Lib.hid hvb
          clear hh hvl hvb
          by_cases hlt : i < K
          · have hi3 : i < (tl.take K).length := by rw [HL3.out]; exact hlt
            obtain ⟨g3, o3, rfl, _, hc3⟩ := Y3.out.at_ hi3
            have hxb := Y3.out.bd (tl.take K)[i] (List.getElem_mem _)
            have e1 : (tl.take K).take (i + 1) = (tl.take K).take i ++ [(tl.take K)[i]] := List.take_succ_eq_append_getElem hi3
            have e2 : i = 0 → tl.headD 1 = (tl.take K)[i] := fun e => by
              subst e
              cases tl with
              | nil => simp at hi3
              | cons a r => simp
            obtain ⟨x, hx⟩ : ∃ x, (tl.take K)[i] = x := ⟨_, rfl⟩
            rw [hx] at hc3 hxb e1 e2
            obtain ⟨X, rfl⟩ : ∃ X : Nat, x = X := ⟨x.toNat, by omega⟩
            have E1 := Lib.hid e1
            have E2 := Lib.hid e2
            obtain ⟨v, hv⟩ : ∃ v, valP ((tl.take K).take i) = v := ⟨_, rfl⟩
            rw [hv] at HVB ⊢
            have HV := Lib.hid hv
            have h7 : i ≤ 7 := by omega
            have hv56 : v < 72057594037927936 := Nat.lt_of_lt_of_le HVB.out (by
              have := Nat.pow_le_pow_right (n := 256) (by omega) h7
              simpa using this)
            have hXb : X ≤ 255 := by omega
            clear e1 e2 hx hxb hi3 hv
            by_cases hz : i = 0 ∧ X = 0
            · obtain ⟨rfl, rfl⟩ := hz
              have P : (if 8 < K ∨ tl.length < K ∨ (0 < K ∧ tl.headD 1 = 0) ∨ most < valP (tl.take K) then (none : Option (Nat × List Int)) else some (valP (tl.take K), tl.drop K)) = none := if_pos (.inr (.inr (.inl ⟨by omega, by rw [E2.out rfl]; rfl⟩)))
              have HP := Lib.hid P
              clear P
              simp only [Nat.add_zero] at hc3
              go_wp2_with fail
              refine (efail_any _ 3 rfl wr).mono ?_
              rintro e w' ⟨rfl, hw⟩
              rw [hw]
              refine ⟨rfl, F2.out, ?_⟩
              rw [show R = none from HR.out.symm.trans HP.out]
              exact ⟨3, rfl, rfl⟩
            · have horl : bits .or .u64 ((v : Int) * 256) (X : Int) = ((v * 256 + X : Nat) : Int) := by
                have e := or_low v X (by omega) (by omega)
                rwa [Int.natCast_mul] at e
              have hhd : tl.headD 1 ≠ 0 := by
                by_cases h0 : i = 0
                · rw [E2.out h0]
                  omega
                · exact HH.out (by omega)
              have HHD := Lib.hid hhd
              have hval : valP ((tl.take K).take (i + 1)) = v * 256 + X := by rw [E1.out, valP_snoc, HV.out, Int.toNat_natCast]
              have HVAL := Lib.hid hval
              clear hhd hval
              by_cases h0 : i = 0
              · subst h0
                have hX0 : ((X : Int) == 0) = false := by simp; omega
                simp only [Nat.add_zero] at hc3
                go_wp2_with fail
                go_roundw
                case rel => exact ⟨1, by omega, by go_num, by rw [HVAL.out]; go_num, fun _ => HHD.out, by first | rfl | trivial⟩
                case measure => simp [intOf]; omega
              · have hi0 : ((i : Int) == 0) = false := by simp; omega
                clear hz
                go_wp2_with fail
                go_roundw
                case rel => exact ⟨i + 1, by omega, by go_num, by rw [HVAL.out]; go_num, fun _ => HHD.out, by first | rfl | trivial⟩
                case measure => simp [intOf]; omega
          · obtain rfl : i = K := by omega
            have ht : (tl.take i).take i = tl.take i := by rw [List.take_take, Nat.min_self]
            rw [ht] at HVB ⊢
            obtain ⟨v, hv⟩ : ∃ v, valP (tl.take i) = v := ⟨_, rfl⟩
            rw [hv] at HVB ⊢
            have HV := Lib.hid hv
            have h0 : ¬ (0 < i ∧ tl.headD 1 = 0) := fun ⟨h1, h2⟩ => HH.out h1 h2
            have H0 := Lib.hid h0
            clear ht hv h0
            by_cases hbig : most < v
            · have hbi : (most : Int) < (v : Int) := by omega
              go_wp2_with fail
              refine (efail_any _ 5 rfl wr).mono ?_
              rintro e w' ⟨rfl, hw⟩
              rw [hw]
              refine ⟨rfl, F2.out, ?_⟩
              rw [show R = none from HR.out.symm.trans (if_pos (.inr (.inr (.inr (by rw [HV.out]; exact hbig)))))]
              exact ⟨5, rfl, rfl⟩
            · have hbi : (v : Int) ≤ (most : Int) := by omega
              go_wp2_with fail
              go_ret
              refine ⟨F2.out, ?_⟩
              have hno : ¬ (8 < i ∨ tl.length < i ∨ (0 < i ∧ tl.headD 1 = 0) ∨ most < valP (tl.take i)) := by
                rw [HV.out]
                rintro (h | h | h | h)
                · omega
                · omega
                · exact H0.out h
                · omega
              have hsome : R = some (v, tl.drop i) := by rw [← HV.out]; exact HR.out.symm.trans (if_neg hno)
              rw [hsome]
              exact ⟨rfl, A4, c4, H4.out⟩

end Go.Proofs.YtdkanehjahpehaaGreatDoor
end

section
namespace Go.Proofs.YtdkanehjahpehaaGreatDoor
open Go.RowKit
set_option maxRecDepth 100000

theorem takeNumP_le {most : Nat} {l r : List Int} {v : Nat} (h : takeNumP most l = some (v, r)) : v ≤ most ∧ r.length ≤ l.length := by
  cases l with
  | nil => simp [takeNumP] at h
  | cons k tl =>
    simp only [takeNumP] at h
    split at h
    · cases h
    · rename_i hc
      simp only [Option.some.injEq, Prod.mk.injEq] at h
      obtain ⟨rfl, rfl⟩ := h
      simp only [not_or, Nat.not_lt] at hc
      refine ⟨hc.2.2.2, ?_⟩
      simp
      omega

theorem IsEye.below {w w' : World} {p : Nat} {A : Option Addr} {c : Nat} {l : List Int} (h : IsEye w p A c l) (hb : Below w.heap.size w w') : IsEye w' p A c l :=
  ⟨h.st.fr (Fr.of_below hb) (by have := h.st.lt; omega), h.by_.below hb, h.ne, h.cap⟩

/-- What is behind the reading of a text. -/
def TextPost (n₀ p : Nat) (R : Option (List Int × List Int)) (e : Ending) (w' : World) : Prop :=
  match R with
  | none => ∃ x, (x != 0) = true ∧ e = .panicked [{ v := brokenV x, recovered := false }]
  | some (t, r) => ∃ v, e = .returned v ∧ Own8 n₀ w' v t ∧ ∃ A2 c2, IsEye w' p A2 c2 r

set_option maxHeartbeats 8000000 in
theorem etext_any (p : Nat) (A : Option Addr) (c : Nat) (l : List Int) (most : Nat) (hm : most ≤ 400000000) (hl : l.length ≤ 400000000) (w : World) (h : IsEye w p A c l) :
    Calls Tryz.prog 110 #[.pointer (some ⟨p, 0, none⟩), .int .i64 (most : Int)] w fun e w' => Fr (fun k => k = p) w w' ∧ TextPost w.heap.size p (takeTextP most l) e w' := by
  have hen := enum_any p A c l most (by omega) (by omega) w h
  have hmx : (0 : Int) ≤ (most : Int) := by omega
  cases hR : takeNumP most l with
  | none =>
    have hT : takeTextP most l = none := by unfold takeTextP; rw [hR]
    rw [hT]
    rw [hR] at hen
    have HEN := Lib.hid hen
    clear hen hR hT
    go_enter Tryz.func110, Tryz.ntmps110
    go_wp2_with fail
    refine HEN.out.mono ?_
    rintro e w1 ⟨f1, x, hx, rfl⟩
    exact ⟨rfl, f1, x, hx, rfl⟩
  | some vr =>
    obtain ⟨v, r⟩ := vr
    obtain ⟨hv, hrl⟩ := takeNumP_le hR
    have hT : takeTextP most l = if r.length < v then none else some (r.take v, r.drop v) := by unfold takeTextP; rw [hR]
    rw [hT]
    rw [hR] at hen
    have HEN := Lib.hid hen
    clear hen hR hT
    by_cases hfew : r.length < v
    · rw [if_pos hfew]
      go_enter Tryz.func110, Tryz.ntmps110
      go_wp2_with fail
      refine HEN.out.mono ?_
      rintro e w1 ⟨f1, rfl, A2, c2, h2⟩
      have H2 := Lib.hid h2
      have F1 := Lib.hid f1
      clear h2 f1
      go_wp2_with fail
      refine (take_few p A2 c2 r v hfew w1 H2.out).mono ?_
      rintro e w' ⟨rfl, hw⟩
      rw [hw]
      exact ⟨rfl, F1.out, 2, rfl, rfl⟩
    · rw [if_neg hfew]
      go_enter Tryz.func110, Tryz.ntmps110
      go_wp2_with fail
      refine HEN.out.mono ?_
      rintro e w1 ⟨f1, rfl, A2, c2, h2⟩
      have H2 := Lib.hid h2
      have F1 := Lib.hid f1
      clear h2 f1
      go_wp2_with fail
      refine (take_ok p A2 c2 r v (by omega) (by omega) w1 H2.out).mono ?_
      rintro e w2 ⟨A3, rfl, y3, ⟨A4, c4, h4⟩, f2⟩
      have hl3 : (r.take v).length = v := by rw [List.length_take]; omega
      have hc3 : A3 = none → v = 0 := by
        rintro rfl
        rcases Nat.eq_zero_or_pos v with h0 | h0
        · exact h0
        · obtain ⟨g, o, e, _⟩ := y3.cell (by omega)
          cases e
      have hcl := clone_any A3 v hc3 (r.take v) w2 y3 (by omega)
      rw [hl3] at hcl
      have HCL := Lib.hid hcl
      have H4 := Lib.hid h4
      have F2 := Lib.hid (F1.out.trans f2 (fun _ _ h => h))
      clear y3 h4 f2 hl3 hc3 hcl
      go_wp2_with fail
      refine HCL.out.mono ?_
      rintro e w3 ⟨v5, rfl, ho, hb3⟩
      have HO := Lib.hid ho
      have HB := Lib.hid hb3
      clear ho hb3
      go_wp2_with fail
      go_ret
      have hF3 : Fr (fun k => k = p) w w3 := F2.out.trans ((Fr.of_below HB.out).mono (G := fun k => k = p) (fun k hk h => absurd hk (by omega))) (fun _ _ h => h)
      obtain ⟨hl5, hh5⟩ := HO.out
      refine ⟨hF3, v5, rfl, ⟨hl5, hh5.imp id (fun ⟨g, cap, cur, h1, h2, h3⟩ => ⟨g, cap, cur, h1, Nat.le_trans F2.out.size h2, h3⟩)⟩, A4, c4, H4.out.below HB.out⟩

set_option maxHeartbeats 1000000 in
theorem eleft_any (p : Nat) (A : Option Addr) (c : Nat) (l : List Int) (w : World) (h : IsEye w p A c l) :
    Calls Tryz.prog 107 #[.pointer (some ⟨p, 0, none⟩)] w fun e w' => e = .returned (.int .i64 (l.length : Int)) ∧ w' = w := by
  have k : w.cell? ⟨p, 0, none⟩ = some (.slice A l.length c) := h.st.cell 0
  obtain ⟨n, hn⟩ : ∃ n, l.length = n := ⟨_, rfl⟩
  rw [hn] at k ⊢
  clear h hn
  go_enter Tryz.func107, Tryz.ntmps107
  go_wp2
  go_ret
  exact ⟨rfl, rfl⟩

end Go.Proofs.YtdkanehjahpehaaGreatDoor
end

section
namespace Go.Proofs.YtdkanehjahpehaaGreatDoor
open Go.RowKit
set_option maxRecDepth 100000

/-- A record's fields, and what is left. -/
def fldP (l : List Int) (long : Nat) : Option (Nat × Nat × List Int × List Int) :=
  match takeNumP mostP l with
  | none => none
  | some (t, r) => match takeNumP mostP r with
    | none => none
    | some (n, r) => match takeTextP long r with
      | none => none
      | some (x, r) => some (t, n, x, r)
theorem eyeP_fld (l : List Int) (long : Nat) : eyeP l long = match fldP l long with | none => none | some (t, n, x, r) => if r = [] then some (t, n, x) else none := by
  unfold eyeP fldP
  cases takeNumP mostP l with
  | none => rfl
  | some a =>
    obtain ⟨t, r⟩ := a
    simp only
    cases takeNumP mostP r with
    | none => rfl
    | some a =>
      obtain ⟨n, r⟩ := a
      simp only
      cases takeTextP long r with
      | none => rfl
      | some a => rfl

theorem byt_ne {w : World} {rb : Nat} {t : TypeId} {cs : Array Value} {A : Option Addr} {l : List Int} (hb : Blk w rb t cs) (hcs : ∀ (i : Nat) (y : Int), cs[i]? ≠ some (Value.int .u8 y)) (hy : Byt w A l) : ∀ a, A = some a → 0 < l.length → a.block ≠ rb := by
  intro a ha h0 e
  obtain ⟨g, o, e2, _, hc⟩ := hy.at_ h0
  cases ha.symm.trans e2
  simp only at e
  subst e
  rw [hb.cell] at hc
  exact hcs _ _ hc
theorem Own8.base {B B' : Nat} {w : World} {v : Value} {l : List Int} (h : Own8 B w v l) (hB : B' ≤ B) : Own8 B' w v l := by
  obtain ⟨hl5, hh5⟩ := h
  exact ⟨hl5, hh5.imp id (fun ⟨g, cap, cur, h1, h2, h3⟩ => ⟨g, cap, cur, h1, Nat.le_trans hB h2, h3⟩)⟩

end Go.Proofs.YtdkanehjahpehaaGreatDoor
end
