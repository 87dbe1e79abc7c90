/-
  seisinlaw28.DriverAgain: the walk.
-/
import Derived.Test.YtdkanehjahpehaaGreatDoorJDrvG

namespace Go.Proofs.YtdkanehjahpehaaGreatDoor
open Go.RowKit Go.Shelf
set_option maxRecDepth 100000

theorem asks_at {K i : Nat} {x : Nat → TkD} (hi : 1 ≤ i) (hx : ∀ j, j < 2 → x j = tkAt K (i - 1)) : asksTo K 3 x 2 = if i % 12 = 0 then [(0, ((i / 12 % K : Nat) : Int), 3, 1), (1, ((i / 12 % K : Nat) : Int), 3, 2)] else [] := by
  obtain ⟨m, rfl⟩ : ∃ m, i = m + 1 := ⟨i - 1, by omega⟩
  have h0 := hx 0 (by omega)
  have h1 := hx 1 (by omega)
  rw [Nat.add_sub_cancel] at h0 h1
  show ([] ++ asksQ K 3 x 0) ++ asksQ K 3 x 1 = _
  unfold asksQ
  rw [h0, h1, tkAt_asks]
  by_cases h : (m + 1) % 12 = 0
  · rw [if_pos h, if_pos (by simpa using h), if_pos (by simpa using h), tkAt_r K m h]
    rfl
  · rw [if_neg h, if_neg (by simpa using h), if_neg (by simpa using h)]
    rfl
theorem asks_end {K T u : Nat} {x : Nat → TkD} (h0 : x 0 = tkAt K T) (h1 : x 1 = ⟨u, 1, true⟩) : asksTo K 3 x 2 = (if (T + 1) % 12 = 0 then [(0, (((T + 1) / 12 % K : Nat) : Int), 3, 1)] else []) ++ [(1, (u : Int), 3, 2)] := by
  show ([] ++ asksQ K 3 x 0) ++ asksQ K 3 x 1 = _
  have e1 : asksQ K 3 x 1 = [(1, (u : Int), 3, 2)] := by
    unfold asksQ
    rw [h1]
    rfl
  rw [e1]
  congr 1
  unfold asksQ
  rw [h0, tkAt_asks]
  by_cases h : (T + 1) % 12 = 0
  · rw [if_pos h, if_pos (by simpa using h), tkAt_r K T h]
    rfl
  · rw [if_neg h, if_neg (by simpa using h)]
    rfl
theorem told_mod {K T : Nat} {ld : Int} (h : ¬ (0 ≤ ld ∧ ld < (K : Int))) : toldP K ld (T / 12 % K) = (T / 12 + 1) % K := by
  unfold toldP
  rw [if_neg h, Nat.mod_add_mod]
def ansV (ld : Int) : Array Value := (.int .i64 3 :: .int .i64 2 :: .int .i64 ld :: .int .i64 22 :: repZ.drop 1).toArray
theorem bdRep_of (parts : Array (Nat × Value)) : Instr.build 60 parts = BDs 60 parts := rfl
theorem bdAns_of (parts : Array (Nat × Value)) : Instr.build 65 parts = BDs 65 parts := rfl
theorem bdRep22 (w : World) : (BDs 60 #[(0, .int .i64 22)]).run Tryz.prog w = .ok (.agg (Value.int .i64 22 :: repZ.drop 1).toArray) w := run_build w _ _ _ (by kernel_rfl)
theorem bdAns (ld : Int) (w : World) : (BDs 65 #[(0, .int .i64 3), (1, .int .i64 2), (2, .int .i64 ld), (3, .agg (Value.int .i64 22 :: repZ.drop 1).toArray)]).run Tryz.prog w = .ok (.agg (ansV ld)) w := run_build w _ _ _ (by kernel_rfl)
attribute [local go_sem ↓] bdRep_of bdAns_of
theorem reqs_none {E : Nat} {w : World} {out : Value} {R : List (List Value)} (hO : OwnR 41 5 E w out R) (hR : Reqs R []) : ∃ A co, out = .slice A 0 co := by
  obtain ⟨A, co, e, _⟩ := reqs_at hO hR
  exact ⟨A, co, e⟩

set_option maxHeartbeats 16000000 in
theorem again_law (a b ld : Int) (w : World) (ha : 0 ≤ a ∧ a ≤ 255) (hb : 0 ≤ b ∧ b ≤ 255) (hl : -128 ≤ ld ∧ ld ≤ 127) (hg : Glob w) :
    Calls Tryz.prog 5 #[.int .u8 a, .int .u8 b, .int .i8 ld] w fun e w' => e = .returned (.bool true) ∧ Below w.heap.size w w' := by
  obtain ⟨A, rfl⟩ : ∃ A : Nat, a = A := ⟨a.toNat, by omega⟩
  obtain ⟨T, rfl⟩ : ∃ A : Nat, b = A := ⟨b.toNat, by omega⟩
  have hT : T ≤ 255 := by omega
  obtain ⟨K, hK⟩ : ∃ K : Nat, 1 + A % 7 = K := ⟨_, rfl⟩
  have hK1 : 1 ≤ K := by omega
  have hK7 : K ≤ 7 := by omega
  have hr1 : (A : Int).tmod 7 = ((A % 7 : Nat) : Int) := by rw [Int.tmod_eq_emod_of_nonneg (by omega)]; rfl
  have hw0 : IntKind.i64.wrap (A : Int) = (A : Int) := by rw [IntKind.wrap_i64]; omega
  have hw1 : IntKind.i64.wrap (1 + ((A % 7 : Nat) : Int)) = (K : Int) := by rw [IntKind.wrap_i64]; omega
  have h2 := two_any w
  have HG := Lib.hid hg
  have HK := Lib.hid hK
  clear hg hK
  go_enter Tryz.func5, Tryz.ntmps5
  go_wp2_with fail
  rw [show 1 + (A : Int) % 7 = (K : Int) by have := HK.out; omega]
  clear hr1 hw0 hw1
  with_reducible refine h2.mono ?_
  rintro e w1 ⟨⟨A1, c1, A2, c2, rfl, hTx⟩, hB1⟩
  have hnew := new_any 3 K hK1 hK7 A1 c1 A2 c2 twoT two_check two_lock two_each two_all w1 hTx (HG.out.below hB1)
  obtain ⟨tv, htv⟩ : ∃ x, txV A1 c1 A2 c2 twoT = x := ⟨_, rfl⟩
  rw [htv] at hnew
  rw [htv]
  have HB1 := Lib.hid hB1
  clear hB1 hTx h2 htv
  go_wp2_with fail
  with_reducible refine hnew.mono ?_
  rintro e w2 ⟨⟨E, D, B1, d1, B2, d2, kb, first, out, R, rfl, hE, hd⟩, hB2⟩
  have hB2W := HB1.out.trans (hB2.mono HB1.out.size)
  have ho := out_any hd.drv
  have hwE : w.heap.size ≤ E := by have := HB1.out.size; omega
  have HD := Lib.hid hd
  have HB2 := Lib.hid hB2W
  have HWE := Lib.hid hwE
  clear hd hB2W hwE hB2 hnew hE
  go_wp2_with fail
  with_reducible refine ho.mono ?_
  rintro e w3 ⟨rfl, hdc, hfc⟩
  obtain ⟨hd3, hB3, hO3⟩ := HD.out.clear hdc hfc
  obtain ⟨Ao, co, hout, -⟩ := reqs_at hO3 HD.out.reqs
  rw [show (reqs0 3 2).length = 2 from rfl] at hout
  subst hout
  have hB3W := HB2.out.trans (hB3.mono HWE.out)
  have hx0 : ∀ j, j < 2 → (fun _ : Nat => (⟨0, 12, false⟩ : TkD)) j = tkAt K 0 := fun j _ => (tkAt_zero K (by omega)).symm
  have HD3 := Lib.hid hd3
  have HB3 := Lib.hid hB3W
  have HX0 := Lib.hid hx0
  clear hd3 hB3W hx0 ho hB3 hO3 hdc hfc
  go_wp2_with fail
  go_loopg [9, 10] (T + 1) (fun kk c _ wr => ∃ (i : Nat) (x : Nat → TkD), 1 ≤ i ∧ i ≤ T + 1 ∧ i + kk = T + 2 ∧ c = .int .i64 (i : Int) ∧ (∀ j, j < 2 → x j = tkAt K (i - 1)) ∧ DrvO E wr D 3 2 K B1 d1 B2 d2 twoT 2 kb (fun _ => repZ) first 2 x [] (.slice none 0 0) [] ∧ Below w.heap.size w wr)
  case atStart => exact ⟨1, _, by omega, by omega, by omega, rfl, HX0.out, HD3.out, HB3.out⟩
  case round =>
    obtain ⟨i, x, hi1, hi2, hik, rfl, hx, hd, hB⟩ := hrel
    have hwT : IntKind.i64.wrap (T : Int) = (T : Int) := by rw [IntKind.wrap_i64]; omega
    by_cases hlt : i ≤ T
    · have hltI : (i : Int) ≤ (T : Int) := by omega
      have htk := tick_any hd (by omega) two_check two_lock hK1 hK7 (by simp) (fun j hj => by
        rw [hx j hj]
        unfold tkAt
        simp only
        omega)
      rw [List.nil_append] at htk
      have HX := Lib.hid hx
      have HB := Lib.hid hB
      clear hx hB hd
      go_wp2_with fail
      with_reducible refine htk.mono ?_
      rintro e w4 ⟨rfl, ⟨o4, R4, hd4⟩, hB4⟩
      have ho := out_any hd4.drv
      have hQ := asks_at hi1 HX.out
      rw [hQ] at hd4
      have hB4W := HB.out.trans (hB4.mono HWE.out)
      have HD4 := Lib.hid hd4
      have HB4 := Lib.hid hB4W
      clear hd4 hB4W hB4 htk hQ
      go_wp2_with fail
      with_reducible refine ho.mono ?_
      rintro e w5 ⟨rfl, hdc, hfc⟩
      obtain ⟨hd5, hB5, hO5⟩ := HD4.out.clear hdc hfc
      have hrq := HD4.out.reqs
      have hB5W := HB4.out.trans (hB5.mono HWE.out)
      have hx5 : ∀ j, j < 2 → (if j < 2 then (x j).tick K else x j) = tkAt K (i + 1 - 1) := fun j hj => by
        rw [if_pos hj, HX.out j hj, tkAt_tick]
        congr 1
        omega
      by_cases h12 : i % 12 = 0
      · rw [if_pos h12] at hrq
        obtain ⟨An, cn, hno, hat⟩ := reqs_at hO5 hrq
        obtain ⟨g, o, rfl, hgs, _, p1, _, p3, _⟩ := hat 0 (by simp)
        obtain ⟨g', o', e', _, _, r1, _, r3, _⟩ := hat 1 (by simp)
        cases e'
        rw [show ([(0, ((i / 12 % K : Nat) : Int), 3, 1), (1, ((i / 12 % K : Nat) : Int), 3, 2)] : List (Int × Int × Int × Int)).length = 2 from rfl] at hno
        subst hno
        obtain ⟨r, hr⟩ : ∃ r : Int, ((i / 12 % K : Nat) : Int) = r := ⟨_, rfl⟩
        have hr2 : (i : Int) / 12 % (K : Int) = r := by rw [← hr]; simp
        have hrm : ((i : Int) / 12).tmod (K : Int) = r := by rw [Int.tmod_eq_emod_of_nonneg (by omega)]; exact hr2
        have hK0 : ¬ K = 0 := by omega
        have hwq : IntKind.i64.wrap ((i : Int) / 12) = (i : Int) / 12 := by rw [IntKind.wrap_i64]; omega
        have hS1 : w5.drew.cell? ⟨g, o + 1, none⟩ = some (.int .i64 r) ∧ w5.drew.cell? ⟨g, o + 3, none⟩ = some (.int .i64 1) ∧ w5.drew.cell? ⟨g, o + 5 + 1, none⟩ = some (.int .i64 r) ∧ w5.drew.cell? ⟨g, o + 5 + 3, none⟩ = some (.int .i64 2) ∧ w5.drew.cell? ⟨g, o + 6, none⟩ = some (.int .i64 r) ∧ w5.drew.cell? ⟨g, o + 8, none⟩ = some (.int .i64 2) := by
          have f := fun k => (Below.refl w5.heap.size w5).drew.cell (p := ⟨g, k, none⟩) hgs
          rw [← hr]
          exact ⟨(f _).trans p1, (f _).trans p3, (f _).trans r1, (f _).trans r3, (f _).trans r1, (f _).trans r3⟩
        obtain ⟨S0, hS0⟩ : ∃ S0 : World → Prop, (fun X => X.cell? ⟨g, o + 1, none⟩ = some (.int .i64 r) ∧ X.cell? ⟨g, o + 3, none⟩ = some (.int .i64 1) ∧ X.cell? ⟨g, o + 5 + 1, none⟩ = some (.int .i64 r) ∧ X.cell? ⟨g, o + 5 + 3, none⟩ = some (.int .i64 2) ∧ X.cell? ⟨g, o + 6, none⟩ = some (.int .i64 r) ∧ X.cell? ⟨g, o + 8, none⟩ = some (.int .i64 2)) = S0 := ⟨_, rfl⟩
        have hS2 : S0 w5.drew := by rw [← hS0]; exact hS1
        have hz12 : (i : Int) % 12 = 0 := by omega
        have hD5d := hd5.below ((Below.refl w5.heap.size w5).drew)
        have HD5 := Lib.hid hD5d
        have HB5 := Lib.hid hB5W.drew
        have HX5 := Lib.hid hx5
        have HSE := Lib.hid hS0
        have HS2 := Lib.hid hS2
        clear hD5d hx5 hS0 hS2 ho hB5 hO5 hrq hdc hfc h12 hat p1 p3 r1 r3 hS1 hr hd5
        go_upto_region 13 with fail
        refine wp_txO [(0, 3), (1, 3), (2, 3), (3, 3), (4, 3), (5, 3), (6, 3), (8, 3), (9, 3), (10, 3), (11, 3), (7, 0), (12, 3), (13, 3), (14, 3), (15, 3), (16, 3), (17, 3), (19, 3), (20, 3), (21, 3), (22, 3), (18, 0), (23, 3), (24, 3), (25, 3), (26, 3), (27, 3), (28, 3), (29, 0), (30, 3), (31, 3), (32, 3), (33, 3), (34, 3), (35, 3), (36, 0), (37, 3), (38, 3)] S0 (by kernel_rfl) (by kernel_rfl) (by kernel_rfl) (by kernel_rfl) HS2.out ?_
        iterate 11 (with_reducible refine wpTxO_evN (o := ?_) (v := ?_) (a' := ?_) (by with_unfolding_all rfl) (by with_unfolding_all rfl) (fun W' => ?_) ?_ ?_; rotate_left 2; (focus (go_simp <;> with_reducible rfl)); focus (go_simp <;> with_reducible rfl))
        iterate 1 (with_reducible refine wpTxO_takeN (o := ?_) (v := ?_) (a' := ?_) (by with_unfolding_all rfl) (by with_unfolding_all rfl) (fun W' hS => ?_) ?_ ?_; rotate_left 2; (focus (rw [← HSE.out] at hS; obtain ⟨t1, t2, t3, t4, t5, t6⟩ := hS; go_simp <;> with_reducible rfl)); focus (go_simp <;> with_reducible rfl))
        iterate 10 (with_reducible refine wpTxO_evN (o := ?_) (v := ?_) (a' := ?_) (by with_unfolding_all rfl) (by with_unfolding_all rfl) (fun W' => ?_) ?_ ?_; rotate_left 2; (focus (go_simp <;> with_reducible rfl)); focus (go_simp <;> with_reducible rfl))
        iterate 1 (with_reducible refine wpTxO_takeN (o := ?_) (v := ?_) (a' := ?_) (by with_unfolding_all rfl) (by with_unfolding_all rfl) (fun W' hS => ?_) ?_ ?_; rotate_left 2; (focus (rw [← HSE.out] at hS; obtain ⟨t1, t2, t3, t4, t5, t6⟩ := hS; go_simp <;> with_reducible rfl)); focus (go_simp <;> with_reducible rfl))
        iterate 6 (with_reducible refine wpTxO_evN (o := ?_) (v := ?_) (a' := ?_) (by with_unfolding_all rfl) (by with_unfolding_all rfl) (fun W' => ?_) ?_ ?_; rotate_left 2; (focus (go_simp <;> with_reducible rfl)); focus (go_simp <;> with_reducible rfl))
        iterate 1 (with_reducible refine wpTxO_takeN (o := ?_) (v := ?_) (a' := ?_) (by with_unfolding_all rfl) (by with_unfolding_all rfl) (fun W' hS => ?_) ?_ ?_; rotate_left 2; (focus (rw [← HSE.out] at hS; obtain ⟨t1, t2, t3, t4, t5, t6⟩ := hS; go_simp <;> with_reducible rfl)); focus (go_simp <;> with_reducible rfl))
        iterate 6 (with_reducible refine wpTxO_evN (o := ?_) (v := ?_) (a' := ?_) (by with_unfolding_all rfl) (by with_unfolding_all rfl) (fun W' => ?_) ?_ ?_; rotate_left 2; (focus (go_simp <;> with_reducible rfl)); focus (go_simp <;> with_reducible rfl))
        iterate 1 (with_reducible refine wpTxO_takeN (o := ?_) (v := ?_) (a' := ?_) (by with_unfolding_all rfl) (by with_unfolding_all rfl) (fun W' hS => ?_) ?_ ?_; rotate_left 2; (focus (rw [← HSE.out] at hS; obtain ⟨t1, t2, t3, t4, t5, t6⟩ := hS; go_simp <;> with_reducible rfl)); focus (go_simp <;> with_reducible rfl))
        iterate 2 (with_reducible refine wpTxO_evN (o := ?_) (v := ?_) (a' := ?_) (by with_unfolding_all rfl) (by with_unfolding_all rfl) (fun W' => ?_) ?_ ?_; rotate_left 2; (focus (go_simp <;> with_reducible rfl)); focus (go_simp <;> with_reducible rfl))
        with_reducible refine wpTxO_nil ?_
        rw [noPan_normal]
        go_wp2_with fail
        go_roundg (T + 2 - (i + 1))
        case measure => omega
        case rel => exact ⟨i + 1, _, by omega, by omega, by omega, by go_num, HX5.out, HD5.out, HB5.out⟩
      · rw [if_neg h12] at hrq
        obtain ⟨An, cn, hno⟩ := reqs_none hO5 hrq
        subst hno
        have hne : ((i : Int) % 12 == 0) = false := by simp; omega
        have hne2 : ¬ (i : Int) % 12 = 0 := by omega
        have HD5 := Lib.hid hd5
        have HB5 := Lib.hid hB5W
        have HX5 := Lib.hid hx5
        clear hd5 hB5W hx5 ho hB5 hO5 hrq hdc hfc h12
        go_wp2_with fail
        go_roundg (T + 2 - (i + 1))
        case measure => omega
        case rel => exact ⟨i + 1, _, by omega, by omega, by omega, by go_num, HX5.out, HD5.out, HB5.out⟩
    · have hltI : (T : Int) < (i : Int) := by omega
      obtain rfl : i = T + 1 := by omega
      have hx0 := hx 0 (by omega)
      have hx1 := hx 1 (by omega)
      rw [Nat.add_sub_cancel] at hx0 hx1
      have hx1r : (x 1).r = T / 12 % K := by rw [hx1]; rfl
      have hK0 : ¬ K = 0 := by omega
      have hwl : IntKind.i64.wrap ld = ld := by rw [IntKind.wrap_i64]; omega
      have hwq : IntKind.i64.wrap ((T : Int) / 12) = (T : Int) / 12 := by rw [IntKind.wrap_i64]; omega
      have hwp : IntKind.i64.wrap ((T : Int) / 12 + 1) = (T : Int) / 12 + 1 := by rw [IntKind.wrap_i64]; omega
      obtain ⟨w0, hw0⟩ : ∃ x : Int, (((T / 12 + 1) % K : Nat) : Int) = x := ⟨_, rfl⟩
      have hrm : ((T : Int) / 12 + 1).tmod (K : Int) = w0 := by
        rw [Int.tmod_eq_emod_of_nonneg (by omega), ← hw0]
        simp
      clear hx1
      have hx1 := hx1r
      clear hx1r
      obtain ⟨u, hu⟩ : ∃ u, toldP K ld (T / 12 % K) = u := ⟨_, rfl⟩
      by_cases h0l : 0 ≤ ld
      · by_cases hlk : ld < (K : Int)
        · have hlu : ld = (u : Int) := by rw [← hu]; unfold toldP; rw [if_pos ⟨h0l, hlk⟩]; omega
          have hluK : (u : Int) < (K : Int) := by omega
          have hlu0 : (0 : Int) ≤ (u : Int) := by omega
          subst hlu
          clear hw0
          have hhd := handle_any hd (by omega) hK1 hK7 (i := 1) (by omega) (av := ansV (u : Int)) (lead := (u : Int)) rfl rfl rfl rfl
          rw [hx1, hu, show ((1 : Nat) : Int) = 1 from rfl] at hhd
          have hbr := bdRep22
          have hba := fun X => bdAns (u : Int) X
          obtain ⟨rv, hrv⟩ : ∃ x, (Value.int .i64 22 :: repZ.drop 1).toArray = x := ⟨_, rfl⟩
          obtain ⟨av, hav⟩ : ∃ x, ansV (u : Int) = x := ⟨_, rfl⟩
          simp only [hrv] at hbr hba
          simp only [hav] at hba
          rw [hav] at hhd
          have HB := Lib.hid hB
          have HX0T := Lib.hid hx0
          clear hB hx0 hd hx hrv hav hx1 hu
          go_wp2_with fail
          with_reducible refine hhd.mono ?_
          rintro e w4 ⟨rfl, ⟨o4, R4, hd4⟩, hB4⟩
          have ho4 := out_any hd4.drv
          have hB4W := HB.out.trans (hB4.mono HWE.out)
          have HD4 := Lib.hid hd4
          have HB4 := Lib.hid hB4W
          clear hd4 hB4W hB4 hhd hbr hba
          go_wp2_with fail
          with_reducible refine ho4.mono ?_
          rintro e w5 ⟨rfl, hdc, hfc⟩
          obtain ⟨hd5, hB5, hO5⟩ := HD4.out.clear hdc hfc
          obtain ⟨An, cn, hno⟩ := reqs_none hO5 HD4.out.reqs
          subst hno
          have hB5W := HB4.out.trans (hB5.mono HWE.out)
          have htk := tick_any hd5 (by omega) two_check two_lock hK1 hK7 (by simp) (fun j hj => by
            by_cases h : j = 1
            · subst h; simp
            · obtain rfl : j = 0 := by omega
              simp only [show ¬ (0 = 1) by omega, if_false]
              rw [HX0T.out]
              unfold tkAt
              simp only
              omega)
          rw [List.nil_append, asks_end (K := K) (T := T) (u := u) (by simpa using HX0T.out) (by simp)] at htk
          have HB5 := Lib.hid hB5W
          clear hB5W hd5 hB5 hO5 hdc hfc ho4
          go_wp2_with fail
          with_reducible refine htk.mono ?_
          rintro e w6 ⟨rfl, ⟨o6, R6, hd6⟩, hB6⟩
          have ho6 := out_any hd6.drv
          have hB6W := HB5.out.trans (hB6.mono HWE.out)
          have HD6 := Lib.hid hd6
          have HB6 := Lib.hid hB6W
          clear hd6 hB6W hB6 htk
          go_wp2_with fail
          with_reducible refine ho6.mono ?_
          rintro e w7 ⟨rfl, hdc, hfc⟩
          obtain ⟨hd7, hB7, hO7⟩ := HD6.out.clear hdc hfc
          have hrq := HD6.out.reqs
          have hB7W := HB6.out.trans (hB7.mono HWE.out)
          have haw := awake28 w7 (HG.out.below hB7W)
          by_cases h12 : (T + 1) % 12 = 0
          · rw [if_pos h12] at hrq
            obtain ⟨Am, cm, hno, hat⟩ := reqs_at hO7 hrq
            obtain ⟨g, o, rfl, hgs, r0, r1, _, r3, _⟩ := hat 1 (by simp)
            rw [show ([(0, (((T + 1) / 12 % K : Nat) : Int), 3, 1)] ++ [(1, (u : Int), 3, 2)] : List (Int × Int × Int × Int)).length = 2 from rfl] at hno
            subst hno
            have p0 : w7.cell? ⟨g, o + 5, none⟩ = some (.int .i64 1) := r0
            have p1 : w7.cell? ⟨g, o + 5 + 1, none⟩ = some (.int .i64 (u : Int)) := r1
            have p1' : w7.cell? ⟨g, o + 6, none⟩ = some (.int .i64 (u : Int)) := r1
            have p3 : w7.cell? ⟨g, o + 5 + 3, none⟩ = some (.int .i64 2) := r3
            have p3' : w7.cell? ⟨g, o + 8, none⟩ = some (.int .i64 2) := r3
            have ht11 : (T : Int) % 12 = 11 := by omega
            have HB7 := Lib.hid hB7W
            clear hB7W hd7 hB7 hO7 hrq hdc hfc ho6 hat r0 r1 r3 h12
            go_wp2_with fail
            with_reducible refine haw.mono ?_
            rintro e w8 ⟨rfl, hB8⟩
            have HB8 := Lib.hid (HB7.out.trans (hB8.mono HB7.out.size))
            clear hB8 haw
            go_wp2_with fail
            go_ret
            exact ⟨rfl, HB8.out⟩
          · rw [if_neg h12] at hrq
            obtain ⟨Am, cm, hno, hat⟩ := reqs_at hO7 hrq
            obtain ⟨g, o, rfl, hgs, r0, r1, _, r3, _⟩ := hat 0 (by simp)
            rw [show ([] ++ [(1, (u : Int), 3, 2)] : List (Int × Int × Int × Int)).length = 1 from rfl] at hno
            subst hno
            have p0 : w7.cell? ⟨g, o, none⟩ = some (.int .i64 1) := r0
            have p1 : w7.cell? ⟨g, o + 1, none⟩ = some (.int .i64 (u : Int)) := r1
            have p3 : w7.cell? ⟨g, o + 3, none⟩ = some (.int .i64 2) := r3
            have ht11 : ¬ (T : Int) % 12 = 11 := by omega
            have ht11b : ((T : Int) % 12 == 11) = false := by simpa using ht11
            have HB7 := Lib.hid hB7W
            clear hB7W hd7 hB7 hO7 hrq hdc hfc ho6 hat r0 r1 r3 h12
            go_wp2_with fail
            with_reducible refine haw.mono ?_
            rintro e w8 ⟨rfl, hB8⟩
            have HB8 := Lib.hid (HB7.out.trans (hB8.mono HB7.out.size))
            clear hB8 haw
            go_wp2_with fail
            go_ret
            exact ⟨rfl, HB8.out⟩
        · have huw : w0 = (u : Int) := by rw [← hw0, ← hu, told_mod (by omega)]
          subst huw
          clear hw0
          have hlk' : (K : Int) ≤ ld := by omega
          have hhd := handle_any hd (by omega) hK1 hK7 (i := 1) (by omega) (av := ansV ld) (lead := ld) rfl rfl rfl rfl
          rw [hx1, hu, show ((1 : Nat) : Int) = 1 from rfl] at hhd
          have hbr := bdRep22
          have hba := fun X => bdAns ld X
          obtain ⟨rv, hrv⟩ : ∃ x, (Value.int .i64 22 :: repZ.drop 1).toArray = x := ⟨_, rfl⟩
          obtain ⟨av, hav⟩ : ∃ x, ansV ld = x := ⟨_, rfl⟩
          simp only [hrv] at hbr hba
          simp only [hav] at hba
          rw [hav] at hhd
          have HB := Lib.hid hB
          have HX0T := Lib.hid hx0
          clear hB hx0 hd hx hrv hav hx1 hu
          go_wp2_with fail
          with_reducible refine hhd.mono ?_
          rintro e w4 ⟨rfl, ⟨o4, R4, hd4⟩, hB4⟩
          have ho4 := out_any hd4.drv
          have hB4W := HB.out.trans (hB4.mono HWE.out)
          have HD4 := Lib.hid hd4
          have HB4 := Lib.hid hB4W
          clear hd4 hB4W hB4 hhd hbr hba
          go_wp2_with fail
          with_reducible refine ho4.mono ?_
          rintro e w5 ⟨rfl, hdc, hfc⟩
          obtain ⟨hd5, hB5, hO5⟩ := HD4.out.clear hdc hfc
          obtain ⟨An, cn, hno⟩ := reqs_none hO5 HD4.out.reqs
          subst hno
          have hB5W := HB4.out.trans (hB5.mono HWE.out)
          have htk := tick_any hd5 (by omega) two_check two_lock hK1 hK7 (by simp) (fun j hj => by
            by_cases h : j = 1
            · subst h; simp
            · obtain rfl : j = 0 := by omega
              simp only [show ¬ (0 = 1) by omega, if_false]
              rw [HX0T.out]
              unfold tkAt
              simp only
              omega)
          rw [List.nil_append, asks_end (K := K) (T := T) (u := u) (by simpa using HX0T.out) (by simp)] at htk
          have HB5 := Lib.hid hB5W
          clear hB5W hd5 hB5 hO5 hdc hfc ho4
          go_wp2_with fail
          with_reducible refine htk.mono ?_
          rintro e w6 ⟨rfl, ⟨o6, R6, hd6⟩, hB6⟩
          have ho6 := out_any hd6.drv
          have hB6W := HB5.out.trans (hB6.mono HWE.out)
          have HD6 := Lib.hid hd6
          have HB6 := Lib.hid hB6W
          clear hd6 hB6W hB6 htk
          go_wp2_with fail
          with_reducible refine ho6.mono ?_
          rintro e w7 ⟨rfl, hdc, hfc⟩
          obtain ⟨hd7, hB7, hO7⟩ := HD6.out.clear hdc hfc
          have hrq := HD6.out.reqs
          have hB7W := HB6.out.trans (hB7.mono HWE.out)
          have haw := awake28 w7 (HG.out.below hB7W)
          by_cases h12 : (T + 1) % 12 = 0
          · rw [if_pos h12] at hrq
            obtain ⟨Am, cm, hno, hat⟩ := reqs_at hO7 hrq
            obtain ⟨g, o, rfl, hgs, r0, r1, _, r3, _⟩ := hat 1 (by simp)
            rw [show ([(0, (((T + 1) / 12 % K : Nat) : Int), 3, 1)] ++ [(1, (u : Int), 3, 2)] : List (Int × Int × Int × Int)).length = 2 from rfl] at hno
            subst hno
            have p0 : w7.cell? ⟨g, o + 5, none⟩ = some (.int .i64 1) := r0
            have p1 : w7.cell? ⟨g, o + 5 + 1, none⟩ = some (.int .i64 (u : Int)) := r1
            have p1' : w7.cell? ⟨g, o + 6, none⟩ = some (.int .i64 (u : Int)) := r1
            have p3 : w7.cell? ⟨g, o + 5 + 3, none⟩ = some (.int .i64 2) := r3
            have p3' : w7.cell? ⟨g, o + 8, none⟩ = some (.int .i64 2) := r3
            have ht11 : (T : Int) % 12 = 11 := by omega
            have HB7 := Lib.hid hB7W
            clear hB7W hd7 hB7 hO7 hrq hdc hfc ho6 hat r0 r1 r3 h12
            go_wp2_with fail
            with_reducible refine haw.mono ?_
            rintro e w8 ⟨rfl, hB8⟩
            have HB8 := Lib.hid (HB7.out.trans (hB8.mono HB7.out.size))
            clear hB8 haw
            go_wp2_with fail
            go_ret
            exact ⟨rfl, HB8.out⟩
          · rw [if_neg h12] at hrq
            obtain ⟨Am, cm, hno, hat⟩ := reqs_at hO7 hrq
            obtain ⟨g, o, rfl, hgs, r0, r1, _, r3, _⟩ := hat 0 (by simp)
            rw [show ([] ++ [(1, (u : Int), 3, 2)] : List (Int × Int × Int × Int)).length = 1 from rfl] at hno
            subst hno
            have p0 : w7.cell? ⟨g, o, none⟩ = some (.int .i64 1) := r0
            have p1 : w7.cell? ⟨g, o + 1, none⟩ = some (.int .i64 (u : Int)) := r1
            have p3 : w7.cell? ⟨g, o + 3, none⟩ = some (.int .i64 2) := r3
            have ht11 : ¬ (T : Int) % 12 = 11 := by omega
            have ht11b : ((T : Int) % 12 == 11) = false := by simpa using ht11
            have HB7 := Lib.hid hB7W
            clear hB7W hd7 hB7 hO7 hrq hdc hfc ho6 hat r0 r1 r3 h12
            go_wp2_with fail
            with_reducible refine haw.mono ?_
            rintro e w8 ⟨rfl, hB8⟩
            have HB8 := Lib.hid (HB7.out.trans (hB8.mono HB7.out.size))
            clear hB8 haw
            go_wp2_with fail
            go_ret
            exact ⟨rfl, HB8.out⟩
      · have huw : w0 = (u : Int) := by rw [← hw0, ← hu, told_mod (by omega)]
        subst huw
        clear hw0
        have h0l' : ld < 0 := by omega
        have hhd := handle_any hd (by omega) hK1 hK7 (i := 1) (by omega) (av := ansV ld) (lead := ld) rfl rfl rfl rfl
        rw [hx1, hu, show ((1 : Nat) : Int) = 1 from rfl] at hhd
        have hbr := bdRep22
        have hba := fun X => bdAns ld X
        obtain ⟨rv, hrv⟩ : ∃ x, (Value.int .i64 22 :: repZ.drop 1).toArray = x := ⟨_, rfl⟩
        obtain ⟨av, hav⟩ : ∃ x, ansV ld = x := ⟨_, rfl⟩
        simp only [hrv] at hbr hba
        simp only [hav] at hba
        rw [hav] at hhd
        have HB := Lib.hid hB
        have HX0T := Lib.hid hx0
        clear hB hx0 hd hx hrv hav hx1 hu
        go_wp2_with fail
        with_reducible refine hhd.mono ?_
        rintro e w4 ⟨rfl, ⟨o4, R4, hd4⟩, hB4⟩
        have ho4 := out_any hd4.drv
        have hB4W := HB.out.trans (hB4.mono HWE.out)
        have HD4 := Lib.hid hd4
        have HB4 := Lib.hid hB4W
        clear hd4 hB4W hB4 hhd hbr hba
        go_wp2_with fail
        with_reducible refine ho4.mono ?_
        rintro e w5 ⟨rfl, hdc, hfc⟩
        obtain ⟨hd5, hB5, hO5⟩ := HD4.out.clear hdc hfc
        obtain ⟨An, cn, hno⟩ := reqs_none hO5 HD4.out.reqs
        subst hno
        have hB5W := HB4.out.trans (hB5.mono HWE.out)
        have htk := tick_any hd5 (by omega) two_check two_lock hK1 hK7 (by simp) (fun j hj => by
          by_cases h : j = 1
          · subst h; simp
          · obtain rfl : j = 0 := by omega
            simp only [show ¬ (0 = 1) by omega, if_false]
            rw [HX0T.out]
            unfold tkAt
            simp only
            omega)
        rw [List.nil_append, asks_end (K := K) (T := T) (u := u) (by simpa using HX0T.out) (by simp)] at htk
        have HB5 := Lib.hid hB5W
        clear hB5W hd5 hB5 hO5 hdc hfc ho4
        go_wp2_with fail
        with_reducible refine htk.mono ?_
        rintro e w6 ⟨rfl, ⟨o6, R6, hd6⟩, hB6⟩
        have ho6 := out_any hd6.drv
        have hB6W := HB5.out.trans (hB6.mono HWE.out)
        have HD6 := Lib.hid hd6
        have HB6 := Lib.hid hB6W
        clear hd6 hB6W hB6 htk
        go_wp2_with fail
        with_reducible refine ho6.mono ?_
        rintro e w7 ⟨rfl, hdc, hfc⟩
        obtain ⟨hd7, hB7, hO7⟩ := HD6.out.clear hdc hfc
        have hrq := HD6.out.reqs
        have hB7W := HB6.out.trans (hB7.mono HWE.out)
        have haw := awake28 w7 (HG.out.below hB7W)
        by_cases h12 : (T + 1) % 12 = 0
        · rw [if_pos h12] at hrq
          obtain ⟨Am, cm, hno, hat⟩ := reqs_at hO7 hrq
          obtain ⟨g, o, rfl, hgs, r0, r1, _, r3, _⟩ := hat 1 (by simp)
          rw [show ([(0, (((T + 1) / 12 % K : Nat) : Int), 3, 1)] ++ [(1, (u : Int), 3, 2)] : List (Int × Int × Int × Int)).length = 2 from rfl] at hno
          subst hno
          have p0 : w7.cell? ⟨g, o + 5, none⟩ = some (.int .i64 1) := r0
          have p1 : w7.cell? ⟨g, o + 5 + 1, none⟩ = some (.int .i64 (u : Int)) := r1
          have p1' : w7.cell? ⟨g, o + 6, none⟩ = some (.int .i64 (u : Int)) := r1
          have p3 : w7.cell? ⟨g, o + 5 + 3, none⟩ = some (.int .i64 2) := r3
          have p3' : w7.cell? ⟨g, o + 8, none⟩ = some (.int .i64 2) := r3
          have ht11 : (T : Int) % 12 = 11 := by omega
          have HB7 := Lib.hid hB7W
          clear hB7W hd7 hB7 hO7 hrq hdc hfc ho6 hat r0 r1 r3 h12
          go_wp2_with fail
          with_reducible refine haw.mono ?_
          rintro e w8 ⟨rfl, hB8⟩
          have HB8 := Lib.hid (HB7.out.trans (hB8.mono HB7.out.size))
          clear hB8 haw
          go_wp2_with fail
          go_ret
          exact ⟨rfl, HB8.out⟩
        · rw [if_neg h12] at hrq
          obtain ⟨Am, cm, hno, hat⟩ := reqs_at hO7 hrq
          obtain ⟨g, o, rfl, hgs, r0, r1, _, r3, _⟩ := hat 0 (by simp)
          rw [show ([] ++ [(1, (u : Int), 3, 2)] : List (Int × Int × Int × Int)).length = 1 from rfl] at hno
          subst hno
          have p0 : w7.cell? ⟨g, o, none⟩ = some (.int .i64 1) := r0
          have p1 : w7.cell? ⟨g, o + 1, none⟩ = some (.int .i64 (u : Int)) := r1
          have p3 : w7.cell? ⟨g, o + 3, none⟩ = some (.int .i64 2) := r3
          have ht11 : ¬ (T : Int) % 12 = 11 := by omega
          have ht11b : ((T : Int) % 12 == 11) = false := by simpa using ht11
          have HB7 := Lib.hid hB7W
          clear hB7W hd7 hB7 hO7 hrq hdc hfc ho6 hat r0 r1 r3 h12
          go_wp2_with fail
          with_reducible refine haw.mono ?_
          rintro e w8 ⟨rfl, hB8⟩
          have HB8 := Lib.hid (HB7.out.trans (hB8.mono HB7.out.size))
          clear hB8 haw
          go_wp2_with fail
          go_ret
          exact ⟨rfl, HB8.out⟩
end Go.Proofs.YtdkanehjahpehaaGreatDoor
