/-
  Plain: how many writes wait behind what a scroll does; an error of the power is 20, and the drum is off then.
  A chest: half, find.
-/
import Derived.Test.YtohadeijmmmcdaaDoorScrollB
import Derived.Test.YtohadeijmmmcdaaDoorLawS

section
namespace Go.Proofs.YtohadeijmmmcdaaDoor
open Go.RowKit

/-- The drum T has the sectors of S, and at most k more writes that wait. -/
def Sz (k : Nat) (S T : DS) : Prop := T.sure.length = S.sure.length ∧ T.waits.length ≤ S.waits.length + k
theorem Sz.refl (S : DS) (k : Nat) : Sz k S S := ⟨rfl, by omega⟩
theorem Sz.trans {a b c : Nat} {S T U : DS} (h : Sz a S T) (h' : Sz b T U) (hc : a + b ≤ c) : Sz c S U := ⟨h'.1.trans h.1, by have := h.2; have := h'.2; omega⟩
theorem Sz.mono {a b : Nat} {S T : DS} (h : Sz a S T) (hc : a ≤ b) : Sz b S T := ⟨h.1, by have := h.2; omega⟩
theorem write_sz (S : DS) (k : Int) (b : List Int) : Sz 1 S (S.write k b).2 := ⟨(S.write_len k b).2, (S.write_len k b).1⟩
theorem sync_sz (S : DS) : Sz 0 S S.sync.2 := by
  unfold DS.sync
  repeat' split
  all_goals simp [Sz, applyAll_len]
theorem wipeGo_sz (S : DS) (f : Nat) : ∀ (k i : Nat) (T : DS) (any : Bool), Sz k T (wipeGo S f k i T any).2
  | 0, i, T, any => by
    rw [wipeGo_zero]
    split
    · exact sync_sz T
    · exact Sz.refl _ _
  | k + 1, i, T, any => by
    rw [wipeGo_succ]
    split
    · split
      · exact (write_sz T _ _).trans (wipeGo_sz S f k _ _ _) (by omega)
      · exact (write_sz T _ _).mono (by omega)
    · exact (wipeGo_sz S f k _ _ _).mono (by omega)
theorem wipeR_sz (S : DS) (f m : Nat) : Sz m S (wipeR S f m).2 := by
  unfold wipeR
  split
  · exact Sz.refl _ _
  · exact wipeGo_sz S f m 0 S false
theorem putGo_sz (F : List Int) (a : Nat) : ∀ (k i : Nat) (T : DS), Sz k T (putGo F a k i T).2
  | 0, i, T => by rw [putGo_zero]; exact Sz.refl _ _
  | k + 1, i, T => by
    rw [putGo_succ]
    split
    · exact (write_sz T _ _).trans (putGo_sz F a k _ _) (by omega)
    · exact (write_sz T _ _).mono (by omega)
theorem putR_sz (s : SS) (S : DS) (b : List Int) : Sz 1024 S (putR s S b).2.2 := by
  unfold putR
  split
  · exact Sz.refl _ _
  · split
    · exact Sz.refl _ _
    · rename_i he
      have hk := (formE_zero (Decidable.not_not.1 he)).2.2
      split
      · exact Sz.refl _ _
      · split
        · exact (putGo_sz _ _ _ _ _).mono hk
        · exact (putGo_sz _ _ _ _ _).mono hk
theorem syncR_sz (s : SS) (S : DS) : Sz 0 S (syncR s S).2.2 := by
  unfold syncR
  split
  · exact Sz.refl _ _
  · exact sync_sz S

/-- What is done is done, or the power fails. -/
def Pw (R : Int × DS) : Prop := (R.1 = 0 ∧ R.2.off = false) ∨ (R.1 = 20 ∧ R.2.off = true)
theorem write_pw {S : DS} (h : S.off = false) {a : Nat} (ha : a < S.sure.length) {b : List Int} (hb : b.length = 64) : Pw (S.write (a : Int) b) := by
  unfold DS.write Pw
  rw [if_neg (by rw [h]; simp), if_neg (by omega), if_neg (by omega)]
  split
  · exact .inr ⟨rfl, rfl⟩
  · exact .inl ⟨rfl, h⟩
theorem sync_pw {S : DS} (h : S.off = false) : Pw S.sync := by
  unfold DS.sync Pw
  rw [if_neg (by rw [h]; simp)]
  split
  · exact .inr ⟨rfl, rfl⟩
  · exact .inl ⟨rfl, h⟩
theorem wipeGo_pw (S : DS) (f : Nat) : ∀ (k i : Nat) (T : DS) (any : Bool), T.off = false → f + i + k ≤ T.sure.length → Pw (wipeGo S f k i T any)
  | 0, i, T, any, h, _ => by
    rw [wipeGo_zero]
    split
    · exact sync_pw h
    · exact .inl ⟨rfl, h⟩
  | k + 1, i, T, any, h, hl => by
    rw [wipeGo_succ]
    have hw := write_pw h (a := f + i) (by omega) Z64_len
    split
    · split
      · rename_i h0
        rcases hw with ⟨_, hw⟩ | ⟨hw, _⟩
        · exact wipeGo_pw S f k _ _ _ hw (by rw [(write_sz T _ _).1]; omega)
        · rw [hw] at h0; cases h0
      · exact hw
    · exact wipeGo_pw S f k _ _ _ h (by omega)
theorem wipeR_pw {S : DS} (h : S.off = false) {f m : Nat} (hf : f + m ≤ S.sure.length) : Pw (wipeR S f m) := by
  unfold wipeR
  rw [if_neg (by rw [h]; simp)]
  exact wipeGo_pw S f m 0 S false h (by omega)
theorem putGo_pw (F : List Int) (a : Nat) : ∀ (k i : Nat) (T : DS), T.off = false → a + i + k ≤ T.sure.length → 64 * (i + k) ≤ F.length → Pw (putGo F a k i T)
  | 0, i, T, h, _, _ => by rw [putGo_zero]; exact .inl ⟨rfl, h⟩
  | k + 1, i, T, h, hl, hF => by
    rw [putGo_succ]
    have hw := write_pw h (a := a + i) (by omega) (b := (F.drop (64 * i)).take 64) (by simp; omega)
    split
    · rename_i h0
      rcases hw with ⟨_, hw⟩ | ⟨hw, _⟩
      · exact putGo_pw F a k _ _ hw (by rw [(write_sz T _ _).1]; omega) (by omega)
      · rw [hw] at h0; cases h0
    · exact hw

end Go.Proofs.YtohadeijmmmcdaaDoor
end

section
namespace Go.Proofs.YtohadeijmmmcdaaDoor
open Go.RowKit
set_option maxRecDepth 100000

theorem half_any (p gs n : Nat) (wv : Value) (fuse : Int) (off : Bool) (w : World) (h : DrumB w p (.slice (some ⟨gs, 0, none⟩) n n) wv fuse off) (hn : n ≤ 1000000) :
    Calls Tryd.prog 75 #[.pointer (some ⟨p, 0, none⟩)] w fun e w' => e = .returned (.int .i64 ((n / 2 : Nat) : Int)) ∧ w = w' := by
  have hl := len_any p gs n wv fuse off w h
  clear h
  go_enter Tryd.func75, Tryd.ntmps75
  go_wp2_with fail
  with_reducible refine hl.mono ?_
  rintro e w' ⟨rfl, hw⟩
  rw [← hw]
  clear hw hl
  go_wp2_with fail
  go_ret
  exact ⟨rfl, rfl⟩

theorem bd70_of (parts : Array (Nat × Value)) : Instr.build 70 parts = BDs 70 parts := rfl
theorem bd72_of (parts : Array (Nat × Value)) : Instr.build 72 parts = BDs 72 parts := rfl
theorem bd70_1 (a : Option Addr) (W : World) : (BDs 70 #[(0, .pointer a)]).run Tryd.prog W = .ok (.agg #[.pointer a]) W := by kernel_rfl
theorem bd72_3 (a d : Option Addr) (W : World) : (BDs 72 #[(0, .agg #[.pointer a]), (1, .pointer d), (3, .int .i64 1)]).run Tryd.prog W = .ok (.agg #[.pointer a, .pointer d, .int .i64 0, .int .i64 1, .slice none 0 0, .slice none 0 0, .bool false]) W := by kernel_rfl
theorem bd72_6 (a d A1 A2 : Option Addr) (s t : Int) (n1 c1 n2 c2 : Nat) (W : World) : (BDs 72 #[(0, .agg #[.pointer a]), (1, .pointer d), (2, .int .i64 s), (3, .int .i64 t), (4, .slice A1 n1 c1), (5, .slice A2 n2 c2)]).run Tryd.prog W = .ok (.agg #[.pointer a, .pointer d, .int .i64 s, .int .i64 t, .slice A1 n1 c1, .slice A2 n2 c2, .bool false]) W := by kernel_rfl

attribute [local go_sem ↓] bd70_of bd72_of

/-- The turn at which a stretch begins. -/
def peekT (S : DS) (f m : Nat) : Nat := match peekP S (f : Int) (m : Int) with | none => 0 | some r => r.1
/-- The live side, and its turn. -/
def findP (S : DS) : Nat × Nat :=
  if peekT S 0 (S.sure.length / 2) < peekT S (S.sure.length / 2) (S.sure.length / 2) then (1, peekT S (S.sure.length / 2) (S.sure.length / 2)) else (0, peekT S 0 (S.sure.length / 2))

/-- What begin does: the error, the scroll, the drum. -/
def beginR (S : DS) (sd t : Nat) (b : List Int) : Int × SS × DS :=
  if (wipeR S (sd * (S.sure.length / 2)) (S.sure.length / 2)).1 ≠ 0 then ((wipeR S (sd * (S.sure.length / 2)) (S.sure.length / 2)).1, ⟨0, 0, 0, 0, 0, false⟩, (wipeR S (sd * (S.sure.length / 2)) (S.sure.length / 2)).2) else
  if (putR ⟨sd * (S.sure.length / 2), S.sure.length / 2, t, 0, 0, false⟩ (wipeR S (sd * (S.sure.length / 2)) (S.sure.length / 2)).2 b).1 ≠ 0 then putR ⟨sd * (S.sure.length / 2), S.sure.length / 2, t, 0, 0, false⟩ (wipeR S (sd * (S.sure.length / 2)) (S.sure.length / 2)).2 b else
  syncR (putR ⟨sd * (S.sure.length / 2), S.sure.length / 2, t, 0, 0, false⟩ (wipeR S (sd * (S.sure.length / 2)) (S.sure.length / 2)).2 b).2.1 (putR ⟨sd * (S.sure.length / 2), S.sure.length / 2, t, 0, 0, false⟩ (wipeR S (sd * (S.sure.length / 2)) (S.sure.length / 2)).2 b).2.2

def BeginPost (n₀ p : Nat) (R : Int × SS × DS) (e : Ending) (w' : World) : Prop :=
  (R.1 = 0 ∧ ∃ q, e = .returned (.tuple #[.pointer (some ⟨q, 0, none⟩), .int .i64 0]) ∧ IsScroll w' q p R.2.1 ∧ n₀ ≤ q) ∨ (R.1 ≠ 0 ∧ e = .returned (.tuple #[.pointer none, .int .i64 R.1]))

theorem beginR_sz (S : DS) (sd t : Nat) (b : List Int) : Sz (S.sure.length / 2 + 1024) S (beginR S sd t b).2.2 := by
  unfold beginR
  split
  · exact (wipeR_sz _ _ _).mono (by omega)
  · split
    · exact (wipeR_sz _ _ _).trans (putR_sz _ _ _) (by omega)
    · exact ((wipeR_sz _ _ _).trans (putR_sz _ _ _) (Nat.le_refl _)).trans (syncR_sz _ _) (by omega)

set_option maxHeartbeats 4000000 in
theorem begin_any (B p gs : Nat) (wv : Value) (S : DS) (sd t : Nat) (A : Option Addr) (c : Nat) (hcA : A = none → c = 0) (b : List Int) (w : World) (hd : IsDrum B w p gs wv S) (hsd : sd ≤ 1) (ht : t ≤ 1099511627776)
    (hlen : S.waits.length + 10000 ≤ 1000000000) (hb : ∀ W, Kept B sts w W → Byt W A b) (hbl : b.length ≤ 100000000) (hg : Glob w) (h2 : 2 ≤ B) :
    Calls Tryd.prog 79 #[.pointer (some ⟨p, 0, none⟩), .int .i64 (sd : Int), .int .i64 (t : Int), .slice A b.length c] w fun e w' =>
      BeginPost w.heap.size p (beginR S sd t b) e w' ∧ (∃ wv', IsDrum B w' p gs wv' (beginR S sd t b).2.2) ∧ Kept B sts w w' := by
  have hBw : B ≤ w.heap.size := by have := hd.lt (.inl rfl); omega
  have hn2 := hd.ok.n2
  have hha := half_any p gs S.sure.length wv S.fuse S.off w hd.st (by omega)
  obtain ⟨R, hR⟩ : ∃ R, beginR S sd t b = R := ⟨_, rfl⟩
  rw [hR]
  unfold beginR at hR
  obtain ⟨H, hH⟩ : ∃ H, S.sure.length / 2 = H := ⟨_, rfl⟩
  have hF1 : sd * H ≤ 1 * H := Nat.mul_le_mul hsd (Nat.le_refl _)
  obtain ⟨F, hF⟩ : ∃ F, sd * H = F := ⟨_, rfl⟩
  rw [hF] at hF1
  rw [hH] at hha
  rw [hH, hF] at hR
  have hwr : IntKind.i64.wrap ((sd : Int) * (H : Int)) = (F : Int) := by rw [← Int.natCast_mul, hF, IntKind.wrap_i64]; omega
  have hbk := blank_any B p gs wv S F H t w hd (by omega) ht (by omega) hg
  have hsz := wipeR_sz S F H
  obtain ⟨⟨er, T⟩, hE⟩ : ∃ E, wipeR S F H = E := ⟨_, rfl⟩
  rw [hE] at hR hbk hsz
  simp only at hR hbk hsz
  have hsz1 := hsz.1
  have hsz2 := hsz.2
  have hFT : F + H ≤ T.sure.length := by omega
  have hH4 : H ≤ 4096 := by omega
  have HR := Lib.hid hR
  have HB := Lib.hid hb
  have HG := Lib.hid hg
  obtain ⟨L, hL⟩ : ∃ L, b.length = L := ⟨_, rfl⟩
  have HL := Lib.hid hL
  rw [hL]
  clear hR hb hd hg hE hH hF hsz hL
  go_enter Tryd.func79, Tryd.ntmps79
  go_wp2_with fail
  with_reducible refine hha.mono ?_
  rintro e w' ⟨rfl, hw⟩
  rw [← hw]
  clear hw
  go_wp2_with fail
  with_reducible refine hha.mono ?_
  rintro e w' ⟨rfl, hw⟩
  rw [← hw]
  clear hw hha
  go_wp2_with fail
  with_reducible refine hbk.mono ?_
  rintro e w1 ⟨hp1, ⟨wv1, hd1⟩, hk1⟩
  have K1 := Lib.hid hk1
  have HD1 := Lib.hid hd1
  clear hbk hk1 hd1
  rcases hp1 with ⟨he, q, rfl, hs1, hq⟩ | ⟨he, rfl⟩
  · subst he
    have hR := HR.out
    rw [if_neg (by simp)] at hR
    have hpu := put_any B q p gs wv1 ⟨F, H, t, 0, 0, false⟩ T A c hcA b w1 HD1.out hs1 (by omega) (Nat.zero_le _) (by simp only; omega) (by simp) (by omega) (HB.out _ K1.out.ds) hbl (K1.out.glob HG.out h2)
    have hps := putR_sz ⟨F, H, t, 0, 0, false⟩ T b
    obtain ⟨⟨e2, s2, T2⟩, hE2⟩ : ∃ E, putR ⟨F, H, t, 0, 0, false⟩ T b = E := ⟨_, rfl⟩
    rw [hE2] at hpu hR hps
    simp only at hpu hR hps
    have hps2 := hps.2
    rw [HL.out] at hpu
    have HR := Lib.hid hR
    clear hR hs1 hE2 hps
    go_wp2_with fail
    with_reducible refine hpu.mono ?_
    rintro e w2 ⟨rfl, ⟨wv2, hd2⟩, hs2, hk2⟩
    have hsy := ssync_any B q p gs wv2 s2 T2 w2 hd2 hs2 (by omega) (by omega)
    have K2 := Lib.hid hk2
    have HD2 := Lib.hid hd2
    clear hpu hk2 hd2 hs2
    by_cases h0 : e2 = 0
    · subst h0
      have hR := HR.out
      rw [if_neg (by simp)] at hR
      obtain ⟨⟨e3, s3, T3⟩, hE3⟩ : ∃ E, syncR s2 T2 = E := ⟨_, rfl⟩
      rw [hE3] at hsy hR
      simp only at hsy
      have HR := Lib.hid hR
      clear hR hE3
      go_wp2_with fail
      with_reducible refine hsy.mono ?_
      rintro e w3 ⟨rfl, ⟨wv3, hd3⟩, hs3, hk3⟩
      have K3 := Lib.hid hk3
      have HD3 := Lib.hid hd3
      have HS3 := Lib.hid hs3
      clear hsy hk3 hd3 hs3
      by_cases h3 : e3 = 0
      · subst h3
        go_wp2_with fail
        go_ret2
        rw [← HR.out]
        exact ⟨.inl ⟨rfl, q, rfl, HS3.out, hq⟩, ⟨wv3, HD3.out⟩, (K1.out.ds.trans K2.out).trans K3.out⟩
      · have hI : (e3 != 0) = true := by simpa using h3
        have h3 := Lib.hid h3
        go_wp2_with fail
        go_ret2
        rw [← HR.out]
        exact ⟨.inr ⟨h3.out, rfl⟩, ⟨wv3, HD3.out⟩, (K1.out.ds.trans K2.out).trans K3.out⟩
    · have hI : (e2 != 0) = true := by simpa using h0
      have hR := HR.out
      rw [if_pos h0] at hR
      have HR := Lib.hid hR
      have h0' := Lib.hid h0
      clear hR hsy
      have hI2 : (e2 == 0) = false := by simpa using h0
      clear h0
      go_wp2_with fail
      go_ret2
      rw [← HR.out]
      exact ⟨.inr ⟨h0'.out, rfl⟩, ⟨wv2, HD2.out⟩, K1.out.ds.trans K2.out⟩
  · have hR := HR.out
    rw [if_pos he] at hR
    have HR := Lib.hid hR
    have h0' := Lib.hid he
    have hI : (er != 0) = true := by simpa using he
    have hI2 : (er == 0) = false := by simpa using he
    clear hR he
    go_wp2_with fail
    go_ret2
    rw [← HR.out]
    exact ⟨.inr ⟨h0'.out, rfl⟩, ⟨wv1, HD1.out⟩, K1.out.ds⟩

theorem PeekPost.turn {n₀ : Nat} {S : DS} {f m : Nat} {e : Ending} {w' : World} (h : PeekPost n₀ (peekP S (f : Int) (m : Int)) e w') :
    ∃ v ok, e = .returned (.tuple #[.int .i64 (peekT S f m : Int), v, .bool ok]) ∧ (ok = false → peekT S f m = 0) := by
  unfold peekT
  cases hp : peekP S (f : Int) (m : Int) with
  | none =>
    rw [hp] at h
    exact ⟨_, false, h, fun _ => rfl⟩
  | some r =>
    rw [hp] at h
    obtain ⟨v, rfl, _⟩ := h
    exact ⟨v, true, rfl, fun h => by cases h⟩

theorem find_any (B p gs : Nat) (wv : Value) (S : DS) (w : World) (h : IsDrum B w p gs wv S) (hlen : S.waits.length ≤ 1000000000) (hg : Glob w) :
    Calls Tryd.prog 73 #[.pointer (some ⟨p, 0, none⟩)] w fun e w' => e = .returned (.tuple #[.int .i64 ((findP S).1 : Int), .int .i64 ((findP S).2 : Int)]) ∧ Below w.heap.size w w' := by
  have hn2 := h.ok.n2
  obtain ⟨R, hR⟩ : ∃ R, findP S = R := ⟨_, rfl⟩
  rw [hR]
  unfold findP at hR
  obtain ⟨H, hH⟩ : ∃ H, S.sure.length / 2 = H := ⟨_, rfl⟩
  rw [hH] at hR
  have hha : ∀ W, Below w.heap.size w W → Calls Tryd.prog 75 #[.pointer (some ⟨p, 0, none⟩)] W fun e w' => e = .returned (.int .i64 (H : Int)) ∧ W = w' := fun W hB => by
    have := half_any p gs S.sure.length wv S.fuse S.off W (Kept.drum_below hB h).st (by omega)
    rw [hH] at this
    exact this
  have hpk : ∀ (f : Nat) W, Below w.heap.size w W → f ≤ 8192 → Calls Tryd.prog 24 #[.pointer (some ⟨p, 0, none⟩), .int .i64 (f : Int), .int .i64 (H : Int)] W fun e w' => (∃ v ok, e = .returned (.tuple #[.int .i64 (peekT S f H : Int), v, .bool ok]) ∧ (ok = false → peekT S f H = 0)) ∧ Below W.heap.size W w' := fun f W hB hf => by
    refine (peek_any B p gs wv S (f : Int) (H : Int) (by omega) W (Kept.drum_below hB h) hlen (hg.below hB)).mono ?_
    rintro e w' ⟨h1, h2⟩
    exact ⟨h1.turn, h2⟩
  have HHA := Lib.hid hha
  have HPK := Lib.hid hpk
  have HR := Lib.hid hR
  have hH4 : H ≤ 4096 := by omega
  clear hH h hg hha hpk hR
  go_enter Tryd.func73, Tryd.ntmps73
  go_wp2_with fail
  go_loopg [9] 2 (fun k a wr => ∃ i : Nat, a = .int .i64 (i : Int) ∧ i ≤ 2 ∧ k = 2 - i ∧ Below w.heap.size w wr ∧ Blk wr w.heap.size 150 #[.int .i64 ((if 0 < i then peekT S 0 H else 0 : Nat) : Int), .int .i64 ((if 1 < i then peekT S H H else 0 : Nat) : Int)])
  case atStart => exact ⟨0, rfl, by omega, rfl, (Below.refl _ w).alloc (Nat.le_refl _) _, Blk.new _ _ _⟩
  obtain ⟨i, rfl, hi, hk, hB, hA⟩ := hrel
  obtain rfl | rfl | rfl : i = 0 ∨ i = 1 ∨ i = 2 := by omega
  · have hha := HHA.out wr hB
    have hpk := HPK.out 0 wr hB (by omega)
    rw [show ((0 : Nat) : Int) = 0 from rfl]
    rw [show ((0 : Nat) : Int) = 0 from rfl] at hpk
    have HB := Lib.hid hB
    have HA := Lib.hid hA
    clear hB hA
    go_wp2_with fail
    with_reducible refine hha.mono ?_
    rintro e w' ⟨rfl, hw⟩
    rw [← hw]
    clear hw
    go_wp2_with fail
    with_reducible refine hha.mono ?_
    rintro e w' ⟨rfl, hw⟩
    rw [← hw]
    clear hw hha
    go_wp2_with fail
    with_reducible refine hpk.mono ?_
    rintro e w1 ⟨⟨v, ok, rfl, hno⟩, hb1⟩
    have hA1 := HA.out.fr (Fr.of_below hb1) (fun f => by have := HA.out.lt; omega)
    have k0 : w1.cell? ⟨w.heap.size, 0, none⟩ = some (.int .i64 0) := hA1.cell 0
    have f0 := hA1.frozen 0
    have hB1 := HB.out.trans (hb1.mono HB.out.size)
    have hS1 := HB.out.size
    have HA1 := Lib.hid hA1
    have HB1 := Lib.hid hB1
    have HNO := Lib.hid hno
    clear hpk hb1 hA1 hB1 hno
    cases ok with
    | false =>
      have hz := HNO.out rfl
      have hz := Lib.hid hz
      go_wp2_with fail
      go_roundg 1
      case measure => omega
      case rel =>
        refine ⟨1, rfl, by omega, rfl, HB1.out, ?_⟩
        have := HA1.out
        have e := hz.out
        simpa [e] using this
    | true =>
      go_wp2_with fail
      go_roundg 1
      case measure => omega
      case rel =>
        refine ⟨1, rfl, by omega, rfl, HB1.out.trans (Fr.below ((Fr.refl (fun k => k = w.heap.size) w1).setCell (p := ⟨w.heap.size, 0, none⟩) (fun _ => rfl) _) HB1.out.size (fun k hk e => by omega)), ?_⟩
        have := HA1.out.set_ 0 (.int .i64 (peekT S 0 H : Int))
        simpa using this
  · have hha := HHA.out wr hB
    have hpk := HPK.out H wr hB (by omega)
    rw [show ((1 : Nat) : Int) = 1 from rfl]
    have hwr : IntKind.i64.wrap (1 * (H : Int)) = (H : Int) := by rw [IntKind.wrap_i64]; omega
    have HB := Lib.hid hB
    have HA := Lib.hid hA
    clear hB hA
    go_wp2_with fail
    with_reducible refine hha.mono ?_
    rintro e w' ⟨rfl, hw⟩
    rw [← hw]
    clear hw
    go_wp2_with fail
    with_reducible refine hha.mono ?_
    rintro e w' ⟨rfl, hw⟩
    rw [← hw]
    clear hw hha
    go_wp2_with fail
    with_reducible refine hpk.mono ?_
    rintro e w1 ⟨⟨v, ok, rfl, hno⟩, hb1⟩
    have hA1 := HA.out.fr (Fr.of_below hb1) (fun f => by have := HA.out.lt; omega)
    have k0 : w1.cell? ⟨w.heap.size, 1, none⟩ = some (.int .i64 0) := hA1.cell 1
    have f0 := hA1.frozen 1
    have hB1 := HB.out.trans (hb1.mono HB.out.size)
    have hS1 := HB.out.size
    have HA1 := Lib.hid hA1
    have HB1 := Lib.hid hB1
    have HNO := Lib.hid hno
    clear hpk hb1 hA1 hB1 hno
    cases ok with
    | false =>
      have hz := HNO.out rfl
      have hz := Lib.hid hz
      go_wp2_with fail
      go_roundg 0
      case measure => omega
      case rel =>
        refine ⟨2, rfl, by omega, rfl, HB1.out, ?_⟩
        have := HA1.out
        have e := hz.out
        simpa [e] using this
    | true =>
      go_wp2_with fail
      go_roundg 0
      case measure => omega
      case rel =>
        refine ⟨2, rfl, by omega, rfl, HB1.out.trans (Fr.below ((Fr.refl (fun k => k = w.heap.size) w1).setCell (p := ⟨w.heap.size, 1, none⟩) (fun _ => rfl) _) HB1.out.size (fun k hk e => by omega)), ?_⟩
        have := HA1.out.set_ 1 (.int .i64 (peekT S H H : Int))
        simpa using this
  · rw [show ((2 : Nat) : Int) = 2 from rfl]
    rw [if_pos (by omega), if_pos (by omega)] at hA
    have k0 : wr.cell? ⟨w.heap.size, 0, none⟩ = some (.int .i64 (peekT S 0 H : Int)) := hA.cell 0
    have k1 : wr.cell? ⟨w.heap.size, 1, none⟩ = some (.int .i64 (peekT S H H : Int)) := hA.cell 1
    obtain ⟨t0, ht0⟩ : ∃ t, peekT S 0 H = t := ⟨_, rfl⟩
    obtain ⟨t1, ht1⟩ : ∃ t, peekT S H H = t := ⟨_, rfl⟩
    have hR := HR.out
    rw [ht0, ht1] at hR
    rw [ht0] at k0
    rw [ht1] at k1
    have HR := Lib.hid hR
    have HB := Lib.hid hB
    clear hA hB hR ht0 ht1 HHA HPK
    by_cases hlt : t0 < t1
    · have hI : (t0 : Int) < (t1 : Int) := by omega
      go_wp2_with fail
      go_quiet (fail)
      go_wp2_with fail
      go_ret2
      have hR := HR.out
      rw [if_pos hlt] at hR
      rw [← hR]
      exact ⟨rfl, below_drewN HB.out _⟩
    · have hI : ¬ ((t0 : Int) < (t1 : Int)) := by omega
      go_wp2_with fail
      go_quiet (fail)
      go_wp2_with fail
      go_ret2
      have hR := HR.out
      rw [if_neg hlt] at hR
      rw [← hR]
      exact ⟨rfl, below_drewN HB.out _⟩

end Go.Proofs.YtohadeijmmmcdaaDoor
end
