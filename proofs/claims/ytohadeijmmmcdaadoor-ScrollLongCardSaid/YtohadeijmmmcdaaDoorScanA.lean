/-
  scroll.read at any bytes; scroll.Peek.
-/
import Derived.Test.YtohadeijmmmcdaaDoorReadA
namespace Go.Proofs.YtohadeijmmmcdaaDoor
open Go.RowKit
set_option maxRecDepth 100000
attribute [local go_sem ↓] ld115_of st115_of al115_of bd115_of slr_of

theorem scread (A : Option Addr) (c : Nat) (b : List Int) (w : World) (hy : Byt w A b) (hc : b.length ≤ c) (hl : b.length ≤ 100000000) (hg : Glob w) :
    Calls Tryd.prog 64 #[.slice A b.length c] w fun e w' => ReadPost w.heap.size (readP b) e w' ∧ Below w.heap.size w w' := by
  by_cases h : b.length < 12
  · exact scread_short A c b w h
  · refine scread_any A c (fun e => ?_) b w hy hc hl (by omega) hg
    subst e
    obtain ⟨g, o, e, _⟩ := hy.cell (by omega)
    cases e

/-- What Peek finds. -/
def peekP (S : DS) (f m : Int) : Option (Nat × List Int) :=
  if strP S.sure.length f m = true then
    match readP (if S.off = true then [] else stP S f.toNat m.toNat) with
    | none => none
    | some r => if r.n = 0 then some (r.t, r.b) else none
  else none
def PeekPost (n₀ : Nat) (R : Option (Nat × List Int)) (e : Ending) (w' : World) : Prop :=
  match R with
  | none => e = .returned (.tuple #[.int .i64 0, .slice none 0 0, .bool false])
  | some (t, b) => ∃ v, e = .returned (.tuple #[.int .i64 (t : Int), v, .bool true]) ∧ Own8 n₀ w' v b

theorem strP_in {n : Nat} {f m : Int} (h : strP n f m = true) : 0 ≤ f ∧ 0 ≤ m ∧ f + m ≤ n := by
  simp only [strP, Bool.and_eq_true, decide_eq_true_eq] at h
  omega

theorem readP_nil : readP [] = none := by unfold readP; rw [if_pos (by simp)]

theorem ReadPost.form {n₀ : Nat} {R : Option RecP} {e : Ending} {w' : World} (h : ReadPost n₀ R e w') :
    ∃ (a b c : Int) (v : Value) (ok : Bool), e = .returned (.tuple #[.agg #[.int .i64 a, .int .i64 b, .int .i64 c, v], .bool ok]) ∧ v.oneCell' = true ∧ (ok = false → R = none) ∧ (ok = true → ∃ r, R = some r ∧ a = (r.t : Int) ∧ b = (r.n : Int) ∧ c = (r.size : Int) ∧ Own8 n₀ w' v r.b) := by
  cases R with
  | none =>
    obtain ⟨a, b, c, v, h1, rfl⟩ := h
    exact ⟨a, b, c, v, false, rfl, h1, fun _ => rfl, (fun h => by cases h)⟩
  | some r =>
    obtain ⟨v, rfl, ho⟩ := h
    exact ⟨_, _, _, v, true, rfl, (by obtain ⟨A, c, rfl⟩ := ho.form; rfl), (fun h => by cases h), fun _ => ⟨r, rfl, rfl, rfl, rfl, ho⟩⟩

theorem al115_new (W : World) : (ALs 115).run Tryd.prog W = .ok (.pointer (some ⟨W.heap.size, 0, none⟩)) (W.alloc (.cells #[.int .i64 0, .int .i64 0, .int .i64 0, .slice none 0 0] 115)) := ALs_new _ z115 W
theorem st115_new (W : World) (a b c : Int) (v : Value) (h : v.oneCell' = true) : (STs 115 (.pointer (some ⟨W.heap.size, 0, none⟩)) (.agg #[.int .i64 a, .int .i64 b, .int .i64 c, v])).run Tryd.prog (W.alloc (.cells #[.int .i64 0, .int .i64 0, .int .i64 0, .slice none 0 0] 115)) = .ok () (W.alloc (.cells #[.int .i64 a, .int .i64 b, .int .i64 c, v] 115)) :=
  STs_new i115 W #[.int .i64 0, .int .i64 0, .int .i64 0, .slice none 0 0] rfl [.int .i64 a, .int .i64 b, .int .i64 c, v] rfl (by intro u hu; simp at hu; rcases hu with rfl | rfl | rfl | rfl <;> first | rfl | exact h)

set_option maxHeartbeats 4000000 in
theorem peek_any (B p gs : Nat) (wv : Value) (S : DS) (f m : Int) (hm : -9223372036854775808 ≤ m ∧ m ≤ 9223372036854775807) (w : World) (h : IsDrum B w p gs wv S) (hlen : S.waits.length ≤ 1000000000) (hg : Glob w) :
    Calls Tryd.prog 24 #[.pointer (some ⟨p, 0, none⟩), .int .i64 f, .int .i64 m] w fun e w' => PeekPost w.heap.size (peekP S f m) e w' ∧ Below w.heap.size w w' := by
  have hst := stretch_any p gs S.sure.length wv S.fuse S.off f m hm w h.st (by have := h.ok.n2; omega)
  cases hs : strP S.sure.length f m with
  | false =>
    have hP : peekP S f m = none := by unfold peekP; rw [hs]; rfl
    rw [hP]
    rw [hs] at hst
    have HST := Lib.hid hst
    clear hst hP hs h hg
    go_enter Tryd.func24, Tryd.ntmps24
    go_wp2_with fail
    refine HST.out.mono ?_
    rintro e w' ⟨rfl, hw⟩
    rw [hw]
    clear hw HST
    go_wp2_with fail
    go_ret3
    exact ⟨rfl, Below.refl _ _⟩
  | true =>
    obtain ⟨h0, h1, h2⟩ := strP_in hs
    obtain ⟨F, rfl⟩ := Int.eq_ofNat_of_zero_le h0
    obtain ⟨M, rfl⟩ := Int.eq_ofNat_of_zero_le h1
    have hsc := scbytes_any B p gs wv S F M w h (by omega) hlen
    obtain ⟨R, hR⟩ : ∃ R, peekP S (F : Int) (M : Int) = R := ⟨_, rfl⟩
    rw [hR]
    unfold peekP at hR
    rw [if_pos hs, Int.toNat_natCast, Int.toNat_natCast] at hR
    rw [hs] at hst
    have hbl : (if S.off = true then [] else stP S F M).length ≤ 10000000 := by
      split
      · simp
      · rw [stP_len h.ok F M (by omega)]; have := h.ok.n2; omega
    have hbb : ∀ x ∈ (if S.off = true then [] else stP S F M), 0 ≤ x ∧ x ≤ 255 := by
      split
      · simp
      · exact stP_bd h.ok F M (by omega)
    have hoff : S.off = true → R = none := by
      intro ho
      rw [← hR, if_pos ho, readP_nil]
    obtain ⟨bs, hbs⟩ : ∃ bs, (if S.off = true then [] else stP S F M) = bs := ⟨_, rfl⟩
    rw [hbs] at hsc hR hbl hbb
    have HST := Lib.hid hst
    have HSC := Lib.hid hsc
    have HR := Lib.hid hR
    have HB := Lib.hid hbb
    have HG := Lib.hid hg
    have HO := Lib.hid hoff
    obtain ⟨off, hof⟩ : ∃ off, S.off = off := ⟨_, rfl⟩
    have HF := Lib.hid hof
    obtain ⟨E, hE⟩ : ∃ E : Int, (if S.off = true then 21 else 0) = E := ⟨_, rfl⟩
    have HE := Lib.hid hE
    clear hst hsc hR hbb hg hoff hs h hbs hof hE h0 h1 hm
    go_enter Tryd.func24, Tryd.ntmps24
    go_wp2_with fail
    refine HST.out.mono ?_
    rintro e w' ⟨rfl, hw⟩
    rw [hw]
    clear hw HST
    go_wp2_with fail
    refine HSC.out.mono ?_
    rintro e w1 ⟨v, rfl, ho, hB1⟩
    rw [HE.out]
    clear HSC
    obtain ⟨A1, c1, rfl, hy1, _, hc1⟩ := ho.byt HB.out
    have hrd := scread A1 c1 bs w1 hy1 hc1 (by omega) (HG.out.below hB1)
    have HRD := Lib.hid hrd
    have B1 := Lib.hid hB1
    clear hrd ho hy1 hc1 hB1
    go_wp2_with fail
    refine HRD.out.mono ?_
    rintro e w2 ⟨hp, hB2⟩
    obtain ⟨a, b, c, v, ok, rfl, hv1, hno, hyes⟩ := hp.form
    have hal := al115_new w2
    have hst := st115_new w2 a b c v hv1
    have hrec := Blk.new w2 115 #[.int .i64 a, .int .i64 b, .int .i64 c, v]
    have B2 : Below w.heap.size w w2 := B1.out.trans (hB2.mono B1.out.size)
    have B3 := B2.alloc B2.size (.cells #[.int .i64 a, .int .i64 b, .int .i64 c, v] 115)
    obtain ⟨W3, hW3⟩ : ∃ W3, w2.alloc (.cells #[.int .i64 a, .int .i64 b, .int .i64 c, v] 115) = W3 := ⟨_, rfl⟩
    have hown : ok = true → ∃ r, readP bs = some r ∧ a = (r.t : Int) ∧ b = (r.n : Int) ∧ Own8 w.heap.size W3 v r.b := by
      intro h
      obtain ⟨r, h1, h2, h3, _, h5⟩ := hyes h
      refine ⟨r, h1, h2, h3, ?_⟩
      rw [← hW3]
      exact World.ownsRow.alloc (h5.base B1.out.size) _
    rw [hW3] at hst hrec B3
    have k0 : W3.cell? ⟨w2.heap.size, 0, none⟩ = some (.int .i64 a) := hrec.cell 0
    have k1 : W3.cell? ⟨w2.heap.size, 1, none⟩ = some (.int .i64 b) := hrec.cell 1
    have k3 : W3.cell? ⟨w2.heap.size, 3, none⟩ = some v := hrec.cell 3
    have HNO := Lib.hid hno
    have HOWN := Lib.hid hown
    have B3 := Lib.hid B3
    clear hp hyes hno hown hrec hW3 hB2 B2 HRD
    cases off with
    | true =>
      have e21 : E = 21 := by rw [← HE.out, HF.out]; rfl
      have hRn : R = none := HO.out HF.out
      subst e21
      have HRn := Lib.hid hRn
      clear hRn
      go_wp2_with fail
      go_ret3
      refine ⟨?_, B3.out⟩
      rw [show R = none from HRn.out]
      exact rfl
    | false =>
      have e0 : E = 0 := by rw [← HE.out, HF.out]; rfl
      subst e0
      cases ok with
      | false =>
        go_wp2_with fail
        go_ret3
        refine ⟨?_, B3.out⟩
        rw [show R = none from by rw [← HR.out, HNO.out (by first | rfl | trivial)]]
        exact rfl
      | true =>
        obtain ⟨r, h1, h2, h3, h4⟩ := HOWN.out rfl
        have H4 := Lib.hid h4
        have H2 := Lib.hid h2
        clear h2
        have hR := HR.out
        rw [h1] at hR
        simp only at hR
        by_cases hb : b = 0
        · have hbI : (b != 0) = false := by rw [hb]; rfl
          have hr0 : r.n = 0 := by omega
          rw [if_pos hr0] at hR
          have HRR := Lib.hid hR
          clear h4 hR hb h1 h3 HOWN hr0
          go_wp2_with fail
          go_quiet (fail)
          go_wp2_with fail
          go_ret3
          refine ⟨?_, below_drewN B3.out _⟩
          rw [← HRR.out]
          exact ⟨v, (by rw [H2.out]; rfl), H4.out.fr (F := fun _ => False) ((Fr.refl _ _).drewN _) (fun _ _ h => h)⟩
        · have hbI : (b != 0) = true := by simpa using hb
          have hr0 : ¬ r.n = 0 := by omega
          rw [if_neg hr0] at hR
          have HRR := Lib.hid hR
          clear h4 hR hb h1 h3 HOWN hr0
          go_wp2_with fail
          go_ret3
          refine ⟨?_, B3.out⟩
          rw [← HRR.out]
          exact rfl

end Go.Proofs.YtohadeijmmmcdaaDoor
