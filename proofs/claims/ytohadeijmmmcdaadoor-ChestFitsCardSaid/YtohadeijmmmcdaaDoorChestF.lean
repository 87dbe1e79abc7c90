/-
  A chest: Notes; scroll.Fits.
  A chest: Open.
-/
import Derived.Test.YtohadeijmmmcdaaDoorChestD

section
namespace Go.Proofs.YtohadeijmmmcdaaDoor
open Go.RowKit
set_option maxRecDepth 100000
attribute [local go_sem ↓] apt33_of

set_option maxHeartbeats 4000000 in
theorem cnotes_any (B r q p : Nat) (hv nv : Value) (x : CS) (w : World) (hc : IsChest B w r q p x hv nv) (hl : ∀ l ∈ x.l, l.length ≤ 500000000) (hn : x.l.length ≤ 900000000) :
    Calls Tryd.prog 71 #[.pointer (some ⟨r, 0, none⟩)] w fun e w' => ∃ v, e = .returned v ∧ OwnT w.heap.size w' v x.l ∧ Below w.heap.size w w' := by
  obtain ⟨A, c, rfl⟩ := hc.nt.form
  have k5 : w.cell? ⟨r, 5, none⟩ = some (.slice A x.l.length c) := hc.st.cell 5
  obtain ⟨N, hN⟩ : ∃ N, x.l.length = N := ⟨_, rfl⟩
  have hat : ∀ i (hi : i < x.l.length), ∃ g off, A = some ⟨g, off, none⟩ ∧ g < w.heap.size ∧ ∃ Ax cx, w.cell? ⟨g, off + i, none⟩ = some (.slice Ax (x.l[i]).length cx) ∧ Byt w Ax x.l[i] ∧ (Ax = none → cx = 0) := fun i hi => by
    obtain ⟨g, off, cap, e, _, hg, hcl⟩ := hc.nt.cells (by omega)
    simp only [Value.slice.injEq] at e
    obtain ⟨rfl, _, _⟩ := e
    obtain ⟨v, h1, h2⟩ := hcl i hi
    obtain ⟨Ax, cx, rfl⟩ := h2.form
    have hz := own8_c h2
    obtain ⟨Ax', cx', e, hy, _⟩ := h2.byt (hc.nb _ (List.getElem_mem hi))
    simp only [Value.slice.injEq, true_and] at e
    obtain ⟨rfl, rfl⟩ := e
    exact ⟨g, off, rfl, hg, Ax, cx, h1, hy, hz⟩
  have HAT := Lib.hid hat
  have HL := Lib.hid hl
  have HN := Lib.hid hN
  rw [hN] at k5
  clear hat hc hl
  go_enter Tryd.func71, Tryd.ntmps71
  go_wp2_with fail
  go_loopg [3, 11] N (fun k out t wr => ∃ i : Nat, i ≤ N ∧ k = N - i ∧ t = .int .i64 (i : Int) ∧ OwnT w.heap.size wr out (x.l.take i) ∧ Below w.heap.size w wr)
  case atStart => exact ⟨0, Nat.zero_le _, rfl, rfl, OwnT.nil _ _, Below.refl _ _⟩
  case round =>
    obtain ⟨i, hi, hk, rfl, hot, hbl⟩ := hrel
    by_cases hlt : i < N
    · obtain ⟨g, off, hA, hg, Ax, cx, hcx, hy, hz⟩ := HAT.out i (by rw [HN.out]; exact hlt)
      obtain ⟨b, hb⟩ : ∃ b, x.l[i]'(by rw [HN.out]; exact hlt) = b := ⟨_, rfl⟩
      rw [hb] at hcx hy
      have hltI : (i : Int) < (N : Int) := by omega
      have hcl := clone_any Ax cx hz b wr (hy.belowB hbl (fun a ha h0 => by
        obtain ⟨g9, o9, e9, hg9, _⟩ := hy.cell h0
        rw [ha] at e9
        cases e9
        exact hg9)) (by rw [← hb]; exact Nat.le_trans (HL.out _ (List.getElem_mem (show i < x.l.length by rw [HN.out]; exact hlt))) (by omega))
      have hc' : wr.cell? ⟨g, off + i, none⟩ = some (.slice Ax b.length cx) := (hbl.cell (p := ⟨g, off + i, none⟩) hg).trans hcx
      have htake : x.l.take i ++ [b] = x.l.take (i + 1) := by
        rw [List.take_succ_eq_append_getElem (by rw [HN.out]; exact hlt), hb]
      have htl : (x.l.take i).length = i := by rw [List.length_take, HN.out]; omega
      obtain ⟨L, hL⟩ : ∃ L, b.length = L := ⟨_, rfl⟩
      rw [hL] at hcl hc'
      obtain ⟨Ao, co, rfl⟩ := hot.form
      subst hA
      rw [htl] at hot ⊢
      have HOT := Lib.hid hot
      have HBL := Lib.hid hbl
      have HT := Lib.hid htake
      have HTL := Lib.hid htl
      have HLL := Lib.hid hL
      clear hot hbl hy hcx hb htake htl hL
      go_wp2_with fail
      with_reducible refine hcl.mono ?_
      rintro e w2 ⟨v, rfl, ho, hB2⟩
      obtain ⟨Av, cv, rfl⟩ := ho.form
      have hot2 := HOT.out.below hB2
      obtain ⟨v5, w5, hap, ho5, hf5, hft5⟩ := hot2.app (ty := 33) (ho.base HBL.out.size) (by rw [HTL.out]; omega) (Nat.le_trans HBL.out.size hB2.size)
      rw [HLL.out] at hap ⊢
      rw [HT.out] at ho5
      obtain ⟨A5, c5, rfl⟩ := ho5.form
      have hl5 : (x.l.take (i + 1)).length = i + 1 := by rw [List.length_take, HN.out]; omega
      have hl4 : (x.l.take i ++ [b]).length = i + 1 := by rw [HT.out]; exact hl5
      rw [hl5] at hap ho5
      have f5 : Below w.heap.size w w5 := (HBL.out.trans (hB2.mono HBL.out.size)).trans (hf5.below (Nat.le_trans HBL.out.size hB2.size) (fun k hk e => by have := (hot2.lt e).1; omega))
      have O5 := Lib.hid ho5
      have F5 := Lib.hid f5
      clear ho hot2 ho5 hf5 hft5 f5 hB2 hcl
      go_wp2_with fail
      go_roundg (N - (i + 1))
      case measure => omega
      case rel => exact ⟨i + 1, by omega, rfl, by go_num, O5.out, F5.out⟩
    · obtain rfl : i = N := by omega
      rw [List.take_of_length_le (by rw [HN.out]; omega)] at hot
      obtain ⟨Ao, co, rfl⟩ := hot.form
      rw [HN.out] at hot ⊢
      have HOT := Lib.hid hot
      have HBL := Lib.hid hbl
      have hltI : ¬ ((i : Int) < (i : Int)) := by omega
      clear hot hbl
      go_wp2_with fail
      go_ret
      exact ⟨_, rfl, HOT.out, HBL.out⟩

end Go.Proofs.YtohadeijmmmcdaaDoor
end

section
namespace Go.Proofs.YtohadeijmmmcdaaDoor
open Go.RowKit
set_option maxRecDepth 100000

/-! ### What is read is of the bytes -/
theorem takeNumP_in {most : Nat} {l : List Int} {n : Nat} {r : List Int} (h : takeNumP most l = some (n, r)) : n ≤ most ∧ ∀ x ∈ r, x ∈ l := by
  cases l with
  | nil => cases h
  | cons k tl =>
    simp only [takeNumP] at h
    split at h
    · cases h
    · rename_i hn
      injection h with h
      simp only [Prod.mk.injEq] at h
      obtain ⟨rfl, rfl⟩ := h
      exact ⟨by omega, fun x hx => List.mem_cons_of_mem _ (List.mem_of_mem_drop hx)⟩
theorem takeTextP_le {most : Nat} {l : List Int} {x r : List Int} (h : takeTextP most l = some (x, r)) : ∀ y ∈ x, y ∈ l := by
  unfold takeTextP at h
  cases hn : takeNumP most l with
  | none => rw [hn] at h; cases h
  | some a =>
    obtain ⟨n, r'⟩ := a
    rw [hn] at h
    simp only at h
    split at h
    · cases h
    · simp only [Option.some.injEq, Prod.mk.injEq] at h
      obtain ⟨rfl, _⟩ := h
      exact fun y hy => (takeNumP_in hn).2 y (List.mem_of_mem_take hy)
theorem eyeP_le {f : List Int} {long t n : Nat} {x : List Int} (h : eyeP f long = some (t, n, x)) : t ≤ mostP ∧ n ≤ mostP ∧ ∀ y ∈ x, y ∈ f := by
  unfold eyeP at h
  cases h1 : takeNumP mostP f with
  | none => rw [h1] at h; cases h
  | some a =>
    obtain ⟨t', r⟩ := a
    rw [h1] at h
    simp only at h
    cases h2 : takeNumP mostP r with
    | none => rw [h2] at h; cases h
    | some b =>
      obtain ⟨n', r2⟩ := b
      rw [h2] at h
      simp only at h
      cases h3 : takeTextP long r2 with
      | none => rw [h3] at h; cases h
      | some d =>
        obtain ⟨x', r3⟩ := d
        rw [h3] at h
        simp only at h
        split at h
        · simp only [Option.some.injEq, Prod.mk.injEq] at h
          obtain ⟨rfl, rfl, rfl⟩ := h
          exact ⟨(takeNumP_in h1).1, (takeNumP_in h2).1, fun y hy => (takeNumP_in h1).2 y ((takeNumP_in h2).2 y (takeTextP_le h3 y hy))⟩
        · cases h
theorem readP_le {b : List Int} {r : RecP} (h : readP b = some r) : r.t ≤ mostP ∧ r.n ≤ mostP ∧ ∀ y ∈ r.b, y ∈ b := by
  unfold readP at h
  split at h; · cases h
  split at h; · cases h
  split at h; · cases h
  split at h
  · cases h
  · rename_i t n x he
    simp only [Option.some.injEq] at h
    subst h
    obtain ⟨h1, h2, h3⟩ := eyeP_le he
    exact ⟨h1, h2, fun y hy => List.mem_of_mem_drop (List.mem_of_mem_take (h3 y hy))⟩
theorem scanP_mem (t : Nat) : ∀ (fuel : Nat) (b : List Int) (n : Nat), ∀ l ∈ (scanP t fuel b n).1, ∀ y ∈ l, y ∈ b
  | 0, b, n, l, hl => by simp [scanP] at hl
  | fuel + 1, b, n, l, hl => by
    simp only [scanP] at hl
    cases hr : readP b with
    | none => rw [hr] at hl; cases hl
    | some r =>
      rw [hr] at hl
      simp only at hl
      split at hl
      · rcases List.mem_cons.1 hl with rfl | hl
        · exact (readP_le hr).2.2
        · exact fun y hy => List.mem_of_mem_drop (scanP_mem t fuel _ _ l hl y hy)
      · cases hl
theorem scanAll_bd {S : DS} (h : S.Ok) {f m t : Nat} (hf : f + m ≤ S.sure.length) : ∀ l ∈ (scanAll t (stP S f m)).1, ∀ y ∈ l, 0 ≤ y ∧ y ≤ 255 :=
  fun l hl y hy => stP_bd h f m hf y (scanP_mem t _ _ _ l hl y hy)

/-- At the turn that a stretch begins with there are records. -/
theorem peekT_scan {S : DS} {f m : Nat} (ho : S.off = false) (h : 1 ≤ peekT S f m) : peekT S f m ≤ mostP ∧ f + m ≤ S.sure.length ∧ ∃ b l, (scanAll (peekT S f m) (stP S f m)).1 = b :: l := by
  obtain ⟨t, ht⟩ : ∃ t, peekT S f m = t := ⟨_, rfl⟩
  rw [ht] at h ⊢
  unfold peekT peekP at ht
  split at ht
  · omega
  · rename_i r hr
    split at hr
    · rename_i hs
      rw [ho, if_neg (by simp)] at hr
      simp only [Int.toNat_natCast] at hr
      split at hr
      · cases hr
      · rename_i r' hr'
        split at hr
        · rename_i hn
          simp only [Option.some.injEq] at hr
          subst hr
          simp only at ht
          refine ⟨by rw [← ht]; exact (readP_le hr').1, by have := (strP_in hs).2.2; omega, ?_⟩
          unfold scanAll
          simp only [scanP]
          rw [hr']
          simp only
          rw [if_pos ⟨ht, hn⟩]
          exact ⟨_, _, rfl⟩
        · cases hr
    · cases hr

theorem findP_in {S : DS} (ho : S.off = false) (h : ¬ (findP S).2 < 1) : (findP S).1 ≤ 1 ∧ (findP S).2 ≤ mostP ∧ ∃ b l, (scanAll (findP S).2 (stP S ((findP S).1 * (S.sure.length / 2)) (S.sure.length / 2))).1 = b :: l := by
  unfold findP at h ⊢
  split
  · rename_i hlt
    rw [if_pos hlt] at h
    simp only at h ⊢
    rw [Nat.one_mul]
    obtain ⟨h1, _, h2⟩ := peekT_scan ho (f := S.sure.length / 2) (m := S.sure.length / 2) (by omega)
    exact ⟨Nat.le_refl _, h1, h2⟩
  · rename_i hlt
    rw [if_neg hlt] at h
    simp only at h ⊢
    rw [Nat.zero_mul]
    obtain ⟨h1, _, h2⟩ := peekT_scan ho (f := 0) (m := S.sure.length / 2) (by omega)
    exact ⟨Nat.zero_le _, h1, h2⟩
theorem scanAll_len (t : Nat) (b : List Int) : (scanAll t b).1.length ≤ b.length := by
  have key : ∀ (fuel : Nat) (l : List Int) (n : Nat), 64 * (scanP t fuel l n).1.length ≤ l.length := by
    intro fuel
    induction fuel with
    | zero => intro l n; simp [scanP]
    | succ k ih =>
      intro l n
      simp only [scanP]
      cases hr : readP l with
      | none => simp
      | some r =>
        simp only
        split
        · have h1 := ih (l.drop (64 * r.size)) (n + 1)
          have h2 := readP_size hr
          simp only [List.length_drop] at h1
          simp only [List.length_cons]
          omega
        · simp
  have := key (b.length + 1) b 0
  unfold scanAll
  omega

/-- What Open makes of a drum of two sectors or more that is on. -/
def copenR (S : DS) : Int × CS × SS × DS :=
  if (findP S).2 < 1 then ((beginR S 0 1 []).1, ⟨0, 1, [], [], false⟩, (beginR S 0 1 []).2.1, (beginR S 0 1 []).2.2) else
  ((openR S ((findP S).1 * (S.sure.length / 2)) (S.sure.length / 2) (findP S).2).1,
   ⟨(findP S).1, (findP S).2, (openR S ((findP S).1 * (S.sure.length / 2)) (S.sure.length / 2) (findP S).2).2.1.headD [], (openR S ((findP S).1 * (S.sure.length / 2)) (S.sure.length / 2) (findP S).2).2.1.tail, false⟩,
   ⟨(findP S).1 * (S.sure.length / 2), S.sure.length / 2, (findP S).2, (openR S ((findP S).1 * (S.sure.length / 2)) (S.sure.length / 2) (findP S).2).2.2.1, (openR S ((findP S).1 * (S.sure.length / 2)) (S.sure.length / 2) (findP S).2).2.1.length, false⟩,
   (openR S ((findP S).1 * (S.sure.length / 2)) (S.sure.length / 2) (findP S).2).2.2.2)

def COpenPost (n₀ p : Nat) (R : Int × CS × SS × DS) (e : Ending) (w' : World) : Prop :=
  (R.1 = 0 ∧ ∃ r q hv nv, e = .returned (.tuple #[.pointer (some ⟨r, 0, none⟩), .int .i64 0]) ∧ IsScroll w' q p R.2.2.1 ∧ IsChest n₀ w' r q p R.2.1 hv nv) ∨ (R.1 ≠ 0 ∧ e = .returned (.tuple #[.pointer none, .int .i64 R.1]))

attribute [local go_sem ↓] bd70_of bd72_of
theorem slT_of (x : Value) (lo hi mx : Option Value) : Instr.sliceAt 33 x lo hi mx = SLs 33 x lo hi mx := rfl
attribute [local go_sem ↓] slT_of

theorem copen_nil (w : World) : Calls Tryd.prog 35 #[.pointer none] w fun e w' => e = .returned (.tuple #[.pointer none, .int .i64 1]) ∧ w = w' := by
  go_enter Tryd.func35, Tryd.ntmps35
  go_wp2_with fail
  go_ret2
  exact ⟨rfl, rfl⟩

theorem peq35 (q : Nat) (W : World) : (binOp .eql 35 (.pointer (some ⟨q, 0, none⟩)) (.pointer none)).run Tryd.prog W = .ok (.bool false) W := by rfl

set_option maxHeartbeats 8000000 in
theorem copen_any (B p gs : Nat) (wv : Value) (S : DS) (w : World) (hd : IsDrum B w p gs wv S) (hof : S.off = false) (h2s : 2 ≤ S.sure.length) (hlen : S.waits.length + 10000 ≤ 1000000000) (hg : Glob w) (h2 : 2 ≤ B) :
    Calls Tryd.prog 35 #[.pointer (some ⟨p, 0, none⟩)] w fun e w' =>
      COpenPost w.heap.size p (copenR S) e w' ∧ (∃ wv', IsDrum B w' p gs wv' (copenR S).2.2.2) ∧ Kept B sts w w' := by
  have hBw : B ≤ w.heap.size := by have := hd.lt (.inl rfl); omega
  have hn2 := hd.ok.n2
  have hl := len_any p gs S.sure.length wv S.fuse S.off w hd.st
  have hon := on_any p (.slice (some ⟨gs, 0, none⟩) S.sure.length S.sure.length) wv S.fuse S.off w hd.st
  rw [hof] at hon
  have hfi := find_any B p gs wv S w hd (by omega) hg
  have pq := peq35 p
  have hIl : ¬ ((S.sure.length : Int) < 2) := by omega
  have hIr : ¬ (S.sure.length < 2) := by omega
  obtain ⟨R, hR⟩ : ∃ R, copenR S = R := ⟨_, rfl⟩
  rw [hR]
  unfold copenR at hR
  by_cases hlt : (findP S).2 < 1
  · rw [if_pos hlt] at hR
    have hfr : ∀ W, Below w.heap.size w W → _ := fun W hB => fresh_any B p gs wv S W (Kept.drum_below hB hd) hlen (hg.below hB) h2
    obtain ⟨⟨sd, t⟩, hF⟩ : ∃ F, findP S = F := ⟨_, rfl⟩
    rw [hF] at hfi hlt
    simp only at hfi hlt
    have hI : (t : Int) < 1 := by omega
    obtain ⟨⟨er, s, T⟩, hE⟩ : ∃ E, beginR S 0 1 [] = E := ⟨_, rfl⟩
    rw [hE] at hfr hR
    simp only at hfr hR
    have HFR := Lib.hid hfr
    have HR := Lib.hid hR
    clear hd hg hfr hR hF hE hlt hof
    obtain ⟨SN, hSN⟩ : ∃ N, S.sure.length = N := ⟨_, rfl⟩
    rw [hSN] at hl hIl hIr
    clear hSN
    go_enter Tryd.func35, Tryd.ntmps35
    go_wp2_with fail
    with_reducible refine hl.mono ?_
    rintro e w' ⟨rfl, hw⟩
    rw [← hw]
    clear hw hl
    go_wp2_with fail
    with_reducible refine hon.mono ?_
    rintro e w' ⟨rfl, hw⟩
    rw [← hw]
    clear hw hon
    go_wp2_with fail
    with_reducible refine hfi.mono ?_
    rintro e w1 ⟨rfl, hB1⟩
    have hfr := HFR.out w1 hB1
    have HB1 := Lib.hid hB1
    clear hB1 hfi
    go_wp2_with fail
    with_reducible refine hfr.mono ?_
    rintro e w2 ⟨hp, hd2, hk2⟩
    have hs1 := HB1.out.size
    have hK := (Kept.of_below (ts := sts) HB1.out hBw).trans hk2
    have HD2 := Lib.hid hd2
    have HK := Lib.hid hK
    clear hfr hd2 hk2 hK
    rcases hp with ⟨he, r, q, rfl, hs, hc⟩ | ⟨he, rfl⟩
    · simp only at he
      subst he
      have HS := Lib.hid hs
      have HC := Lib.hid hc
      clear hs hc
      go_wp2_with fail
      go_ret2
      rw [← HR.out]
      have hc := HC.out
      exact ⟨.inl ⟨rfl, r, q, _, _, rfl, HS.out, ⟨hc.st, by have := hc.br; omega, by have := hc.bq; omega, hc.hd.base hs1, hc.nt.base hs1, hc.hb, hc.nb⟩⟩, HD2.out, HK.out⟩
    · have HE := Lib.hid he
      clear he
      go_wp2_with fail
      go_ret2
      rw [← HR.out]
      exact ⟨.inr ⟨HE.out, rfl⟩, HD2.out, HK.out⟩
  · rw [if_neg hlt] at hR
    obtain ⟨hsd, htm, b, l, hbl⟩ := findP_in hof hlt
    obtain ⟨⟨sd, t⟩, hF⟩ : ∃ F, findP S = F := ⟨_, rfl⟩
    rw [hF] at hfi hlt hR hsd htm hbl
    simp only at hfi hlt hR hsd htm hbl
    unfold mostP at htm
    have hI : ¬ ((t : Int) < 1) := by omega
    have hha : ∀ W, Below w.heap.size w W → Calls Tryd.prog 75 #[.pointer (some ⟨p, 0, none⟩)] W fun e w' => e = .returned (.int .i64 ((S.sure.length / 2 : Nat) : Int)) ∧ W = w' := fun W hB =>
      half_any p gs S.sure.length wv S.fuse S.off W (Kept.drum_below hB hd).st (by omega)
    have hso : ∀ W, Below w.heap.size w W → _ := fun W hB => sopen_any B p gs wv S (sd * (S.sure.length / 2)) (S.sure.length / 2) t W (Kept.drum_below hB hd) (by
      have : sd * (S.sure.length / 2) ≤ 1 * (S.sure.length / 2) := Nat.mul_le_mul hsd (Nat.le_refl _)
      omega) (by omega) (by omega) (hg.below hB)
    have hnb := scanAll_bd hd.ok (f := sd * (S.sure.length / 2)) (m := S.sure.length / 2) (t := t) (by
      have : sd * (S.sure.length / 2) ≤ 1 * (S.sure.length / 2) := Nat.mul_le_mul hsd (Nat.le_refl _)
      omega)
    rw [hbl] at hnb
    have hopl : (openR S (sd * (S.sure.length / 2)) (S.sure.length / 2) t).2.1 = b :: l := by
      unfold openR
      rw [if_neg (by rw [hof]; simp)]
      exact hbl
    obtain ⟨⟨er, L, u, T⟩, hE⟩ : ∃ E, openR S (sd * (S.sure.length / 2)) (S.sure.length / 2) t = E := ⟨_, rfl⟩
    rw [hE] at hso hR hopl
    simp only at hso hR hopl
    subst hopl
    obtain ⟨H, hH⟩ : ∃ H, S.sure.length / 2 = H := ⟨_, rfl⟩
    have hF1 : sd * H ≤ 1 * H := Nat.mul_le_mul hsd (Nat.le_refl _)
    rw [hH] at hha hso hR
    obtain ⟨SF, hSF⟩ : ∃ F, sd * H = F := ⟨_, rfl⟩
    rw [hSF] at hF1 hso hR
    have hwr : IntKind.i64.wrap ((sd : Int) * (H : Int)) = (SF : Int) := by rw [← Int.natCast_mul, hSF, IntKind.wrap_i64]; omega
    have HSO := Lib.hid hso
    have HHA := Lib.hid hha
    have HR := Lib.hid hR
    have HNB := Lib.hid hnb
    clear hd hg hso hha hR hF hE hlt hof hbl hnb
    obtain ⟨SN, hSN⟩ : ∃ N, S.sure.length = N := ⟨_, rfl⟩
    rw [hSN] at hl hIl hIr
    clear hSN hH hSF
    go_enter Tryd.func35, Tryd.ntmps35
    go_wp2_with fail
    with_reducible refine hl.mono ?_
    rintro e w' ⟨rfl, hw⟩
    rw [← hw]
    clear hw hl
    go_wp2_with fail
    with_reducible refine hon.mono ?_
    rintro e w' ⟨rfl, hw⟩
    rw [← hw]
    clear hw hon
    go_wp2_with fail
    with_reducible refine hfi.mono ?_
    rintro e w1 ⟨rfl, hB1⟩
    have hso := HSO.out w1 hB1
    have hha := HHA.out w1 hB1
    have HB1 := Lib.hid hB1
    clear hB1 hfi
    go_wp2_with fail
    with_reducible refine hha.mono ?_
    rintro e w' ⟨rfl, hw⟩
    rw [← hw]
    clear hw
    go_wp2_with fail
    with_reducible refine hha.mono ?_
    rintro e w' ⟨rfl, hw⟩
    rw [← hw]
    clear hw hha
    go_wp2_with fail
    with_reducible refine hso.mono ?_
    rintro e w2 ⟨hp, hd2, hk2⟩
    have hs1 := HB1.out.size
    have hs2 := hk2.size
    have hK := (Kept.of_below (ts := sts) HB1.out hBw).trans hk2.ds
    have HD2 := Lib.hid hd2
    have HK := Lib.hid hK
    clear hso hd2 hk2 hK
    rcases hp with ⟨he, q, v, rfl, hs, hq, hot⟩ | ⟨he, rfl⟩
    · simp only at he hot
      subst he
      have hnt := NT.of hot
      obtain ⟨A, c, rfl, nv, hsl, hnt2⟩ := hnt.tail
      obtain ⟨g, off, cap, e1, hBg, hgs, hcl⟩ := hnt.cells (by simp)
      simp only [List.length_cons, Value.slice.injEq] at e1
      obtain ⟨rfl, _, rfl⟩ := e1
      obtain ⟨hv, hc0, ho0⟩ := hcl 0 (by simp)
      simp only [List.getElem_cons_zero, Nat.add_zero] at hc0 ho0
      obtain ⟨An, cn, rfl⟩ := hnt2.form
      obtain ⟨Ah, ch, rfl⟩ := ho0.form
      have hb70 := bd70_1 (some ⟨q, 0, none⟩)
      have hb72 := bd72_6 (some ⟨q, 0, none⟩) (some ⟨p, 0, none⟩) Ah An (sd : Int) (t : Int) b.length ch l.length cn
      have HS := Lib.hid hs
      have HN := Lib.hid hnt2
      have HO := Lib.hid ho0
      have hc0' : w2.drew.cell? ⟨g, off, none⟩ = some (.slice Ah b.length ch) := hc0
      clear hs hnt hnt2 ho0 hot hcl
      go_wp2_with fail
      refine wp_txJ [3, 3, 3, 3, 3, 3, 3, 0, 3, 3, 3, 2, 3, 3] (fun W => W.cell? ⟨g, off, none⟩ = some (.slice Ah b.length ch)) (by kernel_rfl) (by kernel_rfl) (by kernel_rfl) (by kernel_rfl) hc0' ?_
      iterate 7 (with_reducible refine wpTxJ_ev (v := ?_) (by with_unfolding_all rfl) (fun W' => ?_) ?_; rotate_left; focus (go_simp; (try with_reducible rfl)))
      with_reducible refine wpTxJ_take (v := ?_) (by with_unfolding_all rfl) (fun W' hS => ?_) ?_; rotate_left; focus (go_simp; (try with_reducible rfl))
      iterate 3 (with_reducible refine wpTxJ_ev (v := ?_) (by with_unfolding_all rfl) (fun W' => ?_) ?_; rotate_left; focus (go_simp; (try with_reducible rfl)))
      with_reducible refine wpTxJ_last (by with_unfolding_all rfl) (fun K hK => ?_)
      go_simp
      with_reducible refine hK _ _ ?_
      clear hK K
      iterate 2 (with_reducible refine wpTxJ_ev (v := ?_) (by with_unfolding_all rfl) (fun W' => ?_) ?_; rotate_left; focus (go_simp; (try with_reducible rfl)))
      with_reducible refine wpTxJ_nil ?_
      rw [noPan_normal]
      go_wp2_with fail
      go_ret2
      rw [← HR.out]
      have hBw2 : B ≤ w2.heap.size := Nat.le_trans hBw (Nat.le_trans hs1 hs2)
      refine ⟨.inl ⟨rfl, w2.heap.size, q, .slice Ah b.length ch, .slice An l.length cn, rfl, (HS.out.alloc _).drew, ⟨(Blk.new w2 _ _).drew, by omega, by omega, ?_, ?_, HNB.out b (by simp), fun z hz => HNB.out z (List.mem_cons_of_mem _ hz)⟩⟩, ?_, ?_⟩
      · exact (HO.out.base hs1).fr (F := fun _ => False) (((Fr.refl _ w2).alloc _).drew) (fun _ _ h => h)
      · exact (HN.out.base hs1).below (((Below.refl _ w2).alloc (Nat.le_refl _) _).drew)
      · obtain ⟨wv2, hd2⟩ := HD2.out
        exact ⟨wv2, Kept.drum_below (((Below.refl _ w2).alloc (Nat.le_refl _) _).drew) hd2⟩
      · exact HK.out.trans (Kept.of_below (((Below.refl _ w2).alloc (Nat.le_refl _) _).drew) hBw2)
    · have HE := Lib.hid he
      have hIe : (er != 0) = true := by simpa using he
      clear he
      go_wp2_with fail
      go_ret2
      rw [← HR.out]
      exact ⟨.inr ⟨HE.out, rfl⟩, HD2.out, HK.out⟩

end Go.Proofs.YtohadeijmmmcdaaDoor
end
