/-
  scroll.read at any bytes; scroll.Peek.
  scroll.Scan.
  scroll.Scan: the walk.
-/
import Derived.Test.YtohadeijmmmcdaaDoorReadA
import Derived.Deep.LoopGhost
import Derived.WalkMore

section
section
namespace Go.Proofs.YtohadeijmmmcdaaDoor
open Go.RowKit
set_option maxRecDepth 100000
attribute [local go_sem ↓] ld115_of st115_of al115_of bd115_of slr_of

theorem scread (A : Option Addr) (c : Nat) (b : List Int) (w : World) (hy : Byt w A b) (hc : b.length ≤ c) (hl : b.length ≤ 100000000) (hg : Glob w) :
    Calls Tryd.prog 64 #[.slice A b.length c] w fun e w' => ReadPost w.heap.size (readP b) e w' ∧ Below w.heap.size w w' := by
  by_cases h : b.length < 12
  · exact scread_short A c b w h
  · refine scread_any A c (fun e => ?_) b w hy hc hl (by omega) hg
    subst e
    obtain ⟨g, o, e, _⟩ := hy.cell (by omega)
    cases e

/-- What Peek finds. -/
def peekP (S : DS) (f m : Int) : Option (Nat × List Int) :=
  if strP S.sure.length f m = true then
    match readP (if S.off = true then [] else stP S f.toNat m.toNat) with
    | none => none
    | some r => if r.n = 0 then some (r.t, r.b) else none
  else none
def PeekPost (n₀ : Nat) (R : Option (Nat × List Int)) (e : Ending) (w' : World) : Prop :=
  match R with
  | none => e = .returned (.tuple #[.int .i64 0, .slice none 0 0, .bool false])
  | some (t, b) => ∃ v, e = .returned (.tuple #[.int .i64 (t : Int), v, .bool true]) ∧ Own8 n₀ w' v b

theorem strP_in {n : Nat} {f m : Int} (h : strP n f m = true) : 0 ≤ f ∧ 0 ≤ m ∧ f + m ≤ n := by
  simp only [strP, Bool.and_eq_true, decide_eq_true_eq] at h
  omega

theorem readP_nil : readP [] = none := by unfold readP; rw [if_pos (by simp)]

theorem ReadPost.form {n₀ : Nat} {R : Option RecP} {e : Ending} {w' : World} (h : ReadPost n₀ R e w') :
    ∃ (a b c : Int) (v : Value) (ok : Bool), e = .returned (.tuple #[.agg #[.int .i64 a, .int .i64 b, .int .i64 c, v], .bool ok]) ∧ v.oneCell' = true ∧ (ok = false → R = none) ∧ (ok = true → ∃ r, R = some r ∧ a = (r.t : Int) ∧ b = (r.n : Int) ∧ c = (r.size : Int) ∧ Own8 n₀ w' v r.b) := by
  cases R with
  | none =>
    obtain ⟨a, b, c, v, h1, rfl⟩ := h
    exact ⟨a, b, c, v, false, rfl, h1, fun _ => rfl, (fun h => by cases h)⟩
  | some r =>
    obtain ⟨v, rfl, ho⟩ := h
    exact ⟨_, _, _, v, true, rfl, (by obtain ⟨A, c, rfl⟩ := ho.form; rfl), (fun h => by cases h), fun _ => ⟨r, rfl, rfl, rfl, rfl, ho⟩⟩

theorem al115_new (W : World) : (ALs 115).run Tryd.prog W = .ok (.pointer (some ⟨W.heap.size, 0, none⟩)) (W.alloc (.cells #[.int .i64 0, .int .i64 0, .int .i64 0, .slice none 0 0] 115)) := ALs_new _ z115 W
theorem st115_new (W : World) (a b c : Int) (v : Value) (h : v.oneCell' = true) : (STs 115 (.pointer (some ⟨W.heap.size, 0, none⟩)) (.agg #[.int .i64 a, .int .i64 b, .int .i64 c, v])).run Tryd.prog (W.alloc (.cells #[.int .i64 0, .int .i64 0, .int .i64 0, .slice none 0 0] 115)) = .ok () (W.alloc (.cells #[.int .i64 a, .int .i64 b, .int .i64 c, v] 115)) :=
  STs_new i115 W #[.int .i64 0, .int .i64 0, .int .i64 0, .slice none 0 0] rfl [.int .i64 a, .int .i64 b, .int .i64 c, v] rfl (by intro u hu; simp at hu; rcases hu with rfl | rfl | rfl | rfl <;> first | rfl | exact h)

set_option maxHeartbeats 4000000 in
theorem peek_any (B p gs : Nat) (wv : Value) (S : DS) (f m : Int) (hm : -9223372036854775808 ≤ m ∧ m ≤ 9223372036854775807) (w : World) (h : IsDrum B w p gs wv S) (hlen : S.waits.length ≤ 1000000000) (hg : Glob w) :
    Calls Tryd.prog 24 #[.pointer (some ⟨p, 0, none⟩), .int .i64 f, .int .i64 m] w fun e w' => PeekPost w.heap.size (peekP S f m) e w' ∧ Below w.heap.size w w' := by
  have hst := stretch_any p gs S.sure.length wv S.fuse S.off f m hm w h.st (by have := h.ok.n2; omega)
  cases hs : strP S.sure.length f m with
  | false =>
    have hP : peekP S f m = none := by unfold peekP; rw [hs]; rfl
    rw [hP]
    rw [hs] at hst
    have HST := Lib.hid hst
    clear hst hP hs h hg
    go_enter Tryd.func24, Tryd.ntmps24
    go_wp2_with fail
    refine HST.out.mono ?_
    rintro e w' ⟨rfl, hw⟩
    rw [hw]
    clear hw HST
    go_wp2_with fail
    go_ret3
    exact ⟨rfl, Below.refl _ _⟩
  | true =>
    obtain ⟨h0, h1, h2⟩ := strP_in hs
    obtain ⟨F, rfl⟩ := Int.eq_ofNat_of_zero_le h0
    obtain ⟨M, rfl⟩ := Int.eq_ofNat_of_zero_le h1
    have hsc := scbytes_any B p gs wv S F M w h (by omega) hlen
    obtain ⟨R, hR⟩ : ∃ R, peekP S (F : Int) (M : Int) = R := ⟨_, rfl⟩
    rw [hR]
    unfold peekP at hR
    rw [if_pos hs, Int.toNat_natCast, Int.toNat_natCast] at hR
    rw [hs] at hst
    have hbl : (if S.off = true then [] else stP S F M).length ≤ 10000000 := by
      split
      · simp
      · rw [stP_len h.ok F M (by omega)]; have := h.ok.n2; omega
    have hbb : ∀ x ∈ (if S.off = true then [] else stP S F M), 0 ≤ x ∧ x ≤ 255 := by
      split
      · simp
      · exact stP_bd h.ok F M (by omega)
    have hoff : S.off = true → R = none := by
      intro ho
      rw [← hR, if_pos ho, readP_nil]
    obtain ⟨bs, hbs⟩ : ∃ bs, (if S.off = true then [] else stP S F M) = bs := ⟨_, rfl⟩
    rw [hbs] at hsc hR hbl hbb
    have HST := Lib.hid hst
    have HSC := Lib.hid hsc
    have HR := Lib.hid hR
    have HB := Lib.hid hbb
    have HG := Lib.hid hg
    have HO := Lib.hid hoff
    obtain ⟨off, hof⟩ : ∃ off, S.off = off := ⟨_, rfl⟩
    have HF := Lib.hid hof
    obtain ⟨E, hE⟩ : ∃ E : Int, (if S.off = true then 21 else 0) = E := ⟨_, rfl⟩
    have HE := Lib.hid hE
    clear hst hsc hR hbb hg hoff hs h hbs hof hE h0 h1 hm
    go_enter Tryd.func24, Tryd.ntmps24
    go_wp2_with fail
    refine HST.out.mono ?_
    rintro e w' ⟨rfl, hw⟩
    rw [hw]
    clear hw HST
    go_wp2_with fail
    refine HSC.out.mono ?_
    rintro e w1 ⟨v, rfl, ho, hB1⟩
    rw [HE.out]
    clear HSC
    obtain ⟨A1, c1, rfl, hy1, _, hc1⟩ := ho.byt HB.out
    have hrd := scread A1 c1 bs w1 hy1 hc1 (by omega) (HG.out.below hB1)
    have HRD := Lib.hid hrd
    have B1 := Lib.hid hB1
    clear hrd ho hy1 hc1 hB1
    go_wp2_with fail
    refine HRD.out.mono ?_
    rintro e w2 ⟨hp, hB2⟩
    obtain ⟨a, b, c, v, ok, rfl, hv1, hno, hyes⟩ := hp.form
    have hal := al115_new w2
    have hst := st115_new w2 a b c v hv1
    have hrec := Blk.new w2 115 #[.int .i64 a, .int .i64 b, .int .i64 c, v]
    have B2 : Below w.heap.size w w2 := B1.out.trans (hB2.mono B1.out.size)
    have B3 := B2.alloc B2.size (.cells #[.int .i64 a, .int .i64 b, .int .i64 c, v] 115)
    obtain ⟨W3, hW3⟩ : ∃ W3, w2.alloc (.cells #[.int .i64 a, .int .i64 b, .int .i64 c, v] 115) = W3 := ⟨_, rfl⟩
    have hown : ok = true → ∃ r, readP bs = some r ∧ a = (r.t : Int) ∧ b = (r.n : Int) ∧ Own8 w.heap.size W3 v r.b := by
      intro h
      obtain ⟨r, h1, h2, h3, _, h5⟩ := hyes h
      refine ⟨r, h1, h2, h3, ?_⟩
      rw [← hW3]
      exact World.ownsRow.alloc (h5.base B1.out.size) _
    rw [hW3] at hst hrec B3
    have k0 : W3.cell? ⟨w2.heap.size, 0, none⟩ = some (.int .i64 a) := hrec.cell 0
    have k1 : W3.cell? ⟨w2.heap.size, 1, none⟩ = some (.int .i64 b) := hrec.cell 1
    have k3 : W3.cell? ⟨w2.heap.size, 3, none⟩ = some v := hrec.cell 3
    have HNO := Lib.hid hno
    have HOWN := Lib.hid hown
    have B3 := Lib.hid B3
    clear hp hyes hno hown hrec hW3 hB2 B2 HRD
    cases off with
    | true =>
      have e21 : E = 21 := by rw [← HE.out, HF.out]; rfl
      have hRn : R = none := HO.out HF.out
      subst e21
      have HRn := Lib.hid hRn
      clear hRn
      go_wp2_with fail
      go_ret3
      refine ⟨?_, B3.out⟩
      rw [show R = none from HRn.out]
      exact rfl
    | false =>
      have e0 : E = 0 := by rw [← HE.out, HF.out]; rfl
      subst e0
      cases ok with
      | false =>
        go_wp2_with fail
        go_ret3
        refine ⟨?_, B3.out⟩
        rw [show R = none from by rw [← HR.out, HNO.out (by first | rfl | trivial)]]
        exact rfl
      | true =>
        obtain ⟨r, h1, h2, h3, h4⟩ := HOWN.out rfl
        have H4 := Lib.hid h4
        have H2 := Lib.hid h2
        clear h2
        have hR := HR.out
        rw [h1] at hR
        simp only at hR
        by_cases hb : b = 0
        · have hbI : (b != 0) = false := by rw [hb]; rfl
          have hr0 : r.n = 0 := by omega
          rw [if_pos hr0] at hR
          have HRR := Lib.hid hR
          clear h4 hR hb h1 h3 HOWN hr0
          go_wp2_with fail
          go_quiet (fail)
          go_wp2_with fail
          go_ret3
          refine ⟨?_, below_drewN B3.out _⟩
          rw [← HRR.out]
          exact ⟨v, (by rw [H2.out]; rfl), H4.out.fr (F := fun _ => False) ((Fr.refl _ _).drewN _) (fun _ _ h => h)⟩
        · have hbI : (b != 0) = true := by simpa using hb
          have hr0 : ¬ r.n = 0 := by omega
          rw [if_neg hr0] at hR
          have HRR := Lib.hid hR
          clear h4 hR hb h1 h3 HOWN hr0
          go_wp2_with fail
          go_ret3
          refine ⟨?_, B3.out⟩
          rw [← HRR.out]
          exact rfl

end Go.Proofs.YtohadeijmmmcdaaDoor
end

section
namespace Go.Proofs.YtohadeijmmmcdaaDoor
open Go.RowKit
set_option maxRecDepth 100000
theorem apt33_of (xs : Array Value) (t : TypeId) : Builtin.append_ #[33, 33] t xs = APs #[33, 33] t xs := rfl
attribute [local go_sem ↓] ld115_of st115_of al115_of bd115_of slr_of apt33_of

/-- The slice v has the texts L, all in blocks of one's own. -/
def OwnT (B : Nat) (w : World) (v : Value) (L : List (List Int)) : Prop :=
  ∃ xs, w.ownsRow B 22 1 v L.length xs ∧ xs.length = L.length ∧ ∀ (i : Nat) (h : i < xs.length) (h' : i < L.length), Own8 B w xs[i] L[i]

section
variable {B : Nat} {w w' : World} {v : Value} {L : List (List Int)}
theorem OwnT.nil (B : Nat) (w : World) : OwnT B w (.slice none 0 0) [] := ⟨[], World.ownsRow_nil _ _ _ _, rfl, fun i h => by cases h⟩
theorem OwnT.form (h : OwnT B w v L) : ∃ A c, v = .slice A L.length c := by
  obtain ⟨xs, h1, _⟩ := h
  exact own_form h1
theorem OwnT.fr {F : Nat → Prop} (h : OwnT B w v L) (hf : Fr F w w') (hF : ∀ k t cs, F k → Blk w k t cs → t ≠ 22 ∧ t ≠ 5) : OwnT B w' v L := by
  obtain ⟨xs, h1, h2, h3⟩ := h
  refine ⟨xs, own_fr h1 hf (fun k hk f => ?_), h2, fun i hi hi' => (h3 i hi hi').fr hf (fun k hk f => ?_)⟩
  · obtain ⟨cs, hb, _⟩ := own_blk h1 hk
    exact (hF k _ _ f hb).1 rfl
  · obtain ⟨cs, hb, _⟩ := own_blk (h3 i hi hi') hk
    exact (hF k _ _ f hb).2 rfl
theorem OwnT.below (h : OwnT B w v L) (hb : Below w.heap.size w w') : OwnT B w' v L :=
  h.fr (Fr.of_below hb) (fun k t cs f hk => by have := hk.lt; omega)
theorem OwnT.base {B' : Nat} (h : OwnT B w v L) (hB : B' ≤ B) : OwnT B' w v L := by
  obtain ⟨xs, ⟨hl5, hh5⟩, h2, h3⟩ := h
  exact ⟨xs, ⟨hl5, hh5.imp id (fun ⟨g, cap, cur, h1, h2, h3⟩ => ⟨g, cap, cur, h1, Nat.le_trans hB h2, h3⟩)⟩, h2, fun i hi hi' => (h3 i hi hi').base hB⟩
theorem OwnT.lt (h : OwnT B w v L) {k : Nat} (hk : v.ownBlock = some k) : B ≤ k ∧ k < w.heap.size := by
  obtain ⟨xs, h1, _⟩ := h
  exact World.ownsRow.lt h1 k hk

theorem OwnT.ne (h : OwnT B w v L) {g : Nat} {t : TypeId} {cs : Array Value} (hb : Blk w g t cs) (ht : 22 ≠ t) : v.ownBlock ≠ some g := by
  obtain ⟨xs, h1, _⟩ := h
  exact own_ne h1 hb ht

/-- One text more. -/
theorem OwnT.app {ty : TypeId} (h : OwnT B w v L) {x : Value} {l : List Int} (hx : Own8 B w x l) (hlen : L.length + 1 ≤ 1000000000) (hB : B ≤ w.heap.size) :
    ∃ v' w', (APs #[33, 33] ty #[v, .slice (some ⟨w.heap.size, 0, none⟩) 1 1]).run Tryd.prog (w.alloc (.cells #[x] 22)) = .ok v' w' ∧ OwnT B w' v' (L ++ [l]) ∧ Fr (fun k => v.ownBlock = some k) w w' ∧ Foot w v v' := by
  obtain ⟨xs, h1, h2, h3⟩ := h
  have hx1 : x.oneCell' = true := by obtain ⟨A, c, rfl⟩ := hx.form; rfl
  obtain ⟨v', w', e1, e2, e3, e4⟩ := appT (ty := ty) h1 [x] (by intro u hu; simp at hu; subst hu; exact hx1) (by simpa using hlen) hB
  have hk : ∀ y l, Own8 B w y l → Own8 B w' y l := fun y l hy => hy.fr e3 (fun k hk f => by
    obtain ⟨cs, hb, _⟩ := own_blk h1 f
    obtain ⟨cs', hb', _⟩ := own_blk hy hk
    exact absurd (hb.inj hb').1 (by decide))
  refine ⟨v', w', e1, ⟨xs ++ [x], by simpa using e2, by simp [h2], fun i hi hi' => ?_⟩, e3, e4⟩
  by_cases hlt : i < xs.length
  · have := hk _ _ (h3 i hlt (by omega))
    rw [List.getElem_append_left hlt, List.getElem_append_left (by omega)]
    exact this
  · have : i = xs.length := by simp at hi; omega
    subst this
    simp only [List.getElem_append_right (Nat.le_refl _), Nat.sub_self, List.getElem_cons_zero]
    simp only [h2, List.getElem_append_right (Nat.le_refl _), Nat.sub_self, List.getElem_cons_zero]
    exact hk _ _ hx
end

/-- What Scan tells. -/
def scanR (S : DS) (f m t : Int) : List (List Int) × Nat × Int :=
  if strP S.sure.length f m = true ∧ 0 ≤ t ∧ t ≤ 1099511627776 then
    if S.off = true then ([], 0, 21) else ((scanAll t.toNat (stP S f.toNat m.toNat)).1, (scanAll t.toNat (stP S f.toNat m.toNat)).2, 0)
  else ([], 0, 1)

def ScanPost (n₀ : Nat) (R : List (List Int) × Nat × Int) (e : Ending) (w' : World) : Prop :=
  ∃ v, e = .returned (.tuple #[v, .int .i64 (R.2.1 : Int), .int .i64 R.2.2]) ∧ OwnT n₀ w' v R.1

/-- How far a scan has come. -/
def ScanAt (t : Nat) (bs : List Int) (u : Nat) (done : List (List Int)) : Prop :=
  64 * u ≤ bs.length ∧ done.length ≤ u ∧ ∃ fuel, (bs.drop (64 * u)).length < fuel ∧
    scanAll t bs = (done ++ (scanP t fuel (bs.drop (64 * u)) done.length).1, u + (scanP t fuel (bs.drop (64 * u)) done.length).2)
theorem ScanAt.start (t : Nat) (bs : List Int) : ScanAt t bs 0 [] := ⟨by omega, by simp, bs.length + 1, by simp, by simp [scanAll]⟩
theorem ScanAt.stop {t : Nat} {bs : List Int} {u : Nat} {done : List (List Int)} (h : ScanAt t bs u done) (hs : ∀ r, readP (bs.drop (64 * u)) = some r → ¬ (r.t = t ∧ r.n = done.length)) : scanAll t bs = (done, u) := by
  obtain ⟨_, _, fuel, hf, e⟩ := h
  have e2 : scanP t fuel (bs.drop (64 * u)) done.length = ([], 0) := by
    cases fuel with
    | zero => omega
    | succ k =>
      simp only [scanP]
      cases hr : readP (bs.drop (64 * u)) with
      | none => rfl
      | some r => simp only; rw [if_neg (hs r hr)]
  rw [e, e2]
  simp
theorem ScanAt.more {t : Nat} {bs : List Int} {u : Nat} {done : List (List Int)} (h : ScanAt t bs u done) {r : RecP} (hr : readP (bs.drop (64 * u)) = some r) (ht : r.t = t) (hn : r.n = done.length) : ScanAt t bs (u + r.size) (done ++ [r.b]) := by
  obtain ⟨h1, h2, fuel, hf, e⟩ := h
  have hs := readP_size hr
  simp only [List.length_drop] at hs hf
  refine ⟨by omega, by simp; omega, ?_⟩
  cases fuel with
  | zero => omega
  | succ k =>
    refine ⟨k, by simp; omega, ?_⟩
    rw [e]
    simp only [scanP, hr]
    rw [if_pos ⟨ht, hn⟩]
    simp only [List.append_assoc, List.singleton_append, List.length_append, List.length_singleton, List.drop_drop]
    rw [show 64 * u + 64 * r.size = 64 * (u + r.size) by omega, Nat.add_assoc]

end Go.Proofs.YtohadeijmmmcdaaDoor
end
end

section
namespace Go.Proofs.YtohadeijmmmcdaaDoor
open Go.RowKit
set_option maxRecDepth 100000
attribute [local go_sem ↓] ld115_of st115_of al115_of bd115_of slr_of apt33_of

set_option maxHeartbeats 8000000 in
theorem scan_any (B p gs : Nat) (wv : Value) (S : DS) (f m t : Int) (hm : -9223372036854775808 ≤ m ∧ m ≤ 9223372036854775807) (w : World) (h : IsDrum B w p gs wv S) (hlen : S.waits.length ≤ 1000000000) (hg : Glob w) :
    Calls Tryd.prog 21 #[.pointer (some ⟨p, 0, none⟩), .int .i64 f, .int .i64 m, .int .i64 t] w fun e w' => ScanPost w.heap.size (scanR S f m t) e w' ∧ Below w.heap.size w w' := by
  have hst := stretch_any p gs S.sure.length wv S.fuse S.off f m hm w h.st (by have := h.ok.n2; omega)
  have his := scis_any t w
  obtain ⟨R, hR⟩ : ∃ R, scanR S f m t = R := ⟨_, rfl⟩
  rw [hR]
  unfold scanR at hR
  cases hs : strP S.sure.length f m with
  | false =>
    rw [hs, if_neg (by simp)] at hR
    rw [hs] at hst
    have HST := Lib.hid hst
    have HR := Lib.hid hR
    clear hst hs h hg hR his
    go_enter Tryd.func21, Tryd.ntmps21
    go_wp2_with fail
    go_step3
    go_wp2_with fail
    refine HST.out.mono ?_
    rintro e w' ⟨rfl, hw⟩
    rw [hw]
    clear hw HST
    go_wp2_with fail
    first | go_ret3 | (rw [Exit.noGoto_ret]; go_ret3)
    refine ⟨?_, Below.refl _ _⟩
    rw [← HR.out]
    exact ⟨_, rfl, OwnT.nil _ _⟩
  | true =>
    rw [hs] at hR hst
    by_cases ht : 0 ≤ t ∧ t ≤ 1099511627776
    · obtain ⟨h0, h1, h2⟩ := strP_in hs
      obtain ⟨F, rfl⟩ := Int.eq_ofNat_of_zero_le h0
      obtain ⟨M, rfl⟩ := Int.eq_ofNat_of_zero_le h1
      obtain ⟨T, rfl⟩ := Int.eq_ofNat_of_zero_le ht.1
      have hsc := scbytes_any B p gs wv S F M w h (by omega) hlen
      rw [if_pos ⟨rfl, ht⟩] at hR
      have hT := ht.2
      rw [decide_eq_true ht] at his
      simp only [Int.toNat_natCast] at hR
      have hsl := stP_len h.ok F M (by omega)
      have hsb := stP_bd h.ok F M (by omega)
      have hM2 : M ≤ 8192 := by have := h.ok.n2; omega
      obtain ⟨bs, hbs⟩ : ∃ bs, stP S F M = bs := ⟨_, rfl⟩
      rw [hbs] at hsc hR hsl hsb
      have HST := Lib.hid hst
      have HIS := Lib.hid his
      have HG := Lib.hid hg
      have HSB := Lib.hid hsb
      have HSL := Lib.hid hsl
      clear hst his hg hsb hsl hs hbs h0 h1 h2 ht h hm
      cases hof : S.off with
      | true =>
        rw [hof] at hsc hR
        rw [if_pos rfl] at hR
        rw [if_pos rfl, if_pos rfl] at hsc
        have HSC := Lib.hid hsc
        have HR := Lib.hid hR
        clear hsc hR hof
        go_enter Tryd.func21, Tryd.ntmps21
        go_wp2_with fail
        go_step3
        go_wp2_with fail
        refine HST.out.mono ?_
        rintro e w' ⟨rfl, hw⟩
        rw [hw]
        clear hw HST
        go_wp2_with fail
        refine HIS.out.mono ?_
        rintro e w' ⟨rfl, hw⟩
        rw [hw]
        clear hw HIS
        go_wp2_with fail
        refine HSC.out.mono ?_
        rintro e w1 ⟨v, rfl, ho, hB1⟩
        have HB1 := Lib.hid hB1
        clear ho hB1
        go_wp2_with fail
        first | go_ret3 | (rw [Exit.noGoto_ret]; go_ret3)
        refine ⟨?_, HB1.out⟩
        rw [← HR.out]
        exact ⟨_, rfl, OwnT.nil _ _⟩
      | false =>
        rw [hof, if_neg (by simp)] at hR
        rw [hof, if_neg (by simp), if_neg (by simp)] at hsc
        have HSC := Lib.hid hsc
        have HR := Lib.hid hR
        clear hsc hR hof
        go_enter Tryd.func21, Tryd.ntmps21
        go_wp2_with fail
        go_step3
        go_wp2_with fail
        refine HST.out.mono ?_
        rintro e w' ⟨rfl, hw⟩
        rw [hw]
        clear hw HST
        go_wp2_with fail
        refine HIS.out.mono ?_
        rintro e w' ⟨rfl, hw⟩
        rw [hw]
        clear hw HIS
        go_wp2_with fail
        refine HSC.out.mono ?_
        rintro e w1 ⟨v, rfl, ho, hB1⟩
        obtain ⟨A1, c1, rfl, hy1, _, hc1⟩ := ho.byt HSB.out
        obtain ⟨N, hN⟩ : ∃ N, bs.length = N := ⟨_, rfl⟩
        have hNM : N ≤ 524288 := by have := HSL.out; omega
        rw [hN] at hc1 ⊢
        have HN := Lib.hid hN
        have HY := Lib.hid hy1
        have HB1 := Lib.hid hB1
        clear ho hB1 hN hy1 HSC
        go_wp2_with fail
        go_step3
        go_wp2_with fail
        go_loopg [13, 14] N (fun k out used wr => ∃ (u : Nat) (done : List (List Int)), used = .int .i64 (u : Int) ∧ k = N - 64 * u ∧ OwnT w1.heap.size wr out done ∧ Below w1.heap.size w1 wr ∧ ScanAt T bs u done)
        case atStart => exact ⟨0, [], rfl, by omega, OwnT.nil _ _, Below.refl _ _, ScanAt.start _ _⟩
        case round =>
          obtain ⟨u, done, rfl, hk, hot, hbl, hat⟩ := hrel
          have hu1 := hat.1
          have hu2 := hat.2.1
          rw [HN.out] at hu1
          obtain ⟨A3, c3, rfl⟩ := hot.form
          obtain ⟨D, hD⟩ : ∃ D, done.length = D := ⟨_, rfl⟩
          rw [hD] at hot hu2 ⊢
          have hyr := HY.out.below hbl
          obtain ⟨A2, hsl, hy2, _, _⟩ := part8 hyr c1 (64 * u) bs.length c1 (some (.int .i64 ((u : Int) * 64))) none none (by rw [HN.out]; omega) (Nat.le_refl _) (by rw [HN.out]; exact hc1) (Nat.le_refl _) (.inr ⟨_, rfl, by omega⟩) (.inl ⟨rfl, rfl⟩) (.inl ⟨rfl, rfl⟩)
          rw [HN.out] at hsl
          have hq2 : ((bs.drop (64 * u)).take (bs.length - 64 * u)) = bs.drop (64 * u) := List.take_of_length_le (by simp)
          rw [hq2] at hy2
          have hq3 : (bs.drop (64 * u)).length = N - 64 * u := by rw [List.length_drop, HN.out]
          have hrd := scread A2 (c1 - 64 * u) (bs.drop (64 * u)) wr hy2 (by rw [hq3]; omega) (by rw [hq3]; omega) (HG.out.below (HB1.out.trans (hbl.mono HB1.out.size)))
          rw [hq3] at hrd
          have HRD := Lib.hid hrd
          have HOT := Lib.hid hot
          have HBL := Lib.hid hbl
          have HAT := Lib.hid hat
          have HD := Lib.hid hD
          clear hot hbl hat hD hyr hy2 hq2 hq3 hrd
          go_wp2_with fail
          refine HRD.out.mono ?_
          rintro e w2 ⟨hp, hB2⟩
          obtain ⟨a, b, c, v, ok, rfl, hv1, hno, hyes⟩ := hp.form
          have hal := al115_new w2
          have hst := st115_new w2 a b c v hv1
          have hrec := Blk.new w2 115 #[.int .i64 a, .int .i64 b, .int .i64 c, v]
          have hot2 := (HOT.out.below hB2).below ((Below.refl _ w2).alloc (Nat.le_refl _) (.cells #[.int .i64 a, .int .i64 b, .int .i64 c, v] 115))
          have B2 : Below w1.heap.size w1 w2 := HBL.out.trans (hB2.mono HBL.out.size)
          have B3 := B2.alloc B2.size (.cells #[.int .i64 a, .int .i64 b, .int .i64 c, v] 115)
          obtain ⟨W3, hW3⟩ : ∃ W3, w2.alloc (.cells #[.int .i64 a, .int .i64 b, .int .i64 c, v] 115) = W3 := ⟨_, rfl⟩
          have hown : ok = true → ∃ r, readP (bs.drop (64 * u)) = some r ∧ a = (r.t : Int) ∧ b = (r.n : Int) ∧ c = (r.size : Int) ∧ Own8 w1.heap.size W3 v r.b := by
            intro h
            obtain ⟨r, h1, h2, h3, h4, h5⟩ := hyes h
            refine ⟨r, h1, h2, h3, h4, ?_⟩
            rw [← hW3]
            exact World.ownsRow.alloc (h5.base HBL.out.size) _
          rw [hW3] at hst hrec B3 hot2
          have k0 : W3.cell? ⟨w2.heap.size, 0, none⟩ = some (.int .i64 a) := hrec.cell 0
          have k1 : W3.cell? ⟨w2.heap.size, 1, none⟩ = some (.int .i64 b) := hrec.cell 1
          have k2 : W3.cell? ⟨w2.heap.size, 2, none⟩ = some (.int .i64 c) := hrec.cell 2
          have k3 : W3.cell? ⟨w2.heap.size, 3, none⟩ = some v := hrec.cell 3
          have HREC := Lib.hid hrec
          have HNO := Lib.hid hno
          have HOWN := Lib.hid hown
          have B3 := Lib.hid B3
          have HOT2 := Lib.hid hot2
          clear hp hyes hno hown hrec hW3 hB2 B2 HRD hot2 HOT
          have hstop : (∀ r, readP (bs.drop (64 * u)) = some r → ¬ (r.t = T ∧ r.n = done.length)) → ∀ W, W = W3 → ScanPost w.heap.size R (.returned (.tuple #[.slice A3 D c3, .int .i64 (u : Int), .int .i64 0])) W ∧ Below w.heap.size w W := by
            rintro hh W rfl
            have e := HAT.out.stop hh
            refine ⟨?_, HB1.out.trans (B3.out.mono HB1.out.size)⟩
            rw [← HR.out, e]
            exact ⟨_, rfl, HOT2.out.base HB1.out.size⟩
          have HSTOP := Lib.hid hstop
          clear hstop
          cases ok with
          | false =>
            go_wp2_with fail
            first | go_ret3 | (rw [Exit.noGoto_ret]; go_ret3)
            exact HSTOP.out (fun r hr => by rw [HNO.out (by first | rfl | trivial)] at hr; cases hr) _ rfl
          | true =>
            obtain ⟨r, g1, g2, g3, g4, g5⟩ := HOWN.out rfl
            subst g4
            obtain ⟨Av, cv, rfl⟩ := g5.form
            have G1 := Lib.hid g1
            have G2 := Lib.hid g2
            have G3 := Lib.hid g3
            have G5 := Lib.hid g5
            have hrs := readP_size g1
            rw [List.length_drop, HN.out] at hrs
            clear g1 g2 g3 g5 HOWN
            by_cases ha : a = (T : Int)
            · have haI : (a != (T : Int)) = false := by rw [ha]; simp
              have HA := Lib.hid ha
              clear ha
              by_cases hb : b = (D : Int)
              · have hbI : (b != (D : Int)) = false := by rw [hb]; simp
                have HBb := Lib.hid hb
                clear hb
                obtain ⟨v5, w5, hap, ho5, hf5, _⟩ := HOT2.out.app (ty := 33) G5.out (by rw [HD.out]; omega) B3.out.size
                have hf5' := hf5.below B3.out.size (fun k hk e => by have := (HOT2.out.lt e).1; omega)
                have hne5 := HOT2.out.ne HREC.out (by decide)
                have k5 : w5.cell? ⟨w2.heap.size, 2, none⟩ = some (.int .i64 (r.size : Int)) := (HREC.out.fr hf5 hne5).cell 2
                obtain ⟨A5, c5, rfl⟩ := ho5.form
                clear hne5
                simp only [List.length_append, List.length_singleton, HD.out] at hap ho5 ⊢
                have O5 := Lib.hid ho5
                have F5 := Lib.hid hf5'
                clear ho5 hf5 hf5'
                go_wp2_with fail
                go_roundg (N - 64 * (u + r.size))
                case measure => omega
                case rel =>
                  refine ⟨u + r.size, done ++ [r.b], by go_num, rfl, O5.out, B3.out.trans F5.out, ?_⟩
                  have := G2.out
                  have := G3.out
                  have e1 := HA.out
                  have e2 := HBb.out
                  have e3 := HD.out
                  exact HAT.out.more G1.out (by omega) (by omega)
              · have hbI : (b != (D : Int)) = true := by simpa using hb
                have HBb := Lib.hid hb
                clear hb
                go_wp2_with fail
                first | go_ret3 | (rw [Exit.noGoto_ret]; go_ret3)
                refine HSTOP.out (fun r' hr hh => ?_) _ rfl
                cases G1.out.symm.trans hr
                have := G3.out
                have e2 := HBb.out
                have e3 := HD.out
                omega
            · have haI : (a != (T : Int)) = true := by simpa using ha
              have HA := Lib.hid ha
              clear ha
              go_wp2_with fail
              first | go_ret3 | (rw [Exit.noGoto_ret]; go_ret3)
              refine HSTOP.out (fun r' hr hh => ?_) _ rfl
              cases G1.out.symm.trans hr
              have := G2.out
              have e2 := HA.out
              omega
    · rw [if_neg (fun h => ht h.2)] at hR
      rw [decide_eq_false ht] at his
      have HST := Lib.hid hst
      have HIS := Lib.hid his
      have HR := Lib.hid hR
      clear hst hs h hg hR his ht
      go_enter Tryd.func21, Tryd.ntmps21
      go_wp2_with fail
      go_step3
      go_wp2_with fail
      refine HST.out.mono ?_
      rintro e w' ⟨rfl, hw⟩
      rw [hw]
      clear hw HST
      go_wp2_with fail
      refine HIS.out.mono ?_
      rintro e w' ⟨rfl, hw⟩
      rw [hw]
      clear hw HIS
      go_wp2_with fail
      first | go_ret3 | (rw [Exit.noGoto_ret]; go_ret3)
      refine ⟨?_, Below.refl _ _⟩
      rw [← HR.out]
      exact ⟨_, rfl, OwnT.nil _ _⟩

end Go.Proofs.YtohadeijmmmcdaaDoor
end
