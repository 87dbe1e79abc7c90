/-
  A scroll: Left, Sync, Blank, Open.
-/
import Derived.Test.YtohadeijmmmcdaaDoorWipe
namespace Go.Proofs.YtohadeijmmmcdaaDoor
open Go.RowKit
set_option maxRecDepth 100000

/-- A scroll. -/
structure SS where
  f : Nat
  m : Nat
  t : Nat
  u : Nat
  n : Nat
  gone : Bool

def IsScroll (w : World) (q p : Nat) (s : SS) : Prop :=
  Blk w q 111 #[.pointer (some ⟨p, 0, none⟩), .int .i64 (s.f : Int), .int .i64 (s.m : Int), .int .i64 (s.t : Int), .int .i64 (s.u : Int), .int .i64 (s.n : Int), .bool s.gone]

theorem bd111_of (parts : Array (Nat × Value)) : Instr.build 111 parts = BDs 111 parts := rfl
attribute [local go_sem ↓] bd111_of
theorem bd111_4 (a : Option Addr) (f m t : Int) (W : World) : (BDs 111 #[(0, .pointer a), (1, .int .i64 f), (2, .int .i64 m), (3, .int .i64 t)]).run Tryd.prog W = .ok (.agg #[.pointer a, .int .i64 f, .int .i64 m, .int .i64 t, .int .i64 0, .int .i64 0, .bool false]) W := by kernel_rfl
theorem bd111_6 (a : Option Addr) (f m t u n : Int) (W : World) : (BDs 111 #[(0, .pointer a), (1, .int .i64 f), (2, .int .i64 m), (3, .int .i64 t), (4, .int .i64 u), (5, .int .i64 n)]).run Tryd.prog W = .ok (.agg #[.pointer a, .int .i64 f, .int .i64 m, .int .i64 t, .int .i64 u, .int .i64 n, .bool false]) W := by kernel_rfl

theorem IsScroll.kept {n₀ : Nat} {ts : List TypeId} {w w' : World} {q p : Nat} {s : SS} (h : IsScroll w q p s) (hk : Kept n₀ ts w w') (ht : 111 ∉ ts) : IsScroll w' q p s := hk.kt _ _ _ h ht

theorem Kept.ds {n₀ : Nat} {w w' : World} (h : Kept n₀ dts w w') : Kept n₀ sts w w' := h.mono (fun t ht => by
  simp only [dts, List.mem_cons, List.mem_nil_iff, or_false] at ht
  rcases ht with rfl | rfl | rfl <;> simp [sts])

theorem left_any (q p : Nat) (s : SS) (hm : s.m ≤ 8192) (hu : s.u ≤ s.m) (w : World) (h : IsScroll w q p s) :
    Calls Tryd.prog 22 #[.pointer (some ⟨q, 0, none⟩)] w fun e w' => e = .returned (.int .i64 ((s.m : Int) - (s.u : Int))) ∧ ∃ k, w' = w.drewN k := by
  have k2 : w.cell? ⟨q, 2, none⟩ = some (.int .i64 (s.m : Int)) := h.cell 2
  have k4 : w.cell? ⟨q, 4, none⟩ = some (.int .i64 (s.u : Int)) := h.cell 4
  obtain ⟨f, m, t, u, n, g⟩ := s
  simp only at *
  clear h
  have hw : IntKind.i64.wrap ((m : Int) - (u : Int)) = (m : Int) - (u : Int) := by rw [IntKind.wrap_i64]; omega
  go_enter Tryd.func22, Tryd.ntmps22
  go_wp2_with fail
  go_quiet (fail)
  go_wp2_with fail
  go_ret
  exact ⟨rfl, _, rfl⟩

/-- Sync's answer. -/
def syncR (s : SS) (S : DS) : Int × SS × DS := if s.gone = true then (20, s, S) else (S.sync.1, { s with gone := S.sync.1 != 0 }, S.sync.2)

set_option maxHeartbeats 2000000 in
theorem ssync_any (B q p gs : Nat) (wv : Value) (s : SS) (S : DS) (w : World) (hd : IsDrum B w p gs wv S) (h : IsScroll w q p s) (hq : B ≤ q) (hlen : S.waits.length ≤ 1000000000) :
    Calls Tryd.prog 29 #[.pointer (some ⟨q, 0, none⟩)] w fun e w' => e = .returned (.int .i64 (syncR s S).1) ∧ (∃ wv', IsDrum B w' p gs wv' (syncR s S).2.2) ∧ IsScroll w' q p (syncR s S).2.1 ∧ Kept B sts w w' := by
  have k6 : w.cell? ⟨q, 6, none⟩ = some (.bool s.gone) := h.cell 6
  have k0 : w.cell? ⟨q, 0, none⟩ = some (.pointer (some ⟨p, 0, none⟩)) := h.cell 0
  have hBw : B ≤ w.heap.size := by have := hd.lt (.inl rfl); omega
  cases hg : s.gone with
  | true =>
    have hR : syncR s S = (20, s, S) := by unfold syncR; rw [if_pos hg]
    rw [hR]
    rw [hg] at k6
    have H := Lib.hid h
    have HD := Lib.hid hd
    clear h hd hR hg
    go_enter Tryd.func29, Tryd.ntmps29
    go_wp2_with fail
    go_ret
    exact ⟨rfl, ⟨wv, HD.out⟩, H.out, Kept.refl _ _ _⟩
  | false =>
    have hR : syncR s S = (S.sync.1, { s with gone := S.sync.1 != 0 }, S.sync.2) := by unfold syncR; rw [if_neg (by rw [hg]; simp)]
    rw [hR]
    rw [hg] at k6
    have hsy := sync_any B p gs wv S w hd hlen
    obtain ⟨⟨er, T⟩, hE⟩ : ∃ E, S.sync = E := ⟨_, rfl⟩
    rw [hE] at hsy ⊢
    simp only at hsy ⊢
    have H := Lib.hid h
    have HD := Lib.hid hd
    clear h hd hR hE
    go_enter Tryd.func29, Tryd.ntmps29
    go_wp2_with fail
    with_reducible refine hsy.mono ?_
    rintro e w1 ⟨rfl, ⟨wv1, hd1, _⟩, hf1⟩
    have K1 := Kept.of_drum HD.out hf1
    have h1 : IsScroll w1 q p s := H.out.kept K1 (by decide)
    have j6 : w1.cell? ⟨q, 6, none⟩ = some (.bool s.gone) := h1.cell 6
    have jf := h1.frozen 6
    have hqp : q ≠ p := h1.ne_ hd1.st (by decide)
    have hfin : ∀ b : Bool, IsScroll (w1.setCell ⟨q, 6, none⟩ (.bool b)) q p { s with gone := b } := fun b => by
      have := h1.set_ 6 (.bool b)
      unfold IsScroll
      simpa using this
    have hkeep : ∀ b : Bool, Kept B sts w1 (w1.setCell ⟨q, 6, none⟩ (.bool b)) := fun b =>
      Kept.of_fr (F := fun k => k = q) ((Fr.refl (fun k => k = q) w1).setCell (p := ⟨q, 6, none⟩) (fun _ => rfl) _) (Nat.le_trans hBw K1.size) (fun k hk e => by omega) (fun k t cs e hb => by subst e; rw [(hb.inj h1).1]; simp [sts])
    have hdr : ∀ b : Bool, IsDrum B (w1.setCell ⟨q, 6, none⟩ (.bool b)) p gs wv1 T := fun b =>
      hd1.fr ((Fr.refl (fun k => k = q) w1).setCell (p := ⟨q, 6, none⟩) (fun _ => rfl) _) (fun k hk e => by
        subst e
        rcases hk with e | e | e
        · exact hqp e
        · exact (h1.ne_ hd1.sure (by decide)) e
        · exact own_ne hd1.waits h1 (by decide) e)
    have HF := Lib.hid hfin
    have HK := Lib.hid hkeep
    have HR := Lib.hid hdr
    have K1 := Lib.hid K1
    clear hsy hf1 hd1 h1 hfin hkeep hdr
    go_wp2_with fail
    go_ret
    exact ⟨rfl, ⟨wv1, HR.out _⟩, HF.out _, K1.out.ds.trans (HK.out _)⟩

/-- What Open makes of a scroll. -/
theorem scanAll_le (t : Nat) (b : List Int) : 64 * (scanAll t b).2 ≤ b.length := by
  have key : ∀ (fuel : Nat) (l : List Int) (n : Nat), 64 * (scanP t fuel l n).2 ≤ l.length := by
    intro fuel
    induction fuel with
    | zero => intro l n; simp [scanP]
    | succ k ih =>
      intro l n
      simp only [scanP]
      cases hr : readP l with
      | none => simp
      | some r =>
        simp only
        split
        · have h1 := ih (l.drop (64 * r.size)) (n + 1)
          have h2 := readP_size hr
          simp only [List.length_drop] at h1
          simp only
          omega
        · simp
  exact key _ _ _
theorem scanR_ok {S : DS} {f m t : Nat} (hf : f + m ≤ S.sure.length) (ht : t ≤ 1099511627776) : scanR S (f : Int) (m : Int) (t : Int) = if S.off = true then ([], 0, 21) else ((scanAll t (stP S f m)).1, (scanAll t (stP S f m)).2, 0) := by
  unfold scanR
  rw [if_pos ⟨by simp [strP]; omega, by omega, by omega⟩]
  simp

def BlankPost (n₀ p f m t : Nat) (er : Int) (e : Ending) (w' : World) : Prop :=
  (er = 0 ∧ ∃ q, e = .returned (.tuple #[.pointer (some ⟨q, 0, none⟩), .int .i64 0]) ∧ IsScroll w' q p ⟨f, m, t, 0, 0, false⟩ ∧ n₀ ≤ q) ∨ (er ≠ 0 ∧ e = .returned (.tuple #[.pointer none, .int .i64 er]))

set_option maxHeartbeats 4000000 in
theorem blank_any (B p gs : Nat) (wv : Value) (S : DS) (f m t : Nat) (w : World) (h : IsDrum B w p gs wv S) (hf : f + m ≤ S.sure.length) (ht : t ≤ 1099511627776) (hlen : S.waits.length + m ≤ 1000000000) (hg : Glob w) :
    Calls Tryd.prog 19 #[.pointer (some ⟨p, 0, none⟩), .int .i64 (f : Int), .int .i64 (m : Int), .int .i64 (t : Int)] w fun e w' =>
      BlankPost w.heap.size p f m t (wipeR S f m).1 e w' ∧ (∃ wv', IsDrum B w' p gs wv' (wipeR S f m).2) ∧ Kept B dts w w' := by
  have hBw : B ≤ w.heap.size := by have := h.lt (.inl rfl); omega
  have hn := h.ok.n2
  have hsc := scan_any B p gs wv S (f : Int) (m : Int) (t : Int) (by omega) w h (by omega) hg
  rw [scanR_ok hf ht] at hsc
  cases hof : S.off with
  | true =>
    have hR : wipeR S f m = (21, S) := by unfold wipeR; rw [if_pos hof]
    rw [hR]
    rw [hof, if_pos rfl] at hsc
    have HD := Lib.hid h
    clear hR h hof hg
    go_enter Tryd.func19, Tryd.ntmps19
    go_wp2_with fail
    with_reducible refine hsc.mono ?_
    rintro e w1 ⟨⟨v, rfl, _⟩, hB1⟩
    have HB1 := Lib.hid hB1
    clear hB1 hsc
    go_wp2_with fail
    go_ret2
    exact ⟨.inr ⟨by simp, rfl⟩, ⟨wv, HD.out.fr (Fr.of_below HB1.out) (fun k hk h => by have := (HD.out.lt hk).2; omega)⟩, Kept.of_below HB1.out hBw⟩
  | false =>
    rw [hof, if_neg (by simp)] at hsc
    obtain ⟨⟨L, u⟩, hLu⟩ : ∃ LU, scanAll t (stP S f m) = LU := ⟨_, rfl⟩
    rw [hLu] at hsc
    obtain ⟨⟨er, T⟩, hE⟩ : ∃ E, wipeR S f m = E := ⟨_, rfl⟩
    rw [hE]
    simp only at hsc ⊢
    have HD := Lib.hid h
    have HE := Lib.hid hE
    have hbd := bd111_4 (some ⟨p, 0, none⟩) (f : Int) (m : Int) (t : Int)
    clear h hof hg hLu hE
    go_enter Tryd.func19, Tryd.ntmps19
    go_wp2_with fail
    with_reducible refine hsc.mono ?_
    rintro e w1 ⟨⟨v, rfl, _⟩, hB1⟩
    have hd1 := HD.out.fr (Fr.of_below hB1) (fun k hk h => by have := (HD.out.lt hk).2; omega)
    have K1 : Kept B dts w w1 := Kept.of_below hB1 hBw
    have hwi := wipe_any B p gs wv S f m w1 hd1 hf hlen
    rw [HE.out] at hwi
    have HK1 := Lib.hid K1
    have hs1 := hB1.size
    clear hsc hB1 hd1 K1
    go_wp2_with fail
    with_reducible refine hwi.mono ?_
    rintro e w2 ⟨rfl, ⟨wv2, hd2⟩, K2⟩
    have HD2 := Lib.hid hd2
    have HK2 := Lib.hid K2
    have hs2 := K2.size
    clear hwi hd2 K2
    by_cases he : er = 0
    · subst he
      go_wp2_with fail
      go_ret2
      refine ⟨.inl ⟨rfl, _, rfl, Blk.new _ _ _, by omega⟩, ⟨wv2, HD2.out.fr (F := fun _ => False) ((Fr.refl _ _).alloc _) (fun _ _ h => h)⟩, (HK1.out.trans HK2.out).trans (Kept.of_below ((Below.refl _ _).alloc (Nat.le_refl _) _) (Nat.le_trans hBw (Nat.le_trans hs1 hs2)))⟩
    · have heI : (er != 0) = true := by simpa using he
      have HN := Lib.hid he
      clear he
      go_wp2_with fail
      go_ret2
      exact ⟨.inr ⟨HN.out, rfl⟩, ⟨wv2, HD2.out⟩, HK1.out.trans HK2.out⟩

/-- What Open makes: the error, the records, how many sectors they have, the drum. -/
def openR (S : DS) (f m t : Nat) : Int × List (List Int) × Nat × DS :=
  if S.off = true then (21, [], 0, S)
  else ((wipeR S (f + (scanAll t (stP S f m)).2) (m - (scanAll t (stP S f m)).2)).1, (scanAll t (stP S f m)).1, (scanAll t (stP S f m)).2, (wipeR S (f + (scanAll t (stP S f m)).2) (m - (scanAll t (stP S f m)).2)).2)

def OpenPost (n₀ p : Nat) (f m t : Nat) (R : Int × List (List Int) × Nat × DS) (e : Ending) (w' : World) : Prop :=
  (R.1 = 0 ∧ ∃ q v, e = .returned (.tuple #[.pointer (some ⟨q, 0, none⟩), v, .int .i64 0]) ∧ IsScroll w' q p ⟨f, m, t, R.2.2.1, R.2.1.length, false⟩ ∧ n₀ ≤ q ∧ OwnT n₀ w' v R.2.1) ∨
  (R.1 ≠ 0 ∧ e = .returned (.tuple #[.pointer none, .slice none 0 0, .int .i64 R.1]))

set_option maxHeartbeats 4000000 in
theorem sopen_any (B p gs : Nat) (wv : Value) (S : DS) (f m t : Nat) (w : World) (h : IsDrum B w p gs wv S) (hf : f + m ≤ S.sure.length) (ht : t ≤ 1099511627776) (hlen : S.waits.length + m ≤ 1000000000) (hg : Glob w) :
    Calls Tryd.prog 33 #[.pointer (some ⟨p, 0, none⟩), .int .i64 (f : Int), .int .i64 (m : Int), .int .i64 (t : Int)] w fun e w' =>
      OpenPost w.heap.size p f m t (openR S f m t) e w' ∧ (∃ wv', IsDrum B w' p gs wv' (openR S f m t).2.2.2) ∧ Kept B dts w w' := by
  have hBw : B ≤ w.heap.size := by have := h.lt (.inl rfl); omega
  have hn := h.ok.n2
  have hsc := scan_any B p gs wv S (f : Int) (m : Int) (t : Int) (by omega) w h (by omega) hg
  rw [scanR_ok hf ht] at hsc
  cases hof : S.off with
  | true =>
    have hR : openR S f m t = (21, [], 0, S) := by unfold openR; rw [if_pos hof]
    rw [hR]
    rw [hof, if_pos rfl] at hsc
    have HD := Lib.hid h
    clear hR h hof hg
    go_enter Tryd.func33, Tryd.ntmps33
    go_wp2_with fail
    with_reducible refine hsc.mono ?_
    rintro e w1 ⟨⟨v, rfl, _⟩, hB1⟩
    have HB1 := Lib.hid hB1
    clear hB1 hsc
    go_wp2_with fail
    go_ret3
    exact ⟨.inr ⟨by simp, rfl⟩, ⟨wv, HD.out.fr (Fr.of_below HB1.out) (fun k hk h => by have := (HD.out.lt hk).2; omega)⟩, Kept.of_below HB1.out hBw⟩
  | false =>
    have hR : openR S f m t = ((wipeR S (f + (scanAll t (stP S f m)).2) (m - (scanAll t (stP S f m)).2)).1, (scanAll t (stP S f m)).1, (scanAll t (stP S f m)).2, (wipeR S (f + (scanAll t (stP S f m)).2) (m - (scanAll t (stP S f m)).2)).2) := by unfold openR; rw [if_neg (by rw [hof]; simp)]
    rw [hR]
    rw [hof, if_neg (by simp)] at hsc
    have hle := scanAll_le t (stP S f m)
    rw [stP_len h.ok f m hf] at hle
    obtain ⟨⟨L, u⟩, hLu⟩ : ∃ LU, scanAll t (stP S f m) = LU := ⟨_, rfl⟩
    rw [hLu] at hsc hle
    simp only [hLu] at hsc hle ⊢
    have hum : u ≤ m := by omega
    obtain ⟨⟨er, T⟩, hE⟩ : ∃ E, wipeR S (f + u) (m - u) = E := ⟨_, rfl⟩
    rw [hE]
    have HD := Lib.hid h
    have HE := Lib.hid hE
    have hm2 : m ≤ 8192 := by omega
    have hf2 : f ≤ 8192 := by omega
    have hbd := bd111_6 (some ⟨p, 0, none⟩) (f : Int) (m : Int) (t : Int) (u : Int) (L.length : Int)
    clear h hof hg hLu hE hR hle
    go_enter Tryd.func33, Tryd.ntmps33
    go_wp2_with fail
    with_reducible refine hsc.mono ?_
    rintro e w1 ⟨⟨v, rfl, hov⟩, hB1⟩
    simp only at hov
    obtain ⟨Av, cv, rfl⟩ := hov.form
    have hd1 := HD.out.fr (Fr.of_below hB1) (fun k hk h => by have := (HD.out.lt hk).2; omega)
    have K1 : Kept B dts w w1 := Kept.of_below hB1 hBw
    have hwi := wipe_any B p gs wv S (f + u) (m - u) w1 hd1 (by omega) (by omega)
    rw [HE.out, Int.natCast_add, show ((m - u : Nat) : Int) = (m : Int) - (u : Int) by omega] at hwi
    have HK1 := Lib.hid K1
    have HOV := Lib.hid hov
    have hs1 := hB1.size
    clear hsc hB1 hd1 K1 hov
    go_wp2_with fail
    with_reducible refine hwi.mono ?_
    rintro e w2 ⟨rfl, ⟨wv2, hd2⟩, K2⟩
    have HD2 := Lib.hid hd2
    have HK2 := Lib.hid K2
    have hs2 := K2.size
    clear hwi hd2 K2
    by_cases he : er = 0
    · subst he
      go_wp2_with fail
      go_ret3
      refine ⟨.inl ⟨rfl, _, _, rfl, Blk.new _ _ _, by omega, ?_⟩, ⟨wv2, HD2.out.fr (F := fun _ => False) ((Fr.refl _ _).alloc _) (fun _ _ h => h)⟩, (HK1.out.trans HK2.out).trans (Kept.of_below ((Below.refl _ _).alloc (Nat.le_refl _) _) (Nat.le_trans hBw (Nat.le_trans hs1 hs2)))⟩
      exact (HK2.out.ownT HOV.out (by decide) (by decide)).below ((Below.refl _ _).alloc (Nat.le_refl _) _)
    · have heI : (er != 0) = true := by simpa using he
      have HN := Lib.hid he
      clear he
      go_wp2_with fail
      go_ret3
      exact ⟨.inr ⟨HN.out, rfl⟩, ⟨wv2, HD2.out⟩, HK1.out.trans HK2.out⟩

end Go.Proofs.YtohadeijmmmcdaaDoor
