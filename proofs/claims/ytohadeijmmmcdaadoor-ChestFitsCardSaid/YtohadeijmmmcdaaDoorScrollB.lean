/-
  What is kept while a drum, and a scroll, are worked on: all blocks of other types, and all old ones.
  scroll.wipe.
  A scroll: Left, Sync, Blank, Open.
  A scroll: Put.
-/
import Derived.Test.YtohadeijmmmcdaaDoorScanC

section
namespace Go.Proofs.YtohadeijmmmcdaaDoor
open Go.RowKit
set_option maxRecDepth 100000

/-- All blocks below n₀ are kept, and all blocks whose type isn't one of ts. -/
structure Kept (n₀ : Nat) (ts : List TypeId) (w w' : World) : Prop where
  below : Below n₀ w w'
  kt : ∀ k t cs, Blk w k t cs → t ∉ ts → Blk w' k t cs

/-- The drum's types. -/
def dts : List TypeId := [108, 119, 121]
/-- The drum's, and the scroll's. -/
def sts : List TypeId := [108, 119, 121, 111]

section
variable {n₀ : Nat} {ts us : List TypeId} {w w1 w2 : World}
theorem Kept.refl (n₀ : Nat) (ts : List TypeId) (w : World) : Kept n₀ ts w w := ⟨Below.refl _ _, fun _ _ _ h _ => h⟩
theorem Kept.trans (h : Kept n₀ ts w w1) (h' : Kept n₀ ts w1 w2) : Kept n₀ ts w w2 := ⟨h.below.trans h'.below, fun k t cs hb ht => h'.kt k t cs (h.kt k t cs hb ht) ht⟩
theorem Kept.mono (h : Kept n₀ ts w w1) (hs : ∀ t, t ∈ ts → t ∈ us) : Kept n₀ us w w1 := ⟨h.below, fun k t cs hb ht => h.kt k t cs hb (fun e => ht (hs t e))⟩
theorem Kept.of_below (h : Below w.heap.size w w1) (hn : n₀ ≤ w.heap.size) : Kept n₀ ts w w1 := ⟨h.mono hn, fun _ _ _ hb _ => hb.fr (Fr.of_below h) (by have := hb.lt; omega)⟩
theorem Kept.of_fr {F : Nat → Prop} (hf : Fr F w w1) (hn : n₀ ≤ w.heap.size) (h0 : ∀ k, k < n₀ → ¬ F k) (hF : ∀ k t cs, F k → Blk w k t cs → t ∈ ts) : Kept n₀ ts w w1 :=
  ⟨hf.below hn h0, fun k t cs hb ht => hb.fr hf (fun f => ht (hF k t cs f hb))⟩
theorem Kept.size (h : Kept n₀ ts w w1) : w.heap.size ≤ w1.heap.size := h.below.size
theorem Kept.own {B : Nat} {e : TypeId} {size n : Nat} {v : Value} {xs : List Value} (h : Kept n₀ ts w w1) (ho : w.ownsRow B e size v n xs) (he : e ∉ ts) : w1.ownsRow B e size v n xs := by
  obtain ⟨h1, ⟨rfl, h2⟩ | ⟨g, cap, cur, rfl, hg, hh, hr⟩⟩ := ho
  · exact ⟨h1, .inl ⟨rfl, h2⟩⟩
  · exact ⟨h1, .inr ⟨g, cap, cur, rfl, hg, h.kt g e cur hh he, hr⟩⟩
theorem Kept.own8 {B : Nat} {v : Value} {l : List Int} (h : Kept n₀ ts w w1) (ho : Own8 B w v l) (he : 5 ∉ ts) : Own8 B w1 v l := h.own ho he
theorem Kept.ownT {B : Nat} {v : Value} {L : List (List Int)} (h : Kept n₀ ts w w1) (ho : OwnT B w v L) (h1 : 22 ∉ ts) (h2 : 5 ∉ ts) : OwnT B w1 v L := by
  obtain ⟨xs, a, b, c⟩ := ho
  exact ⟨xs, h.own a h1, b, fun i hi hi' => h.own8 (c i hi hi') h2⟩
theorem Kept.drum {B p gs : Nat} {wv : Value} {S : DS} (h : Kept n₀ ts w w1) (hd : IsDrum B w p gs wv S) (h1 : 108 ∉ ts) (h2 : 119 ∉ ts) (h3 : 121 ∉ ts) : IsDrum B w1 p gs wv S :=
  ⟨hd.ok, hd.b1, hd.b2, h.kt _ _ _ hd.st h1, h.kt _ _ _ hd.sure h2, h.own hd.waits h3⟩
/-- A drum, while no old block turns that it has. -/
theorem Kept.drum_below {B p gs : Nat} {wv : Value} {S : DS} (hb : Below w.heap.size w w1) (hd : IsDrum B w p gs wv S) : IsDrum B w1 p gs wv S :=
  hd.fr (Fr.of_below hb) (fun k hk h => by have := (hd.lt hk).2; omega)
theorem Kept.of_drum {B p gs : Nat} {wv : Value} {S : DS} (h : IsDrum B w p gs wv S) (hf : Fr (DF p gs wv) w w1) : Kept B dts w w1 :=
  Kept.of_fr hf (by have := (h.lt (.inl rfl)); omega) (fun k hk f => by have := (h.lt f).1; omega) (fun k t cs f hb => by
    rcases f with rfl | rfl | f
    · rw [(hb.inj h.st).1]; simp [dts]
    · rw [(hb.inj h.sure).1]; simp [dts]
    · obtain ⟨cs', hb', _⟩ := own_blk h.waits f
      rw [(hb.inj hb').1]; simp [dts])
theorem Kept.glob (h : Kept n₀ ts w w1) (hg : Glob w) (h2 : 2 ≤ n₀) : Glob w1 := hg.fr (Fr.of_below h.below) (by omega) (by omega)
end

end Go.Proofs.YtohadeijmmmcdaaDoor
end

section
namespace Go.Proofs.YtohadeijmmmcdaaDoor
open Go.RowKit
set_option maxRecDepth 100000
attribute [local go_sem ↓] slr_of

/-- A sector of zeros. -/
def Z64 : List Int := List.replicate 64 0
/-- What is left of a wiping of n sectors from the i-th on. -/
def wipeGo (S : DS) (f : Nat) : Nat → Nat → DS → Bool → Int × DS
  | 0, _, T, any => if any = true then T.sync else (0, T)
  | k + 1, i, T, any =>
    if (S.now (f + i)).any (· != 0) = true then
      if (T.write ((f + i : Nat) : Int) Z64).1 = 0 then wipeGo S f k (i + 1) (T.write ((f + i : Nat) : Int) Z64).2 true else T.write ((f + i : Nat) : Int) Z64
    else wipeGo S f k (i + 1) T any
theorem wipeGo_zero (S : DS) (f i : Nat) (T : DS) (any : Bool) : wipeGo S f 0 i T any = if any = true then T.sync else (0, T) := rfl
theorem wipeGo_succ (S : DS) (f k i : Nat) (T : DS) (any : Bool) : wipeGo S f (k + 1) i T any =
    if (S.now (f + i)).any (· != 0) = true then
      if (T.write ((f + i : Nat) : Int) Z64).1 = 0 then wipeGo S f k (i + 1) (T.write ((f + i : Nat) : Int) Z64).2 true else T.write ((f + i : Nat) : Int) Z64
    else wipeGo S f k (i + 1) T any := rfl
attribute [irreducible] wipeGo
/-- Wiping. -/
def wipeR (S : DS) (f m : Nat) : Int × DS := if S.off = true then (21, S) else wipeGo S f m 0 S false

theorem DS.write_len (S : DS) (k : Int) (b : List Int) : (S.write k b).2.waits.length ≤ S.waits.length + 1 ∧ (S.write k b).2.sure.length = S.sure.length := by
  unfold DS.write
  split; · simp
  split; · simp
  split; · simp
  split
  · simp
  · simp
theorem Z64_bd : ∀ x ∈ Z64, 0 ≤ x ∧ x ≤ 255 := by intro x hx; rw [List.eq_of_mem_replicate hx]; omega

theorem Z64_len : Z64.length = 64 := by simp [Z64]
theorem Z64_eq : Z64 = List.replicate 64 0 := rfl
theorem make_Z64 (W : World) : (Instr.makeSlice 22 (.int .i64 64) (.int .i64 64)).run Tryd.prog W = .ok (.slice (some ⟨W.heap.size, 0, none⟩) 64 64) (W.alloc (.cells (bys Z64).toArray 5)) := make_bytes 64 (by omega) W
attribute [irreducible] Z64
theorem stP_part {S : DS} (h : S.Ok) (f m i : Nat) (hi : i < m) (hm : f + m ≤ S.sure.length) : ((stP S f m).drop (64 * i)).take 64 = S.now (f + i) := by
  have e := flat_drop_take 64 ((List.range m).map fun i => S.now (f + i)) (fun s hs => by
    obtain ⟨j, hj, rfl⟩ := List.mem_map.1 hs
    exact (DS.now_sec h (by have := List.mem_range.1 hj; omega)).1) i (by simpa using hi)
  rw [Nat.mul_comm] at e
  unfold stP
  rw [e]
  simp

set_option maxHeartbeats 4000000 in
theorem wipe_any (B p gs : Nat) (wv : Value) (S : DS) (f m : Nat) (w : World) (h : IsDrum B w p gs wv S) (hf : f + m ≤ S.sure.length) (hlen : S.waits.length + m ≤ 1000000000) :
    Calls Tryd.prog 61 #[.pointer (some ⟨p, 0, none⟩), .int .i64 (f : Int), .int .i64 (m : Int)] w fun e w' => e = .returned (.int .i64 (wipeR S f m).1) ∧ (∃ wv', IsDrum B w' p gs wv' (wipeR S f m).2) ∧ Kept B dts w w' := by
  have hBw : B ≤ w.heap.size := by have := h.lt (.inl rfl); omega
  have hsc := scbytes_any B p gs wv S f m w h hf (by omega)
  obtain ⟨R, hR⟩ : ∃ R, wipeR S f m = R := ⟨_, rfl⟩
  rw [hR]
  unfold wipeR at hR
  have hm2 : m ≤ 8192 := by have := h.ok.n2; omega
  have hf2 : f ≤ 8192 := by have := h.ok.n2; omega
  cases hof : S.off with
  | true =>
    rw [if_pos hof] at hR
    rw [hof, if_pos rfl, if_pos rfl] at hsc
    have HR := Lib.hid hR
    have H := Lib.hid h
    clear hR h hof
    go_enter Tryd.func61, Tryd.ntmps61
    go_wp2_with fail
    with_reducible refine hsc.mono ?_
    rintro e w1 ⟨v, rfl, ho, hB1⟩
    have HB1 := Lib.hid hB1
    clear ho hB1 hsc
    go_wp2_with fail
    go_ret
    rw [← HR.out]
    exact ⟨rfl, ⟨wv, H.out.fr (Fr.of_below HB1.out) (fun k hk h => by have := (H.out.lt hk).2; omega)⟩, Kept.of_below HB1.out hBw⟩
  | false =>
    rw [if_neg (by rw [hof]; simp)] at hR
    rw [hof, if_neg (by simp), if_neg (by simp)] at hsc
    have hsl := stP_len h.ok f m hf
    have hsb := stP_bd h.ok f m hf
    have hpart : ∀ i, i < m → ((stP S f m).drop (64 * i)).take 64 = S.now (f + i) := fun i hi => stP_part h.ok f m i hi hf
    obtain ⟨bs, hbs⟩ : ∃ bs, stP S f m = bs := ⟨_, rfl⟩
    rw [hbs] at hsc hsl hsb hpart
    obtain ⟨Z, hZ⟩ : ∃ Z, (bys Z64).toArray = Z := ⟨_, rfl⟩
    have hmk : ∀ W : World, (Instr.makeSlice 22 (.int .i64 64) (.int .i64 64)).run Tryd.prog W = .ok (.slice (some ⟨W.heap.size, 0, none⟩) 64 64) (W.alloc (.cells Z 5)) := fun W => by
      rw [← hZ]
      exact make_Z64 W
    have HR := Lib.hid hR
    have H := Lib.hid h
    have HSL := Lib.hid hsl
    have HSB := Lib.hid hsb
    have HP := Lib.hid hpart
    have HZ := Lib.hid hZ
    clear hR h hof hsl hsb hpart hbs hZ
    go_enter Tryd.func61, Tryd.ntmps61
    go_wp2_with fail
    with_reducible refine hsc.mono ?_
    rintro e w1 ⟨v, rfl, ho, hB1⟩
    obtain ⟨A1, c1, rfl⟩ := ho.form
    obtain ⟨N, hN⟩ : ∃ N, bs.length = N := ⟨_, rfl⟩
    have hNm : N = 64 * m := by rw [← hN]; exact HSL.out
    rw [hN] at ho ⊢
    have hd1 := H.out.fr (Fr.of_below hB1) (fun k hk h => by have := (H.out.lt hk).2; omega)
    have K1 : Kept B dts w w1 := Kept.of_below hB1 hBw
    have HO := Lib.hid ho
    have HN := Lib.hid hN
    have HNm := Lib.hid hNm
    have HK1 := Lib.hid K1
    have HD1 := Lib.hid hd1
    have hB1s : w.heap.size ≤ w1.heap.size := hB1.size
    clear hsc ho hB1 hd1 K1 hN hNm
    go_wp2_with fail
    go_loopg [9, 23] m (fun k a t wr => ∃ (i : Nat) (T : DS) (any : Bool), a = .bool any ∧ t = .int .i64 (i : Int) ∧ i ≤ m ∧ k = m - i ∧ (∃ wv', IsDrum B wr p gs wv' T) ∧ T.waits.length ≤ S.waits.length + i ∧ T.sure.length = S.sure.length ∧ Kept B dts w1 wr ∧ wipeGo S f (m - i) i T any = R)
    case atStart => exact ⟨0, S, false, rfl, rfl, Nat.zero_le _, rfl, ⟨wv, HD1.out⟩, by omega, rfl, Kept.refl _ _ _, by rw [Nat.sub_zero]; exact HR.out⟩
    case round =>
      obtain ⟨i, T, any, rfl, rfl, hi, hk, ⟨wv', hd⟩, hTw, hTs, hK, hgo⟩ := hrel
      by_cases hlt : i < m
      · rw [show m - i = (m - (i + 1)) + 1 by omega] at hgo
        rw [wipeGo_succ] at hgo
        have hor := hK.own8 HO.out (by decide)
        obtain ⟨L2, hL2⟩ : ∃ L2, bs.length = L2 := ⟨_, rfl⟩
        rw [show N = bs.length from HN.out.symm] at hor
        obtain ⟨A9, c9, e9, hy9, _, hc9⟩ := hor.byt HSB.out
        simp only [Value.slice.injEq] at e9
        obtain ⟨rfl, _, rfl⟩ := e9
        obtain ⟨A2, hsl, hy2, _, _⟩ := part8 hy9 c1 (64 * i) (64 * (i + 1)) (64 * (i + 1)) (some (.int .i64 ((i : Int) * 64))) (some (.int .i64 (((i : Int) + 1) * 64))) (some (.int .i64 (((i : Int) + 1) * 64))) (by omega) (by rw [HN.out, HNm.out]; omega) (Nat.le_refl _) (by have := HNm.out; have := HN.out; omega) (.inr ⟨_, rfl, by omega⟩) (.inr ⟨_, rfl, by omega⟩) (.inr ⟨⟨_, rfl, by omega⟩, by simp⟩)
        rw [HN.out, show 64 * (i + 1) - 64 * i = 64 by omega] at hsl
        rw [show 64 * (i + 1) - 64 * i = 64 by omega, HP.out i hlt] at hy2
        have hnl : (S.now (f + i)).length = 64 := (DS.now_sec H.out.ok (by omega)).1
        have hiz := iszero_any A2 64 (S.now (f + i)) wr hy2 (by omega)
        rw [hnl] at hiz
        have HD := Lib.hid hd
        have HK := Lib.hid hK
        have HGO := Lib.hid hgo
        clear hor hy9 hc9 hd hK hgo hy2 hnl hL2
        go_wp2_with fail
        with_reducible refine hiz.mono ?_
        rintro e w' ⟨rfl, hw⟩
        rw [hw]
        clear hw hiz
        cases hany : (S.now (f + i)).any (· != 0) with
        | false =>
          have hgo := HGO.out
          rw [hany, if_neg (by simp)] at hgo
          have HGO := Lib.hid hgo
          clear hgo hany
          simp only [Bool.not_false]
          go_wp2_with fail
          go_roundg (m - (i + 1))
          case measure => omega
          case rel => exact ⟨i + 1, T, any, rfl, by go_num, by omega, rfl, ⟨wv', HD.out⟩, by omega, hTs, HK.out, HGO.out⟩
        | true =>
          have hgo := HGO.out
          rw [hany, if_pos rfl] at hgo
          have HGO := Lib.hid hgo
          clear hgo hany
          simp only [Bool.not_true]
          have hda := HD.out.fr (Fr.of_below ((Below.refl _ wr).alloc (Nat.le_refl _) (.cells Z 5))) (fun k hk h => by have := (HD.out.lt hk).2; omega)
          have hbz : Byt (wr.alloc (.cells Z 5)) (some ⟨wr.heap.size, 0, none⟩) Z64 := by
            rw [← HZ.out]
            exact (Blk.new wr 5 (bys Z64).toArray).byt Z64_bd
          have hwr := write_any B p gs wv' T ((f + i : Nat) : Int) (some ⟨wr.heap.size, 0, none⟩) 64 Z64 _ hda hbz (fun a e => by cases e; have := (HD.out.lt (.inl rfl)).2; simp; omega) (by omega) (by have := HD.out.lt (.inl rfl); simp; omega)
          have hwl := DS.write_len T ((f + i : Nat) : Int) Z64
          obtain ⟨E, hE⟩ : ∃ E, T.write ((f + i : Nat) : Int) Z64 = E := ⟨_, rfl⟩
          rw [hE] at hwr hwl
          rw [Int.natCast_add] at hwr
          have hgo := HGO.out
          rw [hE] at hgo
          have HGO := Lib.hid hgo
          have HDA := Lib.hid hda
          have hzl := Z64_len
          rw [hzl] at hwr
          clear hgo hda hbz hE hzl
          go_wp2_with fail
          with_reducible refine hwr.mono ?_
          rintro e w4 ⟨rfl, ⟨wv4, hd4, _⟩, hf4⟩
          have K4 : Kept B dts w1 w4 := HK.out.trans ((Kept.of_below ((Below.refl _ wr).alloc (Nat.le_refl _) (.cells Z 5)) (by have := HD.out.lt (.inl rfl); omega)).trans (Kept.of_drum HDA.out hf4))
          obtain ⟨e4, T4⟩ := E
          simp only at hd4 hwl HGO ⊢
          have HK4 := Lib.hid K4
          have HD4 := Lib.hid hd4
          clear hwr hf4 hd4 K4
          by_cases he : e4 = 0
          · subst he
            have hgo := HGO.out
            rw [if_pos rfl] at hgo
            have HGO := Lib.hid hgo
            clear hgo
            go_wp2_with fail
            go_roundg (m - (i + 1))
            case measure => omega
            case rel => exact ⟨i + 1, T4, true, rfl, by go_num, by omega, rfl, ⟨wv4, HD4.out⟩, by omega, by omega, HK4.out, HGO.out⟩
          · have heI : (e4 != 0) = true := by simpa using he
            have hgo := HGO.out
            rw [if_neg he] at hgo
            have HGO := Lib.hid hgo
            clear hgo he
            go_wp2_with fail
            go_ret
            rw [← HGO.out]
            exact ⟨rfl, ⟨wv4, HD4.out⟩, HK1.out.trans HK4.out⟩
      · obtain rfl : i = m := by omega
        rw [Nat.sub_self] at hgo
        rw [wipeGo_zero] at hgo
        have HD := Lib.hid hd
        have HK := Lib.hid hK
        clear hd hK
        cases any with
        | false =>
          rw [if_neg (by simp)] at hgo
          have HGO := Lib.hid hgo
          clear hgo
          go_wp2_with fail
          go_ret
          rw [← HGO.out]
          exact ⟨rfl, ⟨wv', HD.out⟩, HK1.out.trans HK.out⟩
        | true =>
          rw [if_pos rfl] at hgo
          have hsy := sync_any B p gs wv' T wr HD.out (by omega)
          rw [hgo] at hsy
          clear hgo
          go_wp2_with fail
          with_reducible refine hsy.mono ?_
          rintro e w4 ⟨rfl, ⟨wv4, hd4, _⟩, hf4⟩
          have K4 : Kept B dts w1 w4 := HK.out.trans (Kept.of_drum HD.out hf4)
          have HK4 := Lib.hid K4
          have HD4 := Lib.hid hd4
          clear hsy hf4 hd4 K4
          go_wp2_with fail
          go_ret
          exact ⟨rfl, ⟨wv4, HD4.out⟩, HK1.out.trans HK4.out⟩

end Go.Proofs.YtohadeijmmmcdaaDoor
end

section
namespace Go.Proofs.YtohadeijmmmcdaaDoor
open Go.RowKit
set_option maxRecDepth 100000

/-- A scroll. -/
structure SS where
  f : Nat
  m : Nat
  t : Nat
  u : Nat
  n : Nat
  gone : Bool

def IsScroll (w : World) (q p : Nat) (s : SS) : Prop :=
  Blk w q 111 #[.pointer (some ⟨p, 0, none⟩), .int .i64 (s.f : Int), .int .i64 (s.m : Int), .int .i64 (s.t : Int), .int .i64 (s.u : Int), .int .i64 (s.n : Int), .bool s.gone]

theorem bd111_of (parts : Array (Nat × Value)) : Instr.build 111 parts = BDs 111 parts := rfl
attribute [local go_sem ↓] bd111_of
theorem bd111_4 (a : Option Addr) (f m t : Int) (W : World) : (BDs 111 #[(0, .pointer a), (1, .int .i64 f), (2, .int .i64 m), (3, .int .i64 t)]).run Tryd.prog W = .ok (.agg #[.pointer a, .int .i64 f, .int .i64 m, .int .i64 t, .int .i64 0, .int .i64 0, .bool false]) W := by kernel_rfl
theorem bd111_6 (a : Option Addr) (f m t u n : Int) (W : World) : (BDs 111 #[(0, .pointer a), (1, .int .i64 f), (2, .int .i64 m), (3, .int .i64 t), (4, .int .i64 u), (5, .int .i64 n)]).run Tryd.prog W = .ok (.agg #[.pointer a, .int .i64 f, .int .i64 m, .int .i64 t, .int .i64 u, .int .i64 n, .bool false]) W := by kernel_rfl

theorem IsScroll.kept {n₀ : Nat} {ts : List TypeId} {w w' : World} {q p : Nat} {s : SS} (h : IsScroll w q p s) (hk : Kept n₀ ts w w') (ht : 111 ∉ ts) : IsScroll w' q p s := hk.kt _ _ _ h ht

theorem Kept.ds {n₀ : Nat} {w w' : World} (h : Kept n₀ dts w w') : Kept n₀ sts w w' := h.mono (fun t ht => by
  simp only [dts, List.mem_cons, List.mem_nil_iff, or_false] at ht
  rcases ht with rfl | rfl | rfl <;> simp [sts])

theorem left_any (q p : Nat) (s : SS) (hm : s.m ≤ 8192) (hu : s.u ≤ s.m) (w : World) (h : IsScroll w q p s) :
    Calls Tryd.prog 22 #[.pointer (some ⟨q, 0, none⟩)] w fun e w' => e = .returned (.int .i64 ((s.m : Int) - (s.u : Int))) ∧ ∃ k, w' = w.drewN k := by
  have k2 : w.cell? ⟨q, 2, none⟩ = some (.int .i64 (s.m : Int)) := h.cell 2
  have k4 : w.cell? ⟨q, 4, none⟩ = some (.int .i64 (s.u : Int)) := h.cell 4
  obtain ⟨f, m, t, u, n, g⟩ := s
  simp only at *
  clear h
  have hw : IntKind.i64.wrap ((m : Int) - (u : Int)) = (m : Int) - (u : Int) := by rw [IntKind.wrap_i64]; omega
  go_enter Tryd.func22, Tryd.ntmps22
  go_wp2_with fail
  go_quiet (fail)
  go_wp2_with fail
  go_ret
  exact ⟨rfl, _, rfl⟩

/-- Sync's answer. -/
def syncR (s : SS) (S : DS) : Int × SS × DS := if s.gone = true then (20, s, S) else (S.sync.1, { s with gone := S.sync.1 != 0 }, S.sync.2)

set_option maxHeartbeats 2000000 in
theorem ssync_any (B q p gs : Nat) (wv : Value) (s : SS) (S : DS) (w : World) (hd : IsDrum B w p gs wv S) (h : IsScroll w q p s) (hq : B ≤ q) (hlen : S.waits.length ≤ 1000000000) :
    Calls Tryd.prog 29 #[.pointer (some ⟨q, 0, none⟩)] w fun e w' => e = .returned (.int .i64 (syncR s S).1) ∧ (∃ wv', IsDrum B w' p gs wv' (syncR s S).2.2) ∧ IsScroll w' q p (syncR s S).2.1 ∧ Kept B sts w w' := by
  have k6 : w.cell? ⟨q, 6, none⟩ = some (.bool s.gone) := h.cell 6
  have k0 : w.cell? ⟨q, 0, none⟩ = some (.pointer (some ⟨p, 0, none⟩)) := h.cell 0
  have hBw : B ≤ w.heap.size := by have := hd.lt (.inl rfl); omega
  cases hg : s.gone with
  | true =>
    have hR : syncR s S = (20, s, S) := by unfold syncR; rw [if_pos hg]
    rw [hR]
    rw [hg] at k6
    have H := Lib.hid h
    have HD := Lib.hid hd
    clear h hd hR hg
    go_enter Tryd.func29, Tryd.ntmps29
    go_wp2_with fail
    go_ret
    exact ⟨rfl, ⟨wv, HD.out⟩, H.out, Kept.refl _ _ _⟩
  | false =>
    have hR : syncR s S = (S.sync.1, { s with gone := S.sync.1 != 0 }, S.sync.2) := by unfold syncR; rw [if_neg (by rw [hg]; simp)]
    rw [hR]
    rw [hg] at k6
    have hsy := sync_any B p gs wv S w hd hlen
    obtain ⟨⟨er, T⟩, hE⟩ : ∃ E, S.sync = E := ⟨_, rfl⟩
    rw [hE] at hsy ⊢
    simp only at hsy ⊢
    have H := Lib.hid h
    have HD := Lib.hid hd
    clear h hd hR hE
    go_enter Tryd.func29, Tryd.ntmps29
    go_wp2_with fail
    with_reducible refine hsy.mono ?_
    rintro e w1 ⟨rfl, ⟨wv1, hd1, _⟩, hf1⟩
    have K1 := Kept.of_drum HD.out hf1
    have h1 : IsScroll w1 q p s := H.out.kept K1 (by decide)
    have j6 : w1.cell? ⟨q, 6, none⟩ = some (.bool s.gone) := h1.cell 6
    have jf := h1.frozen 6
    have hqp : q ≠ p := h1.ne_ hd1.st (by decide)
    have hfin : ∀ b : Bool, IsScroll (w1.setCell ⟨q, 6, none⟩ (.bool b)) q p { s with gone := b } := fun b => by
      have := h1.set_ 6 (.bool b)
      unfold IsScroll
      simpa using this
    have hkeep : ∀ b : Bool, Kept B sts w1 (w1.setCell ⟨q, 6, none⟩ (.bool b)) := fun b =>
      Kept.of_fr (F := fun k => k = q) ((Fr.refl (fun k => k = q) w1).setCell (p := ⟨q, 6, none⟩) (fun _ => rfl) _) (Nat.le_trans hBw K1.size) (fun k hk e => by omega) (fun k t cs e hb => by subst e; rw [(hb.inj h1).1]; simp [sts])
    have hdr : ∀ b : Bool, IsDrum B (w1.setCell ⟨q, 6, none⟩ (.bool b)) p gs wv1 T := fun b =>
      hd1.fr ((Fr.refl (fun k => k = q) w1).setCell (p := ⟨q, 6, none⟩) (fun _ => rfl) _) (fun k hk e => by
        subst e
        rcases hk with e | e | e
        · exact hqp e
        · exact (h1.ne_ hd1.sure (by decide)) e
        · exact own_ne hd1.waits h1 (by decide) e)
    have HF := Lib.hid hfin
    have HK := Lib.hid hkeep
    have HR := Lib.hid hdr
    have K1 := Lib.hid K1
    clear hsy hf1 hd1 h1 hfin hkeep hdr
    go_wp2_with fail
    go_ret
    exact ⟨rfl, ⟨wv1, HR.out _⟩, HF.out _, K1.out.ds.trans (HK.out _)⟩

/-- What Open makes of a scroll. -/
theorem scanAll_le (t : Nat) (b : List Int) : 64 * (scanAll t b).2 ≤ b.length := by
  have key : ∀ (fuel : Nat) (l : List Int) (n : Nat), 64 * (scanP t fuel l n).2 ≤ l.length := by
    intro fuel
    induction fuel with
    | zero => intro l n; simp [scanP]
    | succ k ih =>
      intro l n
      simp only [scanP]
      cases hr : readP l with
      | none => simp
      | some r =>
        simp only
        split
        · have h1 := ih (l.drop (64 * r.size)) (n + 1)
          have h2 := readP_size hr
          simp only [List.length_drop] at h1
          simp only
          omega
        · simp
  exact key _ _ _
theorem scanR_ok {S : DS} {f m t : Nat} (hf : f + m ≤ S.sure.length) (ht : t ≤ 1099511627776) : scanR S (f : Int) (m : Int) (t : Int) = if S.off = true then ([], 0, 21) else ((scanAll t (stP S f m)).1, (scanAll t (stP S f m)).2, 0) := by
  unfold scanR
  rw [if_pos ⟨by simp [strP]; omega, by omega, by omega⟩]
  simp

def BlankPost (n₀ p f m t : Nat) (er : Int) (e : Ending) (w' : World) : Prop :=
  (er = 0 ∧ ∃ q, e = .returned (.tuple #[.pointer (some ⟨q, 0, none⟩), .int .i64 0]) ∧ IsScroll w' q p ⟨f, m, t, 0, 0, false⟩ ∧ n₀ ≤ q) ∨ (er ≠ 0 ∧ e = .returned (.tuple #[.pointer none, .int .i64 er]))

set_option maxHeartbeats 4000000 in
theorem blank_any (B p gs : Nat) (wv : Value) (S : DS) (f m t : Nat) (w : World) (h : IsDrum B w p gs wv S) (hf : f + m ≤ S.sure.length) (ht : t ≤ 1099511627776) (hlen : S.waits.length + m ≤ 1000000000) (hg : Glob w) :
    Calls Tryd.prog 19 #[.pointer (some ⟨p, 0, none⟩), .int .i64 (f : Int), .int .i64 (m : Int), .int .i64 (t : Int)] w fun e w' =>
      BlankPost w.heap.size p f m t (wipeR S f m).1 e w' ∧ (∃ wv', IsDrum B w' p gs wv' (wipeR S f m).2) ∧ Kept B dts w w' := by
  have hBw : B ≤ w.heap.size := by have := h.lt (.inl rfl); omega
  have hn := h.ok.n2
  have hsc := scan_any B p gs wv S (f : Int) (m : Int) (t : Int) (by omega) w h (by omega) hg
  rw [scanR_ok hf ht] at hsc
  cases hof : S.off with
  | true =>
    have hR : wipeR S f m = (21, S) := by unfold wipeR; rw [if_pos hof]
    rw [hR]
    rw [hof, if_pos rfl] at hsc
    have HD := Lib.hid h
    clear hR h hof hg
    go_enter Tryd.func19, Tryd.ntmps19
    go_wp2_with fail
    with_reducible refine hsc.mono ?_
    rintro e w1 ⟨⟨v, rfl, _⟩, hB1⟩
    have HB1 := Lib.hid hB1
    clear hB1 hsc
    go_wp2_with fail
    go_ret2
    exact ⟨.inr ⟨by simp, rfl⟩, ⟨wv, HD.out.fr (Fr.of_below HB1.out) (fun k hk h => by have := (HD.out.lt hk).2; omega)⟩, Kept.of_below HB1.out hBw⟩
  | false =>
    rw [hof, if_neg (by simp)] at hsc
    obtain ⟨⟨L, u⟩, hLu⟩ : ∃ LU, scanAll t (stP S f m) = LU := ⟨_, rfl⟩
    rw [hLu] at hsc
    obtain ⟨⟨er, T⟩, hE⟩ : ∃ E, wipeR S f m = E := ⟨_, rfl⟩
    rw [hE]
    simp only at hsc ⊢
    have HD := Lib.hid h
    have HE := Lib.hid hE
    have hbd := bd111_4 (some ⟨p, 0, none⟩) (f : Int) (m : Int) (t : Int)
    clear h hof hg hLu hE
    go_enter Tryd.func19, Tryd.ntmps19
    go_wp2_with fail
    with_reducible refine hsc.mono ?_
    rintro e w1 ⟨⟨v, rfl, _⟩, hB1⟩
    have hd1 := HD.out.fr (Fr.of_below hB1) (fun k hk h => by have := (HD.out.lt hk).2; omega)
    have K1 : Kept B dts w w1 := Kept.of_below hB1 hBw
    have hwi := wipe_any B p gs wv S f m w1 hd1 hf hlen
    rw [HE.out] at hwi
    have HK1 := Lib.hid K1
    have hs1 := hB1.size
    clear hsc hB1 hd1 K1
    go_wp2_with fail
    with_reducible refine hwi.mono ?_
    rintro e w2 ⟨rfl, ⟨wv2, hd2⟩, K2⟩
    have HD2 := Lib.hid hd2
    have HK2 := Lib.hid K2
    have hs2 := K2.size
    clear hwi hd2 K2
    by_cases he : er = 0
    · subst he
      go_wp2_with fail
      go_ret2
      refine ⟨.inl ⟨rfl, _, rfl, Blk.new _ _ _, by omega⟩, ⟨wv2, HD2.out.fr (F := fun _ => False) ((Fr.refl _ _).alloc _) (fun _ _ h => h)⟩, (HK1.out.trans HK2.out).trans (Kept.of_below ((Below.refl _ _).alloc (Nat.le_refl _) _) (Nat.le_trans hBw (Nat.le_trans hs1 hs2)))⟩
    · have heI : (er != 0) = true := by simpa using he
      have HN := Lib.hid he
      clear he
      go_wp2_with fail
      go_ret2
      exact ⟨.inr ⟨HN.out, rfl⟩, ⟨wv2, HD2.out⟩, HK1.out.trans HK2.out⟩

/-- What Open makes: the error, the records, how many sectors they have, the drum. -/
def openR (S : DS) (f m t : Nat) : Int × List (List Int) × Nat × DS :=
  if S.off = true then (21, [], 0, S)
  else ((wipeR S (f + (scanAll t (stP S f m)).2) (m - (scanAll t (stP S f m)).2)).1, (scanAll t (stP S f m)).1, (scanAll t (stP S f m)).2, (wipeR S (f + (scanAll t (stP S f m)).2) (m - (scanAll t (stP S f m)).2)).2)

def OpenPost (n₀ p : Nat) (f m t : Nat) (R : Int × List (List Int) × Nat × DS) (e : Ending) (w' : World) : Prop :=
  (R.1 = 0 ∧ ∃ q v, e = .returned (.tuple #[.pointer (some ⟨q, 0, none⟩), v, .int .i64 0]) ∧ IsScroll w' q p ⟨f, m, t, R.2.2.1, R.2.1.length, false⟩ ∧ n₀ ≤ q ∧ OwnT n₀ w' v R.2.1) ∨
  (R.1 ≠ 0 ∧ e = .returned (.tuple #[.pointer none, .slice none 0 0, .int .i64 R.1]))

set_option maxHeartbeats 4000000 in
theorem sopen_any (B p gs : Nat) (wv : Value) (S : DS) (f m t : Nat) (w : World) (h : IsDrum B w p gs wv S) (hf : f + m ≤ S.sure.length) (ht : t ≤ 1099511627776) (hlen : S.waits.length + m ≤ 1000000000) (hg : Glob w) :
    Calls Tryd.prog 33 #[.pointer (some ⟨p, 0, none⟩), .int .i64 (f : Int), .int .i64 (m : Int), .int .i64 (t : Int)] w fun e w' =>
      OpenPost w.heap.size p f m t (openR S f m t) e w' ∧ (∃ wv', IsDrum B w' p gs wv' (openR S f m t).2.2.2) ∧ Kept B dts w w' := by
  have hBw : B ≤ w.heap.size := by have := h.lt (.inl rfl); omega
  have hn := h.ok.n2
  have hsc := scan_any B p gs wv S (f : Int) (m : Int) (t : Int) (by omega) w h (by omega) hg
  rw [scanR_ok hf ht] at hsc
  cases hof : S.off with
  | true =>
    have hR : openR S f m t = (21, [], 0, S) := by unfold openR; rw [if_pos hof]
    rw [hR]
    rw [hof, if_pos rfl] at hsc
    have HD := Lib.hid h
    clear hR h hof hg
    go_enter Tryd.func33, Tryd.ntmps33
    go_wp2_with fail
    with_reducible refine hsc.mono ?_
    rintro e w1 ⟨⟨v, rfl, _⟩, hB1⟩
    have HB1 := Lib.hid hB1
    clear hB1 hsc
    go_wp2_with fail
    go_ret3
    exact ⟨.inr ⟨by simp, rfl⟩, ⟨wv, HD.out.fr (Fr.of_below HB1.out) (fun k hk h => by have := (HD.out.lt hk).2; omega)⟩, Kept.of_below HB1.out hBw⟩
  | false =>
    have hR : openR S f m t = ((wipeR S (f + (scanAll t (stP S f m)).2) (m - (scanAll t (stP S f m)).2)).1, (scanAll t (stP S f m)).1, (scanAll t (stP S f m)).2, (wipeR S (f + (scanAll t (stP S f m)).2) (m - (scanAll t (stP S f m)).2)).2) := by unfold openR; rw [if_neg (by rw [hof]; simp)]
    rw [hR]
    rw [hof, if_neg (by simp)] at hsc
    have hle := scanAll_le t (stP S f m)
    rw [stP_len h.ok f m hf] at hle
    obtain ⟨⟨L, u⟩, hLu⟩ : ∃ LU, scanAll t (stP S f m) = LU := ⟨_, rfl⟩
    rw [hLu] at hsc hle
    simp only [hLu] at hsc hle ⊢
    have hum : u ≤ m := by omega
    obtain ⟨⟨er, T⟩, hE⟩ : ∃ E, wipeR S (f + u) (m - u) = E := ⟨_, rfl⟩
    rw [hE]
    have HD := Lib.hid h
    have HE := Lib.hid hE
    have hm2 : m ≤ 8192 := by omega
    have hf2 : f ≤ 8192 := by omega
    have hbd := bd111_6 (some ⟨p, 0, none⟩) (f : Int) (m : Int) (t : Int) (u : Int) (L.length : Int)
    clear h hof hg hLu hE hR hle
    go_enter Tryd.func33, Tryd.ntmps33
    go_wp2_with fail
    with_reducible refine hsc.mono ?_
    rintro e w1 ⟨⟨v, rfl, hov⟩, hB1⟩
    simp only at hov
    obtain ⟨Av, cv, rfl⟩ := hov.form
    have hd1 := HD.out.fr (Fr.of_below hB1) (fun k hk h => by have := (HD.out.lt hk).2; omega)
    have K1 : Kept B dts w w1 := Kept.of_below hB1 hBw
    have hwi := wipe_any B p gs wv S (f + u) (m - u) w1 hd1 (by omega) (by omega)
    rw [HE.out, Int.natCast_add, show ((m - u : Nat) : Int) = (m : Int) - (u : Int) by omega] at hwi
    have HK1 := Lib.hid K1
    have HOV := Lib.hid hov
    have hs1 := hB1.size
    clear hsc hB1 hd1 K1 hov
    go_wp2_with fail
    with_reducible refine hwi.mono ?_
    rintro e w2 ⟨rfl, ⟨wv2, hd2⟩, K2⟩
    have HD2 := Lib.hid hd2
    have HK2 := Lib.hid K2
    have hs2 := K2.size
    clear hwi hd2 K2
    by_cases he : er = 0
    · subst he
      go_wp2_with fail
      go_ret3
      refine ⟨.inl ⟨rfl, _, _, rfl, Blk.new _ _ _, by omega, ?_⟩, ⟨wv2, HD2.out.fr (F := fun _ => False) ((Fr.refl _ _).alloc _) (fun _ _ h => h)⟩, (HK1.out.trans HK2.out).trans (Kept.of_below ((Below.refl _ _).alloc (Nat.le_refl _) _) (Nat.le_trans hBw (Nat.le_trans hs1 hs2)))⟩
      exact (HK2.out.ownT HOV.out (by decide) (by decide)).below ((Below.refl _ _).alloc (Nat.le_refl _) _)
    · have heI : (er != 0) = true := by simpa using he
      have HN := Lib.hid he
      clear he
      go_wp2_with fail
      go_ret3
      exact ⟨.inr ⟨HN.out, rfl⟩, ⟨wv2, HD2.out⟩, HK1.out.trans HK2.out⟩

end Go.Proofs.YtohadeijmmmcdaaDoor
end

section
namespace Go.Proofs.YtohadeijmmmcdaaDoor
open Go.RowKit
set_option maxRecDepth 100000
attribute [local go_sem ↓] slr_of

/-- What is left of the writing of k sectors of F from the i-th on, to a place. -/
def putGo (F : List Int) (a : Nat) : Nat → Nat → DS → Int × DS
  | 0, _, T => (0, T)
  | k + 1, i, T => if (T.write ((a + i : Nat) : Int) ((F.drop (64 * i)).take 64)).1 = 0 then putGo F a k (i + 1) (T.write ((a + i : Nat) : Int) ((F.drop (64 * i)).take 64)).2 else T.write ((a + i : Nat) : Int) ((F.drop (64 * i)).take 64)
theorem putGo_zero (F : List Int) (a i : Nat) (T : DS) : putGo F a 0 i T = (0, T) := rfl
theorem putGo_succ (F : List Int) (a k i : Nat) (T : DS) : putGo F a (k + 1) i T =
    if (T.write ((a + i : Nat) : Int) ((F.drop (64 * i)).take 64)).1 = 0 then putGo F a k (i + 1) (T.write ((a + i : Nat) : Int) ((F.drop (64 * i)).take 64)).2 else T.write ((a + i : Nat) : Int) ((F.drop (64 * i)).take 64) := rfl
attribute [irreducible] putGo

/-- How many sectors a record has. -/
def recS (t n : Nat) (b : List Int) : Nat := secP (12 + (fieldsP t n b).length)
/-- Put's answer. -/
def putR (s : SS) (S : DS) (b : List Int) : Int × SS × DS :=
  if s.gone = true then (20, s, S) else
  if formE s.t s.n b ≠ 0 then (formE s.t s.n b, s, S) else
  if s.m - s.u < recS s.t s.n b then (18, s, S) else
  if (putGo (formP s.t s.n b) (s.f + s.u) (recS s.t s.n b) 0 S).1 = 0 then (0, { s with u := s.u + recS s.t s.n b, n := s.n + 1 }, (putGo (formP s.t s.n b) (s.f + s.u) (recS s.t s.n b) 0 S).2)
  else ((putGo (formP s.t s.n b) (s.f + s.u) (recS s.t s.n b) 0 S).1, { s with gone := true }, (putGo (formP s.t s.n b) (s.f + s.u) (recS s.t s.n b) 0 S).2)

theorem formE_zero {t n : Nat} {b : List Int} (h : formE t n b = 0) : t ≤ mostP ∧ n ≤ mostP ∧ recS t n b ≤ 1024 := by
  unfold formE at h
  split at h
  · cases h
  · rename_i h1
    split at h
    · cases h
    · rename_i h2
      rw [Int.toNat_natCast, Int.toNat_natCast] at h2
      unfold mostP recS
      omega

/-- A store to a field of a scroll. -/
theorem IsScroll.put {B q p gs : Nat} {wv : Value} {s s' : SS} {S : DS} {w : World} (h : IsScroll w q p s) (hd : IsDrum B w p gs wv S) (hq : B ≤ q) (i : Nat) (v : Value)
    (hs : (#[.pointer (some ⟨p, 0, none⟩), .int .i64 (s.f : Int), .int .i64 (s.m : Int), .int .i64 (s.t : Int), .int .i64 (s.u : Int), .int .i64 (s.n : Int), .bool s.gone] : Array Value).setIfInBounds i v =
      #[.pointer (some ⟨p, 0, none⟩), .int .i64 (s'.f : Int), .int .i64 (s'.m : Int), .int .i64 (s'.t : Int), .int .i64 (s'.u : Int), .int .i64 (s'.n : Int), .bool s'.gone]) :
    IsScroll (w.setCell ⟨q, i, none⟩ v) q p s' ∧ IsDrum B (w.setCell ⟨q, i, none⟩ v) p gs wv S ∧ Kept B sts w (w.setCell ⟨q, i, none⟩ v) := by
  have hqp : q ≠ p := h.ne_ hd.st (by decide)
  have hf : Fr (fun k => k = q) w (w.setCell ⟨q, i, none⟩ v) := (Fr.refl (fun k => k = q) w).setCell (p := ⟨q, i, none⟩) (fun _ => rfl) _
  refine ⟨?_, hd.fr hf (fun k hk e => ?_), Kept.of_fr hf (by have := hd.lt (.inl rfl); omega) (fun k hk e => by omega) (fun k t cs e hb => by subst e; rw [(hb.inj h).1]; simp [sts])⟩
  · have := h.set_ i v
    rw [hs] at this
    exact this
  · subst e
    rcases hk with e | e | e
    · exact hqp e
    · exact (h.ne_ hd.sure (by decide)) e
    · exact own_ne hd.waits h (by decide) e

/-- Bytes don't lie in a drum's struct. -/
theorem IsDrum.byt_ne {B p gs : Nat} {wv : Value} {S : DS} {w : World} (hd : IsDrum B w p gs wv S) {A : Option Addr} {l : List Int} (hy : Byt w A l) : ∀ a, A = some a → 0 < l.length → a.block ≠ p :=
  Go.Proofs.YtohadeijmmmcdaaDoor.byt_ne hd.st (fun i y h => by
    obtain ⟨A0, c0, e⟩ := own_form hd.waits
    rw [e] at h
    match i with
    | 0 => simp at h
    | 1 => simp at h
    | 2 => simp at h
    | 3 => simp at h
    | i + 4 => simp at h) hy

set_option maxHeartbeats 4000000 in
theorem put_any (B q p gs : Nat) (wv : Value) (s : SS) (S : DS) (A : Option Addr) (c : Nat) (hcA : A = none → c = 0) (b : List Int) (w : World) (hd : IsDrum B w p gs wv S) (h : IsScroll w q p s) (hq : B ≤ q) (hum : s.u ≤ s.m) (hfm : s.f + s.m ≤ S.sure.length) (hn : s.n ≤ 1099511627776)
    (hlen : S.waits.length + 1024 ≤ 1000000000) (hb : Byt w A b) (hbl : b.length ≤ 100000000) (hg : Glob w) :
    Calls Tryd.prog 20 #[.pointer (some ⟨q, 0, none⟩), .slice A b.length c] w fun e w' =>
      e = .returned (.int .i64 (putR s S b).1) ∧ (∃ wv', IsDrum B w' p gs wv' (putR s S b).2.2) ∧ IsScroll w' q p (putR s S b).2.1 ∧ Kept B sts w w' := by
  have hBw : B ≤ w.heap.size := by have := hd.lt (.inl rfl); omega
  have hs2 := hd.ok.n2
  obtain ⟨F0, M0, T, U0, N, gn⟩ := s
  simp only at hum hfm hn
  have k6 : w.cell? ⟨q, 6, none⟩ = some (.bool gn) := h.cell 6
  have k3 : w.cell? ⟨q, 3, none⟩ = some (.int .i64 (T : Int)) := h.cell 3
  have k5 : w.cell? ⟨q, 5, none⟩ = some (.int .i64 (N : Int)) := h.cell 5
  obtain ⟨R, hR⟩ : ∃ R, putR ⟨F0, M0, T, U0, N, gn⟩ S b = R := ⟨_, rfl⟩
  rw [hR]
  unfold putR at hR
  simp only at hR
  cases gn with
  | true =>
    rw [if_pos rfl] at hR
    have H := Lib.hid h
    have HD := Lib.hid hd
    have HR := Lib.hid hR
    clear h hd hR hb hg k3 k5
    go_enter Tryd.func20, Tryd.ntmps20
    go_wp2_with fail
    go_ret
    rw [← HR.out]
    exact ⟨rfl, ⟨wv, HD.out⟩, H.out, Kept.refl _ _ _⟩
  | false =>
    rw [if_neg (by simp)] at hR
    have k3' : w.drew.cell? ⟨q, 3, none⟩ = some (.int .i64 (T : Int)) := k3
    have k5' : w.drew.cell? ⟨q, 5, none⟩ = some (.int .i64 (N : Int)) := k5
    have hb' : Byt w.drew A b := hb.below ((Below.refl _ w).drew)
    have hg' : Glob w.drew := hg.below ((Below.refl _ w).drew)
    have hfo := form_any (T : Int) (N : Int) A c hcA b w.drew hb' (Nat.le_trans hbl (by omega)) hg'
    have hbb := hb.bd
    obtain ⟨L, hL⟩ : ∃ L, b.length = L := ⟨_, rfl⟩
    rw [hL] at hfo ⊢
    obtain ⟨E, hE⟩ : ∃ E, formE (T : Int) (N : Int) b = E := ⟨_, rfl⟩
    rw [hE] at hfo hR
    have HE := Lib.hid hE
    have H := Lib.hid h
    have HD := Lib.hid hd
    have HR := Lib.hid hR
    have HL := Lib.hid hL
    have HBB := Lib.hid hbb
    clear h hd hR hb hg hb' hg' hE hL hbb
    go_enter Tryd.func20, Tryd.ntmps20
    go_wp2_with fail
    refine wp_txt [true, true, true, true, true, true, true, true, true, false, true, true, true, false, false] (fun W => W.cell? ⟨q, 3, none⟩ = some (.int .i64 (T : Int)) ∧ W.cell? ⟨q, 5, none⟩ = some (.int .i64 (N : Int))) (by kernel_rfl) (by kernel_rfl) (by kernel_rfl) (by kernel_rfl) ⟨k3', k5'⟩ ?_
    repeat (refine wpTxt_take (v := ?_) (by rfl) (fun W' hS => ?_) ?_; rotate_left; focus (have s1 := hS.1; have s2 := hS.2; clear hS; (try simp only at s1 s2); go_simp; (try with_reducible rfl)))
    refine wpTxt_want (by rfl) (fun K hK => ?_)
    go_simp
    with_reducible refine hfo.mono ?_
    rintro e w1 ⟨v, rfl, ho, hB1⟩
    clear hfo
    have B1 : Below w.heap.size w w1 := ((Below.refl _ w).drew).trans hB1
    have h1 := H.out.kept (Kept.of_below (n₀ := B) (ts := []) B1 hBw) (by simp)
    have hd1 := (Kept.of_below (n₀ := B) (ts := []) B1 hBw).drum HD.out (by simp) (by simp) (by simp)
    have j3 : w1.cell? ⟨q, 3, none⟩ = some (.int .i64 (T : Int)) := h1.cell 3
    have j5 : w1.cell? ⟨q, 5, none⟩ = some (.int .i64 (N : Int)) := h1.cell 5
    refine hK _ _ ⟨j3, j5⟩ ?_
    clear hK K
    obtain ⟨Av, cv, rfl⟩ := ho.form
    obtain ⟨V, hV⟩ : ∃ V, formV (T : Int) (N : Int) b = V := ⟨_, rfl⟩
    rw [hV] at ho ⊢
    obtain ⟨VL, hVL⟩ : ∃ VL, V.length = VL := ⟨_, rfl⟩
    rw [hVL] at ho ⊢
    have HO := Lib.hid ho
    have HV := Lib.hid hV
    have HVL := Lib.hid hVL
    have H1 := Lib.hid h1
    have HD1 := Lib.hid hd1
    have HB1 := Lib.hid B1
    clear ho hV hVL h1 hd1 hB1 B1
    repeat (refine wpTxt_take (v := ?_) (by rfl) (fun W' hS => ?_) ?_; rotate_left; focus (clear hS; go_simp; (try with_reducible rfl)))
    refine wpTxt_want (by rfl) (fun K hK => ?_)
    go_simp
    refine hK _ _ ⟨j3, j5⟩ ?_
    clear hK K
    refine wpTxt_want (by rfl) (fun K hK => ?_)
    go_simp
    refine hK _ _ ⟨j3, j5⟩ ?_
    clear hK K
    refine wpTxt_nil ?_
    rw [noPan_normal]
    clear j3 j5 k3 k5 k3' k5'
    by_cases he : E = 0
    · subst he
      have hz := formE_zero HE.out
      have hVe : V = formP T N b := by rw [← HV.out]; unfold formV; rw [if_pos HE.out, Int.toNat_natCast, Int.toNat_natCast]
      have hVl : VL = recS T N b * 64 := by rw [← HVL.out, hVe, formP_len]; rfl
      have hK1024 := hz.2.2
      have hK1 : 1 ≤ recS T N b := by unfold recS secP; omega
      have hVb : ∀ x ∈ V, 0 ≤ x ∧ x ≤ 255 := by rw [hVe]; exact formP_bd hz.1 hz.2.1 HBB.out (by omega)
      have hR := HR.out
      rw [if_neg (by simp), ← hVe] at hR
      obtain ⟨K, hK⟩ : ∃ K, recS T N b = K := ⟨_, rfl⟩
      rw [hK] at hVl hK1024 hK1 hR
      have hqv : ((VL : Nat) : Int) / 64 = (K : Int) := by omega
      have HVB := Lib.hid hVb
      have HVE := Lib.hid hVl
      have hdv1 : (0 : Int) ≤ (VL : Int) := by omega
      have hdv2 : (VL : Int) ≤ 65536 := by omega
      clear hz hVe hVb hVl hK
      have hlf := left_any q p _ (by simp only; omega) hum w1 H1.out
      simp only at hlf
      by_cases hfull : M0 - U0 < K
      · rw [if_pos hfull] at hR
        have hfI : (M0 : Int) - (U0 : Int) < (K : Int) := by omega
        have HR2 := Lib.hid hR
        clear hR hfull
        go_wp2_with fail
        with_reducible refine hlf.mono ?_
        rintro e w2 ⟨rfl, k2, rfl⟩
        clear hlf
        go_wp2_with fail
        go_ret
        rw [← HR2.out]
        exact ⟨rfl, ⟨wv, HD1.out.fr (F := fun _ => False) ((Fr.refl _ _).drewN _) (fun _ _ h => h)⟩, H1.out.drewN _, Kept.of_below (below_drewN HB1.out _) hBw⟩
      · rw [if_neg hfull] at hR
        have hfI : ¬ ((M0 : Int) - (U0 : Int) < (K : Int)) := by omega
        have hfit : U0 + K ≤ M0 := by omega
        obtain ⟨⟨pe, pT⟩, hPG⟩ : ∃ P, putGo V (F0 + U0) K 0 S = P := ⟨_, rfl⟩
        rw [hPG] at hR
        simp only at hR
        have HPG := Lib.hid hPG
        have HR2 := Lib.hid hR
        clear hR hfull hPG
        go_wp2_with fail
        with_reducible refine hlf.mono ?_
        rintro e w2 ⟨rfl, k2, hw2⟩
        clear hlf
        have h2 : IsScroll w2 q p ⟨F0, M0, T, U0, N, false⟩ := by rw [hw2]; exact H1.out.drewN _
        have hd2 : IsDrum B w2 p gs wv S := by rw [hw2]; exact HD1.out.fr (F := fun _ => False) ((Fr.refl _ _).drewN _) (fun _ _ h => h)
        have ho2 : Own8 w.drew.heap.size w2 (.slice Av VL cv) V := HO.out.fr (F := fun _ => False) (w' := w2) (by rw [hw2]; exact (Fr.refl _ _).drewN _) (fun _ _ h => h)
        have K2 : Kept B sts w w2 := by rw [hw2]; exact Kept.of_below (below_drewN HB1.out _) hBw
        have H2 := Lib.hid h2
        have HD2 := Lib.hid hd2
        have HO2 := Lib.hid ho2
        have HK2 := Lib.hid K2
        clear h2 hd2 ho2 K2 hw2
        go_wp2_with fail
        go_loopg [40] K (fun k t wr => ∃ (i : Nat) (D : DS), t = .int .i64 (i : Int) ∧ i ≤ K ∧ k = K - i ∧ (∃ wv', IsDrum B wr p gs wv' D) ∧ D.waits.length ≤ S.waits.length + i ∧ D.sure.length = S.sure.length ∧ Kept B dts w2 wr ∧ putGo V (F0 + U0) (K - i) i D = (pe, pT))
        case atStart => exact ⟨0, S, rfl, Nat.zero_le _, rfl, ⟨wv, HD2.out⟩, by omega, rfl, Kept.refl _ _ _, by rw [Nat.sub_zero]; exact HPG.out⟩
        case round =>
          obtain ⟨i, D, rfl, hi, hk, ⟨wv', hdr⟩, hDw, hDs, hKr, hgo⟩ := hrel
          have hsr := H2.out.kept hKr (by decide)
          by_cases hlt : i < K
          · rw [show K - i = (K - (i + 1)) + 1 by omega, putGo_succ] at hgo
            have hor := hKr.own8 HO2.out (by decide)
            rw [show VL = V.length from HVL.out.symm] at hor
            obtain ⟨A9, c9, e9, hy9, _, hc9⟩ := hor.byt HVB.out
            simp only [Value.slice.injEq] at e9
            obtain ⟨rfl, _, rfl⟩ := e9
            obtain ⟨g9, o9, rfl, _, _⟩ := hy9.cell (by rw [HVL.out, HVE.out]; omega)
            obtain ⟨a2, hsl, hy2⟩ := part8s hy9 cv (64 * i) (64 * (i + 1)) cv (some (.int .i64 ((i : Int) * 64))) (some (.int .i64 (((i : Int) + 1) * 64))) none (by omega) (by rw [HVL.out, HVE.out]; omega) (by rw [HVL.out, HVE.out] at hc9; omega) (Nat.le_refl _) (.inr ⟨_, rfl, by omega⟩) (.inr ⟨_, rfl, by omega⟩) (.inl ⟨rfl, rfl⟩)
            rw [HVL.out, show 64 * (i + 1) - 64 * i = 64 by omega] at hsl
            rw [show 64 * (i + 1) - 64 * i = 64 by omega] at hy2
            obtain ⟨X, hX⟩ : ∃ X, (V.drop (64 * i)).take 64 = X := ⟨_, rfl⟩
            have hXl : X.length = 64 := by rw [← hX]; simp [HVL.out, HVE.out]; omega
            rw [hX] at hgo hy2
            have hne9 : a2.block ≠ p := hdr.byt_ne hy2 a2 rfl (by omega)
            have hwr := write_any B p gs wv' D (((F0 + U0) + i : Nat) : Int) (some a2) (cv - 64 * i) X wr.drew (hdr.fr (F := fun _ => False) ((Fr.refl _ _).drew) (fun _ _ h => h)) (hy2.below ((Below.refl _ wr).drew)) (fun a e => by cases e; exact hne9) (by omega) (by have := hdr.lt (.inl rfl); show B ≤ wr.heap.size; omega)
            have hwl := DS.write_len D (((F0 + U0) + i : Nat) : Int) X
            obtain ⟨⟨we, wD⟩, hWE⟩ : ∃ P, D.write (((F0 + U0) + i : Nat) : Int) X = P := ⟨_, rfl⟩
            rw [hWE] at hwr hwl hgo
            rw [hXl, Int.natCast_add, Int.natCast_add] at hwr
            simp only at hwr hwl hgo
            have k0 : wr.drew.cell? ⟨q, 0, none⟩ = some (.pointer (some ⟨p, 0, none⟩)) := hsr.cell 0
            have k1 : wr.drew.cell? ⟨q, 1, none⟩ = some (.int .i64 (F0 : Int)) := hsr.cell 1
            have k4 : wr.drew.cell? ⟨q, 4, none⟩ = some (.int .i64 (U0 : Int)) := hsr.cell 4
            have g1 : IntKind.i64.wrap ((F0 : Int) + (U0 : Int)) = (F0 : Int) + (U0 : Int) := by rw [IntKind.wrap_i64]; omega
            have g2 : IntKind.i64.wrap ((F0 : Int) + (U0 : Int) + (i : Int)) = (F0 : Int) + (U0 : Int) + (i : Int) := by rw [IntKind.wrap_i64]; omega
            have g3 : IntKind.i64.wrap ((i : Int) * 64) = (i : Int) * 64 := by rw [IntKind.wrap_i64]; omega
            have g4 : IntKind.i64.wrap ((i : Int) + 1) = (i : Int) + 1 := by rw [IntKind.wrap_i64]; omega
            have g5 : IntKind.i64.wrap (((i : Int) + 1) * 64) = ((i : Int) + 1) * 64 := by rw [IntKind.wrap_i64]; omega
            have HDR := Lib.hid hdr
            have HKR := Lib.hid hKr
            have HGO := Lib.hid hgo
            have HSR := Lib.hid hsr
            clear hor hy9 hc9 hdr hKr hgo hsr hy2 hX hXl hne9 hWE
            go_wp2_with fail
            refine wp_txt [true, true, true, true, true, true, true, true, true, true, true, true, true, true, true, true, true, true, true, true, true, true, false, false] (fun W => W.cell? ⟨q, 0, none⟩ = some (.pointer (some ⟨p, 0, none⟩)) ∧ W.cell? ⟨q, 1, none⟩ = some (.int .i64 (F0 : Int)) ∧ W.cell? ⟨q, 4, none⟩ = some (.int .i64 (U0 : Int))) (by kernel_rfl) (by kernel_rfl) (by kernel_rfl) (by kernel_rfl) ⟨k0, k1, k4⟩ ?_
            repeat (refine wpTxt_take (v := ?_) (by rfl) (fun W' hS => ?_) ?_; rotate_left; focus (have s1 := hS.1; have s2 := hS.2.1; have s3 := hS.2.2; clear hS; (try simp only at s1 s2 s3); go_simp; (try with_reducible rfl)))
            refine wpTxt_want (by rfl) (fun KK hKK => ?_)
            go_simp
            with_reducible refine hwr.mono ?_
            rintro e w4 ⟨rfl, ⟨wv4, hd4, _⟩, hf4⟩
            have K4 : Kept B dts wr w4 := (Kept.of_fr (F := fun _ => False) ((Fr.refl _ wr).drew) (by have := HDR.out.lt (.inl rfl); omega) (fun _ _ f => f) (fun _ _ _ f => f.elim)).trans (Kept.of_drum (HDR.out.fr (F := fun _ => False) ((Fr.refl _ _).drew) (fun _ _ h => h)) hf4)
            have hs4 := HSR.out.kept K4 (by decide)
            have j0 : w4.cell? ⟨q, 0, none⟩ = some (.pointer (some ⟨p, 0, none⟩)) := hs4.cell 0
            have j1 : w4.cell? ⟨q, 1, none⟩ = some (.int .i64 (F0 : Int)) := hs4.cell 1
            have j4 : w4.cell? ⟨q, 4, none⟩ = some (.int .i64 (U0 : Int)) := hs4.cell 4
            have HK4 := Lib.hid K4
            have HD4 := Lib.hid hd4
            have HS4 := Lib.hid hs4
            clear hwr hf4 hd4 K4 hs4 g1 g2 g3 g4 g5 k0 k1 k4
            refine hKK _ _ ⟨j0, j1, j4⟩ ?_
            clear hKK KK
            refine wpTxt_want (by rfl) (fun KK hKK => ?_)
            go_simp
            refine hKK _ _ ⟨j0, j1, j4⟩ ?_
            clear hKK KK j0 j1 j4
            refine wpTxt_nil ?_
            rw [noPan_normal]
            by_cases hwe : we = 0
            · subst hwe
              have hgo := HGO.out
              rw [if_pos rfl] at hgo
              have HGO := Lib.hid hgo
              clear hgo
              go_wp2_with fail
              go_roundg (K - (i + 1))
              case measure => omega
              case rel => exact ⟨i + 1, wD, by go_num, by omega, rfl, ⟨wv4, HD4.out⟩, by omega, by omega, HKR.out.trans HK4.out, HGO.out⟩
            · have hwI : (we != 0) = true := by simpa using hwe
              have hgo := HGO.out
              rw [if_neg hwe] at hgo
              simp only [Prod.mk.injEq] at hgo
              obtain ⟨rfl, rfl⟩ := hgo
              have hR := HR2.out
              rw [if_neg hwe] at hR
              have HR3 := Lib.hid hR
              obtain ⟨p1, p2, p3⟩ := HS4.out.put (s' := ⟨F0, M0, T, U0, N, true⟩) HD4.out hq 6 (.bool true) (by simp)
              have j6 : w4.cell? ⟨q, 6, none⟩ = some (.bool false) := HS4.out.cell 6
              have jf := HS4.out.frozen 6
              have P1 := Lib.hid p1
              have P2 := Lib.hid p2
              have P3 := Lib.hid p3
              clear hR hwe p1 p2 p3
              go_wp2_with fail
              go_ret
              rw [← HR3.out]
              exact ⟨rfl, ⟨wv4, P2.out⟩, P1.out, HK2.out.trans ((HKR.out.ds.trans HK4.out.ds).trans P3.out)⟩
          · obtain rfl : i = K := by omega
            rw [Nat.sub_self, putGo_zero] at hgo
            simp only [Prod.mk.injEq] at hgo
            obtain ⟨rfl, rfl⟩ := hgo
            have hR := HR2.out
            rw [if_pos rfl] at hR
            obtain ⟨a1, a2, a3⟩ := hsr.put (s' := ⟨F0, M0, T, U0 + i, N, false⟩) hdr hq 4 (.int .i64 ((U0 + i : Nat) : Int)) (by simp)
            obtain ⟨b1, b2, b3⟩ := a1.put (s' := ⟨F0, M0, T, U0 + i, N + 1, false⟩) a2 hq 5 (.int .i64 ((N + 1 : Nat) : Int)) (by simp)
            have j4 : wr.cell? ⟨q, 4, none⟩ = some (.int .i64 (U0 : Int)) := hsr.cell 4
            have j5 : wr.cell? ⟨q, 5, none⟩ = some (.int .i64 (N : Int)) := hsr.cell 5
            have jf4 := hsr.frozen 4
            have jf5 := hsr.frozen 5
            have l5 : (wr.setCell ⟨q, 4, none⟩ (.int .i64 ((U0 : Int) + (i : Int)))).cell? ⟨q, 5, none⟩ = some (.int .i64 (N : Int)) := by
              have := a1.cell 5
              rw [Int.natCast_add] at this
              exact this
            rw [Int.natCast_add] at a1 a2 a3 b1 b2 b3
            rw [Int.natCast_add] at b1 b2 b3
            have HR3 := Lib.hid hR
            have P1 := Lib.hid b1
            have P2 := Lib.hid b2
            have P3 := Lib.hid (a3.trans b3)
            have HKR := Lib.hid hKr
            clear hR a1 a2 a3 b1 b2 b3 hsr hKr hdr
            go_wp2_with fail
            go_ret
            rw [← HR3.out]
            exact ⟨rfl, ⟨wv', P2.out⟩, P1.out, HK2.out.trans (HKR.out.ds.trans P3.out)⟩
    · have heI : (E != 0) = true := by simpa using he
      have hR := HR.out
      rw [if_pos he] at hR
      have HR2 := Lib.hid hR
      clear hR he
      go_wp2_with fail
      go_ret
      rw [← HR2.out]
      exact ⟨rfl, ⟨wv, HD1.out⟩, H1.out, Kept.of_below HB1.out hBw⟩

end Go.Proofs.YtohadeijmmmcdaaDoor
end
