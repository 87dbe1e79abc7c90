/-
  scroll.wipe.
-/
import Derived.Test.YtohadeijmmmcdaaDoorKept
namespace Go.Proofs.YtohadeijmmmcdaaDoor
open Go.RowKit
set_option maxRecDepth 100000
attribute [local go_sem ↓] slr_of

/-- A sector of zeros. -/
def Z64 : List Int := List.replicate 64 0
/-- What is left of a wiping of n sectors from the i-th on. -/
def wipeGo (S : DS) (f : Nat) : Nat → Nat → DS → Bool → Int × DS
  | 0, _, T, any => if any = true then T.sync else (0, T)
  | k + 1, i, T, any =>
    if (S.now (f + i)).any (· != 0) = true then
      if (T.write ((f + i : Nat) : Int) Z64).1 = 0 then wipeGo S f k (i + 1) (T.write ((f + i : Nat) : Int) Z64).2 true else T.write ((f + i : Nat) : Int) Z64
    else wipeGo S f k (i + 1) T any
theorem wipeGo_zero (S : DS) (f i : Nat) (T : DS) (any : Bool) : wipeGo S f 0 i T any = if any = true then T.sync else (0, T) := rfl
theorem wipeGo_succ (S : DS) (f k i : Nat) (T : DS) (any : Bool) : wipeGo S f (k + 1) i T any =
    if (S.now (f + i)).any (· != 0) = true then
      if (T.write ((f + i : Nat) : Int) Z64).1 = 0 then wipeGo S f k (i + 1) (T.write ((f + i : Nat) : Int) Z64).2 true else T.write ((f + i : Nat) : Int) Z64
    else wipeGo S f k (i + 1) T any := rfl
attribute [irreducible] wipeGo
/-- Wiping. -/
def wipeR (S : DS) (f m : Nat) : Int × DS := if S.off = true then (21, S) else wipeGo S f m 0 S false

theorem DS.write_len (S : DS) (k : Int) (b : List Int) : (S.write k b).2.waits.length ≤ S.waits.length + 1 ∧ (S.write k b).2.sure.length = S.sure.length := by
  unfold DS.write
  split; · simp
  split; · simp
  split; · simp
  split
  · simp
  · simp
theorem Z64_bd : ∀ x ∈ Z64, 0 ≤ x ∧ x ≤ 255 := by intro x hx; rw [List.eq_of_mem_replicate hx]; omega

theorem Z64_len : Z64.length = 64 := by simp [Z64]
theorem Z64_eq : Z64 = List.replicate 64 0 := rfl
theorem make_Z64 (W : World) : (Instr.makeSlice 22 (.int .i64 64) (.int .i64 64)).run Tryd.prog W = .ok (.slice (some ⟨W.heap.size, 0, none⟩) 64 64) (W.alloc (.cells (bys Z64).toArray 5)) := make_bytes 64 (by omega) W
attribute [irreducible] Z64
theorem stP_part {S : DS} (h : S.Ok) (f m i : Nat) (hi : i < m) (hm : f + m ≤ S.sure.length) : ((stP S f m).drop (64 * i)).take 64 = S.now (f + i) := by
  have e := flat_drop_take 64 ((List.range m).map fun i => S.now (f + i)) (fun s hs => by
    obtain ⟨j, hj, rfl⟩ := List.mem_map.1 hs
    exact (DS.now_sec h (by have := List.mem_range.1 hj; omega)).1) i (by simpa using hi)
  rw [Nat.mul_comm] at e
  unfold stP
  rw [e]
  simp

set_option maxHeartbeats 4000000 in
theorem wipe_any (B p gs : Nat) (wv : Value) (S : DS) (f m : Nat) (w : World) (h : IsDrum B w p gs wv S) (hf : f + m ≤ S.sure.length) (hlen : S.waits.length + m ≤ 1000000000) :
    Calls Tryd.prog 61 #[.pointer (some ⟨p, 0, none⟩), .int .i64 (f : Int), .int .i64 (m : Int)] w fun e w' => e = .returned (.int .i64 (wipeR S f m).1) ∧ (∃ wv', IsDrum B w' p gs wv' (wipeR S f m).2) ∧ Kept B dts w w' := by
  have hBw : B ≤ w.heap.size := by have := h.lt (.inl rfl); omega
  have hsc := scbytes_any B p gs wv S f m w h hf (by omega)
  obtain ⟨R, hR⟩ : ∃ R, wipeR S f m = R := ⟨_, rfl⟩
  rw [hR]
  unfold wipeR at hR
  have hm2 : m ≤ 8192 := by have := h.ok.n2; omega
  have hf2 : f ≤ 8192 := by have := h.ok.n2; omega
  cases hof : S.off with
  | true =>
    rw [if_pos hof] at hR
    rw [hof, if_pos rfl, if_pos rfl] at hsc
    have HR := Lib.hid hR
    have H := Lib.hid h
    clear hR h hof
    go_enter Tryd.func61, Tryd.ntmps61
    go_wp2_with fail
    with_reducible refine hsc.mono ?_
    rintro e w1 ⟨v, rfl, ho, hB1⟩
    have HB1 := Lib.hid hB1
    clear ho hB1 hsc
    go_wp2_with fail
    go_ret
    rw [← HR.out]
    exact ⟨rfl, ⟨wv, H.out.fr (Fr.of_below HB1.out) (fun k hk h => by have := (H.out.lt hk).2; omega)⟩, Kept.of_below HB1.out hBw⟩
  | false =>
    rw [if_neg (by rw [hof]; simp)] at hR
    rw [hof, if_neg (by simp), if_neg (by simp)] at hsc
    have hsl := stP_len h.ok f m hf
    have hsb := stP_bd h.ok f m hf
    have hpart : ∀ i, i < m → ((stP S f m).drop (64 * i)).take 64 = S.now (f + i) := fun i hi => stP_part h.ok f m i hi hf
    obtain ⟨bs, hbs⟩ : ∃ bs, stP S f m = bs := ⟨_, rfl⟩
    rw [hbs] at hsc hsl hsb hpart
    obtain ⟨Z, hZ⟩ : ∃ Z, (bys Z64).toArray = Z := ⟨_, rfl⟩
    have hmk : ∀ W : World, (Instr.makeSlice 22 (.int .i64 64) (.int .i64 64)).run Tryd.prog W = .ok (.slice (some ⟨W.heap.size, 0, none⟩) 64 64) (W.alloc (.cells Z 5)) := fun W => by
      rw [← hZ]
      exact make_Z64 W
    have HR := Lib.hid hR
    have H := Lib.hid h
    have HSL := Lib.hid hsl
    have HSB := Lib.hid hsb
    have HP := Lib.hid hpart
    have HZ := Lib.hid hZ
    clear hR h hof hsl hsb hpart hbs hZ
    go_enter Tryd.func61, Tryd.ntmps61
    go_wp2_with fail
    with_reducible refine hsc.mono ?_
    rintro e w1 ⟨v, rfl, ho, hB1⟩
    obtain ⟨A1, c1, rfl⟩ := ho.form
    obtain ⟨N, hN⟩ : ∃ N, bs.length = N := ⟨_, rfl⟩
    have hNm : N = 64 * m := by rw [← hN]; exact HSL.out
    rw [hN] at ho ⊢
    have hd1 := H.out.fr (Fr.of_below hB1) (fun k hk h => by have := (H.out.lt hk).2; omega)
    have K1 : Kept B dts w w1 := Kept.of_below hB1 hBw
    have HO := Lib.hid ho
    have HN := Lib.hid hN
    have HNm := Lib.hid hNm
    have HK1 := Lib.hid K1
    have HD1 := Lib.hid hd1
    have hB1s : w.heap.size ≤ w1.heap.size := hB1.size
    clear hsc ho hB1 hd1 K1 hN hNm
    go_wp2_with fail
    go_loopg [9, 23] m (fun k a t wr => ∃ (i : Nat) (T : DS) (any : Bool), a = .bool any ∧ t = .int .i64 (i : Int) ∧ i ≤ m ∧ k = m - i ∧ (∃ wv', IsDrum B wr p gs wv' T) ∧ T.waits.length ≤ S.waits.length + i ∧ T.sure.length = S.sure.length ∧ Kept B dts w1 wr ∧ wipeGo S f (m - i) i T any = R)
    case atStart => exact ⟨0, S, false, rfl, rfl, Nat.zero_le _, rfl, ⟨wv, HD1.out⟩, by omega, rfl, Kept.refl _ _ _, by rw [Nat.sub_zero]; exact HR.out⟩
    case round =>
      obtain ⟨i, T, any, rfl, rfl, hi, hk, ⟨wv', hd⟩, hTw, hTs, hK, hgo⟩ := hrel
      by_cases hlt : i < m
      · rw [show m - i = (m - (i + 1)) + 1 by omega] at hgo
        rw [wipeGo_succ] at hgo
        have hor := hK.own8 HO.out (by decide)
        obtain ⟨L2, hL2⟩ : ∃ L2, bs.length = L2 := ⟨_, rfl⟩
        rw [show N = bs.length from HN.out.symm] at hor
        obtain ⟨A9, c9, e9, hy9, _, hc9⟩ := hor.byt HSB.out
        simp only [Value.slice.injEq] at e9
        obtain ⟨rfl, _, rfl⟩ := e9
        obtain ⟨A2, hsl, hy2, _, _⟩ := part8 hy9 c1 (64 * i) (64 * (i + 1)) (64 * (i + 1)) (some (.int .i64 ((i : Int) * 64))) (some (.int .i64 (((i : Int) + 1) * 64))) (some (.int .i64 (((i : Int) + 1) * 64))) (by omega) (by rw [HN.out, HNm.out]; omega) (Nat.le_refl _) (by have := HNm.out; have := HN.out; omega) (.inr ⟨_, rfl, by omega⟩) (.inr ⟨_, rfl, by omega⟩) (.inr ⟨⟨_, rfl, by omega⟩, by simp⟩)
        rw [HN.out, show 64 * (i + 1) - 64 * i = 64 by omega] at hsl
        rw [show 64 * (i + 1) - 64 * i = 64 by omega, HP.out i hlt] at hy2
        have hnl : (S.now (f + i)).length = 64 := (DS.now_sec H.out.ok (by omega)).1
        have hiz := iszero_any A2 64 (S.now (f + i)) wr hy2 (by omega)
        rw [hnl] at hiz
        have HD := Lib.hid hd
        have HK := Lib.hid hK
        have HGO := Lib.hid hgo
        clear hor hy9 hc9 hd hK hgo hy2 hnl hL2
        go_wp2_with fail
        with_reducible refine hiz.mono ?_
        rintro e w' ⟨rfl, hw⟩
        rw [hw]
        clear hw hiz
        cases hany : (S.now (f + i)).any (· != 0) with
        | false =>
          have hgo := HGO.out
          rw [hany, if_neg (by simp)] at hgo
          have HGO := Lib.hid hgo
          clear hgo hany
          simp only [Bool.not_false]
          go_wp2_with fail
          go_roundg (m - (i + 1))
          case measure => omega
          case rel => exact ⟨i + 1, T, any, rfl, by go_num, by omega, rfl, ⟨wv', HD.out⟩, by omega, hTs, HK.out, HGO.out⟩
        | true =>
          have hgo := HGO.out
          rw [hany, if_pos rfl] at hgo
          have HGO := Lib.hid hgo
          clear hgo hany
          simp only [Bool.not_true]
          have hda := HD.out.fr (Fr.of_below ((Below.refl _ wr).alloc (Nat.le_refl _) (.cells Z 5))) (fun k hk h => by have := (HD.out.lt hk).2; omega)
          have hbz : Byt (wr.alloc (.cells Z 5)) (some ⟨wr.heap.size, 0, none⟩) Z64 := by
            rw [← HZ.out]
            exact (Blk.new wr 5 (bys Z64).toArray).byt Z64_bd
          have hwr := write_any B p gs wv' T ((f + i : Nat) : Int) (some ⟨wr.heap.size, 0, none⟩) 64 Z64 _ hda hbz (fun a e => by cases e; have := (HD.out.lt (.inl rfl)).2; simp; omega) (by omega) (by have := HD.out.lt (.inl rfl); simp; omega)
          have hwl := DS.write_len T ((f + i : Nat) : Int) Z64
          obtain ⟨E, hE⟩ : ∃ E, T.write ((f + i : Nat) : Int) Z64 = E := ⟨_, rfl⟩
          rw [hE] at hwr hwl
          rw [Int.natCast_add] at hwr
          have hgo := HGO.out
          rw [hE] at hgo
          have HGO := Lib.hid hgo
          have HDA := Lib.hid hda
          have hzl := Z64_len
          rw [hzl] at hwr
          clear hgo hda hbz hE hzl
          go_wp2_with fail
          with_reducible refine hwr.mono ?_
          rintro e w4 ⟨rfl, ⟨wv4, hd4, _⟩, hf4⟩
          have K4 : Kept B dts w1 w4 := HK.out.trans ((Kept.of_below ((Below.refl _ wr).alloc (Nat.le_refl _) (.cells Z 5)) (by have := HD.out.lt (.inl rfl); omega)).trans (Kept.of_drum HDA.out hf4))
          obtain ⟨e4, T4⟩ := E
          simp only at hd4 hwl HGO ⊢
          have HK4 := Lib.hid K4
          have HD4 := Lib.hid hd4
          clear hwr hf4 hd4 K4
          by_cases he : e4 = 0
          · subst he
            have hgo := HGO.out
            rw [if_pos rfl] at hgo
            have HGO := Lib.hid hgo
            clear hgo
            go_wp2_with fail
            go_roundg (m - (i + 1))
            case measure => omega
            case rel => exact ⟨i + 1, T4, true, rfl, by go_num, by omega, rfl, ⟨wv4, HD4.out⟩, by omega, by omega, HK4.out, HGO.out⟩
          · have heI : (e4 != 0) = true := by simpa using he
            have hgo := HGO.out
            rw [if_neg he] at hgo
            have HGO := Lib.hid hgo
            clear hgo he
            go_wp2_with fail
            go_ret
            rw [← HGO.out]
            exact ⟨rfl, ⟨wv4, HD4.out⟩, HK1.out.trans HK4.out⟩
      · obtain rfl : i = m := by omega
        rw [Nat.sub_self] at hgo
        rw [wipeGo_zero] at hgo
        have HD := Lib.hid hd
        have HK := Lib.hid hK
        clear hd hK
        cases any with
        | false =>
          rw [if_neg (by simp)] at hgo
          have HGO := Lib.hid hgo
          clear hgo
          go_wp2_with fail
          go_ret
          rw [← HGO.out]
          exact ⟨rfl, ⟨wv', HD.out⟩, HK1.out.trans HK.out⟩
        | true =>
          rw [if_pos rfl] at hgo
          have hsy := sync_any B p gs wv' T wr HD.out (by omega)
          rw [hgo] at hsy
          clear hgo
          go_wp2_with fail
          with_reducible refine hsy.mono ?_
          rintro e w4 ⟨rfl, ⟨wv4, hd4, _⟩, hf4⟩
          have K4 : Kept B dts w1 w4 := HK.out.trans (Kept.of_drum HD.out hf4)
          have HK4 := Lib.hid K4
          have HD4 := Lib.hid hd4
          clear hsy hf4 hd4 K4
          go_wp2_with fail
          go_ret
          exact ⟨rfl, ⟨wv4, HD4.out⟩, HK1.out.trans HK4.out⟩

end Go.Proofs.YtohadeijmmmcdaaDoor
