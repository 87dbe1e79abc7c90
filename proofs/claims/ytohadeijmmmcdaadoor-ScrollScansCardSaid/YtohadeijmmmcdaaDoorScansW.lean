/-
  ScrollScans: the walk.
-/
import Derived.Test.YtohadeijmmmcdaaDoorRScan
import Derived.Test.YtohadeijmmmcdaaDoorLawS
import Derived.Test.YtohadeijmmmcdaaDoorOpenD
namespace Go.Proofs.YtohadeijmmmcdaaDoor
open Go.RowKit
set_option maxRecDepth 100000

theorem scanP_len (t : Nat) : ∀ (k : Nat) (b : List Int) (n : Nat), (scanP t k b n).1.length ≤ k
  | 0, b, n => by simp [scanP]
  | k + 1, b, n => by
    simp only [scanP]
    cases readP b with
    | none => simp
    | some r =>
      simp only
      split
      · have := scanP_len t k (b.drop (64 * r.size)) (n + 1)
        simp only [List.length_cons]
        omega
      · simp

/-! ### A drum that was written through -/
/-- Sector j of bytes. -/
def secB (all : List Int) (j : Nat) : List Int := (all.drop (64 * j)).take 64
/-- The first k sectors of a new drum of n written. -/
def wrS (n : Nat) (all : List Int) (k : Nat) : DS := { DS.new n with waits := (List.range k).map fun j => (j, secB all j) }
theorem wrS_good (n : Nat) (all : List Int) (k : Nat) : (wrS n all k).Good := ⟨rfl, rfl⟩
theorem wrS_len (n : Nat) (all : List Int) (k : Nat) : (wrS n all k).sure.length = n ∧ (wrS n all k).waits.length = k := by simp [wrS, DS.new]
theorem wrS_zero (n : Nat) (all : List Int) : wrS n all 0 = DS.new n := rfl
theorem secB_len {all : List Int} {n j : Nat} (h : all.length = 64 * n) (hj : j < n) : (secB all j).length = 64 := by
  unfold secB
  rw [List.length_take, List.length_drop, h]
  omega
theorem wrS_succ {n : Nat} {all : List Int} (h : all.length = 64 * n) {k : Nat} (hk : k < n) : (wrS n all k).write (k : Int) (secB all k) = (0, wrS n all (k + 1)) := by
  rw [(wrS n all k).write_good (wrS_good _ _ _) (by rw [(wrS_len n all k).1]; exact hk) (secB_len h hk)]
  simp [wrS, List.range_succ]
theorem wrS_now {n : Nat} {all : List Int} (j : Nat) : ∀ k, j < k → (wrS n all k).now j = secB all j
  | 0, h => by omega
  | k + 1, h => by
    have e : wrS n all (k + 1) = { wrS n all k with waits := (wrS n all k).waits ++ [(k, secB all k)] } := by simp [wrS, List.range_succ]
    rw [e, now_snoc]
    by_cases hk : k = j
    · rw [if_pos hk, hk]
    · rw [if_neg hk]
      exact wrS_now j k (by omega)
theorem wrS_st {n : Nat} {all : List Int} (f : Nat) : ∀ m, f + m ≤ n → stP (wrS n all n) f m = (all.drop (64 * f)).take (64 * m)
  | 0, _ => by simp [stP]
  | m + 1, h => by
    rw [stP_succ, wrS_st f m (by omega), wrS_now (f + m) n (by omega), Nat.mul_succ, List.take_add, List.drop_drop]
    unfold secB
    rw [show 64 * f + 64 * m = 64 * (f + m) by omega]

theorem peq35s (q : Nat) (W : World) : (binOp .eql 35 (.pointer (some ⟨q, 0, none⟩)) (.pointer none)).run Tryd.prog W = .ok (.bool false) W := by rfl

theorem write_at {w W : World} {B p gs : Nat} {S : DS} (h : At w B p gs S W) (k : Int) (A : Option Addr) (c : Nat) (b : List Int) (hb : Byt W A b) (hA : ∀ a, A = some a → a.block ≠ p) (hlen : S.waits.length ≤ 1000000000) :
    Calls Tryd.prog 23 #[.pointer (some ⟨p, 0, none⟩), .int .i64 k, .slice A b.length c] W fun e W' => e = .returned (.int .i64 (S.write k b).1) ∧ At w B p gs (S.write k b).2 W' ∧ Kept B dts W W' := by
  obtain ⟨wv, hd⟩ := h.drum
  refine (write_any B p gs wv S k A c b W hd hb hA hlen h.size).mono ?_
  rintro e W' ⟨rfl, ⟨wv', hd', _⟩, hf⟩
  have hk := Kept.of_drum hd hf
  exact ⟨rfl, h.kept hk ⟨_, hd'⟩, hk⟩
theorem scan_at {w W : World} {B p gs : Nat} {S : DS} (h : At w B p gs S W) (f m t : Int) (hm : -9223372036854775808 ≤ m ∧ m ≤ 9223372036854775807) (hlen : S.waits.length ≤ 1000000000) :
    Calls Tryd.prog 21 #[.pointer (some ⟨p, 0, none⟩), .int .i64 f, .int .i64 m, .int .i64 t] W fun e W' => ScanPost W.heap.size (scanR S f m t) e W' ∧ At w B p gs S W' ∧ Below W.heap.size W W' := by
  obtain ⟨wv, hd⟩ := h.drum
  refine (scan_any B p gs wv S f m t hm W hd hlen h.glob).mono ?_
  rintro e W' ⟨hp, hb⟩
  exact ⟨hp, h.after hb, hb⟩
theorem peek_at {w W : World} {B p gs : Nat} {S : DS} (h : At w B p gs S W) (f m : Int) (hm : -9223372036854775808 ≤ m ∧ m ≤ 9223372036854775807) (hlen : S.waits.length ≤ 1000000000) :
    Calls Tryd.prog 24 #[.pointer (some ⟨p, 0, none⟩), .int .i64 f, .int .i64 m] W fun e W' => PeekPost W.heap.size (peekP S f m) e W' ∧ At w B p gs S W' ∧ Below W.heap.size W W' := by
  obtain ⟨wv, hd⟩ := h.drum
  refine (peek_any B p gs wv S f m hm W hd hlen h.glob).mono ?_
  rintro e W' ⟨hp, hb⟩
  exact ⟨hp, h.after hb, hb⟩
/-- The same with just what is turned. -/
theorem fail_fr {w W : World} {B p gs : Nat} {S : DS} (h : At w B p gs S W) :
    Calls Tryd.prog 27 #[.pointer (some ⟨p, 0, none⟩)] W fun e W' => e = .returned (.tuple #[]) ∧ At w B p gs { S with off := true } W' ∧ Kept B dts W W' ∧ Fr (fun k => k = p) W W' ∧ ∃ cs, Blk W p 108 cs := by
  obtain ⟨wv, hd⟩ := h.drum
  refine (fail_any p _ wv S.fuse S.off W hd.st).mono ?_
  rintro e W' ⟨rfl, hst, hf⟩
  have hk : Kept B dts W W' := Kept.of_fr hf h.size (fun k hk e => by have := hd.b1; omega) (fun k t cs e hb => by subst e; rw [(hb.inj hd.st).1]; simp [dts])
  exact ⟨rfl, h.kept hk ⟨wv, ⟨hd.ok.n1, hd.ok.n2, hd.ok.sure, hd.ok.waits, hd.ok.f0, hd.ok.f1⟩, hd.b1, hd.b2, hst, hd.sure.fr hf (fun e => hd.ne1 e.symm), own_fr hd.waits hf (fun k hk e => hd.ne2 (e ▸ hk))⟩, hk, hf, _, hd.st⟩

theorem within_or (f m : Int) : (decide (0 ≤ f) = false ∨ (decide (0 ≤ f) = true ∧ decide (0 ≤ m) = false) ∨ (decide (0 ≤ f) = true ∧ decide (0 ≤ m) = true ∧ decide (f ≤ 20) = false) ∨ (decide (0 ≤ f) = true ∧ decide (0 ≤ m) = true ∧ decide (f ≤ 20) = true ∧ decide (m ≤ 20 - f) = false)) ∨
    (0 ≤ f ∧ 0 ≤ m ∧ f ≤ 20 ∧ m ≤ 20 - f) := by
  simp only [decide_eq_true_eq, decide_eq_false_iff_not]
  omega
theorem turn_or (t : Int) : decide (0 ≤ t) = false ∨ (decide (0 ≤ t) = true ∧ decide (t ≤ 1099511627776) = false) ∨ (decide (0 ≤ t) = true ∧ decide (t ≤ 1099511627776) = true ∧ (0 ≤ t ∧ t ≤ 1099511627776)) := by
  simp only [decide_eq_true_eq, decide_eq_false_iff_not]
  omega
theorem strP_out {f m : Int} (h : decide (0 ≤ f) = false ∨ (decide (0 ≤ f) = true ∧ decide (0 ≤ m) = false) ∨ (decide (0 ≤ f) = true ∧ decide (0 ≤ m) = true ∧ decide (f ≤ 20) = false) ∨ (decide (0 ≤ f) = true ∧ decide (0 ≤ m) = true ∧ decide (f ≤ 20) = true ∧ decide (m ≤ 20 - f) = false)) : strP 20 f m = false := by
  simp only [decide_eq_true_eq, decide_eq_false_iff_not] at h
  cases e : strP 20 f m with
  | false => rfl
  | true =>
    have := strP_in e
    omega

section
theorem aps223s (xs : Array Value) (t : TypeId) : Builtin.append_ #[22, 3] t xs = APs #[22, 3] t xs := rfl
attribute [local go_sem ↓] apt22_of aps223s sle_of ld49 st49 al49 bd49
attribute [local go_sem] al49_new st49_new

set_option maxHeartbeats 16000000 in
theorem scans_law (A0 : Option Addr) (c0 : Nat) (b : List Int) (f m t : Int) (w : World) (hb : BytN w A0 c0 b) (hm : b.length ≤ maxLen) (hf : -9223372036854775808 ≤ f ∧ f ≤ 9223372036854775807) (hmm : -9223372036854775808 ≤ m ∧ m ≤ 9223372036854775807) (ht : -9223372036854775808 ≤ t ∧ t ≤ 9223372036854775807) (hg : Glob w) :
    Calls Tryd.prog 6 #[.slice A0 b.length c0, .int .i64 f, .int .i64 m, .int .i64 t] w fun e w' => e = .returned (.bool true) ∧ Below w.heap.size w w' := by
  unfold maxLen at hm
  obtain ⟨n, hn⟩ : ∃ n, b.length = n := ⟨_, rfl⟩
  rw [hn] at hm ⊢
  have HB := Lib.hid hb
  have HN := Lib.hid hn
  have HG := Lib.hid hg
  clear hb hn hg
  by_cases hbig : 1280 < n
  · have hbI : (1280 : Int) < (n : Int) := by omega
    go_enter Tryd.func6, Tryd.ntmps6
    go_wp2_with fail
    with_reducible refine (awake13 w HG.out).mono ?_
    rintro e w' ⟨rfl, hb⟩
    have HB := Lib.hid hb
    clear hb
    go_wp2_with fail
    go_ret
    exact ⟨rfl, HB.out⟩
  have hbI : (n : Int) ≤ 1280 := by omega
  have f3 := new_drum 20 w (by omega) (by omega)
  rw [show ((20 : Nat) : Int) = 20 from rfl] at f3
  go_enter Tryd.func6, Tryd.ntmps6
  go_wp2_with fail
  with_reducible refine f3.mono ?_
  rintro e w3 ⟨rfl, d3, c3⟩
  have at3 := At.new HG.out HG.out.size (Below.refl _ _) 20 d3 c3
  have pq := peq35s (w.heap.size + 1)
  -- the bytes
  have h0 : Own8 w3.heap.size (w3.alloc (.cells #[] 5)) (.slice (some ⟨w3.heap.size, 0, none⟩) 0 0) [] := own_nul w3 _ _ (Nat.le_refl _)
  have b3a : Below w3.heap.size w3 (w3.alloc (.cells #[] 5)) := (Below.refl _ w3).alloc (Nat.le_refl _) _
  obtain ⟨v4, w4, hap4, o4, f4, _⟩ := app8 (ty := 22) (c := c0) h0 ((HB.out.byt.below c3).below b3a) (by rw [HN.out]; simp; omega) (by simp) HB.out.nil_
  have b4 : Below w3.heap.size w3 w4 := b3a.trans (f4.below (by simp) (fun k hk e => by have := (h0.lt e).1; omega))
  rw [List.nil_append] at o4
  obtain ⟨A4, c4, rfl⟩ := o4.form
  obtain ⟨Z, hZ⟩ : ∃ Z, 1280 - n = Z := ⟨_, rfl⟩
  obtain ⟨v5, w5, hap5, o5, f5, _⟩ := app8_zeros (ty := 22) Z o4 (by rw [HN.out]; omega) b4.size
  have b5 : Below w3.heap.size w3 w5 := b4.trans (f5.below b4.size (fun k hk e => by have := (o4.lt e).1; omega))
  obtain ⟨all, hall⟩ : ∃ all, b ++ List.replicate Z 0 = all := ⟨_, rfl⟩
  have hal : all.length = 1280 := by rw [← hall, List.length_append, HN.out, List.length_replicate]; omega
  have hab : ∀ x ∈ all, 0 ≤ x ∧ x ≤ 255 := by
    rw [← hall]
    intro x hx
    rcases List.mem_append.1 hx with h | h
    · exact HB.out.byt.bd x h
    · rw [List.eq_of_mem_replicate h]; omega
  rw [hall] at o5
  obtain ⟨A5, c5, rfl⟩ := o5.form
  rw [HN.out] at hap4 hap5
  rw [hal] at o5 hap5
  have hZI : (1280 : Int) - (n : Int) = (Z : Int) := by omega
  have at5 := at3.after b5
  have HAL := Lib.hid hal
  have HAB := Lib.hid hab
  have HO5 := Lib.hid o5
  have HAT := Lib.hid at5
  clear f3 d3 at3 h0 b3a o4 f4 b4 f5 o5 b5 hall hal hab at5 hZ
  have hs3 : w.heap.size ≤ w3.heap.size := c3.size
  clear c3
  go_wp2_with fail
  clear hap4 hap5 pq
  go_loopg [11] 20 (fun k t wr => ∃ (i : Nat), i + k = 20 ∧ t = .int .i64 (i : Int) ∧ At w w.heap.size (w.heap.size + 1) w.heap.size (wrS 20 all i) wr ∧ Own8 w3.heap.size wr (.slice A5 1280 c5) all)
  case atStart => exact ⟨0, by omega, rfl, HAT.out, HO5.out⟩
  case round =>
    clear HAT HO5
    obtain ⟨i, hi, rfl, hat, ho⟩ := hrel
    by_cases hi20 : i < 20
    · have hiI : (i : Int) < 20 := by omega
      obtain ⟨A5', c5', e5, y5, _, k5⟩ := ho.byt HAB.out
      rw [HAL.out] at e5 k5
      simp only [Value.slice.injEq, true_and] at e5
      obtain ⟨rfl, rfl⟩ := e5
      obtain ⟨A6, hsl, y6, hb6, _⟩ := part8u y5 c5 (64 * i) (64 * i + 64) (some (.int .i64 (64 * (i : Int)))) (some (.int .i64 (64 * (i : Int) + 64))) (by omega) (by rw [HAL.out]; omega) (by rw [HAL.out]; exact k5) (.inr ⟨_, _, rfl, by omega⟩) (.inr ⟨_, _, rfl, by omega⟩)
      rw [HAL.out, Nat.add_sub_cancel_left] at hsl
      rw [Nat.add_sub_cancel_left] at y6
      have hsl1 := hsl wr
      have hlen : (wrS 20 all i).waits.length ≤ 1000000000 := by rw [(wrS_len 20 all i).2]; omega
      obtain ⟨wv, hd⟩ := hat.drum
      have hne : ∀ a, A6 = some a → a.block ≠ w.heap.size + 1 := fun a ha e => by
        obtain ⟨a', e1, e2⟩ := hb6 a ha
        refine own_ne ho hd.st (by decide) ?_
        rw [e1]
        show (some a').map Addr.block = _
        simp [← e2, e]
      have hw := write_at hat (i : Int) A6 (c5 - 64 * i) (secB all i) y6 hne hlen
      rw [wrS_succ (HAL.out.trans rfl) hi20, secB_len (n := 20) HAL.out hi20] at hw
      have HW := Lib.hid hw
      have HO := Lib.hid ho
      clear hsl y6 y5 hb6 hlen hd hne hw hat ho
      go_wp2_with fail
      with_reducible refine HW.out.mono ?_
      rintro e w6 ⟨rfl, hat2, hk⟩
      have HAT2 := Lib.hid hat2
      have HO2 := Lib.hid (hk.own8 HO.out (by decide))
      clear hat2 hk
      go_wp2_with fail
      go_roundg (20 - (i + 1))
      case measure => omega
      case rel => exact ⟨i + 1, by omega, by go_num, HAT2.out, HO2.out⟩
    · obtain rfl : i = 20 := by omega
      have hiI : ¬ (((20 : Nat) : Int) < 20) := by omega
      obtain ⟨S, hS⟩ : ∃ S, wrS 20 all 20 = S := ⟨_, rfl⟩
      rw [hS] at hat
      have hSg : S.Good := hS ▸ wrS_good _ _ _
      have hSl : S.sure.length = 20 := hS ▸ (wrS_len 20 all 20).1
      have hSw : S.waits.length = 20 := hS ▸ (wrS_len 20 all 20).2
      have hst : ∀ f m : Nat, f + m ≤ 20 → stP S f m = (all.drop (64 * f)).take (64 * m) := fun f m h => by rw [← hS]; exact wrS_st f m h
      have hsc := scan_at hat f m t hmm (by omega)
      have HST := Lib.hid hst
      have HSG := Lib.hid hSg
      have HSL := Lib.hid hSl
      have HSW := Lib.hid hSw
      have HO := Lib.hid ho
      have HSC := Lib.hid hsc
      clear hS hSg hSl hSw hst hsc hat ho hi
      go_wp2_with fail
      with_reducible refine HSC.out.mono ?_
      rintro e w6 ⟨⟨v6, rfl, o6⟩, at6, b6⟩
      have hpk := peek_at at6 f m hmm (by rw [HSW.out]; omega)
      have ho6 := HO.out.fr (Fr.of_below b6) (fun k hk e => by have := (HO.out.lt hk).2; omega)
      rcases within_or f m with hout | hin
      · have hs0 : strP S.sure.length f m = false := by rw [HSL.out]; exact strP_out hout
        have hR : scanR S f m t = ([], 0, 1) := by unfold scanR; rw [if_neg (by rw [hs0]; rintro ⟨h, _⟩; cases h)]
        have hP : peekP S f m = none := by unfold peekP; rw [if_neg (by rw [hs0]; simp)]
        rw [hR] at o6 ⊢
        rw [hP] at hpk
        obtain ⟨A6, c6, rfl⟩ := o6.form
        have AT6 := Lib.hid at6
        have HPK := Lib.hid hpk
        have HO6 := Lib.hid ho6
        clear hs0 hR hP o6 at6 b6 hpk ho6 HSC
        go_wp2_with fail
        with_reducible refine HPK.out.mono ?_
        rintro e w7 ⟨rfl, at7, b7⟩
        have haw := awake13 w7 at7.glob
        have hb7 := at7.below
        have AT7 := Lib.hid hb7
        have HAW := Lib.hid haw
        clear at7 b7 haw hb7 HPK
        rcases hout with h1 | ⟨h1, h2⟩ | ⟨h1, h2, h3⟩ | ⟨h1, h2, h3, h4⟩
        all_goals
          try have g1 : 0 ≤ f := of_decide_eq_true h1
          try have g3 : f ≤ 20 := of_decide_eq_true h3
          go_wp2_with fail
          with_reducible refine HAW.out.mono ?_
          rintro e w8 ⟨rfl, b8⟩
          have B8 := Lib.hid (AT7.out.trans (b8.mono AT7.out.size))
          clear b8
          go_wp2_with fail
          go_ret
          exact ⟨rfl, B8.out⟩
      · obtain ⟨hf0, hm0, hf20, hm20⟩ := hin
        obtain ⟨F, rfl⟩ : ∃ F : Nat, f = F := ⟨f.toNat, by omega⟩
        obtain ⟨M, rfl⟩ : ∃ M : Nat, m = M := ⟨m.toNat, by omega⟩
        have hFM : F + M ≤ 20 := by omega
        obtain ⟨X, hX⟩ : ∃ X, (all.drop (64 * F)).take (64 * M) = X := ⟨_, rfl⟩
        have hXS : stP S F M = X := (HST.out F M hFM).trans hX
        have hXl : X.length = 64 * M := by rw [← hX, List.length_take, List.length_drop, HAL.out]; omega
        have hXb : ∀ x ∈ X, 0 ≤ x ∧ x ≤ 255 := fun x hx => HAB.out x (List.mem_of_mem_drop (List.mem_of_mem_take (hX ▸ hx)))
        have hstr : strP S.sure.length (F : Int) (M : Int) = true := by
          unfold strP
          rw [HSL.out]
          simp only [Bool.and_eq_true, decide_eq_true_eq]
          omega
        have hP : peekP S (F : Int) (M : Int) = match readP X with | none => none | some r => if r.n = 0 then some (r.t, r.b) else none := by
          unfold peekP
          rw [if_pos hstr, if_neg (by rw [HSG.out.1]; simp), Int.toNat_natCast, Int.toNat_natCast, hXS]
          cases readP X <;> rfl
        obtain ⟨RR, hRR⟩ : ∃ RR, (if t < 0 then (([] : List (List Int)), 0) else scanAll t.toNat X) = RR := ⟨_, rfl⟩
        have hR : scanR S (F : Int) (M : Int) t = if 0 ≤ t ∧ t ≤ 1099511627776 then (RR.1, RR.2, 0) else ([], 0, 1) := by
          unfold scanR
          by_cases htk : 0 ≤ t ∧ t ≤ 1099511627776
          · rw [if_pos htk, if_pos ⟨hstr, htk.1, htk.2⟩, if_neg (by rw [HSG.out.1]; simp), Int.toNat_natCast, Int.toNat_natCast, hXS, ← hRR, if_neg (by omega)]
          · rw [if_neg htk, if_neg (fun h => htk ⟨h.2.1, h.2.2⟩)]
        have hrs : ∀ (A7 : Option Addr) (c7 : Nat) (W : World), Byt W A7 X → X.length ≤ c7 → (∀ a, A7 = some a → a.block < W.heap.size) →
            Calls Tryd.prog 26 #[.slice A7 X.length c7, .int .i64 t] W fun e w'' => RScanPost W.heap.size A7 RR e w'' ∧ Below W.heap.size W w'' := fun A7 c7 W h1 h2 h3 => by
          by_cases htn : t < 0
          · rw [← hRR, if_pos htn]
            exact rscan_neg t htn A7 c7 X W h1 h2 (by rw [hXl]; omega)
          · rw [← hRR, if_neg htn]
            have := rscan_any t.toNat A7 c7 X W h1 h2 (by rw [hXl]; omega) h3
            rw [show ((t.toNat : Nat) : Int) = t by omega] at this
            exact this
        obtain ⟨A5', c5', e5, y5, hA5, k5⟩ := ho6.byt HAB.out
        rw [HAL.out] at e5 k5
        simp only [Value.slice.injEq, true_and] at e5
        obtain ⟨rfl, rfl⟩ := e5
        obtain ⟨A7, hsl, y7, hb7, _⟩ := part8u y5 c5 (64 * F) (64 * (F + M)) (some (.int .i64 (64 * (F : Int)))) (some (.int .i64 (64 * ((F : Int) + (M : Int))))) (by omega) (by rw [HAL.out]; omega) (by rw [HAL.out]; exact k5) (.inr ⟨_, _, rfl, by omega⟩) (.inr ⟨_, _, rfl, by omega⟩)
        rw [HAL.out, show 64 * (F + M) - 64 * F = 64 * M by omega] at hsl
        rw [show 64 * (F + M) - 64 * F = 64 * M by omega, hX] at y7
        obtain ⟨c7, hc7⟩ : ∃ c7, c5 - 64 * F = c7 := ⟨_, rfl⟩
        rw [hc7] at hsl
        have hMc : 64 * M ≤ c7 := by omega
        have hA7 : ∀ a, A7 = some a → a.block < w6.heap.size ∧ a.block ≠ w.heap.size + 1 := fun a ha => by
          obtain ⟨a', e1, e2⟩ := hb7 a ha
          have hk : (Value.slice A5 1280 c5).ownBlock = some a.block := by
            rw [e1]
            show (some a').map Addr.block = _
            simp [e2]
          obtain ⟨wv, hd⟩ := at6.drum
          exact ⟨(ho6.lt hk).2, fun e => own_ne ho6 hd.st (by decide) (e ▸ hk)⟩
        have hrd : ∀ W : World, Below w6.heap.size w6 W → Calls Tryd.prog 25 #[.slice A7 (64 * M) c7] W fun e w' => RReadPost w' A7 (readP X) e ∧ Below W.heap.size W w' := fun W hW => by
          have := rread_any A7 c7 X W (y7.below hW) (by rw [hXl]; exact hMc) (by rw [hXl]; omega)
          rw [hXl] at this
          exact this
        rw [hP] at hpk
        rw [hXl] at hrs
        have hdown : scanR { S with off := true } 0 20 0 = ([], 0, 21) := by
          unfold scanR
          rw [if_pos, if_pos rfl]
          refine ⟨?_, by omega, by omega⟩
          unfold strP
          simp only [HSL.out, Bool.and_eq_true, decide_eq_true_eq]
          omega
        have HDN := Lib.hid hdown
        have hRb : (∀ l ∈ RR.1, (∀ x ∈ l, 0 ≤ x ∧ x ≤ 255) ∧ l.length ≤ 1000000000) ∧ RR.1.length ≤ 1000000000 := by
          by_cases htn : t < 0
          · rw [← hRR, if_pos htn]
            exact ⟨fun l hl => (by cases hl), (by simp)⟩
          · rw [← hRR, if_neg htn]
            refine ⟨fun l hl => ?_, ?_⟩
            · obtain ⟨h1, h2⟩ := scanAll_bd hXb l hl
              exact ⟨h1, by rw [hXl] at h2; omega⟩
            · have := scanP_len t.toNat (X.length + 1) X 0
              unfold scanAll
              omega
        have HRB := Lib.hid hRb
        have HX := Lib.hid hX
        have HXB := Lib.hid hXb
        have HXL := Lib.hid hXl
        have HRD := Lib.hid hrd
        have HRS := Lib.hid hrs
        have HPK := Lib.hid hpk
        have HA7 := Lib.hid hA7
        have HY7 := Lib.hid y7
        have HSL7 := Lib.hid hsl
        have AT6 := Lib.hid at6
        have HMC := Lib.hid hMc
        have hF20 : (F : Int) ≤ 20 := by omega
        have hdm : decide ((M : Int) ≤ 20 - (F : Int)) = true := by simp; omega
        clear hX hXS hXb hXl hstr hP hRR hdown hRb hrs hrd hpk y5 k5 y7 hb7 hsl hc7 hA7 hA5 b6 at6 ho6 HSC hMc HO
        rcases turn_or t with ht0 | ⟨ht0, ht1⟩ | ⟨ht0, ht1, htk⟩
        focus
          rw [hR, if_neg (by simp at ht0; omega)] at o6
          rw [hR, if_neg (by simp at ht0; omega)]
          obtain ⟨A6, c6, rfl⟩ := o6.form
          clear hR o6
        rotate_left
        focus
          rw [hR, if_neg (by simp at ht1; omega)] at o6
          rw [hR, if_neg (by simp at ht1; omega)]
          obtain ⟨A6, c6, rfl⟩ := o6.form
          clear hR o6
        rotate_left
        focus
          rw [hR, if_pos htk] at o6
          rw [hR, if_pos htk]
          obtain ⟨A6, c6, rfl⟩ := o6.form
          obtain ⟨n6, hn6⟩ : ∃ n, RR.1.length = n := ⟨_, rfl⟩
          obtain ⟨U, hU⟩ : ∃ U, RR.2 = U := ⟨_, rfl⟩
          simp only [hn6, hU] at o6 ⊢
          have O6 := Lib.hid o6
          have HN6 := Lib.hid hn6
          have HU := Lib.hid hU
          clear hR o6 hn6 hU
        rotate_left
        all_goals
          go_wp2_with fail
          with_reducible refine HPK.out.mono ?_
          rintro e w7 ⟨hp, at7, b7⟩
          have HRD7 := Lib.hid (HRD.out w7 b7)
          have hsl7 := HSL7.out w7
          have AT7 := Lib.hid at7
          have B7 := Lib.hid b7
          clear at7 b7 HPK HRD HSL7
          rcases hX' : readP X with _ | r
          focus
            rw [hX'] at hp
            obtain rfl : e = .returned (.tuple #[.int .i64 0, .slice none 0 0, .bool false]) := hp
            have HXR := Lib.hid hX'
            clear hX'
            go_wp2_with fail
            with_reducible refine HRD7.out.mono ?_
            rintro e w8 ⟨hp, b8⟩
            rw [HXR.out] at hp
            obtain rfl : e = .returned (.tuple #[.agg (recL 0 0 0 (.slice none 0 0)).toArray, .bool false]) := hp
            have b9 := b8.alloc b8.size (.cells (recL 0 0 0 (.slice none 0 0)).toArray 49)
            have B9 := Lib.hid (B7.out.trans (b9.mono B7.out.size))
            have AT9 := Lib.hid (AT7.out.after b9)
            clear b8 b9
            go_upto_region 24 with fail
            clear HRD7 HXR B7 AT7
            generalize w8.alloc (.cells (recL 0 0 0 (.slice none 0 0)).toArray 49) = W9 at B9 AT9 ⊢
          rotate_left
          rcases Nat.eq_zero_or_pos r.n with hn0 | hn0
          focus
              rw [hX'] at hp
              simp only [hn0, if_true] at hp
              obtain ⟨v, rfl, op⟩ := hp
              obtain ⟨Ap, cp, rfl⟩ := op.form
              have hrb := readP_sub hX'
              have hrbb : ∀ x ∈ r.b, 0 ≤ x ∧ x ≤ 255 := fun x hx => HXB.out x (hrb.subset hx)
              have hrbl : r.b.length ≤ 1280 := by have := hrb.length_le; have := HXL.out; omega
              have HXR := Lib.hid hX'
              have HRBB := Lib.hid hrbb
              have OP := Lib.hid op
              obtain ⟨nb, hnb⟩ : ∃ n, r.b.length = n := ⟨_, rfl⟩
              rw [hnb] at hrbl OP ⊢
              have HNB := Lib.hid hnb
              clear hX' hrb hrbb op hnb
              go_wp2_with fail
              with_reducible refine HRD7.out.mono ?_
              rintro e w8 ⟨hp, b8⟩
              rw [HXR.out] at hp
              obtain ⟨B8, d8, rfl, p8⟩ := (hp : RReadPost w8 A7 (some r) e)
              rw [HNB.out]
              have b9 := b8.alloc b8.size (.cells (recL r.t r.n r.size (.slice B8 nb d8)).toArray 49)
              have hal8 := (Below.refl _ w8).alloc (Nat.le_refl _) (.cells (recL r.t r.n r.size (.slice B8 nb d8)).toArray 49)
              have hbk := Blk.new w8 49 (recL r.t r.n r.size (.slice B8 nb d8)).toArray
              have p9 := p8.below hal8
              obtain ⟨X8, hX8⟩ : ∃ X, w8.alloc (.cells (recL r.t r.n r.size (.slice B8 nb d8)).toArray 49) = X := ⟨_, rfl⟩
              rw [hX8] at b9 hbk p9
              obtain ⟨k0, k1, k2, k3⟩ := rec_parts hbk
              rw [hn0] at k1
              have op9 := OP.out.fr (Fr.of_below b9) (fun k hk e => by have := (OP.out.lt hk).2; omega)
              obtain ⟨Ap', cp', e9, y9, _, _⟩ := op9.byt HRBB.out
              rw [HNB.out] at e9
              simp only [Value.slice.injEq, true_and] at e9
              obtain ⟨rfl, rfl⟩ := e9
              have hby := bytes_any Ap B8 cp d8 r.b r.b X8 y9 p9.byt (by rw [HNB.out]; omega) (by rw [HNB.out]; omega)
              rw [HNB.out, decide_eq_true rfl] at hby
              have HBY := Lib.hid hby
              have B9' := Lib.hid (B7.out.trans (b9.mono B7.out.size))
              have AT9' := Lib.hid (AT7.out.after b9)
              have HX8 := Lib.hid hX8
              clear b8 b9 hal8 hbk p8 p9 op9 y9 hby hX8 k2 hn0
              go_upto_region 21 with fail
              rw [HX8.out]
              go_wp2_with fail
              with_reducible refine HBY.out.mono ?_
              rintro e w9 ⟨rfl, q9, rfl⟩
              have B9 := Lib.hid (below_drewN B9'.out q9)
              have AT9 := Lib.hid (AT9'.out.after (below_drewN (Below.refl _ X8) q9))
              go_upto_region 24 with fail
              clear HRD7 HXR B7 AT7 HBY HX8 k0 k1 k3 OP HRBB hrbl HNB B9' AT9'
              generalize World.drewN X8 q9 = W9 at B9 AT9 ⊢
          rotate_left
          focus
              rw [hX'] at hp
              simp only [show ¬ r.n = 0 by omega, if_false] at hp
              obtain rfl : e = .returned (.tuple #[.int .i64 0, .slice none 0 0, .bool false]) := hp
              have HXR := Lib.hid hX'
              clear hX'
              go_wp2_with fail
              with_reducible refine HRD7.out.mono ?_
              rintro e w8 ⟨hp, b8⟩
              rw [HXR.out] at hp
              obtain ⟨B8, d8, rfl, p8⟩ := (hp : RReadPost w8 A7 (some r) e)
              obtain ⟨nb, hnb⟩ : ∃ n, r.b.length = n := ⟨_, rfl⟩
              rw [hnb]
              have b9 := b8.alloc b8.size (.cells (recL r.t r.n r.size (.slice B8 nb d8)).toArray 49)
              have hbk := Blk.new w8 49 (recL r.t r.n r.size (.slice B8 nb d8)).toArray
              obtain ⟨X8, hX8⟩ : ∃ X, w8.alloc (.cells (recL r.t r.n r.size (.slice B8 nb d8)).toArray 49) = X := ⟨_, rfl⟩
              rw [hX8] at b9 hbk
              obtain ⟨k0, k1, k2, k3⟩ := rec_parts hbk
              have hn0b : (((r.n : Nat) : Int) == 0) = false := by simp; omega
              have B9 := Lib.hid (B7.out.trans (b9.mono B7.out.size))
              have AT9 := Lib.hid (AT7.out.after b9)
              have HX8 := Lib.hid hX8
              clear b8 b9 hbk p8 hX8 k2 k0 k3 hn0 hnb
              go_upto_region 21 with fail
              rw [HX8.out]
              go_upto_region 24 with fail
              clear HRD7 HXR B7 AT7 HX8 k1 hn0b
              generalize X8 = W9 at B9 AT9 ⊢
          rotate_left
          all_goals
            have hs24 := HRS.out A7 c7 W9 (HY7.out.below B9.out) HMC.out (fun a ha => Nat.lt_of_lt_of_le (HA7.out a ha).1 B9.out.size)
            have HS24 := Lib.hid hs24
            clear hs24 HRS HY7
            go_wp2_with fail
            with_reducible refine HS24.out.mono ?_
            rintro e w10 ⟨⟨v10, rfl, o10⟩, b10⟩
            obtain ⟨A10, c10, rfl⟩ := o10.form
            have at10 := AT9.out.after b10
            have HFL := Lib.hid (fail_fr at10)
            have O10 := Lib.hid o10
            have B10 := Lib.hid (B9.out.trans (b10.mono B9.out.size))
            clear o10 b10 at10 HS24 B9 AT9
            try simp only [HN6.out, HU.out]
            go_wp2_with fail
            with_reducible refine HFL.out.mono ?_
            rintro e w11 ⟨rfl, at11, k11, f11, cs, hbd⟩
            have hs := scan_at at11 0 20 0 (by omega) (by show S.waits.length ≤ _; rw [HSW.out]; omega)
            rw [HDN.out] at hs
            have HS := Lib.hid hs
            clear at11 hs HFL
            first
              | (have hh := HN6
                 have o10b := O10.out.fr f11 (fun k hk e => O10.out.ne hbd (by decide) (e ▸ hk)) (fun k hk e => by
                   obtain ⟨a, e1, e2⟩ := hk
                   exact (HA7.out a e1).2 (e2.trans e))
                 have o6b := k11.ownT (O6.out.below B10.out) (by decide) (by decide)
                 have O10B := Lib.hid o10b
                 have O6B := Lib.hid o6b
                 have HK11 := Lib.hid k11.size
                 clear o10b o6b hh k11 f11 hbd O10 O6
                 go_wp2_with fail
                 with_reducible refine HS.out.mono ?_
                 rintro e w12 ⟨⟨v12, rfl, _⟩, at12, b12⟩
                 obtain ⟨xs6, t6⟩ := (O6B.out.below b12).txs (fun l hl => (HRB.out.1 l hl).1)
                 obtain ⟨xs10, t10⟩ := (O10B.out.below (fun k hk => by
                   obtain ⟨a, e1, e2⟩ := hk
                   have h1 := (HA7.out a e1).1
                   have h2 := B10.out.size
                   have h3 := HK11.out
                   omega) b12).txs
                 have hsm := rsame_any A6 c6 A10 c10 xs6 xs10 RR.1 RR.1 w12 t6 t10 HRB.out.2 HRB.out.2 (fun l hl => (HRB.out.1 l hl).2) (fun l hl => (HRB.out.1 l hl).2)
                 rw [HN6.out, decide_eq_true rfl] at hsm
                 have AT12 := Lib.hid at12
                 have HSM := Lib.hid hsm
                 clear t6 t10 hsm at12 b12 HS O6B O10B
                 go_wp2_with fail
                 with_reducible refine HSM.out.mono ?_
                 rintro e w13 ⟨rfl, q13, rfl⟩
                 have at13 := AT12.out.after (below_drewN (Below.refl _ w12) q13)
                 have haw := awake13 _ at13.glob
                 have HAT := Lib.hid at13.below
                 have HAW := Lib.hid haw
                 clear at13 haw HSM AT12
                 go_wp2_with fail
                 with_reducible refine HAW.out.mono ?_
                 rintro e w14 ⟨rfl, b14⟩
                 have B14 := Lib.hid (HAT.out.trans (b14.mono HAT.out.size))
                 clear b14
                 go_wp2_with fail
                 go_ret
                 exact ⟨rfl, B14.out⟩)
              | (clear k11 f11 hbd O10
                 go_wp2_with fail
                 with_reducible refine HS.out.mono ?_
                 rintro e w12 ⟨⟨v12, rfl, _⟩, at12, b12⟩
                 have haw := awake13 w12 at12.glob
                 have HAT := Lib.hid at12.below
                 have HAW := Lib.hid haw
                 clear at12 b12 haw HS
                 go_wp2_with fail
                 with_reducible refine HAW.out.mono ?_
                 rintro e w13 ⟨rfl, b13⟩
                 have B13 := Lib.hid (HAT.out.trans (b13.mono HAT.out.size))
                 clear b13
                 go_wp2_with fail
                 go_ret
                 exact ⟨rfl, B13.out⟩)
end

end Go.Proofs.YtohadeijmmmcdaaDoor
