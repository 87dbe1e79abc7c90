/-
  The document's next field: a number, a text.
-/
import Derived.Test.YtohadeijmmmcdaaDoorRNum
import Derived.Test.YtohadeijmmmcdaaDoorEye
import Derived.Test.YtohadeijmmmcdaaDoorTxtO
import Derived.Deep.CutRange
namespace Go.Proofs.YtohadeijmmmcdaaDoor
open Go.RowKit
set_option maxRecDepth 100000

/-! ### Fields, and what was read, as values -/
def fldL (k n : Int) (b : Value) : List Value := [.int .i64 k, .int .u64 n, b] ++ List.replicate 32 (.int .u8 0)
def gotL (k n : Int) (b : Value) (e : Int) (left : Value) : List Value := fldL k n b ++ [.int .i64 e, left]
theorem fldL_len (k n : Int) (b : Value) : (fldL k n b).length = 35 := by simp [fldL]
theorem gotL_len (k n : Int) (b : Value) (e : Int) (left : Value) : (gotL k n b e left).length = 37 := by simp [gotL, fldL]
theorem ld127 (v : Value) : Instr.loadAt 127 v = LDs 127 v := rfl
theorem st127 (v x : Value) : Instr.storeAt 127 v x = STs 127 v x := rfl
theorem al127 : Instr.alloc 127 true (.tuple #[]) = ALs 127 := rfl
theorem bd127 (parts : Array (Nat × Value)) : Instr.build 127 parts = BDs 127 parts := rfl
theorem bd125 (parts : Array (Nat × Value)) : Instr.build 125 parts = BDs 125 parts := rfl
theorem bd125_1 (n : Int) (W : World) : (BDs 125 #[(1, .int .u64 n)]).run Tryd.prog W = .ok (.agg (fldL 0 n (.slice none 0 0)).toArray) W := by kernel_rfl
theorem bd125_01 (k n : Int) (W : World) : (BDs 125 #[(0, .int .i64 k), (1, .int .u64 n)]).run Tryd.prog W = .ok (.agg (fldL k n (.slice none 0 0)).toArray) W := by kernel_rfl
theorem bd125_02 (k : Int) (A : Option Addr) (n c : Nat) (W : World) : (BDs 125 #[(0, .int .i64 k), (2, .slice A n c)]).run Tryd.prog W = .ok (.agg (fldL k 0 (.slice A n c)).toArray) W := by kernel_rfl
theorem bd127_1 (e : Int) (W : World) : (BDs 127 #[(1, .int .i64 e)]).run Tryd.prog W = .ok (.agg (gotL 0 0 (.slice none 0 0) e (.slice none 0 0)).toArray) W := by kernel_rfl
theorem bd127_02 (k m : Int) (B : Option Addr) (j d : Nat) (A : Option Addr) (n c : Nat) (W : World) : (BDs 127 #[(0, .agg (fldL k m (.slice B j d)).toArray), (2, .slice A n c)]).run Tryd.prog W = .ok (.agg (gotL k m (.slice B j d) 0 (.slice A n c)).toArray) W := by kernel_rfl
theorem i127 : (Tryd.prog.info? 127).map (·.size) = some 37 := by kernel_rfl
theorem z127 : (((Tryd.prog.info? 127).bind (·.zero)).map (·.cells.size)) = some 37 := by kernel_rfl
theorem u127 : (Tryd.prog.underlying 127).map isAggD = some true := by kernel_rfl
theorem gotL_one (k n : Int) (B : Option Addr) (j d : Nat) (e : Int) (A : Option Addr) (m c : Nat) : ∀ v ∈ gotL k n (.slice B j d) e (.slice A m c), v.oneCell' = true := by
  intro v hv
  simp only [gotL, fldL, List.mem_append, List.mem_cons, List.mem_replicate, List.mem_nil_iff, or_false] at hv
  rcases hv with (((rfl | rfl | rfl) | ⟨_, rfl⟩) | rfl | rfl) <;> rfl

/-- A part of a slice, by numbers of whatever kind. -/
theorem part8u {w : World} {A : Option Addr} {L : List Int} (hb : Byt w A L) (c l h : Nat) (vl vh : Option Value) (hl : l ≤ h) (hh : h ≤ L.length) (hc : L.length ≤ c)
    (el : (vl = none ∧ l = 0) ∨ ∃ k x, vl = some (.int k x) ∧ x = l) (eh : (vh = none ∧ h = L.length) ∨ ∃ k x, vh = some (.int k x) ∧ x = h) :
    ∃ A', (∀ W : World, (SLs 22 (.slice A L.length c) vl vh none).run Tryd.prog W = .ok (.slice A' (h - l) (c - l)) W) ∧ Byt w A' ((L.drop l).take (h - l)) ∧ (∀ a, A' = some a → ∃ b, A = some b ∧ a.block = b.block) ∧ (A' = none → A = none) := by
  obtain ⟨i, hq, hi⟩ := Option.map_eq_some_iff.1 i5
  refine ⟨if c = l then A else A.map (·.add l), fun W => ?_, ⟨fun h0 => ?_, fun x hx => hb.bd x (List.mem_of_mem_drop (List.mem_of_mem_take hx))⟩, ?_, ?_⟩
  · have hm : h ≤ c := by omega
    have e1 : ¬ ((h : Int) < 0 ∨ (L.length : Int) < (h : Int)) := by omega
    have b1 : ((0 : Int) ≤ (h : Int) ∧ (h : Int) ≤ (c : Int)) := by omega
    have b2 : ((0 : Int) ≤ (l : Int) ∧ (l : Int) ≤ (h : Int)) := by omega
    rcases el with ⟨rfl, rfl⟩ | ⟨k, x, rfl, rfl⟩ <;> rcases eh with ⟨rfl, rfl⟩ | ⟨k', y, rfl, rfl⟩ <;>
      (simp [SLs, Instr.sliceAt, Instr.slice, Instr.sliceBounds, Instr.sliceBound, asIntOf, run_underlying u22, sizeOf, typeInfo, hq, hi, hl, hm])
  · have hlen : 0 < ((L.drop l).take (h - l)).length := h0
    simp only [List.length_take, List.length_drop] at hlen
    obtain ⟨g, o, rfl, hg, hc'⟩ := hb.cell (by omega)
    have hadd : (⟨g, o, none⟩ : Addr).add l = ⟨g, o + l, none⟩ := by unfold Addr.add; split <;> simp_all
    refine ⟨g, o + l, ?_, hg, fun j x hx => ?_⟩
    · rw [if_neg (by omega)]
      simp [hadd]
    · rw [List.getElem?_take] at hx
      split at hx
      · rw [List.getElem?_drop] at hx
        rw [Nat.add_assoc]
        exact hc' _ x hx
      · cases hx
  · intro a e
    split at e
    · exact ⟨a, e, rfl⟩
    · obtain ⟨b, hb1, rfl⟩ := Option.map_eq_some_iff.1 e
      exact ⟨b, hb1, by unfold Addr.add; split <;> simp_all⟩
  · intro e
    split at e
    · exact e
    · simpa using e

/-- What is behind the taking of a field. -/
def TakeErr (e : Ending) : Prop := ∃ x : Int, (x != 0) = true ∧ (x == 0) = false ∧ e = .returned (.agg (gotL 0 0 (.slice none 0 0) x (.slice none 0 0)).toArray)
/-- A part of the slice A, c. -/
structure Part8 (w : World) (A : Option Addr) (A' : Option Addr) (c' : Nat) (l : List Int) : Prop where
  byt : Byt w A' l
  blk : ∀ a, A' = some a → ∃ b, A = some b ∧ a.block = b.block
  cap : l.length ≤ c'
  nul : A' = none → c' = 0
def TakeNum (w : World) (A : Option Addr) (v : Nat) (r : List Int) (e : Ending) : Prop :=
  ∃ A' c', e = .returned (.agg (gotL 0 v (.slice none 0 0) 0 (.slice A' r.length c')).toArray) ∧ Part8 w A A' c' r
def TakeText (w : World) (A : Option Addr) (t r : List Int) (e : Ending) : Prop :=
  ∃ B d A' c', e = .returned (.agg (gotL 1 0 (.slice B t.length d) 0 (.slice A' r.length c')).toArray) ∧ Part8 w A B d t ∧ Part8 w A A' c' r
def TakePost (w : World) (A : Option Addr) (kd : Int) (R : Option (Nat × List Int)) (e : Ending) : Prop :=
  match R with
  | none => TakeErr e
  | some (v, r) => if kd = 0 then TakeNum w A v r e else if r.length < v then TakeErr e else TakeText w A (r.take v) (r.drop v) e

section
attribute [local go_sem ↓] ld127 st127 al127 bd127 bd125 sle_of
attribute [local go_sem] bd127_1 bd127_02 bd125_1 bd125_01 bd125_02

set_option maxHeartbeats 8000000 in
theorem take_any (kd : Int) (hkd : kd = 0 ∨ kd = 1) (A : Option Addr) (c : Nat) (hcA : A = none → c = 0) (l : List Int) (most : Nat) (_hm : most ≤ 18446744073709551615) (w : World) (hb : Byt w A l) (hl : l.length ≤ 1000000000) (hc : l.length ≤ c) :
    Calls Tryd.prog 67 #[.slice A l.length c, .agg (fldL kd most (.slice none 0 0)).toArray] w fun e w' => TakePost w' A kd (takeNumP most l) e ∧ Below w.heap.size w w' := by
  obtain ⟨z, hz1, hz2⟩ := Option.map_eq_some_iff.1 z127
  obtain ⟨F, hF⟩ : ∃ F, (fldL kd most (.slice none 0 0)).toArray = F := ⟨_, rfl⟩
  have hal := ALs_new (P := Tryd.prog) (t := 127) z hz1 (w.alloc (.cells F 125))
  obtain ⟨Z, hZ⟩ : ∃ Z, z.cells = Z := ⟨_, rfl⟩
  rw [hZ] at hal hz2
  have HZ2 := Lib.hid hz2
  have HB0 := Lib.hid hb
  have hbF := (Blk.new w 125 F).alloc (.cells Z 127)
  have hbG := Blk.new (w.alloc (.cells F 125)) 127 Z
  have hB : Below w.heap.size w ((w.alloc (.cells F 125)).alloc (.cells Z 127)) := ((Below.refl _ w).alloc (Nat.le_refl _) _).alloc (by simp) _
  have hY := hb.below hB
  have c0 := hbF.cell 0
  have c1 := hbF.cell 1
  have g0 : F[0]? = some (.int .i64 kd) := by rw [← hF]; rfl
  have g1 : F[1]? = some (.int .u64 most) := by rw [← hF]; rfl
  rw [g0] at c0
  rw [g1] at c1
  rw [hF]
  obtain ⟨W, hW⟩ : ∃ W, (w.alloc (.cells F 125)).alloc (.cells Z 127) = W := ⟨_, rfl⟩
  rw [hW] at hbF hbG hB hY c0 c1
  simp only [World.size_alloc] at hbG hal
  have HST := Lib.hid (fun e => STs_blk (P := Tryd.prog) (t := 127) i127 hbG (off := 0) (gotL 0 0 (.slice none 0 0) e (.slice none 0 0)) (gotL_len _ _ _ _ _) (by omega) (gotL_one _ _ _ _ _ _ _ _ _))
  have hend : ∀ (X : World), Blk X (w.heap.size + 1) 127 Z → ∀ (G : List Value) (tm : Array Value), G.length = 37 → tm.getD 4 undef = .pointer (some ⟨w.heap.size + 1, 0, none⟩) → (results Tryd.f67 tm).run Tryd.prog (X.setRow (w.heap.size + 1) (splice Z 0 G)) = .ok (.agg G.toArray) (X.setRow (w.heap.size + 1) (splice Z 0 G)) := fun X hbX G tm hG htm => by
    have e := hbX.row_ (splice Z 0 G)
    rw [splice_whole _ _ (by omega)] at e ⊢
    obtain ⟨d, hd1, hd2⟩ := Option.map_eq_some_iff.1 u127
    exact results_arr rfl tm _ (w.heap.size + 1) 127 G d htm e hd1 hd2 (by rw [hG]; exact i127)
  have hbelow : ∀ cs, Below w.heap.size w (W.setRow (w.heap.size + 1) cs) := fun cs => Below.setRow hB (by omega) _
  obtain ⟨R, hR⟩ : ∃ R, takeNumP most l = R := ⟨_, rfl⟩
  rw [hR]
  have HEND := Lib.hid hend
  have HBW := Lib.hid hbelow
  have HB := Lib.hid hB
  have HBG := Lib.hid hbG
  have HY := Lib.hid hY
  have HW := Lib.hid hW
  have HR := Lib.hid hR
  clear hend hbelow hbG hbF hB hY hW hz1 hz2 hZ hF g0 g1 hb hR
  have hk2 : ¬ (kd = 2) := by omega
  have hk2b : (kd == 2) = false := by simp [hk2]
  cases l with
  | nil =>
    have hP : R = none := by rw [← HR.out]; rfl
    have hst := HST.out 2
    have HP := Lib.hid hP
    clear hP
    go_enter Tryd.func67, Tryd.ntmps67
    go_upto_region 1 with fail
    rw [HW.out]
    go_wp2_with fail
    exact bodyPost_ret (HEND.out _ HBG.out _ _ (gotL_len _ _ _ _ _) rfl) rfl ⟨by rw [HP.out]; exact ⟨2, rfl, rfl, rfl⟩, HBW.out _⟩
  | cons k tl =>
    have hk := HY.out.bd k (by simp)
    have htb : ∀ x ∈ tl, 0 ≤ x ∧ x ≤ 255 := fun x hx => HY.out.bd x (by simp [hx])
    obtain ⟨K, rfl⟩ : ∃ K : Nat, k = K := ⟨k.toNat, by omega⟩
    have hKb : K ≤ 255 := by omega
    have hT : takeNumP most ((K : Int) :: tl) = if 8 < K ∨ tl.length < K ∨ (0 < K ∧ tl.headD 1 = 0) ∨ most < valP (tl.take K) then none else some (valP (tl.take K), tl.drop K) := by
      simp only [takeNumP, Int.toNat_natCast]
    rw [hT] at HR
    obtain ⟨g, o, rfl, hg, hcell⟩ := HY.out.cell (by simp)
    have hgw : g < w.heap.size := by
      obtain ⟨g', o', e, hg', _⟩ := HB0.out.cell (by simp)
      cases e
      exact hg'
    clear HB0
    have k0 := hcell 0 K rfl
    rw [Nat.add_zero] at k0
    have hcell' : ∀ j x, tl[j]? = some x → W.cell? ⟨g, o + (j + 1), none⟩ = some (.int .u8 x) := fun j x hx => hcell (j + 1) x (by simpa using hx)
    obtain ⟨n, hn⟩ : ∃ n, tl.length = n := ⟨_, rfl⟩
    have hlen : ((K : Int) :: tl).length = n + 1 := by simp [hn]
    rw [hlen] at hc hl ⊢
    have HC := Lib.hid hcell'
    have HN := Lib.hid hn
    have HTB := Lib.hid htb
    have HL := Lib.hid hlen
    have HKD := Lib.hid hkd
    clear hT hk hcell hcell' htb hn hlen hkd
    go_enter Tryd.func67, Tryd.ntmps67
    go_upto_region 1 with fail
    rw [HW.out]
    by_cases h8 : 8 < K
    · have h8I : (8 : Int) < (K : Int) := by omega
      have hP : R = none := HR.out.symm.trans (if_pos (.inl h8))
      have hst := HST.out 3
      have HP := Lib.hid hP
      clear hP
      go_wp2_with fail
      exact bodyPost_ret (HEND.out _ HBG.out _ _ (gotL_len _ _ _ _ _) rfl) rfl ⟨by rw [HP.out]; exact ⟨3, rfl, rfl, rfl⟩, HBW.out _⟩
    have h8I : (K : Int) ≤ 8 := by omega
    by_cases hfew : n < K
    · have hfI : (n : Int) + 1 < 1 + (K : Int) := by omega
      have hfI2 : n + 1 < 1 + K := by omega
      have hP : R = none := HR.out.symm.trans (if_pos (.inr (.inl (by rw [HN.out]; exact hfew))))
      have hst := HST.out 2
      have HP := Lib.hid hP
      clear hP
      go_wp2_with fail
      exact bodyPost_ret (HEND.out _ HBG.out _ _ (gotL_len _ _ _ _ _) rfl) rfl ⟨by rw [HP.out]; exact ⟨2, rfl, rfl, rfl⟩, HBW.out _⟩
    by_cases hz : 0 < K ∧ tl.headD 1 = 0
    · have hP : R = none := HR.out.symm.trans (if_pos (.inr (.inr (.inl hz))))
      obtain ⟨hz1, hz2⟩ := hz
      have k1 : W.cell? ⟨g, o + 1, none⟩ = some (.int .u8 0) := by
        cases tl with
        | nil => have := HN.out; simp at this; omega
        | cons x r =>
          simp at hz2
          subst hz2
          exact HC.out 0 0 rfl
      have hKp : (0 : Int) < (K : Int) := by omega
      have hn1 : (1 : Int) < (n : Int) + 1 := by omega
      have hst := HST.out 3
      have HP := Lib.hid hP
      clear hP hz2
      go_wp2_with fail
      exact bodyPost_ret (HEND.out _ HBG.out _ _ (gotL_len _ _ _ _ _) rfl) rfl ⟨by rw [HP.out]; exact ⟨3, rfl, rfl, rfl⟩, HBW.out _⟩
    have HZ := Lib.hid hz
    clear hz
    rcases Nat.eq_zero_or_pos K with hK0 | hKp0
    focus
      have hKp : ¬ (0 : Int) < (K : Int) := by omega
      have HK0 := Lib.hid hK0
      clear hK0
      go_wp2_with fail
      clear hKp
    rotate_left
    focus
      have hKp : (0 : Int) < (K : Int) := by omega
      have hn1 : (1 : Int) < (n : Int) + 1 := by omega
      obtain ⟨x, k1, hx⟩ : ∃ x, W.cell? ⟨g, o + 1, none⟩ = some (.int .u8 x) ∧ (x == 0) = false := by
        have hz := HZ.out
        cases tl with
        | nil => have := HN.out; simp at this; omega
        | cons x r =>
          refine ⟨x, HC.out 0 x rfl, ?_⟩
          simp at hz ⊢
          exact hz hKp0
      go_wp2_with fail
      clear hKp k1 hx hKp0
    rotate_left
    all_goals
      go_loop [8, 9] (fun v t => ∃ I : Nat, 1 ≤ I ∧ I ≤ K + 1 ∧ t = .int .i64 (I : Int) ∧ v = .int .u64 ((valP (tl.take (I - 1)) : Nat) : Int)) (fun _ t => K + 1 - (intOf t).toNat)
      case atStart => exact ⟨1, by omega, by omega, rfl, rfl⟩
      case round =>
        obtain ⟨I, hI1, hIK, rfl, rfl⟩ := hrel
        have hvb := valP_lt (tl.take (I - 1)) (fun x hx => HTB.out x (List.mem_of_mem_take hx))
        have hn0 := HN.out
        rw [List.length_take, hn0, show min (I - 1) n = I - 1 by omega] at hvb
        by_cases hlt : I ≤ K
        · have hltI : (I : Int) ≤ (K : Int) := by omega
          have hIn : (I : Int) < (n : Int) + 1 := by omega
          have hIn2 : I < n + 1 := by omega
          have hi3 : I - 1 < tl.length := by omega
          have hx := HC.out (I - 1) tl[I - 1] (by simp [hi3])
          have hxb := HTB.out tl[I - 1] (List.getElem_mem _)
          rw [show I - 1 + 1 = I by omega] at hx
          have e1 : tl.take I = tl.take (I - 1) ++ [tl[I - 1]] := by
            rw [← List.take_succ_eq_append_getElem hi3, show I - 1 + 1 = I by omega]
          obtain ⟨x, hxe⟩ : ∃ x, tl[I - 1] = x := ⟨_, rfl⟩
          rw [hxe] at hx hxb e1
          obtain ⟨X, rfl⟩ : ∃ X : Nat, x = X := ⟨x.toNat, by omega⟩
          obtain ⟨v, hv⟩ : ∃ v, valP (tl.take (I - 1)) = v := ⟨_, rfl⟩
          have hval : valP (tl.take I) = v * 256 + X := by rw [e1, valP_snoc, hv, Int.toNat_natCast]
          rw [hv] at hvb ⊢
          have hv56 : v < 72057594037927936 := Nat.lt_of_lt_of_le hvb (by
            have := Nat.pow_le_pow_right (n := 256) (by omega) (show I - 1 ≤ 7 by omega)
            simpa using this)
          have hXb : X ≤ 255 := by omega
          have HVAL := Lib.hid hval
          clear hval e1 hv hxe hxb hvb hn0 hi3
          go_wp2_with fail
          go_round
          case rel => exact ⟨I + 1, by omega, by omega, by go_num, by rw [Nat.add_sub_cancel, HVAL.out]; go_num⟩
          case measure => simp [intOf]; omega
        · obtain rfl : I = K + 1 := by omega
          rw [Nat.add_sub_cancel] at hvb ⊢
          obtain ⟨v, hv⟩ : ∃ v, valP (tl.take K) = v := ⟨_, rfl⟩
          rw [hv]
          have HV := Lib.hid hv
          clear hv hvb hn0
          have hltI : ¬ (((K + 1 : Nat) : Int) ≤ (K : Int)) := by omega
          by_cases hbig : most < v
          · have hbi : (most : Int) < (v : Int) := by omega
            have hP : R = none := HR.out.symm.trans (if_pos (.inr (.inr (.inr (by rw [HV.out]; exact hbig)))))
            have hst := HST.out 5
            have HP := Lib.hid hP
            clear hP
            go_wp2_with fail
            exact bodyPost_ret (HEND.out _ HBG.out _ _ (gotL_len _ _ _ _ _) rfl) rfl ⟨by rw [HP.out]; exact ⟨5, rfl, rfl, rfl⟩, HBW.out _⟩
          · have hbi : (v : Int) ≤ (most : Int) := by omega
            have hsome : R = some (v, tl.drop K) := by
              rw [← HV.out]
              refine HR.out.symm.trans (if_neg ?_)
              rw [HV.out, HN.out]
              rintro (h | h | h | h)
              · omega
              · omega
              · exact HZ.out h
              · omega
            obtain ⟨A1, hsl, hy1, hblk1, hnl1⟩ := part8u HY.out c (1 + K) (n + 1) (some (.int .i64 (1 + (K : Int)))) none (by omega) (by rw [HL.out]; omega) (by rw [HL.out]; exact hc) (.inr ⟨_, _, rfl, by omega⟩) (.inl ⟨rfl, HL.out.symm⟩)
            have hdr : (((K : Int) :: tl).drop (1 + K)).take (n + 1 - (1 + K)) = tl.drop K := by
              rw [Nat.add_comm 1 K, List.drop_succ_cons, List.take_of_length_le (by rw [List.length_drop, HN.out]; omega)]
            rw [hdr] at hy1
            rw [HL.out] at hsl
            obtain ⟨r, hr⟩ : ∃ r, tl.drop K = r := ⟨_, rfl⟩
            obtain ⟨m, hm2⟩ : ∃ m, n + 1 - (1 + K) = m := ⟨_, rfl⟩
            obtain ⟨d, hd⟩ : ∃ d, c - (1 + K) = d := ⟨_, rfl⟩
            have hrl : r.length = m := by rw [← hr, List.length_drop, HN.out]; omega
            rw [hr] at hy1 hsome
            rw [hm2, hd] at hsl
            have hsl1 := hsl W
            have hmd : m ≤ d := by omega
            have hnil : A1 = none → d = 0 := fun e => by have := hnl1 e; cases this
            have HS := Lib.hid hsome
            have HY1 := Lib.hid hy1
            have HB1 := Lib.hid hblk1
            have HRL := Lib.hid hrl
            have HNIL := Lib.hid hnil
            have HHD := Lib.hid hd
            have HHM := Lib.hid hm2
            clear hr hm2 hd hrl hsl hsome hy1 hblk1 hdr hnil hnl1
            by_cases hk0 : kd = 0
            · subst hk0
              have hst := STs_blk (P := Tryd.prog) (t := 127) i127 HBG.out (off := 0) (gotL 0 v (.slice none 0 0) 0 (.slice A1 m d)) (gotL_len _ _ _ _ _) (by rw [HZ2.out]; omega) (gotL_one _ _ _ _ _ _ _ _ _)
              go_wp2_with fail
              refine bodyPost_ret (HEND.out _ HBG.out _ _ (gotL_len _ _ _ _ _) rfl) rfl ⟨?_, HBW.out _⟩
              rw [HS.out]
              refine ⟨A1, d, by rw [HRL.out], ?_, HB1.out, by rw [HRL.out]; exact hmd, HNIL.out⟩
              exact HY1.out.fr ((Fr.refl (fun k => k = w.heap.size + 1) W).setRow (fun _ => rfl) _) (fun a ha h0 e => by
                obtain ⟨b, e1, e2⟩ := HB1.out a ha
                cases e1
                simp at e2
                omega)
            · have hk1 : kd = 1 := by have := HKD.out; omega
              subst hk1
              have hk10 : (((1 : Int)) == 0) = false := rfl
              have hwm : IntKind.u64.wrap (m : Int) = (m : Int) := by have := HHM.out; rw [IntKind.wrap_u64]; omega
              by_cases hlong : m < v
              · have hlI : (m : Int) < (v : Int) := by omega
                have hst := HST.out 2
                go_wp2_with fail
                refine bodyPost_ret (HEND.out _ HBG.out _ _ (gotL_len _ _ _ _ _) rfl) rfl ⟨?_, HBW.out _⟩
                rw [HS.out]
                unfold TakePost
                simp only [HRL.out]
                rw [if_neg (by decide), if_pos hlong]
                exact ⟨2, rfl, rfl, rfl⟩
              · have hlI : (v : Int) ≤ (m : Int) := by omega
                have hy1 := HY1.out
                obtain ⟨B2, hs2, hy2, hb2, hn2⟩ := part8u hy1 d 0 v none (some (.int .u64 (v : Int))) (by omega) (by rw [HRL.out]; omega) (by rw [HRL.out]; omega) (.inl ⟨rfl, rfl⟩) (.inr ⟨_, _, rfl, rfl⟩)
                obtain ⟨B3, hs3, hy3, hb3, hn3⟩ := part8u hy1 d v m (some (.int .u64 (v : Int))) none (by omega) (by rw [HRL.out]; omega) (by rw [HRL.out]; omega) (.inr ⟨_, _, rfl, rfl⟩) (.inl ⟨rfl, HRL.out.symm⟩)
                rw [HRL.out] at hs2 hs3
                rw [Nat.sub_zero] at hs2
                have hst := STs_blk (P := Tryd.prog) (t := 127) i127 HBG.out.drew (off := 0) (gotL 1 0 (.slice B2 v d) 0 (.slice B3 (m - v) (d - v))) (gotL_len _ _ _ _ _) (by rw [HZ2.out]; omega) (gotL_one _ _ _ _ _ _ _ _ _)
                have HY2 := Lib.hid hy2
                have HY3 := Lib.hid hy3
                have HB2 := Lib.hid hb2
                have HB3 := Lib.hid hb3
                have HN2 := Lib.hid hn2
                have HN3 := Lib.hid hn3
                have hlN : v ≤ m := by omega
                clear hy1 hy2 hy3 hb2 hb3 hn2 hn3
                go_wp2_with fail
                refine wp_txJ [3, 3, 3, 3, 3, 3, 3, 3, 2] (fun X => X = W.drew) (by kernel_rfl) (by kernel_rfl) (by kernel_rfl) (by kernel_rfl) ?_ ?_
                focus rfl
                iterate 8 (with_reducible refine wpTxJ_evN (v := ?_) (a' := ?_) (by with_unfolding_all rfl) (fun W' => ?_) ?_ ?_; rotate_left 2; (focus (go_simp <;> with_reducible rfl)); focus (go_simp <;> with_reducible rfl))
                with_reducible refine wpTxJ_last (by with_unfolding_all rfl) (fun K0 hK => ?_)  -- store 127 t4 t103
                go_simp
                with_reducible refine hK _ _ ?_
                clear hK K0
                with_reducible refine wpTxJ_nil ?_
                rw [noPan_normal]
                go_wp2_with fail
                refine bodyPost_ret (HEND.out _ HBG.out.drew _ _ (gotL_len _ _ _ _ _) rfl) rfl ⟨?_, Below.setRow HB.out.drew (by omega) _⟩
                rw [HS.out]
                unfold TakePost
                simp only [HRL.out]
                rw [if_neg (by decide), if_neg hlong]
                have htl : (r.take v).length = v := by rw [List.length_take, HRL.out]; omega
                have hdl : (r.drop v).length = m - v := by rw [List.length_drop, HRL.out]
                have hFr : Fr (fun k => k = w.heap.size + 1) W (W.drew.setRow (w.heap.size + 1) (splice Z 0 (gotL 1 0 (.slice B2 v d) 0 (.slice B3 (m - v) (d - v))))) := ((Fr.refl (fun k => k = w.heap.size + 1) W).drew).setRow (fun _ => rfl) _
                have hgb : ∀ a, A1 = some a → a.block ≠ w.heap.size + 1 := fun a ha e => by
                  obtain ⟨b, e1, e2⟩ := HB1.out a ha
                  cases e1
                  simp at e2
                  omega
                have e2 : (r.drop 0).take (v - 0) = r.take v := by simp
                have e3 : (r.drop v).take (m - v) = r.drop v := List.take_of_length_le (by rw [hdl]; exact Nat.le_refl _)
                have y2 := HY2.out
                have y3 := HY3.out
                rw [e2] at y2
                rw [e3] at y3
                refine ⟨B2, d, B3, d - v, by rw [htl, hdl], ⟨y2.fr hFr (fun a ha _ e => ?_), fun a ha => ?_, by rw [htl]; omega, fun e => ?_⟩, ⟨y3.fr hFr (fun a ha _ e => ?_), fun a ha => ?_, by rw [hdl]; omega, fun e => ?_⟩⟩
                · obtain ⟨b, e1, e2⟩ := HB2.out a ha
                  exact hgb b e1 (e2.symm.trans e)
                · obtain ⟨b, e1, e2⟩ := HB2.out a ha
                  obtain ⟨b', e3, e4⟩ := HB1.out b e1
                  exact ⟨b', e3, e2.trans e4⟩
                · exact HNIL.out (HN2.out e)
                · obtain ⟨b, e1, e2⟩ := HB3.out a ha
                  exact hgb b e1 (e2.symm.trans e)
                · obtain ⟨b, e1, e2⟩ := HB3.out a ha
                  obtain ⟨b', e3, e4⟩ := HB1.out b e1
                  exact ⟨b', e3, e2.trans e4⟩
                · have := HNIL.out (HN3.out e); omega
end

end Go.Proofs.YtohadeijmmmcdaaDoor
