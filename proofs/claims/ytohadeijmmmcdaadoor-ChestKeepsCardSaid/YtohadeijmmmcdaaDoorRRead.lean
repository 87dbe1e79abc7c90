/-
  The document's reading of a record (seisinref13.Read).
-/
import Derived.Test.YtohadeijmmmcdaaDoorRForm
import Derived.Test.YtohadeijmmmcdaaDoorRTake
namespace Go.Proofs.YtohadeijmmmcdaaDoor
open Go.RowKit
set_option maxRecDepth 100000

theorem results_ct {P : Program} {fn : Func} {p q : Tmp} {ty : TypeId} (h : fn.results = #[.cell p ty, .tmp q]) (tmps : Array Value) (w : World) (g : Nat) (t : TypeId) (cs : Array Value) (fr : Nat × Nat) {d : TypeDesc}
    (hg : w.heap[g]? = some (.cells cs t fr)) (hu : P.underlying ty = some d) (hd : isAggD d = true) (hi : (P.info? ty).map (·.size) = some cs.size)
    (hp : tmps.getD p undef = .pointer (some ⟨g, 0, none⟩)) {v : Value} (hq : tmps.getD q undef = v := by rfl) :
    (results fn tmps).run P w = .ok (.tuple #[.agg cs, v]) w := by
  have hp' : tmps[p]?.getD undef = .pointer (some ⟨g, 0, none⟩) := by simpa using hp
  have hq' : tmps[q]?.getD undef = v := by simpa using hq
  simp [results, h, hp', hq', asAddr, run_loadVar_row w g t ty cs fr d hg hu (by cases d <;> simp_all [isAggD]) hi]
theorem ld49 (v : Value) : Instr.loadAt 49 v = LDs 49 v := rfl
theorem st49 (v x : Value) : Instr.storeAt 49 v x = STs 49 v x := rfl
theorem al49 : Instr.alloc 49 true (.tuple #[]) = ALs 49 := rfl
theorem bd49 (parts : Array (Nat × Value)) : Instr.build 49 parts = BDs 49 parts := rfl
theorem i49 : (Tryd.prog.info? 49).map (·.size) = some 4 := by kernel_rfl
theorem u49 : (Tryd.prog.underlying 49).map isAggD = some true := by kernel_rfl
theorem z49 : (Tryd.prog.info? 49).bind (·.zero) = some (.agg #[.int .i64 0, .int .i64 0, .int .i64 0, .slice none 0 0]) := by kernel_rfl
def recL (a b c : Int) (v : Value) : List Value := [.int .i64 a, .int .i64 b, .int .i64 c, v]
theorem bd49_0 (W : World) : (BDs 49 #[]).run Tryd.prog W = .ok (.agg (recL 0 0 0 (.slice none 0 0)).toArray) W := by kernel_rfl
theorem bd49_4 (a b c : Int) (A : Option Addr) (n d : Nat) (W : World) : (BDs 49 #[(0, .int .i64 a), (1, .int .i64 b), (2, .int .i64 c), (3, .slice A n d)]).run Tryd.prog W = .ok (.agg (recL a b c (.slice A n d)).toArray) W := by kernel_rfl
theorem recL_one (a b c : Int) (A : Option Addr) (n d : Nat) : ∀ v ∈ recL a b c (.slice A n d), v.oneCell' = true := by
  intro v hv
  simp only [recL, List.mem_cons, List.mem_nil_iff, or_false] at hv
  rcases hv with rfl | rfl | rfl | rfl <;> rfl
theorem al49_new (W : World) : (ALs 49).run Tryd.prog W = .ok (.pointer (some ⟨W.heap.size, 0, none⟩)) (W.alloc (.cells (recL 0 0 0 (.slice none 0 0)).toArray 49)) := ALs_new _ z49 W
theorem st49_blk {W : World} {g : Nat} {cs : Array Value} (h : Blk W g 49 cs) (hc : cs.size = 4) (x y z : Int) (A : Option Addr) (n d : Nat) :
    (STs 49 (.pointer (some ⟨g, 0, none⟩)) (.agg (recL x y z (.slice A n d)).toArray)).run Tryd.prog W = .ok () (W.setRow g (recL x y z (.slice A n d)).toArray) := by
  have := STs_blk (P := Tryd.prog) (t := 49) i49 h (off := 0) (recL x y z (.slice A n d)) rfl (by omega) (recL_one _ _ _ _ _ _)
  rw [splice_whole _ _ (by simp [hc, recL])] at this
  exact this

theorem word4_val {b : List Int} (h : 4 ≤ b.length) : valP (b.take 4) = word4P b := by
  match b, h with
  | a0 :: a1 :: a2 :: a3 :: r, _ =>
    simp [valP, word4P]
    omega

theorem zz127 : (Tryd.prog.info? 127).bind (·.zero) = some (.agg (gotL 0 0 (.slice none 0 0) 0 (.slice none 0 0)).toArray) := by kernel_rfl
theorem al127_new (W : World) : (ALs 127).run Tryd.prog W = .ok (.pointer (some ⟨W.heap.size, 0, none⟩)) (W.alloc (.cells (gotL 0 0 (.slice none 0 0) 0 (.slice none 0 0)).toArray 127)) := ALs_new _ zz127 W
theorem st127_new (X : World) (k n e : Int) (B : Option Addr) (j d : Nat) (A : Option Addr) (m c : Nat) :
    (STs 127 (.pointer (some ⟨X.heap.size, 0, none⟩)) (.agg (gotL k n (.slice B j d) e (.slice A m c)).toArray)).run Tryd.prog (X.alloc (.cells (gotL 0 0 (.slice none 0 0) 0 (.slice none 0 0)).toArray 127)) = .ok () (X.alloc (.cells (gotL k n (.slice B j d) e (.slice A m c)).toArray 127)) :=
  STs_new i127 X _ (by simp [gotL_len]) _ (gotL_len _ _ _ _ _) (gotL_one _ _ _ _ _ _ _ _ _)
/-- The parts of what was read. -/
theorem got_parts {X : World} {g : Nat} {k n e : Int} {b l : Value} (h : Blk X g 127 (gotL k n b e l).toArray) :
    X.cell? ⟨g, 35, none⟩ = some (.int .i64 e) ∧ X.cell? ⟨g, 36, none⟩ = some l ∧ X.cell? ⟨g, 1, none⟩ = some (.int .u64 n) ∧ X.cell? ⟨g, 2, none⟩ = some b :=
  ⟨(h.cell 35).trans rfl, (h.cell 36).trans rfl, (h.cell 1).trans rfl, (h.cell 2).trans rfl⟩
theorem Part8.below {w w' : World} {A A' : Option Addr} {c' : Nat} {l : List Int} (h : Part8 w A A' c' l) (hb : Below w.heap.size w w') : Part8 w' A A' c' l := ⟨h.byt.below hb, h.blk, h.cap, h.nul⟩

theorem TakePost.text_none {w : World} {A : Option Addr} {most : Nat} {l : List Int} {e : Ending} (h : TakePost w A 1 (takeNumP most l) e) (hn : takeTextP most l = none) : TakeErr e := by
  unfold takeTextP at hn
  cases hR : takeNumP most l with
  | none => rw [hR] at h; exact h
  | some vr =>
    obtain ⟨v, r⟩ := vr
    rw [hR] at h hn
    simp only at hn
    unfold TakePost at h
    simp only at h
    rw [if_neg (by decide)] at h
    by_cases hl : r.length < v
    · rw [if_pos hl] at h; exact h
    · rw [if_neg hl] at hn; cases hn
theorem TakePost.text_some {w : World} {A : Option Addr} {most : Nat} {l t r : List Int} {e : Ending} (h : TakePost w A 1 (takeNumP most l) e) (hn : takeTextP most l = some (t, r)) : TakeText w A t r e := by
  unfold takeTextP at hn
  cases hR : takeNumP most l with
  | none => rw [hR] at hn; cases hn
  | some vr =>
    obtain ⟨v, r'⟩ := vr
    rw [hR] at h hn
    simp only at hn
    unfold TakePost at h
    simp only at h
    rw [if_neg (by decide)] at h
    by_cases hl : r'.length < v
    · rw [if_pos hl] at hn; cases hn
    · rw [if_neg hl] at h hn
      simp only [Option.some.injEq, Prod.mk.injEq] at hn
      obtain ⟨rfl, rfl⟩ := hn
      exact h

/-- What is behind the document's reading of a record. -/
def RReadPost (w : World) (A : Option Addr) (R : Option RecP) (e : Ending) : Prop :=
  match R with
  | none => e = .returned (.tuple #[.agg (recL 0 0 0 (.slice none 0 0)).toArray, .bool false])
  | some r => ∃ A' c', e = .returned (.tuple #[.agg (recL r.t r.n r.size (.slice A' r.b.length c')).toArray, .bool true]) ∧ Part8 w A A' c' r.b

section
attribute [local go_sem ↓] ld127 st127 al127 bd127 bd125 sle_of ld49 st49 al49 bd49
attribute [local go_sem] bd127_1 bd127_02 bd125_1 bd125_01 bd125_02 bd49_0 bd49_4 al127_new st127_new

set_option maxHeartbeats 16000000 in
theorem rread_any (A : Option Addr) (c : Nat) (b : List Int) (w : World) (hb : Byt w A b) (hc : b.length ≤ c) (hl : b.length ≤ 80000000) :
    Calls Tryd.prog 25 #[.slice A b.length c] w fun e w' => RReadPost w' A (readP b) e ∧ Below w.heap.size w w' := by
  have hal := al49_new w
  have b0 := Blk.new w 49 (recL 0 0 0 (.slice none 0 0)).toArray
  have B0 : Below w.heap.size w (w.alloc (.cells (recL 0 0 0 (.slice none 0 0)).toArray 49)) := (Below.refl _ w).alloc (Nat.le_refl _) _
  have hs0 : (w.alloc (.cells (recL 0 0 0 (.slice none 0 0)).toArray 49)).heap.size = w.heap.size + 1 := by simp
  obtain ⟨W, hW⟩ : ∃ W, w.alloc (.cells (recL 0 0 0 (.slice none 0 0)).toArray 49) = W := ⟨_, rfl⟩
  rw [hW] at hal b0 B0 hs0
  have hy := hb.below B0
  have hend : ∀ (X : World), Blk X w.heap.size 49 (recL 0 0 0 (.slice none 0 0)).toArray → ∀ (G : List Value) (tm : Array Value) (v : Value), G.length = 4 → tm.getD 2 undef = .pointer (some ⟨w.heap.size, 0, none⟩) → tm.getD 3 undef = v →
      (results Tryd.f25 tm).run Tryd.prog (X.setRow w.heap.size G.toArray) = .ok (.tuple #[.agg G.toArray, v]) (X.setRow w.heap.size G.toArray) := fun X hX G tm v hG h2 h3 => by
    obtain ⟨d, hd, he⟩ := Option.map_eq_some_iff.1 u49
    exact results_ct rfl tm _ w.heap.size _ _ (0, 0) (hX.row_ G.toArray) hd he (by rw [List.size_toArray, hG]; exact i49) h2 h3
  have hno : ∀ X : World, Below W.heap.size W X → (STs 49 (.pointer (some ⟨w.heap.size, 0, none⟩)) (.agg (recL 0 0 0 (.slice none 0 0)).toArray)).run Tryd.prog X = .ok () (X.setRow w.heap.size (recL 0 0 0 (.slice none 0 0)).toArray) ∧ Blk X w.heap.size 49 (recL 0 0 0 (.slice none 0 0)).toArray ∧ Below w.heap.size w (X.setRow w.heap.size (recL 0 0 0 (.slice none 0 0)).toArray) := fun X hX => by
    have hbX := b0.fr (Fr.of_below hX) (by have := b0.lt; omega)
    exact ⟨st49_blk hbX rfl 0 0 0 none 0 0, hbX, Below.setRow (B0.trans (hX.mono B0.size)) (Nat.le_refl _) _⟩
  obtain ⟨R, hR⟩ : ∃ R, readP b = R := ⟨_, rfl⟩
  obtain ⟨n, hn⟩ : ∃ n, b.length = n := ⟨_, rfl⟩
  rw [hR]
  rw [hn] at hc hl ⊢
  have HEND := Lib.hid hend
  have HNO := Lib.hid hno
  have HB0 := Lib.hid b0
  have HBl := Lib.hid B0
  have HS := Lib.hid hs0
  have HY := Lib.hid hy
  have HB := Lib.hid hb
  have HR := Lib.hid hR
  have HN := Lib.hid hn
  clear hend hno b0 B0 hs0 hW hy hb hR hn
  by_cases h12 : n < 12
  · have h12I : (n : Int) < 12 := by omega
    obtain ⟨hst, hbX, hB⟩ := HNO.out W (Below.refl _ _)
    have HX := Lib.hid hbX
    have HBX := Lib.hid hB
    have hP : R = none := HR.out.symm.trans (readP_short (by rw [HN.out]; exact h12))
    have HP := Lib.hid hP
    clear hbX hB hP
    go_enter Tryd.func25, Tryd.ntmps25
    go_wp2_with fail
    exact bodyPost_ret (HEND.out _ HX.out _ _ _ rfl rfl rfl) rfl ⟨by rw [HP.out]; exact rfl, HBX.out⟩
  · have h12I : (12 : Int) ≤ (n : Int) := by omega
    obtain ⟨g, o, rfl, hg, hcell⟩ := HY.out.cell (by rw [HN.out]; omega)
    have HC := Lib.hid hcell
    clear hcell
    go_enter Tryd.func25, Tryd.ntmps25
    go_wp2_with fail
    go_loop [4, 5] (fun v t => ∃ i : Nat, i ≤ 4 ∧ t = .int .i64 (i : Int) ∧ v = .int .i64 ((valP (b.take i) : Nat) : Int)) (fun _ t => 4 - (intOf t).toNat)
    case atStart => exact ⟨0, by omega, rfl, rfl⟩
    case round =>
      obtain ⟨i, hi, rfl, rfl⟩ := hrel
      by_cases hlt : i < 4
      · have hltI : (i : Int) < 4 := by omega
        have hiN : (i : Int) < (n : Int) := by omega
        have hi3 : i < b.length := by rw [HN.out]; omega
        have hvb := valP_lt (b.take i) (fun x hx => HB.out.bd x (List.mem_of_mem_take hx))
        rw [List.length_take, HN.out, show min i n = i by omega] at hvb
        have hx := HC.out i b[i] (by simp [hi3])
        have hxb := HB.out.bd b[i] (List.getElem_mem _)
        have e1 : b.take (i + 1) = b.take i ++ [b[i]] := List.take_succ_eq_append_getElem hi3
        obtain ⟨x, hxe⟩ : ∃ x, b[i] = x := ⟨_, rfl⟩
        rw [hxe] at hx hxb e1
        obtain ⟨X, rfl⟩ : ∃ X : Nat, x = X := ⟨x.toNat, by omega⟩
        obtain ⟨v, hv⟩ : ∃ v, valP (b.take i) = v := ⟨_, rfl⟩
        have hval : valP (b.take (i + 1)) = v * 256 + X := by rw [e1, valP_snoc, hv, Int.toNat_natCast]
        rw [hv] at hvb ⊢
        have hv24 : v < 16777216 := Nat.lt_of_lt_of_le hvb (by
          have := Nat.pow_le_pow_right (n := 256) (by omega) (show i ≤ 3 by omega)
          simpa using this)
        have hXb : X ≤ 255 := by omega
        have HVAL := Lib.hid hval
        clear hval e1 hv hxe hxb hvb hi3
        go_wp2_with fail
        go_round
        case rel => exact ⟨i + 1, by omega, by go_num, by rw [HVAL.out]; go_num⟩
        case measure => simp [intOf]; omega
      · obtain rfl : i = 4 := by omega
        have hlt4 : ¬ (((4 : Nat) : Int) < 4) := by omega
        have hwv := word4_val (b := b) (by rw [HN.out]; omega)
        obtain ⟨L, hL⟩ : ∃ L, word4P b = L := ⟨_, rfl⟩
        rw [hL] at hwv
        rw [hwv]
        have HL := Lib.hid hL
        have HWV := Lib.hid hwv
        clear hL hwv
        by_cases hbig : 65524 < L
        · have hbI : (65524 : Int) < (L : Int) := by omega
          obtain ⟨hst, hbX, hB⟩ := HNO.out W (Below.refl _ _)
          have HX := Lib.hid hbX
          have HBX := Lib.hid hB
          have hP : R = none := HR.out.symm.trans (readP_out (.inl (by rw [HL.out]; unfold secP; omega)))
          have HP := Lib.hid hP
          clear hbX hB hP
          go_wp2_with fail
          exact bodyPost_ret (HEND.out _ HX.out _ _ _ rfl rfl rfl) rfl ⟨by rw [HP.out]; exact rfl, HBX.out⟩
        by_cases hlong : n < 12 + L
        · have hbI : (L : Int) ≤ 65524 := by omega
          have hbI2 : (n : Int) - 12 < (L : Int) := by omega
          obtain ⟨hst, hbX, hB⟩ := HNO.out W (Below.refl _ _)
          have HX := Lib.hid hbX
          have HBX := Lib.hid hB
          have hP : R = none := HR.out.symm.trans (readP_out (.inr (by rw [HL.out, HN.out]; unfold secP; omega)))
          have HP := Lib.hid hP
          clear hbX hB hP
          go_wp2_with fail
          exact bodyPost_ret (HEND.out _ HX.out _ _ _ rfl rfl rfl) rfl ⟨by rw [HP.out]; exact rfl, HBX.out⟩
        have hbI : (L : Int) ≤ 65524 := by omega
        have hbI2 : (L : Int) ≤ (n : Int) - 12 := by omega
        go_wp2_with fail
        obtain ⟨D, hD⟩ : ∃ D, secP (12 + L) * 64 = D := ⟨_, rfl⟩
        have hDm : D % 64 = 0 := by omega
        have hD1 : 12 + L ≤ D ∧ D < 12 + L + 64 := by unfold secP at hD; omega
        have HD := Lib.hid hD
        have HD1 := Lib.hid hD1
        have HDm := Lib.hid hDm
        clear hD hD1 hDm
        go_loop [6] (fun t => ∃ E : Nat, t = .int .i64 (E : Int) ∧ 12 + L ≤ E ∧ E ≤ D ∧ E ≤ n ∧ ∀ i, 12 + L ≤ i → i < E → b.getD i 0 = 0) (fun t => D - (intOf t).toNat)
        case atStart => exact ⟨12 + L, by go_num, Nat.le_refl _, HD1.out.1, by omega, fun i h1 h2 => by omega⟩
        case round =>
          obtain ⟨E, rfl, hE1, hE2, hE3, hz⟩ := hrel
          have HZ := Lib.hid hz
          clear hz
          by_cases hE64 : E % 64 = 0
          · have hEI : (((E : Int) % 64) != 0) = false := by
              have : (E : Int) % 64 = 0 := by omega
              rw [this]; rfl
            have hED : E = D := by have := HD1.out; have := HDm.out; omega
            subst hED
            obtain ⟨A1, hsl, hy1, hblk1, hnl1⟩ := part8u HY.out c 12 (12 + L) (some (.int .i64 12)) (some (.int .i64 (12 + (L : Int)))) (by omega) (by rw [HN.out]; omega) (by rw [HN.out]; exact hc) (.inr ⟨_, _, rfl, rfl⟩) (.inr ⟨_, _, rfl, by omega⟩)
            rw [show 12 + L - 12 = L by omega] at hsl hy1
            rw [HN.out] at hsl
            obtain ⟨f, hf⟩ : ∃ f, (b.drop 12).take L = f := ⟨_, rfl⟩
            rw [hf] at hy1
            have hfl : f.length = L := by rw [← hf, List.length_take, List.length_drop, HN.out]; omega
            obtain ⟨d, hd⟩ : ∃ d, c - 12 = d := ⟨_, rfl⟩
            rw [hd] at hsl
            have hcA1 : A1 = none → d = 0 := fun e => by have := hnl1 e; cases this
            have hblk : ∀ a, A1 = some a → a.block = g := fun a ha => by
              obtain ⟨b', e1, e2⟩ := hblk1 a ha
              cases e1
              exact e2
            have hsl1 := hsl W
            have hR2 : (b.drop 4).take 8 = sumP f → R = match eyeP f L with | none => none | some (t, n, x) => some ⟨t, n, secP (12 + L), x⟩ := fun e => by
              have h1 := readP_eye (b := b) (by rw [HN.out]; omega) (by rw [HL.out]; unfold secP; omega) (by rw [HL.out, HN.out, HD.out]; exact hE3) (by rw [HL.out, hf]; exact e)
                (by rw [HL.out, HD.out]; exact any_none (fun i h1 h2 => HZ.out i h1 (by omega)))
              rw [HL.out, hf] at h1
              exact HR.out.symm.trans h1
            have hR3 : (b.drop 4).take 8 ≠ sumP f → R = none := fun e => HR.out.symm.trans (readP_bad (.inl (by rw [HL.out, hf]; exact e)))
            have HY1 := Lib.hid hy1
            have HBK := Lib.hid hblk
            have HFL := Lib.hid hfl
            have HCA := Lib.hid hcA1
            have HR2 := Lib.hid hR2
            have HR3 := Lib.hid hR3
            have HF := Lib.hid hf
            have HDd := Lib.hid hd
            clear hsl hy1 hblk1 hnl1 hblk hf hfl hcA1 hR2 hR3 hd
            go_wp2_with fail
            have hs := rsum13_any A1 d HCA.out f W HY1.out (by rw [HFL.out]; omega)
            rw [HFL.out] at hs
            with_reducible refine hs.mono ?_
            rintro e w8 ⟨v8, rfl, o8, b8⟩
            obtain ⟨A8, c8, e8, y8, _, _⟩ := o8.byt (sumP_bd f)
            subst e8
            rw [sumP_len] at o8 ⊢
            obtain ⟨g8, o8', rfl, hg8, hc8⟩ := y8.cell (by rw [sumP_len]; omega)
            have HB8 := Lib.hid b8
            have HC8 := Lib.hid hc8
            have hg8l : g8 < w8.heap.size := hg8
            clear o8 y8 hc8 b8 hs hsl1 hEI
            go_wp2_with fail
            go_loopg [9] 8 (fun k t wr => ∃ i : Nat, i + k = 8 ∧ t = .int .i64 (i : Int) ∧ (∀ j, j < i → b.getD (4 + j) 0 = (sumP f).getD j 0) ∧ Below w8.heap.size w8 wr)
            case atStart => exact ⟨0, by omega, rfl, fun j hj => by omega, Below.refl _ _⟩
            case round =>
              obtain ⟨i, hi, rfl, heq, hbl⟩ := hrel
              have HEQ := Lib.hid heq
              clear heq
              by_cases hi8 : i < 8
              · have hi8I : (i : Int) < 8 := by omega
                obtain ⟨P, hP⟩ : ∃ P, 4 + i = P := ⟨_, rfl⟩
                have hPI : IntKind.i64.wrap (4 + (i : Int)) = (P : Int) := by rw [IntKind.wrap_i64]; omega
                have hPb : P < b.length := by rw [HN.out]; omega
                have hPn : (P : Int) < (n : Int) := by omega
                have hPn2 : P < n := by omega
                have hx := ((HB8.out.trans (hbl.mono HB8.out.size)).cell (p := ⟨g, o + P, none⟩) hg).trans (HC.out P (b.getD P 0) (by simp [List.getD, hPb]))
                have his : i < (sumP f).length := by rw [sumP_len]; exact hi8
                have hyy := (hbl.cell (p := ⟨g8, o8' + i, none⟩) hg8l).trans (HC8.out i ((sumP f).getD i 0) (by simp [List.getD, his]))
                obtain ⟨x, hxe⟩ : ∃ x, b.getD P 0 = x := ⟨_, rfl⟩
                obtain ⟨y, hye⟩ : ∃ y, (sumP f).getD i 0 = y := ⟨_, rfl⟩
                rw [hxe] at hx
                rw [hye] at hyy
                have HBL := Lib.hid hbl
                have HXE := Lib.hid hxe
                have HYE := Lib.hid hye
                have HP := Lib.hid hP
                clear hbl hxe hye hP hPb his
                by_cases hxy : x = y
                · have hxyb : (x != y) = false := by simp [hxy]
                  have HXY := Lib.hid hxy
                  clear hxy
                  go_wp2_with fail
                  go_quiet (fail)
                  all_goals
                    go_wp2_with fail
                    go_roundg (8 - (i + 1))
                    case measure => omega
                    case rel => exact ⟨i + 1, by omega, by go_num, fun j hj => by
                      by_cases e : j = i
                      · subst e; rw [HP.out, HXE.out, HYE.out]; exact HXY.out
                      · exact HEQ.out j (by omega), below_drewN HBL.out _⟩
                · have hxyb : (x != y) = true := by simp [hxy]
                  have HXY := Lib.hid hxy
                  clear hxy
                  go_wp2_with fail
                  go_quiet (fail)
                  all_goals
                    generalize hwx : World.drewN wr _ = wx
                    have hBx : Below W.heap.size W wx := by rw [← hwx]; exact below_drewN (HB8.out.trans (HBL.out.mono HB8.out.size)) _
                    obtain ⟨hst, hbX, hB⟩ := HNO.out wx hBx
                    have HX := Lib.hid hbX
                    have HBX := Lib.hid hB
                    have hP2 : R = none := HR3.out (fun e => by
                      have e1 := getD_part b 4 8 i hi8
                      rw [e, HYE.out, HP.out, HXE.out] at e1
                      exact HXY.out e1.symm)
                    have HP2 := Lib.hid hP2
                    clear hbX hB hP2 hwx hBx
                    go_wp2_with fail
                    exact bodyPost_ret (HEND.out _ HX.out _ _ _ rfl rfl rfl) rfl ⟨by rw [HP2.out]; exact rfl, HBX.out⟩
              · obtain rfl : i = 8 := by omega
                have hi8I : ¬ (((8 : Nat) : Int) < 8) := by omega
                have hsum : (b.drop 4).take 8 = sumP f := eight_eq (by rw [List.length_take, List.length_drop, HN.out]; omega) (sumP_len f) (fun i hi => by rw [getD_part _ _ _ _ hi]; exact HEQ.out i hi)
                have hRR := HR2.out hsum
                have hBr : Below W.heap.size W wr := HB8.out.trans (hbl.mono HB8.out.size)
                have ht := take_any 0 (.inl rfl) A1 d HCA.out f 1099511627776 (by omega) wr (HY1.out.below hBr) (by rw [HFL.out]; omega) (by have := HDd.out; rw [HFL.out]; omega)
                rw [HFL.out, show ((1099511627776 : Nat) : Int) = 1099511627776 from rfl] at ht
                have HRR := Lib.hid hRR
                have HBR := Lib.hid hBr
                have HT := Lib.hid ht
                clear hsum hRR hbl hBr ht HEQ HR2 HR3 hi
                go_wp2_with fail
                with_reducible refine HT.out.mono ?_
                rintro e w10 ⟨hp, b10⟩
                cases hT1 : takeNumP mostP f with
                | none =>
                  have hT1' : takeNumP 1099511627776 f = none := hT1
                  rw [hT1'] at hp
                  obtain ⟨x, hx1, hx2, rfl⟩ := hp
                  have hP2 : R = none := by rw [HRR.out]; unfold eyeP; rw [hT1]
                  have bG := Blk.new w10 127 (gotL 0 0 (.slice none 0 0) x (.slice none 0 0)).toArray
                  obtain ⟨q35, _, _, _⟩ := got_parts bG
                  have bX : Below W.heap.size W (w10.alloc (.cells (gotL 0 0 (.slice none 0 0) x (.slice none 0 0)).toArray 127)) := (HBR.out.trans (b10.mono HBR.out.size)).alloc (Nat.le_trans HBR.out.size b10.size) _
                  obtain ⟨hst, hbX, hB⟩ := HNO.out _ bX
                  have HX := Lib.hid hbX
                  have HBX := Lib.hid hB
                  have HP2 := Lib.hid hP2
                  clear hbX hB hP2 bX b10 bG hT1 hT1'
                  go_wp2_with fail
                  exact bodyPost_ret (HEND.out _ HX.out _ _ _ rfl rfl rfl) rfl ⟨by rw [HP2.out]; exact rfl, HBX.out⟩
                | some vr =>
                  obtain ⟨t1, r1⟩ := vr
                  have hT1' : takeNumP 1099511627776 f = some (t1, r1) := hT1
                  rw [hT1'] at hp
                  obtain ⟨A2, c2, rfl, hp2⟩ := (hp : TakeNum w10 A1 t1 r1 e)
                  obtain ⟨ht1, hr1⟩ := takeNumP_le hT1
                  rw [HFL.out] at hr1
                  have ht1I : (t1 : Int) ≤ 1099511627776 := by unfold mostP at ht1; omega
                  obtain ⟨m1, hm1⟩ : ∃ m, r1.length = m := ⟨_, rfl⟩
                  have bG := Blk.new w10 127 (gotL 0 t1 (.slice none 0 0) 0 (.slice A2 m1 c2)).toArray
                  have bX : Below W.heap.size W (w10.alloc (.cells (gotL 0 t1 (.slice none 0 0) 0 (.slice A2 m1 c2)).toArray 127)) := (HBR.out.trans (b10.mono HBR.out.size)).alloc (Nat.le_trans HBR.out.size b10.size) _
                  have hpX := hp2.below ((Below.refl _ w10).alloc (Nat.le_refl _) (.cells (gotL 0 t1 (.slice none 0 0) 0 (.slice A2 m1 c2)).toArray 127))
                  rw [hm1] at hr1 ⊢
                  obtain ⟨X1, hX1⟩ : ∃ X, w10.alloc (.cells (gotL 0 t1 (.slice none 0 0) 0 (.slice A2 m1 c2)).toArray 127) = X := ⟨_, rfl⟩
                  rw [hX1] at bG bX hpX
                  obtain ⟨q35, q36, _, _⟩ := got_parts bG
                  have ht2 := take_any 0 (.inl rfl) A2 c2 hpX.nul r1 1099511627776 (by omega) X1 hpX.byt (by omega) hpX.cap
                  rw [hm1, show ((1099511627776 : Nat) : Int) = 1099511627776 from rfl] at ht2
                  have HG1 := Lib.hid bG
                  have HBX1 := Lib.hid bX
                  have HP1 := Lib.hid hpX
                  have HM1 := Lib.hid hm1
                  have HT1 := Lib.hid hT1
                  have HT2 := Lib.hid ht2
                  have HX1 := Lib.hid hX1
                  clear hm1 bG bX hpX hX1 hT1 hT1' ht2 b10 hp2 ht1 HT
                  go_upto_region 23 with fail
                  rw [HX1.out]
                  go_wp2_with fail
                  with_reducible refine HT2.out.mono ?_
                  rintro e w11 ⟨hp, b11⟩
                  cases hT2 : takeNumP mostP r1 with
                  | none =>
                    have hT2' : takeNumP 1099511627776 r1 = none := hT2
                    rw [hT2'] at hp
                    obtain ⟨x, hx1, hx2, rfl⟩ := hp
                    have hP2 : R = none := by rw [HRR.out]; unfold eyeP; rw [HT1.out]; simp only; rw [hT2]
                    have bG := Blk.new w11 127 (gotL 0 0 (.slice none 0 0) x (.slice none 0 0)).toArray
                    obtain ⟨r35, _, _, _⟩ := got_parts bG
                    have bX : Below W.heap.size W (w11.alloc (.cells (gotL 0 0 (.slice none 0 0) x (.slice none 0 0)).toArray 127)) := (HBX1.out.trans (b11.mono HBX1.out.size)).alloc (Nat.le_trans HBX1.out.size b11.size) _
                    obtain ⟨hst, hbX, hB⟩ := HNO.out _ bX
                    have HX := Lib.hid hbX
                    have HBX := Lib.hid hB
                    have HP2 := Lib.hid hP2
                    clear hbX hB hP2 bX b11 bG hT2 hT2' q35 q36
                    go_wp2_with fail
                    exact bodyPost_ret (HEND.out _ HX.out _ _ _ rfl rfl rfl) rfl ⟨by rw [HP2.out]; exact rfl, HBX.out⟩
                  | some vr =>
                    obtain ⟨t2, r2⟩ := vr
                    have hT2' : takeNumP 1099511627776 r1 = some (t2, r2) := hT2
                    rw [hT2'] at hp
                    obtain ⟨A3, c3, rfl, hp2⟩ := (hp : TakeNum w11 A2 t2 r2 e)
                    obtain ⟨ht1, hr2⟩ := takeNumP_le hT2
                    rw [HM1.out] at hr2
                    have ht2I : (t2 : Int) ≤ 1099511627776 := by unfold mostP at ht1; omega
                    obtain ⟨m2, hm2⟩ : ∃ m, r2.length = m := ⟨_, rfl⟩
                    have bG := Blk.new w11 127 (gotL 0 t2 (.slice none 0 0) 0 (.slice A3 m2 c3)).toArray
                    have bX : Below X1.heap.size X1 (w11.alloc (.cells (gotL 0 t2 (.slice none 0 0) 0 (.slice A3 m2 c3)).toArray 127)) := b11.alloc b11.size _
                    have hpX := hp2.below ((Below.refl _ w11).alloc (Nat.le_refl _) (.cells (gotL 0 t2 (.slice none 0 0) 0 (.slice A3 m2 c3)).toArray 127))
                    rw [hm2] at hr2 ⊢
                    obtain ⟨X2, hX2⟩ : ∃ X, w11.alloc (.cells (gotL 0 t2 (.slice none 0 0) 0 (.slice A3 m2 c3)).toArray 127) = X := ⟨_, rfl⟩
                    rw [hX2] at bG bX hpX
                    obtain ⟨r35, r36, _, _⟩ := got_parts bG
                    have ht3 := take_any 1 (.inr rfl) A3 c3 hpX.nul r2 L (by omega) X2 hpX.byt (by omega) hpX.cap
                    rw [hm2] at ht3
                    have HG2 := Lib.hid bG
                    have HBX2 := Lib.hid bX
                    have HP2 := Lib.hid hpX
                    have HM2 := Lib.hid hm2
                    have HT3 := Lib.hid ht3
                    have HTT2 := Lib.hid hT2
                    have HX2 := Lib.hid hX2
                    clear hm2 bG bX hpX hX2 hT2 hT2' ht3 b11 hp2 ht1 q35 q36 HT2
                    go_upto_region 26 with fail
                    rw [HX2.out]
                    go_wp2_with fail
                    with_reducible refine HT3.out.mono ?_
                    rintro e w12 ⟨hp, b12⟩
                    have hRe : R = match takeTextP L r2 with | none => none | some (x, r) => if r = [] then some ⟨t1, t2, secP (12 + L), x⟩ else none := by
                      rw [HRR.out]
                      unfold eyeP
                      rw [HT1.out]
                      simp only
                      rw [HTT2.out]
                      simp only
                      cases takeTextP L r2 with
                      | none => rfl
                      | some xr => obtain ⟨x, r⟩ := xr; by_cases e : r = [] <;> simp [e]
                    cases hT3 : takeTextP L r2 with
                    | none =>
                      obtain ⟨x, hx1, hx2, rfl⟩ := TakePost.text_none hp hT3
                      have hP2 : R = none := by rw [hRe, hT3]
                      have bG := Blk.new w12 127 (gotL 0 0 (.slice none 0 0) x (.slice none 0 0)).toArray
                      obtain ⟨s35, _, _, _⟩ := got_parts bG
                      have bX : Below W.heap.size W (w12.alloc (.cells (gotL 0 0 (.slice none 0 0) x (.slice none 0 0)).toArray 127)) := ((HBX1.out.trans (HBX2.out.mono HBX1.out.size)).trans (b12.mono (Nat.le_trans HBX1.out.size HBX2.out.size))).alloc (Nat.le_trans (Nat.le_trans HBX1.out.size HBX2.out.size) b12.size) _
                      obtain ⟨hst, hbX, hB⟩ := HNO.out _ bX
                      have HX := Lib.hid hbX
                      have HBX := Lib.hid hB
                      have HPN := Lib.hid hP2
                      clear hbX hB hP2 bX b12 bG hT3 hRe r35 r36
                      go_wp2_with fail
                      exact bodyPost_ret (HEND.out _ HX.out _ _ _ rfl rfl rfl) rfl ⟨by rw [HPN.out]; exact rfl, HBX.out⟩
                    | some xr =>
                      obtain ⟨x, r⟩ := xr
                      obtain ⟨B, dB, A4, c4, rfl, hpB, hp4⟩ := TakePost.text_some hp hT3
                      rw [hT3] at hRe
                      simp only at hRe
                      obtain ⟨m4, hm4⟩ : ∃ m, r.length = m := ⟨_, rfl⟩
                      obtain ⟨mx, hmx⟩ : ∃ m, x.length = m := ⟨_, rfl⟩
                      rw [hm4, hmx]
                      have bG := Blk.new w12 127 (gotL 1 0 (.slice B mx dB) 0 (.slice A4 m4 c4)).toArray
                      have bX2 : Below X2.heap.size X2 (w12.alloc (.cells (gotL 1 0 (.slice B mx dB) 0 (.slice A4 m4 c4)).toArray 127)) := b12.alloc b12.size _
                      have bX1 : Below X1.heap.size X1 (w12.alloc (.cells (gotL 1 0 (.slice B mx dB) 0 (.slice A4 m4 c4)).toArray 127)) := HBX2.out.trans (bX2.mono HBX2.out.size)
                      have bX : Below W.heap.size W (w12.alloc (.cells (gotL 1 0 (.slice B mx dB) 0 (.slice A4 m4 c4)).toArray 127)) := HBX1.out.trans (bX1.mono HBX1.out.size)
                      have hpX := hpB.below ((Below.refl _ w12).alloc (Nat.le_refl _) (.cells (gotL 1 0 (.slice B mx dB) 0 (.slice A4 m4 c4)).toArray 127))
                      obtain ⟨X3, hX3⟩ : ∃ X, w12.alloc (.cells (gotL 1 0 (.slice B mx dB) 0 (.slice A4 m4 c4)).toArray 127) = X := ⟨_, rfl⟩
                      rw [hX3] at bG bX bX1 bX2 hpX
                      have g1 := HG1.out.fr (Fr.of_below bX1) (by have := HG1.out.lt; omega)
                      have g2 := HG2.out.fr (Fr.of_below bX2) (by have := HG2.out.lt; omega)
                      obtain ⟨s35, s36, _, s2⟩ := got_parts bG
                      obtain ⟨_, _, s1, _⟩ := got_parts g1
                      obtain ⟨_, _, s1', _⟩ := got_parts g2
                      obtain ⟨hst, hbX, hB⟩ := HNO.out _ bX
                      have HX := Lib.hid hbX
                      have HBX := Lib.hid hB
                      have HRe := Lib.hid hRe
                      have HX3 := Lib.hid hX3
                      have HM4 := Lib.hid hm4
                      have HMX := Lib.hid hmx
                      have HPX := Lib.hid hpX
                      have HBW := Lib.hid bX
                      clear hbX hB bX bX1 bX2 b12 bG hT3 hRe r35 r36 hX3 hm4 hmx hpX hpB hp4 g1 g2 HT3 hp
                      go_upto_region 29 with fail
                      rw [HX3.out]
                      by_cases hr0 : m4 = 0
                      · subst hr0
                        have hr : r = [] := List.length_eq_zero_iff.1 HM4.out
                        have hP2 : R = some ⟨t1, t2, secP (12 + L), x⟩ := by rw [HRe.out, if_pos hr]
                        obtain ⟨S, hS⟩ : ∃ S, secP (12 + L) = S := ⟨_, rfl⟩
                        have hdiv : (E : Int) / 64 = (S : Int) := by have := HD.out; omega
                        rw [hS] at hP2
                        have hst2 := st49_blk HX.out rfl (t1 : Int) (t2 : Int) (S : Int) B mx dB
                        have HPN := Lib.hid hP2
                        clear hP2 hr hst hS
                        go_wp2_with fail
                        refine bodyPost_ret (HEND.out _ HX.out _ _ _ rfl rfl rfl) rfl ⟨?_, Below.setRow (HBl.out.trans (HBW.out.mono HBl.out.size)) (Nat.le_refl _) _⟩
                        rw [HPN.out]
                        have hp0 := HPX.out
                        have hFr : Fr (fun k => k = w.heap.size) X3 (X3.setRow w.heap.size (recL t1 t2 S (.slice B mx dB)).toArray) := (Fr.refl (fun k => k = w.heap.size) X3).setRow (fun _ => rfl) _
                        have hgb : ∀ a, B = some a → a.block = g := fun a ha => by
                          obtain ⟨b1, e1, e2⟩ := hp0.blk a ha
                          obtain ⟨b2, e3, e4⟩ := HP2.out.blk b1 e1
                          obtain ⟨b3, e5, e6⟩ := HP1.out.blk b2 e3
                          rw [e2, e4, e6]
                          exact HBK.out b3 e5
                        refine ⟨B, dB, by rw [HMX.out]; rfl, ⟨hp0.byt.fr hFr (fun a ha _ e => ?_), fun a ha => ⟨_, rfl, hgb a ha⟩, hp0.cap, hp0.nul⟩⟩
                        rw [hgb a ha] at e
                        have := HB.out.cell (by rw [HN.out]; omega)
                        obtain ⟨g', o'', e1, e2, _⟩ := this
                        cases e1
                        omega
                      · have hr0I : (0 : Int) < (m4 : Int) := by omega
                        have hP2 : R = none := by
                          rw [HRe.out, if_neg]
                          intro e
                          have := HM4.out
                          rw [e] at this
                          exact hr0 this.symm
                        have HPN := Lib.hid hP2
                        clear hP2
                        go_wp2_with fail
                        exact bodyPost_ret (HEND.out _ HX.out _ _ _ rfl rfl rfl) rfl ⟨by rw [HPN.out]; exact rfl, HBX.out⟩
          · have hEI : (((E : Int) % 64) != 0) = true := by
              have : ¬ ((E : Int) % 64 = 0) := by omega
              simp [this]
            have hED : E < D := by have := HDm.out; omega
            by_cases hEn : n ≤ E
            · have hEnI : (n : Int) ≤ (E : Int) := by omega
              obtain ⟨hst, hbX, hB⟩ := HNO.out W (Below.refl _ _)
              have HX := Lib.hid hbX
              have HBX := Lib.hid hB
              have hP : R = none := HR.out.symm.trans (readP_out (.inr (by rw [HL.out, HN.out, HD.out]; omega)))
              have HP := Lib.hid hP
              clear hbX hB hP
              go_wp2_with fail
              exact bodyPost_ret (HEND.out _ HX.out _ _ _ rfl rfl rfl) rfl ⟨by rw [HP.out]; exact rfl, HBX.out⟩
            · have hEnI : (E : Int) < (n : Int) := by omega
              have hiE : E < b.length := by rw [HN.out]; omega
              have hx := HC.out E (b.getD E 0) (by simp [List.getD, hiE])
              obtain ⟨x, hxe⟩ : ∃ x, b.getD E 0 = x := ⟨_, rfl⟩
              rw [hxe] at hx
              have HXE := Lib.hid hxe
              clear hxe hiE
              by_cases hx0 : x = 0
              · subst hx0
                go_wp2_with fail
                go_round
                case rel => exact ⟨E + 1, by go_num, by omega, by omega, by omega, fun i h1 h2 => by
                  by_cases e : i = E
                  · rw [e]; exact HXE.out
                  · exact HZ.out i h1 (by omega)⟩
                case measure => simp [intOf]; omega
              · have hx0b : (x != 0) = true := by simp [hx0]
                obtain ⟨hst, hbX, hB⟩ := HNO.out W (Below.refl _ _)
                have HX := Lib.hid hbX
                have HBX := Lib.hid hB
                have hP : R = none := HR.out.symm.trans (readP_bad (.inr (any_at (i := E) (by rw [HL.out]; omega) (by rw [HL.out, HD.out]; omega) (by rw [HXE.out]; exact hx0))))
                have HP := Lib.hid hP
                clear hbX hB hP
                go_wp2_with fail
                exact bodyPost_ret (HEND.out _ HX.out _ _ _ rfl rfl rfl) rfl ⟨by rw [HP.out]; exact rfl, HBX.out⟩
end

end Go.Proofs.YtohadeijmmmcdaaDoor
