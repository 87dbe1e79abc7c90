/-
  DrumKeeps: the walk.
-/
import Derived.Test.YtohadeijmmmcdaaKeepsP
namespace Go.Proofs.Ytohadeijmmmcdaa
open Go.RowKit

set_option maxRecDepth 100000 in
set_option maxHeartbeats 4000000 in
theorem keeps_law (a : Int) (AL : Option Addr) (cl : Nat) (later : List Int) (AM : Option Addr) (cm : Nat) (M : List Int) (w : World) (ha : 0 ≤ a ∧ a ≤ 255) (hL : Byt w AL later) (hlm : later.length ≤ maxLen) (hM : Byt w AM M) (hmm : M.length ≤ maxLen) :
    Calls Try.prog 4 #[.int .u8 a, .slice AL later.length cl, .slice AM M.length cm] w fun e w' => e = .returned (.bool true) ∧ Below w.heap.size w w' := by
  have HMM := Lib.hid hmm
  unfold maxLen at hlm hmm
  by_cases h6 : 6 < later.length
  · have hb : decide ((6 : Int) < (later.length : Int)) = true := by simp; omega
    go_enter Try.func4, Try.ntmps4
    go_wp2_with fail
    refine (awake_any w).mono ?_
    rintro e w1 ⟨rfl, hb1⟩
    have HB1 := Lib.hid hb1
    clear hb1
    go_wp2_with fail
    go_ret
    exact ⟨rfl, HB1.out⟩
  · have hb : decide ((6 : Int) < (later.length : Int)) = false := by simp; omega
    have HL := Lib.hid hL
    have HM := Lib.hid hM
    have HAB := Lib.hid ha
    clear hL hM ha
    go_enter Try.func4, Try.ntmps4
    go_wp2_with fail
    refine (new_drum 3 w (by omega) (by omega)).mono ?_
    rintro e w1 ⟨rfl, hd1, hb1⟩
    have HD1 := Lib.hid hd1
    have HB1 := Lib.hid hb1
    clear hd1 hb1
    go_wp2_with fail
    refine (full_any a w1).mono ?_
    rintro e w2 ⟨rfl, hb2, hbl2⟩
    have hd2 : IsDrum w.heap.size w2 (w.heap.size + 1) w.heap.size (.slice none 0 0) (DS.new 3) := HD1.out.fr (Fr.of_below hbl2) (fun k hk h => by have := (HD1.out.lt hk).2; omega)
    have hB2 : Below w.heap.size w w2 := HB1.out.trans (hbl2.mono HB1.out.size)
    obtain ⟨S0, hS0⟩ : ∃ S0, S0 = ((DS.new 3).write (1 : Nat) (List.replicate 64 a)).2 := ⟨_, rfl⟩
    obtain ⟨k1, k2, k3⟩ := ki_zero a later S0 hS0
    have hwr := write_any w.heap.size _ _ _ (DS.new 3) ((1 : Nat) : Int) _ 64 (List.replicate 64 a) w2 hd2 (hb2.byt (by intro x hx; have := List.eq_of_mem_replicate hx; rw [this]; exact HAB.out)) (fun b e => by cases e; have := (HD1.out.lt (.inl rfl)).2; simp; omega) (by decide) hB2.size
    rw [List.length_replicate, k1, ← hS0] at hwr
    have hwr' : Calls Try.prog 11 #[.pointer (some ⟨w.heap.size + 1, 0, none⟩), .int .i64 1, .slice (some ⟨w1.heap.size, 0, none⟩) 64 64] w2 _ := hwr
    have HD2 := Lib.hid hd2
    have HB2 := Lib.hid hB2
    have HK2 := Lib.hid k2
    have HK3 := Lib.hid k3
    have hS0w : S0.waits.length ≤ 1 := by rw [hS0]; simp [DS.write, DS.new]
    clear hb2 hbl2 hd2 hB2 hwr k1 k2 k3 hS0
    go_wp2_with fail
    refine hwr'.mono ?_
    clear hwr'
    rintro e w3 ⟨rfl, ⟨v3, hd3, -⟩, hf3⟩
    have hB3 : Below w.heap.size w w3 := HB2.out.trans (HD2.out.below hf3 (Nat.le_refl _) HB2.out.size)
    have hsy := sync_any w.heap.size _ _ v3 S0 w3 hd3 (by omega)
    rw [HK2.out] at hsy
    have HD3 := Lib.hid hd3
    have HB3 := Lib.hid hB3
    clear hd3 hf3 hB3
    go_wp2_with fail
    refine hsy.mono ?_
    clear hsy
    rintro e w4 ⟨rfl, ⟨v4, hd4, -⟩, hf4⟩
    have hB4 : Below w.heap.size w w4 := HB3.out.trans (HD3.out.below hf4 (Nat.le_refl _) HB3.out.size)
    obtain ⟨p, hp⟩ : ∃ p, w.heap.size + 1 = p := ⟨_, rfl⟩
    obtain ⟨gp, hgp⟩ : ∃ gp, w.heap.size = gp := ⟨_, rfl⟩
    have hd4' : IsDrum w.heap.size w4 p gp v4 S0.sync.2 := by rw [← hp, ← hgp]; exact hd4
    rw [hp]
    have HD4 := Lib.hid hd4'
    have HB4 := Lib.hid hB4
    clear hd4 hf4 hB4 hd4' hp hgp hS0w
    go_wp2_with fail
    go_loopw [8] (fun t wr => ∃ (i : Nat) (S : DS) (v : Value), i ≤ later.length ∧ t = .int .i64 i ∧ KI a later i S ∧ IsDrum w.heap.size wr p gp v S ∧ Below w.heap.size w wr)
      (fun t _ => later.length - (intOf t).toNat)
    case atStart => exact ⟨0, _, _, Nat.zero_le _, rfl, HK3.out, HD4.out, HB4.out⟩
    case round =>
      obtain ⟨i, S, v, hi, rfl, hki, hd, hbl⟩ := hrel
      have HKI := Lib.hid hki
      have HD := Lib.hid hd
      have HBL := Lib.hid hbl
      clear hki hd hbl
      by_cases hlt : i < later.length
      · obtain ⟨g, off, rfl, hg, hc⟩ := HL.out.at_ hlt
        have hci : wr.cell? ⟨g, off + i, none⟩ = some (.int .u8 later[i]) := (HBL.out.cell (p := ⟨g, _, none⟩) hg).trans hc
        obtain ⟨q1, q2⟩ := ki_write HKI.out hlt
        have hbd := HL.out.bd _ (List.getElem_mem hlt)
        obtain ⟨x, hx⟩ : ∃ x, later[i] = x := ⟨_, rfl⟩
        rw [hx] at hci q1 q2 hbd
        have Q2 := Lib.hid q2
        have HX := Lib.hid hbd
        clear hc q2 hx hbd
        go_wp2_with fail
        refine (full_any x wr).mono ?_
        rintro e wf ⟨rfl, hbf, hblf⟩
        have hdf := HD.out.fr (Fr.of_below hblf) (fun k hk h => by have := (HD.out.lt hk).2; omega)
        have hBf : Below w.heap.size w wf := HBL.out.trans (hblf.mono HBL.out.size)
        have hwl : S.waits.length ≤ 1000000000 := by rw [HKI.out.waits]; simp; omega
        have hwr := write_any w.heap.size p gp v S ((1 : Nat) : Int) _ 64 (List.replicate 64 x) wf hdf (hbf.byt (by intro y hy; have := List.eq_of_mem_replicate hy; rw [this]; exact HX.out)) (fun b e => by cases e; have := (HD.out.lt (.inl rfl)).2; simp; omega) hwl hBf.size
        rw [List.length_replicate, q1] at hwr
        have hwr' : Calls Try.prog 11 #[.pointer (some ⟨p, 0, none⟩), .int .i64 1, .slice (some ⟨wr.heap.size, 0, none⟩) 64 64] wf _ := hwr
        have HDF := Lib.hid hdf
        have HBF := Lib.hid hBf
        clear hbf hblf hdf hBf hwl hwr q1
        go_wp2_with fail
        refine hwr'.mono ?_
        clear hwr'
        rintro e w5 ⟨rfl, ⟨v5, hd5, -⟩, hf5⟩
        have hB5 : Below w.heap.size w w5 := HBF.out.trans (HDF.out.below hf5 (Nat.le_refl _) HBF.out.size)
        have HD5 := Lib.hid hd5
        have HB5 := Lib.hid hB5
        clear hd5 hf5 hB5
        go_wp2_with fail
        exact ⟨⟨i + 1, _, _, by omega, by go_num, Q2.out, HD5.out, HB5.out⟩, by simp [intOf]; omega⟩
      · obtain rfl : i = later.length := by omega
        have hwl : S.waits.length ≤ 1000000000 := by rw [HKI.out.waits]; simp; omega
        have hst := start_any w.heap.size p gp v S AM cm M wr HD.out (HM.out.fr (Fr.of_below HBL.out) (fun b e h0 h => by
            obtain ⟨g, off, e2, hg, _⟩ := HM.out.cell h0
            rw [e2] at e
            cases e
            have h2 : w.heap.size ≤ g := h
            omega)) (fun b e h0 hk => by
            obtain ⟨g, off, e2, hg, _⟩ := HM.out.cell h0
            rw [e2] at e
            cases e
            have h2 : w.heap.size ≤ g := (HD.out.lt hk).1
            omega) hwl HMM.out
        clear hwl
        go_wp2_with fail
        refine hst.mono ?_
        clear hst
        rintro e w5 ⟨rfl, hd5, hf5⟩
        have hB5 : Below w.heap.size w w5 := HBL.out.trans (HD.out.below hf5 (Nat.le_refl _) HBL.out.size)
        have hrd := read_ok w.heap.size p gp _ (S.start M) 1 w5 hd5 rfl (by simp [DS.start, landAll_len, HKI.out.n]) (by simp [DS.start])
        have hrd' : Calls Try.prog 14 #[.pointer (some ⟨p, 0, none⟩), .int .i64 1] w5 _ := hrd
        have HD5 := Lib.hid hd5
        have HB5 := Lib.hid hB5
        clear hd5 hf5 hB5 hrd
        go_wp2_with fail
        refine hrd'.mono ?_
        clear hrd'
        rintro e w6 ⟨g, rfl, hb6, hg6, hbl6⟩
        have hd6 := HD5.out.fr (Fr.of_below hbl6) (fun k hk h => by have := (HD5.out.lt hk).2; omega)
        have hB6 : Below w.heap.size w w6 := HB5.out.trans (hbl6.mono HB5.out.size)
        obtain ⟨s, hs⟩ : ∃ s, (S.start M).now 1 = s := ⟨_, rfl⟩
        have hws := ki_start HKI.out M
        rw [hs] at hws hb6
        have HSS := Lib.hid hs
        have HWS := Lib.hid hws
        have HBB := Lib.hid hb6
        have HD6 := Lib.hid hd6
        have HB6 := Lib.hid hB6
        have HGN := Lib.hid (show g ≠ p ∧ g ≠ gp from ⟨fun e => by have := (HD5.out.lt (.inl rfl)).2; omega, fun e => by have := (HD5.out.lt (.inr (.inl rfl))).2; omega⟩)
        clear hs hws hb6 hg6 hbl6 hd6 hB6
        go_wp2_with fail
        go_loopw [11] (fun t wr2 => ∃ (k m : Nat), k ≤ 8 ∧ t = .int .i64 k ∧ wr2 = w6.drewN m) (fun t _ => 8 - (intOf t).toNat)
        case atStart => exact ⟨0, 0, by omega, rfl, rfl⟩
        case round =>
          obtain ⟨k, m, hk8, rfl, rfl⟩ := hrel
          by_cases hk : k < 8
          · obtain ⟨v0, hv0, hwd⟩ := HWS.out.2 k hk
            have hcell : ∀ j, j < 8 → w6.cell? ⟨g, 8 * k + j, none⟩ = some (.int .u8 v0) := fun j hj => by
              have hl : 8 * k + j < s.length := by rw [HWS.out.1]; omega
              rw [HBB.out.cell]
              have := hwd j hj
              simp only [List.getD, List.getElem?_eq_getElem hl, Option.getD_some] at this
              simp [bys_get, List.getElem?_eq_getElem hl, this]
            have hc0 := hcell 0 (by omega)
            rw [Nat.add_zero] at hc0
            have HC := Lib.hid hcell
            have HV := Lib.hid hv0
            clear hv0 hwd hcell
            go_wp2_with fail
            go_loopw [12, 13] (fun ws t wr3 => ∃ (i m3 : Nat) (b : Bool), i ≤ later.length ∧ t = .int .i64 i ∧ ws = .bool b ∧ Hid (b = decide (v0 = a ∨ v0 ∈ later.take i)) ∧ wr3 = w6.drewN m3) (fun _ t _ => later.length - (intOf t).toNat)
            case atStart => exact ⟨0, m, v0 == a, by omega, rfl, rfl, Lib.hid (by rw [Bool.eq_iff_iff]; simp), rfl⟩
            case round =>
              obtain ⟨i, m3, b, hi, rfl, rfl, hbv, rfl⟩ := hrel
              by_cases hil : i < later.length
              · obtain ⟨gl, ol, rfl, hgl, hcl⟩ := HL.out.at_ hil
                have hcl6 : w6.cell? ⟨gl, ol + i, none⟩ = some (.int .u8 later[i]) := (HB6.out.cell (p := ⟨gl, _, none⟩) hgl).trans hcl
                have htk : later.take (i + 1) = later.take i ++ [later[i]] := List.take_succ_eq_append_getElem hil
                obtain ⟨x, hx⟩ : ∃ x, later[i] = x := ⟨_, rfl⟩
                rw [hx] at hcl6 htk
                have HTK := Lib.hid htk
                clear hcl hx htk
                cases b with
                | true =>
                  go_wp2_with fail
                  go_quiet (fail)
                  go_wp2_with fail
                  refine ⟨⟨i + 1, _, true, by omega, by go_num, rfl, Lib.hid ?_, rfl⟩, by simp [intOf]; omega⟩
                  have h1 := hbv.out
                  rw [HTK.out]
                  simp only [true_eq_decide_iff] at h1
                  simp only [List.mem_append, true_eq_decide_iff]
                  rcases h1 with h1 | h1
                  · exact .inl h1
                  · exact .inr (.inl h1)
                | false =>
                  go_wp2_with fail
                  go_quiet (fail)
                  go_wp2_with fail
                  refine ⟨⟨i + 1, _, v0 == x, by omega, by go_num, rfl, Lib.hid ?_, rfl⟩, by simp [intOf]; omega⟩
                  have h1 := hbv.out
                  rw [HTK.out]
                  simp only [false_eq_decide_iff, not_or] at h1
                  rw [Bool.eq_iff_iff]
                  simp [h1.1, h1.2]
              · obtain rfl : i = later.length := by omega
                have hb1 : b = true := by
                  rw [hbv.out, List.take_length]
                  have := HV.out
                  simp only [List.mem_cons] at this
                  simpa using this
                subst hb1
                clear hbv
                go_wp2_with fail
                go_loopw [12, 14] (fun ws t wr4 => ∃ (j m4 : Nat), 1 ≤ j ∧ j ≤ 8 ∧ t = .int .i64 j ∧ ws = .bool true ∧ wr4 = w6.drewN m4) (fun _ t _ => 8 - (intOf t).toNat)
                case atStart => exact ⟨1, m3, by omega, by omega, rfl, rfl, rfl⟩
                case round =>
                  obtain ⟨j, m4, hj1, hj8, rfl, rfl, rfl⟩ := hrel
                  by_cases hjl : j < 8
                  · have hcj := HC.out j hjl
                    have e1 : IntKind.i64.wrap (8 * (k : Int)) = 8 * (k : Int) := IntWalk.i64_in _ (by omega)
                    have e2 : IntKind.i64.wrap (8 * (k : Int) + (j : Int)) = 8 * (k : Int) + (j : Int) := IntWalk.i64_in _ (by omega)
                    have b1 : (0 : Int) ≤ 8 * (k : Int) ∧ 8 * (k : Int) < 64 := by omega
                    have b2 : (0 : Int) ≤ 8 * (k : Int) + (j : Int) ∧ 8 * (k : Int) + (j : Int) < 64 := by omega
                    have n1 : (8 * (k : Int)).toNat = 8 * k := by omega
                    have n2 : (8 * (k : Int) + (j : Int)).toNat = 8 * k + j := by omega
                    go_wp2_with fail
                    go_quiet (fail)
                    go_wp2_with fail
                    exact ⟨⟨j + 1, _, by omega, by omega, by go_num, rfl, rfl⟩, by simp [intOf]; omega⟩
                  · obtain rfl : j = 8 := by omega
                    go_wp2_with fail
                    exact ⟨⟨k + 1, _, by omega, by go_num, rfl⟩, by simp [intOf]; omega⟩
          · obtain rfl : k = 8 := by omega
            have hfa := fail_any p _ _ _ _ (w6.drewN m) HD6.out.st
            go_wp2_with fail
            refine hfa.mono ?_
            clear hfa
            rintro e w7 ⟨rfl, hd7, hf7⟩
            have hD7 : IsDrum w.heap.size w7 p gp (.slice none 0 0) ({ S.start M with off := true } : DS) :=
              ⟨⟨HD6.out.ok.n1, HD6.out.ok.n2, HD6.out.ok.sure, HD6.out.ok.waits, HD6.out.ok.f0, HD6.out.ok.f1⟩, HD6.out.b1, HD6.out.b2, hd7, Blk.fr (w := w6.drewN m) HD6.out.sure hf7 (fun e => HD6.out.ne1 e.symm), World.ownsRow_nil _ _ _ _⟩
            have hf7' : Fr (fun k => k = p) w6 w7 := ⟨hf7.os, hf7.tape, hf7.output, hf7.size, hf7.block⟩
            have hB7 : Below w.heap.size w w7 := HB6.out.trans (hf7'.below HB6.out.size (fun k hk e => by have := HD6.out.b1; omega))
            have hBlk7 : Blk w7 g 60 (bys s).toArray := HBB.out.fr hf7' (fun e => by
              have h1 := HD6.out.st
              rw [← e] at h1
              exact absurd (Blk.inj h1 HBB.out).1 (by decide))
            have hdA : IsDrum w.heap.size (w7.alloc (.cells #[.int .u8 0] 5)) p gp (.slice none 0 0) ({ S.start M with off := true } : DS) := hD7.fr ((Fr.refl (fun _ => False) _).alloc _) (fun k hk f => f)
            have hby : Byt (w7.alloc (.cells #[.int .u8 0] 5)) (some ⟨w7.heap.size, 0, none⟩) [0] := Blk.byt (l := [0]) (Blk.new w7 5 _) (by simp)
            have hst := start_any w.heap.size p gp _ _ _ 1 [0] _ hdA hby (fun a e _ hd => by cases e; have := (hD7.lt hd).2; simp at this) (by simp [DS.start]) (by decide)
            simp only [List.length_cons, List.length_nil, Nat.zero_add] at hst
            have hBA : Below w.heap.size w (w7.alloc (.cells #[.int .u8 0] 5)) := hB7.alloc hB7.size _
            have HDA := Lib.hid hdA
            have HBA := Lib.hid hBA
            have HB7 := Lib.hid (hBlk7.alloc (.cells #[.int .u8 0] 5))
            clear hd7 hf7 hD7 hf7' hB7 hBlk7 hdA hby hBA
            go_wp2_with fail
            refine hst.mono ?_
            clear hst
            rintro e w8 ⟨rfl, hd8, hf8⟩
            have hB8 : Below w.heap.size w w8 := HBA.out.trans (HDA.out.below hf8 (Nat.le_refl _) HBA.out.size)
            have hBlk8 : Blk w8 g 60 (bys s).toArray := HB7.out.fr hf8 (fun hk => by
              rcases hk with e | e | e
              · exact HGN.out.1 e
              · exact HGN.out.2 e
              · cases e)
            have hsec : Sec s := by
              rw [← HSS.out]
              exact DS.now_sec HD6.out.ok (by simp [DS.start, landAll_len, HKI.out.n])
            have hrd2 := read_ok w.heap.size p gp _ _ 1 w8 hd8 rfl (by simp [DS.start, landAll_len, HKI.out.n]) (by simp [DS.start])
            rw [start_again, HSS.out] at hrd2
            have hrd2' : Calls Try.prog 14 #[.pointer (some ⟨p, 0, none⟩), .int .i64 1] w8 _ := hrd2
            have HB8 := Lib.hid hB8
            have HBK8 := Lib.hid hBlk8
            have HSEC := Lib.hid hsec
            clear hd8 hf8 hB8 hBlk8 hsec hrd2
            go_wp2_with fail
            refine hrd2'.mono ?_
            clear hrd2'
            rintro e w9 ⟨g2, rfl, hb9, hg9, hbl9⟩
            have hby2 := bytes_any _ _ 64 64 s s w9 ((HBK8.out.fr (Fr.of_below hbl9) (fun h => by have := HBK8.out.lt; omega)).byt HSEC.out.2) (hb9.byt HSEC.out.2) (by rw [HSEC.out.1]; omega) (by rw [HSEC.out.1]; omega)
            rw [HSEC.out.1] at hby2
            simp only [decide_true] at hby2
            have HB9 := Lib.hid (HB8.out.trans (hbl9.mono HB8.out.size))
            clear hb9 hg9 hbl9
            go_wp2_with fail
            refine hby2.mono ?_
            clear hby2
            rintro e w10 ⟨rfl, m10, rfl⟩
            go_wp2_with fail
            refine (awake_any _).mono ?_
            rintro e w11 ⟨rfl, hb11⟩
            have HB11 := Lib.hid hb11
            clear hb11
            go_wp2_with fail
            go_ret
            refine ⟨rfl, HB9.out.trans ?_⟩
            have h9 := HB11.out
            exact ⟨h9.os, h9.tape, h9.output, h9.size, fun k hk => h9.block k (Nat.lt_of_lt_of_le hk HB9.out.size)⟩

end Go.Proofs.Ytohadeijmmmcdaa
