/-
  DrumApart: the walk.
-/
import Derived.Test.YtohadeijmmmcdaaApartW
namespace Go.Proofs.Ytohadeijmmmcdaa
open Go.RowKit

set_option maxRecDepth 100000 in
set_option maxHeartbeats 4000000 in
theorem apart_law (A : Option Addr) (c : Nat) (l : List ActD) (w : World) (hl : Acts w A l) (hm : l.length ≤ maxLen) :
    Calls Try.prog 3 #[.slice A l.length c] w fun e w' => e = .returned (.bool true) ∧ Below w.heap.size w w' := by
  unfold maxLen at hm
  by_cases h30 : 30 < l.length
  · have hb : decide ((30 : Int) < (l.length : Int)) = true := by simp; omega
    go_enter Try.func3, Try.ntmps3
    go_wp2_with fail
    refine (awake_any w).mono ?_
    rintro e w1 ⟨rfl, hb1⟩
    have HB1 := Lib.hid hb1
    clear hb1
    go_wp2_with fail
    go_ret
    exact ⟨rfl, HB1.out⟩
  · have hb : decide ((30 : Int) < (l.length : Int)) = false := by simp; omega
    have HL := Lib.hid hl
    clear hl
    go_enter Try.func3, Try.ntmps3
    go_wp2_with fail
    refine (new_drum 6 w (by omega) (by omega)).mono ?_
    rintro e w1 ⟨rfl, hd1, hb1⟩
    have HD1 := Lib.hid hd1
    have HB1 := Lib.hid hb1
    clear hd1 hb1
    go_wp2_with fail
    refine (new_drum 6 w1 (by omega) (by omega)).mono ?_
    rintro e w2 ⟨rfl, hd2, hb2⟩
    have hT : Two w.heap.size w w2 (w.heap.size + 1) (w1.heap.size + 1) w.heap.size w1.heap.size (DS.new 6) (DS.new 6) (.slice none 0 0) (.slice none 0 0) :=
      ⟨HD1.out.fr (Fr.of_below hb2) (fun k hk hf => by have := (HD1.out.lt hk).2; omega), hd2.mono HB1.out.size, fun k hk hk' => by
        have h1 := (HD1.out.lt hk).2
        rcases hk' with e | e | e
        · omega
        · omega
        · (cases e), HB1.out.trans (hb2.mono HB1.out.size)⟩
    have hI0 : AP 0 (DS.new 6) (DS.new 6) := ⟨⟨rfl, rfl⟩, ⟨rfl, rfl⟩, rfl, rfl, by simp [DS.new], by simp [DS.new], rfl, by decide⟩
    obtain ⟨p, hp⟩ : ∃ p, w.heap.size + 1 = p := ⟨_, rfl⟩
    obtain ⟨q, hq⟩ : ∃ q, w1.heap.size + 1 = q := ⟨_, rfl⟩
    obtain ⟨gp, hgp⟩ : ∃ gp, w.heap.size = gp := ⟨_, rfl⟩
    obtain ⟨gq, hgq⟩ : ∃ gq, w1.heap.size = gq := ⟨_, rfl⟩
    have hT' : Two w.heap.size w w2 p q gp gq (DS.new 6) (DS.new 6) (.slice none 0 0) (.slice none 0 0) := by
      rw [← hp, ← hq, ← hgp, ← hgq]; exact hT
    rw [hp, hq]
    have HT := Lib.hid hT'
    have HI0 := Lib.hid hI0
    clear hd2 hb2 hT hT' hI0 hp hq hgp hgq
    go_wp2_with fail
    go_loopw [5] (fun t wr => ∃ (i : Nat) (D O : DS) (v u : Value), i ≤ l.length ∧ t = .int .i64 i ∧ AP i D O ∧ Two w.heap.size w wr p q gp gq D O v u)
      (fun t _ => l.length - (intOf t).toNat)
    case atStart => exact ⟨0, _, _, _, _, Nat.zero_le _, rfl, HI0.out, HT.out⟩
    case round =>
      obtain ⟨i, D, O, v, u, hi, rfl, hap, ht⟩ := hrel
      have HAP := Lib.hid hap
      have HTT := Lib.hid ht
      have HBW := Lib.hid ht.bel.size
      clear hap ht
      by_cases hlt : i < l.length
      · obtain ⟨g, off, rfl, hg, hact⟩ := HL.out i hlt
        obtain ⟨a, ha⟩ : ∃ a, l[i] = a := ⟨_, rfl⟩
        rw [ha] at hact
        obtain ⟨⟨wa0, wa1⟩, ⟨wb0, wb1⟩, c0, c1, ⟨AB, cb, c2, _⟩, ⟨AM, cm, c3, _⟩⟩ := hact
        have d0 : wr.cell? ⟨g, off + i * 4, none⟩ = some (.int .i64 a.what) := (HTT.out.bel.cell (p := ⟨g, _, none⟩) hg).trans c0
        have d1 : wr.cell? ⟨g, off + i * 4 + 1, none⟩ = some (.int .i64 a.where_) := (HTT.out.bel.cell (p := ⟨g, _, none⟩) hg).trans c1
        have d2 : wr.cell? ⟨g, off + i * 4 + 2, none⟩ = some (.slice AB a.b.length cb) := (HTT.out.bel.cell (p := ⟨g, _, none⟩) hg).trans c2
        have d3 : wr.cell? ⟨g, off + i * 4 + 3, none⟩ = some (.slice AM a.m.length cm) := (HTT.out.bel.cell (p := ⟨g, _, none⟩) hg).trans c3
        obtain ⟨aw, haw⟩ : ∃ aw, a.what = aw := ⟨_, rfl⟩
        obtain ⟨ax, hax⟩ : ∃ ax, a.where_ = ax := ⟨_, rfl⟩
        rw [haw] at d0 wa0 wa1
        rw [hax] at d1 wb0 wb1
        have hi255 : (i : Int) + 1 ≤ 255 := by omega
        have WB := Lib.hid (show -9223372036854775808 ≤ ax ∧ ax ≤ 9223372036854775807 from ⟨wb0, wb1⟩)
        clear c0 c1 c2 c3 ha haw hax wa0 wa1 wb0 wb1
        go_wp2_with fail
        refine (full_any _ _).mono ?_
        rintro e wf ⟨rfl, hbf, hblf⟩
        rw [World.size_alloc] at hbf hblf
        have hblr : Below wr.heap.size wr wf := ((Below.refl _ wr).alloc (Nat.le_refl _) _).trans (hblf.mono (Nat.le_succ _))
        have e0 : wf.cell? ⟨wr.heap.size, 0, none⟩ = some (.int .i64 aw) := (hblf.cell (p := ⟨wr.heap.size, 0, none⟩) (Nat.lt_succ_self _)).trans (by rw [World.cell?_alloc_new]; rfl)
        have e1 : wf.cell? ⟨wr.heap.size, 1, none⟩ = some (.int .i64 ax) := (hblf.cell (p := ⟨wr.heap.size, 1, none⟩) (Nat.lt_succ_self _)).trans (by rw [World.cell?_alloc_new]; rfl)
        have htf := HTT.out.fr hblr HBW.out
        have hbyf : Byt wf (some ⟨wr.heap.size + 1, 0, none⟩) (List.replicate 64 ((i : Int) + 1)) := hbf.byt (by intro x hx; have := List.eq_of_mem_replicate hx; omega)
        have HTF := Lib.hid htf
        have HBY := Lib.hid hbyf
        have HSF := Lib.hid hblf.size
        have HSW := Lib.hid (Nat.le_trans HBW.out hblr.size)
        have HPL := Lib.hid (show p < wr.heap.size ∧ q < wr.heap.size from ⟨(HTT.out.d.lt (.inl rfl)).2, (HTT.out.o.lt (.inl rfl)).2⟩)
        clear hbf hblf hblr htf hbyf d0 d1 d2 d3
        by_cases h1 : aw = 1
        · have z1 : (aw == 1) = true := by simpa using h1
          clear h1
          go_wp2_with fail
          refine (pick_any ax 6 wf (by omega) WB.out (by omega)).mono ?_
          rintro e wg ⟨rfl, rfl⟩
          have hk0 : 0 ≤ ax % ((6 : Nat) : Int) ∧ ax % ((6 : Nat) : Int) < 6 := by omega
          obtain ⟨k, hk⟩ : ∃ k : Nat, ax % ((6 : Nat) : Int) = (k : Int) := ⟨(ax % ((6 : Nat) : Int)).toNat, by omega⟩
          rw [hk] at hk0 ⊢
          have hk6 : k < 6 := by omega
          have hwr := write_any w.heap.size p gp v D (k : Int) _ 64 (List.replicate 64 ((i : Int) + 1)) wf HTF.out.d HBY.out (fun a e => by cases e; have := HPL.out; simp; omega) (by have := HAP.out.wd; omega) HSW.out
          rw [List.length_replicate] at hwr
          clear hk hk0
          by_cases h4 : k = 4
          · subst h4
            obtain ⟨q1, q2, q3⟩ := ap_four HAP.out (b := List.replicate 64 ((i : Int) + 1)) (by simp)
            rw [q1] at hwr
            have hwr' : Calls Try.prog 11 #[.pointer (some ⟨p, 0, none⟩), .int .i64 4, .slice (some ⟨wr.heap.size + 1, 0, none⟩) 64 64] wf _ := hwr
            have Q2 := Lib.hid q2
            have Q3 := Lib.hid q3
            clear hwr q1 q3
            go_wp2_with fail
            refine hwr'.mono ?_
            clear hwr'
            rintro e w3 ⟨rfl, ⟨v3, hd3, hft3⟩, hf3⟩
            have hby3 : Byt w3 (some ⟨wr.heap.size + 1, 0, none⟩) (List.replicate 64 ((i : Int) + 1)) := HBY.out.fr hf3 (fun a e hk => by
              cases e
              have := (HTT.out.d.lt hk).2
              simp at this
              omega)
            have ht3 := HTF.out.left HSW.out hd3 hft3 hf3
            have hwo := write_any w.heap.size q gq u O ((4 : Nat) : Int) _ 64 (List.replicate 64 ((i : Int) + 1)) w3 ht3.o hby3 (fun a e => by cases e; have := HPL.out; simp; omega) (by have := HAP.out.wo; omega) ht3.bel.size
            rw [List.length_replicate, q2] at hwo
            have hwo' : Calls Try.prog 11 #[.pointer (some ⟨q, 0, none⟩), .int .i64 4, .slice (some ⟨wr.heap.size + 1, 0, none⟩) 64 64] w3 _ := hwo
            have HT3 := Lib.hid ht3
            clear hd3 hft3 hf3 hby3 ht3 hwo q2
            go_wp2_with fail
            refine hwo'.mono ?_
            clear hwo'
            rintro e w4 ⟨rfl, ⟨u4, hd4, hft4⟩, hf4⟩
            have HT4 := Lib.hid (HT3.out.right HT3.out.bel.size hd4 hft4 hf4)
            clear hd4 hft4 hf4
            go_wp2_with fail
            exact ⟨⟨i + 1, _, _, _, _, by omega, by go_num, Q3.out, HT4.out⟩, by simp [intOf]; omega⟩
          · have h4b : ((k : Int) == 4) = false := by simp; omega
            obtain ⟨q1, q3⟩ := ap_other HAP.out (b := List.replicate 64 ((i : Int) + 1)) (by simp) hk6 h4
            rw [q1] at hwr
            have Q3 := Lib.hid q3
            clear q1 q3 h4
            go_wp2_with fail
            refine hwr.mono ?_
            clear hwr
            rintro e w3 ⟨rfl, ⟨v3, hd3, hft3⟩, hf3⟩
            have HT3 := Lib.hid (HTF.out.left HSW.out hd3 hft3 hf3)
            clear hd3 hft3 hf3
            go_wp2_with fail
            exact ⟨⟨i + 1, _, _, _, _, by omega, by go_num, Q3.out, HT3.out⟩, by simp [intOf]; omega⟩
        · have z1 : (aw == 1) = false := by simpa using h1
          by_cases h2 : aw = 2
          · have z2 : (aw == 2) = true := by simpa using h2
            clear h1 h2
            go_wp2_with fail
            refine (sync_any w.heap.size p gp v D wf HTF.out.d (by have := HAP.out.wd; omega)).mono ?_
            rintro e w3 ⟨rfl, ⟨v3, hd3, hft3⟩, hf3⟩
            have ht3 := HTF.out.left HSW.out hd3 hft3 hf3
            have HT3 := Lib.hid ht3
            clear hd3 hft3 hf3 ht3
            go_wp2_with fail
            refine (sync_any w.heap.size q gq u O w3 HT3.out.o (by have := HAP.out.wo; omega)).mono ?_
            rintro e w4 ⟨rfl, ⟨u4, hd4, hft4⟩, hf4⟩
            have HT4 := Lib.hid (HT3.out.right HT3.out.bel.size hd4 hft4 hf4)
            clear hd4 hft4 hf4
            go_wp2_with fail
            exact ⟨⟨i + 1, _, _, _, _, by omega, by go_num, ap_sync HAP.out, HT4.out⟩, by simp [intOf]; omega⟩
          · have z2 : (aw == 2) = false := by simpa using h2
            by_cases h5 : aw = 5
            · have z5 : (aw == 5) = true := by simpa using h5
              clear h1 h2 h5
              have htA : Two w.heap.size w (wf.alloc (.cells #[] 5)) p q gp gq D O v u := HTF.out.fr ((Below.refl _ wf).alloc (Nat.le_refl _) _) HSW.out
              have hst := start_any w.heap.size p gp v D (some ⟨wf.heap.size, 0, none⟩) 0 [] _ htA.d (Byt.nil _ _) (fun a e hk => by cases e; have := (HTF.out.d.lt hk).2; simp at this) (by have := HAP.out.wd; omega) (by simp)
              simp only [List.length_nil] at hst
              have HTA := Lib.hid htA
              clear htA
              go_wp2_with fail
              refine hst.mono ?_
              clear hst
              rintro e w3 ⟨rfl, hd3, hf3⟩
              have ht3 := HTA.out.left HTA.out.bel.size hd3 (Foot.nil _ _) hf3
              have htB : Two w.heap.size w (w3.alloc (.cells #[] 5)) p q gp gq (D.start []) O (.slice none 0 0) u := ht3.fr ((Below.refl _ w3).alloc (Nat.le_refl _) _) ht3.bel.size
              have hso := start_any w.heap.size q gq u O (some ⟨w3.heap.size, 0, none⟩) 0 [] _ htB.o (Byt.nil _ _) (fun a e hk => by cases e; have := (ht3.o.lt hk).2; simp at this) (by have := HAP.out.wo; omega) (by simp)
              simp only [List.length_nil] at hso
              have HTB := Lib.hid htB
              clear hd3 hf3 ht3 htB
              go_wp2_with fail
              refine hso.mono ?_
              clear hso
              rintro e w4 ⟨rfl, hd4, hf4⟩
              have HT4 := Lib.hid (HTB.out.right HTB.out.bel.size hd4 (Foot.nil _ _) hf4)
              clear hd4 hf4
              go_wp2_with fail
              exact ⟨⟨i + 1, _, _, _, _, by omega, by go_num, ap_start HAP.out HTT.out.d.ok HTT.out.o.ok, HT4.out⟩, by simp [intOf]; omega⟩
            · have z5 : (aw == 5) = false := by simpa using h5
              clear h1 h2 h5
              go_wp2_with fail
              exact ⟨⟨i + 1, _, _, _, _, by omega, by go_num, ap_skip HAP.out, HTF.out⟩, by simp [intOf]; omega⟩
      · obtain rfl : i = l.length := by omega
        have hr1 := read_ok w.heap.size p gp v D 4 wr HTT.out.d HAP.out.d.off (by rw [HAP.out.nd]; omega) (by have := HAP.out.wd; omega)
        have hr1' : Calls Try.prog 14 #[.pointer (some ⟨p, 0, none⟩), .int .i64 4] wr _ := hr1
        clear hr1
        go_wp2_with fail
        refine hr1'.mono ?_
        clear hr1'
        rintro e w3 ⟨g1, rfl, hb1, hg1, hbl1⟩
        have ht3 := HTT.out.fr hbl1 HBW.out
        have hr2 := read_ok w.heap.size q gq u O 4 w3 ht3.o HAP.out.o.off (by rw [HAP.out.no_]; omega) (by have := HAP.out.wo; omega)
        have hr2' : Calls Try.prog 14 #[.pointer (some ⟨q, 0, none⟩), .int .i64 4] w3 _ := hr2
        have HT3 := Lib.hid ht3
        have HB1 := Lib.hid hb1
        clear hr2 hb1 hg1 hbl1 ht3
        go_wp2_with fail
        refine hr2'.mono ?_
        clear hr2'
        rintro e w4 ⟨g2, rfl, hb2, hg2, hbl2⟩
        have ht4 := HT3.out.fr hbl2 HT3.out.bel.size
        have hr3 := read_ok w.heap.size q gq u O 3 w4 ht4.o HAP.out.o.off (by rw [HAP.out.no_]; omega) (by have := HAP.out.wo; omega)
        have hr3' : Calls Try.prog 14 #[.pointer (some ⟨q, 0, none⟩), .int .i64 3] w4 _ := hr3
        have HT4 := Lib.hid ht4
        have HB1' := Lib.hid (HB1.out.fr (Fr.of_below hbl2) (fun h => by have := HB1.out.lt; omega))
        have HB2 := Lib.hid hb2
        clear hr3 hb2 hg2 hbl2 ht4 HB1
        go_wp2_with fail
        refine hr3'.mono ?_
        clear hr3'
        rintro e w5 ⟨g3, rfl, hb3, hg3, hbl3⟩
        have ht5 := HT4.out.fr hbl3 HT4.out.bel.size
        have hs1 := DS.now_sec HTT.out.d.ok (k := 4) (by rw [HAP.out.nd]; omega)
        have hs2 := DS.now_sec HTT.out.o.ok (k := 4) (by rw [HAP.out.no_]; omega)
        have b1 := (HB1'.out.fr (Fr.of_below hbl3) (fun h => by have := HB1'.out.lt; omega)).byt hs1.2
        have b2 := (HB2.out.fr (Fr.of_below hbl3) (fun h => by have := HB2.out.lt; omega)).byt hs2.2
        have hby := bytes_any _ _ 64 64 _ _ w5 b1 b2 (by rw [hs1.1]; omega) (by rw [hs2.1]; omega)
        rw [hs1.1, hs2.1, HAP.out.same] at hby
        simp only [decide_true] at hby
        have HT5 := Lib.hid ht5
        have HB3 := Lib.hid hb3
        clear hb3 hg3 hbl3 ht5 hs1 hs2 b1 b2
        go_wp2_with fail
        refine hby.mono ?_
        clear hby
        rintro e w6 ⟨rfl, m6, rfl⟩
        go_wp2_with fail
        refine (full_any 0 _).mono ?_
        rintro e w7 ⟨rfl, hb7, hbl7⟩
        have hz3 := HAP.out.three
        have hb3 : Blk w7 g3 60 (bys (List.replicate 64 0)).toArray := by
          rw [← hz3]
          exact Blk.fr (w := w5.drewN m6) HB3.out (Fr.of_below hbl7) (fun h => by have := HB3.out.lt; exact absurd h (by simpa using this))
        have hby2 := bytes_any _ _ 64 64 _ _ w7 (hb3.byt (by simp)) (hb7.byt (by simp)) (by simp) (by simp)
        simp only [List.length_replicate, decide_true] at hby2
        have hw7 : Below w.heap.size w w7 := HT5.out.bel.trans (show Below w.heap.size w5 w7 from ⟨hbl7.os, hbl7.tape, hbl7.output, hbl7.size, fun k hk => hbl7.block k (Nat.lt_of_lt_of_le hk HT5.out.bel.size)⟩)
        have HW7 := Lib.hid hw7
        clear hb7 hbl7 hz3 hb3 hw7
        go_wp2_with fail
        refine hby2.mono ?_
        clear hby2
        rintro e w8 ⟨rfl, m8, rfl⟩
        go_wp2_with fail
        refine (awake_any _).mono ?_
        rintro e w9 ⟨rfl, hb9⟩
        have HW9 := Lib.hid hb9
        clear hb9
        go_wp2_with fail
        go_ret
        refine ⟨rfl, HW7.out.trans ?_⟩
        have h9 := HW9.out
        exact ⟨h9.os, h9.tape, h9.output, h9.size, fun k hk => h9.block k (Nat.lt_of_lt_of_le hk HW7.out.size)⟩

end Go.Proofs.Ytohadeijmmmcdaa
