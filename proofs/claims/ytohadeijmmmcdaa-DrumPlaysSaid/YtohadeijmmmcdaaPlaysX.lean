/-
  DrumPlays: the walk.
-/
import Derived.Test.YtohadeijmmmcdaaPlaysP
import Derived.Deep.RegionHeld3
import Derived.Deep.LoopGhost
import Derived.Deep.CutRange
import Derived.Deep.CutBlock
import Derived.BigQuiet
import Derived.Deep.QuietTactic
namespace Go.Proofs.Ytohadeijmmmcdaa
open Go.RowKit

theorem DS.write_len (S : DS) (k : Int) (b : List Int) : (S.write k b).2.sure.length = S.sure.length ∧ (S.write k b).2.waits.length ≤ S.waits.length + 1 := by
  unfold DS.write
  repeat' split
  all_goals simp
theorem DS.sync_len (S : DS) : S.sync.2.sure.length = S.sure.length ∧ S.sync.2.waits.length ≤ S.waits.length := by
  unfold DS.sync
  repeat' split
  all_goals simp [landAll_len, applyAll_len]
theorem DS.start_len (S : DS) (M : List Int) : (S.start M).sure.length = S.sure.length ∧ (S.start M).waits.length = 0 := by
  simp [DS.start, landAll_len]


theorem Pair.read_len {w wr : World} {p gp q : Nat} {S T : DS} (h : Pair w wr p gp q S T) (k : Int) : (S.read k).1.length ≤ 64 := by
  obtain ⟨⟨v, lv, u, ls, ws, hd, hr⟩, hbl⟩ := h
  unfold DS.read
  split
  · simp
  split
  · simp
  · have := (DS.now_sec hd.ok (k := k.toNat) (by omega)).1
    simp [this]
theorem Pair.on {w wr : World} {p gp q : Nat} {S T : DS} (h : Pair w wr p gp q S T) : Calls Try.prog 18 #[.pointer (some ⟨p, 0, none⟩)] wr fun e w' => e = .returned (.bool (!S.off)) ∧ w' = wr := by
  obtain ⟨⟨v, lv, u, ls, ws, hd, hr⟩, hbl⟩ := h
  exact (on_any p _ _ _ _ wr hd.st).mono fun _ _ h => ⟨h.1, h.2.symm⟩
theorem Pair.len {w wr : World} {p gp q : Nat} {S T : DS} (h : Pair w wr p gp q S T) : Calls Try.prog 24 #[.pointer (some ⟨p, 0, none⟩)] wr fun e w' => e = .returned (.int .i64 (S.sure.length : Int)) ∧ w' = wr := by
  obtain ⟨⟨v, lv, u, ls, ws, hd, hr⟩, hbl⟩ := h
  exact (len_any p gp _ _ _ _ wr hd.st).mono fun _ _ h => ⟨h.1, h.2.symm⟩
theorem Byt.drew {w : World} {A : Option Addr} {b : List Int} (h : Byt w A b) (m : Nat) : Byt (w.drewN m) A b := ⟨h.cell, h.bd⟩
theorem bytes_same (A1 A2 : Option Addr) (c1 c2 : Nat) (a : List Int) (w : World) (ha : Byt w A1 a) (hb : Byt w A2 a) (hla : a.length ≤ 64) (m : Nat) :
    Calls Try.prog 15 #[.slice A1 a.length c1, .slice A2 a.length c2] (w.drewN m) fun e w' => e = .returned (.bool true) ∧ ∃ k, w' = (w.drewN m).drewN k := by
  have h := bytes_any A1 A2 c1 c2 a a (w.drewN m) (ha.drew m) (hb.drew m) (by omega) (by omega)
  simpa using h

set_option maxRecDepth 100000 in
set_option maxHeartbeats 4000000 in
theorem plays_law (z : Int) (A : Option Addr) (c : Nat) (l : List ActD) (w : World) (hz : -9223372036854775808 ≤ z ∧ z ≤ 9223372036854775807) (hl : Acts w A l) (hm : l.length ≤ maxLen) :
    Calls Try.prog 6 #[.int .i64 z, .slice A l.length c] w fun e w' => e = .returned (.bool true) ∧ Below w.heap.size w w' := by
  unfold maxLen at hm
  by_cases hout : z < 1 ∨ 8192 < z
  · have HO := Lib.hid hout
    have hb : (decide (1 ≤ z) && decide (z ≤ 8192)) = false := by simp; omega
    go_enter Try.func6, Try.ntmps6
    clear hout
    rcases HO.out with h1 | h1
    · have h2 : decide (1 ≤ z) = false := by simp; omega
      have hnn := new_none z w (.inl h1)
      go_wp2_with fail
      refine hnn.mono ?_
      rintro e w1 ⟨rfl, rfl⟩
      clear hnn
      go_wp2_with fail
      refine (awake_any w).mono ?_
      rintro e w1 ⟨rfl, hb1⟩
      have HB1 := Lib.hid hb1
      clear hb1
      go_wp2_with fail
      go_ret
      exact ⟨rfl, HB1.out⟩
    · have h2 : decide (1 ≤ z) = true := by simp; omega
      have h3 : decide (z ≤ 8192) = false := by simp; omega
      have hnn := new_none z w (.inr h1)
      go_wp2_with fail
      refine hnn.mono ?_
      rintro e w1 ⟨rfl, rfl⟩
      clear hnn
      go_wp2_with fail
      refine (awake_any w).mono ?_
      rintro e w1 ⟨rfl, hb1⟩
      have HB1 := Lib.hid hb1
      clear hb1
      go_wp2_with fail
      go_ret
      exact ⟨rfl, HB1.out⟩
  obtain ⟨n, rfl⟩ : ∃ n : Nat, z = (n : Int) := ⟨z.toNat, by omega⟩
  have n1 : 1 ≤ n := by omega
  have n2 : n ≤ 8192 := by omega
  clear hz hout
  have HL := Lib.hid hl
  clear hl
  have z1 : decide (1 ≤ (n : Int)) = true := by simp; omega
  have z2 : decide ((n : Int) ≤ 8192) = true := by simp; omega
  by_cases hbig : 12 < n ∨ 60 < l.length
  · have HO := Lib.hid hbig
    have hnn := new_drum n w n1 n2
    clear hbig
    go_enter Try.func6, Try.ntmps6
    by_cases h12 : 12 < n
    · have h3 : decide ((12 : Int) < (n : Int)) = true := by simp; omega
      go_wp2_with fail
      refine hnn.mono ?_
      rintro e w1 ⟨rfl, _, hbb⟩
      have HBB := Lib.hid hbb
      clear hnn hbb
      go_wp2_with fail
      refine (awake_any w1).mono ?_
      rintro e w2 ⟨rfl, hb1⟩
      have HB1 := Lib.hid hb1
      clear hb1
      go_wp2_with fail
      go_ret
      exact ⟨rfl, HBB.out.trans (HB1.out.mono HBB.out.size)⟩
    · have h3 : decide ((12 : Int) < (n : Int)) = false := by simp; omega
      have h4 : decide ((60 : Int) < (l.length : Int)) = true := by simp; have := HO.out; omega
      go_wp2_with fail
      refine hnn.mono ?_
      rintro e w1 ⟨rfl, _, hbb⟩
      have HBB := Lib.hid hbb
      clear hnn hbb
      go_wp2_with fail
      refine (awake_any w1).mono ?_
      rintro e w2 ⟨rfl, hb1⟩
      have HB1 := Lib.hid hb1
      clear hb1
      go_wp2_with fail
      go_ret
      exact ⟨rfl, HBB.out.trans (HB1.out.mono HBB.out.size)⟩
  have h12 : n ≤ 12 := by omega
  have h60 : l.length ≤ 60 := by omega
  clear hbig n2
  have h3 : decide ((12 : Int) < (n : Int)) = false := by simp; omega
  have h4 : decide ((60 : Int) < (l.length : Int)) = false := by simp; omega
  have hnn := new_drum n w n1 (by omega)
  go_enter Try.func6, Try.ntmps6
  go_wp2_with fail
  refine hnn.mono ?_
  rintro e w1 ⟨rfl, hd1, hbb⟩
  have HD1 := Lib.hid hd1
  have HBB := Lib.hid hbb
  clear hnn hd1 hbb
  have hrn := rnew_any n w1 h12
  go_wp2_with fail
  refine hrn.mono ?_
  rintro e w2 ⟨lv, ls, rfl, hst, hown, hrb, hb2⟩
  have hP : Pair w w2 (w.heap.size + 1) w.heap.size w1.heap.size (DS.new n) (DS.new n) := by
    have hlen : (DS.new n).sure.length = n := by simp [DS.new]
    refine ⟨⟨.slice none 0 0, lv, .slice none 0 0, ls, [], HD1.out.fr (Fr.of_below hb2) (fun k hk h => ?_), DS.new_ok n1 (by omega), HBB.out.size, hst, ?_, ⟨hrb.1, fun i h1 h2 => ?_⟩, World.ownsRow_nil _ _ _ _, rfl, fun i h1 => absurd h1 (by simp)⟩, HBB.out.trans (hb2.mono HBB.out.size)⟩
    · have h1 := (HD1.out.lt hk).2
      have h2 : w1.heap.size ≤ k := h
      omega
    · rw [hlen]
      exact own_mono hown HBB.out.size
    · obtain ⟨g, c, cs, e, hb, hblk, ht⟩ := hrb.2 i h1 h2
      exact ⟨g, c, cs, e, Nat.le_trans HBB.out.size hb, hblk, ht⟩
  obtain ⟨p, hp⟩ : ∃ p, w.heap.size + 1 = p := ⟨_, rfl⟩
  obtain ⟨q, hq⟩ : ∃ q, w1.heap.size = q := ⟨_, rfl⟩
  obtain ⟨gp, hgp⟩ : ∃ gp, w.heap.size = gp := ⟨_, rfl⟩
  have hP' : Pair w w2 p gp q (DS.new n) (DS.new n) := by
    rw [← hp, ← hq, ← hgp]; exact hP
  rw [hp, hq]
  have HP := Lib.hid hP'
  clear hrn hst hown hrb hb2 hP hP' hp hq hgp HD1 HBB h3 h4 z1 z2
  go_wp2_with fail
  go_loopg [7] l.length (fun k t wr => ∃ (i : Nat) (S : DS), i ≤ l.length ∧ k = l.length - i ∧ t = .int .i64 i ∧ Pair w wr p gp q S S ∧ S.waits.length ≤ i ∧ S.sure.length = n)
  case atStart => exact ⟨0, _, Nat.zero_le _, rfl, rfl, HP.out, by simp [DS.new], by simp [DS.new]⟩
  case round =>
    obtain ⟨i, S, hi, rfl, rfl, hpr, hwl, hsl⟩ := hrel
    have HPR := Lib.hid hpr
    have HWL := Lib.hid hwl
    have HSL := Lib.hid hsl
    clear hpr hwl hsl HP
    by_cases hlt : i < l.length
    · obtain ⟨g, off, rfl, hg, hact⟩ := HL.out i hlt
      obtain ⟨a, ha⟩ : ∃ a, l[i] = a := ⟨_, rfl⟩
      rw [ha] at hact
      obtain ⟨⟨wa0, wa1⟩, ⟨wb0, wb1⟩, c0, c1, ⟨AB, cb, c2, hbB, _⟩, ⟨AM, cm, c3, hbM, _⟩⟩ := hact
      have d0 : wr.cell? ⟨g, off + i * 4, none⟩ = some (.int .i64 a.what) := (HPR.out.below.cell (p := ⟨g, _, none⟩) hg).trans c0
      have d1 : wr.cell? ⟨g, off + i * 4 + 1, none⟩ = some (.int .i64 a.where_) := (HPR.out.below.cell (p := ⟨g, _, none⟩) hg).trans c1
      have d2 : wr.cell? ⟨g, off + i * 4 + 2, none⟩ = some (.slice AB a.b.length cb) := (HPR.out.below.cell (p := ⟨g, _, none⟩) hg).trans c2
      have d3 : wr.cell? ⟨g, off + i * 4 + 3, none⟩ = some (.slice AM a.m.length cm) := (HPR.out.below.cell (p := ⟨g, _, none⟩) hg).trans c3
      obtain ⟨aw, haw⟩ : ∃ aw, a.what = aw := ⟨_, rfl⟩
      obtain ⟨ax, hax⟩ : ∃ ax, a.where_ = ax := ⟨_, rfl⟩
      obtain ⟨ab, hab⟩ : ∃ ab, a.b = ab := ⟨_, rfl⟩
      obtain ⟨am, ham⟩ : ∃ am, a.m = am := ⟨_, rfl⟩
      rw [haw] at d0 wa0 wa1
      rw [hax] at d1 wb0 wb1
      rw [hab] at d2 hbB
      rw [ham] at d3 hbM
      have HB := Lib.hid hbB
      have HM := Lib.hid hbM
      have WA := Lib.hid (show -9223372036854775808 ≤ aw ∧ aw ≤ 9223372036854775807 from ⟨wa0, wa1⟩)
      have WB := Lib.hid (show -9223372036854775808 ≤ ax ∧ ax ≤ 9223372036854775807 from ⟨wb0, wb1⟩)
      clear c0 c1 c2 c3 ha haw hax hab ham wa0 wa1 wb0 wb1 hbB hbM
      have hPA := HPR.out.alloc (.cells #[.int .i64 aw, .int .i64 ax, .slice AB ab.length cb, .slice AM am.length cm] 28)
      have hBX : Blk (wr.alloc (.cells #[.int .i64 aw, .int .i64 ax, .slice AB ab.length cb, .slice AM am.length cm] 28)) wr.heap.size 28 #[.int .i64 aw, .int .i64 ax, .slice AB ab.length cb, .slice AM am.length cm] := Blk.new wr _ _
      have HPA := Lib.hid hPA
      have HBX := Lib.hid hBX
      clear hPA hBX
      by_cases h80 : 80 < ab.length ∨ 80 < am.length
      · have HO := Lib.hid h80
        clear h80
        by_cases h8 : 80 < ab.length
        · have z1 : decide ((80 : Int) < (ab.length : Int)) = true := by simp; omega
          go_wp2_with fail
          refine (awake_any _).mono ?_
          rintro e w3 ⟨rfl, hb3⟩
          have HB3 := Lib.hid (HPA.out.below.trans (hb3.mono HPA.out.size))
          clear hb3
          go_wp2_with fail
          go_ret
          exact ⟨rfl, HB3.out⟩
        · have z1 : decide ((80 : Int) < (ab.length : Int)) = false := by simp; omega
          have z2 : decide ((80 : Int) < (am.length : Int)) = true := by simp; have := HO.out; omega
          go_wp2_with fail
          refine (awake_any _).mono ?_
          rintro e w3 ⟨rfl, hb3⟩
          have HB3 := Lib.hid (HPA.out.below.trans (hb3.mono HPA.out.size))
          clear hb3
          go_wp2_with fail
          go_ret
          exact ⟨rfl, HB3.out⟩
      have z1 : decide ((80 : Int) < (ab.length : Int)) = false := by simp; omega
      have z2 : decide ((80 : Int) < (am.length : Int)) = false := by simp; omega
      have H80 := Lib.hid h80
      clear h80
      have c0 := HBX.out.cell 0
      have c1 := HBX.out.cell 1
      have c2 := HBX.out.cell 2
      have c3 := HBX.out.cell 3
      simp at c0 c1 c2 c3
      go_upto_block 2 with fail
      clear d0 d1 d2 d3 c0 c1 c2 c3
      generalize wr.alloc (.cells #[.int .i64 aw, .int .i64 ax, .slice AB ab.length cb, .slice AM am.length cm] 28) = wb at HPA HBX ⊢
      obtain ⟨gb, hgb⟩ : ∃ gb, wr.heap.size = gb := ⟨_, rfl⟩
      rw [hgb] at HBX ⊢
      clear hgb HPR
      go_cut [] from 43 to 154 (fun wx => ∃ S' : DS, Pair w wx p gp q S' S' ∧ S'.waits.length ≤ i + 1 ∧ S'.sure.length = n ∧ Blk wx gb 28 #[.int .i64 aw, .int .i64 ax, .slice AB ab.length cb, .slice AM am.length cm])
      case first =>
        have c0 := HBX.out.cell 0
        have c1 := HBX.out.cell 1
        have c2 := HBX.out.cell 2
        have c3 := HBX.out.cell 3
        simp at c0 c1 c2 c3
        have hwl : S.waits.length ≤ 1000 := by have := HWL.out; omega
        have HWL2 := Lib.hid hwl
        clear hwl
        by_cases h1 : aw = 1
        · have y1 : (aw == 1) = true := by simpa using h1
          clear h1
          have hPD := HPA.out.drew 1
          have hBD : Blk wb.drew gb 28 #[.int .i64 aw, .int .i64 ax, .slice AB ab.length cb, .slice AM am.length cm] := HBX.out
          have hPD : Pair w wb.drew p gp q S S := hPD
          go_upto_region 15 with fail
          go_region_held3 (fun w' => w'.cell? ⟨gb, 1, none⟩ = some (.int .i64 ax) ∧ w'.cell? ⟨gb, 2, none⟩ = some (.slice AB ab.length cb)) (go_keep)
            (first
              | (go_at_call 11; refine (pair_dwrite w _ p gp q S _ ax AB cb ab (by assumption) HB.out (by have := HWL2.out; omega)).mono ?_; rintro e wx1 ⟨rfl, hp1, hk1⟩; have hb1 := hk1 _ _ _ (by assumption) (by decide); have k1 := hb1.cell 1; have k2 := hb1.cell 2; simp at k1 k2; clear hk1)
              | (go_at_call 20; refine (pair_rwrite w _ p gp q _ S ax AB cb ab (by assumption) HB.out (by have := HWL2.out; omega)).mono ?_; rintro e wx2 ⟨rfl, hp2, hk2⟩; have hb2 := hk2 _ _ _ (by assumption) (by decide); have l1 := hb2.cell 1; have l2 := hb2.cell 2; simp at l1 l2; clear hk2))
          all_goals
            go_wp2_with fail
            go_meet
            have hl2 := DS.write_len S ax ab
            exact ⟨(S.write ax ab).2, by assumption, by have := HWL.out; omega, by rw [hl2.1]; exact HSL.out, by assumption⟩
        have y1 : (aw == 1) = false := by simpa using h1
        by_cases h2 : aw = 2
        · have y2 : (aw == 2) = true := by simpa using h2
          clear h1 h2
          have hds := pair_dsync w wb p gp q S S HPA.out (by have := HWL2.out; omega)
          go_wp2_with fail
          refine hds.mono ?_
          clear hds
          rintro e wc ⟨rfl, hp1, hk1⟩
          have hb1 := hk1 _ _ _ HBX.out (by decide)
          have hrs := pair_rsync w wc p gp q S.sync.2 S hp1 (by have := HWL2.out; omega)
          have HB1 := Lib.hid hb1
          clear hb1 hk1 hp1 c0 c1 c2 c3
          go_wp2_with fail
          refine hrs.mono ?_
          clear hrs
          rintro e wd ⟨rfl, hp2, hk2⟩
          have hb2 := hk2 _ _ _ HB1.out (by decide)
          have HP2 := Lib.hid hp2
          have HB2 := Lib.hid hb2
          clear hb2 hk2 hp2
          go_wp2_with fail
          go_meet
          have hl2 := DS.sync_len S
          exact ⟨_, HP2.out, by have := HWL.out; omega, by rw [hl2.1]; exact HSL.out, HB2.out⟩
        have y2 : (aw == 2) = false := by simpa using h2
        by_cases h3 : aw = 3
        · have y3 : (aw == 3) = true := by simpa using h3
          clear h1 h2 h3
          have hds := pair_fuse w wb p gp q S S ax HPA.out WB.out.2
          go_wp2_with fail
          refine hds.mono ?_
          clear hds
          rintro e wc ⟨rfl, hp1, hk1⟩
          have hb1 := hk1 _ _ _ HBX.out (by decide)
          obtain ⟨lv, u, hr1⟩ := hp1.rblk
          have k1 := hb1.cell 1
          have q2 := hr1.cell 2
          have f2 := hr1.frozen 2
          simp at k1 q2 f2
          obtain ⟨hp2, hk2⟩ := hp1.rfuse WB.out.2
          have HP2 := Lib.hid hp2
          have HB2 := Lib.hid (hk2 _ _ _ hb1 (by decide))
          clear hb1 hk1 hp1 hr1 hk2 hp2 c0 c1 c2 c3
          go_wp2_with fail
          all_goals
            go_meet
            have HP3 := HP2.out
            have HB3 := HB2.out
            first
              | (have e : max ax 0 = ax := by omega
                 rw [e] at HP3 HB3
                 exact ⟨S.refuse ax, HP3, by have := HWL.out; simp [DS.refuse]; omega, by simp [DS.refuse]; exact HSL.out, HB3⟩)
              | (have e : max ax 0 = 0 := by omega
                 rw [e] at HP3 HB3
                 exact ⟨S.refuse ax, HP3, by have := HWL.out; simp [DS.refuse]; omega, by simp [DS.refuse]; exact HSL.out, HB3⟩)
        have y3 : (aw == 3) = false := by simpa using h3
        by_cases h4 : aw = 4
        · have y4 : (aw == 4) = true := by simpa using h4
          clear h1 h2 h3 h4
          have hds := pair_fail w wb p gp q S S HPA.out
          go_wp2_with fail
          refine hds.mono ?_
          clear hds
          rintro e wc ⟨rfl, hp1, hk1⟩
          have hb1 := hk1 _ _ _ HBX.out (by decide)
          obtain ⟨lv, u, hr1⟩ := hp1.rblk
          have q3 := hr1.cell 3
          have f3 := hr1.frozen 3
          simp at q3 f3
          obtain ⟨hp2, hk2⟩ := hp1.rdown
          have HP2 := Lib.hid hp2
          have HB2 := Lib.hid (hk2 _ _ _ hb1 (by decide))
          clear hb1 hk1 hp1 hr1 hk2 hp2 c0 c1 c2 c3
          go_wp2_with fail
          go_meet
          exact ⟨_, HP2.out, by have := HWL.out; simp [DS.down]; omega, by simp [DS.down]; exact HSL.out, HB2.out⟩
        have y4 : (aw == 4) = false := by simpa using h4
        by_cases h5 : aw = 5
        · have y5 : (aw == 5) = true := by simpa using h5
          clear h1 h2 h3 h4 h5
          have hds := pair_dstart w wb p gp q S S AM cm am HPA.out HM.out (by have := HWL2.out; omega) (by have := H80.out; omega)
          go_wp2_with fail
          refine hds.mono ?_
          clear hds
          rintro e wc ⟨rfl, hp1, hk1⟩
          have hb1 := hk1 _ _ _ HBX.out (by decide)
          have k3 := hb1.cell 3
          simp at k3
          have hrs := pair_rstart w wc p gp q (S.start am) S AM cm am hp1 HM.out (by have := HWL2.out; omega) (by have := H80.out; omega)
          have HB1 := Lib.hid hb1
          clear hb1 hk1 hp1 c0 c1 c2 c3
          go_wp2_with fail
          refine hrs.mono ?_
          clear hrs
          rintro e wd ⟨rfl, hp2, hk2⟩
          have hb2 := hk2 _ _ _ HB1.out (by decide)
          have HP2 := Lib.hid hp2
          have HB2 := Lib.hid hb2
          clear hb2 hk2 hp2 k3
          go_wp2_with fail
          go_meet
          have hl2 := DS.start_len S am
          exact ⟨_, HP2.out, by omega, by rw [hl2.1]; exact HSL.out, HB2.out⟩
        have y5 : (aw == 5) = false := by simpa using h5
        clear h1 h2 h3 h4 h5
        go_wp2_with fail
        go_meet
        exact ⟨_, HPA.out, by have := HWL.out; omega, HSL.out, HBX.out⟩
      case rest =>
        obtain ⟨S', hp1, hw1, hs1, hb1⟩ := hcut
        clear HWL HSL HPA HBX
        have hc1 := hb1.cell 1
        simp at hc1
        have HW1 := Lib.hid hw1
        have HS1 := Lib.hid hs1
        have hrd := pair_dread w wc p gp q S' S' ax hp1 (by omega)
        have HBX := Lib.hid hb1
        clear hp1 hw1 hs1 hb1
        go_wp2_with fail
        refine hrd.mono ?_
        clear hrd
        rintro e wd ⟨A1, cap1, rfl, hy1, hp2, hbl2⟩
        have hb2 := HBX.out.fr (Fr.of_below hbl2) (fun h => by
          have h1 := HBX.out.lt
          have h2 : wc.heap.size ≤ gb := h
          omega)
        have hd1 := hb2.cell 1
        simp at hd1
        have hrr := pair_rread w wd p gp q S' S' ax hp2 (by have := HW1.out; omega)
        have hlen := hp2.read_len ax
        obtain ⟨R, hR⟩ : ∃ R, (S'.read ax).1 = R := ⟨_, rfl⟩
        obtain ⟨E, hE⟩ : ∃ E, (S'.read ax).2 = E := ⟨_, rfl⟩
        rw [hR] at hlen hy1 hrr ⊢
        rw [hE] at hrr ⊢
        have HY1 := Lib.hid hy1
        have HLEN := Lib.hid hlen
        clear hb2 hp2 hbl2 hy1 hlen hR hE hc1
        go_wp2_with fail
        refine hrr.mono ?_
        clear hrr
        rintro e we ⟨A2, cap2, rfl, hy2, hp3, hbl3⟩
        have hby := bytes_same A1 A2 cap1 cap2 R we (HY1.out.old hbl3) hy2 HLEN.out
        have hon := fun m => (hp3.drew m).on
        have hln := fun m => (hp3.drew m).len
        obtain ⟨lv, u, hr3⟩ := hp3.rblk
        have q3 := hr3.cell 3
        simp at q3
        rw [HS1.out] at hln
        obtain ⟨o, ho⟩ : ∃ o, S'.off = o := ⟨_, rfl⟩
        rw [ho] at hon q3
        have HBY := Lib.hid hby
        have HON := Lib.hid hon
        have HLN := Lib.hid hln
        have HP3 := Lib.hid hp3
        clear hy2 hbl3 hby hon hln hp3 hr3 ho hd1
        cases o
        · simp only [Bool.not_false] at HON
          go_wp2_with fail
          go_quiet ((first | (go_at_call 15; exact Calls.quiet_of (HBY.out _)) | (go_at_call 18; exact Calls.quiet_of_same (HON.out _)) | (go_at_call 24; exact Calls.quiet_of_same (HLN.out _))))
          go_wp2_with fail
          go_roundg (l.length - (i + 1))
          case measure => omega
          case rel => exact ⟨i + 1, S', by omega, rfl, by go_num, HP3.out.drew _, HW1.out, HS1.out⟩
        · simp only [Bool.not_true] at HON
          go_wp2_with fail
          go_quiet ((first | (go_at_call 15; exact Calls.quiet_of (HBY.out _)) | (go_at_call 18; exact Calls.quiet_of_same (HON.out _)) | (go_at_call 24; exact Calls.quiet_of_same (HLN.out _))))
          go_wp2_with fail
          go_roundg (l.length - (i + 1))
          case measure => omega
          case rel => exact ⟨i + 1, S', by omega, rfl, by go_num, HP3.out.drew _, HW1.out, HS1.out⟩
    · obtain rfl : i = l.length := by omega
      have hds := pair_dstart w wr p gp q S S none 0 [] HPR.out (Byt.nil _ _) (by have := HWL.out; omega) (by simp)
      have hds' : Calls Try.prog 13 #[.pointer (some ⟨p, 0, none⟩), .slice none 0 0] wr _ := hds
      clear hds
      go_wp2_with fail
      refine hds'.mono ?_
      clear hds'
      rintro e wc ⟨rfl, hp1, -⟩
      have hrs := pair_rstart w wc p gp q (S.start []) S none 0 [] hp1 (Byt.nil _ _) (by have := HWL.out; omega) (by simp)
      have hrs' : Calls Try.prog 22 #[.pointer (some ⟨q, 0, none⟩), .slice none 0 0] wc _ := hrs
      clear hp1 hrs
      go_wp2_with fail
      refine hrs'.mono ?_
      clear hrs'
      rintro e wd ⟨rfl, hp2, -⟩
      have hsl := DS.start_len S []
      obtain ⟨T, hT⟩ : ∃ T, S.start [] = T := ⟨_, rfl⟩
      rw [hT] at hp2 hsl
      have HP2 := Lib.hid hp2
      have HSL2 := Lib.hid hsl
      clear hp2 hsl hT
      go_wp2_with fail
      go_loopg [13] n (fun k t wx => ∃ j : Nat, j ≤ n ∧ k = n - j ∧ t = .int .i64 j ∧ Pair w wx p gp q T T)
      case atStart => exact ⟨0, Nat.zero_le _, rfl, rfl, HP2.out⟩
      case round =>
        clear HP2
        obtain ⟨j, hj, rfl, rfl, hpx⟩ := hrel
        have HPX := Lib.hid hpx
        clear hpx
        by_cases hjn : j < n
        · have hrd := pair_dread w wr p gp q T T (j : Int) HPX.out (by have := HSL2.out; omega)
          have hlen := HPX.out.read_len (j : Int)
          obtain ⟨R, hR⟩ : ∃ R, (T.read (j : Int)).1 = R := ⟨_, rfl⟩
          obtain ⟨E, hE⟩ : ∃ E, (T.read (j : Int)).2 = E := ⟨_, rfl⟩
          rw [hR] at hlen hrd
          rw [hE] at hrd
          have HLEN := Lib.hid hlen
          have HR := Lib.hid hR
          have HE := Lib.hid hE
          clear hlen hR hE
          go_wp2_with fail
          refine hrd.mono ?_
          clear hrd
          rintro e wy ⟨A1, cap1, rfl, hy1, hp3, -⟩
          have hrr := pair_rread w wy p gp q T T (j : Int) hp3 (by have := HSL2.out; omega)
          rw [HR.out, HE.out] at hrr
          have HY1 := Lib.hid hy1
          clear hp3 hy1
          go_wp2_with fail
          refine hrr.mono ?_
          clear hrr
          rintro e wu ⟨A2, cap2, rfl, hy2, hp4, hbl4⟩
          have hby := bytes_same A1 A2 cap1 cap2 R wu (HY1.out.old hbl4) hy2 HLEN.out 0
          have HP4 := Lib.hid hp4
          clear hy2 hbl4 hp4
          go_wp2_with fail
          refine hby.mono ?_
          clear hby
          rintro e wv ⟨rfl, m, rfl⟩
          go_wp2_with fail
          go_roundg (n - (j + 1))
          case measure => omega
          case rel => exact ⟨j + 1, by omega, rfl, by go_num, (HP4.out.drew 0).drew m⟩
        · obtain rfl : j = n := by omega
          go_wp2_with fail
          refine (awake_any _).mono ?_
          rintro e w3 ⟨rfl, hb3⟩
          have HB3 := Lib.hid (HPX.out.below.trans (hb3.mono HPX.out.size))
          clear hb3
          go_wp2_with fail
          go_ret
          exact ⟨rfl, HB3.out⟩

end Go.Proofs.Ytohadeijmmmcdaa
