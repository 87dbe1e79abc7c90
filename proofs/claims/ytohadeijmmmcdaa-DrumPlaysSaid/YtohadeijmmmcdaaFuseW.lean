/-
  DrumFuse: the walk.
-/
import Derived.Test.YtohadeijmmmcdaaOpen
namespace Go.Proofs.Ytohadeijmmmcdaa
open Go.RowKit

/-- One write or sync. -/
def fstep (S : DS) (s : Bool) (i : Nat) : Int × DS := if s then S.sync else S.write 0 (List.replicate 64 (i : Int))
/-- What is so behind i of them, with a fuse of κ. -/
structure FI (κ : Int) (i : Nat) (S : DS) : Prop where
  n : S.sure.length = 2
  w : S.waits.length ≤ i
  on : κ = 0 ∨ (i : Int) < κ → S.off = false ∧ S.fuse = (if κ = 0 then 0 else κ - i)
  off : 0 < κ → κ ≤ i → S.off = true

theorem fstep_len (S : DS) (s : Bool) (i : Nat) : (fstep S s i).2.sure.length = S.sure.length ∧ (fstep S s i).2.waits.length ≤ S.waits.length + 1 := by
  unfold fstep
  cases s with
  | true =>
    simp only [if_true, DS.sync]
    split
    · simp
    split
    · simp
    · simp [applyAll_len]
  | false =>
    simp only [Bool.false_eq_true, if_false, DS.write]
    split
    · simp
    split
    · simp
    split
    · simp
    split
    · simp
    · simp

theorem fi_go {κ : Int} {i : Nat} {S : DS} (h : FI κ i S) (s : Bool) (hc : κ = 0 ∨ (i : Int) + 1 < κ) : (fstep S s i).1 = 0 ∧ (fstep S s i).2.off = false ∧ FI κ (i + 1) (fstep S s i).2 := by
  obtain ⟨h1, h2⟩ := fstep_len S s i
  obtain ⟨ho, hf⟩ := h.on (by omega)
  have hf1 : S.fuse ≠ 1 := by rw [hf]; split <;> omega
  have e : (fstep S s i).1 = 0 ∧ (fstep S s i).2.off = false ∧ (fstep S s i).2.fuse = dec S.fuse := by
    unfold fstep
    cases s
    · have hn := h.n
      simp [DS.write, ho, hf1, hn]
    · simp [DS.sync, ho, hf1]
  obtain ⟨e1, e2, e3⟩ := e
  refine ⟨e1, e2, ⟨by rw [h1, h.n], by have := h.w; omega, fun _ => ⟨e2, ?_⟩, fun h3 h4 => by omega⟩⟩
  rw [e3, hf]
  unfold dec
  split
  · rename_i hz
    simp
  · rw [if_neg (by omega)]
    push_cast
    omega
theorem fi_end {κ : Int} {i : Nat} {S : DS} (h : FI κ i S) (s : Bool) (hc : (i : Int) + 1 = κ) : (fstep S s i).1 = 20 ∧ (fstep S s i).2.off = true ∧ FI κ (i + 1) (fstep S s i).2 := by
  obtain ⟨h1, h2⟩ := fstep_len S s i
  obtain ⟨ho, hf⟩ := h.on (by omega)
  have hf1 : S.fuse = 1 := by rw [hf]; split <;> omega
  have e : (fstep S s i).1 = 20 ∧ (fstep S s i).2.off = true := by
    unfold fstep
    cases s
    · have hn := h.n
      simp [DS.write, ho, hf1, hn]
    · simp [DS.sync, ho, hf1]
  obtain ⟨e1, e2⟩ := e
  exact ⟨e1, e2, ⟨by rw [h1, h.n], by have := h.w; omega, fun h3 => by omega, fun _ _ => e2⟩⟩
theorem fi_off {κ : Int} {i : Nat} {S : DS} (h : FI κ i S) (s : Bool) (h0 : 0 < κ) (hc : κ ≤ i) : (fstep S s i).1 = 21 ∧ (fstep S s i).2.off = true ∧ FI κ (i + 1) (fstep S s i).2 := by
  obtain ⟨h1, h2⟩ := fstep_len S s i
  have ho := h.off h0 hc
  have e : (fstep S s i).1 = 21 ∧ (fstep S s i).2.off = true := by
    unfold fstep
    cases s
    · simp [DS.write, ho]
    · simp [DS.sync, ho]
  obtain ⟨e1, e2⟩ := e
  exact ⟨e1, e2, ⟨by rw [h1, h.n], by have := h.w; omega, fun h3 => by omega, fun _ _ => e2⟩⟩

set_option maxRecDepth 100000 in
set_option maxHeartbeats 4000000 in
theorem fuse_law (n : Int) (A : Option Addr) (c : Nat) (l : List Bool) (w : World) (hn : 0 ≤ n ∧ n ≤ 255) (hl : Bls w A l) (hm : l.length ≤ maxLen) :
    Calls Try.prog 5 #[.int .u8 n, .slice A l.length c] w fun e w' => e = .returned (.bool true) ∧ Below w.heap.size w w' := by
  unfold maxLen at hm
  by_cases h40 : 40 < l.length
  · have hb : decide ((40 : Int) < (l.length : Int)) = true := by simp; omega
    go_enter Try.func5, Try.ntmps5
    go_wp2_with fail
    refine (awake_any w).mono ?_
    rintro e w1 ⟨rfl, hb1⟩
    have HB1 := Lib.hid hb1
    clear hb1
    go_wp2_with fail
    go_ret
    exact ⟨rfl, HB1.out⟩
  · have hb : decide ((40 : Int) < (l.length : Int)) = false := by simp; omega
    have HL := Lib.hid hl
    obtain ⟨n0, n1⟩ := hn
    clear hl
    obtain ⟨κ, hκ⟩ : ∃ κ : Int, n % 21 = κ := ⟨_, rfl⟩
    have k0 : 0 ≤ κ := by omega
    have k1 : κ < 21 := by omega
    go_enter Try.func5, Try.ntmps5
    go_wp2_with fail
    rw [hκ]
    clear hκ n0 n1
    refine (new_drum 2 w (by omega) (by omega)).mono ?_
    rintro e w1 ⟨rfl, hd1, hb1⟩
    have hfz := fuse_any _ _ _ _ _ κ w1 hd1.st
    rw [show max κ 0 = κ by omega] at hfz
    have HD1 := Lib.hid hd1
    have HB1 := Lib.hid hb1
    clear hd1 hb1
    go_wp2_with fail
    refine hfz.mono ?_
    clear hfz
    rintro e w2 ⟨rfl, hd2, hf2⟩
    have hD2 : IsDrum w.heap.size w2 (w.heap.size + 1) w.heap.size (.slice none 0 0) { DS.new 2 with fuse := κ } :=
      ⟨⟨HD1.out.ok.n1, HD1.out.ok.n2, HD1.out.ok.sure, HD1.out.ok.waits, k0, by show κ ≤ _; omega⟩, HD1.out.b1, HD1.out.b2, hd2, HD1.out.sure.fr hf2 (fun e => HD1.out.ne1 e.symm), World.ownsRow_nil _ _ _ _⟩
    have hB2 : Below w.heap.size w w2 := HB1.out.trans (hf2.below HB1.out.size (fun k hk e => by omega))
    have hI0 : FI κ 0 { DS.new 2 with fuse := κ } := ⟨by simp [DS.new], by simp [DS.new], fun _ => ⟨rfl, by split <;> simp_all⟩, fun h1 h2 => by omega⟩
    have HD2 := Lib.hid hD2
    have HB2 := Lib.hid hB2
    have HI0 := Lib.hid hI0
    clear hd2 hf2 hD2 hB2 hI0
    go_wp2_with fail
    go_loopw [7, 8] (fun dn t wr => ∃ (i : Nat) (S : DS) (wv : Value), i ≤ l.length ∧ t = .int .i64 i ∧ dn = .int .i64 i ∧ FI κ i S ∧ IsDrum w.heap.size wr (w.heap.size + 1) w.heap.size wv S ∧ Below w.heap.size w wr)
      (fun _ t _ => l.length - (intOf t).toNat)
    case atStart => exact ⟨0, _, _, Nat.zero_le _, rfl, rfl, HI0.out, HD2.out, HB2.out⟩
    case round =>
      obtain ⟨i, S, wv, hi, rfl, rfl, hfi, hd, hbl⟩ := hrel
      have HFI := Lib.hid hfi
      have HD := Lib.hid hd
      have HBL := Lib.hid hbl
      clear hfi hd hbl
      by_cases hlt : i < l.length
      · obtain ⟨g, off, rfl, hg, hc⟩ := HL.out.cell (by omega)
        have hci : wr.cell? ⟨g, off + i, none⟩ = some (.bool l[i]) := (HBL.out.cell (p := ⟨g, off + i, none⟩) hg).trans (hc i _ (List.getElem?_eq_getElem hlt))
        obtain ⟨s, hs⟩ : ∃ s, l[i] = s := ⟨_, rfl⟩
        rw [hs] at hci
        clear hs hc
        cases s with
        | true =>
          go_wp2_with fail
          refine (sync_any w.heap.size _ _ wv S wr HD.out (by have := HFI.out.w; omega)).mono ?_
          rintro e w3 ⟨rfl, ⟨wv3, hd3, -⟩, hf3⟩
          have HT3 := Lib.hid (show IsDrum w.heap.size w3 (w.heap.size + 1) w.heap.size wv3 (fstep S true i).2 from hd3)
          have hB3 : Below w.heap.size w w3 := HBL.out.trans (HD.out.below hf3 (Nat.le_refl _) HBL.out.size)
          have HB3 := Lib.hid hB3
          rw [show S.sync = fstep S true i from rfl]
          clear hd3 hf3 hB3
          by_cases hz : κ = 0 ∨ (i : Int) + 1 < κ
          · obtain ⟨e1, e2, e3⟩ := fi_go HFI.out true hz
            have hon := on_any _ _ _ _ _ w3 HT3.out.st
            rw [e2] at hon
            have HE3 := Lib.hid e3
            rw [e1]
            clear e1 e2 e3
            by_cases hz0 : κ = 0
            · have z1 : (κ == 0) = true := by simpa using hz0
              clear hz hz0
              go_wp2_with fail
              refine hon.mono ?_
              clear hon
              rintro e w4 ⟨rfl, rfl⟩
              go_wp2_with fail
              exact ⟨⟨i + 1, _, wv3, by omega, by go_num, by go_num, HE3.out, HT3.out, HB3.out⟩, by simp [intOf]; omega⟩
            · have z1 : (κ == 0) = false := by simpa using hz0
              have z2 : decide ((i : Int) < κ - 1) = true := by simp; omega
              clear hz hz0
              go_wp2_with fail
              refine hon.mono ?_
              clear hon
              rintro e w4 ⟨rfl, rfl⟩
              go_wp2_with fail
              exact ⟨⟨i + 1, _, wv3, by omega, by go_num, by go_num, HE3.out, HT3.out, HB3.out⟩, by simp [intOf]; omega⟩
          · have z1 : (κ == 0) = false := by simp; omega
            have z2 : decide ((i : Int) < κ - 1) = false := by simp; omega
            by_cases hx : (i : Int) + 1 = κ
            · obtain ⟨e1, e2, e3⟩ := fi_end HFI.out true hx
              have hon := on_any _ _ _ _ _ w3 HT3.out.st
              rw [e2] at hon
              have HE3 := Lib.hid e3
              rw [e1]
              have z3 : ((i : Int) == κ - 1) = true := by simp; omega
              have z4 : decide (κ - 1 < (i : Int)) = false := by simp; omega
              clear e1 e2 e3 hz hx
              go_wp2_with fail
              refine hon.mono ?_
              clear hon
              rintro e w4 ⟨rfl, rfl⟩
              go_wp2_with fail
              exact ⟨⟨i + 1, _, wv3, by omega, by go_num, by go_num, HE3.out, HT3.out, HB3.out⟩, by simp [intOf]; omega⟩
            · obtain ⟨e1, e2, e3⟩ := fi_off HFI.out true (by omega) (by omega)
              have hon := on_any _ _ _ _ _ w3 HT3.out.st
              rw [e2] at hon
              have HE3 := Lib.hid e3
              rw [e1]
              have z3 : ((i : Int) == κ - 1) = false := by simp; omega
              have z4 : decide (κ - 1 < (i : Int)) = true := by simp; omega
              clear e1 e2 e3 hz hx
              go_wp2_with fail
              refine hon.mono ?_
              clear hon
              rintro e w4 ⟨rfl, rfl⟩
              go_wp2_with fail
              exact ⟨⟨i + 1, _, wv3, by omega, by go_num, by go_num, HE3.out, HT3.out, HB3.out⟩, by simp [intOf]; omega⟩
        | false =>
          have hi40 : (i : Int) ≤ 255 := by omega
          go_wp2_with fail
          refine (full_any i wr).mono ?_
          rintro e wq ⟨rfl, hbq, hblq⟩
          have hdq : IsDrum w.heap.size wq (w.heap.size + 1) w.heap.size wv S := HD.out.fr (Fr.of_below hblq) (fun k hk h => by have := (HD.out.lt hk).2; omega)
          have hBq : Below w.heap.size w wq := HBL.out.trans (hblq.mono HBL.out.size)
          have hwr := write_any w.heap.size _ _ _ S 0 _ 64 (List.replicate 64 (i : Int)) wq hdq (hbq.byt (by intro x hx; have := List.eq_of_mem_replicate hx; omega)) (fun a e => by cases e; have := (HD.out.lt (.inl rfl)).2; simp; omega) (by have := HFI.out.w; omega) hBq.size
          rw [List.length_replicate] at hwr
          have HDQ := Lib.hid hdq
          have HBQ := Lib.hid hBq
          clear hbq hblq hdq hBq
          go_wp2_with fail
          refine hwr.mono ?_
          clear hwr
          rintro e w3 ⟨rfl, ⟨wv3, hd3, -⟩, hf3⟩
          have HT3 := Lib.hid (show IsDrum w.heap.size w3 (w.heap.size + 1) w.heap.size wv3 (fstep S false i).2 from hd3)
          have hB3 : Below w.heap.size w w3 := HBQ.out.trans (HDQ.out.below hf3 (Nat.le_refl _) HBQ.out.size)
          have HB3 := Lib.hid hB3
          rw [show S.write 0 (List.replicate 64 (i : Int)) = fstep S false i from rfl]
          clear hd3 hf3 hB3
          by_cases hz : κ = 0 ∨ (i : Int) + 1 < κ
          · obtain ⟨e1, e2, e3⟩ := fi_go HFI.out false hz
            have hon := on_any _ _ _ _ _ w3 HT3.out.st
            rw [e2] at hon
            have HE3 := Lib.hid e3
            rw [e1]
            clear e1 e2 e3
            by_cases hz0 : κ = 0
            · have z1 : (κ == 0) = true := by simpa using hz0
              clear hz hz0
              go_wp2_with fail
              refine hon.mono ?_
              clear hon
              rintro e w4 ⟨rfl, rfl⟩
              go_wp2_with fail
              exact ⟨⟨i + 1, _, wv3, by omega, by go_num, by go_num, HE3.out, HT3.out, HB3.out⟩, by simp [intOf]; omega⟩
            · have z1 : (κ == 0) = false := by simpa using hz0
              have z2 : decide ((i : Int) < κ - 1) = true := by simp; omega
              clear hz hz0
              go_wp2_with fail
              refine hon.mono ?_
              clear hon
              rintro e w4 ⟨rfl, rfl⟩
              go_wp2_with fail
              exact ⟨⟨i + 1, _, wv3, by omega, by go_num, by go_num, HE3.out, HT3.out, HB3.out⟩, by simp [intOf]; omega⟩
          · have z1 : (κ == 0) = false := by simp; omega
            have z2 : decide ((i : Int) < κ - 1) = false := by simp; omega
            by_cases hx : (i : Int) + 1 = κ
            · obtain ⟨e1, e2, e3⟩ := fi_end HFI.out false hx
              have hon := on_any _ _ _ _ _ w3 HT3.out.st
              rw [e2] at hon
              have HE3 := Lib.hid e3
              rw [e1]
              have z3 : ((i : Int) == κ - 1) = true := by simp; omega
              have z4 : decide (κ - 1 < (i : Int)) = false := by simp; omega
              clear e1 e2 e3 hz hx
              go_wp2_with fail
              refine hon.mono ?_
              clear hon
              rintro e w4 ⟨rfl, rfl⟩
              go_wp2_with fail
              exact ⟨⟨i + 1, _, wv3, by omega, by go_num, by go_num, HE3.out, HT3.out, HB3.out⟩, by simp [intOf]; omega⟩
            · obtain ⟨e1, e2, e3⟩ := fi_off HFI.out false (by omega) (by omega)
              have hon := on_any _ _ _ _ _ w3 HT3.out.st
              rw [e2] at hon
              have HE3 := Lib.hid e3
              rw [e1]
              have z3 : ((i : Int) == κ - 1) = false := by simp; omega
              have z4 : decide (κ - 1 < (i : Int)) = true := by simp; omega
              clear e1 e2 e3 hz hx
              go_wp2_with fail
              refine hon.mono ?_
              clear hon
              rintro e w4 ⟨rfl, rfl⟩
              go_wp2_with fail
              exact ⟨⟨i + 1, _, wv3, by omega, by go_num, by go_num, HE3.out, HT3.out, HB3.out⟩, by simp [intOf]; omega⟩
      · obtain rfl : i = l.length := by omega
        have hrd := read_any w.heap.size _ _ wv S 0 wr HD.out (by have := HFI.out.w; omega)
        have hn2 := HFI.out.n
        by_cases hz : κ = 0
        · have z1 : decide ((0 : Int) < κ) = false := by simp; omega
          have eR : (S.read 0).2 = 0 := by
            simp [DS.read, (HFI.out.on (.inl hz)).1, hn2]
          clear hz hn2
          go_wp2_with fail
          refine hrd.mono ?_
          clear hrd
          rintro e w3 ⟨A3, c3, rfl, -, hbl3⟩
          have hd3 : IsDrum w.heap.size w3 (w.heap.size + 1) w.heap.size wv S := HD.out.fr (Fr.of_below hbl3) (fun k hk h => by have := (HD.out.lt hk).2; omega)
          have hB3 : Below w.heap.size w w3 := HBL.out.trans (hbl3.mono HBL.out.size)
          have hst := start_any w.heap.size _ _ wv S none 0 [] w3 hd3 (Byt.nil _ _) (fun a e => by cases e) (by have := HFI.out.w; omega) (by simp)
          simp only [List.length_nil] at hst
          have HD3 := Lib.hid hd3
          have HB3 := Lib.hid hB3
          clear hd3 hB3 hbl3
          rw [eR]
          go_wp2_with fail
          refine hst.mono ?_
          clear hst
          rintro e w4 ⟨rfl, hd4, hf4⟩
          have hB4 : Below w.heap.size w w4 := HB3.out.trans (HD3.out.below hf4 (Nat.le_refl _) HB3.out.size)
          have hon := on_any _ _ _ _ _ w4 hd4.st
          have hsy := sync_any w.heap.size _ _ _ _ w4 hd4 (by simp [DS.start])
          rw [show (S.start []).sync.1 = 0 by simp [DS.sync, DS.start]] at hsy
          have HD4 := Lib.hid hd4
          have HB4 := Lib.hid hB4
          have hon' : Calls Try.prog 18 #[.pointer (some ⟨w.heap.size + 1, 0, none⟩)] w4 fun e w' => e = .returned (.bool true) ∧ w4 = w' := hon
          clear hon hd4 hf4 hB4
          go_wp2_with fail
          refine hon'.mono ?_
          clear hon'
          rintro e w5 ⟨rfl, rfl⟩
          go_wp2_with fail
          refine hsy.mono ?_
          clear hsy
          rintro e w5 ⟨rfl, -, hf5⟩
          have hB5 : Below w.heap.size w w5 := HB4.out.trans (HD4.out.below hf5 (Nat.le_refl _) HB4.out.size)
          have HB5 := Lib.hid hB5
          clear hf5 hB5
          go_wp2_with fail
          refine (awake_any w5).mono ?_
          rintro e w6 ⟨rfl, hb6⟩
          have HB6 := Lib.hid hb6
          clear hb6
          go_wp2_with fail
          go_ret
          exact ⟨rfl, HB5.out.trans (HB6.out.mono HB5.out.size)⟩
        by_cases hz2 : κ ≤ (l.length : Int)
        · have z1 : decide ((0 : Int) < κ) = true := by simp; omega
          have z2 : decide (κ ≤ (l.length : Int)) = true := by simpa using hz2
          have eR : (S.read 0).2 = 21 := by
            simp [DS.read, HFI.out.off (by omega) hz2]
          clear hz hz2 hn2
          go_wp2_with fail
          refine hrd.mono ?_
          clear hrd
          rintro e w3 ⟨A3, c3, rfl, -, hbl3⟩
          have hd3 : IsDrum w.heap.size w3 (w.heap.size + 1) w.heap.size wv S := HD.out.fr (Fr.of_below hbl3) (fun k hk h => by have := (HD.out.lt hk).2; omega)
          have hB3 : Below w.heap.size w w3 := HBL.out.trans (hbl3.mono HBL.out.size)
          have hst := start_any w.heap.size _ _ wv S none 0 [] w3 hd3 (Byt.nil _ _) (fun a e => by cases e) (by have := HFI.out.w; omega) (by simp)
          simp only [List.length_nil] at hst
          have HD3 := Lib.hid hd3
          have HB3 := Lib.hid hB3
          clear hd3 hB3 hbl3
          rw [eR]
          go_wp2_with fail
          refine hst.mono ?_
          clear hst
          rintro e w4 ⟨rfl, hd4, hf4⟩
          have hB4 : Below w.heap.size w w4 := HB3.out.trans (HD3.out.below hf4 (Nat.le_refl _) HB3.out.size)
          have hon := on_any _ _ _ _ _ w4 hd4.st
          have hsy := sync_any w.heap.size _ _ _ _ w4 hd4 (by simp [DS.start])
          rw [show (S.start []).sync.1 = 0 by simp [DS.sync, DS.start]] at hsy
          have HD4 := Lib.hid hd4
          have HB4 := Lib.hid hB4
          have hon' : Calls Try.prog 18 #[.pointer (some ⟨w.heap.size + 1, 0, none⟩)] w4 fun e w' => e = .returned (.bool true) ∧ w4 = w' := hon
          clear hon hd4 hf4 hB4
          go_wp2_with fail
          refine hon'.mono ?_
          clear hon'
          rintro e w5 ⟨rfl, rfl⟩
          go_wp2_with fail
          refine hsy.mono ?_
          clear hsy
          rintro e w5 ⟨rfl, -, hf5⟩
          have hB5 : Below w.heap.size w w5 := HB4.out.trans (HD4.out.below hf5 (Nat.le_refl _) HB4.out.size)
          have HB5 := Lib.hid hB5
          clear hf5 hB5
          go_wp2_with fail
          refine (awake_any w5).mono ?_
          rintro e w6 ⟨rfl, hb6⟩
          have HB6 := Lib.hid hb6
          clear hb6
          go_wp2_with fail
          go_ret
          exact ⟨rfl, HB5.out.trans (HB6.out.mono HB5.out.size)⟩
        · have z1 : decide ((0 : Int) < κ) = true := by simp; omega
          have z2 : decide (κ ≤ (l.length : Int)) = false := by simpa using hz2
          have eR : (S.read 0).2 = 0 := by
            simp [DS.read, (HFI.out.on (.inr (by omega))).1, hn2]
          clear hz hz2 hn2
          go_wp2_with fail
          refine hrd.mono ?_
          clear hrd
          rintro e w3 ⟨A3, c3, rfl, -, hbl3⟩
          have hd3 : IsDrum w.heap.size w3 (w.heap.size + 1) w.heap.size wv S := HD.out.fr (Fr.of_below hbl3) (fun k hk h => by have := (HD.out.lt hk).2; omega)
          have hB3 : Below w.heap.size w w3 := HBL.out.trans (hbl3.mono HBL.out.size)
          have hst := start_any w.heap.size _ _ wv S none 0 [] w3 hd3 (Byt.nil _ _) (fun a e => by cases e) (by have := HFI.out.w; omega) (by simp)
          simp only [List.length_nil] at hst
          have HD3 := Lib.hid hd3
          have HB3 := Lib.hid hB3
          clear hd3 hB3 hbl3
          rw [eR]
          go_wp2_with fail
          refine hst.mono ?_
          clear hst
          rintro e w4 ⟨rfl, hd4, hf4⟩
          have hB4 : Below w.heap.size w w4 := HB3.out.trans (HD3.out.below hf4 (Nat.le_refl _) HB3.out.size)
          have hon := on_any _ _ _ _ _ w4 hd4.st
          have hsy := sync_any w.heap.size _ _ _ _ w4 hd4 (by simp [DS.start])
          rw [show (S.start []).sync.1 = 0 by simp [DS.sync, DS.start]] at hsy
          have HD4 := Lib.hid hd4
          have HB4 := Lib.hid hB4
          have hon' : Calls Try.prog 18 #[.pointer (some ⟨w.heap.size + 1, 0, none⟩)] w4 fun e w' => e = .returned (.bool true) ∧ w4 = w' := hon
          clear hon hd4 hf4 hB4
          go_wp2_with fail
          refine hon'.mono ?_
          clear hon'
          rintro e w5 ⟨rfl, rfl⟩
          go_wp2_with fail
          refine hsy.mono ?_
          clear hsy
          rintro e w5 ⟨rfl, -, hf5⟩
          have hB5 : Below w.heap.size w w5 := HB4.out.trans (HD4.out.below hf5 (Nat.le_refl _) HB4.out.size)
          have HB5 := Lib.hid hB5
          clear hf5 hB5
          go_wp2_with fail
          refine (awake_any w5).mono ?_
          rintro e w6 ⟨rfl, hb6⟩
          have HB6 := Lib.hid hb6
          clear hb6
          go_wp2_with fail
          go_ret
          exact ⟨rfl, HB5.out.trans (HB6.out.mono HB5.out.size)⟩

end Go.Proofs.Ytohadeijmmmcdaa
