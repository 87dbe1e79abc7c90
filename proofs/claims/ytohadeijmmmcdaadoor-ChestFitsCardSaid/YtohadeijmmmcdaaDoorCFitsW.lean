/-
  ChestFits: the walk.
-/
import Derived.Test.YtohadeijmmmcdaaDoorCGoneW
import Derived.Test.YtohadeijmmmcdaaDoorTxtO
import Derived.Deep.CutRange
import Derived.Deep.CutBlock
namespace Go.Proofs.YtohadeijmmmcdaaDoor
open Go.RowKit
set_option maxRecDepth 100000

/-- A chest on a drum without a fuse, plainly. -/
structure FInv (k n : Nat) (x : CS) (s : SS) (S : DS) : Prop where
  good : S.Good
  len : S.sure.length = n
  waits : S.waits.length ≤ k * 2000
  ln : x.l.length ≤ k
  gone : x.gone = false
  sg : s.gone = false
  fm : s.f + s.m ≤ n
  um : s.u ≤ s.m
  sn : s.n ≤ k + 1
  st : s.t ≤ 65535

/-- Put on a drum without a fuse. -/
theorem putR_good {s : SS} {S : DS} {b : List Int} (hg : s.gone = false) (ho : S.Good) (hum : s.u ≤ s.m) (hfm : s.f + s.m ≤ S.sure.length) (he : formE s.t s.n b = 0) :
    (s.m - s.u < recS s.t s.n b ∧ putR s S b = (18, s, S)) ∨ (∃ T, recS s.t s.n b ≤ s.m - s.u ∧ putR s S b = (0, { s with u := s.u + recS s.t s.n b, n := s.n + 1 }, T) ∧ T.Good) := by
  have hF : (formP s.t s.n b).length = 64 * recS s.t s.n b := by rw [formP_len]; unfold recS; omega
  unfold putR
  rw [if_neg (by rw [hg]; simp), if_neg (by rw [he]; simp)]
  split
  · rename_i hr
    exact .inl ⟨hr, rfl⟩
  · rename_i hr
    obtain ⟨e1, e2, _⟩ := putGo_good (formP s.t s.n b) (s.f + s.u) (recS s.t s.n b) 0 S ho (by omega) (by omega)
    rw [if_pos e1]
    exact .inr ⟨_, by omega, rfl, e2⟩

theorem FInv.keep {k n : Nat} {x : CS} {s : SS} {S : DS} (h : FInv k n x s S) (hk : k ≤ 1000) {b : List Int} (hb : b.length ≤ 300) :
    FInv (k + 1) n (ckeepR x s S b).2.1 (ckeepR x s S b).2.2.1 (ckeepR x s S b).2.2.2 ∧
      (((ckeepR x s S b).1 = 0 ∧ ∀ l, fitsR s (b :: l) = fitsR (ckeepR x s S b).2.2.1 l) ∨ ((ckeepR x s S b).1 = 18 ∧ ∀ l, fitsR s (b :: l) = false)) := by
  have hsz := putR_sz s S b
  have h1 := h.len
  have h2 := h.waits
  have h4 := h.ln
  have h5 := h.sn
  have h6 := h.st
  have he : formE (s.t : Int) (s.n : Int) b = 0 := formE_small (by omega) (by omega) (by omega)
  have hp := putR_good (s := s) (S := S) (b := b) h.sg h.good h.um (by rw [h1]; exact h.fm) he
  unfold ckeepR
  rw [if_neg (by rw [h.gone]; simp)]
  rcases hp with ⟨hr, hp⟩ | ⟨T, hr, hp, hT⟩
  · rw [hp, if_neg (by simp), if_pos (.inl rfl)]
    refine ⟨⟨h.good, h1, by simp only; omega, by simp only; omega, h.gone, h.sg, h.fm, h.um, by simp only; omega, h6⟩, .inr ⟨rfl, fun l => ?_⟩⟩
    unfold fitsR
    rw [fitsGo, Nat.add_zero, if_neg (by omega)]
  · rw [hp] at hsz ⊢
    rw [if_pos rfl]
    have hs1 := hsz.1
    have hs2 := hsz.2
    simp only at hs1 hs2
    refine ⟨⟨hT, by simp only; omega, by simp only; omega, by simp; omega, h.gone, h.sg, h.fm, by simp only; have := h.um; omega, by simp only; omega, h6⟩, .inl ⟨rfl, fun l => ?_⟩⟩
    have key : ∀ (l : List (List Int)) (i left : Nat), fitsGo s.t s.n l (i + 1) left = fitsGo s.t (s.n + 1) l i left := by
      intro l
      induction l with
      | nil => intro i left; rfl
      | cons c l ih =>
        intro i left
        simp only [fitsGo]
        rw [show s.n + (i + 1) = s.n + 1 + i by omega, ih]
    unfold fitsR
    rw [fitsGo, Nat.add_zero, if_pos ⟨he, hr⟩, key]
    simp only
    rw [show s.m - (s.u + recS s.t s.n b) = s.m - s.u - recS s.t s.n b by omega]

theorem kfits {w W : World} {B p gs r : Nat} {x : CS} {s : SS} {S : DS} (h : ChestAt w B p gs r x s S W) (q : Nat) (hs : IsScroll W q p s) (A : Option Addr) (c : Nat) (l : List (List Int)) (hm : s.m ≤ 8192) (hu : s.u ≤ s.m) (ht : s.t ≤ 1099511627776) (hn : s.n ≤ 1099511627776) (hl : TX W A l) (hll : l.length ≤ 1000000000) (hlb : ∀ b ∈ l, b.length ≤ 140737488351232) :
    Calls Tryd.prog 36 #[.pointer (some ⟨q, 0, none⟩), .slice A l.length c] W fun e W' => e = .returned (.bool (fitsR s l)) ∧ ChestAt w B p gs r x s S W' := by
  refine (sfits_any q p s A c l W hs hm hu ht hn hl hll hlb h.at_.glob).mono ?_
  rintro e W' ⟨rfl, hb⟩
  exact ⟨rfl, h.after hb⟩

section
open Go.ChangeShapes Go.Deep
variable {H : Type} {enc : TypeId × Value → H} {w : World} {base : Nat} {spare : Nat → Bool} {held : Bool}
theorem weightsAll_mem {P : Program} {e : TypeId} {d : DataW H} {n : Nat} : ∀ {l : List (DataW H)}, d ∈ l → n ∈ d.weights P e → n ∈ DataW.weightsAll P e l
  | x :: l, hd, hn => by
    unfold DataW.weightsAll
    rcases List.mem_cons.1 hd with rfl | hd
    · exact List.mem_append_left _ hn
    · exact List.mem_append_right _ (weightsAll_mem hd hn)
theorem bytes_reach {fuel : Nat} {cs : List Value} {x : DataW H × List MemPlace} (h : DataW.trod enc Tryd.prog w base spare held fuel 22 cs = some x) (hw : ∀ n ∈ x.1.weights Tryd.prog 22, n ≤ reachBytes) {A : Option Addr} {n c : Nat} (hcs : cs = [.slice A n c]) : n ≤ reachBytes := by
  rcases open_ints Tryd.underlying22 Tryd.underlying5 (by kernel_rfl) h with ⟨rfl, _⟩ | ⟨a, len, cap, zs, rfl, _, hl, hm, hz, rfl, hc, _⟩
  · simp only [List.cons.injEq, Value.slice.injEq, and_true] at hcs
    omega
  · simp only [List.cons.injEq, Value.slice.injEq, and_true] at hcs
    have hzl : len ≤ zs.length := by rw [hz]; split <;> omega
    have h1 := hw _ (by
      unfold DataW.weights
      rw [Tryd.underlying22]
      exact List.mem_cons_self)
    have hb1 : Tryd.prog.bytesOf 5 = 1 := by kernel_rfl
    rw [hb1] at h1
    have hll : (Go.ChangeShapes.lits (H := H) .u8 (zs.take len)).length = len := by simp [Go.ChangeShapes.lits]; omega
    omega
theorem txs_reach {fuel : Nat} {cs : List Value} {x : DataW H × List MemPlace} (h : DataW.trod enc Tryd.prog w base spare held fuel 33 cs = some x) (hw : ∀ n ∈ x.1.weights Tryd.prog 33, n ≤ reachBytes) {A : Option Addr} {c : Nat} {l : List (List Int)} (hcs : cs = [.slice A l.length c]) (ht : Txs w A l) : ∀ b ∈ l, b.length ≤ 140737488351232 := by
  intro b hb
  obtain ⟨i, hi, rfl⟩ := List.mem_iff_getElem.1 hb
  obtain ⟨g, off, rfl, hg, A', c', hcell, _, _⟩ := ht i hi
  rcases open_slice Tryd.underlying33 h with ⟨rfl, _⟩ | ⟨a, len, cap, m, n, D, Pl, rfl, _, hl, hm, hmm, rfl, hx⟩
  · simp at hcs
  · simp only [List.cons.injEq, Value.slice.injEq, Option.some.injEq, and_true] at hcs
    obtain ⟨rfl, rfl, rfl⟩ := hcs
    have hml : l.length ≤ m := by rw [hmm]; split <;> omega
    have hC : Tryd.prog.cellsOf 22 = 1 := by kernel_rfl
    obtain ⟨cs', hc, ht'⟩ := hx i (by omega)
    rw [hC, Nat.mul_one] at hc
    obtain ⟨A2, l2, c2, rfl, _, _⟩ := trod_bytes ht'
    obtain ⟨_, _, hat⟩ := World.cells?_some hc
    have h0 := hat 0 (by omega)
    rw [add_none, add_none, Nat.add_zero, hcell] at h0
    simp only [List.getElem?_cons_zero, Option.some.injEq, Value.slice.injEq] at h0
    have h1 := bytes_reach ht' (fun n hn => hw n (by
      unfold DataW.weights
      rw [Tryd.underlying33]
      exact List.mem_cons_of_mem _ (List.mem_append_left _ (weightsAll_mem (List.mem_map.2 ⟨i, List.mem_range.2 hi, rfl⟩) hn)))) rfl
    have h2 : reachBytes = 140737488351232 := rfl
    omega
end

set_option maxHeartbeats 16000000 in
theorem cfits_law (a : Int) (A1 : Option Addr) (c1 : Nat) (bf : List (List Int)) (A2 : Option Addr) (c2 : Nat) (l : List (List Int)) (w : World) (ha : 0 ≤ a ∧ a ≤ 255) (hb : Txs w A1 bf) (hbm : bf.length ≤ maxLen) (hl : Txs w A2 l) (hlm : l.length ≤ maxLen) (hlr : ∀ b ∈ l, b.length ≤ 140737488351232) (hg : Glob w) :
    Calls Tryd.prog 9 #[.int .u8 a, .slice A1 bf.length c1, .slice A2 l.length c2] w fun e w' => e = .returned (.bool true) ∧ Below w.heap.size w w' := by
  unfold maxLen at hbm hlm
  have aw0 := awake14 w hg
  by_cases h12 : 12 < bf.length
  · have hI : (12 : Int) < (bf.length : Int) := by omega
    clear hb hl
    go_enter Tryd.func9, Tryd.ntmps9
    go_wp2_with fail
    with_reducible refine aw0.mono ?_
    rintro e w2 ⟨rfl, c2⟩
    have C2 := Lib.hid c2
    clear c2 aw0
    go_wp2_with fail
    go_ret
    exact ⟨rfl, C2.out⟩
  have hI : ¬ ((12 : Int) < (bf.length : Int)) := by omega
  by_cases h13 : 12 < l.length
  · have hI2 : (12 : Int) < (l.length : Int) := by omega
    clear hb hl
    go_enter Tryd.func9, Tryd.ntmps9
    go_wp2_with fail
    with_reducible refine aw0.mono ?_
    rintro e w2 ⟨rfl, c2⟩
    have C2 := Lib.hid c2
    clear c2 aw0
    go_wp2_with fail
    go_ret
    exact ⟨rfl, C2.out⟩
  have hI2 : ¬ ((12 : Int) < (l.length : Int)) := by omega
  obtain ⟨M, hM⟩ : ∃ M : Nat, 4 + a % 60 = (M : Int) := ⟨(4 + a % 60).toNat, by omega⟩
  have hM1 : 4 ≤ M ∧ M ≤ 63 := by omega
  have hfz : IntKind.i64.wrap (4 + a % 60) = (M : Int) := by rw [IntKind.wrap_i64]; omega
  have f3 := new_drum M w (by omega) (by omega)
  obtain ⟨Z7, z7l, z7b, z7⟩ := made_z 70000 (by omega)
  rw [show ((70000 : Nat) : Int) = 70000 from rfl] at z7
  have HG := Lib.hid hg
  have HTB := Lib.hid hb
  have HTL := Lib.hid hl
  have HLB := Lib.hid hlr
  have H12 : bf.length ≤ 12 := by omega
  have H13 : l.length ≤ 12 := by omega
  obtain ⟨N1, hN1⟩ : ∃ N, bf.length = N := ⟨_, rfl⟩
  obtain ⟨N2, hN2⟩ : ∃ N, l.length = N := ⟨_, rfl⟩
  rw [hN1] at hI H12 ⊢
  rw [hN2] at hI2 H13 ⊢
  have HN1 := Lib.hid hN1
  have HN2 := Lib.hid hN2
  have Z7L := Lib.hid z7l
  have Z7B := Lib.hid z7b
  have ha0 := ha.1
  have ha1 := ha.2
  have HM := Lib.hid hM1
  clear hg hb hl hlr hbm hlm h12 h13 hN1 hN2 z7l z7b aw0 ha
  go_enter Tryd.func9, Tryd.ntmps9
  go_wp2_with fail
  with_reducible refine f3.mono ?_
  rintro e w3 ⟨rfl, d3, c3⟩
  have at3 := At.new HG.out HG.out.size (Below.refl _ _) M d3 c3
  obtain ⟨T, e4, H4, l4, r4, _⟩ := copen_new (n := M) (by omega) (by omega)
  have f4 := copen_c at3 rfl (by simp [DS.new]; omega) (by simp [DS.new])
  rw [e4] at f4
  simp only at f4
  obtain ⟨M2, hM2⟩ : ∃ M2, M / 2 = M2 := ⟨_, rfl⟩
  rw [hM2] at f4 H4
  have hf0 : FInv 0 M ⟨0, 1, [], [], false⟩ ⟨0, M2, 1, 1, 1, false⟩ T := ⟨H4.good, r4, by simp [l4], by simp, rfl, rfl, by simp only; omega, by simp only; omega, by simp, by simp⟩
  have F0 := Lib.hid hf0
  have hM2b : M2 ≤ 31 := by omega
  clear f3 d3 at3 c3 e4 hf0 H4 hM hfz hM2 hM1 ha0 ha1
  go_wp2_with fail
  with_reducible refine f4.mono ?_
  rintro e w4 (⟨_, r, rfl, ch4⟩ | ⟨h, _⟩)
  rotate_left
  focus exact absurd rfl h
  have pq := peq65 r
  obtain ⟨q, k0, s4⟩ := ch4.scroll rfl
  have f5 := kfits ch4 q s4 none 0 [] (by simp only; omega) (by simp only; have := F0.out.um; simp only at this; omega) (by simp) (by simp) (TX.nil _ _) (by simp) (by simp)
  rw [show fitsR ⟨0, M2, 1, 1, 1, false⟩ [] = true from rfl, show ([] : List (List Int)).length = 0 from rfl] at f5
  clear f4 ch4 s4
  go_wp2_with fail
  with_reducible refine f5.mono ?_
  rintro e w5 ⟨rfl, ch5⟩
  have CH5 := Lib.hid ch5
  clear f5 ch5 pq k0
  go_wp2_with fail
  go_loopg [9] N1 (fun k t wr => ∃ (i : Nat) (x : CS) (s : SS) (S : DS), i ≤ N1 ∧ k = N1 - i ∧ t = .int .i64 (i : Int) ∧ ChestAt w w.heap.size (w.heap.size + 1) w.heap.size r x s S wr ∧ FInv i M x s S)
  case atStart => exact ⟨0, _, _, _, Nat.zero_le _, rfl, rfl, CH5.out, F0.out⟩
  case round =>
    obtain ⟨i, x, s, S, hi, hk, rfl, hch, hfi⟩ := hrel
    by_cases hlt : i < N1
    · obtain ⟨g, off, hA, hgs, A', c', hc, hbn, hbm⟩ := HTB.out i (by rw [HN1.out]; exact hlt)
      obtain ⟨b, hbe⟩ : ∃ b, bf[i]'(by rw [HN1.out]; exact hlt) = b := ⟨_, rfl⟩
      rw [hbe] at hc hbn hbm
      unfold maxLen at hbm
      have hc' : wr.cell? ⟨g, off + i, none⟩ = some (.slice A' b.length c') := (hch.at_.below.cell (p := ⟨g, off + i, none⟩) hgs).trans hc
      have hltI : (i : Int) < (N1 : Int) := by omega
      subst hA
      obtain ⟨L, hL⟩ : ∃ L, b.length = L := ⟨_, rfl⟩
      rw [hL] at hc'
      by_cases hbig : 300 < L
      · have hbI : (300 : Int) < (L : Int) := by omega
        have aw := awake14 wr hch.at_.glob
        have CH := Lib.hid hch
        clear hch hfi hbn hc
        go_wp2_with fail
        with_reducible refine aw.mono ?_
        rintro e w6 ⟨rfl, c6⟩
        have C6 := Lib.hid c6
        clear c6 aw
        go_wp2_with fail
        go_ret
        exact ⟨rfl, CH.out.at_.below.trans (C6.out.mono CH.out.at_.below.size)⟩
      · have hbI : ¬ ((300 : Int) < (L : Int)) := by omega
        have hR := hfi.keep (b := b) (by omega) (by omega)
        have hold : ∀ a, A' = some a → 0 < b.length → a.block < w.heap.size := fun a ha h0 => by
          obtain ⟨g9, o9, e9, hg9, _⟩ := hbn.byt.cell h0
          rw [ha] at e9
          cases e9
          exact hg9
        have ft := kkeep_c hch A' c' hbn.nil_ b (hbn.byt.belowB hch.at_.below hold) (fun a ha h0 => .inl (hold a ha h0)) (by omega) (fun _ => ⟨hfi.um, by rw [hfi.len]; exact hfi.fm, by have := hfi.sn; omega⟩) (by have := hfi.waits; omega) (by have := hfi.ln; omega)
        rw [hL] at ft
        have HR := Lib.hid hR.1
        clear hch hfi hbn hc hR hold
        go_wp2_with fail
        with_reducible refine ft.mono ?_
        rintro e w6 ⟨rfl, ch6⟩
        have CH6 := Lib.hid ch6
        clear ft ch6
        go_wp2_with fail
        go_roundg (N1 - (i + 1))
        case measure => omega
        case rel => exact ⟨i + 1, _, _, _, by omega, rfl, by go_num, CH6.out, HR.out⟩
    · obtain rfl : i = N1 := by omega
      have hltI : ¬ ((i : Int) < (i : Int)) := by omega
      obtain ⟨q, k0, s6⟩ := hch.scroll hfi.gone
      have f6 := kfits hch q s6 A2 c2 l (by have := hfi.fm; have := HM.out; omega) hfi.um (by have := hfi.st; omega) (by have := hfi.sn; omega) (HTL.out.tx.below hch.at_.below) (by rw [HN2.out]; omega) HLB.out
      rw [HN2.out] at f6
      obtain ⟨F, hF⟩ : ∃ F, fitsR s l = F := ⟨_, rfl⟩
      rw [hF] at f6
      have HF := Lib.hid hF
      have FI := Lib.hid hfi
      clear hch hfi s6 hF
      go_wp2_with fail
      with_reducible refine f6.mono ?_
      rintro e w6 ⟨rfl, ch6⟩
      have CH6 := Lib.hid ch6
      clear f6 ch6 k0
      go_wp2_with fail
      go_loopg [11, 12] N2 (fun k al t wr => ∃ (j : Nat) (y : Bool) (x : CS) (s : SS) (S : DS), j ≤ N2 ∧ k = N2 - j ∧ t = .int .i64 (j : Int) ∧ al = .bool y ∧ ChestAt w w.heap.size (w.heap.size + 1) w.heap.size r x s S wr ∧ FInv (i + j) M x s S ∧ F = (y && fitsR s (l.drop j)))
      case atStart => exact ⟨0, true, _, _, _, Nat.zero_le _, rfl, rfl, rfl, CH6.out, FI.out, HF.out.symm⟩
      case round =>
        obtain ⟨j, y, x, s, S, hj, hk, rfl, rfl, hch, hfi, hFe⟩ := hrel
        by_cases hend : j < N2 ∧ y = true
        · obtain ⟨hlt2, rfl⟩ := hend
          have hltI2 : (j : Int) < (N2 : Int) := by omega
          obtain ⟨g, off, hA, hgs, A', c', hc, hbn, _⟩ := HTL.out j (by rw [HN2.out]; exact hlt2)
          obtain ⟨b, hbe⟩ : ∃ b, l[j]'(by rw [HN2.out]; exact hlt2) = b := ⟨_, rfl⟩
          have hdr : l.drop j = b :: l.drop (j + 1) := by rw [← hbe]; exact List.drop_eq_getElem_cons _
          rw [hdr, Bool.true_and] at hFe
          have hbr : b.length ≤ 140737488351232 := HLB.out b (by rw [← hbe]; exact List.getElem_mem _)
          rw [hbe] at hc hbn
          have hc' : wr.cell? ⟨g, off + j, none⟩ = some (.slice A' b.length c') := (hch.at_.below.cell (p := ⟨g, off + j, none⟩) hgs).trans hc
          subst hA
          obtain ⟨L, hL⟩ : ∃ L, b.length = L := ⟨_, rfl⟩
          rw [hL] at hc' hbr
          by_cases hbig : 300 < L
          · have hbI : (300 : Int) < (L : Int) := by omega
            have aw := awake14 wr hch.at_.glob
            have CH := Lib.hid hch
            clear hch hfi hbn hc hFe hdr
            go_wp2_with fail
            with_reducible refine aw.mono ?_
            rintro e w7 ⟨rfl, c7⟩
            have C7 := Lib.hid c7
            clear c7 aw
            go_wp2_with fail
            go_ret
            exact ⟨rfl, CH.out.at_.below.trans (C7.out.mono CH.out.at_.below.size)⟩
          · have hbI : ¬ ((300 : Int) < (L : Int)) := by omega
            have hR := hfi.keep (b := b) (by omega) (by omega)
            have hold : ∀ a, A' = some a → 0 < b.length → a.block < w.heap.size := fun a ha h0 => by
              obtain ⟨g9, o9, e9, hg9, _⟩ := hbn.byt.cell h0
              rw [ha] at e9
              cases e9
              exact hg9
            have ft := kkeep_c hch A' c' hbn.nil_ b (hbn.byt.belowB hch.at_.below hold) (fun a ha h0 => .inl (hold a ha h0)) (by omega) (fun _ => ⟨hfi.um, by rw [hfi.len]; exact hfi.fm, by have := hfi.sn; omega⟩) (by have := hfi.waits; omega) (by have := hfi.ln; omega)
            rw [hL] at ft
            obtain ⟨hI, hE⟩ := hR
            have FT := Lib.hid ft
            have HI := Lib.hid hI
            have HFE := Lib.hid hFe
            clear hch hfi hbn hc hold ft hI hFe hdr
            rcases hE with ⟨hE, hq⟩ | ⟨hE, hq⟩
            · have HQ := Lib.hid hq
              rw [hE] at FT
              clear hq hE
              go_wp2_with fail
              with_reducible refine FT.out.mono ?_
              rintro e w7 ⟨rfl, ch7⟩
              have CH7 := Lib.hid ch7
              clear FT ch7
              go_wp2_with fail
              go_roundg (N2 - (j + 1))
              case measure => omega
              case rel => exact ⟨j + 1, true, _, _, _, by omega, rfl, by go_num, rfl, CH7.out, HI.out, by rw [Bool.true_and, HFE.out, HQ.out]⟩
            · have HQ := Lib.hid hq
              rw [hE] at FT
              clear hq hE
              go_wp2_with fail
              with_reducible refine FT.out.mono ?_
              rintro e w7 ⟨rfl, ch7⟩
              have CH7 := Lib.hid ch7
              clear FT ch7
              go_wp2_with fail
              go_roundg (N2 - (j + 1))
              case measure => omega
              case rel => exact ⟨j + 1, false, _, _, _, by omega, rfl, by go_num, rfl, CH7.out, HI.out, by rw [Bool.false_and, HFE.out, HQ.out]⟩
        · have hFy : F = y := by
            cases y with
            | false => rw [hFe]; rfl
            | true =>
              have hj2 : j = N2 := by
                by_cases h : j < N2
                · exact absurd ⟨h, rfl⟩ hend
                · omega
              rw [hFe, List.drop_of_length_le (by rw [HN2.out]; omega)]
              rfl
          have hend' : j < N2 → y = false := fun h => by
            cases y with
            | false => rfl
            | true => exact absurd ⟨h, rfl⟩ hend
          subst hFy
          clear hFe hend
          obtain ⟨q, k0, s7⟩ := hch.scroll hfi.gone
          have hrl : r < wr.heap.size := block_lt_of_cell k0
          let SS0 : World → Prop := fun X => X.cell? ⟨r, 0, none⟩ = some (.pointer (some ⟨q, 0, none⟩))
          have hS : ∀ X, Below wr.heap.size wr X → SS0 X := fun X hX => (hX.cell (p := ⟨r, 0, none⟩) hrl).trans k0
          have HS := Lib.hid hS
          have HCH := Lib.hid hch
          have HFI := Lib.hid hfi
          have HS7 := Lib.hid s7
          have hz7 : fitsR s [Z7] = false := by
            unfold fitsR
            rw [fitsGo, if_neg]
            rintro ⟨h1, _⟩
            rw [formE_long (by have := hfi.st; omega) (by have := hfi.sn; omega) (by rw [Z7L.out]; omega)] at h1
            exact absurd h1 (by omega)
          have HZ7 := Lib.hid hz7
          clear hS hch hfi s7 k0 hz7
          by_cases hj : j < N2
          focus
            obtain rfl := hend' hj
            have hltI2 : (j : Int) < (N2 : Int) := by omega
            go_upto_region 20 with fail
          rotate_left
          focus
            have hltI2 : ¬ (j : Int) < (N2 : Int) := by omega
            go_upto_region 20 with fail
          all_goals
            clear hltI2 hend'
            obtain ⟨W9, hW9⟩ : ∃ W9, wr.drew = W9 := ⟨_, rfl⟩
            have hD : Below wr.heap.size wr W9 := by rw [← hW9]; exact (Below.refl _ _).drew
            have hs9 : W9.heap.size = wr.heap.size := by rw [← hW9]; rfl
            have HW9 := Lib.hid hW9
            have HS9 := Lib.hid hs9
            clear hW9 hs9
            refine wp_txO [(0, 3), (1, 3), (2, 3), (3, 3), (4, 3), (5, 3), (6, 3), (7, 3), (8, 0), (9, 1), (10, 1), (11, 2), (12, 3), (13, 3), (14, 3), (15, 2), (16, 3), (17, 3)] SS0 (by kernel_rfl) (by kernel_rfl) (by kernel_rfl) (by kernel_rfl) (by rw [HW9.out]; exact HS.out _ hD) ?_
            rw [HW9.out]
            iterate 8 (with_reducible refine wpTxO_evN (o := ?_) (v := ?_) (a' := ?_) (by with_unfolding_all rfl) (by with_unfolding_all rfl) (fun W' => ?_) ?_ ?_; rotate_left 2; (focus (go_simp <;> with_reducible rfl)); focus (go_simp <;> with_reducible rfl))
            iterate 1 (with_reducible refine wpTxO_takeN (o := ?_) (v := ?_) (a' := ?_) (by with_unfolding_all rfl) (by with_unfolding_all rfl) (fun W' hS' => ?_) ?_ ?_; rotate_left 2; (focus (have j0 : W'.cell? _ = _ := hS'; go_simp <;> with_reducible rfl)); focus (go_simp <;> with_reducible rfl))
            with_reducible refine wpTxO_want (o := ?_) (by with_unfolding_all rfl) (by with_unfolding_all rfl) (fun K hK => ?_)
            simp only [List.getElem_toArray, List.getElem_cons_succ, List.getElem_cons_zero]
            go_simp
            have bz : Below W9.heap.size W9 (W9.alloc (.cells (bys Z7).toArray 5)) := (Below.refl _ _).alloc (Nat.le_refl _) _
            have yz := (Blk.new W9 5 (bys Z7).toArray).byt Z7B.out
            with_reducible refine hK _ _ (HS.out _ (hD.trans (bz.mono (by rw [HS9.out]; exact Nat.le_refl _)))) ?_
            clear hK K
            with_reducible refine wpTxO_want (o := ?_) (by with_unfolding_all rfl) (by with_unfolding_all rfl) (fun K hK => ?_)
            simp only [List.getElem_toArray, List.getElem_cons_succ, List.getElem_cons_zero]
            go_simp
            have hx1 := TX.one (w := W9.alloc (.cells (bys Z7).toArray 5)) (x := .slice (some ⟨W9.heap.size, 0, none⟩) 70000 70000) (b := Z7) (cx := 70000) (by rw [Z7L.out]) yz (by simp)
            have bx : Below W9.heap.size W9 ((W9.alloc (.cells (bys Z7).toArray 5)).alloc (.cells #[.slice (some ⟨W9.heap.size, 0, none⟩) 70000 70000] 22)) := bz.alloc (by simp) _
            have bwx := hD.trans (bx.mono (by rw [HS9.out]; exact Nat.le_refl _))
            with_reducible refine hK _ _ (HS.out _ bwx) ?_
            clear hK K
            with_reducible refine wpTxO_last (o := ?_) (by with_unfolding_all rfl) (by with_unfolding_all rfl) (fun K hK => ?_)
            simp only [List.getElem_toArray, List.getElem_cons_succ, List.getElem_cons_zero]
            go_simp
            have hsb := HS7.out
            unfold IsScroll at hsb
            have hsx := hsb.fr (Fr.of_below bwx) (by have := hsb.lt; omega)
            have hchx := HCH.out.after bwx
            rw [World.size_alloc] at hx1
            have f7 := kfits hchx q (by unfold IsScroll; exact hsx) (some ⟨W9.heap.size + 1, 0, none⟩) 1 [Z7] (by have := HFI.out.fm; have := HM.out; omega) HFI.out.um (by have := HFI.out.st; omega) (by have := HFI.out.sn; omega) hx1 (by simp) (fun b hb => by simp at hb; subst hb; rw [Z7L.out]; omega)
            rw [HZ7.out, show ([Z7] : List (List Int)).length = 1 from rfl] at f7
            with_reducible refine f7.mono ?_
            rintro e w8 ⟨rfl, ch8⟩
            have R8 : Below w.heap.size w w8 := ch8.at_.below
            have aw := awake14 w8 ch8.at_.glob
            with_reducible refine hK _ _ ?_
            clear hK K f7
            iterate 3 (with_reducible refine wpTxO_evN (o := ?_) (v := ?_) (a' := ?_) (by with_unfolding_all rfl) (by with_unfolding_all rfl) (fun W' => ?_) ?_ ?_; rotate_left 2; (focus (go_simp <;> with_reducible rfl)); focus (go_simp <;> with_reducible rfl))
            with_reducible refine wpTxO_last (o := ?_) (by with_unfolding_all rfl) (by with_unfolding_all rfl) (fun K hK => ?_)
            simp only [List.getElem_toArray, List.getElem_cons_succ, List.getElem_cons_zero]
            go_simp
            with_reducible refine aw.mono ?_
            rintro e w9 ⟨rfl, c9⟩
            with_reducible refine hK _ _ ?_
            clear hK K aw
            iterate 2 (with_reducible refine wpTxO_evN (o := ?_) (v := ?_) (a' := ?_) (by with_unfolding_all rfl) (by with_unfolding_all rfl) (fun W' => ?_) ?_ ?_; rotate_left 2; (focus (go_simp <;> with_reducible rfl)); focus (go_simp <;> with_reducible rfl))
            with_reducible refine wpTxO_nil ?_
            rw [noPan_normal]
            go_wp2_with fail
            go_ret
            exact ⟨rfl, R8.trans (c9.mono R8.size)⟩

end Go.Proofs.YtohadeijmmmcdaaDoor
