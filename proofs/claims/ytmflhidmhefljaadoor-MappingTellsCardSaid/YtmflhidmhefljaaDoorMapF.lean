/-
  mapping.places; seisinref08.Places, Has, Each; seisinref01.Ints.
-/
import Derived.Test.YtmflhidmhefljaaDoorMapE
import Derived.BigQuiet
namespace Go.Proofs.YtmflhidmhefljaaDoor
open Go.RowKit Go.Shelf
set_option maxRecDepth 100000

theorem uInts : Tryd.prog.underlying 38 = some (.slice 3) := by kernel_rfl
theorem iInts : (Tryd.prog.info? 3).map (fun i => (i.zero.map (·.cells.size), i.size, i.bytes)) = some (some 1, 1, 8) := by kernel_rfl
theorem apI_of (xs : Array Value) (t : TypeId) : Builtin.append_ #[38, 38] t xs = APs #[38, 38] t xs := rfl
attribute [local go_sem ↓] apI_of
theorem OwnI.formN {B : Nat} {w : World} {v : Value} {l : List Int} (h : OwnI B w v l) : ∃ A N c, v = .slice A N c := by
  obtain ⟨A, c, e⟩ := OwnW.form h
  exact ⟨A, _, c, e⟩
theorem OwnI.lenN {B N c : Nat} {w : World} {A : Option Addr} {l : List Int} (h : OwnI B w (.slice A N c) l) : N = l.length := by
  obtain ⟨A', c', e⟩ := OwnW.form h
  simp only [Value.slice.injEq] at e
  exact e.2.1
/-- One number more. -/
theorem appI {ty : TypeId} {B N c : Nat} {w : World} {A : Option Addr} {l : List Int} (h : OwnI B w (.slice A N c) l) (x : Int) (hlen : l.length + 1 ≤ 1000000000) (hB : B ≤ w.heap.size) :
    ∃ A' N' c' w', (APs #[38, 38] ty #[.slice A N c, .slice (some ⟨w.heap.size, 0, none⟩) 1 1]).run Tryd.prog (w.alloc (.cells #[.int .i64 x] 3)) = .ok (.slice A' N' c') w' ∧ OwnI B w' (.slice A' N' c') (l ++ [x]) ∧ Below B w w' := by
  obtain ⟨v', w', h1, h2, h3, _⟩ := appW_one (ty := ty) uInts iInts (by omega) h x hlen hB
  obtain ⟨A', N', c', rfl⟩ := OwnI.formN h2
  exact ⟨A', N', c', w', h1, h2, OwnW.step h h3 hB⟩
theorem RdW.at {q : IntKind} {w : World} {A : Option Addr} {l : List Int} (h : RdW q w A l) {i : Nat} (hi : i < l.length) : ∃ g off, A = some ⟨g, off, none⟩ ∧ g < w.heap.size ∧ w.cell? ⟨g, off + i, none⟩ = some (.int q (l.getD i 0)) := by
  obtain ⟨g, off, e, hg, hc⟩ := h (by omega)
  exact ⟨g, off, e, hg, hc i _ (by simp [List.getD, hi])⟩
theorem take_getD {l : List Int} {i : Nat} (hi : i < l.length) : l.take (i + 1) = l.take i ++ [l.getD i 0] := by
  rw [List.take_succ_eq_append_getElem hi]; simp [List.getD, hi]

set_option maxHeartbeats 2000000 in
theorem places_any (A : Option Addr) (N c : Nat) (l : List Int) (x : Int) (w : World) (h : RdW .i64 w A l) (hN : N = l.length) (hl : l.length ≤ 1000000) :
    Calls Tryd.prog 27 #[.slice A N c, .int .i64 x] w fun e w' => ∃ v, e = .returned v ∧ OwnI w.heap.size w' v (placesP l x) ∧ Below w.heap.size w w' := by
  rw [← hN] at hl
  have H := Lib.hid h
  have HN := Lib.hid hN
  clear h hN
  go_enter Tryd.func27, Tryd.ntmps27
  go_upto_region 2 with fail
  go_loopg [4, 5, 6, 9] N (fun kk v _ _ s wr => ∃ i : Nat, i + kk = N ∧ s = .int .i64 (i : Int) ∧ OwnI w.heap.size wr v (placesP (l.take i) x) ∧ Below w.heap.size w wr)
  case atStart => exact ⟨0, by omega, rfl, by rw [List.take_zero, placesP_nil]; exact OwnW.nil _ _ _ _, Below.refl _ _⟩
  case round =>
    obtain ⟨i, hi, rfl, hv, hB⟩ := hrel
    obtain ⟨Av, Nv, cv, rfl⟩ := hv.formN
    by_cases hlt : i < N
    · have hltI : (i : Int) < (N : Int) := by omega
      have hil : i < l.length := by rw [← HN.out]; exact hlt
      obtain ⟨g, off, rfl, hg, hc⟩ := (H.out.below hB).at hil
      have htk := placesP_snoc (l.take i) (l.getD i 0) x
      rw [← take_getD hil, List.length_take, Nat.min_eq_left (by omega)] at htk
      obtain ⟨y, hy⟩ : ∃ y, l.getD i 0 = y := ⟨_, rfl⟩
      rw [hy] at hc htk
      have hle := placesP_len (l.take i) x
      rw [List.length_take] at hle
      by_cases hxy : y = x
      · subst hxy
        rw [if_pos rfl] at htk
        obtain ⟨A', N', c', w', hap, ho, hB2⟩ := appI (ty := 38) hv (i : Int) (by omega) hB.size
        rw [← htk] at ho
        have HO := Lib.hid ho
        have HB2 := Lib.hid (hB.trans hB2)
        clear hv hB htk hle ho hB2 hy
        go_wp2_with fail
        go_roundg (N - (i + 1))
        case measure => omega
        case rel => exact ⟨i + 1, by omega, by go_num, HO.out, HB2.out⟩
      · rw [if_neg hxy, List.append_nil] at htk
        rw [← htk] at hv
        have HV := Lib.hid hv
        have HB := Lib.hid hB
        clear hv hB htk hle hy
        go_wp2_with fail
        go_roundg (N - (i + 1))
        case measure => omega
        case rel => exact ⟨i + 1, by omega, by go_num, HV.out, HB.out⟩
    · obtain rfl : N = i := by omega
      have hltI : ¬ (N : Int) < (N : Int) := by omega
      rw [List.take_of_length_le (by rw [HN.out]; exact Nat.le_refl _)] at hv
      have HV := Lib.hid hv
      have HB := Lib.hid hB
      clear hv hB
      go_wp2_with fail
      go_ret
      exact ⟨_, rfl, HV.out, HB.out⟩

set_option maxHeartbeats 2000000 in
theorem rplaces_any (A : Option Addr) (N c : Nat) (l : List Int) (x : Int) (w : World) (h : RdW .i64 w A l) (hN : N = l.length) (hl : l.length ≤ 1000000) :
    Calls Tryd.prog 20 #[.slice A N c, .int .i64 x] w fun e w' => ∃ v, e = .returned v ∧ OwnI w.heap.size w' v (placesP l x) ∧ Below w.heap.size w w' := by
  rw [← hN] at hl
  have H := Lib.hid h
  have HN := Lib.hid hN
  clear h hN
  go_enter Tryd.func20, Tryd.ntmps20
  go_upto_region 3 with fail
  go_loopg [5, 6] N (fun kk v s wr => ∃ i : Nat, i + kk = N ∧ s = .int .i64 (i : Int) ∧ OwnI w.heap.size wr v (placesP (l.take i) x) ∧ Below w.heap.size w wr)
  case atStart => exact ⟨0, by omega, rfl, by rw [List.take_zero, placesP_nil]; exact OwnW.nil _ _ _ _, Below.refl _ _⟩
  case round =>
    obtain ⟨i, hi, rfl, hv, hB⟩ := hrel
    obtain ⟨Av, Nv, cv, rfl⟩ := hv.formN
    by_cases hlt : i < N
    · have hltI : (i : Int) < (N : Int) := by omega
      have hil : i < l.length := by rw [← HN.out]; exact hlt
      obtain ⟨g, off, rfl, hg, hc⟩ := (H.out.below hB).at hil
      have htk := placesP_snoc (l.take i) (l.getD i 0) x
      rw [← take_getD hil, List.length_take, Nat.min_eq_left (by omega)] at htk
      obtain ⟨y, hy⟩ : ∃ y, l.getD i 0 = y := ⟨_, rfl⟩
      rw [hy] at hc htk
      have hle := placesP_len (l.take i) x
      rw [List.length_take] at hle
      by_cases hxy : y = x
      · subst hxy
        rw [if_pos rfl] at htk
        obtain ⟨A', N', c', w', hap, ho, hB2⟩ := appI (ty := 38) hv (i : Int) (by omega) hB.size
        rw [← htk] at ho
        have HO := Lib.hid ho
        have HB2 := Lib.hid (hB.trans hB2)
        clear hv hB htk hle ho hB2 hy
        go_wp2_with fail
        go_roundg (N - (i + 1))
        case measure => omega
        case rel => exact ⟨i + 1, by omega, by go_num, HO.out, HB2.out⟩
      · rw [if_neg hxy, List.append_nil] at htk
        rw [← htk] at hv
        have HV := Lib.hid hv
        have HB := Lib.hid hB
        clear hv hB htk hle hy
        go_wp2_with fail
        go_roundg (N - (i + 1))
        case measure => omega
        case rel => exact ⟨i + 1, by omega, by go_num, HV.out, HB.out⟩
    · obtain rfl : N = i := by omega
      have hltI : ¬ (N : Int) < (N : Int) := by omega
      rw [List.take_of_length_le (by rw [HN.out]; exact Nat.le_refl _)] at hv
      have HV := Lib.hid hv
      have HB := Lib.hid hB
      clear hv hB
      go_wp2_with fail
      go_ret
      exact ⟨_, rfl, HV.out, HB.out⟩

theorem rhas_any (A : Option Addr) (N c : Nat) (l : List Int) (x : Int) (w : World) (h : RdW .i64 w A l) (hN : N = l.length) (hl : l.length ≤ 1000000) :
    Calls Tryd.prog 12 #[.slice A N c, .int .i64 x] w fun e w' => e = .returned (.bool (l.contains x)) ∧ Below w.heap.size w w' := by
  have hp := rplaces_any A N c l x w h hN hl
  have hiff : l.contains x = decide ((0 : Int) < ((placesP l x).length : Int)) := by
    rw [Bool.eq_iff_iff, List.contains_iff_mem, decide_eq_true_eq, ← placesP_pos]
    omega
  have HI := Lib.hid hiff
  clear hiff h hN hl
  go_enter Tryd.func12, Tryd.ntmps12
  go_wp2_with fail
  with_reducible refine hp.mono ?_
  rintro e w' ⟨v, rfl, hv, hB⟩
  obtain ⟨A', N', c', rfl⟩ := hv.formN
  have hN' := hv.lenN
  have HN' := Lib.hid hN'
  have HB := Lib.hid hB
  clear hv hB hN' hp
  go_wp2_with fail
  go_ret
  have e : decide ((0 : Int) < (N' : Int)) = decide (0 < N') := by rw [decide_eq_decide]; omega
  exact ⟨by rw [HI.out, ← HN'.out, e]; rfl, HB.out⟩

set_option maxHeartbeats 2000000 in
theorem ints_any (A1 A2 : Option Addr) (N1 N2 c1 c2 : Nat) (a b : List Int) (w : World) (h1 : RdW .i64 w A1 a) (h2 : RdW .i64 w A2 b) (hN1 : N1 = a.length) (hN2 : N2 = b.length) (hl : a.length ≤ 1000000) :
    Calls Tryd.prog 19 #[.slice A1 N1 c1, .slice A2 N2 c2] w fun e w' => e = .returned (.bool (decide (a = b))) ∧ ∃ m, w' = w.drewN m := by
  rw [← hN1] at hl
  have H1 := Lib.hid h1
  have H2 := Lib.hid h2
  have E1 := Lib.hid hN1
  have E2 := Lib.hid hN2
  obtain ⟨R, hR⟩ : ∃ R, decide (a = b) = R := ⟨_, rfl⟩
  rw [hR]
  have HR := Lib.hid hR
  clear h1 h2 hN1 hN2 hR
  by_cases hn : N1 = N2
  · subst hn
    have hnb : ((N1 : Int) != (N1 : Int)) = false := by simp
    go_enter Tryd.func19, Tryd.ntmps19
    go_upto_region 4 with fail
    go_loopg [5] N1 (fun kk s wr => ∃ i : Nat, i + kk = N1 ∧ s = .int .i64 (i : Int) ∧ (∀ j, j < i → a.getD j 0 = b.getD j 0) ∧ ∃ q, wr = w.drewN q)
    case atStart => exact ⟨0, by omega, rfl, fun j hj => by omega, 0, rfl⟩
    case round =>
      obtain ⟨i, hi, rfl, heq, q, rfl⟩ := hrel
      have HEQ := Lib.hid heq
      clear heq
      by_cases hlt : i < N1
      · have hltI : (i : Int) < (N1 : Int) := by omega
        obtain ⟨g1, o1, rfl, _, s1⟩ := H1.out.at (i := i) (by rw [← E1.out]; exact hlt)
        obtain ⟨g2, o2, rfl, _, s2⟩ := H2.out.at (i := i) (by rw [← E2.out]; exact hlt)
        obtain ⟨x, hx⟩ : ∃ x, a.getD i 0 = x := ⟨_, rfl⟩
        obtain ⟨y, hy⟩ : ∃ y, b.getD i 0 = y := ⟨_, rfl⟩
        rw [hx] at s1
        rw [hy] at s2
        have HX := Lib.hid hx
        have HY := Lib.hid hy
        clear hx hy
        by_cases hxy : x = y
        · have hxyb : (x != y) = false := by simp [hxy]
          have HXY := Lib.hid hxy
          clear hxy
          go_wp2_with fail
          go_quiet (fail)
          all_goals
            go_wp2_with fail
            go_roundg (N1 - (i + 1))
            case measure => omega
            case rel => exact ⟨i + 1, by omega, by go_num, fun j hj => by
              by_cases e : j = i
              · subst e; rw [HX.out, HY.out]; exact HXY.out
              · exact HEQ.out j (by omega), _, (by first | rfl | exact World.drewN_drewN _ _ _)⟩
        · have hxyb : (x != y) = true := by simp [hxy]
          have hRf : R = false := by
            rw [← HR.out, decide_eq_false_iff_not]
            intro e
            subst e
            exact hxy (HX.out.symm.trans HY.out)
          subst hRf
          go_wp2_with fail
          go_quiet (fail)
          all_goals
            go_wp2_with fail
            go_ret
            exact ⟨rfl, _, (by first | rfl | exact World.drewN_drewN _ _ _)⟩
      · obtain rfl : N1 = i := by omega
        have hltI : ¬ (N1 : Int) < (N1 : Int) := by omega
        have hRt : R = true := by
          rw [← HR.out, decide_eq_true_eq]
          apply List.ext_getElem (by rw [← E1.out, ← E2.out])
          intro j h1 h2
          have := HEQ.out j (by rw [E1.out]; exact h1)
          simpa [List.getD, h1, h2] using this
        subst hRt
        go_wp2_with fail
        go_ret
        exact ⟨rfl, q, rfl⟩
  · have hnb : ((N1 : Int) != (N2 : Int)) = true := by simp; omega
    have hRf : R = false := by
      rw [← HR.out, decide_eq_false_iff_not]
      intro e
      subst e
      exact hn (E1.out.trans E2.out.symm)
    subst hRf
    go_enter Tryd.func19, Tryd.ntmps19
    go_wp2_with fail
    go_ret
    exact ⟨rfl, 0, rfl⟩

/-- Numbers below k of a row, rising. -/
def eachU (l : List Int) (k : Nat) : List Int := ((List.range k).map fun (n : Nat) => (n : Int)).filter fun v => l.contains v
theorem eachU_zero (l : List Int) : eachU l 0 = [] := rfl
theorem eachU_succ (l : List Int) (k : Nat) : eachU l (k + 1) = eachU l k ++ (if l.contains (k : Int) then [(k : Int)] else []) := by
  unfold eachU
  rw [List.range_succ, List.map_append, List.filter_append]
  congr 1
  by_cases h : (k : Int) ∈ l
  · simp [h]
  · simp [h]
theorem eachU_64 (l : List Int) : eachU l 64 = eachP l := rfl
theorem eachU_len (l : List Int) (k : Nat) : (eachU l k).length ≤ k := by
  unfold eachU
  exact Nat.le_trans (List.length_filter_le _ _) (by simp)

set_option maxHeartbeats 2000000 in
theorem reach_any (A : Option Addr) (N c : Nat) (l : List Int) (w : World) (h : RdW .i64 w A l) (hN : N = l.length) (hl : l.length ≤ 1000000) :
    Calls Tryd.prog 17 #[.slice A N c] w fun e w' => ∃ v, e = .returned v ∧ OwnI w.heap.size w' v (eachP l) ∧ Below w.heap.size w w' := by
  rw [← hN] at hl
  have H := Lib.hid h
  have HN := Lib.hid hN
  clear h hN
  go_enter Tryd.func17, Tryd.ntmps17
  go_upto_region 3 with fail
  go_loopg [3, 4, 5] 64 (fun kk v s _ wr => ∃ k : Nat, k + kk = 64 ∧ s = .int .i64 (k : Int) ∧ OwnI w.heap.size wr v (eachU l k) ∧ Below w.heap.size w wr)
  case atStart => exact ⟨0, by omega, rfl, by rw [eachU_zero]; exact OwnW.nil _ _ _ _, Below.refl _ _⟩
  case round =>
    obtain ⟨k, hk, rfl, hv, hB⟩ := hrel
    obtain ⟨Av, Nv, cv, rfl⟩ := hv.formN
    have hul := eachU_len l k
    by_cases hlt : k < 64
    · have hltI : (k : Int) < 64 := by omega
      have hsu := eachU_succ l k
      obtain ⟨wo, hwo⟩ : ∃ wo, wo = wr := ⟨_, rfl⟩
      subst hwo
      have HSU := Lib.hid hsu
      have HV := Lib.hid hv
      have HB := Lib.hid hB
      clear hsu hv hB
      go_upto_region 6 with fail
      go_loopg [3, 5] N (fun kk v s wr => ∃ i : Nat, i + kk = N ∧ v = .slice Av Nv cv ∧ s = .int .i64 (i : Int) ∧ (∀ j, j < i → l.getD j 0 ≠ (k : Int)) ∧ wo = wr)
      case atStart => exact ⟨0, by omega, rfl, rfl, fun j hj => by omega, rfl⟩
      case round =>
        obtain ⟨i, hi, rfl, rfl, hne, rfl⟩ := hrel
        have HNE := Lib.hid hne
        clear hne
        by_cases hli : i < N
        · have hliI : (i : Int) < (N : Int) := by omega
          have hil : i < l.length := by rw [← HN.out]; exact hli
          obtain ⟨g, off, rfl, hg, hc⟩ := (H.out.below HB.out).at hil
          obtain ⟨y, hy⟩ : ∃ y, l.getD i 0 = y := ⟨_, rfl⟩
          rw [hy] at hc
          have HY := Lib.hid hy
          clear hy
          by_cases hxy : y = (k : Int)
          · subst hxy
            have hct : l.contains (k : Int) = true := by
              rw [List.contains_iff_mem, ← HY.out]
              simp [List.getD, hil]
            have hsu := HSU.out
            rw [if_pos hct] at hsu
            obtain ⟨A', N', c', w', hap, ho, hB2⟩ := appI (ty := 38) HV.out (k : Int) (by omega) HB.out.size
            rw [← hsu] at ho
            have HO := Lib.hid ho
            have HB2 := Lib.hid (HB.out.trans hB2)
            clear hsu ho hB2 hct
            go_wp2_with fail
            go_roundg (64 - (k + 1))
            case measure => omega
            case rel => exact ⟨k + 1, by omega, by go_num, HO.out, HB2.out⟩
          · have HXY := Lib.hid hxy
            go_wp2_with fail
            go_roundg (N - (i + 1))
            case measure => omega
            case rel => exact ⟨i + 1, by omega, rfl, by go_num, fun j hj => by
              by_cases e : j = i
              · subst e; rw [HY.out]; exact HXY.out
              · exact HNE.out j (by omega), rfl⟩
        · obtain rfl : N = i := by omega
          have hliI : ¬ (N : Int) < (N : Int) := by omega
          have hcf : l.contains (k : Int) = false := by
            rw [← Bool.not_eq_true, List.contains_iff_mem]
            intro hm
            obtain ⟨j, hj, e⟩ := List.getElem_of_mem hm
            exact HNE.out j (by rw [HN.out]; exact hj) (by simpa [List.getD, hj] using e)
          have hsu := HSU.out
          rw [if_neg (by rw [hcf]; simp), List.append_nil] at hsu
          have hv := HV.out
          rw [← hsu] at hv
          have HV2 := Lib.hid hv
          clear hsu hv hcf
          go_wp2_with fail
          go_roundg (64 - (k + 1))
          case measure => omega
          case rel => exact ⟨k + 1, by omega, by go_num, HV2.out, HB.out⟩
    · obtain rfl : k = 64 := by omega
      have hltI : ¬ (((64 : Nat) : Int) < 64) := by omega
      rw [eachU_64] at hv
      have HV := Lib.hid hv
      have HB := Lib.hid hB
      clear hv hB
      go_wp2_with fail
      go_ret
      exact ⟨_, rfl, HV.out, HB.out⟩
end Go.Proofs.YtmflhidmhefljaaDoor
