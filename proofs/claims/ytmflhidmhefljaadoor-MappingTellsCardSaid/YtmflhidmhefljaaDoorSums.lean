/-
  sums.is, sums.Add, sums.All; seisinref02.Add, seisinref02.All.
-/
import Derived.Test.YtmflhidmhefljaaDoorCat
import Derived.Deep.CutRange
import Derived.Deep.CutBlock
namespace Go.Proofs.YtmflhidmhefljaaDoor
open Go.RowKit Go.Shelf
set_option maxRecDepth 100000

/-- A sum, and an error. -/
def addQ (a b : Int) : Int × Int := if 4611686018427387904 < a ∨ 4611686018427387904 < b ∨ 4611686018427387904 < a + b then (0, 6) else (a + b, 0)
/-- The sum of all, from s on. -/
def allQ : Int → List Int → Int × Int
  | s, [] => (s, 0)
  | s, x :: l => if (addQ s x).2 = 0 then allQ (addQ s x).1 l else (0, (addQ s x).2)
/-- From A on lie these numbers. -/
structure U64 (w : World) (A : Option Addr) (l : List Int) : Prop where
  cell : 0 < l.length → ∃ g off, A = some ⟨g, off, none⟩ ∧ g < w.heap.size ∧ ∀ j x, l[j]? = some x → w.cell? ⟨g, off + j, none⟩ = some (.int .u64 x)
  bd : ∀ x ∈ l, 0 ≤ x ∧ x ≤ 18446744073709551615
theorem U64.below {w w' : World} {A : Option Addr} {l : List Int} (h : U64 w A l) (hb : Below w.heap.size w w') : U64 w' A l :=
  ⟨fun h0 => by
    obtain ⟨g, off, e, hg, hc⟩ := h.cell h0
    exact ⟨g, off, e, Nat.lt_of_lt_of_le hg hb.size, fun j x hx => (hb.cell (p := ⟨g, off + j, none⟩) hg).trans (hc j x hx)⟩, h.bd⟩
theorem U64.new (w : World) (l : List Int) (hl : ∀ x ∈ l, 0 ≤ x ∧ x ≤ 18446744073709551615) : U64 (w.alloc (.cells (l.map (Value.int .u64)).toArray 33)) (some ⟨w.heap.size, 0, none⟩) l :=
  ⟨fun _ => ⟨_, 0, rfl, by simp, fun j x hx => by
    rw [Nat.zero_add, (Blk.new w 33 (l.map (Value.int .u64)).toArray).cell j]
    simp [hx]⟩, hl⟩

set_option maxHeartbeats 2000000 in
theorem sis_any (A : Option Addr) (c : Nat) (l : List Int) (w : World) (h : U64 w A l) (hl : l.length ≤ 1000000000) :
    Calls Tryd.prog 83 #[.slice A l.length c] w fun e w' => e = .returned (.bool (l.all fun x => decide (x ≤ 4611686018427387904))) ∧ w = w' := by
  obtain ⟨n, hn⟩ : ∃ n, l.length = n := ⟨_, rfl⟩
  rw [hn] at hl ⊢
  obtain ⟨R, hR⟩ : ∃ R, (l.all fun x => decide (x ≤ 4611686018427387904)) = R := ⟨_, rfl⟩
  rw [hR]
  have HR := Lib.hid hR
  have H := Lib.hid h
  have HN := Lib.hid hn
  clear h hn hR
  go_enter Tryd.func83, Tryd.ntmps83
  go_wp2_with fail
  go_loopg [4, 7] n (fun kk _ t wr => ∃ i : Nat, i + kk = n ∧ t = .int .i64 (i : Int) ∧ ((l.take i).all fun x => decide (x ≤ 4611686018427387904)) = true ∧ wr = w)
  case atStart => exact ⟨0, by omega, rfl, by simp, rfl⟩
  case round =>
    obtain ⟨i, hi, rfl, hall, rfl⟩ := hrel
    by_cases hlt : i < n
    · have hltI : (i : Int) < (n : Int) := by omega
      have hil : i < l.length := by rw [HN.out]; exact hlt
      obtain ⟨g, off, rfl, hg, hc⟩ := H.out.cell (by omega)
      have hcx := hc i l[i] (by simp [hil])
      have htk : l.take (i + 1) = l.take i ++ [l[i]] := List.take_succ_eq_append_getElem hil
      have hmem : l[i] ∈ l := List.getElem_mem hil
      obtain ⟨x, hx⟩ : ∃ x, l[i] = x := ⟨_, rfl⟩
      rw [hx] at hcx htk hmem
      have hxb := H.out.bd x hmem
      by_cases hbig : 4611686018427387904 < x
      · have hRf : R = false := by
          rw [← HR.out, List.all_eq_false]
          exact ⟨x, hmem, by simp; omega⟩
        subst hRf
        clear htk hx hc hall
        go_wp2_with fail
        go_ret
        exact ⟨rfl, rfl⟩
      · have hall2 : ((l.take (i + 1)).all fun x => decide (x ≤ 4611686018427387904)) = true := by
          rw [htk, List.all_append, hall]
          simp
          omega
        have HA2 := Lib.hid hall2
        clear htk hx hc hall hall2
        go_wp2_with fail
        go_roundg (n - (i + 1))
        case measure => omega
        case rel => exact ⟨i + 1, by omega, by go_num, HA2.out, rfl⟩
    · obtain rfl : i = n := by omega
      have hltI : ¬ (i : Int) < (i : Int) := by omega
      rw [List.take_of_length_le (by rw [HN.out]; exact Nat.le_refl _), HR.out] at hall
      subst hall
      go_wp2_with fail
      go_ret
      exact ⟨rfl, rfl⟩

theorem addQ_bd (a b : Int) (ha : 0 ≤ a) (hb : 0 ≤ b) : 0 ≤ (addQ a b).1 ∧ (addQ a b).1 ≤ 4611686018427387904 := by
  unfold addQ
  split
  · exact ⟨Int.le_refl _, by simp⟩
  · simp only
    omega

set_option maxHeartbeats 2000000 in
theorem sadd_any (a b : Int) (ha : 0 ≤ a ∧ a ≤ 18446744073709551615) (hb : 0 ≤ b ∧ b ≤ 18446744073709551615) (w : World) :
    Calls Tryd.prog 64 #[.int .u64 a, .int .u64 b] w fun e w' => e = .returned (.tuple #[.int .u64 (addQ a b).1, .int .i64 (addQ a b).2]) ∧ Below w.heap.size w w' := by
  have B1 : Below w.heap.size w (w.alloc (.cells #[.int .u64 a, .int .u64 b] 33)) := (Below.refl _ w).alloc (Nat.le_refl _) _
  have s1 := sis_any _ 2 [a, b] _ (U64.new w [a, b] (fun x hx => by simp at hx; rcases hx with rfl | rfl <;> assumption)) (by simp)
  rw [show ([a, b].map (Value.int .u64)).toArray = #[.int .u64 a, .int .u64 b] from rfl, show ([a, b] : List Int).length = 2 from rfl] at s1
  obtain ⟨W1, hW1⟩ : ∃ W1, w.alloc (.cells #[.int .u64 a, .int .u64 b] 33) = W1 := ⟨_, rfl⟩
  rw [hW1] at B1 s1
  by_cases hbig : 4611686018427387904 < a ∨ 4611686018427387904 < b
  · have hq : addQ a b = (0, 6) := by unfold addQ; rw [if_pos (by omega)]
    have hall : ([a, b].all fun x => decide (x ≤ 4611686018427387904)) = false := by
      simp
      omega
    rw [hq]
    rw [hall] at s1
    have HW1 := Lib.hid hW1
    have HB1 := Lib.hid B1
    clear hW1 hq hall hbig B1
    go_enter Tryd.func64, Tryd.ntmps64
    go_wp2_with fail
    rw [HW1.out]
    with_reducible refine s1.mono ?_
    rintro e w' ⟨rfl, hw⟩
    rw [← hw]
    clear hw s1
    go_wp2_with fail
    go_ret2
    exact ⟨rfl, HB1.out⟩
  · have hall : ([a, b].all fun x => decide (x ≤ 4611686018427387904)) = true := by
      simp
      omega
    rw [hall] at s1
    have hw : IntKind.u64.wrap (a + b) = a + b := by rw [IntKind.wrap_u64]; omega
    have s2 := sis_any _ 1 [a + b] _ (U64.new W1 [a + b] (fun x hx => by simp at hx; subst hx; omega)) (by simp)
    have B2 : Below w.heap.size w (W1.alloc (.cells #[.int .u64 (a + b)] 33)) := B1.alloc B1.size _
    rw [show ([a + b].map (Value.int .u64)).toArray = #[.int .u64 (a + b)] from rfl, show ([a + b] : List Int).length = 1 from rfl] at s2
    have ha4 : a ≤ 4611686018427387904 := by omega
    have hb4 : b ≤ 4611686018427387904 := by omega
    have ha0 := ha.1
    have hb0 := hb.1
    by_cases hsum : 4611686018427387904 < a + b
    · have hq : addQ a b = (0, 6) := by unfold addQ; rw [if_pos (.inr (.inr hsum))]
      have hal2 : ([a + b].all fun x => decide (x ≤ 4611686018427387904)) = false := by
        simp
        omega
      rw [hal2] at s2
      rw [hq]
      have HW1 := Lib.hid hW1
      have HB2 := Lib.hid B2
      clear hW1 hq hall hal2 hbig B1 B2 ha hb
      go_enter Tryd.func64, Tryd.ntmps64
      go_wp2_with fail
      rw [HW1.out]
      with_reducible refine s1.mono ?_
      rintro e w' ⟨rfl, hw'⟩
      rw [← hw']
      clear hw' s1
      go_wp2_with fail
      with_reducible refine s2.mono ?_
      rintro e w' ⟨rfl, hw'⟩
      rw [← hw']
      clear hw' s2
      go_wp2_with fail
      go_ret2
      exact ⟨rfl, HB2.out⟩
    · have hq : addQ a b = (a + b, 0) := by unfold addQ; rw [if_neg (by omega)]
      have hal2 : ([a + b].all fun x => decide (x ≤ 4611686018427387904)) = true := by
        simp
        omega
      rw [hal2] at s2
      rw [hq]
      have HW1 := Lib.hid hW1
      have HB2 := Lib.hid B2
      clear hW1 hq hall hal2 hbig B1 B2 ha hb
      go_enter Tryd.func64, Tryd.ntmps64
      go_wp2_with fail
      rw [HW1.out]
      with_reducible refine s1.mono ?_
      rintro e w' ⟨rfl, hw'⟩
      rw [← hw']
      clear hw' s1
      go_wp2_with fail
      with_reducible refine s2.mono ?_
      rintro e w' ⟨rfl, hw'⟩
      rw [← hw']
      clear hw' s2
      go_wp2_with fail
      go_ret2
      exact ⟨rfl, HB2.out⟩

set_option maxHeartbeats 2000000 in
theorem radd_any (a b : Int) (ha : 0 ≤ a ∧ a ≤ 18446744073709551615) (hb : 0 ≤ b ∧ b ≤ 18446744073709551615) (w : World) :
    Calls Tryd.prog 36 #[.int .u64 a, .int .u64 b] w fun e w' => e = .returned (.tuple #[.int .u64 (addQ a b).1, .int .i64 (addQ a b).2]) ∧ w = w' := by
  have ha0 := ha.1
  have hb0 := hb.1
  by_cases h1 : 4611686018427387904 < a
  · have hq : addQ a b = (0, 6) := by unfold addQ; rw [if_pos (by omega)]
    rw [hq]
    clear hq
    go_enter Tryd.func36, Tryd.ntmps36
    go_wp2_with fail
    go_ret2
    exact ⟨rfl, rfl⟩
  by_cases h2 : 4611686018427387904 < b
  · have hq : addQ a b = (0, 6) := by unfold addQ; rw [if_pos (by omega)]
    rw [hq]
    clear hq
    go_enter Tryd.func36, Tryd.ntmps36
    go_wp2_with fail
    go_ret2
    exact ⟨rfl, rfl⟩
  have ha4 : a ≤ 4611686018427387904 := by omega
  have hb4 : b ≤ 4611686018427387904 := by omega
  have hs : IntKind.u64.wrap (4611686018427387904 - b) = 4611686018427387904 - b := by rw [IntKind.wrap_u64]; omega
  have hw : IntKind.u64.wrap (a + b) = a + b := by rw [IntKind.wrap_u64]; omega
  by_cases h3 : 4611686018427387904 - b < a
  · have hq : addQ a b = (0, 6) := by unfold addQ; rw [if_pos (by omega)]
    rw [hq]
    clear hq ha hb
    go_enter Tryd.func36, Tryd.ntmps36
    go_wp2_with fail
    go_ret2
    exact ⟨rfl, rfl⟩
  · have hq : addQ a b = (a + b, 0) := by unfold addQ; rw [if_neg (by omega)]
    rw [hq]
    clear hq ha hb
    go_enter Tryd.func36, Tryd.ntmps36
    go_wp2_with fail
    go_ret2
    exact ⟨rfl, rfl⟩

theorem allQ_bd : ∀ (l : List Int) (s : Int), (∀ x ∈ l, 0 ≤ x) → 0 ≤ s → s ≤ 4611686018427387904 → 0 ≤ (allQ s l).1 ∧ (allQ s l).1 ≤ 4611686018427387904
  | [], s, _, h0, h1 => ⟨h0, h1⟩
  | x :: l, s, hl, h0, h1 => by
    have hb := addQ_bd s x h0 (hl x (by simp))
    unfold allQ
    split
    · exact allQ_bd l _ (fun y hy => hl y (by simp [hy])) hb.1 hb.2
    · exact ⟨Int.le_refl _, by simp⟩
theorem addQ_e (a b : Int) : (addQ a b).2 = 0 ∨ (addQ a b).2 = 6 := by
  unfold addQ
  split
  · exact .inr rfl
  · exact .inl rfl
theorem allQ_e : ∀ (l : List Int) (s : Int), (allQ s l).2 = 0 ∨ (allQ s l).2 = 6
  | [], s => .inl rfl
  | x :: l, s => by
    unfold allQ
    split
    · exact allQ_e l _
    · exact addQ_e s x

set_option maxHeartbeats 2000000 in
theorem sall_any (A : Option Addr) (c : Nat) (l : List Int) (w : World) (h : U64 w A l) (hl : l.length ≤ 1000000000) :
    Calls Tryd.prog 51 #[.slice A l.length c] w fun e w' => e = .returned (.tuple #[.int .u64 (allQ 0 l).1, .int .i64 (allQ 0 l).2]) ∧ Below w.heap.size w w' := by
  obtain ⟨n, hn⟩ : ∃ n, l.length = n := ⟨_, rfl⟩
  rw [hn] at hl ⊢
  obtain ⟨R, hR⟩ : ∃ R, allQ 0 l = R := ⟨_, rfl⟩
  rw [hR]
  have HR := Lib.hid hR
  have H := Lib.hid h
  have HN := Lib.hid hn
  clear h hn hR
  go_enter Tryd.func51, Tryd.ntmps51
  go_wp2_with fail
  go_loopg [4, 6, 7, 8, 11] n (fun kk sv _ _ _ t wr => ∃ (i : Nat) (s : Int), i + kk = n ∧ t = .int .i64 (i : Int) ∧ sv = .int .u64 s ∧ 0 ≤ s ∧ s ≤ 4611686018427387904 ∧ allQ s (l.drop i) = R ∧ Below w.heap.size w wr)
  case atStart => exact ⟨0, 0, by omega, rfl, rfl, by omega, by omega, HR.out, Below.refl _ _⟩
  case round =>
    obtain ⟨i, s, hi, rfl, rfl, hs0, hs1, hq, hB⟩ := hrel
    by_cases hlt : i < n
    · have hltI : (i : Int) < (n : Int) := by omega
      have hil : i < l.length := by rw [HN.out]; exact hlt
      obtain ⟨g, off, rfl, hg, hc⟩ := H.out.cell (by omega)
      have hcx := (hB.cell (p := ⟨g, off + i, none⟩) hg).trans (hc i l[i] (by simp [hil]))
      have hmem : l[i] ∈ l := List.getElem_mem hil
      rw [List.drop_eq_getElem_cons hil] at hq
      obtain ⟨x, hx⟩ : ∃ x, l[i] = x := ⟨_, rfl⟩
      rw [hx] at hcx hmem hq
      have hxb := H.out.bd x hmem
      have hadd := sadd_any s x ⟨hs0, by omega⟩ hxb wr
      have hab := addQ_bd s x hs0 hxb.1
      unfold allQ at hq
      obtain ⟨P, hP⟩ : ∃ P, addQ s x = P := ⟨_, rfl⟩
      have hae := addQ_e s x
      rw [hP] at hadd hab hq hae
      obtain ⟨p1, p2⟩ := P
      simp only at hadd hab hq hae
      have HQ := Lib.hid hq
      have HB := Lib.hid hB
      have HADD := Lib.hid hadd
      clear hc hx hP hq hB hadd hmem
      rcases hae with rfl | rfl
      · have hq2 := HQ.out
        rw [if_pos rfl] at hq2
        have HQ2 := Lib.hid hq2
        clear hq2
        go_wp2_with fail
        with_reducible refine HADD.out.mono ?_
        rintro e w2 ⟨rfl, hB2⟩
        have HB2 := Lib.hid (HB.out.trans (hB2.mono HB.out.size))
        clear hB2 HADD
        go_wp2_with fail
        go_roundg (n - (i + 1))
        case measure => omega
        case rel => exact ⟨i + 1, p1, by omega, by go_num, rfl, hab.1, hab.2, HQ2.out, HB2.out⟩
      · have hq2 := HQ.out
        rw [if_neg (by omega)] at hq2
        subst hq2
        go_wp2_with fail
        with_reducible refine HADD.out.mono ?_
        rintro e w2 ⟨rfl, hB2⟩
        have HB2 := Lib.hid (HB.out.trans (hB2.mono HB.out.size))
        clear hB2 HADD
        go_wp2_with fail
        go_ret2
        exact ⟨rfl, HB2.out⟩
    · obtain rfl : i = n := by omega
      have hltI : ¬ (i : Int) < (i : Int) := by omega
      rw [List.drop_of_length_le (by rw [HN.out]; exact Nat.le_refl _)] at hq
      unfold allQ at hq
      subst hq
      have HB := Lib.hid hB
      clear hB
      go_wp2_with fail
      go_ret2
      exact ⟨rfl, HB.out⟩

set_option maxHeartbeats 2000000 in
theorem rall_any (A : Option Addr) (c : Nat) (l : List Int) (w : World) (h : U64 w A l) (hl : l.length ≤ 1000000000) :
    Calls Tryd.prog 25 #[.slice A l.length c] w fun e w' => e = .returned (.tuple #[.int .u64 (allQ 0 l).1, .int .i64 (allQ 0 l).2]) ∧ w = w' := by
  obtain ⟨n, hn⟩ : ∃ n, l.length = n := ⟨_, rfl⟩
  rw [hn] at hl ⊢
  obtain ⟨R, hR⟩ : ∃ R, allQ 0 l = R := ⟨_, rfl⟩
  rw [hR]
  have HR := Lib.hid hR
  have H := Lib.hid h
  have HN := Lib.hid hn
  clear h hn hR
  go_enter Tryd.func25, Tryd.ntmps25
  go_wp2_with fail
  go_loopg [4, 5, 6, 7] n (fun kk sv t _ _ wr => ∃ (i : Nat) (s : Int), i + kk = n ∧ t = .int .i64 (i : Int) ∧ sv = .int .u64 s ∧ 0 ≤ s ∧ s ≤ 4611686018427387904 ∧ allQ s (l.drop i) = R ∧ wr = w)
  case atStart => exact ⟨0, 0, by omega, rfl, rfl, by omega, by omega, HR.out, rfl⟩
  case round =>
    obtain ⟨i, s, hi, rfl, rfl, hs0, hs1, hq, rfl⟩ := hrel
    by_cases hlt : i < n
    · have hltI : (i : Int) < (n : Int) := by omega
      have hil : i < l.length := by rw [HN.out]; exact hlt
      obtain ⟨g, off, rfl, hg, hc⟩ := H.out.cell (by omega)
      have hcx := hc i l[i] (by simp [hil])
      have hmem : l[i] ∈ l := List.getElem_mem hil
      rw [List.drop_eq_getElem_cons hil] at hq
      obtain ⟨x, hx⟩ : ∃ x, l[i] = x := ⟨_, rfl⟩
      rw [hx] at hcx hmem hq
      have hxb := H.out.bd x hmem
      have hadd := radd_any s x ⟨hs0, by omega⟩ hxb wr
      have hab := addQ_bd s x hs0 hxb.1
      unfold allQ at hq
      obtain ⟨P, hP⟩ : ∃ P, addQ s x = P := ⟨_, rfl⟩
      have hae := addQ_e s x
      rw [hP] at hadd hab hq hae
      obtain ⟨p1, p2⟩ := P
      simp only at hadd hab hq hae
      have HQ := Lib.hid hq
      have HADD := Lib.hid hadd
      clear hc hx hP hq hadd hmem
      rcases hae with rfl | rfl
      · have hq2 := HQ.out
        rw [if_pos rfl] at hq2
        have HQ2 := Lib.hid hq2
        clear hq2
        go_wp2_with fail
        with_reducible refine HADD.out.mono ?_
        rintro e w2 ⟨rfl, hw2⟩
        rw [← hw2]
        clear hw2 HADD
        go_wp2_with fail
        go_roundg (n - (i + 1))
        case measure => omega
        case rel => exact ⟨i + 1, p1, by omega, by go_num, rfl, hab.1, hab.2, HQ2.out, rfl⟩
      · have hq2 := HQ.out
        rw [if_neg (by omega)] at hq2
        subst hq2
        go_wp2_with fail
        with_reducible refine HADD.out.mono ?_
        rintro e w2 ⟨rfl, hw2⟩
        rw [← hw2]
        clear hw2 HADD
        go_wp2_with fail
        go_ret2
        exact ⟨rfl, rfl⟩
    · obtain rfl : i = n := by omega
      have hltI : ¬ (i : Int) < (i : Int) := by omega
      rw [List.drop_of_length_le (by rw [HN.out]; exact Nat.le_refl _)] at hq
      unfold allQ at hq
      subst hq
      go_wp2_with fail
      go_ret2
      exact ⟨rfl, rfl⟩
end Go.Proofs.YtmflhidmhefljaaDoor
