/-
  The document's settle: Sum, All.
  The sums at all shards (plain).
-/
import Derived.Test.YtmflhidmhefljaaGreatDoorJRCertE
import Derived.Test.YtmflhidmhefljaaGreatDoorJSetA

section
namespace Go.Proofs.YtmflhidmhefljaaGreatDoor
open Go.RowKit Go.Shelf
set_option maxRecDepth 100000
attribute [local go_sem ↓] ldTx_of ldCert_of stCert_of alCert_of ld123 st123 al123

/-- The sum at some places. -/
def sumF (t : TxD) (L : List Int) : Int := (L.map fun k => (t.ins.getD k.toNat default).am).foldl (fun a b => IntKind.u64.wrap (a + b)) 0
theorem sumF_nil (t : TxD) : sumF t [] = 0 := rfl
theorem sumF_snoc (t : TxD) (L : List Int) (k : Int) : sumF t (L ++ [k]) = IntKind.u64.wrap (sumF t L + (t.ins.getD k.toNat default).am) := by
  unfold sumF
  rw [List.map_append, List.foldl_append]
  rfl
theorem sumF_bd (t : TxD) (L : List Int) : 0 ≤ sumF t L ∧ sumF t L ≤ 18446744073709551615 := by
  rcases List.eq_nil_or_concat L with rfl | ⟨m, x, rfl⟩
  · rw [sumF_nil]; omega
  · rw [List.concat_eq_append, sumF_snoc]
    exact wrap_u64_bd _

set_option maxHeartbeats 4000000 in
theorem rsum_at (A1 : Option Addr) (c1 : Nat) (A2 : Option Addr) (c2 : Nat) (t : TxD) (n s : Int) (hn : -9223372036854775808 ≤ n ∧ n ≤ 9223372036854775807) (w : World) (h : TxAt w A1 A2 t) :
    Calls Tryz.prog 15 #[.agg (txV A1 c1 A2 c2 t), .int .i64 n, .int .i64 s] w fun e w' => e = .returned (.int .u64 (sumAtP t n s)) ∧ Below w.heap.size w w' := by
  have b0 := Blk.new w 27 (txV A1 c1 A2 c2 t)
  have B0 : Below w.heap.size w (w.alloc (.cells (txV A1 c1 A2 c2 t) 27)) := (Below.refl _ w).alloc (Nat.le_refl _) _
  obtain ⟨W, hW⟩ : ∃ W, w.alloc (.cells (txV A1 c1 A2 c2 t) 27) = W := ⟨_, rfl⟩
  rw [hW] at b0 B0
  obtain ⟨g, hg⟩ : ∃ g, w.heap.size = g := ⟨_, rfl⟩
  rw [hg] at b0
  have hld := LDs_all (P := Tryz.prog) uTx iTx (txV A1 c1 A2 c2 t).toList (by simpa using b0) rfl
  have hsp := rspread_any A1 c1 A2 c2 t n false hn W (h.below B0)
  simp only [Bool.false_eq_true, if_false] at hsp
  have htx := h.below B0
  have k0 : ∀ X, Below W.heap.size W X → X.cell? ⟨g, 0, none⟩ = some (.slice A1 t.ins.length c1) := fun X hX => (b0.fr (Fr.of_below hX) (by have := b0.lt; omega)).cell 0
  have hil := insP_le t n
  have hil2 := @insP_len t n
  have hres : sumAtP t n s = sumF t (placesP (insP t n) s) := rfl
  rw [hres]
  obtain ⟨L, hL⟩ : ∃ L, insP t n = L := ⟨_, rfl⟩
  rw [hL] at hsp hil hil2 ⊢
  obtain ⟨xs, hxs⟩ : ∃ xs, txV A1 c1 A2 c2 t = xs := ⟨_, rfl⟩
  rw [show (txV A1 c1 A2 c2 t).toList.toArray = txV A1 c1 A2 c2 t by simp, hxs] at hld
  rw [hxs] at hW hsp ⊢
  obtain ⟨RES, hRES⟩ : ∃ r, sumF t (placesP L s) = r := ⟨_, rfl⟩
  rw [hRES]
  have HW := Lib.hid hW
  have HG := Lib.hid hg
  have HB := Lib.hid B0
  have K0 := Lib.hid k0
  have HTX := Lib.hid htx
  have HRES := Lib.hid hRES
  clear hW hg B0 k0 htx hRES hL hxs b0 h hres
  go_enter Tryz.func15, Tryz.ntmps15
  go_upto_region 1 with fail
  rw [HW.out, HG.out]
  go_wp2_with fail
  with_reducible refine hsp.mono ?_
  rintro e w1 ⟨v, rfl, hv, hB1⟩
  obtain ⟨Av, Nv, cv, rfl⟩ := hv.formN
  have hN := hv.lenN
  have hrd := hv.rd
  have hB1w := HB.out.trans (hB1.mono HB.out.size)
  have k0 := K0.out w1 hB1
  have htx1 := HTX.out.below hB1
  have hN16 : Nv ≤ 16 := by omega
  obtain ⟨ni, hni⟩ : ∃ n, t.ins.length = n := ⟨_, rfl⟩
  rw [hni] at k0 hil
  have HN := Lib.hid hN
  have HRD := Lib.hid hrd
  have HB1 := Lib.hid hB1w
  have HT1 := Lib.hid htx1
  have HNI := Lib.hid hni
  have HIL := Lib.hid hil
  clear hN hrd hB1w htx1 hni hil hv hB1 hsp hld hil2
  go_upto_region 4 with fail
  go_loopg [8, 9] Nv (fun kk q s' wr => ∃ i : Nat, i + kk = Nv ∧ s' = .int .i64 (i : Int) ∧ q = .int .u64 (sumF t (placesP (L.take i) s)) ∧ w1 = wr)
  case atStart => exact ⟨0, by omega, rfl, by rw [List.take_zero, placesP_nil, sumF_nil], rfl⟩
  case round =>
    obtain ⟨i, hi, rfl, rfl, rfl⟩ := hrel
    by_cases hlt : i < Nv
    · have hltI : (i : Int) < (Nv : Int) := by omega
      have hil : i < L.length := by rw [← HN.out]; exact hlt
      obtain ⟨g1, o1, rfl, _, s1⟩ := HRD.out.at hil
      have htk := placesP_snoc (L.take i) (L.getD i 0) s
      rw [← take_getD hil, List.length_take, Nat.min_eq_left (by omega)] at htk
      have hjl : i < t.ins.length := by have := HIL.out; have := HNI.out; omega
      obtain ⟨g2, o2, B2, d2, rfl, _, hin⟩ := HT1.out.ins i hjl
      have hbd := HT1.out.bd.ins _ (List.getElem_mem hjl)
      have k33 := hin.cell 33 _ (inV_amL hbd _ _)
      have hgd : t.ins.getD (i : Int).toNat default = t.ins[i] := by simp [List.getD, hjl]
      have hab := hbd.am
      have hsb := sumF_bd t (placesP (L.take i) s)
      have hjI : (i : Int) < (ni : Int) := by have := HNI.out; omega
      have hj0 : (0 : Int) ≤ (i : Int) := by omega
      obtain ⟨y, hy⟩ : ∃ y, L.getD i 0 = y := ⟨_, rfl⟩
      rw [hy] at s1 htk
      have hsn := sumF_snoc t (placesP (L.take i) s) (i : Int)
      rw [hgd] at hsn
      obtain ⟨am, ham⟩ : ∃ a, (t.ins[i]).am = a := ⟨_, rfl⟩
      rw [ham] at hsn k33 hab
      by_cases hys : y = s
      · have hysb : (y == s) = true := by simpa using hys
        rw [if_pos hys] at htk
        rw [← htk] at hsn
        obtain ⟨si, hsi⟩ : ∃ x, sumF t (placesP (L.take i) s) = x := ⟨_, rfl⟩
        rw [hsi] at hsn hsb ⊢
        have HSN := Lib.hid hsn
        clear hsn hin hgd ham hsi hy hbd htk hys
        go_wp2_with fail
        go_roundg (Nv - (i + 1))
        case measure => omega
        case rel => exact ⟨i + 1, by omega, by go_num, by rw [HSN.out], rfl⟩
      · have hysb : (y == s) = false := by simpa using hys
        rw [if_neg hys, List.append_nil] at htk
        have HTK := Lib.hid htk
        clear htk hin hgd ham hy hbd hsn hys
        go_wp2_with fail
        go_roundg (Nv - (i + 1))
        case measure => omega
        case rel => exact ⟨i + 1, by omega, by go_num, by rw [HTK.out], rfl⟩
    · obtain rfl : i = Nv := by omega
      have hltI : ¬ (i : Int) < (i : Int) := by omega
      rw [List.take_of_length_le (by rw [HN.out]; exact Nat.le_refl _), HRES.out]
      go_wp2_with fail
      go_ret
      exact ⟨rfl, HB1.out⟩
end Go.Proofs.YtmflhidmhefljaaGreatDoor
end

section
namespace Go.Proofs.YtmflhidmhefljaaGreatDoor
open Go.RowKit Go.Shelf
set_option maxRecDepth 100000

theorem wrap_mod (x : Int) : IntKind.u64.wrap x = x % 18446744073709551616 := by rw [IntKind.wrap_u64]
theorem fold_mod : ∀ (l : List Int) (a : Int), l.foldl (fun a b => IntKind.u64.wrap (a + b)) (a % 18446744073709551616) = (a + l.sum) % 18446744073709551616
  | [], a => by simp
  | x :: l, a => by
    rw [List.foldl_cons, wrap_mod, show (a % 18446744073709551616 + x) % 18446744073709551616 = (a + x) % 18446744073709551616 by omega, fold_mod l (a + x), List.sum_cons]
    congr 1
    omega
theorem fold_mod0 (l : List Int) : l.foldl (fun a b => IntKind.u64.wrap (a + b)) 0 = l.sum % 18446744073709551616 := by
  have := fold_mod l 0
  simpa using this
/-- The sum of a row, each word wrapped. -/
theorem sum_mods (f : Nat → Int) : ∀ n, ((List.range n).map fun i => f i % 18446744073709551616).sum % 18446744073709551616 = ((List.range n).map f).sum % 18446744073709551616
  | 0 => rfl
  | n + 1 => by
    have := sum_mods f n
    rw [List.range_succ, List.map_append, List.map_append, List.sum_append, List.sum_append]
    simp only [List.map_cons, List.map_nil, List.sum_cons, List.sum_nil]
    omega
theorem sum_add (f g : Nat → Int) : ∀ n, ((List.range n).map fun i => f i + g i).sum = ((List.range n).map f).sum + ((List.range n).map g).sum
  | 0 => rfl
  | n + 1 => by
    have := sum_add f g n
    rw [List.range_succ, List.map_append, List.map_append, List.map_append, List.sum_append, List.sum_append, List.sum_append]
    simp only [List.map_cons, List.map_nil, List.sum_cons, List.sum_nil]
    omega
theorem sum_one (x c : Int) : ∀ n : Nat, ((List.range n).map fun (i : Nat) => if x = (i : Int) then c else 0).sum = if 0 ≤ x ∧ x < n then c else 0
  | 0 => by
    rw [if_neg (by omega)]
    rfl
  | n + 1 => by
    have := sum_one x c n
    rw [List.range_succ, List.map_append, List.sum_append, this]
    simp only [List.map_cons, List.map_nil, List.sum_cons, List.sum_nil]
    by_cases h : x = (n : Int)
    · rw [if_pos h, if_neg (by omega), if_pos (by omega)]; omega
    · rw [if_neg h]
      by_cases h2 : 0 ≤ x ∧ x < n
      · rw [if_pos h2, if_pos (by omega)]; omega
      · rw [if_neg h2, if_neg (by omega)]; rfl
/-- Each place once. -/
theorem places_sum (f : Nat → Int) (k : Nat) : ∀ (m : Nat) (L : List Int), L.length = m → (∀ x ∈ L, 0 ≤ x ∧ x < k) → ((List.range k).map fun (i : Nat) => ((placesP L (i : Int)).map fun j => f j.toNat).sum).sum = ((List.range m).map f).sum
  | 0, L, h, _ => by
    obtain rfl := List.length_eq_zero_iff.1 h
    have : ∀ n : Nat, ((List.range n).map fun (i : Nat) => ((placesP [] (i : Int)).map fun j => f j.toNat).sum).sum = 0 := fun n => by
      induction n with
      | zero => rfl
      | succ n ih => rw [List.range_succ, List.map_append, List.sum_append, ih]; rfl
    rw [this]
    rfl
  | m + 1, L, h, hb => by
    obtain ⟨M, x, rfl⟩ := List.eq_nil_or_concat L |>.resolve_left (fun e => by subst e; simp at h)
    rw [List.concat_eq_append] at h hb ⊢
    have hm : M.length = m := by simpa using h
    have ih := places_sum f k m M hm (fun y hy => hb y (by simp [hy]))
    have hx := hb x (by simp)
    have e : (fun (i : Nat) => ((placesP (M ++ [x]) (i : Int)).map fun j => f j.toNat).sum) = fun (i : Nat) => ((placesP M (i : Int)).map fun j => f j.toNat).sum + (if x = (i : Int) then f m else 0) := by
      funext i
      rw [placesP_snoc, List.map_append, List.sum_append]
      congr 1
      by_cases h : x = (i : Int)
      · rw [if_pos h, if_pos h, hm]; simp
      · rw [if_neg h, if_neg h]; rfl
    rw [e, sum_add, ih, sum_one, if_pos hx, List.range_succ, List.map_append, List.sum_append]
    simp
theorem range_getD {α : Type} (g : α → Int) (d : α) (l : List α) : (List.range l.length).map (fun i => g (l.getD i d)) = l.map g := by
  apply List.ext_getElem
  · simp
  · intro i h1 h2
    simp at h1
    simp [List.getD, h1]

/-- The sums of the first few shards; of the first few inputs. -/
def shTo (t : TxD) (n : Int) (i : Nat) : Int := ((List.range i).map fun (j : Nat) => sumAtP t n (j : Int)).foldl (fun a b => IntKind.u64.wrap (a + b)) 0
def inTo (t : TxD) (i : Nat) : Int := ((t.ins.take i).map (·.am)).foldl (fun a b => IntKind.u64.wrap (a + b)) 0
theorem shTo_zero (t : TxD) (n : Int) : shTo t n 0 = 0 := rfl
theorem shTo_succ (t : TxD) (n : Int) (i : Nat) : shTo t n (i + 1) = IntKind.u64.wrap (shTo t n i + sumAtP t n (i : Int)) := by
  unfold shTo
  rw [List.range_succ, List.map_append, List.foldl_append]
  rfl
theorem inTo_zero (t : TxD) : inTo t 0 = 0 := by simp [inTo]
theorem inTo_succ (t : TxD) {i : Nat} (hi : i < t.ins.length) : inTo t (i + 1) = IntKind.u64.wrap (inTo t i + (t.ins[i]).am) := by
  unfold inTo
  rw [List.take_succ_eq_append_getElem hi, List.map_append, List.foldl_append]
  rfl
theorem shTo_bd (t : TxD) (n : Int) (i : Nat) : 0 ≤ shTo t n i ∧ shTo t n i ≤ 18446744073709551615 := by
  unfold shTo
  rw [fold_mod0]
  omega
theorem inTo_bd (t : TxD) (i : Nat) : 0 ≤ inTo t i ∧ inTo t i ≤ 18446744073709551615 := by
  unfold inTo
  rw [fold_mod0]
  omega
theorem sumAt_mod (t : TxD) (n s : Int) : sumAtP t n s = ((placesP (insP t n) s).map fun k => (t.ins.getD k.toNat default).am).sum % 18446744073709551616 := by
  unfold sumAtP
  rw [fold_mod0]
theorem sumAt_bd (t : TxD) (n s : Int) : 0 ≤ sumAtP t n s ∧ sumAtP t n s ≤ 18446744073709551615 := by
  rw [sumAt_mod]
  omega
theorem insP_bd64 {t : TxD} {n : Int} : ∀ x ∈ insP t n, 0 ≤ x ∧ x < n := by
  intro y hy
  unfold insP at hy
  split at hy
  · rename_i h
    obtain ⟨i, _, rfl⟩ := List.mem_map.1 hy
    have := ofO_bd i.tx i.ix n h.2
    omega
  · cases hy
/-- The sums at all shards are the sum of all inputs. -/
theorem sums_all (t : TxD) (k : Nat) (h1 : 1 ≤ k) (h2 : k ≤ 64) : shTo t k k = if checkP t = 0 then inTo t t.ins.length else 0 := by
  unfold shTo
  rw [fold_mod0]
  have e : (fun (j : Nat) => sumAtP t (k : Int) (j : Int)) = fun (j : Nat) => ((placesP (insP t k) (j : Int)).map fun i => (fun (q : Nat) => (t.ins.getD q default).am) i.toNat).sum % 18446744073709551616 := by
    funext j
    exact sumAt_mod t k j
  rw [e, sum_mods, places_sum (fun q => (t.ins.getD q default).am) k (insP t k).length (insP t k) rfl insP_bd64]
  by_cases hc : checkP t = 0
  · rw [if_pos hc]
    have hl : (insP t k).length = t.ins.length := by
      unfold insP
      rw [if_pos ⟨hc, by simp [okN]; omega⟩, List.length_map]
    unfold inTo
    rw [hl, List.take_length, fold_mod0, range_getD (·.am) default t.ins]
  · rw [if_neg hc]
    have hl : insP t (k : Int) = [] := by
      unfold insP
      rw [if_neg (by simp [hc])]
    rw [hl]
    rfl
theorem sum_none (t : TxD) (k : Int) : sumAtP t k k = 0 := by
  have : placesP (insP t k) k = [] := by
    rw [← List.length_eq_zero_iff]
    rcases Nat.eq_zero_or_pos (placesP (insP t k) k).length with h | h
    · exact h
    · have := (insP_bd64 (t := t) (n := k) k ((placesP_pos _ _).1 h)).2
      omega
  unfold sumAtP
  rw [this]
  rfl
end Go.Proofs.YtmflhidmhefljaaGreatDoor
end
