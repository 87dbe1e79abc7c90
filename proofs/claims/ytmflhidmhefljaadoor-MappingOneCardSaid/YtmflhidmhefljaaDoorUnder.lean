/-
  sha.Under, of any number of parts.
-/
import Derived.Test.YtmflhidmhefljaaDoorSum
namespace Go.Proofs.YtmflhidmhefljaaDoor
open Go.RowKit Go.Shelf
set_option maxRecDepth 100000

/-- What is summed. -/
def underL (mark : Int) (L : List (List Int)) : List (List Int) := [mark] :: L.flatMap fun l => [be4P l.length, l]
theorem underL_snoc (mark : Int) (L : List (List Int)) (l : List Int) : underL mark (L ++ [l]) = underL mark L ++ [be4P l.length] ++ [l] := by simp [underL]
/-- A digest under a mark. -/
def underP (mark : Int) (L : List (List Int)) : List Int := shaP (underL mark L).flatten
theorem underP_len (mark : Int) (L : List (List Int)) : (underP mark L).length = 32 := shaP_len _
theorem underP_bd (mark : Int) (L : List (List Int)) : ∀ x ∈ underP mark L, 0 ≤ x ∧ x ≤ 255 := shaP_bd _
theorem underL_len (mark : Int) : ∀ L : List (List Int), (underL mark L).length = 1 + 2 * L.length
  | [] => rfl
  | l :: L => by
    have := underL_len mark L
    simp only [underL, List.length_cons, List.flatMap_cons, List.length_append, List.length_nil] at this ⊢
    omega
theorem underL_flen (mark : Int) : ∀ L : List (List Int), (underL mark L).flatten.length = 1 + 4 * L.length + L.flatten.length
  | [] => rfl
  | l :: L => by
    have := underL_flen mark L
    simp only [underL, List.flatten_cons, List.length_append, List.length_cons, List.flatMap_cons, List.cons_append, List.nil_append, be4P_len] at this ⊢
    omega
theorem underL_bd {mark : Int} (hm : 0 ≤ mark ∧ mark ≤ 255) {L : List (List Int)} (hL : ∀ l ∈ L, ∀ x ∈ l, 0 ≤ x ∧ x ≤ 255) : ∀ x ∈ (underL mark L).flatten, 0 ≤ x ∧ x ≤ 255 := by
  intro x hx
  simp only [underL, List.flatten_cons, List.mem_append, List.mem_flatten, List.mem_flatMap, List.mem_cons, List.not_mem_nil, or_false] at hx
  rcases hx with rfl | ⟨l, ⟨l', hl', rfl | rfl⟩, hx⟩
  · exact hm
  · exact be4P_bd _ x hx
  · exact hL _ hl' x hx

/-- Texts that lie below n₀, or in blocks of bytes. -/
structure TxE (n₀ : Nat) (w : World) (xs : List Value) (L : List (List Int)) : Prop where
  len : xs.length = L.length
  txt : ∀ i (h : i < xs.length) (h' : i < L.length), TxV w xs[i] L[i] ∧ ∀ k, xs[i].ownBlock = some k → 0 < L[i].length → k < n₀ ∨ ∃ cs, Blk w k 5 cs
theorem TxE.snoc {n₀ : Nat} {w : World} {xs : List Value} {L : List (List Int)} {x : Value} {l : List Int} (h : TxE n₀ w xs L) (hx : TxV w x l) (hb : ∀ k, x.ownBlock = some k → 0 < l.length → k < n₀ ∨ ∃ cs, Blk w k 5 cs) : TxE n₀ w (xs ++ [x]) (L ++ [l]) := by
  refine ⟨by simp [h.len], fun i hi hi' => ?_⟩
  by_cases hlt : i < xs.length
  · have hlt' : i < L.length := by rw [← h.len]; exact hlt
    rw [List.getElem_append_left hlt, List.getElem_append_left hlt']
    exact h.txt i hlt hlt'
  · have e : i = xs.length := by simp at hi; omega
    subst e
    simp only [List.getElem_append_right (Nat.le_refl _), Nat.sub_self, List.getElem_cons_zero]
    simp only [h.len, List.getElem_append_right (Nat.le_refl _), Nat.sub_self, List.getElem_cons_zero]
    exact ⟨hx, hb⟩
theorem TxE.fr {n₀ : Nat} {w w' : World} {xs : List Value} {L : List (List Int)} {F : Nat → Prop} (h : TxE n₀ w xs L) (hf : Fr F w w') (h1 : ∀ k, k < n₀ → ¬ F k) (h2 : ∀ k cs, F k → ¬ Blk w k 5 cs) : TxE n₀ w' xs L := by
  refine ⟨h.len, fun i hi hi' => ?_⟩
  obtain ⟨a, b⟩ := h.txt i hi hi'
  have hn : ∀ k, (xs[i]).ownBlock = some k → 0 < (L[i]).length → ¬ F k := fun k hk h0 hF => by
    rcases b k hk h0 with h3 | ⟨cs, h3⟩
    · exact h1 k h3 hF
    · exact h2 k cs hF h3
  refine ⟨?_, fun k hk h0 => (b k hk h0).imp id (fun ⟨cs, h3⟩ => ⟨cs, h3.fr hf (hn k hk h0)⟩)⟩
  obtain ⟨A, c, e, hb, hc⟩ := a
  exact ⟨A, c, e, hb.fr hf (fun a' ha h0 => hn _ (by rw [e, ha]; rfl) h0), hc⟩
theorem own_slU (A : Option Addr) (n c n' c' : Nat) : (Value.slice A n c).ownBlock = (Value.slice A n' c').ownBlock := by cases A <;> rfl
theorem TxE.txs {n₀ : Nat} {w : World} {xs : List Value} {L : List (List Int)} {A : Option Addr} (h : TxE n₀ w xs L) (hc : 0 < xs.length → ∃ g off, A = some ⟨g, off, none⟩ ∧ g < w.heap.size ∧ ∀ j x, xs[j]? = some x → w.cell? ⟨g, off + j, none⟩ = some x) : TxsV w A xs L :=
  ⟨h.len, hc, fun i h1 h2 => (h.txt i h1 h2).1⟩

section
attribute [local go_sem ↓] ld123 st123 al123 apT_of SLs_of
set_option maxHeartbeats 8000000 in
theorem under_any (mark : Int) (hmk : 0 ≤ mark ∧ mark ≤ 255) (A : Option Addr) (c : Nat) (xs : List Value) (L : List (List Int)) (w : World) (hT : TxsV w A xs L) (hX : ∀ i (h : i < xs.length) (h' : i < L.length) k, xs[i].ownBlock = some k → 0 < L[i].length → k < w.heap.size) (hn : L.length ≤ 1000) (hlen : L.flatten.length ≤ 400000000) (hbd : ∀ l ∈ L, ∀ x ∈ l, 0 ≤ x ∧ x ≤ 255) (hg : Glob w) :
    Calls Tryd.prog 21 #[.int .u8 mark, .slice A L.length c] w fun e w' => e = .returned (.agg (bys (underP mark L)).toArray) ∧ Below w.heap.size w w' := by
  obtain ⟨z, hz1, hz2⟩ := Option.map_eq_some_iff.1 z123
  have hal := ALs_new (P := Tryd.prog) (t := 23) z hz1 w
  obtain ⟨Z32, hZ32⟩ : ∃ Z32, z.cells = Z32 := ⟨_, rfl⟩
  have hz32s : Z32.size = 32 := by rw [← hZ32, ← Array.length_toList, hz2]; rfl
  rw [hZ32] at hal
  clear hZ32 hz1 hz2 z
  have b0 := ((Blk.new w 23 Z32).alloc (.cells #[.int .u8 mark] 5)).alloc (.cells #[.slice (some ⟨w.heap.size + 1, 0, none⟩) 1 1] 51)
  have b1 := (Blk.new (w.alloc (.cells Z32 23)) 5 #[.int .u8 mark]).alloc (.cells #[.slice (some ⟨w.heap.size + 1, 0, none⟩) 1 1] 51)
  have b2 := Blk.new ((w.alloc (.cells Z32 23)).alloc (.cells #[.int .u8 mark] 5)) 51 #[.slice (some ⟨w.heap.size + 1, 0, none⟩) 1 1]
  have B0 : Below w.heap.size w (((w.alloc (.cells Z32 23)).alloc (.cells #[.int .u8 mark] 5)).alloc (.cells #[.slice (some ⟨w.heap.size + 1, 0, none⟩) 1 1] 51)) := (((Below.refl _ w).alloc (Nat.le_refl _) _).alloc (by simp) _).alloc (by simp; omega) _
  simp only [World.size_alloc] at b1 b2
  obtain ⟨W0, hW0⟩ : ∃ W0, ((w.alloc (.cells Z32 23)).alloc (.cells #[.int .u8 mark] 5)).alloc (.cells #[.slice (some ⟨w.heap.size + 1, 0, none⟩) 1 1] 51) = W0 := ⟨_, rfl⟩
  rw [hW0] at b0 b1 b2 B0
  have hsz0 : W0.heap.size = w.heap.size + 3 := by rw [← hW0]; simp
  have hrow0 : W0.ownsRow (w.heap.size + 1) 51 1 (.slice (some ⟨w.heap.size + 1 + 1, 0, none⟩) 1 1) 1 [.slice (some ⟨w.heap.size + 1, 0, none⟩) 1 1] :=
    ⟨rfl, .inr ⟨w.heap.size + 1 + 1, 1, _, rfl, by omega, b2, Nat.le_refl _, by unfold maxLen; omega, rfl, rfl⟩⟩
  have hE0 : TxE w.heap.size W0 [.slice (some ⟨w.heap.size + 1, 0, none⟩) 1 1] (underL mark (L.take 0)) := ⟨rfl, fun i h1 h2 => by
    obtain rfl : i = 0 := by simpa using h1
    exact ⟨⟨_, 1, rfl, Blk.byt (l := [mark]) b1 (by simpa using hmk), by simp⟩, fun k hk _ => by
      simp [Value.ownBlock] at hk
      subst hk
      exact .inr ⟨_, b1⟩⟩⟩
  obtain ⟨n, hnL⟩ : ∃ n, L.length = n := ⟨_, rfl⟩
  have HT := Lib.hid hT
  have HX := Lib.hid hX
  have HG := Lib.hid hg
  have HMK := Lib.hid hmk
  have HBD := Lib.hid hbd
  have HLEN := Lib.hid hlen
  have HW0 := Lib.hid hW0
  have HS0 := Lib.hid hsz0
  have H0 := Lib.hid b0
  have HB0 := Lib.hid B0
  have HR0 := Lib.hid hrow0
  have HE0 := Lib.hid hE0
  have HN := Lib.hid hnL
  rw [hnL] at hn ⊢
  clear hT hX hg hmk hbd hlen hW0 hsz0 b0 b1 b2 B0 hrow0 hE0 hnL
  go_enter Tryd.func21, Tryd.ntmps21
  go_wp2_with fail
  rw [HW0.out]
  clear hal
  go_loopg [5, 7, 13] n (fun kk v _ t wr => ∃ (i : Nat) (A5 : Option Addr) (c5 : Nat) (ys : List Value), i + kk = n ∧ t = .int .i64 (i : Int) ∧ v = .slice A5 (1 + 2 * i) c5 ∧ wr.ownsRow (w.heap.size + 1) 51 1 v (1 + 2 * i) ys ∧ TxE w.heap.size wr ys (underL mark (L.take i)) ∧ Blk wr w.heap.size 23 Z32 ∧ Below w.heap.size w wr)
  case atStart => exact ⟨0, _, _, _, by omega, rfl, rfl, HR0.out, HE0.out, H0.out, HB0.out⟩
  case round =>
    obtain ⟨i, A5, c5, ys, hi, rfl, rfl, hown, hE, hb0, hB⟩ := hrel
    by_cases hlt : i < n
    · have hltI : (i : Int) < (n : Int) := by omega
      have hx1 : i < xs.length := by rw [HT.out.len, HN.out]; exact hlt
      have hl1 : i < L.length := by rw [HN.out]; exact hlt
      obtain ⟨ga, oa, rfl, hga, hca⟩ := HT.out.cell (by omega)
      obtain ⟨Ai, ci, hxi, hyi, hni⟩ := HT.out.txt i hx1 hl1
      have hXi := HX.out i hx1 hl1
      have hci := hca i xs[i] (by simp [hx1])
      rw [hxi] at hci hXi
      have hc' : wr.cell? ⟨ga, oa + i, none⟩ = some (.slice Ai (L[i]).length ci) := (hB.cell (p := ⟨ga, oa + i, none⟩) hga).trans hci
      have hli : (L[i]).length ≤ 400000000 := by
        have h1 := HLEN.out
        have h2 : (L[i]).length ≤ L.flatten.length := List.Sublist.length_le (List.sublist_flatten_of_mem (List.getElem_mem hl1))
        omega
      have htk : L.take (i + 1) = L.take i ++ [L[i]] := List.take_succ_eq_append_getElem hl1
      obtain ⟨l, hl⟩ : ∃ l, L[i] = l := ⟨_, rfl⟩
      rw [hl] at hc' hli htk hyi hXi
      obtain ⟨m, hm⟩ : ∃ m, l.length = m := ⟨_, rfl⟩
      rw [hm] at hc' hli
      have HOWN := Lib.hid hown
      have HE := Lib.hid hE
      have HI0 := Lib.hid hb0
      have HB := Lib.hid hB
      have HY := Lib.hid hyi
      have HNI := Lib.hid hni
      have HXI := Lib.hid hXi
      have HTK := Lib.hid htk
      have HM := Lib.hid hm
      clear hown hE hb0 hB hyi hni hXi htk hm hl hxi hci hca
      have hsb := shb_any (m : Int) (by omega) (by omega) 4 (by omega) wr
      rw [show ((4 : Nat) : Int) = 4 from rfl] at hsb
      go_wp2_with fail
      with_reducible refine hsb.mono ?_
      rintro e W1 ⟨rfl, hbk, hbl⟩
      have hown1 := own_fr HOWN.out (Fr.of_below hbl) (fun k hk h => by have := (World.ownsRow.lt HOWN.out k hk).2; omega)
      have hw1 := hbl.size
      have hBs := HB.out.size
      have hws : w.heap.size < wr.heap.size := HI0.out.lt
      obtain ⟨v', w', hap, hown2, hfr, _⟩ := appT (ty := 67) hown1 [.slice (some ⟨wr.heap.size, 0, none⟩) 4 4, .slice Ai m ci] (by intro u hu; simp at hu; rcases hu with rfl | rfl <;> rfl) (by simp; omega) (by omega)
      simp only [List.length_cons, List.length_nil, Nat.reduceAdd] at hap hown2
      obtain ⟨A6, c6, rfl⟩ := own_form hown2
      have hF : ∀ k cs, (Value.slice A5 (1 + 2 * i) c5).ownBlock = some k → ¬ Blk W1 k 5 cs := fun k cs hk hb => by
        obtain ⟨cs', hb', _⟩ := own_blk hown1 hk
        exact absurd (hb.inj hb').1 (by decide)
      have hF0 : ∀ k, k < w.heap.size + 1 → ¬ (Value.slice A5 (1 + 2 * i) c5).ownBlock = some k := fun k hk e => by have := (World.ownsRow.lt hown1 k e).1; omega
      have hE1 := HE.out.fr (Fr.of_below hbl) (fun k hk h => by omega) (fun k cs h hb => by have := hb.lt; omega)
      have hE2 := hE1.fr hfr (fun k hk => hF0 k (by omega)) hF
      have hbk2 := hbk.fr hfr (hF _ _ · hbk)
      have hy2 : Byt w' Ai l := (HY.out.below HB.out).below hbl |>.fr hfr (fun a ha h0 e => by
        have := HXI.out a.block (by rw [ha]; rfl) (by rw [HM.out] at h0 ⊢; exact h0)
        exact hF0 _ (by omega) e)
      have hE3 := (hE2.snoc (x := .slice (some ⟨wr.heap.size, 0, none⟩) 4 4) (l := be4P m) ⟨_, 4, rfl, by rw [beN4] at hbk2; exact hbk2.byt (be4P_bd _), by simp⟩ (fun k hk _ => by
        simp [Value.ownBlock] at hk
        subst hk
        exact .inr ⟨_, hbk2⟩)).snoc (x := .slice Ai m ci) (l := l) ⟨Ai, ci, by rw [HM.out], hy2, HNI.out⟩ (fun k hk h0 => .inl (HXI.out k ((own_slU Ai _ _ _ _).trans hk) h0))
      have hU : underL mark (L.take (i + 1)) = underL mark (L.take i) ++ [be4P m] ++ [l] := by rw [HTK.out, underL_snoc, HM.out]
      rw [← hU] at hE3
      have hi2 := (HI0.out.fr (Fr.of_below hbl) (by omega)).fr hfr (hF0 _ (by omega))
      have hB2 := HB.out.trans ((hbl.mono hBs).trans (hfr.below (by omega) (fun k hk => hF0 k (by omega))))
      have HE3 := Lib.hid hE3
      have HO2 := Lib.hid hown2
      have HI2 := Lib.hid hi2
      have HB2 := Lib.hid hB2
      clear hsb hbk hbl hown1 hfr hF hF0 hE1 hE2 hbk2 hy2 hE3 hU hi2 hB2 hown2 HOWN HE HI0 HY HNI HXI HTK HM hw1 hBs hws
      go_wp2_with fail
      go_roundg (n - (i + 1))
      case measure => omega
      case rel => exact ⟨i + 1, A6, c6, _, by omega, by go_num, rfl, HO2.out, by simpa using HE3.out, HI2.out, HB2.out⟩
    · obtain rfl : i = n := by omega
      have hltI : ¬ (i : Int) < (i : Int) := by omega
      rw [List.take_of_length_le (by rw [HN.out]; exact Nat.le_refl _)] at hE
      have hUl := underL_len mark L
      rw [HN.out] at hUl
      have hTT := hE.txs (A := A5) (fun h0 => by
        obtain ⟨g3, cap3, e, _, hg3, hc3⟩ := own_cells hown (by omega)
        simp only [Value.slice.injEq] at e
        exact ⟨g3, 0, e.1, hg3, hc3⟩)
      have hsum := sum_any A5 c5 ys (underL mark L) wr hTT (by omega) (by rw [underL_flen, HN.out]; have := HLEN.out; omega) (underL_bd HMK.out HBD.out) (HG.out.below hB)
      rw [hUl] at hsum
      have HB := Lib.hid hB
      have HI0 := Lib.hid hb0
      clear hTT hE hown hUl hB hb0
      go_wp2_with fail
      with_reducible refine hsum.mono ?_
      rintro e W5 ⟨rfl, hB5⟩
      have hb5 := HI0.out.fr (Fr.of_below hB5) (by have := HI0.out.lt; omega)
      have hl32 : (bys (underP mark L)).length = 32 := by rw [bys_length, underP_len]
      have hst := STs_blk (P := Tryd.prog) (t := 23) i123 hb5 (off := 0) (bys (underP mark L)) hl32 (by omega) (bys_one _)
      rw [splice_whole _ _ (by rw [hl32, hz32s])] at hst
      rw [show shaP (underL mark L).flatten = underP mark L from rfl]
      have H5 := Lib.hid hb5
      have HB5 := Lib.hid hB5
      have HL := Lib.hid hl32
      clear hb5 hB5 hl32 hsum
      go_wp2_with fail
      refine bodyPost_ret (results_arr rfl _ _ w.heap.size 23 (bys (underP mark L)) _ rfl (H5.out.row_ _) u123 rfl (by rw [HL.out]; exact i123)) rfl ?_
      exact ⟨rfl, Below.setRow (HB.out.trans (HB5.out.mono HB.out.size)) (Nat.le_refl _) _⟩
end
end Go.Proofs.YtmflhidmhefljaaDoor
