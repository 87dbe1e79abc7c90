/-
  What a stretch of a drum has (seisinlaw13.bytes).
-/
import Derived.Test.YtohadeijmmmcdaaDoorRScan
import Derived.Test.YtohadeijmmmcdaaDoorSKeepL
import Derived.Test.YtohadeijmmmcdaaDoorOpenD
namespace Go.Proofs.YtohadeijmmmcdaaDoor
open Go.RowKit
set_option maxRecDepth 100000

section
attribute [local go_sem ↓] apt22_of
set_option maxHeartbeats 4000000 in
theorem lbytes_any (B : Nat) (p gs : Nat) (wv : Value) (S : DS) (f n : Nat) (w : World) (h : IsDrum B w p gs wv S) (hoff : S.off = false) (hf : f + n ≤ S.sure.length) (hlen : S.waits.length ≤ 1000000000) :
    Calls Tryd.prog 32 #[.pointer (some ⟨p, 0, none⟩), .int .i64 (f : Int), .int .i64 (n : Int)] w fun e w' => ∃ v, e = .returned v ∧ Own8 w.heap.size w' v (stP S f n) ∧ Below w.heap.size w w' := by
  have hn2 := h.ok.n2
  have H := Lib.hid h
  have HOF := Lib.hid hoff
  clear h hoff
  go_enter Tryd.func32, Tryd.ntmps32
  go_wp2_with fail
  go_loopg [7, 8] n (fun k v t wr => ∃ (i N : Nat) (A : Option Addr) (c : Nat), i + k = n ∧ t = .int .i64 (i : Int) ∧ N = 64 * i ∧ v = .slice A N c ∧ Own8 w.heap.size wr v (stP S f i) ∧ Below w.heap.size w wr)
  case atStart => exact ⟨0, 0, none, 0, by omega, rfl, rfl, rfl, by simpa [stP] using Own8.nil _ _, Below.refl _ _⟩
  case round =>
    obtain ⟨i, N, A2, c2, hi, rfl, hN, rfl, ho, hb⟩ := hrel
    have hsl : (stP S f i).length = N := by rw [stP_len H.out.ok f i (by omega), hN]
    have HO := Lib.hid ho
    have HB := Lib.hid hb
    have HSL := Lib.hid hsl
    have HN := Lib.hid hN
    clear ho hb hsl hN
    by_cases hlt : i < n
    · have hltI : (i : Int) < (n : Int) := by omega
      have hd := H.out.fr (Fr.of_below HB.out) (fun k hk h => by have := (H.out.lt hk).2; omega)
      have hr := read_any B p gs wv S ((f + i : Nat) : Int) wr hd hlen
      have e1 : S.read ((f + i : Nat) : Int) = (S.now (f + i), 0) := by
        unfold DS.read
        rw [HOF.out, if_neg (by simp), if_neg (by omega), Int.toNat_natCast]
      have h64 : (S.now (f + i)).length = 64 := (DS.now_sec H.out.ok (by omega)).1
      rw [e1, Int.natCast_add] at hr
      simp only [h64] at hr
      have HR := Lib.hid hr
      have H64 := Lib.hid h64
      clear hr e1 h64 hd
      go_wp2_with fail
      with_reducible refine HR.out.mono ?_
      rintro e w1 ⟨A3, c3, rfl, hnew, hB1⟩
      have hA3 : A3 = none → c3 = 0 := by
        rintro rfl
        obtain ⟨g, o, e, _⟩ := hnew.byt.cell (by rw [H64.out]; omega)
        cases e
      have ho1 := HO.out.fr (Fr.of_below hB1) (fun k hk h => by have := (HO.out.lt hk).2; omega)
      obtain ⟨v4, w4, hap, ho4, hf4, _⟩ := app8 (ty := 22) (c := c3) ho1 hnew.byt (by rw [HSL.out, H64.out]; have := HN.out; omega) (Nat.le_trans HB.out.size hB1.size) hA3
      obtain ⟨A4, c4, rfl⟩ := ho4.form
      rw [H64.out] at hap
      have hl4 : (stP S f i ++ S.now (f + i)).length = N + 64 := by rw [List.length_append, HSL.out, H64.out]
      rw [hl4] at hap ho4
      rw [← stP_succ] at ho4
      have HO4 := Lib.hid ho4
      have BB4 := Lib.hid ((HB.out.trans (hB1.mono HB.out.size)).trans (hf4.below (Nat.le_trans HB.out.size hB1.size) (fun k hk e => by have := (HO.out.lt e).1; omega)))
      clear hnew hB1 ho1 ho4 hf4 hA3 hl4 HR
      go_wp2_with fail
      go_roundg (n - (i + 1))
      case measure => omega
      case rel => exact ⟨i + 1, N + 64, _, _, by omega, by go_num, by have := HN.out; omega, rfl, HO4.out, BB4.out⟩
    · obtain rfl : i = n := by omega
      have hltI : ¬ (i : Int) < (i : Int) := by omega
      go_wp2_with fail
      go_ret
      exact ⟨_, rfl, HO.out, HB.out⟩
end

/-! ### Texts behind texts -/
theorem TxsV.take {w : World} {A : Option Addr} {xs : List Value} {L : List (List Int)} (h : TxsV w A xs L) (n : Nat) : TxsV w A (xs.take n) (L.take n) := by
  refine ⟨by rw [List.length_take, List.length_take, h.len], fun h0 => ?_, fun i hi hi' => ?_⟩
  · rw [List.length_take] at h0
    obtain ⟨g, o, e, hg, hc⟩ := h.cell (by omega)
    refine ⟨g, o, e, hg, fun j x hx => hc j x ?_⟩
    rw [List.getElem?_take] at hx
    split at hx
    · exact hx
    · cases hx
  · rw [List.getElem_take, List.getElem_take]
    exact h.txt i (by rw [List.length_take] at hi; omega) (by rw [List.length_take] at hi'; omega)
theorem Byt.kept {n₀ : Nat} {ts : List TypeId} {w w' : World} {A : Option Addr} {l : List Int} (h : Byt w A l) (hk : Kept n₀ ts w w') (hu : 5 ∉ ts) (hA : ∀ a, A = some a → 0 < l.length → a.block < n₀ ∨ ∃ cs, Blk w a.block 5 cs) : Byt w' A l := by
  refine ⟨fun h0 => ?_, h.bd⟩
  obtain ⟨g, o, rfl, hg, hc⟩ := h.cell h0
  refine ⟨g, o, rfl, Nat.lt_of_lt_of_le hg hk.size, fun j x hx => ?_⟩
  rw [← hc j x hx]
  rcases hA _ rfl h0 with h1 | ⟨cs, hb⟩
  · exact hk.below.cell (p := ⟨g, o + j, none⟩) h1
  · have hb' := hk.kt _ _ _ hb hu
    exact (hb'.cell (o + j)).trans (hb.cell (o + j)).symm
theorem TxsV.kept {n₀ : Nat} {ts : List TypeId} {w w' : World} {A : Option Addr} {xs : List Value} {L : List (List Int)} (h : TxsV w A xs L) (hk : Kept n₀ ts w w') (hu : 5 ∉ ts) (ht : 22 ∉ ts)
    (hA : ∀ a, A = some a → ∃ cs, Blk w a.block 22 cs) (hX : ∀ i (h : i < xs.length) (h' : i < L.length), ∀ k, xs[i].ownBlock = some k → 0 < L[i].length → k < n₀ ∨ ∃ cs, Blk w k 5 cs) : TxsV w' A xs L := by
  refine ⟨h.len, fun h0 => ?_, fun i hi hi' => ?_⟩
  · obtain ⟨g, o, rfl, hg, hc⟩ := h.cell h0
    obtain ⟨cs, hb⟩ := hA _ rfl
    have hb' := hk.kt _ _ _ hb ht
    exact ⟨g, o, rfl, Nat.lt_of_lt_of_le hg hk.size, fun j x hx => by rw [← hc j x hx]; exact (hb'.cell (o + j)).trans (hb.cell (o + j)).symm⟩
  · obtain ⟨A', c, e, hb, hn⟩ := h.txt i hi hi'
    refine ⟨A', c, e, hb.kept hk hu (fun a ha h0 => hX i hi hi' a.block (by rw [e, ha]; rfl) h0), hn⟩

/-- Texts copied, and one more of two bytes. -/
theorem app_two (w : World) {A : Option Addr} {c : Nat} {xs : List Value} {L : List (List Int)} (h : TxsV w A xs L) (hA : A = none → c = 0) (hlen : L.length ≤ 1000000) :
    ∃ A1 c1 w1 A2 c2 w2 xs2, (APs #[33, 33] 33 #[.slice (some ⟨w.heap.size, 0, none⟩) 0 0, .slice A L.length c]).run Tryd.prog (w.alloc (.cells #[] 22)) = .ok (.slice A1 L.length c1) w1 ∧
      (APs #[33, 33] 33 #[.slice A1 L.length c1, .slice (some ⟨w1.heap.size + 1, 0, none⟩) 1 1]).run Tryd.prog ((w1.alloc (.cells #[.int .u8 1, .int .u8 2] 5)).alloc (.cells #[.slice (some ⟨w1.heap.size, 0, none⟩) 2 2] 22)) = .ok (.slice A2 (L.length + 1) c2) w2 ∧
      TxsV w2 A2 xs2 (L ++ [[1, 2]]) ∧ Below w.heap.size w w2 := by
  have hb0 : Below w.heap.size w (w.alloc (.cells #[] 22)) := (Below.refl _ w).alloc (Nat.le_refl _) _
  have h0 : (w.alloc (.cells #[] 22)).ownsRow w.heap.size 22 1 (.slice (some ⟨w.heap.size, 0, none⟩) 0 0) 0 [] := own_nul w _ _ (Nat.le_refl _)
  have hT0 := h.below hb0
  -- the copy
  have hcopy : ∃ v1 w1, (APs #[33, 33] 33 #[.slice (some ⟨w.heap.size, 0, none⟩) 0 0, .slice A L.length c]).run Tryd.prog (w.alloc (.cells #[] 22)) = .ok v1 w1 ∧ w1.ownsRow w.heap.size 22 1 v1 L.length xs ∧ Fr (fun k => k = w.heap.size) (w.alloc (.cells #[] 22)) w1 := by
    cases A with
    | none =>
      have e : xs = [] := by
        cases xs with
        | nil => rfl
        | cons x r =>
          obtain ⟨g, o, e, _⟩ := h.cell (by simp)
          cases e
      subst e
      have eL : L.length = 0 := by rw [← h.len]; rfl
      obtain rfl := hA rfl
      obtain ⟨i, hi⟩ := Option.map_eq_some_iff.1 iT
      rw [eL]
      exact ⟨_, _, run_append_owned_none _ w.heap.size 33 33 22 i 1 uT hi.1 _ _ _ h0, h0, Fr.refl _ _⟩
    | some a =>
      obtain ⟨v', w', e1, e2, e3, _⟩ := APs_own (P := Tryd.prog) (ty := 33) uT iT (by omega) h0 (a := a) (m := L.length) (c := c) xs (by rw [h.len]; omega) (fun j u hu => by
        have hj : j < xs.length := (List.getElem?_eq_some_iff.1 hu).1
        obtain ⟨g, o, e, _, hc⟩ := hT0.cell (by omega)
        cases e
        rw [addN]
        exact hc j u hu) (fun u hu => by
        obtain ⟨i, hi, rfl⟩ := List.getElem_of_mem hu
        exact (h.txt i hi (by rw [← h.len]; exact hi)).one) (by unfold maxLen; omega) (by omega) (by simp)
      refine ⟨v', w', e1, by simpa using e2, (Fr.refl _ _).grown e3 (fun k _ e => ?_)⟩
      simpa [Value.ownBlock, eq_comm] using e
  obtain ⟨v1, w1, r1, o1, f1⟩ := hcopy
  obtain ⟨A1, c1, rfl⟩ := own_form o1
  have hb1 : Below w.heap.size w w1 := hb0.trans (f1.below (by simp) (fun k hk e => by omega))
  have hT1 := h.below hb1
  -- one more
  have hz : (w1.alloc (.cells #[.int .u8 1, .int .u8 2] 5)).heap.size = w1.heap.size + 1 := by simp
  have hbk : Blk (w1.alloc (.cells #[.int .u8 1, .int .u8 2] 5)) w1.heap.size 5 (bys [1, 2]).toArray := Blk.new w1 _ _
  have hb2 : Below w1.heap.size w1 (w1.alloc (.cells #[.int .u8 1, .int .u8 2] 5)) := (Below.refl _ w1).alloc (Nat.le_refl _) _
  have o1' : (w1.alloc (.cells #[.int .u8 1, .int .u8 2] 5)).ownsRow w.heap.size 22 1 (.slice A1 L.length c1) L.length xs := World.ownsRow.alloc o1 _
  obtain ⟨v2, w2, r2, o2, f2, _⟩ := appT (ty := 33) o1' [.slice (some ⟨w1.heap.size, 0, none⟩) 2 2] (by intro u hu; simp at hu; subst hu; rfl) (by simp; omega) (Nat.le_trans hb1.size hb2.size)
  obtain ⟨A2, c2, rfl⟩ := own_form o2
  rw [hz] at r2
  have hrow : ∀ k, (Value.slice A1 L.length c1).ownBlock = some k → w.heap.size ≤ k := fun k hk => (World.ownsRow.lt o1 k hk).1
  refine ⟨A1, c1, w1, A2, c2, w2, xs ++ [.slice (some ⟨w1.heap.size, 0, none⟩) 2 2], r1, r2, ⟨by simp [h.len], fun h0 => ?_, fun i hi hi' => ?_⟩, (hb1.trans (hb2.mono hb1.size)).trans (f2.below (Nat.le_trans hb1.size hb2.size) (fun k hk e => by have := hrow k e; omega))⟩
  · obtain ⟨g, cap, e, _, hg, hc⟩ := own_cells o2 (by simp)
    simp only [Value.slice.injEq] at e
    refine ⟨g, 0, e.1, hg, fun j x hx => hc j x hx⟩
  · have hT2 := h.below (hb1.trans (hb2.mono hb1.size))
    by_cases hlt : i < xs.length
    · rw [List.getElem_append_left hlt, List.getElem_append_left (by rw [← h.len]; exact hlt)]
      have ht := h.txt i hlt (by rw [← h.len]; exact hlt)
      obtain ⟨A', c', e, hy, hn⟩ := ht
      refine ⟨A', c', e, ((hy.below (hb1.trans (hb2.mono hb1.size))).fr f2 (fun a ha h0 f => ?_)), hn⟩
      obtain ⟨g, o, e2, hg, _⟩ := hy.cell h0
      rw [ha] at e2
      cases e2
      have : w.heap.size ≤ g := hrow _ f
      omega
    · have hi2 : i = xs.length := by simp at hi; omega
      subst hi2
      simp only [List.getElem_append_right (Nat.le_refl _), Nat.sub_self, List.getElem_cons_zero]
      simp only [h.len, List.getElem_append_right (Nat.le_refl _), Nat.sub_self, List.getElem_cons_zero]
      refine ⟨some ⟨w1.heap.size, 0, none⟩, 2, rfl, ((hbk.byt (by intro x hx; simp at hx; omega)).fr f2 (fun a ha _ f => ?_)), by simp⟩
      cases ha
      exact own_ne o1' hbk (by decide) f

theorem OwnV.kept2 {B n₀ : Nat} {G : Nat → Prop} {ts : List TypeId} {w w' : World} {v : Value} {L : List (List Int)} (h : OwnV B G w v L) (hk : Kept n₀ ts w w') (ht : 22 ∉ ts) (hu : 5 ∉ ts) (hG : ∀ k, G k → k < n₀ ∨ ∃ cs, Blk w k 5 cs) : OwnV B G w' v L := by
  obtain ⟨xs, h1, h2, h3⟩ := h
  refine ⟨xs, hk.own h1 ht, h2, fun i hi hi' => ⟨?_, (h3 i hi hi').2⟩⟩
  obtain ⟨A', c, e, hb, hn⟩ := (h3 i hi hi').1
  exact ⟨A', c, e, hb.kept hk hu (fun a ha h0 => hG _ ((h3 i hi hi').2 a.block (by rw [e, ha]; rfl) h0)), hn⟩
theorem slT_of (x : Value) (lo hi mx : Option Value) : Instr.sliceAt 33 x lo hi mx = SLs 33 x lo hi mx := rfl
theorem sTz : (Tryd.prog.info? 22).map (·.size) = some 1 := by kernel_rfl
theorem OwnV.head {B n c j : Nat} {G : Nat → Prop} {w : World} {A : Option Addr} {L : List (List Int)} (h : OwnV B G w (.slice A n c) L) (hj : j ≤ n) (W : World) :
    (SLs 33 (.slice A n c) none (some (.int .i64 (j : Int))) none).run Tryd.prog W = .ok (.slice A j c) W := by
  obtain ⟨i, hq, hi⟩ := Option.map_eq_some_iff.1 sTz
  obtain ⟨xs, ⟨h1, ⟨h2, h3⟩ | ⟨g, cap, cur, h2, _, _, hn, _⟩⟩, _⟩ := h
  · simp only [Value.slice.injEq] at h2
    obtain ⟨rfl, hn, rfl⟩ := h2
    obtain rfl : j = 0 := by omega
    subst hn
    simp [SLs, Instr.sliceAt, Instr.slice, Instr.sliceBounds, Instr.sliceBound, asIntOf, run_underlying uT, sizeOf, typeInfo, hq]
  · simp only [Value.slice.injEq] at h2
    obtain ⟨rfl, e, rfl⟩ := h2
    have hc : j ≤ c := by omega
    have hadd : (⟨g, 0, none⟩ : Addr).add 0 = ⟨g, 0, none⟩ := by unfold Addr.add; split <;> simp_all
    simp [SLs, Instr.sliceAt, Instr.slice, Instr.sliceBounds, Instr.sliceBound, asIntOf, run_underlying uT, sizeOf, typeInfo, hq, hc, hadd]

end Go.Proofs.YtohadeijmmmcdaaDoor
