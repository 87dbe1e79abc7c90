/-
  The document's drum: Read.
-/
import Derived.Test.YtohadeijmmmcdaaRefD
namespace Go.Proofs.Ytohadeijmmmcdaa
open Go.RowKit
attribute [local go_sem ↓] APs_of

theorem RB.sec {B : Nat} {w : World} {v : Value} {s : List Int} (h : RB B w v s) : s.length = 64 := by obtain ⟨_, _, _, _, _, _, _, h⟩ := h; exact h
theorem RB.cell {B : Nat} {w : World} {v : Value} {s : List Int} (h : RB B w v s) : ∃ g c, v = .slice (some ⟨g, 0, none⟩) 64 c ∧ B ≤ g ∧ g < w.heap.size ∧ ∀ j u, (bys s)[j]? = some u → w.cell? ⟨g, j, none⟩ = some u := by
  obtain ⟨g, c, cs, e, hb, hblk, ht, hl⟩ := h
  refine ⟨g, c, e, hb, hblk.lt, fun j u hu => ?_⟩
  rw [hblk.cell, ← Array.getElem?_toList]
  rw [← ht, List.getElem?_take] at hu
  split at hu
  · exact hu
  · cases hu
theorem RB.byt {B : Nat} {w : World} {v : Value} {s : List Int} (h : RB B w v s) (hs : ∀ x ∈ s, 0 ≤ x ∧ x ≤ 255) : ∃ A c, v = .slice A s.length c ∧ Byt w A s ∧ ∀ a, A = some a → B ≤ a.block := by
  have hl := h.sec
  obtain ⟨g, c, e, hb, hg, hc⟩ := h.cell
  refine ⟨some ⟨g, 0, none⟩, c, by rw [hl]; exact e, ⟨fun _ => ⟨g, 0, rfl, hg, fun j x hx => ?_⟩, hs⟩, fun a e => by cases e; exact hb⟩
  rw [Nat.zero_add]
  exact hc j _ (by rw [bys_get, hx]; rfl)

set_option maxRecDepth 100000 in
set_option maxHeartbeats 4000000 in
theorem rread_ok (B : Nat) (q : Nat) (lv wv : Value) (ls : List Value) (ws : List (Nat × Value)) (S : DS) (k : Nat) (w : World) (h : IsRef B w q lv wv ls ws S) (hoff : S.off = false) (hk : k < S.sure.length) (hlen : S.waits.length ≤ 1000000) (hB : B ≤ w.heap.size) :
    Calls Try.prog 23 #[.pointer (some ⟨q, 0, none⟩), .int .i64 (k : Int)] w fun e w' => ∃ v, (e = .returned (.tuple #[v, .int .i64 0]) ∧ RB w.heap.size w' v (S.now k) ∧ Below w.heap.size w w') := by
  obtain ⟨Aw, capw, hwv⟩ := own_form h.w_
  have hst := h.st
  rw [hoff] at hst
  have hlsl : ls.length = S.sure.length := by have := h.l.1; omega
  obtain ⟨u3, hu3⟩ : ∃ u, ls[k]? = some u := ⟨_, List.getElem?_eq_getElem (by rw [hlsl]; exact hk)⟩
  obtain ⟨gl, capl, hlv, hgB, ⟨cs3, hb3⟩, hc3⟩ := own_cell h.l hu3
  have hrbk : RB B w u3 (S.sure.getD k []) := by
    have h1 := h.ll.2 k (by rw [hlsl]; exact hk) hk
    have e1 : ls[k]'(by rw [hlsl]; exact hk) = u3 := by
      have := hu3
      rw [List.getElem?_eq_getElem (by rw [hlsl]; exact hk)] at this
      exact Option.some.inj this
    rw [e1] at h1
    have e2 : S.sure.getD k [] = S.sure[k] := by simp [List.getD, hk]
    rw [e2]
    exact h1
  obtain ⟨gb, cb, hub, _, _, _⟩ := hrbk.cell
  subst hub
  have c0 : w.cell? ⟨q, 0, none⟩ = some (.slice (some ⟨gl, 0, none⟩) S.sure.length capl) := by rw [← hlv]; exact hst.cell 0
  have c1 : w.cell? ⟨q, 1, none⟩ = some (.slice Aw S.waits.length capw) := by rw [← hwv]; exact hst.cell 1
  have c3 : w.cell? ⟨q, 3, none⟩ = some (.bool false) := hst.cell 3
  have ck := (hc3 w rfl).1
  have z1 : decide ((k : Int) < 0) = false := by simp
  have z2 : decide (S.sure.length ≤ k) = false := by simpa using hk
  have hk1 : (k : Int) < (S.sure.length : Int) := by omega
  have H := Lib.hid h
  have HWV := Lib.hid hwv
  have HRK := Lib.hid hrbk
  clear h hoff hst hlv hwv hu3 hc3 hb3 hrbk hlsl
  go_enter Try.func23, Try.ntmps23
  go_wp2_with fail
  go_loopw [6, 7] (fun b t wr => ∃ (i g c : Nat), i ≤ S.waits.length ∧ t = .int .i64 i ∧ b = .slice (some ⟨g, 0, none⟩) 64 c ∧ RB B w (.slice (some ⟨g, 0, none⟩) 64 c) (lastAt k (S.sure.getD k []) (S.waits.take i)) ∧ wr = w)
    (fun _ t _ => S.waits.length - (intOf t).toNat)
  case atStart => exact ⟨0, gb, cb, Nat.zero_le _, rfl, rfl, HRK.out, rfl⟩
  case round =>
    obtain ⟨i, g, c, hi, rfl, rfl, hrb, rfl⟩ := hrel
    have HRB := Lib.hid hrb
    clear hrb
    by_cases hlt : i < S.waits.length
    · have hlw : i < ws.length := by rw [H.out.ww.1]; exact hlt
      obtain ⟨e1, e2⟩ := rrow_cells hlw
      obtain ⟨g1, cp1, hv1, _, _, hc1⟩ := own_cell H.out.w_ e1
      obtain ⟨g2, cp2, hv2, _, _, hc2⟩ := own_cell H.out.w_ e2
      rw [HWV.out] at hv1 hv2
      simp only [Value.slice.injEq] at hv1 hv2
      obtain ⟨rfl, -, rfl⟩ := hv1
      obtain ⟨h12, -, -⟩ := hv2
      simp only [Option.some.injEq, Addr.mk.injEq, and_true] at h12
      subst h12
      obtain ⟨hkk, hrbx⟩ := H.out.ww.2 i hlw hlt
      obtain ⟨gx, cx, hvx, _, _, _⟩ := hrbx.cell
      rw [hvx] at hrbx
      have d1 : wr.cell? ⟨g1, i * 2, none⟩ = some (.int .i64 (S.waits[i].1 : Int)) := by rw [← hkk]; exact (hc1 wr rfl).1
      have d2 : wr.cell? ⟨g1, i * 2 + 1, none⟩ = some (.slice (some ⟨gx, 0, none⟩) 64 cx) := by rw [← hvx]; exact (hc2 wr rfl).1
      have hts : S.waits.take (i + 1) = S.waits.take i ++ [S.waits[i]] := List.take_succ_eq_append_getElem hlt
      obtain ⟨x, hx⟩ : ∃ x, S.waits[i] = x := ⟨_, rfl⟩
      rw [hx] at d1 hrbx hts
      have HRX := Lib.hid hrbx
      have HTS := Lib.hid hts
      clear e1 e2 hc1 hc2 hkk hrbx hvx hx hts
      by_cases he : x.1 = k
      · have z3 : ((x.1 : Int) == (k : Int)) = true := by simp [he]
        have z4 : (x.1 == k) = true := by simpa using he
        have HE := Lib.hid he
        clear he
        go_wp2_with fail
        refine ⟨⟨i + 1, gx, cx, by omega, by go_num, rfl, ?_, trivial⟩, by simp [intOf]; omega⟩
        rw [HTS.out, lastAt_snoc, if_pos HE.out]
        exact HRX.out
      · have z3 : ((x.1 : Int) == (k : Int)) = false := by simp; omega
        have z4 : (x.1 == k) = false := by simpa using he
        have HE := Lib.hid he
        clear he
        go_wp2_with fail
        refine ⟨⟨i + 1, g, c, by omega, by go_num, rfl, ?_, trivial⟩, by simp [intOf]; omega⟩
        rw [HTS.out, lastAt_snoc, if_neg HE.out]
        exact HRB.out
    · obtain rfl : i = S.waits.length := by omega
      have hrb := HRB.out
      rw [List.take_length] at hrb
      have hrb2 : RB B (wr.alloc (.cells #[] 5)) (.slice (some ⟨g, 0, none⟩) 64 c) (S.now k) := hrb.fr ((Fr.refl (fun _ => False) wr).alloc _) (fun _ _ _ f => f)
      have hoe := own_empty wr 5 wr.heap.size (Nat.le_refl _)
      obtain ⟨v', w', hrun, hv', hgr⟩ : ∃ v' w', (APs #[26, 26] 26 #[.slice (some ⟨wr.heap.size, 0, none⟩) 0 0, .slice (some ⟨g, 0, none⟩) 64 c]).run Try.prog (wr.alloc (.cells #[] 5)) = .ok v' w' ∧ RB wr.heap.size w' v' (S.now k) ∧ (wr.alloc (.cells #[] 5)).grownBy w' (some wr.heap.size) := by
        obtain ⟨g1, c1', e1, hb1, hg1, hc1⟩ := hrb2.cell
        have hl := hrb2.sec
        simp only [Value.slice.injEq, Option.some.injEq, Addr.mk.injEq, and_true, true_and] at e1
        obtain ⟨rfl, rfl⟩ := e1
        obtain ⟨v', w', h1, h2, h3, _⟩ := APs_own (P := Try.prog) (t := 26) (ty := 26) Try.underlying26 iz5' (by omega) hoe (a := ⟨g, 0, none⟩) (m := 64) (c := c) (bys (S.now k)) (by simp [bys_length, hl])
          (fun j u hu => by
            have hadd : (⟨g, 0, none⟩ : Addr).add j = ⟨g, j, none⟩ := by unfold Addr.add; split <;> simp_all
            rw [hadd]
            exact hc1 j u hu) (bys_one _) (by unfold maxLen; omega) (by omega) (by simp)
        simp only [List.nil_append, Nat.zero_add] at h2
        exact ⟨v', w', h1, RB.of_own h2 hl, h3⟩
      obtain ⟨gv, cv, hvv, _, _, _⟩ := hv'.cell
      subst hvv
      have HV := Lib.hid hv'
      have HG := Lib.hid hgr
      clear hrb hrb2 hoe hv' hgr
      go_wp2_with fail
      go_ret2
      exact ⟨_, rfl, HV.out, ((Below.refl _ wr).alloc (Nat.le_refl _) _).grown HG.out (by simp) (fun j e => by cases e; exact Nat.le_refl _)⟩

theorem rread_down (q : Nat) (lv wv : Value) (fuse : Int) (k : Int) (w : World) (h : Blk w q 50 #[lv, wv, .int .i64 fuse, .bool true]) :
    Calls Try.prog 23 #[.pointer (some ⟨q, 0, none⟩), .int .i64 k] w fun e w' => e = .returned (.tuple #[.slice none 0 0, .int .i64 21]) ∧ w = w' := by
  have c3 : w.cell? ⟨q, 3, none⟩ = some (.bool true) := h.cell 3
  clear h
  go_enter Try.func23, Try.ntmps23
  go_wp2_with fail
  go_ret2
  exact ⟨rfl, rfl⟩

theorem rread_range (q : Nat) (Al : Option Addr) (n capl : Nat) (wv : Value) (fuse : Int) (k : Int) (w : World) (h : Blk w q 50 #[.slice Al n capl, wv, .int .i64 fuse, .bool false]) (hk : k < 0 ∨ n ≤ k) :
    Calls Try.prog 23 #[.pointer (some ⟨q, 0, none⟩), .int .i64 k] w fun e w' => e = .returned (.tuple #[.slice none 0 0, .int .i64 5]) ∧ w = w' := by
  have c3 : w.cell? ⟨q, 3, none⟩ = some (.bool false) := h.cell 3
  have c0 : w.cell? ⟨q, 0, none⟩ = some (.slice Al n capl) := h.cell 0
  clear h
  by_cases h0 : k < 0
  · have z1 : decide (k < 0) = true := by simpa using h0
    clear hk
    go_enter Try.func23, Try.ntmps23
    go_wp2_with fail
    go_ret2
    exact ⟨rfl, rfl⟩
  · have z1 : decide (k < 0) = false := by simpa using h0
    have z2 : decide ((n : Int) ≤ k) = true := by simp; omega
    clear hk
    go_enter Try.func23, Try.ntmps23
    go_wp2_with fail
    go_ret2
    exact ⟨rfl, rfl⟩

/-- READ, the document's. -/
theorem rread_any (B : Nat) (q : Nat) (lv wv : Value) (ls : List Value) (ws : List (Nat × Value)) (S : DS) (k : Int) (w : World) (h : IsRef B w q lv wv ls ws S) (hlen : S.waits.length ≤ 1000000) (hB : B ≤ w.heap.size) :
    Calls Try.prog 23 #[.pointer (some ⟨q, 0, none⟩), .int .i64 k] w fun e w' =>
      ∃ A c, (e = .returned (.tuple #[.slice A (S.read k).1.length c, .int .i64 (S.read k).2]) ∧ NewB w.heap.size w' A (S.read k).1 ∧ Below w.heap.size w w') := by
  obtain ⟨Al, capl, hlv⟩ := own_form h.l
  have hst := h.st
  by_cases hoff : S.off = true
  · have e1 : S.read k = ([], 21) := by simp [DS.read, hoff]
    rw [hoff] at hst
    refine (rread_down q _ wv _ k w hst).mono ?_
    rintro e w' ⟨rfl, rfl⟩
    rw [e1]
    exact ⟨none, 0, rfl, ⟨Byt.nil _ _, by simp⟩, Below.refl _ _⟩
  have hoff : S.off = false := by simpa using hoff
  rw [hoff, hlv] at hst
  by_cases hk : k < 0 ∨ S.sure.length ≤ k
  · have e1 : S.read k = ([], 5) := by simp [DS.read, hoff, hk]
    refine (rread_range q _ _ _ wv _ k w hst hk).mono ?_
    rintro e w' ⟨rfl, rfl⟩
    rw [e1]
    exact ⟨none, 0, rfl, ⟨Byt.nil _ _, by simp⟩, Below.refl _ _⟩
  · have e1 : S.read k = (S.now k.toNat, 0) := by simp [DS.read, hoff, hk]
    have e2 : ((k.toNat : Nat) : Int) = k := by omega
    have hkl : k.toNat < S.sure.length := by omega
    have hr := rread_ok B q lv wv ls ws S k.toNat w h hoff hkl hlen hB
    rw [e2] at hr
    refine hr.mono ?_
    rintro e w' ⟨v, rfl, hb, hbl⟩
    obtain ⟨A, c, rfl, h1, h2⟩ := hb.byt (DS.now_sec h.ok hkl).2
    rw [e1]
    exact ⟨A, c, rfl, ⟨h1, h2⟩, hbl⟩

end Go.Proofs.Ytohadeijmmmcdaa
