/-
  The document's drum: Start.
-/
import Derived.Test.YtohadeijmmmcdaaRefE
namespace Go.Proofs.Ytohadeijmmmcdaa
open Go.RowKit
attribute [local go_sem ↓] APs_of

/-- The first k bytes gone through. -/
def landP (a b : List Int) (m k : Nat) : List Int := (List.range 64).map fun j => if j < k ∧ m / 2 ^ (j / 8) % 2 = 1 then b.getD j 0 else a.getD j 0
theorem landP_len (a b : List Int) (m k : Nat) : (landP a b m k).length = 64 := by simp [landP]
theorem landP_zero {a b : List Int} (ha : a.length = 64) (m : Nat) : landP a b m 0 = a := by
  apply List.ext_getElem
  · simp [landP, ha]
  · intro i h1 h2
    simp [landP, List.getD, h2]
theorem landP_all (a b : List Int) (m : Nat) : landP a b m 64 = landW a b m := by
  unfold landP landW
  apply List.map_congr_left
  intro j hj
  have : j < 64 := List.mem_range.1 hj
  simp [this]
theorem landW_len (a b : List Int) (m : Nat) : (landW a b m).length = 64 := by simp [landW]
theorem landP_skip {a b : List Int} {m k : Nat} (h : m / 2 ^ (k / 8) % 2 ≠ 1) : landP a b m (k + 1) = landP a b m k := by
  unfold landP
  apply List.map_congr_left
  intro j hj
  by_cases e : j = k
  · subst e
    rw [if_neg (fun h' => h h'.2), if_neg (fun h' => h h'.2)]
  · have : (j < k + 1) ↔ (j < k) := by omega
    simp only [this]
theorem landP_set {a b : List Int} {m k : Nat} (hb : b.length = 64) (hk : k < 64) (h : m / 2 ^ (k / 8) % 2 = 1) (h' : k < b.length) : landP a b m (k + 1) = (landP a b m k).set k b[k] := by
  apply List.ext_getElem
  · simp [landP]
  · intro i h1 h2
    have hi : i < 64 := by rw [landP_len] at h1; exact h1
    by_cases e : i = k
    · subst e
      simp [landP, h, List.getD, h']
    · rw [List.getElem_set_ne (by omega)]
      have : (i < k + 1) ↔ (i < k) := by omega
      simp [landP, this]

theorem bit_tmod (m j : Nat) : (((m : Int) / 2 ^ j).tmod 2 == 1) = decide (m / 2 ^ j % 2 = 1) := by
  have h1 : ((m : Int) / 2 ^ j) = ((m / 2 ^ j : Nat) : Int) := by simp
  rw [h1, Int.tmod_eq_emod_of_nonneg (Int.natCast_nonneg _), Bool.eq_iff_iff]
  simp only [beq_iff_eq, decide_eq_true_eq]
  omega
theorem bit_255 {k : Nat} (hk : k < 64) : 255 / 2 ^ (k / 8) % 2 = 1 := by
  have : k / 8 < 8 := by omega
  rcases (show k / 8 = 0 ∨ k / 8 = 1 ∨ k / 8 = 2 ∨ k / 8 = 3 ∨ k / 8 = 4 ∨ k / 8 = 5 ∨ k / 8 = 6 ∨ k / 8 = 7 by omega) with h | h | h | h | h | h | h | h <;> rw [h]
theorem take_set_bys {cs : Array Value} {l : List Int} {k : Nat} (h : cs.toList.take 64 = bys l) (x : Int) : (cs.setIfInBounds k (.int .u8 x)).toList.take 64 = bys (l.set k x) := by
  rw [Array.toList_setIfInBounds, List.take_set, h]
  simp [bys]

set_option maxRecDepth 100000 in
set_option maxHeartbeats 8000000 in
theorem rstart_any (B : Nat) (q : Nat) (lv wv : Value) (ls : List Value) (ws : List (Nat × Value)) (S : DS) (AM : Option Addr) (cm : Nat) (M : List Int) (w : World) (h : IsRef B w q lv wv ls ws S) (hM : Byt w AM M) (hA : ∀ a, AM = some a → 0 < M.length → ¬ RF q lv wv a.block) (hlen : S.waits.length ≤ 1000000) (hml : M.length ≤ 1000000) :
    Calls Try.prog 22 #[.pointer (some ⟨q, 0, none⟩), .slice AM M.length cm] w fun e w' => ∃ ls', (e = .returned (.tuple #[]) ∧ IsRef B w' q lv (.slice none 0 0) ls' [] (S.start M) ∧ Fr (RF q lv wv) w w') := by
  obtain ⟨Aw, capw, hwv⟩ := own_form h.w_
  have hlv : ∃ gl capl, lv = .slice (some ⟨gl, 0, none⟩) S.sure.length capl := by
    rcases h.l.2 with ⟨_, h0⟩ | ⟨g, cap, cur, rfl, _⟩
    · have := h.ok.n1; omega
    · exact ⟨g, cap, rfl⟩
  obtain ⟨gl, capl, hlv⟩ := hlv
  have H := Lib.hid h
  have HM := Lib.hid hM
  have HA := Lib.hid hA
  have HLV := Lib.hid hlv
  have HWV := Lib.hid hwv
  clear h hM hA hlv hwv
  go_enter Try.func22, Try.ntmps22
  go_wp2_with fail
  go_loopw [4] (fun t wr => ∃ (i : Nat) (ls' : List Value), i ≤ S.waits.length ∧ t = .int .i64 i ∧ wr.ownsRow B 26 1 lv S.sure.length ls' ∧ RBs B wr ls' (landAll M 0 S.sure (S.waits.take i)) ∧ Fr (fun j => lv.ownBlock = some j) w wr)
    (fun t _ => S.waits.length - (intOf t).toNat)
  case atStart => exact ⟨0, ls, Nat.zero_le _, rfl, H.out.l, H.out.ll, Fr.refl _ _⟩
  case round =>
    obtain ⟨i, ls', hi, rfl, hown, hrb, hfr⟩ := hrel
    have hnt : ∀ j t cs, Blk w j t cs → t ≠ 26 → ¬ lv.ownBlock = some j := fun j t cs hj h1 e => own_ne H.out.l hj h1.symm e
    have hdr : Blk wr q 50 #[lv, wv, .int .i64 S.fuse, .bool S.off] := H.out.st.fr hfr (hnt _ _ _ H.out.st (by decide))
    have hww : RWs B wr ws S.waits := H.out.ww.fr hfr (fun j cs hb => hnt j _ cs hb (by decide))
    have hwown : wr.ownsRow B 66 2 wv S.waits.length (ws.map rrow).flatten := own_fr H.out.w_ hfr (fun j hj => by obtain ⟨cs, hb, _⟩ := own_blk H.out.w_ hj; exact hnt j _ cs hb (by decide))
    have c1 : wr.cell? ⟨q, 1, none⟩ = some (.slice Aw S.waits.length capw) := by rw [← HWV.out]; exact hdr.cell 1
    have HDR := Lib.hid hdr
    have HOW := Lib.hid hown
    have HRB := Lib.hid hrb
    have HFR := Lib.hid hfr
    have HWW := Lib.hid hww
    have HWO := Lib.hid hwown
    clear hown hrb hfr hnt hdr hww hwown
    by_cases hlt : i < S.waits.length
    · have hlw : i < ws.length := by rw [HWW.out.1]; exact hlt
      obtain ⟨e1, e2⟩ := rrow_cells hlw
      obtain ⟨g1, cp1, hv1, _, ⟨csw, hbw⟩, hc1⟩ := own_cell HWO.out e1
      obtain ⟨g2, cp2, hv2, _, _, hc2⟩ := own_cell HWO.out e2
      rw [HWV.out] at hv1 hv2
      simp only [Value.slice.injEq] at hv1 hv2
      obtain ⟨rfl, -, rfl⟩ := hv1
      obtain ⟨h12, -, -⟩ := hv2
      simp only [Option.some.injEq, Addr.mk.injEq, and_true] at h12
      subst h12
      obtain ⟨hkk, hrbx⟩ := HWW.out.2 i hlw hlt
      obtain ⟨gx, cx, hvx, _, hgx, hcx⟩ := hrbx.cell
      rw [hvx] at hrbx
      have hk0 : S.waits[i].1 < S.sure.length := (H.out.ok.waits _ (List.getElem_mem hlt)).1
      have hxs := (H.out.ok.waits _ (List.getElem_mem hlt)).2
      have hlsl : ls'.length = S.sure.length := by have := HOW.out.1; omega
      obtain ⟨u3, hu3⟩ : ∃ u, ls'[S.waits[i].1]? = some u := ⟨_, List.getElem?_eq_getElem (by rw [hlsl]; exact hk0)⟩
      obtain ⟨g3, cp3, hv3, hgB, ⟨cs3, hb3⟩, hc3⟩ := own_cell HOW.out hu3
      have hv3' := HLV.out.symm.trans hv3
      simp only [Value.slice.injEq, Option.some.injEq, Addr.mk.injEq, and_true, true_and] at hv3'
      obtain ⟨rfl, rfl⟩ := hv3'
      have hLl : (landAll M 0 S.sure (S.waits.take i)).length = S.sure.length := landAll_len _ _ _ _
      have hrbu : RB B wr u3 ((landAll M 0 S.sure (S.waits.take i)).getD S.waits[i].1 []) := by
        have h1 := HRB.out.2 S.waits[i].1 (by rw [hlsl]; exact hk0) (by rw [hLl]; exact hk0)
        rw [List.getElem?_eq_getElem (by rw [hlsl]; exact hk0)] at hu3
        rw [Option.some.inj hu3] at h1
        have e2 : (landAll M 0 S.sure (S.waits.take i)).getD S.waits[i].1 [] = (landAll M 0 S.sure (S.waits.take i))[S.waits[i].1]'(by rw [hLl]; exact hk0) := by simp [List.getD, hLl, hk0]
        rw [e2]
        exact h1
      obtain ⟨gc, cc, huc, _, _, _⟩ := hrbu.cell
      subst huc
      have hts : S.waits.take (i + 1) = S.waits.take i ++ [S.waits[i]] := List.take_succ_eq_append_getElem hlt
      have d1 : ∀ W : World, W.heap[g1]? = wr.heap[g1]? → W.cell? ⟨g1, i * 2, none⟩ = some (.int .i64 (S.waits[i].1 : Int)) := fun W hW => by rw [← hkk]; exact (hc1 W hW).1
      have d2 : ∀ W : World, W.heap[g1]? = wr.heap[g1]? → W.cell? ⟨g1, i * 2 + 1, none⟩ = some (.slice (some ⟨gx, 0, none⟩) 64 cx) := fun W hW => by rw [← hvx]; exact (hc2 W hW).1
      obtain ⟨x, hx⟩ : ∃ x, S.waits[i] = x := ⟨_, rfl⟩
      obtain ⟨cur, hcur⟩ : ∃ cur, (landAll M 0 S.sure (S.waits.take i)).getD S.waits[i].1 [] = cur := ⟨_, rfl⟩
      rw [hcur] at hrbu
      rw [hx] at d1 hrbx hts hk0 hc3 hxs hcx hcur
      have HX := Lib.hid hx
      have HCUR := Lib.hid hcur
      have HXS := Lib.hid hxs
      have HRX := Lib.hid hrbx
      have HRU := Lib.hid hrbu
      have HTS := Lib.hid hts
      have HC3 := Lib.hid hc3
      have D1 := Lib.hid d1
      have D2 := Lib.hid d2
      have HBW := Lib.hid hbw
      have hk1 : (x.1 : Int) < (S.sure.length : Int) := by omega
      have q0a : wr.drew.cell? ⟨q, 0, none⟩ = some (.slice (some ⟨gl, 0, none⟩) S.sure.length capl) := by rw [← HLV.out]; exact HDR.out.cell 0
      have q0b : (wr.alloc (.cells #[] 5)).drew.cell? ⟨q, 0, none⟩ = some (.slice (some ⟨gl, 0, none⟩) S.sure.length capl) := by rw [← HLV.out]; exact (HDR.out.alloc _).cell 0
      have q1a : wr.drew.cell? ⟨q, 1, none⟩ = some (.slice (some ⟨g1, 0, none⟩) S.waits.length capw) := c1
      have q1b : (wr.alloc (.cells #[] 5)).drew.cell? ⟨q, 1, none⟩ = some (.slice (some ⟨g1, 0, none⟩) S.waits.length capw) := by rw [← HWV.out]; exact (HDR.out.alloc _).cell 1
      have x1a := d1 wr.drew rfl
      have x1b := d1 (wr.alloc (.cells #[] 5)).drew (Below.heap_alloc _ _ _ hbw.lt)
      have l1a := (hc3 wr.drew rfl).1
      have l1b := (hc3 (wr.alloc (.cells #[] 5)).drew (Below.heap_alloc _ _ _ hb3.lt)).1
      have hoe := (own_empty wr 5 wr.heap.size (Nat.le_refl _)).drew
      obtain ⟨v', w2, hrun, hv', hgr⟩ : ∃ v' w', (APs #[26, 26] 26 #[.slice (some ⟨wr.heap.size, 0, none⟩) 0 0, .slice (some ⟨gc, 0, none⟩) 64 cc]).run Try.prog (wr.alloc (.cells #[] 5)).drew = .ok v' w' ∧ RB wr.heap.size w' v' cur ∧ (wr.alloc (.cells #[] 5)).drew.grownBy w' (some wr.heap.size) := by
        have hrb2 : RB B (wr.alloc (.cells #[] 5)).drew (.slice (some ⟨gc, 0, none⟩) 64 cc) cur := HRU.out.fr (((Fr.refl (fun _ => False) wr).alloc _).drew) (fun _ _ _ f => f)
        obtain ⟨g1', c1', e1, hb1, hg1, hc1⟩ := hrb2.cell
        have hl := hrb2.sec
        simp only [Value.slice.injEq, Option.some.injEq, Addr.mk.injEq, and_true, true_and] at e1
        obtain ⟨rfl, rfl⟩ := e1
        obtain ⟨v', w', h1, h2, h3, _⟩ := APs_own (P := Try.prog) (t := 26) (ty := 26) Try.underlying26 iz5' (by omega) hoe (a := ⟨gc, 0, none⟩) (m := 64) (c := cc) (bys cur) (by simp [bys_length, hl])
          (fun j u hu => by
            have hadd : (⟨gc, 0, none⟩ : Addr).add j = ⟨gc, j, none⟩ := by unfold Addr.add; split <;> simp_all
            rw [hadd]
            exact hc1 j u hu) (bys_one _) (by unfold maxLen; omega) (by omega) (by simp)
        simp only [List.nil_append, Nat.zero_add] at h2
        exact ⟨v', w', h1, RB.of_own h2 hl, h3⟩
      obtain ⟨gb, cb, hvv, hgb, _, _⟩ := hv'.cell
      subst hvv
      have HV := Lib.hid hv'
      have HG := Lib.hid hgr
      have HGB := Lib.hid hgb
      clear e1 e2 hc1 hc2 hkk hrbx hvx hx hcur hxs hrbu hts hc3 d1 d2 hbw hv3 hb3 hoe hv' hgr hgb hu3 hlsl hLl hgx hcx hgB
      go_wp2_with fail
      go_region
      have hf2 : Fr (fun _ => False) wr w2 := (((Fr.refl _ wr).alloc _).drew).grown HG.out (fun j hj e => by cases e; omega)
      obtain ⟨gb', cb', csb, hev, _, hblkb, htb, hcl⟩ := HV.out
      simp only [Value.slice.injEq, Option.some.injEq, Addr.mk.injEq, and_true, true_and] at hev
      obtain ⟨rfl, rfl⟩ := hev
      have hs2 : Hid (Blk w2 gb 5 csb) := Lib.hid hblkb
      have HTB := Lib.hid htb
      have HCL := Lib.hid hcl
      have HF2 := Lib.hid hf2
      have hx64 : x.2.length = 64 := HXS.out.1
      have HX64 := Lib.hid hx64
      clear hf2 hblkb htb hcl hx64
      obtain ⟨wo, hwo⟩ : ∃ wo : World, wo = wr := ⟨_, rfl⟩
      subst hwo
      go_wp2_with fail
      go_loopw [6] (fun t wr => ∃ (k : Nat) (cs : Array Value), k ≤ 64 ∧ t = .int .i64 k ∧ Blk wr gb 5 cs ∧ Hid (cs.toList.take 64 = bys (landP cur x.2 (maskAt M i) k)) ∧ Fr (fun _ => False) wo wr)
        (fun t _ => 64 - (intOf t).toNat)
      case atStart => exact ⟨0, csb, by omega, rfl, hs2.out, Lib.hid (by rw [landP_zero HCL.out]; exact HTB.out), HF2.out⟩
      case round =>
        obtain ⟨k, cs, hk64, rfl, hbk, htk, hfk⟩ := hrel
        by_cases hkl : k < 64
        · have hkx : k < x.2.length := by rw [HX64.out]; exact hkl
          have hcsl : k < cs.size := by
            have h1 := congrArg List.length htk.out
            rw [bys_length, landP_len] at h1
            simp at h1
            omega
          have p1 : wr.cell? ⟨q, 1, none⟩ = some (.slice (some ⟨g1, 0, none⟩) S.waits.length capw) := by rw [← HWV.out]; exact (HDR.out.fr hfk (fun f => f)).cell 1
          have p2 : wr.cell? ⟨g1, i * 2 + 1, none⟩ = some (.slice (some ⟨gx, 0, none⟩) 64 cx) := D2.out wr (hfk.block _ HBW.out.lt (fun f => f))
          obtain ⟨gx', cx', ev, _, hgx, hcx⟩ := HRX.out.cell
          simp only [Value.slice.injEq, Option.some.injEq, Addr.mk.injEq, and_true, true_and] at ev
          obtain ⟨rfl, rfl⟩ := ev
          have p3 : wr.cell? ⟨gx, k, none⟩ = some (.int .u8 x.2[k]) := (hfk.cell (p := ⟨gx, k, none⟩) hgx (fun f => f)).trans (hcx k _ (by rw [bys_get, List.getElem?_eq_getElem hkx]; rfl))
          have p4 : wr.cell? ⟨gb, k, none⟩ = some cs[k] := by rw [hbk.cell]; exact Array.getElem?_eq_getElem hcsl
          have p5 := hbk.frozen k
          obtain ⟨xk, hxk⟩ : ∃ xk, x.2[k] = xk := ⟨_, rfl⟩
          obtain ⟨ck, hck⟩ : ∃ ck, cs[k] = ck := ⟨_, rfl⟩
          rw [hxk] at p3
          rw [hck] at p4
          have HXK := Lib.hid hxk
          have HBK := Lib.hid hbk
          have HFK := Lib.hid hfk
          clear hcsl hgx hcx hxk hck hbk hfk
          by_cases him : i < M.length
          · obtain ⟨gm, om, rfl, hgm, hcm⟩ := HM.out.at_ him
            have p6 : wr.cell? ⟨gm, om + i, none⟩ = some (.int .u8 M[i]) := by
              have h1 : wo.cell? ⟨gm, om + i, none⟩ = some (.int .u8 M[i]) := (HFR.out.cell (p := ⟨gm, om + i, none⟩) hgm (fun e => HA.out _ rfl (by omega) (.inr (.inl e)))).trans hcm
              exact (HFK.out.cell (p := ⟨gm, om + i, none⟩) (Nat.lt_of_lt_of_le hgm HFR.out.size) (fun f => f)).trans h1
            have hmi : (maskAt M i : Int) = M[i] := by
              have := HM.out.bd _ (List.getElem_mem him)
              simp [maskAt, him, List.getD]
              omega
            rw [← hmi] at p6
            have z1 : decide (M.length ≤ i) = false := by simpa using him
            have hm255 := maskAt_le HM.out.bd i
            obtain ⟨mi, hmi2⟩ : ∃ mi, maskAt M i = mi := ⟨_, rfl⟩
            rw [hmi2] at p6 hm255 htk ⊢
            clear hcm hmi hmi2
            by_cases hbit : mi / 2 ^ (k / 8) % 2 = 1
            · have z2 : (((mi : Int) / 2 ^ (k / 8)).tmod 2 == 1) = true := by rw [bit_tmod]; simpa using hbit
              have HBIT := Lib.hid hbit
              clear hbit
              go_wp2_with fail
              refine ⟨⟨k + 1, cs.setIfInBounds k (.int .u8 xk), by omega, by go_num, HBK.out.set_ k _, Lib.hid ?_, HFK.out.setCell (p := ⟨gb, k, none⟩) (fun e => by have e' : gb < wo.heap.size := e; omega) _⟩, by simp [intOf]; omega⟩
              rw [landP_set HX64.out hkl HBIT.out hkx, HXK.out]
              exact take_set_bys htk.out _
            · have z2 : (((mi : Int) / 2 ^ (k / 8)).tmod 2 == 1) = false := by rw [bit_tmod]; simpa using hbit
              have HBIT := Lib.hid hbit
              clear hbit
              go_wp2_with fail
              refine ⟨⟨k + 1, cs, by omega, by go_num, HBK.out, Lib.hid ?_, HFK.out⟩, by simp [intOf]; omega⟩
              rw [landP_skip HBIT.out]
              exact htk.out
          · have z1 : decide (M.length ≤ i) = true := by simpa using him
            have hm : maskAt M i = 255 := by simp [maskAt, him]
            rw [hm] at htk ⊢
            have HBIT := Lib.hid (bit_255 hkl)
            clear hm
            go_wp2_with fail
            refine ⟨⟨k + 1, cs.setIfInBounds k (.int .u8 xk), by omega, by go_num, HBK.out.set_ k _, Lib.hid ?_, HFK.out.setCell (p := ⟨gb, k, none⟩) (fun e => by have e' : gb < wo.heap.size := e; omega) _⟩, by simp [intOf]; omega⟩
            rw [landP_set HX64.out hkl HBIT.out hkx, HXK.out]
            exact take_set_bys htk.out _
        · obtain rfl : k = 64 := by omega
          rw [landP_all] at htk
          have p0 : wr.drew.cell? ⟨q, 0, none⟩ = some (.slice (some ⟨gl, 0, none⟩) S.sure.length capl) := by rw [← HLV.out]; exact (HDR.out.fr hfk (fun f => f)).cell 0
          have p1 : wr.drew.cell? ⟨q, 1, none⟩ = some (.slice (some ⟨g1, 0, none⟩) S.waits.length capw) := by rw [← HWV.out]; exact (HDR.out.fr hfk (fun f => f)).cell 1
          have p2 : wr.drew.cell? ⟨g1, i * 2, none⟩ = some (.int .i64 (x.1 : Int)) := D1.out wr (hfk.block _ HBW.out.lt (fun f => f))
          have hgl : gl < wo.heap.size := (HOW.out.lt gl (by rw [HLV.out]; rfl)).2
          obtain ⟨p3, p4⟩ := HC3.out wr.drew (hfk.block gl hgl (fun f => f))
          have HBK := Lib.hid hbk
          have HFK := Lib.hid hfk
          clear hbk hfk hgl
          go_wp2_with fail
          refine wp_still_tail 14 (by kernel_rfl) (by kernel_rfl) ?_
          simp only [List.take_succ_cons, List.take_zero, List.drop_succ_cons, List.drop_zero]
          repeat still_step
          refine wpStill_nil ?_
          go_wp2_with fail
          have hfo : Fr (fun j => lv.ownBlock = some j) wo (wr.setCell ⟨gl, x.1, none⟩ (.slice (some ⟨gb, 0, none⟩) 64 cb)).drew := ((HFK.out.mono (fun _ _ f => f.elim)).setCell (p := ⟨gl, x.1, none⟩) (fun _ => by rw [HLV.out]; rfl) _).drew
          have hnt5 : ∀ j cs, Blk wo j 5 cs → ¬ lv.ownBlock = some j := fun j cs hj e => own_ne HOW.out hj (by decide) e
          refine ⟨⟨i + 1, ls'.set x.1 (.slice (some ⟨gb, 0, none⟩) 64 cb), by omega, by go_num, ?_, ?_, HFR.out.trans hfo (fun _ _ e => e)⟩, by simp [intOf]; omega⟩
          · have h1 := own_fr HOW.out HFK.out (fun _ _ f => f)
            rw [HLV.out] at h1 ⊢
            exact own_set h1 hk0 _
          · rw [HTS.out, landAll_snoc, HCUR.out, List.length_take_of_le hi, Nat.zero_add]
            refine (HRB.out.fr hfo hnt5).set ⟨gb, cb, cs, rfl, ?_, ?_, htk.out, landW_len _ _ _⟩ x.1
            · have h1 := (HOW.out.lt gl (by rw [HLV.out]; rfl)).1
              have h2 := (HOW.out.lt gl (by rw [HLV.out]; rfl)).2
              have h3 := HGB.out
              omega
            · refine (HBK.out.far (p := ⟨gl, x.1, none⟩) (fun e => ?_) _).drew
              have h2 := (HOW.out.lt gl (by rw [HLV.out]; rfl)).2
              have h3 := HGB.out
              have e' : gb = gl := e
              omega
    · obtain rfl : i = S.waits.length := by omega
      have q1 := HDR.out.cell 1
      have q2 := HDR.out.cell 2
      have q3 := HDR.out.cell 3
      have f1 := HDR.out.frozen 1
      have f2 := HDR.out.frozen 2
      have f3 := HDR.out.frozen 3
      have q1' : wr.cell? ⟨q, 1, none⟩ = some (.slice Aw S.waits.length capw) := c1
      have q2' : wr.cell? ⟨q, 2, none⟩ = some (.int .i64 S.fuse) := q2
      have q3' : wr.cell? ⟨q, 3, none⟩ = some (.bool S.off) := q3
      clear q1 q2 q3
      go_wp2_with fail
      go_end0
      have hset : Fr (fun j => j = q) wr (((wr.setCell ⟨q, 1, none⟩ (.slice none 0 0)).setCell ⟨q, 2, none⟩ (.int .i64 0)).setCell ⟨q, 3, none⟩ (.bool false)) :=
        (((Fr.refl (fun j => j = q) wr).setCell (p := ⟨q, 1, none⟩) (fun _ => rfl) _).setCell (p := ⟨q, 2, none⟩) (fun _ => rfl) _).setCell (p := ⟨q, 3, none⟩) (fun _ => rfl) _
      have hrb := HRB.out
      rw [List.take_length] at hrb
      have hntq : ∀ j t cs, Blk wr j t cs → t ≠ 50 → ¬ j = q := fun j t cs hj h1 e => by
        subst e
        exact h1 (hj.inj HDR.out).1
      refine ⟨ls', rfl, ⟨DS.start_ok H.out.ok M, H.out.b1, ?_, ?_, ?_, World.ownsRow_nil _ _ _ _, ⟨rfl, fun j hj => absurd hj (by simp)⟩⟩, ?_⟩
      · simpa [DS.start] using ((HDR.out.set_ 1 (.slice none 0 0)).set_ 2 (.int .i64 0)).set_ 3 (.bool false)
      · simp only [DS.start, landAll_len]
        exact own_fr HOW.out hset (fun j hj => by obtain ⟨cs, hb, _⟩ := own_blk HOW.out hj; exact hntq j _ cs hb (by decide))
      · exact hrb.fr hset (fun j cs hb => hntq j _ cs hb (by decide))
      · exact (HFR.out.mono fun j _ e => .inr (.inl e)).trans hset (fun j _ e => .inl e)

end Go.Proofs.Ytohadeijmmmcdaa
