/-
  The document's drum: Sync.
-/
import Derived.Test.YtohadeijmmmcdaaRefC
namespace Go.Proofs.Ytohadeijmmmcdaa
open Go.RowKit

/-- A cell of an owned row. -/
theorem own_cell {base : Nat} {w : World} {e : TypeId} {size n : Nat} {v : Value} {xs : List Value} (h : w.ownsRow base e size v n xs) {j : Nat} {u : Value} (hu : xs[j]? = some u) :
    ∃ g cap, v = .slice (some ⟨g, 0, none⟩) n cap ∧ base ≤ g ∧ (∃ cs, Blk w g e cs) ∧ ∀ W : World, W.heap[g]? = w.heap[g]? → W.cell? ⟨g, j, none⟩ = some u ∧ W.frozen? ⟨g, j, none⟩ = false := by
  rcases h.2 with ⟨_, h0⟩ | ⟨g, cap, cur, rfl, hb, hh, hn, hm, hsz, ht⟩
  · have h1 := h.1
    rw [h0, Nat.zero_mul] at h1
    have := List.eq_nil_of_length_eq_zero h1
    rw [this] at hu
    simp at hu
  · refine ⟨g, cap, rfl, hb, ⟨cur, hh⟩, fun W hW => ?_⟩
    have hb' : Blk W g e cur := hW.trans hh
    refine ⟨?_, hb'.frozen j⟩
    rw [hb'.cell]
    rw [← ht, List.getElem?_take] at hu
    split at hu
    · simpa using hu
    · cases hu
theorem own_set {base : Nat} {w : World} {e : TypeId} {n g cap : Nat} {xs : List Value} (h : w.ownsRow base e 1 (.slice (some ⟨g, 0, none⟩) n cap) n xs) {i : Nat} (hi : i < n) (u : Value) : (w.setCell ⟨g, i, none⟩ u).ownsRow base e 1 (.slice (some ⟨g, 0, none⟩) n cap) n (xs.set i u) := by
  refine ⟨by simpa using h.1, ?_⟩
  rcases h.2 with ⟨h0, _⟩ | ⟨g', cap', cur, hv, hb, hh, hn, hm, hsz, ht⟩
  · cases h0
  · simp only [Value.slice.injEq, Option.some.injEq, Addr.mk.injEq, and_true, true_and] at hv
    obtain ⟨rfl, rfl⟩ := hv
    refine .inr ⟨g, cap, cur.setIfInBounds i u, rfl, hb, heap_setCell_same w g i cur e u hh, hn, hm, by simpa using hsz, ?_⟩
    rw [Nat.mul_one] at ht ⊢
    rw [Array.toList_setIfInBounds, List.take_set, ht]
theorem RBs.set {B : Nat} {w : World} {ls : List Value} {L : List (List Int)} {v : Value} {s : List Int} (h : RBs B w ls L) (hv : RB B w v s) (i : Nat) : RBs B w (ls.set i v) (L.set i s) := by
  refine ⟨by simpa using h.1, fun j h1 h2 => ?_⟩
  simp only [List.length_set] at h1 h2
  by_cases hij : i = j
  · subst hij
    rw [List.getElem_set_self, List.getElem_set_self]
    exact hv
  · rw [List.getElem_set_ne hij, List.getElem_set_ne hij]
    exact h.2 j h1 h2
/-- The cells of a write that waits. -/
theorem rrow_cells {ws : List (Nat × Value)} {i : Nat} (hi : i < ws.length) : ((ws.map rrow).flatten)[i * 2]? = some (.int .i64 (ws[i].1 : Int)) ∧ ((ws.map rrow).flatten)[i * 2 + 1]? = some ws[i].2 := by
  have hf := flat_drop_take 2 (ws.map rrow) (fun s hs => by obtain ⟨x, _, rfl⟩ := List.mem_map.1 hs; rfl) i (by simpa using hi)
  rw [List.getElem_map] at hf
  have h0 : ((((ws.map rrow).flatten).drop (i * 2)).take 2)[0]? = (rrow ws[i])[0]? := by rw [hf]
  have h1 : ((((ws.map rrow).flatten).drop (i * 2)).take 2)[1]? = (rrow ws[i])[1]? := by rw [hf]
  simp only [List.getElem?_take, List.getElem?_drop] at h0 h1
  simp only [rrow] at h0 h1
  exact ⟨by simpa using h0, by simpa using h1⟩

set_option maxRecDepth 100000 in
set_option maxHeartbeats 4000000 in
theorem rsync_ok (B : Nat) (q : Nat) (lv wv : Value) (ls : List Value) (ws : List (Nat × Value)) (S : DS) (w : World) (h : IsRef B w q lv wv ls ws S) (hoff : S.off = false) (hf : S.fuse ≠ 1) (hlen : S.waits.length ≤ 1000000) :
    Calls Try.prog 21 #[.pointer (some ⟨q, 0, none⟩)] w fun e w' => ∃ ls', (e = .returned (.int .i64 0) ∧ IsRef B w' q lv (.slice none 0 0) ls' [] S.sync.2 ∧ Fr (RF q lv wv) w w') := by
  obtain ⟨Aw, capw, hwv⟩ := own_form h.w_
  have hlv : ∃ gl capl, lv = .slice (some ⟨gl, 0, none⟩) S.sure.length capl := by
    rcases h.l.2 with ⟨_, h0⟩ | ⟨g, cap, cur, rfl, _⟩
    · have := h.ok.n1; omega
    · exact ⟨g, cap, rfl⟩
  obtain ⟨gl, capl, hlv⟩ := hlv
  have H := Lib.hid h
  have hst := h.st
  rw [hoff] at hst
  have HFG := Lib.hid (fails_go q lv wv S.fuse w hst hf h.ok.f0 h.ok.f1)
  have c3 : w.cell? ⟨q, 3, none⟩ = some (.bool false) := hst.cell 3
  have HLV := Lib.hid hlv
  have HWV := Lib.hid hwv
  have HO := Lib.hid hoff
  have HF1 := Lib.hid hf
  clear h hoff hf hst hlv hwv
  go_enter Try.func21, Try.ntmps21
  go_wp2_with fail
  refine HFG.out.mono ?_
  rintro e w1 ⟨rfl, hd1, hf1⟩
  have hI1 : IsRef B w1 q lv wv ls ws { S with fuse := dec S.fuse } := H.out.turn hf1 ⟨H.out.ok.n1, H.out.ok.n2, H.out.ok.sure, H.out.ok.waits, (dec_bd H.out.ok.f0 H.out.ok.f1).1, (dec_bd H.out.ok.f0 H.out.ok.f1).2⟩ rfl rfl (by rw [HO.out]; exact hd1)
  have HI1 := Lib.hid hI1
  have HFR1 := Lib.hid hf1
  have HD1 := Lib.hid hd1
  clear HFG c3 hd1 hf1 hI1
  go_wp2_with fail
  go_loopw [3] (fun t wr => ∃ (i : Nat) (ls' : List Value), i ≤ S.waits.length ∧ t = .int .i64 i ∧ wr.ownsRow B 26 1 lv S.sure.length ls' ∧ RBs B wr ls' (applyAll S.sure (S.waits.take i)) ∧ Fr (fun j => lv.ownBlock = some j) w1 wr)
    (fun t _ => S.waits.length - (intOf t).toNat)
  case atStart => exact ⟨0, ls, Nat.zero_le _, rfl, HI1.out.l, HI1.out.ll, Fr.refl _ _⟩
  case round =>
    obtain ⟨i, ls', hi, rfl, hown, hrb, hfr⟩ := hrel
    have hnt : ∀ j t cs, Blk w1 j t cs → t ≠ 26 → ¬ lv.ownBlock = some j := fun j t cs hj h1 e => own_ne HI1.out.l hj h1.symm e
    have hdr : Blk wr q 50 #[lv, wv, .int .i64 (dec S.fuse), .bool false] := HD1.out.fr hfr (hnt _ _ _ HD1.out (by decide))
    have hww : RWs B wr ws S.waits := HI1.out.ww.fr hfr (fun j cs hb => hnt j _ cs hb (by decide))
    have hwown : wr.ownsRow B 66 2 wv S.waits.length (ws.map rrow).flatten := own_fr HI1.out.w_ hfr (fun j hj => by obtain ⟨cs, hb, _⟩ := own_blk HI1.out.w_ hj; exact hnt j _ cs hb (by decide))
    have c1 : wr.cell? ⟨q, 1, none⟩ = some (.slice Aw S.waits.length capw) := by rw [← HWV.out]; exact hdr.cell 1
    have HDR := Lib.hid hdr
    have HOW := Lib.hid hown
    have HRB := Lib.hid hrb
    have HFR := Lib.hid hfr
    have HWW := Lib.hid hww
    have HWO := Lib.hid hwown
    clear hown hrb hfr hnt hdr hww hwown
    by_cases hlt : i < S.waits.length
    · have hlw : i < ws.length := by rw [HWW.out.1]; exact hlt
      obtain ⟨e1, e2⟩ := rrow_cells hlw
      obtain ⟨g1, cp1, hv1, _, _, hc1⟩ := own_cell HWO.out e1
      obtain ⟨g2, cp2, hv2, _, _, hc2⟩ := own_cell HWO.out e2
      rw [HWV.out] at hv1 hv2
      simp only [Value.slice.injEq] at hv1 hv2
      obtain ⟨rfl, -, rfl⟩ := hv1
      obtain ⟨h12, -, -⟩ := hv2
      simp only [Option.some.injEq, Addr.mk.injEq, and_true] at h12
      subst h12
      obtain ⟨hk, hrbx⟩ := HWW.out.2 i hlw hlt
      obtain ⟨gb, cb, cs, hbv, hbB, hbblk, hbt, hb64⟩ := hrbx
      have d1 : wr.drew.cell? ⟨g1, i * 2, none⟩ = some (.int .i64 (S.waits[i].1 : Int)) := by rw [← hk]; exact (hc1 wr.drew rfl).1
      have d2 : wr.drew.cell? ⟨g1, i * 2 + 1, none⟩ = some (.slice (some ⟨gb, 0, none⟩) 64 cb) := by rw [← hbv]; exact (hc2 wr.drew rfl).1
      have hk0 : S.waits[i].1 < S.sure.length := (H.out.ok.waits _ (List.getElem_mem hlt)).1
      have hlsl : ls'.length = S.sure.length := by have := HOW.out.1; omega
      obtain ⟨u3, hu3⟩ : ∃ u, ls'[S.waits[i].1]? = some u := ⟨_, List.getElem?_eq_getElem (by rw [hlsl]; exact hk0)⟩
      obtain ⟨g3, cp3, hv3, hgB, ⟨cs3, hb3⟩, hc3⟩ := own_cell HOW.out hu3
      have hv3' := HLV.out.symm.trans hv3
      simp only [Value.slice.injEq, Option.some.injEq, Addr.mk.injEq, and_true, true_and] at hv3'
      obtain ⟨rfl, rfl⟩ := hv3'
      obtain ⟨x, hx⟩ : ∃ x, S.waits[i] = x := ⟨_, rfl⟩
      have HX := Lib.hid hx
      rw [hx] at d1 hk0 hc3
      have d3 := (hc3 wr.drew rfl).1
      have d4 := (hc3 wr.drew rfl).2
      have c0' : wr.drew.cell? ⟨q, 0, none⟩ = some (.slice (some ⟨gl, 0, none⟩) S.sure.length capl) := by rw [← HLV.out]; exact HDR.out.cell 0
      have c1' : wr.drew.cell? ⟨q, 1, none⟩ = some (.slice (some ⟨g1, 0, none⟩) S.waits.length capw) := c1
      have hk1 : (x.1 : Int) < (S.sure.length : Int) := by omega
      have HRBX := Lib.hid (show RB B wr (.slice (some ⟨gb, 0, none⟩) 64 cb) S.waits[i].2 from ⟨gb, cb, cs, rfl, hbB, hbblk, hbt, hb64⟩)
      have HB3 := Lib.hid hb3
      clear e1 e2 hc1 hc2 hk hu3 hbv hbB hbblk hbt hb64 hx hc3 hv3 hb3 hlsl
      go_wp2_with fail
      refine wp_still_tail 21 (by kernel_rfl) (by kernel_rfl) ?_
      simp only [List.take_succ_cons, List.take_zero, List.drop_succ_cons, List.drop_zero]
      repeat still_step
      refine wpStill_nil ?_
      go_wp2_with fail
      have hset : Fr (fun j => lv.ownBlock = some j) wr (wr.setCell ⟨gl, x.1, none⟩ (.slice (some ⟨gb, 0, none⟩) 64 cb)).drew := ((Fr.refl _ wr).setCell (p := ⟨gl, x.1, none⟩) (fun _ => by rw [HLV.out]; rfl) _).drew
      have hnt5 : ∀ j cs, Blk wr j 5 cs → ¬ lv.ownBlock = some j := fun j cs hj e => own_ne HOW.out hj (by decide) e
      refine ⟨⟨i + 1, ls'.set x.1 (.slice (some ⟨gb, 0, none⟩) 64 cb), by omega, by go_num, ?_, ?_, HFR.out.trans hset (fun _ _ e => e)⟩, by simp [intOf]; omega⟩
      · have h1 := HOW.out
        rw [HLV.out] at h1 ⊢
        exact own_set h1 hk0 _
      · rw [List.take_succ_eq_append_getElem hlt, applyAll_snoc]
        have h1 := (HRB.out.fr hset hnt5).set (HRBX.out.fr hset hnt5) x.1
        rw [HX.out] at h1 ⊢
        exact h1
    · obtain rfl : i = S.waits.length := by omega
      have f1 := HDR.out.frozen 1
      have hS : S.sync.2 = { S with fuse := dec S.fuse, sure := applyAll S.sure S.waits, waits := [] } := by
        unfold DS.sync
        rw [HO.out, if_neg (by decide), if_neg HF1.out]
      have HS := Lib.hid hS
      clear hS
      go_wp2_with fail
      go_ret
      have hset : Fr (fun j => j = q) wr (wr.setCell ⟨q, 1, none⟩ (.slice none 0 0)) := (Fr.refl (fun j => j = q) wr).setCell (p := ⟨q, 1, none⟩) (fun _ => rfl) _
      have hrb := HRB.out
      rw [List.take_length] at hrb
      have hntq : ∀ j t cs, Blk wr j t cs → t ≠ 50 → ¬ j = q := fun j t cs hj h1 e => by
        subst e
        exact h1 (hj.inj HDR.out).1
      refine ⟨ls', rfl, ⟨DS.sync_ok H.out.ok, H.out.b1, ?_, ?_, ?_, ?_, ?_⟩, ?_⟩
      · rw [HS.out, HO.out]
        simpa using HDR.out.set_ 1 (.slice none 0 0)
      · rw [HS.out]
        simp only [applyAll_len]
        exact own_fr HOW.out hset (fun j hj => by obtain ⟨cs, hb, _⟩ := own_blk HOW.out hj; exact hntq j _ cs hb (by decide))
      · rw [HS.out]
        exact hrb.fr hset (fun j cs hb => hntq j _ cs hb (by decide))
      · rw [HS.out]
        exact World.ownsRow_nil _ _ _ _
      · rw [HS.out]
        exact ⟨rfl, fun j hj => absurd hj (by simp)⟩
      · exact (((HFR1.out.mono fun j _ e => .inl e).trans HFR.out (fun j _ e => .inr (.inl e))).trans hset (fun j _ e => .inl e))

theorem rsync_down (q : Nat) (lv wv : Value) (fuse : Int) (w : World) (h : Blk w q 50 #[lv, wv, .int .i64 fuse, .bool true]) :
    Calls Try.prog 21 #[.pointer (some ⟨q, 0, none⟩)] w fun e w' => e = .returned (.int .i64 21) ∧ w = w' := by
  have c3 : w.cell? ⟨q, 3, none⟩ = some (.bool true) := h.cell 3
  clear h
  go_enter Try.func21, Try.ntmps21
  go_wp2_with fail
  go_ret
  exact ⟨rfl, rfl⟩

theorem rsync_crash (q : Nat) (lv wv : Value) (w : World) (h : Blk w q 50 #[lv, wv, .int .i64 1, .bool false]) :
    Calls Try.prog 21 #[.pointer (some ⟨q, 0, none⟩)] w fun e w' => e = .returned (.int .i64 20) ∧ Blk w' q 50 #[lv, wv, .int .i64 0, .bool true] ∧ Fr (fun k => k = q) w w' := by
  have c3 : w.cell? ⟨q, 3, none⟩ = some (.bool false) := h.cell 3
  have HB := Lib.hid (fails_one q _ wv w h)
  clear h
  go_enter Try.func21, Try.ntmps21
  go_wp2_with fail
  refine HB.out.mono ?_
  rintro e w1 ⟨rfl, hd, hf⟩
  go_wp2_with fail
  go_ret
  exact ⟨rfl, hd, hf⟩

/-- SYNC, the document's. -/
theorem rsync_any (B : Nat) (q : Nat) (lv wv : Value) (ls : List Value) (ws : List (Nat × Value)) (S : DS) (w : World) (h : IsRef B w q lv wv ls ws S) (hlen : S.waits.length ≤ 1000000) :
    Calls Try.prog 21 #[.pointer (some ⟨q, 0, none⟩)] w fun e w' =>
      e = .returned (.int .i64 S.sync.1) ∧ (∃ wv' ls' ws', IsRef B w' q lv wv' ls' ws' S.sync.2) ∧ Fr (RF q lv wv) w w' := by
  have hst := h.st
  by_cases hoff : S.off = true
  · have e1 : S.sync = (21, S) := by simp [DS.sync, hoff]
    rw [hoff] at hst
    refine (rsync_down q _ wv _ w hst).mono ?_
    rintro e w' ⟨rfl, rfl⟩
    rw [e1]
    exact ⟨rfl, ⟨wv, ls, ws, h⟩, Fr.refl _ _⟩
  have hoff : S.off = false := by simpa using hoff
  rw [hoff] at hst
  by_cases hf : S.fuse = 1
  · have e1 : S.sync = (20, { S with fuse := 0, off := true }) := by simp [DS.sync, hoff, hf]
    have hok := DS.sync_ok h.ok
    rw [hf] at hst
    refine (rsync_crash q _ wv w hst).mono ?_
    rintro e w' ⟨rfl, hd, hfr⟩
    rw [e1] at hok ⊢
    exact ⟨rfl, ⟨wv, ls, ws, h.turn hfr hok rfl rfl hd⟩, hfr.mono fun k _ e => .inl e⟩
  · have e1 : S.sync.1 = 0 := by simp [DS.sync, hoff, hf]
    rw [e1]
    refine (rsync_ok B q lv wv ls ws S w h hoff hf hlen).mono ?_
    rintro e w' ⟨ls', rfl, h1, h2⟩
    exact ⟨rfl, ⟨_, ls', _, h1⟩, h2⟩

end Go.Proofs.Ytohadeijmmmcdaa
