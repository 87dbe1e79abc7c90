/-
  Settle.All at too many or too few; parts of a row of certificates; one is exchanged.
-/
import Derived.Test.YtmflhidmhefljaaGreatDoorJSetR

namespace Go.Proofs.YtmflhidmhefljaaGreatDoor
open Go.RowKit Go.Shelf
set_option maxRecDepth 100000

theorem BSs_zero {P : Program} {t e : TypeId} {size : Nat} (hu : P.underlying t = some (.slice e)) (hi : (P.info? e).map (fun i => (i.zero.map (·.cells.size), i.size)) = some (some size, size)) (w : World) :
    (BSs t 0 #[]).run P w = .ok (.slice (some ⟨w.heap.size, 0, none⟩) 0 0) (w.alloc (.cells #[] e)) := by
  obtain ⟨i, hq, hh⟩ := Option.map_eq_some_iff.1 hi
  have hr : Array.range 0 = #[] := by apply Array.ext'; simp
  simp [BSs, Instr.buildSlice, run_underlying hu, sizeOf, typeInfo, hq, Instr.fill, newRow, hr]
theorem addr_add (g o k : Nat) : (⟨g, o, none⟩ : Addr).add k = ⟨g, o + k, none⟩ := by unfold Addr.add; split <;> simp_all
theorem SLs_hi {P : Program} {t e : TypeId} {n : Nat} (hu : P.underlying t = some (.slice e)) (hs : (P.info? e).map (·.size) = some n) (w : World) (g o N c i : Nat) (hi : i ≤ c) :
    (SLs t (.slice (some ⟨g, o, none⟩) N c) none (some (.int .i64 (i : Int))) none).run P w = .ok (.slice (some ⟨g, o, none⟩) i c) w := by
  obtain ⟨q, hq, hh⟩ := Option.map_eq_some_iff.1 hs
  have e1 : ¬ ((i : Int) < 0 ∨ (c : Int) < (i : Int)) := by omega
  simp [SLs, Instr.sliceAt, Instr.slice, Instr.sliceBounds, Instr.sliceBound, asIntOf, run_underlying hu, sizeOf, typeInfo, hq, addr_add, hi]
theorem SLs_lo {P : Program} {t e : TypeId} {n : Nat} (hu : P.underlying t = some (.slice e)) (hs : (P.info? e).map (·.size) = some n) (w : World) (g o N c i : Nat) (hi : i ≤ N) :
    (SLs t (.slice (some ⟨g, o, none⟩) N c) (some (.int .i64 (i : Int))) none none).run P w = .ok (.slice (if c = i then some ⟨g, o, none⟩ else some ⟨g, o + i * n, none⟩) (N - i) (c - i)) w := by
  obtain ⟨q, hq, hh⟩ := Option.map_eq_some_iff.1 hs
  simp [SLs, Instr.sliceAt, Instr.slice, Instr.sliceBounds, Instr.sliceBound, asIntOf, run_underlying hu, sizeOf, typeInfo, hq, hh, addr_add, hi]
theorem OwnR.empty {e : TypeId} {m B g : Nat} {w : World} (hb : Blk w g e #[]) (hB : B ≤ g) : OwnR e m B w (.slice (some ⟨g, 0, none⟩) 0 0) [] :=
  ⟨⟨by simp, .inr ⟨g, 0, #[], rfl, hB, hb, Nat.le_refl _, by simp, by simp, by simp⟩⟩, by simp⟩
theorem CertRow.move {w w' : World} {v v' : Value} {R : List (List Value)} {L : List CertD} (h : CertRow w v R L) (hb : Below w.heap.size w w') (hk : ∀ k, v'.ownBlock = some k → w.heap.size ≤ k) : CertRow w' v' R L := ⟨h.len, fun j hj => by
  obtain ⟨B, cap, h1, h2, h3, h4, h5, h6⟩ := h.at_ j hj
  exact ⟨B, cap, h1, h2.below hb, h3, h4, h5, fun a ha => ⟨fun e => by have := hk _ e; have := (h6 a ha).2; omega, Nat.lt_of_lt_of_le (h6 a ha).2 hb.size⟩⟩⟩
theorem splice_at (cs : Array Value) (off : Nat) (xs : List Value) (h : off + xs.length ≤ cs.size) (k : Nat) (hk : k < xs.length) : (splice cs off xs)[off + k]? = xs[k]? := by
  have hl : off ≤ cs.toList.length := by simp; omega
  rw [← Array.getElem?_toList]
  simp only [splice]
  rw [List.append_assoc, List.getElem?_append_right (by simp; omega), List.getElem?_append_left (by simp; omega)]
  congr 1
  simp
  omega
theorem splice_off (cs : Array Value) (off : Nat) (xs : List Value) (h : off + xs.length ≤ cs.size) (k : Nat) (hk : k < off ∨ off + xs.length ≤ k) : (splice cs off xs)[k]? = cs[k]? := by
  have hl : off ≤ cs.toList.length := by simp; omega
  rw [← Array.getElem?_toList, ← Array.getElem?_toList]
  simp only [splice]
  rcases hk with hk | hk
  · rw [List.append_assoc, List.getElem?_append_left (by simp; omega), List.getElem?_take, if_pos hk]
  · rw [List.append_assoc, List.getElem?_append_right (by simp; omega), List.getElem?_append_right (by simp; omega), List.getElem?_drop]
    congr 1
    simp
    omega
/-- One of a row of one's own is exchanged. -/
theorem certs_set {w : World} {g N c B0 i : Nat} {R : List (List Value)} {L : List CertD} (h : CertRow w (.slice (some ⟨g, 0, none⟩) N c) R L) (hO : OwnR 48 137 B0 w (.slice (some ⟨g, 0, none⟩) N c) R) (hi : i < L.length) {mc : CertD} {B : Option Addr} {cap : Nat} (hP : RdR 32 w B (mc.path.map bys)) (hcap : mc.path.length ≤ cap) (hn : B = none → cap = 0) (hbd : mc.Bd) (hfar : ∀ a, B = some a → a.block ≠ g) :
    ∃ w', (STs 48 (.pointer (some ⟨g, i * 137, none⟩)) (.agg (certV mc B cap).toArray)).run Tryz.prog w = .ok () w' ∧ CertsAt w' (some ⟨g, 0, none⟩) (L.set i mc) ∧ Fr (fun k => k = g) w w' := by
  obtain ⟨A', c', e', hrd, hcc, _, _⟩ := OwnR.rd hO
  cases e'
  obtain ⟨hfl, ⟨e0, _⟩ | ⟨g', cp, cur, e', hg', hh, hle, hmx, hsz, htk⟩⟩ := hO.own
  · cases e0
  cases e'
  have hb : Blk w g 48 cur := hh
  have hlen := h.len
  have hcl := certV_len hbd B cap
  have hroom : i * 137 + 137 ≤ cur.size := by
    rw [hsz]
    have : (i + 1) * 137 ≤ c * 137 := Nat.mul_le_mul_right _ (by omega)
    omega
  have hst := STs_blk (P := Tryz.prog) iCert hb (off := i * 137) (certV mc B cap) hcl hroom (certV_one _ _ _)
  have hf := (Fr.refl (fun k => k = g) w).setRow (g := g) (fun _ => rfl) (splice cur (i * 137) (certV mc B cap))
  have hb2 := hb.row_ (splice cur (i * 137) (certV mc B cap))
  refine ⟨_, hst, fun j hj => ?_, hf⟩
  have hjL : j < L.length := by simpa using hj
  by_cases hji : j = i
  · subst hji
    rw [List.getElem_set_self]
    refine ⟨g, 0, B, cap, rfl, hb2.lt, ⟨fun k x hx => ?_, hP.fr hf (fun a ha e => hfar a ha e), hcap, hn, hbd⟩⟩
    have hk : k < (certV mc B cap).length := (List.getElem?_eq_some_iff.1 hx).1
    rw [Nat.zero_add, hb2.cell, splice_at _ _ _ (by omega) _ hk]
    exact hx
  · rw [List.getElem_set_ne (Ne.symm hji)]
    obtain ⟨B', cap', h1, h2, h3, h4, h5, h6⟩ := h.at_ j hjL
    obtain ⟨hjR, h1e⟩ := List.getElem?_eq_some_iff.1 h1
    obtain ⟨g2, o2, e2, hg2, hc2⟩ := hrd j hjR
    cases e2
    refine ⟨g, 0, B', cap', rfl, hb2.lt, ⟨fun k x hx => ?_, h2.fr hf (fun a ha e => (h6 a ha).1 (by rw [e]; rfl)), h3, h4, h5⟩⟩
    have hk : k < 137 := by have := (List.getElem?_eq_some_iff.1 hx).1; rw [certV_len h5] at this; exact this
    have hx2 := hc2 k x (by rw [h1e]; exact hx)
    rw [hb.cell] at hx2
    rw [hb2.cell, splice_off _ _ _ (by omega) _ ?_]
    · exact hx2
    · rw [hcl]
      rcases Nat.lt_or_gt_of_ne hji with h | h
      · left
        have : (j + 1) * 137 ≤ i * 137 := Nat.mul_le_mul_right _ h
        omega
      · right
        have : (i + 1) * 137 ≤ j * 137 := Nat.mul_le_mul_right _ h
        omega

attribute [local go_sem ↓] ldTx_of
set_option maxHeartbeats 4000000 in
theorem setall_few (p : Nat) (A1 : Option Addr) (c1 : Nat) (A2 : Option Addr) (c2 : Nat) (t : TxD) (k : Nat) (h1k : 1 ≤ k) (hk : k ≤ 64) (hc : checkP t = 0) (A : Option Addr) (N c : Nat) (hN : N ≠ (eachP (insP t k)).length) (w : World) (h : TxAt w A1 A2 t) (hgl : Glob w) (hl : t.ins.length ≤ 1000000) (hl2 : t.outs.length ≤ 1000000) :
    Calls Tryz.prog 10 #[.pointer (some ⟨p, 0, none⟩), .agg (txV A1 c1 A2 c2 t), .int .i64 (k : Int), .slice A N c] w fun e w' => e = .returned (.int .i64 27) ∧ Below w.heap.size w w' := by
  have b0 := Blk.new w 27 (txV A1 c1 A2 c2 t)
  have B0 : Below w.heap.size w (w.alloc (.cells (txV A1 c1 A2 c2 t) 27)) := (Below.refl _ w).alloc (Nat.le_refl _) _
  obtain ⟨W, hW⟩ : ∃ W, w.alloc (.cells (txV A1 c1 A2 c2 t) 27) = W := ⟨_, rfl⟩
  rw [hW] at b0 B0
  obtain ⟨g, hg⟩ : ∃ g, w.heap.size = g := ⟨_, rfl⟩
  rw [hg] at b0
  have hld := fun X (hX : Below W.heap.size W X) => LDs_all (P := Tryz.prog) uTx iTx (w := X) (txV A1 c1 A2 c2 t).toList (by simpa using b0.fr (Fr.of_below hX) (by have := b0.lt; omega)) rfl
  have hld0 := hld W (Below.refl _ _)
  have hins := mins_any A1 c1 A2 c2 t (k : Int) (by omega) W (h.below B0) (hgl.below B0) hl hl2
  have hck := fun X (hX : Below W.heap.size W X) many => setcheck_any (some ⟨p, 0, none⟩) A1 c1 A2 c2 t (k : Int) many A N c X ((h.below B0).below hX) hl hl2
  obtain ⟨S, hS⟩ : ∃ S, eachP (insP t k) = S := ⟨_, rfl⟩
  rw [hS] at hins hN
  obtain ⟨M, hM⟩ : ∃ M, S.length = M := ⟨_, rfl⟩
  rw [hM] at hN
  have hcr : checkR false (k : Int) t N (M : Int) = 27 := by
    unfold checkR
    rw [if_neg (by simp; omega), if_neg (by omega), if_pos (by omega)]
  obtain ⟨xs, hxs⟩ : ∃ xs, txV A1 c1 A2 c2 t = xs := ⟨_, rfl⟩
  simp only [hxs] at hld hld0 hins hck
  rw [hxs] at hW ⊢
  have HW := Lib.hid hW
  have HG := Lib.hid hg
  have HB := Lib.hid B0
  have HLD := Lib.hid hld
  have HCK := Lib.hid hck
  have HCR := Lib.hid hcr
  have HM := Lib.hid hM
  clear hW hg B0 hld hck hcr hM hS hxs h hgl b0 hN hc
  go_enter Tryz.func10, Tryz.ntmps10
  go_upto_region 1 with fail
  rw [HW.out, HG.out]
  go_wp2_with fail
  with_reducible refine hins.mono ?_
  rintro e w1 ⟨As, cs, rfl, hrd, hB1⟩
  rw [HM.out]
  have hld1 := HLD.out w1 hB1
  have hck := HCK.out w1 hB1 (M : Int)
  rw [show (some (⟨p, 0, none⟩ : Addr)).isNone = false from rfl, HCR.out] at hck
  have HB1 := Lib.hid hB1
  clear hB1 hins hld0 hrd
  go_wp2_with fail
  with_reducible refine hck.mono ?_
  rintro e w2 ⟨rfl, hB2⟩
  have HB2 := Lib.hid hB2
  clear hB2 hck hld1
  go_wp2_with fail
  go_ret
  exact ⟨rfl, HB.out.trans ((HB1.out.trans (HB2.out.mono HB1.out.size)).mono HB.out.size)⟩
end Go.Proofs.YtmflhidmhefljaaGreatDoor
