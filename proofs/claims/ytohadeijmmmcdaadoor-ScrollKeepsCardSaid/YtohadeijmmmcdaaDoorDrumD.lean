/-
  The drum's Start.
-/
import Derived.Test.YtohadeijmmmcdaaDoorDrumC
namespace Go.Proofs.YtohadeijmmmcdaaDoor
open Go.RowKit
set_option maxRecDepth 100000
attribute [local go_sem ↓] ld62 ld60 st62 st60 al62 al60

/-- The slice at A holds these bytes. -/
structure Byt (w : World) (A : Option Addr) (l : List Int) : Prop where
  cell : 0 < l.length → ∃ g off, A = some ⟨g, off, none⟩ ∧ g < w.heap.size ∧ ∀ j x, l[j]? = some x → w.cell? ⟨g, off + j, none⟩ = some (.int .u8 x)
  bd : ∀ x ∈ l, 0 ≤ x ∧ x ≤ 255
theorem Byt.fr {w w' : World} {A : Option Addr} {l : List Int} {F : Nat → Prop} (h : Byt w A l) (hf : Fr F w w') (hn : ∀ a, A = some a → 0 < l.length → ¬ F a.block) : Byt w' A l :=
  ⟨fun h0 => by
    obtain ⟨g, off, rfl, hg, hc⟩ := h.cell h0
    exact ⟨g, off, rfl, Nat.lt_of_lt_of_le hg hf.size, fun j x hx => (hf.cell (p := ⟨g, off + j, none⟩) hg (hn ⟨g, off, none⟩ rfl h0)).trans (hc j x hx)⟩, h.bd⟩
theorem Byt.at_ {w : World} {A : Option Addr} {l : List Int} (h : Byt w A l) {i : Nat} (hi : i < l.length) : ∃ g off, A = some ⟨g, off, none⟩ ∧ g < w.heap.size ∧ w.cell? ⟨g, off + i, none⟩ = some (.int .u8 l[i]) := by
  obtain ⟨g, off, e, hg, hc⟩ := h.cell (by omega)
  exact ⟨g, off, e, hg, hc i _ (List.getElem?_eq_getElem hi)⟩

theorem maskAt_le {M : List Int} (hM : ∀ x ∈ M, 0 ≤ x ∧ x ≤ 255) (i : Nat) : maskAt M i ≤ 255 := by
  unfold maskAt
  split
  · rename_i h
    have := hM (M.getD i 0) (by simp [List.getD, h])
    omega
  · omega

set_option maxHeartbeats 1000000 in
theorem start_any (B : Nat) (p gs : Nat) (wv : Value) (S : DS) (A : Option Addr) (c : Nat) (M : List Int) (w : World) (h : IsDrum B w p gs wv S) (hM : Byt w A M) (hA : ∀ a, A = some a → 0 < M.length → ¬ DF p gs wv a.block) (hlen : S.waits.length ≤ 1000000000) (hml : M.length ≤ maxLen) :
    Calls Tryd.prog 31 #[.pointer (some ⟨p, 0, none⟩), .slice A M.length c] w fun e w' => e = .returned (.tuple #[]) ∧ IsDrum B w' p gs (.slice none 0 0) (S.start M) ∧ Fr (DF p gs wv) w w' := by
  obtain ⟨A', cap, hwv⟩ := own_form h.waits
  have H := Lib.hid h
  have HM := Lib.hid hM
  have HA := Lib.hid hA
  have c1 : w.cell? ⟨p, 1, none⟩ = some (.slice A' S.waits.length cap) := by rw [← hwv]; exact h.st.c1
  have HW := Lib.hid hwv
  unfold maxLen at hml
  clear h hM hA hwv
  go_enter Tryd.func31, Tryd.ntmps31
  go_wp2_with fail
  go_loopw [12] (fun t wr => ∃ i : Nat, i ≤ S.waits.length ∧ t = .int .i64 i ∧ Blk wr gs 119 (bys (landAll M 0 S.sure (S.waits.take i)).flatten).toArray ∧ Fr (fun k => k = gs) w wr)
    (fun t _ => S.waits.length - (intOf t).toNat)
  case atStart => exact ⟨0, Nat.zero_le _, rfl, H.out.sure, Fr.refl _ _⟩
  case round =>
    obtain ⟨i, hi, rfl, hb, hfr⟩ := hrel
    by_cases hlt : i < S.waits.length
    · have hml' := hml
      clear hml'
      obtain ⟨g, cap', hsl, hg, hld⟩ := load_wait H.out.waits (fun x hx => (H.out.ok.waits x hx).2.1) i hlt
      have hsl' := HW.out.symm.trans hsl
      simp only [Value.slice.injEq] at hsl'
      obtain ⟨rfl, -, rfl⟩ := hsl'
      have hgne : g ≠ gs := fun e => H.out.ne3 (by rw [HW.out, e]; rfl)
      have hld' := hld wr (hfr.block g hg hgne)
      have hxm := List.getElem_mem hlt
      have hk0 : S.waits[i].1 < S.sure.length := (H.out.ok.waits _ hxm).1
      have hx64 : S.waits[i].2.length = 64 := (H.out.ok.waits _ hxm).2.1
      obtain ⟨x, hx⟩ : ∃ x, S.waits[i] = x := ⟨_, rfl⟩
      have HX := Lib.hid hx
      rw [hx] at hld' hk0 hx64
      obtain ⟨d, hu, hd⟩ := Option.map_eq_some_iff.1 u62
      obtain ⟨z, hz1, hz2⟩ := Option.map_eq_some_iff.1 z62
      have hal := ALs_new (P := Tryd.prog) (t := 121) z hz1
      obtain ⟨Z, hZ⟩ : ∃ Z, z.cells = Z := ⟨_, rfl⟩
      rw [hZ] at hal hz2
      have hstz := fun W : World => STs_new (P := Tryd.prog) (t := 121) i62 W Z hz2 (wrow x) (wrow_len hx64) (wrow_one x)
      have hl62 : (LDs 121 (.pointer (some ⟨wr.heap.size, 0, none⟩))).run Tryd.prog (wr.alloc (.cells (wrow x).toArray 121)) = .ok (.agg (wrow x).toArray) (wr.alloc (.cells (wrow x).toArray 121)) :=
        LDs_blk hu hd i62 (Blk.new wr _ _) (wrow x) (wrow_len hx64) (by simp [wrow, bys_length, hx64, List.take_of_length_le])
      have hdr : DrumB (wr.alloc (.cells (wrow x).toArray 121)) p (.slice (some ⟨gs, 0, none⟩) S.sure.length S.sure.length) (.slice (some ⟨g, 0, none⟩) S.waits.length cap) S.fuse S.off := by
        rw [← HW.out]
        exact Blk.alloc (Blk.fr H.out.st hfr H.out.ne1) _
      have hland := land_any p gs S.sure.length _ _ _ (landAll M 0 S.sure (S.waits.take i)) x (maskAt M i) _ hdr (by rw [landAll_len]) (hb.alloc _)
        (fun s hs => (landAll_sec M _ _ _ H.out.ok.sure (fun x hx => H.out.ok.waits x (List.mem_of_mem_take hx)) s hs).1) (by rw [landAll_len]; exact hk0) hx64 (maskAt_le HM.out.bd i)
      have HLA := Lib.hid hland
      clear hland hdr hld hsl hz1 hz2 hZ hu hd hx hxm hgne
      by_cases him : i < M.length
      · obtain ⟨gm, om, rfl, hgm, hcm⟩ := HM.out.at_ him
        have hcm' : (wr.alloc (.cells (wrow x).toArray 121)).cell? ⟨gm, om + i, none⟩ = some (.int .u8 M[i]) := by
          rw [World.cell?_alloc_lt _ _ _ (Nat.lt_of_lt_of_le hgm hfr.size)]
          exact (hfr.cell (p := ⟨gm, om + i, none⟩) hgm (fun e => HA.out _ rfl (by omega) (.inr (.inl e)))).trans hcm
        have hmi : (maskAt M i : Int) = M[i] := by
          have := HM.out.bd _ (List.getElem_mem him)
          simp [maskAt, him, List.getD]
          omega
        have HLB := HLA.out
        rw [hmi] at HLB
        obtain ⟨mi, hmi2⟩ : ∃ mi, M[i] = mi := ⟨_, rfl⟩
        rw [hmi2] at HLB hcm'
        have HLC := Lib.hid HLB
        have hdec : decide (i < M.length) = true := by simpa using him
        clear hmi HLB hcm hmi2
        go_wp2_with fail
        refine HLC.out.mono ?_
        rintro e w2 ⟨rfl, hb2, hf2⟩
        go_wp2_with fail
        refine ⟨⟨i + 1, by omega, by go_num, ?_, (hfr.alloc _).trans hf2 (fun _ _ e => e)⟩, by simp [intOf]; omega⟩
        rw [List.take_succ_eq_append_getElem hlt, landAll_snoc, HX.out, List.length_take_of_le hi, Nat.zero_add]
        exact hb2
      · have hmi : (maskAt M i : Int) = 255 := by simp [maskAt, him]
        have HLB := HLA.out
        rw [hmi] at HLB
        have HLC := Lib.hid HLB
        have hdec : decide (i < M.length) = false := by simpa using him
        clear hmi HLB him
        go_wp2_with fail
        refine HLC.out.mono ?_
        rintro e w2 ⟨rfl, hb2, hf2⟩
        go_wp2_with fail
        refine ⟨⟨i + 1, by omega, by go_num, ?_, (hfr.alloc _).trans hf2 (fun _ _ e => e)⟩, by simp [intOf]; omega⟩
        rw [List.take_succ_eq_append_getElem hlt, landAll_snoc, HX.out, List.length_take_of_le hi, Nat.zero_add]
        exact hb2
    · obtain rfl : i = S.waits.length := by omega
      have hdr : DrumB wr p (.slice (some ⟨gs, 0, none⟩) S.sure.length S.sure.length) wv S.fuse S.off := Blk.fr H.out.st hfr H.out.ne1
      have f1' := Blk.frozen hdr 1
      have f2' := Blk.frozen hdr 2
      have f3' := Blk.frozen hdr 3
      have c1' := hdr.c1
      have c2' := hdr.c2
      have c3' := hdr.c3
      have HDR := Lib.hid hdr
      rw [List.take_length] at hb
      have HB := Lib.hid hb
      have HFR := Lib.hid hfr
      clear hdr hb hfr
      go_wp2_with fail
      go_end0
      refine ⟨rfl, ⟨DS.start_ok H.out.ok M, H.out.b1, H.out.b2, ?_, ?_, ?_⟩, ?_⟩
      · simp only [DS.start, landAll_len]
        have := Blk.set_ (Blk.set_ (Blk.set_ HDR.out 1 (.slice none 0 0)) 2 (.int .i64 0)) 3 (.bool false)
        simpa [DrumB] using this
      · exact ((HB.out.far (p := ⟨p, 1, none⟩) (fun e => H.out.ne1 e.symm) _).far (p := ⟨p, 2, none⟩) (fun e => H.out.ne1 e.symm) _).far (p := ⟨p, 3, none⟩) (fun e => H.out.ne1 e.symm) _
      · exact World.ownsRow_nil _ _ _ _
      · exact (((HFR.out.mono fun k _ e => .inr (.inl e)).setCell (p := ⟨p, 1, none⟩) (fun _ => .inl rfl) _).setCell (p := ⟨p, 2, none⟩) (fun _ => .inl rfl) _).setCell (p := ⟨p, 3, none⟩) (fun _ => .inl rfl) _

end Go.Proofs.YtohadeijmmmcdaaDoor
