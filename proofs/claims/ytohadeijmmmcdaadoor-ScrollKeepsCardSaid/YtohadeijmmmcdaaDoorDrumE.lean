/-
  The drum's Write.
-/
import Derived.Test.YtohadeijmmmcdaaDoorDrumD
namespace Go.Proofs.YtohadeijmmmcdaaDoor
open Go.RowKit
set_option maxRecDepth 100000
attribute [local go_sem ↓] ld62 ld60 st62 st60 al62 al60 CPs_of APs_of BDs_of BSs_of

theorem su62 : ∃ f0 f1 : Field, Tryd.prog.underlying 121 = some (.struct #[f0, f1]) ∧ f0.type = 3 ∧ f1.type = 119 ∧ f0.offset = 0 ∧ f1.offset = 1 := ⟨_, _, Tryd.underlying121, rfl, rfl, rfl, rfl⟩
theorem i3 : (Tryd.prog.info? 3).map (·.size) = some 1 := by kernel_rfl
theorem iz62 : (Tryd.prog.info? 121).map (fun i => (i.zero.map (·.cells.size), i.size, i.bytes)) = some (some 65, 65, 72) := by kernel_rfl
theorem iz62' : (Tryd.prog.info? 121).map (fun i => (i.zero.map (·.cells.size), i.size)) = some (some 65, 65) := by kernel_rfl

theorem build_wait (k : Nat) (b : List Int) (hb : b.length = 64) (w : World) :
    (BDs 121 #[(0, .int .i64 (k : Int)), (1, .agg (bys b).toArray)]).run Tryd.prog w = .ok (.agg (wrow (k, b)).toArray) w := by
  obtain ⟨f0, f1, hu, t0, t1, o0, o1⟩ := su62
  have h := BDs_two (P := Tryd.prog) (t := 121) (m := 64) hu z62 (by rw [t0]; exact i3) (by rw [t1]; exact i60) o0 o1 w (.int .i64 (k : Int)) (.agg (bys b).toArray) rfl (by simp [Value.cells, bys_length, hb])
  rw [h]
  congr 2
  simp [Value.cells, wrow]

set_option maxHeartbeats 1000000 in
theorem write_ok (B : Nat) (p gs : Nat) (wv : Value) (S : DS) (k : Nat) (A : Option Addr) (c : Nat) (b : List Int) (w : World) (h : IsDrum B w p gs wv S) (hoff : S.off = false) (hf : S.fuse ≠ 1) (hk : k < S.sure.length) (hb64 : b.length = 64)
    (hb : Byt w A b) (hA : ∀ a, A = some a → a.block ≠ p) (hlen : S.waits.length ≤ 1000000000) (hB : B ≤ w.heap.size) :
    Calls Tryd.prog 23 #[.pointer (some ⟨p, 0, none⟩), .int .i64 (k : Int), .slice A 64 c] w fun e w' =>
      e = .returned (.int .i64 0) ∧ (∃ wv', IsDrum B w' p gs wv' (S.write k b).2 ∧ ∀ j, wv'.ownBlock = some j → wv.ownBlock = some j ∨ w.heap.size ≤ j) ∧ Fr (DF p gs wv) w w' := by
  obtain ⟨A', cap, hwv⟩ := own_form h.waits
  obtain ⟨g, off, rfl, hg, hc⟩ := hb.cell (by omega)
  have H := Lib.hid h
  have hst := h.st
  rw [hoff] at hst
  have HBG := Lib.hid (burns_go p _ wv S.fuse w hst hf h.ok.f0 h.ok.f1)
  have HIS := Lib.hid (is_yes p gs S.sure.length wv S.fuse false (k : Int) w hst (by omega) (by omega))
  have c3 : w.cell? ⟨p, 3, none⟩ = some (.bool false) := hst.c3
  have HW := Lib.hid hwv
  have HO := Lib.hid hoff
  have HF1 := Lib.hid hf
  have HC := Lib.hid hc
  have HBD := Lib.hid hb.bd
  have HB64 := Lib.hid hb64
  have HGP := Lib.hid (hA _ rfl)
  clear h hoff hf hst hwv hc hb hb64 hA
  go_enter Tryd.func23, Tryd.ntmps23
  go_wp2_with fail
  refine HIS.out.mono ?_
  rintro e w0 ⟨rfl, rfl⟩
  go_wp2_with fail
  refine HBG.out.mono ?_
  rintro e w1 ⟨rfl, hd1, hf1⟩
  clear HBG HIS c3
  have c1 : w1.drew.cell? ⟨p, 1, none⟩ = some (.slice A' S.waits.length cap) := by rw [← HW.out]; exact hd1.c1
  have hw1 : w1.ownsRow B 121 65 wv S.waits.length (S.waits.map wrow).flatten := own_fr H.out.waits hf1 (fun k hk e => H.out.ne2 (e ▸ hk))
  have hld : (LDs 119 (.pointer (some ⟨g, off, none⟩))).run Tryd.prog w1.drew = .ok (.agg (bys b).toArray) w1.drew := by
    refine LDs_part _ _ _ 64 u54 rfl i60 g off (bys b) (by rw [bys_length, HB64.out]) (fun j v hv => ?_)
    rw [bys_get] at hv
    obtain ⟨x, hx, rfl⟩ := Option.map_eq_some_iff.1 hv
    exact (hf1.cell (p := ⟨g, off + j, none⟩) hg HGP.out).trans (HC.out j x hx)
  have hbd := build_wait k b HB64.out w1.drew
  have haa := run_arrayAt (P := Tryd.prog) (t := 119) u54 (some ⟨g, off, none⟩) 64 c (Nat.le_refl _) w1.drew
  have hbs := BSs_one (P := Tryd.prog) (t := 106) Tryd.underlying106 iz62' (by omega) (by omega) w1.drew (.agg (wrow (k, b)).toArray) (by simp [Value.cells, wrow_len (x := (k, b)) HB64.out])
  simp only [Value.cells] at hbs
  have hbs' : (BSs 106 1 #[(0, .agg (wrow (k, b)).toArray)]).run Tryd.prog w1.drew = .ok (.slice (some ⟨w1.heap.size, 0, none⟩) 1 1) (w1.alloc (.cells (wrow (k, b)).toArray 121)).drew := hbs
  clear hbs
  have c1' : (w1.alloc (.cells (wrow (k, b)).toArray 121)).drew.cell? ⟨p, 1, none⟩ = some (.slice A' S.waits.length cap) := by
    rw [World.cell?_drew, World.cell?_alloc_lt _ _ _ (show p < _ from Blk.lt hd1)]
    exact c1
  have hap := APs_own (P := Tryd.prog) (t := 106) (ty := 106) Tryd.underlying106 iz62 (by omega) ((hw1.alloc (.cells (wrow (k, b)).toArray 121)).drew)
    (a := ⟨w1.heap.size, 0, none⟩) (m := 1) (c := 1) (wrow (k, b)) (by simp [wrow_len (x := (k, b)) HB64.out])
    (fun j u hu => by
      have hadd : (⟨w1.heap.size, 0, none⟩ : Addr).add j = ⟨w1.heap.size, j, none⟩ := by unfold Addr.add; split <;> simp_all
      rw [hadd]
      exact ((Blk.new w1 _ _).drew.cell j).trans (by simpa using hu))
    (wrow_one _) (by unfold maxLen; omega) (by omega) (by simp; exact Nat.le_trans hB (Nat.le_trans hf1.size (Nat.le_succ _)))
  obtain ⟨v', w', hrun, hown, hgr, hob⟩ := hap
  obtain ⟨A2, cap2, rfl⟩ := own_form hown
  rw [HW.out] at hrun
  have hd2 : DrumB w' p (.slice (some ⟨gs, 0, none⟩) S.sure.length S.sure.length) wv (dec S.fuse) false := Blk.grown ((Blk.alloc hd1 _).drew) hgr (fun e => H.out.ne2 e)
  have f2 := Blk.frozen hd2 1
  have cc2 := hd2.c1
  have HV := Lib.hid hown
  have HG := Lib.hid hgr
  have HOB := Lib.hid hob
  have HD2 := Lib.hid hd2
  have HFR := Lib.hid hf1
  clear hown hgr hob hd2 hd1 hw1 hf1
  go_wp2_with fail
  go_region
  all_goals
    go_wp2_with fail
    go_ret
    have hS : (S.write k b).2 = { S with fuse := dec S.fuse, waits := S.waits ++ [(k, b)] } := by
      unfold DS.write
      rw [HO.out, if_neg (by decide), if_neg (by omega), if_neg (by rw [HB64.out]; simp), if_neg HF1.out]
      rfl
    have hfr : Fr (DF p gs wv) w (w'.setCell ⟨p, 1, none⟩ (.slice A2 (S.waits.length + 1) cap2)) := by
      refine Fr.setCell ?_ (fun _ => .inl rfl) _
      exact Fr.grown (((HFR.out.mono fun k _ e => .inl e).alloc _).drew) HG.out (fun k _ e => .inr (.inr e))
    refine ⟨rfl, ⟨.slice A2 (S.waits.length + 1) cap2, ⟨DS.write_ok H.out.ok _ HBD.out, H.out.b1, H.out.b2, ?_, ?_, ?_⟩, ?_⟩, hfr⟩
    · rw [hS]
      rw [HO.out]
      simpa [DrumB] using Blk.set_ HD2.out 1 (.slice A2 (S.waits.length + 1) cap2)
    · rw [hS]
      refine Blk.far (p := ⟨p, 1, none⟩) ?_ (fun e => H.out.ne1 e.symm) _
      exact Blk.grown (((H.out.sure.fr HFR.out (fun e => H.out.ne1 e.symm)).alloc _).drew) HG.out (fun e => H.out.ne3 e)
    · rw [hS]
      simp only [List.map_append, List.map_cons, List.map_nil, List.flatten_append, List.flatten_cons, List.flatten_nil, List.append_nil, List.length_append, List.length_cons, List.length_nil, Nat.zero_add]
      exact own_fr (F := fun j => j = p) HV.out ((Fr.refl (fun j => j = p) w').setCell (p := ⟨p, 1, none⟩) (fun _ => rfl) _) (fun j hj e => own_ne HV.out HD2.out (by decide) (e ▸ hj))
    · intro j hj
      rcases HOB.out with e | e
      · exact .inl (by rw [← e]; exact hj)
      · right
        rw [e] at hj
        have := HFR.out.size
        simp at hj
        omega

/-- Write: the power is off. -/
theorem write_down (p : Nat) (sv wv : Value) (fuse : Int) (k : Int) (v : Value) (w : World) (h : DrumB w p sv wv fuse true) :
    Calls Tryd.prog 23 #[.pointer (some ⟨p, 0, none⟩), .int .i64 k, v] w fun e w' => e = .returned (.int .i64 21) ∧ w = w' := by
  have c3 := h.c3
  clear h
  go_enter Tryd.func23, Tryd.ntmps23
  go_wp2_with fail
  go_ret
  exact ⟨rfl, rfl⟩

/-- Write: there is no such sector. -/
theorem write_range (p gs n : Nat) (wv : Value) (fuse : Int) (k : Int) (v : Value) (w : World) (h : DrumB w p (.slice (some ⟨gs, 0, none⟩) n n) wv fuse false) (hk : k < 0 ∨ n ≤ k) :
    Calls Tryd.prog 23 #[.pointer (some ⟨p, 0, none⟩), .int .i64 k, v] w fun e w' => e = .returned (.int .i64 5) ∧ w = w' := by
  have c3 := h.c3
  have HIS := Lib.hid (is_no p gs n wv fuse false k w h hk)
  clear h hk
  go_enter Tryd.func23, Tryd.ntmps23
  go_wp2_with fail
  refine HIS.out.mono ?_
  rintro e w0 ⟨rfl, rfl⟩
  go_wp2_with fail
  go_ret
  exact ⟨rfl, rfl⟩

/-- Write: not 64 bytes. -/
theorem write_arg (p gs n : Nat) (wv : Value) (fuse : Int) (k : Int) (A : Option Addr) (m c : Nat) (w : World) (h : DrumB w p (.slice (some ⟨gs, 0, none⟩) n n) wv fuse false) (h0 : 0 ≤ k) (h1 : k < n) (hm : m ≠ 64) :
    Calls Tryd.prog 23 #[.pointer (some ⟨p, 0, none⟩), .int .i64 k, .slice A m c] w fun e w' => e = .returned (.int .i64 1) ∧ w = w' := by
  have c3 := h.c3
  have HIS := Lib.hid (is_yes p gs n wv fuse false k w h h0 h1)
  have hb : (!((m : Int) == 64)) = true := by simp; omega
  have hb2 : ((m : Int) == 64) = false := by simp; omega
  have hb3 : ((m : Int) != 64) = true := by simp; omega
  clear h hm
  go_enter Tryd.func23, Tryd.ntmps23
  go_wp2_with fail
  refine HIS.out.mono ?_
  rintro e w0 ⟨rfl, rfl⟩
  go_wp2_with fail
  go_ret
  exact ⟨rfl, rfl⟩

/-- Write: the fuse ends here. -/
theorem write_crash (p gs n : Nat) (wv : Value) (k : Int) (A : Option Addr) (c : Nat) (w : World) (h : DrumB w p (.slice (some ⟨gs, 0, none⟩) n n) wv 1 false) (h0 : 0 ≤ k) (h1 : k < n) :
    Calls Tryd.prog 23 #[.pointer (some ⟨p, 0, none⟩), .int .i64 k, .slice A 64 c] w fun e w' =>
      e = .returned (.int .i64 20) ∧ DrumB w' p (.slice (some ⟨gs, 0, none⟩) n n) wv 0 true ∧ Fr (fun k => k = p) w w' := by
  have c3 := h.c3
  have HIS := Lib.hid (is_yes p gs n wv 1 false k w h h0 h1)
  have HB := Lib.hid (burns_one p _ wv false w h)
  clear h
  go_enter Tryd.func23, Tryd.ntmps23
  go_wp2_with fail
  refine HIS.out.mono ?_
  rintro e w0 ⟨rfl, rfl⟩
  go_wp2_with fail
  refine HB.out.mono ?_
  rintro e w1 ⟨rfl, hd, hf⟩
  go_wp2_with fail
  go_ret
  exact ⟨rfl, hd, hf⟩

/-- Sync: the power is off. -/
theorem sync_down (p : Nat) (sv wv : Value) (fuse : Int) (w : World) (h : DrumB w p sv wv fuse true) :
    Calls Tryd.prog 68 #[.pointer (some ⟨p, 0, none⟩)] w fun e w' => e = .returned (.int .i64 21) ∧ w = w' := by
  have c3 := h.c3
  clear h
  go_enter Tryd.func68, Tryd.ntmps68
  go_wp2_with fail
  go_ret
  exact ⟨rfl, rfl⟩

/-- Sync: the fuse ends here. -/
theorem sync_crash (p : Nat) (sv wv : Value) (w : World) (h : DrumB w p sv wv 1 false) :
    Calls Tryd.prog 68 #[.pointer (some ⟨p, 0, none⟩)] w fun e w' =>
      e = .returned (.int .i64 20) ∧ DrumB w' p sv wv 0 true ∧ Fr (fun k => k = p) w w' := by
  have c3 := h.c3
  have HB := Lib.hid (burns_one p _ wv false w h)
  clear h
  go_enter Tryd.func68, Tryd.ntmps68
  go_wp2_with fail
  refine HB.out.mono ?_
  rintro e w1 ⟨rfl, hd, hf⟩
  go_wp2_with fail
  go_ret
  exact ⟨rfl, hd, hf⟩

/-- What may become of the row of what waits. -/
def Foot (w : World) (wv wv' : Value) : Prop := ∀ j, wv'.ownBlock = some j → wv.ownBlock = some j ∨ w.heap.size ≤ j
theorem Foot.refl (w : World) (wv : Value) : Foot w wv wv := fun _ h => .inl h
theorem Foot.nil (w : World) (wv : Value) : Foot w wv (.slice none 0 0) := fun _ h => by cases h

/-- SYNC. -/
theorem sync_any (B : Nat) (p gs : Nat) (wv : Value) (S : DS) (w : World) (h : IsDrum B w p gs wv S) (hlen : S.waits.length ≤ 1000000000) :
    Calls Tryd.prog 68 #[.pointer (some ⟨p, 0, none⟩)] w fun e w' => e = .returned (.int .i64 S.sync.1) ∧ (∃ wv', IsDrum B w' p gs wv' S.sync.2 ∧ Foot w wv wv') ∧ Fr (DF p gs wv) w w' := by
  by_cases hoff : S.off = true
  · have e1 : S.sync = (21, S) := by simp [DS.sync, hoff]
    have hst := h.st
    rw [hoff] at hst
    refine (sync_down p _ wv _ w hst).mono ?_
    rintro e w' ⟨rfl, rfl⟩
    rw [e1]
    exact ⟨rfl, ⟨wv, h, Foot.refl _ _⟩, Fr.refl _ _⟩
  · have hoff : S.off = false := by simpa using hoff
    by_cases hf : S.fuse = 1
    · have e1 : S.sync = (20, { S with fuse := 0, off := true }) := by simp [DS.sync, hoff, hf]
      have hok := DS.sync_ok h.ok
      have hst := h.st
      rw [hoff, hf] at hst
      refine (sync_crash p _ wv w hst).mono ?_
      rintro e w' ⟨rfl, hd, hfr⟩
      rw [e1] at hok ⊢
      refine ⟨rfl, ⟨wv, ⟨hok, h.b1, h.b2, hd, h.sure.fr hfr (fun e => h.ne1 e.symm), own_fr h.waits hfr (fun k hk e => h.ne2 (e ▸ hk))⟩, Foot.refl _ _⟩, hfr.mono fun k _ e => .inl e⟩
    · refine (sync_ok B p gs wv S w h hoff hf hlen).mono ?_
      rintro e w' ⟨rfl, hd, hfr⟩
      have e1 : S.sync.1 = 0 := by simp [DS.sync, hoff, hf]
      rw [e1]
      exact ⟨rfl, ⟨_, hd, Foot.nil _ _⟩, hfr⟩

/-- WRITE. -/
theorem write_any (B : Nat) (p gs : Nat) (wv : Value) (S : DS) (k : Int) (A : Option Addr) (c : Nat) (b : List Int) (w : World) (h : IsDrum B w p gs wv S) (hb : Byt w A b) (hA : ∀ a, A = some a → a.block ≠ p) (hlen : S.waits.length ≤ 1000000000) (hB : B ≤ w.heap.size) :
    Calls Tryd.prog 23 #[.pointer (some ⟨p, 0, none⟩), .int .i64 k, .slice A b.length c] w fun e w' =>
      e = .returned (.int .i64 (S.write k b).1) ∧ (∃ wv', IsDrum B w' p gs wv' (S.write k b).2 ∧ Foot w wv wv') ∧ Fr (DF p gs wv) w w' := by
  by_cases hoff : S.off = true
  · have e1 : S.write k b = (21, S) := by simp [DS.write, hoff]
    have hst := h.st
    rw [hoff] at hst
    refine (write_down p _ wv _ k _ w hst).mono ?_
    rintro e w' ⟨rfl, rfl⟩
    rw [e1]
    exact ⟨rfl, ⟨wv, h, Foot.refl _ _⟩, Fr.refl _ _⟩
  have hoff : S.off = false := by simpa using hoff
  have hst := h.st
  rw [hoff] at hst
  by_cases hk : k < 0 ∨ S.sure.length ≤ k
  · have e1 : S.write k b = (5, S) := by simp [DS.write, hoff, hk]
    refine (write_range p gs _ wv _ k _ w hst hk).mono ?_
    rintro e w' ⟨rfl, rfl⟩
    rw [e1]
    exact ⟨rfl, ⟨wv, h, Foot.refl _ _⟩, Fr.refl _ _⟩
  by_cases hb64 : b.length = 64
  · by_cases hf : S.fuse = 1
    · have e1 : S.write k b = (20, { S with fuse := 0, off := true }) := by simp [DS.write, hoff, hk, hb64, hf]
      have hok := DS.write_ok h.ok k hb.bd
      rw [hf] at hst
      rw [hb64]
      refine (write_crash p gs _ wv k A c w hst (by omega) (by omega)).mono ?_
      rintro e w' ⟨rfl, hd, hfr⟩
      rw [e1] at hok ⊢
      refine ⟨rfl, ⟨wv, ⟨hok, h.b1, h.b2, hd, h.sure.fr hfr (fun e => h.ne1 e.symm), own_fr h.waits hfr (fun k hk e => h.ne2 (e ▸ hk))⟩, Foot.refl _ _⟩, hfr.mono fun k _ e => .inl e⟩
    · have e1 : (S.write k b).1 = 0 := by simp [DS.write, hoff, hk, hb64, hf]
      have e2 : ((k.toNat : Nat) : Int) = k := by omega
      have hwr := write_ok B p gs wv S k.toNat A c b w h hoff hf (by omega) hb64 hb hA hlen hB
      rw [e2] at hwr
      rw [e1, hb64]
      exact hwr
  · have e1 : S.write k b = (1, S) := by simp [DS.write, hoff, hk, hb64]
    refine (write_arg p gs _ wv _ k A b.length c w hst (by omega) (by omega) hb64).mono ?_
    rintro e w' ⟨rfl, rfl⟩
    rw [e1]
    exact ⟨rfl, ⟨wv, h, Foot.refl _ _⟩, Fr.refl _ _⟩

end Go.Proofs.YtohadeijmmmcdaaDoor
