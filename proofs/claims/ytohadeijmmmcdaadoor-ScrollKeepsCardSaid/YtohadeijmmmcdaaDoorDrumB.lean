/-
  The drum in memory; Sync.
-/
import Derived.Test.YtohadeijmmmcdaaDoorDrumA
import Derived.Test.YtohadeijmmmcdaaDoorDrumP
namespace Go.Proofs.YtohadeijmmmcdaaDoor
open Go.RowKit
set_option maxRecDepth 100000

/-- A write that waits, as cells. -/
def wrow (x : Nat × List Int) : List Value := .int .i64 (x.1 : Int) :: bys x.2
theorem wrow_len {x : Nat × List Int} (h : x.2.length = 64) : (wrow x).length = 65 := by simp [wrow, bys_length, h]
theorem wrow_one (x : Nat × List Int) : ∀ v ∈ wrow x, v.oneCell' = true := by
  intro v hv
  simp only [wrow, List.mem_cons] at hv
  rcases hv with rfl | hv
  · rfl
  · exact bys_one _ v hv

/-- The drum S lies at p: what is sure in block gs, what waits in the row wv; its own blocks lie from B on. -/
structure IsDrum (B : Nat) (w : World) (p gs : Nat) (wv : Value) (S : DS) : Prop where
  ok : S.Ok
  b1 : B ≤ p
  b2 : B ≤ gs
  st : DrumB w p (.slice (some ⟨gs, 0, none⟩) S.sure.length S.sure.length) wv S.fuse S.off
  sure : Blk w gs 119 (bys S.sure.flatten).toArray
  waits : w.ownsRow B 121 65 wv S.waits.length (S.waits.map wrow).flatten

/-- The drum's own blocks. -/
def DF (p gs : Nat) (wv : Value) (k : Nat) : Prop := k = p ∨ k = gs ∨ wv.ownBlock = some k

section
variable {B : Nat} {w w' : World} {p gs : Nat} {wv : Value} {S : DS}
theorem IsDrum.ne1 (h : IsDrum B w p gs wv S) : p ≠ gs := Blk.ne_ h.st h.sure (by decide)
theorem own_blk {base : Nat} {e : TypeId} {size n : Nat} {v : Value} {xs : List Value} (h : w.ownsRow base e size v n xs) {g : Nat} (hg : v.ownBlock = some g) : ∃ cs, Blk w g e cs ∧ base ≤ g := by
  rcases h.2 with ⟨rfl, _⟩ | ⟨g', cap, cur, rfl, hb, hh, _⟩
  · cases hg
  · simp [Value.ownBlock] at hg
    subst hg
    exact ⟨cur, hh, hb⟩
theorem own_ne {base : Nat} {e t : TypeId} {size n g : Nat} {v : Value} {xs : List Value} {cs : Array Value} (h : w.ownsRow base e size v n xs) (hb : Blk w g t cs) (hne : e ≠ t) : v.ownBlock ≠ some g := by
  intro he
  obtain ⟨cs', hb', _⟩ := own_blk h he
  exact hne (hb'.inj hb).1
theorem own_fr {base : Nat} {e : TypeId} {size n : Nat} {v : Value} {xs : List Value} {F : Nat → Prop} (h : w.ownsRow base e size v n xs) (hf : Fr F w w') (hn : ∀ k, v.ownBlock = some k → ¬ F k) : w'.ownsRow base e size v n xs := by
  refine ⟨h.1, ?_⟩
  rcases h.2 with hn' | ⟨g, cap, cur, rfl, hb, hgg, rest⟩
  · exact .inl hn'
  · exact .inr ⟨g, cap, cur, rfl, hb, (hf.block g (Array.getElem?_eq_some_iff.1 hgg).1 (hn g rfl)).trans hgg, rest⟩
theorem IsDrum.ne2 (h : IsDrum B w p gs wv S) : wv.ownBlock ≠ some p := own_ne h.waits h.st (by decide)
theorem IsDrum.ne3 (h : IsDrum B w p gs wv S) : wv.ownBlock ≠ some gs := own_ne h.waits h.sure (by decide)
/-- A drum that nothing touches. -/
theorem IsDrum.fr {F : Nat → Prop} (h : IsDrum B w p gs wv S) (hf : Fr F w w') (hn : ∀ k, DF p gs wv k → ¬ F k) : IsDrum B w' p gs wv S :=
  ⟨h.ok, h.b1, h.b2, Blk.fr h.st hf (hn _ (.inl rfl)), h.sure.fr hf (hn _ (.inr (.inl rfl))), own_fr h.waits hf (fun _ hk => hn _ (.inr (.inr hk)))⟩
theorem IsDrum.lt (h : IsDrum B w p gs wv S) {k : Nat} (hk : DF p gs wv k) : B ≤ k ∧ k < w.heap.size := by
  rcases hk with rfl | rfl | hk
  · exact ⟨h.b1, Blk.lt h.st⟩
  · exact ⟨h.b2, h.sure.lt⟩
  · exact h.waits.lt k hk
end

theorem u54 : Tryd.prog.underlying 119 = some (.array 64 5) := by kernel_rfl
theorem i60 : (Tryd.prog.info? 119).map (·.size) = some 64 := by kernel_rfl
theorem i62 : (Tryd.prog.info? 121).map (·.size) = some 65 := by kernel_rfl
theorem u62 : (Tryd.prog.underlying 121).map isAggD = some true := by kernel_rfl
theorem z62 : (((Tryd.prog.info? 121).bind (·.zero)).map (·.cells.size)) = some 65 := by kernel_rfl
theorem z60 : (((Tryd.prog.info? 119).bind (·.zero)).map (·.cells.size)) = some 64 := by kernel_rfl

theorem ld62 (v : Value) : Instr.loadAt 121 v = LDs 121 v := rfl
theorem ld60 (v : Value) : Instr.loadAt 119 v = LDs 119 v := rfl
theorem st62 (v x : Value) : Instr.storeAt 121 v x = STs 121 v x := rfl
theorem st60 (v x : Value) : Instr.storeAt 119 v x = STs 119 v x := rfl
theorem al62 : Instr.alloc 121 true (.tuple #[]) = ALs 121 := rfl
theorem al60 : Instr.alloc 119 true (.tuple #[]) = ALs 119 := rfl

/-- What waits, read at i. -/
theorem load_wait {B : Nat} {w : World} {v : Value} {l : List (Nat × List Int)} (h : w.ownsRow B 121 65 v l.length (l.map wrow).flatten) (hs : ∀ x ∈ l, x.2.length = 64) (i : Nat) (hi : i < l.length) :
    ∃ g cap, v = .slice (some ⟨g, 0, none⟩) l.length cap ∧ g < w.heap.size ∧ ∀ W : World, W.heap[g]? = w.heap[g]? → (LDs 121 (.pointer (some ⟨g, i * 65, none⟩))).run Tryd.prog W = .ok (.agg (wrow l[i]).toArray) W := by
  rcases h.2 with ⟨_, h0⟩ | ⟨g, cap, cur, rfl, hb, hh, hn, hm, hsz, htake⟩
  · omega
  · obtain ⟨d, hu, hd⟩ := Option.map_eq_some_iff.1 u62
    refine ⟨g, cap, rfl, (Array.getElem?_eq_some_iff.1 hh).1, fun W hW => ?_⟩
    refine LDs_blk (cs := cur) hu hd i62 (hW.trans hh) (wrow l[i]) (wrow_len (hs _ (List.getElem_mem _))) ?_
    have hf := flat_drop_take 65 (l.map wrow) (fun s hs' => by
      obtain ⟨x, hx, rfl⟩ := List.mem_map.1 hs'
      exact wrow_len (hs x hx)) i (by simpa using hi)
    rw [List.getElem_map] at hf
    rw [← hf, ← htake, List.drop_take, List.take_take]
    congr 1
    have : (i + 1) * 65 ≤ l.length * 65 := Nat.mul_le_mul_right _ hi
    omega

attribute [local go_sem ↓] ld62 ld60 st62 st60 al62 al60

theorem own_form {base : Nat} {w : World} {e : TypeId} {size n : Nat} {v : Value} {xs : List Value} (h : w.ownsRow base e size v n xs) : ∃ A cap, v = .slice A n cap := by
  rcases h.2 with ⟨rfl, rfl⟩ | ⟨g, cap, cur, rfl, _⟩
  · exact ⟨_, _, rfl⟩
  · exact ⟨_, _, rfl⟩

/-- A sector laid over what is sure. -/
theorem splice_sec (L : List (List Int)) (hL : ∀ s ∈ L, s.length = 64) (k : Nat) (hk : k < L.length) (b : List Int) (hb : b.length = 64) : splice (bys L.flatten).toArray (k * 64) (bys b) = (bys (L.set k b).flatten).toArray := by
  unfold splice
  rw [bys_length, hb, bys_take, bys_drop, ← bys_app, ← bys_app, flat_splice 64 L hL k hk b hb]

/-- The fuse doesn't end here. -/
theorem burns_go (p : Nat) (sv wv : Value) (fuse : Int) (w : World) (h : DrumB w p sv wv fuse false) (hf : fuse ≠ 1) (h0 : 0 ≤ fuse) (h1 : fuse ≤ 9223372036854775807) :
    Calls Tryd.prog 66 #[.pointer (some ⟨p, 0, none⟩)] w fun e w' => e = .returned (.bool false) ∧ DrumB w' p sv wv (dec fuse) false ∧ Fr (fun k => k = p) w w' := by
  by_cases hz : fuse = 0
  · subst hz
    refine (burns_none p sv wv false w h).mono ?_
    rintro e w' ⟨rfl, rfl⟩
    exact ⟨rfl, h, Fr.refl _ _⟩
  · refine (burns_more p sv wv fuse false w h (by omega) h1).mono ?_
    rintro e w' ⟨rfl, h2, h3⟩
    refine ⟨rfl, ?_, h3⟩
    unfold dec
    rw [if_neg hz]
    exact h2

set_option maxHeartbeats 1000000 in
theorem sync_ok (B : Nat) (p gs : Nat) (wv : Value) (S : DS) (w : World) (h : IsDrum B w p gs wv S) (hoff : S.off = false) (hf : S.fuse ≠ 1) (hlen : S.waits.length ≤ 1000000000) :
    Calls Tryd.prog 68 #[.pointer (some ⟨p, 0, none⟩)] w fun e w' => e = .returned (.int .i64 0) ∧ IsDrum B w' p gs (.slice none 0 0) S.sync.2 ∧ Fr (DF p gs wv) w w' := by
  obtain ⟨A, cap, hwv⟩ := own_form h.waits
  have H := Lib.hid h
  have hst := h.st
  rw [hoff] at hst
  have hbg := burns_go p _ wv S.fuse w hst hf h.ok.f0 h.ok.f1
  have c3 : w.cell? ⟨p, 3, none⟩ = some (.bool false) := hst.c3
  have HW := Lib.hid hwv
  have HO := Lib.hid hoff
  have HF1 := Lib.hid hf
  clear h hoff hf hst hwv
  go_enter Tryd.func68, Tryd.ntmps68
  go_wp2_with fail
  refine hbg.mono ?_
  clear hbg
  rintro e w1 ⟨rfl, hd1, hf1⟩
  have c1 : w1.cell? ⟨p, 1, none⟩ = some (.slice A S.waits.length cap) := by rw [← HW.out]; exact hd1.c1
  have f1 := Blk.frozen hd1 1
  have HD := Lib.hid hd1
  have HF := Lib.hid hf1
  have hw1 : w1.ownsRow B 121 65 wv S.waits.length (S.waits.map wrow).flatten := own_fr H.out.waits hf1 (fun k hk e => H.out.ne2 (e ▸ hk))
  have hs1 : Blk w1 gs 119 (bys S.sure.flatten).toArray := H.out.sure.fr hf1 (fun e => H.out.ne1 e.symm)
  have HW1 := Lib.hid hw1
  have HS1 := Lib.hid hs1
  clear hd1 hf1 hw1 hs1
  go_wp2_with fail
  go_loopw [18] (fun t wr => ∃ i : Nat, i ≤ S.waits.length ∧ t = .int .i64 i ∧ Blk wr gs 119 (bys (applyAll S.sure (S.waits.take i)).flatten).toArray ∧ Fr (fun k => k = gs) w1 wr)
    (fun t _ => S.waits.length - (intOf t).toNat)
  case atStart => exact ⟨0, Nat.zero_le _, rfl, HS1.out, Fr.refl _ _⟩
  case round =>
    obtain ⟨i, hi, rfl, hb, hfr⟩ := hrel
    by_cases hlt : i < S.waits.length
    · obtain ⟨g, cap', hsl, hg, hld⟩ := load_wait HW1.out (fun x hx => (H.out.ok.waits x hx).2.1) i hlt
      have hsl' := HW.out.symm.trans hsl
      simp only [Value.slice.injEq] at hsl'
      obtain ⟨rfl, -, rfl⟩ := hsl'
      have hgne : g ≠ gs := fun e => H.out.ne3 (by rw [HW.out, e]; rfl)
      have hld' := hld wr (hfr.block g hg hgne)
      have hxm := List.getElem_mem hlt
      have hk0 : S.waits[i].1 < S.sure.length := (H.out.ok.waits _ hxm).1
      have hx64 : S.waits[i].2.length = 64 := (H.out.ok.waits _ hxm).2.1
      obtain ⟨x, hx⟩ : ∃ x, S.waits[i] = x := ⟨_, rfl⟩
      have HX := Lib.hid hx
      rw [hx] at hld' hk0 hx64
      obtain ⟨d, hu, hd⟩ := Option.map_eq_some_iff.1 u62
      obtain ⟨z, hz1, hz2⟩ := Option.map_eq_some_iff.1 z62
      have hal := ALs_new (P := Tryd.prog) (t := 121) z hz1
      obtain ⟨Z, hZ⟩ : ∃ Z, z.cells = Z := ⟨_, rfl⟩
      rw [hZ] at hal hz2
      have hstz := fun W : World => STs_new (P := Tryd.prog) (t := 121) i62 W Z hz2 (wrow x) (wrow_len hx64) (wrow_one x)
      have hc0 : (wr.alloc (.cells (wrow x).toArray 121)).drew.cell? ⟨wr.heap.size, 0, none⟩ = some (.int .i64 (x.1 : Int)) := by
        rw [World.cell?_drew, World.cell?_alloc_new]; rfl
      have hl60 : (LDs 119 (.pointer (some ⟨wr.heap.size, 1, none⟩))).run Tryd.prog (wr.alloc (.cells (wrow x).toArray 121)).drew = .ok (.agg (bys x.2).toArray) (wr.alloc (.cells (wrow x).toArray 121)).drew :=
        LDs_blk u54 rfl i60 (Blk.new wr _ _).drew (bys x.2) (by rw [bys_length, hx64]) (by simp [wrow, bys_length, hx64, List.take_of_length_le])
      have hb' : Blk (wr.alloc (.cells (wrow x).toArray 121)).drew gs _ _ := (hb.alloc _).drew
      have hsz : (bys (applyAll S.sure (S.waits.take i)).flatten).toArray.size = S.sure.length * 64 := by
        rw [List.size_toArray, bys_length, flat_len 64 _ (fun s hs => (applyAll_sec _ _ H.out.ok.sure (fun x hx => (H.out.ok.waits x (List.mem_of_mem_take hx)).2) s hs).1), applyAll_len]
      have hs60 := STs_blk (P := Tryd.prog) (t := 119) i60 hb' (off := x.1 * 64) (bys x.2) (by rw [bys_length, hx64]) (by rw [hsz]; omega) (bys_one _)
      have hk1 : (x.1 : Int) < (S.sure.length : Int) := by omega
      have c0 : (wr.alloc (.cells (wrow x).toArray 121)).drew.cell? ⟨p, 0, none⟩ = some (.slice (some ⟨gs, 0, none⟩) S.sure.length S.sure.length) := by
        have := Blk.cell ((Blk.fr HD.out hfr H.out.ne1).alloc (.cells (wrow x).toArray 121)).drew 0
        exact this
      have HX64 := Lib.hid hx64
      clear hld hsl hz1 hz2 hZ hu hd hx hx64 hb' hsz hxm hgne
      go_wp2_with fail
      refine wp_still_tail 9 (by kernel_rfl) (by kernel_rfl) ?_
      simp only [List.take_succ_cons, List.take_zero, List.drop_succ_cons, List.drop_zero]
      repeat still_step
      refine wpStill_nil ?_
      go_wp2_with fail
      refine ⟨⟨i + 1, by omega, by go_num, ?_, ?_⟩, by simp [intOf]; omega⟩
      · rw [List.take_succ_eq_append_getElem hlt, applyAll_snoc, HX.out]
        have hsec : ∀ s ∈ applyAll S.sure (S.waits.take i), s.length = 64 := fun s hs => (applyAll_sec _ _ H.out.ok.sure (fun x hx => (H.out.ok.waits x (List.mem_of_mem_take hx)).2) s hs).1
        rw [splice_sec _ hsec _ (by rw [applyAll_len]; exact hk0) _ HX64.out]
        exact ((hb.alloc _).drew).row_ _
      · exact ((hfr.alloc _).drew).setRow (fun _ => rfl) _
    · obtain rfl : i = S.waits.length := by omega
      have hdr : DrumB wr p (.slice (some ⟨gs, 0, none⟩) S.sure.length S.sure.length) wv (dec S.fuse) false := Blk.fr HD.out hfr H.out.ne1
      have f1' := Blk.frozen hdr 1
      have c1' := hdr.c1
      have HDR := Lib.hid hdr
      rw [List.take_length] at hb
      have HB := Lib.hid hb
      have HFR := Lib.hid hfr
      clear hdr hb hfr
      go_wp2_with fail
      go_ret
      have hS : S.sync.2 = { S with fuse := dec S.fuse, sure := applyAll S.sure S.waits, waits := [] } := by
        unfold DS.sync
        rw [HO.out, if_neg (by decide), if_neg HF1.out]
      refine ⟨rfl, ⟨DS.sync_ok H.out.ok, H.out.b1, H.out.b2, ?_, ?_, ?_⟩, ?_⟩
      · rw [hS, HO.out]
        simp only [applyAll_len]
        simpa [DrumB] using Blk.set_ HDR.out 1 (.slice none 0 0)
      · rw [hS]
        exact HB.out.far (p := ⟨p, 1, none⟩) (fun e => H.out.ne1 e.symm) _
      · rw [hS]
        exact World.ownsRow_nil _ _ _ _
      · exact ((HF.out.mono fun k _ e => .inl e).trans (HFR.out) (fun k _ e => .inr (.inl e))).setCell (p := ⟨p, 1, none⟩) (fun _ => .inl rfl) _

end Go.Proofs.YtohadeijmmmcdaaDoor
