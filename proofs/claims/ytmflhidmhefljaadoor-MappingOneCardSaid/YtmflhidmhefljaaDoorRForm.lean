/-
  The document's digest of bytes (seisinref03.Of), the sum of fields (seisinref13.Sum).
  The document's form of a record (seisinref13.Form).
-/
import Derived.Test.YtmflhidmhefljaaDoorRSum
import Derived.Test.YtmflhidmhefljaaDoorRNum
import Derived.Deep.CutRange
import Derived.Test.YtmflhidmhefljaaDoorForm
import Derived.Test.YtmflhidmhefljaaDoorRTake

section
namespace Go.Proofs.YtmflhidmhefljaaDoor
open Go.RowKit
set_option maxRecDepth 100000

section
set_option maxHeartbeats 4000000 in
theorem rfirst_any (w : World) : Calls Tryd.prog 34 #[] w fun e w' => e = .returned (.slice (some ⟨w.heap.size, 0, none⟩) 8 8) ∧ w' = w.alloc (.cells (w32s H0).toArray 80) := by
  go_enter Tryd.func34, Tryd.ntmps34
  go_wp2_with fail
  go_ret
  exact ⟨rfl, rfl⟩

set_option maxHeartbeats 4000000 in
theorem rrounds_any (w : World) : Calls Tryd.prog 35 #[] w fun e w' => e = .returned (.slice (some ⟨w.heap.size, 0, none⟩) 64 64) ∧ w' = w.alloc (.cells (w32s K0).toArray 80) := by
  go_enter Tryd.func35, Tryd.ntmps35
  go_wp2_with fail
  go_ret
  exact ⟨rfl, rfl⟩

theorem Wds.blk {w : World} {g : Nat} {t : TypeId} {l : List Int} (h : Blk w g t (w32s l).toArray) : Wds w (some ⟨g, 0, none⟩) l := by
  refine ⟨g, 0, rfl, h.lt, fun i hi => ?_⟩
  rw [Nat.zero_add, h.cell i]
  simp [w32s, List.getD, hi]

attribute [local go_sem ↓] ld123 st123 al123
set_option maxHeartbeats 4000000 in
theorem rof_any (A : Option Addr) (c : Nat) (hcA : A = none → c = 0) (b : List Int) (w : World) (hb : Byt w A b) (hl : b.length ≤ 100000000) :
    Calls Tryd.prog 24 #[.slice A b.length c] w fun e w' => e = .returned (.agg (bys (shaP b)).toArray) ∧ Below w.heap.size w w' := by
  obtain ⟨z, hz1, hz2⟩ := Option.map_eq_some_iff.1 z123
  have hal := ALs_new (P := Tryd.prog) (t := 23) z hz1 w
  obtain ⟨Z, hZ⟩ : ∃ Z, z.cells = Z := ⟨_, rfl⟩
  rw [hZ] at hal hz2
  have hzs : Z.size = 32 := by rw [← Array.length_toList, hz2]; rfl
  have b0 := Blk.new w 23 Z
  have B0 : Below w.heap.size w (w.alloc (.cells Z 23)) := (Below.refl _ w).alloc (Nat.le_refl _) _
  have hs0 : (w.alloc (.cells Z 23)).heap.size = w.heap.size + 1 := by simp
  obtain ⟨W, hW⟩ : ∃ W, w.alloc (.cells Z 23) = W := ⟨_, rfl⟩
  rw [hW] at hal b0 B0 hs0
  have HB := Lib.hid hb
  have HB0 := Lib.hid b0
  have HBl := Lib.hid B0
  have HS := Lib.hid hs0
  have HZ := Lib.hid hzs
  obtain ⟨n, hn⟩ : ∃ n, b.length = n := ⟨_, rfl⟩
  rw [hn]
  have HN := Lib.hid hn
  clear hb b0 B0 hs0 hz1 hz2 hZ hW hzs hn
  go_enter Tryd.func24, Tryd.ntmps24
  go_wp2_with fail
  with_reducible refine (rfirst_any W).mono ?_
  rintro e w1 ⟨rfl, rfl⟩
  have b1 := Blk.new W 80 (w32s H0).toArray
  have B1 : Below W.heap.size W (W.alloc (.cells (w32s H0).toArray 80)) := (Below.refl _ W).alloc (Nat.le_refl _) _
  have hs1 : (W.alloc (.cells (w32s H0).toArray 80)).heap.size = W.heap.size + 1 := by simp
  obtain ⟨X, hX⟩ : ∃ X, W.alloc (.cells (w32s H0).toArray 80) = X := ⟨_, rfl⟩
  rw [hX] at b1 B1 hs1 ⊢
  have H1 := Lib.hid b1
  have HB1 := Lib.hid B1
  have HS1 := Lib.hid hs1
  clear hX b1 B1 hs1
  go_wp2_with fail
  with_reducible refine (rrounds_any X).mono ?_
  rintro e w2 ⟨rfl, rfl⟩
  have b2 := Blk.new X 80 (w32s K0).toArray
  have B2 : Below X.heap.size X (X.alloc (.cells (w32s K0).toArray 80)) := (Below.refl _ X).alloc (Nat.le_refl _) _
  have b1 := H1.out.alloc (.cells (w32s K0).toArray 80)
  obtain ⟨Y, hY⟩ : ∃ Y, X.alloc (.cells (w32s K0).toArray 80) = Y := ⟨_, rfl⟩
  rw [hY] at b2 B2 b1 ⊢
  have hBY : Below W.heap.size W Y := HB1.out.trans (B2.mono HB1.out.size)
  have H2 := Lib.hid b2
  have HBY := Lib.hid hBY
  have H1' := Lib.hid b1
  clear hY b2 B2 hBY b1
  go_wp2_with fail
  have hcl := rsum_any A c hcA b (some ⟨W.heap.size, 0, none⟩) (some ⟨X.heap.size, 0, none⟩) 8 64 Y ((HB.out.below HBl.out).below HBY.out) hl (Wds.blk H1'.out) (Wds.blk H2.out)
  rw [HN.out] at hcl
  with_reducible refine hcl.mono ?_
  rintro e w3 ⟨rfl, hb3⟩
  have hBW : Below W.heap.size W w3 := HBY.out.trans (hb3.mono HBY.out.size)
  have hb0 : Blk w3 w.heap.size 23 Z := HB0.out.fr (Fr.of_below hBW) (by have := HB0.out.lt; omega)
  have hl32 : (bys (shaP b)).length = 32 := by rw [bys_length, shaP_len]
  have hst := STs_blk (P := Tryd.prog) (t := 23) i123 hb0 (off := 0) (bys (shaP b)) hl32 (by rw [HZ.out]; omega) (bys_one _)
  rw [splice_whole _ _ (by rw [hl32, HZ.out])] at hst
  have HBW := Lib.hid hBW
  have HB3 := Lib.hid hb0
  have HL := Lib.hid hl32
  clear hcl hb3 hBW hb0 hl32
  go_wp2_with fail
  exact bodyPost_ret (results_arr rfl _ _ w.heap.size 23 (bys (shaP b)) _ rfl (HB3.out.row_ _) undId rfl (by rw [HL.out]; exact i123)) rfl ⟨rfl, Below.setRow (HBl.out.trans (HBW.out.mono (by have := HS.out; omega))) (Nat.le_refl _) _⟩

attribute [local go_sem ↓] apt22_of
end

end Go.Proofs.YtmflhidmhefljaaDoor
end

section
namespace Go.Proofs.YtmflhidmhefljaaDoor
open Go.RowKit
set_option maxRecDepth 100000

section
attribute [local go_sem ↓] apt22_of slc22

/-- What is known of an append of what is one's own to what is one's own. -/
theorem app8_own {ty : TypeId} {B B' : Nat} {w : World} {A : Option Addr} {c : Nat} {v : Value} {l m : List Int} (h : Own8 B w v l) (hm : Own8 B' w (.slice A m.length c) m) (hb : ∀ x ∈ m, 0 ≤ x ∧ x ≤ 255) (hlen : l.length + m.length ≤ 1000000000) (hB : B ≤ w.heap.size) :
    ∃ v' w', (APs #[51, 51] ty #[v, .slice A m.length c]).run Tryd.prog w = .ok v' w' ∧ Own8 B w' v' (l ++ m) ∧ Fr (fun k => v.ownBlock = some k) w w' ∧ Foot w v v' := by
  obtain ⟨A', c', e, hy, _, hc⟩ := hm.byt hb
  simp only [Value.slice.injEq, true_and] at e
  obtain ⟨rfl, rfl⟩ := e
  refine app8 h hy (Nat.le_trans hlen (by omega)) hB (fun e => ?_)
  subst e
  obtain ⟨_, ⟨h2, _⟩ | ⟨g, cap, cur, h2, _⟩⟩ := hm
  · simp only [Value.slice.injEq] at h2
    exact h2.2.2
  · simp at h2
theorem Own8.nul {B n c : Nat} {w : World} {l : List Int} (h : Own8 B w (.slice none n c) l) : c = 0 := by
  obtain ⟨_, ⟨h2, _⟩ | ⟨g, cap, cur, h2, _⟩⟩ := h
  · simp only [Value.slice.injEq] at h2
    exact h2.2.2
  · simp at h2

theorem formE_range {t n : Int} {b : List Int} (h : ¬ (0 ≤ t ∧ t ≤ 1099511627776) ∨ ¬ (0 ≤ n ∧ n ≤ 1099511627776)) : formE t n b = 5 ∧ formV t n b = [] := by
  have e : formE t n b = 5 := by unfold formE; rw [if_pos h]
  exact ⟨e, by unfold formV; rw [e]; rfl⟩

theorem World.ownsRow.base_le {B B' : Nat} {w : World} {e : TypeId} {size n : Nat} {v : Value} {xs : List Value} (h : w.ownsRow B e size v n xs) (hB : B' ≤ B) : w.ownsRow B' e size v n xs := by
  obtain ⟨h1, h2 | ⟨g, cap, cur, h3, h4, h5⟩⟩ := h
  · exact ⟨h1, .inl h2⟩
  · exact ⟨h1, .inr ⟨g, cap, cur, h3, Nat.le_trans hB h4, h5⟩⟩

/-- The document's bytes, and its error. -/
def RFormPost (n₀ : Nat) (t n : Int) (b : List Int) (e : Ending) (w' : World) : Prop :=
  ∃ v, e = .returned (.tuple #[v, .int .i64 (formE t n b)]) ∧ Own8 n₀ w' v (formV t n b)

end

end Go.Proofs.YtmflhidmhefljaaDoor
end
