/-
  MappingOf: the walk.
-/
import Derived.Test.YtmflhidmhefljaaDoorMapK
namespace Go.Proofs.YtmflhidmhefljaaDoor
open Go.RowKit Go.Shelf
set_option maxRecDepth 100000
attribute [local go_sem ↓] ldPt_of

set_option maxHeartbeats 4000000 in
theorem mapof_law (tx : List Int) (ix n : Int) (w : World) (ok : PtOk (tx, ix)) (hn : -9223372036854775808 ≤ n ∧ n ≤ 9223372036854775807) (hg : Glob w) :
    Calls Tryd.prog 3 #[.agg (ptL tx ix).toArray, .int .i64 n] w fun e w' => e = .returned (.bool true) ∧ Below w.heap.size w w' := by
  have hlen : tx.length = 32 := ok.len
  have b0 := Blk.new w 25 (ptL tx ix).toArray
  have B0 : Below w.heap.size w (w.alloc (.cells (ptL tx ix).toArray 25)) := (Below.refl _ w).alloc (Nat.le_refl _) _
  obtain ⟨W, hW⟩ : ∃ W, w.alloc (.cells (ptL tx ix).toArray 25) = W := ⟨_, rfl⟩
  obtain ⟨g, hgg⟩ : ∃ g, w.heap.size = g := ⟨_, rfl⟩
  rw [hW] at B0
  rw [hW, hgg] at b0
  have hld : ∀ X, Below W.heap.size W X → (LDs 25 (.pointer (some ⟨g, 0, none⟩))).run Tryd.prog X = .ok (.agg (ptL tx ix).toArray) X := fun X hX =>
    LDs_aggB uPt iPt (b0.fr (Fr.of_below hX) (by have := b0.lt; omega)) (off := 0) (ptL tx ix) (ptL_len hlen ix) (by simp [List.take_of_length_le, ptL_len hlen])
  have hl0 := hld W (Below.refl _ _)
  have m1 := mof_any tx hlen ok.tx ix n ok.ix hn W (hg.below B0)
  have m2 := fun X => rmof_any tx hlen ok.tx ix n ok.ix hn X
  have haw := fun X (hX : Below W.heap.size W X) => awake8 X ((hg.below B0).below hX)
  have hof : okO ix n = true → 0 ≤ ofO tx ix n ∧ ofO tx ix n < n := fun h => by
    have h2 : okN n = true := by
      simp only [okO, decide_eq_true_eq] at h
      simp only [okN, decide_eq_true_eq]
      omega
    have := ofO_bd tx ix n h2
    omega
  have hof0 : okO ix n = false → ofO tx ix n = 0 := fun h => by unfold ofO; rw [h]; rfl
  obtain ⟨ps, hps⟩ : ∃ ps, (ptL tx ix).toArray = ps := ⟨_, rfl⟩
  rw [hps] at hW m1 hl0 ⊢
  simp only [hps] at hld m2
  obtain ⟨x, hx⟩ : ∃ x, ofO tx ix n = x := ⟨_, rfl⟩
  obtain ⟨b, hb⟩ : ∃ b, okO ix n = b := ⟨_, rfl⟩
  rw [hx, hb] at m1
  rw [hb, hx] at hof hof0
  simp only [hb, hx] at m2
  have HW := Lib.hid hW
  have HG := Lib.hid hgg
  have HB0 := Lib.hid B0
  have HLD := Lib.hid hld
  have M2 := Lib.hid m2
  have HAW := Lib.hid haw
  clear hW hgg B0 b0 hld m2 haw hps hx hb hg ok hlen
  cases b with
  | true =>
    obtain ⟨x0, x1⟩ := hof rfl
    have M2b := M2.out
    simp only [if_true] at M2b
    clear hof hof0
    go_enter Tryd.func3, Tryd.ntmps3
    go_upto_region 1 with fail
    rw [HW.out, HG.out]
    go_wp2_with fail
    with_reducible refine m1.mono ?_
    rintro e w1 ⟨rfl, hB1⟩
    have hl1 := HLD.out w1 hB1
    have m2 := M2b w1
    have HB1 := Lib.hid hB1
    clear hB1 m1 M2b
    go_wp2_with fail
    with_reducible refine m2.mono ?_
    rintro e w2 ⟨rfl, hB2⟩
    have hB2' := HB1.out.trans (hB2.mono HB1.out.size)
    have haw := HAW.out w2 hB2'
    have HB2 := Lib.hid hB2'
    clear hB2 hB2' m2
    go_wp2_with fail
    with_reducible refine haw.mono ?_
    rintro e w3 ⟨rfl, hB3⟩
    have HB3 := Lib.hid (HB0.out.trans ((HB2.out.trans (hB3.mono HB2.out.size)).mono HB0.out.size))
    clear hB3 haw
    go_wp2_with fail
    go_ret
    exact ⟨rfl, HB3.out⟩
  | false =>
    obtain rfl := hof0 rfl
    have M2b := M2.out
    simp only [Bool.false_eq_true, if_false] at M2b
    clear hof hof0
    go_enter Tryd.func3, Tryd.ntmps3
    go_upto_region 1 with fail
    rw [HW.out, HG.out]
    go_wp2_with fail
    with_reducible refine m1.mono ?_
    rintro e w1 ⟨rfl, hB1⟩
    have hl1 := HLD.out w1 hB1
    have m2 := M2b w1
    have HB1 := Lib.hid hB1
    clear hB1 m1 M2b
    go_wp2_with fail
    with_reducible refine m2.mono ?_
    rintro e w2 ⟨rfl, hB2⟩
    have hB2' := HB1.out.trans (hB2.mono HB1.out.size)
    have haw := HAW.out w2 hB2'
    have HB2 := Lib.hid hB2'
    clear hB2 hB2' m2
    go_wp2_with fail
    with_reducible refine haw.mono ?_
    rintro e w3 ⟨rfl, hB3⟩
    have HB3 := Lib.hid (HB0.out.trans ((HB2.out.trans (hB3.mono HB2.out.size)).mono HB0.out.size))
    clear hB3 haw
    go_wp2_with fail
    go_ret
    exact ⟨rfl, HB3.out⟩
end Go.Proofs.YtmflhidmhefljaaDoor
