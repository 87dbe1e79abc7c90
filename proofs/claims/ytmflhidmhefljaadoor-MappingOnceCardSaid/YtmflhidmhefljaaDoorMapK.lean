/-
  seisinlaw08.awake.
-/
import Derived.Test.YtmflhidmhefljaaDoorMapJ
namespace Go.Proofs.YtmflhidmhefljaaDoor
open Go.RowKit Go.Shelf
set_option maxRecDepth 100000

theorem bdIn_of (parts : Array (Nat × Value)) : Instr.build 57 parts = BDs 57 parts := rfl
theorem bdOut_of (parts : Array (Nat × Value)) : Instr.build 59 parts = BDs 59 parts := rfl
theorem bsIn_of (n : Nat) (parts : Array (Nat × Value)) : Instr.buildSlice 31 n parts = BSs 31 n parts := rfl
theorem bsOut_of (n : Nat) (parts : Array (Nat × Value)) : Instr.buildSlice 32 n parts = BSs 32 n parts := rfl
theorem uInS : Tryd.prog.underlying 31 = some (.slice 57) := by kernel_rfl
theorem uOutS : Tryd.prog.underlying 32 = some (.slice 59) := by kernel_rfl
theorem iInZ : (Tryd.prog.info? 57).map (fun i => (i.zero.map (·.cells.size), i.size)) = some (some 35, 35) := by kernel_rfl
theorem iOutZ : (Tryd.prog.info? 59).map (fun i => (i.zero.map (·.cells.size), i.size)) = some (some 33, 33) := by kernel_rfl
/-- The document's example. -/
def inE : InD := ⟨List.replicate 32 0, 0, 5, []⟩
def outE : OutD := ⟨List.replicate 32 0, 5⟩
def txE : TxD := ⟨[inE], [outE], 0, 0⟩
theorem zr32 : ∀ x ∈ List.replicate 32 (0 : Int), 0 ≤ x ∧ x ≤ 255 := fun x hx => by
  have := List.eq_of_mem_replicate hx
  omega
theorem inE_bd : inE.Bd := ⟨by simp [inE], zr32, by simp [inE], by simp [inE], by simp [inE]⟩
theorem outE_bd : outE.Bd := ⟨by simp [outE], zr32, by simp [outE]⟩
theorem txE_bd : txE.Bd := ⟨fun i hi => by simp only [txE, List.mem_singleton] at hi; subst hi; exact inE_bd, fun o ho => by simp only [txE, List.mem_singleton] at ho; subst ho; exact outE_bd, by simp [txE], by simp [txE]⟩
theorem bdIn_e (w : World) : (BDs 57 #[(1, .int .u64 5)]).run Tryd.prog w = .ok (.agg (inV inE none 0).toArray) w := by kernel_rfl
theorem bdOut_e (w : World) : (BDs 59 #[(1, .int .u64 5)]).run Tryd.prog w = .ok (.agg (outV outE).toArray) w := by kernel_rfl
theorem bdPt_3 (w : World) : (BDs 25 #[(1, .int .i64 3)]).run Tryd.prog w = .ok (.agg (ptL (List.replicate 32 0) 3).toArray) w := by kernel_rfl
theorem bdPt_0 (w : World) : (BDs 25 #[]).run Tryd.prog w = .ok (.agg (ptL (List.replicate 32 0) 0).toArray) w := by kernel_rfl
theorem txE_check : checkP txE = 0 := by decide
theorem ofO_one (tx : List Int) (ix : Int) : ofO tx ix 1 = 0 := by
  unfold ofO
  split
  · exact Int.emod_one _
  · rfl
theorem insE : insP txE 1 = [0] := by
  unfold insP
  rw [if_pos ⟨txE_check, rfl⟩]
  simp [txE, ofO_one]
theorem eachE : eachP (insP txE 1) = [0] := by
  rw [insE]
  decide
attribute [local go_sem ↓] bdIn_of bdOut_of bsIn_of bsOut_of bdPt_of

set_option maxHeartbeats 4000000 in
theorem awake8 (w : World) (hg : Glob w) : Calls Tryd.prog 9 #[] w fun e w' => e = .returned (.bool true) ∧ Below w.heap.size w w' := by
  have m1 := mof_any (List.replicate 32 0) (by simp) zr32 3 1 (by omega) (by omega) w hg
  have m2 := fun X (hX : Below w.heap.size w X) => mof_any (List.replicate 32 0) (by simp) zr32 0 0 (by omega) (by omega) X (hg.below hX)
  rw [ofO_one, show okO 3 1 = true from rfl] at m1
  simp only [show okO 0 0 = false from rfl, show ofO (List.replicate 32 0) 0 0 = 0 from rfl] at m2
  have hp3 := bdPt_3
  have hp0 := bdPt_0
  have hin := bdIn_e
  have hout := bdOut_e
  have hbi := fun X => BSs_one (P := Tryd.prog) uInS iInZ (by omega) (by omega) X (.agg (inV inE none 0).toArray) (by simp [Value.cells, inV_len inE_bd])
  have hbo := fun X => BSs_one (P := Tryd.prog) uOutS iOutZ (by omega) (by omega) X (.agg (outV outE).toArray) (by simp [Value.cells, outV_len outE_bd])
  simp only [Value.cells] at hbi hbo
  obtain ⟨p3, hp3e⟩ : ∃ p3, (ptL (List.replicate 32 0) 3).toArray = p3 := ⟨_, rfl⟩
  obtain ⟨p0, hp0e⟩ : ∃ p0, (ptL (List.replicate 32 0) 0).toArray = p0 := ⟨_, rfl⟩
  obtain ⟨xi, hxi⟩ : ∃ xi, (inV inE none 0).toArray = xi := ⟨_, rfl⟩
  obtain ⟨xo, hxo⟩ : ∃ xo, (outV outE).toArray = xo := ⟨_, rfl⟩
  rw [hp3e] at m1
  simp only [hp3e] at hp3
  simp only [hp0e] at m2 hp0
  simp only [hxi] at hin hbi
  simp only [hxo] at hout hbo
  have HXI := Lib.hid hxi
  have HXO := Lib.hid hxo
  have M2 := Lib.hid m2
  have HG := Lib.hid hg
  clear hp3e hp0e hxi hxo m2 hg
  go_enter Tryd.func9, Tryd.ntmps9
  go_wp2_with fail
  with_reducible refine m1.mono ?_
  rintro e w1 ⟨rfl, hB1⟩
  have m2 := M2.out w1 hB1
  have HB1 := Lib.hid hB1
  clear hB1 m1
  go_wp2_with fail
  with_reducible refine m2.mono ?_
  rintro e w2 ⟨rfl, hB2⟩
  have HB2 := Lib.hid (HB1.out.trans (hB2.mono HB1.out.size))
  clear hB2 m2
  go_wp2_with fail
  have bi := (Blk.new w2 57 xi).alloc (.cells xo 59)
  have bo := Blk.new (w2.alloc (.cells xi 57)) 59 xo
  have B3 : Below w2.heap.size w2 ((w2.alloc (.cells xi 57)).alloc (.cells xo 59)) := ((Below.refl _ w2).alloc (Nat.le_refl _) _).alloc (by simp) _
  simp only [World.size_alloc] at bo
  obtain ⟨X, hX⟩ : ∃ X, (w2.alloc (.cells xi 57)).alloc (.cells xo 59) = X := ⟨_, rfl⟩
  rw [hX] at bi bo B3
  have hB3 := HB2.out.trans (B3.mono HB2.out.size)
  have hT : TxAt X (some ⟨w2.heap.size, 0, none⟩) (some ⟨w2.heap.size + 1, 0, none⟩) txE := by
    refine ⟨fun j hj => ?_, fun j hj => ?_, txE_bd⟩
    · obtain rfl : j = 0 := by simpa [txE] using hj
      refine ⟨_, 0, none, 0, rfl, bi.lt, ⟨fun k x hx => ?_, Byt.nil _ _, Nat.le_refl _, fun _ => rfl, by simp [txE, inE]⟩⟩
      rw [show 0 + 0 * 35 + k = k by omega, bi.cell k, ← HXI.out]
      simpa [txE] using hx
    · obtain rfl : j = 0 := by simpa [txE] using hj
      refine ⟨_, 0, rfl, bo.lt, fun k x hx => ?_⟩
      rw [show 0 + 0 * 33 + k = k by omega, bo.cell k, ← HXO.out]
      simpa [txE] using hx
  have hmi := mins_any (some ⟨w2.heap.size, 0, none⟩) 1 (some ⟨w2.heap.size + 1, 0, none⟩) 1 txE 1 (by omega) X hT (HG.out.below hB3) (by simp [txE]) (by simp [txE])
  rw [eachE] at hmi
  unfold txV at hmi
  simp only [show txE.ins.length = 1 from rfl, show txE.outs.length = 1 from rfl, show txE.fee = 0 from rfl, show txE.exp = 0 from rfl, show ([0] : List Int).length = 1 from rfl] at hmi
  have HB3 := Lib.hid hB3
  have HX := Lib.hid hX
  clear bi bo B3 hX hB3 hT hin hout hbi hbo hp3 hp0
  rw [HX.out]
  with_reducible refine hmi.mono ?_
  rintro e w3 ⟨A, c, rfl, hr, hB4⟩
  have HB4 := Lib.hid (HB3.out.trans (hB4.mono HB3.out.size))
  clear hr hB4 hmi
  go_wp2_with fail
  go_ret
  exact ⟨rfl, HB4.out⟩
end Go.Proofs.YtmflhidmhefljaaDoor
