/-
  The document's example.
-/
import Derived.Test.YtohadeijmmmcdaaDrumH
namespace Go.Proofs.Ytohadeijmmmcdaa
open Go.RowKit

theorem new_drum (n : Nat) (w : World) (h1 : 1 ≤ n) (h2 : n ≤ 8192) :
    Calls Try.prog 8 #[.int .i64 (n : Int)] w fun e w' => e = .returned (.pointer (some ⟨w.heap.size + 1, 0, none⟩)) ∧
      IsDrum w.heap.size w' (w.heap.size + 1) w.heap.size (.slice none 0 0) (DS.new n) ∧ Below w.heap.size w w' := by
  refine (new_some n w h1 h2).mono ?_
  rintro e w' ⟨rfl, hd, hb, hf⟩
  refine ⟨rfl, ⟨DS.new_ok h1 h2, by omega, Nat.le_refl _, by simpa [DS.new] using hd, ?_, World.ownsRow_nil _ _ _ _⟩, hf.below (Nat.le_refl _) (fun _ _ f => f)⟩
  have e : bys (DS.new n).sure.flatten = List.replicate (n * 64) (Value.int .u8 0) := by
    show bys (List.replicate n (List.replicate 64 0)).flatten = _
    rw [List.flatten_replicate_replicate]
    exact List.map_replicate
  rw [e]
  exact hb

/-- A drum's frame is over B. -/
theorem IsDrum.below {B : Nat} {w w' : World} {p gs : Nat} {wv : Value} {S : DS} (h : IsDrum B w p gs wv S) (hf : Fr (DF p gs wv) w w') {B' : Nat} (hB : B' ≤ B) (hw : B' ≤ w.heap.size) : Below B' w w' :=
  hf.below hw (fun k hk hd => by have := (h.lt hd).1; omega)

/-- The example's drum, behind its Start. -/
def exS : DS := ((DS.new 2).write 0 (List.replicate 64 255)).2.start [5]
theorem exS_now : (exS.now 0)[0]? = some 255 ∧ (exS.now 0)[7]? = some 255 ∧ (exS.now 0)[8]? = some 0 ∧ (exS.now 0)[16]? = some 255 ∧ (exS.now 0)[24]? = some 0 := by decide +kernel

set_option maxHeartbeats 2000000 in
theorem awake_any (w : World) : Calls Try.prog 7 #[] w fun e w' => e = .returned (.bool true) ∧ Below w.heap.size w w' := by
  go_enter Try.func7, Try.ntmps7
  go_wp2_with fail
  refine (new_drum 2 w (by omega) (by omega)).mono ?_
  rintro e w1 ⟨rfl, hd1, hb1⟩
  have hst : DrumB w1 (w.heap.size + 1) (.slice (some ⟨w.heap.size, 0, none⟩) 2 2) (.slice none 0 0) 0 false := hd1.st
  have hlen := len_any _ _ 2 _ _ _ w1 hst
  have hon := on_any _ _ _ _ _ w1 hst
  have HD1 := Lib.hid hd1
  have HB1 := Lib.hid hb1
  clear hd1 hb1 hst
  go_wp2_with fail
  refine hlen.mono ?_
  rintro e w2 ⟨rfl, rfl⟩
  go_wp2_with fail
  refine hon.mono ?_
  rintro e w2 ⟨rfl, rfl⟩
  clear hlen hon
  go_wp2_with fail
  refine (full_any 255 w1).mono ?_
  rintro e w2 ⟨rfl, hb, hbl⟩
  have hd2 : IsDrum w.heap.size w2 (w.heap.size + 1) w.heap.size (.slice none 0 0) (DS.new 2) := HD1.out.fr (Fr.of_below hbl) (fun k hk h => by have := (HD1.out.lt hk).2; omega)
  have hB2 : Below w.heap.size w w2 := HB1.out.trans (hbl.mono HB1.out.size)
  have hwr := write_any w.heap.size _ _ _ (DS.new 2) 0 _ 64 (List.replicate 64 255) w2 hd2 (hb.byt (by simp)) (fun a e => by cases e; have := (HD1.out.lt (.inl rfl)).2; simp; omega) (by decide) hB2.size
  have HD2 := Lib.hid hd2
  have HB2 := Lib.hid hB2
  clear hb hbl hd2 hB2
  have hwr' := hwr
  simp only [List.length_replicate] at hwr'
  clear hwr
  go_wp2_with fail
  refine hwr'.mono ?_
  clear hwr'
  rintro e w3 ⟨rfl, ⟨wv3, hd3, -⟩, hf3⟩
  have hB3 : Below w.heap.size w w3 := HB2.out.trans (HD2.out.below hf3 (Nat.le_refl _) HB2.out.size)
  have e0 : ((DS.new 2).write 0 (List.replicate 64 255)).1 = 0 := by decide +kernel
  rw [e0]
  have HD3 := Lib.hid hd3
  have HB3 := Lib.hid hB3
  clear hd3 hf3 hB3 e0
  have hdA : IsDrum w.heap.size (w3.alloc (.cells #[.int .u8 5] 5)) (w.heap.size + 1) w.heap.size wv3 ((DS.new 2).write 0 (List.replicate 64 255)).2 :=
    HD3.out.fr ((Fr.refl (fun _ => False) _).alloc _) (fun k hk f => f)
  have hby : Byt (w3.alloc (.cells #[.int .u8 5] 5)) (some ⟨w3.heap.size, 0, none⟩) [5] := Blk.byt (l := [5]) (Blk.new w3 5 _) (by simp)
  have hstart := start_any w.heap.size _ _ wv3 _ _ 1 [5] _ hdA hby (fun a e _ hd => by cases e; have := (HD3.out.lt hd).2; simp at this) (by decide) (by decide)
  have HBA : Below w.heap.size w (w3.alloc (.cells #[.int .u8 5] 5)) := HB3.out.alloc HB3.out.size _
  have HDA := Lib.hid hdA
  have HBB := Lib.hid HBA
  have hstart' := hstart
  simp only [List.length_cons, List.length_nil, Nat.zero_add] at hstart'
  clear hdA hby hstart HBA
  go_wp2_with fail
  refine hstart'.mono ?_
  clear hstart'
  rintro e w4 ⟨rfl, hd4, hf4⟩
  have hB4 : Below w.heap.size w w4 := HBB.out.trans (HDA.out.below hf4 (Nat.le_refl _) HBB.out.size)
  have hrd := read_ok w.heap.size _ _ _ exS 0 w4 hd4 rfl (by decide +kernel) (by decide +kernel)
  have HB4 := Lib.hid hB4
  clear hd4 hf4 hB4
  go_wp2_with fail
  refine hrd.mono ?_
  clear hrd
  rintro e w5 ⟨g, rfl, hb5, hg5, hbl5⟩
  obtain ⟨x0, x7, x8, x16, x24⟩ := exS_now
  have c0 : w5.cell? ⟨g, 0, none⟩ = some (.int .u8 255) := by rw [hb5.cell]; simp [bys_get, x0]
  have c7 : w5.cell? ⟨g, 7, none⟩ = some (.int .u8 255) := by rw [hb5.cell]; simp [bys_get, x7]
  have c8 : w5.cell? ⟨g, 8, none⟩ = some (.int .u8 0) := by rw [hb5.cell]; simp [bys_get, x8]
  have c16 : w5.cell? ⟨g, 16, none⟩ = some (.int .u8 255) := by rw [hb5.cell]; simp [bys_get, x16]
  have c24 : w5.cell? ⟨g, 24, none⟩ = some (.int .u8 0) := by rw [hb5.cell]; simp [bys_get, x24]
  have HBL := Lib.hid hbl5
  clear hb5 hg5 hbl5 x0 x7 x8 x16 x24
  go_wp2_with fail
  go_ret
  exact ⟨rfl, HB4.out.trans (HBL.out.mono HB4.out.size)⟩

end Go.Proofs.Ytohadeijmmmcdaa
