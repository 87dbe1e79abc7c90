/-
  The drum's small functions: is, burns, On, Len, Fuse, Fail, New.
-/
import Derived.Test.YtohadeijmmmcdaaDoorBase
import Derived.Test.YtohadeijmmmcdaaDoorChecked
namespace Go.Proofs.YtohadeijmmmcdaaDoor
open Go.RowKit

/-- The drum's struct. -/
def DrumB (w : World) (p : Nat) (sv wv : Value) (fuse : Int) (off : Bool) : Prop := Blk w p 108 #[sv, wv, .int .i64 fuse, .bool off]

section
variable {w : World} {p : Nat} {sv wv : Value} {fuse : Int} {off : Bool}
theorem DrumB.c0 (h : DrumB w p sv wv fuse off) : w.cell? ⟨p, 0, none⟩ = some sv := (Blk.cell h 0)
theorem DrumB.c1 (h : DrumB w p sv wv fuse off) : w.cell? ⟨p, 1, none⟩ = some wv := (Blk.cell h 1)
theorem DrumB.c2 (h : DrumB w p sv wv fuse off) : w.cell? ⟨p, 2, none⟩ = some (.int .i64 fuse) := (Blk.cell h 2)
theorem DrumB.c3 (h : DrumB w p sv wv fuse off) : w.cell? ⟨p, 3, none⟩ = some (.bool off) := (Blk.cell h 3)
end

set_option maxHeartbeats 400000 in
theorem is_yes (p gs n : Nat) (wv : Value) (fuse : Int) (off : Bool) (k : Int) (w : World) (h : DrumB w p (.slice (some ⟨gs, 0, none⟩) n n) wv fuse off) (h0 : 0 ≤ k) (h1 : k < n) :
    Calls Tryd.prog 65 #[.pointer (some ⟨p, 0, none⟩), .int .i64 k] w fun e w' => e = .returned (.bool true) ∧ w = w' := by
  have c0 := h.c0
  clear h
  have hb : decide ((0 : Int) ≤ k) = true := by simpa using h0
  have hc : decide (k < (n : Int)) = true := by simpa using h1
  go_enter Tryd.func65, Tryd.ntmps65
  go_wp2
  go_ret
  exact ⟨rfl, rfl⟩

set_option maxHeartbeats 400000 in
theorem is_no (p gs n : Nat) (wv : Value) (fuse : Int) (off : Bool) (k : Int) (w : World) (h : DrumB w p (.slice (some ⟨gs, 0, none⟩) n n) wv fuse off) (h1 : k < 0 ∨ n ≤ k) :
    Calls Tryd.prog 65 #[.pointer (some ⟨p, 0, none⟩), .int .i64 k] w fun e w' => e = .returned (.bool false) ∧ w = w' := by
  have c0 := h.c0
  clear h
  by_cases h0 : 0 ≤ k
  · have hb : decide ((0 : Int) ≤ k) = true := by simpa using h0
    have hc : decide (k < (n : Int)) = false := by simp; omega
    clear h1
    go_enter Tryd.func65, Tryd.ntmps65
    go_wp2
    go_ret
    exact ⟨rfl, rfl⟩
  · have hb : decide ((0 : Int) ≤ k) = false := by simpa using h0
    clear h1
    go_enter Tryd.func65, Tryd.ntmps65
    go_wp2
    go_ret
    exact ⟨rfl, rfl⟩

/-- No fuse. -/
theorem burns_none (p : Nat) (sv wv : Value) (off : Bool) (w : World) (h : DrumB w p sv wv 0 off) :
    Calls Tryd.prog 66 #[.pointer (some ⟨p, 0, none⟩)] w fun e w' => e = .returned (.bool false) ∧ w = w' := by
  have c0 := h.c2
  clear h
  go_enter Tryd.func66, Tryd.ntmps66
  go_wp2
  go_ret
  exact ⟨rfl, rfl⟩

theorem DrumB.put (w : World) {p : Nat} {sv wv : Value} {fuse : Int} {off : Bool} (h : DrumB w p sv wv fuse off) (f' : Int) (o' : Bool) :
    DrumB ((w.setCell ⟨p, 2, none⟩ (.int .i64 f')).setCell ⟨p, 3, none⟩ (.bool o')) p sv wv f' o' := by
  have h1 := Blk.set_ (Blk.set_ h 2 (.int .i64 f')) 3 (.bool o')
  simpa [DrumB] using h1

/-- A fuse of 2 and more. -/
theorem burns_more (p : Nat) (sv wv : Value) (fuse : Int) (off : Bool) (w : World) (h : DrumB w p sv wv fuse off) (hf : 1 < fuse) (hm : fuse ≤ 9223372036854775807) :
    Calls Tryd.prog 66 #[.pointer (some ⟨p, 0, none⟩)] w fun e w' => e = .returned (.bool false) ∧ DrumB w' p sv wv (fuse - 1) false ∧ Fr (fun k => k = p) w w' := by
  have c2 := h.c2
  have c3 := h.c3
  have f2 := Blk.frozen h 2
  have f3 := Blk.frozen h 3
  have H := Lib.hid h
  have hF : Fr (fun k => k = p) w w := Fr.refl _ _
  have h0 : (fuse == 0) = false := by simp; omega
  have h00 : (fuse - 1 == 0) = false := by simp; omega
  clear h
  go_enter Tryd.func66, Tryd.ntmps66
  go_wp2
  go_ret
  exact ⟨rfl, H.out.put _ _ _, ((Fr.refl (fun k => k = p) _).setCell (p := ⟨p, 2, none⟩) (fun _ => rfl) _).setCell (p := ⟨p, 3, none⟩) (fun _ => rfl) _⟩

/-- A fuse of 1: the power fails. -/
theorem burns_one (p : Nat) (sv wv : Value) (off : Bool) (w : World) (h : DrumB w p sv wv 1 off) :
    Calls Tryd.prog 66 #[.pointer (some ⟨p, 0, none⟩)] w fun e w' => e = .returned (.bool true) ∧ DrumB w' p sv wv 0 true ∧ Fr (fun k => k = p) w w' := by
  have c2 := h.c2
  have c3 := h.c3
  have f2 := Blk.frozen h 2
  have f3 := Blk.frozen h 3
  have H := Lib.hid h
  clear h
  go_enter Tryd.func66, Tryd.ntmps66
  go_wp2
  go_ret
  exact ⟨rfl, H.out.put _ _ _, ((Fr.refl (fun k => k = p) _).setCell (p := ⟨p, 2, none⟩) (fun _ => rfl) _).setCell (p := ⟨p, 3, none⟩) (fun _ => rfl) _⟩

theorem on_any (p : Nat) (sv wv : Value) (fuse : Int) (off : Bool) (w : World) (h : DrumB w p sv wv fuse off) :
    Calls Tryd.prog 47 #[.pointer (some ⟨p, 0, none⟩)] w fun e w' => e = .returned (.bool (!off)) ∧ w = w' := by
  have c0 := h.c3
  clear h
  go_enter Tryd.func47, Tryd.ntmps47
  go_wp2
  go_ret
  exact ⟨rfl, rfl⟩

theorem len_any (p gs n : Nat) (wv : Value) (fuse : Int) (off : Bool) (w : World) (h : DrumB w p (.slice (some ⟨gs, 0, none⟩) n n) wv fuse off) :
    Calls Tryd.prog 72 #[.pointer (some ⟨p, 0, none⟩)] w fun e w' => e = .returned (.int .i64 n) ∧ w = w' := by
  have c0 := h.c0
  clear h
  go_enter Tryd.func72, Tryd.ntmps72
  go_wp2
  go_ret
  exact ⟨rfl, rfl⟩

theorem fail_any (p : Nat) (sv wv : Value) (fuse : Int) (off : Bool) (w : World) (h : DrumB w p sv wv fuse off) :
    Calls Tryd.prog 27 #[.pointer (some ⟨p, 0, none⟩)] w fun e w' => e = .returned (.tuple #[]) ∧ DrumB w' p sv wv fuse true ∧ Fr (fun k => k = p) w w' := by
  have c3 := h.c3
  have f3 := Blk.frozen h 3
  have H := Lib.hid h
  clear h
  go_enter Tryd.func27, Tryd.ntmps27
  go_wp2
  go_end0
  exact ⟨rfl, by simpa [DrumB] using Blk.set_ H.out 3 (.bool true), (Fr.refl (fun k => k = p) _).setCell (p := ⟨p, 3, none⟩) (fun _ => rfl) _⟩

theorem fuse_any (p : Nat) (sv wv : Value) (fuse : Int) (off : Bool) (n : Int) (w : World) (h : DrumB w p sv wv fuse off) :
    Calls Tryd.prog 30 #[.pointer (some ⟨p, 0, none⟩), .int .i64 n] w fun e w' => e = .returned (.tuple #[]) ∧ DrumB w' p sv wv (max n 0) off ∧ Fr (fun k => k = p) w w' := by
  have c2 := h.c2
  have f2 := Blk.frozen h 2
  have H := Lib.hid h
  clear h
  go_enter Tryd.func30, Tryd.ntmps30
  go_wp2
  all_goals
    go_end0
    refine ⟨rfl, ?_, (Fr.refl (fun k => k = p) _).setCell (p := ⟨p, 2, none⟩) (fun _ => rfl) _⟩
  · have : max n 0 = 0 := by omega
    rw [this]
    simpa [DrumB] using Blk.set_ H.out 2 (.int .i64 0)
  · have : max n 0 = n := by omega
    rw [this]
    simpa [DrumB] using Blk.set_ H.out 2 (.int .i64 n)

/-- New: outside. -/
theorem new_none (n : Int) (w : World) (h : n < 1 ∨ 8192 < n) :
    Calls Tryd.prog 18 #[.int .i64 n] w fun e w' => e = .returned (.pointer none) ∧ w = w' := by
  by_cases h1 : n < 1
  · have hb : decide (n < 1) = true := by simpa using h1
    clear h
    go_enter Tryd.func18, Tryd.ntmps18
    go_wp2
    go_ret
    exact ⟨rfl, rfl⟩
  · have hb : decide (n < 1) = false := by simpa using h1
    have hc : decide (8192 < n) = true := by simp; omega
    clear h
    go_enter Tryd.func18, Tryd.ntmps18
    go_wp2
    go_ret
    exact ⟨rfl, rfl⟩

theorem sec_info : (Tryd.prog.info? 119).map (fun i => ((i.zero.map Value.cells).map Array.toList, i.size, i.bytes)) = some (some (List.replicate 64 (.int .u8 0)), 64, 64) := by kernel_rfl

theorem made_eq (z : Array Value) (u : Value) (n m : Nat) (hz : z.toList = List.replicate m u) (hm : 0 < m) : (madeCells z n).toList = List.replicate n u := by
  have hzs : z.size = m := by rw [← Array.length_toList, hz]; simp
  unfold madeCells
  apply List.ext_getElem
  · simp
  · intro i h1 h2
    have hi : i % z.size < z.size := Nat.mod_lt _ (by omega)
    simp only [Array.toList_map, List.getElem_map, Array.toList_range, List.getElem_range, List.getElem_replicate]
    rw [getElem!_pos z _ hi]
    have : z.toList[i % z.size]'(by simpa using hi) = u := by simp [hz]
    simpa using this

/-- New. -/
theorem new_some (n : Nat) (w : World) (h1 : 1 ≤ n) (h2 : n ≤ 8192) :
    Calls Tryd.prog 18 #[.int .i64 (n : Int)] w fun e w' => e = .returned (.pointer (some ⟨w.heap.size + 1, 0, none⟩)) ∧
      DrumB w' (w.heap.size + 1) (.slice (some ⟨w.heap.size, 0, none⟩) n n) (.slice none 0 0) 0 false ∧
      Blk w' w.heap.size 119 (List.replicate (n * 64) (Value.int .u8 0)).toArray ∧ Fr (fun _ => False) w w' := by
  have hb : decide ((n : Int) < 1) = false := by simp; omega
  have hc : decide (8192 < (n : Int)) = false := by simp; omega
  obtain ⟨i, hi, hzz⟩ := Option.map_eq_some_iff.1 sec_info
  simp only [Prod.mk.injEq] at hzz
  obtain ⟨hz, hs, hby⟩ := hzz
  obtain ⟨zl, hz1, hz2⟩ := Option.map_eq_some_iff.1 hz
  obtain ⟨z, hz3, hz4⟩ := Option.map_eq_some_iff.1 hz1
  have hmk : ∀ w : World, (Instr.makeSlice 105 (.int .i64 (n : Int)) (.int .i64 (n : Int))).run Tryd.prog w = .ok (.slice (some ⟨w.heap.size, 0, none⟩) n n) (w.alloc (.cells (madeCells z.cells (n * 64)) 119)) := by
    intro w
    have hr := run_make (P := Tryd.prog) w 105 119 i z Tryd.underlying105 hi hz3 .i64 .i64 n n (by omega) (Int.le_refl _) (by rw [hby]; omega) (by omega)
    rw [hs] at hr
    simpa using hr
  have hcells : madeCells z.cells (n * 64) = (List.replicate (n * 64) (Value.int .u8 0)).toArray := by
    rw [← made_eq z.cells (.int .u8 0) (n * 64) 64 (by rw [hz4, hz2]) (by omega)]
  obtain ⟨C, hC⟩ : ∃ C, madeCells z.cells (n * 64) = C := ⟨_, rfl⟩
  rw [hC] at hmk hcells
  have HC := Lib.hid hcells
  clear hi hz hs hby hz1 hz2 hz3 hz4 hcells hC
  go_enter Tryd.func18, Tryd.ntmps18
  go_wp2
  go_ret
  refine ⟨rfl, ?_, ?_, ((Fr.refl _ w).alloc _).alloc _⟩
  · have := Blk.new (w.alloc (.cells C 119)) 108 #[.slice (some ⟨w.heap.size, 0, none⟩) n n, .slice none 0 0, .int .i64 0, .bool false]
    rw [World.size_alloc] at this
    exact this
  · rw [← HC.out]
    exact (Blk.new w _ C).alloc _

end Go.Proofs.YtohadeijmmmcdaaDoor
