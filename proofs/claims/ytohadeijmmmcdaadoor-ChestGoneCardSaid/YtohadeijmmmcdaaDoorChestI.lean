/-
  seisinlaw14.awake.
-/
import Derived.Test.YtohadeijmmmcdaaDoorChestH
import Derived.Test.YtohadeijmmmcdaaDoorGoneW
namespace Go.Proofs.YtohadeijmmmcdaaDoor
open Go.RowKit
set_option maxRecDepth 100000

theorem peq65 (q : Nat) (W : World) : (binOp .eql 65 (.pointer (some ⟨q, 0, none⟩)) (.pointer none)).run Tryd.prog W = .ok (.bool false) W := by rfl

set_option maxHeartbeats 8000000 in
theorem awake14 (w : World) (hg : Glob w) : Calls Tryd.prog 34 #[] w fun e w' => e = .returned (.bool true) ∧ Below w.heap.size w w' := by
  have f3 := new_drum 7 w (by omega) (by omega)
  rw [show ((7 : Nat) : Int) = 7 from rfl] at f3
  have HG := Lib.hid hg
  clear hg
  go_enter Tryd.func34, Tryd.ntmps34
  go_wp2_with fail
  with_reducible refine f3.mono ?_
  rintro e w3 ⟨rfl, d3, c3⟩
  have at3 := At.new HG.out HG.out.size (Below.refl _ _) 7 d3 c3
  obtain ⟨T, e4, H4, l4, r4, _⟩ := copen_new (n := 7) (by omega) (by omega)
  have f4 := copen_c at3 rfl (by simp [DS.new]) (by simp [DS.new])
  rw [e4] at f4
  simp only [show (7 / 2 : Nat) = 3 from rfl] at f4 H4
  clear f3 d3 at3 c3 e4
  go_wp2_with fail
  with_reducible refine f4.mono ?_
  rintro e w4 (⟨_, r, rfl, ch4⟩ | ⟨h, _⟩)
  rotate_left
  focus exact absurd rfl h
  have f5 := copen_nil w4
  have pq := peq65 r
  clear f4
  go_wp2_with fail
  with_reducible refine f5.mono ?_
  rintro e w5 ⟨rfl, hw5⟩
  rw [← hw5]
  obtain ⟨q, k0, s4⟩ := ch4.scroll rfl
  have f6 := left_any q (w.heap.size + 1) _ (by simp) (by simp) w4 s4
  simp only at f6
  have HCH := Lib.hid ch4
  have HH4 := Lib.hid H4
  clear f5 hw5 ch4 s4 H4
  go_wp2_with fail
  with_reducible refine f6.mono ?_
  rintro e w6 ⟨rfl, k6, hw6⟩
  have ch6 := HCH.out.after (W' := w6) (by rw [hw6]; exact below_drewN (Below.refl _ _) _)
  obtain ⟨y7, b7⟩ := one_byte w6 (x := 5) (by omega)
  have ch7 := ch6.after b7
  have hrs := recS_one (a := 5) (t := 1) (n := 1) (by omega) (by omega)
  have f8 := kkeep_c ch7 (some ⟨w6.heap.size, 0, none⟩) 1 (by simp) [5] y7 (fun a ha _ => .inr (by cases ha; exact ⟨_, Blk.new w6 _ _⟩)) (by simp) (fun _ => by simp; omega) (by rw [l4]; simp) (by simp)
  obtain ⟨p1, p2, p3, p4, p5, p6⟩ := HH4.out.put (b := [5]) (formE_small (t := 1) (n := 1) (by omega) (by omega) (by simp)) (by simp only; rw [hrs]; omega)
  have hk : ckeepR ⟨0, 1, [], [], false⟩ ⟨0, 3, 1, 1, 1, false⟩ T [5] = (0, ⟨0, 1, [], [[5]], false⟩, ⟨0, 3, 1, 2, 2, false⟩, (putR ⟨0, 3, 1, 1, 1, false⟩ T [5]).2.2) := by
    unfold ckeepR
    rw [if_neg (by simp), if_pos p1, p2]
    simp [hrs]
  rw [hk] at f8
  simp only at f8
  rw [show ([5] : List Int).length = 1 from rfl] at f8
  clear f6 ch6 y7 b7 ch7 hrs p1 p2 p3 p4 p5 p6 hk hw6
  go_wp2_with fail
  with_reducible refine f8.mono ?_
  rintro e w8 ⟨rfl, ch8⟩
  obtain ⟨q8, k8, s8⟩ := ch8.scroll rfl
  have f9 := left_any q8 (w.heap.size + 1) _ (by simp) (by simp) w8 s8
  simp only at f9
  have HCH8 := Lib.hid ch8
  clear f8 ch8 s8
  go_wp2_with fail
  with_reducible refine f9.mono ?_
  rintro e w9 ⟨rfl, k9, hw9⟩
  have ch9 := HCH8.out.after (W' := w9) (by rw [hw9]; exact below_drewN (Below.refl _ _) _)
  have f10 := knotes_c ch9 (by simp) (by simp)
  clear f9 ch9 hw9
  go_wp2_with fail
  with_reducible refine f10.mono ?_
  rintro e w10 ⟨v10, rfl, o10, ch10, b10⟩
  (try simp only at o10)
  obtain ⟨A10, c10, rfl⟩ := o10.form
  obtain ⟨g, cap, y, e1, _, hgs, hcx, hox⟩ := o10.at_ (i := 0) (by simp)
  rw [show ([[5]] : List (List Int)).length = 1 from rfl] at e1 ⊢
  simp only [Value.slice.injEq] at e1
  obtain ⟨rfl, _, rfl⟩ := e1
  simp only [List.getElem_cons_zero] at hox
  obtain ⟨Ax, cx, rfl, hyx, _, _⟩ := hox.byt (by intro y hy; simp at hy; omega)
  rw [show ([5] : List Int).length = 1 from rfl] at hcx
  obtain ⟨gx, ox, rfl, hgx, hcc⟩ := hyx.cell (by simp)
  have hc5 := hcc 0 5 rfl
  rw [Nat.add_zero] at hc5
  have f11 := khead_c ch10 (by simp)
  have HCH10 := Lib.hid ch10
  clear f10 o10 ch10 b10 hox hyx hcc
  go_wp2_with fail
  with_reducible refine f11.mono ?_
  rintro e w11 ⟨v11, rfl, o11, ch11, b11⟩
  obtain ⟨A11, c11, rfl⟩ := o11.form
  (try simp only at o11)
  rw [show ([] : List Int).length = 0 from rfl]
  have HB := Lib.hid ch11.at_.below
  clear f11 o11 ch11 b11
  go_wp2_with fail
  go_ret
  exact ⟨rfl, HB.out⟩

end Go.Proofs.YtohadeijmmmcdaaDoor
