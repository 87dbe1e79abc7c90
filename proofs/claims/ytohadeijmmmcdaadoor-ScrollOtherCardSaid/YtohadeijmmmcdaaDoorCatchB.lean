/-
  field.Read's deferred closure: a broken field is caught.
-/
import Derived.Test.YtohadeijmmmcdaaDoorEye
import Derived.Defers
import Derived.Recover
namespace Go.Proofs.YtohadeijmmmcdaaDoor
open Go.RowKit
set_option maxRecDepth 100000

/-- A type assertion, kept shut. -/
def TAs (v : Value) (x t : TypeId) (ok : Bool) : Sem Value := Instr.typeAssert v x t ok
theorem TAs_of (v : Value) (x t : TypeId) (ok : Bool) : Instr.typeAssert v x t ok = TAs v x t ok := rfl
theorem ta_broken (x : Int) (W : World) : (TAs (brokenV x) 20 160 true).run Tryd.prog W = .ok (.tuple #[.agg #[.int .i64 x], .bool true]) W := by rfl
attribute [local go_sem ↓] TAs_of

theorem ld160_of (v : Value) : Instr.loadAt 160 v = LDs 160 v := rfl
theorem st160_of (v x : Value) : Instr.storeAt 160 v x = STs 160 v x := rfl
theorem al160_of : Instr.alloc 160 true (.tuple #[]) = ALs 160 := rfl
attribute [local go_sem ↓] ld160_of st160_of al160_of
theorem i160 : (Tryd.prog.info? 160).map (·.size) = some 1 := by kernel_rfl
theorem z160 : (Tryd.prog.info? 160).bind (·.zero) = some (.agg #[.int .i64 0]) := by kernel_rfl

set_option maxHeartbeats 2000000 in
theorem catch_broken (q : Nat) (x y : Int) (w : World) (hb : Blk w q 24 #[.int .i64 y]) :
    CallsD Tryd.prog 99 #[.pointer (some ⟨q, 0, none⟩)] (.panicking [{ v := brokenV x, recovered := false }]) w fun e u' w' =>
      e = .returned (.tuple #[]) ∧ u' = .panicking [{ v := brokenV x, recovered := true }] ∧ Blk w' q 24 #[.int .i64 x] ∧ Fr (fun k => k = q) w w' := by
  have hq : ∀ W : World, (binOp .eql 20 (brokenV x) .nilIface).run Tryd.prog W = .ok (.bool false) W := fun W => by rfl
  have hq2 : ∀ W : World, (eqGuard .eql 20 (Operand.tmp 5) (Operand.const Value.nilIface) (brokenV x) .nilIface).run Tryd.prog W = .ok () W := fun W => by rfl
  have k : (w.alloc (.cells #[.int .i64 x] 160)).cell? ⟨q, 0, none⟩ = some (.int .i64 y) := (hb.alloc _).cell 0
  have f := (hb.alloc (.cells #[.int .i64 x] 160)).frozen 0
  have HB := Lib.hid hb
  clear hb
  have hta := ta_broken x
  have hal : ∀ W : World, (ALs 160).run Tryd.prog W = .ok (.pointer (some ⟨W.heap.size, 0, none⟩)) (W.alloc (.cells #[.int .i64 0] 160)) := fun W => ALs_new _ z160 W
  have hst : ∀ W : World, (STs 160 (.pointer (some ⟨W.heap.size, 0, none⟩)) (.agg #[.int .i64 x])).run Tryd.prog (W.alloc (.cells #[.int .i64 0] 160)) = .ok () (W.alloc (.cells #[.int .i64 x] 160)) := fun W =>
    STs_new i160 W #[.int .i64 0] rfl [.int .i64 x] rfl (by intro v hv; simp at hv; subst hv; rfl)
  obtain ⟨bv, hbv⟩ : ∃ bv, brokenV x = bv := ⟨_, rfl⟩
  rw [hbv] at hq hq2 hta ⊢
  clear hbv
  refine callsD_of_wpS Tryd.func99 rfl fun c₀ cs hu => ?_
  apply wpS_seq
  apply wpS_region
  simp [wpOpsS, go_sem, recoverD, hu, Tryd.ntmps99, Exit.thenS]
  apply wpS_seq
  apply wpS_seq
  apply wpS_region
  simp [wpOpsS, go_sem, Exit.thenS, hq, hq2]
  refine wpS_cond (t := false) (by simp [Act.eval, Array.replicate]) ?_
  simp only [Bool.false_eq_true, if_false]
  refine wpS_of_wp (wp_skip ?_)
  refine wpS_of_wp ?_
  simp only [Array.replicate_succ, Array.replicate_zero, List.push_toArray, List.append_toArray, List.nil_append, List.cons_append, List.setIfInBounds_toArray, List.set_cons_zero, List.set_cons_succ]
  clear hq hq2
  go_wp2_with fail
  cases c₀
  have hfin : Blk ((w.alloc (.cells #[.int .i64 x] 160)).setCell ⟨q, 0, none⟩ (.int .i64 x)) q 24 #[.int .i64 x] := by simpa using (HB.out.alloc (.cells #[.int .i64 x] 160)).set_ 0 (.int .i64 x)
  have hfr : Fr (fun k => k = q) w ((w.alloc (.cells #[.int .i64 x] 160)).setCell ⟨q, 0, none⟩ (.int .i64 x)) := ((Fr.refl (fun k => k = q) w).alloc _).setCell (p := ⟨q, 0, none⟩) (fun _ => rfl) _
  first
    | exact ⟨rfl, _, rfl, _, results_none rfl _ _ _, rfl, rfl, hfin, hfr⟩
    | exact ⟨trivial, _, rfl, _, results_none rfl _ _ _, rfl, rfl, hfin, hfr⟩

end Go.Proofs.YtohadeijmmmcdaaDoor
