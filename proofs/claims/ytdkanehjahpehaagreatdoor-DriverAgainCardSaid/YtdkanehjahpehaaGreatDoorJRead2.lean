/-
  field.Read's deferred closure: a broken field is caught.
  field.Read's deferred closure: a broken field is caught.
  field.Read with scroll.read's closure.
-/
import Derived.Test.YtdkanehjahpehaaGreatDoorJEye
import Derived.Defers
import Derived.Recover

section
namespace Go.Proofs.YtdkanehjahpehaaGreatDoor
open Go.RowKit
set_option maxRecDepth 100000

set_option maxHeartbeats 2000000 in
theorem catch_idle (q : Addr) (w : World) :
    CallsD Tryz.prog 106 #[.pointer (some q)] .returning w fun e u' w' => e = .returned (.tuple #[]) ∧ u' = .returning ∧ w' = w := by
  have hq : ∀ W : World, (binOp .eql 20 .nilIface .nilIface).run Tryz.prog W = .ok (.bool true) W := fun W => by kernel_rfl
  refine callsD_of_wpS Tryz.func106 rfl fun c₀ cs hu => ?_
  apply wpS_seq
  apply wpS_region
  simp [wpOpsS, go_sem, recoverD, hu, Tryz.ntmps106, Exit.thenS]
  apply wpS_seq
  apply wpS_seq
  apply wpS_region
  simp [wpOpsS, go_sem, Exit.thenS, hq]
  refine wpS_cond (t := true) (by simp [Act.eval, Array.replicate]) ?_
  simp only [if_true]
  refine wpS_of_wp (wp_ret ?_)
  cases c₀
  simp_all [bodyPostS, results, Tryz.results106, Exit.thenS]

end Go.Proofs.YtdkanehjahpehaaGreatDoor
end

section
namespace Go.Proofs.YtdkanehjahpehaaGreatDoor
open Go.RowKit
set_option maxRecDepth 100000

/-- A type assertion, kept shut. -/
def TAs (v : Value) (x t : TypeId) (ok : Bool) : Sem Value := Instr.typeAssert v x t ok
theorem TAs_of (v : Value) (x t : TypeId) (ok : Bool) : Instr.typeAssert v x t ok = TAs v x t ok := rfl
theorem ta_broken (x : Int) (W : World) : (TAs (brokenV x) 20 200 true).run Tryz.prog W = .ok (.tuple #[.agg #[.int .i64 x], .bool true]) W := by rfl
attribute [local go_sem ↓] TAs_of

theorem ld160_of (v : Value) : Instr.loadAt 200 v = LDs 200 v := rfl
theorem st160_of (v x : Value) : Instr.storeAt 200 v x = STs 200 v x := rfl
theorem al160_of : Instr.alloc 200 true (.tuple #[]) = ALs 200 := rfl
attribute [local go_sem ↓] ld160_of st160_of al160_of
theorem i160 : (Tryz.prog.info? 200).map (·.size) = some 1 := by kernel_rfl
theorem z160 : (Tryz.prog.info? 200).bind (·.zero) = some (.agg #[.int .i64 0]) := by kernel_rfl

set_option maxHeartbeats 2000000 in
theorem catch_broken (q : Nat) (x y : Int) (w : World) (hb : Blk w q 53 #[.int .i64 y]) :
    CallsD Tryz.prog 106 #[.pointer (some ⟨q, 0, none⟩)] (.panicking [{ v := brokenV x, recovered := false }]) w fun e u' w' =>
      e = .returned (.tuple #[]) ∧ u' = .panicking [{ v := brokenV x, recovered := true }] ∧ Blk w' q 53 #[.int .i64 x] ∧ Fr (fun k => k = q) w w' := by
  have hq : ∀ W : World, (binOp .eql 20 (brokenV x) .nilIface).run Tryz.prog W = .ok (.bool false) W := fun W => by rfl
  have hq2 : ∀ W : World, (eqGuard .eql 20 (Operand.tmp 5) (Operand.const Value.nilIface) (brokenV x) .nilIface).run Tryz.prog W = .ok () W := fun W => by rfl
  have k : (w.alloc (.cells #[.int .i64 x] 200)).cell? ⟨q, 0, none⟩ = some (.int .i64 y) := (hb.alloc _).cell 0
  have f := (hb.alloc (.cells #[.int .i64 x] 200)).frozen 0
  have HB := Lib.hid hb
  clear hb
  have hta := ta_broken x
  have hal : ∀ W : World, (ALs 200).run Tryz.prog W = .ok (.pointer (some ⟨W.heap.size, 0, none⟩)) (W.alloc (.cells #[.int .i64 0] 200)) := fun W => ALs_new _ z160 W
  have hst : ∀ W : World, (STs 200 (.pointer (some ⟨W.heap.size, 0, none⟩)) (.agg #[.int .i64 x])).run Tryz.prog (W.alloc (.cells #[.int .i64 0] 200)) = .ok () (W.alloc (.cells #[.int .i64 x] 200)) := fun W =>
    STs_new i160 W #[.int .i64 0] rfl [.int .i64 x] rfl (by intro v hv; simp at hv; subst hv; rfl)
  obtain ⟨bv, hbv⟩ : ∃ bv, brokenV x = bv := ⟨_, rfl⟩
  rw [hbv] at hq hq2 hta ⊢
  clear hbv
  refine callsD_of_wpS Tryz.func106 rfl fun c₀ cs hu => ?_
  apply wpS_seq
  apply wpS_region
  simp [wpOpsS, go_sem, recoverD, hu, Tryz.ntmps106, Exit.thenS]
  apply wpS_seq
  apply wpS_seq
  apply wpS_region
  simp [wpOpsS, go_sem, Exit.thenS, hq, hq2]
  refine wpS_cond (t := false) (by simp [Act.eval, Array.replicate]) ?_
  simp only [Bool.false_eq_true, if_false]
  refine wpS_of_wp (wp_skip ?_)
  refine wpS_of_wp ?_
  simp only [Array.replicate_succ, Array.replicate_zero, List.push_toArray, List.append_toArray, List.nil_append, List.cons_append, List.setIfInBounds_toArray, List.set_cons_zero, List.set_cons_succ]
  clear hq hq2
  go_wp2_with fail
  cases c₀
  have hfin : Blk ((w.alloc (.cells #[.int .i64 x] 200)).setCell ⟨q, 0, none⟩ (.int .i64 x)) q 53 #[.int .i64 x] := by simpa using (HB.out.alloc (.cells #[.int .i64 x] 200)).set_ 0 (.int .i64 x)
  have hfr : Fr (fun k => k = q) w ((w.alloc (.cells #[.int .i64 x] 200)).setCell ⟨q, 0, none⟩ (.int .i64 x)) := ((Fr.refl (fun k => k = q) w).alloc _).setCell (p := ⟨q, 0, none⟩) (fun _ => rfl) _
  first
    | exact ⟨rfl, _, rfl, _, results_none rfl _ _ _, rfl, rfl, hfin, hfr⟩
    | exact ⟨trivial, _, rfl, _, results_none rfl _ _ _, rfl, rfl, hfin, hfr⟩

end Go.Proofs.YtdkanehjahpehaaGreatDoor
end

section
namespace Go.Proofs.YtdkanehjahpehaaGreatDoor
open Go.RowKit
set_option maxRecDepth 100000

end Go.Proofs.YtdkanehjahpehaaGreatDoor
end
