/-
  field.Read's deferred closure: a broken field is caught.
-/
import Derived.Test.YtohadeijmmmcdaaDoorEye
import Derived.Defers
import Derived.Recover
namespace Go.Proofs.YtohadeijmmmcdaaDoor
open Go.RowKit
set_option maxRecDepth 100000

set_option maxHeartbeats 2000000 in
theorem catch_idle (q : Addr) (w : World) :
    CallsD Tryd.prog 99 #[.pointer (some q)] .returning w fun e u' w' => e = .returned (.tuple #[]) ∧ u' = .returning ∧ w' = w := by
  have hq : ∀ W : World, (binOp .eql 20 .nilIface .nilIface).run Tryd.prog W = .ok (.bool true) W := fun W => by kernel_rfl
  refine callsD_of_wpS Tryd.func99 rfl fun c₀ cs hu => ?_
  apply wpS_seq
  apply wpS_region
  simp [wpOpsS, go_sem, recoverD, hu, Tryd.ntmps99, Exit.thenS]
  apply wpS_seq
  apply wpS_seq
  apply wpS_region
  simp [wpOpsS, go_sem, Exit.thenS, hq]
  refine wpS_cond (t := true) (by simp [Act.eval, Array.replicate]) ?_
  simp only [if_true]
  refine wpS_of_wp (wp_ret ?_)
  cases c₀
  simp_all [bodyPostS, results, Tryd.results99, Exit.thenS]

end Go.Proofs.YtohadeijmmmcdaaDoor
