/-
  A word turned; the words of the rounds.
-/
import Derived.Test.YtohadeijmmmcdaaDoorBase
import Derived.Test.YtohadeijmmmcdaaDoorChecked
import Derived.Test.YtohadeijmmmcdaaDoorShaP
namespace Go.Proofs.YtohadeijmmmcdaaDoor
open Go.RowKit
set_option maxRecDepth 100000

theorem turn_2 (x : Int) (w : World) :
    Calls Tryd.prog 111 #[.int .u32 x, .int .i64 2] w fun e w' => e = .returned (.int .u32 (rotP x 2)) ∧ w' = w := by
  have hs : bits BinOp.and IntKind.u64 (IntKind.u64.wrap (-2)) 31 = 30 := by decide +kernel
  go_enter Tryd.func111, Tryd.ntmps111
  go_wp2
  go_ret
  exact ⟨rfl, rfl⟩
theorem turn_6 (x : Int) (w : World) :
    Calls Tryd.prog 111 #[.int .u32 x, .int .i64 6] w fun e w' => e = .returned (.int .u32 (rotP x 6)) ∧ w' = w := by
  have hs : bits BinOp.and IntKind.u64 (IntKind.u64.wrap (-6)) 31 = 26 := by decide +kernel
  go_enter Tryd.func111, Tryd.ntmps111
  go_wp2
  go_ret
  exact ⟨rfl, rfl⟩
theorem turn_7 (x : Int) (w : World) :
    Calls Tryd.prog 111 #[.int .u32 x, .int .i64 7] w fun e w' => e = .returned (.int .u32 (rotP x 7)) ∧ w' = w := by
  have hs : bits BinOp.and IntKind.u64 (IntKind.u64.wrap (-7)) 31 = 25 := by decide +kernel
  go_enter Tryd.func111, Tryd.ntmps111
  go_wp2
  go_ret
  exact ⟨rfl, rfl⟩
theorem turn_11 (x : Int) (w : World) :
    Calls Tryd.prog 111 #[.int .u32 x, .int .i64 11] w fun e w' => e = .returned (.int .u32 (rotP x 11)) ∧ w' = w := by
  have hs : bits BinOp.and IntKind.u64 (IntKind.u64.wrap (-11)) 31 = 21 := by decide +kernel
  go_enter Tryd.func111, Tryd.ntmps111
  go_wp2
  go_ret
  exact ⟨rfl, rfl⟩
theorem turn_13 (x : Int) (w : World) :
    Calls Tryd.prog 111 #[.int .u32 x, .int .i64 13] w fun e w' => e = .returned (.int .u32 (rotP x 13)) ∧ w' = w := by
  have hs : bits BinOp.and IntKind.u64 (IntKind.u64.wrap (-13)) 31 = 19 := by decide +kernel
  go_enter Tryd.func111, Tryd.ntmps111
  go_wp2
  go_ret
  exact ⟨rfl, rfl⟩
theorem turn_17 (x : Int) (w : World) :
    Calls Tryd.prog 111 #[.int .u32 x, .int .i64 17] w fun e w' => e = .returned (.int .u32 (rotP x 17)) ∧ w' = w := by
  have hs : bits BinOp.and IntKind.u64 (IntKind.u64.wrap (-17)) 31 = 15 := by decide +kernel
  go_enter Tryd.func111, Tryd.ntmps111
  go_wp2
  go_ret
  exact ⟨rfl, rfl⟩
theorem turn_18 (x : Int) (w : World) :
    Calls Tryd.prog 111 #[.int .u32 x, .int .i64 18] w fun e w' => e = .returned (.int .u32 (rotP x 18)) ∧ w' = w := by
  have hs : bits BinOp.and IntKind.u64 (IntKind.u64.wrap (-18)) 31 = 14 := by decide +kernel
  go_enter Tryd.func111, Tryd.ntmps111
  go_wp2
  go_ret
  exact ⟨rfl, rfl⟩
theorem turn_19 (x : Int) (w : World) :
    Calls Tryd.prog 111 #[.int .u32 x, .int .i64 19] w fun e w' => e = .returned (.int .u32 (rotP x 19)) ∧ w' = w := by
  have hs : bits BinOp.and IntKind.u64 (IntKind.u64.wrap (-19)) 31 = 13 := by decide +kernel
  go_enter Tryd.func111, Tryd.ntmps111
  go_wp2
  go_ret
  exact ⟨rfl, rfl⟩
theorem turn_22 (x : Int) (w : World) :
    Calls Tryd.prog 111 #[.int .u32 x, .int .i64 22] w fun e w' => e = .returned (.int .u32 (rotP x 22)) ∧ w' = w := by
  have hs : bits BinOp.and IntKind.u64 (IntKind.u64.wrap (-22)) 31 = 10 := by decide +kernel
  go_enter Tryd.func111, Tryd.ntmps111
  go_wp2
  go_ret
  exact ⟨rfl, rfl⟩
theorem turn_25 (x : Int) (w : World) :
    Calls Tryd.prog 111 #[.int .u32 x, .int .i64 25] w fun e w' => e = .returned (.int .u32 (rotP x 25)) ∧ w' = w := by
  have hs : bits BinOp.and IntKind.u64 (IntKind.u64.wrap (-25)) 31 = 7 := by decide +kernel
  go_enter Tryd.func111, Tryd.ntmps111
  go_wp2
  go_ret
  exact ⟨rfl, rfl⟩

theorem turn_c (x n : Int) (hn : n = 2 ∨ n = 6 ∨ n = 7 ∨ n = 11 ∨ n = 13 ∨ n = 17 ∨ n = 18 ∨ n = 19 ∨ n = 22 ∨ n = 25) (w : World) :
    Calls Tryd.prog 111 #[.int .u32 x, .int .i64 n] w fun e w' => e = .returned (.int .u32 (rotP x n.toNat)) ∧ w' = w := by
  rcases hn with rfl | rfl | rfl | rfl | rfl | rfl | rfl | rfl | rfl | rfl
  · exact turn_2 x w
  · exact turn_6 x w
  · exact turn_7 x w
  · exact turn_11 x w
  · exact turn_13 x w
  · exact turn_17 x w
  · exact turn_18 x w
  · exact turn_19 x w
  · exact turn_22 x w
  · exact turn_25 x w

end Go.Proofs.YtohadeijmmmcdaaDoor
