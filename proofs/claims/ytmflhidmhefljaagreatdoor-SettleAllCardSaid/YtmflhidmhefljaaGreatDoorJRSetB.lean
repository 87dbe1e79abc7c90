/-
  The document's settle: All.
-/
import Derived.Test.YtmflhidmhefljaaGreatDoorJRSetA

namespace Go.Proofs.YtmflhidmhefljaaGreatDoor
open Go.RowKit Go.Shelf
set_option maxRecDepth 100000
theorem stEnt_of (v x : Value) : Instr.storeAt 43 v x = STs 43 v x := rfl
theorem alEnt_of : Instr.alloc 43 true (.tuple #[]) = ALs 43 := rfl
attribute [local go_sem ↓] ldTx_of ldCert_of stCert_of alCert_of ld123 st123 al123 ldEnt_of stEnt_of alEnt_of neId_of

theorem certV_pre {c : CertD} (_h : c.Bd) (A : Option Addr) (cap : Nat) {j : Nat} {v : Value} (hv : (entV c.e)[j]? = some v) : (certV c A cap)[j]? = some v := by
  have hj : j < (entV c.e).length := (List.getElem?_eq_some_iff.1 hv).1
  rw [certV_eq, List.getElem?_append_left hj]
  exact hv
theorem entV_txd {e : EntD} (h : e.Bd) : ((entV e).drop 2).take 32 = bys e.tx := by
  have h1 : (bys e.tx).length = 32 := by rw [bys_length, h.tx.1]
  unfold entV
  simp only [List.cons_append, List.nil_append, List.drop_succ_cons, List.drop_zero]
  rw [List.take_append_of_le_length (by omega), List.take_of_length_le (by omega)]

end Go.Proofs.YtmflhidmhefljaaGreatDoor
