/-
  The document's settle: One.
-/
import Derived.Test.YtmflhidmhefljaaGreatDoorJRSetB

namespace Go.Proofs.YtmflhidmhefljaaGreatDoor
open Go.RowKit Go.Shelf
set_option maxRecDepth 100000
attribute [local go_sem ↓] ldTx_of ldCert_of stCert_of alCert_of ld123 st123 al123 ldEnt_of stEnt_of alEnt_of neId_of

theorem ins_contains (t : TxD) (n : Int) (x : Int) : (eachP (insP t n)).contains x = (insP t n).contains x := by
  have hb : ∀ y ∈ insP t n, 0 ≤ y ∧ y < 64 := by
    intro y hy
    unfold insP at hy
    split at hy
    · rename_i h
      obtain ⟨i, _, rfl⟩ := List.mem_map.1 hy
      have := ofO_bd i.tx i.ix n h.2
      omega
    · cases hy
  rw [Bool.eq_iff_iff, List.contains_iff_mem, List.contains_iff_mem, eachP_mem]
  constructor
  · exact fun h => h.1
  · exact fun h => ⟨h, hb x h⟩

end Go.Proofs.YtmflhidmhefljaaGreatDoor
