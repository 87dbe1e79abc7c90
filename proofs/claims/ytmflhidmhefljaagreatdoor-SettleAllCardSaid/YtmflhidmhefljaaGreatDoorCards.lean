/-
  DERIVED. GIVEN WITH THE SEED: THE CARDS: each row of YtmflhidmhefljaaGreatDoorRows.lean that lists a variable, with what it lists TIED to the program's text (the seventh form; the later family's looks); each row that meets fmt, with fmt's text TOLD by the authors' own Lean function (tested against real Go, not proved from fmt's source: count such statements apart). THE CARD IS WHAT COUNTS. Prove the row's statement (the work); the ties are given (YtmflhidmhefljaaGreatDoorTie.lean); close each card by the builder's one call (the guide's Derived/Test/ToyasCard.lean, 'card_holds'). Laid BY PROGRAM, IN A SANDBOX (cutbox-door.mjs). By AI agents, Wed Nov 11 2026. No macro, syntax, notation, axiom, sorry.
-/
import Derived.Test.YtmflhidmhefljaaGreatDoorRows
import GoSem.ClaimSeven
namespace Go.Proofs.YtmflhidmhefljaaGreatDoor
namespace Rows

/-- THE TIED CARD OF 'seisinlaw23.SettleTells'. -/
def settleTellsCard : Claim7 := { stood := { row := settleTellsRow, standIns := [], harness := (true, "ee6a0739e227c908df3c08a015032dc61d01098b524b916ae56405195be0fe8f"), looks := false }, kinds := [], alts := [], laidByText := true, laidKinds := [.data, .data], laidTests := true, laidLooks := .later }
def SettleTellsCardSaid : Prop := Claim7.holds Tryz.pinned (.plain (OpenSpec.ofChange settleTellsSpec)) settleTellsCard

/-- THE TIED CARD OF 'seisinlaw23.SettleAll'. -/
def settleAllCard : Claim7 := { stood := { row := settleAllRow, standIns := [], harness := (true, "ee6a0739e227c908df3c08a015032dc61d01098b524b916ae56405195be0fe8f"), looks := false }, kinds := [], alts := [], laidByText := true, laidKinds := [.data, .data], laidTests := true, laidLooks := .later }
def SettleAllCardSaid : Prop := Claim7.holds Tryz.pinned (.plain (OpenSpec.ofChange settleAllSpec)) settleAllCard

/-- THE TIED CARD OF 'seisinlaw23.SettleOne'. -/
def settleOneCard : Claim7 := { stood := { row := settleOneRow, standIns := [], harness := (true, "ee6a0739e227c908df3c08a015032dc61d01098b524b916ae56405195be0fe8f"), looks := false }, kinds := [], alts := [], laidByText := true, laidKinds := [.data, .data], laidTests := true, laidLooks := .later }
def SettleOneCardSaid : Prop := Claim7.holds Tryz.pinned (.plain (OpenSpec.ofChange settleOneSpec)) settleOneCard

/-- THE TIED CARD OF 'seisinlaw23.SettleSum'. -/
def settleSumCard : Claim7 := { stood := { row := settleSumRow, standIns := [], harness := (true, "ee6a0739e227c908df3c08a015032dc61d01098b524b916ae56405195be0fe8f"), looks := false }, kinds := [], alts := [], laidByText := true, laidKinds := [.data, .data], laidTests := true, laidLooks := .later }
def SettleSumCardSaid : Prop := Claim7.holds Tryz.pinned (.plain (OpenSpec.ofChange settleSumSpec)) settleSumCard

/-- THE SECOND FORM's CARD OF 'seisinlaw23.SettleTells'. -/
def settleTellsUptoCard : Claim7 := { stood := { row := settleTellsUptoRow, standIns := [], harness := (true, "ee6a0739e227c908df3c08a015032dc61d01098b524b916ae56405195be0fe8f"), looks := false }, kinds := [], alts := [], laidByText := true, laidKinds := [.data, .data], laidTests := true, laidLooks := .later }
def SettleTellsUptoCardSaid : Prop := Claim7.holds Tryz.pinned (.plain (OpenSpec.upto settleTellsSpec)) settleTellsUptoCard

/-- THE SECOND FORM's CARD OF 'seisinlaw23.SettleAll'. -/
def settleAllUptoCard : Claim7 := { stood := { row := settleAllUptoRow, standIns := [], harness := (true, "ee6a0739e227c908df3c08a015032dc61d01098b524b916ae56405195be0fe8f"), looks := false }, kinds := [], alts := [], laidByText := true, laidKinds := [.data, .data], laidTests := true, laidLooks := .later }
def SettleAllUptoCardSaid : Prop := Claim7.holds Tryz.pinned (.plain (OpenSpec.upto settleAllSpec)) settleAllUptoCard

/-- THE SECOND FORM's CARD OF 'seisinlaw23.SettleOne'. -/
def settleOneUptoCard : Claim7 := { stood := { row := settleOneUptoRow, standIns := [], harness := (true, "ee6a0739e227c908df3c08a015032dc61d01098b524b916ae56405195be0fe8f"), looks := false }, kinds := [], alts := [], laidByText := true, laidKinds := [.data, .data], laidTests := true, laidLooks := .later }
def SettleOneUptoCardSaid : Prop := Claim7.holds Tryz.pinned (.plain (OpenSpec.upto settleOneSpec)) settleOneUptoCard

/-- THE SECOND FORM's CARD OF 'seisinlaw23.SettleSum'. -/
def settleSumUptoCard : Claim7 := { stood := { row := settleSumUptoRow, standIns := [], harness := (true, "ee6a0739e227c908df3c08a015032dc61d01098b524b916ae56405195be0fe8f"), looks := false }, kinds := [], alts := [], laidByText := true, laidKinds := [.data, .data], laidTests := true, laidLooks := .later }
def SettleSumUptoCardSaid : Prop := Claim7.holds Tryz.pinned (.plain (OpenSpec.upto settleSumSpec)) settleSumUptoCard
end Rows
end Go.Proofs.YtmflhidmhefljaaGreatDoor
