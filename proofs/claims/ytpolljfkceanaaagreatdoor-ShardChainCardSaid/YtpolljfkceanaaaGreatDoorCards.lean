/-
  DERIVED. GIVEN WITH THE SEED: THE CARDS: each row of YtpolljfkceanaaaGreatDoorRows.lean that lists a variable, with what it lists TIED to the program's text (the seventh form; the later family's looks); each row that meets fmt, with fmt's text TOLD by the authors' own Lean function (tested against real Go, not proved from fmt's source: count such statements apart). THE CARD IS WHAT COUNTS. Prove the row's statement (the work); the ties are given (YtpolljfkceanaaaGreatDoorTie.lean); close each card by the builder's one call (the guide's Derived/Test/ToyasCard.lean, 'card_holds'). Laid BY PROGRAM, IN A SANDBOX (cutbox-door.mjs). By AI agents, Wed Nov 11 2026. No macro, syntax, notation, axiom, sorry.
-/
import Derived.Test.YtpolljfkceanaaaGreatDoorRows
import GoSem.ClaimSeven
namespace Go.Proofs.YtpolljfkceanaaaGreatDoor
namespace Rows

/-- THE TIED CARD OF 'seisinlaw25.ShardPrunes'. -/
def shardPrunesCard : Claim7 := { stood := { row := shardPrunesRow, standIns := [], harness := (true, "f45e217fc232b6ec62c89a81bad1914443180bbd91f15decbef97d5b4b719de5"), looks := true }, kinds := [], alts := [], laidByText := true, laidKinds := [.data, .data], laidTests := true, laidLooks := .later }
def ShardPrunesCardSaid : Prop := Claim7.holds Tryz.pinned (.plain (OpenSpec.ofChange shardPrunesSpec)) shardPrunesCard

/-- THE TIED CARD OF 'seisinlaw25.ShardAlone'. -/
def shardAloneCard : Claim7 := { stood := { row := shardAloneRow, standIns := [], harness := (true, "f45e217fc232b6ec62c89a81bad1914443180bbd91f15decbef97d5b4b719de5"), looks := true }, kinds := [], alts := [], laidByText := true, laidKinds := [.data, .data], laidTests := true, laidLooks := .later }
def ShardAloneCardSaid : Prop := Claim7.holds Tryz.pinned (.plain (OpenSpec.ofChange shardAloneSpec)) shardAloneCard

/-- THE TIED CARD OF 'seisinlaw25.ShardDecides'. -/
def shardDecidesCard : Claim7 := { stood := { row := shardDecidesRow, standIns := [], harness := (true, "f45e217fc232b6ec62c89a81bad1914443180bbd91f15decbef97d5b4b719de5"), looks := true }, kinds := [], alts := [], laidByText := true, laidKinds := [.data, .data], laidTests := true, laidLooks := .later }
def ShardDecidesCardSaid : Prop := Claim7.holds Tryz.pinned (.plain (OpenSpec.ofChange shardDecidesSpec)) shardDecidesCard

/-- THE TIED CARD OF 'seisinlaw25.ShardChain'. -/
def shardChainCard : Claim7 := { stood := { row := shardChainRow, standIns := [], harness := (true, "f45e217fc232b6ec62c89a81bad1914443180bbd91f15decbef97d5b4b719de5"), looks := true }, kinds := [], alts := [], laidByText := true, laidKinds := [.data, .data], laidTests := true, laidLooks := .later }
def ShardChainCardSaid : Prop := Claim7.holds Tryz.pinned (.plain (OpenSpec.ofChange shardChainSpec)) shardChainCard

/-- THE TIED CARD OF 'seisinlaw25.ShardRefuses'. -/
def shardRefusesCard : Claim7 := { stood := { row := shardRefusesRow, standIns := [], harness := (true, "f45e217fc232b6ec62c89a81bad1914443180bbd91f15decbef97d5b4b719de5"), looks := true }, kinds := [], alts := [], laidByText := true, laidKinds := [.data, .data], laidTests := true, laidLooks := .later }
def ShardRefusesCardSaid : Prop := Claim7.holds Tryz.pinned (.plain (OpenSpec.ofChange shardRefusesSpec)) shardRefusesCard

/-- THE TIED CARD OF 'seisinlaw25.ShardLoads'. -/
def shardLoadsCard : Claim7 := { stood := { row := shardLoadsRow, standIns := [], harness := (true, "f45e217fc232b6ec62c89a81bad1914443180bbd91f15decbef97d5b4b719de5"), looks := true }, kinds := [], alts := [], laidByText := true, laidKinds := [.data, .data], laidTests := true, laidLooks := .later }
def ShardLoadsCardSaid : Prop := Claim7.holds Tryz.pinned (.plain (OpenSpec.ofChange shardLoadsSpec)) shardLoadsCard

/-- THE SECOND FORM's CARD OF 'seisinlaw25.ShardPrunes'. -/
def shardPrunesUptoCard : Claim7 := { stood := { row := shardPrunesUptoRow, standIns := [], harness := (true, "f45e217fc232b6ec62c89a81bad1914443180bbd91f15decbef97d5b4b719de5"), looks := true }, kinds := [], alts := [], laidByText := true, laidKinds := [.data, .data], laidTests := true, laidLooks := .later }
def ShardPrunesUptoCardSaid : Prop := Claim7.holds Tryz.pinned (.plain (OpenSpec.upto shardPrunesSpec)) shardPrunesUptoCard

/-- THE SECOND FORM's CARD OF 'seisinlaw25.ShardAlone'. -/
def shardAloneUptoCard : Claim7 := { stood := { row := shardAloneUptoRow, standIns := [], harness := (true, "f45e217fc232b6ec62c89a81bad1914443180bbd91f15decbef97d5b4b719de5"), looks := true }, kinds := [], alts := [], laidByText := true, laidKinds := [.data, .data], laidTests := true, laidLooks := .later }
def ShardAloneUptoCardSaid : Prop := Claim7.holds Tryz.pinned (.plain (OpenSpec.upto shardAloneSpec)) shardAloneUptoCard

/-- THE SECOND FORM's CARD OF 'seisinlaw25.ShardDecides'. -/
def shardDecidesUptoCard : Claim7 := { stood := { row := shardDecidesUptoRow, standIns := [], harness := (true, "f45e217fc232b6ec62c89a81bad1914443180bbd91f15decbef97d5b4b719de5"), looks := true }, kinds := [], alts := [], laidByText := true, laidKinds := [.data, .data], laidTests := true, laidLooks := .later }
def ShardDecidesUptoCardSaid : Prop := Claim7.holds Tryz.pinned (.plain (OpenSpec.upto shardDecidesSpec)) shardDecidesUptoCard

/-- THE SECOND FORM's CARD OF 'seisinlaw25.ShardChain'. -/
def shardChainUptoCard : Claim7 := { stood := { row := shardChainUptoRow, standIns := [], harness := (true, "f45e217fc232b6ec62c89a81bad1914443180bbd91f15decbef97d5b4b719de5"), looks := true }, kinds := [], alts := [], laidByText := true, laidKinds := [.data, .data], laidTests := true, laidLooks := .later }
def ShardChainUptoCardSaid : Prop := Claim7.holds Tryz.pinned (.plain (OpenSpec.upto shardChainSpec)) shardChainUptoCard

/-- THE SECOND FORM's CARD OF 'seisinlaw25.ShardRefuses'. -/
def shardRefusesUptoCard : Claim7 := { stood := { row := shardRefusesUptoRow, standIns := [], harness := (true, "f45e217fc232b6ec62c89a81bad1914443180bbd91f15decbef97d5b4b719de5"), looks := true }, kinds := [], alts := [], laidByText := true, laidKinds := [.data, .data], laidTests := true, laidLooks := .later }
def ShardRefusesUptoCardSaid : Prop := Claim7.holds Tryz.pinned (.plain (OpenSpec.upto shardRefusesSpec)) shardRefusesUptoCard

/-- THE SECOND FORM's CARD OF 'seisinlaw25.ShardLoads'. -/
def shardLoadsUptoCard : Claim7 := { stood := { row := shardLoadsUptoRow, standIns := [], harness := (true, "f45e217fc232b6ec62c89a81bad1914443180bbd91f15decbef97d5b4b719de5"), looks := true }, kinds := [], alts := [], laidByText := true, laidKinds := [.data, .data], laidTests := true, laidLooks := .later }
def ShardLoadsUptoCardSaid : Prop := Claim7.holds Tryz.pinned (.plain (OpenSpec.upto shardLoadsSpec)) shardLoadsUptoCard
end Rows
end Go.Proofs.YtpolljfkceanaaaGreatDoor
