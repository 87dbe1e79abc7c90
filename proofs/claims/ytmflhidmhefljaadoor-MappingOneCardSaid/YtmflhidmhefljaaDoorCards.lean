/-
  DERIVED. GIVEN WITH THE SEED: THE CARDS: each row of YtmflhidmhefljaaDoorRows.lean that lists a variable, with what it lists TIED to the program's text (the seventh form; the later family's looks); each row that meets fmt, with fmt's text TOLD by the authors' own Lean function (tested against real Go, not proved from fmt's source: count such statements apart). THE CARD IS WHAT COUNTS. Prove the row's statement (the work); the ties are given (YtmflhidmhefljaaDoorTie.lean); close each card by the builder's one call (the guide's Derived/Test/ToyasCard.lean, 'card_holds'). Laid BY PROGRAM, IN A SANDBOX (cutbox-door.mjs). By AI agents, Wed Nov 11 2026. No macro, syntax, notation, axiom, sorry.
-/
import Derived.Test.YtmflhidmhefljaaDoorRows
import GoSem.ClaimSeven
namespace Go.Proofs.YtmflhidmhefljaaDoor
namespace Rows

/-- THE TIED CARD OF 'seisinlaw08.MappingOf'. -/
def mappingOfCard : Claim7 := { stood := { row := mappingOfRow, standIns := [], harness := (true, "2a06f18228588952da9c5a545610cb37a54ab7e0bd4c9e8be54ccf35db7fea20"), looks := false }, kinds := [], alts := [], laidByText := true, laidKinds := [.data, .data], laidTests := true, laidLooks := .later }
def MappingOfCardSaid : Prop := Claim7.holds Tryd.pinned (.plain (OpenSpec.ofChange mappingOfSpec)) mappingOfCard

/-- THE TIED CARD OF 'seisinlaw08.MappingOnce'. -/
def mappingOnceCard : Claim7 := { stood := { row := mappingOnceRow, standIns := [], harness := (true, "2a06f18228588952da9c5a545610cb37a54ab7e0bd4c9e8be54ccf35db7fea20"), looks := false }, kinds := [], alts := [], laidByText := true, laidKinds := [.data, .data], laidTests := true, laidLooks := .later }
def MappingOnceCardSaid : Prop := Claim7.holds Tryd.pinned (.plain (OpenSpec.ofChange mappingOnceSpec)) mappingOnceCard

/-- THE TIED CARD OF 'seisinlaw08.MappingTells'. -/
def mappingTellsCard : Claim7 := { stood := { row := mappingTellsRow, standIns := [], harness := (true, "2a06f18228588952da9c5a545610cb37a54ab7e0bd4c9e8be54ccf35db7fea20"), looks := false }, kinds := [], alts := [], laidByText := true, laidKinds := [.data, .data], laidTests := true, laidLooks := .later }
def MappingTellsCardSaid : Prop := Claim7.holds Tryd.pinned (.plain (OpenSpec.ofChange mappingTellsSpec)) mappingTellsCard

/-- THE TIED CARD OF 'seisinlaw08.MappingOne'. -/
def mappingOneCard : Claim7 := { stood := { row := mappingOneRow, standIns := [], harness := (true, "2a06f18228588952da9c5a545610cb37a54ab7e0bd4c9e8be54ccf35db7fea20"), looks := false }, kinds := [], alts := [], laidByText := true, laidKinds := [.data, .data], laidTests := true, laidLooks := .later }
def MappingOneCardSaid : Prop := Claim7.holds Tryd.pinned (.plain (OpenSpec.ofChange mappingOneSpec)) mappingOneCard

/-- THE SECOND FORM's CARD OF 'seisinlaw08.MappingOf'. -/
def mappingOfUptoCard : Claim7 := { stood := { row := mappingOfUptoRow, standIns := [], harness := (true, "2a06f18228588952da9c5a545610cb37a54ab7e0bd4c9e8be54ccf35db7fea20"), looks := false }, kinds := [], alts := [], laidByText := true, laidKinds := [.data, .data], laidTests := true, laidLooks := .later }
def MappingOfUptoCardSaid : Prop := Claim7.holds Tryd.pinned (.plain (OpenSpec.upto mappingOfSpec)) mappingOfUptoCard

/-- THE SECOND FORM's CARD OF 'seisinlaw08.MappingOnce'. -/
def mappingOnceUptoCard : Claim7 := { stood := { row := mappingOnceUptoRow, standIns := [], harness := (true, "2a06f18228588952da9c5a545610cb37a54ab7e0bd4c9e8be54ccf35db7fea20"), looks := false }, kinds := [], alts := [], laidByText := true, laidKinds := [.data, .data], laidTests := true, laidLooks := .later }
def MappingOnceUptoCardSaid : Prop := Claim7.holds Tryd.pinned (.plain (OpenSpec.upto mappingOnceSpec)) mappingOnceUptoCard

/-- THE SECOND FORM's CARD OF 'seisinlaw08.MappingTells'. -/
def mappingTellsUptoCard : Claim7 := { stood := { row := mappingTellsUptoRow, standIns := [], harness := (true, "2a06f18228588952da9c5a545610cb37a54ab7e0bd4c9e8be54ccf35db7fea20"), looks := false }, kinds := [], alts := [], laidByText := true, laidKinds := [.data, .data], laidTests := true, laidLooks := .later }
def MappingTellsUptoCardSaid : Prop := Claim7.holds Tryd.pinned (.plain (OpenSpec.upto mappingTellsSpec)) mappingTellsUptoCard

/-- THE SECOND FORM's CARD OF 'seisinlaw08.MappingOne'. -/
def mappingOneUptoCard : Claim7 := { stood := { row := mappingOneUptoRow, standIns := [], harness := (true, "2a06f18228588952da9c5a545610cb37a54ab7e0bd4c9e8be54ccf35db7fea20"), looks := false }, kinds := [], alts := [], laidByText := true, laidKinds := [.data, .data], laidTests := true, laidLooks := .later }
def MappingOneUptoCardSaid : Prop := Claim7.holds Tryd.pinned (.plain (OpenSpec.upto mappingOneSpec)) mappingOneUptoCard
end Rows
end Go.Proofs.YtmflhidmhefljaaDoor
