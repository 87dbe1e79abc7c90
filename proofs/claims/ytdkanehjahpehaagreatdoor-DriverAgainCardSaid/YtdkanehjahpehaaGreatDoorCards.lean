/-
  DERIVED. GIVEN WITH THE SEED: THE CARDS: each row of YtdkanehjahpehaaGreatDoorRows.lean that lists a variable, with what it lists TIED to the program's text (the seventh form; the later family's looks); each row that meets fmt, with fmt's text TOLD by the authors' own Lean function (tested against real Go, not proved from fmt's source: count such statements apart). THE CARD IS WHAT COUNTS. Prove the row's statement (the work); the ties are given (YtdkanehjahpehaaGreatDoorTie.lean); close each card by the builder's one call (the guide's Derived/Test/ToyasCard.lean, 'card_holds'). Laid BY PROGRAM, IN A SANDBOX (cutbox-door.mjs). By AI agents, Wed Nov 11 2026. No macro, syntax, notation, axiom, sorry.
-/
import Derived.Test.YtdkanehjahpehaaGreatDoorRows
import GoSem.ClaimSeven
namespace Go.Proofs.YtdkanehjahpehaaGreatDoor
namespace Rows

/-- THE TIED CARD OF 'seisinlaw28.DriverTwo'. -/
def driverTwoCard : Claim7 := { stood := { row := driverTwoRow, standIns := [], harness := (true, "aabec20c83fbd03ae7848cc27c3a300cd3b26eac54299ab8f774ac08ae1c7e9b"), looks := true }, kinds := [], alts := [], laidByText := true, laidKinds := [.data, .data], laidTests := true, laidLooks := .later }
def DriverTwoCardSaid : Prop := Claim7.holds Tryz.pinned (.plain (OpenSpec.ofChange driverTwoSpec)) driverTwoCard

/-- THE TIED CARD OF 'seisinlaw28.DriverEnds'. -/
def driverEndsCard : Claim7 := { stood := { row := driverEndsRow, standIns := [], harness := (true, "aabec20c83fbd03ae7848cc27c3a300cd3b26eac54299ab8f774ac08ae1c7e9b"), looks := true }, kinds := [], alts := [], laidByText := true, laidKinds := [.data, .data], laidTests := true, laidLooks := .later }
def DriverEndsCardSaid : Prop := Claim7.holds Tryz.pinned (.plain (OpenSpec.ofChange driverEndsSpec)) driverEndsCard

/-- THE TIED CARD OF 'seisinlaw28.DriverAgain'. -/
def driverAgainCard : Claim7 := { stood := { row := driverAgainRow, standIns := [], harness := (true, "aabec20c83fbd03ae7848cc27c3a300cd3b26eac54299ab8f774ac08ae1c7e9b"), looks := true }, kinds := [], alts := [], laidByText := true, laidKinds := [.data, .data], laidTests := true, laidLooks := .later }
def DriverAgainCardSaid : Prop := Claim7.holds Tryz.pinned (.plain (OpenSpec.ofChange driverAgainSpec)) driverAgainCard

/-- THE SECOND FORM's CARD OF 'seisinlaw28.DriverTwo'. -/
def driverTwoUptoCard : Claim7 := { stood := { row := driverTwoUptoRow, standIns := [], harness := (true, "aabec20c83fbd03ae7848cc27c3a300cd3b26eac54299ab8f774ac08ae1c7e9b"), looks := true }, kinds := [], alts := [], laidByText := true, laidKinds := [.data, .data], laidTests := true, laidLooks := .later }
def DriverTwoUptoCardSaid : Prop := Claim7.holds Tryz.pinned (.plain (OpenSpec.upto driverTwoSpec)) driverTwoUptoCard

/-- THE SECOND FORM's CARD OF 'seisinlaw28.DriverEnds'. -/
def driverEndsUptoCard : Claim7 := { stood := { row := driverEndsUptoRow, standIns := [], harness := (true, "aabec20c83fbd03ae7848cc27c3a300cd3b26eac54299ab8f774ac08ae1c7e9b"), looks := true }, kinds := [], alts := [], laidByText := true, laidKinds := [.data, .data], laidTests := true, laidLooks := .later }
def DriverEndsUptoCardSaid : Prop := Claim7.holds Tryz.pinned (.plain (OpenSpec.upto driverEndsSpec)) driverEndsUptoCard

/-- THE SECOND FORM's CARD OF 'seisinlaw28.DriverAgain'. -/
def driverAgainUptoCard : Claim7 := { stood := { row := driverAgainUptoRow, standIns := [], harness := (true, "aabec20c83fbd03ae7848cc27c3a300cd3b26eac54299ab8f774ac08ae1c7e9b"), looks := true }, kinds := [], alts := [], laidByText := true, laidKinds := [.data, .data], laidTests := true, laidLooks := .later }
def DriverAgainUptoCardSaid : Prop := Claim7.holds Tryz.pinned (.plain (OpenSpec.upto driverAgainSpec)) driverAgainUptoCard
end Rows
end Go.Proofs.YtdkanehjahpehaaGreatDoor
