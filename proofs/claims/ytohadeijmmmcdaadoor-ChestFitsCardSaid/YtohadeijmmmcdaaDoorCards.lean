/-
  DERIVED. GIVEN WITH THE SEED: THE CARDS: each row of YtohadeijmmmcdaaDoorRows.lean that lists a variable, with what it lists TIED to the program's text (the seventh form; the later family's looks); each row that meets fmt, with fmt's text TOLD by the authors' own Lean function (tested against real Go, not proved from fmt's source: count such statements apart). THE CARD IS WHAT COUNTS. Prove the row's statement (the work); the ties are given (YtohadeijmmmcdaaDoorTie.lean); close each card by the builder's one call (the guide's Derived/Test/ToyasCard.lean, 'card_holds'). Laid BY PROGRAM, IN A SANDBOX (cutbox-door.mjs). By AI agents, Wed Nov 11 2026. No macro, syntax, notation, axiom, sorry.
-/
import Derived.Test.YtohadeijmmmcdaaDoorRows
import GoSem.ClaimSeven
namespace Go.Proofs.YtohadeijmmmcdaaDoor
namespace Rows

/-- THE TIED CARD OF 'seisinlaw13.ScrollForms'. -/
def scrollFormsCard : Claim7 := { stood := { row := scrollFormsRow, standIns := [], harness := (true, "192a4d977ed8c4cf83d7fa875f7cefd6aac1091e991c56bf1775a8b04ae8f86c"), looks := true }, kinds := [], alts := [], laidByText := true, laidKinds := [.data, .data], laidTests := true, laidLooks := .later }
def ScrollFormsCardSaid : Prop := Claim7.holds Tryd.pinned (.plain (OpenSpec.ofChange scrollFormsSpec)) scrollFormsCard

/-- THE TIED CARD OF 'seisinlaw13.ScrollLong'. -/
def scrollLongCard : Claim7 := { stood := { row := scrollLongRow, standIns := [], harness := (true, "192a4d977ed8c4cf83d7fa875f7cefd6aac1091e991c56bf1775a8b04ae8f86c"), looks := true }, kinds := [], alts := [], laidByText := true, laidKinds := [.data, .data], laidTests := true, laidLooks := .later }
def ScrollLongCardSaid : Prop := Claim7.holds Tryd.pinned (.plain (OpenSpec.ofChange scrollLongSpec)) scrollLongCard

/-- THE TIED CARD OF 'seisinlaw13.ScrollOther'. -/
def scrollOtherCard : Claim7 := { stood := { row := scrollOtherRow, standIns := [], harness := (true, "192a4d977ed8c4cf83d7fa875f7cefd6aac1091e991c56bf1775a8b04ae8f86c"), looks := true }, kinds := [], alts := [], laidByText := true, laidKinds := [.data, .data], laidTests := true, laidLooks := .later }
def ScrollOtherCardSaid : Prop := Claim7.holds Tryd.pinned (.plain (OpenSpec.ofChange scrollOtherSpec)) scrollOtherCard

/-- THE TIED CARD OF 'seisinlaw13.ScrollScans'. -/
def scrollScansCard : Claim7 := { stood := { row := scrollScansRow, standIns := [], harness := (true, "192a4d977ed8c4cf83d7fa875f7cefd6aac1091e991c56bf1775a8b04ae8f86c"), looks := true }, kinds := [], alts := [], laidByText := true, laidKinds := [.data, .data], laidTests := true, laidLooks := .later }
def ScrollScansCardSaid : Prop := Claim7.holds Tryd.pinned (.plain (OpenSpec.ofChange scrollScansSpec)) scrollScansCard

/-- THE TIED CARD OF 'seisinlaw13.ScrollGone'. -/
def scrollGoneCard : Claim7 := { stood := { row := scrollGoneRow, standIns := [], harness := (true, "192a4d977ed8c4cf83d7fa875f7cefd6aac1091e991c56bf1775a8b04ae8f86c"), looks := true }, kinds := [], alts := [], laidByText := true, laidKinds := [.data, .data], laidTests := true, laidLooks := .later }
def ScrollGoneCardSaid : Prop := Claim7.holds Tryd.pinned (.plain (OpenSpec.ofChange scrollGoneSpec)) scrollGoneCard

/-- THE TIED CARD OF 'seisinlaw13.ScrollKeeps'. -/
def scrollKeepsCard : Claim7 := { stood := { row := scrollKeepsRow, standIns := [], harness := (true, "192a4d977ed8c4cf83d7fa875f7cefd6aac1091e991c56bf1775a8b04ae8f86c"), looks := true }, kinds := [], alts := [], laidByText := true, laidKinds := [.data, .data], laidTests := true, laidLooks := .later }
def ScrollKeepsCardSaid : Prop := Claim7.holds Tryd.pinned (.plain (OpenSpec.ofChange scrollKeepsSpec)) scrollKeepsCard

/-- THE TIED CARD OF 'seisinlaw14.ChestFits'. -/
def chestFitsCard : Claim7 := { stood := { row := chestFitsRow, standIns := [], harness := (true, "192a4d977ed8c4cf83d7fa875f7cefd6aac1091e991c56bf1775a8b04ae8f86c"), looks := true }, kinds := [], alts := [], laidByText := true, laidKinds := [.data, .data], laidTests := true, laidLooks := .later }
def ChestFitsCardSaid : Prop := Claim7.holds Tryd.pinned (.plain (OpenSpec.ofChange chestFitsSpec)) chestFitsCard

/-- THE TIED CARD OF 'seisinlaw14.ChestFinds'. -/
def chestFindsCard : Claim7 := { stood := { row := chestFindsRow, standIns := [], harness := (true, "192a4d977ed8c4cf83d7fa875f7cefd6aac1091e991c56bf1775a8b04ae8f86c"), looks := true }, kinds := [], alts := [], laidByText := true, laidKinds := [.data, .data], laidTests := true, laidLooks := .later }
def ChestFindsCardSaid : Prop := Claim7.holds Tryd.pinned (.plain (OpenSpec.ofChange chestFindsSpec)) chestFindsCard

/-- THE TIED CARD OF 'seisinlaw14.ChestPlays'. -/
def chestPlaysCard : Claim7 := { stood := { row := chestPlaysRow, standIns := [], harness := (true, "192a4d977ed8c4cf83d7fa875f7cefd6aac1091e991c56bf1775a8b04ae8f86c"), looks := true }, kinds := [], alts := [], laidByText := true, laidKinds := [.data, .data], laidTests := true, laidLooks := .later }
def ChestPlaysCardSaid : Prop := Claim7.holds Tryd.pinned (.plain (OpenSpec.ofChange chestPlaysSpec)) chestPlaysCard

/-- THE TIED CARD OF 'seisinlaw14.ChestGone'. -/
def chestGoneCard : Claim7 := { stood := { row := chestGoneRow, standIns := [], harness := (true, "192a4d977ed8c4cf83d7fa875f7cefd6aac1091e991c56bf1775a8b04ae8f86c"), looks := true }, kinds := [], alts := [], laidByText := true, laidKinds := [.data, .data], laidTests := true, laidLooks := .later }
def ChestGoneCardSaid : Prop := Claim7.holds Tryd.pinned (.plain (OpenSpec.ofChange chestGoneSpec)) chestGoneCard

/-- THE TIED CARD OF 'seisinlaw14.ChestKeeps'. -/
def chestKeepsCard : Claim7 := { stood := { row := chestKeepsRow, standIns := [], harness := (true, "192a4d977ed8c4cf83d7fa875f7cefd6aac1091e991c56bf1775a8b04ae8f86c"), looks := true }, kinds := [], alts := [], laidByText := true, laidKinds := [.data, .data], laidTests := true, laidLooks := .later }
def ChestKeepsCardSaid : Prop := Claim7.holds Tryd.pinned (.plain (OpenSpec.ofChange chestKeepsSpec)) chestKeepsCard

/-- THE SECOND FORM's CARD OF 'seisinlaw13.ScrollForms'. -/
def scrollFormsUptoCard : Claim7 := { stood := { row := scrollFormsUptoRow, standIns := [], harness := (true, "192a4d977ed8c4cf83d7fa875f7cefd6aac1091e991c56bf1775a8b04ae8f86c"), looks := true }, kinds := [], alts := [], laidByText := true, laidKinds := [.data, .data], laidTests := true, laidLooks := .later }
def ScrollFormsUptoCardSaid : Prop := Claim7.holds Tryd.pinned (.plain (OpenSpec.upto scrollFormsSpec)) scrollFormsUptoCard

/-- THE SECOND FORM's CARD OF 'seisinlaw13.ScrollLong'. -/
def scrollLongUptoCard : Claim7 := { stood := { row := scrollLongUptoRow, standIns := [], harness := (true, "192a4d977ed8c4cf83d7fa875f7cefd6aac1091e991c56bf1775a8b04ae8f86c"), looks := true }, kinds := [], alts := [], laidByText := true, laidKinds := [.data, .data], laidTests := true, laidLooks := .later }
def ScrollLongUptoCardSaid : Prop := Claim7.holds Tryd.pinned (.plain (OpenSpec.upto scrollLongSpec)) scrollLongUptoCard

/-- THE SECOND FORM's CARD OF 'seisinlaw13.ScrollOther'. -/
def scrollOtherUptoCard : Claim7 := { stood := { row := scrollOtherUptoRow, standIns := [], harness := (true, "192a4d977ed8c4cf83d7fa875f7cefd6aac1091e991c56bf1775a8b04ae8f86c"), looks := true }, kinds := [], alts := [], laidByText := true, laidKinds := [.data, .data], laidTests := true, laidLooks := .later }
def ScrollOtherUptoCardSaid : Prop := Claim7.holds Tryd.pinned (.plain (OpenSpec.upto scrollOtherSpec)) scrollOtherUptoCard

/-- THE SECOND FORM's CARD OF 'seisinlaw13.ScrollScans'. -/
def scrollScansUptoCard : Claim7 := { stood := { row := scrollScansUptoRow, standIns := [], harness := (true, "192a4d977ed8c4cf83d7fa875f7cefd6aac1091e991c56bf1775a8b04ae8f86c"), looks := true }, kinds := [], alts := [], laidByText := true, laidKinds := [.data, .data], laidTests := true, laidLooks := .later }
def ScrollScansUptoCardSaid : Prop := Claim7.holds Tryd.pinned (.plain (OpenSpec.upto scrollScansSpec)) scrollScansUptoCard

/-- THE SECOND FORM's CARD OF 'seisinlaw13.ScrollGone'. -/
def scrollGoneUptoCard : Claim7 := { stood := { row := scrollGoneUptoRow, standIns := [], harness := (true, "192a4d977ed8c4cf83d7fa875f7cefd6aac1091e991c56bf1775a8b04ae8f86c"), looks := true }, kinds := [], alts := [], laidByText := true, laidKinds := [.data, .data], laidTests := true, laidLooks := .later }
def ScrollGoneUptoCardSaid : Prop := Claim7.holds Tryd.pinned (.plain (OpenSpec.upto scrollGoneSpec)) scrollGoneUptoCard

/-- THE SECOND FORM's CARD OF 'seisinlaw13.ScrollKeeps'. -/
def scrollKeepsUptoCard : Claim7 := { stood := { row := scrollKeepsUptoRow, standIns := [], harness := (true, "192a4d977ed8c4cf83d7fa875f7cefd6aac1091e991c56bf1775a8b04ae8f86c"), looks := true }, kinds := [], alts := [], laidByText := true, laidKinds := [.data, .data], laidTests := true, laidLooks := .later }
def ScrollKeepsUptoCardSaid : Prop := Claim7.holds Tryd.pinned (.plain (OpenSpec.upto scrollKeepsSpec)) scrollKeepsUptoCard

/-- THE SECOND FORM's CARD OF 'seisinlaw14.ChestFits'. -/
def chestFitsUptoCard : Claim7 := { stood := { row := chestFitsUptoRow, standIns := [], harness := (true, "192a4d977ed8c4cf83d7fa875f7cefd6aac1091e991c56bf1775a8b04ae8f86c"), looks := true }, kinds := [], alts := [], laidByText := true, laidKinds := [.data, .data], laidTests := true, laidLooks := .later }
def ChestFitsUptoCardSaid : Prop := Claim7.holds Tryd.pinned (.plain (OpenSpec.upto chestFitsSpec)) chestFitsUptoCard

/-- THE SECOND FORM's CARD OF 'seisinlaw14.ChestFinds'. -/
def chestFindsUptoCard : Claim7 := { stood := { row := chestFindsUptoRow, standIns := [], harness := (true, "192a4d977ed8c4cf83d7fa875f7cefd6aac1091e991c56bf1775a8b04ae8f86c"), looks := true }, kinds := [], alts := [], laidByText := true, laidKinds := [.data, .data], laidTests := true, laidLooks := .later }
def ChestFindsUptoCardSaid : Prop := Claim7.holds Tryd.pinned (.plain (OpenSpec.upto chestFindsSpec)) chestFindsUptoCard

/-- THE SECOND FORM's CARD OF 'seisinlaw14.ChestPlays'. -/
def chestPlaysUptoCard : Claim7 := { stood := { row := chestPlaysUptoRow, standIns := [], harness := (true, "192a4d977ed8c4cf83d7fa875f7cefd6aac1091e991c56bf1775a8b04ae8f86c"), looks := true }, kinds := [], alts := [], laidByText := true, laidKinds := [.data, .data], laidTests := true, laidLooks := .later }
def ChestPlaysUptoCardSaid : Prop := Claim7.holds Tryd.pinned (.plain (OpenSpec.upto chestPlaysSpec)) chestPlaysUptoCard

/-- THE SECOND FORM's CARD OF 'seisinlaw14.ChestGone'. -/
def chestGoneUptoCard : Claim7 := { stood := { row := chestGoneUptoRow, standIns := [], harness := (true, "192a4d977ed8c4cf83d7fa875f7cefd6aac1091e991c56bf1775a8b04ae8f86c"), looks := true }, kinds := [], alts := [], laidByText := true, laidKinds := [.data, .data], laidTests := true, laidLooks := .later }
def ChestGoneUptoCardSaid : Prop := Claim7.holds Tryd.pinned (.plain (OpenSpec.upto chestGoneSpec)) chestGoneUptoCard

/-- THE SECOND FORM's CARD OF 'seisinlaw14.ChestKeeps'. -/
def chestKeepsUptoCard : Claim7 := { stood := { row := chestKeepsUptoRow, standIns := [], harness := (true, "192a4d977ed8c4cf83d7fa875f7cefd6aac1091e991c56bf1775a8b04ae8f86c"), looks := true }, kinds := [], alts := [], laidByText := true, laidKinds := [.data, .data], laidTests := true, laidLooks := .later }
def ChestKeepsUptoCardSaid : Prop := Claim7.holds Tryd.pinned (.plain (OpenSpec.upto chestKeepsSpec)) chestKeepsUptoCard
end Rows
end Go.Proofs.YtohadeijmmmcdaaDoor
