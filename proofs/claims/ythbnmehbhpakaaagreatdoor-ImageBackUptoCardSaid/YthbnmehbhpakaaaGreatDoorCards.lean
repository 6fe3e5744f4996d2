/-
  DERIVED. GIVEN WITH THE SEED: THE CARDS: each row of YthbnmehbhpakaaaGreatDoorRows.lean that lists a variable, with what it lists TIED to the program's text (the seventh form; the later family's looks); each row that meets fmt, with fmt's text TOLD by the authors' own Lean function (tested against real Go, not proved from fmt's source: count such statements apart). THE CARD IS WHAT COUNTS. Prove the row's statement (the work); the ties are given (YthbnmehbhpakaaaGreatDoorTie.lean); close each card by the builder's one call (the guide's Derived/Test/ToyasCard.lean, 'card_holds'). Laid BY PROGRAM, IN A SANDBOX (cutbox-door.mjs). By AI agents, Wed Nov 11 2026. No macro, syntax, notation, axiom, sorry.
-/
import Derived.Test.YthbnmehbhpakaaaGreatDoorRows
import GoSem.ClaimSeven
namespace Go.Proofs.YthbnmehbhpakaaaGreatDoor
namespace Rows

/-- THE TIED CARD OF 'halyardlaw15.ImageTells'. -/
def imageTellsCard : Claim7 := { stood := { row := imageTellsRow, standIns := [], harness := (true, "f6080019405ce871387ec77e3485176d8a226b91abb365f67f5fdef83fad5005"), looks := true }, kinds := [], alts := [], laidByText := true, laidKinds := [.data, .data, .data, .data, .sentinel, .sentinel, .pinned], laidTests := true, laidLooks := .later }
def ImageTellsCardSaid : Prop := Claim7.holds Tryz.pinned (.plain (OpenSpec.ofChange imageTellsSpec)) imageTellsCard

/-- THE TIED CARD OF 'halyardlaw15.ImageReads'. -/
def imageReadsCard : Claim7 := { stood := { row := imageReadsRow, standIns := [], harness := (true, "f6080019405ce871387ec77e3485176d8a226b91abb365f67f5fdef83fad5005"), looks := true }, kinds := [], alts := [], laidByText := true, laidKinds := [.data, .data, .data, .data, .sentinel, .sentinel, .pinned], laidTests := true, laidLooks := .later }
def ImageReadsCardSaid : Prop := Claim7.holds Tryz.pinned (.plain (OpenSpec.ofChange imageReadsSpec)) imageReadsCard

/-- THE TIED CARD OF 'halyardlaw15.ImageBack'. -/
def imageBackCard : Claim7 := { stood := { row := imageBackRow, standIns := [], harness := (true, "f6080019405ce871387ec77e3485176d8a226b91abb365f67f5fdef83fad5005"), looks := true }, kinds := [], alts := [], laidByText := true, laidKinds := [.data, .data, .data, .data, .sentinel, .sentinel, .pinned], laidTests := true, laidLooks := .later }
def ImageBackCardSaid : Prop := Claim7.holds Tryz.pinned (.plain (OpenSpec.ofChange imageBackSpec)) imageBackCard

/-- THE TIED CARD OF 'halyardlaw15.ImageOne'. -/
def imageOneCard : Claim7 := { stood := { row := imageOneRow, standIns := [], harness := (true, "f6080019405ce871387ec77e3485176d8a226b91abb365f67f5fdef83fad5005"), looks := true }, kinds := [], alts := [], laidByText := true, laidKinds := [.data, .data, .data, .data, .sentinel, .sentinel, .pinned], laidTests := true, laidLooks := .later }
def ImageOneCardSaid : Prop := Claim7.holds Tryz.pinned (.plain (OpenSpec.ofChange imageOneSpec)) imageOneCard

/-- THE TIED CARD OF 'halyardlaw15.ImageDisk'. -/
def imageDiskCard : Claim7 := { stood := { row := imageDiskRow, standIns := [], harness := (true, "f6080019405ce871387ec77e3485176d8a226b91abb365f67f5fdef83fad5005"), looks := true }, kinds := [], alts := [], laidByText := true, laidKinds := [.data, .data, .data, .data, .sentinel, .sentinel, .pinned], laidTests := true, laidLooks := .later }
def ImageDiskCardSaid : Prop := Claim7.holds Tryz.pinned (.plain (OpenSpec.ofChange imageDiskSpec)) imageDiskCard

/-- THE SECOND FORM's CARD OF 'halyardlaw15.ImageTells'. -/
def imageTellsUptoCard : Claim7 := { stood := { row := imageTellsUptoRow, standIns := [], harness := (true, "f6080019405ce871387ec77e3485176d8a226b91abb365f67f5fdef83fad5005"), looks := true }, kinds := [], alts := [], laidByText := true, laidKinds := [.data, .data, .data, .data, .sentinel, .sentinel, .pinned], laidTests := true, laidLooks := .later }
def ImageTellsUptoCardSaid : Prop := Claim7.holds Tryz.pinned (.plain (OpenSpec.upto imageTellsSpec)) imageTellsUptoCard

/-- THE SECOND FORM's CARD OF 'halyardlaw15.ImageReads'. -/
def imageReadsUptoCard : Claim7 := { stood := { row := imageReadsUptoRow, standIns := [], harness := (true, "f6080019405ce871387ec77e3485176d8a226b91abb365f67f5fdef83fad5005"), looks := true }, kinds := [], alts := [], laidByText := true, laidKinds := [.data, .data, .data, .data, .sentinel, .sentinel, .pinned], laidTests := true, laidLooks := .later }
def ImageReadsUptoCardSaid : Prop := Claim7.holds Tryz.pinned (.plain (OpenSpec.upto imageReadsSpec)) imageReadsUptoCard

/-- THE SECOND FORM's CARD OF 'halyardlaw15.ImageBack'. -/
def imageBackUptoCard : Claim7 := { stood := { row := imageBackUptoRow, standIns := [], harness := (true, "f6080019405ce871387ec77e3485176d8a226b91abb365f67f5fdef83fad5005"), looks := true }, kinds := [], alts := [], laidByText := true, laidKinds := [.data, .data, .data, .data, .sentinel, .sentinel, .pinned], laidTests := true, laidLooks := .later }
def ImageBackUptoCardSaid : Prop := Claim7.holds Tryz.pinned (.plain (OpenSpec.upto imageBackSpec)) imageBackUptoCard

/-- THE SECOND FORM's CARD OF 'halyardlaw15.ImageOne'. -/
def imageOneUptoCard : Claim7 := { stood := { row := imageOneUptoRow, standIns := [], harness := (true, "f6080019405ce871387ec77e3485176d8a226b91abb365f67f5fdef83fad5005"), looks := true }, kinds := [], alts := [], laidByText := true, laidKinds := [.data, .data, .data, .data, .sentinel, .sentinel, .pinned], laidTests := true, laidLooks := .later }
def ImageOneUptoCardSaid : Prop := Claim7.holds Tryz.pinned (.plain (OpenSpec.upto imageOneSpec)) imageOneUptoCard

/-- THE SECOND FORM's CARD OF 'halyardlaw15.ImageDisk'. -/
def imageDiskUptoCard : Claim7 := { stood := { row := imageDiskUptoRow, standIns := [], harness := (true, "f6080019405ce871387ec77e3485176d8a226b91abb365f67f5fdef83fad5005"), looks := true }, kinds := [], alts := [], laidByText := true, laidKinds := [.data, .data, .data, .data, .sentinel, .sentinel, .pinned], laidTests := true, laidLooks := .later }
def ImageDiskUptoCardSaid : Prop := Claim7.holds Tryz.pinned (.plain (OpenSpec.upto imageDiskSpec)) imageDiskUptoCard
end Rows
end Go.Proofs.YthbnmehbhpakaaaGreatDoor
