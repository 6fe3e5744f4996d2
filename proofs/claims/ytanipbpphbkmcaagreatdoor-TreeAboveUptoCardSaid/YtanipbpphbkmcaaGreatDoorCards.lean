/-
  DERIVED. GIVEN WITH THE SEED: THE CARDS: each row of YtanipbpphbkmcaaGreatDoorRows.lean that lists a variable, with what it lists TIED to the program's text (the seventh form; the later family's looks); each row that meets fmt, with fmt's text TOLD by the authors' own Lean function (tested against real Go, not proved from fmt's source: count such statements apart). THE CARD IS WHAT COUNTS. Prove the row's statement (the work); the ties are given (YtanipbpphbkmcaaGreatDoorTie.lean); close each card by the builder's one call (the guide's Derived/Test/ToyasCard.lean, 'card_holds'). Laid BY PROGRAM, IN A SANDBOX (cutbox-door.mjs). By AI agents, Wed Nov 11 2026. No macro, syntax, notation, axiom, sorry.
-/
import Derived.Test.YtanipbpphbkmcaaGreatDoorRows
import GoSem.ClaimSeven
namespace Go.Proofs.YtanipbpphbkmcaaGreatDoor
namespace Rows

/-- THE TIED CARD OF 'halyardlaw12.TreeChecks'. -/
def treeChecksCard : Claim7 := { stood := { row := treeChecksRow, standIns := [], harness := (true, "42684f3647499b5b6a2f36e1c55649b99615db71d7b41d757b06bdc4a7336a38"), looks := false }, kinds := [], alts := [], laidByText := true, laidKinds := [.data, .data, .data, .data, .pinned], laidTests := true, laidLooks := .later }
def TreeChecksCardSaid : Prop := Claim7.holds Tryz.pinned (.plain (OpenSpec.ofChange treeChecksSpec)) treeChecksCard

/-- THE TIED CARD OF 'halyardlaw13.WalkupMaps'. -/
def walkupMapsCard : Claim7 := { stood := { row := walkupMapsRow, standIns := [], harness := (true, "42684f3647499b5b6a2f36e1c55649b99615db71d7b41d757b06bdc4a7336a38"), looks := false }, kinds := [], alts := [], laidByText := true, laidKinds := [.data, .data, .data, .data, .pinned], laidTests := true, laidLooks := .later }
def WalkupMapsCardSaid : Prop := Claim7.holds Tryz.pinned (.plain (OpenSpec.ofChange walkupMapsSpec)) walkupMapsCard

/-- THE TIED CARD OF 'halyardlaw13.WalkupNear'. -/
def walkupNearCard : Claim7 := { stood := { row := walkupNearRow, standIns := [], harness := (true, "42684f3647499b5b6a2f36e1c55649b99615db71d7b41d757b06bdc4a7336a38"), looks := false }, kinds := [], alts := [], laidByText := true, laidKinds := [.data, .data, .data, .data, .pinned], laidTests := true, laidLooks := .later }
def WalkupNearCardSaid : Prop := Claim7.holds Tryz.pinned (.plain (OpenSpec.ofChange walkupNearSpec)) walkupNearCard

/-- THE TIED CARD OF 'halyardlaw13.WalkupSelf'. -/
def walkupSelfCard : Claim7 := { stood := { row := walkupSelfRow, standIns := [], harness := (true, "42684f3647499b5b6a2f36e1c55649b99615db71d7b41d757b06bdc4a7336a38"), looks := false }, kinds := [], alts := [], laidByText := true, laidKinds := [.data, .data, .data, .data, .pinned], laidTests := true, laidLooks := .later }
def WalkupSelfCardSaid : Prop := Claim7.holds Tryz.pinned (.plain (OpenSpec.ofChange walkupSelfSpec)) walkupSelfCard

/-- THE TIED CARD OF 'halyardlaw13.WalkupDisk'. -/
def walkupDiskCard : Claim7 := { stood := { row := walkupDiskRow, standIns := [], harness := (true, "42684f3647499b5b6a2f36e1c55649b99615db71d7b41d757b06bdc4a7336a38"), looks := false }, kinds := [], alts := [], laidByText := true, laidKinds := [.data, .data, .data, .data, .pinned], laidTests := true, laidLooks := .later }
def WalkupDiskCardSaid : Prop := Claim7.holds Tryz.pinned (.plain (OpenSpec.ofChange walkupDiskSpec)) walkupDiskCard

/-- THE TIED CARD OF 'halyardlaw12.TreeFinds'. -/
def treeFindsCard : Claim7 := { stood := { row := treeFindsRow, standIns := [], harness := (true, "42684f3647499b5b6a2f36e1c55649b99615db71d7b41d757b06bdc4a7336a38"), looks := false }, kinds := [], alts := [], laidByText := true, laidKinds := [.data, .data, .data, .data, .pinned], laidTests := true, laidLooks := .later }
def TreeFindsCardSaid : Prop := Claim7.holds Tryz.pinned (.plain (OpenSpec.ofChange treeFindsSpec)) treeFindsCard

/-- THE TIED CARD OF 'halyardlaw12.TreeAbove'. -/
def treeAboveCard : Claim7 := { stood := { row := treeAboveRow, standIns := [], harness := (true, "42684f3647499b5b6a2f36e1c55649b99615db71d7b41d757b06bdc4a7336a38"), looks := false }, kinds := [], alts := [], laidByText := true, laidKinds := [.data, .data, .data, .data, .pinned], laidTests := true, laidLooks := .later }
def TreeAboveCardSaid : Prop := Claim7.holds Tryz.pinned (.plain (OpenSpec.ofChange treeAboveSpec)) treeAboveCard

/-- THE SECOND FORM's CARD OF 'halyardlaw12.TreeChecks'. -/
def treeChecksUptoCard : Claim7 := { stood := { row := treeChecksUptoRow, standIns := [], harness := (true, "42684f3647499b5b6a2f36e1c55649b99615db71d7b41d757b06bdc4a7336a38"), looks := false }, kinds := [], alts := [], laidByText := true, laidKinds := [.data, .data, .data, .data, .pinned], laidTests := true, laidLooks := .later }
def TreeChecksUptoCardSaid : Prop := Claim7.holds Tryz.pinned (.plain (OpenSpec.upto treeChecksSpec)) treeChecksUptoCard

/-- THE SECOND FORM's CARD OF 'halyardlaw13.WalkupMaps'. -/
def walkupMapsUptoCard : Claim7 := { stood := { row := walkupMapsUptoRow, standIns := [], harness := (true, "42684f3647499b5b6a2f36e1c55649b99615db71d7b41d757b06bdc4a7336a38"), looks := false }, kinds := [], alts := [], laidByText := true, laidKinds := [.data, .data, .data, .data, .pinned], laidTests := true, laidLooks := .later }
def WalkupMapsUptoCardSaid : Prop := Claim7.holds Tryz.pinned (.plain (OpenSpec.upto walkupMapsSpec)) walkupMapsUptoCard

/-- THE SECOND FORM's CARD OF 'halyardlaw13.WalkupNear'. -/
def walkupNearUptoCard : Claim7 := { stood := { row := walkupNearUptoRow, standIns := [], harness := (true, "42684f3647499b5b6a2f36e1c55649b99615db71d7b41d757b06bdc4a7336a38"), looks := false }, kinds := [], alts := [], laidByText := true, laidKinds := [.data, .data, .data, .data, .pinned], laidTests := true, laidLooks := .later }
def WalkupNearUptoCardSaid : Prop := Claim7.holds Tryz.pinned (.plain (OpenSpec.upto walkupNearSpec)) walkupNearUptoCard

/-- THE SECOND FORM's CARD OF 'halyardlaw13.WalkupSelf'. -/
def walkupSelfUptoCard : Claim7 := { stood := { row := walkupSelfUptoRow, standIns := [], harness := (true, "42684f3647499b5b6a2f36e1c55649b99615db71d7b41d757b06bdc4a7336a38"), looks := false }, kinds := [], alts := [], laidByText := true, laidKinds := [.data, .data, .data, .data, .pinned], laidTests := true, laidLooks := .later }
def WalkupSelfUptoCardSaid : Prop := Claim7.holds Tryz.pinned (.plain (OpenSpec.upto walkupSelfSpec)) walkupSelfUptoCard

/-- THE SECOND FORM's CARD OF 'halyardlaw13.WalkupDisk'. -/
def walkupDiskUptoCard : Claim7 := { stood := { row := walkupDiskUptoRow, standIns := [], harness := (true, "42684f3647499b5b6a2f36e1c55649b99615db71d7b41d757b06bdc4a7336a38"), looks := false }, kinds := [], alts := [], laidByText := true, laidKinds := [.data, .data, .data, .data, .pinned], laidTests := true, laidLooks := .later }
def WalkupDiskUptoCardSaid : Prop := Claim7.holds Tryz.pinned (.plain (OpenSpec.upto walkupDiskSpec)) walkupDiskUptoCard

/-- THE SECOND FORM's CARD OF 'halyardlaw12.TreeFinds'. -/
def treeFindsUptoCard : Claim7 := { stood := { row := treeFindsUptoRow, standIns := [], harness := (true, "42684f3647499b5b6a2f36e1c55649b99615db71d7b41d757b06bdc4a7336a38"), looks := false }, kinds := [], alts := [], laidByText := true, laidKinds := [.data, .data, .data, .data, .pinned], laidTests := true, laidLooks := .later }
def TreeFindsUptoCardSaid : Prop := Claim7.holds Tryz.pinned (.plain (OpenSpec.upto treeFindsSpec)) treeFindsUptoCard

/-- THE SECOND FORM's CARD OF 'halyardlaw12.TreeAbove'. -/
def treeAboveUptoCard : Claim7 := { stood := { row := treeAboveUptoRow, standIns := [], harness := (true, "42684f3647499b5b6a2f36e1c55649b99615db71d7b41d757b06bdc4a7336a38"), looks := false }, kinds := [], alts := [], laidByText := true, laidKinds := [.data, .data, .data, .data, .pinned], laidTests := true, laidLooks := .later }
def TreeAboveUptoCardSaid : Prop := Claim7.holds Tryz.pinned (.plain (OpenSpec.upto treeAboveSpec)) treeAboveUptoCard
end Rows
end Go.Proofs.YtanipbpphbkmcaaGreatDoor
