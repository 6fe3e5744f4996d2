/-
  DERIVED. GIVEN WITH THE SEED: THE CARDS: each row of YtanipbpphbkmcaaDoorRows.lean that lists a variable, with what it lists TIED to the program's text (the seventh form; the later family's looks); each row that meets fmt, with fmt's text TOLD by the authors' own Lean function (tested against real Go, not proved from fmt's source: count such statements apart). THE CARD IS WHAT COUNTS. Prove the row's statement (the work); the ties are given (YtanipbpphbkmcaaDoorTie.lean); close each card by the builder's one call (the guide's Derived/Test/ToyasCard.lean, 'card_holds'). Laid BY PROGRAM, IN A SANDBOX (cutbox-door.mjs). By AI agents, Wed Nov 11 2026. No macro, syntax, notation, axiom, sorry.
-/
import Derived.Test.YtanipbpphbkmcaaDoorRows
import GoSem.ClaimSeven
namespace Go.Proofs.YtanipbpphbkmcaaDoor
namespace Rows

/-- THE TIED CARD OF 'halyardlaw12.TreeSame'. -/
def treeSameCard : Claim7 := { stood := { row := treeSameRow, standIns := [], harness := (true, "18f7fce5ad51cc7a3559bf5fbd99be3ddfa401068b9c72daee5599b040058efc"), looks := false }, kinds := [], alts := [], laidByText := true, laidKinds := [.data, .data, .data, .data, .pinned], laidTests := true, laidLooks := .later }
def TreeSameCardSaid : Prop := Claim7.holds Tryd.pinned (.plain (OpenSpec.ofChange treeSameSpec)) treeSameCard

/-- THE TIED CARD OF 'halyardlaw13.WalkupLooks'. -/
def walkupLooksCard : Claim7 := { stood := { row := walkupLooksRow, standIns := [], harness := (true, "18f7fce5ad51cc7a3559bf5fbd99be3ddfa401068b9c72daee5599b040058efc"), looks := false }, kinds := [], alts := [], laidByText := true, laidKinds := [.data, .data, .data, .data, .pinned], laidTests := true, laidLooks := .later }
def WalkupLooksCardSaid : Prop := Claim7.holds Tryd.pinned (.plain (OpenSpec.ofChange walkupLooksSpec)) walkupLooksCard

/-- THE TIED CARD OF 'halyardlaw13.WalkupRight'. -/
def walkupRightCard : Claim7 := { stood := { row := walkupRightRow, standIns := [], harness := (true, "18f7fce5ad51cc7a3559bf5fbd99be3ddfa401068b9c72daee5599b040058efc"), looks := false }, kinds := [], alts := [], laidByText := true, laidKinds := [.data, .data, .data, .data, .pinned], laidTests := true, laidLooks := .later }
def WalkupRightCardSaid : Prop := Claim7.holds Tryd.pinned (.plain (OpenSpec.ofChange walkupRightSpec)) walkupRightCard

/-- THE TIED CARD OF 'halyardlaw12.TreePaths'. -/
def treePathsCard : Claim7 := { stood := { row := treePathsRow, standIns := [], harness := (true, "18f7fce5ad51cc7a3559bf5fbd99be3ddfa401068b9c72daee5599b040058efc"), looks := false }, kinds := [], alts := [], laidByText := true, laidKinds := [.data, .data, .data, .data, .pinned], laidTests := true, laidLooks := .later }
def TreePathsCardSaid : Prop := Claim7.holds Tryd.pinned (.plain (OpenSpec.ofChange treePathsSpec)) treePathsCard

/-- THE SECOND FORM's CARD OF 'halyardlaw12.TreeSame'. -/
def treeSameUptoCard : Claim7 := { stood := { row := treeSameUptoRow, standIns := [], harness := (true, "18f7fce5ad51cc7a3559bf5fbd99be3ddfa401068b9c72daee5599b040058efc"), looks := false }, kinds := [], alts := [], laidByText := true, laidKinds := [.data, .data, .data, .data, .pinned], laidTests := true, laidLooks := .later }
def TreeSameUptoCardSaid : Prop := Claim7.holds Tryd.pinned (.plain (OpenSpec.upto treeSameSpec)) treeSameUptoCard

/-- THE SECOND FORM's CARD OF 'halyardlaw13.WalkupLooks'. -/
def walkupLooksUptoCard : Claim7 := { stood := { row := walkupLooksUptoRow, standIns := [], harness := (true, "18f7fce5ad51cc7a3559bf5fbd99be3ddfa401068b9c72daee5599b040058efc"), looks := false }, kinds := [], alts := [], laidByText := true, laidKinds := [.data, .data, .data, .data, .pinned], laidTests := true, laidLooks := .later }
def WalkupLooksUptoCardSaid : Prop := Claim7.holds Tryd.pinned (.plain (OpenSpec.upto walkupLooksSpec)) walkupLooksUptoCard

/-- THE SECOND FORM's CARD OF 'halyardlaw13.WalkupRight'. -/
def walkupRightUptoCard : Claim7 := { stood := { row := walkupRightUptoRow, standIns := [], harness := (true, "18f7fce5ad51cc7a3559bf5fbd99be3ddfa401068b9c72daee5599b040058efc"), looks := false }, kinds := [], alts := [], laidByText := true, laidKinds := [.data, .data, .data, .data, .pinned], laidTests := true, laidLooks := .later }
def WalkupRightUptoCardSaid : Prop := Claim7.holds Tryd.pinned (.plain (OpenSpec.upto walkupRightSpec)) walkupRightUptoCard

/-- THE SECOND FORM's CARD OF 'halyardlaw12.TreePaths'. -/
def treePathsUptoCard : Claim7 := { stood := { row := treePathsUptoRow, standIns := [], harness := (true, "18f7fce5ad51cc7a3559bf5fbd99be3ddfa401068b9c72daee5599b040058efc"), looks := false }, kinds := [], alts := [], laidByText := true, laidKinds := [.data, .data, .data, .data, .pinned], laidTests := true, laidLooks := .later }
def TreePathsUptoCardSaid : Prop := Claim7.holds Tryd.pinned (.plain (OpenSpec.upto treePathsSpec)) treePathsUptoCard
end Rows
end Go.Proofs.YtanipbpphbkmcaaDoor
