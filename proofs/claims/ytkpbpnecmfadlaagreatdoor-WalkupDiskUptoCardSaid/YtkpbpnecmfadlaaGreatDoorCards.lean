/-
  DERIVED. GIVEN WITH THE SEED: THE CARDS: each row of YtkpbpnecmfadlaaGreatDoorRows.lean that lists a variable, with what it lists TIED to the program's text (the seventh form; the later family's looks); each row that meets fmt, with fmt's text TOLD by the authors' own Lean function (tested against real Go, not proved from fmt's source: count such statements apart). THE CARD IS WHAT COUNTS. Prove the row's statement (the work); the ties are given (YtkpbpnecmfadlaaGreatDoorTie.lean); close each card by the builder's one call (the guide's Derived/Test/ToyasCard.lean, 'card_holds'). Laid BY PROGRAM, IN A SANDBOX (cutbox-door.mjs). By AI agents, Wed Nov 11 2026. No macro, syntax, notation, axiom, sorry.
-/
import Derived.Test.YtkpbpnecmfadlaaGreatDoorRows
import GoSem.ClaimSeven
namespace Go.Proofs.YtkpbpnecmfadlaaGreatDoor
namespace Rows

/-- THE TIED CARD OF 'halyardlaw13.WalkupDisk'. -/
def walkupDiskCard : Claim7 := { stood := { row := walkupDiskRow, standIns := [], harness := (true, "dce5efe26f649dba15a021b371edb2b602b53ef2cc94c4a6296035929dcca8bc"), looks := false }, kinds := [], alts := [], laidByText := true, laidKinds := [.data, .data, .data, .data, .pinned], laidTests := true, laidLooks := .later }
def WalkupDiskCardSaid : Prop := Claim7.holds Tryz.pinned (.plain (OpenSpec.ofChange walkupDiskSpec)) walkupDiskCard

/-- THE SECOND FORM's CARD OF 'halyardlaw13.WalkupDisk'. -/
def walkupDiskUptoCard : Claim7 := { stood := { row := walkupDiskUptoRow, standIns := [], harness := (true, "dce5efe26f649dba15a021b371edb2b602b53ef2cc94c4a6296035929dcca8bc"), looks := false }, kinds := [], alts := [], laidByText := true, laidKinds := [.data, .data, .data, .data, .pinned], laidTests := true, laidLooks := .later }
def WalkupDiskUptoCardSaid : Prop := Claim7.holds Tryz.pinned (.plain (OpenSpec.upto walkupDiskSpec)) walkupDiskUptoCard
end Rows
end Go.Proofs.YtkpbpnecmfadlaaGreatDoor
