/-
  DERIVED. GIVEN WITH THE SEED: THE CARDS: each row of YtkpbnbnfgadkcaaDoorRows.lean that lists a variable, with what it lists TIED to the program's text (the seventh form; the later family's looks); each row that meets fmt, with fmt's text TOLD by the authors' own Lean function (tested against real Go, not proved from fmt's source: count such statements apart). THE CARD IS WHAT COUNTS. Prove the row's statement (the work); the ties are given (YtkpbnbnfgadkcaaDoorTie.lean); close each card by the builder's one call (the guide's Derived/Test/ToyasCard.lean, 'card_holds'). Laid BY PROGRAM, IN A SANDBOX (cutbox-door.mjs). By AI agents, Wed Nov 11 2026. No macro, syntax, notation, axiom, sorry.
-/
import Derived.Test.YtkpbnbnfgadkcaaDoorRows
import GoSem.ClaimSeven
namespace Go.Proofs.YtkpbnbnfgadkcaaDoor
namespace Rows

/-- THE TIED CARD OF 'halyardlaw23.ChartTells'. -/
def chartTellsCard : Claim7 := { stood := { row := chartTellsRow, standIns := [], harness := (true, "b326fef5c595ad2e0d82adca3295534e2364cba6f7868828fc2477344f66880c"), looks := false }, kinds := [], alts := [], laidByText := true, laidKinds := [.data, .data, .data, .data, .pinned], laidTests := true, laidLooks := .later }
def ChartTellsCardSaid : Prop := Claim7.holds Tryd.pinned (.plain (OpenSpec.ofChange chartTellsSpec)) chartTellsCard

/-- THE SECOND FORM's CARD OF 'halyardlaw23.ChartTells'. -/
def chartTellsUptoCard : Claim7 := { stood := { row := chartTellsUptoRow, standIns := [], harness := (true, "b326fef5c595ad2e0d82adca3295534e2364cba6f7868828fc2477344f66880c"), looks := false }, kinds := [], alts := [], laidByText := true, laidKinds := [.data, .data, .data, .data, .pinned], laidTests := true, laidLooks := .later }
def ChartTellsUptoCardSaid : Prop := Claim7.holds Tryd.pinned (.plain (OpenSpec.upto chartTellsSpec)) chartTellsUptoCard
end Rows
end Go.Proofs.YtkpbnbnfgadkcaaDoor
