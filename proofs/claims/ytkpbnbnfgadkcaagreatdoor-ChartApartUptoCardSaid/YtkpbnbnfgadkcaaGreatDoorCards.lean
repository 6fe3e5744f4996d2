/-
  DERIVED. GIVEN WITH THE SEED: THE CARDS: each row of YtkpbnbnfgadkcaaGreatDoorRows.lean that lists a variable, with what it lists TIED to the program's text (the seventh form; the later family's looks); each row that meets fmt, with fmt's text TOLD by the authors' own Lean function (tested against real Go, not proved from fmt's source: count such statements apart). THE CARD IS WHAT COUNTS. Prove the row's statement (the work); the ties are given (YtkpbnbnfgadkcaaGreatDoorTie.lean); close each card by the builder's one call (the guide's Derived/Test/ToyasCard.lean, 'card_holds'). Laid BY PROGRAM, IN A SANDBOX (cutbox-door.mjs). By AI agents, Wed Nov 11 2026. No macro, syntax, notation, axiom, sorry.
-/
import Derived.Test.YtkpbnbnfgadkcaaGreatDoorRows
import GoSem.ClaimSeven
namespace Go.Proofs.YtkpbnbnfgadkcaaGreatDoor
namespace Rows

/-- THE TIED CARD OF 'halyardlaw23.ChartDraws'. -/
def chartDrawsCard : Claim7 := { stood := { row := chartDrawsRow, standIns := [], harness := (true, "d267b4183e583ac28f05c06db836c74429b4e6bf38fff6a31ff678506e98064f"), looks := false }, kinds := [], alts := [], laidByText := true, laidKinds := [.data, .data, .data, .data, .pinned], laidTests := true, laidLooks := .later }
def ChartDrawsCardSaid : Prop := Claim7.holds Tryz.pinned (.plain (OpenSpec.ofChange chartDrawsSpec)) chartDrawsCard

/-- THE TIED CARD OF 'halyardlaw23.ChartApart'. -/
def chartApartCard : Claim7 := { stood := { row := chartApartRow, standIns := [], harness := (true, "d267b4183e583ac28f05c06db836c74429b4e6bf38fff6a31ff678506e98064f"), looks := false }, kinds := [], alts := [], laidByText := true, laidKinds := [.data, .data, .data, .data, .pinned], laidTests := true, laidLooks := .later }
def ChartApartCardSaid : Prop := Claim7.holds Tryz.pinned (.plain (OpenSpec.ofChange chartApartSpec)) chartApartCard

/-- THE TIED CARD OF 'halyardlaw23.ChartTurns'. -/
def chartTurnsCard : Claim7 := { stood := { row := chartTurnsRow, standIns := [], harness := (true, "d267b4183e583ac28f05c06db836c74429b4e6bf38fff6a31ff678506e98064f"), looks := false }, kinds := [], alts := [], laidByText := true, laidKinds := [.data, .data, .data, .data, .pinned], laidTests := true, laidLooks := .later }
def ChartTurnsCardSaid : Prop := Claim7.holds Tryz.pinned (.plain (OpenSpec.ofChange chartTurnsSpec)) chartTurnsCard

/-- THE TIED CARD OF 'halyardlaw23.ChartRows'. -/
def chartRowsCard : Claim7 := { stood := { row := chartRowsRow, standIns := [], harness := (true, "d267b4183e583ac28f05c06db836c74429b4e6bf38fff6a31ff678506e98064f"), looks := false }, kinds := [], alts := [], laidByText := true, laidKinds := [.data, .data, .data, .data, .pinned], laidTests := true, laidLooks := .later }
def ChartRowsCardSaid : Prop := Claim7.holds Tryz.pinned (.plain (OpenSpec.ofChange chartRowsSpec)) chartRowsCard

/-- THE SECOND FORM's CARD OF 'halyardlaw23.ChartDraws'. -/
def chartDrawsUptoCard : Claim7 := { stood := { row := chartDrawsUptoRow, standIns := [], harness := (true, "d267b4183e583ac28f05c06db836c74429b4e6bf38fff6a31ff678506e98064f"), looks := false }, kinds := [], alts := [], laidByText := true, laidKinds := [.data, .data, .data, .data, .pinned], laidTests := true, laidLooks := .later }
def ChartDrawsUptoCardSaid : Prop := Claim7.holds Tryz.pinned (.plain (OpenSpec.upto chartDrawsSpec)) chartDrawsUptoCard

/-- THE SECOND FORM's CARD OF 'halyardlaw23.ChartApart'. -/
def chartApartUptoCard : Claim7 := { stood := { row := chartApartUptoRow, standIns := [], harness := (true, "d267b4183e583ac28f05c06db836c74429b4e6bf38fff6a31ff678506e98064f"), looks := false }, kinds := [], alts := [], laidByText := true, laidKinds := [.data, .data, .data, .data, .pinned], laidTests := true, laidLooks := .later }
def ChartApartUptoCardSaid : Prop := Claim7.holds Tryz.pinned (.plain (OpenSpec.upto chartApartSpec)) chartApartUptoCard

/-- THE SECOND FORM's CARD OF 'halyardlaw23.ChartTurns'. -/
def chartTurnsUptoCard : Claim7 := { stood := { row := chartTurnsUptoRow, standIns := [], harness := (true, "d267b4183e583ac28f05c06db836c74429b4e6bf38fff6a31ff678506e98064f"), looks := false }, kinds := [], alts := [], laidByText := true, laidKinds := [.data, .data, .data, .data, .pinned], laidTests := true, laidLooks := .later }
def ChartTurnsUptoCardSaid : Prop := Claim7.holds Tryz.pinned (.plain (OpenSpec.upto chartTurnsSpec)) chartTurnsUptoCard

/-- THE SECOND FORM's CARD OF 'halyardlaw23.ChartRows'. -/
def chartRowsUptoCard : Claim7 := { stood := { row := chartRowsUptoRow, standIns := [], harness := (true, "d267b4183e583ac28f05c06db836c74429b4e6bf38fff6a31ff678506e98064f"), looks := false }, kinds := [], alts := [], laidByText := true, laidKinds := [.data, .data, .data, .data, .pinned], laidTests := true, laidLooks := .later }
def ChartRowsUptoCardSaid : Prop := Claim7.holds Tryz.pinned (.plain (OpenSpec.upto chartRowsSpec)) chartRowsUptoCard
end Rows
end Go.Proofs.YtkpbnbnfgadkcaaGreatDoor
