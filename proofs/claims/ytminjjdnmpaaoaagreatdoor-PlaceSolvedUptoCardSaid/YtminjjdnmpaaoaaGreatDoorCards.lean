/-
  DERIVED. GIVEN WITH THE SEED: THE CARDS: each row of YtminjjdnmpaaoaaGreatDoorRows.lean that lists a variable, with what it lists TIED to the program's text (the seventh form; the later family's looks); each row that meets fmt, with fmt's text TOLD by the authors' own Lean function (tested against real Go, not proved from fmt's source: count such statements apart). THE CARD IS WHAT COUNTS. Prove the row's statement (the work); the ties are given (YtminjjdnmpaaoaaGreatDoorTie.lean); close each card by the builder's one call (the guide's Derived/Test/ToyasCard.lean, 'card_holds'). Laid BY PROGRAM, IN A SANDBOX (cutbox-door.mjs). By AI agents, Wed Nov 11 2026. No macro, syntax, notation, axiom, sorry.
-/
import Derived.Test.YtminjjdnmpaaoaaGreatDoorRows
import GoSem.ClaimSeven
namespace Go.Proofs.YtminjjdnmpaaoaaGreatDoor
namespace Rows

/-- THE TIED CARD OF 'halyardlaw14.PlacePlays'. -/
def placePlaysCard : Claim7 := { stood := { row := placePlaysRow, standIns := [], harness := (true, "3336ace9aec7a040f54eb45a00184732792a21491fabfd869d8ac83896287399"), looks := false }, kinds := [], alts := [], laidByText := true, laidKinds := [.data, .data, .data, .data, .pinned], laidTests := true, laidLooks := .later }
def PlacePlaysCardSaid : Prop := Claim7.holds Tryz.pinned (.plain (OpenSpec.ofChange placePlaysSpec)) placePlaysCard

/-- THE TIED CARD OF 'halyardlaw14.PlaceSolved'. -/
def placeSolvedCard : Claim7 := { stood := { row := placeSolvedRow, standIns := [], harness := (true, "3336ace9aec7a040f54eb45a00184732792a21491fabfd869d8ac83896287399"), looks := false }, kinds := [], alts := [], laidByText := true, laidKinds := [.data, .data, .data, .data, .pinned], laidTests := true, laidLooks := .later }
def PlaceSolvedCardSaid : Prop := Claim7.holds Tryz.pinned (.plain (OpenSpec.ofChange placeSolvedSpec)) placeSolvedCard

/-- THE TIED CARD OF 'halyardlaw14.PlaceInstance'. -/
def placeInstanceCard : Claim7 := { stood := { row := placeInstanceRow, standIns := [], harness := (true, "3336ace9aec7a040f54eb45a00184732792a21491fabfd869d8ac83896287399"), looks := false }, kinds := [], alts := [], laidByText := true, laidKinds := [.data, .data, .data, .data, .pinned], laidTests := true, laidLooks := .later }
def PlaceInstanceCardSaid : Prop := Claim7.holds Tryz.pinned (.plain (OpenSpec.ofChange placeInstanceSpec)) placeInstanceCard

/-- THE TIED CARD OF 'halyardlaw14.PlaceOnce'. -/
def placeOnceCard : Claim7 := { stood := { row := placeOnceRow, standIns := [], harness := (true, "3336ace9aec7a040f54eb45a00184732792a21491fabfd869d8ac83896287399"), looks := false }, kinds := [], alts := [], laidByText := true, laidKinds := [.data, .data, .data, .data, .pinned], laidTests := true, laidLooks := .later }
def PlaceOnceCardSaid : Prop := Claim7.holds Tryz.pinned (.plain (OpenSpec.ofChange placeOnceSpec)) placeOnceCard

/-- THE TIED CARD OF 'halyardlaw14.PlaceAgain'. -/
def placeAgainCard : Claim7 := { stood := { row := placeAgainRow, standIns := [], harness := (true, "3336ace9aec7a040f54eb45a00184732792a21491fabfd869d8ac83896287399"), looks := false }, kinds := [], alts := [], laidByText := true, laidKinds := [.data, .data, .data, .data, .pinned], laidTests := true, laidLooks := .later }
def PlaceAgainCardSaid : Prop := Claim7.holds Tryz.pinned (.plain (OpenSpec.ofChange placeAgainSpec)) placeAgainCard

/-- THE TIED CARD OF 'halyardlaw14.PlaceBounds'. -/
def placeBoundsCard : Claim7 := { stood := { row := placeBoundsRow, standIns := [], harness := (true, "3336ace9aec7a040f54eb45a00184732792a21491fabfd869d8ac83896287399"), looks := false }, kinds := [], alts := [], laidByText := true, laidKinds := [.data, .data, .data, .data, .pinned], laidTests := true, laidLooks := .later }
def PlaceBoundsCardSaid : Prop := Claim7.holds Tryz.pinned (.plain (OpenSpec.ofChange placeBoundsSpec)) placeBoundsCard

/-- THE TIED CARD OF 'halyardlaw14.PlaceKeeps'. -/
def placeKeepsCard : Claim7 := { stood := { row := placeKeepsRow, standIns := [], harness := (true, "3336ace9aec7a040f54eb45a00184732792a21491fabfd869d8ac83896287399"), looks := false }, kinds := [], alts := [], laidByText := true, laidKinds := [.data, .data, .data, .data, .pinned], laidTests := true, laidLooks := .later }
def PlaceKeepsCardSaid : Prop := Claim7.holds Tryz.pinned (.plain (OpenSpec.ofChange placeKeepsSpec)) placeKeepsCard

/-- THE TIED CARD OF 'halyardlaw14.PlaceMaps'. -/
def placeMapsCard : Claim7 := { stood := { row := placeMapsRow, standIns := [], harness := (true, "3336ace9aec7a040f54eb45a00184732792a21491fabfd869d8ac83896287399"), looks := false }, kinds := [], alts := [], laidByText := true, laidKinds := [.data, .data, .data, .data, .pinned], laidTests := true, laidLooks := .later }
def PlaceMapsCardSaid : Prop := Claim7.holds Tryz.pinned (.plain (OpenSpec.ofChange placeMapsSpec)) placeMapsCard

/-- THE SECOND FORM's CARD OF 'halyardlaw14.PlacePlays'. -/
def placePlaysUptoCard : Claim7 := { stood := { row := placePlaysUptoRow, standIns := [], harness := (true, "3336ace9aec7a040f54eb45a00184732792a21491fabfd869d8ac83896287399"), looks := false }, kinds := [], alts := [], laidByText := true, laidKinds := [.data, .data, .data, .data, .pinned], laidTests := true, laidLooks := .later }
def PlacePlaysUptoCardSaid : Prop := Claim7.holds Tryz.pinned (.plain (OpenSpec.upto placePlaysSpec)) placePlaysUptoCard

/-- THE SECOND FORM's CARD OF 'halyardlaw14.PlaceSolved'. -/
def placeSolvedUptoCard : Claim7 := { stood := { row := placeSolvedUptoRow, standIns := [], harness := (true, "3336ace9aec7a040f54eb45a00184732792a21491fabfd869d8ac83896287399"), looks := false }, kinds := [], alts := [], laidByText := true, laidKinds := [.data, .data, .data, .data, .pinned], laidTests := true, laidLooks := .later }
def PlaceSolvedUptoCardSaid : Prop := Claim7.holds Tryz.pinned (.plain (OpenSpec.upto placeSolvedSpec)) placeSolvedUptoCard

/-- THE SECOND FORM's CARD OF 'halyardlaw14.PlaceInstance'. -/
def placeInstanceUptoCard : Claim7 := { stood := { row := placeInstanceUptoRow, standIns := [], harness := (true, "3336ace9aec7a040f54eb45a00184732792a21491fabfd869d8ac83896287399"), looks := false }, kinds := [], alts := [], laidByText := true, laidKinds := [.data, .data, .data, .data, .pinned], laidTests := true, laidLooks := .later }
def PlaceInstanceUptoCardSaid : Prop := Claim7.holds Tryz.pinned (.plain (OpenSpec.upto placeInstanceSpec)) placeInstanceUptoCard

/-- THE SECOND FORM's CARD OF 'halyardlaw14.PlaceOnce'. -/
def placeOnceUptoCard : Claim7 := { stood := { row := placeOnceUptoRow, standIns := [], harness := (true, "3336ace9aec7a040f54eb45a00184732792a21491fabfd869d8ac83896287399"), looks := false }, kinds := [], alts := [], laidByText := true, laidKinds := [.data, .data, .data, .data, .pinned], laidTests := true, laidLooks := .later }
def PlaceOnceUptoCardSaid : Prop := Claim7.holds Tryz.pinned (.plain (OpenSpec.upto placeOnceSpec)) placeOnceUptoCard

/-- THE SECOND FORM's CARD OF 'halyardlaw14.PlaceAgain'. -/
def placeAgainUptoCard : Claim7 := { stood := { row := placeAgainUptoRow, standIns := [], harness := (true, "3336ace9aec7a040f54eb45a00184732792a21491fabfd869d8ac83896287399"), looks := false }, kinds := [], alts := [], laidByText := true, laidKinds := [.data, .data, .data, .data, .pinned], laidTests := true, laidLooks := .later }
def PlaceAgainUptoCardSaid : Prop := Claim7.holds Tryz.pinned (.plain (OpenSpec.upto placeAgainSpec)) placeAgainUptoCard

/-- THE SECOND FORM's CARD OF 'halyardlaw14.PlaceBounds'. -/
def placeBoundsUptoCard : Claim7 := { stood := { row := placeBoundsUptoRow, standIns := [], harness := (true, "3336ace9aec7a040f54eb45a00184732792a21491fabfd869d8ac83896287399"), looks := false }, kinds := [], alts := [], laidByText := true, laidKinds := [.data, .data, .data, .data, .pinned], laidTests := true, laidLooks := .later }
def PlaceBoundsUptoCardSaid : Prop := Claim7.holds Tryz.pinned (.plain (OpenSpec.upto placeBoundsSpec)) placeBoundsUptoCard

/-- THE SECOND FORM's CARD OF 'halyardlaw14.PlaceKeeps'. -/
def placeKeepsUptoCard : Claim7 := { stood := { row := placeKeepsUptoRow, standIns := [], harness := (true, "3336ace9aec7a040f54eb45a00184732792a21491fabfd869d8ac83896287399"), looks := false }, kinds := [], alts := [], laidByText := true, laidKinds := [.data, .data, .data, .data, .pinned], laidTests := true, laidLooks := .later }
def PlaceKeepsUptoCardSaid : Prop := Claim7.holds Tryz.pinned (.plain (OpenSpec.upto placeKeepsSpec)) placeKeepsUptoCard

/-- THE SECOND FORM's CARD OF 'halyardlaw14.PlaceMaps'. -/
def placeMapsUptoCard : Claim7 := { stood := { row := placeMapsUptoRow, standIns := [], harness := (true, "3336ace9aec7a040f54eb45a00184732792a21491fabfd869d8ac83896287399"), looks := false }, kinds := [], alts := [], laidByText := true, laidKinds := [.data, .data, .data, .data, .pinned], laidTests := true, laidLooks := .later }
def PlaceMapsUptoCardSaid : Prop := Claim7.holds Tryz.pinned (.plain (OpenSpec.upto placeMapsSpec)) placeMapsUptoCard
end Rows
end Go.Proofs.YtminjjdnmpaaoaaGreatDoor
