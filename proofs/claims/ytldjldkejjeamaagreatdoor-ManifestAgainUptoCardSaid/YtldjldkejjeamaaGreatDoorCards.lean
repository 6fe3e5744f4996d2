/-
  DERIVED. GIVEN WITH THE SEED: THE CARDS: each row of YtldjldkejjeamaaGreatDoorRows.lean that lists a variable, with what it lists TIED to the program's text (the seventh form; the later family's looks); each row that meets fmt, with fmt's text TOLD by the authors' own Lean function (tested against real Go, not proved from fmt's source: count such statements apart). THE CARD IS WHAT COUNTS. Prove the row's statement (the work); the ties are given (YtldjldkejjeamaaGreatDoorTie.lean); close each card by the builder's one call (the guide's Derived/Test/ToyasCard.lean, 'card_holds'). Laid BY PROGRAM, IN A SANDBOX (cutbox-door.mjs). By AI agents, Wed Nov 11 2026. No macro, syntax, notation, axiom, sorry.
-/
import Derived.Test.YtldjldkejjeamaaGreatDoorRows
import GoSem.ClaimSeven
namespace Go.Proofs.YtldjldkejjeamaaGreatDoor
namespace Rows

/-- THE TIED CARD OF 'halyardlaw05.PackMay'. -/
def packMayCard : Claim7 := { stood := { row := packMayRow, standIns := [], harness := (true, "4277cf918c8a7bb99435e90f1c532b0fb53d8efbd94758aecc680d64884a1bff"), looks := true }, kinds := [], alts := [], laidByText := true, laidKinds := [.data, .data, .data, .data, .sentinel, .sentinel, .pinned], laidTests := true, laidLooks := .later }
def PackMayCardSaid : Prop := Claim7.holds Tryz.pinned (.plain (OpenSpec.ofChange packMaySpec)) packMayCard

/-- THE TIED CARD OF 'halyardlaw05.PackWrites'. -/
def packWritesCard : Claim7 := { stood := { row := packWritesRow, standIns := [], harness := (true, "4277cf918c8a7bb99435e90f1c532b0fb53d8efbd94758aecc680d64884a1bff"), looks := true }, kinds := [], alts := [], laidByText := true, laidKinds := [.data, .data, .data, .data, .sentinel, .sentinel, .pinned], laidTests := true, laidLooks := .later }
def PackWritesCardSaid : Prop := Claim7.holds Tryz.pinned (.plain (OpenSpec.ofChange packWritesSpec)) packWritesCard

/-- THE TIED CARD OF 'halyardlaw05.PackReads'. -/
def packReadsCard : Claim7 := { stood := { row := packReadsRow, standIns := [], harness := (true, "4277cf918c8a7bb99435e90f1c532b0fb53d8efbd94758aecc680d64884a1bff"), looks := true }, kinds := [], alts := [], laidByText := true, laidKinds := [.data, .data, .data, .data, .sentinel, .sentinel, .pinned], laidTests := true, laidLooks := .later }
def PackReadsCardSaid : Prop := Claim7.holds Tryz.pinned (.plain (OpenSpec.ofChange packReadsSpec)) packReadsCard

/-- THE TIED CARD OF 'halyardlaw05.PackAgain'. -/
def packAgainCard : Claim7 := { stood := { row := packAgainRow, standIns := [], harness := (true, "4277cf918c8a7bb99435e90f1c532b0fb53d8efbd94758aecc680d64884a1bff"), looks := true }, kinds := [], alts := [], laidByText := true, laidKinds := [.data, .data, .data, .data, .sentinel, .sentinel, .pinned], laidTests := true, laidLooks := .later }
def PackAgainCardSaid : Prop := Claim7.holds Tryz.pinned (.plain (OpenSpec.ofChange packAgainSpec)) packAgainCard

/-- THE TIED CARD OF 'halyardlaw05.PackRanges'. -/
def packRangesCard : Claim7 := { stood := { row := packRangesRow, standIns := [], harness := (true, "4277cf918c8a7bb99435e90f1c532b0fb53d8efbd94758aecc680d64884a1bff"), looks := true }, kinds := [], alts := [], laidByText := true, laidKinds := [.data, .data, .data, .data, .sentinel, .sentinel, .pinned], laidTests := true, laidLooks := .later }
def PackRangesCardSaid : Prop := Claim7.holds Tryz.pinned (.plain (OpenSpec.ofChange packRangesSpec)) packRangesCard

/-- THE TIED CARD OF 'halyardlaw05.PackTexts'. -/
def packTextsCard : Claim7 := { stood := { row := packTextsRow, standIns := [], harness := (true, "4277cf918c8a7bb99435e90f1c532b0fb53d8efbd94758aecc680d64884a1bff"), looks := true }, kinds := [], alts := [], laidByText := true, laidKinds := [.data, .data, .data, .data, .sentinel, .sentinel, .pinned], laidTests := true, laidLooks := .later }
def PackTextsCardSaid : Prop := Claim7.holds Tryz.pinned (.plain (OpenSpec.ofChange packTextsSpec)) packTextsCard

/-- THE TIED CARD OF 'halyardlaw06.ManifestMay'. -/
def manifestMayCard : Claim7 := { stood := { row := manifestMayRow, standIns := [], harness := (true, "4277cf918c8a7bb99435e90f1c532b0fb53d8efbd94758aecc680d64884a1bff"), looks := true }, kinds := [], alts := [], laidByText := true, laidKinds := [.data, .data, .data, .data, .sentinel, .sentinel, .pinned], laidTests := true, laidLooks := .later }
def ManifestMayCardSaid : Prop := Claim7.holds Tryz.pinned (.plain (OpenSpec.ofChange manifestMaySpec)) manifestMayCard

/-- THE TIED CARD OF 'halyardlaw06.ManifestWrites'. -/
def manifestWritesCard : Claim7 := { stood := { row := manifestWritesRow, standIns := [], harness := (true, "4277cf918c8a7bb99435e90f1c532b0fb53d8efbd94758aecc680d64884a1bff"), looks := true }, kinds := [], alts := [], laidByText := true, laidKinds := [.data, .data, .data, .data, .sentinel, .sentinel, .pinned], laidTests := true, laidLooks := .later }
def ManifestWritesCardSaid : Prop := Claim7.holds Tryz.pinned (.plain (OpenSpec.ofChange manifestWritesSpec)) manifestWritesCard

/-- THE TIED CARD OF 'halyardlaw06.ManifestReads'. -/
def manifestReadsCard : Claim7 := { stood := { row := manifestReadsRow, standIns := [], harness := (true, "4277cf918c8a7bb99435e90f1c532b0fb53d8efbd94758aecc680d64884a1bff"), looks := true }, kinds := [], alts := [], laidByText := true, laidKinds := [.data, .data, .data, .data, .sentinel, .sentinel, .pinned], laidTests := true, laidLooks := .later }
def ManifestReadsCardSaid : Prop := Claim7.holds Tryz.pinned (.plain (OpenSpec.ofChange manifestReadsSpec)) manifestReadsCard

/-- THE TIED CARD OF 'halyardlaw06.ManifestAgain'. -/
def manifestAgainCard : Claim7 := { stood := { row := manifestAgainRow, standIns := [], harness := (true, "4277cf918c8a7bb99435e90f1c532b0fb53d8efbd94758aecc680d64884a1bff"), looks := true }, kinds := [], alts := [], laidByText := true, laidKinds := [.data, .data, .data, .data, .sentinel, .sentinel, .pinned], laidTests := true, laidLooks := .later }
def ManifestAgainCardSaid : Prop := Claim7.holds Tryz.pinned (.plain (OpenSpec.ofChange manifestAgainSpec)) manifestAgainCard

/-- THE TIED CARD OF 'halyardlaw06.ManifestTexts'. -/
def manifestTextsCard : Claim7 := { stood := { row := manifestTextsRow, standIns := [], harness := (true, "4277cf918c8a7bb99435e90f1c532b0fb53d8efbd94758aecc680d64884a1bff"), looks := true }, kinds := [], alts := [], laidByText := true, laidKinds := [.data, .data, .data, .data, .sentinel, .sentinel, .pinned], laidTests := true, laidLooks := .later }
def ManifestTextsCardSaid : Prop := Claim7.holds Tryz.pinned (.plain (OpenSpec.ofChange manifestTextsSpec)) manifestTextsCard

/-- THE SECOND FORM's CARD OF 'halyardlaw05.PackMay'. -/
def packMayUptoCard : Claim7 := { stood := { row := packMayUptoRow, standIns := [], harness := (true, "4277cf918c8a7bb99435e90f1c532b0fb53d8efbd94758aecc680d64884a1bff"), looks := true }, kinds := [], alts := [], laidByText := true, laidKinds := [.data, .data, .data, .data, .sentinel, .sentinel, .pinned], laidTests := true, laidLooks := .later }
def PackMayUptoCardSaid : Prop := Claim7.holds Tryz.pinned (.plain (OpenSpec.upto packMaySpec)) packMayUptoCard

/-- THE SECOND FORM's CARD OF 'halyardlaw05.PackWrites'. -/
def packWritesUptoCard : Claim7 := { stood := { row := packWritesUptoRow, standIns := [], harness := (true, "4277cf918c8a7bb99435e90f1c532b0fb53d8efbd94758aecc680d64884a1bff"), looks := true }, kinds := [], alts := [], laidByText := true, laidKinds := [.data, .data, .data, .data, .sentinel, .sentinel, .pinned], laidTests := true, laidLooks := .later }
def PackWritesUptoCardSaid : Prop := Claim7.holds Tryz.pinned (.plain (OpenSpec.upto packWritesSpec)) packWritesUptoCard

/-- THE SECOND FORM's CARD OF 'halyardlaw05.PackReads'. -/
def packReadsUptoCard : Claim7 := { stood := { row := packReadsUptoRow, standIns := [], harness := (true, "4277cf918c8a7bb99435e90f1c532b0fb53d8efbd94758aecc680d64884a1bff"), looks := true }, kinds := [], alts := [], laidByText := true, laidKinds := [.data, .data, .data, .data, .sentinel, .sentinel, .pinned], laidTests := true, laidLooks := .later }
def PackReadsUptoCardSaid : Prop := Claim7.holds Tryz.pinned (.plain (OpenSpec.upto packReadsSpec)) packReadsUptoCard

/-- THE SECOND FORM's CARD OF 'halyardlaw05.PackAgain'. -/
def packAgainUptoCard : Claim7 := { stood := { row := packAgainUptoRow, standIns := [], harness := (true, "4277cf918c8a7bb99435e90f1c532b0fb53d8efbd94758aecc680d64884a1bff"), looks := true }, kinds := [], alts := [], laidByText := true, laidKinds := [.data, .data, .data, .data, .sentinel, .sentinel, .pinned], laidTests := true, laidLooks := .later }
def PackAgainUptoCardSaid : Prop := Claim7.holds Tryz.pinned (.plain (OpenSpec.upto packAgainSpec)) packAgainUptoCard

/-- THE SECOND FORM's CARD OF 'halyardlaw05.PackRanges'. -/
def packRangesUptoCard : Claim7 := { stood := { row := packRangesUptoRow, standIns := [], harness := (true, "4277cf918c8a7bb99435e90f1c532b0fb53d8efbd94758aecc680d64884a1bff"), looks := true }, kinds := [], alts := [], laidByText := true, laidKinds := [.data, .data, .data, .data, .sentinel, .sentinel, .pinned], laidTests := true, laidLooks := .later }
def PackRangesUptoCardSaid : Prop := Claim7.holds Tryz.pinned (.plain (OpenSpec.upto packRangesSpec)) packRangesUptoCard

/-- THE SECOND FORM's CARD OF 'halyardlaw05.PackTexts'. -/
def packTextsUptoCard : Claim7 := { stood := { row := packTextsUptoRow, standIns := [], harness := (true, "4277cf918c8a7bb99435e90f1c532b0fb53d8efbd94758aecc680d64884a1bff"), looks := true }, kinds := [], alts := [], laidByText := true, laidKinds := [.data, .data, .data, .data, .sentinel, .sentinel, .pinned], laidTests := true, laidLooks := .later }
def PackTextsUptoCardSaid : Prop := Claim7.holds Tryz.pinned (.plain (OpenSpec.upto packTextsSpec)) packTextsUptoCard

/-- THE SECOND FORM's CARD OF 'halyardlaw06.ManifestMay'. -/
def manifestMayUptoCard : Claim7 := { stood := { row := manifestMayUptoRow, standIns := [], harness := (true, "4277cf918c8a7bb99435e90f1c532b0fb53d8efbd94758aecc680d64884a1bff"), looks := true }, kinds := [], alts := [], laidByText := true, laidKinds := [.data, .data, .data, .data, .sentinel, .sentinel, .pinned], laidTests := true, laidLooks := .later }
def ManifestMayUptoCardSaid : Prop := Claim7.holds Tryz.pinned (.plain (OpenSpec.upto manifestMaySpec)) manifestMayUptoCard

/-- THE SECOND FORM's CARD OF 'halyardlaw06.ManifestWrites'. -/
def manifestWritesUptoCard : Claim7 := { stood := { row := manifestWritesUptoRow, standIns := [], harness := (true, "4277cf918c8a7bb99435e90f1c532b0fb53d8efbd94758aecc680d64884a1bff"), looks := true }, kinds := [], alts := [], laidByText := true, laidKinds := [.data, .data, .data, .data, .sentinel, .sentinel, .pinned], laidTests := true, laidLooks := .later }
def ManifestWritesUptoCardSaid : Prop := Claim7.holds Tryz.pinned (.plain (OpenSpec.upto manifestWritesSpec)) manifestWritesUptoCard

/-- THE SECOND FORM's CARD OF 'halyardlaw06.ManifestReads'. -/
def manifestReadsUptoCard : Claim7 := { stood := { row := manifestReadsUptoRow, standIns := [], harness := (true, "4277cf918c8a7bb99435e90f1c532b0fb53d8efbd94758aecc680d64884a1bff"), looks := true }, kinds := [], alts := [], laidByText := true, laidKinds := [.data, .data, .data, .data, .sentinel, .sentinel, .pinned], laidTests := true, laidLooks := .later }
def ManifestReadsUptoCardSaid : Prop := Claim7.holds Tryz.pinned (.plain (OpenSpec.upto manifestReadsSpec)) manifestReadsUptoCard

/-- THE SECOND FORM's CARD OF 'halyardlaw06.ManifestAgain'. -/
def manifestAgainUptoCard : Claim7 := { stood := { row := manifestAgainUptoRow, standIns := [], harness := (true, "4277cf918c8a7bb99435e90f1c532b0fb53d8efbd94758aecc680d64884a1bff"), looks := true }, kinds := [], alts := [], laidByText := true, laidKinds := [.data, .data, .data, .data, .sentinel, .sentinel, .pinned], laidTests := true, laidLooks := .later }
def ManifestAgainUptoCardSaid : Prop := Claim7.holds Tryz.pinned (.plain (OpenSpec.upto manifestAgainSpec)) manifestAgainUptoCard

/-- THE SECOND FORM's CARD OF 'halyardlaw06.ManifestTexts'. -/
def manifestTextsUptoCard : Claim7 := { stood := { row := manifestTextsUptoRow, standIns := [], harness := (true, "4277cf918c8a7bb99435e90f1c532b0fb53d8efbd94758aecc680d64884a1bff"), looks := true }, kinds := [], alts := [], laidByText := true, laidKinds := [.data, .data, .data, .data, .sentinel, .sentinel, .pinned], laidTests := true, laidLooks := .later }
def ManifestTextsUptoCardSaid : Prop := Claim7.holds Tryz.pinned (.plain (OpenSpec.upto manifestTextsSpec)) manifestTextsUptoCard
end Rows
end Go.Proofs.YtldjldkejjeamaaGreatDoor
