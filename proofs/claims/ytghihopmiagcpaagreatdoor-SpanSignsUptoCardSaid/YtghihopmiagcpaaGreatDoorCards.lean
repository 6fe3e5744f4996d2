/-
  DERIVED. GIVEN WITH THE SEED: THE CARDS: each row of YtghihopmiagcpaaGreatDoorRows.lean that lists a variable, with what it lists TIED to the program's text (the seventh form; the later family's looks); each row that meets fmt, with fmt's text TOLD by the authors' own Lean function (tested against real Go, not proved from fmt's source: count such statements apart). THE CARD IS WHAT COUNTS. Prove the row's statement (the work); the ties are given (YtghihopmiagcpaaGreatDoorTie.lean); close each card by the builder's one call (the guide's Derived/Test/ToyasCard.lean, 'card_holds'). Laid BY PROGRAM, IN A SANDBOX (cutbox-door.mjs). By AI agents, Wed Nov 11 2026. No macro, syntax, notation, axiom, sorry.
-/
import Derived.Test.YtghihopmiagcpaaGreatDoorRows
import GoSem.ClaimSeven
namespace Go.Proofs.YtghihopmiagcpaaGreatDoor
namespace Rows

/-- THE TIED CARD OF 'halyardlaw03.SpanMay'. -/
def spanMayCard : Claim7 := { stood := { row := spanMayRow, standIns := [], harness := (true, "4cf3f4978880824bb88898aaaee76015064c76bd23728fc65d5b5902f7e9114d"), looks := true }, kinds := [], alts := [], laidByText := true, laidKinds := [.data, .data, .data, .data, .sentinel, .sentinel, .pinned], laidTests := true, laidLooks := .later }
def SpanMayCardSaid : Prop := Claim7.holds Tryz.pinned (.plain (OpenSpec.ofChange spanMaySpec)) spanMayCard

/-- THE TIED CARD OF 'halyardlaw03.SpanReads'. -/
def spanReadsCard : Claim7 := { stood := { row := spanReadsRow, standIns := [], harness := (true, "4cf3f4978880824bb88898aaaee76015064c76bd23728fc65d5b5902f7e9114d"), looks := true }, kinds := [], alts := [], laidByText := true, laidKinds := [.data, .data, .data, .data, .sentinel, .sentinel, .pinned], laidTests := true, laidLooks := .later }
def SpanReadsCardSaid : Prop := Claim7.holds Tryz.pinned (.plain (OpenSpec.ofChange spanReadsSpec)) spanReadsCard

/-- THE TIED CARD OF 'halyardlaw03.SpanWrites'. -/
def spanWritesCard : Claim7 := { stood := { row := spanWritesRow, standIns := [], harness := (true, "4cf3f4978880824bb88898aaaee76015064c76bd23728fc65d5b5902f7e9114d"), looks := true }, kinds := [], alts := [], laidByText := true, laidKinds := [.data, .data, .data, .data, .sentinel, .sentinel, .pinned], laidTests := true, laidLooks := .later }
def SpanWritesCardSaid : Prop := Claim7.holds Tryz.pinned (.plain (OpenSpec.ofChange spanWritesSpec)) spanWritesCard

/-- THE TIED CARD OF 'halyardlaw03.SpanSigns'. -/
def spanSignsCard : Claim7 := { stood := { row := spanSignsRow, standIns := [], harness := (true, "4cf3f4978880824bb88898aaaee76015064c76bd23728fc65d5b5902f7e9114d"), looks := true }, kinds := [], alts := [], laidByText := true, laidKinds := [.data, .data, .data, .data, .sentinel, .sentinel, .pinned], laidTests := true, laidLooks := .later }
def SpanSignsCardSaid : Prop := Claim7.holds Tryz.pinned (.plain (OpenSpec.ofChange spanSignsSpec)) spanSignsCard

/-- THE TIED CARD OF 'halyardlaw03.SpanTexts'. -/
def spanTextsCard : Claim7 := { stood := { row := spanTextsRow, standIns := [], harness := (true, "4cf3f4978880824bb88898aaaee76015064c76bd23728fc65d5b5902f7e9114d"), looks := true }, kinds := [], alts := [], laidByText := true, laidKinds := [.data, .data, .data, .data, .sentinel, .sentinel, .pinned], laidTests := true, laidLooks := .later }
def SpanTextsCardSaid : Prop := Claim7.holds Tryz.pinned (.plain (OpenSpec.ofChange spanTextsSpec)) spanTextsCard

/-- THE TIED CARD OF 'halyardlaw03.SpanFolds'. -/
def spanFoldsCard : Claim7 := { stood := { row := spanFoldsRow, standIns := [], harness := (true, "4cf3f4978880824bb88898aaaee76015064c76bd23728fc65d5b5902f7e9114d"), looks := true }, kinds := [], alts := [], laidByText := true, laidKinds := [.data, .data, .data, .data, .sentinel, .sentinel, .pinned], laidTests := true, laidLooks := .later }
def SpanFoldsCardSaid : Prop := Claim7.holds Tryz.pinned (.plain (OpenSpec.ofChange spanFoldsSpec)) spanFoldsCard

/-- THE TIED CARD OF 'halyardlaw03.SpanPoints'. -/
def spanPointsCard : Claim7 := { stood := { row := spanPointsRow, standIns := [], harness := (true, "4cf3f4978880824bb88898aaaee76015064c76bd23728fc65d5b5902f7e9114d"), looks := true }, kinds := [], alts := [], laidByText := true, laidKinds := [.data, .data, .data, .data, .sentinel, .sentinel, .pinned], laidTests := true, laidLooks := .later }
def SpanPointsCardSaid : Prop := Claim7.holds Tryz.pinned (.plain (OpenSpec.ofChange spanPointsSpec)) spanPointsCard

/-- THE TIED CARD OF 'halyardlaw03.SpanRules'. -/
def spanRulesCard : Claim7 := { stood := { row := spanRulesRow, standIns := [], harness := (true, "4cf3f4978880824bb88898aaaee76015064c76bd23728fc65d5b5902f7e9114d"), looks := true }, kinds := [], alts := [], laidByText := true, laidKinds := [.data, .data, .data, .data, .sentinel, .sentinel, .pinned], laidTests := true, laidLooks := .later }
def SpanRulesCardSaid : Prop := Claim7.holds Tryz.pinned (.plain (OpenSpec.ofChange spanRulesSpec)) spanRulesCard

/-- THE TIED CARD OF 'halyardlaw03.SpanThree'. -/
def spanThreeCard : Claim7 := { stood := { row := spanThreeRow, standIns := [], harness := (true, "4cf3f4978880824bb88898aaaee76015064c76bd23728fc65d5b5902f7e9114d"), looks := true }, kinds := [], alts := [], laidByText := true, laidKinds := [.data, .data, .data, .data, .sentinel, .sentinel, .pinned], laidTests := true, laidLooks := .later }
def SpanThreeCardSaid : Prop := Claim7.holds Tryz.pinned (.plain (OpenSpec.ofChange spanThreeSpec)) spanThreeCard

/-- THE SECOND FORM's CARD OF 'halyardlaw03.SpanMay'. -/
def spanMayUptoCard : Claim7 := { stood := { row := spanMayUptoRow, standIns := [], harness := (true, "4cf3f4978880824bb88898aaaee76015064c76bd23728fc65d5b5902f7e9114d"), looks := true }, kinds := [], alts := [], laidByText := true, laidKinds := [.data, .data, .data, .data, .sentinel, .sentinel, .pinned], laidTests := true, laidLooks := .later }
def SpanMayUptoCardSaid : Prop := Claim7.holds Tryz.pinned (.plain (OpenSpec.upto spanMaySpec)) spanMayUptoCard

/-- THE SECOND FORM's CARD OF 'halyardlaw03.SpanReads'. -/
def spanReadsUptoCard : Claim7 := { stood := { row := spanReadsUptoRow, standIns := [], harness := (true, "4cf3f4978880824bb88898aaaee76015064c76bd23728fc65d5b5902f7e9114d"), looks := true }, kinds := [], alts := [], laidByText := true, laidKinds := [.data, .data, .data, .data, .sentinel, .sentinel, .pinned], laidTests := true, laidLooks := .later }
def SpanReadsUptoCardSaid : Prop := Claim7.holds Tryz.pinned (.plain (OpenSpec.upto spanReadsSpec)) spanReadsUptoCard

/-- THE SECOND FORM's CARD OF 'halyardlaw03.SpanWrites'. -/
def spanWritesUptoCard : Claim7 := { stood := { row := spanWritesUptoRow, standIns := [], harness := (true, "4cf3f4978880824bb88898aaaee76015064c76bd23728fc65d5b5902f7e9114d"), looks := true }, kinds := [], alts := [], laidByText := true, laidKinds := [.data, .data, .data, .data, .sentinel, .sentinel, .pinned], laidTests := true, laidLooks := .later }
def SpanWritesUptoCardSaid : Prop := Claim7.holds Tryz.pinned (.plain (OpenSpec.upto spanWritesSpec)) spanWritesUptoCard

/-- THE SECOND FORM's CARD OF 'halyardlaw03.SpanSigns'. -/
def spanSignsUptoCard : Claim7 := { stood := { row := spanSignsUptoRow, standIns := [], harness := (true, "4cf3f4978880824bb88898aaaee76015064c76bd23728fc65d5b5902f7e9114d"), looks := true }, kinds := [], alts := [], laidByText := true, laidKinds := [.data, .data, .data, .data, .sentinel, .sentinel, .pinned], laidTests := true, laidLooks := .later }
def SpanSignsUptoCardSaid : Prop := Claim7.holds Tryz.pinned (.plain (OpenSpec.upto spanSignsSpec)) spanSignsUptoCard

/-- THE SECOND FORM's CARD OF 'halyardlaw03.SpanTexts'. -/
def spanTextsUptoCard : Claim7 := { stood := { row := spanTextsUptoRow, standIns := [], harness := (true, "4cf3f4978880824bb88898aaaee76015064c76bd23728fc65d5b5902f7e9114d"), looks := true }, kinds := [], alts := [], laidByText := true, laidKinds := [.data, .data, .data, .data, .sentinel, .sentinel, .pinned], laidTests := true, laidLooks := .later }
def SpanTextsUptoCardSaid : Prop := Claim7.holds Tryz.pinned (.plain (OpenSpec.upto spanTextsSpec)) spanTextsUptoCard

/-- THE SECOND FORM's CARD OF 'halyardlaw03.SpanFolds'. -/
def spanFoldsUptoCard : Claim7 := { stood := { row := spanFoldsUptoRow, standIns := [], harness := (true, "4cf3f4978880824bb88898aaaee76015064c76bd23728fc65d5b5902f7e9114d"), looks := true }, kinds := [], alts := [], laidByText := true, laidKinds := [.data, .data, .data, .data, .sentinel, .sentinel, .pinned], laidTests := true, laidLooks := .later }
def SpanFoldsUptoCardSaid : Prop := Claim7.holds Tryz.pinned (.plain (OpenSpec.upto spanFoldsSpec)) spanFoldsUptoCard

/-- THE SECOND FORM's CARD OF 'halyardlaw03.SpanPoints'. -/
def spanPointsUptoCard : Claim7 := { stood := { row := spanPointsUptoRow, standIns := [], harness := (true, "4cf3f4978880824bb88898aaaee76015064c76bd23728fc65d5b5902f7e9114d"), looks := true }, kinds := [], alts := [], laidByText := true, laidKinds := [.data, .data, .data, .data, .sentinel, .sentinel, .pinned], laidTests := true, laidLooks := .later }
def SpanPointsUptoCardSaid : Prop := Claim7.holds Tryz.pinned (.plain (OpenSpec.upto spanPointsSpec)) spanPointsUptoCard

/-- THE SECOND FORM's CARD OF 'halyardlaw03.SpanRules'. -/
def spanRulesUptoCard : Claim7 := { stood := { row := spanRulesUptoRow, standIns := [], harness := (true, "4cf3f4978880824bb88898aaaee76015064c76bd23728fc65d5b5902f7e9114d"), looks := true }, kinds := [], alts := [], laidByText := true, laidKinds := [.data, .data, .data, .data, .sentinel, .sentinel, .pinned], laidTests := true, laidLooks := .later }
def SpanRulesUptoCardSaid : Prop := Claim7.holds Tryz.pinned (.plain (OpenSpec.upto spanRulesSpec)) spanRulesUptoCard

/-- THE SECOND FORM's CARD OF 'halyardlaw03.SpanThree'. -/
def spanThreeUptoCard : Claim7 := { stood := { row := spanThreeUptoRow, standIns := [], harness := (true, "4cf3f4978880824bb88898aaaee76015064c76bd23728fc65d5b5902f7e9114d"), looks := true }, kinds := [], alts := [], laidByText := true, laidKinds := [.data, .data, .data, .data, .sentinel, .sentinel, .pinned], laidTests := true, laidLooks := .later }
def SpanThreeUptoCardSaid : Prop := Claim7.holds Tryz.pinned (.plain (OpenSpec.upto spanThreeSpec)) spanThreeUptoCard
end Rows
end Go.Proofs.YtghihopmiagcpaaGreatDoor
