/-
  PROVED: PlacePlaysUptoCardSaid: any graph, packages, limits and old tree are placed, or refused, as the document says, and the input reads as it did. Conditions: the listed tables of Go's library hold what their text lays (tied by the card); the bulk: at most 1048576.
-/
import Derived.Test.YtminjjdnmpaaoaaGreatDoorPlacePlaysRowS
import Derived.Test.YtminjjdnmpaaoaaGreatDoorPlacePlaysRowP
import Derived.Test.YtminjjdnmpaaoaaGreatDoorCards
import Derived.Test.YtminjjdnmpaaoaaGreatDoorTie
import Derived.Test.YtminjjdnmpaaoaaGreatDoorPp45
import Derived.Test.YtminjjdnmpaaoaaGreatDoorPp02
import Derived.Test.YtminjjdnmpaaoaaGreatDoorPp03
import Derived.ProofKit
import Derived.OpenShut
import Derived.Deep.DeepHandedRow
import Derived.Deep.DeepWitnessRowRef
namespace Go.Proofs.YtminjjdnmpaaoaaGreatDoor
open Go.ChangeShapes Go.WideShapes Go.ChangeAt Go.RowKit
set_option linter.unusedVariables false
set_option linter.unusedSimpArgs false

theorem placePlays_holds : Rows.PlacePlaysUptoCardSaid :=
  Claim7.holds_tied_plain_at .later [] _ _ _ _ placePlays_said (fun _ h => by cases h) (by kernel_rfl) (fun _ h => by cases h) placePlaysUpto_row_tie rfl ⟨rfl, rfl⟩ (by kernel_rfl) rfl placePlays_plain (by kernel_rfl)
end Go.Proofs.YtminjjdnmpaaoaaGreatDoor
