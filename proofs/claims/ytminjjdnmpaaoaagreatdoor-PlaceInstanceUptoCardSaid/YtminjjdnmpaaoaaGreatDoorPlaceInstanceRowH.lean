/-
  PROVED: PlaceInstanceUptoCardSaid: what a node has beside it is found in one directory with its dependant, and the input reads as it did. Conditions: the listed tables of Go's library hold what their text lays (tied by the card); the bulk: at most 1048576.
-/
import Derived.Test.YtminjjdnmpaaoaaGreatDoorPlaceInstanceRowS
import Derived.Test.YtminjjdnmpaaoaaGreatDoorPlaceInstanceRowP
import Derived.Test.YtminjjdnmpaaoaaGreatDoorCards
import Derived.Test.YtminjjdnmpaaoaaGreatDoorTie
import Derived.Test.YtminjjdnmpaaoaaGreatDoorIn17
import Derived.Test.YtminjjdnmpaaoaaGreatDoorIn01
import Derived.ProofKit
import Derived.OpenShut
import Derived.Deep.DeepHandedRow
import Derived.Deep.DeepWitnessRowRef
import Derived.Test.YtminjjdnmpaaoaaGreatDoorAl
set_option linter.all false
namespace Go.Proofs.YtminjjdnmpaaoaaGreatDoor
open Go.ChangeShapes Go.WideShapes Go.ChangeAt Go.RowKit
theorem placeInstance_holds:Rows.PlaceInstanceUptoCardSaid:=
 Claim7.holds_tied_plain_at .later [] _ _ _ _ zDq (fun _ h=>by cases h) (by kernel_rfl) (fun _ h=>by cases h) placeInstanceUpto_row_tie rfl ⟨rfl,rfl⟩ (by kernel_rfl) rfl zDi (by kernel_rfl)
