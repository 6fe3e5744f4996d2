/-
  PROVED: PlaceAgainUptoCardSaid: what is placed over the same once more is the same, and the input reads as it did. Conditions: the listed tables of Go's library hold what their text lays (tied by the card); the bulk: at most 1048576.
-/
import Derived.Test.YtminjjdnmpaaoaaGreatDoorPlaceAgainRowS
import Derived.Test.YtminjjdnmpaaoaaGreatDoorPlaceAgainRowP
import Derived.Test.YtminjjdnmpaaoaaGreatDoorCards
import Derived.Test.YtminjjdnmpaaoaaGreatDoorTie
import Derived.Test.YtminjjdnmpaaoaaGreatDoorAg29
import Derived.Test.YtminjjdnmpaaoaaGreatDoorAg01
import Derived.ProofKit
import Derived.OpenShut
import Derived.Deep.DeepHandedRow
import Derived.Deep.DeepWitnessRowRef
import Derived.Test.YtminjjdnmpaaoaaGreatDoorAl
set_option linter.all false
namespace Go.Proofs.YtminjjdnmpaaoaaGreatDoor
open Go.ChangeShapes Go.WideShapes Go.ChangeAt Go.RowKit
theorem placeAgain_holds:Rows.PlaceAgainUptoCardSaid:=
 Claim7.holds_tied_plain_at .later [] _ _ _ _ zFW (fun _ h=>by cases h) (by kernel_rfl) (fun _ h=>by cases h) placeAgainUpto_row_tie rfl ⟨rfl,rfl⟩ (by kernel_rfl) rfl zEe (by kernel_rfl)
