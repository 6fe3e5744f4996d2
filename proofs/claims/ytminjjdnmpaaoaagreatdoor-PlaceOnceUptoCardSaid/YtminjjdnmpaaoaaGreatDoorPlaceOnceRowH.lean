/-
  PROVED: PlaceOnceUptoCardSaid: without an old tree an only one of its name stands once, at the top, and the input reads as it did. Conditions: the listed tables of Go's library hold what their text lays (tied by the card); the bulk: at most 1048576.
-/
import Derived.Test.YtminjjdnmpaaoaaGreatDoorPlaceOnceRowS
import Derived.Test.YtminjjdnmpaaoaaGreatDoorPlaceOnceRowP
import Derived.Test.YtminjjdnmpaaoaaGreatDoorCards
import Derived.Test.YtminjjdnmpaaoaaGreatDoorTie
import Derived.Test.YtminjjdnmpaaoaaGreatDoorOn27
import Derived.Test.YtminjjdnmpaaoaaGreatDoorOn01
import Derived.ProofKit
import Derived.OpenShut
import Derived.Deep.DeepHandedRow
import Derived.Deep.DeepWitnessRowRef
import Derived.Test.YtminjjdnmpaaoaaGreatDoorAl
set_option linter.all false
namespace Go.Proofs.YtminjjdnmpaaoaaGreatDoor
open Go.ChangeShapes Go.WideShapes Go.ChangeAt Go.RowKit
theorem placeOnce_holds:Rows.PlaceOnceUptoCardSaid:=
 Claim7.holds_tied_plain_at .later [] _ _ _ _ zFe (fun _ h=>by cases h) (by kernel_rfl) (fun _ h=>by cases h) placeOnceUpto_row_tie rfl ⟨rfl,rfl⟩ (by kernel_rfl) rfl zEu (by kernel_rfl)
