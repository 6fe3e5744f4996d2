/-
  PROVED: PlaceSolvedUptoCardSaid: the tree of every solution of a world is as the document places it, and the input reads as it did. Conditions: the listed tables of Go's library hold what their text lays (tied by the card); the bulk: at most 1048576.
-/
import Derived.Test.YtminjjdnmpaaoaaGreatDoorPlaceSolvedRowS
import Derived.Test.YtminjjdnmpaaoaaGreatDoorPlaceSolvedRowP
import Derived.Test.YtminjjdnmpaaoaaGreatDoorCards
import Derived.Test.YtminjjdnmpaaoaaGreatDoorTie
import Derived.Test.YtminjjdnmpaaoaaGreatDoorSv24
import Derived.Test.YtminjjdnmpaaoaaGreatDoorSv01
import Derived.ProofKit
import Derived.OpenShut
import Derived.Deep.DeepHandedRow
import Derived.Deep.DeepWitnessRowRef
import Derived.Test.YtminjjdnmpaaoaaGreatDoorAl
set_option linter.all false
namespace Go.Proofs.YtminjjdnmpaaoaaGreatDoor
open Go.ChangeShapes Go.WideShapes Go.ChangeAt Go.RowKit
theorem placeSolved_holds:Rows.PlaceSolvedUptoCardSaid:=
 Claim7.holds_tied_plain_at .later [] _ _ _ _ zEP (fun _ h=>by cases h) (by kernel_rfl) (fun _ h=>by cases h) placeSolvedUpto_row_tie rfl ⟨rfl,rfl⟩ (by kernel_rfl) rfl zEF (by kernel_rfl)
