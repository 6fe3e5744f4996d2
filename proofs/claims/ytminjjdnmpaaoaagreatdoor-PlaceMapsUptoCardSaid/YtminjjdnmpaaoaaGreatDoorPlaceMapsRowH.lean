/-
  PROVED: PlaceMapsUptoCardSaid: lookups in a solution tree tell which node each directory is, and the input reads as it did. Conditions: the listed tables of Go's library hold what their text lays (tied by the card); the bulk: at most 1048576.
-/
import Derived.Test.YtminjjdnmpaaoaaGreatDoorPlaceMapsRowS
import Derived.Test.YtminjjdnmpaaoaaGreatDoorPlaceMapsRowP
import Derived.Test.YtminjjdnmpaaoaaGreatDoorCards
import Derived.Test.YtminjjdnmpaaoaaGreatDoorTie
import Derived.Test.YtminjjdnmpaaoaaGreatDoorMp19
import Derived.Test.YtminjjdnmpaaoaaGreatDoorMp01
import Derived.ProofKit
import Derived.OpenShut
import Derived.Deep.DeepHandedRow
import Derived.Deep.DeepWitnessRowRef
import Derived.Test.YtminjjdnmpaaoaaGreatDoorAl
set_option linter.all false
namespace Go.Proofs.YtminjjdnmpaaoaaGreatDoor
open Go.ChangeShapes Go.WideShapes Go.ChangeAt Go.RowKit
theorem placeMaps_holds:Rows.PlaceMapsUptoCardSaid:=
 Claim7.holds_tied_plain_at .later [] _ _ _ _ zFx (fun _ h=>by cases h) (by kernel_rfl) (fun _ h=>by cases h) placeMapsUpto_row_tie rfl ⟨rfl,rfl⟩ (by kernel_rfl) rfl zFP (by kernel_rfl)
