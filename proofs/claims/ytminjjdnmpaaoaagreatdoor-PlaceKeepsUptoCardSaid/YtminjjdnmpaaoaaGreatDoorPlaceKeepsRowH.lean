/-
  PROVED: PlaceKeepsUptoCardSaid: what is handed in stays, and what is answered is the caller's, and the input reads as it did. Conditions: the listed tables of Go's library hold what their text lays (tied by the card); the bulk: at most 1048576.
-/
import Derived.Test.YtminjjdnmpaaoaaGreatDoorPlaceKeepsRowS
import Derived.Test.YtminjjdnmpaaoaaGreatDoorPlaceKeepsRowP
import Derived.Test.YtminjjdnmpaaoaaGreatDoorCards
import Derived.Test.YtminjjdnmpaaoaaGreatDoorTie
import Derived.Test.YtminjjdnmpaaoaaGreatDoorKp24
import Derived.Test.YtminjjdnmpaaoaaGreatDoorKp01
import Derived.ProofKit
import Derived.OpenShut
import Derived.Deep.DeepHandedRow
import Derived.Deep.DeepWitnessRowRef
import Derived.Test.YtminjjdnmpaaoaaGreatDoorAl
set_option linter.all false
namespace Go.Proofs.YtminjjdnmpaaoaaGreatDoor
open Go.ChangeShapes Go.WideShapes Go.ChangeAt Go.RowKit
theorem placeKeeps_holds:Rows.PlaceKeepsUptoCardSaid:=
 Claim7.holds_tied_plain_at .later [] _ _ _ _ zFB (fun _ h=>by cases h) (by kernel_rfl) (fun _ h=>by cases h) placeKeepsUpto_row_tie rfl ⟨rfl,rfl⟩ (by kernel_rfl) rfl zEV (by kernel_rfl)
