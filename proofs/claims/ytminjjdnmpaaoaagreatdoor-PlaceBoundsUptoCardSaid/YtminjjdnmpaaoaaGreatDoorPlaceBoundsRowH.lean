/-
  PROVED: PlaceBoundsUptoCardSaid: the bounds are kept, and are met just where they say, and the input reads as it did. Conditions: the listed tables of Go's library hold what their text lays (tied by the card); the bulk: at most 1048576.
-/
import Derived.Test.YtminjjdnmpaaoaaGreatDoorPlaceBoundsRowS
import Derived.Test.YtminjjdnmpaaoaaGreatDoorPlaceBoundsRowP
import Derived.Test.YtminjjdnmpaaoaaGreatDoorCards
import Derived.Test.YtminjjdnmpaaoaaGreatDoorTie
import Derived.Test.YtminjjdnmpaaoaaGreatDoorBd28
import Derived.Test.YtminjjdnmpaaoaaGreatDoorBd01
import Derived.ProofKit
import Derived.OpenShut
import Derived.Deep.DeepHandedRow
import Derived.Deep.DeepWitnessRowRef
import Derived.Test.YtminjjdnmpaaoaaGreatDoorAl
set_option linter.all false
namespace Go.Proofs.YtminjjdnmpaaoaaGreatDoor
open Go.ChangeShapes Go.WideShapes Go.ChangeAt Go.RowKit
theorem placeBounds_holds:Rows.PlaceBoundsUptoCardSaid:=
 Claim7.holds_tied_plain_at .later [] _ _ _ _ zEX (fun _ h=>by cases h) (by kernel_rfl) (fun _ h=>by cases h) placeBoundsUpto_row_tie rfl ⟨rfl,rfl⟩ (by kernel_rfl) rfl zD9 (by kernel_rfl)
