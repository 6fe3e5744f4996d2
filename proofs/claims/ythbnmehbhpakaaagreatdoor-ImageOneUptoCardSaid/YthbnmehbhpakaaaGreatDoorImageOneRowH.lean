/-
  PROVED: ImageOneUptoCardSaid: two projects have the same files just if they are the same, and the input reads as it did. Conditions: the listed tables of Go's library hold what their text lays (tied by the card); the bulk: at most 1048576.
-/
import Derived.Test.YthbnmehbhpakaaaGreatDoorImageOneRowS
import Derived.Test.YthbnmehbhpakaaaGreatDoorImageOneRowP
import Derived.Test.YthbnmehbhpakaaaGreatDoorCards
import Derived.Test.YthbnmehbhpakaaaGreatDoorTie
import Derived.Test.YthbnmehbhpakaaaGreatDoorOn28
import Derived.Test.YthbnmehbhpakaaaGreatDoorOn05
import Derived.ProofKit
import Derived.OpenShut
import Derived.Deep.DeepHandedRow
import Derived.Deep.DeepWitnessRowRef
namespace Go.Proofs.YthbnmehbhpakaaaGreatDoor
open Go.ChangeShapes Go.WideShapes Go.ChangeAt Go.RowKit
set_option linter.unusedVariables false
set_option linter.unusedSimpArgs false

theorem imageOne_holds : Rows.ImageOneUptoCardSaid :=
  Claim7.holds_tied_plain_at .later [] _ _ _ _ imageOne_said (fun _ h => by cases h) (by kernel_rfl) (fun _ h => by cases h) imageOneUpto_row_tie rfl ⟨rfl, rfl⟩ (by kernel_rfl) rfl imageOne_plain (by kernel_rfl)
end Go.Proofs.YthbnmehbhpakaaaGreatDoor
