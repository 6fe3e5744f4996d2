/-
  PROVED: ImageDiskUptoCardSaid: a project's files lie on a disk, where lookups find what they find in the tree, and the input reads as it did. Conditions: the listed tables of Go's library hold what their text lays (tied by the card); the bulk: at most 1048576.
-/
import Derived.Test.YthbnmehbhpakaaaGreatDoorImageDiskRowS
import Derived.Test.YthbnmehbhpakaaaGreatDoorImageDiskRowP
import Derived.Test.YthbnmehbhpakaaaGreatDoorCards
import Derived.Test.YthbnmehbhpakaaaGreatDoorTie
import Derived.Test.YthbnmehbhpakaaaGreatDoorDi26
import Derived.Test.YthbnmehbhpakaaaGreatDoorDi05
import Derived.ProofKit
import Derived.OpenShut
import Derived.Deep.DeepHandedRow
import Derived.Deep.DeepWitnessRowRef
namespace Go.Proofs.YthbnmehbhpakaaaGreatDoor
open Go.ChangeShapes Go.WideShapes Go.ChangeAt Go.RowKit
set_option linter.unusedVariables false
set_option linter.unusedSimpArgs false

theorem imageDisk_holds : Rows.ImageDiskUptoCardSaid :=
  Claim7.holds_tied_plain_at .later [] _ _ _ _ imageDisk_said (fun _ h => by cases h) (by kernel_rfl) (fun _ h => by cases h) imageDiskUpto_row_tie rfl ⟨rfl, rfl⟩ (by kernel_rfl) rfl imageDisk_plain (by kernel_rfl)
end Go.Proofs.YthbnmehbhpakaaaGreatDoor
