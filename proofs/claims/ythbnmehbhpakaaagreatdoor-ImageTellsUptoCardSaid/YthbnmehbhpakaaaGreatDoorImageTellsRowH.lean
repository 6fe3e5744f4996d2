/-
  PROVED: ImageTellsUptoCardSaid: every project's files, by the program and by the document, are one list, and so is the errno, and the input reads as it did. Conditions: the listed tables of Go's library hold what their text lays (tied by the card); the bulk: at most 1048576.
-/
import Derived.Test.YthbnmehbhpakaaaGreatDoorImageTellsRowS
import Derived.Test.YthbnmehbhpakaaaGreatDoorImageTellsRowP
import Derived.Test.YthbnmehbhpakaaaGreatDoorCards
import Derived.Test.YthbnmehbhpakaaaGreatDoorTie
import Derived.Test.YthbnmehbhpakaaaGreatDoorTl33
import Derived.Test.YthbnmehbhpakaaaGreatDoorTl05
import Derived.ProofKit
import Derived.OpenShut
import Derived.Deep.DeepHandedRow
import Derived.Deep.DeepWitnessRowRef
namespace Go.Proofs.YthbnmehbhpakaaaGreatDoor
open Go.ChangeShapes Go.WideShapes Go.ChangeAt Go.RowKit
set_option linter.unusedVariables false
set_option linter.unusedSimpArgs false

theorem imageTells_holds : Rows.ImageTellsUptoCardSaid :=
  Claim7.holds_tied_plain_at .later [] _ _ _ _ imageTells_said (fun _ h => by cases h) (by kernel_rfl) (fun _ h => by cases h) imageTellsUpto_row_tie rfl ⟨rfl, rfl⟩ (by kernel_rfl) rfl imageTells_plain (by kernel_rfl)
end Go.Proofs.YthbnmehbhpakaaaGreatDoor
