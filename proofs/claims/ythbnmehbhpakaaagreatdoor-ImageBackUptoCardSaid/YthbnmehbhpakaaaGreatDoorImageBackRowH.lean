/-
  PROVED: ImageBackUptoCardSaid: every project is written and read back the same, its files in turned order, and the input reads as it did. Conditions: the listed tables of Go's library hold what their text lays (tied by the card); the bulk: at most 1048576.
-/
import Derived.Test.YthbnmehbhpakaaaGreatDoorImageBackRowS
import Derived.Test.YthbnmehbhpakaaaGreatDoorImageBackRowP
import Derived.Test.YthbnmehbhpakaaaGreatDoorCards
import Derived.Test.YthbnmehbhpakaaaGreatDoorTie
import Derived.Test.YthbnmehbhpakaaaGreatDoorBk20
import Derived.Test.YthbnmehbhpakaaaGreatDoorBk02
import Derived.ProofKit
import Derived.OpenShut
import Derived.Deep.DeepHandedRow
import Derived.Deep.DeepWitnessRowRef
import Derived.Test.YthbnmehbhpakaaaGreatDoorAl
set_option linter.all false
namespace Go.Proofs.YthbnmehbhpakaaaGreatDoor
open Go.ChangeShapes Go.WideShapes Go.ChangeAt Go.RowKit
theorem imageBack_holds:Rows.ImageBackUptoCardSaid:=
 Claim7.holds_tied_plain_at .later [] _ _ _ _ zHx (fun _ h=>by cases h) (by kernel_rfl) (fun _ h=>by cases h) imageBackUpto_row_tie rfl ⟨rfl,rfl⟩ (by kernel_rfl) rfl zHW (by kernel_rfl)
