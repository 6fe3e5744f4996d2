/-
  The row of ImageDisk: said.
-/
import Derived.Test.YthbnmehbhpakaaaGreatDoorImageDiskRow
import Derived.Test.YthbnmehbhpakaaaGreatDoorCards
import Derived.Test.YthbnmehbhpakaaaGreatDoorTie
import Derived.Test.YthbnmehbhpakaaaGreatDoorDi26
import Derived.Test.YthbnmehbhpakaaaGreatDoorDi05
import Derived.ProofKit
import Derived.OpenShut
import Derived.Deep.DeepHandedRow
import Derived.Deep.DeepWitnessRowRef
namespace Go.Proofs.YthbnmehbhpakaaaGreatDoor
open Go.ChangeShapes Go.WideShapes Go.ChangeAt Go.RowKit
set_option linter.unusedVariables false
set_option linter.unusedSimpArgs false

theorem imageDisk_and2 {a b : Bool} (ha : a = true) (hb : b = true) : (a && b) = true := by rw [ha, hb]; rfl
theorem imageDisk_named : Tryz.pinned.checked.prog.funcNamed Rows.imageDiskUptoRow.func = some 7 := by kernel_rfl
set_option maxHeartbeats 20000000 in
theorem imageDisk_closed : joinedFacts Tryz.pinned.checked.prog 7 Tryz.f7 (Rows.OpenSpec.upto Rows.imageDiskSpec).bare Rows.imageDiskUptoRow = true := by
  unfold joinedFacts
  repeat' (with_reducible refine imageDisk_and2 ?_ ?_)
  all_goals (as_aux_lemma => kernel_rfl)

theorem imageDisk_said : Rows.ImageDiskUptoSaid :=
  OpenClaim.holds_of_cond 7 Tryz.f7 rfl rfl rfl rfl rfl rfl rfl ⟨rfl, rfl, rfl, rfl, rfl⟩ rfl rfl rfl rfl rfl imageDisk_named Tryz.func7 imageDisk_closed
    (of_decide_eq_true (by as_aux_lemma => kernel_rfl)) (by unfold Func.isWrapper; first | (rw [if_pos (by decide +kernel)]; kernel_rfl) | (rw [if_neg (by decide +kernel)]; exact ⟨rfl, rfl⟩))
    (fun os started H enc _ F => by rw [OpenClaim.pre_eq_preRow]; exact imageDisk_lifted os started H enc F)

end Go.Proofs.YthbnmehbhpakaaaGreatDoor
