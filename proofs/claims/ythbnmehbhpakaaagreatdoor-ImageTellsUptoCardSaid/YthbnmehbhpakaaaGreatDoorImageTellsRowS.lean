/-
  The row of ImageTells: said.
-/
import Derived.Test.YthbnmehbhpakaaaGreatDoorImageTellsRow
import Derived.Test.YthbnmehbhpakaaaGreatDoorCards
import Derived.Test.YthbnmehbhpakaaaGreatDoorTie
import Derived.Test.YthbnmehbhpakaaaGreatDoorTl33
import Derived.Test.YthbnmehbhpakaaaGreatDoorTl05
import Derived.ProofKit
import Derived.OpenShut
import Derived.Deep.DeepHandedRow
import Derived.Deep.DeepWitnessRowRef
namespace Go.Proofs.YthbnmehbhpakaaaGreatDoor
open Go.ChangeShapes Go.WideShapes Go.ChangeAt Go.RowKit
set_option linter.unusedVariables false
set_option linter.unusedSimpArgs false

theorem imageTells_and2 {a b : Bool} (ha : a = true) (hb : b = true) : (a && b) = true := by rw [ha, hb]; rfl
theorem imageTells_named : Tryz.pinned.checked.prog.funcNamed Rows.imageTellsUptoRow.func = some 3 := by kernel_rfl
set_option maxHeartbeats 20000000 in
theorem imageTells_closed : joinedFacts Tryz.pinned.checked.prog 3 Tryz.f3 (Rows.OpenSpec.upto Rows.imageTellsSpec).bare Rows.imageTellsUptoRow = true := by
  unfold joinedFacts
  repeat' (with_reducible refine imageTells_and2 ?_ ?_)
  all_goals (as_aux_lemma => kernel_rfl)

theorem imageTells_said : Rows.ImageTellsUptoSaid :=
  OpenClaim.holds_of_cond 3 Tryz.f3 rfl rfl rfl rfl rfl rfl rfl ⟨rfl, rfl, rfl, rfl, rfl⟩ rfl rfl rfl rfl rfl imageTells_named Tryz.func3 imageTells_closed
    (of_decide_eq_true (by as_aux_lemma => kernel_rfl)) (by unfold Func.isWrapper; first | (rw [if_pos (by decide +kernel)]; kernel_rfl) | (rw [if_neg (by decide +kernel)]; exact ⟨rfl, rfl⟩))
    (fun os started H enc _ F => by rw [OpenClaim.pre_eq_preRow]; exact imageTells_lifted os started H enc F)

end Go.Proofs.YthbnmehbhpakaaaGreatDoor
