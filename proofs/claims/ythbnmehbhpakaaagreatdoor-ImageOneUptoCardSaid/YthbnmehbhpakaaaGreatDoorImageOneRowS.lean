/-
  The row of ImageOne: said.
-/
import Derived.Test.YthbnmehbhpakaaaGreatDoorImageOneRow
import Derived.Test.YthbnmehbhpakaaaGreatDoorCards
import Derived.Test.YthbnmehbhpakaaaGreatDoorTie
import Derived.Test.YthbnmehbhpakaaaGreatDoorOn28
import Derived.Test.YthbnmehbhpakaaaGreatDoorOn05
import Derived.ProofKit
import Derived.OpenShut
import Derived.Deep.DeepHandedRow
import Derived.Deep.DeepWitnessRowRef
namespace Go.Proofs.YthbnmehbhpakaaaGreatDoor
open Go.ChangeShapes Go.WideShapes Go.ChangeAt Go.RowKit
set_option linter.unusedVariables false
set_option linter.unusedSimpArgs false

theorem imageOne_and2 {a b : Bool} (ha : a = true) (hb : b = true) : (a && b) = true := by rw [ha, hb]; rfl
theorem imageOne_named : Tryz.pinned.checked.prog.funcNamed Rows.imageOneUptoRow.func = some 6 := by kernel_rfl
set_option maxHeartbeats 20000000 in
theorem imageOne_closed : joinedFacts Tryz.pinned.checked.prog 6 Tryz.f6 (Rows.OpenSpec.upto Rows.imageOneSpec).bare Rows.imageOneUptoRow = true := by
  unfold joinedFacts
  repeat' (with_reducible refine imageOne_and2 ?_ ?_)
  all_goals (as_aux_lemma => kernel_rfl)

theorem imageOne_said : Rows.ImageOneUptoSaid :=
  OpenClaim.holds_of_cond 6 Tryz.f6 rfl rfl rfl rfl rfl rfl rfl ⟨rfl, rfl, rfl, rfl, rfl⟩ rfl rfl rfl rfl rfl imageOne_named Tryz.func6 imageOne_closed
    (of_decide_eq_true (by as_aux_lemma => kernel_rfl)) (by unfold Func.isWrapper; first | (rw [if_pos (by decide +kernel)]; kernel_rfl) | (rw [if_neg (by decide +kernel)]; exact ⟨rfl, rfl⟩))
    (fun os started H enc _ F => by rw [OpenClaim.pre_eq_preRow]; exact imageOne_lifted os started H enc F)

end Go.Proofs.YthbnmehbhpakaaaGreatDoor
