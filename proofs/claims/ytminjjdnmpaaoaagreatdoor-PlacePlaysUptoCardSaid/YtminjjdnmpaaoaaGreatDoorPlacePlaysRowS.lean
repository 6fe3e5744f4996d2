/-
  The row of PlacePlays: said.
-/
import Derived.Test.YtminjjdnmpaaoaaGreatDoorPlacePlaysRow
import Derived.Test.YtminjjdnmpaaoaaGreatDoorCards
import Derived.Test.YtminjjdnmpaaoaaGreatDoorTie
import Derived.Test.YtminjjdnmpaaoaaGreatDoorPp45
import Derived.Test.YtminjjdnmpaaoaaGreatDoorPp02
import Derived.Test.YtminjjdnmpaaoaaGreatDoorPp03
import Derived.ProofKit
import Derived.OpenShut
import Derived.Deep.DeepHandedRow
import Derived.Deep.DeepWitnessRowRef
namespace Go.Proofs.YtminjjdnmpaaoaaGreatDoor
open Go.ChangeShapes Go.WideShapes Go.ChangeAt Go.RowKit
set_option linter.unusedVariables false
set_option linter.unusedSimpArgs false

theorem placePlays_and2 {a b : Bool} (ha : a = true) (hb : b = true) : (a && b) = true := by rw [ha, hb]; rfl
theorem placePlays_named : Tryz.pinned.checked.prog.funcNamed Rows.placePlaysUptoRow.func = some 3 := by kernel_rfl
set_option maxHeartbeats 20000000 in
theorem placePlays_closed : joinedFacts Tryz.pinned.checked.prog 3 Tryz.f3 (Rows.OpenSpec.upto Rows.placePlaysSpec).bare Rows.placePlaysUptoRow = true := by
  unfold joinedFacts
  repeat' (with_reducible refine placePlays_and2 ?_ ?_)
  all_goals (as_aux_lemma => kernel_rfl)

theorem placePlays_said : Rows.PlacePlaysUptoSaid :=
  OpenClaim.holds_of_cond 3 Tryz.f3 rfl rfl rfl rfl rfl rfl rfl ⟨rfl, rfl, rfl, rfl, rfl⟩ rfl rfl rfl rfl rfl placePlays_named Tryz.func3 placePlays_closed
    (of_decide_eq_true (by as_aux_lemma => kernel_rfl)) (by unfold Func.isWrapper; first | (rw [if_pos (by decide +kernel)]; kernel_rfl) | (rw [if_neg (by decide +kernel)]; exact ⟨rfl, rfl⟩))
    (fun os started H enc _ F => by rw [OpenClaim.pre_eq_preRow]; exact placePlays_lifted os started H enc F)

end Go.Proofs.YtminjjdnmpaaoaaGreatDoor
