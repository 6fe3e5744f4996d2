/-
  The row of PlaceAgain: said.
-/
import Derived.Test.YtminjjdnmpaaoaaGreatDoorPlaceAgainRow
import Derived.Test.YtminjjdnmpaaoaaGreatDoorCards
import Derived.Test.YtminjjdnmpaaoaaGreatDoorTie
import Derived.Test.YtminjjdnmpaaoaaGreatDoorAg29
import Derived.Test.YtminjjdnmpaaoaaGreatDoorAg01
import Derived.ProofKit
import Derived.OpenShut
import Derived.Deep.DeepHandedRow
import Derived.Deep.DeepWitnessRowRef
import Derived.Test.YtminjjdnmpaaoaaGreatDoorAl
set_option linter.all false
set_option maxHeartbeats 20000000
namespace Go.Proofs.YtminjjdnmpaaoaaGreatDoor
open Go.ChangeShapes Go.WideShapes Go.ChangeAt Go.RowKit
theorem zE6 {a b:Bool} (ha:a=true) (hb:b=true):(a&&b)=true:=by rw[ha,hb];rfl
theorem zEg:Tryz.pinned.checked.prog.funcNamed Rows.placeAgainUptoRow.func=some 7:=by kernel_rfl
theorem zEI:joinedFacts Tryz.pinned.checked.prog 7 Tryz.f7 (Rows.OpenSpec.upto Rows.placeAgainSpec).bare Rows.placeAgainUptoRow=true:=by
 unfold joinedFacts
 repeat' (with_reducible refine zE6 ?_ ?_)
 all_goals (as_aux_lemma=>kernel_rfl)
theorem zFW:Rows.PlaceAgainUptoSaid:=
 OpenClaim.holds_of_cond 7 Tryz.f7 rfl rfl rfl rfl rfl rfl rfl ⟨rfl,rfl,rfl,rfl,rfl⟩ rfl rfl rfl rfl rfl zEg Tryz.func7 zEI
  (of_decide_eq_true (by as_aux_lemma=>kernel_rfl)) (by unfold Func.isWrapper;first|(rw[if_pos (by decide +kernel)];kernel_rfl)|(rw[if_neg (by decide +kernel)];exact ⟨rfl,rfl⟩))
  (fun os started H enc _ F=>by rw[OpenClaim.pre_eq_preRow];exact zEB os started H enc F)
