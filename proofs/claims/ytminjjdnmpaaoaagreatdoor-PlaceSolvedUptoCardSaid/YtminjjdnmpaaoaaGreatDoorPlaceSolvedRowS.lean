/-
  The row of PlaceSolved: said.
-/
import Derived.Test.YtminjjdnmpaaoaaGreatDoorPlaceSolvedRow
import Derived.Test.YtminjjdnmpaaoaaGreatDoorCards
import Derived.Test.YtminjjdnmpaaoaaGreatDoorTie
import Derived.Test.YtminjjdnmpaaoaaGreatDoorSv24
import Derived.Test.YtminjjdnmpaaoaaGreatDoorSv01
import Derived.ProofKit
import Derived.OpenShut
import Derived.Deep.DeepHandedRow
import Derived.Deep.DeepWitnessRowRef
import Derived.Test.YtminjjdnmpaaoaaGreatDoorAl
set_option linter.all false
set_option maxHeartbeats 20000000
namespace Go.Proofs.YtminjjdnmpaaoaaGreatDoor
open Go.ChangeShapes Go.WideShapes Go.ChangeAt Go.RowKit
theorem zEQ {a b:Bool} (ha:a=true) (hb:b=true):(a&&b)=true:=by rw[ha,hb];rfl
theorem zD4:Tryz.pinned.checked.prog.funcNamed Rows.placeSolvedUptoRow.func=some 4:=by kernel_rfl
theorem zDx:joinedFacts Tryz.pinned.checked.prog 4 Tryz.f4 (Rows.OpenSpec.upto Rows.placeSolvedSpec).bare Rows.placeSolvedUptoRow=true:=by
 unfold joinedFacts
 repeat' (with_reducible refine zEQ ?_ ?_)
 all_goals (as_aux_lemma=>kernel_rfl)
theorem zEP:Rows.PlaceSolvedUptoSaid:=
 OpenClaim.holds_of_cond 4 Tryz.f4 rfl rfl rfl rfl rfl rfl rfl ⟨rfl,rfl,rfl,rfl,rfl⟩ rfl rfl rfl rfl rfl zD4 Tryz.func4 zDx
  (of_decide_eq_true (by as_aux_lemma=>kernel_rfl)) (by unfold Func.isWrapper;first|(rw[if_pos (by decide +kernel)];kernel_rfl)|(rw[if_neg (by decide +kernel)];exact ⟨rfl,rfl⟩))
  (fun os started H enc _ F=>by rw[OpenClaim.pre_eq_preRow];exact zDu os started H enc F)
