/-
  The row of PlaceMaps: said.
-/
import Derived.Test.YtminjjdnmpaaoaaGreatDoorPlaceMapsRow
import Derived.Test.YtminjjdnmpaaoaaGreatDoorCards
import Derived.Test.YtminjjdnmpaaoaaGreatDoorTie
import Derived.Test.YtminjjdnmpaaoaaGreatDoorMp19
import Derived.Test.YtminjjdnmpaaoaaGreatDoorMp01
import Derived.ProofKit
import Derived.OpenShut
import Derived.Deep.DeepHandedRow
import Derived.Deep.DeepWitnessRowRef
import Derived.Test.YtminjjdnmpaaoaaGreatDoorAl
set_option linter.all false
set_option maxHeartbeats 20000000
namespace Go.Proofs.YtminjjdnmpaaoaaGreatDoor
open Go.ChangeShapes Go.WideShapes Go.ChangeAt Go.RowKit
theorem zFt {a b:Bool} (ha:a=true) (hb:b=true):(a&&b)=true:=by rw[ha,hb];rfl
theorem zFH:Tryz.pinned.checked.prog.funcNamed Rows.placeMapsUptoRow.func=some 10:=by kernel_rfl
theorem zEi:joinedFacts Tryz.pinned.checked.prog 10 Tryz.f10 (Rows.OpenSpec.upto Rows.placeMapsSpec).bare Rows.placeMapsUptoRow=true:=by
 unfold joinedFacts
 repeat' (with_reducible refine zFt ?_ ?_)
 all_goals (as_aux_lemma=>kernel_rfl)
theorem zFx:Rows.PlaceMapsUptoSaid:=
 OpenClaim.holds_of_cond 10 Tryz.f10 rfl rfl rfl rfl rfl rfl rfl ⟨rfl,rfl,rfl,rfl,rfl⟩ rfl rfl rfl rfl rfl zFH Tryz.func10 zEi
  (of_decide_eq_true (by as_aux_lemma=>kernel_rfl)) (by unfold Func.isWrapper;first|(rw[if_pos (by decide +kernel)];kernel_rfl)|(rw[if_neg (by decide +kernel)];exact ⟨rfl,rfl⟩))
  (fun os started H enc _ F=>by rw[OpenClaim.pre_eq_preRow];exact zEg os started H enc F)
