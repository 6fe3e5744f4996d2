/-
  The row of PlaceKeeps: said.
-/
import Derived.Test.YtminjjdnmpaaoaaGreatDoorPlaceKeepsRow
import Derived.Test.YtminjjdnmpaaoaaGreatDoorCards
import Derived.Test.YtminjjdnmpaaoaaGreatDoorTie
import Derived.Test.YtminjjdnmpaaoaaGreatDoorKp24
import Derived.Test.YtminjjdnmpaaoaaGreatDoorKp01
import Derived.ProofKit
import Derived.OpenShut
import Derived.Deep.DeepHandedRow
import Derived.Deep.DeepWitnessRowRef
import Derived.Test.YtminjjdnmpaaoaaGreatDoorAl
set_option linter.all false
set_option maxHeartbeats 20000000
namespace Go.Proofs.YtminjjdnmpaaoaaGreatDoor
open Go.ChangeShapes Go.WideShapes Go.ChangeAt Go.RowKit
theorem zEy {a b:Bool} (ha:a=true) (hb:b=true):(a&&b)=true:=by rw[ha,hb];rfl
theorem zEX:Tryz.pinned.checked.prog.funcNamed Rows.placeKeepsUptoRow.func=some 9:=by kernel_rfl
theorem zEH:joinedFacts Tryz.pinned.checked.prog 9 Tryz.f9 (Rows.OpenSpec.upto Rows.placeKeepsSpec).bare Rows.placeKeepsUptoRow=true:=by
 unfold joinedFacts
 repeat' (with_reducible refine zEy ?_ ?_)
 all_goals (as_aux_lemma=>kernel_rfl)
theorem zFB:Rows.PlaceKeepsUptoSaid:=
 OpenClaim.holds_of_cond 9 Tryz.f9 rfl rfl rfl rfl rfl rfl rfl ⟨rfl,rfl,rfl,rfl,rfl⟩ rfl rfl rfl rfl rfl zEX Tryz.func9 zEH
  (of_decide_eq_true (by as_aux_lemma=>kernel_rfl)) (by unfold Func.isWrapper;first|(rw[if_pos (by decide +kernel)];kernel_rfl)|(rw[if_neg (by decide +kernel)];exact ⟨rfl,rfl⟩))
  (fun os started H enc _ F=>by rw[OpenClaim.pre_eq_preRow];exact zEJ os started H enc F)
