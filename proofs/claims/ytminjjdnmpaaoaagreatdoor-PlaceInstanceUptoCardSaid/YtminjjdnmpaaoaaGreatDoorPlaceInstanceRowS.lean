/-
  The row of PlaceInstance: said.
-/
import Derived.Test.YtminjjdnmpaaoaaGreatDoorPlaceInstanceRow
import Derived.Test.YtminjjdnmpaaoaaGreatDoorCards
import Derived.Test.YtminjjdnmpaaoaaGreatDoorTie
import Derived.Test.YtminjjdnmpaaoaaGreatDoorIn17
import Derived.Test.YtminjjdnmpaaoaaGreatDoorIn01
import Derived.ProofKit
import Derived.OpenShut
import Derived.Deep.DeepHandedRow
import Derived.Deep.DeepWitnessRowRef
import Derived.Test.YtminjjdnmpaaoaaGreatDoorAl
set_option linter.all false
set_option maxHeartbeats 20000000
namespace Go.Proofs.YtminjjdnmpaaoaaGreatDoor
open Go.ChangeShapes Go.WideShapes Go.ChangeAt Go.RowKit
theorem zD2 {a b:Bool} (ha:a=true) (hb:b=true):(a&&b)=true:=by rw[ha,hb];rfl
theorem zDd:Tryz.pinned.checked.prog.funcNamed Rows.placeInstanceUptoRow.func=some 5:=by kernel_rfl
theorem zDV:joinedFacts Tryz.pinned.checked.prog 5 Tryz.f5 (Rows.OpenSpec.upto Rows.placeInstanceSpec).bare Rows.placeInstanceUptoRow=true:=by
 unfold joinedFacts
 repeat' (with_reducible refine zD2 ?_ ?_)
 all_goals (as_aux_lemma=>kernel_rfl)
theorem zDq:Rows.PlaceInstanceUptoSaid:=
 OpenClaim.holds_of_cond 5 Tryz.f5 rfl rfl rfl rfl rfl rfl rfl ⟨rfl,rfl,rfl,rfl,rfl⟩ rfl rfl rfl rfl rfl zDd Tryz.func5 zDV
  (of_decide_eq_true (by as_aux_lemma=>kernel_rfl)) (by unfold Func.isWrapper;first|(rw[if_pos (by decide +kernel)];kernel_rfl)|(rw[if_neg (by decide +kernel)];exact ⟨rfl,rfl⟩))
  (fun os started H enc _ F=>by rw[OpenClaim.pre_eq_preRow];exact zDU os started H enc F)
