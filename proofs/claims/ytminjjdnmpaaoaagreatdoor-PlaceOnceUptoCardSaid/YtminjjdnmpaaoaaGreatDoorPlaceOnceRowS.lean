/-
  The row of PlaceOnce: said.
-/
import Derived.Test.YtminjjdnmpaaoaaGreatDoorPlaceOnceRow
import Derived.Test.YtminjjdnmpaaoaaGreatDoorCards
import Derived.Test.YtminjjdnmpaaoaaGreatDoorTie
import Derived.Test.YtminjjdnmpaaoaaGreatDoorOn27
import Derived.Test.YtminjjdnmpaaoaaGreatDoorOn01
import Derived.ProofKit
import Derived.OpenShut
import Derived.Deep.DeepHandedRow
import Derived.Deep.DeepWitnessRowRef
import Derived.Test.YtminjjdnmpaaoaaGreatDoorAl
set_option linter.all false
set_option maxHeartbeats 20000000
namespace Go.Proofs.YtminjjdnmpaaoaaGreatDoor
open Go.ChangeShapes Go.WideShapes Go.ChangeAt Go.RowKit
theorem zFk {a b:Bool} (ha:a=true) (hb:b=true):(a&&b)=true:=by rw[ha,hb];rfl
theorem zEr:Tryz.pinned.checked.prog.funcNamed Rows.placeOnceUptoRow.func=some 6:=by kernel_rfl
theorem zEP:joinedFacts Tryz.pinned.checked.prog 6 Tryz.f6 (Rows.OpenSpec.upto Rows.placeOnceSpec).bare Rows.placeOnceUptoRow=true:=by
 unfold joinedFacts
 repeat' (with_reducible refine zFk ?_ ?_)
 all_goals (as_aux_lemma=>kernel_rfl)
theorem zFe:Rows.PlaceOnceUptoSaid:=
 OpenClaim.holds_of_cond 6 Tryz.f6 rfl rfl rfl rfl rfl rfl rfl ⟨rfl,rfl,rfl,rfl,rfl⟩ rfl rfl rfl rfl rfl zEr Tryz.func6 zEP
  (of_decide_eq_true (by as_aux_lemma=>kernel_rfl)) (by unfold Func.isWrapper;first|(rw[if_pos (by decide +kernel)];kernel_rfl)|(rw[if_neg (by decide +kernel)];exact ⟨rfl,rfl⟩))
  (fun os started H enc _ F=>by rw[OpenClaim.pre_eq_preRow];exact zEO os started H enc F)
