/-
  The row of PlaceBounds: said.
-/
import Derived.Test.YtminjjdnmpaaoaaGreatDoorPlaceBoundsRow
import Derived.Test.YtminjjdnmpaaoaaGreatDoorCards
import Derived.Test.YtminjjdnmpaaoaaGreatDoorTie
import Derived.Test.YtminjjdnmpaaoaaGreatDoorBd28
import Derived.Test.YtminjjdnmpaaoaaGreatDoorBd01
import Derived.ProofKit
import Derived.OpenShut
import Derived.Deep.DeepHandedRow
import Derived.Deep.DeepWitnessRowRef
import Derived.Test.YtminjjdnmpaaoaaGreatDoorAl
set_option linter.all false
set_option maxHeartbeats 20000000
namespace Go.Proofs.YtminjjdnmpaaoaaGreatDoor
open Go.ChangeShapes Go.WideShapes Go.ChangeAt Go.RowKit
theorem zEZ {a b:Bool} (ha:a=true) (hb:b=true):(a&&b)=true:=by rw[ha,hb];rfl
theorem zEB:Tryz.pinned.checked.prog.funcNamed Rows.placeBoundsUptoRow.func=some 8:=by kernel_rfl
theorem zDz:joinedFacts Tryz.pinned.checked.prog 8 Tryz.f8 (Rows.OpenSpec.upto Rows.placeBoundsSpec).bare Rows.placeBoundsUptoRow=true:=by
 unfold joinedFacts
 repeat' (with_reducible refine zEZ ?_ ?_)
 all_goals (as_aux_lemma=>kernel_rfl)
theorem zEX:Rows.PlaceBoundsUptoSaid:=
 OpenClaim.holds_of_cond 8 Tryz.f8 rfl rfl rfl rfl rfl rfl rfl ⟨rfl,rfl,rfl,rfl,rfl⟩ rfl rfl rfl rfl rfl zEB Tryz.func8 zDz
  (of_decide_eq_true (by as_aux_lemma=>kernel_rfl)) (by unfold Func.isWrapper;first|(rw[if_pos (by decide +kernel)];kernel_rfl)|(rw[if_neg (by decide +kernel)];exact ⟨rfl,rfl⟩))
  (fun os started H enc _ F=>by rw[OpenClaim.pre_eq_preRow];exact zDy os started H enc F)
