/-
  The row of ImageBack: said.
-/
import Derived.Test.YthbnmehbhpakaaaGreatDoorImageBackRow
import Derived.Test.YthbnmehbhpakaaaGreatDoorCards
import Derived.Test.YthbnmehbhpakaaaGreatDoorTie
import Derived.Test.YthbnmehbhpakaaaGreatDoorBk20
import Derived.Test.YthbnmehbhpakaaaGreatDoorBk02
import Derived.ProofKit
import Derived.OpenShut
import Derived.Deep.DeepHandedRow
import Derived.Deep.DeepWitnessRowRef
import Derived.Test.YthbnmehbhpakaaaGreatDoorAl
set_option linter.all false
set_option maxHeartbeats 20000000
namespace Go.Proofs.YthbnmehbhpakaaaGreatDoor
open Go.ChangeShapes Go.WideShapes Go.ChangeAt Go.RowKit
theorem zHz {a b:Bool} (ha:a=true) (hb:b=true):(a&&b)=true:=by rw[ha,hb];rfl
theorem zHX:Tryz.pinned.checked.prog.funcNamed Rows.imageBackUptoRow.func=some 5:=by kernel_rfl
theorem zGP:joinedFacts Tryz.pinned.checked.prog 5 Tryz.f5 (Rows.OpenSpec.upto Rows.imageBackSpec).bare Rows.imageBackUptoRow=true:=by
 unfold joinedFacts
 repeat' (with_reducible refine zHz ?_ ?_)
 all_goals (as_aux_lemma=>kernel_rfl)
theorem zHx:Rows.ImageBackUptoSaid:=
 OpenClaim.holds_of_cond 5 Tryz.f5 rfl rfl rfl rfl rfl rfl rfl ⟨rfl,rfl,rfl,rfl,rfl⟩ rfl rfl rfl rfl rfl zHX Tryz.func5 zGP
  (of_decide_eq_true (by as_aux_lemma=>kernel_rfl)) (by unfold Func.isWrapper;first|(rw[if_pos (by decide +kernel)];kernel_rfl)|(rw[if_neg (by decide +kernel)];exact ⟨rfl,rfl⟩))
  (fun os started H enc _ F=>by rw[OpenClaim.pre_eq_preRow];exact zGO os started H enc F)
