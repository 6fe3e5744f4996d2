/-
  The row of PlaceSolved: what its card asks besides.
-/
import Derived.Test.YtminjjdnmpaaoaaGreatDoorCards
import Derived.Test.YtminjjdnmpaaoaaGreatDoorTie
import Derived.ProofKit
import Derived.OpenShut
import Derived.Deep.DeepHandedRow
import Derived.Deep.DeepWitnessRowRef
import Derived.Test.YtminjjdnmpaaoaaGreatDoorAl
set_option linter.all false
namespace Go.Proofs.YtminjjdnmpaaoaaGreatDoor
open Go.ChangeShapes Go.WideShapes Go.ChangeAt Go.RowKit
theorem zEF (f:FuncId) (fn:Func) (hf:Tryz.pinned.checked.prog.funcNamed "halyard/halyardlaw14.PlaceSolved" = some f) (hfn:Tryz.pinned.checked.prog.funcs[f]?=some fn) :
  false=Tryz.pinned.checked.prog.looks []∧∀ (j:Nat) t,fn.params[j]?=some t→Tryz.pinned.checked.prog.wantsStandIn t=false:=by
 obtain rfl:f=4:=Option.some.inj ((show Tryz.prog.funcNamed "halyard/halyardlaw14.PlaceSolved" = some 4 by kernel_rfl).symm.trans hf) |>.symm
 obtain rfl:fn=Tryz.f4:=(Option.some.inj (Tryz.func4.symm.trans hfn)).symm
 refine ⟨by kernel_rfl,fun j t ht=>?_⟩
 rw[Tryz.params4] at ht
 have hm:=Array.mem_of_getElem? ht
 simp at hm
 first|subst hm|(rcases hm with rfl|rfl)
 all_goals exact (show Tryz.prog.wantsStandIn 35=false by kernel_rfl)
