/-
  tree.among and tree.Same.
-/
import Derived.Test.YtkpbpnecmfadlaaGreatDoorCheck
set_option autoImplicit false
set_option relaxedAutoImplicit false
set_option linter.unusedVariables false
set_option linter.unusedSimpArgs false
namespace Go.Proofs.YtkpbpnecmfadlaaGreatDoor
open Go.Rows Go.RowKit Go.Shelf Go.Sort

noncomputable def sameD (d x : Dir) : Bool := eqB x.path d.path && eqB x.pack d.pack

end Go.Proofs.YtkpbpnecmfadlaaGreatDoor
