/-
  The document's May of a package: packB.
-/
import Derived.Test.YtanipbpphbkmcaaDoorPackM
set_option autoImplicit false
set_option relaxedAutoImplicit false
set_option linter.unusedVariables false
set_option linter.unusedSimpArgs false
namespace Go.Proofs.YtanipbpphbkmcaaDoor
open Go.Rows Go.RowKit Go.Shelf Go.Sort

end Go.Proofs.YtanipbpphbkmcaaDoor
