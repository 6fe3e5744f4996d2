/-
  Two lists of strings compared, element by element: what is answered is whether they are one; draws alone.
-/
import Derived.Test.YtkpbnbnfgadkcaaDoorRows
import Derived.Test.YtkpbnbnfgadkcaaDoorRep
import Derived.Test.YtkpbnbnfgadkcaaDoorPlain
import Derived.WalkKit
import Derived.WalkSpells
import Derived.WalkLawsBesides
import Derived.Deep.QuietTactic
import Derived.BigQuiet
import Derived.IntWalk
import Derived.Lib.Hide
namespace Go.Proofs.YtkpbnbnfgadkcaaDoor
open Go.RowKit
set_option linter.unusedVariables false
set_option linter.unusedSimpArgs false

end Go.Proofs.YtkpbnbnfgadkcaaDoor
