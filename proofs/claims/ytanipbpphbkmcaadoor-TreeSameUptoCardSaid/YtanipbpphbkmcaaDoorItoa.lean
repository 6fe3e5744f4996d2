/-
  strconv.Itoa as the walks take it.
-/
import Derived.Test.YtanipbpphbkmcaaDoorRep
import Derived.Test.YtanipbpphbkmcaaDoorNumP
import Derived.Test.YtanipbpphbkmcaaDoorLaid
import Derived.Test.YtanipbpphbkmcaaDoorShelf
import Derived.Lib.AppendIntMem
set_option autoImplicit false
set_option relaxedAutoImplicit false
set_option linter.unusedVariables false
namespace Go.Proofs.YtanipbpphbkmcaaDoor
open Go.Rows Go.RowKit Go.Shelf Go.Sort
theorem itoa_any (n : Int) (hn : I64 n) (W : World) (ht : Tab W) : Calls Tryd.prog 87 #[.int .i64 n] W fun e w' => e = .returned (.string (itoaB n)) ∧ Below W.heap.size W w' :=
  (Tryd.strconv_Itoa n hn.1 hn.2 W ht).mono fun e w' ⟨he, k, os, hw⟩ => ⟨he, by rw [hw]; exact Lib.below_grow _ _ (Nat.le_refl _) _ _⟩

end Go.Proofs.YtanipbpphbkmcaaDoor
