/-
  strconv.Itoa as the walks take it.
-/
import Derived.Test.YtanipbpphbkmcaaGreatDoorRep
import Derived.Test.YtanipbpphbkmcaaGreatDoorNumP
import Derived.Test.YtanipbpphbkmcaaGreatDoorLaid
import Derived.Test.YtanipbpphbkmcaaGreatDoorShelf
import Derived.Lib.AppendIntMem
set_option autoImplicit false
set_option relaxedAutoImplicit false
set_option linter.unusedVariables false
namespace Go.Proofs.YtanipbpphbkmcaaGreatDoor
open Go.Rows Go.RowKit Go.Shelf Go.Sort
theorem itoa_any (n : Int) (hn : I64 n) (W : World) (ht : Tab W) : Calls Tryz.prog 140 #[.int .i64 n] W fun e w' => e = .returned (.string (itoaB n)) ∧ Below W.heap.size W w' :=
  (Tryz.strconv_Itoa n hn.1 hn.2 W ht).mono fun e w' ⟨he, k, os, hw⟩ => ⟨he, by rw [hw]; exact Lib.below_grow _ _ (Nat.le_refl _) _ _⟩

end Go.Proofs.YtanipbpphbkmcaaGreatDoor
