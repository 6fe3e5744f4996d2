/- Short names of the kit's and the library's laws. -/
import Derived.Lib.Hide
import Derived.Lib.QuietBelow
import Derived.Laws.Rows
import Derived.Below
set_option linter.all false
namespace Go.Proofs.YthbnmehbhpakaaaGreatDoor
open Go.Rows Go.RowKit
theorem cH {p:Prop} (h:p):Go.RowKit.Hid p:=h
abbrev cR:=@cell_regrown
abbrev gE:=@List.getElem?_eq_getElem
abbrev cO:=@cell_of_row
abbrev gS:=@List.getElem?_eq_some_iff
abbrev aS:=@Array.getElem?_eq_some_iff
abbrev mG:=@List.mem_of_getElem?
abbrev lL:=@Nat.lt_of_lt_of_le
abbrev dN:=@List.drop_eq_nil_of_le
abbrev dC:=@List.drop_eq_getElem_cons
abbrev nR:=@Nat.le_refl
abbrev nZ:=@Nat.zero_le
abbrev nT:=@Nat.le_trans
abbrev bR:=@Below.refl
