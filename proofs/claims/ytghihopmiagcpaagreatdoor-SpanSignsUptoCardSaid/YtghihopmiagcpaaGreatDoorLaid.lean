/-
  The listed tables: a world in which they lie, for the row's witness; the digits' table as the walks ask it.
-/
import Derived.Test.YtghihopmiagcpaaGreatDoorRows
import Derived.Below
import Derived.ProofKit
import Derived.LaidMore
import Derived.Stop.LaidErr
import Derived.Lib.LaidTab
import Derived.Lib.ItoaNum
import Derived.KernelRfl
namespace Go.Proofs.YtghihopmiagcpaaGreatDoor
open Go.RowKit
set_option linter.unusedVariables false

def flat1 : DataW Unit → List Value
  | .lit (.int k n) => [.int k n]
  | _ => []
def flat2 : DataW Unit → List Value
  | .agg l => (l.map flat1).flatten
  | d => flat1 d
def flat3 : DataW Unit → List Value
  | .agg l => (l.map flat2).flatten
  | d => flat2 d
/-- a heap in which the listed variables hold their data -/
def layAll (P : Program) : List (String × DataW Unit) → Array Obj → Array Obj
  | [], h => h
  | x :: r, h => layAll P r (match P.globalNamed x.1 with
    | some g => h.modify g fun
      | .cells _ t fr => .cells (flat3 x.2).toArray t fr
      | o => o
    | none => h)
noncomputable def laidWorld (P : Program) (l : List (String × DataW Unit)) (os : Os) : World :=
  { World.holding P os ⟨#[], #[], []⟩ with heap := layAll P l (World.holding P os ⟨#[], #[], []⟩).heap }

abbrev Tab (W : World) : Prop := Lib.TabIs Tryz.prog W "internal/strconv.uint64pow10" .u64 Lib.pow10Tab
theorem tab_below {w W : World} (h : Tab w) (hb : Below w.heap.size w W) : Tab W := by
  unfold Tab Lib.TabIs World.var? at *
  cases hg : Tryz.prog.globalNamed "internal/strconv.uint64pow10" with
  | none => rw [hg] at h; exact h
  | some g =>
    rw [hg] at h
    simp only [Option.bind_some] at *
    have hlt : g < w.heap.size := by
      rcases Nat.lt_or_ge g w.heap.size with h' | h'
      · exact h'
      · rw [Array.getElem?_eq_none h'] at h; cases h
    rw [hb.block g hlt]
    exact h
end Go.Proofs.YtghihopmiagcpaaGreatDoor
