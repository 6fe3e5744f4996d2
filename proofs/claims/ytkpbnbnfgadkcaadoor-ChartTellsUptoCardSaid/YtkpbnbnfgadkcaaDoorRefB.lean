/-
  The document's Twist, Turn and Flip: what they answer.
-/
import Derived.Test.YtkpbnbnfgadkcaaDoorRefA
namespace Go.Proofs.YtkpbnbnfgadkcaaDoor
open Go.RowKit
set_option linter.unusedVariables false
set_option linter.unusedSimpArgs false

theorem wrap_small {n : Int} (h : n.natAbs < 2 ^ 53) : IntKind.i64.wrap n = n := by
  rw [show (2 : Nat) ^ 53 = 9007199254740992 from by decide] at h
  exact IntWalk.i64_in _ (by omega)

/-- the parts of a product of small numbers: none wraps -/
theorem mul_parts {x y u v : Int} (hx : x.natAbs ≤ 1099511627776) (hy : y.natAbs ≤ 1099511627776) (hu : u.natAbs ≤ 1024) (hv : v.natAbs ≤ 1024) :
    IntKind.i64.wrap (x * u) = x * u ∧ IntKind.i64.wrap (y * v) = y * v ∧ IntKind.i64.wrap (x * u - y * v) = x * u - y * v ∧
    IntKind.i64.wrap (x * v) = x * v ∧ IntKind.i64.wrap (y * u) = y * u ∧ IntKind.i64.wrap (x * v + y * u) = x * v + y * u := by
  have h1 : (x * u).natAbs < 1125899906842625 := natAbs_mul_lt hx hu (by omega)
  have h2 : (y * v).natAbs < 1125899906842625 := natAbs_mul_lt hy hv (by omega)
  have h4 : (x * v).natAbs < 1125899906842625 := natAbs_mul_lt hx hv (by omega)
  have h5 : (y * u).natAbs < 1125899906842625 := natAbs_mul_lt hy hu (by omega)
  generalize x * u = A at *
  generalize y * v = B at *
  generalize x * v = C at *
  generalize y * u = D at *
  refine ⟨IntWalk.i64_in _ (by omega), IntWalk.i64_in _ (by omega), IntWalk.i64_in _ (by omega), IntWalk.i64_in _ (by omega), IntWalk.i64_in _ (by omega), IntWalk.i64_in _ (by omega)⟩

theorem elem_same {w : World} {S : Nat → Prop} {path : List ByteArray} {q : Value} {X Y : Int} (hq : SlV rStr w S path q) (h : X.natAbs < 2 ^ 53 ∧ Y.natAbs < 2 ^ 53) :
    Hid (rSpot.holds w S ⟨path, X, Y⟩ [q, .int .i64 X, .int .i64 Y]) := ⟨q, rfl, hq, i64_of_53 h.1, i64_of_53 h.2⟩

end Go.Proofs.YtkpbnbnfgadkcaaDoor
