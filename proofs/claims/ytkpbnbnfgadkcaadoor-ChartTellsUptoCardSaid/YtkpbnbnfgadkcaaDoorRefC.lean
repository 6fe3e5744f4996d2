/-
  The document's Flip and Turn: what they answer.
-/
import Derived.Test.YtkpbnbnfgadkcaaDoorRefB
namespace Go.Proofs.YtkpbnbnfgadkcaaDoor
open Go.RowKit
set_option linter.unusedVariables false
set_option linter.unusedSimpArgs false

/-- one quarter more -/
theorem quart_step (k : Nat) (s : Spot) : twistF (quart (k + 1)).1 (quart (k + 1)).2 s = ⟨s.path, -(twistF (quart k).1 (quart k).2 s).y, (twistF (quart k).1 (quart k).2 s).x⟩ := by
  simp only [quart, twistF, Int.mul_neg, Spot.mk.injEq, true_and]
  omega
theorem quart_zero (s : Spot) : twistF (quart 0).1 (quart 0).2 s = s := by
  simp [quart, twistF]
theorem quart_far {s : Spot} (hx : s.x.natAbs ≤ 1099511627776) (hy : s.y.natAbs ≤ 1099511627776) (k : Nat) :
    (twistF (quart k).1 (quart k).2 s).x.natAbs ≤ 1099511627776 ∧ (twistF (quart k).1 (quart k).2 s).y.natAbs ≤ 1099511627776 := by
  induction k with
  | zero => rw [quart_zero]; exact ⟨hx, hy⟩
  | succ k ih => rw [quart_step]; simp only [Int.natAbs_neg]; exact ⟨ih.2, ih.1⟩
theorem quart_path (s : Spot) (k : Nat) : (twistF (quart k).1 (quart k).2 s).path = s.path := rfl

end Go.Proofs.YtkpbnbnfgadkcaaDoor
