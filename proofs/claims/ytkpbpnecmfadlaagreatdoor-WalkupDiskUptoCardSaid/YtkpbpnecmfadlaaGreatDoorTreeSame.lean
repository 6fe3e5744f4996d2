/-
  tree.Same.
-/
import Derived.Test.YtkpbpnecmfadlaaGreatDoorAmong
set_option autoImplicit false
set_option relaxedAutoImplicit false
set_option linter.unusedVariables false
set_option linter.unusedSimpArgs false
namespace Go.Proofs.YtkpbpnecmfadlaaGreatDoor
open Go.Rows Go.RowKit Go.Shelf Go.Sort

noncomputable def inB (a b : List Dir) : Bool := a.all (fun d => b.any (sameD d))
theorem all_at {q : Dir → Bool} {l : List Dir} {k : Nat} (h : k < l.length) : (l.drop k).all q = (q l[k] && (l.drop (k + 1)).all q) := by
  rw [List.drop_eq_getElem_cons h, List.all_cons]

theorem sameD_self (d : Dir) : sameD d d = true := by unfold sameD; rw [eqB_true rfl, eqB_true rfl]; rfl
theorem inB_self (l : List Dir) : inB l l = true := by
  unfold inB
  rw [List.all_eq_true]
  intro d hd
  rw [List.any_eq_true]
  exact ⟨d, hd, sameD_self d⟩
end Go.Proofs.YtkpbpnecmfadlaaGreatDoor
