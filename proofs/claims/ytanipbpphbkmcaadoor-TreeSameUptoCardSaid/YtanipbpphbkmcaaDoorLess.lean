/-
  The document's order of texts, byte by byte, walked.
-/
import Derived.Test.YtanipbpphbkmcaaDoorRows
import Derived.Test.YtanipbpphbkmcaaDoorOwn
import Derived.Test.YtanipbpphbkmcaaDoorPlain
import Derived.Test.YtanipbpphbkmcaaDoorQuietB
import Derived.WalkKit
import Derived.WalkSpells
import Derived.WalkLawsBesides
import Derived.IntWalk
import Derived.Lib.Hide
set_option autoImplicit false
set_option relaxedAutoImplicit false
set_option linter.unusedVariables false
set_option linter.unusedSimpArgs false
namespace Go.Proofs.YtanipbpphbkmcaaDoor
open Go.RowKit Go.Sort

def lessB (a b : ByteArray) : Bool := Op.bytesLess a.toList b.toList
theorem drop_at (s : ByteArray) {k : Nat} (h : k < s.size) : s.toList.drop k = s[k] :: s.toList.drop (k + 1) := by
  rw [Go.ByteArray.toList_eq]
  have h' : k < s.data.toList.length := by rw [Array.length_toList]; exact h
  rw [List.drop_eq_getElem_cons h']
  rfl
theorem drop_end (s : ByteArray) {k : Nat} (h : s.size ≤ k) : s.toList.drop k = [] := by
  rw [Go.ByteArray.toList_eq]
  exact List.drop_eq_nil_of_le (by rw [Array.length_toList]; exact h)
theorem bl_cons (x y : UInt8) (a b : List UInt8) : Op.bytesLess (x :: a) (y :: b) = (decide (x < y) || (x == y && Op.bytesLess a b)) := rfl

end Go.Proofs.YtanipbpphbkmcaaDoor
