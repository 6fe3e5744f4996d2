/-
  The document's Apart, Lines and text of a package, walked.
-/
import Derived.Test.YtanipbpphbkmcaaDoorPackP
import Derived.Test.YtanipbpphbkmcaaDoorSpanR
set_option autoImplicit false
set_option relaxedAutoImplicit false
set_option linter.unusedVariables false
set_option linter.unusedSimpArgs false
namespace Go.Proofs.YtanipbpphbkmcaaDoor
open Go.Rows Go.RowKit Go.Shelf Go.Sort

theorem names_at {l : List Dep} {k : Nat} (h : k < l.length) : l[k].name ∈ namesOf l := List.mem_map.2 ⟨l[k], List.getElem_mem h, rfl⟩
theorem names_take_in {l : List Dep} {k : Nat} {x : ByteArray} (h : x ∈ namesOf (l.take k)) : x ∈ namesOf l := by
  obtain ⟨d, hd, rfl⟩ := List.mem_map.1 h
  exact List.mem_map.2 ⟨d, List.mem_of_mem_take hd, rfl⟩

theorem packHead_le {p : Pack} (h : p.name.size ≤ 16) : (packHead p).size ≤ 100 := by
  have h1 := verText_le p.ver.major p.ver.minor p.ver.patch
  have z1 : spaceB.size = 1 := rfl
  have z2 : nlB.size = 1 := rfl
  have z3 : packW.size = 8 := rfl
  unfold packHead
  simp only [ByteArray.size_append]
  omega

end Go.Proofs.YtanipbpphbkmcaaDoor
