/-
  An argument that is a manifest, opened.
-/
import Derived.Test.YtldjldkejjeamaaGreatDoorSArgs
import Derived.Test.YtldjldkejjeamaaGreatDoorManiO
import Derived.Test.YtldjldkejjeamaaGreatDoorMani2
set_option maxRecDepth 100000
namespace Go.Proofs.YtldjldkejjeamaaGreatDoor
open Go.ChangeShapes Go.WideShapes Go.ChangeAt Go.RowKit
set_option linter.unusedVariables false
set_option linter.unusedSimpArgs false

theorem mani_arg {H : Type} {enc : TypeId × Value → H} {w : World} {v : Value} {d : DataW H} {ps : List MemPlace} {base : Nat} {r : Reach}
    (hv : Value.okWide Tryz.prog w r base 47 v) (h : DataW.Trod enc Tryz.prog w 0 (fun _ => true) true 47 v d ps) :
    ∃ x : Mani, ManiV w (fun b => b < w.heap.size) x v ∧ bkMani x ≤ Rows.uptoBulk d := by
  obtain ⟨y, hy, hbk⟩ := opensB_arg opensB_Mani h
  obtain ⟨cs, rfl, _⟩ := okWide_struct Tryz.underlying47 hv
  obtain ⟨s0, s1, s2, s3, hcs, g0, g1, g2, g3⟩ := hy
  obtain ⟨A0, c0, rfl, _, _⟩ := g0.val
  obtain ⟨A1, c1, rfl, _, _⟩ := g1.val
  obtain ⟨A2, c2, rfl, _, _⟩ := g2.val
  obtain ⟨A3, c3, rfl, _, _⟩ := g3.val
  have e : cs.toList = [.slice A0 y.deps.length c0, .slice A1 y.dev.length c1, .slice A2 y.opts.length c2, .slice A3 y.over.length c3] := hcs
  obtain rfl : cs = #[.slice A0 y.deps.length c0, .slice A1 y.dev.length c1, .slice A2 y.opts.length c2, .slice A3 y.over.length c3] := Array.ext' e
  exact ⟨y, ⟨_, _, _, _, _, _, _, _, _, _, _, _, rfl, g0, g1, g2, g3⟩, hbk⟩
end Go.Proofs.YtldjldkejjeamaaGreatDoor
