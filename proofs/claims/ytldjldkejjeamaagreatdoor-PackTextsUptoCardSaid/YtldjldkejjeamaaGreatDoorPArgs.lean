/-
  An argument that is a package, opened.
-/
import Derived.Test.YtldjldkejjeamaaGreatDoorSArgs
import Derived.Test.YtldjldkejjeamaaGreatDoorSame
set_option maxRecDepth 100000
namespace Go.Proofs.YtldjldkejjeamaaGreatDoor
open Go.ChangeShapes Go.WideShapes Go.ChangeAt Go.RowKit
set_option linter.unusedVariables false
set_option linter.unusedSimpArgs false

theorem pack_arg {H : Type} {enc : TypeId × Value → H} {w : World} {v : Value} {d : DataW H} {ps : List MemPlace} {base : Nat} {r : Reach}
    (hv : Value.okWide Tryz.prog w r base 26 v) (h : DataW.Trod enc Tryz.prog w 0 (fun _ => true) true 26 v d ps) :
    ∃ x : Pack, PackV w (fun b => b < w.heap.size) x v ∧ bkPack x ≤ Rows.uptoBulk d := by
  obtain ⟨y, hy, hbk⟩ := opensB_arg opensB_Pack h
  obtain ⟨cs, rfl, _⟩ := okWide_struct Tryz.underlying26 hv
  obtain ⟨s0, s1, s2, hcs, h1, _, _, _, g0, g1, g2⟩ := hy
  obtain ⟨A0, c0, rfl, _, _⟩ := g0.val
  obtain ⟨A1, c1, rfl, _, _⟩ := g1.val
  obtain ⟨A2, c2, rfl, _, _⟩ := g2.val
  have e : cs.toList = [.string y.name, .int .i64 y.ver.major, .int .i64 y.ver.minor, .int .i64 y.ver.patch, .slice A0 y.deps.length c0, .slice A1 y.peers.length c1, .slice A2 y.opts.length c2] := hcs
  obtain rfl : cs = #[.string y.name, .int .i64 y.ver.major, .int .i64 y.ver.minor, .int .i64 y.ver.patch, .slice A0 y.deps.length c0, .slice A1 y.peers.length c1, .slice A2 y.opts.length c2] := Array.ext' e
  exact ⟨y, ⟨_, _, _, _, _, _, _, _, _, rfl, h1, g0, g1, g2⟩, hbk⟩
end Go.Proofs.YtldjldkejjeamaaGreatDoor
