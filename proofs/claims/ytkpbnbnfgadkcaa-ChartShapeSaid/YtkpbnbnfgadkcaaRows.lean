/-
  No cell of these rows narrows 'for every input' (looked for: loops, veiled, ifaces, maps, wideKeys, modest, calm, conditions, laid).
  DERIVED. THE GIVEN ROWS OF THIS SEAT. 3 by the template 'for every input the law returns true; each argument reads behind the call as it read before'; 0 by the template 'total and deterministic' (their statements: YtkpbnbnfgadkcaaTotals.lean).
  GIVEN WITH THE SEED: the statements are not yours to turn. If you find one false, say at which input.
  Laid BY PROGRAM, IN A SANDBOX (cutbox-rows.mjs): the forced cells as the released guide's own fill.sh prints them over the translation fbbf83ca888bfff9… (all of the seat's roots in one cut). By AI agents, Wed Nov 11 2026. No macro, syntax, notation, axiom, sorry.
-/
import Derived.Test.YtkpbnbnfgadkcaaChecked
import GoSem.Claim
import GoSem.ClaimJoined
import GoSem.ClaimMapViews
import Derived.JoinedTies
import Derived.KernelRfl
namespace Go.Proofs.Ytkpbnbnfgadkcaa
/- THE CELL 'sum', in the pinned program and in every row, IS THE sha256 OF THE DUMP (.gsa) THAT YtkpbnbnfgadkcaaProg.lean LOADS. Nothing in Lean hashes anything: it is a label: what it is worth is what the hold of that sum in a sandbox is worth. -/
noncomputable def Try.pinned : Pinned := { name := "ytkpbnbnfgadkcaa", sum := "fbbf83ca888bfff94fa51c62018fa43b9f2f976889a4fbc1fc5b9a42c7226f40", checked := Try.checked }
namespace Rows
def none {H : Type} : Left H := { results := [], args := [] }

/-- 'halyardlaw23.ChartMoves': WHATEVER THE INPUT: true; the input reads as it did. -/
def chartMovesSpec : ChangeSpec := { name := "chartMoves", fn := fun _ => fun
  | [d1, d2, d3] => { results := [.lit (.bool true)], args := [d1, d2, d3] }
  | _ => none }
def chartMovesRow : OpenClaim := { program := "ytkpbnbnfgadkcaa", sum := "fbbf83ca888bfff94fa51c62018fa43b9f2f976889a4fbc1fc5b9a42c7226f40", func := "halyard/halyardlaw23.ChartMoves", spec := "chartMoves", unfollowed := true, recurses := true, apart := false }
def ChartMovesSaid : Prop := chartMovesRow.holds Try.pinned (OpenSpec.ofChange chartMovesSpec)

/-- ITS FALSE NEIGHBOUR: 'it returns false'. Refute it at one input. -/
def chartMovesWrong : ChangeSpec := { name := "chartMoves", fn := fun _ => fun
  | [d1, d2, d3] => { results := [.lit (.bool false)], args := [d1, d2, d3] }
  | _ => none }
def ChartMovesWrongFalsely : Prop := chartMovesRow.holds Try.pinned (OpenSpec.ofChange chartMovesWrong)

/-- 'halyardlaw23.ChartPlane': WHATEVER THE INPUT: true; the input reads as it did. -/
def chartPlaneSpec : ChangeSpec := { name := "chartPlane", fn := fun _ => fun
  | [d1, d2, d3] => { results := [.lit (.bool true)], args := [d1, d2, d3] }
  | _ => none }
def chartPlaneRow : OpenClaim := { program := "ytkpbnbnfgadkcaa", sum := "fbbf83ca888bfff94fa51c62018fa43b9f2f976889a4fbc1fc5b9a42c7226f40", func := "halyard/halyardlaw23.ChartPlane", spec := "chartPlane", unfollowed := true, recurses := true, apart := false }
def ChartPlaneSaid : Prop := chartPlaneRow.holds Try.pinned (OpenSpec.ofChange chartPlaneSpec)

/-- ITS FALSE NEIGHBOUR: 'it returns false'. Refute it at one input. -/
def chartPlaneWrong : ChangeSpec := { name := "chartPlane", fn := fun _ => fun
  | [d1, d2, d3] => { results := [.lit (.bool false)], args := [d1, d2, d3] }
  | _ => none }
def ChartPlaneWrongFalsely : Prop := chartPlaneRow.holds Try.pinned (OpenSpec.ofChange chartPlaneWrong)

/-- 'halyardlaw23.ChartShape': WHATEVER THE INPUT: true; the input reads as it did. -/
def chartShapeSpec : ChangeSpec := { name := "chartShape", fn := fun _ => fun
  | [d1, d2] => { results := [.lit (.bool true)], args := [d1, d2] }
  | _ => none }
def chartShapeRow : OpenClaim := { program := "ytkpbnbnfgadkcaa", sum := "fbbf83ca888bfff94fa51c62018fa43b9f2f976889a4fbc1fc5b9a42c7226f40", func := "halyard/halyardlaw23.ChartShape", spec := "chartShape", unfollowed := true, recurses := true, apart := false }
def ChartShapeSaid : Prop := chartShapeRow.holds Try.pinned (OpenSpec.ofChange chartShapeSpec)

/-- ITS FALSE NEIGHBOUR: 'it returns false'. Refute it at one input. -/
def chartShapeWrong : ChangeSpec := { name := "chartShape", fn := fun _ => fun
  | [d1, d2] => { results := [.lit (.bool false)], args := [d1, d2] }
  | _ => none }
def ChartShapeWrongFalsely : Prop := chartShapeRow.holds Try.pinned (OpenSpec.ofChange chartShapeWrong)

/- THE SECOND FORM. 'bulk': how many values and letters a reading holds, each counted each time it is reached (what is shared counts as often as it is met; a slice's spare places count too). A statement '..UptoSaid' is the law's where the arguments, and the package variables that the reading takes, are together of bulk at most 1048576: NARROWER than '..Said'. Prove '..Said' where nothing that the law and all that it calls make is longer than what came in: it says more and counts as full. Else prove '..UptoSaid'. A law counts once. -/
mutual
def uptoBulk {H : Type} : DataW H → Nat
  | .lit (.string bytes) => bytes.length + 1
  | .lit _ => 1
  | .nil => 1
  | .ptr d => uptoBulk d + 1
  | .slice elems spare => uptoBulkAll elems + uptoBulkAll spare + 1
  | .agg parts => uptoBulkAll parts + 1
  | .iface _ d => uptoBulk d + 1
  | .map entries => uptoBulkEntries entries + 1
  | .held _ => 1
def uptoBulkAll {H : Type} : List (DataW H) → Nat
  | [] => 0
  | d :: r => uptoBulk d + uptoBulkAll r
def uptoBulkEntries {H : Type} : List (Lit × DataW H) → Nat
  | [] => 0
  | x :: r => uptoBulkEntry x + uptoBulkEntries r
def uptoBulkEntry {H : Type} : Lit × DataW H → Nat
  | (.string bytes, d) => bytes.length + uptoBulk d + 1
  | (_, d) => uptoBulk d + 1
 end
def uptoSmall : (H : Type) → List (DataW H) → Bool := fun _ ds => decide (uptoBulkAll ds ≤ 1048576)
def OpenSpec.upto (s : _root_.Go.ChangeSpec) : _root_.Go.OpenSpec := { _root_.Go.OpenSpec.ofChange s with cond := some uptoSmall }

/-- 'halyardlaw23.ChartMoves', WHERE WHAT IT READS IS OF BULK AT MOST 1048576: true; the input reads as it did. -/
def chartMovesUptoRow : OpenClaim := { program := "ytkpbnbnfgadkcaa", sum := "fbbf83ca888bfff94fa51c62018fa43b9f2f976889a4fbc1fc5b9a42c7226f40", func := "halyard/halyardlaw23.ChartMoves", spec := "chartMoves", unfollowed := true, recurses := true, apart := false, narrowed := true }
def ChartMovesUptoSaid : Prop := chartMovesUptoRow.holds Try.pinned (OpenSpec.upto chartMovesSpec)

/-- 'halyardlaw23.ChartPlane', WHERE WHAT IT READS IS OF BULK AT MOST 1048576: true; the input reads as it did. -/
def chartPlaneUptoRow : OpenClaim := { program := "ytkpbnbnfgadkcaa", sum := "fbbf83ca888bfff94fa51c62018fa43b9f2f976889a4fbc1fc5b9a42c7226f40", func := "halyard/halyardlaw23.ChartPlane", spec := "chartPlane", unfollowed := true, recurses := true, apart := false, narrowed := true }
def ChartPlaneUptoSaid : Prop := chartPlaneUptoRow.holds Try.pinned (OpenSpec.upto chartPlaneSpec)

/-- 'halyardlaw23.ChartShape', WHERE WHAT IT READS IS OF BULK AT MOST 1048576: true; the input reads as it did. -/
def chartShapeUptoRow : OpenClaim := { program := "ytkpbnbnfgadkcaa", sum := "fbbf83ca888bfff94fa51c62018fa43b9f2f976889a4fbc1fc5b9a42c7226f40", func := "halyard/halyardlaw23.ChartShape", spec := "chartShape", unfollowed := true, recurses := true, apart := false, narrowed := true }
def ChartShapeUptoSaid : Prop := chartShapeUptoRow.holds Try.pinned (OpenSpec.upto chartShapeSpec)

end Rows
end Go.Proofs.Ytkpbnbnfgadkcaa
