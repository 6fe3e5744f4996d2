/-
  A tree that came in, opened.
-/
import Derived.Test.YtkpbpnecmfadlaaGreatDoorOpenB
import Derived.Test.YtkpbpnecmfadlaaGreatDoorDataO
import Derived.ProofKit
import Derived.OpenShut
set_option maxRecDepth 100000
namespace Go.Proofs.YtkpbpnecmfadlaaGreatDoor
open Go.ChangeShapes Go.WideShapes Go.ChangeAt Go.RowKit
set_option linter.unusedVariables false
set_option linter.unusedSimpArgs false

/-- a tree's value, opened -/
theorem tree_arg {H : Type} {enc : TypeId × Value → H} {w : World} {v : Value} {d : DataW H} {ps : List MemPlace} {base : Nat} {r : Reach}
    (hv : Value.okWide Tryz.prog w r base 66 v) (h : DataW.Trod enc Tryz.prog w 0 (fun _ => true) true 66 v d ps) :
    ∃ A n c xs, v = .agg #[.slice A n c] ∧ SlV rDir w (fun b => b < w.heap.size) xs (.slice A n c) ∧ 1 + bkL bkDir xs ≤ Rows.uptoBulk d := by
  obtain ⟨y, hy, hbk⟩ := opensB_arg opensB_Tree h
  obtain ⟨cs, rfl, _⟩ := okWide_struct Tryz.underlying66 hv
  obtain ⟨s0, hcs, hs⟩ := hy
  have e : cs.toList = [s0] := hcs
  obtain rfl : cs = #[s0] := Array.ext' e
  obtain ⟨A, c, rfl, _, _⟩ := hs.val
  exact ⟨A, _, c, y.dirs, rfl, hs, hbk⟩
theorem dir_small {xs : List Dir} (h : bkL bkDir xs ≤ 1048576) : ∀ d ∈ xs, d.path.length * 32 ≤ 140737488355328 := fun d hd => by
  have h1 : bkDir d ≤ bkL bkDir xs := bkL_mem (bk := bkDir) hd
  have h2 := bkL_len (bk := fun s : ByteArray => s.size + 1) (l := d.path) fun x => by omega
  have h3 : bkDir d = 1 + bkL (fun s : ByteArray => s.size + 1) d.path + bkPack d.pack + 1 := rfl
  rw [h3] at h1
  omega
end Go.Proofs.YtkpbpnecmfadlaaGreatDoor
