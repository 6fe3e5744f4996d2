/-
  Arguments of a law, opened: trees, graphs, lists of names and of files, whole numbers, texts.
-/
import Derived.Test.YtkpbpnecmfadlaaGreatDoorTreeArg
set_option maxRecDepth 100000
namespace Go.Proofs.YtkpbpnecmfadlaaGreatDoor
open Go.ChangeShapes Go.WideShapes Go.ChangeAt Go.RowKit
set_option linter.unusedVariables false
set_option linter.unusedSimpArgs false

theorem graph_arg {H : Type} {enc : TypeId × Value → H} {w : World} {v : Value} {d : DataW H} {ps : List MemPlace} {base : Nat} {r : Reach}
    (hv : Value.okWide Tryz.prog w r base 75 v) (h : DataW.Trod enc Tryz.prog w 0 (fun _ => true) true 75 v d ps) :
    ∃ A n c xs, v = .agg #[.slice A n c] ∧ SlV rNode w (fun b => b < w.heap.size) xs (.slice A n c) ∧ 1 + bkL bkNode xs ≤ Rows.uptoBulk d := by
  obtain ⟨y, hy, hbk⟩ := opensB_arg opensB_Graph h
  obtain ⟨cs, rfl, _⟩ := okWide_struct Tryz.underlying75 hv
  obtain ⟨s0, hcs, hs⟩ := hy
  have e : cs.toList = [s0] := hcs
  obtain rfl : cs = #[s0] := Array.ext' e
  obtain ⟨A, c, rfl, _, _⟩ := hs.val
  exact ⟨A, _, c, y.nodes, rfl, hs, hbk⟩
theorem cells_one {v s : Value} (h : v.cells.toList = [s]) (hs : s.oneCell' = true) (hv : ∀ cs, v ≠ .agg cs) : v = s := by
  cases v <;> simp_all [Value.cells]
theorem int_arg {H : Type} {enc : TypeId × Value → H} {w : World} {v : Value} {d : DataW H} {ps : List MemPlace} {base : Nat} {r : Reach}
    (hv : Value.okWide Tryz.prog w r base 3 v) (h : DataW.Trod enc Tryz.prog w 0 (fun _ => true) true 3 v d ps) :
    ∃ x, v = .int .i64 x ∧ I64 x ∧ 1 ≤ Rows.uptoBulk d := by
  obtain ⟨y, hy, hbk⟩ := opensB_arg (opensB_int Tryz.underlying3) h
  obtain ⟨n, rfl⟩ := okWide_int Tryz.underlying3 hv
  obtain ⟨h1, h2⟩ := hy
  have e : [Value.int .i64 n] = [.int .i64 y] := h1
  simp at e
  subst e
  exact ⟨_, rfl, h2, hbk⟩
theorem str_arg {H : Type} {enc : TypeId × Value → H} {w : World} {v : Value} {d : DataW H} {ps : List MemPlace} {base : Nat} {r : Reach}
    (hv : Value.okWide Tryz.prog w r base 9 v) (h : DataW.Trod enc Tryz.prog w 0 (fun _ => true) true 9 v d ps) :
    ∃ x, v = .string x ∧ x.size ≤ maxLen ∧ x.size + 1 ≤ Rows.uptoBulk d := by
  obtain ⟨y, hy, hbk⟩ := opensB_arg (opensB_str Tryz.underlying9) h
  obtain ⟨n, rfl⟩ := okWide_string Tryz.underlying9 hv
  obtain ⟨h1, h2⟩ := hy
  have e : [Value.string n] = [.string y] := h1
  simp at e
  subst e
  exact ⟨_, rfl, h2, hbk⟩
theorem strs_arg {H : Type} {enc : TypeId × Value → H} {w : World} {v : Value} {d : DataW H} {ps : List MemPlace} {base : Nat} {r : Reach}
    (hv : Value.okWide Tryz.prog w r base 52 v) (h : DataW.Trod enc Tryz.prog w 0 (fun _ => true) true 52 v d ps) :
    ∃ A n c xs, v = .slice A n c ∧ SlV rStr w (fun b => b < w.heap.size) xs (.slice A n c) ∧ bkL (fun s : ByteArray => s.size + 1) xs ≤ Rows.uptoBulk d := by
  obtain ⟨A, n, c, rfl⟩ := okWide_slice Tryz.underlying52 hv
  obtain ⟨l, hl, hbk⟩ := opensB_arg (opensB_slice (e := 9) Tryz.underlying52 (r := rStr) (by kernel_rfl) (by decide) (opensB_str Tryz.underlying9)) h
  exact ⟨A, n, c, l, rfl, hl, hbk⟩
theorem tree_len {xs : List Dir} (h : bkL bkDir xs ≤ 1048576) : xs.length ≤ 1048576 := by
  have := bkL_len (bk := bkDir) (l := xs) fun x => by unfold bkDir; omega
  omega
theorem strs_small {xs : List ByteArray} {B : Nat} (h : bkL (fun s : ByteArray => s.size + 1) xs ≤ B) (hB : B ≤ 1048576) : xs.length ≤ 1048576 := by
  have := bkL_len (bk := fun s : ByteArray => s.size + 1) (l := xs) fun x => by omega
  omega
end Go.Proofs.YtkpbpnecmfadlaaGreatDoor
