/-
  A list of the document's spots, opened.
-/
import Derived.Test.YtkpbnbnfgadkcaaOpen
import Derived.Test.YtkpbnbnfgadkcaaSpot
import Derived.ProofKit
import Derived.SizedLaws
import Derived.JoinedOf
namespace Go.Proofs.Ytkpbnbnfgadkcaa
open Go.ChangeShapes Go.WideShapes Go.ChangeAt Go.RowKit
set_option linter.unusedVariables false
set_option linter.unusedSimpArgs false

theorem row_own : ownKnob Try.prog.godebug = none := by kernel_rfl
theorem row_laidOut : laidOutB Try.prog = true := by kernel_rfl

/-- a document's spot, opened -/
theorem opens_spot : Opens Try.prog 40 rSpot (fun s => s.path.length * 16 ≤ reachBytes) := by
  intro H enc w base fuel cs x h hz
  obtain ⟨xs, n, rfl, rfl, hlen, hxl, hf⟩ := DataW.trod_struct Try.underlying40 h
  rw [show Try.prog.cellsOf 40 = 3 from by kernel_rfl] at hlen
  match cs, hlen with
  | [c0, c1, c2], _ =>
    have k0 : Try.prog.cellsOf 38 = 1 := by kernel_rfl
    have k1 : Try.prog.cellsOf 3 = 1 := by kernel_rfl
    have f0 := hf 0 _ rfl
    have f1 := hf 1 _ rfl
    have f2 := hf 2 _ rfl
    match xs, hxl with
    | [x0, x1, x2], _ =>
      simp [k0, k1] at f0 f1 f2
      have hw : ∀ (i : Nat) (f : Field) (y : DataW H × List MemPlace), (#[f] : Array Field)[0]? = some f → True := fun _ _ _ _ => trivial
      obtain ⟨path, h1, h2, _⟩ := opens_slice (e := 9) Try.underlying38 (B := 16) (by kernel_rfl) (r := rStr) (by kernel_rfl) (by decide) (opens_str Try.underlying9) H enc w base n [c0] x0 f0 (fun k hk => hz k (by
        simp only [DataW.weights, Try.underlying40]
        exact DataW.weights_mem_each (j := 0) rfl rfl k hk))
      obtain ⟨X, ⟨h3, h4⟩, _⟩ := opens_int Try.underlying3 H enc w base n [c1] x1 f1 (fun k hk => hz k (by
        simp only [DataW.weights, Try.underlying40]
        exact DataW.weights_mem_each (j := 1) rfl rfl k hk))
      obtain ⟨Y, ⟨h5, h6⟩, _⟩ := opens_int Try.underlying3 H enc w base n [c2] x2 f2 (fun k hk => hz k (by
        simp only [DataW.weights, Try.underlying40]
        exact DataW.weights_mem_each (j := 2) rfl rfl k hk))
      simp only [List.cons.injEq, and_true] at h3 h5
      subst h3 h5
      exact ⟨⟨path, X, Y⟩, ⟨c0, rfl, h1, h4, h6⟩, h2⟩

theorem opens_spots : Opens Try.prog 22 (rSlice rSpot) (fun l => l.length * 40 ≤ reachBytes ∧ ∀ s ∈ l, s.path.length * 16 ≤ reachBytes) :=
  opens_slice Try.underlying22 (by kernel_rfl) (by kernel_rfl) (by decide) opens_spot

end Go.Proofs.Ytkpbnbnfgadkcaa
