/-
  PROVED: ChartMovesSaid: whatever the points and the two numbers, drawings are twisted, turned and flipped just as the document says, and the input reads as it did. No condition beyond the row's own.
-/
import Derived.Test.YtkpbnbnfgadkcaaOpen
import Derived.Test.YtkpbnbnfgadkcaaMoves
import Derived.ProofKit
import Derived.SizedLaws
import Derived.JoinedOf
namespace Go.Proofs.Ytkpbnbnfgadkcaa
open Go.ChangeShapes Go.WideShapes Go.ChangeAt Go.RowKit
set_option linter.unusedVariables false
set_option linter.unusedSimpArgs false

theorem row_own : ownKnob Try.prog.godebug = none := by kernel_rfl
theorem row_laidOut : laidOutB Try.prog = true := by kernel_rfl

/-- a document's spot, opened -/
theorem opens_spot : Opens Try.prog 40 rSpot (fun s => s.path.length * 16 ≤ reachBytes) := by
  intro H enc w base fuel cs x h hz
  obtain ⟨xs, n, rfl, rfl, hlen, hxl, hf⟩ := DataW.trod_struct Try.underlying40 h
  rw [show Try.prog.cellsOf 40 = 3 from by kernel_rfl] at hlen
  match cs, hlen with
  | [c0, c1, c2], _ =>
    have k0 : Try.prog.cellsOf 38 = 1 := by kernel_rfl
    have k1 : Try.prog.cellsOf 3 = 1 := by kernel_rfl
    have f0 := hf 0 _ rfl
    have f1 := hf 1 _ rfl
    have f2 := hf 2 _ rfl
    match xs, hxl with
    | [x0, x1, x2], _ =>
      simp [k0, k1] at f0 f1 f2
      have hw : ∀ (i : Nat) (f : Field) (y : DataW H × List MemPlace), (#[f] : Array Field)[0]? = some f → True := fun _ _ _ _ => trivial
      obtain ⟨path, h1, h2, _⟩ := opens_slice (e := 9) Try.underlying38 (B := 16) (by kernel_rfl) (r := rStr) (by kernel_rfl) (by decide) (opens_str Try.underlying9) H enc w base n [c0] x0 f0 (fun k hk => hz k (by
        simp only [DataW.weights, Try.underlying40]
        exact DataW.weights_mem_each (j := 0) rfl rfl k hk))
      obtain ⟨X, ⟨h3, h4⟩, _⟩ := opens_int Try.underlying3 H enc w base n [c1] x1 f1 (fun k hk => hz k (by
        simp only [DataW.weights, Try.underlying40]
        exact DataW.weights_mem_each (j := 1) rfl rfl k hk))
      obtain ⟨Y, ⟨h5, h6⟩, _⟩ := opens_int Try.underlying3 H enc w base n [c2] x2 f2 (fun k hk => hz k (by
        simp only [DataW.weights, Try.underlying40]
        exact DataW.weights_mem_each (j := 2) rfl rfl k hk))
      simp only [List.cons.injEq, and_true] at h3 h5
      subst h3 h5
      exact ⟨⟨path, X, Y⟩, ⟨c0, rfl, h1, h4, h6⟩, h2⟩

theorem opens_spots : Opens Try.prog 22 (rSlice rSpot) (fun l => l.length * 40 ≤ reachBytes ∧ ∀ s ∈ l, s.path.length * 16 ≤ reachBytes) :=
  opens_slice Try.underlying22 (by kernel_rfl) (by kernel_rfl) (by decide) opens_spot

set_option maxRecDepth 100000 in
theorem moves_lifted (os : Os) (started : os.Started) (H : Type) (enc : TypeId × Value → H) :
    ReturnsInHanded {} Try.checked os 3 .any (Rows.chartMovesSpec.pre6 enc Try.prog Try.f3 Rows.chartMovesRow.domain false) (Rows.chartMovesSpec.post enc Try.prog Try.f3 false true false false) := by
  refine returnsInHanded_of_change_sized (C := Try.checked) row_own started (by kernel_rfl) Try.func3
    (ChangeSpec.witness6 (enc := enc) (C := Try.checked) false ⟨#[], #[.slice none 0 0, .int .i64 0, .int .i64 0], []⟩ 8 (by kernel_rfl) (by kernel_rfl) (by kernel_rfl) (by kernel_rfl)) ?_
  intro W base args ds gs before hval0 hW hcnd hsz _
  have hval : ∀ (j : Nat) t v, Try.f3.params[j]? = some t → args[j]? = some v → Value.okWide Try.prog W .any base t v := hval0
  have hW' := hW
  obtain ⟨p, q, hA0, hV, rfl, hfz, hnd⟩ := hW
  have hA : DataW.TrodAll enc Try.prog W 0 (fun _ => true) true Try.f3.params.toList args.toList ds p := hA0
  rw [Try.params3] at hA hval
  obtain ⟨v0, v1, v2, d0, d1, d2, p0, p1, p2, rfl, rfl, rfl, h0, h1, h2⟩ := trodAll_three hA
  obtain ⟨rfl, rfl⟩ := trodVars_none hV
  have hsz' : (DataW.weightsEach Try.prog [22, 3, 3] ([d0, d1, d2] ++ [])).all (· ≤ reachBytes) = true := hsz
  obtain ⟨A, n, c, rfl⟩ := okWide_slice Try.underlying22 (hval 0 22 v0 rfl rfl)
  obtain ⟨a, rfl, rfl, rfl, wa⟩ := open_int Try.underlying3 (hval 1 3 v1 rfl rfl) h1
  obtain ⟨b, rfl, rfl, rfl, wb⟩ := open_int Try.underlying3 (hval 2 3 v2 rfl rfl) h2
  obtain ⟨l, hl, hs1, hs2⟩ := opens_arg opens_spots h0 hsz' (j := 0) rfl rfl
  refine (moves_any A n c a b l W _ hs1 hs2 (bounds_i64 wa) (bounds_i64 wb) hl).mono fun e W' ⟨he, hb⟩ => ?_
  exact ⟨_, he, law_post (tb := 4) row_laidOut rfl hW' rfl Try.underlying4 rfl rfl rfl (fun t ht => by
    rw [Try.params3] at ht
    simp at ht
    rcases ht with rfl | rfl <;> exact ⟨by kernel_rfl, of_decide_eq_true (by kernel_rfl)⟩) hb⟩

theorem chartMoves_holds : Rows.ChartMovesSaid :=
  OpenClaim.holds_of_wide 3 Try.f3 rfl rfl rfl rfl rfl rfl rfl ⟨rfl, rfl, rfl, rfl, rfl⟩ rfl rfl rfl rfl rfl (by kernel_rfl) Try.func3 (by kernel_rfl)
    (of_decide_eq_true (by kernel_rfl)) (by unfold Func.isWrapper; first | (rw [if_pos (by decide +kernel)]; kernel_rfl) | (rw [if_neg (by decide +kernel)]; exact ⟨rfl, rfl⟩))
    (fun os started H enc _ => moves_lifted os started H enc)
end Go.Proofs.Ytkpbnbnfgadkcaa
