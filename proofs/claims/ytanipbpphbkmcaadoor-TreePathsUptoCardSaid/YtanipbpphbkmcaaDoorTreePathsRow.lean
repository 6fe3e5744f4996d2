/-
  PROVED: TreePathsUptoCardSaid: whatever the path and the text: paths are written and read, there and back, and the input reads as it did. Conditions: the listed tables of Go's library hold what their text lays (tied by the card); the bulk: at most 1048576.
-/
import Derived.Test.YtanipbpphbkmcaaDoorCards
import Derived.Test.YtanipbpphbkmcaaDoorTie
import Derived.Test.YtanipbpphbkmcaaDoorPathsLaw
import Derived.Test.YtanipbpphbkmcaaDoorArgs
import Derived.Test.YtanipbpphbkmcaaDoorLaid
import Derived.ProofKit
import Derived.OpenShut
import Derived.Deep.DeepHandedRow
import Derived.Deep.DeepWitnessRowRef
namespace Go.Proofs.YtanipbpphbkmcaaDoor
open Go.ChangeShapes Go.WideShapes Go.ChangeAt Go.RowKit
set_option linter.unusedVariables false
set_option linter.unusedSimpArgs false

theorem treePaths_own : ownKnob Tryd.prog.godebug = none := by kernel_rfl
theorem treePaths_laidOut : laidOutB Tryd.prog = true := by kernel_rfl

theorem treePaths_tab {W : World} (h : laidMet Tryd.prog Rows.treePathsUptoRow.laid W) : Tab W := by
  have h1 := h.tail.tail
  exact Lib.tabIs_of_head (g := 3) (by kernel_rfl) (by kernel_rfl) Tryd.underlying150 Tryd.underlying144 (by kernel_rfl) (by kernel_rfl) h1

set_option maxRecDepth 100000 in
theorem treePaths_contract (H : Type) (enc : TypeId × Value → H) (W : World) (base : Nat) (args : Array Value) (ds gs : List (DataW H)) (before : List MemPlace)
    (hval : ∀ (j : Nat) t v, Tryd.f6.params[j]? = some t → args[j]? = some v → Value.okWide Tryd.prog W .any base t v)
    (hW : DataW.Whole enc Tryd.prog Tryd.f6.params.toList Rows.treePathsSpec.vars false W args.toList ds gs before) (hL : laidMet Tryd.prog Rows.treePathsUptoRow.laid W) (hS : W.ShapedOpen Tryd.prog) (hk : Rows.uptoSmall H (ds ++ gs) = true) :
    Calls Tryd.prog 6 args W fun e W' => ∃ v, e = .returned v ∧ Rows.treePathsSpec.post enc Tryd.prog Tryd.f6 false true false false W args v W' := by
  have hW' := hW
  obtain ⟨p, q, hA0, hV, rfl, hfz, hnd⟩ := hW
  have hA : DataW.TrodAll enc Tryd.prog W 0 (fun _ => true) true Tryd.f6.params.toList args.toList ds p := hA0
  rw [Tryd.params6] at hA hval
  obtain ⟨v0, v1, d0, d1, p0, p1, rfl, rfl, _, h0, h1⟩ := trodAll_two hA
  obtain ⟨rfl, rfl⟩ := trodVars_none hV
  obtain ⟨A0, n0, c0, x0, rfl, hx0, hbk0⟩ := strs_arg (hval 0 47 v0 rfl rfl) h0
  obtain ⟨x1, rfl, hx1, hbk1⟩ := str_arg (hval 1 9 v1 rfl rfl) h1
  have hb := bulk_of hk
  simp only [List.append_nil, Rows.uptoBulkAll] at hb
  refine (treePaths_any A0 n0 c0 x0 x1 W (treePaths_tab hL) (Tryd.laysM146.s1_3 W hS) hx0 (strs_small hbk0 (by omega)) (show x1.size ≤ 1048576 by omega)).mono fun e W' ⟨he, hb⟩ => ?_
  exact ⟨_, he, law_post (tb := 4) treePaths_laidOut rfl hW' rfl Tryd.underlying4 rfl rfl rfl (fun t ht => by
    rw [Tryd.params6] at ht
    simp at ht
    rcases ht with rfl | rfl
    all_goals exact ⟨by kernel_rfl, of_decide_eq_true (by kernel_rfl)⟩) hb⟩

theorem treePaths_laid (os : Os) : laidMet Tryd.prog Rows.treePathsUptoRow.laid ((laidWorld Tryd.prog Rows.treePathsUptoRow.laid os).forCall (fun _ _ => 0) ⟨#[], #[.slice none 0 0, .string ⟨#[]⟩], []⟩).memory :=
  laidMet_of_run' 8 (by kernel_rfl) (by kernel_rfl)
theorem treePaths_reads (os : Os) {H : Type} (enc : TypeId × Value → H) : ∃ places, DataW.whole enc Tryd.prog ((laidWorld Tryd.prog Rows.treePathsUptoRow.laid os).forCall (fun _ _ => 0) ⟨#[], #[.slice none 0 0, .string ⟨#[]⟩], []⟩).memory Tryd.f6.params.toList Rows.treePathsSpec.vars false #[Value.slice none 0 0, Value.string ⟨#[]⟩].toList 8 = some ([.nil, .lit (.string [])], [], places) :=
  ⟨[], by kernel_rfl⟩

set_option maxRecDepth 100000 in
theorem treePaths_lifted (os : Os) (started : os.Started) (H : Type) (enc : TypeId × Value → H) (F : Stop.Interp) :
    ReturnsInHanded {} Tryd.checked os 6 .any ((Rows.OpenSpec.upto Rows.treePathsSpec).preRow enc Tryd.prog Tryd.f6 Rows.treePathsUptoRow.domain false Rows.treePathsUptoRow.laid) (((Rows.OpenSpec.upto Rows.treePathsSpec).at F).post enc Tryd.prog Tryd.f6 false true false false) := by
  obtain ⟨places, hx⟩ := treePaths_reads os enc
  refine returnsInHanded_of_row (C := Tryd.checked) (s := Rows.OpenSpec.upto Rows.treePathsSpec) treePaths_own started (by kernel_rfl) Tryd.func6
    (witness_row_at (enc := enc) (C := Tryd.checked) false (laidWorld Tryd.prog Rows.treePathsUptoRow.laid os) #[.slice none 0 0, .string ⟨#[]⟩] rfl (by kernel_rfl) (by kernel_rfl) (by kernel_rfl)
      (OpenSpec.preRow_of_cond 8 hx (by kernel_rfl) (fun k hk => by cases hk; kernel_rfl) (by kernel_rfl) (treePaths_laid os))) ?_
  intro W base args ds gs before hval hW _ hcond _ hL hS _
  exact treePaths_contract H enc W base args ds gs before hval hW hL hS (hcond _ rfl)

theorem treePaths_said : Rows.TreePathsUptoSaid :=
  OpenClaim.holds_of_cond 6 Tryd.f6 rfl rfl rfl rfl rfl rfl rfl ⟨rfl, rfl, rfl, rfl, rfl⟩ rfl rfl rfl rfl rfl (by kernel_rfl) Tryd.func6 (by kernel_rfl)
    (of_decide_eq_true (by kernel_rfl)) (by unfold Func.isWrapper; first | (rw [if_pos (by decide +kernel)]; kernel_rfl) | (rw [if_neg (by decide +kernel)]; exact ⟨rfl, rfl⟩))
    (fun os started H enc _ F => by rw [OpenClaim.pre_eq_preRow]; exact treePaths_lifted os started H enc F)

theorem treePaths_plain (f : FuncId) (fn : Func) (hf : Tryd.pinned.checked.prog.funcNamed "halyard/halyardlaw12.TreePaths" = some f) (hfn : Tryd.pinned.checked.prog.funcs[f]? = some fn) :
    false = Tryd.pinned.checked.prog.looks [] ∧ ∀ (j : Nat) t, fn.params[j]? = some t → Tryd.pinned.checked.prog.wantsStandIn t = false := by
  obtain rfl : f = 6 := Option.some.inj ((show Tryd.prog.funcNamed "halyard/halyardlaw12.TreePaths" = some 6 by kernel_rfl).symm.trans hf) |>.symm
  obtain rfl : fn = Tryd.f6 := (Option.some.inj (Tryd.func6.symm.trans hfn)).symm
  refine ⟨by kernel_rfl, fun j t ht => ?_⟩
  rw [Tryd.params6] at ht
  have hm := Array.mem_of_getElem? ht
  simp at hm
  rcases hm with rfl | rfl
  · exact (show Tryd.prog.wantsStandIn 47 = false by kernel_rfl)
  · exact (show Tryd.prog.wantsStandIn 9 = false by kernel_rfl)

theorem treePaths_holds : Rows.TreePathsUptoCardSaid :=
  Claim7.holds_tied_plain_at .later [] _ _ _ _ treePaths_said (fun _ h => by cases h) (by kernel_rfl) (fun _ h => by cases h) treePathsUpto_row_tie rfl ⟨rfl, rfl⟩ (by kernel_rfl) rfl treePaths_plain (by kernel_rfl)
end Go.Proofs.YtanipbpphbkmcaaDoor
