/-
  PROVED: TreeSameUptoCardSaid: whatever two trees, of a bulk of at most 1048576: they are the same just where their packages stand at the same paths, and the input reads as it did. Conditions: the listed tables of Go's library hold what their text lays (tied by the card); the bulk.
-/
import Derived.Test.YtanipbpphbkmcaaDoorCards
import Derived.Test.YtanipbpphbkmcaaDoorTie
import Derived.Test.YtanipbpphbkmcaaDoorTreeSameLaw
import Derived.Test.YtanipbpphbkmcaaDoorTreeArg
import Derived.Test.YtanipbpphbkmcaaDoorLaid
import Derived.ProofKit
import Derived.OpenShut
import Derived.Deep.DeepHandedRow
import Derived.Deep.DeepWitnessRowRef
namespace Go.Proofs.YtanipbpphbkmcaaDoor
open Go.ChangeShapes Go.WideShapes Go.ChangeAt Go.RowKit
set_option linter.unusedVariables false
set_option linter.unusedSimpArgs false

theorem row_own : ownKnob Tryd.prog.godebug = none := by kernel_rfl
theorem row_laidOut : laidOutB Tryd.prog = true := by kernel_rfl

theorem pow10_tab {W : World} (h : laidMet Tryd.prog Rows.treeSameUptoRow.laid W) : Tab W := by
  have h1 := h.tail.tail
  exact Lib.tabIs_of_head (g := 3) (by kernel_rfl) (by kernel_rfl) Tryd.underlying150 Tryd.underlying144 (by kernel_rfl) (by kernel_rfl) h1

set_option maxRecDepth 100000 in
theorem same_contract (H : Type) (enc : TypeId × Value → H) (W : World) (base : Nat) (args : Array Value) (ds gs : List (DataW H)) (before : List MemPlace)
    (hval : ∀ (j : Nat) t v, Tryd.f3.params[j]? = some t → args[j]? = some v → Value.okWide Tryd.prog W .any base t v)
    (hW : DataW.Whole enc Tryd.prog Tryd.f3.params.toList Rows.treeSameSpec.vars false W args.toList ds gs before) (hL : laidMet Tryd.prog Rows.treeSameUptoRow.laid W) (hk : Rows.uptoSmall H (ds ++ gs) = true) :
    Calls Tryd.prog 3 args W fun e W' => ∃ v, e = .returned v ∧ Rows.treeSameSpec.post enc Tryd.prog Tryd.f3 false true false false W args v W' := by
  have hW' := hW
  obtain ⟨p, q, hA0, hV, rfl, hfz, hnd⟩ := hW
  have hA : DataW.TrodAll enc Tryd.prog W 0 (fun _ => true) true Tryd.f3.params.toList args.toList ds p := hA0
  rw [Tryd.params3] at hA hval
  obtain ⟨v0, v1, d0, d1, p0, p1, rfl, rfl, _, h0, h1⟩ := trodAll_two hA
  obtain ⟨rfl, rfl⟩ := trodVars_none hV
  obtain ⟨A, n, c, xs, rfl, hx, hbk⟩ := tree_arg (hval 0 24 v0 rfl rfl) h0
  obtain ⟨B, m, e, ys, rfl, hy, hbk2⟩ := tree_arg (hval 1 24 v1 rfl rfl) h1
  have hb := bulk_of hk
  simp only [List.append_nil, Rows.uptoBulkAll] at hb
  refine (treeSameLaw_any A B n c m e xs ys W _ _ (pow10_tab hL) hx hy).mono fun e W' ⟨he, hb⟩ => ?_
  exact ⟨_, he, law_post (tb := 4) row_laidOut rfl hW' rfl Tryd.underlying4 rfl rfl rfl (fun t ht => by
    rw [Tryd.params3] at ht
    simp at ht
    first | subst ht | (rcases ht with rfl | rfl)
    all_goals exact ⟨by kernel_rfl, of_decide_eq_true (by kernel_rfl)⟩) hb⟩

theorem same_laid (os : Os) : laidMet Tryd.prog Rows.treeSameUptoRow.laid ((laidWorld Tryd.prog Rows.treeSameUptoRow.laid os).forCall (fun _ _ => 0) ⟨#[], #[.agg #[.slice none 0 0], .agg #[.slice none 0 0]], []⟩).memory :=
  laidMet_of_run' 8 (by kernel_rfl) (by kernel_rfl)
theorem same_reads (os : Os) {H : Type} (enc : TypeId × Value → H) : ∃ places, DataW.whole enc Tryd.prog ((laidWorld Tryd.prog Rows.treeSameUptoRow.laid os).forCall (fun _ _ => 0) ⟨#[], #[.agg #[.slice none 0 0], .agg #[.slice none 0 0]], []⟩).memory Tryd.f3.params.toList Rows.treeSameSpec.vars false #[Value.agg #[.slice none 0 0], Value.agg #[.slice none 0 0]].toList 8 = some ([.agg [.nil], .agg [.nil]], [], places) :=
  ⟨[], by kernel_rfl⟩

set_option maxRecDepth 100000 in
theorem same_lifted (os : Os) (started : os.Started) (H : Type) (enc : TypeId × Value → H) (F : Stop.Interp) :
    ReturnsInHanded {} Tryd.checked os 3 .any ((Rows.OpenSpec.upto Rows.treeSameSpec).preRow enc Tryd.prog Tryd.f3 Rows.treeSameUptoRow.domain false Rows.treeSameUptoRow.laid) (((Rows.OpenSpec.upto Rows.treeSameSpec).at F).post enc Tryd.prog Tryd.f3 false true false false) := by
  obtain ⟨places, hx⟩ := same_reads os enc
  refine returnsInHanded_of_row (C := Tryd.checked) (s := Rows.OpenSpec.upto Rows.treeSameSpec) row_own started (by kernel_rfl) Tryd.func3
    (witness_row_at (enc := enc) (C := Tryd.checked) false (laidWorld Tryd.prog Rows.treeSameUptoRow.laid os) #[.agg #[.slice none 0 0], .agg #[.slice none 0 0]] rfl (by kernel_rfl) (by kernel_rfl) (by kernel_rfl)
      (OpenSpec.preRow_of_cond 8 hx (by kernel_rfl) (fun k hk => by cases hk; kernel_rfl) (by kernel_rfl) (same_laid os))) ?_
  intro W base args ds gs before hval hW _ hcond _ hL _ _
  exact same_contract H enc W base args ds gs before hval hW hL (hcond _ rfl)

theorem same_said : Rows.TreeSameUptoSaid :=
  OpenClaim.holds_of_cond 3 Tryd.f3 rfl rfl rfl rfl rfl rfl rfl ⟨rfl, rfl, rfl, rfl, rfl⟩ rfl rfl rfl rfl rfl (by kernel_rfl) Tryd.func3 (by kernel_rfl)
    (of_decide_eq_true (by kernel_rfl)) (by unfold Func.isWrapper; first | (rw [if_pos (by decide +kernel)]; kernel_rfl) | (rw [if_neg (by decide +kernel)]; exact ⟨rfl, rfl⟩))
    (fun os started H enc _ F => by rw [OpenClaim.pre_eq_preRow]; exact same_lifted os started H enc F)

theorem same_plain (f : FuncId) (fn : Func) (hf : Tryd.pinned.checked.prog.funcNamed "halyard/halyardlaw12.TreeSame" = some f) (hfn : Tryd.pinned.checked.prog.funcs[f]? = some fn) :
    false = Tryd.pinned.checked.prog.looks [] ∧ ∀ (j : Nat) t, fn.params[j]? = some t → Tryd.pinned.checked.prog.wantsStandIn t = false := by
  obtain rfl : f = 3 := Option.some.inj ((show Tryd.prog.funcNamed "halyard/halyardlaw12.TreeSame" = some 3 by kernel_rfl).symm.trans hf) |>.symm
  obtain rfl : fn = Tryd.f3 := (Option.some.inj (Tryd.func3.symm.trans hfn)).symm
  refine ⟨by kernel_rfl, fun j t ht => ?_⟩
  rw [Tryd.params3] at ht
  have hm := Array.mem_of_getElem? ht
  simp at hm
  subst hm
  exact (show Tryd.prog.wantsStandIn 24 = false by kernel_rfl)

theorem treeSame_holds : Rows.TreeSameUptoCardSaid :=
  Claim7.holds_tied_plain_at .later [] _ _ _ _ same_said (fun _ h => by cases h) (by kernel_rfl) (fun _ h => by cases h) treeSameUpto_row_tie rfl ⟨rfl, rfl⟩ (by kernel_rfl) rfl same_plain (by kernel_rfl)
end Go.Proofs.YtanipbpphbkmcaaDoor
