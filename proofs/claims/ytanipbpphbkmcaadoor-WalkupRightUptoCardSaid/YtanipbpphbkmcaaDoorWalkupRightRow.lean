/-
  PROVED: WalkupRightUptoCardSaid: whatever the tree and the graph: a map leads the root to node 0, and each edge of a directory to a directory of the node to which the edge leads, and the input reads as it did. Conditions: the listed tables of Go's library hold what their text lays (tied by the card); the bulk: at most 1048576.
-/
import Derived.Test.YtanipbpphbkmcaaDoorCards
import Derived.Test.YtanipbpphbkmcaaDoorTie
import Derived.Test.YtanipbpphbkmcaaDoorRightLaw
import Derived.Test.YtanipbpphbkmcaaDoorArgs
import Derived.Test.YtanipbpphbkmcaaDoorLaid
import Derived.ProofKit
import Derived.OpenShut
import Derived.Deep.DeepHandedRow
import Derived.Deep.DeepWitnessRowRef
namespace Go.Proofs.YtanipbpphbkmcaaDoor
open Go.ChangeShapes Go.WideShapes Go.ChangeAt Go.RowKit
set_option linter.unusedVariables false
set_option linter.unusedSimpArgs false

theorem walkupRight_own : ownKnob Tryd.prog.godebug = none := by kernel_rfl
theorem walkupRight_laidOut : laidOutB Tryd.prog = true := by kernel_rfl

theorem walkupRight_tab {W : World} (h : laidMet Tryd.prog Rows.walkupRightUptoRow.laid W) : Tab W := by
  have h1 := h.tail.tail
  exact Lib.tabIs_of_head (g := 3) (by kernel_rfl) (by kernel_rfl) Tryd.underlying150 Tryd.underlying144 (by kernel_rfl) (by kernel_rfl) h1

set_option maxRecDepth 100000 in
theorem walkupRight_contract (H : Type) (enc : TypeId × Value → H) (W : World) (base : Nat) (args : Array Value) (ds gs : List (DataW H)) (before : List MemPlace)
    (hval : ∀ (j : Nat) t v, Tryd.f5.params[j]? = some t → args[j]? = some v → Value.okWide Tryd.prog W .any base t v)
    (hW : DataW.Whole enc Tryd.prog Tryd.f5.params.toList Rows.walkupRightSpec.vars false W args.toList ds gs before) (hL : laidMet Tryd.prog Rows.walkupRightUptoRow.laid W) (hk : Rows.uptoSmall H (ds ++ gs) = true) :
    Calls Tryd.prog 5 args W fun e W' => ∃ v, e = .returned v ∧ Rows.walkupRightSpec.post enc Tryd.prog Tryd.f5 false true false false W args v W' := by
  have hW' := hW
  obtain ⟨p, q, hA0, hV, rfl, hfz, hnd⟩ := hW
  have hA : DataW.TrodAll enc Tryd.prog W 0 (fun _ => true) true Tryd.f5.params.toList args.toList ds p := hA0
  rw [Tryd.params5] at hA hval
  obtain ⟨v0, v1, d0, d1, p0, p1, rfl, rfl, _, h0, h1⟩ := trodAll_two hA
  obtain ⟨rfl, rfl⟩ := trodVars_none hV
  obtain ⟨A0, n0, c0, x0, rfl, hx0, hbk0⟩ := tree_arg (hval 0 24 v0 rfl rfl) h0
  obtain ⟨A1, n1, c1, x1, rfl, hx1, hbk1⟩ := graph_arg (hval 1 31 v1 rfl rfl) h1
  have hb := bulk_of hk
  simp only [List.append_nil, Rows.uptoBulkAll] at hb
  refine (walkupRight_any A0 n0 c0 x0 A1 n1 c1 x1 W (walkupRight_tab hL) hx0 (dir_small (by omega : bkL bkDir x0 ≤ 1048576)) hx1).mono fun e W' ⟨he, hb⟩ => ?_
  exact ⟨_, he, law_post (tb := 4) walkupRight_laidOut rfl hW' rfl Tryd.underlying4 rfl rfl rfl (fun t ht => by
    rw [Tryd.params5] at ht
    simp at ht
    rcases ht with rfl | rfl
    all_goals exact ⟨by kernel_rfl, of_decide_eq_true (by kernel_rfl)⟩) hb⟩

theorem walkupRight_laid (os : Os) : laidMet Tryd.prog Rows.walkupRightUptoRow.laid ((laidWorld Tryd.prog Rows.walkupRightUptoRow.laid os).forCall (fun _ _ => 0) ⟨#[], #[.agg #[.slice none 0 0], .agg #[.slice none 0 0]], []⟩).memory :=
  laidMet_of_run' 8 (by kernel_rfl) (by kernel_rfl)
theorem walkupRight_reads (os : Os) {H : Type} (enc : TypeId × Value → H) : ∃ places, DataW.whole enc Tryd.prog ((laidWorld Tryd.prog Rows.walkupRightUptoRow.laid os).forCall (fun _ _ => 0) ⟨#[], #[.agg #[.slice none 0 0], .agg #[.slice none 0 0]], []⟩).memory Tryd.f5.params.toList Rows.walkupRightSpec.vars false #[Value.agg #[.slice none 0 0], Value.agg #[.slice none 0 0]].toList 8 = some ([.agg [.nil], .agg [.nil]], [], places) :=
  ⟨[], by kernel_rfl⟩

set_option maxRecDepth 100000 in
theorem walkupRight_lifted (os : Os) (started : os.Started) (H : Type) (enc : TypeId × Value → H) (F : Stop.Interp) :
    ReturnsInHanded {} Tryd.checked os 5 .any ((Rows.OpenSpec.upto Rows.walkupRightSpec).preRow enc Tryd.prog Tryd.f5 Rows.walkupRightUptoRow.domain false Rows.walkupRightUptoRow.laid) (((Rows.OpenSpec.upto Rows.walkupRightSpec).at F).post enc Tryd.prog Tryd.f5 false true false false) := by
  obtain ⟨places, hx⟩ := walkupRight_reads os enc
  refine returnsInHanded_of_row (C := Tryd.checked) (s := Rows.OpenSpec.upto Rows.walkupRightSpec) walkupRight_own started (by kernel_rfl) Tryd.func5
    (witness_row_at (enc := enc) (C := Tryd.checked) false (laidWorld Tryd.prog Rows.walkupRightUptoRow.laid os) #[.agg #[.slice none 0 0], .agg #[.slice none 0 0]] rfl (by kernel_rfl) (by kernel_rfl) (by kernel_rfl)
      (OpenSpec.preRow_of_cond 8 hx (by kernel_rfl) (fun k hk => by cases hk; kernel_rfl) (by kernel_rfl) (walkupRight_laid os))) ?_
  intro W base args ds gs before hval hW _ hcond _ hL _ _
  exact walkupRight_contract H enc W base args ds gs before hval hW hL (hcond _ rfl)

theorem walkupRight_said : Rows.WalkupRightUptoSaid :=
  OpenClaim.holds_of_cond 5 Tryd.f5 rfl rfl rfl rfl rfl rfl rfl ⟨rfl, rfl, rfl, rfl, rfl⟩ rfl rfl rfl rfl rfl (by kernel_rfl) Tryd.func5 (by kernel_rfl)
    (of_decide_eq_true (by kernel_rfl)) (by unfold Func.isWrapper; first | (rw [if_pos (by decide +kernel)]; kernel_rfl) | (rw [if_neg (by decide +kernel)]; exact ⟨rfl, rfl⟩))
    (fun os started H enc _ F => by rw [OpenClaim.pre_eq_preRow]; exact walkupRight_lifted os started H enc F)

theorem walkupRight_plain (f : FuncId) (fn : Func) (hf : Tryd.pinned.checked.prog.funcNamed "halyard/halyardlaw13.WalkupRight" = some f) (hfn : Tryd.pinned.checked.prog.funcs[f]? = some fn) :
    false = Tryd.pinned.checked.prog.looks [] ∧ ∀ (j : Nat) t, fn.params[j]? = some t → Tryd.pinned.checked.prog.wantsStandIn t = false := by
  obtain rfl : f = 5 := Option.some.inj ((show Tryd.prog.funcNamed "halyard/halyardlaw13.WalkupRight" = some 5 by kernel_rfl).symm.trans hf) |>.symm
  obtain rfl : fn = Tryd.f5 := (Option.some.inj (Tryd.func5.symm.trans hfn)).symm
  refine ⟨by kernel_rfl, fun j t ht => ?_⟩
  rw [Tryd.params5] at ht
  have hm := Array.mem_of_getElem? ht
  simp at hm
  rcases hm with rfl | rfl
  · exact (show Tryd.prog.wantsStandIn 24 = false by kernel_rfl)
  · exact (show Tryd.prog.wantsStandIn 31 = false by kernel_rfl)

theorem walkupRight_holds : Rows.WalkupRightUptoCardSaid :=
  Claim7.holds_tied_plain_at .later [] _ _ _ _ walkupRight_said (fun _ h => by cases h) (by kernel_rfl) (fun _ h => by cases h) walkupRightUpto_row_tie rfl ⟨rfl, rfl⟩ (by kernel_rfl) rfl walkupRight_plain (by kernel_rfl)
end Go.Proofs.YtanipbpphbkmcaaDoor
