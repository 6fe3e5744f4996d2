/-
  PROVED: ChartApartUptoCardSaid: the call answers true at every tree, and the input reads as it did. Conditions: the listed tables of Go's library hold what their text lays (tied by the card); the bulk: at most 1048576.
-/
import Derived.Test.YtkpbnbnfgadkcaaGreatDoorCards
import Derived.Test.YtkpbnbnfgadkcaaGreatDoorTie
import Derived.Test.YtkpbnbnfgadkcaaGreatDoorChartApartLaw
import Derived.Test.YtkpbnbnfgadkcaaGreatDoorArgs
import Derived.Test.YtkpbnbnfgadkcaaGreatDoorLaid
import Derived.ProofKit
import Derived.OpenShut
import Derived.Deep.DeepHandedRow
import Derived.Deep.DeepWitnessRowRef
namespace Go.Proofs.YtkpbnbnfgadkcaaGreatDoor
open Go.ChangeShapes Go.WideShapes Go.ChangeAt Go.RowKit
set_option linter.unusedVariables false
set_option linter.unusedSimpArgs false

theorem chartApart_own : ownKnob Tryz.prog.godebug = none := by kernel_rfl
theorem chartApart_laidOut : laidOutB Tryz.prog = true := by kernel_rfl

theorem chartApart_tab {W : World} (h : laidMet Tryz.prog Rows.chartApartUptoRow.laid W) : Tab W := by
  have h1 := h.tail.tail
  exact Lib.tabIs_of_head (g := 3) (by kernel_rfl) (by kernel_rfl) Tryz.underlying182 Tryz.underlying125 (by kernel_rfl) (by kernel_rfl) h1

set_option maxRecDepth 100000 in
theorem chartApart_contract (H : Type) (enc : TypeId × Value → H) (W : World) (base : Nat) (args : Array Value) (ds gs : List (DataW H)) (before : List MemPlace)
    (hval : ∀ (j : Nat) t v, Tryz.f4.params[j]? = some t → args[j]? = some v → Value.okWide Tryz.prog W .any base t v)
    (hW : DataW.Whole enc Tryz.prog Tryz.f4.params.toList Rows.chartApartSpec.vars false W args.toList ds gs before) (hL : laidMet Tryz.prog Rows.chartApartUptoRow.laid W) (hS : W.ShapedOpen Tryz.prog) (hk : Rows.uptoSmall H (ds ++ gs) = true) :
    Calls Tryz.prog 4 args W fun e W' => ∃ v, e = .returned v ∧ Rows.chartApartSpec.post enc Tryz.prog Tryz.f4 false true false false W args v W' := by
  have hW' := hW
  obtain ⟨p, q, hA0, hV, rfl, hfz, hnd⟩ := hW
  have hA : DataW.TrodAll enc Tryz.prog W 0 (fun _ => true) true Tryz.f4.params.toList args.toList ds p := hA0
  rw [Tryz.params4] at hA hval
  obtain ⟨v0, d0, rfl, rfl, h0⟩ := trodAll_one hA
  obtain ⟨rfl, rfl⟩ := trodVars_none hV
  obtain ⟨A0, n0, c0, x0, rfl, hx0, hbk0⟩ := tree_arg (hval 0 24 v0 rfl rfl) h0
  have hb := bulk_of hk
  simp only [List.append_nil, Rows.uptoBulkAll] at hb
  refine (chartApart_any A0 n0 c0 x0 W (chartApart_tab hL) hx0 (dir_small (by omega : bkL bkDir x0 ≤ 1048576)) (tree_len (by omega : bkL bkDir x0 ≤ 1048576))).mono fun e W' ⟨he, hb⟩ => ?_
  exact ⟨_, he, law_post (tb := 4) chartApart_laidOut rfl hW' rfl Tryz.underlying4 rfl rfl rfl (fun t ht => by
    rw [Tryz.params4] at ht
    simp at ht
    first | subst ht | (rcases ht with rfl | rfl)
    all_goals exact ⟨by kernel_rfl, of_decide_eq_true (by kernel_rfl)⟩) hb⟩

theorem chartApart_laid (os : Os) : laidMet Tryz.prog Rows.chartApartUptoRow.laid ((laidWorld Tryz.prog Rows.chartApartUptoRow.laid os).forCall (fun _ _ => 0) ⟨#[], #[.agg #[.slice none 0 0]], []⟩).memory :=
  laidMet_of_run' 8 (by kernel_rfl) (by kernel_rfl)
theorem chartApart_reads (os : Os) {H : Type} (enc : TypeId × Value → H) : ∃ places, DataW.whole enc Tryz.prog ((laidWorld Tryz.prog Rows.chartApartUptoRow.laid os).forCall (fun _ _ => 0) ⟨#[], #[.agg #[.slice none 0 0]], []⟩).memory Tryz.f4.params.toList Rows.chartApartSpec.vars false #[Value.agg #[.slice none 0 0]].toList 8 = some ([.agg [.nil]], [], places) :=
  ⟨[], by kernel_rfl⟩

set_option maxRecDepth 100000 in
theorem chartApart_lifted (os : Os) (started : os.Started) (H : Type) (enc : TypeId × Value → H) (F : Stop.Interp) :
    ReturnsInHanded {} Tryz.checked os 4 .any ((Rows.OpenSpec.upto Rows.chartApartSpec).preRow enc Tryz.prog Tryz.f4 Rows.chartApartUptoRow.domain false Rows.chartApartUptoRow.laid) (((Rows.OpenSpec.upto Rows.chartApartSpec).at F).post enc Tryz.prog Tryz.f4 false true false false) := by
  obtain ⟨places, hx⟩ := chartApart_reads os enc
  refine returnsInHanded_of_row (C := Tryz.checked) (s := Rows.OpenSpec.upto Rows.chartApartSpec) chartApart_own started (by kernel_rfl) Tryz.func4
    (witness_row_at (enc := enc) (C := Tryz.checked) false (laidWorld Tryz.prog Rows.chartApartUptoRow.laid os) #[.agg #[.slice none 0 0]] rfl (by kernel_rfl) (by kernel_rfl) (by kernel_rfl)
      (OpenSpec.preRow_of_cond 8 hx (by kernel_rfl) (fun k hk => by cases hk; kernel_rfl) (by kernel_rfl) (chartApart_laid os))) ?_
  intro W base args ds gs before hval hW _ hcond _ hL hS _
  exact chartApart_contract H enc W base args ds gs before hval hW hL hS (hcond _ rfl)

theorem chartApart_said : Rows.ChartApartUptoSaid :=
  OpenClaim.holds_of_cond 4 Tryz.f4 rfl rfl rfl rfl rfl rfl rfl ⟨rfl, rfl, rfl, rfl, rfl⟩ rfl rfl rfl rfl rfl (by kernel_rfl) Tryz.func4 (by kernel_rfl)
    (of_decide_eq_true (by kernel_rfl)) (by unfold Func.isWrapper; first | (rw [if_pos (by decide +kernel)]; kernel_rfl) | (rw [if_neg (by decide +kernel)]; exact ⟨rfl, rfl⟩))
    (fun os started H enc _ F => by rw [OpenClaim.pre_eq_preRow]; exact chartApart_lifted os started H enc F)

theorem chartApart_plain (f : FuncId) (fn : Func) (hf : Tryz.pinned.checked.prog.funcNamed "halyard/halyardlaw23.ChartApart" = some f) (hfn : Tryz.pinned.checked.prog.funcs[f]? = some fn) :
    false = Tryz.pinned.checked.prog.looks [] ∧ ∀ (j : Nat) t, fn.params[j]? = some t → Tryz.pinned.checked.prog.wantsStandIn t = false := by
  obtain rfl : f = 4 := Option.some.inj ((show Tryz.prog.funcNamed "halyard/halyardlaw23.ChartApart" = some 4 by kernel_rfl).symm.trans hf) |>.symm
  obtain rfl : fn = Tryz.f4 := (Option.some.inj (Tryz.func4.symm.trans hfn)).symm
  refine ⟨by kernel_rfl, fun j t ht => ?_⟩
  rw [Tryz.params4] at ht
  have hm := Array.mem_of_getElem? ht
  simp at hm
  first | subst hm | (rcases hm with rfl | rfl)
  all_goals exact (show Tryz.prog.wantsStandIn 24 = false by kernel_rfl)

theorem chartApart_holds : Rows.ChartApartUptoCardSaid :=
  Claim7.holds_tied_plain_at .later [] _ _ _ _ chartApart_said (fun _ h => by cases h) (by kernel_rfl) (fun _ h => by cases h) chartApartUpto_row_tie rfl ⟨rfl, rfl⟩ (by kernel_rfl) rfl chartApart_plain (by kernel_rfl)
end Go.Proofs.YtkpbnbnfgadkcaaGreatDoor
