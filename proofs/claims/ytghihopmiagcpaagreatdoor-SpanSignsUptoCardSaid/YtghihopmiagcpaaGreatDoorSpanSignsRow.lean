/-
  PROVED: SpanSignsUptoCardSaid: whatever the two versions: each sign tells just the versions that it says, and the input reads as it did. Conditions: the listed tables of Go's library hold what their text lays (tied by the card); the bulk: at most 1048576.
-/
import Derived.Test.YtghihopmiagcpaaGreatDoorCards
import Derived.Test.YtghihopmiagcpaaGreatDoorTie
import Derived.Test.YtghihopmiagcpaaGreatDoorSSignsLaw
import Derived.Test.YtghihopmiagcpaaGreatDoorSArgs
import Derived.Test.YtghihopmiagcpaaGreatDoorLaid
import Derived.ProofKit
import Derived.OpenShut
import Derived.Deep.DeepHandedRow
import Derived.Deep.DeepWitnessRowRef
namespace Go.Proofs.YtghihopmiagcpaaGreatDoor
open Go.ChangeShapes Go.WideShapes Go.ChangeAt Go.RowKit
set_option linter.unusedVariables false
set_option linter.unusedSimpArgs false

theorem spanSigns_own : ownKnob Tryz.prog.godebug = none := by kernel_rfl
theorem spanSigns_laidOut : laidOutB Tryz.prog = true := by kernel_rfl

theorem spanSigns_tab {W : World} (h : laidMet Tryz.prog Rows.spanSignsUptoRow.laid W) : Tab W := by
  have h1 := h.tail.tail
  exact Lib.tabIs_of_head (g := 5) (by kernel_rfl) (by kernel_rfl) Tryz.underlying177 Tryz.underlying155 (by kernel_rfl) (by kernel_rfl) h1

theorem spanSigns_errrow (u : TypeId) (h : Tryz.prog.typeName? 3 u = some "*errors.errorString") : u = 180 :=
  typeName_ptr_named (nm := "errors.errorString") (by rw [show "*" ++ "errors.errorString" = "*errors.errorString" by decide]; kernel_rfl) (by kernel_rfl) (by decide) u (by rw [show "*" ++ "errors.errorString" = "*errors.errorString" by decide]; exact h)
theorem spanSigns_vok {W : World} (h : laidMet Tryz.prog Rows.spanSignsUptoRow.laid W) (hS : W.ShapedOpen Tryz.prog) : Vok W :=
  ⟨spanSigns_tab h, Tryz.laysM146.s1_3 W hS,
    sent_of (n := "strconv.ErrSyntax") (g := 3) (ti := 99) (ts := 9) h.tail.tail.tail.tail.tail (by kernel_rfl) (by kernel_rfl) Tryz.underlying99 spanSigns_errrow Tryz.underlying180 Tryz.underlying182 rfl rfl Tryz.underlying9 (by kernel_rfl) (by kernel_rfl),
    sent_of (n := "strconv.ErrRange") (g := 4) (ti := 99) (ts := 9) h.tail.tail.tail.tail (by kernel_rfl) (by kernel_rfl) Tryz.underlying99 spanSigns_errrow Tryz.underlying180 Tryz.underlying182 rfl rfl Tryz.underlying9 (by kernel_rfl) (by kernel_rfl)⟩

set_option maxRecDepth 100000 in
theorem spanSigns_contract (H : Type) (enc : TypeId × Value → H) (W : World) (base : Nat) (args : Array Value) (ds gs : List (DataW H)) (before : List MemPlace)
    (hval : ∀ (j : Nat) t v, Tryz.f6.params[j]? = some t → args[j]? = some v → Value.okWide Tryz.prog W .any base t v)
    (hW : DataW.Whole enc Tryz.prog Tryz.f6.params.toList Rows.spanSignsSpec.vars false W args.toList ds gs before) (hL : laidMet Tryz.prog Rows.spanSignsUptoRow.laid W) (hS : W.ShapedOpen Tryz.prog) (hk : Rows.uptoSmall H (ds ++ gs) = true) :
    Calls Tryz.prog 6 args W fun e W' => ∃ v, e = .returned v ∧ Rows.spanSignsSpec.post enc Tryz.prog Tryz.f6 false true false false W args v W' := by
  have hW' := hW
  obtain ⟨p, q, hA0, hV, rfl, hfz, hnd⟩ := hW
  have hA : DataW.TrodAll enc Tryz.prog W 0 (fun _ => true) true Tryz.f6.params.toList args.toList ds p := hA0
  rw [Tryz.params6] at hA hval
  obtain ⟨v0, v1, d0, d1, p0, p1, rfl, rfl, _, h0, h1⟩ := trodAll_two hA
  obtain ⟨rfl, rfl⟩ := trodVars_none hV
  obtain ⟨x0, rfl, hx0, hbk0⟩ := ver_arg (hval 0 24 v0 rfl rfl) h0
  obtain ⟨x1, rfl, hx1, hbk1⟩ := ver_arg (hval 1 24 v1 rfl rfl) h1
  have hb := bulk_of hk
  simp only [List.append_nil, Rows.uptoBulkAll] at hb
  refine (spanSigns_law x0 x1 W (spanSigns_vok hL hS) hx0 hx1).mono fun e W' ⟨he, hb⟩ => ?_
  exact ⟨_, he, law_post (tb := 4) spanSigns_laidOut rfl hW' rfl Tryz.underlying4 rfl rfl rfl (fun t ht => by
    rw [Tryz.params6] at ht
    simp at ht
    first | subst ht | (rcases ht with rfl | rfl)
    all_goals exact ⟨by kernel_rfl, of_decide_eq_true (by kernel_rfl)⟩) hb⟩

theorem spanSigns_laid (os : Os) : laidMet Tryz.prog Rows.spanSignsUptoRow.laid ((laidWorldE Tryz.prog Rows.spanSignsUptoRow.laid os).forCall (fun _ _ => 0) ⟨#[], #[.agg #[.int .i64 0, .int .i64 0, .int .i64 0], .agg #[.int .i64 0, .int .i64 0, .int .i64 0]], []⟩).memory :=
  laidMet_of_run' 8 (by kernel_rfl) (by kernel_rfl)
theorem spanSigns_reads (os : Os) {H : Type} (enc : TypeId × Value → H) : ∃ places, DataW.whole enc Tryz.prog ((laidWorldE Tryz.prog Rows.spanSignsUptoRow.laid os).forCall (fun _ _ => 0) ⟨#[], #[.agg #[.int .i64 0, .int .i64 0, .int .i64 0], .agg #[.int .i64 0, .int .i64 0, .int .i64 0]], []⟩).memory Tryz.f6.params.toList Rows.spanSignsSpec.vars false #[Value.agg #[.int .i64 0, .int .i64 0, .int .i64 0], Value.agg #[.int .i64 0, .int .i64 0, .int .i64 0]].toList 8 = some ([.agg [.lit (.int .i64 0), .lit (.int .i64 0), .lit (.int .i64 0)], .agg [.lit (.int .i64 0), .lit (.int .i64 0), .lit (.int .i64 0)]], [], places) :=
  ⟨[], by kernel_rfl⟩

set_option maxRecDepth 100000 in
theorem spanSigns_lifted (os : Os) (started : os.Started) (H : Type) (enc : TypeId × Value → H) (F : Stop.Interp) :
    ReturnsInHanded {} Tryz.checked os 6 .any ((Rows.OpenSpec.upto Rows.spanSignsSpec).preRow enc Tryz.prog Tryz.f6 Rows.spanSignsUptoRow.domain false Rows.spanSignsUptoRow.laid) (((Rows.OpenSpec.upto Rows.spanSignsSpec).at F).post enc Tryz.prog Tryz.f6 false true false false) := by
  obtain ⟨places, hx⟩ := spanSigns_reads os enc
  refine returnsInHanded_of_row (C := Tryz.checked) (s := Rows.OpenSpec.upto Rows.spanSignsSpec) spanSigns_own started (by kernel_rfl) Tryz.func6
    (witness_row_at (enc := enc) (C := Tryz.checked) false (laidWorldE Tryz.prog Rows.spanSignsUptoRow.laid os) #[.agg #[.int .i64 0, .int .i64 0, .int .i64 0], .agg #[.int .i64 0, .int .i64 0, .int .i64 0]] rfl (by kernel_rfl) (by kernel_rfl) (by kernel_rfl)
      (OpenSpec.preRow_of_cond 8 hx (by kernel_rfl) (fun k hk => by cases hk; kernel_rfl) (by kernel_rfl) (spanSigns_laid os))) ?_
  intro W base args ds gs before hval hW _ hcond _ hL hS _
  exact spanSigns_contract H enc W base args ds gs before hval hW hL hS (hcond _ rfl)

theorem spanSigns_said : Rows.SpanSignsUptoSaid :=
  OpenClaim.holds_of_cond 6 Tryz.f6 rfl rfl rfl rfl rfl rfl rfl ⟨rfl, rfl, rfl, rfl, rfl⟩ rfl rfl rfl rfl rfl (by kernel_rfl) Tryz.func6 (by kernel_rfl)
    (of_decide_eq_true (by kernel_rfl)) (by unfold Func.isWrapper; first | (rw [if_pos (by decide +kernel)]; kernel_rfl) | (rw [if_neg (by decide +kernel)]; exact ⟨rfl, rfl⟩))
    (fun os started H enc _ F => by rw [OpenClaim.pre_eq_preRow]; exact spanSigns_lifted os started H enc F)

theorem spanSigns_plain (f : FuncId) (fn : Func) (hf : Tryz.pinned.checked.prog.funcNamed "halyard/halyardlaw03.SpanSigns" = some f) (hfn : Tryz.pinned.checked.prog.funcs[f]? = some fn) :
    true = Tryz.pinned.checked.prog.looks [] ∧ ∀ (j : Nat) t, fn.params[j]? = some t → Tryz.pinned.checked.prog.wantsStandIn t = false := by
  obtain rfl : f = 6 := Option.some.inj ((show Tryz.prog.funcNamed "halyard/halyardlaw03.SpanSigns" = some 6 by kernel_rfl).symm.trans hf) |>.symm
  obtain rfl : fn = Tryz.f6 := (Option.some.inj (Tryz.func6.symm.trans hfn)).symm
  refine ⟨by kernel_rfl, fun j t ht => ?_⟩
  rw [Tryz.params6] at ht
  have hm := Array.mem_of_getElem? ht
  simp at hm
  first | subst hm | (rcases hm with rfl | rfl)
  all_goals exact (show Tryz.prog.wantsStandIn 24 = false by kernel_rfl)

theorem spanSigns_holds : Rows.SpanSignsUptoCardSaid :=
  Claim7.holds_tied_plain_at .later [] _ _ _ _ spanSigns_said (fun _ h => by cases h) (by kernel_rfl) (fun _ h => by cases h) spanSignsUpto_row_tie rfl ⟨rfl, rfl⟩ (by kernel_rfl) rfl spanSigns_plain (by kernel_rfl)
end Go.Proofs.YtghihopmiagcpaaGreatDoor
