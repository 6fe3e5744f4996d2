/-
  PROVED: ManifestWritesUptoCardSaid: whatever the manifest: Print answers as the document does, and what it writes is read as that manifest, and the input reads as it did. Conditions: the listed tables of Go's library hold what their text lays (tied by the card); the bulk: at most 1048576.
-/
import Derived.Test.YtldjldkejjeamaaGreatDoorCards
import Derived.Test.YtldjldkejjeamaaGreatDoorTie
import Derived.Test.YtldjldkejjeamaaGreatDoorManiLaws
import Derived.Test.YtldjldkejjeamaaGreatDoorMArgs
import Derived.Test.YtldjldkejjeamaaGreatDoorItoa
import Derived.ProofKit
import Derived.OpenShut
import Derived.Deep.DeepHandedRow
import Derived.Deep.DeepWitnessRowRef
namespace Go.Proofs.YtldjldkejjeamaaGreatDoor
open Go.ChangeShapes Go.WideShapes Go.ChangeAt Go.RowKit
set_option linter.unusedVariables false
set_option linter.unusedSimpArgs false

theorem manifestWrites_own : ownKnob Tryz.prog.godebug = none := by kernel_rfl
theorem manifestWrites_laidOut : laidOutB Tryz.prog = true := by kernel_rfl

theorem manifestWrites_tab {W : World} (h : laidMet Tryz.prog Rows.manifestWritesUptoRow.laid W) : Tab W := by
  have h1 := h.tail.tail
  exact Lib.tabIs_of_head (g := 5) (by kernel_rfl) (by kernel_rfl) Tryz.underlying221 Tryz.underlying184 (by kernel_rfl) (by kernel_rfl) h1

theorem manifestWrites_errrow (u : TypeId) (h : Tryz.prog.typeName? 3 u = some "*errors.errorString") : u = 217 :=
  typeName_ptr_named (nm := "errors.errorString") (by rw [show "*" ++ "errors.errorString" = "*errors.errorString" by decide]; kernel_rfl) (by kernel_rfl) (by decide) u (by rw [show "*" ++ "errors.errorString" = "*errors.errorString" by decide]; exact h)
theorem manifestWrites_vok {W : World} (h : laidMet Tryz.prog Rows.manifestWritesUptoRow.laid W) (hS : W.ShapedOpen Tryz.prog) : Vok W :=
  ⟨manifestWrites_tab h, Tryz.laysM146.s1_3 W hS,
    sent_of (n := "strconv.ErrSyntax") (g := 1) (ti := 99) (ts := 9) h.tail.tail.tail.tail.tail (by kernel_rfl) (by kernel_rfl) Tryz.underlying99 manifestWrites_errrow Tryz.underlying217 Tryz.underlying219 rfl rfl Tryz.underlying9 (by kernel_rfl) (by kernel_rfl),
    sent_of (n := "strconv.ErrRange") (g := 2) (ti := 99) (ts := 9) h.tail.tail.tail.tail (by kernel_rfl) (by kernel_rfl) Tryz.underlying99 manifestWrites_errrow Tryz.underlying217 Tryz.underlying219 rfl rfl Tryz.underlying9 (by kernel_rfl) (by kernel_rfl)⟩

set_option maxRecDepth 100000 in
theorem manifestWrites_contract (H : Type) (enc : TypeId × Value → H) (W : World) (base : Nat) (args : Array Value) (ds gs : List (DataW H)) (before : List MemPlace)
    (hval : ∀ (j : Nat) t v, Tryz.f10.params[j]? = some t → args[j]? = some v → Value.okWide Tryz.prog W .any base t v)
    (hW : DataW.Whole enc Tryz.prog Tryz.f10.params.toList Rows.manifestWritesSpec.vars false W args.toList ds gs before) (hL : laidMet Tryz.prog Rows.manifestWritesUptoRow.laid W) (hS : W.ShapedOpen Tryz.prog) (hk : Rows.uptoSmall H (ds ++ gs) = true) :
    Calls Tryz.prog 10 args W fun e W' => ∃ v, e = .returned v ∧ Rows.manifestWritesSpec.post enc Tryz.prog Tryz.f10 false true false false W args v W' := by
  have hW' := hW
  obtain ⟨p, q, hA0, hV, rfl, hfz, hnd⟩ := hW
  have hA : DataW.TrodAll enc Tryz.prog W 0 (fun _ => true) true Tryz.f10.params.toList args.toList ds p := hA0
  rw [Tryz.params10] at hA hval
  obtain ⟨v0, d0, rfl, rfl, h0⟩ := trodAll_one hA
  obtain ⟨rfl, rfl⟩ := trodVars_none hV
  obtain ⟨x0, hx0, hbk0⟩ := mani_arg (hval 0 47 v0 rfl rfl) h0
  have hb := bulk_of hk
  simp only [List.append_nil, Rows.uptoBulkAll] at hb
  refine (maniWrites_law x0 v0 W (manifestWrites_vok hL hS) hx0).mono fun e W' ⟨he, hb⟩ => ?_
  exact ⟨_, he, law_post (tb := 4) manifestWrites_laidOut rfl hW' rfl Tryz.underlying4 rfl rfl rfl (fun t ht => by
    rw [Tryz.params10] at ht
    simp at ht
    first | subst ht | (rcases ht with rfl | rfl)
    all_goals exact ⟨by kernel_rfl, of_decide_eq_true (by kernel_rfl)⟩) hb⟩

theorem manifestWrites_laid (os : Os) : laidMet Tryz.prog Rows.manifestWritesUptoRow.laid ((laidWorldE Tryz.prog Rows.manifestWritesUptoRow.laid os).forCall (fun _ _ => 0) ⟨#[], #[.agg #[.slice none 0 0, .slice none 0 0, .slice none 0 0, .slice none 0 0]], []⟩).memory :=
  laidMet_of_run' 8 (by kernel_rfl) (by kernel_rfl)
theorem manifestWrites_reads (os : Os) {H : Type} (enc : TypeId × Value → H) : ∃ places, DataW.whole enc Tryz.prog ((laidWorldE Tryz.prog Rows.manifestWritesUptoRow.laid os).forCall (fun _ _ => 0) ⟨#[], #[.agg #[.slice none 0 0, .slice none 0 0, .slice none 0 0, .slice none 0 0]], []⟩).memory Tryz.f10.params.toList Rows.manifestWritesSpec.vars false #[Value.agg #[.slice none 0 0, .slice none 0 0, .slice none 0 0, .slice none 0 0]].toList 8 = some ([.agg [.nil, .nil, .nil, .nil]], [], places) :=
  ⟨[], by kernel_rfl⟩

set_option maxRecDepth 100000 in
theorem manifestWrites_lifted (os : Os) (started : os.Started) (H : Type) (enc : TypeId × Value → H) (F : Stop.Interp) :
    ReturnsInHanded {} Tryz.checked os 10 .any ((Rows.OpenSpec.upto Rows.manifestWritesSpec).preRow enc Tryz.prog Tryz.f10 Rows.manifestWritesUptoRow.domain false Rows.manifestWritesUptoRow.laid) (((Rows.OpenSpec.upto Rows.manifestWritesSpec).at F).post enc Tryz.prog Tryz.f10 false true false false) := by
  obtain ⟨places, hx⟩ := manifestWrites_reads os enc
  refine returnsInHanded_of_row (C := Tryz.checked) (s := Rows.OpenSpec.upto Rows.manifestWritesSpec) manifestWrites_own started (by kernel_rfl) Tryz.func10
    (witness_row_at (enc := enc) (C := Tryz.checked) false (laidWorldE Tryz.prog Rows.manifestWritesUptoRow.laid os) #[.agg #[.slice none 0 0, .slice none 0 0, .slice none 0 0, .slice none 0 0]] rfl (by kernel_rfl) (by kernel_rfl) (by kernel_rfl)
      (OpenSpec.preRow_of_cond 8 hx (by kernel_rfl) (fun k hk => by cases hk; kernel_rfl) (by kernel_rfl) (manifestWrites_laid os))) ?_
  intro W base args ds gs before hval hW _ hcond _ hL hS _
  exact manifestWrites_contract H enc W base args ds gs before hval hW hL hS (hcond _ rfl)

theorem manifestWrites_said : Rows.ManifestWritesUptoSaid :=
  OpenClaim.holds_of_cond 10 Tryz.f10 rfl rfl rfl rfl rfl rfl rfl ⟨rfl, rfl, rfl, rfl, rfl⟩ rfl rfl rfl rfl rfl (by kernel_rfl) Tryz.func10 (by kernel_rfl)
    (of_decide_eq_true (by kernel_rfl)) (by unfold Func.isWrapper; first | (rw [if_pos (by decide +kernel)]; kernel_rfl) | (rw [if_neg (by decide +kernel)]; exact ⟨rfl, rfl⟩))
    (fun os started H enc _ F => by rw [OpenClaim.pre_eq_preRow]; exact manifestWrites_lifted os started H enc F)

theorem manifestWrites_plain (f : FuncId) (fn : Func) (hf : Tryz.pinned.checked.prog.funcNamed "halyard/halyardlaw06.ManifestWrites" = some f) (hfn : Tryz.pinned.checked.prog.funcs[f]? = some fn) :
    true = Tryz.pinned.checked.prog.looks [] ∧ ∀ (j : Nat) t, fn.params[j]? = some t → Tryz.pinned.checked.prog.wantsStandIn t = false := by
  obtain rfl : f = 10 := Option.some.inj ((show Tryz.prog.funcNamed "halyard/halyardlaw06.ManifestWrites" = some 10 by kernel_rfl).symm.trans hf) |>.symm
  obtain rfl : fn = Tryz.f10 := (Option.some.inj (Tryz.func10.symm.trans hfn)).symm
  refine ⟨by kernel_rfl, fun j t ht => ?_⟩
  rw [Tryz.params10] at ht
  have hm := Array.mem_of_getElem? ht
  simp at hm
  first | subst hm | (rcases hm with rfl | rfl)
  all_goals exact (show Tryz.prog.wantsStandIn 47 = false by kernel_rfl)

theorem manifestWrites_holds : Rows.ManifestWritesUptoCardSaid :=
  Claim7.holds_tied_plain_at .later [] _ _ _ _ manifestWrites_said (fun _ h => by cases h) (by kernel_rfl) (fun _ h => by cases h) manifestWritesUpto_row_tie rfl ⟨rfl, rfl⟩ (by kernel_rfl) rfl manifestWrites_plain (by kernel_rfl)
end Go.Proofs.YtldjldkejjeamaaGreatDoor
