/-
  PROVED: ManifestAgainUptoCardSaid: whatever the text: what is read may be, is written and read as the same, and whoever writes into one manifest writes into no other, and the input reads as it did. Conditions: the listed tables of Go's library hold what their text lays (tied by the card); the bulk: at most 1048576.
-/
import Derived.Test.YtldjldkejjeamaaGreatDoorCards
import Derived.Test.YtldjldkejjeamaaGreatDoorTie
import Derived.Test.YtldjldkejjeamaaGreatDoorManiLawC
import Derived.Test.YtldjldkejjeamaaGreatDoorSArgs
import Derived.Test.YtldjldkejjeamaaGreatDoorItoa
import Derived.ProofKit
import Derived.OpenShut
import Derived.Deep.DeepHandedRow
import Derived.Deep.DeepWitnessRowRef
namespace Go.Proofs.YtldjldkejjeamaaGreatDoor
open Go.ChangeShapes Go.WideShapes Go.ChangeAt Go.RowKit
set_option linter.unusedVariables false
set_option linter.unusedSimpArgs false

theorem manifestAgain_own : ownKnob Tryz.prog.godebug = none := by kernel_rfl
theorem manifestAgain_laidOut : laidOutB Tryz.prog = true := by kernel_rfl

theorem manifestAgain_tab {W : World} (h : laidMet Tryz.prog Rows.manifestAgainUptoRow.laid W) : Tab W := by
  have h1 := h.tail.tail
  exact Lib.tabIs_of_head (g := 5) (by kernel_rfl) (by kernel_rfl) Tryz.underlying221 Tryz.underlying184 (by kernel_rfl) (by kernel_rfl) h1

theorem manifestAgain_errrow (u : TypeId) (h : Tryz.prog.typeName? 3 u = some "*errors.errorString") : u = 217 :=
  typeName_ptr_named (nm := "errors.errorString") (by rw [show "*" ++ "errors.errorString" = "*errors.errorString" by decide]; kernel_rfl) (by kernel_rfl) (by decide) u (by rw [show "*" ++ "errors.errorString" = "*errors.errorString" by decide]; exact h)
theorem manifestAgain_vok {W : World} (h : laidMet Tryz.prog Rows.manifestAgainUptoRow.laid W) (hS : W.ShapedOpen Tryz.prog) : Vok W :=
  ⟨manifestAgain_tab h, Tryz.laysM146.s1_3 W hS,
    sent_of (n := "strconv.ErrSyntax") (g := 1) (ti := 99) (ts := 9) h.tail.tail.tail.tail.tail (by kernel_rfl) (by kernel_rfl) Tryz.underlying99 manifestAgain_errrow Tryz.underlying217 Tryz.underlying219 rfl rfl Tryz.underlying9 (by kernel_rfl) (by kernel_rfl),
    sent_of (n := "strconv.ErrRange") (g := 2) (ti := 99) (ts := 9) h.tail.tail.tail.tail (by kernel_rfl) (by kernel_rfl) Tryz.underlying99 manifestAgain_errrow Tryz.underlying217 Tryz.underlying219 rfl rfl Tryz.underlying9 (by kernel_rfl) (by kernel_rfl)⟩

set_option maxRecDepth 100000 in
theorem manifestAgain_contract (H : Type) (enc : TypeId × Value → H) (W : World) (base : Nat) (args : Array Value) (ds gs : List (DataW H)) (before : List MemPlace)
    (hval : ∀ (j : Nat) t v, Tryz.f12.params[j]? = some t → args[j]? = some v → Value.okWide Tryz.prog W .any base t v)
    (hW : DataW.Whole enc Tryz.prog Tryz.f12.params.toList Rows.manifestAgainSpec.vars false W args.toList ds gs before) (hL : laidMet Tryz.prog Rows.manifestAgainUptoRow.laid W) (hS : W.ShapedOpen Tryz.prog) (hk : Rows.uptoSmall H (ds ++ gs) = true) :
    Calls Tryz.prog 12 args W fun e W' => ∃ v, e = .returned v ∧ Rows.manifestAgainSpec.post enc Tryz.prog Tryz.f12 false true false false W args v W' := by
  have hW' := hW
  obtain ⟨p, q, hA0, hV, rfl, hfz, hnd⟩ := hW
  have hA : DataW.TrodAll enc Tryz.prog W 0 (fun _ => true) true Tryz.f12.params.toList args.toList ds p := hA0
  rw [Tryz.params12] at hA hval
  obtain ⟨v0, d0, rfl, rfl, h0⟩ := trodAll_one hA
  obtain ⟨rfl, rfl⟩ := trodVars_none hV
  obtain ⟨x0, rfl, hx0, hbk0⟩ := txt_arg (hval 0 9 v0 rfl rfl) h0
  have hb := bulk_of hk
  simp only [List.append_nil, Rows.uptoBulkAll] at hb
  refine (maniAgain_law x0 W (manifestAgain_vok hL hS) (show x0.size ≤ 1048576 by omega)).mono fun e W' ⟨he, hb⟩ => ?_
  exact ⟨_, he, law_post (tb := 4) manifestAgain_laidOut rfl hW' rfl Tryz.underlying4 rfl rfl rfl (fun t ht => by
    rw [Tryz.params12] at ht
    simp at ht
    first | subst ht | (rcases ht with rfl | rfl)
    all_goals exact ⟨by kernel_rfl, of_decide_eq_true (by kernel_rfl)⟩) hb⟩

theorem manifestAgain_laid (os : Os) : laidMet Tryz.prog Rows.manifestAgainUptoRow.laid ((laidWorldE Tryz.prog Rows.manifestAgainUptoRow.laid os).forCall (fun _ _ => 0) ⟨#[], #[.string ⟨#[]⟩], []⟩).memory :=
  laidMet_of_run' 8 (by kernel_rfl) (by kernel_rfl)
theorem manifestAgain_reads (os : Os) {H : Type} (enc : TypeId × Value → H) : ∃ places, DataW.whole enc Tryz.prog ((laidWorldE Tryz.prog Rows.manifestAgainUptoRow.laid os).forCall (fun _ _ => 0) ⟨#[], #[.string ⟨#[]⟩], []⟩).memory Tryz.f12.params.toList Rows.manifestAgainSpec.vars false #[Value.string ⟨#[]⟩].toList 8 = some ([.lit (.string [])], [], places) :=
  ⟨[], by kernel_rfl⟩

set_option maxRecDepth 100000 in
theorem manifestAgain_lifted (os : Os) (started : os.Started) (H : Type) (enc : TypeId × Value → H) (F : Stop.Interp) :
    ReturnsInHanded {} Tryz.checked os 12 .any ((Rows.OpenSpec.upto Rows.manifestAgainSpec).preRow enc Tryz.prog Tryz.f12 Rows.manifestAgainUptoRow.domain false Rows.manifestAgainUptoRow.laid) (((Rows.OpenSpec.upto Rows.manifestAgainSpec).at F).post enc Tryz.prog Tryz.f12 false true false false) := by
  obtain ⟨places, hx⟩ := manifestAgain_reads os enc
  refine returnsInHanded_of_row (C := Tryz.checked) (s := Rows.OpenSpec.upto Rows.manifestAgainSpec) manifestAgain_own started (by kernel_rfl) Tryz.func12
    (witness_row_at (enc := enc) (C := Tryz.checked) false (laidWorldE Tryz.prog Rows.manifestAgainUptoRow.laid os) #[.string ⟨#[]⟩] rfl (by kernel_rfl) (by kernel_rfl) (by kernel_rfl)
      (OpenSpec.preRow_of_cond 8 hx (by kernel_rfl) (fun k hk => by cases hk; kernel_rfl) (by kernel_rfl) (manifestAgain_laid os))) ?_
  intro W base args ds gs before hval hW _ hcond _ hL hS _
  exact manifestAgain_contract H enc W base args ds gs before hval hW hL hS (hcond _ rfl)

theorem manifestAgain_said : Rows.ManifestAgainUptoSaid :=
  OpenClaim.holds_of_cond 12 Tryz.f12 rfl rfl rfl rfl rfl rfl rfl ⟨rfl, rfl, rfl, rfl, rfl⟩ rfl rfl rfl rfl rfl (by kernel_rfl) Tryz.func12 (by kernel_rfl)
    (of_decide_eq_true (by kernel_rfl)) (by unfold Func.isWrapper; first | (rw [if_pos (by decide +kernel)]; kernel_rfl) | (rw [if_neg (by decide +kernel)]; exact ⟨rfl, rfl⟩))
    (fun os started H enc _ F => by rw [OpenClaim.pre_eq_preRow]; exact manifestAgain_lifted os started H enc F)

theorem manifestAgain_plain (f : FuncId) (fn : Func) (hf : Tryz.pinned.checked.prog.funcNamed "halyard/halyardlaw06.ManifestAgain" = some f) (hfn : Tryz.pinned.checked.prog.funcs[f]? = some fn) :
    true = Tryz.pinned.checked.prog.looks [] ∧ ∀ (j : Nat) t, fn.params[j]? = some t → Tryz.pinned.checked.prog.wantsStandIn t = false := by
  obtain rfl : f = 12 := Option.some.inj ((show Tryz.prog.funcNamed "halyard/halyardlaw06.ManifestAgain" = some 12 by kernel_rfl).symm.trans hf) |>.symm
  obtain rfl : fn = Tryz.f12 := (Option.some.inj (Tryz.func12.symm.trans hfn)).symm
  refine ⟨by kernel_rfl, fun j t ht => ?_⟩
  rw [Tryz.params12] at ht
  have hm := Array.mem_of_getElem? ht
  simp at hm
  first | subst hm | (rcases hm with rfl | rfl)
  all_goals exact (show Tryz.prog.wantsStandIn 9 = false by kernel_rfl)

theorem manifestAgain_holds : Rows.ManifestAgainUptoCardSaid :=
  Claim7.holds_tied_plain_at .later [] _ _ _ _ manifestAgain_said (fun _ h => by cases h) (by kernel_rfl) (fun _ h => by cases h) manifestAgainUpto_row_tie rfl ⟨rfl, rfl⟩ (by kernel_rfl) rfl manifestAgain_plain (by kernel_rfl)
end Go.Proofs.YtldjldkejjeamaaGreatDoor
