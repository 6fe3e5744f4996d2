/-
  PROVED: WalkupDiskUptoCardSaid: whatever the files, the place and the name: a lookup on the disk finds what the document says, or the files are refused by both, and the input reads as it did. Conditions: the listed tables of Go's library hold what their text lays (tied by the card); the bulk: at most 1048576.
-/
import Derived.Test.YtkpbpnecmfadlaaGreatDoorCards
import Derived.Test.YtkpbpnecmfadlaaGreatDoorTie
import Derived.Test.YtkpbpnecmfadlaaGreatDoorDiskLaw
import Derived.Test.YtkpbpnecmfadlaaGreatDoorArgs
import Derived.Test.YtkpbpnecmfadlaaGreatDoorItoa
import Derived.ProofKit
import Derived.OpenShut
import Derived.Deep.DeepHandedRow
import Derived.Deep.DeepWitnessRowRef
namespace Go.Proofs.YtkpbpnecmfadlaaGreatDoor
open Go.ChangeShapes Go.WideShapes Go.ChangeAt Go.RowKit
set_option linter.unusedVariables false
set_option linter.unusedSimpArgs false

theorem walkupDisk_own : ownKnob Tryz.prog.godebug = none := by kernel_rfl
theorem walkupDisk_laidOut : laidOutB Tryz.prog = true := by kernel_rfl

theorem walkupDisk_tab {W : World} (h : laidMet Tryz.prog Rows.walkupDiskUptoRow.laid W) : Tab W := by
  have h1 := h.tail.tail
  exact Lib.tabIs_of_head (g := 3) (by kernel_rfl) (by kernel_rfl) Tryz.underlying169 Tryz.underlying163 (by kernel_rfl) (by kernel_rfl) h1

set_option maxRecDepth 100000 in
theorem walkupDisk_contract (H : Type) (enc : TypeId × Value → H) (W : World) (base : Nat) (args : Array Value) (ds gs : List (DataW H)) (before : List MemPlace)
    (hval : ∀ (j : Nat) t v, Tryz.f3.params[j]? = some t → args[j]? = some v → Value.okWide Tryz.prog W .any base t v)
    (hW : DataW.Whole enc Tryz.prog Tryz.f3.params.toList Rows.walkupDiskSpec.vars false W args.toList ds gs before) (hL : laidMet Tryz.prog Rows.walkupDiskUptoRow.laid W) (hS : W.ShapedOpen Tryz.prog) (hk : Rows.uptoSmall H (ds ++ gs) = true) :
    Calls Tryz.prog 3 args W fun e W' => ∃ v, e = .returned v ∧ Rows.walkupDiskSpec.post enc Tryz.prog Tryz.f3 false true false false W args v W' := by
  have hW' := hW
  obtain ⟨p, q, hA0, hV, rfl, hfz, hnd⟩ := hW
  have hA : DataW.TrodAll enc Tryz.prog W 0 (fun _ => true) true Tryz.f3.params.toList args.toList ds p := hA0
  rw [Tryz.params3] at hA hval
  obtain ⟨v0, v1, v2, d0, d1, d2, p0, p1, p2, rfl, rfl, _, h0, h1, h2⟩ := trodAll_three hA
  obtain ⟨rfl, rfl⟩ := trodVars_none hV
  obtain ⟨A0, n0, c0, x0, rfl, hx0, hbk0⟩ := files_arg (hval 0 22 v0 rfl rfl) h0
  obtain ⟨x1, rfl, hx1, hbk1⟩ := str_arg (hval 1 9 v1 rfl rfl) h1
  obtain ⟨x2, rfl, hx2, hbk2⟩ := str_arg (hval 2 9 v2 rfl rfl) h2
  have hb := bulk_of hk
  simp only [List.append_nil, Rows.uptoBulkAll] at hb
  refine (walkupDisk_any A0 n0 c0 x0 x1 x2 W (walkupDisk_tab hL) (Tryz.laysM146.s1_3 W hS) hx0 (files_small hbk0 (by omega)) (show x1.size ≤ 1048576 by omega) (show x2.size ≤ 1048576 by omega)).mono fun e W' ⟨he, hb⟩ => ?_
  exact ⟨_, he, law_post (tb := 4) walkupDisk_laidOut rfl hW' rfl Tryz.underlying4 rfl rfl rfl (fun t ht => by
    rw [Tryz.params3] at ht
    simp at ht
    rcases ht with rfl | rfl
    all_goals exact ⟨by kernel_rfl, of_decide_eq_true (by kernel_rfl)⟩) hb⟩

theorem walkupDisk_laid (os : Os) : laidMet Tryz.prog Rows.walkupDiskUptoRow.laid ((laidWorld Tryz.prog Rows.walkupDiskUptoRow.laid os).forCall (fun _ _ => 0) ⟨#[], #[.slice none 0 0, .string ⟨#[]⟩, .string ⟨#[]⟩], []⟩).memory :=
  laidMet_of_run' 8 (by kernel_rfl) (by kernel_rfl)
theorem walkupDisk_reads (os : Os) {H : Type} (enc : TypeId × Value → H) : ∃ places, DataW.whole enc Tryz.prog ((laidWorld Tryz.prog Rows.walkupDiskUptoRow.laid os).forCall (fun _ _ => 0) ⟨#[], #[.slice none 0 0, .string ⟨#[]⟩, .string ⟨#[]⟩], []⟩).memory Tryz.f3.params.toList Rows.walkupDiskSpec.vars false #[Value.slice none 0 0, Value.string ⟨#[]⟩, Value.string ⟨#[]⟩].toList 8 = some ([.nil, .lit (.string []), .lit (.string [])], [], places) :=
  ⟨[], by kernel_rfl⟩

set_option maxRecDepth 100000 in
theorem walkupDisk_lifted (os : Os) (started : os.Started) (H : Type) (enc : TypeId × Value → H) (F : Stop.Interp) :
    ReturnsInHanded {} Tryz.checked os 3 .any ((Rows.OpenSpec.upto Rows.walkupDiskSpec).preRow enc Tryz.prog Tryz.f3 Rows.walkupDiskUptoRow.domain false Rows.walkupDiskUptoRow.laid) (((Rows.OpenSpec.upto Rows.walkupDiskSpec).at F).post enc Tryz.prog Tryz.f3 false true false false) := by
  obtain ⟨places, hx⟩ := walkupDisk_reads os enc
  refine returnsInHanded_of_row (C := Tryz.checked) (s := Rows.OpenSpec.upto Rows.walkupDiskSpec) walkupDisk_own started (by kernel_rfl) Tryz.func3
    (witness_row_at (enc := enc) (C := Tryz.checked) false (laidWorld Tryz.prog Rows.walkupDiskUptoRow.laid os) #[.slice none 0 0, .string ⟨#[]⟩, .string ⟨#[]⟩] rfl (by kernel_rfl) (by kernel_rfl) (by kernel_rfl)
      (OpenSpec.preRow_of_cond 8 hx (by kernel_rfl) (fun k hk => by cases hk; kernel_rfl) (by kernel_rfl) (walkupDisk_laid os))) ?_
  intro W base args ds gs before hval hW _ hcond _ hL hS _
  exact walkupDisk_contract H enc W base args ds gs before hval hW hL hS (hcond _ rfl)

theorem walkupDisk_said : Rows.WalkupDiskUptoSaid :=
  OpenClaim.holds_of_cond 3 Tryz.f3 rfl rfl rfl rfl rfl rfl rfl ⟨rfl, rfl, rfl, rfl, rfl⟩ rfl rfl rfl rfl rfl (by kernel_rfl) Tryz.func3 (by kernel_rfl)
    (of_decide_eq_true (by kernel_rfl)) (by unfold Func.isWrapper; first | (rw [if_pos (by decide +kernel)]; kernel_rfl) | (rw [if_neg (by decide +kernel)]; exact ⟨rfl, rfl⟩))
    (fun os started H enc _ F => by rw [OpenClaim.pre_eq_preRow]; exact walkupDisk_lifted os started H enc F)

theorem walkupDisk_plain (f : FuncId) (fn : Func) (hf : Tryz.pinned.checked.prog.funcNamed "halyard/halyardlaw13.WalkupDisk" = some f) (hfn : Tryz.pinned.checked.prog.funcs[f]? = some fn) :
    false = Tryz.pinned.checked.prog.looks [] ∧ ∀ (j : Nat) t, fn.params[j]? = some t → Tryz.pinned.checked.prog.wantsStandIn t = false := by
  obtain rfl : f = 3 := Option.some.inj ((show Tryz.prog.funcNamed "halyard/halyardlaw13.WalkupDisk" = some 3 by kernel_rfl).symm.trans hf) |>.symm
  obtain rfl : fn = Tryz.f3 := (Option.some.inj (Tryz.func3.symm.trans hfn)).symm
  refine ⟨by kernel_rfl, fun j t ht => ?_⟩
  rw [Tryz.params3] at ht
  have hm := Array.mem_of_getElem? ht
  simp at hm
  rcases hm with rfl | rfl
  · exact (show Tryz.prog.wantsStandIn 22 = false by kernel_rfl)
  · exact (show Tryz.prog.wantsStandIn 9 = false by kernel_rfl)

theorem walkupDisk_holds : Rows.WalkupDiskUptoCardSaid :=
  Claim7.holds_tied_plain_at .later [] _ _ _ _ walkupDisk_said (fun _ h => by cases h) (by kernel_rfl) (fun _ h => by cases h) walkupDiskUpto_row_tie rfl ⟨rfl, rfl⟩ (by kernel_rfl) rfl walkupDisk_plain (by kernel_rfl)
end Go.Proofs.YtkpbpnecmfadlaaGreatDoor
