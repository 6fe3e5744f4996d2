/-
  The row of ImageDisk: the walk lifted.
-/
import Derived.Test.YthbnmehbhpakaaaGreatDoorCards
import Derived.Test.YthbnmehbhpakaaaGreatDoorTie
import Derived.Test.YthbnmehbhpakaaaGreatDoorDi36
import Derived.Test.YthbnmehbhpakaaaGreatDoorDi26
import Derived.Test.YthbnmehbhpakaaaGreatDoorDi05
import Derived.ProofKit
import Derived.OpenShut
import Derived.Deep.DeepHandedRow
import Derived.Deep.DeepWitnessRowRef
namespace Go.Proofs.YthbnmehbhpakaaaGreatDoor
open Go.ChangeShapes Go.WideShapes Go.ChangeAt Go.RowKit
set_option linter.unusedVariables false
set_option linter.unusedSimpArgs false

theorem imageDisk_own : ownKnob Tryz.prog.godebug = none := by kernel_rfl
theorem imageDisk_laidOut : laidOutB Tryz.prog = true := by kernel_rfl

theorem imageDisk_tab {W : World} (h : laidMet Tryz.prog Rows.imageDiskUptoRow.laid W) : Tab W := by
  have h1 := h.tail.tail
  exact Lib.tabIs_of_head (g := 1) (by kernel_rfl) (by kernel_rfl) Tryz.underlying316 Tryz.underlying202 (by kernel_rfl) (by kernel_rfl) h1

set_option maxRecDepth 100000 in
theorem imageDisk_contract (H : Type) (enc : TypeId × Value → H) (W : World) (base : Nat) (args : Array Value) (ds gs : List (DataW H)) (before : List MemPlace)
    (hval : ∀ (j : Nat) t v, Tryz.f7.params[j]? = some t → args[j]? = some v → Value.okWide Tryz.prog W .any base t v)
    (hW : DataW.Whole enc Tryz.prog Tryz.f7.params.toList Rows.imageDiskSpec.vars false W args.toList ds gs before) (hL : laidMet Tryz.prog Rows.imageDiskUptoRow.laid W) (hS : W.ShapedOpen Tryz.prog) (hk : Rows.uptoSmall H (ds ++ gs) = true) :
    Calls Tryz.prog 7 args W fun e W' => ∃ v, e = .returned v ∧ Rows.imageDiskSpec.post enc Tryz.prog Tryz.f7 false true false false W args v W' := by
  have hW' := hW
  obtain ⟨p, q, hA0, hV, rfl, hfz, hnd⟩ := hW
  have hA : DataW.TrodAll enc Tryz.prog W 0 (fun _ => true) true Tryz.f7.params.toList args.toList ds p := hA0
  rw [Tryz.params7] at hA hval
  obtain ⟨v0, v1, d0, d1, p0, p1, rfl, rfl, _, h0, h1⟩ := trodAll_two hA
  obtain ⟨rfl, rfl⟩ := trodVars_none hV
  obtain ⟨x0, hx0, hbk0⟩ := proj_arg (hval 0 32 v0 rfl rfl) h0
  obtain ⟨x1, rfl, hx1, hbk1⟩ := txt_arg (hval 1 9 v1 rfl rfl) h1
  have hb := bulk_of hk
  simp only [List.append_nil, Rows.uptoBulkAll] at hb
  refine (imageDisk_any x0 x1 v0 W _ (imageDisk_tab hL) (Tryz.laysM146.s1_3 W hS) (projZ_of (by omega)) hx0 (show x1.size ≤ 1048576 by omega)).mono fun e W' ⟨he, hb⟩ => ?_
  exact ⟨_, he, law_post (tb := 4) imageDisk_laidOut rfl hW' rfl Tryz.underlying4 rfl rfl rfl (fun t ht => by
    rw [Tryz.params7] at ht
    simp at ht
    rcases ht with rfl | rfl
    all_goals exact ⟨by kernel_rfl, of_decide_eq_true (by kernel_rfl)⟩) hb⟩

theorem imageDisk_laid (os : Os) : laidMet Tryz.prog Rows.imageDiskUptoRow.laid ((laidWorldE Tryz.prog Rows.imageDiskUptoRow.laid os).forCall (fun _ _ => 0) ⟨#[], #[.agg #[.slice none 0 0, .slice none 0 0, .slice none 0 0, .slice none 0 0, .slice none 0 0, .slice none 0 0, .bool false], .string ⟨#[]⟩], []⟩).memory :=
  laidMet_of_run' 8 (by kernel_rfl) (by kernel_rfl)
theorem imageDisk_reads (os : Os) {H : Type} (enc : TypeId × Value → H) : ∃ places, DataW.whole enc Tryz.prog ((laidWorldE Tryz.prog Rows.imageDiskUptoRow.laid os).forCall (fun _ _ => 0) ⟨#[], #[.agg #[.slice none 0 0, .slice none 0 0, .slice none 0 0, .slice none 0 0, .slice none 0 0, .slice none 0 0, .bool false], .string ⟨#[]⟩], []⟩).memory Tryz.f7.params.toList Rows.imageDiskSpec.vars false #[Value.agg #[.slice none 0 0, .slice none 0 0, .slice none 0 0, .slice none 0 0, .slice none 0 0, .slice none 0 0, .bool false], Value.string ⟨#[]⟩].toList 8 = some ([.agg [.agg [.nil, .nil, .nil, .nil], .agg [.nil], .agg [.nil], .lit (.bool false)], .lit (.string [])], [], places) :=
  ⟨[], by kernel_rfl⟩

set_option maxRecDepth 100000 in
theorem imageDisk_lifted (os : Os) (started : os.Started) (H : Type) (enc : TypeId × Value → H) (F : Stop.Interp) :
    ReturnsInHanded {} Tryz.checked os 7 .any ((Rows.OpenSpec.upto Rows.imageDiskSpec).preRow enc Tryz.prog Tryz.f7 Rows.imageDiskUptoRow.domain false Rows.imageDiskUptoRow.laid) (((Rows.OpenSpec.upto Rows.imageDiskSpec).at F).post enc Tryz.prog Tryz.f7 false true false false) := by
  obtain ⟨places, hx⟩ := imageDisk_reads os enc
  refine returnsInHanded_of_row (C := Tryz.checked) (s := Rows.OpenSpec.upto Rows.imageDiskSpec) imageDisk_own started (by kernel_rfl) Tryz.func7
    (witness_row_at (enc := enc) (C := Tryz.checked) false (laidWorldE Tryz.prog Rows.imageDiskUptoRow.laid os) #[.agg #[.slice none 0 0, .slice none 0 0, .slice none 0 0, .slice none 0 0, .slice none 0 0, .slice none 0 0, .bool false], .string ⟨#[]⟩] rfl (by kernel_rfl) (by kernel_rfl) (by kernel_rfl)
      (OpenSpec.preRow_of_cond 8 hx (by kernel_rfl) (fun k hk => by cases hk; kernel_rfl) (by kernel_rfl) (imageDisk_laid os))) ?_
  intro W base args ds gs before hval hW _ hcond _ hL hS _
  exact imageDisk_contract H enc W base args ds gs before hval hW hL hS (hcond _ rfl)

end Go.Proofs.YthbnmehbhpakaaaGreatDoor
