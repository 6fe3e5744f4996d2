/-
  The row of PlacePlays: the walk lifted.
-/
import Derived.Test.YtminjjdnmpaaoaaGreatDoorCards
import Derived.Test.YtminjjdnmpaaoaaGreatDoorTie
import Derived.Test.YtminjjdnmpaaoaaGreatDoorPp46
import Derived.Test.YtminjjdnmpaaoaaGreatDoorPp45
import Derived.Test.YtminjjdnmpaaoaaGreatDoorPp02
import Derived.Test.YtminjjdnmpaaoaaGreatDoorPp03
import Derived.ProofKit
import Derived.OpenShut
import Derived.Deep.DeepHandedRow
import Derived.Deep.DeepWitnessRowRef
namespace Go.Proofs.YtminjjdnmpaaoaaGreatDoor
open Go.ChangeShapes Go.WideShapes Go.ChangeAt Go.RowKit
set_option linter.unusedVariables false
set_option linter.unusedSimpArgs false

theorem placePlays_own : ownKnob Tryz.prog.godebug = none := by kernel_rfl
theorem placePlays_laidOut : laidOutB Tryz.prog = true := by kernel_rfl

theorem placePlays_tab {W : World} (h : laidMet Tryz.prog Rows.placePlaysUptoRow.laid W) : Tab W := by
  have h1 := h.tail.tail
  exact Lib.tabIs_of_head (g := 3) (by kernel_rfl) (by kernel_rfl) Tryz.underlying264 Tryz.underlying160 (by kernel_rfl) (by kernel_rfl) h1

set_option maxRecDepth 100000 in
theorem placePlays_contract (H : Type) (enc : TypeId × Value → H) (W : World) (base : Nat) (args : Array Value) (ds gs : List (DataW H)) (before : List MemPlace)
    (hval : ∀ (j : Nat) t v, Tryz.f3.params[j]? = some t → args[j]? = some v → Value.okWide Tryz.prog W .any base t v)
    (hW : DataW.Whole enc Tryz.prog Tryz.f3.params.toList Rows.placePlaysSpec.vars false W args.toList ds gs before) (hL : laidMet Tryz.prog Rows.placePlaysUptoRow.laid W) (hS : W.ShapedOpen Tryz.prog) (hk : Rows.uptoSmall H (ds ++ gs) = true) :
    Calls Tryz.prog 3 args W fun e W' => ∃ v, e = .returned v ∧ Rows.placePlaysSpec.post enc Tryz.prog Tryz.f3 false true false false W args v W' := by
  have hW' := hW
  obtain ⟨p, q, hA0, hV, rfl, hfz, hnd⟩ := hW
  have hA : DataW.TrodAll enc Tryz.prog W 0 (fun _ => true) true Tryz.f3.params.toList args.toList ds p := hA0
  rw [Tryz.params3] at hA hval
  obtain ⟨v0, v1, v2, d0, d1, d2, p0, p1, p2, rfl, rfl, _, h0, h1, h2⟩ := trodAll_three hA
  obtain ⟨rfl, rfl⟩ := trodVars_none hV
  obtain ⟨A0, n0, c0, x0, rfl, hx0, hbk0⟩ := graph_arg (hval 0 24 v0 rfl rfl) h0
  obtain ⟨A1, n1, c1, x1, rfl, hx1, hbk1⟩ := packs_arg (hval 1 25 v1 rfl rfl) h1
  obtain ⟨x2, hx2, hbk2⟩ := wd_arg (hval 2 35 v2 rfl rfl) h2
  have hb := bulk_of hk
  simp only [List.append_nil, Rows.uptoBulkAll] at hb
  refine (placePlays_any A0 n0 c0 x0 A1 n1 c1 x1 x2 v2 W _ (placePlays_tab hL) hx0 (nodes_small hbk0 (by omega)) hx1 (packs_small hbk1 (by omega)) hx2 (wdZ_of (by omega))).mono fun e W' ⟨he, hb⟩ => ?_
  exact ⟨_, he, law_post (tb := 4) placePlays_laidOut rfl hW' rfl Tryz.underlying4 rfl rfl rfl (fun t ht => by
    rw [Tryz.params3] at ht
    simp at ht
    rcases ht with rfl | rfl | rfl
    all_goals exact ⟨by kernel_rfl, of_decide_eq_true (by kernel_rfl)⟩) hb⟩

theorem placePlays_laid (os : Os) : laidMet Tryz.prog Rows.placePlaysUptoRow.laid ((laidWorld Tryz.prog Rows.placePlaysUptoRow.laid os).forCall (fun _ _ => 0) ⟨#[], #[.agg #[.slice none 0 0], .slice none 0 0, .agg #[.slice none 0 0, .slice none 0 0, .slice none 0 0, .slice none 0 0, .slice none 0 0, .bool false, .int .i64 0, .int .i64 0, .int .i64 0, .int .i64 0, .slice none 0 0, .bool false]], []⟩).memory :=
  laidMet_of_run' 8 (by kernel_rfl) (by kernel_rfl)
theorem placePlays_reads (os : Os) {H : Type} (enc : TypeId × Value → H) : ∃ places, DataW.whole enc Tryz.prog ((laidWorld Tryz.prog Rows.placePlaysUptoRow.laid os).forCall (fun _ _ => 0) ⟨#[], #[.agg #[.slice none 0 0], .slice none 0 0, .agg #[.slice none 0 0, .slice none 0 0, .slice none 0 0, .slice none 0 0, .slice none 0 0, .bool false, .int .i64 0, .int .i64 0, .int .i64 0, .int .i64 0, .slice none 0 0, .bool false]], []⟩).memory Tryz.f3.params.toList Rows.placePlaysSpec.vars false #[Value.agg #[.slice none 0 0], Value.slice none 0 0, Value.agg #[.slice none 0 0, .slice none 0 0, .slice none 0 0, .slice none 0 0, .slice none 0 0, .bool false, .int .i64 0, .int .i64 0, .int .i64 0, .int .i64 0, .slice none 0 0, .bool false]].toList 8 = some ([.agg [.nil], .nil, .agg [.nil, .agg [.nil, .nil, .nil, .nil], .lit (.bool false), .agg [.lit (.int .i64 0), .lit (.int .i64 0), .lit (.int .i64 0), .lit (.int .i64 0)], .agg [.nil], .lit (.bool false)]], [], places) :=
  ⟨[], by kernel_rfl⟩

set_option maxRecDepth 100000 in
theorem placePlays_lifted (os : Os) (started : os.Started) (H : Type) (enc : TypeId × Value → H) (F : Stop.Interp) :
    ReturnsInHanded {} Tryz.checked os 3 .any ((Rows.OpenSpec.upto Rows.placePlaysSpec).preRow enc Tryz.prog Tryz.f3 Rows.placePlaysUptoRow.domain false Rows.placePlaysUptoRow.laid) (((Rows.OpenSpec.upto Rows.placePlaysSpec).at F).post enc Tryz.prog Tryz.f3 false true false false) := by
  obtain ⟨places, hx⟩ := placePlays_reads os enc
  refine returnsInHanded_of_row (C := Tryz.checked) (s := Rows.OpenSpec.upto Rows.placePlaysSpec) placePlays_own started (by kernel_rfl) Tryz.func3
    (witness_row_at (enc := enc) (C := Tryz.checked) false (laidWorld Tryz.prog Rows.placePlaysUptoRow.laid os) #[.agg #[.slice none 0 0], .slice none 0 0, .agg #[.slice none 0 0, .slice none 0 0, .slice none 0 0, .slice none 0 0, .slice none 0 0, .bool false, .int .i64 0, .int .i64 0, .int .i64 0, .int .i64 0, .slice none 0 0, .bool false]] rfl (by kernel_rfl) (by kernel_rfl) (by kernel_rfl)
      (OpenSpec.preRow_of_cond 8 hx (by kernel_rfl) (fun k hk => by cases hk; kernel_rfl) (by kernel_rfl) (placePlays_laid os))) ?_
  intro W base args ds gs before hval hW _ hcond _ hL hS _
  exact placePlays_contract H enc W base args ds gs before hval hW hL hS (hcond _ rfl)

end Go.Proofs.YtminjjdnmpaaoaaGreatDoor
