/-
  PROVED: ChartTellsUptoCardSaid: whatever the points, of a bulk of at most 1048576: a drawing's frame, weight and text are just as the document says, and the input reads as it did. Conditions: the listed tables of Go's library hold what their text lays (tied by the card); the bulk.
-/
import Derived.Test.YtkpbnbnfgadkcaaDoorCards
import Derived.Test.YtkpbnbnfgadkcaaDoorTie
import Derived.Test.YtkpbnbnfgadkcaaDoorTells
import Derived.Test.YtkpbnbnfgadkcaaDoorOpenB
import Derived.Test.YtkpbnbnfgadkcaaDoorLaid
import Derived.ProofKit
import Derived.OpenShut
import Derived.Deep.DeepHandedRow
import Derived.Deep.DeepWitnessRowRef
namespace Go.Proofs.YtkpbnbnfgadkcaaDoor
open Go.ChangeShapes Go.WideShapes Go.ChangeAt Go.RowKit
set_option linter.unusedVariables false
set_option linter.unusedSimpArgs false

theorem row_own : ownKnob Tryd.prog.godebug = none := by kernel_rfl
theorem row_laidOut : laidOutB Tryd.prog = true := by kernel_rfl

def bkSpot (s : Spot) : Nat := bkL (fun s : ByteArray => s.size + 1) s.path
set_option maxRecDepth 100000 in
/-- a document's spot, opened -/
theorem opensB_spot : OpensB Tryd.prog 45 rSpot bkSpot := by
  intro H enc w base fuel cs x h
  obtain ⟨xs, n, rfl, rfl, hlen, hxl, hf⟩ := DataW.trod_struct Tryd.underlying45 h
  rw [show Tryd.prog.cellsOf 45 = 3 from by kernel_rfl] at hlen
  match cs, hlen with
  | [c0, c1, c2], _ =>
    have k0 : Tryd.prog.cellsOf 42 = 1 := by kernel_rfl
    have k1 : Tryd.prog.cellsOf 3 = 1 := by kernel_rfl
    have f0 := hf 0 _ rfl
    have f1 := hf 1 _ rfl
    have f2 := hf 2 _ rfl
    match xs, hxl with
    | [x0, x1, x2], _ =>
      simp [k0, k1] at f0 f1 f2
      obtain ⟨path, h1, h2⟩ := opensB_slice (e := 9) Tryd.underlying42 (r := rStr) (by kernel_rfl) (by decide) (opensB_str Tryd.underlying9) H enc w base n [c0] x0 f0
      obtain ⟨X, ⟨h3, h4⟩, _⟩ := opensB_int Tryd.underlying3 H enc w base n [c1] x1 f1
      obtain ⟨Y, ⟨h5, h6⟩, _⟩ := opensB_int Tryd.underlying3 H enc w base n [c2] x2 f2
      simp only [List.cons.injEq, and_true] at h3 h5
      subst h3 h5
      refine ⟨⟨path, X, Y⟩, ⟨c0, rfl, h1, h4, h6⟩, ?_⟩
      simp only [bkSpot, Rows.uptoBulk, Rows.uptoBulkAll, List.map_cons, List.map_nil]
      omega

theorem opensB_spots : OpensB Tryd.prog 22 (rSlice rSpot) (bkL bkSpot) :=
  opensB_slice Tryd.underlying22 (by kernel_rfl) (by decide) opensB_spot

theorem pow10_tab {W : World} (h : laidMet Tryd.prog Rows.chartTellsRow.laid W) : Tab W := by
  have h1 := h.tail.tail
  exact Lib.tabIs_of_head (g := 0) (by kernel_rfl) (by kernel_rfl) Tryd.underlying100 Tryd.underlying71 (by kernel_rfl) (by kernel_rfl) h1

set_option maxRecDepth 100000 in
theorem tells_contract (H : Type) (enc : TypeId × Value → H) (W : World) (base : Nat) (args : Array Value) (ds gs : List (DataW H)) (before : List MemPlace)
    (hval : ∀ (j : Nat) t v, Tryd.f3.params[j]? = some t → args[j]? = some v → Value.okWide Tryd.prog W .any base t v)
    (hW : DataW.Whole enc Tryd.prog Tryd.f3.params.toList Rows.chartTellsSpec.vars false W args.toList ds gs before) (hL : laidMet Tryd.prog Rows.chartTellsRow.laid W) (hk : Rows.uptoSmall H (ds ++ gs) = true) :
    Calls Tryd.prog 3 args W fun e W' => ∃ v, e = .returned v ∧ Rows.chartTellsSpec.post enc Tryd.prog Tryd.f3 false true false false W args v W' := by
  have hW' := hW
  obtain ⟨p, q, hA0, hV, rfl, hfz, hnd⟩ := hW
  have hA : DataW.TrodAll enc Tryd.prog W 0 (fun _ => true) true Tryd.f3.params.toList args.toList ds p := hA0
  rw [Tryd.params3] at hA hval
  obtain ⟨v0, d0, rfl, rfl, h0⟩ := trodAll_one hA
  obtain ⟨rfl, rfl⟩ := trodVars_none hV
  obtain ⟨A, n, c, rfl⟩ := okWide_slice Tryd.underlying22 (hval 0 22 v0 rfl rfl)
  obtain ⟨l, hl, hbk⟩ := opensB_arg opensB_spots h0
  have hb := bulk_of hk
  simp only [List.append_nil, Rows.uptoBulkAll] at hb
  have h1 := bkL_len (bk := bkSpot) (l := l) fun x => bkL_pos _ _
  have h2 : ∀ s ∈ l, s.path.length ≤ 1048576 := fun s hs => by
    have h3 : bkL (fun s : ByteArray => s.size + 1) s.path ≤ bkL bkSpot l := bkL_mem (bk := bkSpot) hs
    have h4 := bkL_len (bk := fun s : ByteArray => s.size + 1) (l := s.path) fun x => by omega
    omega
  have ht := pow10_tab hL
  refine (tells_any A n c l W _ (by omega) h2 (fun W' hW' => tab_below ht hW') hl).mono fun e W' ⟨he, hb⟩ => ?_
  exact ⟨_, he, law_post (tb := 4) row_laidOut rfl hW' rfl Tryd.underlying4 rfl rfl rfl (fun t ht => by
    rw [Tryd.params3] at ht
    simp at ht
    subst ht
    exact ⟨by kernel_rfl, of_decide_eq_true (by kernel_rfl)⟩) hb⟩

theorem tells_laid (os : Os) : laidMet Tryd.prog Rows.chartTellsRow.laid ((laidWorld Tryd.prog Rows.chartTellsRow.laid os).forCall (fun _ _ => 0) ⟨#[], #[.slice none 0 0], []⟩).memory :=
  laidMet_of_run' 8 (by kernel_rfl) (by kernel_rfl)
theorem tells_reads (os : Os) {H : Type} (enc : TypeId × Value → H) : ∃ places, DataW.whole enc Tryd.prog ((laidWorld Tryd.prog Rows.chartTellsRow.laid os).forCall (fun _ _ => 0) ⟨#[], #[.slice none 0 0], []⟩).memory Tryd.f3.params.toList Rows.chartTellsSpec.vars false #[Value.slice none 0 0].toList 8 = some ([.nil], [], places) :=
  ⟨[], by kernel_rfl⟩

set_option maxRecDepth 100000 in
theorem tells_lifted (os : Os) (started : os.Started) (H : Type) (enc : TypeId × Value → H) (F : Stop.Interp) :
    ReturnsInHanded {} Tryd.checked os 3 .any ((Rows.OpenSpec.upto Rows.chartTellsSpec).preRow enc Tryd.prog Tryd.f3 Rows.chartTellsUptoRow.domain false Rows.chartTellsUptoRow.laid) (((Rows.OpenSpec.upto Rows.chartTellsSpec).at F).post enc Tryd.prog Tryd.f3 false true false false) := by
  obtain ⟨places, hx⟩ := tells_reads os enc
  refine returnsInHanded_of_row (C := Tryd.checked) (s := Rows.OpenSpec.upto Rows.chartTellsSpec) row_own started (by kernel_rfl) Tryd.func3
    (witness_row_at (enc := enc) (C := Tryd.checked) false (laidWorld Tryd.prog Rows.chartTellsRow.laid os) #[.slice none 0 0] rfl (by kernel_rfl) (by kernel_rfl) (by kernel_rfl)
      (OpenSpec.preRow_of_cond 8 hx (by kernel_rfl) (fun k hk => by cases hk; kernel_rfl) (by kernel_rfl) (tells_laid os))) ?_
  intro W base args ds gs before hval hW _ hcond _ hL _ _
  exact tells_contract H enc W base args ds gs before hval hW hL (hcond _ rfl)

theorem tells_said : Rows.ChartTellsUptoSaid :=
  OpenClaim.holds_of_cond 3 Tryd.f3 rfl rfl rfl rfl rfl rfl rfl ⟨rfl, rfl, rfl, rfl, rfl⟩ rfl rfl rfl rfl rfl (by kernel_rfl) Tryd.func3 (by kernel_rfl)
    (of_decide_eq_true (by kernel_rfl)) (by unfold Func.isWrapper; first | (rw [if_pos (by decide +kernel)]; kernel_rfl) | (rw [if_neg (by decide +kernel)]; exact ⟨rfl, rfl⟩))
    (fun os started H enc _ F => by rw [OpenClaim.pre_eq_preRow]; exact tells_lifted os started H enc F)

theorem tells_plain (f : FuncId) (fn : Func) (hf : Tryd.pinned.checked.prog.funcNamed "halyard/halyardlaw23.ChartTells" = some f) (hfn : Tryd.pinned.checked.prog.funcs[f]? = some fn) :
    false = Tryd.pinned.checked.prog.looks [] ∧ ∀ (j : Nat) t, fn.params[j]? = some t → Tryd.pinned.checked.prog.wantsStandIn t = false := by
  obtain rfl : f = 3 := Option.some.inj ((show Tryd.prog.funcNamed "halyard/halyardlaw23.ChartTells" = some 3 by kernel_rfl).symm.trans hf) |>.symm
  obtain rfl : fn = Tryd.f3 := (Option.some.inj (Tryd.func3.symm.trans hfn)).symm
  refine ⟨by kernel_rfl, fun j t ht => ?_⟩
  rw [Tryd.params3] at ht
  have hm := Array.mem_of_getElem? ht
  simp at hm
  subst hm
  exact (show Tryd.prog.wantsStandIn 22 = false by kernel_rfl)

theorem chartTells_holds : Rows.ChartTellsUptoCardSaid :=
  Claim7.holds_tied_plain_at .later [] _ _ _ _ tells_said (fun _ h => by cases h) (by kernel_rfl) (fun _ h => by cases h) chartTellsUpto_row_tie rfl ⟨rfl, rfl⟩ (by kernel_rfl) rfl tells_plain (by kernel_rfl)
end Go.Proofs.YtkpbnbnfgadkcaaDoor
