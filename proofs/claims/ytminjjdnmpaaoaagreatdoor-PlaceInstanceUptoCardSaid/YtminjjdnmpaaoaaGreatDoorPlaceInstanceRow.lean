/-
  The row of PlaceInstance: the walk lifted.
-/
import Derived.Test.YtminjjdnmpaaoaaGreatDoorCards
import Derived.Test.YtminjjdnmpaaoaaGreatDoorTie
import Derived.Test.YtminjjdnmpaaoaaGreatDoorIn29
import Derived.Test.YtminjjdnmpaaoaaGreatDoorIn17
import Derived.Test.YtminjjdnmpaaoaaGreatDoorIn01
import Derived.ProofKit
import Derived.OpenShut
import Derived.Deep.DeepHandedRow
import Derived.Deep.DeepWitnessRowRef
import Derived.Test.YtminjjdnmpaaoaaGreatDoorAl
set_option linter.all false
set_option maxRecDepth 100000
namespace Go.Proofs.YtminjjdnmpaaoaaGreatDoor
open Go.ChangeShapes Go.WideShapes Go.ChangeAt Go.RowKit
theorem zEM:ownKnob Tryz.prog.godebug=none:=by kernel_rfl
theorem zC2:laidOutB Tryz.prog=true:=by kernel_rfl
theorem zEN {W:World} (h:laidMet Tryz.prog Rows.placeInstanceUptoRow.laid W):Tab W:=by
 have h1:=h.tail.tail
 exact Lib.tabIs_of_head (g:=3) (by kernel_rfl) (by kernel_rfl) Tryz.underlying264 Tryz.underlying160 (by kernel_rfl) (by kernel_rfl) h1
theorem zC0 (H:Type) (enc:TypeId×Value→H) (W:World) (base:Nat) (args:Array Value) (ds gs:List (DataW H)) (before:List MemPlace)
  (hval:∀ (j:Nat) t v,Tryz.f5.params[j]?=some t→args[j]?=some v→Value.okWide Tryz.prog W .any base t v)
  (hW:DataW.Whole enc Tryz.prog Tryz.f5.params.toList Rows.placeInstanceSpec.vars false W args.toList ds gs before) (hL:laidMet Tryz.prog Rows.placeInstanceUptoRow.laid W) (hS:W.ShapedOpen Tryz.prog) (hk:Rows.uptoSmall H (ds++gs)=true) :
  Calls Tryz.prog 5 args W fun e W'=>∃ v,e=.returned v∧Rows.placeInstanceSpec.post enc Tryz.prog Tryz.f5 false true false false W args v W':=by
 have hW':=hW
 obtain ⟨p,q,hA0,hV,rfl,hfz,hnd⟩:=hW
 have hA:DataW.TrodAll enc Tryz.prog W 0 (fun _=>true) true Tryz.f5.params.toList args.toList ds p:=hA0
 rw[Tryz.params5] at hA hval
 obtain ⟨v0,d0,rfl,rfl,h0⟩:=trodAll_one hA
 obtain ⟨rfl,rfl⟩:=trodVars_none hV
 obtain ⟨x0,hx0,hbk0⟩:=zNP (hval 0 35 v0 rfl rfl) h0
 have hb:=zMm hk
 simp only[List.append_nil,Rows.uptoBulkAll] at hb
 refine (zD6 x0 v0 W _ (zEN hL) hx0 (zNJ (by omega))).mono fun e W' ⟨he,hb⟩=>?_
 exact ⟨_,he,zLl (tb:=4) zC2 rfl hW' rfl Tryz.underlying4 rfl rfl rfl (fun t ht=>by
  rw[Tryz.params5] at ht
  simp at ht
  first|subst ht|(rcases ht with rfl|rfl)
  all_goals exact ⟨by kernel_rfl,of_decide_eq_true (by kernel_rfl)⟩) hb⟩
theorem zD4 (os:Os):laidMet Tryz.prog Rows.placeInstanceUptoRow.laid ((zFY Tryz.prog Rows.placeInstanceUptoRow.laid os).forCall (fun _ _=>0) ⟨#[],#[.agg #[.slice none 0 0,.slice none 0 0,.slice none 0 0,.slice none 0 0,.slice none 0 0,.bool false,.int .i64 0,.int .i64 0,.int .i64 0,.int .i64 0,.slice none 0 0,.bool false]],[]⟩).memory:=
 laidMet_of_run' 8 (by kernel_rfl) (by kernel_rfl)
theorem zDf (os:Os) {H:Type} (enc:TypeId×Value→H):∃ places,DataW.whole enc Tryz.prog ((zFY Tryz.prog Rows.placeInstanceUptoRow.laid os).forCall (fun _ _=>0) ⟨#[],#[.agg #[.slice none 0 0,.slice none 0 0,.slice none 0 0,.slice none 0 0,.slice none 0 0,.bool false,.int .i64 0,.int .i64 0,.int .i64 0,.int .i64 0,.slice none 0 0,.bool false]],[]⟩).memory Tryz.f5.params.toList Rows.placeInstanceSpec.vars false #[Value.agg #[.slice none 0 0,.slice none 0 0,.slice none 0 0,.slice none 0 0,.slice none 0 0,.bool false,.int .i64 0,.int .i64 0,.int .i64 0,.int .i64 0,.slice none 0 0,.bool false]].toList 8=some ([.agg [.nil,.agg [.nil,.nil,.nil,.nil],.lit (.bool false),.agg [.lit (.int .i64 0),.lit (.int .i64 0),.lit (.int .i64 0),.lit (.int .i64 0)],.agg [.nil],.lit (.bool false)]],[],places):=
 ⟨[],by kernel_rfl⟩
theorem zDU (os:Os) (started:os.Started) (H:Type) (enc:TypeId×Value→H) (F:Stop.Interp) :
  ReturnsInHanded {} Tryz.checked os 5 .any ((Rows.OpenSpec.upto Rows.placeInstanceSpec).preRow enc Tryz.prog Tryz.f5 Rows.placeInstanceUptoRow.domain false Rows.placeInstanceUptoRow.laid) (((Rows.OpenSpec.upto Rows.placeInstanceSpec).at F).post enc Tryz.prog Tryz.f5 false true false false):=by
 obtain ⟨places,hx⟩:=zDf os enc
 refine returnsInHanded_of_row (C:=Tryz.checked) (s:=Rows.OpenSpec.upto Rows.placeInstanceSpec) zEM started (by kernel_rfl) Tryz.func5
  (witness_row_at (enc:=enc) (C:=Tryz.checked) false (zFY Tryz.prog Rows.placeInstanceUptoRow.laid os) #[.agg #[.slice none 0 0,.slice none 0 0,.slice none 0 0,.slice none 0 0,.slice none 0 0,.bool false,.int .i64 0,.int .i64 0,.int .i64 0,.int .i64 0,.slice none 0 0,.bool false]] rfl (by kernel_rfl) (by kernel_rfl) (by kernel_rfl)
    (OpenSpec.preRow_of_cond 8 hx (by kernel_rfl) (fun k hk=>by cases hk;kernel_rfl) (by kernel_rfl) (zD4 os))) ?_
 intro W base args ds gs before hval hW _ hcond _ hL hS _
 exact zC0 H enc W base args ds gs before hval hW hL hS (hcond _ rfl)
