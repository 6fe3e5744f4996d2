/-
  The row of PlaceSolved: the walk lifted.
-/
import Derived.Test.YtminjjdnmpaaoaaGreatDoorCards
import Derived.Test.YtminjjdnmpaaoaaGreatDoorTie
import Derived.Test.YtminjjdnmpaaoaaGreatDoorSv32
import Derived.Test.YtminjjdnmpaaoaaGreatDoorSv24
import Derived.Test.YtminjjdnmpaaoaaGreatDoorSv01
import Derived.ProofKit
import Derived.OpenShut
import Derived.Deep.DeepHandedRow
import Derived.Deep.DeepWitnessRowRef
import Derived.Test.YtminjjdnmpaaoaaGreatDoorAl
set_option linter.all false
set_option maxRecDepth 100000
namespace Go.Proofs.YtminjjdnmpaaoaaGreatDoor
open Go.ChangeShapes Go.WideShapes Go.ChangeAt Go.RowKit
theorem zFC:ownKnob Tryz.prog.godebug=none:=by kernel_rfl
theorem zDZ:laidOutB Tryz.prog=true:=by kernel_rfl
theorem zFB {W:World} (h:laidMet Tryz.prog Rows.placeSolvedUptoRow.laid W):Tab W:=by
 have h1:=h.tail.tail
 exact Lib.tabIs_of_head (g:=3) (by kernel_rfl) (by kernel_rfl) Tryz.underlying264 Tryz.underlying160 (by kernel_rfl) (by kernel_rfl) h1
theorem zDL (H:Type) (enc:TypeId×Value→H) (W:World) (base:Nat) (args:Array Value) (ds gs:List (DataW H)) (before:List MemPlace)
  (hval:∀ (j:Nat) t v,Tryz.f4.params[j]?=some t→args[j]?=some v→Value.okWide Tryz.prog W .any base t v)
  (hW:DataW.Whole enc Tryz.prog Tryz.f4.params.toList Rows.placeSolvedSpec.vars false W args.toList ds gs before) (hL:laidMet Tryz.prog Rows.placeSolvedUptoRow.laid W) (hS:W.ShapedOpen Tryz.prog) (hk:Rows.uptoSmall H (ds++gs)=true) :
  Calls Tryz.prog 4 args W fun e W'=>∃ v,e=.returned v∧Rows.placeSolvedSpec.post enc Tryz.prog Tryz.f4 false true false false W args v W':=by
 have hW':=hW
 obtain ⟨p,q,hA0,hV,rfl,hfz,hnd⟩:=hW
 have hA:DataW.TrodAll enc Tryz.prog W 0 (fun _=>true) true Tryz.f4.params.toList args.toList ds p:=hA0
 rw[Tryz.params4] at hA hval
 obtain ⟨v0,d0,rfl,rfl,h0⟩:=trodAll_one hA
 obtain ⟨rfl,rfl⟩:=trodVars_none hV
 obtain ⟨x0,hx0,hbk0⟩:=zM2 (hval 0 35 v0 rfl rfl) h0
 have hb:=zMa hk
 simp only[List.append_nil,Rows.uptoBulkAll] at hb
 refine (zFH x0 v0 W _ (zFB hL) hx0 (zMn (by omega))).mono fun e W' ⟨he,hb⟩=>?_
 exact ⟨_,he,zL6 (tb:=4) zDZ rfl hW' rfl Tryz.underlying4 rfl rfl rfl (fun t ht=>by
  rw[Tryz.params4] at ht
  simp at ht
  first|subst ht|(rcases ht with rfl|rfl)
  all_goals exact ⟨by kernel_rfl,of_decide_eq_true (by kernel_rfl)⟩) hb⟩
theorem zEO (os:Os):laidMet Tryz.prog Rows.placeSolvedUptoRow.laid ((zEj Tryz.prog Rows.placeSolvedUptoRow.laid os).forCall (fun _ _=>0) ⟨#[],#[.agg #[.slice none 0 0,.slice none 0 0,.slice none 0 0,.slice none 0 0,.slice none 0 0,.bool false,.int .i64 0,.int .i64 0,.int .i64 0,.int .i64 0,.slice none 0 0,.bool false]],[]⟩).memory:=
 laidMet_of_run' 8 (by kernel_rfl) (by kernel_rfl)
theorem zEC (os:Os) {H:Type} (enc:TypeId×Value→H):∃ places,DataW.whole enc Tryz.prog ((zEj Tryz.prog Rows.placeSolvedUptoRow.laid os).forCall (fun _ _=>0) ⟨#[],#[.agg #[.slice none 0 0,.slice none 0 0,.slice none 0 0,.slice none 0 0,.slice none 0 0,.bool false,.int .i64 0,.int .i64 0,.int .i64 0,.int .i64 0,.slice none 0 0,.bool false]],[]⟩).memory Tryz.f4.params.toList Rows.placeSolvedSpec.vars false #[Value.agg #[.slice none 0 0,.slice none 0 0,.slice none 0 0,.slice none 0 0,.slice none 0 0,.bool false,.int .i64 0,.int .i64 0,.int .i64 0,.int .i64 0,.slice none 0 0,.bool false]].toList 8=some ([.agg [.nil,.agg [.nil,.nil,.nil,.nil],.lit (.bool false),.agg [.lit (.int .i64 0),.lit (.int .i64 0),.lit (.int .i64 0),.lit (.int .i64 0)],.agg [.nil],.lit (.bool false)]],[],places):=
 ⟨[],by kernel_rfl⟩
theorem zDu (os:Os) (started:os.Started) (H:Type) (enc:TypeId×Value→H) (F:Stop.Interp) :
  ReturnsInHanded {} Tryz.checked os 4 .any ((Rows.OpenSpec.upto Rows.placeSolvedSpec).preRow enc Tryz.prog Tryz.f4 Rows.placeSolvedUptoRow.domain false Rows.placeSolvedUptoRow.laid) (((Rows.OpenSpec.upto Rows.placeSolvedSpec).at F).post enc Tryz.prog Tryz.f4 false true false false):=by
 obtain ⟨places,hx⟩:=zEC os enc
 refine returnsInHanded_of_row (C:=Tryz.checked) (s:=Rows.OpenSpec.upto Rows.placeSolvedSpec) zFC started (by kernel_rfl) Tryz.func4
  (witness_row_at (enc:=enc) (C:=Tryz.checked) false (zEj Tryz.prog Rows.placeSolvedUptoRow.laid os) #[.agg #[.slice none 0 0,.slice none 0 0,.slice none 0 0,.slice none 0 0,.slice none 0 0,.bool false,.int .i64 0,.int .i64 0,.int .i64 0,.int .i64 0,.slice none 0 0,.bool false]] rfl (by kernel_rfl) (by kernel_rfl) (by kernel_rfl)
    (OpenSpec.preRow_of_cond 8 hx (by kernel_rfl) (fun k hk=>by cases hk;kernel_rfl) (by kernel_rfl) (zEO os))) ?_
 intro W base args ds gs before hval hW _ hcond _ hL hS _
 exact zDL H enc W base args ds gs before hval hW hL hS (hcond _ rfl)
