/-
  The row of ImageBack: the walk lifted.
-/
import Derived.Test.YthbnmehbhpakaaaGreatDoorCards
import Derived.Test.YthbnmehbhpakaaaGreatDoorTie
import Derived.Test.YthbnmehbhpakaaaGreatDoorBk31
import Derived.Test.YthbnmehbhpakaaaGreatDoorBk20
import Derived.Test.YthbnmehbhpakaaaGreatDoorBk02
import Derived.ProofKit
import Derived.OpenShut
import Derived.Deep.DeepHandedRow
import Derived.Deep.DeepWitnessRowRef
import Derived.Test.YthbnmehbhpakaaaGreatDoorAl
set_option linter.all false
set_option maxRecDepth 100000
namespace Go.Proofs.YthbnmehbhpakaaaGreatDoor
open Go.ChangeShapes Go.WideShapes Go.ChangeAt Go.RowKit
theorem zJY:ownKnob Tryz.prog.godebug=none:=by kernel_rfl
theorem zFo:laidOutB Tryz.prog=true:=by kernel_rfl
theorem zJK {W:World} (h:laidMet Tryz.prog Rows.imageBackUptoRow.laid W):Tab W:=by
 have h1:=h.tail.tail
 exact Lib.tabIs_of_head (g:=1) (by kernel_rfl) (by kernel_rfl) Tryz.underlying316 Tryz.underlying202 (by kernel_rfl) (by kernel_rfl) h1
theorem zDu (u:TypeId) (h:Tryz.prog.typeName? 3 u=some "*errors.errorString"):u=345:=
 typeName_ptr_named (nm:="errors.errorString") (by rw[show "*"++"errors.errorString" = "*errors.errorString" by decide];kernel_rfl) (by kernel_rfl) (by decide) u (by rw[show "*"++"errors.errorString" = "*errors.errorString" by decide];exact h)
theorem zJT {W:World} (h:laidMet Tryz.prog Rows.imageBackUptoRow.laid W) (hS:W.ShapedOpen Tryz.prog):Vok W:=
 ⟨zJK h,Tryz.laysM146.s1_3 W hS,
   zPd (n:="strconv.ErrSyntax") (g:=2) (ti:=124) (ts:=9) h.tail.tail.tail.tail.tail (by kernel_rfl) (by kernel_rfl) Tryz.underlying124 zDu Tryz.underlying345 Tryz.underlying347 rfl rfl Tryz.underlying9 (by kernel_rfl) (by kernel_rfl),
   zPd (n:="strconv.ErrRange") (g:=3) (ti:=124) (ts:=9) h.tail.tail.tail.tail (by kernel_rfl) (by kernel_rfl) Tryz.underlying124 zDu Tryz.underlying345 Tryz.underlying347 rfl rfl Tryz.underlying9 (by kernel_rfl) (by kernel_rfl)⟩
theorem zFN (H:Type) (enc:TypeId×Value→H) (W:World) (base:Nat) (args:Array Value) (ds gs:List (DataW H)) (before:List MemPlace)
  (hval:∀ (j:Nat) t v,Tryz.f5.params[j]?=some t→args[j]?=some v→Value.okWide Tryz.prog W .any base t v)
  (hW:DataW.Whole enc Tryz.prog Tryz.f5.params.toList Rows.imageBackSpec.vars false W args.toList ds gs before) (hL:laidMet Tryz.prog Rows.imageBackUptoRow.laid W) (hS:W.ShapedOpen Tryz.prog) (hk:Rows.uptoSmall H (ds++gs)=true) :
  Calls Tryz.prog 5 args W fun e W'=>∃ v,e=.returned v∧Rows.imageBackSpec.post enc Tryz.prog Tryz.f5 false true false false W args v W':=by
 have hW':=hW
 obtain ⟨p,q,hA0,hV,rfl,hfz,hnd⟩:=hW
 have hA:DataW.TrodAll enc Tryz.prog W 0 (fun _=>true) true Tryz.f5.params.toList args.toList ds p:=hA0
 rw[Tryz.params5] at hA hval
 obtain ⟨v0,d0,rfl,rfl,h0⟩:=trodAll_one hA
 obtain ⟨rfl,rfl⟩:=trodVars_none hV
 obtain ⟨x0,hx0,hbk0⟩:=zRA (hval 0 32 v0 rfl rfl) h0
 have hb:=zSx hk
 simp only[List.append_nil,Rows.uptoBulkAll] at hb
 refine (zJw x0 v0 W _ (zJT hL hS) (zRN (by omega)) hx0).mono fun e W' ⟨he,hb⟩=>?_
 exact ⟨_,he,zRt (tb:=4) zFo rfl hW' rfl Tryz.underlying4 rfl rfl rfl (fun t ht=>by
  rw[Tryz.params5] at ht
  simp at ht
  first|subst ht|(rcases ht with rfl|rfl)
  all_goals exact ⟨by kernel_rfl,of_decide_eq_true (by kernel_rfl)⟩) hb⟩
theorem zH2 (os:Os):laidMet Tryz.prog Rows.imageBackUptoRow.laid ((zFy Tryz.prog Rows.imageBackUptoRow.laid os).forCall (fun _ _=>0) ⟨#[],#[.agg #[.slice none 0 0,.slice none 0 0,.slice none 0 0,.slice none 0 0,.slice none 0 0,.slice none 0 0,.bool false]],[]⟩).memory:=
 laidMet_of_run' 8 (by kernel_rfl) (by kernel_rfl)
theorem zHD (os:Os) {H:Type} (enc:TypeId×Value→H):∃ places,DataW.whole enc Tryz.prog ((zFy Tryz.prog Rows.imageBackUptoRow.laid os).forCall (fun _ _=>0) ⟨#[],#[.agg #[.slice none 0 0,.slice none 0 0,.slice none 0 0,.slice none 0 0,.slice none 0 0,.slice none 0 0,.bool false]],[]⟩).memory Tryz.f5.params.toList Rows.imageBackSpec.vars false #[Value.agg #[.slice none 0 0,.slice none 0 0,.slice none 0 0,.slice none 0 0,.slice none 0 0,.slice none 0 0,.bool false]].toList 8=some ([.agg [.agg [.nil,.nil,.nil,.nil],.agg [.nil],.agg [.nil],.lit (.bool false)]],[],places):=
 ⟨[],by kernel_rfl⟩
theorem zGO (os:Os) (started:os.Started) (H:Type) (enc:TypeId×Value→H) (F:Stop.Interp) :
  ReturnsInHanded {} Tryz.checked os 5 .any ((Rows.OpenSpec.upto Rows.imageBackSpec).preRow enc Tryz.prog Tryz.f5 Rows.imageBackUptoRow.domain false Rows.imageBackUptoRow.laid) (((Rows.OpenSpec.upto Rows.imageBackSpec).at F).post enc Tryz.prog Tryz.f5 false true false false):=by
 obtain ⟨places,hx⟩:=zHD os enc
 refine returnsInHanded_of_row (C:=Tryz.checked) (s:=Rows.OpenSpec.upto Rows.imageBackSpec) zJY started (by kernel_rfl) Tryz.func5
  (witness_row_at (enc:=enc) (C:=Tryz.checked) false (zFy Tryz.prog Rows.imageBackUptoRow.laid os) #[.agg #[.slice none 0 0,.slice none 0 0,.slice none 0 0,.slice none 0 0,.slice none 0 0,.slice none 0 0,.bool false]] rfl (by kernel_rfl) (by kernel_rfl) (by kernel_rfl)
    (OpenSpec.preRow_of_cond 8 hx (by kernel_rfl) (fun k hk=>by cases hk;kernel_rfl) (by kernel_rfl) (zH2 os))) ?_
 intro W base args ds gs before hval hW _ hcond _ hL hS _
 exact zFN H enc W base args ds gs before hval hW hL hS (hcond _ rfl)
