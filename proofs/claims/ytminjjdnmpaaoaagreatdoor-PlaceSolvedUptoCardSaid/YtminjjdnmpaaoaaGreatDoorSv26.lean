/- The document's catalog: a package of a name and a version: walked. (Printed by gen_srcc.py.) -/
import Derived.Test.YtminjjdnmpaaoaaGreatDoorSv25
import Derived.Test.YtminjjdnmpaaoaaGreatDoorSv10
import Derived.Test.YtminjjdnmpaaoaaGreatDoorSv15
import Derived.Test.YtminjjdnmpaaoaaGreatDoorSv02
import Derived.Lib.Hide
import Derived.Test.YtminjjdnmpaaoaaGreatDoorSv05
import Derived.Deep.LoopGhost
import Derived.WalkMore
import Derived.Deep.RegionHeld3
import Derived.Laws.OwnMore
import Derived.Deep.AppendSrc
import Derived.Deep.Upon
import Derived.Test.YtminjjdnmpaaoaaGreatDoorSv08
import Derived.Test.YtminjjdnmpaaoaaGreatDoorSv24
import Derived.Lib.Split
import Derived.Lib.SplitLaws
import Derived.Lib.PathFns
import Derived.Lib.IndexMore
import Derived.Lib.UnsafeStr
import Derived.Lib.AtoiAllCases
import Derived.RangeFuncNested
import Derived.RangeFuncBound
import Derived.RangeFuncCalls
import Derived.RangeFuncLeaves
import Derived.OwnWalkIn
import Derived.Shelf.Abstract
import Derived.Shelf.RegionOpen
import Derived.TacticsInMore
import Derived.LoopNIn
import Derived.LoopIn
import Derived.Deep.CutRange
import Derived.Deep.RegionLaw
import Derived.WalkKit
import Derived.WalkSpells
import Derived.IntWalk
import Derived.ScopeJumps
import Derived.Test.YtminjjdnmpaaoaaGreatDoorAl
set_option linter.all false
set_option maxHeartbeats 6400000
set_option maxRecDepth 100000
namespace Go.Proofs.YtminjjdnmpaaoaaGreatDoor
open Go.Rows Go.RowKit Go.Shelf Go.Sort
theorem zFK {w:World} {S:Nat→Prop} {L:List Pack} {A:Option Addr} {n c k:Nat} {x:Pack} (hl:SlV rPack w S L (.slice A n c)) (hx:L[k]?=some x) :
  ∃ b o A1 B1 C1 a1 b1 c1,A=some ⟨b,o,none⟩∧b<w.heap.size∧S b∧PackV w S x (.agg #[.string x.name,.int .i64 x.ver.major,.int .i64 x.ver.minor,.int .i64 x.ver.patch,.slice A1 x.deps.length a1,.slice B1 x.peers.length b1,.slice C1 x.opts.length c1])∧(I64 x.ver.major∧I64 x.ver.minor∧I64 x.ver.patch) ∧
    w.cell? ⟨b,o+k * 7,none⟩=some (.string x.name)∧w.cell? ⟨b,o+k * 7+1,none⟩=some (.int .i64 x.ver.major)∧w.cell? ⟨b,o+k * 7+2,none⟩=some (.int .i64 x.ver.minor)∧w.cell? ⟨b,o+k * 7+3,none⟩=some (.int .i64 x.ver.patch) ∧
    w.cell? ⟨b,o+k * 7+4,none⟩=some (.slice A1 x.deps.length a1)∧w.cell? ⟨b,o+k * 7+5,none⟩=some (.slice B1 x.peers.length b1)∧w.cell? ⟨b,o+k * 7+6,none⟩=some (.slice C1 x.opts.length c1):=by
 obtain ⟨b,o,cs,hA,hS,hb,hh,hcell⟩:=hl.elem hx
 obtain ⟨s0,s1,s2,rfl,hnm,i1,i2,i3,h1,h2,h3⟩:=hh
 obtain ⟨A1,a1,rfl,_,_⟩:=h1.val
 obtain ⟨B1,b1,rfl,_,_⟩:=h2.val
 obtain ⟨C1,c1,rfl,_,_⟩:=h3.val
 have c0:=hcell 0 _ rfl
 have d1:=hcell 1 _ rfl
 have d2:=hcell 2 _ rfl
 have d3:=hcell 3 _ rfl
 have d4:=hcell 4 _ rfl
 have d5:=hcell 5 _ rfl
 have d6:=hcell 6 _ rfl
 simp only[rPack,Nat.add_zero] at c0 d1 d2 d3 d4 d5 d6
 exact ⟨b,o,A1,B1,C1,a1,b1,c1,hA,hb,hS,⟨_,_,_,_,_,_,_,_,_,rfl,hnm,h1,h2,h3⟩,⟨i1,i2,i3⟩,c0,d1,d2,d3,d4,d5,d6⟩
theorem zKu {L:List Pack} {s:ByteArray} {v:Ver} {k:Nat} (h:L.length≤k):getC (L.drop k) s v=none:=by rw[dN h];rfl
theorem zKg {L:List Pack} {k:Nat} {x:Pack} (hx:L[k]?=some x) (s:ByteArray) (v:Ver):getC (L.drop k) s v=if isC s v x=true then some x else getC (L.drop (k+1)) s v:=by
 obtain ⟨h,e⟩:=gS.1 hx
 rw[dC h,e]
 unfold getC
 rw[List.find?_cons]
 cases isC s v x<;>rfl
theorem zMW (s:ByteArray) (v:Ver) (x:Pack):isC s v x=(decide (x.name=s)&&(decide (x.ver.major=v.major)&&(decide (x.ver.minor=v.minor)&&decide (x.ver.patch=v.patch)))):=by unfold isC;rw[zEE]
theorem zHR {P:Program} {fn:Func} {R:Ending→World→Prop} {ty:TypeId} {d:TypeDesc} {p q:Tmp} {a:Act} {W:World} {g:Nat} {x0 x1 x2 x3 x4 x5 x6 bv:Value} {t:TypeId} (hf:fn.results=#[.cell p ty,.tmp q]) (hd:a.defers=[]) (h2:a.tmps.getD p undef=.pointer (some ⟨g,0,none⟩)) (h3:a.tmps.getD q undef=bv)
  (hg:W.heap[g]?=some (.cells #[x0,x1,x2,x3,x4,x5,x6] t (0,0))) (hu:P.underlying ty=some d) (hdd:(match d with|.struct _|.array _ _=>true|_=>false)=true) (hi:(P.info? ty).map (·.size)=some 7)
  (h:R (.returned (.tuple #[.agg #[x0,x1,x2,x3,x4,x5,x6],bv])) W):bodyPost P fn R Exit.ret a W:=
 bodyPost_ret (zBo hf a.tmps W g t #[x0,x1,x2,x3,x4,x5,x6] (0,0) d h2 hg hu hdd hi) hd (by rw[h3];exact h)
theorem set7Q {W:World} {b:Nat} {x0 x1 x2 x3 x4 x5 x6:Value} {t:TypeId} (h:W.heap[b]?=some (.cells #[x0,x1,x2,x3,x4,x5,x6] t (0,0))) (a0 a1 a2 a3 a4 a5 a6:Value) :
  (((((((W.setCell ⟨b,0,none⟩ a0).setCell ⟨b,1,none⟩ a1).setCell ⟨b,2,none⟩ a2).setCell ⟨b,3,none⟩ a3).setCell ⟨b,4,none⟩ a4).setCell ⟨b,5,none⟩ a5).setCell ⟨b,6,none⟩ a6).heap[b]?=some (.cells #[a0,a1,a2,a3,a4,a5,a6] t (0,0)):=by
 have h0:(W.setCell ⟨b,0,none⟩ a0).heap[b]?=some (.cells #[a0,x1,x2,x3,x4,x5,x6] t (0,0)):=set1Q h a0
 have h1:((W.setCell ⟨b,0,none⟩ a0).setCell ⟨b,1,none⟩ a1).heap[b]?=some (.cells #[a0,a1,x2,x3,x4,x5,x6] t (0,0)):=set1Q h0 a1
 have h2:(((W.setCell ⟨b,0,none⟩ a0).setCell ⟨b,1,none⟩ a1).setCell ⟨b,2,none⟩ a2).heap[b]?=some (.cells #[a0,a1,a2,x3,x4,x5,x6] t (0,0)):=set1Q h1 a2
 have h3:((((W.setCell ⟨b,0,none⟩ a0).setCell ⟨b,1,none⟩ a1).setCell ⟨b,2,none⟩ a2).setCell ⟨b,3,none⟩ a3).heap[b]?=some (.cells #[a0,a1,a2,a3,x4,x5,x6] t (0,0)):=set1Q h2 a3
 have h4:(((((W.setCell ⟨b,0,none⟩ a0).setCell ⟨b,1,none⟩ a1).setCell ⟨b,2,none⟩ a2).setCell ⟨b,3,none⟩ a3).setCell ⟨b,4,none⟩ a4).heap[b]?=some (.cells #[a0,a1,a2,a3,a4,x5,x6] t (0,0)):=set1Q h3 a4
 have h5:((((((W.setCell ⟨b,0,none⟩ a0).setCell ⟨b,1,none⟩ a1).setCell ⟨b,2,none⟩ a2).setCell ⟨b,3,none⟩ a3).setCell ⟨b,4,none⟩ a4).setCell ⟨b,5,none⟩ a5).heap[b]?=some (.cells #[a0,a1,a2,a3,a4,a5,x6] t (0,0)):=set1Q h4 a5
 have h6:(((((((W.setCell ⟨b,0,none⟩ a0).setCell ⟨b,1,none⟩ a1).setCell ⟨b,2,none⟩ a2).setCell ⟨b,3,none⟩ a3).setCell ⟨b,4,none⟩ a4).setCell ⟨b,5,none⟩ a5).setCell ⟨b,6,none⟩ a6).heap[b]?=some (.cells #[a0,a1,a2,a3,a4,a5,a6] t (0,0)):=set1Q h5 a6
 exact h6
theorem zAj {B:Nat} {w W:World} (h:Below B w W) {b:Nat} (hb:B≤b) (a0 a1 a2 a3 a4 a5 a6:Value):Below B w (((((((W.setCell ⟨b,0,none⟩ a0).setCell ⟨b,1,none⟩ a1).setCell ⟨b,2,none⟩ a2).setCell ⟨b,3,none⟩ a3).setCell ⟨b,4,none⟩ a4).setCell ⟨b,5,none⟩ a5).setCell ⟨b,6,none⟩ a6):=((((((h.setCell hb _).setCell hb _).setCell hb _).setCell hb _).setCell hb _).setCell hb _).setCell hb _
theorem row7 {W:World} {b:Nat} {x0 x1 x2 x3 x4 x5 x6:Value} {t:TypeId} (h:W.heap[b]?=some (.cells #[x0,x1,x2,x3,x4,x5,x6] t (0,0))) :
  (W.cell? ⟨b,0,none⟩=some x0∧W.cell? ⟨b,1,none⟩=some x1∧W.cell? ⟨b,2,none⟩=some x2∧W.cell? ⟨b,3,none⟩=some x3∧W.cell? ⟨b,4,none⟩=some x4∧W.cell? ⟨b,5,none⟩=some x5∧W.cell? ⟨b,6,none⟩=some x6) ∧
  (W.frozen? ⟨b,0,none⟩=false∧W.frozen? ⟨b,1,none⟩=false∧W.frozen? ⟨b,2,none⟩=false∧W.frozen? ⟨b,3,none⟩=false∧W.frozen? ⟨b,4,none⟩=false∧W.frozen? ⟨b,5,none⟩=false∧W.frozen? ⟨b,6,none⟩=false):=by
 refine ⟨⟨cO _ _ 0 _ _ _ h,cO _ _ 1 _ _ _ h,cO _ _ 2 _ _ _ h,cO _ _ 3 _ _ _ h,cO _ _ 4 _ _ _ h,cO _ _ 5 _ _ _ h,cO _ _ 6 _ _ _ h⟩,?_,?_,?_,?_,?_,?_,?_⟩<;>simp[World.frozen?,h]
theorem zJo (w:World) (S:Nat→Prop):PackV w S zAC (.agg #[.string ⟨#[]⟩,.int .i64 0,.int .i64 0,.int .i64 0,.slice none 0 0,.slice none 0 0,.slice none 0 0]):=⟨none,0,0,none,0,0,none,0,0,rfl,by decide,SlV.nil_ _ _ _,SlV.nil_ _ _ _,SlV.nil_ _ _ _⟩
theorem zEW (cB:Nat) (A:Option Addr) (n c:Nat) (L:List Pack) (s:ByteArray) (v:Ver) (w:World) (S:Nat→Prop) (hc:w.cell? ⟨cB,0,none⟩=some (.slice A n c)) (hl:SlV rPack w S L (.slice A n c)) :
  Calls Tryz.prog 35 #[.pointer (some ⟨cB,0,none⟩),.string s,.agg #[.int .i64 v.major,.int .i64 v.minor,.int .i64 v.patch]] w fun e w'=>∃ u,e=.returned (.tuple #[u,.bool (getC L s v).isSome])∧PackV w' S ((getC L s v).getD zAC) u∧Below w.heap.size w w':=by
 have hn:=hl.n_eq
 have hcap:=hl.cap_le
 unfold maxLen at hcap
 have hcB:cB<w.heap.size:=zAf hc
 have HL:=cH hl
 have Hz0:Hid (L.length=n):=hn.symm
 have HR:Hid (getC L s v=getC (L.drop 0) s v):=rfl
 have hnz:n≤9223372036854775807:=by omega
 obtain ⟨R,hR⟩:∃ R,R=getC L s v:=⟨_,rfl⟩
 rw[←hR] at HR ⊢
 have HStep:Hid (∀ (k:Nat) (x:Pack),L[k]?=some x→getC (L.drop k) s v=if (decide (x.name=s)&&(decide (x.ver.major=v.major)&&(decide (x.ver.minor=v.minor)&&decide (x.ver.patch=v.patch))))=true then some x else getC (L.drop (k+1)) s v):=fun k x hx=>by rw[zKg hx,zMW]
 have HEnd:Hid (∀ k,n≤k→getC (L.drop k) s v=none):=fun k hk=>zKu (by rw[←hn];exact hk)
 obtain ⟨v1,v2,v3⟩:=v
 simp only at HStep ⊢
 clear hl hn hR hcap
 obtain ⟨w0,hw0⟩:∃ w0,w0=(w.alloc (.cells #[.int .i64 v1,.int .i64 v2,.int .i64 v3] 50)).alloc (.cells #[.string ⟨#[]⟩,.int .i64 0,.int .i64 0,.int .i64 0,.slice none 0 0,.slice none 0 0,.slice none 0 0] 52):=⟨_,rfl⟩
 have hw1:(w.alloc (.cells #[.int .i64 v1,.int .i64 v2,.int .i64 v3] 50)).heap.size=w.heap.size+1:=by simp
 have HB0:Hid (Below w.heap.size w w0):=by unfold Hid;rw[hw0];exact bal (bal (bR _ _) _) _
 have hqX:w0.heap[w.heap.size]?=some (.cells #[.int .i64 v1,.int .i64 v2,.int .i64 v3] 50 (0,0)):=by
  rw[hw0]
  exact ((bal (bR _ _) _).block _ (by rw[hw1];omega)).trans (zAD _ _)
 have hqY:w0.heap[w.heap.size+1]?=some (.cells #[.string ⟨#[]⟩,.int .i64 0,.int .i64 0,.int .i64 0,.slice none 0 0,.slice none 0 0,.slice none 0 0] 52 (0,0)):=by
  rw[hw0,←hw1]
  exact zAD _ _
 obtain ⟨VB,hVB⟩:∃ k,k=w.heap.size:=⟨_,rfl⟩
 obtain ⟨PB,hPB⟩:∃ k,k=w.heap.size+1:=⟨_,rfl⟩
 rw[←hVB] at hqX
 rw[←hPB] at hqY
 have Hg:Hid (w.heap.size≤PB):=by unfold Hid;omega
 have HV:Hid (∀ W,Below w0.heap.size w0 W→W.cell? ⟨VB,0,none⟩=some (.int .i64 v1)∧W.cell? ⟨VB,1,none⟩=some (.int .i64 v2)∧W.cell? ⟨VB,2,none⟩=some (.int .i64 v3)):=fun W hW=>by
  have h:=(hW.block _ (aS.1 hqX).1).trans hqX
  exact ⟨cO _ _ 0 _ _ _ h,cO _ _ 1 _ _ _ h,cO _ _ 2 _ _ _ h⟩
 have HP:Hid (∀ W,Below w0.heap.size w0 W→W.heap[PB]?=some (.cells #[.string ⟨#[]⟩,.int .i64 0,.int .i64 0,.int .i64 0,.slice none 0 0,.slice none 0 0,.slice none 0 0] 52 (0,0))):=fun W hW=>(hW.block _ (aS.1 hqY).1).trans hqY
 have HC:Hid (∀ W,Below w.heap.size w W→W.cell? ⟨cB,0,none⟩=some (.slice A n c)):=fun W hW=>zAA hW hc hcB
 clear hqX hqY hw1 hc
 go_enter Tryz.func35,Tryz.ntmps35
 go_wp2_with fail
 rw[←hw0,←hPB,←hVB]
 clear hw0 hPB hVB
 go_loopw [8] (fun t wr=>∃ k:Nat,k≤n∧t=.int .i64 k∧Hid (R=getC (L.drop k) s ⟨v1,v2,v3⟩)∧Hid (Below w0.heap.size w0 wr)) (fun t _=>n - (intOf t).toNat)
 case atStart=>exact ⟨0,nZ _,rfl,HR,bR _ _⟩
 case round=>
  clear HR
  obtain ⟨k,hk,rfl,heq,hB⟩:=hrel
  have hk0:(0:Int)≤(k:Int):=by omega
  have HBw:=cH (bot HB0.out hB.out)
  have z0:=HC.out wr HBw.out
  by_cases hlt:k<n
  case neg=>
   have He:Hid (R=none):=by unfold Hid;rw[heq.out,HEnd.out k (by omega)]
   have hI:¬(k:Int)<(n:Int):=by omega
   have hrow:=HP.out wr hB.out
   obtain ⟨⟨d0,d1,d2,d3,d4,d5,d6⟩,e0,e1,e2,e3,e4,e5,e6⟩:=row7 hrow
   have Hrow:=cH hrow
   clear heq hrow
   go_wp2_with fail
   refine zHR rfl rfl rfl rfl (set7Q Hrow.out _ _ _ _ _ _ _) Tryz.underlying52 rfl (by kernel_rfl) ⟨.agg #[.string ⟨#[]⟩,.int .i64 0,.int .i64 0,.int .i64 0,.slice none 0 0,.slice none 0 0,.slice none 0 0],?_,?_,zAj HBw.out Hg.out _ _ _ _ _ _ _⟩
   ·rw[He.out];rfl
   ·rw[He.out];exact zJo _ _
  have hkI:(k:Int)<(n:Int):=by omega
  obtain ⟨x,hx⟩:∃ x,L[k]?=some x:=⟨_,gE (by have:=Hz0.out;omega)⟩
  obtain ⟨b,o,A1,B1,C1,a1,b1,c1,hA,hb,_,hpv,_,n0,n1,n2,n3,n4,n5,n6⟩:=zFK HL.out hx
  have Hpv:=cH hpv
  have Hrest:Hid (∀ W,Below w.heap.size w W→W.cell? ⟨b,o+k * 7,none⟩=some (.string x.name)∧W.cell? ⟨b,o+k * 7+1,none⟩=some (.int .i64 x.ver.major)∧W.cell? ⟨b,o+k * 7+2,none⟩=some (.int .i64 x.ver.minor)∧W.cell? ⟨b,o+k * 7+3,none⟩=some (.int .i64 x.ver.patch)∧W.cell? ⟨b,o+k * 7+4,none⟩=some (.slice A1 x.deps.length a1)∧W.cell? ⟨b,o+k * 7+5,none⟩=some (.slice B1 x.peers.length b1)∧W.cell? ⟨b,o+k * 7+6,none⟩=some (.slice C1 x.opts.length c1)):=fun W hW=>⟨zAA hW n0 hb,zAA hW n1 hb,zAA hW n2 hb,zAA hW n3 hb,zAA hW n4 hb,zAA hW n5 hb,zAA hW n6 hb⟩
  have n0:=zAA HBw.out n0 hb
  have n1:=zAA HBw.out n1 hb
  have n2:=zAA HBw.out n2 hb
  have n3:=zAA HBw.out n3 hb
  have Hstep:=cH (heq.out.trans (HStep.out k x hx))
  obtain ⟨d0,d1,d2⟩:=HV.out wr hB.out
  have Hx:=cH hx
  clear hpv n4 n5 n6 heq hx
  subst hA
  obtain ⟨xn,⟨x1,x2,x3⟩,xd,xp,xo⟩:=x
  simp only at n0 n1 n2 n3 Hstep Hrest Hpv
  generalize xd.length=l1 at *
  generalize xp.length=l2 at *
  generalize xo.length=l3 at *
  by_cases hnm:xn=s
  rotate_left
  focus
   have hb0:=zAL hnm
   have He:Hid (R=getC (L.drop (k+1)) s ⟨v1,v2,v3⟩):=by unfold Hid;rw[Hstep.out,if_neg (by simp[hnm])]
   clear Hstep Hrest Hpv
   go_upto_region 4 with (fail)
   have r_z0:=cR z0
   have r_n0:=cR n0
   have r_n1:=cR n1
   have r_n2:=cR n2
   have r_n3:=cR n3
   have r_d0:=cR d0
   have r_d1:=cR d1
   have r_d2:=cR d2
   go_wp2_with fail
   refine wQ ?_
   repeat (go_big_quiet_step (first|fail))
   refine wpQuiet_nil fun w4 B4=>?_
   have HB4:=cH (bot hB.out B4)
   clear B4
   go_wp2_with fail
   go_roundw
   case rel=>exact ⟨k+1,by omega,by go_num,He,HB4⟩
   case measure=>simp[intOf];omega
  have hb0:=zAT hnm
  by_cases e1:x1=v1
  rotate_left
  focus
   have hb1:(x1==v1)=false:=beq_eq_false_iff_ne.2 e1
   have He:Hid (R=getC (L.drop (k+1)) s ⟨v1,v2,v3⟩):=by unfold Hid;rw[Hstep.out,if_neg (by simp[e1])]
   clear Hstep Hrest Hpv
   go_upto_region 4 with (fail)
   have r_z0:=cR z0
   have r_n0:=cR n0
   have r_n1:=cR n1
   have r_n2:=cR n2
   have r_n3:=cR n3
   have r_d0:=cR d0
   have r_d1:=cR d1
   have r_d2:=cR d2
   go_wp2_with fail
   refine wQ ?_
   repeat (go_big_quiet_step (first|fail))
   refine wpQuiet_nil fun w4 B4=>?_
   have HB4:=cH (bot hB.out B4)
   clear B4
   go_wp2_with fail
   go_roundw
   case rel=>exact ⟨k+1,by omega,by go_num,He,HB4⟩
   case measure=>simp[intOf];omega
  have hb1:(x1==v1)=true:=by simp[e1]
  by_cases e2:x2=v2
  rotate_left
  focus
   have hb2:(x2==v2)=false:=beq_eq_false_iff_ne.2 e2
   have He:Hid (R=getC (L.drop (k+1)) s ⟨v1,v2,v3⟩):=by unfold Hid;rw[Hstep.out,if_neg (by simp[e2])]
   clear Hstep Hrest Hpv
   go_upto_region 4 with (fail)
   have r_z0:=cR z0
   have r_n0:=cR n0
   have r_n1:=cR n1
   have r_n2:=cR n2
   have r_n3:=cR n3
   have r_d0:=cR d0
   have r_d1:=cR d1
   have r_d2:=cR d2
   go_wp2_with fail
   refine wQ ?_
   repeat (go_big_quiet_step (first|fail))
   refine wpQuiet_nil fun w4 B4=>?_
   have HB4:=cH (bot hB.out B4)
   clear B4
   go_wp2_with fail
   go_roundw
   case rel=>exact ⟨k+1,by omega,by go_num,He,HB4⟩
   case measure=>simp[intOf];omega
  have hb2:(x2==v2)=true:=by simp[e2]
  by_cases e3:x3=v3
  rotate_left
  focus
   have hb3:(x3==v3)=false:=beq_eq_false_iff_ne.2 e3
   have He:Hid (R=getC (L.drop (k+1)) s ⟨v1,v2,v3⟩):=by unfold Hid;rw[Hstep.out,if_neg (by simp[e3])]
   clear Hstep Hrest Hpv
   go_upto_region 4 with (fail)
   have r_z0:=cR z0
   have r_n0:=cR n0
   have r_n1:=cR n1
   have r_n2:=cR n2
   have r_n3:=cR n3
   have r_d0:=cR d0
   have r_d1:=cR d1
   have r_d2:=cR d2
   go_wp2_with fail
   refine wQ ?_
   repeat (go_big_quiet_step (first|fail))
   refine wpQuiet_nil fun w4 B4=>?_
   have HB4:=cH (bot hB.out B4)
   clear B4
   go_wp2_with fail
   go_roundw
   case rel=>exact ⟨k+1,by omega,by go_num,He,HB4⟩
   case measure=>simp[intOf];omega
  have hb3:(x3==v3)=true:=by simp[e3]
  have He:Hid (R=some ⟨xn,⟨x1,x2,x3⟩,xd,xp,xo⟩):=by unfold Hid;rw[Hstep.out,if_pos (by simp[hnm,e1,e2,e3])]
  clear Hstep hnm e1 e2 e3
  go_upto_region 4 with (fail)
  have r_z0:=cR z0
  have r_n0:=cR n0
  have r_n1:=cR n1
  have r_n2:=cR n2
  have r_n3:=cR n3
  have r_d0:=cR d0
  have r_d1:=cR d1
  have r_d2:=cR d2
  go_wp2_with fail
  refine wQ ?_
  repeat (go_big_quiet_step (first|fail))
  refine wpQuiet_nil fun w4 B4=>?_
  have HB4:=cH (bot hB.out B4)
  have HBw4:=cH (bot HBw.out B4)
  clear B4 r_z0 r_n0 r_n1 r_n2 r_n3 r_d0 r_d1 r_d2 z0 n0 n1 n2 n3 d0 d1 d2
  obtain ⟨n0,n1,n2,n3,n4,n5,n6⟩:=Hrest.out w4 HBw4.out
  have z0:=HC.out w4 HBw4.out
  have hrow:=HP.out w4 HB4.out
  obtain ⟨⟨d0,d1,d2,d3,d4,d5,d6⟩,e0,e1,e2,e3,e4,e5,e6⟩:=row7 hrow
  have Hrow:=cH hrow
  clear hrow Hrest
  go_wp2_with fail
  refine zHR rfl rfl rfl rfl (set7Q Hrow.out _ _ _ _ _ _ _) Tryz.underlying52 rfl (by kernel_rfl) ⟨.agg #[.string xn,.int .i64 x1,.int .i64 x2,.int .i64 x3,.slice A1 l1 a1,.slice B1 l2 b1,.slice C1 l3 c1],?_,?_,zAj HBw4.out Hg.out _ _ _ _ _ _ _⟩
  ·rw[He.out];rfl
  ·rw[He.out];exact Hpv.out.keep (zAj HBw4.out Hg.out _ _ _ _ _ _ _)
end Go.Proofs.YtminjjdnmpaaoaaGreatDoor
namespace Go.Proofs.YtminjjdnmpaaoaaGreatDoor
abbrev Rk:=Int×Int
def Has (l:List Rk) (n:Int):Prop:=∃ x∈l,x.1≤n∧n≤x.2
theorem zLA (n:Int):¬Has [] n:=fun ⟨x,h,_⟩=>by simp at h
theorem zME {x:Rk} {l:List Rk} {n:Int}:Has (x::l) n↔(x.1≤n∧n≤x.2)∨Has l n:=by
 unfold Has
 constructor
 ·rintro ⟨y,hy,h⟩
  rcases List.mem_cons.1 hy with rfl|hy
  ·exact .inl h
  ·exact .inr ⟨y,hy,h⟩
 ·rintro (h|⟨y,hy,h⟩)
  ·exact ⟨x,by simp,h⟩
  ·exact ⟨y,by simp[hy],h⟩
theorem zJj {l m:List Rk} {n:Int}:Has (l++m) n↔Has l n∨Has m n:=by
 unfold Has
 constructor
 ·rintro ⟨y,hy,h⟩
  rcases List.mem_append.1 hy with hy|hy
  ·exact .inl ⟨y,hy,h⟩
  ·exact .inr ⟨y,hy,h⟩
 ·rintro (⟨y,hy,h⟩|⟨y,hy,h⟩)
  ·exact ⟨y,by simp[hy],h⟩
  ·exact ⟨y,by simp[hy],h⟩
theorem zMm {x:Rk} {n:Int}:Has [x] n↔x.1≤n∧n≤x.2:=by rw[zME];simp[zLA]
open Classical in
noncomputable def hasB (l:List Rk) (n:Int):Bool:=decide (Has l n)
open Classical in
theorem zLq {l:List Rk} {n:Int} (h:Has l n):hasB l n=true:=by unfold hasB;exact decide_eq_true h
open Classical in
theorem zMi {l:List Rk} {n:Int} (h:¬Has l n):hasB l n=false:=by unfold hasB;exact decide_eq_false h
end Go.Proofs.YtminjjdnmpaaoaaGreatDoor
namespace Go.Proofs.YtminjjdnmpaaoaaGreatDoor
open Go.Rows Go.RowKit Go.Shelf Go.Sort
def rks (l:List Spn):List Rk:=l.map fun s=>(s.lo.rank,s.hi.rank)
theorem zHq (l:List Spn):(rks l).length=l.length:=List.length_map _
theorem zM7 {l:List Spn} {k:Nat} (h:k<l.length):(rks l)[k]'(by rw[zHq];exact h)=(l[k].lo.rank,l[k].hi.rank):=by unfold rks;rw[List.getElem_map]
theorem zLy {l:List Rk} {k:Nat} (h:k<l.length) {n:Int}:Has (l.take (k+1)) n↔Has (l.take k) n∨(l[k].1≤n∧n≤l[k].2):=by
 rw[List.take_succ_eq_append_getElem h,zJj,zMm]
theorem zMz (A:Option Addr) (n c:Nat) (l:List Spn) (N:Int) (w:World) (S:Nat→Prop) (hl:SlV rSpn w S l (.slice A n c)) :
  Calls Tryz.prog 165 #[.slice A n c,.int .i64 N] w fun e w'=>e=.returned (.bool (hasB (rks l) N))∧Below w.heap.size w w':=by
 have hnx:=hl.n_eq
 have hcx:=hl.cap_le
 unfold maxLen at hcx
 have hn63:n≤9223372036854775807:=by omega
 have HX:=cH (hl.more (S':=fun b=>b<w.heap.size) fun b _ hlt=>hlt)
 have Hnx:=cH hnx;clear hnx
 clear hl hcx
 go_enter Tryz.func165,Tryz.ntmps165
 go_wp2_with fail
 go_loopw [5] (fun i wr=>∃ (k:Nat),k≤n∧i=.int .i64 k∧Hid (¬Has ((rks l).take k) N)∧Below w.heap.size w wr) (fun i _=>n - (intOf i).toNat)
 case atStart=>exact ⟨0,nZ _,rfl,by unfold Hid;exact zLA N,bR _ _⟩
 case round=>
  obtain ⟨k,hk,rfl,Hno,hbel⟩:=hrel
  by_cases hlt:k<n
  case neg=>
   have hlt':¬(k:Int)<(n:Int):=by omega
   have hB:Hid (hasB (rks l) N=false):=by
    have:=Hno.out
    rw[List.take_of_length_le (by rw[zHq];have:=Hnx.out;omega)] at this
    exact zMi this
   go_wp2_with fail
   go_ret
   exact ⟨by rw[hB.out];rfl,hbel⟩
  have hkx:k<l.length:=by have:=Hnx.out;omega
  have hkI:(k:Int)<(n:Int):=by omega
  have hk0:(0:Int)≤(k:Int):=by omega
  obtain ⟨b,o,cs,rfl,hSb,_,⟨rfl,_,_,_,_,_,_⟩,hcell⟩:=HX.out.elem (gE hkx)
  have k0:=hcell 0 _ rfl
  have k1:=hcell 1 _ rfl
  have k2:=hcell 2 _ rfl
  have k3:=hcell 3 _ rfl
  have k4:=hcell 4 _ rfl
  have k5:=hcell 5 _ rfl
  simp only[rSpn,Nat.add_zero,Nat.mul_one] at k0 k1 k2 k3 k4 k5
  have Hst:=cH (zLy (l:=rks l) (n:=N) (by rw[zHq];exact hkx))
  rw[zM7 hkx] at Hst
  have c0:=zAA hbel k0 hSb
  have c1:=zAA hbel k1 hSb
  have c2:=zAA hbel k2 hSb
  have HK3:=cH k3
  have HK4:=cH k4
  have HK5:=cH k5
  clear k0 k1 k2 k3 k4 k5 hcell
  have HhB:Hid (Has ((rks l).take (k+1)) N→hasB (rks l) N=true):=fun h=>zLq (by
   obtain ⟨x,hx,h⟩:=h
   exact ⟨x,List.mem_of_mem_take hx,h⟩)
  generalize l[k]=s at *
  obtain ⟨⟨x1,x2,x3⟩,⟨x4,x5,x6⟩⟩:=s
  simp only[Ver.rank] at c0 c1 c2 HK3 HK4 HK5 Hst
  have H1:=cH (fun W=>zA9 x1 x2 x3 W)
  have H2:=cH (fun W=>zA9 x4 x5 x6 W)
  generalize rankR x1 x2 x3=r1 at *
  generalize rankR x4 x5 x6=r2 at *
  go_wp2_with fail
  refine (H1.out _).mono ?_
  rintro e w1 ⟨rfl,hb1⟩
  have HB1:=cH (bot hbel hb1)
  clear hb1 c0 c1 c2 H1
  by_cases h1:r1≤N
  case neg=>
   have Hno2:Hid (¬Has ((rks l).take (k+1)) N):=fun h=>by
    rcases Hst.out.1 h with h|h
    ·exact Hno.out h
    ·exact h1 h.1
   go_wp2_with fail
   go_roundw
   case rel=>exact ⟨k+1,by omega,by go_num,Hno2,HB1.out⟩
   case measure=>simp[intOf];omega
  have c3:=zAA HB1.out HK3.out hSb
  have c4:=zAA HB1.out HK4.out hSb
  have c5:=zAA HB1.out HK5.out hSb
  go_wp2_with fail
  refine (H2.out _).mono ?_
  rintro e w2 ⟨rfl,hb2⟩
  have HB2:=cH (bot HB1.out hb2)
  clear hb2 c3 c4 c5 H2
  by_cases h2:N≤r2
  ·have Hyes:Hid (hasB (rks l) N=true):=HhB.out (Hst.out.2 (.inr ⟨h1,h2⟩))
   go_wp2_with fail
   go_ret
   exact ⟨by rw[Hyes.out];rfl,HB2.out⟩
  ·have Hno2:Hid (¬Has ((rks l).take (k+1)) N):=fun h=>by
    rcases Hst.out.1 h with h|h
    ·exact Hno.out h
    ·exact h2 h.2
   go_wp2_with fail
   go_roundw
   case rel=>exact ⟨k+1,by omega,by go_num,Hno2,HB2.out⟩
   case measure=>simp[intOf];omega
def verV (v:Ver):Value:=.agg #[.int .i64 v.major,.int .i64 v.minor,.int .i64 v.patch]
theorem row3 {W:World} {b:Nat} {x y z:Value} {t:TypeId} (h:W.heap[b]?=some (.cells #[x,y,z] t (0,0))):(W.cell? ⟨b,0,none⟩=some x∧W.cell? ⟨b,1,none⟩=some y∧W.cell? ⟨b,2,none⟩=some z)∧W.frozen? ⟨b,0,none⟩=false∧W.frozen? ⟨b,1,none⟩=false∧W.frozen? ⟨b,2,none⟩=false:=by
 refine ⟨⟨cO _ _ 0 _ _ _ h,cO _ _ 1 _ _ _ h,cO _ _ 2 _ _ _ h⟩,?_,?_,?_⟩<;>simp[World.frozen?,h]
theorem Own.cells {α:Type} {r:Rp α} {A:World} {base:Nat} {e:TypeId} {v:Value} {l:List α} {S:Nat→Prop} (h:Own r A base e v l S) {g:Nat} (hg:v.ownBlock=some g):base≤g∧¬∃ o,A.heap[g]?=some o∧o.isCells=false:=by
 obtain ⟨h0,xs,h1,h2⟩:=h
 rcases h1.2 with ⟨rfl,_⟩|⟨g',cap,cur,rfl,h2,h3,h4⟩
 ·simp[Value.ownBlock] at hg
 ·obtain rfl:g'=g:=by simpa [Value.ownBlock] using hg
  refine ⟨h2,?_⟩
  rintro ⟨o,ho,hc⟩
  rw[h3] at ho;cases ho;cases hc
noncomputable def inSB (l:List Spn) (v:Ver):Bool:=zAu l&&(v.ok&&hasB (rks l) v.rank)
theorem zE2 (A:Option Addr) (n c:Nat) (l:List Spn) (v:Ver) (w:World) (S:Nat→Prop) (hl:SlV rSpn w S l (.slice A n c)) :
  Calls Tryz.prog 145 #[.slice A n c,verV v] w fun e w'=>e=.returned (.bool (inSB l v))∧Below w.heap.size w w':=by
 have HX:=cH (hl.more (S':=fun b=>b<w.heap.size) fun b _ h=>h)
 have H1:Hid (∀ W,Below w.heap.size w W→Calls Tryz.prog 139 #[.slice A n c] W fun e w'=>e=.returned (.bool (zAu l))∧Below W.heap.size W w'):=fun W hW=>zCX A n c l W _ (HX.out.belowSize hW)
 have H2:=cH (fun W=>zBL v.major v.minor v.patch W)
 have H3:=cH (fun W=>zA9 v.major v.minor v.patch W)
 have H4:Hid (∀ W,Below w.heap.size w W→Calls Tryz.prog 165 #[.slice A n c,.int .i64 (rankR v.major v.minor v.patch)] W fun e w'=>e=.returned (.bool (hasB (rks l) (rankR v.major v.minor v.patch)))∧Below W.heap.size W w'):=
  fun W hW=>zMz A n c l _ W _ (HX.out.belowSize hW)
 have HR:Hid (inSB l v=(zAu l&&(verB v.major v.minor v.patch&&hasB (rks l) (rankR v.major v.minor v.patch)))):=rfl
 unfold verV
 generalize inSB l v=R at *
 generalize zAu l=p at *
 generalize verB v.major v.minor v.patch=q at *
 generalize rankR v.major v.minor v.patch=N at *
 generalize hasB (rks l) N=r at *
 obtain ⟨v1,v2,v3⟩:=v
 simp only at H2 H3 ⊢
 clear hl HX
 go_enter Tryz.func145,Tryz.ntmps145
 go_wp2_with fail
 obtain ⟨w0,hw0⟩:∃ w0,w0=w.alloc (.cells #[.int .i64 v1,.int .i64 v2,.int .i64 v3] 50):=⟨_,rfl⟩
 have hb0:Below w.heap.size w w0:=by rw[hw0];exact bal (bR _ _) _
 have hr0:w0.heap[w.heap.size]?=some (.cells #[.int .i64 v1,.int .i64 v2,.int .i64 v3] 50 (0,0)):=by rw[hw0];exact heap_alloc_new _ _
 rw[←hw0]
 clear hw0
 refine (H1.out _ hb0).mono ?_
 rintro e w1 ⟨rfl,hb1⟩
 have hlt0:w.heap.size<w0.heap.size:=(aS.1 hr0).1
 have hr1:=(hb1.block _ hlt0).trans hr0
 have HB1:=cH (bot hb0 hb1)
 obtain ⟨⟨c0,c1,c2⟩,_⟩:=row3 hr1
 have Hr1:=cH hr1
 clear hb0 hb1 hr0 hr1 H1
 cases p with
 | false=>
   have He:Hid (R=false):=by unfold Hid;rw[HR.out];rfl
   go_wp2_with fail
   go_ret
   exact ⟨zAB He.out.symm,HB1.out⟩
 | true=>
 go_wp2_with fail
 refine (H2.out _).mono ?_
 rintro e w2 ⟨rfl,hb2⟩
 have hlt1:w.heap.size<w1.heap.size:=(aS.1 Hr1.out).1
 have hr2:=(hb2.block _ hlt1).trans Hr1.out
 have HB2:=cH (bot HB1.out hb2)
 obtain ⟨⟨d0,d1,d2⟩,_⟩:=row3 hr2
 have hr2H:=cH hr2
 clear hb2 hr2 c0 c1 c2 H2
 cases q with
 | false=>
   have He:Hid (R=false):=by unfold Hid;rw[HR.out];rfl
   go_wp2_with fail
   go_ret
   exact ⟨zAB He.out.symm,HB2.out⟩
 | true=>
 have He:Hid (R=r):=by unfold Hid;rw[HR.out];rfl
 go_wp2_with fail
 refine (H3.out _).mono ?_
 rintro e w3 ⟨rfl,hb3⟩
 have HB3:=cH (bot HB2.out hb3)
 have H4':=cH (H4.out w3 HB3.out)
 clear H4 H3 hb3
 cases r <;>
 ·go_wp2_with fail
  refine H4'.out.mono ?_
  rintro e w4 ⟨rfl,hb4⟩
  go_wp2_with fail
  go_ret
  exact ⟨zAB He.out.symm,bot HB3.out hb4⟩
def devW:ByteArray:=⟨#[100,101,118]⟩
def pinsW:ByteArray:=⟨#[112,105,110,115]⟩
def zIz:ByteArray:=⟨#[112,114,111,106,101,99,116]⟩
def zCx (m:Mani):ByteArray:=zIz++nlB++zAK zBm m.deps++zAK devW m.dev++zAK zBy m.opts++zAK pinsW m.over
noncomputable def maniB (m:Mani):Bool:=
 listB m.deps&&(listB m.dev&&(listB m.opts&&(listB m.over&&(zBM (zAO [m.deps,m.dev,m.opts])&&decide ((zCx m).size≤4096)))))
section
variable {n B:Nat} {w w':World} {v:Nat→Value} {l:Nat→List Dep} {S:Nat→Prop}
end
section
variable {n B:Nat} {w w':World} {v:Nat→Value} {l:Nat→List Dep} {S:Nat→Prop}
end
section
variable {n B:Nat} {w w':World} {v:Nat→Value} {l:Nat→List Dep} {S:Nat→Prop}
end
section
variable {P n:Nat} {hd:List Value} {t:TypeId} {w w':World} {v:Nat→Value}
end
section
variable {P n:Nat} {hd:List Value} {t:TypeId} {w w':World} {v:Nat→Value}
end
section
variable {P n:Nat} {hd:List Value} {t:TypeId} {w w':World} {v:Nat→Value}
end
section
variable {P n:Nat} {hd:List Value} {t:TypeId} {w w':World} {v:Nat→Value}
end
theorem SlV.at {α:Type} {r:Rp α} {w:World} {S:Nat→Prop} {l:List α} {A:Option Addr} {n c:Nat} (h:SlV r w S l (.slice A n c)) (h0:0<l.length):∃ b o,A=some ⟨b,o,none⟩∧S b∧b<w.heap.size:=by
 obtain ⟨b,o,cs,h1,h2,h3,_⟩:=h.elem (gE h0)
 exact ⟨b,o,h1,h2,h3⟩
theorem SlV.row {α:Type} {r:Rp α} {w:World} {S:Nat→Prop} {l:List (List α)} {b o n c i:Nat} {x:List α} (h:SlV (zAn r) w S l (.slice (some ⟨b,o,none⟩) n c)) (hx:l[i]?=some x):∃ A c',w.cell? ⟨b,o+i,none⟩=some (.slice A x.length c')∧SlV r w S x (.slice A x.length c'):=by
 obtain ⟨b',o',cs,h1,_,_,hs,hcell⟩:=h.elem hx
 injection h1 with h1
 injection h1 with hb ho _
 subst hb ho
 obtain ⟨A,c',rfl,hs'⟩:=hs
 have:=hcell 0 _ rfl
 simp only[zAn,Nat.add_zero,Nat.mul_one] at this
 exact ⟨A,c',this,A,c',rfl,hs'⟩
section
variable {n B:Nat} {w w':World} {v:Nat→Value} {l:Nat→List Dep} {S:Nat→Prop}
end
section
variable {n B:Nat} {w w':World} {v:Nat→Value} {l:Nat→List Dep} {S:Nat→Prop}
end
section
variable {n B:Nat} {w w':World} {v:Nat→Value} {l:Nat→List Dep} {S:Nat→Prop}
end
def l3 (a b c:List Dep):Nat→List Dep
 | 0=>a
 | 1=>b
 | _=>c
def ManiV (w:World) (S:Nat→Prop) (m:Mani) (v:Value):Prop:=
 ∃ A0 n0 c0 A1 n1 c1 A2 n2 c2 A3 n3 c3,v=.agg #[.slice A0 n0 c0,.slice A1 n1 c1,.slice A2 n2 c2,.slice A3 n3 c3]∧SlV rDep w S m.deps (.slice A0 n0 c0)∧SlV rDep w S m.dev (.slice A1 n1 c1)∧SlV rDep w S m.opts (.slice A2 n2 c2)∧SlV rDep w S m.over (.slice A3 n3 c3)
theorem ManiV.keep {w w':World} {S:Nat→Prop} {m:Mani} {v:Value} (h:ManiV w S m v) (hb:Below w.heap.size w w'):ManiV w' S m v:=by
 obtain ⟨A0,n0,c0,A1,n1,c1,A2,n2,c2,A3,n3,c3,h0,h1,h2,h3,h4⟩:=h
 exact ⟨A0,n0,c0,A1,n1,c1,A2,n2,c2,A3,n3,c3,h0,h1.belowSize hb,h2.belowSize hb,h3.belowSize hb,h4.belowSize hb⟩
theorem row4 {W:World} {b:Nat} {x0 x1 x2 x3:Value} {t:TypeId} (h:W.heap[b]?=some (.cells #[x0,x1,x2,x3] t (0,0))) :
  (W.cell? ⟨b,0,none⟩=some x0∧W.cell? ⟨b,1,none⟩=some x1∧W.cell? ⟨b,2,none⟩=some x2∧W.cell? ⟨b,3,none⟩=some x3)∧W.frozen? ⟨b,0,none⟩=false∧W.frozen? ⟨b,1,none⟩=false∧W.frozen? ⟨b,2,none⟩=false∧W.frozen? ⟨b,3,none⟩=false:=by
 refine ⟨⟨cO _ _ 0 _ _ _ h,cO _ _ 1 _ _ _ h,cO _ _ 2 _ _ _ h,cO _ _ 3 _ _ _ h⟩,?_,?_,?_,?_⟩<;>simp[World.frozen?,h]
theorem zH9 {m:Mani} (h0:listB m.deps=true) (h1:listB m.dev=true) (h2:listB m.opts=true) (h3:listB m.over=true):(zAK zBm m.deps).size≤33600∧(zAK devW m.dev).size≤33600∧(zAK zBy m.opts).size≤33600∧(zAK pinsW m.over).size≤33600:=by
 obtain ⟨a0,b0⟩:=zAR h0
 obtain ⟨a1,b1⟩:=zAR h1
 obtain ⟨a2,b2⟩:=zAR h2
 obtain ⟨a3,b3⟩:=zAR h3
 have z0:=zBC (word:=zBm) (by decide) b0
 have z1:=zBC (word:=devW) (by decide) b1
 have z2:=zBC (word:=zBy) (by decide) b2
 have z3:=zBC (word:=pinsW) (by decide) b3
 omega
def projB:ByteArray:=⟨#[112,114,111,106,101,99,116,10]⟩
theorem zGL (m:Mani):zCx m=projB++zAK zBm m.deps++zAK devW m.dev++zAK zBy m.opts++zAK pinsW m.over:=by
 unfold zCx
 rw[show zIz++nlB=projB by decide +kernel]
theorem zFA (m:Mani) (u:Value) (w:World) (S:Nat→Prop) (h0:listB m.deps=true) (h1:listB m.dev=true) (h2:listB m.opts=true) (h3:listB m.over=true) (hm:ManiV w S m u) :
  Calls Tryz.prog 110 #[u] w fun e w'=>e=.returned (.string (zCx m))∧Below w.heap.size w w':=by
 obtain ⟨Aa0,na0,ca0,Aa1,na1,ca1,Aa2,na2,ca2,Aa3,na3,ca3,rfl,ha0,ha1,ha2,ha3⟩:=hm
 obtain ⟨z0,z1,z2,z3⟩:=zH9 h0 h1 h2 h3
 have H0:Hid (∀ W,Below w.heap.size w W→Calls Tryz.prog 142 #[.string ⟨#[110,101,101,100,115]⟩,.slice Aa0 na0 ca0] W fun e w'=>e=.returned (.string (zAK zBm m.deps))∧Below W.heap.size W w'):=fun W hW=>zBH zBm (by decide) _ _ _ m.deps W S (zAR h0).1 (zAR h0).2 (ha0.belowSize hW)
 have H1:Hid (∀ W,Below w.heap.size w W→Calls Tryz.prog 142 #[.string ⟨#[100,101,118]⟩,.slice Aa1 na1 ca1] W fun e w'=>e=.returned (.string (zAK devW m.dev))∧Below W.heap.size W w'):=fun W hW=>zBH devW (by decide) _ _ _ m.dev W S (zAR h1).1 (zAR h1).2 (ha1.belowSize hW)
 have H2:Hid (∀ W,Below w.heap.size w W→Calls Tryz.prog 142 #[.string ⟨#[108,105,107,101,115]⟩,.slice Aa2 na2 ca2] W fun e w'=>e=.returned (.string (zAK zBy m.opts))∧Below W.heap.size W w'):=fun W hW=>zBH zBy (by decide) _ _ _ m.opts W S (zAR h2).1 (zAR h2).2 (ha2.belowSize hW)
 have H3:Hid (∀ W,Below w.heap.size w W→Calls Tryz.prog 142 #[.string ⟨#[112,105,110,115]⟩,.slice Aa3 na3 ca3] W fun e w'=>e=.returned (.string (zAK pinsW m.over))∧Below W.heap.size W w'):=fun W hW=>zBH pinsW (by decide) _ _ _ m.over W S (zAR h3).1 (zAR h3).2 (ha3.belowSize hW)
 rw[zGL]
 have zp:projB.size=8:=rfl
 generalize zAK zBm m.deps=l0 at *
 generalize zAK devW m.dev=l1 at *
 generalize zAK zBy m.opts=l2 at *
 generalize zAK pinsW m.over=l3 at *
 have E1:∀ W:World,(Op.stringOp .add ⟨#[112,114,111,106,101,99,116,10]⟩ l0).run Tryz.prog W=.ok (.string (projB++l0)) W:=fun W=>run_string_add_sum W projB l0 (by omega)
 have E2:∀ W:World,(Op.stringOp .add (projB++l0) l1).run Tryz.prog W=.ok (.string (projB++l0++l1)) W:=fun W=>run_string_add_sum W _ l1 (by simp only[ByteArray.size_append];omega)
 have E3:∀ W:World,(Op.stringOp .add (projB++l0++l1) l2).run Tryz.prog W=.ok (.string (projB++l0++l1++l2)) W:=fun W=>run_string_add_sum W _ l2 (by simp only[ByteArray.size_append];omega)
 have E4:∀ W:World,(Op.stringOp .add (projB++l0++l1++l2) l3).run Tryz.prog W=.ok (.string (projB++l0++l1++l2++l3)) W:=fun W=>run_string_add_sum W _ l3 (by simp only[ByteArray.size_append];omega)
 generalize projB++l0++l1++l2++l3=s4 at *
 generalize projB++l0++l1++l2=s3 at *
 generalize projB++l0++l1=s2 at *
 generalize projB++l0=s1 at *
 clear ha0 ha1 ha2 ha3 h0 h1 h2 h3 z0 z1 z2 z3 zp
 go_enter Tryz.func110,Tryz.ntmps110
 go_upto_region 1 with (fail)
 obtain ⟨w1,hw⟩:∃ W0,W0=w.alloc (.cells #[.slice Aa0 na0 ca0,.slice Aa1 na1 ca1,.slice Aa2 na2 ca2,.slice Aa3 na3 ca3] 28):=⟨_,rfl⟩
 have hra:w1.heap[w.heap.size]?=some (.cells #[.slice Aa0 na0 ca0,.slice Aa1 na1 ca1,.slice Aa2 na2 ca2,.slice Aa3 na3 ca3] 28 (0,0)):=by rw[hw];exact heap_alloc_new w _
 have hba:Below w.heap.size w w1:=by rw[hw];exact bal (bR _ _) _
 have hzz:w.heap.size+1=w1.heap.size:=by rw[hw];simp
 rw[←hw]
 try rw[hzz]
 clear hw hzz
 have C0:=cH (qcall (fun W hW=>H0.out W (bot hba hW)))
 have C1:=cH (qcall (fun W hW=>H1.out W (bot hba hW)))
 have C2:=cH (qcall (fun W hW=>H2.out W (bot hba hW)))
 have C3:=cH (qcall (fun W hW=>H3.out W (bot hba hW)))
 obtain ⟨⟨a0,a1,a2,a3⟩,_⟩:=row4 hra
 have HB1:=cH hba
 clear hra hba H0 H1 H2 H3
 have r_a0:=cR a0
 have r_a1:=cR a1
 have r_a2:=cR a2
 have r_a3:=cR a3
 go_wp2_with fail
 refine wQ ?_
 repeat (go_big_quiet_step (first|(with_reducible exact C0.out _ _)|(with_reducible exact C1.out _ _)|(with_reducible exact C2.out _ _)|(with_reducible exact C3.out _ _)))
 refine wpQuiet_nil fun w2 B2=>?_
 go_wp2_with fail
 go_ret
 exact ⟨rfl,bot HB1.out B2⟩
theorem zFf (m:Mani) (u:Value) (w:World) (S:Nat→Prop) (hm:ManiV w S m u) :
  Calls Tryz.prog 65 #[u] w fun e w'=>e=.returned (.bool (maniB m))∧Below w.heap.size w w':=by
 obtain ⟨A0,n0,c0,A1,n1,c1,A2,n2,c2,A3,n3,c3,rfl,h0,h1,h2,h3⟩:=id hm
 have H0:Hid (∀ W,Below w.heap.size w W→Calls Tryz.prog 105 #[.slice A0 n0 c0] W fun e w'=>e=.returned (.bool (listB m.deps))∧Below W.heap.size W w'):=fun W hW=>zBa _ _ _ m.deps W S (h0.belowSize hW)
 have H1:Hid (∀ W,Below w.heap.size w W→Calls Tryz.prog 105 #[.slice A1 n1 c1] W fun e w'=>e=.returned (.bool (listB m.dev))∧Below W.heap.size W w'):=fun W hW=>zBa _ _ _ m.dev W S (h1.belowSize hW)
 have H2:Hid (∀ W,Below w.heap.size w W→Calls Tryz.prog 105 #[.slice A2 n2 c2] W fun e w'=>e=.returned (.bool (listB m.opts))∧Below W.heap.size W w'):=fun W hW=>zBa _ _ _ m.opts W S (h2.belowSize hW)
 have H3:Hid (∀ W,Below w.heap.size w W→Calls Tryz.prog 105 #[.slice A3 n3 c3] W fun e w'=>e=.returned (.bool (listB m.over))∧Below W.heap.size W w'):=fun W hW=>zBa _ _ _ m.over W S (h3.belowSize hW)
 have G0:Hid (∀ W,Below w.heap.size w W→Calls Tryz.prog 106 #[.slice A0 n0 c0,.slice A1 n1 c1] W fun e w'=>e=.returned (.bool (disjB m.deps m.dev))∧Below W.heap.size W w'):=fun W hW=>zBh _ _ _ _ _ _ m.deps m.dev W S S (h0.belowSize hW) (h1.belowSize hW)
 have G1:Hid (∀ W,Below w.heap.size w W→Calls Tryz.prog 106 #[.slice A0 n0 c0,.slice A2 n2 c2] W fun e w'=>e=.returned (.bool (disjB m.deps m.opts))∧Below W.heap.size W w'):=fun W hW=>zBh _ _ _ _ _ _ m.deps m.opts W S S (h0.belowSize hW) (h2.belowSize hW)
 have G2:Hid (∀ W,Below w.heap.size w W→Calls Tryz.prog 106 #[.slice A1 n1 c1,.slice A2 n2 c2] W fun e w'=>e=.returned (.bool (disjB m.dev m.opts))∧Below W.heap.size W w'):=fun W hW=>zBh _ _ _ _ _ _ m.dev m.opts W S S (h1.belowSize hW) (h2.belowSize hW)
 have HT:Hid (listB m.deps=true→listB m.dev=true→listB m.opts=true→listB m.over=true→∀ W,Below w.heap.size w W→Calls Tryz.prog 110 #[.agg #[.slice A0 n0 c0,.slice A1 n1 c1,.slice A2 n2 c2,.slice A3 n3 c3]] W fun e w'=>e=.returned (.string (zCx m))∧Below W.heap.size W w'):=fun a b c d W hW=>zFA m _ W S a b c d (hm.keep hW)
 have HR:Hid (maniB m=(listB m.deps&&(listB m.dev&&(listB m.opts&&(listB m.over&&(zBM (zAO [m.deps,m.dev,m.opts])&&decide ((zCx m).size≤4096))))))):=rfl
 have Hap:Hid (listB m.deps=true→listB m.dev=true→listB m.opts=true→zBM (zAO [m.deps,m.dev,m.opts])=(disjB m.deps m.dev&&disjB m.deps m.opts&&disjB m.dev m.opts)):=fun a b c=>zMS a b c
 generalize maniB m=R at *
 generalize zBM (zAO [m.deps,m.dev,m.opts])=nd at *
 generalize zCx m=tx at *
 generalize listB m.deps=v0 at *
 generalize listB m.dev=v1 at *
 generalize listB m.opts=v2 at *
 generalize listB m.over=v3 at *
 generalize disjB m.deps m.dev=g0 at *
 generalize disjB m.deps m.opts=g1 at *
 generalize disjB m.dev m.opts=g2 at *
 clear h0 h1 h2 h3 hm
 go_enter Tryz.func65,Tryz.ntmps65
 go_upto_region 1 with (fail)
 obtain ⟨w1,hw⟩:∃ W0,W0=w.alloc (.cells #[.slice A0 n0 c0,.slice A1 n1 c1,.slice A2 n2 c2,.slice A3 n3 c3] 28):=⟨_,rfl⟩
 have hr1:w1.heap[w.heap.size]?=some (.cells #[.slice A0 n0 c0,.slice A1 n1 c1,.slice A2 n2 c2,.slice A3 n3 c3] 28 (0,0)):=by rw[hw];exact heap_alloc_new w _
 have HB1:Hid (Below w.heap.size w w1):=by unfold Hid;rw[hw];exact bal (bR _ _) _
 rw[←hw]
 clear hw
 have Hr1:=cH hr1
 clear hr1
 obtain ⟨⟨a0,a1,a2,a3⟩,_⟩:=row4 Hr1.out
 go_wp2_with fail
 refine (H0.out w1 HB1.out).mono ?_
 rintro e w2 ⟨rfl,hb⟩
 have HB2:=cH (bot HB1.out hb)
 have Hr2:=cH ((hb.block _ (aS.1 Hr1.out).1).trans Hr1.out)
 clear hb a0 a1 a2 a3 HB1 Hr1
 clear H0
 cases v0 with
 | false=>
   have hr:R=false:=by rw[HR.out];simp
   subst hr
   clear HR Hap HT
   go_wp2_with fail
   go_ret
   exact ⟨rfl,HB2.out⟩
 | true=>
 obtain ⟨⟨a0,a1,a2,a3⟩,_⟩:=row4 Hr2.out
 go_wp2_with fail
 refine (H1.out w2 HB2.out).mono ?_
 rintro e w3 ⟨rfl,hb⟩
 have HB3:=cH (bot HB2.out hb)
 have Hr3:=cH ((hb.block _ (aS.1 Hr2.out).1).trans Hr2.out)
 clear hb a0 a1 a2 a3 HB2 Hr2
 clear H1
 cases v1 with
 | false=>
   have hr:R=false:=by rw[HR.out];simp
   subst hr
   clear HR Hap HT
   go_wp2_with fail
   go_ret
   exact ⟨rfl,HB3.out⟩
 | true=>
 obtain ⟨⟨a0,a1,a2,a3⟩,_⟩:=row4 Hr3.out
 go_wp2_with fail
 refine (H2.out w3 HB3.out).mono ?_
 rintro e w4 ⟨rfl,hb⟩
 have HB4:=cH (bot HB3.out hb)
 have Hr4:=cH ((hb.block _ (aS.1 Hr3.out).1).trans Hr3.out)
 clear hb a0 a1 a2 a3 HB3 Hr3
 clear H2
 cases v2 with
 | false=>
   have hr:R=false:=by rw[HR.out];simp
   subst hr
   clear HR Hap HT
   go_wp2_with fail
   go_ret
   exact ⟨rfl,HB4.out⟩
 | true=>
 obtain ⟨⟨a0,a1,a2,a3⟩,_⟩:=row4 Hr4.out
 go_wp2_with fail
 refine (H3.out w4 HB4.out).mono ?_
 rintro e w5 ⟨rfl,hb⟩
 have HB5:=cH (bot HB4.out hb)
 have Hr5:=cH ((hb.block _ (aS.1 Hr4.out).1).trans Hr4.out)
 clear hb a0 a1 a2 a3 HB4 Hr4
 clear H3
 cases v3 with
 | false=>
   have hr:R=false:=by rw[HR.out];simp
   subst hr
   clear HR Hap HT
   go_wp2_with fail
   go_ret
   exact ⟨rfl,HB5.out⟩
 | true=>
 have hnd:=Hap.out (by first|rfl|trivial) (by first|rfl|trivial) (by first|rfl|trivial)
 have HT':=cH (HT.out (by first|rfl|trivial) (by first|rfl|trivial) (by first|rfl|trivial) (by first|rfl|trivial))
 subst hnd
 clear Hap HT
 obtain ⟨⟨a0,a1,a2,a3⟩,_⟩:=row4 Hr5.out
 go_wp2_with fail
 refine (G0.out w5 HB5.out).mono ?_
 rintro e w6 ⟨rfl,hb⟩
 have HB6:=cH (bot HB5.out hb)
 have Hr6:=cH ((hb.block _ (aS.1 Hr5.out).1).trans Hr5.out)
 clear hb a0 a1 a2 a3 HB5 Hr5
 clear G0
 cases g0 with
 | false=>
   have hr:R=false:=by rw[HR.out];simp
   subst hr
   clear HR HT'
   go_wp2_with fail
   go_ret
   exact ⟨rfl,HB6.out⟩
 | true=>
 obtain ⟨⟨a0,a1,a2,a3⟩,_⟩:=row4 Hr6.out
 go_wp2_with fail
 refine (G1.out w6 HB6.out).mono ?_
 rintro e w7 ⟨rfl,hb⟩
 have HB7:=cH (bot HB6.out hb)
 have Hr7:=cH ((hb.block _ (aS.1 Hr6.out).1).trans Hr6.out)
 clear hb a0 a1 a2 a3 HB6 Hr6
 clear G1
 cases g1 with
 | false=>
   have hr:R=false:=by rw[HR.out];simp
   subst hr
   clear HR HT'
   go_wp2_with fail
   go_ret
   exact ⟨rfl,HB7.out⟩
 | true=>
 obtain ⟨⟨a0,a1,a2,a3⟩,_⟩:=row4 Hr7.out
 go_wp2_with fail
 refine (G2.out w7 HB7.out).mono ?_
 rintro e w8 ⟨rfl,hb⟩
 have HB8:=cH (bot HB7.out hb)
 have Hr8:=cH ((hb.block _ (aS.1 Hr7.out).1).trans Hr7.out)
 clear hb a0 a1 a2 a3 HB7 Hr7
 clear G2
 cases g2 with
 | false=>
   have hr:R=false:=by rw[HR.out];simp
   subst hr
   clear HR HT'
   go_wp2_with fail
   go_ret
   exact ⟨rfl,HB8.out⟩
 | true=>
 obtain ⟨⟨a0,a1,a2,a3⟩,_⟩:=row4 Hr8.out
 go_wp2_with fail
 refine (HT'.out w8 HB8.out).mono ?_
 rintro e w9 ⟨rfl,hb⟩
 have HB9:=cH (bot HB8.out hb)
 have Hr9:=cH ((hb.block _ (aS.1 Hr8.out).1).trans Hr8.out)
 clear hb a0 a1 a2 a3 HB8 Hr8
 by_cases hz:tx.size≤4096
 ·have hI:(tx.size:Int)≤4096:=by omega
  have hr:R=true:=by rw[HR.out,decide_eq_true hz];rfl
  subst hr
  clear HR
  go_wp2_with fail
  go_ret
  exact ⟨rfl,HB9.out⟩
 ·have hI:¬(tx.size:Int)≤4096:=by omega
  have hD:decide ((tx.size:Int)≤4096)=false:=decide_eq_false hI
  have hr:R=false:=by rw[HR.out,decide_eq_false hz];simp
  subst hr
  clear HR
  go_wp2_with fail
  go_ret
  exact ⟨rfl,HB9.out⟩
end Go.Proofs.YtminjjdnmpaaoaaGreatDoor
namespace Go.Proofs.YtminjjdnmpaaoaaGreatDoor
open Go
noncomputable def candC (L:List Pack) (s:ByteArray) (l:List Spn):List Ver:=(versC L s).filter (inSB l)
noncomputable def askP (env:List Pin):List Dep→List Pin→List Pin→Option (List Pin×List Pin)
 | [],out,next=>some (out,next)
 | d::ds,out,next=>match zAh env d.name with
   | none=>none
   | some v=>if inSB d.range v=true then askP env ds (withP out ⟨d.name,v⟩) (if pinIs out d.name=true then next else next++[⟨d.name,v⟩]) else none
noncomputable def ctxGo (L:List Pack) (m:Mani) (env:List Pin):Nat→List Pin→List Pin→Option (List Pin)
 | _,[],out=>some out
 | 0,_::_,_=>none
 | f+1,p::rest,out=>match getC L p.name p.ver with
   | none=>none
   | some x=>match askP env (zBp m x.peers) out rest with
     | none=>none
     | some (out',rest')=>ctxGo L m env f rest' out'
noncomputable def ctxP (L:List Pack) (m:Mani) (env:List Pin) (p:Pin):Option (List Pin):=ctxGo L m env (env.length+1) [p] []
noncomputable def ctxsP (L:List Pack) (m:Mani) (env:List Pin):List Pin→Option (List (List Pin))
 | []=>some []
 | p::l=>match ctxP L m env p with
   | none=>none
   | some x=>match ctxsP L m env l with
     | none=>none
     | some xs=>some (x::xs)
noncomputable def zBG (lim:Nat):List Pin→List (List Pin)→List Node→List Edge→Option (List Node×List Edge)
 | p::l,c::cs,out,es=>
   if placeN out p c=out.length then
    if out.length=lim then none
    else zBG lim l cs (out++[⟨p.name,p.ver,c,[]⟩]) (es++[⟨p.name,(out.length:Int)⟩])
   else zBG lim l cs out (es++[⟨p.name,(placeN out p c:Int)⟩])
 | _,_,out,es=>some (out,es)
def zBD (nodes:List Node) (i:Nat) (es:List Edge):List Node:=nodes.modify i fun n=>{ n with edges:=es}
structure SIn where
 L:List Pack
 m:Mani
 dev:Bool
 dec:Nat
 lim:Nat
inductive SOut where
 | no (tried:Nat)
 | bad (err:Int) (tried:Nat)
 | ok (tried:Nat) (found:List Node)
inductive Task where
 | settle (nodes:List Node) (at_:Nat)
 | choose (nodes:List Node) (at_:Nat) (l:List Want) (env:List Pin)
 | bind (nodes:List Node) (at_:Nat) (env:List Pin)
noncomputable def zBf (q:SIn) (nodes:List Node) (at_:Nat):List Want:=
 if at_=0 then zBP q.m q.dev else match nodes[at_]? with
 | none=>[]
 | some n=>match getC q.L n.name n.ver with
   | none=>[]
   | some x=>ofW q.m x
def ctxAt (nodes:List Node) (at_:Nat):List Pin:=match nodes[at_]? with
 | none=>[]
 | some n=>n.ctx
noncomputable def optsS (q:SIn) (nodes:List Node) (at_:Nat) (w:Want):List Ver:=match zAh (ctxAt nodes at_) w.name with
 | some v=>if inSB w.range v=true then [v] else []
 | none=>candC q.L w.name w.range
def maysS (nodes:List Node) (at_:Nat) (w:Want):Bool:=match zAh (ctxAt nodes at_) w.name with
 | some _=>false
 | none=>decide (w.kind=2)
def withO (env:List Pin) (s:ByteArray):Option Ver→List Pin
 | none=>env
 | some v=>withP env ⟨s,v⟩
def tryGo (dec:Nat) (k:List Pin→Nat→SOut) (env:List Pin) (s:ByteArray):List (Option Ver)→Nat→SOut
 | [],t=>.no t
 | o::os,t=>if t=dec then .bad 31 t else match k (withO env s o) (t+1) with
   | .no t'=>tryGo dec k env s os t'
   | r=>r
noncomputable def goS (q:SIn):Nat→Task→Nat→SOut
 | 0,_,t=>.bad 0 t
 | f+1,.settle nodes at_,t=>if at_=nodes.length then .ok t nodes else goS q f (.choose nodes at_ (zBf q nodes at_) (ctxAt nodes at_)) t
 | f+1,.choose nodes at_ [] env,t=>goS q f (.bind nodes at_ env) t
 | f+1,.choose nodes at_ (w::l) env,t=>
   tryGo q.dec (fun env' t'=>goS q f (.choose nodes at_ l env') t') env w.name ((optsS q nodes at_ w).map some++if maysS nodes at_ w=true then [none] else []) t
 | f+1,.bind nodes at_ env,t=>match ctxsP q.L q.m env env with
   | none=>.no t
   | some cs=>match zBG q.lim env cs nodes [] with
     | none=>.bad 32 t
     | some (out,es)=>goS q f (.settle (zBD out at_ es) (at_+1)) t
def rootN:Node:=⟨⟨#[]⟩,⟨0,0,0⟩,[],[]⟩
def leftK (q:SIn) (t:Nat):Task→Nat
 | .settle _ at_=>(q.dec - t)+3 * (q.lim+1 - at_)+2
 | .choose _ at_ _ _=>(q.dec - t)+3 * (q.lim+1 - at_)+1
 | .bind _ at_ _=>(q.dec - t)+3 * (q.lim+1 - at_)
noncomputable def solS (q:SIn):Option (List Node):=
 if maniB q.m=false then none else match goS q (q.dec+3 * q.lim+6) (.settle [rootN] 0) 0 with
 | .ok _ ns=>some ns
 | _=>none
noncomputable def zCJ (L:List Pack) (ns:List Node):List Pack:=match ns with
 | []=>[]
 | _::l=>zAC::l.map fun n=>(getC L n.name n.ver).getD zAC
