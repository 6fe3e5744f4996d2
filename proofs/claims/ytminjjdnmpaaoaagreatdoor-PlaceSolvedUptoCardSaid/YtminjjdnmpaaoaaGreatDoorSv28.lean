/- The document's search: are two lists of pins the same, the place of a node: walked. (Printed by gen_srck.py.) -/
import Derived.Test.YtminjjdnmpaaoaaGreatDoorSv26
import Derived.Test.YtminjjdnmpaaoaaGreatDoorSv27
import Derived.Deep.DeepHandedRow
import Derived.Test.YtminjjdnmpaaoaaGreatDoorSv13
import Derived.Test.YtminjjdnmpaaoaaGreatDoorAl
set_option linter.all false
set_option maxHeartbeats 6400000
set_option maxRecDepth 100000
namespace Go.Proofs.YtminjjdnmpaaoaaGreatDoor
open Go.Rows Go.RowKit Go.Shelf Go.Sort
theorem zM5 (x y:Pin):x=y↔x.name=y.name∧x.ver.major=y.ver.major∧x.ver.minor=y.ver.minor∧x.ver.patch=y.ver.patch:=by
 obtain ⟨xn,x1,x2,x3⟩:=x
 obtain ⟨yn,y1,y2,y3⟩:=y
 simp
theorem zK5 {a b:List Pin} {k:Nat} {x y:Pin} (hx:a[k]?=some x) (hy:b[k]?=some y):eqB (a.drop k) (b.drop k)=((decide (x.name=y.name)&&(decide (x.ver.major=y.ver.major)&&(decide (x.ver.minor=y.ver.minor)&&decide (x.ver.patch=y.ver.patch))))&&eqB (a.drop (k+1)) (b.drop (k+1))):=by
 obtain ⟨h1,e1⟩:=gS.1 hx
 obtain ⟨h2,e2⟩:=gS.1 hy
 rw[dC h1,dC h2,e1,e2]
 rw[Bool.eq_iff_iff,zCC,List.cons.injEq,Bool.and_eq_true,zCC,zM5]
 simp[Bool.and_eq_true,and_assoc]
theorem zKk {a b:List Pin} {k:Nat} (h1:a.length≤k) (h2:b.length≤k):eqB (a.drop k) (b.drop k)=true:=by rw[dN h1,dN h2];exact zAP rfl
theorem zL1 (A:Option Addr) (n c:Nat) (a:List Pin) (B:Option Addr) (q d:Nat) (b:List Pin) (w:World) (S S2:Nat→Prop) (ha:SlV rPin w S a (.slice A n c)) (hb:SlV rPin w S2 b (.slice B q d)) :
  Calls Tryz.prog 180 #[.slice A n c,.slice B q d] w fun e w'=>e=.returned (.bool (eqB a b))∧Below w.heap.size w w':=by
 have hn:=ha.n_eq
 have hq:=hb.n_eq
 have hcap:=ha.cap_le
 unfold maxLen at hcap
 have HA:=cH ha
 have HB:=cH hb
 have Hn:Hid (a.length=n):=hn.symm
 have Hq:Hid (b.length=q):=hq.symm
 have hnz:n≤9223372036854775807:=by omega
 have HR:Hid (eqB a b=eqB (a.drop 0) (b.drop 0)):=rfl
 have HNe:Hid (n≠q→eqB a b=false):=fun h=>zAH (by rintro rfl;omega)
 obtain ⟨R,hR⟩:∃ R,R=eqB a b:=⟨_,rfl⟩
 rw[←hR] at HR HNe ⊢
 clear ha hb hn hq hcap hR
 go_enter Tryz.func180,Tryz.ntmps180
 by_cases hnq:n=q
 case neg=>
  have hbb:((n:Int)==(q:Int))=false:=by simp;omega
  have He:=cH (HNe.out hnq)
  clear HNe HR hnq
  go_wp2_with fail
  go_ret
  exact ⟨zAB He.out.symm,bR _ _⟩
 subst hnq
 have hbb:((n:Int)==(n:Int))=true:=by simp
 clear HNe
 go_wp2_with fail
 go_loopw [5] (fun t wr=>∃ k:Nat,k≤n∧t=.int .i64 k∧Hid (R=eqB (a.drop k) (b.drop k))∧Hid (Below w.heap.size w wr)) (fun t _=>n - (intOf t).toNat)
 case atStart=>exact ⟨0,nZ _,rfl,HR,bR _ _⟩
 case round=>
  clear HR
  obtain ⟨k,hk,rfl,heq,hB⟩:=hrel
  have hk0:(0:Int)≤(k:Int):=by omega
  by_cases hlt:k<n
  case neg=>
   have He:Hid (R=true):=by unfold Hid;rw[heq.out,zKk (by have:=Hn.out;omega) (by have:=Hq.out;omega)]
   have hI:¬(k:Int)<(n:Int):=by omega
   clear heq
   go_wp2_with fail
   go_ret
   exact ⟨zAB He.out.symm,hB.out⟩
  have hkI:(k:Int)<(n:Int):=by omega
  obtain ⟨x,hx⟩:∃ x,a[k]?=some x:=⟨_,gE (by have:=Hn.out;omega)⟩
  obtain ⟨y,hy⟩:∃ y,b[k]?=some y:=⟨_,gE (by have:=Hq.out;omega)⟩
  obtain ⟨xb,xo,cs,hA,_,hxb,⟨rfl,_,_,_,_⟩,hcell⟩:=(HA.out.belowSize hB.out).elem hx
  obtain ⟨yb,yo,cs',hA',_,hyb,⟨rfl,_,_,_,_⟩,hcell'⟩:=(HB.out.belowSize hB.out).elem hy
  have x0:=hcell 0 _ rfl
  have x1:=hcell 1 _ rfl
  have x2:=hcell 2 _ rfl
  have x3:=hcell 3 _ rfl
  have y0:=hcell' 0 _ rfl
  have y1:=hcell' 1 _ rfl
  have y2:=hcell' 2 _ rfl
  have y3:=hcell' 3 _ rfl
  simp only[rPin,Nat.add_zero] at x0 x1 x2 x3 y0 y1 y2 y3
  have Hstep:=cH (heq.out.trans (zK5 hx hy))
  clear hcell hcell' heq hx hy
  subst hA
  subst hA'
  obtain ⟨xn,u1,u2,u3⟩:=x
  obtain ⟨yn,v1,v2,v3⟩:=y
  simp only at x0 x1 x2 x3 y0 y1 y2 y3 Hstep
  by_cases hnm:xn=yn
  rotate_left
  focus
   have hb0:=zAL hnm
   have Hr:Hid (R=false):=by unfold Hid;rw[Hstep.out];simp[hnm]
   clear Hstep
   go_upto_region 6 with (fail)
   have r_x0:=cR x0
   have r_x1:=cR x1
   have r_x2:=cR x2
   have r_x3:=cR x3
   have r_y0:=cR y0
   have r_y1:=cR y1
   have r_y2:=cR y2
   have r_y3:=cR y3
   go_wp2_with fail
   refine wQ ?_
   repeat (go_big_quiet_step (first|fail))
   refine wpQuiet_nil fun w4 B4=>?_
   have HB4:=cH (bot hB.out B4)
   clear B4
   go_wp2_with fail
   go_ret
   exact ⟨zAB Hr.out.symm,HB4.out⟩
  have hb0:=zAT hnm
  by_cases e1:u1=v1
  rotate_left
  focus
   have hb1:(u1==v1)=false:=beq_eq_false_iff_ne.2 e1
   have Hr:Hid (R=false):=by unfold Hid;rw[Hstep.out];simp[e1]
   clear Hstep
   go_upto_region 6 with (fail)
   have r_x0:=cR x0
   have r_x1:=cR x1
   have r_x2:=cR x2
   have r_x3:=cR x3
   have r_y0:=cR y0
   have r_y1:=cR y1
   have r_y2:=cR y2
   have r_y3:=cR y3
   go_wp2_with fail
   refine wQ ?_
   repeat (go_big_quiet_step (first|fail))
   refine wpQuiet_nil fun w4 B4=>?_
   have HB4:=cH (bot hB.out B4)
   clear B4
   go_wp2_with fail
   go_ret
   exact ⟨zAB Hr.out.symm,HB4.out⟩
  have hb1:(u1==v1)=true:=by simp[e1]
  by_cases e2:u2=v2
  rotate_left
  focus
   have hb2:(u2==v2)=false:=beq_eq_false_iff_ne.2 e2
   have Hr:Hid (R=false):=by unfold Hid;rw[Hstep.out];simp[e2]
   clear Hstep
   go_upto_region 6 with (fail)
   have r_x0:=cR x0
   have r_x1:=cR x1
   have r_x2:=cR x2
   have r_x3:=cR x3
   have r_y0:=cR y0
   have r_y1:=cR y1
   have r_y2:=cR y2
   have r_y3:=cR y3
   go_wp2_with fail
   refine wQ ?_
   repeat (go_big_quiet_step (first|fail))
   refine wpQuiet_nil fun w4 B4=>?_
   have HB4:=cH (bot hB.out B4)
   clear B4
   go_wp2_with fail
   go_ret
   exact ⟨zAB Hr.out.symm,HB4.out⟩
  have hb2:(u2==v2)=true:=by simp[e2]
  by_cases e3:u3=v3
  rotate_left
  focus
   have hb3:(u3==v3)=false:=beq_eq_false_iff_ne.2 e3
   have Hr:Hid (R=false):=by unfold Hid;rw[Hstep.out];simp[e3]
   clear Hstep
   go_upto_region 6 with (fail)
   have r_x0:=cR x0
   have r_x1:=cR x1
   have r_x2:=cR x2
   have r_x3:=cR x3
   have r_y0:=cR y0
   have r_y1:=cR y1
   have r_y2:=cR y2
   have r_y3:=cR y3
   go_wp2_with fail
   refine wQ ?_
   repeat (go_big_quiet_step (first|fail))
   refine wpQuiet_nil fun w4 B4=>?_
   have HB4:=cH (bot hB.out B4)
   clear B4
   go_wp2_with fail
   go_ret
   exact ⟨zAB Hr.out.symm,HB4.out⟩
  have hb3:(u3==v3)=true:=by simp[e3]
  have He:Hid (R=eqB (a.drop (k+1)) (b.drop (k+1))):=by unfold Hid;rw[Hstep.out];simp[hnm,e1,e2,e3]
  clear Hstep hnm e1 e2 e3
  go_upto_region 6 with (fail)
  have r_x0:=cR x0
  have r_x1:=cR x1
  have r_x2:=cR x2
  have r_x3:=cR x3
  have r_y0:=cR y0
  have r_y1:=cR y1
  have r_y2:=cR y2
  have r_y3:=cR y3
  go_wp2_with fail
  refine wQ ?_
  repeat (go_big_quiet_step (first|fail))
  refine wpQuiet_nil fun w4 B4=>?_
  have HB4:=cH (bot hB.out B4)
  clear B4
  go_wp2_with fail
  go_roundw
  case rel=>exact ⟨k+1,by omega,by go_num,He,HB4⟩
  case measure=>simp[intOf];omega
theorem zGz {p:Pin} {c:List Pin} {l:List Node} {k:Nat} {x:Node} (hx:l[k]?=some x):zAz p c (l.drop k)=if (decide (x.name=p.name)&&(decide (x.ver.major=p.ver.major)&&(decide (x.ver.minor=p.ver.minor)&&decide (x.ver.patch=p.ver.patch))))&&eqB x.ctx c then 0 else zAz p c (l.drop (k+1))+1:=by
 obtain ⟨h,e⟩:=gS.1 hx
 rw[dC h,e,zAz]
 unfold isN
 rw[zEE]
 simp only[Bool.and_assoc]
theorem zHA {p:Pin} {c:List Pin} {l:List Node} {k:Nat} (h:l.length≤k):zAz p c (l.drop k)=0:=by rw[dN h];rfl
theorem zKv (A:Option Addr) (n c:Nat) (l:List Node) (p:Pin) (B:Option Addr) (q d:Nat) (cx:List Pin) (w:World) (S S2:Nat→Prop) (hl:SlV rNode w S l (.slice A n c)) (hb:SlV rPin w S2 cx (.slice B q d)) (hl1:1≤l.length) :
  Calls Tryz.prog 164 #[.slice A n c,.agg #[.string p.name,.int .i64 p.ver.major,.int .i64 p.ver.minor,.int .i64 p.ver.patch],.slice B q d] w fun e w'=>e=.returned (.int .i64 (placeN l p cx:Int))∧Below w.heap.size w w':=by
 have hn:=hl.n_eq
 have hcap:=hl.cap_le
 unfold maxLen at hcap
 have HL:=cH hl
 have HB:=cH hb
 have Hn:Hid (l.length=n):=hn.symm
 have hnz:n≤9223372036854775807:=by omega
 have hn1:1≤n:=by omega
 have HR:Hid (placeN l p cx=1+zAz p cx (l.drop 1)):=by
  unfold Hid
  cases l with
  | nil=>simp at hl1
  | cons a l=>unfold placeN;rw[List.drop_succ_cons,List.drop_zero,Nat.add_comm]
 obtain ⟨R,hR⟩:∃ R,R=placeN l p cx:=⟨_,rfl⟩
 rw[←hR] at HR ⊢
 have HStep:Hid (∀ (k:Nat) (x:Node),l[k]?=some x→zAz p cx (l.drop k)=if (decide (x.name=p.name)&&(decide (x.ver.major=p.ver.major)&&(decide (x.ver.minor=p.ver.minor)&&decide (x.ver.patch=p.ver.patch))))&&eqB x.ctx cx then 0 else zAz p cx (l.drop (k+1))+1):=fun k x hx=>zGz hx
 obtain ⟨pn,v1,v2,v3⟩:=p
 simp only at HStep ⊢
 clear hl hb hn hcap hR hl1
 obtain ⟨w0,hw0⟩:∃ w0,w0=w.alloc (.cells #[.string pn,.int .i64 v1,.int .i64 v2,.int .i64 v3] 63):=⟨_,rfl⟩
 have HB0:Hid (Below w.heap.size w w0):=by unfold Hid;rw[hw0];exact bal (bR _ _) _
 have hq0:w0.heap[w.heap.size]?=some (.cells #[.string pn,.int .i64 v1,.int .i64 v2,.int .i64 v3] 63 (0,0)):=by rw[hw0];exact zAD _ _
 obtain ⟨g,hg⟩:∃ g,g=w.heap.size:=⟨_,rfl⟩
 rw[←hg] at hq0
 have Hrow:Hid (∀ W,Below w0.heap.size w0 W→W.cell? ⟨g,0,none⟩=some (.string pn)∧W.cell? ⟨g,1,none⟩=some (.int .i64 v1)∧W.cell? ⟨g,2,none⟩=some (.int .i64 v2)∧W.cell? ⟨g,3,none⟩=some (.int .i64 v3)):=fun W hW=>by
  have h:=(hW.block _ (aS.1 hq0).1).trans hq0
  exact ⟨cO _ _ 0 _ _ _ h,cO _ _ 1 _ _ _ h,cO _ _ 2 _ _ _ h,cO _ _ 3 _ _ _ h⟩
 clear hq0
 go_enter Tryz.func164,Tryz.ntmps164
 go_wp2_with fail
 rw[←hw0,←hg]
 clear hw0 hg
 go_loopw [7] (fun t wr=>∃ k:Nat,1≤k∧k≤n∧t=.int .i64 k∧Hid (R=k+zAz ⟨pn,v1,v2,v3⟩ cx (l.drop k))∧Hid (Below w0.heap.size w0 wr)) (fun t _=>n - (intOf t).toNat)
 case atStart=>exact ⟨1,nR _,hn1,rfl,HR,bR _ _⟩
 case round=>
  clear HR
  obtain ⟨k,hk1,hk,rfl,heq,hB⟩:=hrel
  have hk0:(0:Int)≤(k:Int):=by omega
  have HBw:=cH (bot HB0.out hB.out)
  obtain ⟨y0,y1,y2,y3⟩:=Hrow.out wr hB.out
  by_cases hlt:k<n
  case neg=>
   have He:Hid (R=n):=by unfold Hid;rw[heq.out,zHA (by have:=Hn.out;omega)];omega
   have hI:¬(k:Int)<(n:Int):=by omega
   clear heq
   go_wp2_with fail
   go_ret
   exact ⟨zAS (by rw[He.out]),HBw.out⟩
  have hkI:(k:Int)<(n:Int):=by omega
  obtain ⟨x,hx⟩:∃ x,l[k]?=some x:=⟨_,gE (by have:=Hn.out;omega)⟩
  obtain ⟨b,o,cs,hA,_,hb1,⟨s0,s1,rfl,_,_,_,_,hcx,_⟩,hcell⟩:=(HL.out.belowSize HBw.out).elem hx
  obtain ⟨xA,xc,rfl,_,_⟩:=hcx.val
  have x0:=hcell 0 _ rfl
  have x1:=hcell 1 _ rfl
  have x2:=hcell 2 _ rfl
  have x3:=hcell 3 _ rfl
  have x4:=hcell 4 _ rfl
  simp only[rNode,Nat.add_zero] at x0 x1 x2 x3 x4
  have Hstep:Hid (R=k+if (decide (x.name=pn)&&(decide (x.ver.major=v1)&&(decide (x.ver.minor=v2)&&decide (x.ver.patch=v3))))&&eqB x.ctx cx then 0 else zAz ⟨pn,v1,v2,v3⟩ cx (l.drop (k+1))+1):=by unfold Hid;rw[heq.out,HStep.out k x hx]
  have HSq:Hid (∀ W,Below wr.heap.size wr W→Calls Tryz.prog 180 #[.slice xA x.ctx.length xc,.slice B q d] W fun e w'=>e=.returned (.bool (eqB x.ctx cx))∧Below W.heap.size W w'):=fun W hW=>zL1 xA _ xc x.ctx B q d cx W S S2 (hcx.belowSize hW) (HB.out.belowSize (bot HBw.out hW))
  have HTq:=cH (qcall (w:=wr) HSq.out)
  clear hcell heq hx hcx HSq
  subst hA
  obtain ⟨xn,⟨u1,u2,u3⟩,xx,xe⟩:=x
  simp only at x0 x1 x2 x3 x4 Hstep HTq
  generalize xx.length=xl at *
  generalize eqB xx cx=eb at *
  by_cases hnm:xn=pn
  rotate_left
  focus
   have hb0:=zAL hnm
   have He:Hid (R=(k+1)+zAz ⟨pn,v1,v2,v3⟩ cx (l.drop (k+1))):=by unfold Hid;rw[Hstep.out,if_neg (by simp[hnm])];omega
   clear Hstep
   go_upto_region 4 with (fail)
   have r_x0:=cR x0
   have r_x1:=cR x1
   have r_x2:=cR x2
   have r_x3:=cR x3
   have r_x4:=cR x4
   have r_y0:=cR y0
   have r_y1:=cR y1
   have r_y2:=cR y2
   have r_y3:=cR y3
   go_wp2_with fail
   refine wQ ?_
   repeat (go_big_quiet_step (first|(with_reducible exact HTq.out _ _)))
   refine wpQuiet_nil fun w4 B4=>?_
   have HB4:=cH (bot hB.out B4)
   clear B4
   go_wp2_with fail
   go_roundw
   case rel=>exact ⟨k+1,by omega,by omega,by go_num,He,HB4⟩
   case measure=>simp[intOf];omega
  have hb0:=zAT hnm
  by_cases e1:u1=v1
  rotate_left
  focus
   have hb1:(u1==v1)=false:=beq_eq_false_iff_ne.2 e1
   have He:Hid (R=(k+1)+zAz ⟨pn,v1,v2,v3⟩ cx (l.drop (k+1))):=by unfold Hid;rw[Hstep.out,if_neg (by simp[e1])];omega
   clear Hstep
   go_upto_region 4 with (fail)
   have r_x0:=cR x0
   have r_x1:=cR x1
   have r_x2:=cR x2
   have r_x3:=cR x3
   have r_x4:=cR x4
   have r_y0:=cR y0
   have r_y1:=cR y1
   have r_y2:=cR y2
   have r_y3:=cR y3
   go_wp2_with fail
   refine wQ ?_
   repeat (go_big_quiet_step (first|(with_reducible exact HTq.out _ _)))
   refine wpQuiet_nil fun w4 B4=>?_
   have HB4:=cH (bot hB.out B4)
   clear B4
   go_wp2_with fail
   go_roundw
   case rel=>exact ⟨k+1,by omega,by omega,by go_num,He,HB4⟩
   case measure=>simp[intOf];omega
  have hb1:(u1==v1)=true:=by simp[e1]
  by_cases e2:u2=v2
  rotate_left
  focus
   have hb2:(u2==v2)=false:=beq_eq_false_iff_ne.2 e2
   have He:Hid (R=(k+1)+zAz ⟨pn,v1,v2,v3⟩ cx (l.drop (k+1))):=by unfold Hid;rw[Hstep.out,if_neg (by simp[e2])];omega
   clear Hstep
   go_upto_region 4 with (fail)
   have r_x0:=cR x0
   have r_x1:=cR x1
   have r_x2:=cR x2
   have r_x3:=cR x3
   have r_x4:=cR x4
   have r_y0:=cR y0
   have r_y1:=cR y1
   have r_y2:=cR y2
   have r_y3:=cR y3
   go_wp2_with fail
   refine wQ ?_
   repeat (go_big_quiet_step (first|(with_reducible exact HTq.out _ _)))
   refine wpQuiet_nil fun w4 B4=>?_
   have HB4:=cH (bot hB.out B4)
   clear B4
   go_wp2_with fail
   go_roundw
   case rel=>exact ⟨k+1,by omega,by omega,by go_num,He,HB4⟩
   case measure=>simp[intOf];omega
  have hb2:(u2==v2)=true:=by simp[e2]
  by_cases e3:u3=v3
  rotate_left
  focus
   have hb3:(u3==v3)=false:=beq_eq_false_iff_ne.2 e3
   have He:Hid (R=(k+1)+zAz ⟨pn,v1,v2,v3⟩ cx (l.drop (k+1))):=by unfold Hid;rw[Hstep.out,if_neg (by simp[e3])];omega
   clear Hstep
   go_upto_region 4 with (fail)
   have r_x0:=cR x0
   have r_x1:=cR x1
   have r_x2:=cR x2
   have r_x3:=cR x3
   have r_x4:=cR x4
   have r_y0:=cR y0
   have r_y1:=cR y1
   have r_y2:=cR y2
   have r_y3:=cR y3
   go_wp2_with fail
   refine wQ ?_
   repeat (go_big_quiet_step (first|(with_reducible exact HTq.out _ _)))
   refine wpQuiet_nil fun w4 B4=>?_
   have HB4:=cH (bot hB.out B4)
   clear B4
   go_wp2_with fail
   go_roundw
   case rel=>exact ⟨k+1,by omega,by omega,by go_num,He,HB4⟩
   case measure=>simp[intOf];omega
  have hb3:(u3==v3)=true:=by simp[e3]
  cases eb with
  | false=>
    skip
    have He:Hid (R=(k+1)+zAz ⟨pn,v1,v2,v3⟩ cx (l.drop (k+1))):=by unfold Hid;rw[Hstep.out,if_neg (by simp[])];omega
    clear Hstep
    go_upto_region 4 with (fail)
    have r_x0:=cR x0
    have r_x1:=cR x1
    have r_x2:=cR x2
    have r_x3:=cR x3
    have r_x4:=cR x4
    have r_y0:=cR y0
    have r_y1:=cR y1
    have r_y2:=cR y2
    have r_y3:=cR y3
    go_wp2_with fail
    refine wQ ?_
    repeat (go_big_quiet_step (first|(with_reducible exact HTq.out _ _)))
    refine wpQuiet_nil fun w4 B4=>?_
    have HB4:=cH (bot hB.out B4)
    clear B4
    go_wp2_with fail
    go_roundw
    case rel=>exact ⟨k+1,by omega,by omega,by go_num,He,HB4⟩
    case measure=>simp[intOf];omega
  | true=>
    have He:Hid (R=k):=by unfold Hid;rw[Hstep.out,if_pos (by simp[hnm,e1,e2,e3])];omega
    clear Hstep
    go_upto_region 4 with (fail)
    have r_x0:=cR x0
    have r_x1:=cR x1
    have r_x2:=cR x2
    have r_x3:=cR x3
    have r_x4:=cR x4
    have r_y0:=cR y0
    have r_y1:=cR y1
    have r_y2:=cR y2
    have r_y3:=cR y3
    go_wp2_with fail
    refine wQ ?_
    repeat (go_big_quiet_step (first|(with_reducible exact HTq.out _ _)))
    refine wpQuiet_nil fun w4 B4=>?_
    have HB4:=cH (bot HBw.out B4)
    clear B4
    go_wp2_with fail
    go_ret
    exact ⟨zAS (by rw[He.out]),HB4.out⟩
theorem zDj (l:List Want) (x:Want):(zBn l x).length=l.length+1:=by
 unfold zBn
 rw[List.length_append,List.length_cons,List.length_take,List.length_drop]
 omega
theorem zA0 (m:Mani) (kd:Int):∀ (ds:List Dep) (l:List Want),(zAQ m kd ds l).length=l.length+ds.length:=by
 intro ds
 induction ds with
 | nil=>intro l;rfl
 | cons d ds ih=>intro l;rw[zAQ,ih,zDj,List.length_cons];omega
theorem zIe {m:Mani} {kd:Int} {ds:List Dep} {k:Nat} {d:Dep} (hd:ds[k]?=some d) (l:List Want):zAQ m kd (ds.drop k) l=zAQ m kd (ds.drop (k+1)) (zBn l ⟨d.name,kd,zBk m d⟩):=by
 obtain ⟨h,e⟩:=gS.1 hd
 rw[dC h,e,zAQ]
theorem zH1 {m:Mani} {kd:Int} {ds:List Dep} {k:Nat} (h:ds.length≤k) (l:List Want):zAQ m kd (ds.drop k) l=l:=by rw[dN h];rfl
theorem zJz (A:Option Addr) (n c:Nat) (l:List Want) (dA:Option Addr) (dn dc:Nat) (ds:List Dep) (kd:Int) (m:Mani) (u:Value) (w:World) (S:Nat→Prop) (hl:SlV rWant w S l (.slice A n c)) (hd:SlV rDep w S ds (.slice dA dn dc)) (hlz:l.length+ds.length≤4194304) (hkd:I64 kd) (hm:ManiV w S m u) :
  Calls Tryz.prog 168 #[.slice A n c,.slice dA dn dc,.int .i64 kd,u] w fun e w'=>(∃ B k,e=.returned (.slice B (zAQ m kd ds l).length k)∧SlV rWant w' (fun b=>S b∨w.heap.size≤b) (zAQ m kd ds l) (.slice B (zAQ m kd ds l).length k))∧Below w.heap.size w w':=by
 have HM:=cH hm
 obtain ⟨A0,n0,c0,A1,n1,c1,A2,n2,c2,A3,n3,c3,rfl,_,_,_,_⟩:=hm
 have hn:=hl.n_eq
 have hdn:=hd.n_eq
 have hdc:=hd.cap_le
 unfold maxLen at hdc
 have HD:=cH hd
 have HL:=cH hl
 have Hkd:=cH hkd
 have Hz0:Hid (ds.length=dn):=hdn.symm
 have hdz:dn≤4194304:=by omega
 have Hlz:=cH hlz
 have HR:Hid (zAQ m kd ds l=zAQ m kd (ds.drop 0) l):=rfl
 obtain ⟨R,hR⟩:∃ R,R=zAQ m kd ds l:=⟨_,rfl⟩
 rw[←hR] at HR ⊢
 have Hn:=cH hn
 clear hl hd hlz hkd hn hdn hR hdc
 obtain ⟨w0,hw0⟩:∃ w0,w0=w.alloc (.cells #[.slice A0 n0 c0,.slice A1 n1 c1,.slice A2 n2 c2,.slice A3 n3 c3] 28):=⟨_,rfl⟩
 have HB0:Hid (Below w.heap.size w w0):=by unfold Hid;rw[hw0];exact bal (bR _ _) _
 have hq0:w0.heap[w.heap.size]?=some (.cells #[.slice A0 n0 c0,.slice A1 n1 c1,.slice A2 n2 c2,.slice A3 n3 c3] 28 (0,0)):=by rw[hw0];exact zAD _ _
 obtain ⟨g,hg⟩:∃ g,g=w.heap.size:=⟨_,rfl⟩
 rw[←hg] at hq0
 have Hbox:Hid (∀ W,Below w0.heap.size w0 W→W.cell? ⟨g,0,none⟩=some (.slice A0 n0 c0)∧W.cell? ⟨g,1,none⟩=some (.slice A1 n1 c1)∧W.cell? ⟨g,2,none⟩=some (.slice A2 n2 c2)∧W.cell? ⟨g,3,none⟩=some (.slice A3 n3 c3)):=fun W hW=>by
  have h:=(hW.block _ (aS.1 hq0).1).trans hq0
  exact ⟨cO _ _ 0 _ _ _ h,cO _ _ 1 _ _ _ h,cO _ _ 2 _ _ _ h,cO _ _ 3 _ _ _ h⟩
 clear hq0
 go_enter Tryz.func168,Tryz.ntmps168
 go_wp2_with fail
 rw[←hw0,←hg]
 clear hw0 hg
 go_loopw [0,9] (fun lv iv wr=>∃ (k:Nat) (Lk:List Want) (B:Option Addr) (q:Nat),k≤dn∧lv=.slice B (l.length+k) q∧iv=.int .i64 k∧Hid (Lk.length=l.length+k)∧Hid (R=zAQ m kd (ds.drop k) Lk)∧Hid (SlV rWant wr (fun b=>S b∨w.heap.size≤b) Lk (.slice B (l.length+k) q))∧Hid (Below w0.heap.size w0 wr)) (fun _ iv _=>dn - (intOf iv).toNat)
 case atStart=>exact ⟨0,l,A,c,nZ _,by rw[Hn.out];rfl,rfl,cH rfl,HR,cH (by have:=(HL.out.belowSize HB0.out).more (S':=fun b=>S b∨w.heap.size≤b) fun b hb _=>Or.inl hb;rw[Hn.out] at this;exact this),bR _ _⟩
 case round=>
  clear HR HL
  obtain ⟨k,Lk,B,q,hk,rfl,rfl,Hlk,heq,HLk,hB⟩:=hrel
  have hk0:(0:Int)≤(k:Int):=by omega
  have HBw:=cH (bot HB0.out hB.out)
  by_cases hlt:k<dn
  case neg=>
   have He:Hid (R=Lk):=by unfold Hid;rw[heq.out,zH1 (by have:=Hz0.out;omega)]
   have hI:¬(k:Int)<(dn:Int):=by omega
   have HLe:Hid (SlV rWant wr (fun b=>S b∨w.heap.size≤b) R (.slice B R.length q)):=by unfold Hid;rw[He.out,Hlk.out];exact HLk.out
   have Hrl:Hid (R.length=l.length+k):=by unfold Hid;rw[He.out,Hlk.out]
   clear heq HLk He
   generalize l.length+k=N at *
   go_wp2_with fail
   go_ret
   exact ⟨⟨B,q,(by rw[Hrl.out];try rfl),HLe.out⟩,HBw.out⟩
  have hkI:(k:Int)<(dn:Int):=by omega
  obtain ⟨d,hd⟩:∃ d,ds[k]?=some d:=⟨_,gE (by have:=Hz0.out;omega)⟩
  obtain ⟨b,o,cs,hA,_,hb,⟨s0,rfl,hsz,hrg⟩,hcell⟩:=HD.out.elem hd
  obtain ⟨rA,rc,rfl,_,_⟩:=hrg.val
  have Hc:Hid (∀ W,Below w.heap.size w W→W.cell? ⟨b,o+k * 2,none⟩=some (.string d.name)∧W.cell? ⟨b,o+k * 2+1,none⟩=some (.slice rA d.range.length rc)):=fun W hW=>⟨zAA hW (hcell 0 _ rfl) hb,zAA hW (hcell 1 _ rfl) hb⟩
  have HRg:Hid (∀ W,Below wr.heap.size wr W→Calls Tryz.prog 182 #[.agg #[.slice A0 n0 c0,.slice A1 n1 c1,.slice A2 n2 c2,.slice A3 n3 c3],.agg #[.string d.name,.slice rA d.range.length rc]] W fun e w'=>(∃ B k c,e=.returned (.slice B k c)∧SlV rSpn w' S (zBk m d) (.slice B k c))∧Below W.heap.size W w'):=fun W hW=>by
   refine (zGj m d _ rA d.range.length rc W S (HM.out.keep (bot HBw.out hW)) (hrg.belowSize (bot HBw.out hW))).mono ?_
   rintro e w' ⟨⟨B,k,c,h1,h2⟩,h3⟩
   exact ⟨⟨B,k,c,h1,h2.belowSize h3⟩,h3⟩
  have HPl:Hid (∀ W B2 k2 c2,Below wr.heap.size wr W→SlV rSpn W S (zBk m d) (.slice B2 k2 c2)→Calls Tryz.prog 181 #[.slice B (l.length+k) q,.agg #[.string d.name,.int .i64 kd,.slice B2 k2 c2]] W fun e w'=>(∃ B m',e=.returned (.slice B (l.length+(k+1)) m')∧SlV rWant w' (fun b=>S b∨w.heap.size≤b) (zBn Lk ⟨d.name,kd,zBk m d⟩) (.slice B (l.length+(k+1)) m'))∧Below W.heap.size W w'):=fun W B2 k2 c2 hW hs=>by
   refine (zJb B (l.length+k) q Lk ⟨d.name,kd,zBk m d⟩ B2 k2 c2 W (fun b=>S b∨w.heap.size≤b) (HLk.out.belowSize hW) (by have:=Hlk.out;have:=Hlz.out;have:=Hz0.out;omega) hsz Hkd.out (hs.more fun b hb _=>Or.inl hb)).mono ?_
   rintro e w' ⟨B,m',h1,h2,h3⟩
   have hlen:(zBn Lk ⟨d.name,kd,zBk m d⟩).length=l.length+(k+1):=by rw[zDj,Hlk.out];omega
   rw[hlen] at h1 h2
   have hwz:w.heap.size≤W.heap.size:=(bot HBw.out hW).size
   exact ⟨⟨B,m',h1,h2.more fun b hb _=>by rcases hb with hb|hb;exact hb;exact Or.inr (by omega)⟩,h3⟩
  have Hlen:Hid ((zBn Lk ⟨d.name,kd,zBk m d⟩).length=l.length+(k+1)):=by unfold Hid;rw[zDj,Hlk.out];omega
  have He:Hid (R=zAQ m kd (ds.drop (k+1)) (zBn Lk ⟨d.name,kd,zBk m d⟩)):=by unfold Hid;rw[heq.out,zIe hd]
  obtain ⟨x0,x1⟩:=Hc.out wr HBw.out
  clear hcell hsz hrg hd heq HLk Hlk
  subst hA
  obtain ⟨nm,dr⟩:=d
  simp only at Hc HRg HPl Hlen He x0 x1
  generalize dr.length=rn at *
  generalize zBk m ⟨nm,dr⟩=rg at *
  obtain ⟨wo,hwo⟩:∃ wo,wo=wr:=⟨_,rfl⟩
  have HBo:Hid (Below w0.heap.size w0 wr):=hB
  obtain ⟨y0,y1,y2,y3⟩:=Hbox.out wr hB.out
  have Hall:Hid (∀ W,Below wr.heap.size wr W→(W.cell? ⟨b,o+k * 2,none⟩=some (.string nm)∧W.cell? ⟨b,o+k * 2+1,none⟩=some (.slice rA rn rc))∧W.cell? ⟨g,0,none⟩=some (.slice A0 n0 c0)∧W.cell? ⟨g,1,none⟩=some (.slice A1 n1 c1)∧W.cell? ⟨g,2,none⟩=some (.slice A2 n2 c2)∧W.cell? ⟨g,3,none⟩=some (.slice A3 n3 c3)):=fun W hW=>⟨Hc.out W (bot HBw.out hW),Hbox.out W (bot hB.out hW)⟩
  clear hwo
  generalize l.length+k=N at *
  obtain ⟨N1,hN1⟩:∃ N1,N1=l.length+(k+1):=⟨_,rfl⟩
  rw[←hN1] at HPl Hlen
  have HN1:=cH hN1
  clear hN1
  go_upto_region 4 with (fail)
  go_region_held3 (fun W=>((W.cell? ⟨b,o+k * 2,none⟩=some (.string nm)∧W.cell? ⟨b,o+k * 2+1,none⟩=some (.slice rA rn rc))∧W.cell? ⟨g,0,none⟩=some (.slice A0 n0 c0)∧W.cell? ⟨g,1,none⟩=some (.slice A1 n1 c1)∧W.cell? ⟨g,2,none⟩=some (.slice A2 n2 c2)∧W.cell? ⟨g,3,none⟩=some (.slice A3 n3 c3))∧Below wr.heap.size wr W)
   (first
     | (with_reducible exact ⟨Hall.out _ (bR _ _).drew,(bR _ _).drew⟩)
     | (with_reducible exact ⟨Hall.out _ hB3,hB3⟩)
     | (with_reducible exact ⟨Hall.out _ hB2,hB2⟩))
   (first
     | (go_at_call 182;go_split_ands;with_reducible refine (HRg.out _ (by assumption)).mono ?_;rintro e w2 ⟨⟨B2,k2,c2,rfl,hrg⟩,hb2⟩;have hB2:Below wr.heap.size wr w2:=bot (by assumption) hb2)
     | (go_at_call 181;go_split_ands;with_reducible refine (HPl.out _ _ _ _ (by assumption) hrg).mono ?_;rintro e w3 ⟨⟨B3,m3,rfl,hsl⟩,hb3⟩;have hB3:Below wr.heap.size wr w3:=bot (by assumption) hb3))
  all_goals
   have HB3:=cH (bot hB.out hB3)
   have HS3:=cH hsl
   clear hsl hrg hb2 hb3 hB2 hB3
   go_wp2_with fail
   go_roundw
   case rel=>
    have h:=HN1.out
    subst h
    exact ⟨k+1,_,B3,m3,by omega,rfl,by go_num,Hlen,He,HS3,HB3⟩
   case measure=>simp[intOf];omega
theorem zMg (m:Mani) (p:Pack):(ofW m p).length=p.deps.length+p.opts.length:=by unfold ofW;rw[zA0,zA0];simp
theorem zCf {A:Option Addr} {n c:Nat} {l:List Want} {dA:Option Addr} {dn dc:Nat} {ds:List Dep} {kd:Int} {m:Mani} {u:Value} {w W:World} {S:Nat→Prop} (hW:Below w.heap.size w W) (hl:SlV rWant W (fun b=>S b∨w.heap.size≤b) l (.slice A n c)) (hd:SlV rDep w S ds (.slice dA dn dc)) (hlz:l.length+ds.length≤4194304) (hkd:I64 kd) (hm:ManiV w S m u) :
  Calls Tryz.prog 168 #[.slice A n c,.slice dA dn dc,.int .i64 kd,u] W fun e w'=>(∃ B k,e=.returned (.slice B (zAQ m kd ds l).length k)∧SlV rWant w' (fun b=>S b∨w.heap.size≤b) (zAQ m kd ds l) (.slice B (zAQ m kd ds l).length k))∧Below W.heap.size W w':=by
 have hm':ManiV W (fun b=>S b∨w.heap.size≤b) m u:=by
  obtain ⟨A0,n0,c0,A1,n1,c1,A2,n2,c2,A3,n3,c3,h,h0,h1,h2,h3⟩:=hm.keep hW
  exact ⟨A0,n0,c0,A1,n1,c1,A2,n2,c2,A3,n3,c3,h,h0.more fun _ h _=>Or.inl h,h1.more fun _ h _=>Or.inl h,h2.more fun _ h _=>Or.inl h,h3.more fun _ h _=>Or.inl h⟩
 refine (zJz A n c l dA dn dc ds kd m u W (fun b=>S b∨w.heap.size≤b) hl ((hd.belowSize hW).more fun _ h _=>Or.inl h) hlz hkd hm').mono ?_
 rintro e w' ⟨⟨B,k,h1,h2⟩,h3⟩
 have:=hW.size
 exact ⟨⟨B,k,h1,h2.more fun b hb _=>by rcases hb with hb|hb;exact hb;exact Or.inr (by omega)⟩,h3⟩
theorem zM8 (p:Pack) (u:Value) (m:Mani) (v:Value) (w:World) (S:Nat→Prop) (hp:PackV w S p u) (hsm:zBR p) (hm:ManiV w S m v) :
  Calls Tryz.prog 149 #[u,v] w fun e w'=>(∃ B k,e=.returned (.slice B (ofW m p).length k)∧SlV rWant w' (fun b=>S b∨w.heap.size≤b) (ofW m p) (.slice B (ofW m p).length k))∧Below w.heap.size w w':=by
 have HM:=cH hm
 obtain ⟨A0,n0,c0,A1,n1,c1,A2,n2,c2,A3,n3,c3,rfl,_,_,_,_⟩:=hm
 obtain ⟨dA,pA,oA,dc,pc,oc,rfl,hnm,h1,h2,h3⟩:=hp.open_
 have HA1:Hid (∀ W,Below w.heap.size w W→Calls Tryz.prog 168 #[.slice none 0 0,.slice dA p.deps.length dc,.int .i64 1,.agg #[.slice A0 n0 c0,.slice A1 n1 c1,.slice A2 n2 c2,.slice A3 n3 c3]] W fun e w'=>(∃ B k,e=.returned (.slice B (zAQ m 1 p.deps []).length k)∧SlV rWant w' (fun b=>S b∨w.heap.size≤b) (zAQ m 1 p.deps []) (.slice B (zAQ m 1 p.deps []).length k))∧Below W.heap.size W w'):=fun W hW=>
  zCf hW (SlV.nil_ _ _ _) h1 (by have:=hsm.1.1;simp;omega) (by unfold I64;decide) HM.out
 have HA2:Hid (∀ W B k,Below w.heap.size w W→SlV rWant W (fun b=>S b∨w.heap.size≤b) (zAQ m 1 p.deps []) (.slice B (zAQ m 1 p.deps []).length k)→Calls Tryz.prog 168 #[.slice B (zAQ m 1 p.deps []).length k,.slice oA p.opts.length oc,.int .i64 2,.agg #[.slice A0 n0 c0,.slice A1 n1 c1,.slice A2 n2 c2,.slice A3 n3 c3]] W fun e w'=>(∃ B k,e=.returned (.slice B (ofW m p).length k)∧SlV rWant w' (fun b=>S b∨w.heap.size≤b) (ofW m p) (.slice B (ofW m p).length k))∧Below W.heap.size W w'):=fun W B k hW hl=>
  zCf hW hl h3 (by have:=hsm.1.1;have:=hsm.2.2.1;rw[zA0];simp;omega) (by unfold I64;decide) HM.out
 obtain ⟨M,hM⟩:∃ M,M=(ofW m p).length:=⟨_,rfl⟩
 rw[←hM] at HA2 ⊢
 generalize ofW m p=R at *
 generalize (zAQ m 1 p.deps []).length=N1 at *
 generalize zAQ m 1 p.deps []=L1 at *
 clear hM hnm h1 h2 h3 hsm hp
 obtain ⟨pn,⟨x1,x2,x3⟩,pd,pp,po⟩:=p
 simp only at HA1 HA2 ⊢
 generalize pd.length=l1 at *
 generalize pp.length=l2 at *
 generalize po.length=l3 at *
 obtain ⟨w0,hw0⟩:∃ w0,w0=(w.alloc (.cells #[.string pn,.int .i64 x1,.int .i64 x2,.int .i64 x3,.slice dA l1 dc,.slice pA l2 pc,.slice oA l3 oc] 52)).alloc (.cells #[.slice A0 n0 c0,.slice A1 n1 c1,.slice A2 n2 c2,.slice A3 n3 c3] 28):=⟨_,rfl⟩
 have hw1:(w.alloc (.cells #[.string pn,.int .i64 x1,.int .i64 x2,.int .i64 x3,.slice dA l1 dc,.slice pA l2 pc,.slice oA l3 oc] 52)).heap.size=w.heap.size+1:=by simp
 have HB0:Hid (Below w.heap.size w w0):=by unfold Hid;rw[hw0];exact bal (bal (bR _ _) _) _
 have hqX:w0.heap[w.heap.size]?=some (.cells #[.string pn,.int .i64 x1,.int .i64 x2,.int .i64 x3,.slice dA l1 dc,.slice pA l2 pc,.slice oA l3 oc] 52 (0,0)):=by
  rw[hw0]
  exact ((bal (bR _ _) _).block _ (by rw[hw1];omega)).trans (zAD _ _)
 have hqY:w0.heap[w.heap.size+1]?=some (.cells #[.slice A0 n0 c0,.slice A1 n1 c1,.slice A2 n2 c2,.slice A3 n3 c3] 28 (0,0)):=by
  rw[hw0,←hw1]
  exact zAD _ _
 obtain ⟨PB,hPB⟩:∃ k,k=w.heap.size:=⟨_,rfl⟩
 obtain ⟨MB,hMB⟩:∃ k,k=w.heap.size+1:=⟨_,rfl⟩
 rw[←hPB] at hqX
 rw[←hMB] at hqY
 have Hall:Hid (∀ W,Below w0.heap.size w0 W→W.cell? ⟨PB,4,none⟩=some (.slice dA l1 dc)∧W.cell? ⟨PB,6,none⟩=some (.slice oA l3 oc)∧W.cell? ⟨MB,0,none⟩=some (.slice A0 n0 c0)∧W.cell? ⟨MB,1,none⟩=some (.slice A1 n1 c1)∧W.cell? ⟨MB,2,none⟩=some (.slice A2 n2 c2)∧W.cell? ⟨MB,3,none⟩=some (.slice A3 n3 c3)):=fun W hW=>by
  have h1:=(hW.block _ (aS.1 hqX).1).trans hqX
  have h2:=(hW.block _ (aS.1 hqY).1).trans hqY
  exact ⟨cO _ _ 4 _ _ _ h1,cO _ _ 6 _ _ _ h1,cO _ _ 0 _ _ _ h2,cO _ _ 1 _ _ _ h2,cO _ _ 2 _ _ _ h2,cO _ _ 3 _ _ _ h2⟩
 obtain ⟨q4,q6,y0,y1,y2,y3⟩:=Hall.out w0 (bR _ _)
 clear hqX hqY hw1 HM
 go_enter Tryz.func149,Tryz.ntmps149
 go_upto_region 1 with (fail)
 rw[←hw0,←hMB,←hPB]
 clear hw0 hMB hPB
 go_region_held3 (fun W=>(W.cell? ⟨PB,4,none⟩=some (.slice dA l1 dc)∧W.cell? ⟨PB,6,none⟩=some (.slice oA l3 oc)∧W.cell? ⟨MB,0,none⟩=some (.slice A0 n0 c0)∧W.cell? ⟨MB,1,none⟩=some (.slice A1 n1 c1)∧W.cell? ⟨MB,2,none⟩=some (.slice A2 n2 c2)∧W.cell? ⟨MB,3,none⟩=some (.slice A3 n3 c3))∧Below w0.heap.size w0 W)
  (first
    | (with_reducible exact ⟨Hall.out _ (bR _ _).drew,(bR _ _).drew⟩)
    | (with_reducible exact ⟨Hall.out _ hB3,hB3⟩)
    | (with_reducible exact ⟨Hall.out _ hB2,hB2⟩))
  (first
    | (go_at_call 168;go_split_ands;with_reducible refine (HA1.out _ (bot HB0.out (by assumption))).mono ?_;rintro e w2 ⟨⟨B2,k2,rfl,hsl⟩,hb2⟩;have hB2:Below w0.heap.size w0 w2:=bot (by assumption) hb2)
    | (go_at_call 168;go_split_ands;with_reducible refine (HA2.out _ _ _ (bot HB0.out (by assumption)) hsl).mono ?_;rintro e w3 ⟨⟨B3,k3,rfl,hs3⟩,hb3⟩;have hB3:Below w0.heap.size w0 w3:=bot (by assumption) hb3))
 all_goals
  have HB3:=cH (bot HB0.out hB3)
  have HS3:=cH hs3
  clear hsl hs3 hb2 hb3 hB2 hB3
  go_wp2_with fail
  go_ret
  exact ⟨⟨B3,k3,rfl,HS3.out⟩,HB3.out⟩
theorem zIF (m:Mani) (dev:Bool):(zBP m dev).length≤m.deps.length+m.dev.length+m.opts.length:=by
 unfold zBP
 cases dev
 ·rw[if_neg (by decide),zA0,zA0];simp
 ·rw[if_pos rfl,zA0,zA0,zA0];simp
theorem zJu (m:Mani) (v:Value) (dev:Bool) (w:World) (S:Nat→Prop) (hm:ManiV w S m v) (hmz:m.deps.length≤1048576∧m.dev.length≤1048576∧m.opts.length≤1048576) :
  Calls Tryz.prog 148 #[v,.bool dev] w fun e w'=>(∃ B k,e=.returned (.slice B (zBP m dev).length k)∧SlV rWant w' (fun b=>S b∨w.heap.size≤b) (zBP m dev) (.slice B (zBP m dev).length k))∧Below w.heap.size w w':=by
 have HM:=cH hm
 obtain ⟨A0,n0,c0,A1,n1,c1,A2,n2,c2,A3,n3,c3,rfl,h0,h1,h2,_⟩:=hm
 obtain ⟨hz0,hz1,hz2⟩:=hmz
 have HA1:Hid (∀ W,Below w.heap.size w W→Calls Tryz.prog 168 #[.slice none 0 0,.slice A0 n0 c0,.int .i64 1,.agg #[.slice A0 n0 c0,.slice A1 n1 c1,.slice A2 n2 c2,.slice A3 n3 c3]] W fun e w'=>(∃ B k,e=.returned (.slice B (zAQ m 1 m.deps []).length k)∧SlV rWant w' (fun b=>S b∨w.heap.size≤b) (zAQ m 1 m.deps []) (.slice B (zAQ m 1 m.deps []).length k))∧Below W.heap.size W w'):=fun W hW=>
  zCf hW (SlV.nil_ _ _ _) h0 (by simp;omega) (by unfold I64;decide) HM.out
 have HA2:Hid (∀ W B k,Below w.heap.size w W→SlV rWant W (fun b=>S b∨w.heap.size≤b) (zAQ m 1 m.deps []) (.slice B (zAQ m 1 m.deps []).length k)→Calls Tryz.prog 168 #[.slice B (zAQ m 1 m.deps []).length k,.slice A1 n1 c1,.int .i64 1,.agg #[.slice A0 n0 c0,.slice A1 n1 c1,.slice A2 n2 c2,.slice A3 n3 c3]] W fun e w'=>(∃ B k,e=.returned (.slice B (zAQ m 1 m.dev (zAQ m 1 m.deps [])).length k)∧SlV rWant w' (fun b=>S b∨w.heap.size≤b) (zAQ m 1 m.dev (zAQ m 1 m.deps [])) (.slice B (zAQ m 1 m.dev (zAQ m 1 m.deps [])).length k))∧Below W.heap.size W w'):=fun W B k hW hl=>
  zCf hW hl h1 (by rw[zA0];simp;omega) (by unfold I64;decide) HM.out
 have HA3:Hid (∀ (L:List Want) W B n k,L.length≤2097152→Below w.heap.size w W→SlV rWant W (fun b=>S b∨w.heap.size≤b) L (.slice B n k)→Calls Tryz.prog 168 #[.slice B n k,.slice A2 n2 c2,.int .i64 2,.agg #[.slice A0 n0 c0,.slice A1 n1 c1,.slice A2 n2 c2,.slice A3 n3 c3]] W fun e w'=>(∃ B k,e=.returned (.slice B (zAQ m 2 m.opts L).length k)∧SlV rWant w' (fun b=>S b∨w.heap.size≤b) (zAQ m 2 m.opts L) (.slice B (zAQ m 2 m.opts L).length k))∧Below W.heap.size W w'):=fun L W B n k hLz hW hl=>
  zCf hW hl h2 (by omega) (by unfold I64;decide) HM.out
 have HE1:Hid (dev=false→zBP m dev=zAQ m 2 m.opts (zAQ m 1 m.deps [])):=fun h=>by unfold zBP;rw[h];rfl
 have HE2:Hid (dev=true→zBP m dev=zAQ m 2 m.opts (zAQ m 1 m.dev (zAQ m 1 m.deps []))):=fun h=>by unfold zBP;rw[h];rfl
 have HZ1:Hid ((zAQ m 1 m.deps []).length≤2097152):=by unfold Hid;rw[zA0];simp;omega
 have HZ2:Hid ((zAQ m 1 m.dev (zAQ m 1 m.deps [])).length≤2097152):=by unfold Hid;rw[zA0,zA0];simp;omega
 generalize zBP m dev=R at *
 obtain ⟨M,hMl⟩:∃ M,M=R.length:=⟨_,rfl⟩
 rw[←hMl]
 have HMl:=cH hMl
 clear hMl
 generalize zAQ m 1 m.dev (zAQ m 1 m.deps [])=L2 at *
 generalize zAQ m 1 m.deps []=L1 at *
 clear h0 h1 h2 hz0 hz1 hz2 HM
 obtain ⟨N1,hN1⟩:∃ k,k=L1.length:=⟨_,rfl⟩
 obtain ⟨N2,hN2⟩:∃ k,k=L2.length:=⟨_,rfl⟩
 rw[←hN1] at HA1 HA2
 rw[←hN2] at HA2
 clear hN1 hN2
 obtain ⟨w0,hw0⟩:∃ w0,w0=w.alloc (.cells #[.slice A0 n0 c0,.slice A1 n1 c1,.slice A2 n2 c2,.slice A3 n3 c3] 28):=⟨_,rfl⟩
 have HB0:Hid (Below w.heap.size w w0):=by unfold Hid;rw[hw0];exact bal (bR _ _) _
 have hqY:w0.heap[w.heap.size]?=some (.cells #[.slice A0 n0 c0,.slice A1 n1 c1,.slice A2 n2 c2,.slice A3 n3 c3] 28 (0,0)):=by rw[hw0];exact zAD _ _
 obtain ⟨MB,hMB⟩:∃ k,k=w.heap.size:=⟨_,rfl⟩
 rw[←hMB] at hqY
 have Hall:Hid (∀ W,Below w0.heap.size w0 W→W.cell? ⟨MB,0,none⟩=some (.slice A0 n0 c0)∧W.cell? ⟨MB,1,none⟩=some (.slice A1 n1 c1)∧W.cell? ⟨MB,2,none⟩=some (.slice A2 n2 c2)∧W.cell? ⟨MB,3,none⟩=some (.slice A3 n3 c3)):=fun W hW=>by
  have h2:=(hW.block _ (aS.1 hqY).1).trans hqY
  exact ⟨cO _ _ 0 _ _ _ h2,cO _ _ 1 _ _ _ h2,cO _ _ 2 _ _ _ h2,cO _ _ 3 _ _ _ h2⟩
 obtain ⟨y0,y1,y2,y3⟩:=Hall.out w0 (bR _ _)
 clear hqY
 go_enter Tryz.func148,Tryz.ntmps148
 go_upto_region 1 with (fail)
 rw[←hw0,←hMB]
 clear hw0 hMB
 go_wp2_with fail
 refine (HA1.out w0 HB0.out).mono ?_
 rintro e w1 ⟨⟨B1,k1,rfl,hs1⟩,hb1⟩
 have HS1:=cH hs1
 have HB1:=cH hb1
 clear hs1 hb1 y0 y1 y2 y3 HA1
 obtain ⟨y0,y1,y2,y3⟩:=Hall.out w1 HB1.out
 cases hdv:dev with
 | false=>
   have He:=cH (HE1.out hdv)
   subst hdv
   clear HE1 HE2 HA2
   go_wp2_with fail
   refine (HA3.out L1 w1 B1 N1 k1 HZ1.out (bot HB0.out HB1.out) HS1.out).mono ?_
   rintro e w3 ⟨⟨B3,k3,rfl,hs3⟩,hb3⟩
   rw[←He.out,←HMl.out] at hs3 ⊢
   have HS3:=cH hs3
   have HB3:=cH (bot (bot HB0.out HB1.out) hb3)
   clear hs3 hb3 y0 y1 y2 y3 HA3 He
   go_wp2_with fail
   go_ret
   exact ⟨⟨B3,k3,rfl,HS3.out⟩,HB3.out⟩
 | true=>
   have He:=cH (HE2.out hdv)
   subst hdv
   clear HE1 HE2
   go_wp2_with fail
   refine (HA2.out w1 B1 k1 (bot HB0.out HB1.out) HS1.out).mono ?_
   rintro e w2 ⟨⟨B2,k2,rfl,hs2⟩,hb2⟩
   have HS2:=cH hs2
   have HB2:=cH (bot HB1.out hb2)
   clear hs2 hb2 y0 y1 y2 y3 HA2 HS1
   obtain ⟨y0,y1,y2,y3⟩:=Hall.out w2 HB2.out
   go_wp2_with fail
   refine (HA3.out L2 w2 B2 N2 k2 HZ2.out (bot HB0.out HB2.out) HS2.out).mono ?_
   rintro e w3 ⟨⟨B3,k3,rfl,hs3⟩,hb3⟩
   rw[←He.out,←HMl.out] at hs3 ⊢
   have HS3:=cH hs3
   have HB3:=cH (bot (bot HB0.out HB2.out) hb3)
   clear hs3 hb3 y0 y1 y2 y3 HA3 He
   go_wp2_with fail
   go_ret
   exact ⟨⟨B3,k3,rfl,HS3.out⟩,HB3.out⟩
theorem zFs (m:Mani) (l:List Dep):(zBp m l).length=l.length:=by unfold zBp;simp
theorem zIB {m:Mani} {l:List Dep} {k:Nat} {d:Dep} (hd:l[k]?=some d):(zBp m l).take (k+1)=(zBp m l).take k++[⟨d.name,zBk m d⟩]:=by
 unfold zBp
 rw[List.take_add_one,List.getElem?_map,hd];rfl
theorem ManiV.moreV {w:World} {S T:Nat→Prop} {m:Mani} {v:Value} (h:ManiV w S m v) (hk:∀ b,S b→b<w.heap.size→T b):ManiV w T m v:=by
 obtain ⟨A0,n0,c0,A1,n1,c1,A2,n2,c2,A3,n3,c3,h,h0,h1,h2,h3⟩:=h
 exact ⟨A0,n0,c0,A1,n1,c1,A2,n2,c2,A3,n3,c3,h,h0.more hk,h1.more hk,h2.more hk,h3.more hk⟩
theorem zKZ (p:Pack) (u:Value) (m:Mani) (v:Value) (w:World) (S:Nat→Prop) (hp:PackV w S p u) (hsm:zBR p) (hm:ManiV w S m v) :
  Calls Tryz.prog 177 #[u,v] w fun e w'=>(∃ B k,e=.returned (.slice B (zBp m p.peers).length k)∧SlV rDep w' (fun b=>S b∨w.heap.size≤b) (zBp m p.peers) (.slice B (zBp m p.peers).length k))∧Below w.heap.size w w':=by
 obtain ⟨T,hT⟩:∃ T:Nat→Prop,T=fun b=>S b∧b<w.heap.size:=⟨_,rfl⟩
 have HT:Hid (∀ b,T b↔S b∧b<w.heap.size):=fun b=>by rw[hT]
 clear hT
 have HM:Hid (ManiV w T m v):=hm.moreV fun b hb hl=>(HT.out b).2 ⟨hb,hl⟩
 obtain ⟨A0,n0,c0,A1,n1,c1,A2,n2,c2,A3,n3,c3,rfl,_,_,_,_⟩:=hm
 obtain ⟨dA,pA,oA,dc,pc,oc,rfl,hnm,_,h2,_⟩:=hp.open_
 have hlz:=hsm.2.1.1
 have HD:Hid (SlV rDep w T p.peers (.slice pA p.peers.length pc)):=h2.more fun b hb hl=>(HT.out b).2 ⟨hb,hl⟩
 obtain ⟨R,hR⟩:∃ R,R=zBp m p.peers:=⟨_,rfl⟩
 have HStep:Hid (∀ (k:Nat) (d:Dep),p.peers[k]?=some d→R.take (k+1)=R.take k++[⟨d.name,zBk m d⟩]):=fun k d hd=>by rw[hR];exact zIB hd
 have Hrl:Hid (R.length=p.peers.length):=by unfold Hid;rw[hR];exact zFs _ _
 have HRg:Hid (∀ (W:World) (d:Dep) (rA:Option Addr) (rn rc:Nat),Below w.heap.size w W→SlV rSpn w T d.range (.slice rA rn rc)→Calls Tryz.prog 182 #[.agg #[.slice A0 n0 c0,.slice A1 n1 c1,.slice A2 n2 c2,.slice A3 n3 c3],.agg #[.string d.name,.slice rA rn rc]] W fun e w'=>(∃ B k c,e=.returned (.slice B k c)∧SlV rSpn w' T (zBk m d) (.slice B k c))∧Below W.heap.size W w'):=fun W d rA rn rc hW hs=>by
  refine (zGj m d _ rA rn rc W T (HM.out.keep hW) (hs.belowSize hW)).mono ?_
  rintro e w' ⟨⟨B,k,c,h1,h2⟩,h3⟩
  exact ⟨⟨B,k,c,h1,h2.belowSize h3⟩,h3⟩
 rw[←hR]
 clear hR hnm h2 hsm hp HM
 obtain ⟨pn,⟨x1,x2,x3⟩,pd,pp,po⟩:=p
 simp only at HD HStep Hrl hlz ⊢
 obtain ⟨n,hn⟩:∃ n,n=pp.length:=⟨_,rfl⟩
 rw[←hn] at HD Hrl hlz ⊢
 have Hz0:Hid (pp.length=n):=hn.symm
 clear hn
 generalize pd.length=l1 at *
 generalize po.length=l3 at *
 obtain ⟨w0,hw0⟩:∃ w0,w0=(w.alloc (.cells #[.string pn,.int .i64 x1,.int .i64 x2,.int .i64 x3,.slice dA l1 dc,.slice pA n pc,.slice oA l3 oc] 52)).alloc (.cells #[.slice A0 n0 c0,.slice A1 n1 c1,.slice A2 n2 c2,.slice A3 n3 c3] 28):=⟨_,rfl⟩
 have hw1:(w.alloc (.cells #[.string pn,.int .i64 x1,.int .i64 x2,.int .i64 x3,.slice dA l1 dc,.slice pA n pc,.slice oA l3 oc] 52)).heap.size=w.heap.size+1:=by simp
 have HB0:Hid (Below w.heap.size w w0):=by unfold Hid;rw[hw0];exact bal (bal (bR _ _) _) _
 have hqX:w0.heap[w.heap.size]?=some (.cells #[.string pn,.int .i64 x1,.int .i64 x2,.int .i64 x3,.slice dA l1 dc,.slice pA n pc,.slice oA l3 oc] 52 (0,0)):=by
  rw[hw0]
  exact ((bal (bR _ _) _).block _ (by rw[hw1];omega)).trans (zAD _ _)
 have hqY:w0.heap[w.heap.size+1]?=some (.cells #[.slice A0 n0 c0,.slice A1 n1 c1,.slice A2 n2 c2,.slice A3 n3 c3] 28 (0,0)):=by
  rw[hw0,←hw1]
  exact zAD _ _
 obtain ⟨PB,hPB⟩:∃ k,k=w.heap.size:=⟨_,rfl⟩
 obtain ⟨MB,hMB⟩:∃ k,k=w.heap.size+1:=⟨_,rfl⟩
 rw[←hPB] at hqX
 rw[←hMB] at hqY
 have Hall:Hid (∀ W,Below w0.heap.size w0 W→W.cell? ⟨PB,5,none⟩=some (.slice pA n pc)∧W.cell? ⟨MB,0,none⟩=some (.slice A0 n0 c0)∧W.cell? ⟨MB,1,none⟩=some (.slice A1 n1 c1)∧W.cell? ⟨MB,2,none⟩=some (.slice A2 n2 c2)∧W.cell? ⟨MB,3,none⟩=some (.slice A3 n3 c3)):=fun W hW=>by
  have h1:=(hW.block _ (aS.1 hqX).1).trans hqX
  have h2:=(hW.block _ (aS.1 hqY).1).trans hqY
  exact ⟨cO _ _ 5 _ _ _ h1,cO _ _ 0 _ _ _ h2,cO _ _ 1 _ _ _ h2,cO _ _ 2 _ _ _ h2,cO _ _ 3 _ _ _ h2⟩
 clear hqX hqY hw1
 go_enter Tryz.func177,Tryz.ntmps177
 go_wp2_with fail
 rw[←hw0,←hMB,←hPB]
 clear hw0 hMB hPB
 have hw0z:w.heap.size≤w0.heap.size:=HB0.out.size
 go_loopw [5,6] (fun ov iv wr=>∃ k:Nat,k≤n∧iv=.int .i64 k∧Hid (Own rDep wr w0.heap.size 68 ov (R.take k) T)∧Hid (Below w0.heap.size w0 wr)) (fun _ iv _=>n - (intOf iv).toNat)
 case atStart=>exact ⟨0,nZ _,rfl,Own.nil_ _ _ _ _ (fun b hb=>lL ((HT.out b).1 hb).2 hw0z),bR _ _⟩
 case round=>
  obtain ⟨k,hk,rfl,Hown,hB⟩:=hrel
  have hk0:(0:Int)≤(k:Int):=by omega
  have HBw:=cH (bot HB0.out hB.out)
  obtain ⟨q5,y0,y1,y2,y3⟩:=Hall.out wr hB.out
  by_cases hlt:k<n
  case neg=>
   have hI:¬(k:Int)<(n:Int):=by omega
   have hlk:R.take k=R:=List.take_of_length_le (by have:=Hrl.out;omega)
   have h1:=Hown.out.slv
   rw[hlk] at h1
   obtain ⟨B,m',hv,_,_⟩:=h1.val
   have HS:=cH h1
   clear h1 Hown hlk
   subst hv
   go_wp2_with fail
   go_ret
   exact ⟨⟨B,m',rfl,HS.out.more fun b hb _=>by rcases hb with hb|hb;exact Or.inl ((HT.out b).1 hb).1;exact Or.inr (by omega)⟩,HBw.out⟩
  have hkI:(k:Int)<(n:Int):=by omega
  obtain ⟨d,hd⟩:∃ d,pp[k]?=some d:=⟨_,gE (by have:=Hz0.out;omega)⟩
  obtain ⟨b,o,cs,hA,_,hb,⟨s0,rfl,hsz,hrg⟩,hcell⟩:=HD.out.elem hd
  obtain ⟨rA,rc,rfl,_,_⟩:=hrg.val
  have Hc:Hid (∀ W,Below w.heap.size w W→W.cell? ⟨b,o+k * 2,none⟩=some (.string d.name)∧W.cell? ⟨b,o+k * 2+1,none⟩=some (.slice rA d.range.length rc)):=fun W hW=>⟨zAA hW (hcell 0 _ rfl) hb,zAA hW (hcell 1 _ rfl) hb⟩
  have HRk:Hid (∀ W,Below wr.heap.size wr W→Calls Tryz.prog 182 #[.agg #[.slice A0 n0 c0,.slice A1 n1 c1,.slice A2 n2 c2,.slice A3 n3 c3],.agg #[.string d.name,.slice rA d.range.length rc]] W fun e w'=>(∃ B k c,e=.returned (.slice B k c)∧SlV rSpn w' T (zBk m d) (.slice B k c))∧Below W.heap.size W w'):=fun W hW=>HRg.out W d rA d.range.length rc (bot HBw.out hW) hrg
  have Hst:=cH (HStep.out k d hd)
  have Hnm:=cH hsz
  have Hlen:Hid ((R.take k).length=k):=by unfold Hid;rw[List.length_take];have:=Hrl.out;omega
  obtain ⟨x0,x1⟩:=Hc.out wr HBw.out
  clear hcell hsz hrg hd
  subst hA
  obtain ⟨dn,dr⟩:=d
  simp only at Hc HRk Hst Hnm x0 x1
  generalize dr.length=rn at *
  generalize zBk m ⟨dn,dr⟩=rg at *
  generalize R.take k=done at *
  have Hcells:Hid (∀ W,Below wr.heap.size wr W→(W.cell? ⟨b,o+k * 2,none⟩=some (.string dn)∧W.cell? ⟨b,o+k * 2+1,none⟩=some (.slice rA rn rc))∧W.cell? ⟨PB,5,none⟩=some (.slice (some ⟨b,o,none⟩) n pc)∧W.cell? ⟨MB,0,none⟩=some (.slice A0 n0 c0)∧W.cell? ⟨MB,1,none⟩=some (.slice A1 n1 c1)∧W.cell? ⟨MB,2,none⟩=some (.slice A2 n2 c2)∧W.cell? ⟨MB,3,none⟩=some (.slice A3 n3 c3)):=fun W hW=>⟨Hc.out W (bot HBw.out hW),Hall.out W (bot hB.out hW)⟩
  have hwrz:w0.heap.size≤wr.heap.size:=hB.out.size
  go_upto_region 5 with (fail)
  go_region_held3 (fun W=>((W.cell? ⟨b,o+k * 2,none⟩=some (.string dn)∧W.cell? ⟨b,o+k * 2+1,none⟩=some (.slice rA rn rc))∧W.cell? ⟨PB,5,none⟩=some (.slice (some ⟨b,o,none⟩) n pc)∧W.cell? ⟨MB,0,none⟩=some (.slice A0 n0 c0)∧W.cell? ⟨MB,1,none⟩=some (.slice A1 n1 c1)∧W.cell? ⟨MB,2,none⟩=some (.slice A2 n2 c2)∧W.cell? ⟨MB,3,none⟩=some (.slice A3 n3 c3)))
   (first
     | (with_reducible exact Hcells.out _ (bR _ _).drew)
     | (with_reducible exact Hcells.out _ hB2)
     | (with_reducible exact Hcells.out _ (bal hB2 _))
     | (with_reducible exact ⟨Hc.out _ hB4w,Hall.out _ hB4⟩))
   (first
     | (go_at_call 182;with_reducible refine (HRk.out _ (bR _ _).drew).mono ?_;rintro e w2 ⟨⟨B2,k2,c2,rfl,hrg⟩,hb2⟩;have hB2:Below wr.heap.size wr w2:=bot (bR _ _).drew hb2;have HO:=cH (Hown.out.keep hB2);have HQ:=cH hrg;have hz2:=hB2.size)
     | (refine zBB (by rfl) _ _ _ (by rfl) zIh Tryz.underlying26 (by rfl) (HO.out.alloc _) ⟨w2.heap.size,0,none⟩ 1 [.string dn,.slice B2 k2 c2] ⟨dn,rg⟩ (by rfl) (Rp.alloc (r:=rDep) ⟨_,rfl,Hnm.out,HQ.out⟩ _) (zAd w2 #[.string dn,.slice B2 k2 c2] _) (by rw[Hlen.out];unfold maxLen;omega) (by rw[Hlen.out];omega) (by simp;omega) (w2.heap.size+1) (by simp) ?_;intro g9 cap9 w4 hown4 hgrow4 hat4 hg4;have hB4:Below w0.heap.size w0 w4:=zAw (bal (bot hB.out hB2) _) hgrow4 (HO.out.alloc _) (nR _);have hB4w:Below w.heap.size w w4:=bot HB0.out hB4))
  all_goals
   have HB4:=cH hB4
   have HO4:=cH hown4
   clear hown4 hgrow4 hat4 hg4 hB4 hB4w hB2 hb2 hrg HO HQ
   go_wp2_with fail
   go_roundw
   case rel=>exact ⟨k+1,by omega,by go_num,by rw[Hst.out];exact HO4,HB4⟩
   case measure=>simp[intOf];omega
end Go.Proofs.YtminjjdnmpaaoaaGreatDoor
namespace Go.Proofs.YtminjjdnmpaaoaaGreatDoor
open Go
def muC (env rest out:List Pin):Nat:=rest.length+(env.length - out.length)
theorem zEX {env:List Pin}:∀ {ds:List Dep} {out next out' next':List Pin},askP env ds out next=some (out',next')→SrtP out→zB6 env out→SrtP out'∧zB6 env out'∧muC env next' out'=muC env next out∧(∀ x∈out',x∈out∨x∈env)∧∀ x∈next',x∈next∨x∈env:=by
 intro ds
 induction ds with
 | nil=>intro out next out' next' h hs hn;unfold askP at h;cases h;exact ⟨hs,hn,rfl,fun x h=>.inl h,fun x h=>.inl h⟩
 | cons d ds ih=>
   intro out next out' next' h hs hn
   unfold askP at h
   split at h
   ·cases h
   ·rename_i v hv
    split at h
    ·have hn':zB6 env (withP out ⟨d.name,v⟩):=fun x hx=>by
      rcases withP_mem hx with rfl|hx
      ·exact zFt hv
      ·exact hn x hx
     have hs':=zDA ⟨d.name,v⟩ hs
     obtain ⟨h1,h2,h3,h4,h5⟩:=ih h hs' hn'
     refine ⟨h1,h2,h3.trans ?_,fun x hx=>?_,fun x hx=>?_⟩
     ·have hle:=hs'.le hn'
      have hln:=zHH out ⟨d.name,v⟩
      unfold muC
      simp only at hln
      split
      ·rename_i hp;rw[if_pos hp] at hln;rw[hln]
      ·rename_i hp;rw[if_neg hp] at hln;rw[hln,List.length_append];simp only[List.length_cons,List.length_nil];omega
     ·rcases h4 x hx with hx|hx
      ·rcases withP_mem hx with rfl|hx
       ·exact .inr (zC8 hv)
       ·exact .inl hx
      ·exact .inr hx
     ·rcases h5 x hx with hx|hx
      ·split at hx
       ·exact .inl hx
       ·rcases List.mem_append.1 hx with hx|hx
        ·exact .inl hx
        ·rw[List.mem_singleton.1 hx];exact .inr (zC8 hv)
      ·exact .inr hx
    ·cases h
theorem zK9 {L:List Pack} {m:Mani} {env:List Pin}:∀ {f:Nat} {rest out r:List Pin},ctxGo L m env f rest out=some r→SrtP out→zB6 env out→SrtP r∧zB6 env r∧∀ x∈r,x∈out∨x∈env:=by
 intro f
 induction f with
 | zero=>
   intro rest out r h hs hn
   cases rest with
   | nil=>unfold ctxGo at h;cases h;exact ⟨hs,hn,fun x h=>.inl h⟩
   | cons p rest=>unfold ctxGo at h;cases h
 | succ f ih=>
   intro rest out r h hs hn
   cases rest with
   | nil=>unfold ctxGo at h;cases h;exact ⟨hs,hn,fun x h=>.inl h⟩
   | cons p rest=>
     unfold ctxGo at h
     split at h
     ·cases h
     ·split at h
      ·cases h
      ·rename_i out' rest' ha
       obtain ⟨h1,h2,_,h4,_⟩:=zEX ha hs hn
       obtain ⟨g1,g2,g3⟩:=ih h h1 h2
       refine ⟨g1,g2,fun x hx=>?_⟩
       rcases g3 x hx with hx|hx
       ·exact h4 x hx
       ·exact .inr hx
theorem zLV {L:List Pack} {m:Mani} {env:List Pin} {p:Pin} {r:List Pin} (h:ctxP L m env p=some r):SrtP r∧r.length≤env.length∧∀ x∈r,x∈env:=by
 obtain ⟨h1,h2,h3⟩:=zK9 h List.Pairwise.nil (fun x hx=>by cases hx)
 exact ⟨h1,h1.le h2,fun x hx=>(h3 x hx).resolve_left (by simp)⟩
theorem zFi {L:List Pack} {m:Mani} {env:List Pin}:∀ {f g:Nat} {rest out:List Pin},SrtP out→zB6 env out→muC env rest out≤f→muC env rest out≤g→ctxGo L m env f rest out=ctxGo L m env g rest out:=by
 intro f
 induction f with
 | zero=>
   intro g rest out hs hn hf hg
   have:rest=[]:=by unfold muC at hf;exact List.eq_nil_of_length_eq_zero (by omega)
   subst this
   cases g<;>(unfold ctxGo;rfl)
 | succ f ih=>
   intro g rest out hs hn hf hg
   cases rest with
   | nil=>cases g<;>(unfold ctxGo;rfl)
   | cons p rest=>
     cases g with
     | zero=>unfold muC at hg;rw[List.length_cons] at hg;omega
     | succ g=>
       unfold ctxGo
       split
       ·rfl
       ·split
        ·rfl
        ·rename_i out' rest' ha
         obtain ⟨h1,h2,h3,_⟩:=zEX ha hs hn
         have e:muC env (p::rest) out=muC env rest out+1:=by unfold muC;rw[List.length_cons];omega
         exact ih h1 h2 (by omega) (by omega)
theorem zJK {L:List Pack} {m:Mani} {env:List Pin} {p:Pin} {rest out:List Pin} (hs:SrtP out) (hn:zB6 env out) {f:Nat} (hf:muC env (p::rest) out≤f):ctxGo L m env f (p::rest) out=match getC L p.name p.ver with
  | none=>none
  | some x=>match askP env (zBp m x.peers) out rest with
    | none=>none
    | some (out',rest')=>ctxGo L m env f rest' out':=by
 cases f with
 | zero=>unfold muC at hf;rw[List.length_cons] at hf;omega
 | succ f=>
   rw[ctxGo]
   cases getC L p.name p.ver with
   | none=>rfl
   | some x=>
     simp only
     cases ha:askP env (zBp m x.peers) out rest with
     | none=>rfl
     | some r=>
       obtain ⟨out',rest'⟩:=r
       simp only
       obtain ⟨h1,h2,h3,_⟩:=zEX ha hs hn
       have e:muC env (p::rest) out=muC env rest out+1:=by unfold muC;rw[List.length_cons];omega
       exact zFi h1 h2 (by omega) (by omega)
theorem zJk {L:List Pack} {m:Mani} {env out:List Pin} {f:Nat}:ctxGo L m env f [] out=some out:=by
 cases f<;>(unfold ctxGo;rfl)
