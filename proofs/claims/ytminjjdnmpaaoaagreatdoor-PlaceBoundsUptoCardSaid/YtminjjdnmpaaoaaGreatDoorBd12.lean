/- The program's placer: is a directory in another one; would a directory turn what is settled. -/
import Derived.Test.YtminjjdnmpaaoaaGreatDoorBd11
import Derived.Test.YtminjjdnmpaaoaaGreatDoorBd04
import Derived.Deep.CutRange
import Derived.Test.YtminjjdnmpaaoaaGreatDoorBd10
import Derived.Test.YtminjjdnmpaaoaaGreatDoorBd07
import Derived.Deep.LoopGhost
import Derived.WalkMore
import Derived.Test.YtminjjdnmpaaoaaGreatDoorAl
set_option linter.all false
set_option maxHeartbeats 12800000
set_option maxRecDepth 100000
namespace Go.Proofs.YtminjjdnmpaaoaaGreatDoor
open Go.Rows Go.RowKit Go.Shelf Go.Sort
theorem PlRd.dir {C:PlCtx} {w:World} {st:PlSt} {A:Option Addr} {c:Nat} {A':Option Addr} {c':Nat} (h:PlRd C w st A c A' c') {i:Nat} {d:Dir} (hi:st.1[i]?=some d) :
  ∃ (b o:Nat) (pA:Option Addr) (pc:Nat),A=some ⟨b,o,none⟩∧b<w.heap.size∧w.cell? ⟨b,o+i * 9,none⟩=some (.slice pA d.path.length pc)∧w.cell? ⟨b,o+i * 9+8,none⟩=some (.int .i64 d.node)∧SlV rStr w (fun _=>True) d.path (.slice pA d.path.length pc)∧d.path.length≤pc∧pc≤maxLen:=by
 obtain ⟨b,o,cs,hA,_,hb,hh,hcell⟩:=h.dirs.elem hi
 obtain ⟨s0,s1,s2,s3,rfl,hp,_,_,_,_,_,_,_,_⟩:=hh
 obtain ⟨pA,pc,rfl,h1,h2⟩:=hp.val
 have c0:=hcell 0 _ rfl
 have c8:=hcell 8 _ rfl
 simp only[rDir,Nat.add_zero] at c0 c8
 exact ⟨b,o,pA,pc,hA,hb,c0,c8,hp,h1,h2⟩
theorem PlRd.len {C:PlCtx} {w:World} {st:PlSt} {A:Option Addr} {c:Nat} {A':Option Addr} {c':Nat} (h:PlRd C w st A c A' c'):st.1.length≤9223372036854775807∧st.2.length≤9223372036854775807:=by
 have h1:=h.dirs.cap_le
 have h2:=h.stls.cap_le
 obtain ⟨_,_,e1,h3,_⟩:=h.dirs.val
 obtain ⟨_,_,e2,h4,_⟩:=h.stls.val
 simp only[Value.slice.injEq] at e1 e2
 unfold maxLen at h1 h2
 omega
theorem zKM (C:PlCtx) (w:World) (st:PlSt) (hw:PlWd C w st) (a h:Nat) (ha:a<st.1.length) (hh:h<st.1.length) :
  Calls Tryz.prog 157 #[.pointer (some ⟨C.P,0,none⟩),.int .i64 (a:Int),.int .i64 (h:Int)] w fun e w'=>e=.returned (.bool (zB9 (zAa st.1 a) (zAa st.1 h)))∧Below w.heap.size w w':=by
 obtain ⟨A,c,A',c',hr⟩:=hw.read
 have hlen:=hr.len.1
 have x7:=hr.c7
 obtain ⟨b,o,pA,pc,hA,hb,y0,_,hp,hpl,hpm⟩:=hr.dir (zAX ha)
 obtain ⟨b2,o2,qA,qc,hA2,_,z0,_,hq,hql,hqm⟩:=hr.dir (zAX hh)
 rw[hA] at hA2
 injection hA2 with hA2
 injection hA2 with hb2 ho2 _
 subst hb2 ho2 hA
 have hPz:=hr.hP
 unfold maxLen at hpm hqm
 show Calls _ _ _ _ fun e w'=>e=.returned (.bool (zB9 (dirAt st.1 a).path (dirAt st.1 h).path))∧_
 generalize (dirAt st.1 a).path=pa at *
 generalize (dirAt st.1 h).path=ph at *
 have HR:Hid (zB9 pa ph=(decide (ph.length≤pa.length)&&eqB (pa.take ph.length) ph)):=rfl
 generalize zB9 pa ph=R at *
 obtain ⟨n,hn⟩:∃ n,n=st.1.length:=⟨_,rfl⟩
 obtain ⟨la,hla⟩:∃ n,n=pa.length:=⟨_,rfl⟩
 obtain ⟨lh,hlh⟩:∃ n,n=ph.length:=⟨_,rfl⟩
 rw[←hn] at x7 ha hh hlen
 rw[←hla] at y0 hp HR hpl
 rw[←hlh] at z0 hq HR hql
 have HP:=cH hp
 have HQ:=cH hq
 have Hla:=cH hla
 have Hlh:=cH hlh
 clear hr hw hn hp hq hla hlh
 generalize C.P=PB at *
 have ha0:(0:Int)≤(a:Int):=by omega
 have hh0:(0:Int)≤(h:Int):=by omega
 have han:(a:Int)<(n:Int):=by omega
 have hhn:(h:Int)<(n:Int):=by omega
 go_enter Tryz.func157,Tryz.ntmps157
 have r_x7:=cR x7
 have r_y0:=cR y0
 have r_z0:=cR z0
 go_wp2_with fail
 refine wQ ?_
 repeat (go_big_quiet_step (first|fail))
 refine wpQuiet_nil fun w1 B1=>?_
 clear r_x7 r_y0 r_z0 x7 y0 z0
 have HB1:=cH B1
 clear B1
 by_cases hle:lh≤la
 ·have hI:(lh:Int)≤(la:Int):=by omega
  have hlh0:(0:Int)≤(lh:Int):=by omega
  have hlc:lh≤pc:=by omega
  have hw2:IntKind.i64.wrap (lh:Int)=(lh:Int):=IntWalk.i64_in _ ⟨by omega,by omega⟩
  have He:Hid (R=eqB (pa.take lh) ph):=by unfold Hid;rw[HR.out,decide_eq_true hle,Bool.true_and]
  have HE:Hid (∀ W,Below w.heap.size w W→Calls Tryz.prog 40 #[.slice pA lh pc,.slice qA lh qc] W fun e w'=>e=.returned (.bool (eqB (pa.take lh) ph))∧Below W.heap.size W w'):=fun W hW=>
   zGA pA qA lh lh pc qc (pa.take lh) ph W _ _ (SlV.take (HP.out.belowSize hW) (by rw[←Hla.out];exact hle)) (HQ.out.belowSize hW)
  generalize eqB (pa.take lh) ph=v at *
  clear HR HP HQ
  go_wp2_with fail
  refine (HE.out w1 HB1.out).mono ?_
  rintro e w2 ⟨rfl,hb2⟩
  have HB2:=cH (bot HB1.out hb2)
  clear hb2 HE
  go_wp2_with fail
  go_ret
  exact ⟨zAB He.out.symm,HB2.out⟩
 ·have hI:¬(lh:Int)≤(la:Int):=by omega
  have He:Hid (R=false):=by unfold Hid;rw[HR.out,decide_eq_false hle,Bool.false_and]
  clear HR HP HQ
  go_wp2_with fail
  go_ret
  exact ⟨zAB He.out.symm,HB1.out⟩
theorem zNU {q:Stl→Bool} {l:List Stl} {k:Nat} {x:Stl} (h:l[k]?=some x):(l.drop k).any q=(q x||(l.drop (k+1)).any q):=by
 obtain ⟨hk,e⟩:=gS.1 h
 rw[dC hk,e,List.any_cons]
theorem zLh (C:PlCtx) (hC:C.Ok) (w:World) (st:PlSt) (hw:PlWd C w st) (h:Nat) (hh:h<st.1.length) (s:ByteArray) (hst:∀ x∈st.2,x.frm<st.1.length∧x.dst<st.1.length) :
  Calls Tryz.prog 130 #[.pointer (some ⟨C.P,0,none⟩),.int .i64 (h:Int),.string s] w fun e w'=>e=.returned (.bool (zBs st.1 st.2 h s))∧Below w.heap.size w w':=by
 have HW:=cH hw
 obtain ⟨A,c,A',c',hr⟩:=hw.read
 have hlen:=hr.len
 have HRd:=cH hr
 have x7:=hr.c7
 have x8:=hr.c8
 obtain ⟨b,o,pA,pc,hA,hb,y0,_,hp,hpl,hpm⟩:=hr.dir (zAX hh)
 subst hA
 unfold maxLen at hpm
 have HU:Hid (∀ W (a:Nat),Below w.heap.size w W→a<st.1.length→Calls Tryz.prog 157 #[.pointer (some ⟨C.P,0,none⟩),.int .i64 (a:Int),.int .i64 (h:Int)] W fun e w'=>e=.returned (.bool (zB9 (zAa st.1 a) (zAa st.1 h)))∧Below W.heap.size W w'):=fun W a hW ha=>zKM C W st (hw.keep hC hW) a h ha hh
 have HD:Hid (∀ W (a:Nat),Below w.heap.size w W→a<st.1.length→∃ pA pc,W.cell? ⟨C.P,7,none⟩=some (.slice (some ⟨b,o,none⟩) st.1.length c)∧W.cell? ⟨b,o+a * 9,none⟩=some (.slice pA (zAa st.1 a).length pc)):=fun W a hW ha=>by
  have h1:=hr.keep hW
  obtain ⟨b',o',pA,pc,hA',_,y,_⟩:=h1.dir (zAX ha)
  injection hA' with hA'
  injection hA' with hb' ho' _
  subst hb' ho'
  exact ⟨pA,pc,h1.c7,y⟩
 have HS:Hid (∀ W,Below w.heap.size w W→SlV rStl W (fun _=>True) st.2 (.slice A' st.2.length c')):=fun W hW=>hr.stls.belowSize hW
 have HST:=cH hst
 have HR:Hid (zBs st.1 st.2 h s=(st.2.drop 0).any (zBY st.1 h s)):=rfl
 have H1:Hid (∀ x:Stl,zBY st.1 h s x=(decide (x.label=s)&&(zB9 (zAa st.1 x.frm) (zAa st.1 h)&&decide ((zAa st.1 x.dst).length≤(zAa st.1 h).length)))):=fun x=>rfl
 obtain ⟨lh,hlh⟩:∃ n,n=(zAa st.1 h).length:=⟨_,rfl⟩
 have y0':w.cell? ⟨b,o+h * 9,none⟩=some (.slice pA lh pc):=by rw[hlh];exact y0
 have hlhz:lh≤pc:=by rw[hlh];exact hpl
 clear y0 hpl
 rw[←hlh] at H1
 clear hlh hp hst hr hw
 obtain ⟨n,hn⟩:∃ n,n=st.1.length:=⟨_,rfl⟩
 obtain ⟨m,hm⟩:∃ m,m=st.2.length:=⟨_,rfl⟩
 rw[←hn] at x7 hh HU HD HST hlen
 rw[←hm] at x8 HS hlen
 have Hm:=cH hm
 have hP0:=HRd.out.hP
 clear HRd hn hm HW hC
 generalize zBs st.1 st.2 h s=R at *
 generalize C.P=PB at *
 have hh0:(0:Int)≤(h:Int):=by omega
 have hhn:(h:Int)<(n:Int):=by omega
 obtain ⟨hl1,hl2⟩:=hlen
 go_enter Tryz.func130,Tryz.ntmps130
 go_wp2_with fail
 go_loopw [25] (fun t wr=>∃ k:Nat,k≤m∧t=.int .i64 k∧Hid (R=(st.2.drop k).any (zBY st.1 h s))∧Hid (Below w.heap.size w wr)) (fun t _=>m - (intOf t).toNat)
 case atStart=>exact ⟨0,nZ _,rfl,HR,bR _ _⟩
 case round=>
  clear HR x7 x8 y0'
  obtain ⟨k,hk,rfl,heq,hbel⟩:=hrel
  have hk0:(0:Int)≤(k:Int):=by omega
  by_cases hlt:k<m
  case neg=>
   have He:Hid (R=false):=by unfold Hid;rw[heq.out,dN (by have:=Hm.out;omega)];rfl
   have hI:¬(k:Int)<(m:Int):=by omega
   clear heq
   go_wp2_with fail
   go_ret
   exact ⟨zAB He.out.symm,hbel.out⟩
  have hkn:(k:Int)<(m:Int):=by omega
  obtain ⟨x,hx⟩:∃ x,st.2[k]?=some x:=⟨_,gE (by have:=Hm.out;omega)⟩
  obtain ⟨e1,e2⟩:=HST.out x (mG hx)
  obtain ⟨b',o',cs,hA,_,hb1,⟨rfl,hlz,hf,hd⟩,hcell⟩:=(HS.out wr hbel.out).elem hx
  subst hA
  have c0:=hcell 0 _ rfl
  have c1:=hcell 1 _ rfl
  have c2:=hcell 2 _ rfl
  simp only[rStl,Nat.add_zero] at c0 c1 c2
  have Hst2:Hid (R=((decide (x.label=s)&&(zB9 (zAa st.1 x.frm) (zAa st.1 h)&&decide ((zAa st.1 x.dst).length≤lh)))||(st.2.drop (k+1)).any (zBY st.1 h s))):=by unfold Hid;rw[heq.out,zNU hx,H1.out]
  have HU1:Hid (∀ W,Below w.heap.size w W→Calls Tryz.prog 157 #[.pointer (some ⟨PB,0,none⟩),.int .i64 (x.frm:Int),.int .i64 (h:Int)] W fun e w'=>e=.returned (.bool (zB9 (zAa st.1 x.frm) (zAa st.1 h)))∧Below W.heap.size W w'):=fun W hW=>HU.out W x.frm hW e1
  clear hcell hlz heq
  obtain ⟨xf,xl,xd⟩:=x
  simp only at c0 c1 c2 hf hd Hst2 HU1 e1 e2
  go_upto_region 5 with (fail)
  obtain ⟨w4,hw4⟩:∃ w4,w4=wr.alloc (.cells #[.int .i64 (xf:Int),.string xl,.int .i64 (xd:Int)] 148):=⟨_,rfl⟩
  have hq4:w4.heap[wr.heap.size]?=some (.cells #[.int .i64 (xf:Int),.string xl,.int .i64 (xd:Int)] 148 (0,0)):=by rw[hw4];exact zAD _ _
  have HB4:Hid (Below w.heap.size w w4):=by unfold Hid;rw[hw4];exact bal hbel.out _
  rw[←hw4]
  obtain ⟨QB,hQB⟩:∃ QB,QB=wr.heap.size:=⟨_,rfl⟩
  rw[←hQB] at hq4 ⊢
  have d0:=cO _ _ 0 _ _ _ hq4
  have d1:=cO _ _ 1 _ _ _ hq4
  have d2:=cO _ _ 2 _ _ _ hq4
  obtain ⟨dA,dc,z7,z0⟩:=HD.out w4 xd HB4.out e2
  have HU2:=cH (qcall (w:=w4) (fun W hW=>HU1.out W (bot HB4.out hW)))
  have Hbf:Hid (∀ W,Below w4.heap.size w4 W→Below w.heap.size w W):=fun W hW=>bot HB4.out hW
  have hd0:(0:Int)≤(xd:Int):=by omega
  have hdn:(xd:Int)<(n:Int):=by omega
  clear hw4 hQB hq4 c0 c1 c2 HU1 hbel
  generalize zB9 (zAa st.1 xf) (zAa st.1 h)=u at *
  generalize (zAa st.1 xd).length=ld at *
  have r_d0:=cR d0
  have r_d1:=cR d1
  have r_d2:=cR d2
  have r_z7:=cR z7
  have r_z0:=cR z0
  by_cases h2:xl=s
  case neg=>
   have hb2:=zAb h2
   have He:Hid (R=(st.2.drop (k+1)).any (zBY st.1 h s)):=by unfold Hid;rw[Hst2.out,decide_eq_false h2];rfl
   clear h2 Hst2
   go_wp2_with fail
   refine wQ ?_
   repeat (go_big_quiet_step (first|(with_reducible exact HU2.out _ _)))
   refine wpQuiet_nil fun w5 B5=>?_
   have HB5:=cH (Hbf.out _ B5)
   go_wp2_with fail
   go_roundw
   case rel=>exact ⟨k+1,by omega,by go_num,He,HB5⟩
   case measure=>simp[intOf];omega
  have hb2:=zAr h2
  rw[decide_eq_true h2,Bool.true_and] at Hst2
  clear h2
  cases u with
  | false=>
    have He:Hid (R=(st.2.drop (k+1)).any (zBY st.1 h s)):=by unfold Hid;rw[Hst2.out];rfl
    clear Hst2
    go_wp2_with fail
    refine wQ ?_
    repeat (go_big_quiet_step (first|(with_reducible exact HU2.out _ _)))
    refine wpQuiet_nil fun w5 B5=>?_
    have HB5:=cH (Hbf.out _ B5)
    go_wp2_with fail
    go_roundw
    case rel=>exact ⟨k+1,by omega,by go_num,He,HB5⟩
    case measure=>simp[intOf];omega
  | true=>
  by_cases h3:ld≤lh
  ·have hI:(ld:Int)≤(lh:Int):=by omega
   have hId:decide ((ld:Int)≤(lh:Int))=true:=decide_eq_true hI
   have He:Hid (R=true):=by unfold Hid;rw[Hst2.out,decide_eq_true h3];rfl
   clear Hst2
   go_wp2_with fail
   refine wQ ?_
   repeat (go_big_quiet_step (first|(with_reducible exact HU2.out _ _)))
   refine wpQuiet_nil fun w5 B5=>?_
   have HB5:=cH (Hbf.out _ B5)
   go_wp2_with fail
   go_ret
   exact ⟨zAB He.out.symm,HB5.out⟩
  ·have hI:¬(ld:Int)≤(lh:Int):=by omega
   have hId:decide ((ld:Int)≤(lh:Int))=false:=decide_eq_false hI
   have He:Hid (R=(st.2.drop (k+1)).any (zBY st.1 h s)):=by unfold Hid;rw[Hst2.out,decide_eq_false h3];rfl
   clear Hst2
   go_wp2_with fail
   refine wQ ?_
   repeat (go_big_quiet_step (first|(with_reducible exact HU2.out _ _)))
   refine wpQuiet_nil fun w5 B5=>?_
   have HB5:=cH (Hbf.out _ B5)
   go_wp2_with fail
   go_roundw
   case rel=>exact ⟨k+1,by omega,by go_num,He,HB5⟩
   case measure=>simp[intOf];omega
theorem PlRd.node {C:PlCtx} {w:World} {st:PlSt} {A:Option Addr} {c:Nat} {A':Option Addr} {c':Nat} (h:PlRd C w st A c A' c') (hC:C.Ok) (hb:Below C.w0.heap.size C.w0 w) {i:Nat} {n:Node} (hi:C.q.g[i]?=some n) :
  ∃ (b o:Nat) (xA:Option Addr) (xc:Nat) (eA:Option Addr) (ec:Nat),C.gA=some ⟨b,o,none⟩∧b<C.w0.heap.size∧i<C.gn∧w.cell? ⟨b,o+i * 6,none⟩=some (.string n.name)∧w.cell? ⟨b,o+i * 6+1,none⟩=some (.int .i64 n.ver.major)∧w.cell? ⟨b,o+i * 6+2,none⟩=some (.int .i64 n.ver.minor)∧w.cell? ⟨b,o+i * 6+3,none⟩=some (.int .i64 n.ver.patch) ∧
    w.cell? ⟨b,o+i * 6+4,none⟩=some (.slice xA n.ctx.length xc)∧w.cell? ⟨b,o+i * 6+5,none⟩=some (.slice eA n.edges.length ec)∧SlV rPin w (fun b=>b<C.w0.heap.size) n.ctx (.slice xA n.ctx.length xc)∧SlV rEdge w (fun b=>b<C.w0.heap.size) n.edges (.slice eA n.edges.length ec)∧n.name.size≤maxLen:=by
 have hg:=hC.g.belowSize hb
 have hn:=hg.n_eq
 obtain ⟨b,o,cs,hA,hS,hbl,hh,hcell⟩:=hg.elem hi
 obtain ⟨s0,s1,rfl,hnm,_,_,_,hx,he⟩:=hh
 obtain ⟨xA,xc,rfl,_,_⟩:=hx.val
 obtain ⟨eA,ec,rfl,_,_⟩:=he.val
 have c0:=hcell 0 _ rfl
 have c1:=hcell 1 _ rfl
 have c2:=hcell 2 _ rfl
 have c3:=hcell 3 _ rfl
 have c4:=hcell 4 _ rfl
 have c5:=hcell 5 _ rfl
 simp only[rNode,Nat.add_zero] at c0 c1 c2 c3 c4 c5
 exact ⟨b,o,xA,xc,eA,ec,hA,hS,by rw[hn];exact (gS.1 hi).1,c0,c1,c2,c3,c4,c5,hx,he,hnm⟩
theorem zNO {q:Pin→Bool} {l:List Pin} {k:Nat} {x:Pin} (h:l[k]?=some x):(l.drop k).all q=(q x&&(l.drop (k+1)).all q):=by
 obtain ⟨hk,e⟩:=gS.1 h
 rw[dC hk,e,List.all_cons]
theorem zBt {α:Type} {r:Rp α} {w:World} {S:Nat→Prop} {l:List α} {A:Option Addr} {n c:Nat} (h:SlV r w S l (.slice A n c)):n≤9223372036854775807:=by
 have h1:=h.cap_le
 obtain ⟨_,_,e1,h3,_⟩:=h.val
 simp only[Value.slice.injEq] at e1
 unfold maxLen at h1
 omega
theorem zJ6 (C:PlCtx) (hC:C.Ok) (w:World) (st:PlSt) (hw:PlWd C w st) (a f:Nat) (ha:a<st.1.length) (hf:f≤1000000) {n:Node} {j:Nat} (hj:(dirAt st.1 a).node=(j:Int)) (hn:C.q.g[j]?=some n) (hlen:∀ d∈st.1,d.path.length * 32≤140737488355328) :
  Calls Tryz.prog 79 #[.pointer (some ⟨C.P,0,none⟩),.int .i64 (a:Int),.int .i64 (f:Int)] w fun e w'=>e=.returned (.bool (seesB C.q.g st.1 st.2 a f))∧Below w.heap.size w w':=by
 obtain ⟨A,c,A',c',hr⟩:=hw.read
 have hlen1:=hr.len.1
 have x0:=hr.c0
 have x7:=hr.c7
 obtain ⟨b,o,pA,pc,hA,hb,_,y8,_,_,_⟩:=hr.dir (zAX ha)
 obtain ⟨gb,go,xA,xc,eA,ec,hgA,hgb,hjn,_,_,_,_,g4,_,hx,_,_⟩:=hr.node hC hw.base hn
 rw[hj] at y8
 subst hA
 have hgcap:=zBt (hC.g)
 have hxl:=zBt hx
 have hnlt:C.gn≤9223372036854775807:=hgcap
 rw[hgA] at x0
 have hHP:=hr.hP
 have HF:Hid (∀ W (s:ByteArray),Below w.heap.size w W→Calls Tryz.prog 128 #[.pointer (some ⟨C.P,0,none⟩),.int .i64 (f:Int),.string s] W fun e w'=>e=.returned (.int .i64 (zBB st.2 f s))∧Below W.heap.size W w'):=fun W s hW=>zK1 C W st (hw.keep hC hW) f hf s
 have HL:Hid (∀ W (s:ByteArray),s.size≤maxLen→Below w.heap.size w W→Calls Tryz.prog 17 #[.agg #[.slice (some ⟨b,o,none⟩) st.1.length c],.int .i64 (a:Int),.string s] W fun e w'=>e=.returned (.int .i64 (lookI st.1 (a:Int) s))∧Below W.heap.size W w'):=fun W s hs hW=>zGX _ _ _ st.1 s W _ (a:Int) hs hlen (hr.dirs.belowSize hW)
 have HX7:Hid (∀ W,Below w.heap.size w W→W.cell? ⟨C.P,7,none⟩=some (.slice (some ⟨b,o,none⟩) st.1.length c)):=fun W hW=>zAA hW x7 hHP
 have HR:Hid (seesB C.q.g st.1 st.2 a f=(n.ctx.drop 0).all (zDi st.1 st.2 a f)):=by
  unfold Hid seesB
  rw[hj,Int.toNat_natCast,hn]
  rfl
 have H1:Hid (∀ q:Pin,zDi st.1 st.2 a f q=(decide (0≤zBB st.2 f q.name)&&decide (lookI st.1 (a:Int) q.name=zBB st.2 f q.name))):=fun q=>rfl
 have HX:=cH (hx.more (S':=fun _=>True) fun _ _ _=>trivial)
 obtain ⟨m,hm⟩:∃ m,m=n.ctx.length:=⟨_,rfl⟩
 rw[←hm] at g4 HX hxl
 have Hm:=cH hm
 obtain ⟨N,hN⟩:∃ N,N=st.1.length:=⟨_,rfl⟩
 rw[←hN] at x7 HX7 HL ha hlen1
 clear hm hN hr hw hx hC hgA hn hj hlen
 generalize seesB C.q.g st.1 st.2 a f=R at *
 generalize C.P=PB at *
 generalize C.gn=gn at *
 generalize C.gc=gc at *
 generalize n.ctx=ctx at *
 have ha0:(0:Int)≤(a:Int):=by omega
 have han:(a:Int)<(N:Int):=by omega
 have hj0:(0:Int)≤(j:Int):=by omega
 have hjI:(j:Int)<(gn:Int):=by omega
 go_enter Tryz.func79,Tryz.ntmps79
 have r_x0:=cR x0
 have r_x7:=cR x7
 have r_y8:=cR y8
 have r_g4:=cR g4
 go_wp2_with fail
 refine wQ ?_
 repeat (go_big_quiet_step (first|fail))
 refine wpQuiet_nil fun w1 B1=>?_
 have HB1:=cH B1
 clear r_x0 r_x7 r_y8 r_g4 x0 x7 y8 g4 B1
 go_wp2_with fail
 go_loopw [28] (fun t wr=>∃ k:Nat,k≤m∧t=.int .i64 k∧Hid (R=(ctx.drop k).all (zDi st.1 st.2 a f))∧Hid (Below w.heap.size w wr)) (fun t _=>m - (intOf t).toNat)
 case atStart=>exact ⟨0,nZ _,rfl,HR,HB1⟩
 case round=>
  clear HR HB1
  obtain ⟨k,hk,rfl,heq,hbel⟩:=hrel
  have hk0:(0:Int)≤(k:Int):=by omega
  by_cases hlt:k<m
  case neg=>
   have He:Hid (R=true):=by unfold Hid;rw[heq.out,dN (by have:=Hm.out;omega)];rfl
   have hI:¬(k:Int)<(m:Int):=by omega
   clear heq
   go_wp2_with fail
   go_ret
   exact ⟨zAB He.out.symm,hbel.out⟩
  have hkn:(k:Int)<(m:Int):=by omega
  obtain ⟨x,hx⟩:∃ x,ctx[k]?=some x:=⟨_,gE (by have:=Hm.out;omega)⟩
  obtain ⟨b',o',cs,hA,_,hb1,⟨rfl,hlz,_⟩,hcell⟩:=(HX.out.belowSize hbel.out).elem hx
  subst hA
  have c0:=hcell 0 _ rfl
  have c1:=hcell 1 _ rfl
  have c2:=hcell 2 _ rfl
  have c3:=hcell 3 _ rfl
  simp only[rPin,Nat.add_zero] at c0 c1 c2 c3
  have Hst2:Hid (R=((decide (0≤zBB st.2 f x.name)&&decide (lookI st.1 (a:Int) x.name=zBB st.2 f x.name))&&(ctx.drop (k+1)).all (zDi st.1 st.2 a f))):=by unfold Hid;rw[heq.out,zNO hx,H1.out]
  have HF1:Hid (∀ W,Below w.heap.size w W→Calls Tryz.prog 128 #[.pointer (some ⟨PB,0,none⟩),.int .i64 (f:Int),.string x.name] W fun e w'=>e=.returned (.int .i64 (zBB st.2 f x.name))∧Below W.heap.size W w'):=fun W hW=>HF.out W x.name hW
  have HL1:Hid (∀ W,Below w.heap.size w W→Calls Tryz.prog 17 #[.agg #[.slice (some ⟨b,o,none⟩) N c],.int .i64 (a:Int),.string x.name] W fun e w'=>e=.returned (.int .i64 (lookI st.1 (a:Int) x.name))∧Below W.heap.size W w'):=fun W hW=>HL.out W x.name hlz hW
  clear hcell hlz heq
  generalize x.name=nm at *
  generalize x.ver.major=v1 at *
  generalize x.ver.minor=v2 at *
  generalize x.ver.patch=v3 at *
  generalize zBB st.2 f nm=fo at *
  generalize lookI st.1 (a:Int) nm=lk at *
  go_upto_region 4 with (fail)
  obtain ⟨w4,hw4⟩:∃ w4,w4=wr.alloc (.cells #[.string nm,.int .i64 v1,.int .i64 v2,.int .i64 v3] 63):=⟨_,rfl⟩
  have hq4:w4.heap[wr.heap.size]?=some (.cells #[.string nm,.int .i64 v1,.int .i64 v2,.int .i64 v3] 63 (0,0)):=by rw[hw4];exact zAD _ _
  have HB4:Hid (Below w.heap.size w w4):=by unfold Hid;rw[hw4];exact bal hbel.out _
  rw[←hw4]
  obtain ⟨QB,hQB⟩:∃ QB,QB=wr.heap.size:=⟨_,rfl⟩
  rw[←hQB] at hq4 ⊢
  have d0:=cO _ _ 0 _ _ _ hq4
  have hqz:=zAc d0
  clear hw4 hQB hq4 c0 c1 c2 c3 hbel
  go_wp2_with fail
  refine (HF1.out w4 HB4.out).mono ?_
  rintro e w5 ⟨rfl,hb5⟩
  have HB5:=cH (bot HB4.out hb5)
  have e0:=zAA hb5 d0 hqz
  have x7:=HX7.out w5 HB5.out
  have HL2:=cH (qcall (w:=w5) (fun W hW=>HL1.out W (bot HB5.out hW)))
  have Hbf:Hid (∀ W,Below w5.heap.size w5 W→Below w.heap.size w W):=fun W hW=>bot HB5.out hW
  clear hb5 HF1 HL1 d0 HB4 HB5
  have r_e0:=cR e0
  have r_x7:=cR x7
  by_cases h1:0≤fo
  case neg=>
   have hI:fo<0:=by omega
   have hId:decide (fo<0)=true:=decide_eq_true hI
   have He:Hid (R=false):=by unfold Hid;rw[Hst2.out,decide_eq_false h1];rfl
   clear Hst2 h1
   go_wp2_with fail
   refine wQ ?_
   repeat (go_big_quiet_step (first|(with_reducible exact HL2.out _ _)))
   refine wpQuiet_nil fun w6 B6=>?_
   have HB6:=cH (Hbf.out _ B6)
   go_wp2_with fail
   go_ret
   exact ⟨zAB He.out.symm,HB6.out⟩
  have hI:¬fo<0:=by omega
  have hId:decide (fo<0)=false:=decide_eq_false hI
  rw[decide_eq_true h1,Bool.true_and] at Hst2
  by_cases h2:lk=fo
  ·have hbn:(lk != fo)=false:=by simp[h2]
   have He:Hid (R=(ctx.drop (k+1)).all (zDi st.1 st.2 a f)):=by unfold Hid;rw[Hst2.out,decide_eq_true h2];rfl
   clear Hst2 h2 h1
   go_wp2_with fail
   refine wQ ?_
   repeat (go_big_quiet_step (first|(with_reducible exact HL2.out _ _)))
   refine wpQuiet_nil fun w6 B6=>?_
   have HB6:=cH (Hbf.out _ B6)
   go_wp2_with fail
   go_roundw
   case rel=>exact ⟨k+1,by omega,by go_num,He,HB6⟩
   case measure=>simp[intOf];omega
  ·have hbn:(lk != fo)=true:=by simp[h2]
   have He:Hid (R=false):=by unfold Hid;rw[Hst2.out,decide_eq_false h2];rfl
   clear Hst2 h2 h1
   go_wp2_with fail
   refine wQ ?_
   repeat (go_big_quiet_step (first|(with_reducible exact HL2.out _ _)))
   refine wpQuiet_nil fun w6 B6=>?_
   have HB6:=cH (Hbf.out _ B6)
   go_wp2_with fail
   go_ret
   exact ⟨zAB He.out.symm,HB6.out⟩
theorem zGx {w:World} {S:Nat→Prop}:∀ {l:List ByteArray},(∀ x∈l,x.size≤maxLen)→Elems rStr w S l (l.map Value.string)
 | [],_=>rfl
 | x::l,h=>⟨[.string x],l.map Value.string,rfl,⟨rfl,h x (by simp)⟩,zGx fun y hy=>h y (by simp[hy])⟩
theorem zLT {w:World} {S:Nat→Prop} {l:List ByteArray} {v:Value} (h:SlV rStr w S l v):∀ x∈l,x.size≤maxLen:=fun x hx=>by
 obtain ⟨i,hi,rfl⟩:=List.getElem_of_mem hx
 obtain ⟨A,c,rfl,_,_⟩:=h.val
 obtain ⟨b,o,cs,_,_,_,⟨_,hz⟩,_⟩:=h.elem (gE hi)
 exact hz
theorem zEN (A:Option Addr) (n c:Nat) (l:List ByteArray) (w:World) (S:Nat→Prop) (hlen:l.length * 32≤140737488355328) (hl:SlV rStr w S l (.slice A n c)) :
  Calls Tryz.prog 129 #[.slice A n c] w fun e w'=>∃ v,e=.returned v∧Own rStr w' w.heap.size 9 v l (fun _=>False)∧Below w.heap.size w w':=by
 have hn:=hl.n_eq
 have hsz:=zLT hl
 cases A with
 | none=>
   have hl0:l=[]:=by
    cases l with
    | nil=>rfl
    | cons x t=>
      obtain ⟨b,o,cs,hA,_⟩:=hl.elem (i:=0) (x:=x) rfl
      cases hA
   refine (Tryz.slices_Clone_string_nil n c w).mono ?_
   rintro e w' ⟨rfl,rfl⟩
   rw[hl0]
   exact ⟨_,rfl,Own.nil_ _ _ _ _ (fun b h=>h.elim),bR _ _⟩
 | some a=>
   by_cases h0:n=0
   ·subst h0
    have hl0:l=[]:=List.eq_nil_of_length_eq_zero hn.symm
    refine (Tryz.slices_Clone_string_zero a c w).mono ?_
    rintro e w' ⟨v,rfl,hown,_,hb⟩
    rw[hl0]
    exact ⟨v,rfl,⟨fun b h=>h.elim,[],hown,rfl⟩,hb⟩
   ·obtain ⟨b,o,cs,hA,_⟩:=hl.elem (gE (show 0<l.length by omega))
    cases hA
    refine (Tryz.slices_Clone_string b o n c l w (by omega) (by omega) fun j hj=>?_).mono ?_
    ·obtain ⟨b2,o2,cs2,e,_,_,⟨rfl,_⟩,hcell⟩:=hl.elem (gE hj)
     have:=hcell 0 _ rfl
     simp only[Option.some.injEq,Addr.mk.injEq] at e
     obtain ⟨rfl,rfl,_⟩:=e
     simp only[rStr,Nat.add_zero,Nat.mul_one] at this
     rw[this,List.getD_eq_getElem?_getD,gE hj];rfl
    ·rintro e w' ⟨v,rfl,hown,_,hb⟩
     rw[hn,List.take_length] at hown
     exact ⟨v,rfl,⟨fun b h=>h.elim,l.map Value.string,hown,zGx hsz⟩,hb⟩
theorem PlRd.pack {C:PlCtx} {w:World} {st:PlSt} {A:Option Addr} {c:Nat} {A':Option Addr} {c':Nat} (h:PlRd C w st A c A' c') (hC:C.Ok) (hb:Below C.w0.heap.size C.w0 w) {i:Nat} {x:Pack} (hi:C.q.ps[i]?=some x) :
  ∃ (b o:Nat) (dA:Option Addr) (dc:Nat) (eA:Option Addr) (ec:Nat) (fA:Option Addr) (fc:Nat),C.pA=some ⟨b,o,none⟩∧b<C.w0.heap.size∧i<C.pn∧w.cell? ⟨b,o+i * 7,none⟩=some (.string x.name)∧w.cell? ⟨b,o+i * 7+1,none⟩=some (.int .i64 x.ver.major)∧w.cell? ⟨b,o+i * 7+2,none⟩=some (.int .i64 x.ver.minor)∧w.cell? ⟨b,o+i * 7+3,none⟩=some (.int .i64 x.ver.patch) ∧
    w.cell? ⟨b,o+i * 7+4,none⟩=some (.slice dA x.deps.length dc)∧w.cell? ⟨b,o+i * 7+5,none⟩=some (.slice eA x.peers.length ec)∧w.cell? ⟨b,o+i * 7+6,none⟩=some (.slice fA x.opts.length fc) ∧
    PackV w (fun b=>b<C.w0.heap.size) x (.agg #[.string x.name,.int .i64 x.ver.major,.int .i64 x.ver.minor,.int .i64 x.ver.patch,.slice dA x.deps.length dc,.slice eA x.peers.length ec,.slice fA x.opts.length fc])∧I64 x.ver.major∧I64 x.ver.minor∧I64 x.ver.patch:=by
 have hg:=hC.p.belowSize hb
 have hn:=hg.n_eq
 obtain ⟨b,o,cs,hA,hS,hbl,hh,hcell⟩:=hg.elem hi
 obtain ⟨s0,s1,s2,rfl,hnm,i1,i2,i3,h1,h2,h3⟩:=hh
 obtain ⟨dA,dc,rfl,_,_⟩:=h1.val
 obtain ⟨eA,ec,rfl,_,_⟩:=h2.val
 obtain ⟨fA,fc,rfl,_,_⟩:=h3.val
 have c0:=hcell 0 _ rfl
 have c1:=hcell 1 _ rfl
 have c2:=hcell 2 _ rfl
 have c3:=hcell 3 _ rfl
 have c4:=hcell 4 _ rfl
 have c5:=hcell 5 _ rfl
 have c6:=hcell 6 _ rfl
 simp only[rPack,Nat.add_zero] at c0 c1 c2 c3 c4 c5 c6
 exact ⟨b,o,dA,dc,eA,ec,fA,fc,hA,hS,by rw[hn];exact (gS.1 hi).1,c0,c1,c2,c3,c4,c5,c6,⟨_,_,_,_,_,_,_,_,_,rfl,hnm,h1,h2,h3⟩,i1,i2,i3⟩
theorem zLv {w:World} {S:Nat→Prop} {l:List Dir} {A:Option Addr} {n c:Nat} (h:SlV rDir w S l (.slice A n c)) {i:Nat} {d:Dir} (hi:l[i]?=some d) :
  ∃ (b o:Nat) (dA:Option Addr) (dc:Nat) (eA:Option Addr) (ec:Nat) (fA:Option Addr) (fc:Nat),A=some ⟨b,o,none⟩∧b<w.heap.size∧w.cell? ⟨b,o+i * 9+1,none⟩=some (.string d.pack.name)∧w.cell? ⟨b,o+i * 9+2,none⟩=some (.int .i64 d.pack.ver.major)∧w.cell? ⟨b,o+i * 9+3,none⟩=some (.int .i64 d.pack.ver.minor)∧w.cell? ⟨b,o+i * 9+4,none⟩=some (.int .i64 d.pack.ver.patch) ∧
    w.cell? ⟨b,o+i * 9+5,none⟩=some (.slice dA d.pack.deps.length dc)∧w.cell? ⟨b,o+i * 9+6,none⟩=some (.slice eA d.pack.peers.length ec)∧w.cell? ⟨b,o+i * 9+7,none⟩=some (.slice fA d.pack.opts.length fc) ∧
    PackV w S d.pack (.agg #[.string d.pack.name,.int .i64 d.pack.ver.major,.int .i64 d.pack.ver.minor,.int .i64 d.pack.ver.patch,.slice dA d.pack.deps.length dc,.slice eA d.pack.peers.length ec,.slice fA d.pack.opts.length fc]):=by
 obtain ⟨b,o,cs,hA,hS,hbl,hh,hcell⟩:=h.elem hi
 obtain ⟨pA,pa,pB,pb,pC,pc,pD,pd,rfl,hp,hpk,hI⟩:=zE2 hh
 have c1:=hcell 1 _ rfl
 have c2:=hcell 2 _ rfl
 have c3:=hcell 3 _ rfl
 have c4:=hcell 4 _ rfl
 have c5:=hcell 5 _ rfl
 have c6:=hcell 6 _ rfl
 have c7:=hcell 7 _ rfl
 simp only[rDir] at c1 c2 c3 c4 c5 c6 c7
 exact ⟨b,o,pB,pb,pC,pc,pD,pd,hA,hbl,c1,c2,c3,c4,c5,c6,c7,hpk⟩
theorem zIM {T:List Dir} {S:List Stl} {old:Option (List Dir)} {path:List ByteArray} {s:ByteArray} {x:Pack} {k:Nat} {b l:Int} (h:0≤findI T (path.take k++[s])):zAw T S old path s x (k+1) (b,l)=(b,l):=by
 rw[zAw,if_pos h]
theorem zIZ {T:List Dir} {S:List Stl} {old:Option (List Dir)} {path:List ByteArray} {s:ByteArray} {x:Pack} {k:Nat} {b l:Int} (h:¬0≤findI T (path.take k++[s])) {i:Nat} (hi:findI T (path.take k)=(i:Int)) (ht:zBs T S i s=true) :
  zAw T S old path s x (k+1) (b,l)=zAw T S old path s x k (b,l):=by
 rw[zAw,if_neg h,hi,Int.toNat_natCast,if_pos ht]
theorem zIc {T:List Dir} {S:List Stl} {old:Option (List Dir)} {path:List ByteArray} {s:ByteArray} {x:Pack} {k:Nat} {b l:Int} (h:¬0≤findI T (path.take k++[s])) {i:Nat} (hi:findI T (path.take k)=(i:Int)) (ht:zBs T S i s=false) :
  zAw T S old path s x (k+1) (b,l)=zAw T S old path s x k ((i:Int),if zCN old (path.take k++[s]) x=true then (i:Int) else l):=by
 rw[zAw,if_neg h,hi,Int.toNat_natCast,if_neg (by rw[ht];decide)]
theorem zHf (p:List ByteArray) (x:Pack):zCN none p x=false:=rfl
theorem zIP (o:List Dir) (p:List ByteArray) (x:Pack):zCN (some o) p x=(decide (0≤findI o p)&&eqB (dirAt o (findI o p).toNat).pack x):=rfl
theorem zMp {b l:Int} (h:0≤l):pickI (b,l)=l:=by unfold pickI;rw[if_pos h]
theorem zMt {b l:Int} (h:¬0≤l):pickI (b,l)=b:=by unfold pickI;rw[if_neg h]
theorem zMF (C:PlCtx) (hC:C.Ok) (w:World) (st:PlSt) (hw:PlWd C w st) {at_:Nat} {done:List ByteArray} (hinv:PlInv C.q at_ done st) (a nd:Nat) {d:Dir} (hd:st.1[a]?=some d) {n:Node} (hn:C.q.g[nd]?=some n) {x:Pack} (hx:C.q.ps[nd]?=some x) (hlen:∀ d∈st.1,d.path.length * 32≤140737488355000) :
  Calls Tryz.prog 80 #[.pointer (some ⟨C.P,0,none⟩),.int .i64 (a:Int),.int .i64 (nd:Int)] w fun e w'=>e=.returned (.int .i64 (spotI st.1 st.2 C.q.old d.path n.name x))∧Below w.heap.size w w':=by
 have HW:=cH hw
 have hbase:=hw.base
 obtain ⟨A,c,A',c',hr⟩:=hw.read
 have ha:=(gS.1 hd).1
 have hlen1:=hr.len.1
 have x0:=hr.c0
 have x1:=hr.c1
 have x6:=hr.c6
 have x7:=hr.c7
 obtain ⟨b,o,pA,pc,hA,hb,y0,_,hp,hpl,hpm⟩:=hr.dir hd
 obtain ⟨gb,go,xA,xc,eA,ec,hgA,hgb,hjn,g0,_,_,_,_,_,_,_,hnm⟩:=hr.node hC hbase hn
 subst hA
 have hgcap:=zBt hC.g
 have hpcap:=zBt hC.p
 have hHP:=hr.hP
 have hpl2:=hlen d (mG hd)
 unfold maxLen at hpm
 rw[hgA] at x0
 have HFd:Hid (∀ W (vA:Option Addr) (m vc:Nat) (p:List ByteArray),Below w.heap.size w W→SlV rStr W (fun _=>True) p (.slice vA m vc)→Calls Tryz.prog 18 #[.agg #[.slice (some ⟨b,o,none⟩) st.1.length c],.slice vA m vc] W fun e w'=>e=.returned (.int .i64 (findI st.1 p))∧Below W.heap.size W w'):=fun W vA m vc p hW hv=>zDJ _ _ _ _ _ _ st.1 p W _ _ (hr.dirs.belowSize hW) hv
 have HPt:Hid (∀ W,Below w.heap.size w W→SlV rStr W (fun _=>True) d.path (.slice pA d.path.length pc)):=fun W hW=>hp.belowSize hW
 have HCl:Hid (∀ W (k:Nat),Below w.heap.size w W→k≤d.path.length→Calls Tryz.prog 129 #[.slice pA k pc] W fun e w'=>∃ v,e=.returned v∧Own rStr w' W.heap.size 9 v (d.path.take k) (fun _=>False)∧Below W.heap.size W w'):=fun W k hW hk=>zEN pA k pc (d.path.take k) W _ (by rw[List.length_take];omega) (SlV.take (hp.belowSize hW) hk)
 have HTu:Hid (∀ W (i:Nat),Below w.heap.size w W→i<st.1.length→Calls Tryz.prog 130 #[.pointer (some ⟨C.P,0,none⟩),.int .i64 (i:Int),.string n.name] W fun e w'=>e=.returned (.bool (zBs st.1 st.2 i n.name))∧Below W.heap.size W w'):=fun W i hW hi=>zLh C hC W st (hw.keep hC hW) i hi n.name fun x hx=>⟨(hinv.stl x hx).1,(hinv.stl x hx).2.1⟩
 have HX:Hid (∀ W,Below w.heap.size w W→W.cell? ⟨C.P,1,none⟩=some (.slice C.pA C.pn C.pc)∧W.cell? ⟨C.P,6,none⟩=some C.ov∧W.cell? ⟨C.P,7,none⟩=some (.slice (some ⟨b,o,none⟩) st.1.length c)):=fun W hW=>⟨zAA hW x1 hHP,zAA hW x6 hHP,zAA hW x7 hHP⟩
 have HPk:Hid (∀ W,Below w.heap.size w W→∃ (b o:Nat) (dA:Option Addr) (dc:Nat) (eA:Option Addr) (ec:Nat) (fA:Option Addr) (fc:Nat),C.pA=some ⟨b,o,none⟩∧nd<C.pn∧W.cell? ⟨b,o+nd * 7,none⟩=some (.string x.name)∧W.cell? ⟨b,o+nd * 7+1,none⟩=some (.int .i64 x.ver.major)∧W.cell? ⟨b,o+nd * 7+2,none⟩=some (.int .i64 x.ver.minor)∧W.cell? ⟨b,o+nd * 7+3,none⟩=some (.int .i64 x.ver.patch) ∧
   W.cell? ⟨b,o+nd * 7+4,none⟩=some (.slice dA x.deps.length dc)∧W.cell? ⟨b,o+nd * 7+5,none⟩=some (.slice eA x.peers.length ec)∧W.cell? ⟨b,o+nd * 7+6,none⟩=some (.slice fA x.opts.length fc) ∧
   PackV W (fun b=>b<C.w0.heap.size) x (.agg #[.string x.name,.int .i64 x.ver.major,.int .i64 x.ver.minor,.int .i64 x.ver.patch,.slice dA x.deps.length dc,.slice eA x.peers.length ec,.slice fA x.opts.length fc])):=fun W hW=>by
  obtain ⟨b,o,dA,dc,eA,ec,fA,fc,h1,_,h3,h4,h5,h6,h7,h8,h9,h10,h11,_⟩:=(hr.keep hW).pack hC (bot hbase hW) hx
  exact ⟨b,o,dA,dc,eA,ec,fA,fc,h1,h3,h4,h5,h6,h7,h8,h9,h10,h11⟩
 have HOl:Hid (∀ W,Below w.heap.size w W→OldV W (fun b=>b<C.w0.heap.size) C.ov C.q.old):=fun W hW=>hC.o.keep (bot hbase hW)
 have HFi:Hid (∀ k,k≤d.path.length→∃ i:Nat,i<st.1.length∧findI st.1 (d.path.take k)=(i:Int)):=fun k hk=>by
  obtain ⟨i,e,_,h1,h2,_⟩:=hinv.find hd hk
  exact ⟨i,(gS.1 h2).1,h1⟩
 have HNs:=cH hnm
 have HR:Hid (spotI st.1 st.2 C.q.old d.path n.name x=pickI (zAw st.1 st.2 C.q.old d.path n.name x (d.path.length+1) (-1,-1))):=rfl
 clear hr hw hC hinv hp hn hx hnm hbase hd hgA x1 x6
 obtain ⟨lp,hlp⟩:∃ m,m=d.path.length:=⟨_,rfl⟩
 obtain ⟨N,hN⟩:∃ N,N=st.1.length:=⟨_,rfl⟩
 rw[←hlp] at y0 hpl HPt HCl HFi HR hpl2
 rw[←hN] at x7 ha HFd HTu HX HFi hlen1
 have Hlp:=cH hlp
 clear hN hlp hlen HW
 generalize spotI st.1 st.2 C.q.old d.path n.name x=R at *
 generalize hold:C.q.old=old at *
 clear hold
 generalize C.P=PB at *
 generalize C.gn=gn at *
 generalize C.gc=gc at *
 generalize C.pn=pn at *
 generalize C.pc=pcc at *
 generalize C.pA=ppA at *
 generalize C.ov=ov at *
 generalize C.w0.heap.size=B0 at *
 generalize n.name=s at *
 generalize d.path=path at *
 have ha0:(0:Int)≤(a:Int):=by omega
 have han:(a:Int)<(N:Int):=by omega
 have hj0:(0:Int)≤(nd:Int):=by omega
 have hjI:(nd:Int)<(gn:Int):=by omega
 have hlp63:lp≤4398046511093:=by omega
 go_enter Tryz.func80,Tryz.ntmps80
 go_wp2_with fail
 go_step3
 go_wp2_with fail
 go_step3
 go_wp2_with fail
 clear x0 x7 y0 g0
 go_loopg [8,9,11] (lp+1) (fun G bv lv kv wr=>∃ bb ll:Int,bv=.int .i64 bb∧lv=.int .i64 ll∧kv=.int .i64 ((G:Int) - 1)∧G≤lp+1∧Hid (R=pickI (zAw st.1 st.2 old path s x G (bb,ll)))∧Hid (Below w.heap.size w wr))
 case atStart=>exact ⟨-1,-1,rfl,rfl,by congr 1<;>omega,nR _,HR,bR _ _⟩
 case round=>
  clear HR
  obtain ⟨bb,ll,rfl,rfl,rfl,hgk,HRq,hbel⟩:=hrel
  rcases gk with _|q
  ·have He:Hid (R=pickI (bb,ll)):=HRq
   rw[show ((0:Nat):Int) - 1=-1 from rfl]
   clear HRq
   by_cases hl:0≤ll
   ·rw[zMp hl] at He
    go_wp2_with fail
    try rw[Exit.noGoto_ret]
    go_ret
    exact ⟨zAy He.out.symm,hbel.out⟩
   ·rw[zMt hl] at He
    go_wp2_with fail
    try rw[Exit.noGoto_ret]
    go_ret
    exact ⟨zAy He.out.symm,hbel.out⟩
  have hq:q≤lp:=by omega
  rw[show ((q+1:Nat):Int) - 1=(q:Int) by omega]
  have hq0:(0:Int)≤(q:Int):=by omega
  have hqc:q≤pc:=by omega
  have hw2:IntKind.i64.wrap (q:Int)=(q:Int):=IntWalk.i64_in _ ⟨by omega,by omega⟩
  obtain ⟨i,hiN,hif⟩:=HFi.out q hq
  obtain ⟨x1,x6,x7⟩:=HX.out wr hbel.out
  have Hq:=cH (qcall (w:=wr) (fun W hW=>HFd.out W pA q pc (path.take q) (bot hbel.out hW) (SlV.take (HPt.out W (bot hbel.out hW)) (by rw[←Hlp.out];exact hq))))
  rw[hif] at Hq
  have Hif:=cH hif
  have Hlt:Hid ((path.take q).length=q):=by unfold Hid;rw[List.length_take,←Hlp.out];exact Nat.min_eq_left hq
  clear hif
  have r_x7:=cR x7
  go_wp2_with fail
  refine wQ ?_
  repeat (go_big_quiet_step (first|(with_reducible exact Hq.out _ _)))
  refine wpQuiet_nil fun w1 B1=>?_
  have HB1:=cH (bot hbel.out B1)
  clear r_x7 x1 x6 x7 Hq B1
  go_wp2_with fail
  refine (HCl.out w1 q HB1.out hq).mono ?_
  rintro e w2 ⟨v2,rfl,hown2,hb2⟩
  have HB2:=cH hb2
  have Hown2:=cH hown2
  have hw21:w1.heap.size≤w2.heap.size:=hb2.size
  clear hb2 hown2
  go_wp2_with (at_builtin;refine zAK (by rfl) _ _ _ (by rfl) zA6 Tryz.underlying48 (by rfl) (Hown2.out.alloc _) ⟨w2.heap.size,0,none⟩ 1 [.string s] s (by rfl) ⟨rfl,HNs.out⟩ (zAo w2 #[.string s] _) (by rw[Hlt.out];unfold maxLen;omega) (by rw[Hlt.out];omega) (by simp;omega) (w2.heap.size+1) (by simp) ?_)
  intro g9 cap9 w9 hown9 hgrow9 hat9 hlt9
  have HB9:=cH (zA5 (bal HB2.out _) hgrow9 (Hown2.out.alloc _) (nR _))
  have Hsl9:=cH (hown9.slv.more (S':=fun _=>True) fun _ _ _=>trivial)
  have HBw9:=cH (bot HB1.out HB9.out)
  clear hown9 hgrow9 hat9 Hown2 HB2 HB9
  obtain ⟨x1,x6,x7⟩:=HX.out w9 HBw9.out
  have hmin:min q path.length=q:=by have:=Hlt.out;rwa [List.length_take] at this
  rw[hmin] at Hsl9 ⊢
  go_wp2_with fail
  refine (HFd.out w9 _ _ _ _ HBw9.out Hsl9.out).mono ?_
  rintro e w10 ⟨rfl,hb10⟩
  have HB10:=cH (bot HBw9.out hb10)
  have Hsl10:=cH (Hsl9.out.belowSize hb10)
  clear hb10 Hsl9 x1 x6 x7
  have Hst1:=cH (fun h=>zIM (S:=st.2) (old:=old) (x:=x) (T:=st.1) (path:=path) (s:=s) (k:=q) (b:=bb) (l:=ll) h)
  have Hst2:=cH (fun h ht=>zIZ (S:=st.2) (old:=old) (x:=x) (T:=st.1) (path:=path) (s:=s) (k:=q) (b:=bb) (l:=ll) h Hif.out ht)
  have Hst3:=cH (fun h ht=>zIc (S:=st.2) (old:=old) (x:=x) (T:=st.1) (path:=path) (s:=s) (k:=q) (b:=bb) (l:=ll) h Hif.out ht)
  clear Hlt Hif
  by_cases hf:0≤findI st.1 (path.take q++[s])
  case pos=>
   have He:Hid (R=pickI (bb,ll)):=by unfold Hid;rw[HRq.out,Hst1.out hf]
   generalize findI st.1 (path.take q++[s])=f at *
   clear Hst1 Hst2 Hst3 HRq
   by_cases hl:0≤ll
   ·rw[zMp hl] at He
    go_wp2_with fail
    try rw[Exit.noGoto_ret]
    go_ret
    exact ⟨zAy He.out.symm,HB10.out⟩
   ·rw[zMt hl] at He
    go_wp2_with fail
    try rw[Exit.noGoto_ret]
    go_ret
    exact ⟨zAy He.out.symm,HB10.out⟩
  have Hst2':=cH (fun ht=>Hst2.out hf ht)
  have Hst3':=cH (fun ht=>Hst3.out hf ht)
  clear Hst1 Hst2 Hst3
  have hfd:decide (0≤findI st.1 (path.take q++[s]))=false:=decide_eq_false hf
  generalize findI st.1 (path.take q++[s])=f at *
  go_wp2_with fail
  refine (HTu.out w10 i HB10.out hiN).mono ?_
  rintro e w11 ⟨rfl,hb11⟩
  have HB11:=cH (bot HB10.out hb11)
  have Hsl11:=cH (Hsl10.out.belowSize hb11)
  clear hb11 HB10 Hsl10
  have hwm:IntKind.i64.wrap ((q:Int) - 1)=(q:Int) - 1:=IntWalk.i64_in _ ⟨by omega,by omega⟩
  cases hu:zBs st.1 st.2 i s with
  | true=>
    have HR2:Hid (R=pickI (zAw st.1 st.2 old path s x q (bb,ll))):=by unfold Hid;rw[HRq.out,Hst2'.out hu]
    clear Hst2' Hst3' HRq hu
    go_wp2_with fail
    go_roundg q
    case rel=>exact ⟨bb,ll,rfl,rfl,by congr 1<;>omega,by omega,HR2,HB11⟩
    case measure=>omega
  | false=>
  have HR2:Hid (R=pickI (zAw st.1 st.2 old path s x q ((i:Int),if zCN old (path.take q++[s]) x=true then (i:Int) else ll))):=by unfold Hid;rw[HRq.out,Hst3'.out hu]
  clear Hst2' Hst3' HRq hu
  obtain ⟨x1,x6,x7⟩:=HX.out w11 HB11.out
  rcases HOl.out w11 HB11.out with ⟨hon,hov⟩|⟨ob,oo,oA,on,oc,l,hon,hov,hobl,_,hoc,hos,_⟩
  ·subst hov
   have HR3:Hid (R=pickI (zAw st.1 st.2 old path s x q ((i:Int),ll))):=by unfold Hid;rw[HR2.out,hon,zHf];rfl
   clear HR2 hon
   go_wp2_with fail
   go_roundg q
   case rel=>exact ⟨(i:Int),ll,rfl,rfl,by congr 1<;>omega,by omega,HR3,HB11⟩
   case measure=>omega
  ·subst hov
   have HLk2:Hid (zCN old (path.take q++[s]) x=(decide (0≤findI l (path.take q++[s]))&&eqB (dirAt l (findI l (path.take q++[s])).toNat).pack x)):=by unfold Hid;rw[hon,zIP]
   have Hos:=cH hos
   have Hoc:=cH hoc
   clear hon
   go_wp2_with fail
   refine (zDJ oA _ on oc _ _ l _ w11 _ _ Hos.out Hsl11.out).mono ?_
   rintro e w12 ⟨rfl,hb12⟩
   have HB12:=cH (bot HB11.out hb12)
   have Hos2:=cH (Hos.out.belowSize hb12)
   have oc2:=zAA hb12 Hoc.out hobl
   clear hb12 Hos Hsl11 x1 x6 x7 hoc hos
   obtain ⟨x1,x6,x7⟩:=HX.out w12 HB12.out
   by_cases hz:0≤findI l (path.take q++[s])
   case neg=>
    have HR3:Hid (R=pickI (zAw st.1 st.2 old path s x q ((i:Int),ll))):=by unfold Hid;rw[HR2.out,HLk2.out,decide_eq_false hz];rfl
    generalize findI l (path.take q++[s])=z at *
    have hzd:decide (0≤z)=false:=decide_eq_false hz
    clear HR2 HLk2
    have r_x1:=cR x1
    have r_x6:=cR x6
    have r_oc2:=cR oc2
    go_wp2_with fail
    refine wQ ?_
    repeat (go_big_quiet_step (first|fail))
    refine wpQuiet_nil fun w13 B13=>?_
    have HB13:=cH (bot HB12.out B13)
    go_wp2_with fail
    go_roundg q
    case rel=>exact ⟨(i:Int),ll,rfl,rfl,by congr 1<;>omega,by omega,HR3,HB13⟩
    case measure=>omega
   obtain ⟨j,e,hj,hje,_⟩:=zCj hz
   rw[hj] at hz ⊢
   have hjl:=(gS.1 hje).1
   have honl:=Hos2.out.n_eq
   have hol63:=zBt Hos2.out
   obtain ⟨qb,qo,dA,dc,eA2,ec2,fA,fc,hqA,hqb,q1,q2,q3,q4,q5,q6,q7,hpv⟩:=zLv Hos2.out hje
   subst hqA
   obtain ⟨kb,ko,dB,dd,eB,ee,fB,ff,hkA,hndn,k0,k1,k2,k3,k4,k5,k6,hpw⟩:=HPk.out w12 HB12.out
   rw[hkA] at x1
   have HLk3:Hid (zCN old (path.take q++[s]) x=eqB e.pack x):=by unfold Hid;rw[HLk2.out,hj,decide_eq_true (by omega),Bool.true_and,Int.toNat_natCast,zBl hje]
   have Hps:=cH (qcall (w:=w12) (fun W hW=>zC4 e.pack x _ _ W _ _ (hpv.keep hW) (hpw.keep hW)))
   have hj0:(0:Int)≤(j:Int):=by omega
   have hjon:(j:Int)<(on:Int):=by omega
   have hjd:decide ((0:Int)≤(j:Int))=true:=decide_eq_true hj0
   have hndI:(nd:Int)<(pn:Int):=by omega
   clear hpv hpw HLk2 hj hje Hos2 honl hz
   generalize eqB e.pack x=v at *
   generalize e.pack.name=e0 at *
   generalize e.pack.ver.major=e1 at *
   generalize e.pack.ver.minor=e2 at *
   generalize e.pack.ver.patch=e3 at *
   generalize e.pack.deps.length=e4 at *
   generalize e.pack.peers.length=e5 at *
   generalize e.pack.opts.length=e6 at *
   generalize x.name=z0 at *
   generalize x.ver.major=z1 at *
   generalize x.ver.minor=z2 at *
   generalize x.ver.patch=z3 at *
   generalize x.deps.length=z4 at *
   generalize x.peers.length=z5 at *
   generalize x.opts.length=z6 at *
   have r_x1:=cR x1
   have r_x6:=cR x6
   have r_oc2:=cR oc2
   have r_q1:=cR q1
   have r_q2:=cR q2
   have r_q3:=cR q3
   have r_q4:=cR q4
   have r_q5:=cR q5
   have r_q6:=cR q6
   have r_q7:=cR q7
   have r_k0:=cR k0
   have r_k1:=cR k1
   have r_k2:=cR k2
   have r_k3:=cR k3
   have r_k4:=cR k4
   have r_k5:=cR k5
   have r_k6:=cR k6
   cases v with
   | false=>
     have HR3:Hid (R=pickI (zAw st.1 st.2 old path s x q ((i:Int),ll))):=by unfold Hid;rw[HR2.out,HLk3.out];rfl
     clear HR2 HLk3
     go_wp2_with fail
     refine wQ ?_
     repeat (go_big_quiet_step (first|(with_reducible exact Hps.out _ _)))
     refine wpQuiet_nil fun w13 B13=>?_
     have HB13:=cH (bot HB12.out B13)
     go_wp2_with fail
     go_roundg q
     case rel=>exact ⟨(i:Int),ll,rfl,rfl,by congr 1<;>omega,by omega,HR3,HB13⟩
     case measure=>omega
   | true=>
     have HR3:Hid (R=pickI (zAw st.1 st.2 old path s x q ((i:Int),(i:Int)))):=by unfold Hid;rw[HR2.out,HLk3.out];rfl
     clear HR2 HLk3
     go_wp2_with fail
     refine wQ ?_
     repeat (go_big_quiet_step (first|(with_reducible exact Hps.out _ _)))
     refine wpQuiet_nil fun w13 B13=>?_
     have HB13:=cH (bot HB12.out B13)
     go_wp2_with fail
     go_roundg q
     case rel=>exact ⟨(i:Int),(i:Int),rfl,rfl,by congr 1<;>omega,by omega,HR3,HB13⟩
     case measure=>omega
