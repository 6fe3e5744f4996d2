/-
  The document's placer: can a node be placed, can a graph: walked.
-/
import Derived.Test.YtminjjdnmpaaoaaGreatDoorSv16
import Derived.Deep.CutRange
import Derived.Deep.RegionLaw
import Derived.Deep.RegionHeld3
import Derived.Test.YtminjjdnmpaaoaaGreatDoorAl
set_option linter.all false
set_option maxHeartbeats 12800000
set_option maxRecDepth 100000
namespace Go.Proofs.YtminjjdnmpaaoaaGreatDoor
open Go.Rows Go.RowKit Go.Shelf Go.Sort
theorem zIk {w:World} {S:Nat→Prop} {l:List Node} {A:Option Addr} {m c:Nat} (h:SlV rNode w S l (.slice A m c)) {i:Nat} {n:Node} (hi:l[i]?=some n) :
  ∃ (b o:Nat) (xA:Option Addr) (xc:Nat) (eA:Option Addr) (ec:Nat),A=some ⟨b,o,none⟩∧b<w.heap.size∧i<m∧w.cell? ⟨b,o+i * 6,none⟩=some (.string n.name)∧w.cell? ⟨b,o+i * 6+1,none⟩=some (.int .i64 n.ver.major)∧w.cell? ⟨b,o+i * 6+2,none⟩=some (.int .i64 n.ver.minor)∧w.cell? ⟨b,o+i * 6+3,none⟩=some (.int .i64 n.ver.patch) ∧
    w.cell? ⟨b,o+i * 6+4,none⟩=some (.slice xA n.ctx.length xc)∧w.cell? ⟨b,o+i * 6+5,none⟩=some (.slice eA n.edges.length ec)∧SlV rPin w S n.ctx (.slice xA n.ctx.length xc)∧SlV rEdge w S n.edges (.slice eA n.edges.length ec)∧n.name.size≤maxLen:=by
 have hn:=h.n_eq
 obtain ⟨b,o,cs,hA,hS,hbl,hh,hcell⟩:=h.elem hi
 obtain ⟨s0,s1,rfl,hnm,_,_,_,hx,he⟩:=hh
 obtain ⟨xA,xc,rfl,_,_⟩:=hx.val
 obtain ⟨eA,ec,rfl,_,_⟩:=he.val
 have c0:=hcell 0 _ rfl
 have c1:=hcell 1 _ rfl
 have c2:=hcell 2 _ rfl
 have c3:=hcell 3 _ rfl
 have c4:=hcell 4 _ rfl
 have c5:=hcell 5 _ rfl
 simp only[rNode,Nat.add_zero] at c0 c1 c2 c3 c4 c5
 exact ⟨b,o,xA,xc,eA,ec,hA,hbl,by rw[hn];exact (gS.1 hi).1,c0,c1,c2,c3,c4,c5,hx,he,hnm⟩
theorem zLk {w:World} {S:Nat→Prop} {l:List Pack} {A:Option Addr} {m c:Nat} (h:SlV rPack w S l (.slice A m c)) {i:Nat} {x:Pack} (hi:l[i]?=some x) :
  ∃ (b o:Nat) (dA:Option Addr) (dc:Nat) (eA:Option Addr) (ec:Nat) (fA:Option Addr) (fc:Nat),A=some ⟨b,o,none⟩∧b<w.heap.size∧i<m∧w.cell? ⟨b,o+i * 7,none⟩=some (.string x.name)∧w.cell? ⟨b,o+i * 7+1,none⟩=some (.int .i64 x.ver.major)∧w.cell? ⟨b,o+i * 7+2,none⟩=some (.int .i64 x.ver.minor)∧w.cell? ⟨b,o+i * 7+3,none⟩=some (.int .i64 x.ver.patch) ∧
    w.cell? ⟨b,o+i * 7+4,none⟩=some (.slice dA x.deps.length dc)∧w.cell? ⟨b,o+i * 7+5,none⟩=some (.slice eA x.peers.length ec)∧w.cell? ⟨b,o+i * 7+6,none⟩=some (.slice fA x.opts.length fc) ∧
    PackV w S x (.agg #[.string x.name,.int .i64 x.ver.major,.int .i64 x.ver.minor,.int .i64 x.ver.patch,.slice dA x.deps.length dc,.slice eA x.peers.length ec,.slice fA x.opts.length fc]):=by
 have hn:=h.n_eq
 obtain ⟨b,o,cs,hA,hS,hbl,hh,hcell⟩:=h.elem hi
 obtain ⟨s0,s1,s2,rfl,hnm,i1,i2,i3,h1,h2,h3⟩:=hh
 obtain ⟨dA,dc,rfl,_,_⟩:=h1.val
 obtain ⟨eA,ec,rfl,_,_⟩:=h2.val
 obtain ⟨fA,fc,rfl,_,_⟩:=h3.val
 have c0:=hcell 0 _ rfl
 have c1:=hcell 1 _ rfl
 have c2:=hcell 2 _ rfl
 have c3:=hcell 3 _ rfl
 have c4:=hcell 4 _ rfl
 have c5:=hcell 5 _ rfl
 have c6:=hcell 6 _ rfl
 simp only[rPack,Nat.add_zero] at c0 c1 c2 c3 c4 c5 c6
 exact ⟨b,o,dA,dc,eA,ec,fA,fc,hA,hbl,by rw[hn];exact (gS.1 hi).1,c0,c1,c2,c3,c4,c5,c6,⟨_,_,_,_,_,_,_,_,_,rfl,hnm,h1,h2,h3⟩⟩
theorem zGY (w:World) (oa ob:Obj):((w.alloc oa).alloc ob).heap[w.heap.size]?=some oa∧((w.alloc oa).alloc ob).heap[w.heap.size+1]?=some ob:=by
 have hsz:w.heap.size+1=(w.alloc oa).heap.size:=by simp
 refine ⟨(Below.heap_alloc (w.alloc oa) ob w.heap.size (by rw[←hsz];exact Nat.lt_succ_self _)).trans (zAD w oa),?_⟩
 rw[hsz];exact zAD (w.alloc oa) ob
theorem zIc (gA:Option Addr) (gn gc:Nat) (pA:Option Addr) (pn pc:Nat) (g:List Node) (ps:List Pack) (w:World) (S:Nat→Prop) (hg:SlV rNode w S g (.slice gA gn gc)) (hp:SlV rPack w S ps (.slice pA pn pc)) (i:Nat) {n:Node} (hn:g[i]?=some n) {x:Pack} (hx:ps[i]?=some x) :
  Calls Tryz.prog 55 #[.agg #[.slice gA gn gc],.slice pA pn pc,.int .i64 (i:Int)] w fun e w'=>e=.returned (.bool (formP g i n x))∧Below w.heap.size w w':=by
 obtain ⟨gb,go,xA,xc,eA,ec,hgA,hgb,hgn,n0,n1,n2,n3,n4,n5,hctx,hedg,hnsz⟩:=zIk hg hn
 obtain ⟨pb,po,dA,dc,fA,fc,kA,kc,hpA,hpb,hpn,k0,k1,k2,k3,k4,k5,k6,hpv⟩:=zLk hp hx
 have hgcap:=zAi hg
 have hpcap:=zAi hp
 have Hgl:=cH hg.n_eq
 have HPv:=cH hpv
 have HCx:=cH hctx
 have HEd:=cH hedg
 have Hg:=cH hg
 have hi0:(0:Int)≤(i:Int):=by omega
 have hig:(i:Int)<(gn:Int):=by omega
 have hip:(i:Int)<(pn:Int):=by omega
 have HR:Hid (formP g i n x=(headP i n x&&((zAJ none (zAG n.ctx)&&zAJ none (zAF n.edges))&&(n.edges.all (edgeP g)&&n.ctx.all (pinP g n.edges))))):=rfl
 have HNd:Hid (∀ W (j:Nat) (y:Node),Below w.heap.size w W→g[j]?=some y→j<gn∧W.cell? ⟨gb,go+j * 6,none⟩=some (.string y.name)∧W.cell? ⟨gb,go+j * 6+1,none⟩=some (.int .i64 y.ver.major)∧W.cell? ⟨gb,go+j * 6+2,none⟩=some (.int .i64 y.ver.minor)∧W.cell? ⟨gb,go+j * 6+3,none⟩=some (.int .i64 y.ver.patch)):=fun W j y hW hy=>by
  obtain ⟨b2,o2,_,_,_,_,hgA2,_,h3,m0,m1,m2,m3,_⟩:=zIk (hg.belowSize hW) hy
  rw[hgA] at hgA2
  cases hgA2
  exact ⟨h3,m0,m1,m2,m3⟩
 subst hgA hpA
 clear hg hp hpv hctx hedg hn hx
 generalize formP g i n x=R at *
 obtain ⟨m0,hm0⟩:∃ k,k=n.name:=⟨_,rfl⟩
 obtain ⟨m1,hm1⟩:∃ k,k=n.ver.major:=⟨_,rfl⟩
 obtain ⟨m2,hm2⟩:∃ k,k=n.ver.minor:=⟨_,rfl⟩
 obtain ⟨m3,hm3⟩:∃ k,k=n.ver.patch:=⟨_,rfl⟩
 obtain ⟨m4,hm4⟩:∃ k,k=n.ctx.length:=⟨_,rfl⟩
 obtain ⟨m5,hm5⟩:∃ k,k=n.edges.length:=⟨_,rfl⟩
 rw[←hm0] at n0
 rw[←hm1] at n1
 rw[←hm2] at n2
 rw[←hm3] at n3
 rw[←hm4] at n4 HCx
 rw[←hm5] at n5 HEd
 have Hm:Hid (m0=n.name∧m1=n.ver.major∧m2=n.ver.minor∧m3=n.ver.patch∧m4=n.ctx.length∧m5=n.edges.length):=⟨hm0,hm1,hm2,hm3,hm4,hm5⟩
 clear hm0 hm1 hm2 hm3 hm4 hm5
 go_enter Tryz.func55,Tryz.ntmps55
 have hne1:gb≠w.heap.size:=by omega
 go_upto_region 2 with (fail)
 obtain ⟨w2,hw2⟩:∃ w2,w2=(w.alloc (.cells #[.slice (some ⟨gb,go,none⟩) gn gc] 24)).alloc (.cells #[.string m0,.int .i64 m1,.int .i64 m2,.int .i64 m3,.slice xA m4 xc,.slice eA m5 ec] 58):=⟨_,rfl⟩
 have hB2:Below w.heap.size w w2:=by rw[hw2];exact bal (bal (bR _ _) _) _
 have hq2:=zGY w (.cells #[.slice (some ⟨gb,go,none⟩) gn gc] 24) (.cells #[.string m0,.int .i64 m1,.int .i64 m2,.int .i64 m3,.slice xA m4 xc,.slice eA m5 ec] 58)
 rw[←hw2] at hq2 ⊢
 obtain ⟨NB,hNB⟩:∃ k,k=w.heap.size+1:=⟨_,rfl⟩
 obtain ⟨GB,hGB⟩:∃ k,k=w.heap.size:=⟨_,rfl⟩
 rw[←hNB] at hq2 ⊢
 rw[←hGB] at hq2 ⊢
 have HB2:=cH hB2
 have HQ2:=cH hq2
 have hHP:GB<w2.heap.size:=(aS.1 hq2.1).1
 have HNc:Hid (∀ W,Below w2.heap.size w2 W→W.cell? ⟨NB,0,none⟩=some (.string m0)∧W.cell? ⟨NB,1,none⟩=some (.int .i64 m1)∧W.cell? ⟨NB,2,none⟩=some (.int .i64 m2)∧W.cell? ⟨NB,3,none⟩=some (.int .i64 m3)∧W.cell? ⟨NB,4,none⟩=some (.slice xA m4 xc)∧W.cell? ⟨NB,5,none⟩=some (.slice eA m5 ec)):=fun W hW=>by
  have h:=(hW.block _ (aS.1 HQ2.out.2).1).trans HQ2.out.2
  exact ⟨cO _ _ 0 _ _ _ h,cO _ _ 1 _ _ _ h,cO _ _ 2 _ _ _ h,cO _ _ 3 _ _ _ h,cO _ _ 4 _ _ _ h,cO _ _ 5 _ _ _ h⟩
 have HPc:Hid (∀ W,Below w.heap.size w W→W.cell? ⟨pb,po+i * 7,none⟩=some (.string x.name)∧W.cell? ⟨pb,po+i * 7+1,none⟩=some (.int .i64 x.ver.major)∧W.cell? ⟨pb,po+i * 7+2,none⟩=some (.int .i64 x.ver.minor)∧W.cell? ⟨pb,po+i * 7+3,none⟩=some (.int .i64 x.ver.patch)∧W.cell? ⟨pb,po+i * 7+4,none⟩=some (.slice dA x.deps.length dc)∧W.cell? ⟨pb,po+i * 7+5,none⟩=some (.slice fA x.peers.length fc)∧W.cell? ⟨pb,po+i * 7+6,none⟩=some (.slice kA x.opts.length kc)):=fun W hW=>
  ⟨zAA hW k0 hpb,zAA hW k1 hpb,zAA hW k2 hpb,zAA hW k3 hpb,zAA hW k4 hpb,zAA hW k5 hpb,zAA hW k6 hpb⟩
 have HX0:Hid (∀ W,Below w2.heap.size w2 W→W.cell? ⟨GB,0,none⟩=some (.slice (some ⟨gb,go,none⟩) gn gc)):=fun W hW=>zAA hW (cO _ _ 0 _ _ _ HQ2.out.1) (aS.1 HQ2.out.1).1
 have HBw:Hid (∀ W,Below w2.heap.size w2 W→Below w.heap.size w W):=fun W hW=>bot HB2.out hW
 have HSm:Hid (∀ W,Below w2.heap.size w2 W→Calls Tryz.prog 32 #[.agg #[.string x.name,.int .i64 x.ver.major,.int .i64 x.ver.minor,.int .i64 x.ver.patch,.slice dA x.deps.length dc,.slice fA x.peers.length fc,.slice kA x.opts.length kc],.agg #[.string ⟨#[]⟩,.int .i64 0,.int .i64 0,.int .i64 0,.slice none 0 0,.slice none 0 0,.slice none 0 0]] W fun e w'=>e=.returned (.bool (eqB x zAC))∧Below W.heap.size W w'):=fun W hW=>
  zCm x zAC _ _ W _ (fun b=>b<W.heap.size) (HPv.out.keep (HBw.out W hW)) ⟨none,0,0,none,0,0,none,0,0,rfl,by decide,SlV.nil_ _ _ _,SlV.nil_ _ _ _,SlV.nil_ _ _ _⟩
 have HMy:Hid (∀ W,Below w2.heap.size w2 W→Calls Tryz.prog 63 #[.agg #[.string x.name,.int .i64 x.ver.major,.int .i64 x.ver.minor,.int .i64 x.ver.patch,.slice dA x.deps.length dc,.slice fA x.peers.length fc,.slice kA x.opts.length kc]] W fun e w'=>e=.returned (.bool (packB x))∧Below W.heap.size W w'):=fun W hW=>
  zCW x _ W _ (HPv.out.keep (HBw.out W hW))
 have HRi:Hid (∀ W,Below w2.heap.size w2 W→Calls Tryz.prog 95 #[.agg #[.string m0,.int .i64 m1,.int .i64 m2,.int .i64 m3,.slice xA m4 xc,.slice eA m5 ec]] W fun e w'=>e=.returned (.bool (zAJ none (zAG n.ctx)&&zAJ none (zAF n.edges)))∧Below W.heap.size W w'):=fun W hW=>
  zG6 m0 m1 m2 m3 xA m4 xc eA m5 ec n.ctx n.edges W _ (HCx.out.belowSize (HBw.out W hW)) (HEd.out.belowSize (HBw.out W hW))
 clear hw2 hB2 hq2 hNB hGB hne1 n0 n1 n2 n3 n4 n5 k0 k1 k2 k3 k4 k5 k6
 have Hro:Hid (zDU n x=((m0.toList==[])&&((decide (m1=0)&&(decide (m2=0)&&decide (m3=0)))&&(decide (m4=0)&&eqB x zAC)))):=by
  unfold Hid zDU zeroV;rw[←Hm.out.1,←Hm.out.2.1,←Hm.out.2.2.1,←Hm.out.2.2.2.1,←Hm.out.2.2.2.2.1]
 have Hhd:Hid (headP i n x=if i=0 then zDU n x else zC4 n x):=rfl
 have Hpo:Hid (zC4 n x=(packB x&&(decide (x.name=m0)&&(decide (x.ver.major=m1)&&(decide (x.ver.minor=m2)&&decide (x.ver.patch=m3)))))):=by unfold Hid zC4;rw[←Hm.out.1,zEE,←Hm.out.2.1,←Hm.out.2.2.1,←Hm.out.2.2.2.1]
 generalize zC4 n x=pk at *
 generalize zDU n x=ro at *
 generalize headP i n x=hp at *
 generalize eqB x zAC=sm at *
 generalize packB x=mb at *
 generalize (zAJ none (zAG n.ctx)&&zAJ none (zAF n.edges))=rs at *
 generalize x.deps.length=ld at *
 generalize x.peers.length=lp at *
 generalize x.opts.length=lo at *
 generalize x.name=xn at *
 generalize x.ver.major=x1 at *
 generalize x.ver.minor=x2 at *
 generalize x.ver.patch=x3 at *
 obtain ⟨p0,p1,p2,p3,p4,p5,p6⟩:=HPc.out w2 HB2.out
 go_wp2_with fail
 refine (HSm.out w2 (bR _ _)).mono ?_
 rintro e w3 ⟨rfl,B3⟩
 have HB3:=cH B3
 clear B3 p0 p1 p2 p3 p4 p5 p6 HSm
 obtain ⟨p0,p1,p2,p3,p4,p5,p6⟩:=HPc.out w3 (HBw.out w3 HB3.out)
 go_wp2_with fail
 refine (HMy.out w3 HB3.out).mono ?_
 rintro e w4 ⟨rfl,B4⟩
 have HB4:=cH (bot HB3.out B4)
 clear B4 p0 p1 p2 p3 p4 p5 p6 HMy HB3
 obtain ⟨q0,q1,q2,q3,q4,q5⟩:=HNc.out w4 HB4.out
 go_wp2_with fail
 refine (HRi.out w4 HB4.out).mono ?_
 rintro e w5 ⟨rfl,B5⟩
 have HB5:=cH (bot HB4.out B5)
 clear B5 q0 q1 q2 q3 q4 q5 HRi HB4
 obtain ⟨q0,q1,q2,q3,q4,q5⟩:=HNc.out w5 HB5.out
 go_upto_region 5 with (fail)
 go_cut [55] from 33 to 55 (fun bv wx=>bv=.bool (decide (i=0)&&!ro)∧Hid (Below w2.heap.size w2 wx))
 case first=>
  by_cases h0:i=0
  case neg=>
   have hib:((i:Int)==0)=false:=by simp;omega
   go_wp2_with fail
   go_meet
   exact ⟨by rw[decide_eq_false h0];rfl,HB5.out⟩
  have hib:((i:Int)==0)=true:=by simp;omega
  have Hd:Hid (∀ v:Bool,ro=v→Value.bool (!v)=.bool (decide (i=0)&&!ro)):=by rintro v rfl;rw[decide_eq_true h0,Bool.true_and]
  clear h0
  cases hnb:(m0.toList==[]) with
  | false=>
    have hr:ro=false:=by rw[Hro.out,hnb];rfl
    have hd:=cH (Hd.out _ hr)
    clear hr Hro Hd
    go_wp2_with fail
    go_meet
    exact ⟨hd.out,HB5.out⟩
  | true=>
  by_cases e1:m1=0
  case neg=>
   have hb1:(m1==0)=false:=beq_eq_false_iff_ne.2 e1
   have hr:ro=false:=by rw[Hro.out,decide_eq_false e1];simp
   have hd:=cH (Hd.out _ hr)
   clear hr Hro Hd
   go_wp2_with fail
   go_meet
   exact ⟨hd.out,HB5.out⟩
  rw[e1] at q1
  by_cases e2:m2=0
  case neg=>
   have hb2:(m2==0)=false:=beq_eq_false_iff_ne.2 e2
   have hr:ro=false:=by rw[Hro.out,decide_eq_false e2];simp
   have hd:=cH (Hd.out _ hr)
   clear hr Hro Hd
   go_wp2_with fail
   go_meet
   exact ⟨hd.out,HB5.out⟩
  rw[e2] at q2
  by_cases e3:m3=0
  case neg=>
   have hb3:(m3==0)=false:=beq_eq_false_iff_ne.2 e3
   have hr:ro=false:=by rw[Hro.out,decide_eq_false e3];simp
   have hd:=cH (Hd.out _ hr)
   clear hr Hro Hd
   go_wp2_with fail
   go_meet
   exact ⟨hd.out,HB5.out⟩
  rw[e3] at q3
  have Hzv:Hid (∀ v:Bool,(decide (m4=0)&&sm)=v→ro=v):=by
   rintro v rfl;rw[Hro.out,hnb,decide_eq_true e1,decide_eq_true e2,decide_eq_true e3];first|done|rfl
  clear e1 e2 e3
  by_cases hp0:m4=0
  case neg=>
   have hpI:((m4:Int)==0)=false:=beq_eq_false_iff_ne.2 (by omega)
   have hd:=cH (Hd.out _ (Hzv.out _ (by rw[decide_eq_false hp0];first|done|rfl)))
   clear Hro Hd Hzv
   go_wp2_with fail
   go_meet
   exact ⟨hd.out,HB5.out⟩
  have hd:=cH (Hd.out _ (Hzv.out _ (show (decide (m4=0)&&sm)=sm by rw[decide_eq_true hp0];first|done|rfl)))
  rw[hp0] at q4
  clear Hro Hd Hzv hp0
  go_wp2_with fail
  go_meet
  exact ⟨hd.out,HB5.out⟩
 case rest=>
 obtain ⟨hbv,HB6⟩:=hcut
 generalize wc=w6 at *
 clear q0 q1 q2 q3 q4 q5 HB5
 obtain ⟨q0,q1,q2,q3,q4,q5⟩:=HNc.out w6 HB6.out
 cases hb27:(decide (i=0)&&!ro) with
 | true=>
   have hr:R=false:=by
    have hb:=hb27
    rw[Bool.and_eq_true,decide_eq_true_eq,Bool.not_eq_true'] at hb
    rw[HR.out,Hhd.out,if_pos hb.1,hb.2];rfl
   have Hr:=cH hr
   rw[hb27] at hbv
   subst hbv
   clear hr hb27
   go_wp2_with fail
   go_ret
   exact ⟨zAc Hr.out.symm,HBw.out _ HB6.out⟩
 | false=>
 have Hh0:Hid (i=0→hp=true):=fun h=>by
  rw[h] at hb27
  rw[Hhd.out,if_pos h]
  cases ro with
  | true=>rfl
  | false=>exact absurd hb27 (by decide)
 have Hh1:Hid (i≠0→hp=pk):=fun h=>by rw[Hhd.out,if_neg h]
 rw[hb27] at hbv
 subst hbv
 clear hb27 Hro Hhd
 obtain ⟨p0,p1,p2,p3,p4,p5,p6⟩:=HPc.out w6 (HBw.out w6 HB6.out)
 go_upto_region 7 with (fail)
 go_cut [81] from 56 to 81 (fun bv wx=>bv=.bool (!hp)∧Hid (Below w2.heap.size w2 wx))
 case first=>
  by_cases h0:i=0
  case pos=>
   have hgt:¬(0:Int)<(i:Int):=by omega
   have hgd:decide (0<i)=false:=decide_eq_false (by omega)
   have hh:=cH (Hh0.out h0)
   clear h0 Hh0 Hh1
   have r_q0:=cR q0
   have r_q1:=cR q1
   have r_q2:=cR q2
   have r_q3:=cR q3
   have r_p0:=cR p0
   have r_p1:=cR p1
   have r_p2:=cR p2
   have r_p3:=cR p3
   go_wp2_with fail
   refine wQ ?_
   repeat (go_big_quiet_step (first|fail))
   refine wpQuiet_nil fun w7 B7=>?_
   have HB7:=cH (bot HB6.out B7)
   go_wp2_with fail
   go_meet
   exact ⟨by rw[hh.out];rfl,HB7.out⟩
  have hgt:(0:Int)<(i:Int):=by omega
  have hgd:decide (0<i)=true:=decide_eq_true (by omega)
  have hh:=cH (Hh1.out h0)
  clear h0 Hh0 Hh1
  cases mb with
  | false=>
    have hf:Hid (hp=false):=by unfold Hid;rw[hh.out,Hpo.out];rfl
    clear hh Hpo
    have r_q0:=cR q0
    have r_q1:=cR q1
    have r_q2:=cR q2
    have r_q3:=cR q3
    have r_p0:=cR p0
    have r_p1:=cR p1
    have r_p2:=cR p2
    have r_p3:=cR p3
    go_wp2_with fail
    refine wQ ?_
    repeat (go_big_quiet_step (first|fail))
    refine wpQuiet_nil fun w7 B7=>?_
    have HB7:=cH (bot HB6.out B7)
    go_wp2_with fail
    go_meet
    exact ⟨by rw[hf.out];rfl,HB7.out⟩
  | true=>
  by_cases hnn:xn=m0
  case neg=>
   have hnb:=zAL hnn
   have hf:Hid (hp=false):=by unfold Hid;rw[hh.out,Hpo.out,decide_eq_false hnn];rfl
   clear hh Hpo hnn
   have r_q0:=cR q0
   have r_q1:=cR q1
   have r_q2:=cR q2
   have r_q3:=cR q3
   have r_p0:=cR p0
   have r_p1:=cR p1
   have r_p2:=cR p2
   have r_p3:=cR p3
   go_wp2_with fail
   refine wQ ?_
   repeat (go_big_quiet_step (first|fail))
   refine wpQuiet_nil fun w7 B7=>?_
   have HB7:=cH (bot HB6.out B7)
   go_wp2_with fail
   go_meet
   exact ⟨by rw[hf.out];rfl,HB7.out⟩
  have hnb:=zAT hnn
  by_cases e1:x1=m1
  case neg=>
   have hb1:(x1==m1)=false:=beq_eq_false_iff_ne.2 e1
   have hf:Hid (hp=false):=by unfold Hid;rw[hh.out,Hpo.out,decide_eq_false e1];simp
   clear hh Hpo
   have r_q0:=cR q0
   have r_q1:=cR q1
   have r_q2:=cR q2
   have r_q3:=cR q3
   have r_p0:=cR p0
   have r_p1:=cR p1
   have r_p2:=cR p2
   have r_p3:=cR p3
   go_wp2_with fail
   refine wQ ?_
   repeat (go_big_quiet_step (first|fail))
   refine wpQuiet_nil fun w7 B7=>?_
   have HB7:=cH (bot HB6.out B7)
   go_wp2_with fail
   go_meet
   exact ⟨by rw[hf.out];rfl,HB7.out⟩
  subst e1
  by_cases e2:x2=m2
  case neg=>
   have hb2:(x2==m2)=false:=beq_eq_false_iff_ne.2 e2
   have hf:Hid (hp=false):=by unfold Hid;rw[hh.out,Hpo.out,decide_eq_false e2];simp
   clear hh Hpo
   have r_q0:=cR q0
   have r_q1:=cR q1
   have r_q2:=cR q2
   have r_q3:=cR q3
   have r_p0:=cR p0
   have r_p1:=cR p1
   have r_p2:=cR p2
   have r_p3:=cR p3
   go_wp2_with fail
   refine wQ ?_
   repeat (go_big_quiet_step (first|fail))
   refine wpQuiet_nil fun w7 B7=>?_
   have HB7:=cH (bot HB6.out B7)
   go_wp2_with fail
   go_meet
   exact ⟨by rw[hf.out];rfl,HB7.out⟩
  subst e2
  by_cases e3:x3=m3
  case neg=>
   have hb3:(x3==m3)=false:=beq_eq_false_iff_ne.2 e3
   have hf:Hid (hp=false):=by unfold Hid;rw[hh.out,Hpo.out,decide_eq_false e3];simp
   clear hh Hpo
   have r_q0:=cR q0
   have r_q1:=cR q1
   have r_q2:=cR q2
   have r_q3:=cR q3
   have r_p0:=cR p0
   have r_p1:=cR p1
   have r_p2:=cR p2
   have r_p3:=cR p3
   go_wp2_with fail
   refine wQ ?_
   repeat (go_big_quiet_step (first|fail))
   refine wpQuiet_nil fun w7 B7=>?_
   have HB7:=cH (bot HB6.out B7)
   go_wp2_with fail
   go_meet
   exact ⟨by rw[hf.out];rfl,HB7.out⟩
  subst e3
  have hf:Hid (hp=true):=by unfold Hid;rw[hh.out,Hpo.out];simp[hnn]
  clear hh Hpo
  have r_q0:=cR q0
  have r_q1:=cR q1
  have r_q2:=cR q2
  have r_q3:=cR q3
  have r_p0:=cR p0
  have r_p1:=cR p1
  have r_p2:=cR p2
  have r_p3:=cR p3
  go_wp2_with fail
  refine wQ ?_
  repeat (go_big_quiet_step (first|fail))
  refine wpQuiet_nil fun w7 B7=>?_
  have HB7:=cH (bot HB6.out B7)
  go_wp2_with fail
  go_meet
  exact ⟨by rw[hf.out];rfl,HB7.out⟩
 case rest=>
 obtain ⟨hbv,HB7⟩:=hcut
 generalize wc=w7 at *
 clear q0 q1 q2 q3 q4 q5 p0 p1 p2 p3 p4 p5 p6 HB6 Hh0 Hh1 Hpo
 obtain ⟨q0,q1,q2,q3,q4,q5⟩:=HNc.out w7 HB7.out
 cases hhp:hp with
 | false=>
   have Hr:Hid (R=false):=by unfold Hid;rw[HR.out,hhp];rfl
   rw[hhp] at hbv
   subst hbv
   clear hhp HR
   go_wp2_with fail
   go_ret
   exact ⟨zAc Hr.out.symm,HBw.out _ HB7.out⟩
 | true=>
 rw[hhp] at hbv
 simp only[Bool.not_true] at hbv
 subst hbv
 have HR1:Hid (R=(rs&&(n.edges.all (edgeP g)&&n.ctx.all (pinP g n.edges)))):=by
  unfold Hid;rw[HR.out,hhp,Bool.true_and]
 clear HR hhp
 cases rs with
 | false=>
   have Hr:Hid (R=false):=HR1.out
   clear HR1
   go_wp2_with fail
   go_ret
   exact ⟨zAc Hr.out.symm,HBw.out _ HB7.out⟩
 | true=>
 have HR2:Hid (R=((n.edges.drop 0).all (edgeP g)&&n.ctx.all (pinP g n.edges))):=by
  unfold Hid;rw[HR1.out];rfl
 clear HR1
 have hm45:m4≤9223372036854775807∧m5≤9223372036854775807:=⟨zAi HCx.out,zAi HEd.out⟩
 obtain ⟨hm4z,hm5z⟩:=hm45
 clear q0 q1 q2 q3 q4 q5
 go_wp2_with fail
 go_loopw [11] (fun t wr=>∃ k:Nat,k≤m5∧t=.int .i64 k∧Hid (R=((n.edges.drop k).all (edgeP g)&&n.ctx.all (pinP g n.edges)))∧Hid (Below w2.heap.size w2 wr)∧Hid (∀ (j:Nat) (e:Edge),j<k→n.edges[j]?=some e→edgeP g e=true)) (fun t _=>m5 - (intOf t).toNat)
 case atStart=>exact ⟨0,nZ _,rfl,HR2,HB7,fun j e h=>absurd h (Nat.not_lt_zero j)⟩
 case round=>
  clear HR2
  obtain ⟨k,hk,rfl,heq,hbel,hall⟩:=hrel
  have hk0:(0:Int)≤(k:Int):=by omega
  obtain ⟨q0,q1,q2,q3,q4,q5⟩:=HNc.out wr hbel.out
  by_cases hlt:k<m5
  case pos=>
   have hkn:(k:Int)<(m5:Int):=by omega
   obtain ⟨e,he⟩:∃ e,n.edges[k]?=some e:=⟨_,gE (by have:=Hm.out.2.2.2.2.2;omega)⟩
   obtain ⟨eb,eo,cs,hA,_,hb1,hh,hcell⟩:=(HEd.out.belowSize (HBw.out wr hbel.out)).elem he
   rw[hA] at q5
   clear hA
   obtain ⟨rfl,hlz,hti⟩:=hh
   have d0:=hcell 0 _ rfl
   have d1:=hcell 1 _ rfl
   simp only[rEdge,Nat.add_zero] at d0 d1
   have Hst:=cH (heq.out.trans (congrArg (·&&n.ctx.all (pinP g n.edges)) (zDs (edgeP g) he)))
   have Hal:Hid (edgeP g e=true→∀ (j:Nat) (e':Edge),j<k+1→n.edges[j]?=some e'→edgeP g e'=true):=fun h j e' hj he'=>by
    by_cases hjk:j=k
    ·subst hjk;rw[he] at he';cases he';exact h
    ·exact hall.out j e' (by omega) he'
   clear hcell hlz heq he hall
   obtain ⟨lb,tt⟩:=e
   simp only at d0 d1 hti
   have x0:=HX0.out wr hbel.out
   have HBo:Hid (∀ W,Below wr.heap.size wr W→Below w2.heap.size w2 W):=fun W hW=>bot hbel.out hW
   go_upto_region 15 with (fail)
   by_cases h1:1≤tt
   case neg=>
    have hI1:tt<1:=by omega
    have hD1:decide (tt<1)=true:=decide_eq_true hI1
    have Hr:Hid (R=false):=by unfold Hid;rw[Hst.out,zG3 h1];rfl
    clear Hst Hal h1
    have r_q5:=cR q5
    have r_d0:=cR d0
    have r_d1:=cR d1
    have r_x0:=cR x0
    go_wp2_with fail
    refine wQ ?_
    repeat (go_big_quiet_step (first|fail))
    refine wpQuiet_nil fun w5 B5=>?_
    have HB5':=cH (HBw.out _ (HBo.out _ B5))
    go_wp2_with fail
    go_ret
    exact ⟨zAc Hr.out.symm,HB5'.out⟩
   have hI1:¬tt<1:=by omega
   have hD1:decide (tt<1)=false:=decide_eq_false hI1
   by_cases h2:tt<(gn:Int)
   case neg=>
    have hI2:(gn:Int)≤tt:=by omega
    have hD2:decide ((gn:Int)≤tt)=true:=decide_eq_true hI2
    have Hr:Hid (R=false):=by unfold Hid;rw[Hst.out,zGA (by rw[←Hgl.out];exact h2)];rfl
    clear Hst Hal h1 h2
    have r_q5:=cR q5
    have r_d0:=cR d0
    have r_d1:=cR d1
    have r_x0:=cR x0
    go_wp2_with fail
    refine wQ ?_
    repeat (go_big_quiet_step (first|fail))
    refine wpQuiet_nil fun w5 B5=>?_
    have HB5':=cH (HBw.out _ (HBo.out _ B5))
    go_wp2_with fail
    go_ret
    exact ⟨zAc Hr.out.symm,HB5'.out⟩
   have hI2:¬(gn:Int)≤tt:=by omega
   have hD2:decide ((gn:Int)≤tt)=false:=decide_eq_false hI2
   obtain ⟨tn,rfl⟩:∃ tn:Nat,tt=(tn:Int):=⟨tt.toNat,by omega⟩
   obtain ⟨y,hy⟩:∃ y,g[tn]?=some y:=⟨_,gE (by have:=Hgl.out;omega)⟩
   obtain ⟨htn,y0,_⟩:=HNd.out wr tn y (HBw.out wr hbel.out) hy
   have hep:=zI6 (lb:=lb) hy
   rw[decide_eq_true h1,Bool.true_and] at hep
   have Hep:=cH hep
   have ht0:(0:Int)≤(tn:Int):=by omega
   have hD3:decide (gn≤tn)=false:=decide_eq_false (by omega)
   have hN3:¬gn≤tn:=by omega
   clear hy hep h1
   generalize y.name=yn at *
   by_cases hs:yn=lb
   case neg=>
    have hb2:=zAL hs
    have Hr:Hid (R=false):=by unfold Hid;rw[Hst.out,Hep.out,decide_eq_false hs];rfl
    clear Hst Hal hs Hep
    have r_q5:=cR q5
    have r_d0:=cR d0
    have r_d1:=cR d1
    have r_x0:=cR x0
    have r_y0:=cR y0
    go_wp2_with fail
    refine wQ ?_
    repeat (go_big_quiet_step (first|fail))
    refine wpQuiet_nil fun w5 B5=>?_
    have HB5':=cH (HBw.out _ (HBo.out _ B5))
    go_wp2_with fail
    go_ret
    exact ⟨zAc Hr.out.symm,HB5'.out⟩
   have hb2:=zAT hs
   have hed:edgeP g ⟨lb,(tn:Int)⟩=true:=by rw[Hep.out,decide_eq_true hs]
   have Hr:Hid (R=((n.edges.drop (k+1)).all (edgeP g)&&n.ctx.all (pinP g n.edges))):=by unfold Hid;rw[Hst.out,hed,Bool.true_and]
   have Hal2:=cH (Hal.out hed)
   clear Hst Hal hs Hep hed
   have r_q5:=cR q5
   have r_d0:=cR d0
   have r_d1:=cR d1
   have r_x0:=cR x0
   have r_y0:=cR y0
   go_wp2_with fail
   refine wQ ?_
   repeat (go_big_quiet_step (first|fail))
   refine wpQuiet_nil fun w5 B5=>?_
   have HB5':=cH (HBo.out _ B5)
   go_wp2_with fail
   go_roundw
   case rel=>exact ⟨k+1,by omega,by go_num,Hr,HB5'.out,Hal2⟩
   case measure=>simp[intOf];omega
  case neg=>
   have HR3:Hid (R=(n.ctx.drop 0).all (pinP g n.edges)):=by
    unfold Hid;rw[heq.out,dN (by have:=Hm.out.2.2.2.2.2;omega)];rfl
   have hI:¬(k:Int)<(m5:Int):=by omega
   have HAll:Hid (∀ (j:Nat) (e:Edge),n.edges[j]?=some e→∃ (tn:Nat) (y:Node),e.to=(tn:Int)∧g[tn]?=some y):=fun j e he=>zI8 (hall.out j e (by have:=(gS.1 he).1;have:=Hm.out.2.2.2.2.2;omega) he)
   clear heq hall
   generalize wr=wa at *
   go_wp2_with fail
   go_loopw [13] (fun t wr=>∃ k:Nat,k≤m4∧t=.int .i64 k∧Hid (R=(n.ctx.drop k).all (pinP g n.edges))∧Hid (Below w2.heap.size w2 wr)) (fun t _=>m4 - (intOf t).toNat)
   case atStart=>exact ⟨0,nZ _,rfl,HR3,hbel⟩
   case round=>
    clear HR3 q0 q1 q2 q3 q4 q5 hbel hI hk0 hlt hk
    obtain ⟨k,hk,rfl,heq,hbel⟩:=hrel
    obtain ⟨q0,q1,q2,q3,q4,q5⟩:=HNc.out wr hbel.out
    have hk0:(0:Int)≤(k:Int):=by omega
    by_cases hlt:k<m4
    case neg=>
     have He:Hid (R=true):=by unfold Hid;rw[heq.out,dN (by have:=Hm.out.2.2.2.2.1;omega)];rfl
     have hI:¬(k:Int)<(m4:Int):=by omega
     have HBe:=cH (HBw.out _ hbel.out)
     clear heq
     go_wp2_with fail
     go_ret
     exact ⟨zAc He.out.symm,HBe.out⟩
    have hkn:(k:Int)<(m4:Int):=by omega
    obtain ⟨p,hp⟩:∃ p,n.ctx[k]?=some p:=⟨_,gE (by have:=Hm.out.2.2.2.2.1;omega)⟩
    obtain ⟨xb,xo,cs,hA,_,hb1,hh,hcell⟩:=(HCx.out.belowSize (HBw.out wr hbel.out)).elem hp
    have HA:=cH hA
    rw[hA] at q4
    clear hA
    obtain ⟨rfl,hpz,hp1,hp2,hp3⟩:=hh
    have d0:=hcell 0 _ rfl
    have d1:=hcell 1 _ rfl
    have d2:=hcell 2 _ rfl
    have d3:=hcell 3 _ rfl
    simp only[rPin,Nat.add_zero] at d0 d1 d2 d3
    have Hst:=cH (heq.out.trans (zDs (pinP g n.edges) hp))
    have Hev:Hid (∀ v:Ver,eqB v p.ver=(decide (v.major=p.ver.major)&&(decide (v.minor=p.ver.minor)&&decide (v.patch=p.ver.patch)))):=fun v=>zEE v p.ver
    have HpN:Hid (zAo n.edges p.name=none→pinP g n.edges p=false):=zGp
    have HpS:Hid (∀ (j tn:Nat) (e:Edge) (y:Node),zAo n.edges p.name=some j→n.edges[j]?=some e→e.to=(tn:Int)→g[tn]?=some y→pinP g n.edges p=eqB y.ver p.ver):=fun j tn e y h1 h2 h3 h4=>zGl h1 h2 h3 h4
    have Hei:Hid (∀ r,zAo n.edges p.name=r→edgeI n.edges p.name=match r with|none=>-1|some k=>(k:Int)):=by rintro r rfl;rfl
    have HIx:Hid (∀ W,Below w2.heap.size w2 W→Calls Tryz.prog 96 #[.agg #[.string m0,.int .i64 m1,.int .i64 m2,.int .i64 m3,.slice (some ⟨xb,xo,none⟩) m4 xc,.slice eA m5 ec],.string p.name] W fun e w'=>e=.returned (.int .i64 (edgeI n.edges p.name))∧Below W.heap.size W w'):=fun W hW=>
     zHk m0 m1 m2 m3 _ m4 xc eA m5 ec n.edges p.name W _ (HEd.out.belowSize (HBw.out W hW))
    have HIq:=cH (qcall (w:=wr) (fun W hW=>HIx.out W (bot hbel.out hW)))
    clear hcell heq hp HIx
    generalize edgeI n.edges p.name=ei at *
    go_upto_region 20 with (fail)
    have r_q0:=cR q0
    have r_q1:=cR q1
    have r_q2:=cR q2
    have r_q3:=cR q3
    have r_q4:=cR q4
    have r_q5:=cR q5
    have r_d0:=cR d0
    go_wp2_with fail
    refine wQ ?_
    repeat (go_big_quiet_step (first|(with_reducible exact HIq.out _ _)))
    refine wpQuiet_nil fun w5 B5=>?_
    have HB5':=cH (bot hbel.out B5)
    have hxb5:xb<wr.heap.size:=hb1
    have HD:Hid (∀ W,Below wr.heap.size wr W→W.cell? ⟨xb,xo+k * 4+1,none⟩=some (.int .i64 p.ver.major)∧W.cell? ⟨xb,xo+k * 4+2,none⟩=some (.int .i64 p.ver.minor)∧W.cell? ⟨xb,xo+k * 4+3,none⟩=some (.int .i64 p.ver.patch)):=fun W hW=>⟨zAA hW d1 hxb5,zAA hW d2 hxb5,zAA hW d3 hxb5⟩
    obtain ⟨e1,e2,e3⟩:=HD.out w5 B5
    clear r_q0 r_q1 r_q2 r_q3 r_q4 r_q5 r_d0 q0 q1 q2 q3 q4 q5 d0 d1 d2 d3 B5 HIq HD
    obtain ⟨q0,q1,q2,q3,q4,q5⟩:=HNc.out w5 HB5'.out
    rw[HA.out] at q4
    have x0:=HX0.out w5 HB5'.out
    have HBf:Hid (∀ W,Below w5.heap.size w5 W→Below w2.heap.size w2 W):=fun W hW=>bot HB5'.out hW
    go_upto_region 21 with (fail)
    cases hix:zAo n.edges p.name with
    | none=>
      have he:ei=-1:=Hei.out _ hix
      have Hr:Hid (R=false):=by unfold Hid;rw[Hst.out,HpN.out hix];rfl
      subst he
      clear Hst HpN HpS hix Hei
      have r_e1:=cR e1
      have r_e2:=cR e2
      have r_e3:=cR e3
      have r_x0:=cR x0
      have r_q4:=cR q4
      have r_q5:=cR q5
      go_wp2_with fail
      refine wQ ?_
      repeat (go_big_quiet_step (first|fail))
      refine wpQuiet_nil fun w6 B6=>?_
      have HB6':=cH (HBw.out _ (HBf.out _ B6))
      go_wp2_with fail
      go_ret
      exact ⟨zAc Hr.out.symm,HB6'.out⟩
    | some j=>
    have he:ei=(j:Int):=Hei.out _ hix
    obtain ⟨e,hej,_⟩:=zDa hix
    obtain ⟨tn,y,htn,hy⟩:=HAll.out j e hej
    obtain ⟨eb,eo,cs,hA,_,hb1,hh,hcell⟩:=(HEd.out.belowSize (HBw.out _ HB5'.out)).elem hej
    rw[hA] at q5
    clear hA
    obtain ⟨rfl,hlz,hti⟩:=hh
    have c1:=hcell 1 _ rfl
    simp only[rEdge] at c1
    rw[htn] at c1
    obtain ⟨htg,_,y1,y2,y3⟩:=HNd.out w5 tn y (HBw.out _ HB5'.out) hy
    have Hst2:=cH (Hst.out.trans (congrArg (·&&(n.ctx.drop (k+1)).all (pinP g n.edges)) (HpS.out j tn e y hix hej htn hy)))
    have hjm:j<m5:=by have:=(gS.1 hej).1;have:=Hm.out.2.2.2.2.2;omega
    subst he
    clear Hst HpN HpS hix Hei hej htn hy hcell hlz hti
    have hj0:(0:Int)≤(j:Int):=by omega
    have hjI:(j:Int)<(m5:Int):=by omega
    have hjn:¬(j:Int)<0:=by omega
    have hjd:decide ((j:Int)<0)=false:=decide_eq_false hjn
    have ht0:(0:Int)≤(tn:Int):=by omega
    have htI:(tn:Int)<(gn:Int):=by omega
    rw[Hev.out] at Hst2
    clear Hev
    generalize y.ver.major=u1 at *
    generalize y.ver.minor=u2 at *
    generalize y.ver.patch=u3 at *
    generalize p.ver.major=v1 at *
    generalize p.ver.minor=v2 at *
    generalize p.ver.patch=v3 at *
    by_cases e1':u1=v1
    case neg=>
     have hb1:(u1==v1)=false:=beq_eq_false_iff_ne.2 e1'
     have Hr:Hid (R=false):=by unfold Hid;rw[Hst2.out,decide_eq_false e1'];simp
     clear Hst2
     have r_e1:=cR e1
     have r_e2:=cR e2
     have r_e3:=cR e3
     have r_x0:=cR x0
     have r_q4:=cR q4
     have r_q5:=cR q5
     have r_c1:=cR c1
     have r_y1:=cR y1
     have r_y2:=cR y2
     have r_y3:=cR y3
     go_wp2_with fail
     refine wQ ?_
     repeat (go_big_quiet_step (first|fail))
     refine wpQuiet_nil fun w6 B6=>?_
     have HB6':=cH (HBw.out _ (HBf.out _ B6))
     go_wp2_with fail
     go_ret
     exact ⟨zAc Hr.out.symm,HB6'.out⟩
    subst e1'
    by_cases e2':u2=v2
    case neg=>
     have hb2:(u2==v2)=false:=beq_eq_false_iff_ne.2 e2'
     have Hr:Hid (R=false):=by unfold Hid;rw[Hst2.out,decide_eq_false e2'];simp
     clear Hst2
     have r_e1:=cR e1
     have r_e2:=cR e2
     have r_e3:=cR e3
     have r_x0:=cR x0
     have r_q4:=cR q4
     have r_q5:=cR q5
     have r_c1:=cR c1
     have r_y1:=cR y1
     have r_y2:=cR y2
     have r_y3:=cR y3
     go_wp2_with fail
     refine wQ ?_
     repeat (go_big_quiet_step (first|fail))
     refine wpQuiet_nil fun w6 B6=>?_
     have HB6':=cH (HBw.out _ (HBf.out _ B6))
     go_wp2_with fail
     go_ret
     exact ⟨zAc Hr.out.symm,HB6'.out⟩
    subst e2'
    by_cases e3':u3=v3
    case neg=>
     have hb3:(u3==v3)=false:=beq_eq_false_iff_ne.2 e3'
     have Hr:Hid (R=false):=by unfold Hid;rw[Hst2.out,decide_eq_false e3'];simp
     clear Hst2
     have r_e1:=cR e1
     have r_e2:=cR e2
     have r_e3:=cR e3
     have r_x0:=cR x0
     have r_q4:=cR q4
     have r_q5:=cR q5
     have r_c1:=cR c1
     have r_y1:=cR y1
     have r_y2:=cR y2
     have r_y3:=cR y3
     go_wp2_with fail
     refine wQ ?_
     repeat (go_big_quiet_step (first|fail))
     refine wpQuiet_nil fun w6 B6=>?_
     have HB6':=cH (HBw.out _ (HBf.out _ B6))
     go_wp2_with fail
     go_ret
     exact ⟨zAc Hr.out.symm,HB6'.out⟩
    subst e3'
    have Hr:Hid (R=(n.ctx.drop (k+1)).all (pinP g n.edges)):=by
     unfold Hid;rw[Hst2.out];simp
    clear Hst2
    have r_e1:=cR e1
    have r_e2:=cR e2
    have r_e3:=cR e3
    have r_x0:=cR x0
    have r_q4:=cR q4
    have r_q5:=cR q5
    have r_c1:=cR c1
    have r_y1:=cR y1
    have r_y2:=cR y2
    have r_y3:=cR y3
    go_wp2_with fail
    refine wQ ?_
    repeat (go_big_quiet_step (first|fail))
    refine wpQuiet_nil fun w6 B6=>?_
    have HB6':=cH (HBf.out _ B6)
    go_wp2_with fail
    go_roundw
    case rel=>exact ⟨k+1,by omega,by go_num,Hr,HB6'⟩
    case measure=>simp[intOf];omega
theorem zHd (gA:Option Addr) (gn gc:Nat) (pA:Option Addr) (pn pc:Nat) (g:List Node) (ps:List Pack) (w:World) (S:Nat→Prop) (hg:SlV rNode w S g (.slice gA gn gc)) (hp:SlV rPack w S ps (.slice pA pn pc)) :
  Calls Tryz.prog 28 #[.agg #[.slice gA gn gc],.slice pA pn pc] w fun e w'=>e=.returned (.bool (mayPl g ps))∧Below w.heap.size w w':=by
 have hgl:=hg.n_eq
 have hpl:=hp.n_eq
 have hgcap:=zAi hg
 have hpcap:=zAi hp
 have HF:Hid (∀ W (i:Nat),Below w.heap.size w W→i<gn→pn=gn→∃ (n:Node) (x:Pack),g[i]?=some n∧ps[i]?=some x∧Calls Tryz.prog 55 #[.agg #[.slice gA gn gc],.slice pA pn pc,.int .i64 (i:Int)] W fun e w'=>e=.returned (.bool (formP g i n x))∧Below W.heap.size W w'):=fun W i hW hi hp'=>by
  have h1:i<g.length:=by omega
  have h2:i<ps.length:=by omega
  exact ⟨_,_,gE h1,gE h2,zIc gA gn gc pA pn pc g ps W _ (hg.belowSize hW) (hp.belowSize hW) i (gE h1) (gE h2)⟩
 have HR:Hid (mayPl g ps=(decide (1≤gn)&&(decide (gn≤128)&&(decide (pn=gn)&&zBl g 0 (g.drop 0) (ps.drop 0))))):=by
  unfold Hid mayPl;rw[hgl,hpl];rfl
 have Hgl:=cH hgl
 have Hpl:=cH hpl
 clear hg hp hgl hpl
 generalize mayPl g ps=R at *
 go_enter Tryz.func28,Tryz.ntmps28
 go_upto_region 1 with (fail)
 obtain ⟨w1,hw1⟩:∃ w1,w1=w.alloc (.cells #[.slice gA gn gc] 24):=⟨_,rfl⟩
 have hq1:w1.heap[w.heap.size]?=some (.cells #[.slice gA gn gc] 24 (0,0)):=by rw[hw1];exact zAD _ _
 have hB1:Below w.heap.size w w1:=by rw[hw1];exact bal (bR _ _) _
 rw[←hw1]
 obtain ⟨GB,hGB⟩:∃ k,k=w.heap.size:=⟨_,rfl⟩
 rw[←hGB] at hq1 ⊢
 have HB1:=cH hB1
 have HX:Hid (∀ W,Below w1.heap.size w1 W→W.cell? ⟨GB,0,none⟩=some (.slice gA gn gc)):=fun W hW=>zAA hW (cO _ _ 0 _ _ _ hq1) (aS.1 hq1).1
 have x0:=HX.out w1 (bR _ _)
 clear hw1 hGB hq1 hB1
 by_cases h1:1≤gn
 case neg=>
  have hI:(gn:Int)<1:=by omega
  have Hr:Hid (R=false):=by unfold Hid;rw[HR.out,decide_eq_false h1];rfl
  clear HR h1
  go_wp2_with fail
  go_ret
  exact ⟨zAc Hr.out.symm,HB1.out⟩
 have hI:¬(gn:Int)<1:=by omega
 by_cases h2:gn≤128
 case neg=>
  have hI2:(128:Int)<(gn:Int):=by omega
  have hD2:decide (128<gn)=true:=decide_eq_true (by omega)
  have Hr:Hid (R=false):=by unfold Hid;rw[HR.out,decide_eq_true h1,decide_eq_false h2];rfl
  clear HR h1 h2
  go_wp2_with fail
  go_ret
  exact ⟨zAc Hr.out.symm,HB1.out⟩
 have hI2:¬(128:Int)<(gn:Int):=by omega
 have hD2:decide (128<gn)=false:=decide_eq_false (by omega)
 by_cases h3:pn=gn
 case neg=>
  have hI3:((pn:Int) != (gn:Int))=true:=by show (!((pn:Int)==(gn:Int)))=true;rw[beq_eq_false_iff_ne.2 (by omega)];rfl
  have hI4:((pn:Int)==(gn:Int))=false:=beq_eq_false_iff_ne.2 (by omega)
  have Hr:Hid (R=false):=by unfold Hid;rw[HR.out,decide_eq_true h1,decide_eq_true h2,decide_eq_false h3];rfl
  clear HR h1 h2 h3
  go_wp2_with fail
  go_ret
  exact ⟨zAc Hr.out.symm,HB1.out⟩
 have HR2:Hid (R=zBl g 0 (g.drop 0) (ps.drop 0)):=by
  unfold Hid;rw[HR.out,decide_eq_true h1,decide_eq_true h2,decide_eq_true h3,Bool.true_and,Bool.true_and,Bool.true_and]
 subst h3
 clear HR h1
 have hI3:((pn:Int)==(pn:Int))=true:=beq_self_eq_true _
 go_wp2_with fail
 go_loopw [5] (fun t wr=>∃ k:Nat,k≤pn∧t=.int .i64 k∧Hid (R=zBl g k (g.drop k) (ps.drop k))∧Hid (Below w1.heap.size w1 wr)) (fun t _=>pn - (intOf t).toNat)
 case atStart=>exact ⟨0,nZ _,rfl,HR2,bR _ _⟩
 case round=>
  clear HR2 x0
  obtain ⟨k,hk,rfl,heq,hbel⟩:=hrel
  have x0:=HX.out wr hbel.out
  have HBr:=cH (bot HB1.out hbel.out)
  have hk0:(0:Int)≤(k:Int):=by omega
  by_cases hlt:k<pn
  case neg=>
   have He:Hid (R=true):=by unfold Hid;rw[heq.out,zEy _ (by have:=Hgl.out;omega) (by have:=Hpl.out;omega)]
   have hI:¬(k:Int)<(pn:Int):=by omega
   clear heq
   go_wp2_with fail
   go_ret
   exact ⟨zAc He.out.symm,HBr.out⟩
  have hkn:(k:Int)<(pn:Int):=by omega
  obtain ⟨n,x,hn,hx,hcall⟩:=HF.out wr k HBr.out hlt (by trivial)
  have Hst:=cH (heq.out.trans (zEl _ hn hx))
  have Hcall:=cH hcall
  clear heq hn hx hcall
  generalize formP g k n x=v at *
  cases v with
  | false=>
    have He:Hid (R=false):=Hst.out
    clear Hst
    go_wp2_with fail
    refine Hcall.out.mono ?_
    rintro e w3 ⟨rfl,B3⟩
    go_wp2_with fail
    go_ret
    exact ⟨zAc He.out.symm,bot HBr.out B3⟩
  | true=>
    have He:Hid (R=zBl g (k+1) (g.drop (k+1)) (ps.drop (k+1))):=by unfold Hid;rw[Hst.out,Bool.true_and]
    clear Hst
    go_wp2_with fail
    refine Hcall.out.mono ?_
    rintro e w3 ⟨rfl,B3⟩
    have HB3:=cH (bot hbel.out B3)
    go_wp2_with fail
    go_roundw
    case rel=>exact ⟨k+1,by omega,by go_num,He,HB3⟩
    case measure=>simp[intOf];omega
