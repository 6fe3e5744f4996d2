/- The program's placer: can a node and its package be placed: walked. -/
import Derived.Test.YtminjjdnmpaaoaaGreatDoorBd14
import Derived.Test.YtminjjdnmpaaoaaGreatDoorBd08
import Derived.Deep.CutRange
import Derived.Deep.RegionLaw
import Derived.Deep.RegionHeld3
import Derived.Test.YtminjjdnmpaaoaaGreatDoorAl
set_option linter.all false
set_option maxHeartbeats 6400000
set_option maxRecDepth 100000
namespace Go.Proofs.YtminjjdnmpaaoaaGreatDoor
open Go.Rows Go.RowKit Go.Shelf Go.Sort
theorem zGQ (a b:Ver):eqB a b=(decide (a.major=b.major)&&(decide (a.minor=b.minor)&&decide (a.patch=b.patch))):=by
 obtain ⟨a1,a2,a3⟩:=a
 obtain ⟨b1,b2,b3⟩:=b
 by_cases h:a1=b1∧a2=b2∧a3=b3
 ·obtain ⟨rfl,rfl,rfl⟩:=h
  rw[zAj rfl];simp
 ·rw[zAY (fun e=>h (by cases e;exact ⟨rfl,rfl,rfl⟩))]
  by_cases e1:a1=b1<;>by_cases e2:a2=b2<;>by_cases e3:a3=b3<;>simp_all
theorem zHN {α:Type} (q:α→Bool) {xs:List α} {k:Nat} {x:α} (h:xs[k]?=some x):(xs.drop k).all q=(q x&&(xs.drop (k+1)).all q):=by
 obtain ⟨hk,e⟩:=gS.1 h
 rw[dC hk,e,List.all_cons]
theorem zLy {g:List Node} {lb:ByteArray} {tn:Nat} {y:Node} (h:g[tn]?=some y):edgeP g ⟨lb,(tn:Int)⟩=(decide (1≤(tn:Int))&&decide (y.name=lb)):=by
 have:=(gS.1 h).1
 unfold edgeP
 simp only[Int.toNat_natCast,h]
 rw[decide_eq_true (show (tn:Int)<(g.length:Int) by omega),Bool.true_and]
theorem zKQ {g:List Node} {lb:ByteArray} {tt:Int} (h:¬1≤tt):edgeP g ⟨lb,tt⟩=false:=by
 unfold edgeP;rw[decide_eq_false h];rfl
theorem zJk {g:List Node} {lb:ByteArray} {tt:Int} (h:¬tt<(g.length:Int)):edgeP g ⟨lb,tt⟩=false:=by
 unfold edgeP;rw[decide_eq_false h,Bool.false_and,Bool.and_false]
theorem zMh {g:List Node} {e:Edge} (h:edgeP g e=true):∃ (tn:Nat) (y:Node),e.to=(tn:Int)∧g[tn]?=some y:=by
 unfold edgeP at h
 simp only[Bool.and_eq_true,decide_eq_true_eq] at h
 obtain ⟨h1,h2,_⟩:=h
 exact ⟨e.to.toNat,g[e.to.toNat]'(by omega),by omega,gE (by omega)⟩
theorem zFZ:∀ {l:List Edge} {s:ByteArray} {j:Nat},zA2 l s=some j→∃ e,l[j]?=some e∧e.label=s
 | [],s,j,h=>by cases h
 | e::l,s,j,h=>by
   rw[zA2] at h
   split at h
   ·rename_i he
    cases h
    exact ⟨e,rfl,he⟩
   ·cases h2:zA2 l s with
    | none=>rw[h2] at h;cases h
    | some i=>
      rw[h2] at h
      cases h
      obtain ⟨e',h3,h4⟩:=zFZ h2
      exact ⟨e',by simpa using h3,h4⟩
theorem zKW {g:List Node} {es:List Edge} {q:Pin} (h:zA2 es q.name=none):pinP g es q=false:=by
 unfold pinP;rw[h]
theorem zKT {g:List Node} {es:List Edge} {q:Pin} {j tn:Nat} {e:Edge} {y:Node} (h:zA2 es q.name=some j) (he:es[j]?=some e) (ht:e.to=(tn:Int)) (hy:g[tn]?=some y):pinP g es q=eqB y.ver q.ver:=by
 unfold pinP;rw[h];simp only[he,ht,Int.toNat_natCast,hy]
theorem zD3 (w:World) (oa ob:Obj):Below w.heap.size w ((w.alloc oa).alloc ob).drew∧((w.alloc oa).alloc ob).drew.heap[w.heap.size]?=some oa∧((w.alloc oa).alloc ob).drew.heap[w.heap.size+1]?=some ob:=by
 have hsz:w.heap.size+1=(w.alloc oa).heap.size:=by simp
 refine ⟨(bal (bal (bR _ _) _) _).drew,(Below.heap_alloc (w.alloc oa) ob w.heap.size (by rw[←hsz];exact Nat.lt_succ_self _)).trans (zAD w oa),?_⟩
 rw[hsz];exact zAD (w.alloc oa) ob
theorem zHL (C:PlCtx) (hC:C.Ok) (w:World) (st:PlSt) (hw:PlWd C w st) (i:Nat) {n:Node} (hn:C.q.g[i]?=some n) {x:Pack} (hx:C.q.ps[i]?=some x) :
  Calls Tryz.prog 46 #[.pointer (some ⟨C.P,0,none⟩),.int .i64 (i:Int)] w fun e w'=>e=.returned (.bool (formP C.q.g i n x))∧Below w.heap.size w w':=by
 have hbase:=hw.base
 obtain ⟨A,c,A',c',hr⟩:=hw.read
 have HW:=cH hw
 have HC:=cH hC
 have hHP:=hr.hP
 have x0:=hr.c0
 have x1:=hr.c1
 obtain ⟨gb,go,xA,xc,eA,ec,hgA,hgb,hgn,n0,n1,n2,n3,n4,n5,hctx,hedg,hnsz⟩:=hr.node hC hbase hn
 obtain ⟨pb,po,dA,dc,fA,fc,kA,kc,hpA,hpb,hpn,k0,k1,k2,k3,k4,k5,k6,hpv,_⟩:=hr.pack hC hbase hx
 have hgcap:=zBt hC.g
 have hpcap:=zBt hC.p
 rw[hgA] at x0
 rw[hpA] at x1
 have HPv:=cH hpv
 have HCx:=cH hctx
 have HEd:=cH hedg
 have HX0:Hid (∀ W,Below w.heap.size w W→W.cell? ⟨C.P,0,none⟩=some (.slice (some ⟨gb,go,none⟩) C.gn C.gc)):=fun W hW=>zAA hW x0 hHP
 have HNd:Hid (∀ W (j:Nat) (y:Node),Below w.heap.size w W→C.q.g[j]?=some y→j<C.gn∧W.cell? ⟨gb,go+j * 6,none⟩=some (.string y.name)∧W.cell? ⟨gb,go+j * 6+1,none⟩=some (.int .i64 y.ver.major)∧W.cell? ⟨gb,go+j * 6+2,none⟩=some (.int .i64 y.ver.minor)∧W.cell? ⟨gb,go+j * 6+3,none⟩=some (.int .i64 y.ver.patch)):=fun W j y hW hy=>by
  obtain ⟨b2,o2,_,_,_,_,hgA2,_,h3,m0,m1,m2,m3,_⟩:=(hr.keep hW).node hC (bot hbase hW) hy
  rw[hgA] at hgA2
  cases hgA2
  exact ⟨h3,m0,m1,m2,m3⟩
 have Hgl:=cH hC.g.n_eq
 have hi0:(0:Int)≤(i:Int):=by omega
 have hig:(i:Int)<(C.gn:Int):=by omega
 have hip:(i:Int)<(C.pn:Int):=by omega
 have HR:Hid (formP C.q.g i n x=(headP i n x&&((zAP none (zAZ n.ctx)&&zAP none (zAE n.edges))&&(n.edges.all (edgeP C.q.g)&&n.ctx.all (pinP C.q.g n.edges))))):=rfl
 have hws:=hbase.size
 clear hr hw hC hbase hpv hctx hedg
 generalize formP C.q.g i n x=R at *
 obtain ⟨m0,hm0⟩:∃ k,k=n.name:=⟨_,rfl⟩
 obtain ⟨m1,hm1⟩:∃ k,k=n.ver.major:=⟨_,rfl⟩
 obtain ⟨m2,hm2⟩:∃ k,k=n.ver.minor:=⟨_,rfl⟩
 obtain ⟨m3,hm3⟩:∃ k,k=n.ver.patch:=⟨_,rfl⟩
 obtain ⟨m4,hm4⟩:∃ k,k=n.ctx.length:=⟨_,rfl⟩
 obtain ⟨m5,hm5⟩:∃ k,k=n.edges.length:=⟨_,rfl⟩
 rw[←hm0] at n0
 rw[←hm1] at n1
 rw[←hm2] at n2
 rw[←hm3] at n3
 rw[←hm4] at n4 HCx
 rw[←hm5] at n5 HEd
 have Hm:Hid (m0=n.name∧m1=n.ver.major∧m2=n.ver.minor∧m3=n.ver.patch∧m4=n.ctx.length∧m5=n.edges.length):=⟨hm0,hm1,hm2,hm3,hm4,hm5⟩
 clear hm0 hm1 hm2 hm3 hm4 hm5
 go_enter Tryz.func46,Tryz.ntmps46
 have hne1:C.P≠w.heap.size:=by omega
 have hne2:gb≠w.heap.size:=by omega
 have hne3:pb≠w.heap.size:=by omega
 have hne4:C.P≠w.heap.size+1:=by omega
 have hne5:gb≠w.heap.size+1:=by omega
 have hne6:pb≠w.heap.size+1:=by omega
 go_upto_region 1 with (fail)
 go_cut [5,6] from 12 to 26 (fun nv pv wx=>∃ NB PB:Nat,nv=.pointer (some ⟨NB,0,none⟩)∧pv=.pointer (some ⟨PB,0,none⟩)∧Hid (Below w.heap.size w wx∧w.heap.size≤NB∧w.heap.size≤PB ∧
  wx.heap[NB]?=some (.cells #[.string m0,.int .i64 m1,.int .i64 m2,.int .i64 m3,.slice xA m4 xc,.slice eA m5 ec] 58 (0,0)) ∧
  wx.heap[PB]?=some (.cells #[.string x.name,.int .i64 x.ver.major,.int .i64 x.ver.minor,.int .i64 x.ver.patch,.slice dA x.deps.length dc,.slice fA x.peers.length fc,.slice kA x.opts.length kc] 52 (0,0))))
 case first=>
  go_region_held3 (fun w'=>w'.cell? ⟨C.P,0,none⟩=some (.slice (some ⟨gb,go,none⟩) C.gn C.gc)∧w'.cell? ⟨C.P,1,none⟩=some (.slice (some ⟨pb,po,none⟩) C.pn C.pc)∧w'.cell? ⟨gb,go+i * 6,none⟩=some (.string m0)∧w'.cell? ⟨gb,go+i * 6+1,none⟩=some (.int .i64 m1)∧w'.cell? ⟨gb,go+i * 6+2,none⟩=some (.int .i64 m2)∧w'.cell? ⟨gb,go+i * 6+3,none⟩=some (.int .i64 m3)∧w'.cell? ⟨gb,go+i * 6+4,none⟩=some (.slice xA m4 xc)∧w'.cell? ⟨gb,go+i * 6+5,none⟩=some (.slice eA m5 ec) ∧
    w'.cell? ⟨pb,po+i * 7,none⟩=some (.string x.name)∧w'.cell? ⟨pb,po+i * 7+1,none⟩=some (.int .i64 x.ver.major)∧w'.cell? ⟨pb,po+i * 7+2,none⟩=some (.int .i64 x.ver.minor)∧w'.cell? ⟨pb,po+i * 7+3,none⟩=some (.int .i64 x.ver.patch)∧w'.cell? ⟨pb,po+i * 7+4,none⟩=some (.slice dA x.deps.length dc)∧w'.cell? ⟨pb,po+i * 7+5,none⟩=some (.slice fA x.peers.length fc)∧w'.cell? ⟨pb,po+i * 7+6,none⟩=some (.slice kA x.opts.length kc))
   (first|go_keep)
   (first|fail)
  all_goals
   go_wp2_with fail
   go_meet
   first
    | exact ⟨_,_,rfl,rfl,(zD3 w _ _).1,nR _,Nat.le_succ _,(zD3 w _ _).2.1,(zD3 w _ _).2.2⟩
    | exact ⟨_,_,rfl,rfl,(zD3 w _ _).1,Nat.le_succ _,nR _,(zD3 w _ _).2.2,(zD3 w _ _).2.1⟩
 case rest=>
 obtain ⟨NB,PB,rfl,rfl,HN⟩:=hcut
 generalize wc=wd at *
 have HBc:=cH HN.out.1
 have HNc:Hid (∀ W,Below wd.heap.size wd W→W.cell? ⟨NB,0,none⟩=some (.string m0)∧W.cell? ⟨NB,1,none⟩=some (.int .i64 m1)∧W.cell? ⟨NB,2,none⟩=some (.int .i64 m2)∧W.cell? ⟨NB,3,none⟩=some (.int .i64 m3)∧W.cell? ⟨NB,4,none⟩=some (.slice xA m4 xc)∧W.cell? ⟨NB,5,none⟩=some (.slice eA m5 ec)):=fun W hW=>by
  have h:=(hW.block _ (aS.1 HN.out.2.2.2.1).1).trans HN.out.2.2.2.1
  exact ⟨cO _ _ 0 _ _ _ h,cO _ _ 1 _ _ _ h,cO _ _ 2 _ _ _ h,cO _ _ 3 _ _ _ h,cO _ _ 4 _ _ _ h,cO _ _ 5 _ _ _ h⟩
 have HPc:Hid (∀ W,Below wd.heap.size wd W→W.cell? ⟨PB,0,none⟩=some (.string x.name)∧W.cell? ⟨PB,1,none⟩=some (.int .i64 x.ver.major)∧W.cell? ⟨PB,2,none⟩=some (.int .i64 x.ver.minor)∧W.cell? ⟨PB,3,none⟩=some (.int .i64 x.ver.patch)∧W.cell? ⟨PB,4,none⟩=some (.slice dA x.deps.length dc)∧W.cell? ⟨PB,5,none⟩=some (.slice fA x.peers.length fc)∧W.cell? ⟨PB,6,none⟩=some (.slice kA x.opts.length kc)):=fun W hW=>by
  have h:=(hW.block _ (aS.1 HN.out.2.2.2.2).1).trans HN.out.2.2.2.2
  exact ⟨cO _ _ 0 _ _ _ h,cO _ _ 1 _ _ _ h,cO _ _ 2 _ _ _ h,cO _ _ 3 _ _ _ h,cO _ _ 4 _ _ _ h,cO _ _ 5 _ _ _ h,cO _ _ 6 _ _ _ h⟩
 have HSm:Hid (∀ W,Below wd.heap.size wd W→Calls Tryz.prog 44 #[.agg #[.string x.name,.int .i64 x.ver.major,.int .i64 x.ver.minor,.int .i64 x.ver.patch,.slice dA x.deps.length dc,.slice fA x.peers.length fc,.slice kA x.opts.length kc],.agg #[.string ⟨#[]⟩,.int .i64 0,.int .i64 0,.int .i64 0,.slice none 0 0,.slice none 0 0,.slice none 0 0]] W fun e w'=>e=.returned (.bool (eqB x zAC))∧Below W.heap.size W w'):=fun W hW=>
  zC4 x zAC _ _ W _ (fun b=>b<W.heap.size) (HPv.out.keep (bot HBc.out hW)) ⟨none,0,0,none,0,0,none,0,0,rfl,by decide,SlV.nil_ _ _ _,SlV.nil_ _ _ _,SlV.nil_ _ _ _⟩
 have HMy:Hid (∀ W,Below wd.heap.size wd W→Calls Tryz.prog 71 #[.agg #[.string x.name,.int .i64 x.ver.major,.int .i64 x.ver.minor,.int .i64 x.ver.patch,.slice dA x.deps.length dc,.slice fA x.peers.length fc,.slice kA x.opts.length kc]] W fun e w'=>e=.returned (.bool (packB x))∧Below W.heap.size W w'):=fun W hW=>
  zFE x _ W _ (zAU (zAU HC.out.tab HW.out.base) (bot HBc.out hW)) (HPv.out.keep (bot HBc.out hW))
 clear HN x0 x1 n0 n1 n2 n3 n4 n5 k0 k1 k2 k3 k4 k5 k6
 obtain ⟨q0,q1,q2,q3,q4,q5⟩:=HNc.out wd (bR _ _)
 obtain ⟨p0,p1,p2,p3,p4,p5,p6⟩:=HPc.out wd (bR _ _)
 have Hro:Hid (zER n x=((m0.toList==[])&&((decide (m1=0)&&(decide (m2=0)&&decide (m3=0)))&&(decide (m4=0)&&eqB x zAC)))):=by
  unfold Hid zER zeroV;rw[←Hm.out.1,←Hm.out.2.1,←Hm.out.2.2.1,←Hm.out.2.2.2.1,←Hm.out.2.2.2.2.1]
 have Hhd:Hid (headP i n x=if i=0 then zER n x else zEP n x):=rfl
 have Hpo:Hid (zEP n x=(packB x&&(decide (x.name=m0)&&eqB x.ver n.ver))):=by unfold Hid zEP;rw[←Hm.out.1]
 generalize zEP n x=po at *
 generalize zER n x=ro at *
 generalize headP i n x=hp at *
 go_upto_region 2 with (fail)
 go_cut [27] from 28 to 52 (fun bv wx=>bv=.bool (decide (i=0)&&!ro)∧Hid (Below wd.heap.size wd wx))
 case first=>
  generalize eqB x zAC=sm at *
  by_cases h0:i=0
  case neg=>
   have hib:((i:Int)==0)=false:=by simp;omega
   go_wp2_with fail
   go_meet
   exact ⟨by rw[decide_eq_false h0];rfl,bR _ _⟩
  have hib:((i:Int)==0)=true:=by simp;omega
  have Hd:Hid (∀ v:Bool,ro=v→Value.bool (!v)=.bool (decide (i=0)&&!ro)):=by rintro v rfl;rw[decide_eq_true h0,Bool.true_and]
  clear h0
  cases hnb:(m0.toList==[]) with
  | false=>
    have hr:ro=false:=by rw[Hro.out,hnb];rfl
    have hd:=cH (Hd.out _ hr)
    clear hr Hro Hd
    go_wp2_with fail
    go_meet
    exact ⟨hd.out,bR _ _⟩
  | true=>
  by_cases hv:m1=0∧m2=0∧m3=0
  case neg=>
   have hr:ro=false:=by
    rw[Hro.out,hnb]
    by_cases e1:m1=0<;>by_cases e2:m2=0<;>by_cases e3:m3=0<;>simp_all
   have hd:=cH (Hd.out _ hr)
   clear hr Hro Hd
   go_wp2_with fail
   all_goals first
    | (exfalso;apply hv;refine ⟨?_,?_,?_⟩<;>assumption)
    | (go_meet;exact ⟨hd.out,bR _ _⟩)
  have Hzv:Hid (∀ v:Bool,(decide (m4=0)&&sm)=v→ro=v):=by
   rintro v rfl;rw[Hro.out,hnb,decide_eq_true hv.1,decide_eq_true hv.2.1,decide_eq_true hv.2.2];first|done|rfl
  obtain ⟨rfl,rfl,rfl⟩:=hv
  by_cases hp0:m4=0
  case neg=>
   have hpI:(0:Int)<(m4:Int):=by omega
   have hd:=cH (Hd.out _ (Hzv.out _ (by rw[decide_eq_false hp0];first|done|rfl)))
   have hpd:decide (0<m4)=true:=decide_eq_true (by omega)
   clear Hro Hd Hzv hp0
   go_wp2_with fail
   go_meet
   exact ⟨hd.out,bR _ _⟩
  have hpI:¬(0:Int)<(m4:Int):=by omega
  have hpd:decide (0<m4)=false:=decide_eq_false (by omega)
  have hd:=cH (Hd.out _ (Hzv.out _ (show (decide (m4=0)&&sm)=sm by rw[decide_eq_true hp0];first|done|rfl)))
  clear Hro Hd Hzv hp0
  go_wp2_with fail
  refine (HSm.out _ (bR _ _)).mono ?_
  rintro e w5 ⟨rfl,hb5⟩
  have HB5:=cH hb5
  clear hb5
  go_wp2_with fail
  go_meet
  exact ⟨hd.out,HB5⟩
 case rest=>
 obtain ⟨rfl,HB2⟩:=hcut
 clear q0 q1 q2 q3 q4 q5 p0 p1 p2 p3 p4 p5 p6 HSm
 obtain ⟨q0,q1,q2,q3,q4,q5⟩:=HNc.out wc HB2.out
 obtain ⟨p0,p1,p2,p3,p4,p5,p6⟩:=HPc.out wc HB2.out
 cases hb27:(decide (i=0)&&!ro) with
 | true=>
   have hr:R=false:=by
    rw[Bool.and_eq_true,decide_eq_true_eq,Bool.not_eq_true'] at hb27
    rw[HR.out,Hhd.out,if_pos hb27.1,hb27.2];rfl
   have Hr:=cH hr
   clear hr hb27
   go_wp2_with fail
   go_ret
   exact ⟨zBH Hr.out.symm,bot HBc.out HB2.out⟩
 | false=>
 have Hh0:Hid (i=0→hp=true):=fun h=>by
  rw[h] at hb27
  rw[Hhd.out,if_pos h]
  cases ro with
  | true=>rfl
  | false=>exact absurd hb27 (by decide)
 have Hh1:Hid (i≠0→hp=po):=fun h=>by rw[Hhd.out,if_neg h]
 clear hb27 Hro Hhd
 go_upto_region 4 with (fail)
 go_cut [53] from 54 to 74 (fun bv wx=>bv=.bool (!hp)∧Hid (Below wd.heap.size wd wx))
 case first=>
  have Hvv:Hid (eqB x.ver n.ver=(decide (x.ver.major=m1)&&(decide (x.ver.minor=m2)&&decide (x.ver.patch=m3)))):=by
   unfold Hid;rw[Hm.out.2.1,Hm.out.2.2.1,Hm.out.2.2.2.1];exact zGQ _ _
  by_cases h0:i=0
  case pos=>
   have hgt:¬(0:Int)<(i:Int):=by omega
   have hgd:decide (0<i)=false:=decide_eq_false (by omega)
   have hh:=cH (Hh0.out h0)
   clear h0
   go_wp2_with fail
   go_meet
   exact ⟨by rw[hh.out];rfl,HB2.out⟩
  have hgt:(0:Int)<(i:Int):=by omega
  have hgd:decide (0<i)=true:=decide_eq_true (by omega)
  have hh:=cH (Hh1.out h0)
  have Hmy:=cH (HMy.out wc HB2.out)
  clear h0 Hh0 Hh1
  cases hmb:packB x with
  | false=>
    have hf:=cH (hh.out.trans (Hpo.out.trans (show _=false by rw[hmb];first|done|rfl)))
    rw[hmb] at Hmy
    clear hmb
    go_wp2_with fail
    refine Hmy.out.mono ?_
    rintro e w5 ⟨rfl,hb5⟩
    have HB5:=cH (bot HB2.out hb5)
    clear hb5
    go_wp2_with fail
    go_meet
    exact ⟨by rw[hf.out];rfl,HB5.out⟩
  | true=>
  rw[hmb] at Hmy
  have Hp2:Hid (∀ v:Bool,(decide (x.name=m0)&&eqB x.ver n.ver)=v→Value.bool (!v)=.bool (!hp)):=by
   rintro v rfl;rw[hh.out,Hpo.out,hmb,Bool.true_and]
  clear hmb hh
  go_wp2_with fail
  refine Hmy.out.mono ?_
  rintro e w5 ⟨rfl,hb5⟩
  have HB5:=cH (bot HB2.out hb5)
  clear hb5 q0 q1 q2 q3 q4 q5 p0 p1 p2 p3 p4 p5 p6
  obtain ⟨q0,q1,q2,q3,q4,q5⟩:=HNc.out w5 HB5.out
  obtain ⟨p0,p1,p2,p3,p4,p5,p6⟩:=HPc.out w5 HB5.out
  by_cases hnn:x.name=m0
  case neg=>
   have hnb:=zAb hnn
   have hd:=cH (Hp2.out _ (show _=false by rw[decide_eq_false hnn];first|done|rfl))
   clear Hp2 hnn Hpo Hmy
   go_wp2_with fail
   go_meet
   exact ⟨hd.out,HB5.out⟩
  have hnb:=zAr hnn
  by_cases hv:x.ver.major=m1∧x.ver.minor=m2∧x.ver.patch=m3
  case neg=>
   have hd:=cH (Hp2.out _ (show _=false by
    rw[Hvv.out,Bool.and_eq_false_iff]
    refine .inr ?_
    by_cases e1:x.ver.major=m1<;>by_cases e2:x.ver.minor=m2<;>by_cases e3:x.ver.patch=m3<;>simp_all))
   clear Hp2 hnn Hpo Hmy
   go_wp2_with fail
   all_goals first
    | (exfalso;apply hv;refine ⟨?_,?_,?_⟩<;>assumption)
    | (go_meet;exact ⟨hd.out,HB5.out⟩)
  have hd:=cH (Hp2.out _ (show _=true by rw[Hvv.out,decide_eq_true hnn,decide_eq_true hv.1,decide_eq_true hv.2.1,decide_eq_true hv.2.2];first|done|rfl))
  clear Hp2 hnn Hpo Hmy
  obtain ⟨e1,e2,e3⟩:=hv
  rw[e1] at p1
  rw[e2] at p2
  rw[e3] at p3
  clear e1 e2 e3 Hvv
  go_wp2_with fail
  go_meet
  exact ⟨hd.out,HB5.out⟩
 case rest=>
 obtain ⟨hbv,HB4⟩:=hcut
 have HB24:Hid (Below wd.heap.size wd wc):=HB4
 clear q0 q1 q2 q3 q4 q5 p0 p1 p2 p3 p4 p5 p6 HMy Hh0 Hh1 Hpo HPc
 obtain ⟨q0,q1,q2,q3,q4,q5⟩:=HNc.out wc HB4.out
 have HBw:Hid (∀ W,Below wd.heap.size wd W→Below w.heap.size w W):=fun W hW=>bot HBc.out hW
 cases hhp:hp with
 | false=>
   have hr:R=false:=by rw[HR.out,hhp];rfl
   have Hr:=cH hr
   rw[hhp] at hbv
   subst hbv
   clear hr hhp HR
   go_wp2_with fail
   go_ret
   exact ⟨zBH Hr.out.symm,HBw.out _ HB4.out⟩
 | true=>
 rw[hhp] at hbv
 subst hbv
 have HR1:Hid (R=((zAP none (zAZ n.ctx)&&zAP none (zAE n.edges))&&(n.edges.all (edgeP C.q.g)&&n.ctx.all (pinP C.q.g n.edges)))):=by
  unfold Hid;rw[HR.out,hhp,Bool.true_and]
 clear HR hhp
 generalize wc=we at *
 have HRp:Hid (∀ W,Below wd.heap.size wd W→Calls Tryz.prog 72 #[.slice xA m4 xc,.func (.func 73) #[] #[]] W fun e w'=>e=.returned (.bool (zAP none (zAZ n.ctx)))∧Below W.heap.size W w'):=fun W hW=>
  zHt xA m4 xc n.ctx W _ (HCx.out.belowSize (bot HBc.out hW))
 have HRe:Hid (∀ W,Below wd.heap.size wd W→Calls Tryz.prog 74 #[.slice eA m5 ec,.func (.func 75) #[] #[]] W fun e w'=>e=.returned (.bool (zAP none (zAE n.edges)))∧Below W.heap.size W w'):=fun W hW=>
  zHM eA m5 ec n.edges W _ (HEd.out.belowSize (bot HBc.out hW))
 generalize zAP none (zAZ n.ctx)=ra at *
 generalize zAP none (zAE n.edges)=rb at *
 go_upto_region 6 with (fail)
 cases ra with
 | false=>
   have Hr:Hid (R=false):=by unfold Hid;rw[HR1.out];rfl
   clear HR1
   go_wp2_with fail
   refine (HRp.out we HB4.out).mono ?_
   rintro e w5 ⟨rfl,hb5⟩
   have HB5:=cH (bot HB4.out hb5)
   clear hb5
   go_wp2_with fail
   go_ret
   exact ⟨zBH Hr.out.symm,HBw.out _ HB5.out⟩
 | true=>
 go_wp2_with fail
 refine (HRp.out we HB4.out).mono ?_
 rintro e w5 ⟨rfl,hb5⟩
 have HB5:=cH (bot HB4.out hb5)
 clear hb5 q0 q1 q2 q3 q4 q5
 obtain ⟨q0,q1,q2,q3,q4,q5⟩:=HNc.out w5 HB5.out
 go_wp2_with fail
 refine (HRe.out w5 HB5.out).mono ?_
 rintro e w6 ⟨rfl,hb6⟩
 have HB6:=cH (bot HB5.out hb6)
 clear hb6 q0 q1 q2 q3 q4 q5
 obtain ⟨q0,q1,q2,q3,q4,q5⟩:=HNc.out w6 HB6.out
 cases rb with
 | false=>
   have Hr:Hid (R=false):=by unfold Hid;rw[HR1.out];rfl
   clear HR1
   go_wp2_with fail
   go_ret
   exact ⟨zBH Hr.out.symm,HBw.out _ HB6.out⟩
 | true=>
 have HR2:Hid (R=((n.edges.drop 0).all (edgeP C.q.g)&&n.ctx.all (pinP C.q.g n.edges))):=by
  unfold Hid;rw[HR1.out];rfl
 clear HR1 HRp HRe
 have hm45:m4≤9223372036854775807∧m5≤9223372036854775807:=⟨zBt HCx.out,zBt HEd.out⟩
 obtain ⟨hm4z,hm5z⟩:=hm45
 go_wp2_with fail
 go_loopw [88] (fun t wr=>∃ k:Nat,k≤m5∧t=.int .i64 k∧Hid (R=((n.edges.drop k).all (edgeP C.q.g)&&n.ctx.all (pinP C.q.g n.edges)))∧Hid (Below wd.heap.size wd wr)∧Hid (∀ j e,j<k→n.edges[j]?=some e→edgeP C.q.g e=true)) (fun t _=>m5 - (intOf t).toNat)
 case atStart=>exact ⟨0,nZ _,rfl,HR2,HB6,fun j e h=>absurd h (Nat.not_lt_zero j)⟩
 case round=>
  clear HR2 q0 q1 q2 q3 q4 q5
  obtain ⟨k,hk,rfl,heq,hbel,hall⟩:=hrel
  have hk0:(0:Int)≤(k:Int):=by omega
  by_cases hlt:k<m5
  case pos=>
   have hkn:(k:Int)<(m5:Int):=by omega
   obtain ⟨e,he⟩:∃ e,n.edges[k]?=some e:=⟨_,gE (by have:=Hm.out.2.2.2.2.2;omega)⟩
   obtain ⟨eb,eo,cs,hA,_,hb1,hh,hcell⟩:=(HEd.out.belowSize (HBw.out wr hbel.out)).elem he
   subst hA
   obtain ⟨rfl,hlz,hti⟩:=hh
   have c0:=hcell 0 _ rfl
   have c1:=hcell 1 _ rfl
   simp only[rEdge,Nat.add_zero] at c0 c1
   have Hst:=cH (heq.out.trans (congrArg (·&&n.ctx.all (pinP C.q.g n.edges)) (zHN (edgeP C.q.g) he)))
   have Hal:Hid (edgeP C.q.g e=true→∀ j e',j<k+1→n.edges[j]?=some e'→edgeP C.q.g e'=true):=fun h j e' hj he'=>by
    by_cases hjk:j=k
    ·subst hjk;rw[he] at he';cases he';exact h
    ·exact hall.out j e' (by omega) he'
   clear hcell hlz heq he hall
   obtain ⟨lb,tt⟩:=e
   simp only at c0 c1 hti
   go_upto_region 11 with (fail)
   obtain ⟨w4,hw4⟩:∃ w4,w4=wr.alloc (.cells #[.string lb,.int .i64 tt] 61):=⟨_,rfl⟩
   have hq4:w4.heap[wr.heap.size]?=some (.cells #[.string lb,.int .i64 tt] 61 (0,0)):=by rw[hw4];exact zAD _ _
   have HB4':Hid (Below wd.heap.size wd w4):=by unfold Hid;rw[hw4];exact bal hbel.out _
   rw[←hw4]
   obtain ⟨QB,hQB⟩:∃ QB,QB=wr.heap.size:=⟨_,rfl⟩
   rw[←hQB] at hq4 ⊢
   have d0:=cO _ _ 0 _ _ _ hq4
   have d1:=cO _ _ 1 _ _ _ hq4
   have x0:=HX0.out w4 (HBw.out w4 HB4'.out)
   have HBo:Hid (∀ W,Below w4.heap.size w4 W→Below wd.heap.size wd W):=fun W hW=>bot HB4'.out hW
   clear hw4 hQB hq4 c0 c1
   by_cases h1:1≤tt
   case neg=>
    have hI1:tt<1:=by omega
    have hD1:decide (tt<1)=true:=decide_eq_true hI1
    have Hr:Hid (R=false):=by unfold Hid;rw[Hst.out,zKQ h1];rfl
    clear Hst Hal h1
    have r_d0:=cR d0
    have r_d1:=cR d1
    have r_x0:=cR x0
    go_wp2_with fail
    refine wQ ?_
    repeat (go_big_quiet_step (first|fail))
    refine wpQuiet_nil fun w5 B5=>?_
    have HB5':=cH (HBw.out _ (HBo.out _ B5))
    go_wp2_with fail
    go_ret
    exact ⟨zBH Hr.out.symm,HB5'.out⟩
   have hI1:¬tt<1:=by omega
   have hD1:decide (tt<1)=false:=decide_eq_false hI1
   by_cases h2:tt<(C.gn:Int)
   case neg=>
    have hI2:(C.gn:Int)≤tt:=by omega
    have hD2:decide ((C.gn:Int)≤tt)=true:=decide_eq_true hI2
    have Hr:Hid (R=false):=by unfold Hid;rw[Hst.out,zJk (by rw[←Hgl.out];exact h2)];rfl
    clear Hst Hal h1 h2
    have r_d0:=cR d0
    have r_d1:=cR d1
    have r_x0:=cR x0
    go_wp2_with fail
    refine wQ ?_
    repeat (go_big_quiet_step (first|fail))
    refine wpQuiet_nil fun w5 B5=>?_
    have HB5':=cH (HBw.out _ (HBo.out _ B5))
    go_wp2_with fail
    go_ret
    exact ⟨zBH Hr.out.symm,HB5'.out⟩
   have hI2:¬(C.gn:Int)≤tt:=by omega
   have hD2:decide ((C.gn:Int)≤tt)=false:=decide_eq_false hI2
   obtain ⟨tn,rfl⟩:∃ tn:Nat,tt=(tn:Int):=⟨tt.toNat,by omega⟩
   obtain ⟨y,hy⟩:∃ y,C.q.g[tn]?=some y:=⟨_,gE (by have:=Hgl.out;omega)⟩
   obtain ⟨htn,y0,_⟩:=HNd.out w4 tn y (HBw.out w4 HB4'.out) hy
   have hep:=zLy (lb:=lb) hy
   rw[decide_eq_true h1,Bool.true_and] at hep
   have Hep:=cH hep
   have ht0:(0:Int)≤(tn:Int):=by omega
   have hD3:decide (C.gn≤tn)=false:=decide_eq_false (by omega)
   have hN3:¬C.gn≤tn:=by omega
   clear hy hep h1
   generalize y.name=yn at *
   by_cases hs:yn=lb
   case neg=>
    have hb2:=zAb hs
    have Hr:Hid (R=false):=by unfold Hid;rw[Hst.out,Hep.out,decide_eq_false hs];rfl
    clear Hst Hal hs Hep
    have r_d0:=cR d0
    have r_d1:=cR d1
    have r_x0:=cR x0
    have r_y0:=cR y0
    go_wp2_with fail
    refine wQ ?_
    repeat (go_big_quiet_step (first|fail))
    refine wpQuiet_nil fun w5 B5=>?_
    have HB5':=cH (HBw.out _ (HBo.out _ B5))
    go_wp2_with fail
    go_ret
    exact ⟨zBH Hr.out.symm,HB5'.out⟩
   have hb2:=zAr hs
   have hed:edgeP C.q.g ⟨lb,(tn:Int)⟩=true:=by rw[Hep.out,decide_eq_true hs]
   have Hr:Hid (R=((n.edges.drop (k+1)).all (edgeP C.q.g)&&n.ctx.all (pinP C.q.g n.edges))):=by unfold Hid;rw[Hst.out,hed,Bool.true_and]
   have Hal2:=cH (Hal.out hed)
   clear Hst Hal hs Hep hed
   have r_d0:=cR d0
   have r_d1:=cR d1
   have r_x0:=cR x0
   have r_y0:=cR y0
   go_wp2_with fail
   refine wQ ?_
   repeat (go_big_quiet_step (first|fail))
   refine wpQuiet_nil fun w5 B5=>?_
   have HB5':=cH (HBo.out _ B5)
   go_wp2_with fail
   go_roundw
   case rel=>exact ⟨k+1,by omega,by go_num,Hr,HB5'.out,Hal2⟩
   case measure=>simp[intOf];omega
  case neg=>
   have HR3:Hid (R=(n.ctx.drop 0).all (pinP C.q.g n.edges)):=by
    unfold Hid;rw[heq.out,dN (by have:=Hm.out.2.2.2.2.2;omega)];rfl
   have hI:¬(k:Int)<(m5:Int):=by omega
   have HAll:Hid (∀ (j:Nat) (e:Edge),n.edges[j]?=some e→∃ (tn:Nat) (y:Node),e.to=(tn:Int)∧C.q.g[tn]?=some y):=fun j e he=>zMh (hall.out j e (by have:=(gS.1 he).1;have:=Hm.out.2.2.2.2.2;omega) he)
   have HPin:Hid (∀ W,Below w.heap.size w W→SlV rPin W (fun b=>b<C.w0.heap.size) n.ctx (.slice xA m4 xc)):=fun W hW=>HCx.out.belowSize hW
   have HEdg:Hid (∀ W,Below w.heap.size w W→SlV rEdge W (fun b=>b<C.w0.heap.size) n.edges (.slice eA m5 ec)):=fun W hW=>HEd.out.belowSize hW
   obtain ⟨q0,q1,q2,q3,q4,q5⟩:=HNc.out wr hbel.out
   clear heq hall
   generalize wr=wa at *
   go_wp2_with fail
   go_loopw [125] (fun t wr=>∃ k:Nat,k≤m4∧t=.int .i64 k∧Hid (R=(n.ctx.drop k).all (pinP C.q.g n.edges))∧Hid (Below wd.heap.size wd wr)) (fun t _=>m4 - (intOf t).toNat)
   case atStart=>exact ⟨0,nZ _,rfl,HR3,hbel⟩
   case round=>
    clear HR3 q0 q1 q2 q3 q4 q5 hbel hI hk0 hlt hk
    obtain ⟨k,hk,rfl,heq,hbel⟩:=hrel
    have hk0:(0:Int)≤(k:Int):=by omega
    by_cases hlt:k<m4
    case neg=>
     have He:Hid (R=true):=by unfold Hid;rw[heq.out,dN (by have:=Hm.out.2.2.2.2.1;omega)];rfl
     have hI:¬(k:Int)<(m4:Int):=by omega
     have HBe:=cH (HBw.out _ hbel.out)
     clear heq
     go_wp2_with fail
     go_ret
     exact ⟨zBH He.out.symm,HBe.out⟩
    have hkn:(k:Int)<(m4:Int):=by omega
    obtain ⟨p,hp⟩:∃ p,n.ctx[k]?=some p:=⟨_,gE (by have:=Hm.out.2.2.2.2.1;omega)⟩
    obtain ⟨xb,xo,cs,hA,_,hb1,hh,hcell⟩:=(HPin.out wr (HBw.out wr hbel.out)).elem hp
    subst hA
    obtain ⟨rfl,hpz,hp1,hp2,hp3⟩:=hh
    have c0:=hcell 0 _ rfl
    have c1:=hcell 1 _ rfl
    have c2:=hcell 2 _ rfl
    have c3:=hcell 3 _ rfl
    simp only[rPin,Nat.add_zero] at c0 c1 c2 c3
    have Hst:=cH (heq.out.trans (zHN (pinP C.q.g n.edges) hp))
    have Hev:Hid (∀ v:Ver,eqB v p.ver=(decide (v.major=p.ver.major)&&(decide (v.minor=p.ver.minor)&&decide (v.patch=p.ver.patch)))):=fun v=>zGQ v p.ver
    have HpN:Hid (zA2 n.edges p.name=none→pinP C.q.g n.edges p=false):=zKW
    have HpS:Hid (∀ (j tn:Nat) (e:Edge) (y:Node),zA2 n.edges p.name=some j→n.edges[j]?=some e→e.to=(tn:Int)→C.q.g[tn]?=some y→pinP C.q.g n.edges p=eqB y.ver p.ver):=fun j tn e y h1 h2 h3 h4=>zKT h1 h2 h3 h4
    have Hei:Hid (∀ r,zA2 n.edges p.name=r→edgeI n.edges p.name=match r with|none=>-1|some k=>(k:Int)):=by rintro r rfl;rfl
    clear hcell heq hp
    go_upto_region 17 with (fail)
    obtain ⟨w4,hw4⟩:∃ w4,w4=wr.alloc (.cells #[.string p.name,.int .i64 p.ver.major,.int .i64 p.ver.minor,.int .i64 p.ver.patch] 63):=⟨_,rfl⟩
    have hq4:w4.heap[wr.heap.size]?=some (.cells #[.string p.name,.int .i64 p.ver.major,.int .i64 p.ver.minor,.int .i64 p.ver.patch] 63 (0,0)):=by rw[hw4];exact zAD _ _
    have HB4':Hid (Below wd.heap.size wd w4):=by unfold Hid;rw[hw4];exact bal hbel.out _
    rw[←hw4]
    have hz4:wr.heap.size<w4.heap.size:=(aS.1 hq4).1
    obtain ⟨QB,hQB⟩:∃ QB,QB=wr.heap.size:=⟨_,rfl⟩
    rw[←hQB] at hq4 hz4 ⊢
    have Hpc:Hid (∀ W,Below w4.heap.size w4 W→W.cell? ⟨QB,1,none⟩=some (.int .i64 p.ver.major)∧W.cell? ⟨QB,2,none⟩=some (.int .i64 p.ver.minor)∧W.cell? ⟨QB,3,none⟩=some (.int .i64 p.ver.patch)):=fun W hW=>by
     have h:=(hW.block _ hz4).trans hq4
     exact ⟨cO _ _ 1 _ _ _ h,cO _ _ 2 _ _ _ h,cO _ _ 3 _ _ _ h⟩
    have HBo:Hid (∀ W,Below w4.heap.size w4 W→Below wd.heap.size wd W):=fun W hW=>bot HB4'.out hW
    have HIx:Hid (Calls Tryz.prog 76 #[.slice eA m5 ec,.func (.func 77) #[] #[.pointer (some ⟨QB,0,none⟩)]] w4 fun e w'=>e=.returned (.int .i64 (edgeI n.edges p.name))∧Below w4.heap.size w4 w'):=
     zGb QB p.name eA m5 ec n.edges w4 _ (HEdg.out w4 (HBw.out w4 HB4'.out)) (cO _ _ 0 _ _ _ hq4)
    obtain ⟨q0,q1,q2,q3,q4,q5⟩:=HNc.out w4 HB4'.out
    clear hw4 hQB hq4 c0 c1 c2 c3
    generalize edgeI n.edges p.name=ei at *
    go_wp2_with fail
    refine HIx.out.mono ?_
    rintro e w5 ⟨rfl,hb5⟩
    have HB5':=cH hb5
    clear hb5 q0 q1 q2 q3 q4 q5 HIx
    obtain ⟨q0,q1,q2,q3,q4,q5⟩:=HNc.out w5 (HBo.out _ HB5'.out)
    obtain ⟨d1,d2,d3⟩:=Hpc.out w5 HB5'.out
    have x0:=HX0.out w5 (HBw.out _ (HBo.out _ HB5'.out))
    have HBf:Hid (∀ W,Below w5.heap.size w5 W→Below wd.heap.size wd W):=fun W hW=>HBo.out _ (bot HB5'.out hW)
    cases hix:zA2 n.edges p.name with
    | none=>
      have he:ei=-1:=Hei.out _ hix
      have Hr:Hid (R=false):=by unfold Hid;rw[Hst.out,HpN.out hix];rfl
      subst he
      clear Hst HpN HpS hix Hei
      have r_d1:=cR d1
      have r_d2:=cR d2
      have r_d3:=cR d3
      have r_x0:=cR x0
      have r_q5:=cR q5
      go_wp2_with fail
      refine wQ ?_
      repeat (go_big_quiet_step (first|fail))
      refine wpQuiet_nil fun w6 B6=>?_
      have HB6':=cH (HBw.out _ (HBf.out _ B6))
      go_wp2_with fail
      go_ret
      exact ⟨zBH Hr.out.symm,HB6'.out⟩
    | some j=>
    have he:ei=(j:Int):=Hei.out _ hix
    obtain ⟨e,hej,_⟩:=zFZ hix
    obtain ⟨tn,y,htn,hy⟩:=HAll.out j e hej
    obtain ⟨eb,eo,cs,hA,_,hb1,hh,hcell⟩:=(HEdg.out w5 (HBw.out _ (HBo.out _ HB5'.out))).elem hej
    subst hA
    obtain ⟨rfl,hlz,hti⟩:=hh
    have c1:=hcell 1 _ rfl
    simp only[rEdge] at c1
    rw[htn] at c1
    obtain ⟨htg,_,y1,y2,y3⟩:=HNd.out w5 tn y (HBw.out _ (HBo.out _ HB5'.out)) hy
    have Hst2:=cH (Hst.out.trans (congrArg (·&&(n.ctx.drop (k+1)).all (pinP C.q.g n.edges)) (HpS.out j tn e y hix hej htn hy)))
    have hjm:j<m5:=by have:=(gS.1 hej).1;have:=Hm.out.2.2.2.2.2;omega
    subst he
    clear Hst HpN HpS hix Hei hej htn hy hcell hlz hti
    have hj0:(0:Int)≤(j:Int):=by omega
    have hjI:(j:Int)<(m5:Int):=by omega
    have hjn:¬(j:Int)<0:=by omega
    have hjd:decide ((j:Int)<0)=false:=decide_eq_false hjn
    have ht0:(0:Int)≤(tn:Int):=by omega
    have htI:(tn:Int)<(C.gn:Int):=by omega
    rw[Hev.out] at Hst2
    clear Hev
    generalize y.ver.major=u1 at *
    generalize y.ver.minor=u2 at *
    generalize y.ver.patch=u3 at *
    generalize p.ver.major=v1 at *
    generalize p.ver.minor=v2 at *
    generalize p.ver.patch=v3 at *
    by_cases e1:u1=v1
    case neg=>
     have hb1:(u1==v1)=false:=beq_eq_false_iff_ne.2 e1
     have Hr:Hid (R=false):=by unfold Hid;rw[Hst2.out,decide_eq_false e1];simp
     clear Hst2
     have r_d1:=cR d1
     have r_d2:=cR d2
     have r_d3:=cR d3
     have r_x0:=cR x0
     have r_q5:=cR q5
     have r_c1:=cR c1
     have r_y1:=cR y1
     have r_y2:=cR y2
     have r_y3:=cR y3
     go_wp2_with fail
     refine wQ ?_
     repeat (go_big_quiet_step (first|fail))
     refine wpQuiet_nil fun w6 B6=>?_
     have HB6':=cH (HBw.out _ (HBf.out _ B6))
     go_wp2_with fail
     go_ret
     exact ⟨zBH Hr.out.symm,HB6'.out⟩
    subst e1
    by_cases e2:u2=v2
    case neg=>
     have hb2:(u2==v2)=false:=beq_eq_false_iff_ne.2 e2
     have Hr:Hid (R=false):=by unfold Hid;rw[Hst2.out,decide_eq_false e2];simp
     clear Hst2
     have r_d1:=cR d1
     have r_d2:=cR d2
     have r_d3:=cR d3
     have r_x0:=cR x0
     have r_q5:=cR q5
     have r_c1:=cR c1
     have r_y1:=cR y1
     have r_y2:=cR y2
     have r_y3:=cR y3
     go_wp2_with fail
     refine wQ ?_
     repeat (go_big_quiet_step (first|fail))
     refine wpQuiet_nil fun w6 B6=>?_
     have HB6':=cH (HBw.out _ (HBf.out _ B6))
     go_wp2_with fail
     go_ret
     exact ⟨zBH Hr.out.symm,HB6'.out⟩
    subst e2
    by_cases e3:u3=v3
    case neg=>
     have hb3:(u3==v3)=false:=beq_eq_false_iff_ne.2 e3
     have Hr:Hid (R=false):=by unfold Hid;rw[Hst2.out,decide_eq_false e3];simp
     clear Hst2
     have r_d1:=cR d1
     have r_d2:=cR d2
     have r_d3:=cR d3
     have r_x0:=cR x0
     have r_q5:=cR q5
     have r_c1:=cR c1
     have r_y1:=cR y1
     have r_y2:=cR y2
     have r_y3:=cR y3
     go_wp2_with fail
     refine wQ ?_
     repeat (go_big_quiet_step (first|fail))
     refine wpQuiet_nil fun w6 B6=>?_
     have HB6':=cH (HBw.out _ (HBf.out _ B6))
     go_wp2_with fail
     go_ret
     exact ⟨zBH Hr.out.symm,HB6'.out⟩
    subst e3
    have Hr:Hid (R=(n.ctx.drop (k+1)).all (pinP C.q.g n.edges)):=by
     unfold Hid;rw[Hst2.out];simp
    clear Hst2
    have r_d1:=cR d1
    have r_d2:=cR d2
    have r_d3:=cR d3
    have r_x0:=cR x0
    have r_q5:=cR q5
    have r_c1:=cR c1
    have r_y1:=cR y1
    have r_y2:=cR y2
    have r_y3:=cR y3
    go_wp2_with fail
    refine wQ ?_
    repeat (go_big_quiet_step (first|fail))
    refine wpQuiet_nil fun w6 B6=>?_
    have HB6':=cH (HBf.out _ B6)
    go_wp2_with fail
    go_roundw
    case rel=>exact ⟨k+1,by omega,by go_num,Hr,HB6'⟩
    case measure=>simp[intOf];omega
theorem zM9 (C:PlCtx) (hC:C.Ok) (w:World) (st:PlSt) (hw:PlWd C w st) :
  Calls Tryz.prog 22 #[.pointer (some ⟨C.P,0,none⟩)] w fun e w'=>e=.returned (.bool (mayPl C.q.g C.q.ps))∧Below w.heap.size w w':=by
 obtain ⟨A,c,A',c',hr⟩:=hw.read
 have x0:=hr.c0
 have x1:=hr.c1
 have hgl:=hC.g.n_eq
 have hpl:=hC.p.n_eq
 have hgcap:=zBt hC.g
 have hpcap:=zBt hC.p
 have HF:Hid (∀ W (i:Nat),Below w.heap.size w W→i<C.gn→C.pn=C.gn→∃ (n:Node) (x:Pack),C.q.g[i]?=some n∧C.q.ps[i]?=some x∧Calls Tryz.prog 46 #[.pointer (some ⟨C.P,0,none⟩),.int .i64 (i:Int)] W fun e w'=>e=.returned (.bool (formP C.q.g i n x))∧Below W.heap.size W w'):=fun W i hW hi hp=>by
  have h1:i<C.q.g.length:=by omega
  have h2:i<C.q.ps.length:=by omega
  exact ⟨_,_,gE h1,gE h2,zHL C hC W st (hw.keep hC hW) i (gE h1) (gE h2)⟩
 have HR:Hid (mayPl C.q.g C.q.ps=(decide (1≤C.gn)&&(decide (C.gn≤128)&&(decide (C.pn=C.gn)&&zB2 C.q.g 0 (C.q.g.drop 0) (C.q.ps.drop 0))))):=by
  unfold Hid mayPl;rw[hgl,hpl];rfl
 have Hgl:=cH hgl
 have Hpl:=cH hpl
 have hHP:=hr.hP
 clear hr hw hC hgl hpl
 generalize mayPl C.q.g C.q.ps=R at *
 generalize C.gn=gn at *
 generalize C.pn=pn at *
 generalize C.P=PB at *
 go_enter Tryz.func22,Tryz.ntmps22
 by_cases h1:1≤gn
 case neg=>
  have hI:(gn:Int)<1:=by omega
  have Hr:Hid (R=false):=by unfold Hid;rw[HR.out,decide_eq_false h1];rfl
  clear HR h1
  go_wp2_with fail
  go_ret
  exact ⟨zBH Hr.out.symm,bR _ _⟩
 have hI:¬(gn:Int)<1:=by omega
 by_cases h2:gn≤128
 case neg=>
  have hI2:(128:Int)<(gn:Int):=by omega
  have hD2:decide (128<gn)=true:=decide_eq_true (by omega)
  have Hr:Hid (R=false):=by unfold Hid;rw[HR.out,decide_eq_true h1,decide_eq_false h2];rfl
  clear HR h1 h2
  go_wp2_with fail
  go_ret
  exact ⟨zBH Hr.out.symm,bR _ _⟩
 have hI2:¬(128:Int)<(gn:Int):=by omega
 have hD2:decide (128<gn)=false:=decide_eq_false (by omega)
 by_cases h3:pn=gn
 case neg=>
  have hI3:((pn:Int) != (gn:Int))=true:=by show (!((pn:Int)==(gn:Int)))=true;rw[beq_eq_false_iff_ne.2 (by omega)];rfl
  have hI4:((pn:Int)==(gn:Int))=false:=beq_eq_false_iff_ne.2 (by omega)
  have Hr:Hid (R=false):=by unfold Hid;rw[HR.out,decide_eq_true h1,decide_eq_true h2,decide_eq_false h3];rfl
  clear HR h1 h2 h3
  go_wp2_with fail
  go_ret
  exact ⟨zBH Hr.out.symm,bR _ _⟩
 have HR2:Hid (R=zB2 C.q.g 0 (C.q.g.drop 0) (C.q.ps.drop 0)):=by
  unfold Hid;rw[HR.out,decide_eq_true h1,decide_eq_true h2,decide_eq_true h3,Bool.true_and,Bool.true_and,Bool.true_and]
 subst h3
 clear HR h1
 have hI3:((pn:Int)==(pn:Int))=true:=beq_self_eq_true _
 go_wp2_with fail
 go_loopw [27] (fun t wr=>∃ k:Nat,k≤pn∧t=.int .i64 k∧Hid (R=zB2 C.q.g k (C.q.g.drop k) (C.q.ps.drop k))∧Hid (Below w.heap.size w wr)) (fun t _=>pn - (intOf t).toNat)
 case atStart=>exact ⟨0,nZ _,rfl,HR2,bR _ _⟩
 case round=>
  clear HR2 x0 x1
  obtain ⟨k,hk,rfl,heq,hbel⟩:=hrel
  have hk0:(0:Int)≤(k:Int):=by omega
  by_cases hlt:k<pn
  case neg=>
   have He:Hid (R=true):=by unfold Hid;rw[heq.out,zIK _ (by have:=Hgl.out;omega) (by have:=Hpl.out;omega)]
   have hI:¬(k:Int)<(pn:Int):=by omega
   clear heq
   go_wp2_with fail
   go_ret
   exact ⟨zBH He.out.symm,hbel.out⟩
  have hkn:(k:Int)<(pn:Int):=by omega
  obtain ⟨n,x,hn,hx,hcall⟩:=HF.out wr k hbel.out hlt (by trivial)
  have Hst:=cH (heq.out.trans (zH2 _ hn hx))
  have Hcall:=cH hcall
  clear heq hn hx hcall
  generalize formP C.q.g k n x=v at *
  cases v with
  | false=>
    have He:Hid (R=false):=Hst.out
    clear Hst
    go_wp2_with fail
    refine Hcall.out.mono ?_
    rintro e w1 ⟨rfl,B1⟩
    go_wp2_with fail
    go_ret
    exact ⟨zBH He.out.symm,bot hbel.out B1⟩
  | true=>
    have He:Hid (R=zB2 C.q.g (k+1) (C.q.g.drop (k+1)) (C.q.ps.drop (k+1))):=by unfold Hid;rw[Hst.out,Bool.true_and]
    clear Hst
    go_wp2_with fail
    refine Hcall.out.mono ?_
    rintro e w1 ⟨rfl,B1⟩
    go_wp2_with fail
    go_roundw
    case rel=>exact ⟨k+1,by omega,by go_num,He,bot hbel.out B1⟩
    case measure=>simp[intOf];omega
theorem zIu {α:Type} [DecidableEq α]:∀ {l m:List α},l.Nodup→(∀ x∈l,x∈m)→l.length≤m.length
 | [],m,_,_=>nZ _
 | a::l,m,hn,hs=>by
   rw[List.nodup_cons] at hn
   have ha:=hs a List.mem_cons_self
   have h1:=zIu (l:=l) (m:=m.erase a) hn.2 (fun x hx=>(List.mem_erase_of_ne (by intro e;subst e;exact hn.1 hx)).2 (hs x (List.mem_cons_of_mem _ hx)))
   rw[List.length_erase_of_mem ha] at h1
   have h2:0<m.length:=List.length_pos_of_mem ha
   simp only[List.length_cons];omega
theorem zKu {q:PlIn} (h:mayPl q.g q.ps=true) {j:Nat} {n:Node} (hj:q.g[j]?=some n):n.edges.length≤128:=by
 have h1:=zA1 h hj
 have h2:(zAE n.edges).length≤(q.g.map (·.name)).length:=zIu h1 fun s hs=>by
  obtain ⟨e,he,rfl⟩:=List.mem_map.1 hs
  obtain ⟨h1,h2,h3,_⟩:=zCE h hj he
  have hlt:e.to.toNat<q.g.length:=by omega
  refine List.mem_map.2 ⟨q.g[e.to.toNat],List.getElem_mem hlt,?_⟩
  rw[←h3];unfold zAg;rw[List.getD_eq_getElem?_getD,gE hlt];rfl
 rw[List.length_map] at h2
 unfold zAE at h2
 rw[List.length_map] at h2
 exact nT h2 (zBv h).2.1
theorem zDv:Elt Tryz.prog 61 2 24:=Elt.mk' (z:=.agg #[.string ⟨#[]⟩,.int .i64 0]) (by kernel_rfl) rfl (by decide)
theorem zKs (w:World) (oa:Obj):Below w.heap.size w (w.alloc oa).drew∧(w.alloc oa).drew.heap[w.heap.size]?=some oa:=⟨(bal (bR _ _) _).drew,zAD w oa⟩
theorem Own.frame {α:Type} {r:Rp α} {w w':World} {base:Nat} {e:TypeId} {v:Value} {l:List α} (h:Own r w base e v l (fun _=>False)) (hk:∀ b,v.ownBlock=some b→w'.heap[b]?=w.heap[b]?):Own r w' base e v l (fun _=>False):=by
 obtain ⟨h0,xs,h1,h2⟩:=h
 refine ⟨fun b hb=>hb.elim,xs,⟨h1.1,?_⟩,h2.mono fun b hb _=>hb.elim⟩
 rcases h1.2 with hn|⟨g,cap,cur,rfl,hb,hgg,rest⟩
 ·exact .inl hn
 ·exact .inr ⟨g,cap,cur,rfl,hb,(hk g rfl).trans hgg,rest⟩
theorem PlP.notPl {C:PlCtx} {w:World} {st:PlSt} {A:Option Addr} {c:Nat} {A':Option Addr} {c':Nat} {S:Nat→Prop} (h:PlP C w st A c A' c' S) {b:Nat} (h1:b≠C.P) (h2:(Value.slice A st.1.length c).ownBlock≠some b) (h3:(Value.slice A' st.2.length c').ownBlock≠some b):NotPl C w b:=
 ⟨h1,fun v hv=>by rw[cO _ _ 7 _ _ _ h.row] at hv;cases hv;exact h2,fun v hv=>by rw[cO _ _ 8 _ _ _ h.row] at hv;cases hv;exact h3⟩
theorem PlP.notNew {C:PlCtx} {w w':World} {st:PlSt} {A:Option Addr} {c:Nat} {A':Option Addr} {c':Nat} {S:Nat→Prop} (h:PlP C w st A c A' c' S) (hb:Below w.heap.size w w') {b:Nat} (h1:w.heap.size≤b):NotPl C w' b:=
 (h.keep hb).notPl (by have:=h.hP;omega) (fun e=>by have:=(h.T.lt _ e).2;omega) (fun e=>by have:=(h.S'.lt _ e).2;omega)
theorem NotPl.grown {C:PlCtx} {w w':World} {row:Option Nat} {b:Nat} (hn:NotPl C w b) (hP:C.P<w.heap.size) (hg:w.grownBy w' row) (hr:row≠some C.P):NotPl C w' b:=
 ⟨hn.1,fun v hv=>hn.2.1 v (by rw[←zAM (hg.block C.P hP (fun e=>hr e.symm)) 7 none];exact hv),fun v hv=>hn.2.2 v (by rw[←zAM (hg.block C.P hP (fun e=>hr e.symm)) 8 none];exact hv)⟩
theorem PlFr.grown {C:PlCtx} {w w1 w2:World} {row:Option Nat} (h:PlFr C w w1) (hP:C.P<w1.heap.size) (hg:w1.grownBy w2 row) (hr:∀ b,row=some b→w.heap.size≤b∧b≠C.P):PlFr C w w2:=
 ⟨nT h.1 hg.size,fun b hb hn=>by
   obtain ⟨h1,h2⟩:=h.2 b hb hn
   exact ⟨(hg.block b (lL hb h.1) (fun e=>by have:=(hr b e.symm).1;omega)).trans h1,h2.grown hP hg (fun e=>(hr _ e).2 rfl)⟩⟩
theorem PlFr.refl (C:PlCtx) (w:World):PlFr C w w:=⟨nR _,fun b _ hn=>⟨rfl,hn⟩⟩
theorem PlP.grown {C:PlCtx} {w w':World} {st:PlSt} {A:Option Addr} {c:Nat} {A':Option Addr} {c':Nat} {S:Nat→Prop} (h:PlP C w st A c A' c' S) {row:Option Nat} (hg:w.grownBy w' row) (hr:∀ b,row=some b→NotPl C w b∧¬S b∧C.w0.heap.size≤b):PlP C w' st A c A' c' S:=by
 refine ⟨by rw[hg.block C.P h.hP (fun e=>(hr _ e.symm).1.1 rfl)];exact h.row,h.T.grown hg ?_ (fun b hb e=>(hr b e.symm).2.1 hb),h.S'.grown hg ?_ (fun b hb=>hb.elim),h.apart,h.tp,h.sp,h.ts,h.base.grown hg h.base.size (fun k hk=>(hr k hk).2.2),h.new⟩
 ·cases hk:(Value.slice A st.1.length c).ownBlock with
  | none=>exact .inl rfl
  | some k=>exact .inr fun e=>(hr k e.symm).1.2.1 _ (cO _ _ 7 _ _ _ h.row) hk
 ·cases hk:(Value.slice A' st.2.length c').ownBlock with
  | none=>exact .inl rfl
  | some k=>exact .inr fun e=>(hr k e.symm).1.2.2 _ (cO _ _ 8 _ _ _ h.row) hk
theorem Own.slvO {α:Type} {r:Rp α} {w:World} {base:Nat} {e:TypeId} {v:Value} {l:List α} (h:Own r w base e v l (fun _=>False)):SlV r w (fun b=>v.ownBlock=some b) l v:=by
 obtain ⟨h0,xs,h1,h2⟩:=h
 have h1':=h1
 rcases h1.2 with ⟨rfl,hn⟩|⟨g,cap,cur,rfl,hb,hg,hnc,hcm,hsz,htake⟩
 ·have:l=[]:=List.eq_nil_of_length_eq_zero hn
  subst this
  exact SlV.nil_ _ _ _
 ·refine ⟨some ⟨g,0,none⟩,cap,rfl,hnc,hcm,(fun h=>by cases h),fun _=>⟨g,0,rfl,rfl,(aS.1 hg).1,fun i x hx=>?_⟩⟩
  obtain ⟨cs,hc,hcell⟩:=h2.get i x hx
  refine ⟨cs,r.mono hc fun b hb _=>hb.elim,fun j u hu=>?_⟩
  have h3:=h1'.cells (g:=g) rfl _ u (hcell j u hu)
  rw[zEj,Nat.zero_add] at h3
  rw[Nat.zero_add]
  exact h3
theorem zFy {w w':World} {S S':Nat→Prop}:∀ {l:List Edge} {xs:List Value},Elems rEdge w S l xs→Elems rEdge w' S' l xs
 | [],_,h=>h
 | x::l,_,⟨cs,rest,h1,h2,h3⟩=>⟨cs,rest,h1,h2,zFy h3⟩
theorem zKc {w:World} {base:Nat} {e:TypeId} {v:Value} {l:List Edge} {S:Nat→Prop} (h:Own rEdge w base e v l S):Own rEdge w base e v l (fun _=>False):=by
 obtain ⟨h0,xs,h1,h2⟩:=h
 exact ⟨fun b hb=>hb.elim,xs,h1,zFy h2⟩
theorem zDH {q:PlIn} {n:Node} {kind:Nat} {l:List Edge} {k:Nat}:(zAN q n kind (l.take k)).length≤k:=by
 unfold zAN
 have:=List.length_filter_le (fun e=>decide (kindP q n e=kind)) (l.take k)
 rw[List.length_take] at this
 omega
structure DirL (C:PlCtx) (w1 wr:World) (st:PlSt) (S:Nat→Prop) (vA:Value) (al:List Edge) (vO:Value) (ot:List Edge):Prop where
 pl:PlS C wr st S
 al:Own rEdge wr w1.heap.size 61 vA al (fun _=>False)
 ot:Own rEdge wr w1.heap.size 61 vO ot (fun _=>False)
 nA:∀ b,vA.ownBlock=some b→NotPl C wr b∧¬S b
 nO:∀ b,vO.ownBlock=some b→NotPl C wr b∧¬S b
 ao:∀ b,vA.ownBlock=some b→vO.ownBlock≠some b
 fr:PlFr C w1 wr
section
variable {C:PlCtx} {w1 wr w':World} {st st':PlSt} {S:Nat→Prop} {vA vO:Value} {al ot:List Edge}
theorem DirL.start (h:PlS C w1 st S):DirL C w1 w1 st S (.slice none 0 0) [] (.slice none 0 0) []:=
 ⟨h,Own.nil_ rEdge w1 _ _ (fun b hb=>hb.elim),Own.nil_ rEdge w1 _ _ (fun b hb=>hb.elim),fun b e=>(by cases e),fun b e=>(by cases e),fun b e=>(by cases e),PlFr.refl C w1⟩
theorem DirL.keep (h:DirL C w1 wr st S vA al vO ot) (hb:Below wr.heap.size wr w'):DirL C w1 w' st S vA al vO ot:=by
 obtain ⟨A,c,A',c',hp⟩:=h.pl
 exact ⟨h.pl.keep hb,h.al.keep hb,h.ot.keep hb,fun b e=>⟨((PlFr.below hp.hP hb).2 b (h.al.lt b e).2 (h.nA b e).1).2,(h.nA b e).2⟩,fun b e=>⟨((PlFr.below hp.hP hb).2 b (h.ot.lt b e).2 (h.nO b e).1).2,(h.nO b e).2⟩,h.ao,h.fr.trans (PlFr.below hp.hP hb)⟩
theorem DirL.swap (h:DirL C w1 wr st S vA al vO ot):DirL C w1 wr st S vO ot vA al:=⟨h.pl,h.ot,h.al,h.nO,h.nA,fun b e e'=>h.ao b e' e,h.fr⟩
theorem DirL.settle (h:DirL C w1 wr st S vA al vO ot) (hs:PlS C w' st' S) (hf:PlFr C wr w'):DirL C w1 w' st' S vA al vO ot:=
 ⟨hs,h.al.frame (fun b e=>(hf.2 b (h.al.lt b e).2 (h.nA b e).1).1),h.ot.frame (fun b e=>(hf.2 b (h.ot.lt b e).2 (h.nO b e).1).1),fun b e=>⟨(hf.2 b (h.al.lt b e).2 (h.nA b e).1).2,(h.nA b e).2⟩,fun b e=>⟨(hf.2 b (h.ot.lt b e).2 (h.nO b e).1).2,(h.nO b e).2⟩,h.ao,h.fr.trans hf⟩
theorem DirL.pushV (h:DirL C w1 wr st S vA al vO ot) (hw:C.w0.heap.size≤w1.heap.size) {v':Value} {l':List Edge} {T:Nat→Prop} (hT:∀ b,T b→b≠C.P)
  (hgrow:wr.grownBy w' vA.ownBlock) (hat:∀ g,v'.ownBlock=some g→vA.ownBlock=some g∨wr.heap.size≤g) :
  PlS C w' st S∧(∀ g,v'.ownBlock=some g→NotPl C w' g∧¬S g∧vO.ownBlock≠some g)∧Own rEdge w' w1.heap.size 61 vO ot (fun _=>False)∧(∀ b,vO.ownBlock=some b→NotPl C w' b∧¬S b)∧PlFr C w1 w':=by
 obtain ⟨A,c,A',c',hp⟩:=h.pl
 have hr:∀ b,vA.ownBlock=some b→NotPl C wr b∧¬S b∧C.w0.heap.size≤b:=fun b e=>⟨(h.nA b e).1,(h.nA b e).2,nT hw (h.al.lt b e).1⟩
 have hp9:=hp.grown hgrow hr
 have hne:vA.ownBlock≠some C.P:=fun e'=>(h.nA _ e').1.1 rfl
 refine ⟨⟨A,c,A',c',hp9⟩,fun g hg=>?_,?_,fun b e=>⟨(h.nO b e).1.grown hp.hP hgrow hne,(h.nO b e).2⟩,h.fr.grown hp.hP hgrow (fun b e=>⟨(h.al.lt b e).1,(h.nA b e).1.1⟩)⟩
 ·rcases hat g hg with e|e
  ·exact ⟨(h.nA g e).1.grown hp.hP hgrow hne,(h.nA g e).2,h.ao g e⟩
  ·exact ⟨hp9.notPl (by have:=hp.hP;omega) (fun e'=>by have:=(hp.T.lt _ e').2;omega) (fun e'=>by have:=(hp.S'.lt _ e').2;omega),fun hs=>by have:=(hp.T.1 g hs).1;omega,fun e'=>by have:=(h.ot.lt _ e').2;omega⟩
 ·refine h.ot.grown hgrow ?_ (fun b hb=>hb.elim)
  cases hk:vO.ownBlock with
  | none=>exact .inl rfl
  | some k=>exact .inr fun e=>h.ao k e.symm hk
theorem DirL.push (h:DirL C w1 wr st S vA al vO ot) (hw:C.w0.heap.size≤w1.heap.size) {g n cap:Nat} {l':List Edge} (hown:Own rEdge w' w1.heap.size 61 (.slice (some ⟨g,0,none⟩) n cap) l' (fun _=>False))
  (hgrow:wr.grownBy w' vA.ownBlock) (hat:vA.ownBlock=some g∨wr.heap.size≤g):DirL C w1 w' st S (.slice (some ⟨g,0,none⟩) n cap) l' vO ot:=by
 obtain ⟨h1,h2,h3,h4,h5⟩:=h.pushV hw (v':=.slice (some ⟨g,0,none⟩) n cap) (l':=l') (T:=fun _=>False) (fun b hb=>hb.elim) hgrow (fun g' e=>by cases e;exact hat)
 exact ⟨h1,hown,h3,fun b e=>⟨(h2 b e).1,(h2 b e).2.1⟩,h4,fun b e=>(h2 b e).2.2,h5⟩
end
structure DirP (q:PlIn) (at_:Nat) (n:Node) (st:PlSt) (k:Nat) (stk:PlSt):Prop where
 go:zAO q at_ n 1 (n.edges.drop k) stk=zAO q at_ n 1 n.edges st
 inv:∃ done,PlInv q at_ done stk∧zBS q n 1 k done
 fst:stk.1=st.1
 len:stk.2.length+(zAN q n 2 (n.edges.take k)).length+(zAN q n 3 (n.edges.take k)).length≤st.2.length+k
section
variable {q:PlIn} {at_:Nat} {n:Node} {st stk:PlSt} {k:Nat} {e:Edge}
theorem DirP.start (h:PlInv q at_ [] st):DirP q at_ n st 0 st:=⟨rfl,⟨[],h,fun s hs=>by cases hs⟩,rfl,by simp[zAN]⟩
theorem DirP.bad (h:DirP q at_ n st k stk) (he:n.edges[k]?=some e) (hk:kindP q n e=1) (hr:zAm q stk at_ 1 e=false):zAO q at_ n 1 n.edges st=.error 33:=by
 rw[←h.go,zBK q at_ n 1 he,if_pos hk]
 unfold stepE
 rw[if_neg (by rw[hr];decide),if_pos rfl]
theorem DirP.one (h:DirP q at_ n st k stk) (hm:mayPl q.g q.ps=true) (hq:q.path≤1024) (hqd:q.dirs≤256) {d:Dir} (hd:st.1[at_]?=some d) {j:Nat} (hn:q.g[j]?=some n) (he:n.edges[k]?=some e) (hk:kindP q n e=1) (hr:zAm q stk at_ 1 e=true) :
  DirP q at_ n st (k+1) (stk.1,stk.2++[⟨at_,e.label,(lookI stk.1 (at_:Int) e.label).toNat⟩])∧zAN q n 2 (n.edges.take (k+1))=zAN q n 2 (n.edges.take k)∧zAN q n 3 (n.edges.take (k+1))=zAN q n 3 (n.edges.take k):=by
 have h2:zAN q n 2 (n.edges.take (k+1))=zAN q n 2 (n.edges.take k):=by rw[zCL he,if_neg (by omega),List.append_nil]
 have h3:zAN q n 3 (n.edges.take (k+1))=zAN q n 3 (n.edges.take k):=by rw[zCL he,if_neg (by omega),List.append_nil]
 have hst:=zEr hr
 obtain ⟨done,i1,i2⟩:=h.inv
 have hlab:=zA1 hm hn
 have hdk:stk.1[at_]?=some d:=by rw[h.fst];exact hd
 refine ⟨⟨?_,⟨_,(zC7 i1 hm hq hqd hdk hn (mG he) (i2.not hlab he hk) hst).1,i2.step he hk⟩,h.fst,?_⟩,h2,h3⟩
 ·rw[←h.go,zBK q at_ n 1 he,if_pos hk,hst]
 ·rw[h2,h3]
  have:=h.len
  simp only[List.length_append,List.length_cons,List.length_nil]
  omega
theorem DirP.other (h:DirP q at_ n st k stk) (he:n.edges[k]?=some e) (hk:kindP q n e≠1):DirP q at_ n st (k+1) stk:=by
 obtain ⟨done,i1,i2⟩:=h.inv
 refine ⟨?_,⟨done,i1,i2.more (Nat.le_succ k)⟩,h.fst,?_⟩
 ·rw[←h.go,zBK q at_ n 1 he,if_neg hk]
 ·have:=h.len
  have hr:=zAv q n e
  rw[zCL he,zCL he,List.length_append,List.length_append]
  by_cases h2:kindP q n e=2
  ·rw[if_pos h2,if_neg (by omega)]
   simp only[List.length_cons,List.length_nil];omega
  ·rw[if_neg h2,if_pos (by omega)]
   simp only[List.length_cons,List.length_nil];omega
theorem DirP.done_ (h:DirP q at_ n st n.edges.length stk):zAO q at_ n 1 n.edges st=.ok stk:=by
 rw[←h.go,dN (nR _)];rfl
structure DirR (q:PlIn) (at_:Nat) (n:Node) (d:Dir) (R:Except Int PlSt) (L:Nat) (k:Nat) (stk:PlSt):Prop where
 go:ownGo q at_ n ((restE q n).drop k) stk=R
 inv:∃ done,PlInv q at_ done stk∧∀ e∈(restE q n).drop k,e.label∉done
 dir:stk.1[at_]?=some d
 len:stk.2.length+(restE q n).length≤L+k
theorem DirP.rest (h:DirP q at_ n st n.edges.length stk) (hm:mayPl q.g q.ps=true) {j:Nat} (hn:q.g[j]?=some n) {d:Dir} (hd:st.1[at_]?=some d):DirR q at_ n d (ownGo q at_ n (restE q n) stk) (st.2.length+n.edges.length) 0 stk:=by
 obtain ⟨done,i1,i2⟩:=h.inv
 refine ⟨rfl,⟨done,i1,zJ2 (zA1 hm hn) i2.turn⟩,by rw[h.fst];exact hd,?_⟩
 have:=h.len
 rw[List.take_of_length_le (nR _)] at this
 unfold restE
 rw[List.length_append]
 omega
theorem DirR.step {d:Dir} {R:Except Int PlSt} {L:Nat} (h:DirR q at_ n d R L k stk) (hm:mayPl q.g q.ps=true) (hq:q.path≤1024) (hqd:q.dirs≤256) {j:Nat} (hn:q.g[j]?=some n) (he:(restE q n)[k]?=some e) :
  (∀ c,stepE q at_ (kindP q n e) e stk=.error c→R=.error c)∧(∀ st',stepE q at_ (kindP q n e) e stk=.ok st'→DirR q at_ n d R L (k+1) st'):=by
 obtain ⟨done,i1,i2⟩:=h.inv
 obtain ⟨g1,g2,g3⟩:=zHE (zA1 hm hn) i2 he
 refine ⟨fun c hc=>?_,fun st' hs=>?_⟩
 ·rw[←h.go,zJB q at_ n he,hc]
 ·obtain ⟨k1,⟨l,k2⟩,k3⟩:=zC7 i1 hm hq hqd h.dir hn g1 g2 hs
  refine ⟨by rw[←h.go,zJB q at_ n he,hs],⟨_,k1,g3⟩,?_,by rw[k3];have:=h.len;omega⟩
  rw[k2,List.getElem?_append_left (gS.1 h.dir).1];exact h.dir
theorem DirR.done_ {d:Dir} {R:Except Int PlSt} {L:Nat} (h:DirR q at_ n d R L (restE q n).length stk):R=.ok stk∧stk.2.length≤L∧PlInv q (at_+1) [] stk:=by
 obtain ⟨done,i1,_⟩:=h.inv
 refine ⟨?_,by have:=h.len;omega,i1.next⟩
 rw[←h.go,dN (nR _)];rfl
end
