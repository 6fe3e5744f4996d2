/- The document's placer: what stands above, the path of a name, what was settled, what is seen: walked. -/
import Derived.Test.YtminjjdnmpaaoaaGreatDoorSv16
import Derived.Test.YtminjjdnmpaaoaaGreatDoorSv13
import Derived.Test.YtminjjdnmpaaoaaGreatDoorSv12
import Derived.Test.YtminjjdnmpaaoaaGreatDoorSv04
import Derived.Test.YtminjjdnmpaaoaaGreatDoorSv10
import Derived.Deep.CutRange
import Derived.Deep.RegionLaw
import Derived.Deep.RegionHeld3
import Derived.Test.YtminjjdnmpaaoaaGreatDoorSv03
import Derived.Test.YtminjjdnmpaaoaaGreatDoorAl
set_option linter.all false
set_option maxHeartbeats 12800000
set_option maxRecDepth 100000
namespace Go.Proofs.YtminjjdnmpaaoaaGreatDoor
open Go.Rows Go.RowKit Go.Shelf Go.Sort
theorem zMH {α:Type} (x y:α):eqB x y=eqB y x:=by
 by_cases h:x=y
 ·rw[zAP h,zAP h.symm]
 ·rw[zAH h,zAH (fun e=>h e.symm)]
theorem zKj (C:DlCtx) (w:World) (st:PlSt) (hw:DlWd C w st) (h a:Nat) (hh:h<st.1.length) (ha:a<st.1.length) :
  Calls Tryz.prog 137 #[.pointer (some ⟨C.P,0,none⟩),.int .i64 (h:Int),.int .i64 (a:Int)] w fun e w'=>e=.returned (.bool (zAl (zAE st.1 a) (zAE st.1 h)))∧Below w.heap.size w w':=by
 obtain ⟨A,c,A',c',hr⟩:=hw.read
 have hlen:=hr.len.1
 have x8:=hr.c8
 obtain ⟨b,o,pA,pc,hA,hb,y0,_,hp,hpl,hpm⟩:=hr.dir (zAa ha)
 obtain ⟨b2,o2,qA,qc,hA2,_,z0,_,hq,hql,hqm⟩:=hr.dir (zAa hh)
 rw[hA] at hA2
 injection hA2 with hA2
 injection hA2 with hb2 ho2 _
 subst hb2 ho2 hA
 have hPz:=hr.hP
 unfold maxLen at hpm hqm
 show Calls _ _ _ _ fun e w'=>e=.returned (.bool (zAl (dirAt st.1 a).path (dirAt st.1 h).path))∧_
 generalize (dirAt st.1 a).path=pa at *
 generalize (dirAt st.1 h).path=ph at *
 have HR:Hid (zAl pa ph=(decide (ph.length≤pa.length)&&eqB ph (pa.take ph.length))):=by unfold Hid;rw[zMH];rfl
 generalize zAl pa ph=R at *
 obtain ⟨n,hn⟩:∃ n,n=st.1.length:=⟨_,rfl⟩
 obtain ⟨la,hla⟩:∃ n,n=pa.length:=⟨_,rfl⟩
 obtain ⟨lh,hlh⟩:∃ n,n=ph.length:=⟨_,rfl⟩
 rw[←hn] at x8 ha hh hlen
 rw[←hla] at y0 hp HR hpl
 rw[←hlh] at z0 hq HR hql
 have HP:=cH hp
 have HQ:=cH hq
 have Hla:=cH hla
 have Hlh:=cH hlh
 clear hr hw hn hp hq hla hlh
 generalize C.P=PB at *
 have ha0:(0:Int)≤(a:Int):=by omega
 have hh0:(0:Int)≤(h:Int):=by omega
 have han:(a:Int)<(n:Int):=by omega
 have hhn:(h:Int)<(n:Int):=by omega
 go_enter Tryz.func137,Tryz.ntmps137
 by_cases hle:lh≤la
 ·have hI:¬(la:Int)<(lh:Int):=by omega
  have hD:decide (la<lh)=false:=decide_eq_false (by omega)
  have hlh0:(0:Int)≤(lh:Int):=by omega
  have hlc:lh≤pc:=by omega
  have hw2:IntKind.i64.wrap (lh:Int)=(lh:Int):=IntWalk.i64_in _ ⟨by omega,by omega⟩
  have He:Hid (R=eqB ph (pa.take lh)):=by unfold Hid;rw[HR.out,decide_eq_true hle,Bool.true_and]
  have HE:Hid (∀ W,Below w.heap.size w W→Calls Tryz.prog 31 #[.slice qA lh qc,.slice pA lh pc] W fun e w'=>e=.returned (.bool (eqB ph (pa.take lh)))∧Below W.heap.size W w'):=fun W hW=>
   zDY qA pA lh lh qc pc ph (pa.take lh) W _ _ (HQ.out.belowSize hW) (SlV.take (HP.out.belowSize hW) (by rw[←Hla.out];exact hle))
  generalize eqB ph (pa.take lh)=v at *
  clear HR HP HQ
  go_wp2_with fail
  refine (HE.out w (bR _ _)).mono ?_
  rintro e w2 ⟨rfl,hb2⟩
  have HB2:=cH hb2
  clear hb2 HE
  go_wp2_with fail
  go_ret
  exact ⟨zAB He.out.symm,HB2.out⟩
 ·have hI:(la:Int)<(lh:Int):=by omega
  have hD:decide (la<lh)=true:=decide_eq_true (by omega)
  have He:Hid (R=false):=by unfold Hid;rw[HR.out,decide_eq_false hle,Bool.false_and]
  clear HR HP HQ
  go_wp2_with fail
  go_ret
  exact ⟨zAB He.out.symm,bR _ _⟩
theorem zF0 {w w':World} {S S':Nat→Prop}:∀ {l:List ByteArray} {xs:List Value},Elems rStr w S l xs→Elems rStr w' S' l xs
 | [],_,h=>h
 | x::l,_,⟨cs,rest,h1,h2,h3⟩=>⟨cs,rest,h1,h2,zF0 h3⟩
theorem zLi {w:World} {base:Nat} {e:TypeId} {v:Value} {l:List ByteArray} {S:Nat→Prop} (h:Own rStr w base e v l S):Own rStr w base e v l (fun _=>False):=by
 obtain ⟨h0,xs,h1,h2⟩:=h
 exact ⟨fun b hb=>hb.elim,xs,h1,zF0 h2⟩
theorem zDh (C:DlCtx) (w:World) (st:PlSt) (hw:DlWd C w st) (h:Nat) (hh:h<st.1.length) (s:ByteArray) (hs:s.size≤maxLen) (hlen:(zAE st.1 h).length * 32≤140737488355000) :
  Calls Tryz.prog 102 #[.pointer (some ⟨C.P,0,none⟩),.int .i64 (h:Int),.string s] w fun e w'=>∃ (A:Option Addr) (c:Nat),e=.returned (.slice A ((zAE st.1 h).length+1) c)∧SlV rStr w' (fun b=>w.heap.size≤b) (zAE st.1 h++[s]) (.slice A ((zAE st.1 h).length+1) c)∧Below w.heap.size w w':=by
 obtain ⟨A,c,A',c',hr⟩:=hw.read
 have hlen1:=hr.len.1
 have x8:=hr.c8
 obtain ⟨b,o,pA,pc,hA,hb,y0,_,hp,hpl,hpm⟩:=hr.dir (zAa hh)
 subst hA
 have hPz:=hr.hP
 have hlen':(dirAt st.1 h).path.length * 32≤140737488355000:=hlen
 show Calls _ _ _ _ fun e w'=>∃ (A:Option Addr) (c:Nat),e=.returned (.slice A ((dirAt st.1 h).path.length+1) c)∧SlV rStr w' _ ((dirAt st.1 h).path++[s]) (.slice A ((dirAt st.1 h).path.length+1) c)∧_
 generalize (dirAt st.1 h).path=ph at *
 obtain ⟨n,hn⟩:∃ n,n=st.1.length:=⟨_,rfl⟩
 rw[←hn] at x8 hh hlen1
 obtain ⟨lh,hlh⟩:∃ n,n=ph.length:=⟨_,rfl⟩
 rw[←hlh] at y0 hp hpl hlen' ⊢
 have HP:=cH hp
 have Hlh:=cH hlh
 have Hs:=cH hs
 clear hr hw hn hp hlen hlh hs
 generalize C.P=PB at *
 have hh0:(0:Int)≤(h:Int):=by omega
 have hhn:(h:Int)<(n:Int):=by omega
 go_enter Tryz.func102,Tryz.ntmps102
 go_wp2_with (at_builtin;refine zAN (by rfl) _ _ _ (by rfl) zAp Tryz.underlying48 (by rfl) (Own.nil_ rStr w w.heap.size 9 (S:=fun _=>False) (fun b h=>h.elim)) (fun _=>True) ph pA lh pc (by rfl) HP.out (by intro b hb he;simp[Value.ownBlock] at he) (by rw[←Hlh.out];simp[maxLen];omega) (by rw[←Hlh.out];simp;omega) (nR _) ?_)
 intro v1 w1 hown1 hgrow1 hat1
 have hb1:Below w.heap.size w w1:=(bR _ _).grown hgrow1 (nR _) (fun k hk=>by cases hk)
 have hown1':=zLi hown1
 have HO1:=cH hown1'
 have HB1:=cH hb1
 have hz1:w.heap.size≤w1.heap.size:=hb1.size
 clear hown1 hown1' hgrow1 hat1 hb1 x8 y0
 go_wp2_with (at_builtin;refine zAM (by rfl) _ _ _ (by rfl) zAp Tryz.underlying48 (by rfl) (HO1.out.alloc _) ⟨w1.heap.size,0,none⟩ 1 [.string s] s (by rfl) ⟨rfl,Hs.out⟩ (zAd w1 #[.string s] _) (by rw[←Hlh.out];unfold maxLen;omega) (by rw[←Hlh.out];omega) (nT hz1 (by simp)) (w1.heap.size+1) (by simp) ?_)
 intro g9 cap9 w9 hown9 hgrow9 hat9 hlt9
 have hb9:Below w.heap.size w w9:=zAw (bal HB1.out _) hgrow9 (HO1.out.alloc _) (nR _)
 have hs9:=hown9.slvB
 have HS9:=cH hs9
 have HB9:=cH hb9
 clear hown9 hgrow9 hat9 hb9 hs9
 rw[←Hlh.out]
 rw[←Hlh.out] at HS9
 go_wp2_with fail
 go_ret
 exact ⟨_,_,rfl,HS9.out,HB9.out⟩
theorem zGn (C:DlCtx) (w:World) (st:PlSt) (hw:DlWd C w st) (i:Nat) (hi:i≤1000000) (s:ByteArray) :
  Calls Tryz.prog 99 #[.pointer (some ⟨C.P,0,none⟩),.int .i64 (i:Int),.string s] w fun e w'=>e=.returned (.int .i64 (zAq st.2 i s))∧Below w.heap.size w w':=by
 obtain ⟨A,c,A',c',hr⟩:=hw.read
 have x9:=hr.c9
 have hst:=cH hr.stls
 have hn63:=hr.len.2
 have HR:Hid (zAq st.2 i s=zAq (st.2.drop 0) i s):=by unfold Hid;rw[List.drop_zero]
 have Hend:Hid (∀ k,st.2.length≤k→zAq (st.2.drop k) i s=-1):=fun k hk=>by rw[dN hk];rfl
 clear hr hw
 obtain ⟨n,hn⟩:∃ n,n=st.2.length:=⟨_,rfl⟩
 rw[←hn] at x9 hst Hend hn63
 have Hn:=cH hn
 clear hn
 generalize st.2=SS at *
 generalize zAq SS i s=R at *
 generalize C.P=PB at *
 go_enter Tryz.func99,Tryz.ntmps99
 go_wp2_with fail
 go_loopw [7] (fun t wr=>∃ k:Nat,k≤n∧t=.int .i64 k∧Hid (R=zAq (SS.drop k) i s)∧Hid (wr=w)) (fun t _=>n - (intOf t).toNat)
 case atStart=>exact ⟨0,nZ _,rfl,HR,rfl⟩
 case round=>
  clear HR
  obtain ⟨k,hk,rfl,heq,hwr⟩:=hrel
  rw[←hwr.out] at x9
  have hk0:(0:Int)≤(k:Int):=by omega
  have HBr:Hid (Below w.heap.size w wr):=by unfold Hid;rw[hwr.out];exact bR _ _
  by_cases hlt:k<n
  case neg=>
   have He:Hid (R=-1):=by unfold Hid;rw[heq.out,Hend.out k (by omega)]
   have hI:¬(k:Int)<(n:Int):=by omega
   clear heq Hend
   go_wp2_with fail
   go_ret
   exact ⟨zAS He.out.symm,HBr.out⟩
  have hkn:(k:Int)<(n:Int):=by omega
  obtain ⟨x,hx⟩:∃ x,SS[k]?=some x:=⟨_,gE (by have:=Hn.out;omega)⟩
  obtain ⟨b,o,cs,hA,_,hb1,⟨rfl,hlz,hf,hd⟩,hcell⟩:=(hst.out.belowSize HBr.out).elem hx
  subst hA
  have c0:=hcell 0 _ rfl
  have c1:=hcell 1 _ rfl
  have c2:=hcell 2 _ rfl
  simp only[rStl,Nat.add_zero] at c0 c1 c2
  have Hstep:=cH (zEi hx i s)
  clear hcell hlz
  obtain ⟨xf,xl,xd⟩:=x
  simp only at c0 c1 c2 hf hd Hstep
  by_cases h1:xf=i
  ·have hb1:((xf:Int)==(i:Int))=true:=by simp[h1]
   by_cases h2:xl=s
   ·have hb2:=zAT h2
    have He:Hid (R=(xd:Int)):=by unfold Hid;rw[heq.out,Hstep.out,if_pos ⟨h1,h2⟩]
    clear heq Hstep h1 h2 Hend
    go_wp2_with fail
    go_ret
    exact ⟨zAS He.out.symm,HBr.out⟩
   ·have hb2:=zAL h2
    have He:Hid (R=zAq (SS.drop (k+1)) i s):=by unfold Hid;rw[heq.out,Hstep.out,if_neg (fun h=>h2 h.2)]
    clear heq Hstep h1 h2
    go_wp2_with fail
    go_roundw
    case rel=>exact ⟨k+1,by omega,by go_num,He,hwr⟩
    case measure=>simp[intOf];omega
  ·have hb1:((xf:Int)==(i:Int))=false:=by simp;omega
   have He:Hid (R=zAq (SS.drop (k+1)) i s):=by unfold Hid;rw[heq.out,Hstep.out,if_neg (fun h=>h1 h.1)]
   clear heq Hstep h1
   go_wp2_with fail
   go_roundw
   case rel=>exact ⟨k+1,by omega,by go_num,He,hwr⟩
   case measure=>simp[intOf];omega
theorem zES (w:World) (oa:Obj):Below w.heap.size w (w.alloc oa).drew∧(w.alloc oa).drew.heap[w.heap.size]?=some oa:=⟨(bal (bR _ _) _).drew,zAD w oa⟩
theorem zMK (C:DlCtx) (hC:C.Ok) (w:World) (st:PlSt) (hw:DlWd C w st) (a f:Nat) (ha:a<st.1.length) (hf:f≤1000000) {n:Node} {j:Nat} (hj:(dirAt st.1 a).node=(j:Int)) (hn:C.q.g[j]?=some n) (hlen:∀ d∈st.1,d.path.length * 32≤140737488355328) :
  Calls Tryz.prog 58 #[.pointer (some ⟨C.P,0,none⟩),.int .i64 (a:Int),.int .i64 (f:Int)] w fun e w'=>e=.returned (.bool (seesB C.q.g st.1 st.2 a f))∧Below w.heap.size w w':=by
 obtain ⟨A,c,A',c',hr⟩:=hw.read
 have hlen1:=hr.len.1
 have x0:=hr.c0
 have x8:=hr.c8
 obtain ⟨b,o,pA,pc,hA,hb,_,y8,_,_,_⟩:=hr.dir (zAa ha)
 obtain ⟨gb,go,xA,xc,eA,ec,hgA,hgb,hjn,g0,g1,g2,g3,g4,g5,hx,_,_⟩:=hr.node hC hw.base hn
 rw[hj] at y8
 subst hA
 have hgcap:=zAi (hC.g)
 have hxl:=zAi hx
 have hnlt:C.gn≤9223372036854775807:=hgcap
 rw[hgA] at x0
 have hHP:=hr.hP
 have hgw:gb<w.heap.size:=lL hgb hw.base.size
 have HF:Hid (∀ W (s:ByteArray),Below w.heap.size w W→Calls Tryz.prog 99 #[.pointer (some ⟨C.P,0,none⟩),.int .i64 (f:Int),.string s] W fun e w'=>e=.returned (.int .i64 (zAq st.2 f s))∧Below W.heap.size W w'):=fun W s hW=>zGn C W st (hw.keep hW) f hf s
 have HL:Hid (∀ W (s:ByteArray),s.size≤maxLen→Below w.heap.size w W→Calls Tryz.prog 57 #[.agg #[.slice (some ⟨b,o,none⟩) st.1.length c],.int .i64 (a:Int),.string s] W fun e w'=>e=.returned (.int .i64 (lookI st.1 (a:Int) s))∧Below W.heap.size W w'):=fun W s hs hW=>zFI _ _ _ st.1 s W _ (a:Int) hs hlen (hr.dirs.belowSize hW)
 have HX8:Hid (∀ W,Below w.heap.size w W→W.cell? ⟨C.P,8,none⟩=some (.slice (some ⟨b,o,none⟩) st.1.length c)):=fun W hW=>zAA hW x8 hHP
 have HR:Hid (seesB C.q.g st.1 st.2 a f=(n.ctx.drop 0).all (zCB st.1 st.2 a f)):=by
  unfold Hid seesB
  rw[hj,Int.toNat_natCast,hn]
  rfl
 have H1:Hid (∀ q:Pin,zCB st.1 st.2 a f q=(decide (0≤zAq st.2 f q.name)&&decide (lookI st.1 (a:Int) q.name=zAq st.2 f q.name))):=fun q=>rfl
 have HX:=cH (hx.more (S':=fun _=>True) fun _ _ _=>trivial)
 obtain ⟨m,hm⟩:∃ m,m=n.ctx.length:=⟨_,rfl⟩
 rw[←hm] at g4 HX hxl
 have Hm:=cH hm
 obtain ⟨N,hN⟩:∃ N,N=st.1.length:=⟨_,rfl⟩
 rw[←hN] at x8 HX8 HL ha hlen1
 obtain ⟨m5,hm5⟩:∃ m,m=n.edges.length:=⟨_,rfl⟩
 rw[←hm5] at g5
 clear hm hN hm5 hr hw hx hC hgA hn hj hlen
 generalize seesB C.q.g st.1 st.2 a f=R at *
 generalize C.P=PB at *
 generalize C.gn=gn at *
 generalize C.gc=gc at *
 generalize n.ctx=ctx at *
 generalize n.name=m0 at *
 generalize n.ver.major=m1 at *
 generalize n.ver.minor=m2 at *
 generalize n.ver.patch=m3 at *
 have ha0:(0:Int)≤(a:Int):=by omega
 have han:(a:Int)<(N:Int):=by omega
 have hj0:(0:Int)≤(j:Int):=by omega
 have hjI:(j:Int)<(gn:Int):=by omega
 go_enter Tryz.func58,Tryz.ntmps58
 have hne1:PB≠w.heap.size:=by omega
 have hne2:gb≠w.heap.size:=by omega
 have hne3:b≠w.heap.size:=by omega
 go_upto_region 1 with (fail)
 go_cut [7] from 10 to 25 (fun nv wx=>∃ NB:Nat,nv=.pointer (some ⟨NB,0,none⟩)∧Hid (Below w.heap.size w wx∧w.heap.size≤NB ∧
  wx.heap[NB]?=some (.cells #[.string m0,.int .i64 m1,.int .i64 m2,.int .i64 m3,.slice xA m xc,.slice eA m5 ec] 58 (0,0))))
 case first=>
  go_region_held3 (fun w'=>w'.cell? ⟨PB,0,none⟩=some (.slice (some ⟨gb,go,none⟩) gn gc)∧w'.cell? ⟨PB,8,none⟩=some (.slice (some ⟨b,o,none⟩) N c)∧w'.cell? ⟨b,o+a * 9+8,none⟩=some (.int .i64 (j:Int))∧w'.cell? ⟨gb,go+j * 6,none⟩=some (.string m0)∧w'.cell? ⟨gb,go+j * 6+1,none⟩=some (.int .i64 m1)∧w'.cell? ⟨gb,go+j * 6+2,none⟩=some (.int .i64 m2)∧w'.cell? ⟨gb,go+j * 6+3,none⟩=some (.int .i64 m3)∧w'.cell? ⟨gb,go+j * 6+4,none⟩=some (.slice xA m xc)∧w'.cell? ⟨gb,go+j * 6+5,none⟩=some (.slice eA m5 ec))
   (first|go_keep)
   (first|fail)
  all_goals
   go_wp2_with fail
   go_meet
   exact ⟨_,rfl,(zES w _).1,nR _,(zES w _).2⟩
 case rest=>
 obtain ⟨NB,rfl,HN1⟩:=hcut
 generalize wc=w1 at *
 have HB1:=cH HN1.out.1
 have HNc:Hid (∀ W,Below w1.heap.size w1 W→W.cell? ⟨NB,4,none⟩=some (.slice xA m xc)):=fun W hW=>zAA hW (cO _ _ 4 _ _ _ HN1.out.2.2) (aS.1 HN1.out.2.2).1
 clear HN1 x0 x8 y8 g0 g1 g2 g3 g4 g5
 go_wp2_with fail
 go_loopw [8] (fun t wr=>∃ k:Nat,k≤m∧t=.int .i64 k∧Hid (R=(ctx.drop k).all (zCB st.1 st.2 a f))∧Hid (Below w1.heap.size w1 wr)) (fun t _=>m - (intOf t).toNat)
 case atStart=>exact ⟨0,nZ _,rfl,HR,bR _ _⟩
 case round=>
  clear HR
  obtain ⟨k,hk,rfl,heq,hbel⟩:=hrel
  have q4:=HNc.out wr hbel.out
  have HBr:=cH (bot HB1.out hbel.out)
  have hk0:(0:Int)≤(k:Int):=by omega
  by_cases hlt:k<m
  case neg=>
   have He:Hid (R=true):=by unfold Hid;rw[heq.out,dN (by have:=Hm.out;omega)];rfl
   have hI:¬(k:Int)<(m:Int):=by omega
   clear heq
   go_wp2_with fail
   go_ret
   exact ⟨zAB He.out.symm,HBr.out⟩
  have hkn:(k:Int)<(m:Int):=by omega
  obtain ⟨x,hx⟩:∃ x,ctx[k]?=some x:=⟨_,gE (by have:=Hm.out;omega)⟩
  obtain ⟨b',o',cs,hA,_,hb1,⟨rfl,hlz,_⟩,hcell⟩:=(HX.out.belowSize HBr.out).elem hx
  have HA:=cH hA
  rw[hA] at q4
  clear hA
  have c0:=hcell 0 _ rfl
  simp only[rPin,Nat.add_zero] at c0
  have Hst2:Hid (R=((decide (0≤zAq st.2 f x.name)&&decide (lookI st.1 (a:Int) x.name=zAq st.2 f x.name))&&(ctx.drop (k+1)).all (zCB st.1 st.2 a f))):=by unfold Hid;rw[heq.out,zJ8 hx,H1.out]
  have HF1:Hid (∀ W,Below w.heap.size w W→Calls Tryz.prog 99 #[.pointer (some ⟨PB,0,none⟩),.int .i64 (f:Int),.string x.name] W fun e w'=>e=.returned (.int .i64 (zAq st.2 f x.name))∧Below W.heap.size W w'):=fun W hW=>HF.out W x.name hW
  have HL1:Hid (∀ W,Below w.heap.size w W→Calls Tryz.prog 57 #[.agg #[.slice (some ⟨b,o,none⟩) N c],.int .i64 (a:Int),.string x.name] W fun e w'=>e=.returned (.int .i64 (lookI st.1 (a:Int) x.name))∧Below W.heap.size W w'):=fun W hW=>HL.out W x.name hlz hW
  clear hcell hlz heq
  generalize x.name=nm at *
  generalize zAq st.2 f nm=fo at *
  generalize lookI st.1 (a:Int) nm=lk at *
  go_wp2_with fail
  refine (HF1.out wr HBr.out).mono ?_
  rintro e w5 ⟨rfl,hb5⟩
  have HB5:=cH (bot HBr.out hb5)
  have HB15:=cH (bot hbel.out hb5)
  have d0:=zAA hb5 c0 hb1
  have x8:=HX8.out w5 HB5.out
  have q4:=HNc.out w5 HB15.out
  rw[HA.out] at q4
  have HL2:=cH (qcall (w:=w5) (fun W hW=>HL1.out W (bot HB5.out hW)))
  have Hbf:Hid (∀ W,Below w5.heap.size w5 W→Below w.heap.size w W∧Below w1.heap.size w1 W):=fun W hW=>⟨bot HB5.out hW,bot HB15.out hW⟩
  clear hb5 HF1 HL1 c0 HB5
  go_upto_region 6 with (fail)
  by_cases h1:0≤fo
  case neg=>
   have hI:fo<0:=by omega
   have hId:decide (fo<0)=true:=decide_eq_true hI
   have He:Hid (R=false):=by unfold Hid;rw[Hst2.out,decide_eq_false h1];rfl
   clear Hst2 h1
   have r_d0:=cR d0
   have r_x8:=cR x8
   have r_q4:=cR q4
   go_wp2_with fail
   refine wQ ?_
   repeat (go_big_quiet_step (first|(with_reducible exact HL2.out _ _)))
   refine wpQuiet_nil fun w6 B6=>?_
   have HB6:=cH (Hbf.out _ B6).1
   go_wp2_with fail
   go_ret
   exact ⟨zAB He.out.symm,HB6.out⟩
  have hI:¬fo<0:=by omega
  have hId:decide (fo<0)=false:=decide_eq_false hI
  rw[decide_eq_true h1,Bool.true_and] at Hst2
  by_cases h2:lk=fo
  ·have hbn:(lk != fo)=false:=by simp[h2]
   have He:Hid (R=(ctx.drop (k+1)).all (zCB st.1 st.2 a f)):=by unfold Hid;rw[Hst2.out,decide_eq_true h2];rfl
   clear Hst2 h2 h1
   have r_d0:=cR d0
   have r_x8:=cR x8
   have r_q4:=cR q4
   go_wp2_with fail
   refine wQ ?_
   repeat (go_big_quiet_step (first|(with_reducible exact HL2.out _ _)))
   refine wpQuiet_nil fun w6 B6=>?_
   have HB6:=cH (Hbf.out _ B6).2
   go_wp2_with fail
   go_roundw
   case rel=>exact ⟨k+1,by omega,by go_num,He,HB6⟩
   case measure=>simp[intOf];omega
  ·have hbn:(lk != fo)=true:=by simp[h2]
   have He:Hid (R=false):=by unfold Hid;rw[Hst2.out,decide_eq_false h2];rfl
   clear Hst2 h2 h1
   have r_d0:=cR d0
   have r_x8:=cR x8
   have r_q4:=cR q4
   go_wp2_with fail
   refine wQ ?_
   repeat (go_big_quiet_step (first|(with_reducible exact HL2.out _ _)))
   refine wpQuiet_nil fun w6 B6=>?_
   have HB6:=cH (Hbf.out _ B6).1
   go_wp2_with fail
   go_ret
   exact ⟨zAB He.out.symm,HB6.out⟩
theorem keep8 {w W W':World} {P:World→Prop} (hb:Below W.heap.size W W') (hB:Below w.heap.size w W) (hP:∀ V,Below w.heap.size w V→P V):P W'∧Below w.heap.size w W':=⟨hP _ (bot hB hb),bot hB hb⟩
noncomputable def lowD (T:List Dir) (home from_:Nat) (s:ByteArray) (d:Dir):Bool:=!(zAl d.path (zAE T home)&&(zAl (zAE T from_) d.path&&decide (0≤findI T (d.path++[s]))))
theorem zMG (T:List Dir) (S:List Stl) (home from_:Nat) (s:ByteArray):spotD T S home from_ s=(zAl (zAE T from_) (zAE T home)&&((T.drop 0).all (lowD T home from_ s)&&!zBQ T S home s)):=rfl
theorem zMU {q:Dir→Bool} {l:List Dir} {k:Nat} {x:Dir} (h:l[k]?=some x):(l.drop k).all q=(q x&&(l.drop (k+1)).all q):=by
 obtain ⟨hk,e⟩:=gS.1 h
 rw[dC hk,e,List.all_cons]
theorem zKf (C:DlCtx) (w:World) (st:PlSt) (hw:DlWd C w st) (h f:Nat) (hh:h<st.1.length) (hf:f<st.1.length) (s:ByteArray) (hs:s.size≤maxLen) (hlen:∀ d∈st.1,d.path.length≤1024) (hst:∀ x∈st.2,x.frm<st.1.length∧x.dst<st.1.length) :
  Calls Tryz.prog 100 #[.pointer (some ⟨C.P,0,none⟩),.int .i64 (h:Int),.int .i64 (f:Int),.string s] w fun e w'=>e=.returned (.bool (spotD st.1 st.2 h f s))∧Below w.heap.size w w':=by
 have HW:=cH hw
 obtain ⟨A,c,A',c',hr⟩:=hw.read
 obtain ⟨hl1,hl2⟩:=hr.len
 have HRd:=cH hr
 obtain ⟨b,o,pA,pc,hA,hb,y0,_,hp,hpl,hpm⟩:=hr.dir (zAa hh)
 subst hA
 have HAb:Hid (∀ W (x y:Nat),Below w.heap.size w W→x<st.1.length→y<st.1.length→Calls Tryz.prog 137 #[.pointer (some ⟨C.P,0,none⟩),.int .i64 (x:Int),.int .i64 (y:Int)] W fun e w'=>e=.returned (.bool (zAl (zAE st.1 y) (zAE st.1 x)))∧Below W.heap.size W w'):=fun W x y hW hx hy=>zKj C W st (hw.keep hW) x y hx hy
 have HPt:Hid (∀ i,i<st.1.length→(zAE st.1 i).length≤1024):=fun i hi=>hlen _ (mG (zAa hi))
 have HIn:Hid (∀ W (i:Nat),Below w.heap.size w W→i<st.1.length→Calls Tryz.prog 102 #[.pointer (some ⟨C.P,0,none⟩),.int .i64 (i:Int),.string s] W fun e w'=>∃ (A:Option Addr) (c:Nat),e=.returned (.slice A ((zAE st.1 i).length+1) c)∧SlV rStr w' (fun _=>True) (zAE st.1 i++[s]) (.slice A ((zAE st.1 i).length+1) c)∧Below W.heap.size W w'):=fun W i hW hi=>
  (zDh C W st (hw.keep hW) i hi s hs (by have:=HPt.out i hi;omega)).mono fun e w' ⟨A,c,h1,h2,h3⟩=>⟨A,c,h1,h2.more fun _ _ _=>trivial,h3⟩
 have HFi:Hid (∀ W (B:Option Addr) (m d:Nat) (p:List ByteArray),Below w.heap.size w W→SlV rStr W (fun _=>True) p (.slice B m d)→Calls Tryz.prog 93 #[.agg #[.slice (some ⟨b,o,none⟩) st.1.length c],.slice B m d] W fun e w'=>e=.returned (.int .i64 (findI st.1 p))∧Below W.heap.size W w'):=fun W B m d p hW hp=>zCF _ _ _ _ _ _ st.1 p W _ _ (hr.dirs.belowSize hW) hp
 have HX:Hid (∀ W,Below w.heap.size w W→W.cell? ⟨C.P,8,none⟩=some (.slice (some ⟨b,o,none⟩) st.1.length c)∧W.cell? ⟨C.P,9,none⟩=some (.slice A' st.2.length c')):=fun W hW=>⟨zAA hW hr.c8 hr.hP,zAA hW hr.c9 hr.hP⟩
 have HD:Hid (∀ W (a:Nat),Below w.heap.size w W→a<st.1.length→∃ pA pc,W.cell? ⟨b,o+a * 9,none⟩=some (.slice pA (zAE st.1 a).length pc)):=fun W a hW ha=>by
  have h1:=hr.keep hW
  obtain ⟨b',o',pA,pc,hA',_,y,_⟩:=h1.dir (zAa ha)
  injection hA' with hA'
  injection hA' with hb' ho' _
  subst hb' ho'
  exact ⟨pA,pc,y⟩
 have HS:Hid (∀ W,Below w.heap.size w W→SlV rStl W (fun _=>True) st.2 (.slice A' st.2.length c')):=fun W hW=>hr.stls.belowSize hW
 have HST:=cH hst
 have HR:=cH (zMG st.1 st.2 h f s)
 have HT0:Hid (zBQ st.1 st.2 h s=(st.2.drop 0).any (zA3 st.1 h s)):=rfl
 have H1:Hid (∀ x:Stl,zA3 st.1 h s x=(decide (x.label=s)&&(zAl (zAE st.1 x.frm) (zAE st.1 h)&&decide ((zAE st.1 x.dst).length≤(zAE st.1 h).length)))):=fun x=>rfl
 have H2:Hid (∀ i,i<st.1.length→lowD st.1 h f s (dirAt st.1 i)=!(zAl (zAE st.1 i) (zAE st.1 h)&&(zAl (zAE st.1 f) (zAE st.1 i)&&decide (0≤findI st.1 (zAE st.1 i++[s]))))):=fun i _=>rfl
 have Hat:Hid (∀ i,i<st.1.length→st.1[i]?=some (dirAt st.1 i)):=fun i hi=>zAa hi
 have hPz:=hr.hP
 clear hr hw hp hst hlen y0 hpl hpm
 obtain ⟨n,hn⟩:∃ n,n=st.1.length:=⟨_,rfl⟩
 obtain ⟨m,hm⟩:∃ m,m=st.2.length:=⟨_,rfl⟩
 rw[←hn] at hh hf hl1 HAb HPt HIn HFi HX HD HST H2 Hat
 rw[←hm] at HX HS hl2
 have Hn:=cH hn
 have Hm:=cH hm
 clear hn hm
 generalize spotD st.1 st.2 h f s=R at *
 generalize zBQ st.1 st.2 h s=TB at *
 generalize C.P=PB at *
 have hh0:(0:Int)≤(h:Int):=by omega
 have hhn:(h:Int)<(n:Int):=by omega
 go_enter Tryz.func100,Tryz.ntmps100
 have HA0:=cH (HAb.out w h f (bR _ _) hh hf)
 generalize hu:zAl (zAE st.1 f) (zAE st.1 h)=u at *
 clear hu
 cases u with
 | false=>
   have He:Hid (R=false):=HR.out
   clear HR
   go_wp2_with fail
   refine HA0.out.mono ?_
   rintro e w1 ⟨rfl,B1⟩
   go_wp2_with fail
   go_ret
   exact ⟨zAB He.out.symm,B1⟩
 | true=>
 have HR1:Hid (R=((st.1.drop 0).all (lowD st.1 h f s)&&!TB)):=HR.out
 clear HR
 go_wp2_with fail
 refine HA0.out.mono ?_
 rintro e w1 ⟨rfl,B1⟩
 have HB1:=cH B1
 clear B1 HA0
 go_wp2_with fail
 go_loopw [10] (fun t wr=>∃ k:Nat,k≤n∧t=.int .i64 k∧Hid (R=((st.1.drop k).all (lowD st.1 h f s)&&!TB))∧Hid (Below w.heap.size w wr)) (fun t _=>n - (intOf t).toNat)
 case atStart=>exact ⟨0,nZ _,rfl,HR1,HB1⟩
 case round=>
  clear HR1 HB1
  obtain ⟨k,hk,rfl,heq,hbel⟩:=hrel
  have hk0:(0:Int)≤(k:Int):=by omega
  obtain ⟨x8,x9⟩:=HX.out wr hbel.out
  by_cases hlt:k<n
  case neg=>
   have HR2:Hid (R=!((st.2.drop 0).any (zA3 st.1 h s))):=by
    unfold Hid;rw[heq.out,dN (by have:=Hn.out;omega),←HT0.out];rfl
   have hI:¬(k:Int)<(n:Int):=by omega
   clear heq HT0
   generalize wr=wa at *
   go_wp2_with fail
   go_loopw [13] (fun t wr=>∃ k:Nat,k≤m∧t=.int .i64 k∧Hid (R=!((st.2.drop k).any (zA3 st.1 h s)))∧Hid (Below w.heap.size w wr)) (fun t _=>m - (intOf t).toNat)
   case atStart=>exact ⟨0,nZ _,rfl,HR2,hbel⟩
   case round=>
    clear HR2 hbel x8 x9 hI hk0 hlt hk
    obtain ⟨k,hk,rfl,heq,hbel⟩:=hrel
    have hk0:(0:Int)≤(k:Int):=by omega
    obtain ⟨x8,x9⟩:=HX.out wr hbel.out
    by_cases hlt:k<m
    case neg=>
     have He:Hid (R=true):=by unfold Hid;rw[heq.out,dN (by have:=Hm.out;omega)];rfl
     have hI:¬(k:Int)<(m:Int):=by omega
     clear heq
     go_wp2_with fail
     go_ret
     exact ⟨zAB He.out.symm,hbel.out⟩
    have hkn:(k:Int)<(m:Int):=by omega
    obtain ⟨x,hx⟩:∃ x,st.2[k]?=some x:=⟨_,gE (by have:=Hm.out;omega)⟩
    obtain ⟨e1,e2⟩:=HST.out x (mG hx)
    obtain ⟨b',o',cs,hA,_,hb1,⟨rfl,hlz,hfz,hdz⟩,hcell⟩:=(HS.out wr hbel.out).elem hx
    have HA:=cH hA
    rw[hA] at x9
    have c0:=hcell 0 _ rfl
    have c1:=hcell 1 _ rfl
    have c2:=hcell 2 _ rfl
    simp only[rStl,Nat.add_zero] at c0 c1 c2
    have Hst2:Hid (R=!((decide (x.label=s)&&(zAl (zAE st.1 x.frm) (zAE st.1 h)&&decide ((zAE st.1 x.dst).length≤(zAE st.1 h).length)))||(st.2.drop (k+1)).any (zA3 st.1 h s))):=by unfold Hid;rw[heq.out,zKB hx,H1.out]
    have HA1:=cH (HAb.out wr h x.frm hbel.out hh e1)
    have hld:=HPt.out x.dst e2
    have hlh:=HPt.out h hh
    clear hcell hlz heq hA hx
    obtain ⟨xf,xl,xd⟩:=x
    simp only at c0 c1 c2 hfz hdz Hst2 HA1 e1 e2 hld
    go_wp2_with fail
    refine HA1.out.mono ?_
    rintro e w4 ⟨rfl,B4⟩
    have HB4:=cH (bot hbel.out B4)
    have d1:=zAA B4 c1 hb1
    have d2:=zAA B4 c2 hb1
    clear x8 x9 c0 c1 c2 B4 HA1
    obtain ⟨x8,x9⟩:=HX.out w4 HB4.out
    rw[HA.out] at x9
    obtain ⟨qA,qc,y1⟩:=HD.out w4 xd HB4.out e2
    obtain ⟨rA,rc,y2⟩:=HD.out w4 h HB4.out hh
    have Hbf:Hid (∀ W,Below w4.heap.size w4 W→Below w.heap.size w W):=fun W hW=>bot HB4.out hW
    have hd0:(0:Int)≤(xd:Int):=by omega
    have hdn:(xd:Int)<(n:Int):=by omega
    generalize zAl (zAE st.1 xf) (zAE st.1 h)=u at *
    generalize (zAE st.1 xd).length=ld at *
    generalize (zAE st.1 h).length=lh at *
    have hwl:IntKind.i64.wrap ((ld:Int) - 1)=(ld:Int) - 1:=IntWalk.i64_in _ ⟨by omega,by omega⟩
    go_upto_region 15 with (fail)
    by_cases h2:xl=s
    case neg=>
     have hb2:=zAL h2
     have He:Hid (R=!((st.2.drop (k+1)).any (zA3 st.1 h s))):=by unfold Hid;rw[Hst2.out,decide_eq_false h2];rfl
     clear h2 Hst2
     have r_d1:=cR d1
     have r_d2:=cR d2
     have r_x8:=cR x8
     have r_x9:=cR x9
     have r_y1:=cR y1
     have r_y2:=cR y2
     go_wp2_with fail
     refine wQ ?_
     repeat (go_big_quiet_step (first|fail))
     refine wpQuiet_nil fun w5 B5=>?_
     have HB5:=cH (Hbf.out _ B5)
     go_wp2_with fail
     go_roundw
     case rel=>exact ⟨k+1,by omega,by go_num,He,HB5⟩
     case measure=>simp[intOf];omega
    have hb2:=zAT h2
    rw[decide_eq_true h2,Bool.true_and] at Hst2
    clear h2
    cases u with
    | false=>
      have He:Hid (R=!((st.2.drop (k+1)).any (zA3 st.1 h s))):=by unfold Hid;rw[Hst2.out];rfl
      clear Hst2
      have r_d1:=cR d1
      have r_d2:=cR d2
      have r_x8:=cR x8
      have r_x9:=cR x9
      have r_y1:=cR y1
      have r_y2:=cR y2
      go_wp2_with fail
      refine wQ ?_
      repeat (go_big_quiet_step (first|fail))
      refine wpQuiet_nil fun w5 B5=>?_
      have HB5:=cH (Hbf.out _ B5)
      go_wp2_with fail
      go_roundw
      case rel=>exact ⟨k+1,by omega,by go_num,He,HB5⟩
      case measure=>simp[intOf];omega
    | true=>
    by_cases h3:ld≤lh
    ·have hI:(ld:Int) - 1<(lh:Int):=by omega
     have hId:decide ((ld:Int) - 1<(lh:Int))=true:=decide_eq_true hI
     have He:Hid (R=false):=by unfold Hid;rw[Hst2.out,decide_eq_true h3];rfl
     clear Hst2
     have r_d1:=cR d1
     have r_d2:=cR d2
     have r_x8:=cR x8
     have r_x9:=cR x9
     have r_y1:=cR y1
     have r_y2:=cR y2
     go_wp2_with fail
     refine wQ ?_
     repeat (go_big_quiet_step (first|fail))
     refine wpQuiet_nil fun w5 B5=>?_
     have HB5:=cH (Hbf.out _ B5)
     go_wp2_with fail
     go_ret
     exact ⟨zAB He.out.symm,HB5.out⟩
    ·have hI:¬(ld:Int) - 1<(lh:Int):=by omega
     have hId:decide ((ld:Int) - 1<(lh:Int))=false:=decide_eq_false hI
     have He:Hid (R=!((st.2.drop (k+1)).any (zA3 st.1 h s))):=by unfold Hid;rw[Hst2.out,decide_eq_false h3];rfl
     clear Hst2
     have r_d1:=cR d1
     have r_d2:=cR d2
     have r_x8:=cR x8
     have r_x9:=cR x9
     have r_y1:=cR y1
     have r_y2:=cR y2
     go_wp2_with fail
     refine wQ ?_
     repeat (go_big_quiet_step (first|fail))
     refine wpQuiet_nil fun w5 B5=>?_
     have HB5:=cH (Hbf.out _ B5)
     go_wp2_with fail
     go_roundw
     case rel=>exact ⟨k+1,by omega,by go_num,He,HB5⟩
     case measure=>simp[intOf];omega
  have hkn:(k:Int)<(n:Int):=by omega
  have Hst2:=cH (heq.out.trans (congrArg (·&&!TB) ((zMU (q:=lowD st.1 h f s) (Hat.out k hlt)).trans (congrArg (·&&(st.1.drop (k+1)).all (lowD st.1 h f s)) (H2.out k hlt)))))
  have HA1:=cH (HAb.out wr h k hbel.out hh hlt)
  have HA2:Hid (∀ W,Below wr.heap.size wr W→_):=fun W hW=>HAb.out W k f (bot hbel.out hW) hlt hf
  have HI1:Hid (∀ W,Below w.heap.size w W→_):=fun W hW=>HIn.out W k hW hlt
  clear heq
  generalize zAl (zAE st.1 k) (zAE st.1 h)=u1 at *
  generalize zAl (zAE st.1 f) (zAE st.1 k)=u2 at *
  go_wp2_with fail
  refine HA1.out.mono ?_
  rintro e w3 ⟨rfl,B3⟩
  have HB3:=cH (bot hbel.out B3)
  have HA3:=cH (HA2.out w3 B3)
  clear B3 HA1 HA2 x8 x9
  go_wp2_with fail
  refine HA3.out.mono ?_
  rintro e w4 ⟨rfl,B4⟩
  have HB4:=cH (bot HB3.out B4)
  clear B4 HA3 HB3
  obtain ⟨x8,x9⟩:=HX.out w4 HB4.out
  have Hbf:Hid (∀ W,Below w4.heap.size w4 W→Below w.heap.size w W):=fun W hW=>bot HB4.out hW
  go_upto_region 9 with (fail)
  by_cases hu:u1=true∧u2=true
  case neg=>
   have He:Hid (R=((st.1.drop (k+1)).all (lowD st.1 h f s)&&!TB)):=by
    unfold Hid;rw[Hst2.out]
    cases u1 with
    | false=>rfl
    | true=>cases u2 with
      | false=>rfl
      | true=>exact absurd ⟨rfl,rfl⟩ hu
   clear Hst2
   cases u1 with
   | false=>
     have r_x8:=cR x8
     go_wp2_with fail
     refine wQ ?_
     repeat (go_big_quiet_step (first|fail))
     refine wpQuiet_nil fun w5 B5=>?_
     have HB5:=cH (Hbf.out _ B5)
     go_wp2_with fail
     go_roundw
     case rel=>exact ⟨k+1,by omega,by go_num,He,HB5⟩
     case measure=>simp[intOf];omega
   | true=>
   cases u2 with
   | true=>exact absurd ⟨rfl,rfl⟩ hu
   | false=>
     have r_x8:=cR x8
     go_wp2_with fail
     refine wQ ?_
     repeat (go_big_quiet_step (first|fail))
     refine wpQuiet_nil fun w5 B5=>?_
     have HB5:=cH (Hbf.out _ B5)
     go_wp2_with fail
     go_roundw
     case rel=>exact ⟨k+1,by omega,by go_num,He,HB5⟩
     case measure=>simp[intOf];omega
  obtain ⟨rfl,rfl⟩:=hu
  rw[Bool.true_and,Bool.true_and] at Hst2
  have HF2:Hid (∀ W (B:Option Addr) (m d:Nat),Below w.heap.size w W→SlV rStr W (fun _=>True) (zAE st.1 k++[s]) (.slice B m d)→Calls Tryz.prog 93 #[.agg #[.slice (some ⟨b,o,none⟩) n c],.slice B m d] W fun e w'=>e=.returned (.int .i64 (findI st.1 (zAE st.1 k++[s])))∧Below W.heap.size W w'):=fun W B m d hW hp=>HFi.out W B m d _ hW hp
  have HX8:Hid (∀ W,Below w.heap.size w W→W.cell? ⟨PB,8,none⟩=some (.slice (some ⟨b,o,none⟩) n c)):=fun W hW=>(HX.out W hW).1
  generalize findI st.1 (zAE st.1 k++[s])=fi at *
  generalize zAE st.1 k++[s]=jp at *
  generalize (zAE st.1 k).length=lk at *
  go_region_held3 (fun w'=>w'.cell? ⟨PB,8,none⟩=some (.slice (some ⟨b,o,none⟩) n c)∧Below w.heap.size w w')
   (first
     | exact ⟨x8,HB4.out.drew⟩
     | (go_split_ands;exact keep8 (by assumption) (by assumption) HX8.out))
   (first
     | (go_at_call 102;go_split_ands;with_reducible refine (HI1.out _ (by assumption)).mono ?_;rintro e w5 ⟨vA,vc,rfl,hv,hb2⟩)
     | (go_at_call 93;go_split_ands;with_reducible refine (HF2.out _ _ _ _ (by assumption) (by assumption)).mono ?_;rintro e w6 ⟨rfl,hb3⟩))
  all_goals
   have HBw:Hid (Below w.heap.size w w6):=by (go_split_ands;assumption)
   by_cases hfi:0≤fi
   ·have He:Hid (R=false):=by unfold Hid;rw[Hst2.out,decide_eq_true hfi];rfl
    clear Hst2
    go_wp2_with fail
    go_ret
    exact ⟨zAB He.out.symm,HBw.out⟩
   ·have hfk:decide (0≤fi)=false:=decide_eq_false hfi
    have He:Hid (R=((st.1.drop (k+1)).all (lowD st.1 h f s)&&!TB)):=by unfold Hid;rw[Hst2.out,hfk];rfl
    clear Hst2
    go_wp2_with fail
    go_roundw
    case rel=>exact ⟨k+1,by omega,by go_num,He,HBw⟩
    case measure=>simp[intOf];omega
theorem zJD (C:DlCtx) (hC:C.Ok) (w:World) (st:PlSt) (hw:DlWd C w st) (h:Nat) (hh:h<st.1.length) (s:ByteArray) (hs:s.size≤maxLen) (hlen:∀ d∈st.1,d.path.length≤1024) (x:Pack) (dA:Option Addr) (dn dc:Nat) (eA:Option Addr) (en ec:Nat) (fA:Option Addr) (fn fc:Nat)
  (hv:PackV w (fun _=>True) x (.agg #[.string x.name,.int .i64 x.ver.major,.int .i64 x.ver.minor,.int .i64 x.ver.patch,.slice dA dn dc,.slice eA en ec,.slice fA fn fc])) :
  Calls Tryz.prog 101 #[.pointer (some ⟨C.P,0,none⟩),.int .i64 (h:Int),.string s,.agg #[.string x.name,.int .i64 x.ver.major,.int .i64 x.ver.minor,.int .i64 x.ver.patch,.slice dA dn dc,.slice eA en ec,.slice fA fn fc]] w fun e w'=>e=.returned (.bool (zAk C.q.old (zAE st.1 h++[s]) x))∧Below w.heap.size w w':=by
 obtain ⟨A,c,A',c',hr⟩:=hw.read
 have hPl:(zAE st.1 h).length≤1024:=hlen _ (mG (zAa hh))
 have HIn:Hid (∀ W,Below w.heap.size w W→Calls Tryz.prog 102 #[.pointer (some ⟨C.P,0,none⟩),.int .i64 (h:Int),.string s] W fun e w'=>∃ (A:Option Addr) (c:Nat),e=.returned (.slice A ((zAE st.1 h).length+1) c)∧SlV rStr w' (fun _=>True) (zAE st.1 h++[s]) (.slice A ((zAE st.1 h).length+1) c)∧Below W.heap.size W w'):=fun W hW=>
  (zDh C W st (hw.keep hW) h hh s hs (by omega)).mono fun e w' ⟨A,c,h1,h2,h3⟩=>⟨A,c,h1,h2.more fun _ _ _=>trivial,h3⟩
 have HOl:Hid (∀ W,Below w.heap.size w W→SlV rDir W (fun b=>b<C.w0.heap.size) C.ol (.slice C.oA C.on C.oc)):=fun W hW=>(hC.o.belowSize hw.base).belowSize hW
 have HFi:Hid (∀ W (B:Option Addr) (m d:Nat),Below w.heap.size w W→SlV rStr W (fun _=>True) (zAE st.1 h++[s]) (.slice B m d)→Calls Tryz.prog 93 #[.agg #[.slice C.oA C.on C.oc],.slice B m d] W fun e w'=>e=.returned (.int .i64 (findI C.ol (zAE st.1 h++[s])))∧Below W.heap.size W w'):=fun W B m d hW hp=>zCF _ _ _ _ _ _ C.ol _ W _ _ (HOl.out W hW) hp
 have HX:Hid (∀ W,Below w.heap.size w W→W.cell? ⟨C.P,6,none⟩=some (.slice C.oA C.on C.oc)):=fun W hW=>zAA hW hr.c6 hr.hP
 have HX7:Hid (∀ W,Below w.heap.size w W→W.cell? ⟨C.P,7,none⟩=some (.bool C.like)):=fun W hW=>zAA hW hr.c7 hr.hP
 have HV:=cH hv
 have HR0:Hid (C.like=false→zAk C.q.old (zAE st.1 h++[s]) x=false):=fun hl=>by rw[hC.old,hl];rfl
 have HR1:Hid (C.like=true→zAk C.q.old (zAE st.1 h++[s]) x=(decide (0≤findI C.ol (zAE st.1 h++[s]))&&eqB (dirAt C.ol (findI C.ol (zAE st.1 h++[s])).toNat).pack x)):=fun hl=>by rw[hC.old,hl];rfl
 have HFr:Hid (findI C.ol (zAE st.1 h++[s])<(C.ol.length:Int)):=by
  unfold Hid
  rcases Int.lt_or_le (findI C.ol (zAE st.1 h++[s])) 0 with hl|hl
  ·omega
  ·obtain ⟨j,hj⟩:∃ j:Nat,findI C.ol (zAE st.1 h++[s])=(j:Int):=⟨(findI C.ol (zAE st.1 h++[s])).toNat,by omega⟩
   have:=(zDV hj).1
   omega
 have Hon:=cH hC.o.n_eq
 have hocap:=zAi hC.o
 have hPz:=hr.hP
 clear hr hw hC hv hlen
 generalize zAk C.q.old (zAE st.1 h++[s]) x=R at *
 generalize findI C.ol (zAE st.1 h++[s])=fi at *
 generalize zAE st.1 h++[s]=jp at *
 generalize (zAE st.1 h).length=lp at *
 generalize C.oA=oA at *
 generalize C.on=on at *
 generalize C.oc=oc at *
 generalize C.like=lk at *
 generalize C.P=PB at *
 generalize x.name=xn at *
 generalize x.ver.major=x1 at *
 generalize x.ver.minor=x2 at *
 generalize x.ver.patch=x3 at *
 go_enter Tryz.func101,Tryz.ntmps101
 go_upto_region 1 with (fail)
 obtain ⟨w1,hw1⟩:∃ w1,w1=w.alloc (.cells #[.string xn,.int .i64 x1,.int .i64 x2,.int .i64 x3,.slice dA dn dc,.slice eA en ec,.slice fA fn fc] 52):=⟨_,rfl⟩
 have hq1:w1.heap[w.heap.size]?=some (.cells #[.string xn,.int .i64 x1,.int .i64 x2,.int .i64 x3,.slice dA dn dc,.slice eA en ec,.slice fA fn fc] 52 (0,0)):=by rw[hw1];exact zAD _ _
 have hB1:Below w.heap.size w w1:=by rw[hw1];exact bal (bR _ _) _
 rw[←hw1]
 obtain ⟨QB,hQB⟩:∃ k,k=w.heap.size:=⟨_,rfl⟩
 rw[←hQB] at hq1 ⊢
 have HQ:=cH hq1
 have HB1:=cH hB1
 have x7:=HX7.out w1 hB1
 clear hw1 hQB hq1 hB1
 cases lk with
 | false=>
   have Hr:=cH (HR0.out rfl)
   clear HR0 HR1
   go_wp2_with fail
   go_ret
   exact ⟨zAB Hr.out.symm,HB1.out⟩
 | true=>
 have HR2:=cH (HR1.out rfl)
 clear HR0 HR1
 have x6:=HX.out w1 HB1.out
 go_upto_region 3 with (fail)
 go_region_held3 (fun w'=>w'.cell? ⟨PB,6,none⟩=some (.slice oA on oc)∧Below w1.heap.size w1 w')
  (first
    | exact ⟨x6,(bR _ _).drew⟩
    | (go_split_ands;exact keep8 (w:=w1) (by assumption) (by assumption) (fun V hV=>HX.out V (bot HB1.out hV))))
  (first
    | (go_at_call 102;go_split_ands;with_reducible refine (HIn.out _ (bot HB1.out (by assumption))).mono ?_;rintro e w5 ⟨vA,vc,rfl,hv,hb2⟩)
    | (go_at_call 93;go_split_ands;with_reducible refine (HFi.out _ _ _ _ (bot HB1.out (by assumption)) (by assumption)).mono ?_;rintro e w6 ⟨rfl,hb3⟩))
 all_goals
  have HBw:Hid (Below w1.heap.size w1 w6):=by (go_split_ands;assumption)
  have HBx:=cH (bot HB1.out HBw.out)
  clear x6 x7
  by_cases hfi:0≤fi
  case neg=>
   have hI:fi<0:=by omega
   have Hr:Hid (R=false):=by unfold Hid;rw[HR2.out,decide_eq_false hfi];rfl
   clear HR2
   go_wp2_with fail
   go_ret
   exact ⟨zAB Hr.out.symm,HBx.out⟩
  obtain ⟨j,hj⟩:∃ j:Nat,fi=(j:Int):=⟨fi.toNat,by omega⟩
  subst hj
  have hjl:j<C.ol.length:=by have:=HFr.out;omega
  have hjn:(j:Int)<(on:Int):=by have:=Hon.out;omega
  have hj0:¬(j:Int)<0:=by omega
  obtain ⟨b,o,gA,gc,hA,hc,kA,kc,hoA,hb,y1,y2,y3,y4,y5,y6,y7,hpv⟩:=zIx (HOl.out w6 HBx.out) (zAa hjl)
  have HA:=cH hoA
  have x6:=HX.out w6 HBx.out
  rw[hoA] at x6
  clear hoA
  have hq6:=(HBw.out.block _ (aS.1 HQ.out).1).trans HQ.out
  have p0:=cO _ _ 0 _ _ _ hq6
  have p1:=cO _ _ 1 _ _ _ hq6
  have p2:=cO _ _ 2 _ _ _ hq6
  have p3:=cO _ _ 3 _ _ _ hq6
  have p4:=cO _ _ 4 _ _ _ hq6
  have p5:=cO _ _ 5 _ _ _ hq6
  have p6:=cO _ _ 6 _ _ _ hq6
  have HSm:=cH (qcall (w:=w6) (fun W hW=>zCm (dirAt C.ol j).pack x _ _ W _ _ (hpv.keep hW) (HV.out.keep (bot HBx.out hW))))
  have HR3:Hid (R=eqB (dirAt C.ol j).pack x):=by unfold Hid;rw[HR2.out,decide_eq_true hfi,Int.toNat_natCast];rfl
  clear HR2 hpv hq6
  generalize eqB (dirAt C.ol j).pack x=v at *
  generalize (dirAt C.ol j).pack.deps.length=l1 at *
  generalize (dirAt C.ol j).pack.peers.length=l2 at *
  generalize (dirAt C.ol j).pack.opts.length=l3 at *
  generalize (dirAt C.ol j).pack.name=yn at *
  generalize (dirAt C.ol j).pack.ver.major=z1 at *
  generalize (dirAt C.ol j).pack.ver.minor=z2 at *
  generalize (dirAt C.ol j).pack.ver.patch=z3 at *
  go_upto_region 6 with (fail)
  have r_x6:=cR x6
  have r_p0:=cR p0
  have r_p1:=cR p1
  have r_p2:=cR p2
  have r_p3:=cR p3
  have r_p4:=cR p4
  have r_p5:=cR p5
  have r_p6:=cR p6
  have r_y1:=cR y1
  have r_y2:=cR y2
  have r_y3:=cR y3
  have r_y4:=cR y4
  have r_y5:=cR y5
  have r_y6:=cR y6
  have r_y7:=cR y7
  go_wp2_with fail
  refine wQ ?_
  repeat (go_big_quiet_step (first|(with_reducible exact HSm.out _ _)))
  refine wpQuiet_nil fun w7 B7=>?_
  go_wp2_with fail
  go_ret
  exact ⟨zAB HR3.out.symm,bot HBx.out B7⟩
theorem zHe (T:List Dir) (S:List Stl) (old:Option (List Dir)) (f:Nat) (s:ByteArray) (x:Pack) (k:Nat) (b:Int) (lk:Bool) (h:zCi T S old f s x k=(b,lk)) :
  zCi T S old f s x (k+1)=if spotD T S k f s=true∧((zAk old (zAE T k++[s]) x=true∧lk=false)∨(zAk old (zAE T k++[s]) x=lk∧(decide (b<0)||decide ((zAE T k).length<(zAE T b.toNat).length))=true)) then ((k:Int),zAk old (zAE T k++[s]) x) else (b,lk):=by
 rw[zCi,h]
 rfl
theorem zLE (C:DlCtx) (hC:C.Ok) (w:World) (st:PlSt) (hw:DlWd C w st) (f tn:Nat) (hf:f<st.1.length) {n:Node} (hn:C.q.g[tn]?=some n) {x:Pack} (hx:C.q.ps[tn]?=some x) (hlen:∀ d∈st.1,d.path.length≤1024) (hst:∀ x∈st.2,x.frm<st.1.length∧x.dst<st.1.length) :
  Calls Tryz.prog 59 #[.pointer (some ⟨C.P,0,none⟩),.int .i64 (f:Int),.int .i64 (tn:Int)] w fun e w'=>e=.returned (.int .i64 (bestI st.1 st.2 C.q.old f n.name x))∧Below w.heap.size w w':=by
 have HW:=cH hw
 have hbase:=hw.base
 obtain ⟨A,c,A',c',hr⟩:=hw.read
 obtain ⟨hl1,hl2⟩:=hr.len
 obtain ⟨gb,go,xA,xc,eA,ec,hgA,hgb,hgn,n0,n1,n2,n3,n4,n5,hctx,hedg,hnsz⟩:=hr.node hC hbase hn
 obtain ⟨pb,po,dA,dc,kA,kc,fA,fc,hpA,hpb,hpn,k0,k1,k2,k3,k4,k5,k6,hpv,_⟩:=hr.pack hC hbase hx
 have hgcap:=zAi hC.g
 have hpcap:=zAi hC.p
 have hPz:=hr.hP
 have hgw:gb<w.heap.size:=lL hgb hbase.size
 have hpw:pb<w.heap.size:=lL hpb hbase.size
 have x0:=hr.c0
 rw[hgA] at x0
 have HSp:Hid (∀ W (i:Nat),Below w.heap.size w W→i<st.1.length→Calls Tryz.prog 100 #[.pointer (some ⟨C.P,0,none⟩),.int .i64 (i:Int),.int .i64 (f:Int),.string n.name] W fun e w'=>e=.returned (.bool (spotD st.1 st.2 i f n.name))∧Below W.heap.size W w'):=fun W i hW hi=>zKf C W st (hw.keep hW) i f hi hf n.name hnsz hlen hst
 have HLk:Hid (∀ W (i:Nat),Below w.heap.size w W→i<st.1.length→Calls Tryz.prog 101 #[.pointer (some ⟨C.P,0,none⟩),.int .i64 (i:Int),.string n.name,.agg #[.string x.name,.int .i64 x.ver.major,.int .i64 x.ver.minor,.int .i64 x.ver.patch,.slice dA x.deps.length dc,.slice kA x.peers.length kc,.slice fA x.opts.length fc]] W fun e w'=>e=.returned (.bool (zAk C.q.old (zAE st.1 i++[n.name]) x))∧Below W.heap.size W w'):=fun W i hW hi=>by
  refine zJD C hC W st (hw.keep hW) i hi n.name hnsz hlen x dA _ dc kA _ kc fA _ fc ?_
  obtain ⟨A1,n1,c1,A2,n2,c2,A3,n3,c3,h1,h2,h3,h4,h5⟩:=hpv.keep hW
  exact ⟨A1,n1,c1,A2,n2,c2,A3,n3,c3,h1,h2,h3.more fun _ _ _=>trivial,h4.more fun _ _ _=>trivial,h5.more fun _ _ _=>trivial⟩
 have HX:Hid (∀ W,Below w.heap.size w W→W.cell? ⟨C.P,8,none⟩=some (.slice A st.1.length c)):=fun W hW=>zAA hW hr.c8 hPz
 have HP:Hid (∀ W,Below w.heap.size w W→W.cell? ⟨C.P,1,none⟩=some (.slice (some ⟨pb,po,none⟩) C.pn C.pc)∧W.cell? ⟨pb,po+tn * 7,none⟩=some (.string x.name)∧W.cell? ⟨pb,po+tn * 7+1,none⟩=some (.int .i64 x.ver.major)∧W.cell? ⟨pb,po+tn * 7+2,none⟩=some (.int .i64 x.ver.minor)∧W.cell? ⟨pb,po+tn * 7+3,none⟩=some (.int .i64 x.ver.patch)∧W.cell? ⟨pb,po+tn * 7+4,none⟩=some (.slice dA x.deps.length dc)∧W.cell? ⟨pb,po+tn * 7+5,none⟩=some (.slice kA x.peers.length kc)∧W.cell? ⟨pb,po+tn * 7+6,none⟩=some (.slice fA x.opts.length fc)):=fun W hW=>
  ⟨by rw[←hpA];exact zAA hW hr.c1 hPz,zAA hW k0 hpw,zAA hW k1 hpw,zAA hW k2 hpw,zAA hW k3 hpw,zAA hW k4 hpw,zAA hW k5 hpw,zAA hW k6 hpw⟩
 have HD:Hid (∀ W (a:Nat),Below w.heap.size w W→a<st.1.length→∃ b o pA pc,A=some ⟨b,o,none⟩∧W.cell? ⟨b,o+a * 9,none⟩=some (.slice pA (zAE st.1 a).length pc)):=fun W a hW ha=>by
  obtain ⟨b',o',pA,pc,hA',_,y,_⟩:=(hr.keep hW).dir (zAa ha)
  exact ⟨b',o',pA,pc,hA',y⟩
 have HSt:Hid (∀ (k:Nat) (b:Int) (lk:Bool),zCi st.1 st.2 C.q.old f n.name x k=(b,lk)→zCi st.1 st.2 C.q.old f n.name x (k+1)=if spotD st.1 st.2 k f n.name=true∧((zAk C.q.old (zAE st.1 k++[n.name]) x=true∧lk=false)∨(zAk C.q.old (zAE st.1 k++[n.name]) x=lk∧(decide (b<0)||decide ((zAE st.1 k).length<(zAE st.1 b.toNat).length))=true)) then ((k:Int),zAk C.q.old (zAE st.1 k++[n.name]) x) else (b,lk)):=fun k b lk h=>zHe _ _ _ _ _ _ k b lk h
 have HR:Hid (bestI st.1 st.2 C.q.old f n.name x=(zCi st.1 st.2 C.q.old f n.name x st.1.length).1):=rfl
 have HR0:Hid (zCi st.1 st.2 C.q.old f n.name x 0=(-1,false)):=rfl
 have HPt:Hid (∀ i,i<st.1.length→(zAE st.1 i).length≤1024):=fun i hi=>hlen _ (mG (zAa hi))
 clear hr hw hC hn hx hlen hst hbase hgA hpA hctx hedg hpv k0 k1 k2 k3 k4 k5 k6 n1 n2 n3 n4 n5
 obtain ⟨N,hN⟩:∃ N,N=st.1.length:=⟨_,rfl⟩
 rw[←hN] at hf hl1 HSp HLk HX HD HR HPt
 clear hN
 generalize bestI st.1 st.2 C.q.old f n.name x=R at *
 generalize zCi st.1 st.2 C.q.old f n.name x=BG at *
 generalize C.P=PB at *
 generalize C.gn=gn at *
 generalize C.pn=pn at *
 generalize x.deps.length=l1 at *
 generalize x.peers.length=l2 at *
 generalize x.opts.length=l3 at *
 generalize n.name=s at *
 have ht0:(0:Int)≤(tn:Int):=by omega
 have htg:(tn:Int)<(gn:Int):=by omega
 have htp:(tn:Int)<(pn:Int):=by omega
 go_enter Tryz.func59,Tryz.ntmps59
 go_wp2_with fail
 clear x0 n0
 go_loopw [8,9,10] (fun bv lv t wr=>∃ (k:Nat) (bs:Int) (lk:Bool),k≤N∧bv=.int .i64 bs∧lv=.bool lk∧t=.int .i64 k∧Hid (BG k=(bs,lk))∧Hid (bs<(k:Int)∧-1≤bs)∧Hid (Below w.heap.size w wr)) (fun _ _ t _=>N - (intOf t).toNat)
 case atStart=>exact ⟨0,-1,false,nZ _,rfl,rfl,rfl,HR0,⟨by decide,by decide⟩,bR _ _⟩
 case round=>
  clear HR0
  obtain ⟨k,bs,lk,hk,rfl,rfl,rfl,hBG,hbs,hbel⟩:=hrel
  have hk0:(0:Int)≤(k:Int):=by omega
  have x8:=HX.out wr hbel.out
  by_cases hlt:k<N
  case neg=>
   have hkN:k=N:=by omega
   have Hr:Hid (R=bs):=by unfold Hid;rw[HR.out,←hkN,hBG.out]
   have hI:¬(k:Int)<(N:Int):=by omega
   clear hBG hkN HR
   go_wp2_with fail
   go_ret
   exact ⟨zAS Hr.out.symm,hbel.out⟩
  have hkn:(k:Int)<(N:Int):=by omega
  have Hs:=cH (HSp.out wr k hbel.out hlt)
  have Hl:Hid (∀ W,Below wr.heap.size wr W→_):=fun W hW=>HLk.out W k (bot hbel.out hW) hlt
  have Hst:=cH (HSt.out k bs lk hBG.out)
  have hpk:=HPt.out k hlt
  clear hBG
  generalize spotD st.1 st.2 k f s=ok at *
  generalize zAk C.q.old (zAE st.1 k++[s]) x=lb at *
  go_wp2_with fail
  refine Hs.out.mono ?_
  rintro e w3 ⟨rfl,B3⟩
  have HB3:=cH (bot hbel.out B3)
  have Hl3:=cH (Hl.out w3 B3)
  clear B3 Hs Hl x8
  obtain ⟨p,p0,p1,p2,p3,p4,p5,p6⟩:=HP.out w3 HB3.out
  go_wp2_with fail
  refine Hl3.out.mono ?_
  rintro e w4 ⟨rfl,B4⟩
  have HB4:=cH (bot HB3.out B4)
  clear B4 Hl3 p p0 p1 p2 p3 p4 p5 p6 HB3
  have x8:=HX.out w4 HB4.out
  obtain ⟨b,o,qA,qc,hA,y1⟩:=HD.out w4 k HB4.out hlt
  have HA:=cH hA
  rw[hA] at x8
  clear hA
  have Hbf:Hid (∀ W,Below w4.heap.size w4 W→Below w.heap.size w W):=fun W hW=>bot HB4.out hW
  have hbs1:=hbs.out.1
  have hbs2:=hbs.out.2
  go_upto_region 9 with (fail)
  obtain ⟨nr,hnr⟩:∃ nr,nr=(decide (bs<0)||decide ((zAE st.1 k).length<(zAE st.1 bs.toNat).length)):=⟨_,rfl⟩
  rw[←hnr] at Hst
  have Hnr:=cH hnr
  clear hnr
  go_cut [13] from 49 to 73 (fun bv wx=>bv=.bool nr∧Hid (Below w.heap.size w wx))
  case first=>
   by_cases h1:bs<0
   case pos=>
    have hId:decide (bs<0)=true:=decide_eq_true h1
    have Hq:Hid (nr=true):=by unfold Hid;rw[Hnr.out,hId,Bool.true_or]
    clear Hst Hnr
    have r_x8:=cR x8
    have r_y1:=cR y1
    go_wp2_with fail
    refine wQ ?_
    repeat (go_big_quiet_step (first|fail))
    refine wpQuiet_nil fun w5 B5=>?_
    have HB5:=cH (Hbf.out _ B5)
    go_wp2_with fail
    go_meet
    exact ⟨by rw[Hq.out],HB5⟩
   obtain ⟨j,hj⟩:∃ j:Nat,bs=(j:Int):=⟨bs.toNat,by omega⟩
   have hjN:j<N:=by omega
   obtain ⟨b2,o2,rA,rc,hA2,y2⟩:=HD.out w4 j HB4.out hjN
   rw[HA.out] at hA2
   injection hA2 with hA2
   injection hA2 with hb2 ho2 _
   subst hb2 ho2
   have Hq:Hid (nr=decide ((zAE st.1 k).length<(zAE st.1 j).length)):=by unfold Hid;rw[Hnr.out,decide_eq_false h1,Bool.false_or,hj,Int.toNat_natCast]
   have hId2:decide ((j:Int)<0)=false:=decide_eq_false (by omega)
   have hj0:(0:Int)≤(j:Int):=by omega
   have hjI:(j:Int)<(N:Int):=by omega
   have hpj:=HPt.out j hjN
   subst hj
   clear Hst h1 hbs Hnr
   generalize (zAE st.1 k).length=lp at *
   generalize (zAE st.1 j).length=lj at *
   by_cases h2:lp<lj
   ·have hI:(lp:Int)<(lj:Int):=by omega
    have hD:decide ((lp:Int)<(lj:Int))=true:=decide_eq_true hI
    have Hq2:=cH (Hq.out.trans (decide_eq_true h2))
    have r_x8:=cR x8
    have r_y1:=cR y1
    have r_y2:=cR y2
    go_wp2_with fail
    refine wQ ?_
    repeat (go_big_quiet_step (first|fail))
    refine wpQuiet_nil fun w5 B5=>?_
    have HB5:=cH (Hbf.out _ B5)
    go_wp2_with fail
    go_meet
    exact ⟨by rw[Hq2.out],HB5⟩
   ·have hI:¬(lp:Int)<(lj:Int):=by omega
    have hD:decide ((lp:Int)<(lj:Int))=false:=decide_eq_false hI
    have Hq2:=cH (Hq.out.trans (decide_eq_false h2))
    have r_x8:=cR x8
    have r_y1:=cR y1
    have r_y2:=cR y2
    go_wp2_with fail
    refine wQ ?_
    repeat (go_big_quiet_step (first|fail))
    refine wpQuiet_nil fun w5 B5=>?_
    have HB5:=cH (Hbf.out _ B5)
    go_wp2_with fail
    go_meet
    exact ⟨by rw[Hq2.out],HB5⟩
  case rest=>
  obtain ⟨hbv,HB5⟩:=hcut
  subst hbv
  clear x8 y1 Hnr
  have HB5':Hid (Below w.heap.size w wc):=HB5
  cases ok<;>cases lb<;>cases lk<;>cases nr
  all_goals
   go_wp2_with fail
   go_roundw
   case rel=>
    first
     | exact ⟨k+1,bs,_,by omega,rfl,rfl,by go_num,by have h:=Hst.out;unfold Hid;simpa using h,⟨by omega,by omega⟩,HB5'⟩
     | exact ⟨k+1,(k:Int),_,by omega,rfl,rfl,by go_num,by have h:=Hst.out;unfold Hid;simpa using h,⟨by omega,by omega⟩,HB5'⟩
   case measure=>simp[intOf];omega
