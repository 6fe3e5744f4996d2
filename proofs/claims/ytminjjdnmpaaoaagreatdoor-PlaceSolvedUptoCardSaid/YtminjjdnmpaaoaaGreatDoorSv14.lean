/- The program's placer: a directory more: walked. -/
import Derived.Test.YtminjjdnmpaaoaaGreatDoorSv13
import Derived.Test.YtminjjdnmpaaoaaGreatDoorSv09
import Derived.Deep.CutRange
import Derived.Test.YtminjjdnmpaaoaaGreatDoorSv10
import Derived.Test.YtminjjdnmpaaoaaGreatDoorAl
set_option linter.all false
set_option maxHeartbeats 6400000
set_option maxRecDepth 100000
namespace Go.Proofs.YtminjjdnmpaaoaaGreatDoor
open Go.Rows Go.RowKit Go.Shelf Go.Sort
theorem PlP.rd {C:PlCtx} {w:World} {st:PlSt} {A:Option Addr} {c:Nat} {A':Option Addr} {c':Nat} {S:Nat→Prop} (h:PlP C w st A c A' c' S):PlRd C w st A c A' c':=
 have h1:w.heap[C.P]?=some (.cells #[.slice C.gA C.gn C.gc,.slice C.pA C.pn C.pc,.int .i64 C.dec,.int .i64 C.nod,.int .i64 C.q.dirs,.int .i64 C.q.path,C.ov,.slice A st.1.length c,.slice A' st.2.length c'] 78 (0,0)):=h.row
 ⟨cO _ _ 0 _ _ _ h1,cO _ _ 1 _ _ _ h1,cO _ _ 2 _ _ _ h1,cO _ _ 3 _ _ _ h1,cO _ _ 4 _ _ _ h1,cO _ _ 5 _ _ _ h1,cO _ _ 6 _ _ _ h1,cO _ _ 7 _ _ _ h1,cO _ _ 8 _ _ _ h1,h.T.slv.more fun _ _ _=>trivial,h.S'.slv.more fun _ _ _=>trivial,h.hP⟩
theorem zJY {w w2:World} {s:ByteArray} {t:TypeId} (h:Below (w.drew.alloc (.cells #[.string s] t)).heap.size (w.drew.alloc (.cells #[.string s] t)) w2):∀ (j:Nat) (u:Value),[Value.string s][j]?=some u→w2.cell? ((⟨w.drew.heap.size,0,none⟩:Addr).add j)=some u:=fun j u hu=>by
 have hh:=(h.block _ (aS.1 (zAD w.drew (.cells #[.string s] t))).1).trans (zAD w.drew (.cells #[.string s] t))
 cases j with
 | zero=>
   cases hu
   exact cO _ _ 0 _ _ _ hh
 | succ j=>simp at hu
theorem zMx (C:PlCtx) (hC:C.Ok) (w:World) (st:PlSt) (hw:PlWd C w st) (home nd:Nat) {d:Dir} (hd:st.1[home]?=some d) {x:Pack} (hx:C.q.ps[nd]?=some x) (hsm:zBR x) (hl:st.1.length≤257) (hpl:d.path.length≤1024) (hnd:nd≤1048576) :
  Calls Tryz.prog 81 #[.pointer (some ⟨C.P,0,none⟩),.int .i64 (home:Int),.int .i64 (nd:Int)] w fun e w'=>
   (∃ c,putP C.q st.1 home nd=.error c∧e=.returned (.tuple #[.int .i64 0,.int .i64 c])∧PlWd C w' st∧PlFr C w w')∨(∃ T,putP C.q st.1 home nd=.ok T∧e=.returned (.tuple #[.int .i64 (st.1.length:Int),.int .i64 0])∧PlWd C w' (T,st.2)∧PlFr C w w'):=by
 have hbase:=hw.base
 obtain ⟨A,c,A',c',S,hpp⟩:=hw.parts
 have hr:=hpp.rd
 have HP0:=cH hpp
 have HC:=cH hC
 have hHP:=hr.hP
 have x1:=hr.c1
 have x7:=hr.c7
 have ha:=(gS.1 hd).1
 obtain ⟨b,o,pA,pc,hA,hb,y0,_,hp,hpl1,hpm⟩:=hr.dir hd
 obtain ⟨pb,po,dA,dc,eA,ec,fA,fc,hpA,hpb,hndn,k0,k1,k2,k3,k4,k5,k6,hpv,i1,i2,i3⟩:=hr.pack hC hbase hx
 have hpcap:=zAi hC.p
 unfold maxLen at hpm
 rw[hpA] at x1
 have hxn:zA5 C.q nd=x:=by unfold zA5;rw[List.getD_eq_getElem?_getD,hx];rfl
 have hdp:=zBV hd
 have hxs:x.name.size≤maxLen:=by
  obtain ⟨_,_,_,_,_,_,_,_,_,_,h1,_⟩:=hpv
  exact h1
 have HPt:Hid (putP C.q st.1 home nd=if C.q.path<((textB (d.path++[x.name])).size:Int) then .error 40 else if C.q.dirs≤(st.1.length:Int) - 1 then .error 41 else .ok (st.1++[⟨d.path++[x.name],x,(nd:Int)⟩])):=by
  unfold Hid putP;rw[hxn,hdp]
 generalize putP C.q st.1 home nd=R at *
 have HPl:Hid (∀ W,Below w.heap.size w W→SlV rStr W (fun _=>True) d.path (.slice pA d.path.length pc)):=fun W hW=>hp.belowSize hW
 have HPk:Hid (∀ W,Below w.heap.size w W→Calls Tryz.prog 131 #[.agg #[.string x.name,.int .i64 x.ver.major,.int .i64 x.ver.minor,.int .i64 x.ver.patch,.slice dA x.deps.length dc,.slice eA x.peers.length ec,.slice fA x.opts.length fc]] W fun e w'=>∃ v',e=.returned v'∧PackV w' (fun b=>W.heap.size≤b∧FreeB w' b) x v'∧Below W.heap.size W w'):=fun W hW=>zIA x _ W _ hsm (hpv.keep hW)
 have HI:Hid (∀ y:Pack,y=x→I64 y.ver.major∧I64 y.ver.minor∧I64 y.ver.patch):=by rintro y rfl;exact ⟨i1,i2,i3⟩
 have Hrow:Hid (∀ W,Below w.heap.size w W→W.cell? ⟨C.P,4,none⟩=some (.int .i64 C.q.dirs)∧W.cell? ⟨C.P,5,none⟩=some (.int .i64 C.q.path)∧W.cell? ⟨C.P,7,none⟩=some (.slice A st.1.length c)):=fun W hW=>⟨zAA hW hr.c4 hHP,zAA hW hr.c5 hHP,zAA hW hr.c7 hHP⟩
 have Hxs:=cH hxs
 subst hA
 clear hr hpp hw hC hbase hx hsm hp hpA hpv hxn hdp hd hxs i1 i2 i3
 obtain ⟨lp,hlp⟩:∃ m,m=d.path.length:=⟨_,rfl⟩
 obtain ⟨N,hN⟩:∃ N,N=st.1.length:=⟨_,rfl⟩
 rw[←hlp] at y0 hpl hpl1 HPl
 rw[←hN] at x7 ha hl Hrow HPt ⊢
 have Hlp:=cH hlp
 have HN:=cH hN
 clear hlp hN
 have ha0:(0:Int)≤(home:Int):=by omega
 have han:(home:Int)<(N:Int):=by omega
 have hj0:(0:Int)≤(nd:Int):=by omega
 have hjn:(nd:Int)<(C.pn:Int):=by omega
 have hwN:IntKind.i64.wrap ((N:Int) - 1)=(N:Int) - 1:=IntWalk.i64_in _ ⟨by omega,by omega⟩
 generalize x.name=s at *
 generalize x.ver.major=z1 at *
 generalize x.ver.minor=z2 at *
 generalize x.ver.patch=z3 at *
 obtain ⟨n4,hn4⟩:∃ m,m=x.deps.length:=⟨_,rfl⟩
 obtain ⟨n5,hn5⟩:∃ m,m=x.peers.length:=⟨_,rfl⟩
 obtain ⟨n6,hn6⟩:∃ m,m=x.opts.length:=⟨_,rfl⟩
 rw[←hn4] at k4 HPk
 rw[←hn5] at k5 HPk
 rw[←hn6] at k6 HPk
 clear hn4 hn5 hn6
 go_enter Tryz.func81,Tryz.ntmps81
 go_upto_region 2 with (fail)
 obtain ⟨w1,hw1⟩:∃ w1,w1=w.alloc (.cells #[.string s,.int .i64 z1,.int .i64 z2,.int .i64 z3,.slice dA n4 dc,.slice eA n5 ec,.slice fA n6 fc] 52):=⟨_,rfl⟩
 have hq1:w1.heap[w.heap.size]?=some (.cells #[.string s,.int .i64 z1,.int .i64 z2,.int .i64 z3,.slice dA n4 dc,.slice eA n5 ec,.slice fA n6 fc] 52 (0,0)):=by rw[hw1];exact zAD _ _
 have hB1:Below w.heap.size w w1:=by rw[hw1];exact bal (bR _ _) _
 rw[←hw1]
 have HB1:=cH hB1
 have Hq1:=cH hq1
 have hz1:w.heap.size<w1.heap.size:=(aS.1 hq1).1
 have v7:=zAA hB1 x7 hHP
 have v0:=zAA hB1 y0 hb
 have q0:=cO _ _ 0 _ _ _ hq1
 clear hw1 hq1 hB1 x1 x7 y0 k0 k1 k2 k3 k4 k5 k6
 have hcell1:C.P<w1.heap.size:=Nat.lt_trans hHP hz1
 have hcell2:b<w1.heap.size:=Nat.lt_trans hb hz1
 have HCl:Hid (∀ W,Below w1.heap.size w1 W→Calls Tryz.prog 129 #[.slice pA lp pc] W fun e w'=>∃ v,e=.returned v∧Own rStr w' W.heap.size 9 v d.path (fun _=>False)∧Below W.heap.size W w'):=fun W hW=>zEH pA lp pc d.path W _ (by rw[←Hlp.out];omega) (HPl.out W (bot HB1.out hW))
 obtain ⟨QB,hQB⟩:∃ k,k=w.heap.size:=⟨_,rfl⟩
 rw[←hQB] at q0 hz1 ⊢
 have HQB:=cH hQB
 clear hQB
 go_cut [9] from 17 to 30 (fun pv wx=>∃ (g cap:Nat),pv=.slice (some ⟨g,0,none⟩) (lp+1) cap∧Hid (SlV rStr wx (fun b=>w.heap.size≤b∧FreeB wx b) (d.path++[s]) pv)∧Hid (Below w1.heap.size w1 wx))
 case first=>
  go_region_law
   (first
    | (refine zBB (by rfl) _ _ _ (by rfl) zAp Tryz.underlying48 (by rfl) HO.out ⟨w1.drew.heap.size,0,none⟩ 1 [.string s] s (by rfl) ⟨rfl,Hxs.out⟩ HNb.out (by rw[←Hlp.out];unfold maxLen;omega) (by rw[←Hlp.out];omega) Hzb.out w2.heap.size rfl ?_;intro g cap w4 hown4 hgrow hat hg4;have HBg:=cH (show Below w1.heap.size w1 w4 from zAw HBc.out hgrow HO.out Hz1.out))
    | (refine zBB (by rfl) _ _ _ (by rfl) zAp Tryz.underlying48 (by rfl) (HO.out.alloc _) ⟨w2.heap.size,0,none⟩ 1 [.string s] s (by rfl) ⟨rfl,Hxs.out⟩ (zAd w2 #[.string s] _) (by rw[←Hlp.out];unfold maxLen;omega) (by rw[←Hlp.out];omega) (nT Hzb.out (by simp)) (w2.heap.size+1) (by simp) ?_;intro g cap w4 hown4 hgrow hat hg4;have HBg:=cH (show Below w1.heap.size w1 w4 from zAw (bal HBc.out _) hgrow (HO.out.alloc _) Hz1.out))
    | (go_simp;go_at_call 129;refine (HCl.out w1.drew (bR _ _).drew).mono ?_;rintro e w2 ⟨v2,rfl,hown2,hb2⟩;have HBc:=cH (show Below w1.heap.size w1 w2 from bot (bR _ _).drew hb2);have HO:=cH hown2;have Hzb:=cH (show w1.drew.heap.size≤w2.heap.size from hb2.size);have Hz1:=cH (show w1.heap.size≤w1.drew.heap.size from nR _);have v7:=zAA HBc.out v7 hcell1;have v0:=zAA HBc.out v0 hcell2;have q0:=zAA HBc.out q0 hz1;clear hown2 hb2)
    | (go_simp;go_at_call 129;refine (HCl.out (w1.drew.alloc (.cells #[.string s] 9)) (bal (bR _ _).drew _)).mono ?_;rintro e w2 ⟨v2,rfl,hown2,hb2⟩;have HNb:=cH (zJY hb2);have HBc:=cH (show Below w1.heap.size w1 w2 from bot (bal (bR _ _).drew _) hb2);have HO:=cH hown2;have Hzb:=cH (show (w1.drew.alloc (.cells #[.string s] 9)).heap.size≤w2.heap.size from hb2.size);have Hz1:=cH (show w1.heap.size≤(w1.drew.alloc (.cells #[.string s] 9)).heap.size by simp);have v7:=zAA HBc.out v7 hcell1;have v0:=zAA HBc.out v0 hcell2;have q0:=zAA HBc.out q0 hz1;clear hown2 hb2))
  all_goals
   go_wp2_with fail
   go_meet
   rw[←Hlp.out] at hown4 ⊢
   exact ⟨_,_,rfl,hown4.slvP.more fun b hb _=>by
    rcases hb with hb|hb
    ·exact hb.elim
    ·exact ⟨nT HB1.out.size (nT Hz1.out (hown4.lt b hb).1),hown4.free hb⟩,HBg.out⟩
 case rest=>
 obtain ⟨g,cap,rfl,Hsl,HBg⟩:=hcut
 have HBw:Hid (Below w.heap.size w wc):=bot HB1.out HBg.out
 have Hq4:Hid (wc.heap[QB]?=some (.cells #[.string s,.int .i64 z1,.int .i64 z2,.int .i64 z3,.slice dA n4 dc,.slice eA n5 ec,.slice fA n6 fc] 52 (0,0))):=by unfold Hid;rw[HQB.out];exact (HBg.out.block _ (by rw[←HQB.out];exact hz1)).trans Hq1.out
 clear HBg HCl v7 v0 q0 Hq1 HB1
 have hlen2:(d.path++[s]).length=lp+1:=by rw[List.length_append,←Hlp.out];rfl
 generalize d.path++[s]=np at *
 have HTx:Hid (∀ W,Below wc.heap.size wc W→Calls Tryz.prog 19 #[.slice (some ⟨g,0,none⟩) (lp+1) cap] W fun e w'=>e=.returned (.string (textB np))∧Below W.heap.size W w'):=fun W hW=>zCS _ _ _ np W (fun b=>b<W.heap.size) (fun b h=>h) (by rw[hlen2];omega) ((Hsl.out.belowSize hW).more fun b h h'=>h')
 obtain ⟨v4,v5,v7⟩:=Hrow.out wc HBw.out
 have HTq:=cH (qcall (w:=wc) HTx.out)
 generalize textB np=tx at *
 by_cases hc1:C.q.path<(tx.size:Int)
 ·have He:Hid (R=.error 40):=by unfold Hid;rw[HPt.out,if_pos hc1]
  have hc1d:decide (C.q.path<(tx.size:Int))=true:=decide_eq_true hc1
  clear HPt HTx
  have r_v5:=cR v5
  go_wp2_with fail
  refine wQ ?_
  repeat (go_big_quiet_step (first|(with_reducible exact HTq.out _ _)))
  refine wpQuiet_nil fun w5 B5=>?_
  have HB5:=cH (bot HBw.out B5)
  go_wp2_with fail
  go_ret2
  exact .inl ⟨_,He.out,rfl,(HP0.out.keep HB5.out).all,PlFr.below hHP HB5.out⟩
 have hc1d:decide (C.q.path<(tx.size:Int))=false:=decide_eq_false hc1
 have HPt2:Hid (R=if C.q.dirs≤(N:Int) - 1 then .error 41 else .ok (st.1++[⟨np,x,(nd:Int)⟩])):=by unfold Hid;rw[HPt.out,if_neg hc1]
 clear HPt HTx
 go_upto_region 3 with (fail)
 have r_v5:=cR v5
 go_wp2_with fail
 refine wQ ?_
 repeat (go_big_quiet_step (first|(with_reducible exact HTq.out _ _)))
 refine wpQuiet_nil fun w5 B5=>?_
 have HB5:=cH (bot HBw.out B5)
 have HB45:=cH B5
 clear r_v5 v4 v5 v7 B5 HTq
 obtain ⟨v4,v5,v7⟩:=Hrow.out w5 HB5.out
 by_cases hc2:C.q.dirs≤(N:Int) - 1
 ·have He:Hid (R=.error 41):=by unfold Hid;rw[HPt2.out,if_pos hc2]
  have hc2d:decide (C.q.dirs≤(N:Int) - 1)=true:=decide_eq_true hc2
  clear HPt2
  go_upto_region 5 with (fail)
  have r_v4:=cR v4
  have r_v7:=cR v7
  go_wp2_with fail
  refine wQ ?_
  repeat (go_big_quiet_step (first|fail))
  refine wpQuiet_nil fun w6 B6=>?_
  have HB6:=cH (bot HB5.out B6)
  go_wp2_with fail
  go_ret2
  exact .inl ⟨_,He.out,rfl,(HP0.out.keep HB6.out).all,PlFr.below hHP HB6.out⟩
 have hc2d:decide (C.q.dirs≤(N:Int) - 1)=false:=decide_eq_false hc2
 have He:Hid (R=.ok (st.1++[⟨np,x,(nd:Int)⟩])):=by unfold Hid;rw[HPt2.out,if_neg hc2]
 clear HPt2
 go_upto_region 5 with (fail)
 have r_v4:=cR v4
 have r_v7:=cR v7
 go_wp2_with fail
 refine wQ ?_
 repeat (go_big_quiet_step (first|fail))
 refine wpQuiet_nil fun w6 B6=>?_
 have HB6:=cH (bot HB5.out B6)
 have HB46:=cH (bot HB45.out B6)
 clear r_v4 r_v7 v4 v5 v7 B6 HB5 HB45 hc1d hc2d
 obtain ⟨v4,v5,v7⟩:=Hrow.out w6 HB6.out
 have hq6:=(HB46.out.block _ (aS.1 Hq4.out).1).trans Hq4.out
 have q0:=cO _ _ 0 _ _ _ hq6
 have q1:=cO _ _ 1 _ _ _ hq6
 have q2:=cO _ _ 2 _ _ _ hq6
 have q3:=cO _ _ 3 _ _ _ hq6
 have q4:=cO _ _ 4 _ _ _ hq6
 have q5:=cO _ _ 5 _ _ _ hq6
 have q6:=cO _ _ 6 _ _ _ hq6
 have Hsl6:Hid (SlV rStr w6 (fun b=>w.heap.size≤b∧FreeB w6 b) np (.slice (some ⟨g,0,none⟩) (lp+1) cap)):=(Hsl.out.belowSize HB46.out).more fun b hb _=>⟨hb.1,hb.2.keep HB46.out⟩
 have hzP:C.P<w6.heap.size:=lL hHP HB6.out.size
 clear hq6 v4 v5 Hq4 Hsl HB46
 go_upto_region 7 with (fail)
 have HP1:Hid (∀ (W:World) (ob:Obj),Below w6.heap.size w6 W→Own rDir (W.alloc ob) C.w0.heap.size 54 (.slice (some ⟨b,o,none⟩) st.1.length c) st.1 (fun b=>S b∨((w.heap.size≤b∧b<(W.alloc ob).heap.size)∧FreeB (W.alloc ob) b))):=fun W ob hW=>((HP0.out.keep (bot HB6.out hW)).T.alloc ob).moreFree (B:=w.heap.size) (fun k hk=>(HP0.out.T.lt k hk).2)
 have HH:Hid (∀ (W:World) (ob:Obj) (B1:Option Addr) (m1 b1:Nat) (B2:Option Addr) (m2 b2:Nat) (B3:Option Addr) (m3 b3:Nat),Below w6.heap.size w6 W→x.name.size≤maxLen→SlV rDep W (fun b=>w6.heap.size≤b∧FreeB W b) x.deps (.slice B1 m1 b1)→SlV rDep W (fun b=>w6.heap.size≤b∧FreeB W b) x.peers (.slice B2 m2 b2)→SlV rDep W (fun b=>w6.heap.size≤b∧FreeB W b) x.opts (.slice B3 m3 b3) →
   rDir.holds (W.alloc ob) (fun b=>S b∨((w.heap.size≤b∧b<(W.alloc ob).heap.size)∧FreeB (W.alloc ob) b)) ⟨np,x,(nd:Int)⟩ [.slice (some ⟨g,0,none⟩) (lp+1) cap,.string x.name,.int .i64 x.ver.major,.int .i64 x.ver.minor,.int .i64 x.ver.patch,.slice B1 m1 b1,.slice B2 m2 b2,.slice B3 m3 b3,.int .i64 (nd:Int)]):=fun W ob B1 m1 b1 B2 m2 b2 B3 m3 b3 hW hnm h1 h2 h3=>by
  have hws:=HB6.out.size
  obtain ⟨i1,i2,i3⟩:=HI.out x rfl
  exact ⟨_,_,_,_,rfl,((Hsl6.out.belowSize hW).alloc ob).more fun b hb hl=>.inr ⟨⟨hb.1,hl⟩,(hb.2.keep hW).alloc ob⟩,hnm,i1,i2,i3,(h1.alloc ob).more fun b hb hl=>.inr ⟨⟨nT hws hb.1,hl⟩,hb.2.alloc ob⟩,(h2.alloc ob).more fun b hb hl=>.inr ⟨⟨nT hws hb.1,hl⟩,hb.2.alloc ob⟩,(h3.alloc ob).more fun b hb hl=>.inr ⟨⟨nT hws hb.1,hl⟩,hb.2.alloc ob⟩,(show I64 (nd:Int) by unfold I64;omega)⟩
 have HPd:Hid (∀ (W w8:World) (ob:Obj) (g8 cap8:Nat),Below w6.heap.size w6 W→Own rDir w8 C.w0.heap.size 54 (.slice (some ⟨g8,0,none⟩) (st.1.length+1) cap8) (st.1++[⟨np,x,(nd:Int)⟩]) (fun b=>S b∨((w.heap.size≤b∧b<(W.alloc ob).heap.size)∧FreeB (W.alloc ob) b))→(W.alloc ob).grownBy w8 (Value.slice (some ⟨b,o,none⟩) st.1.length c).ownBlock→((Value.slice (some ⟨b,o,none⟩) st.1.length c).ownBlock=some g8∨g8=W.heap.size+1) →
   w8.heap[C.P]?=some (.cells (plRow C (.slice (some ⟨b,o,none⟩) st.1.length c) (.slice A' st.2.length c')) 78 (0,0))∧PlWd C (w8.setCell ⟨C.P,7,none⟩ (.slice (some ⟨g8,0,none⟩) (st.1.length+1) cap8)) (st.1++[⟨np,x,(nd:Int)⟩],st.2)∧PlFr C w (w8.setCell ⟨C.P,7,none⟩ (.slice (some ⟨g8,0,none⟩) (st.1.length+1) cap8))):=fun W w8 ob g8 cap8 hW hown hgrow hat=>by
  have hat2:(Value.slice (some ⟨b,o,none⟩) st.1.length c).ownBlock=some g8∨(W.alloc ob).heap.size≤g8:=by rcases hat with h|h;exact .inl h;exact .inr (by rw[h];simp)
  obtain ⟨h1,h2⟩:=HP0.out.push_dir HC.out (bal (bot HB6.out hW) ob) hown hgrow hat2
  exact ⟨h1,h2,(PlFr.below hHP (bal (bot HB6.out hW) ob)).trans ((HP0.out.keep (bal (bot HB6.out hW) ob)).fr7 hgrow hat2 h1)⟩
 have HOw:Hid (∀ W,Below w6.heap.size w6 W→Calls Tryz.prog 131 #[.agg #[.string s,.int .i64 z1,.int .i64 z2,.int .i64 z3,.slice dA n4 dc,.slice eA n5 ec,.slice fA n6 fc]] W fun e w'=>∃ B1 m1 b1 B2 m2 b2 B3 m3 b3,e=.returned (.agg #[.string x.name,.int .i64 x.ver.major,.int .i64 x.ver.minor,.int .i64 x.ver.patch,.slice B1 m1 b1,.slice B2 m2 b2,.slice B3 m3 b3])∧Hid (x.name.size≤maxLen∧SlV rDep w' (fun b=>w6.heap.size≤b∧FreeB w' b) x.deps (.slice B1 m1 b1)∧SlV rDep w' (fun b=>w6.heap.size≤b∧FreeB w' b) x.peers (.slice B2 m2 b2)∧SlV rDep w' (fun b=>w6.heap.size≤b∧FreeB w' b) x.opts (.slice B3 m3 b3))∧Below W.heap.size W w'):=fun W hW=>by
  refine (HPk.out W (bot HB6.out hW)).mono ?_
  rintro e w' ⟨v',rfl,⟨B1,m1,b1,B2,m2,b2,B3,m3,b3,rfl,h0,h1,h2,h3⟩,hb⟩
  exact ⟨B1,m1,b1,B2,m2,b2,B3,m3,b3,rfl,⟨h0,h1.more fun b hb _=>⟨nT hW.size hb.1,hb.2⟩,h2.more fun b hb _=>⟨nT hW.size hb.1,hb.2⟩,h3.more fun b hb _=>⟨nT hW.size hb.1,hb.2⟩⟩,hb⟩
 have hzc:C.w0.heap.size≤w6.heap.size:=nT HP0.out.base.size HB6.out.size
 have hzq:QB<w6.heap.size:=zAf q0
 have Hnd9:Hid ((nd:Int)=(nd:Int)):=rfl
 clear HPk HPl Hsl6
 go_cut [] from 55 to 70 (fun wx=>Hid (PlWd C wx (st.1++[⟨np,x,(nd:Int)⟩],st.2)∧PlFr C w wx))
 case first=>
  go_region_law
   (first
    | (refine zBB (by rfl) _ _ _ (by rfl) zDp Tryz.underlying31 (by rw[HN.out];rfl) (HP1.out w7 _ HB7.out) ⟨w7.heap.size,0,none⟩ 1 [.slice (some ⟨g,0,none⟩) (lp+1) cap,.string x.name,.int .i64 x.ver.major,.int .i64 x.ver.minor,.int .i64 x.ver.patch,.slice B1 m1 b1,.slice B2 m2 b2,.slice B3 m3 b3,.int .i64 (nd:Int)] ⟨np,x,(nd:Int)⟩ (by rfl) (HH.out w7 _ B1 m1 b1 B2 m2 b2 B3 m3 b3 HB7.out HV.out.1 HV.out.2.1 HV.out.2.2.1 HV.out.2.2.2) (zAd w7 #[.slice (some ⟨g,0,none⟩) (lp+1) cap,.string x.name,.int .i64 x.ver.major,.int .i64 x.ver.minor,.int .i64 x.ver.patch,.slice B1 m1 b1,.slice B2 m2 b2,.slice B3 m3 b3,.int .i64 (nd:Int)] _) (by rw[←HN.out];unfold maxLen;omega) (by rw[←HN.out];omega) (nT Hzc.out (by simp)) (w7.heap.size+1) (by simp) ?_;intro g8 cap8 w8 hown8 hgrow8 hat8 hg8;have HD:=cH (HPd.out w7 w8 _ g8 cap8 HB7.out hown8 hgrow8 hat8);have y7:w8.cell? ⟨C.P,7,none⟩=some (.slice (some ⟨b,o,none⟩) st.1.length c):=cO _ _ 7 _ _ _ HD.out.1;have f7:w8.frozen? ⟨C.P,7,none⟩=false:=zAZ HD.out.1;clear hown8 hgrow8 hat8)
    | (go_simp;go_at_call 131;refine (HOw.out w6.drew (bR _ _).drew).mono ?_;rintro e w7 ⟨B1,m1,b1,B2,m2,b2,B3,m3,b3,rfl,HV,hb7⟩;have HB7:=cH (show Below w6.heap.size w6 w7 from bot (bR _ _).drew hb7);have Hzc:=cH (show C.w0.heap.size≤w7.heap.size from nT hzc HB7.out.size);have v7:=zAA HB7.out v7 hzP;have e7:=fun ob=>(zAW (Below.heap_alloc w7 ob _ (zAf v7)) _ none).trans v7;clear hb7))
  all_goals
   go_wp2_with fail
   go_meet
   exact HD.out.2
 case rest=>
 have Hcut:=cH hcut.out
 obtain ⟨A9,c9,A9',c9',hr9⟩:=hcut.out.1.read
 have y7:=hr9.c7
 obtain ⟨M,hM⟩:∃ M,M=(st.1++[(⟨np,x,(nd:Int)⟩:Dir)]).length:=⟨_,rfl⟩
 have hMN:M=N+1:=by rw[hM,List.length_append,←HN.out];rfl
 simp only at y7
 rw[←hM] at y7
 have hwM:IntKind.i64.wrap ((M:Int) - 1)=(N:Int):=by rw[IntWalk.i64_in _ ⟨by omega,by omega⟩];omega
 clear hr9 hM v7 q0 q1 q2 q3 q4 q5 q6 hcut
 go_wp2_with fail
 go_ret2
 exact .inr ⟨_,He.out,rfl,Hcut.out.1,Hcut.out.2⟩
theorem zHE:∀ (l:List ByteArray),l.length≤(zAr l).length
 | []=>nZ _
 | x::l=>by
   have:=zHE l
   rw[zAr,List.length_append,List.length_append,List.length_cons]
   have h:stepB.data.toList.length=9:=rfl
   omega
theorem zDq {p:List ByteArray} (h:p.all nameB=true):p.length≤(textB p).size:=by
 unfold textB
 split
 ·rename_i e;rw[e];exact nZ _
 ·have:=zHE p
  simp[ByteArray.size,h]
  omega
theorem zIy {q:PlIn} {T:List Dir} {h n:Nat} {c:Int} (e:putP q T h n=.error c):c=40∨c=41:=by
 unfold putP at e
 split at e
 ·cases e;exact .inl rfl
 ·split at e
  ·cases e;exact .inr rfl
  ·cases e
theorem zDW {q:PlIn} {at_ kind:Nat} {e:Edge} {st:PlSt} (h:zAx q st at_ kind e=true):stepE q at_ kind e st=.ok (st.1,st.2++[⟨at_,e.label,(lookI st.1 (at_:Int) e.label).toNat⟩]):=by
 unfold stepE;rw[if_pos h]
theorem zGy {q:PlIn} {at_ kind:Nat} {e:Edge} {st:PlSt} (h:zAx q st at_ kind e=false) (hk:kind≠1) {c:Int} (hp:putP q st.1 (homeP q st at_ kind e).toNat e.to.toNat=.error c):stepE q at_ kind e st=.error c:=by
 unfold stepE;rw[if_neg (by rw[h];decide),if_neg hk,hp]
theorem zG8 {q:PlIn} {at_ kind:Nat} {e:Edge} {st:PlSt} (h:zAx q st at_ kind e=false) (hk:kind≠1) {T:List Dir} (hp:putP q st.1 (homeP q st at_ kind e).toNat e.to.toNat=.ok T):stepE q at_ kind e st=.ok (T,st.2++[⟨at_,e.label,st.1.length⟩]):=by
 unfold stepE;rw[if_neg (by rw[h];decide),if_neg hk,hp]
theorem zHN (q:PlIn) (st:PlSt) (at_ kind:Nat) (e:Edge) (free:Bool) (hf:free=decide (kind≠3)):zAx q st at_ kind e=(decide (0≤lookI st.1 (at_:Int) e.label)&&(decide ((dirAt st.1 (lookI st.1 (at_:Int) e.label).toNat).node=e.to)&&(free||seesB q.g st.1 st.2 (lookI st.1 (at_:Int) e.label).toNat at_))):=by
 rw[hf];rfl
theorem zMh (C:PlCtx) (hC:C.Ok) (w:World) (st:PlSt) (hw:PlWd C w st) {at_:Nat} {done:List ByteArray} (hinv:PlInv C.q at_ done st) {d:Dir} (hd:st.1[at_]?=some d) (s:ByteArray) (tn:Nat) (hsd:s∉done) (hsz:s.size≤maxLen) {n:Node} (hn:C.q.g[tn]?=some n) (hns:n.name=s)
  {x:Pack} (hx:C.q.ps[tn]?=some x) (hsm:zBR x) (hst:st.2.length≤900000) (kind:Nat) (hk:kind=2∧n.ctx.length=0∨kind=3∧n.ctx.length≠0) :
  Calls Tryz.prog 50 #[.pointer (some ⟨C.P,0,none⟩),.int .i64 (at_:Int),.agg #[.string s,.int .i64 (tn:Int)]] w fun e w'=>
   (∃ c,stepE C.q at_ kind ⟨s,(tn:Int)⟩ st=.error c∧e=.returned (.int .i64 c)∧(c=40∨c=41)∧PlWd C w' st∧PlFr C w w')∨(∃ st',stepE C.q at_ kind ⟨s,(tn:Int)⟩ st=.ok st'∧e=.returned (.int .i64 0)∧PlWd C w' st'∧PlFr C w w'):=by
 have hbase:=hw.base
 obtain ⟨A,c,A',c',hr⟩:=hw.read
 have HW:=cH hw
 have HC:=cH hC
 have hHP:=hr.hP
 have hat:=(gS.1 hd).1
 have hll:=hinv.len
 obtain ⟨gb,go,xA,xc,eA,ec,hgA,hgb,hgn,n0,n1,n2,n3,n4,n5,_⟩:=hr.node hC hbase hn
 have hgcap:=zAi hC.g
 have hlenD:∀ d∈st.1,d.path.length≤1024:=fun d hd=>nT (zDq (hinv.names d hd).1) (hinv.names d hd).2
 have HLk:Hid (∀ W,Below w.heap.size w W→Calls Tryz.prog 17 #[.agg #[.slice A st.1.length c],.int .i64 (at_:Int),.string s] W fun e w'=>e=.returned (.int .i64 (lookI st.1 (at_:Int) s))∧Below W.heap.size W w'):=fun W hW=>zGg A _ c st.1 s W _ _ hsz (fun d hd=>by have:=hlenD d hd;omega) (hr.dirs.belowSize hW)
 have HSp:Hid (∀ W,Below w.heap.size w W→Calls Tryz.prog 80 #[.pointer (some ⟨C.P,0,none⟩),.int .i64 (at_:Int),.int .i64 (tn:Int)] W fun e w'=>e=.returned (.int .i64 (spotI st.1 st.2 C.q.old d.path s x))∧Below W.heap.size W w'):=fun W hW=>by
  have:=zLS C hC W st (hw.keep hC hW) hinv at_ tn hd hn hx (fun d hd=>by have:=hlenD d hd;omega)
  rw[hns] at this
  exact this
 have HBs:Hid (∀ W (j:Nat),Below w.heap.size w W→j<st.1.length→(dirAt st.1 j).node=(tn:Int)→Calls Tryz.prog 79 #[.pointer (some ⟨C.P,0,none⟩),.int .i64 (j:Int),.int .i64 (at_:Int)] W fun e w'=>e=.returned (.bool (seesB C.q.g st.1 st.2 j at_))∧Below W.heap.size W w'):=fun W j hW hj hjn=>zJr C hC W st (hw.keep hC hW) j at_ hj (by omega) hjn hn (fun d hd=>by have:=hlenD d hd;omega)
 have hxp:zA5 C.q tn=x:=by unfold zA5;rw[List.getD_eq_getElem?_getD,hx];rfl
 have HHm:Hid (∃ (i:Nat) (f:Dir),homeP C.q st at_ kind ⟨s,(tn:Int)⟩=(i:Int)∧st.1[i]?=some f∧f.path.length≤1024):=by
  obtain ⟨i,f,h1,h2,h3,h4⟩:=zGa hinv hd kind (e:=⟨s,(tn:Int)⟩) hsd
  exact ⟨i,f,h1,h2,hlenD f (mG h2)⟩
 have Hh2:Hid (kind=2→homeP C.q st at_ kind ⟨s,(tn:Int)⟩=spotI st.1 st.2 C.q.old d.path s x):=fun h=>by
  unfold homeP;rw[if_pos h,zBV hd,Int.toNat_natCast,hxp]
 have Hh3:Hid (kind=3→homeP C.q st at_ kind ⟨s,(tn:Int)⟩=(at_:Int)):=fun h=>by
  unfold homeP;rw[if_neg (by omega)]
 obtain ⟨fr,hfr⟩:∃ fr,((n.ctx.length:Int)==0)=fr:=⟨_,rfl⟩
 have Hkf:Hid (kind≠1∧fr=decide (kind≠3)∧(fr=true→kind=2)∧(fr=false→kind=3)):=by
  rcases hk with ⟨h1,h2⟩|⟨h1,h2⟩
  ·rw[h2] at hfr;subst h1;rw[←hfr];exact ⟨by decide,by decide,fun _=>rfl,fun h=>by simp at h⟩
  ·have:fr=false:=by rw[←hfr];exact beq_eq_false_iff_ne.2 (by omega)
   subst h1;rw[this];exact ⟨by decide,by decide,fun h=>(by cases h),fun _=>rfl⟩
 have Hrt:Hid (zAx C.q st at_ kind ⟨s,(tn:Int)⟩=(decide (0≤lookI st.1 (at_:Int) s)&&(decide ((dirAt st.1 (lookI st.1 (at_:Int) s).toNat).node=(tn:Int))&&(fr||seesB C.q.g st.1 st.2 (lookI st.1 (at_:Int) s).toNat at_)))):=zHN _ _ _ _ _ fr Hkf.out.2.1
 have Hlt:Hid (0≤lookI st.1 (at_:Int) s→(lookI st.1 (at_:Int) s).toNat<st.1.length):=zId
 have HDn:Hid (∀ W (j:Nat),Below w.heap.size w W→j<st.1.length→∃ b o:Nat,A=some ⟨b,o,none⟩∧W.cell? ⟨b,o+j * 9+8,none⟩=some (.int .i64 (dirAt st.1 j).node)):=fun W j hW hj=>by
  obtain ⟨b,o,_,_,h1,_,_,h2,_⟩:=(hr.keep hW).dir (zAa hj)
  exact ⟨b,o,h1,h2⟩
 have HX:Hid (∀ W,Below w.heap.size w W→W.cell? ⟨C.P,0,none⟩=some (.slice (some ⟨gb,go,none⟩) C.gn C.gc)∧W.cell? ⟨gb,go+tn * 6+4,none⟩=some (.slice xA n.ctx.length xc)∧W.cell? ⟨C.P,7,none⟩=some (.slice A st.1.length c)):=fun W hW=>⟨by rw[←hgA];exact zAA hW hr.c0 hHP,zAA hW n4 (lL hgb hbase.size),zAA hW hr.c7 hHP⟩
 have HPu:Hid (∀ W (i:Nat) (f:Dir),PlWd C W st→st.1[i]?=some f→f.path.length≤1024→Calls Tryz.prog 81 #[.pointer (some ⟨C.P,0,none⟩),.int .i64 (i:Int),.int .i64 (tn:Int)] W fun e w'=>
  (∃ c,putP C.q st.1 i tn=.error c∧e=.returned (.tuple #[.int .i64 0,.int .i64 c])∧PlWd C w' st∧PlFr C W w')∨(∃ T,putP C.q st.1 i tn=.ok T∧e=.returned (.tuple #[.int .i64 (st.1.length:Int),.int .i64 0])∧PlWd C w' (T,st.2)∧PlFr C W w')):=fun W i f hW hf hfl=>zMx C hC W st hW i tn hf hx hsm hll hfl (by have:=(gS.1 hx).1;have:=hC.pz;omega)
 have HSe:Hid (∀ W (T:List Dir) (j:Nat),PlWd C W (T,st.2)→j≤1000000→Calls Tryz.prog 49 #[.pointer (some ⟨C.P,0,none⟩),.int .i64 (at_:Int),.string s,.int .i64 (j:Int)] W fun e w'=>e=.returned (.tuple #[])∧PlWd C w' (T,st.2++[⟨at_,s,j⟩])∧PlFr C W w'):=fun W T j hW hj=>zJT C hC W (T,st.2) hW at_ j (by omega) hj s hsz (by show st.2.length≤_;omega)
 have HE1:Hid (zAx C.q st at_ kind ⟨s,(tn:Int)⟩=true→stepE C.q at_ kind ⟨s,(tn:Int)⟩ st=.ok (st.1,st.2++[⟨at_,s,(lookI st.1 (at_:Int) s).toNat⟩])):=zDW
 have HE2:Hid (∀ (i:Nat) (c:Int),zAx C.q st at_ kind ⟨s,(tn:Int)⟩=false→homeP C.q st at_ kind ⟨s,(tn:Int)⟩=(i:Int)→putP C.q st.1 i tn=.error c→stepE C.q at_ kind ⟨s,(tn:Int)⟩ st=.error c):=fun i c h1 h2 h3=>zGy h1 Hkf.out.1 (by rw[h2,Int.toNat_natCast,Int.toNat_natCast];exact h3)
 have HE3:Hid (∀ (i:Nat) (T:List Dir),zAx C.q st at_ kind ⟨s,(tn:Int)⟩=false→homeP C.q st at_ kind ⟨s,(tn:Int)⟩=(i:Int)→putP C.q st.1 i tn=.ok T→stepE C.q at_ kind ⟨s,(tn:Int)⟩ st=.ok (T,st.2++[⟨at_,s,st.1.length⟩])):=fun i T h1 h2 h3=>zG8 h1 Hkf.out.1 (by rw[h2,Int.toNat_natCast,Int.toNat_natCast];exact h3)
 have HHd:=cH hd
 have HlD:=cH hlenD
 clear hr hw hC hn hx hsm hk hbase hgA hgb n0 n1 n2 n3 n4 n5 hinv hxp hd hlenD hns
 obtain ⟨N,hN⟩:∃ N,N=st.1.length:=⟨_,rfl⟩
 rw[←hN] at hat hll HLk HX Hlt HBs HDn HE3 HPu
 have HN:=cH hN
 clear hN
 generalize stepE C.q at_ kind ⟨s,(tn:Int)⟩ st=R at *
 generalize zAx C.q st at_ kind ⟨s,(tn:Int)⟩=rt at *
 generalize homeP C.q st at_ kind ⟨s,(tn:Int)⟩=hm at *
 generalize lookI st.1 (at_:Int) s=L at *
 obtain ⟨m4,hm4⟩:∃ m,m=n.ctx.length:=⟨_,rfl⟩
 rw[←hm4] at hfr HX
 clear hm4
 have hat0:(0:Int)≤(at_:Int):=by omega
 have htn0:(0:Int)≤(tn:Int):=by omega
 have htg:(tn:Int)<(C.gn:Int):=by omega
 go_enter Tryz.func50,Tryz.ntmps50
 go_upto_region 1 with (fail)
 obtain ⟨w1,hw1⟩:∃ w1,w1=w.alloc (.cells #[.string s,.int .i64 (tn:Int)] 61):=⟨_,rfl⟩
 have hq1:w1.heap[w.heap.size]?=some (.cells #[.string s,.int .i64 (tn:Int)] 61 (0,0)):=by rw[hw1];exact zAD _ _
 have hB1:Below w.heap.size w w1:=by rw[hw1];exact bal (bR _ _) _
 rw[←hw1]
 have HB1:=cH hB1
 have hz1:w.heap.size<w1.heap.size:=(aS.1 hq1).1
 obtain ⟨EB,hEB⟩:∃ k,k=w.heap.size:=⟨_,rfl⟩
 rw[←hEB] at hq1 hz1 ⊢
 have He:Hid (∀ W,Below w1.heap.size w1 W→W.cell? ⟨EB,0,none⟩=some (.string s)∧W.cell? ⟨EB,1,none⟩=some (.int .i64 (tn:Int))):=fun W hW=>⟨zAA hW (cO _ _ 0 _ _ _ hq1) hz1,zAA hW (cO _ _ 1 _ _ _ hq1) hz1⟩
 have HNE:Hid (∀ W,Below w.heap.size w W→NotPl C W EB):=fun W hW=>by
  obtain ⟨A2,c2,A2',c2',S2,hpp⟩:=HW.out.parts
  have hk:=hpp.keep hW
  refine ⟨by omega,fun v hv e=>?_,fun v hv e=>?_⟩
  ·rw[cO _ _ 7 _ _ _ hk.row] at hv
   cases hv
   have:=(hpp.T.lt _ e).2;omega
  ·rw[cO _ _ 8 _ _ _ hk.row] at hv
   cases hv
   have:=(hpp.S'.lt _ e).2;omega
 clear hw1 hq1 hB1 hEB
 obtain ⟨x0,x4,x7⟩:=HX.out w1 HB1.out
 obtain ⟨e0,e1⟩:=He.out w1 (bR _ _)
 have r_x0:=cR x0
 have r_x4:=cR x4
 have r_e1:=cR e1
 go_wp2_with fail
 refine wQ ?_
 repeat (go_big_quiet_step (first|fail))
 refine wpQuiet_nil fun w2 B2=>?_
 have HB12:=cH B2
 clear r_x0 r_x4 r_e1 x0 x4 x7 e0 e1 B2
 obtain ⟨x0,x4,x7⟩:=HX.out w2 (bot HB1.out HB12.out)
 obtain ⟨e0,e1⟩:=He.out w2 HB12.out
 have HLq:=cH (qcall (w:=w2) (fun W hW=>HLk.out W (bot (bot HB1.out HB12.out) hW)))
 go_upto_region 2 with (fail)
 have r_x7:=cR x7
 have r_e0:=cR e0
 go_wp2_with fail
 refine wQ ?_
 repeat (go_big_quiet_step (first|(with_reducible exact HLq.out _ _)))
 refine wpQuiet_nil fun w3 B3=>?_
 have HB13:=cH (bot HB12.out B3)
 clear r_x7 r_e0 x0 x4 x7 e0 e1 B3 HLq HB12
 obtain ⟨x0,x4,x7⟩:=HX.out w3 (bot HB1.out HB13.out)
 obtain ⟨e0,e1⟩:=He.out w3 HB13.out
 go_upto_region 3 with (fail)
 go_cut [57] from 31 to 57 (fun bv wx=>bv=.bool (!rt)∧Hid (Below w1.heap.size w1 wx))
 case first=>
  by_cases hL:0≤L
  case neg=>
   have hr:rt=false:=by rw[Hrt.out,decide_eq_false hL];rfl
   have hLd:decide (L<0)=true:=decide_eq_true (by omega)
   clear hL Hrt
   subst hr
   have r_x7:=cR x7
   have r_e1:=cR e1
   go_wp2_with fail
   refine wQ ?_
   repeat (go_big_quiet_step (first|fail))
   refine wpQuiet_nil fun w4 B4=>?_
   have HB4:=cH (bot HB13.out B4)
   go_wp2_with fail
   go_meet
   exact ⟨rfl,HB4⟩
  obtain ⟨j,hj⟩:∃ j:Nat,L=(j:Int):=⟨L.toNat,by omega⟩
  subst hj
  have hjN:j<N:=Hlt.out hL
  obtain ⟨b,o,hA,y8⟩:=HDn.out w3 j (bot HB1.out HB13.out) hjN
  subst hA
  have hLd:decide ((j:Int)<0)=false:=decide_eq_false (by omega)
  have hjI:(j:Int)<(N:Int):=by omega
  have Hbs:=cH (fun h=>qcall (w:=w3) (fun W hW=>HBs.out W j (bot (bot HB1.out HB13.out) hW) hjN h))
  rw[Int.toNat_natCast,decide_eq_true hL,Bool.true_and] at Hrt
  generalize (dirAt st.1 j).node=nj at *
  generalize seesB C.q.g st.1 st.2 j at_=sees at *
  by_cases hn:nj=(tn:Int)
  case neg=>
   have hr:rt=false:=by rw[Hrt.out,decide_eq_false hn];rfl
   have hb1:(nj != (tn:Int))=true:=by show (!(nj==(tn:Int)))=true;rw[beq_eq_false_iff_ne.2 hn];rfl
   clear Hrt hn Hbs
   subst hr
   have r_x7:=cR x7
   have r_e1:=cR e1
   have r_y8:=cR y8
   go_wp2_with fail
   refine wQ ?_
   repeat (go_big_quiet_step (first|fail))
   refine wpQuiet_nil fun w4 B4=>?_
   have HB4:=cH (bot HB13.out B4)
   go_wp2_with fail
   go_meet
   exact ⟨rfl,HB4⟩
  have hb1:(nj != (tn:Int))=false:=by show (!(nj==(tn:Int)))=false;rw[hn,beq_self_eq_true];rfl
  have Hb:=cH (Hbs.out hn)
  rw[decide_eq_true hn,Bool.true_and] at Hrt
  clear hn Hbs
  cases fr with
  | true=>
    have hr:rt=true:=Hrt.out
    clear Hrt
    subst hr
    have r_x7:=cR x7
    have r_e1:=cR e1
    have r_y8:=cR y8
    go_wp2_with fail
    refine wQ ?_
    repeat (go_big_quiet_step (first|fail))
    refine wpQuiet_nil fun w4 B4=>?_
    have HB4:=cH (bot HB13.out B4)
    go_wp2_with fail
    go_meet
    exact ⟨rfl,HB4⟩
  | false=>
    have hr:rt=sees:=Hrt.out
    clear Hrt
    subst hr
    cases rt with
    | true=>
      have r_x7:=cR x7
      have r_e1:=cR e1
      have r_y8:=cR y8
      go_wp2_with fail
      refine wQ ?_
      repeat (go_big_quiet_step (first|(with_reducible exact Hb.out _ _)))
      refine wpQuiet_nil fun w4 B4=>?_
      have HB4:=cH (bot HB13.out B4)
      go_wp2_with fail
      go_meet
      exact ⟨rfl,HB4⟩
    | false=>
      have r_x7:=cR x7
      have r_e1:=cR e1
      have r_y8:=cR y8
      go_wp2_with fail
      refine wQ ?_
      repeat (go_big_quiet_step (first|(with_reducible exact Hb.out _ _)))
      refine wpQuiet_nil fun w4 B4=>?_
      have HB4:=cH (bot HB13.out B4)
      go_wp2_with fail
      go_meet
      exact ⟨rfl,HB4⟩
 case rest=>
 obtain ⟨rfl,HB4⟩:=hcut
 have HBc:=cH (bot HB1.out HB4.out)
 obtain ⟨e0,e1⟩:=He.out wc HB4.out
 clear x0 x4 x7
 have HWc:=cH (HW.out.keep HC.out HBc.out)
 cases hrt:rt with
 | true=>
   have hL:0≤L:=by
    have:=Hrt.out
    rw[hrt] at this
    by_cases h:0≤L
    ·exact h
    ·rw[decide_eq_false h] at this;cases this
   obtain ⟨j,hj⟩:∃ j:Nat,L=(j:Int):=⟨L.toNat,by omega⟩
   subst hj
   have hR:=HE1.out hrt
   rw[Int.toNat_natCast] at hR
   have HR:=cH hR
   have hjN:j<N:=Hlt.out hL
   have Hs:=cH (HSe.out wc st.1 j HWc.out (by omega))
   clear hR hL Hlt HDn HBs Hrt
   go_wp2_with fail
   refine Hs.out.mono ?_
   rintro e w5 ⟨rfl,hP5,hF5⟩
   have HP5:=cH hP5
   have HF5:=cH ((PlFr.below hHP HBc.out).trans hF5)
   clear hP5 hF5 Hs
   go_wp2_with fail
   go_ret
   exact .inr ⟨_,HR.out,rfl,HP5.out,HF5.out⟩
 | false=>
 obtain ⟨i,f,hmi,hfi,hfl⟩:=HHm.out
 have Hpu:Hid (∀ W,PlWd C W st→Calls Tryz.prog 81 #[.pointer (some ⟨C.P,0,none⟩),.int .i64 (i:Int),.int .i64 (tn:Int)] W fun e w'=>
   (∃ c,R=.error c∧(c=40∨c=41)∧e=.returned (.tuple #[.int .i64 0,.int .i64 c])∧Hid (PlWd C w' st∧PlFr C W w'))∨(∃ T,R=.ok (T,st.2++[⟨at_,s,N⟩])∧e=.returned (.tuple #[.int .i64 (N:Int),.int .i64 0])∧Hid (PlWd C w' (T,st.2)∧PlFr C W w'))):=fun W hW=>by
  refine (HPu.out W i f hW hfi hfl).mono ?_
  rintro e w' (⟨c,h1,h2,h3⟩|⟨T,h1,h2,h3⟩)
  ·exact .inl ⟨c,HE2.out i c hrt hmi h1,zIy h1,h2,h3⟩
  ·exact .inr ⟨T,HE3.out i T hrt hmi h1,h2,h3⟩
 cases hfr2:fr with
 | true=>
   have hsp:hm=spotI st.1 st.2 C.q.old d.path s x:=Hh2.out (Hkf.out.2.2.1 hfr2)
   rw[hmi] at hsp
   rw[←hsp] at HSp
   clear hsp hmi hfr hfi Hkf Hh2 Hh3
   subst hfr2
   go_wp2_with fail
   refine (HSp.out wc HBc.out).mono ?_
   rintro e w5 ⟨rfl,hb5⟩
   have HW5:=cH (HWc.out.keep HC.out hb5)
   have HB5:=cH (bot HB4.out hb5)
   have HB45:=hb5
   clear hb5 e0 e1
   obtain ⟨e0,e1⟩:=He.out w5 HB5.out
   go_wp2_with fail
   have hNE:NotPl C w5 EB:=HNE.out w5 (bot HBc.out HB45)
   refine (Hpu.out w5 HW5.out).mono ?_
   rintro e w6 (⟨c,hR,hc,rfl,HW6⟩|⟨T,hR,rfl,HW6⟩)
   ·have HF6:=cH ((PlFr.below hHP (bot HB1.out HB5.out)).trans HW6.out.2)
    rcases hc with rfl|rfl
    ·go_wp2_with fail
     go_ret
     exact .inl ⟨_,hR,rfl,by decide,HW6.out.1,HF6.out⟩
    ·go_wp2_with fail
     go_ret
     exact .inl ⟨_,hR,rfl,by decide,HW6.out.1,HF6.out⟩
   ·have HR:=cH hR
    have Hs:=cH (HSe.out w6 T N HW6.out.1 (by omega))
    have HF6:=cH ((PlFr.below hHP (bot HB1.out HB5.out)).trans HW6.out.2)
    have hz5:EB<w5.heap.size:=lL hz1 HB5.out.size
    have e2:w6.cell? ⟨EB,0,none⟩=some (.string s):=(zAW (HW6.out.2.2 EB hz5 hNE).1 0 none).trans e0
    clear hR Hpu e0 e1 hNE
    go_wp2_with fail
    refine Hs.out.mono ?_
    rintro e w7 ⟨rfl,hP7,hF7⟩
    have HP7:=cH hP7
    have HF7:=cH (HF6.out.trans hF7)
    clear hP7 hF7 Hs
    go_wp2_with fail
    go_ret
    exact .inr ⟨_,HR.out,rfl,HP7.out,HF7.out⟩
 | false=>
   have hsp:hm=(at_:Int):=Hh3.out (Hkf.out.2.2.2 hfr2)
   obtain rfl:i=at_:=by omega
   clear hsp hmi hfr hfi Hkf Hh2 Hh3 HSp
   subst hfr2
   obtain ⟨w5,hw5⟩:∃ w5,w5=wc:=⟨_,rfl⟩
   have HB45:Below wc.heap.size wc w5:=by rw[hw5];exact bR _ _
   have HW5:Hid (PlWd C w5 st):=by unfold Hid;rw[hw5];exact HWc.out
   have HB5:Hid (Below w1.heap.size w1 w5):=by unfold Hid;rw[hw5];exact HB4.out
   go_wp2_with fail
   subst hw5
   have hNE:NotPl C w5 EB:=HNE.out w5 (bot HBc.out HB45)
   refine (Hpu.out w5 HW5.out).mono ?_
   rintro e w6 (⟨c,hR,hc,rfl,HW6⟩|⟨T,hR,rfl,HW6⟩)
   ·have HF6:=cH ((PlFr.below hHP (bot HB1.out HB5.out)).trans HW6.out.2)
    rcases hc with rfl|rfl
    ·go_wp2_with fail
     go_ret
     exact .inl ⟨_,hR,rfl,by decide,HW6.out.1,HF6.out⟩
    ·go_wp2_with fail
     go_ret
     exact .inl ⟨_,hR,rfl,by decide,HW6.out.1,HF6.out⟩
   ·have HR:=cH hR
    have Hs:=cH (HSe.out w6 T N HW6.out.1 (by omega))
    have HF6:=cH ((PlFr.below hHP (bot HB1.out HB5.out)).trans HW6.out.2)
    have hz5:EB<w5.heap.size:=lL hz1 HB5.out.size
    have e2:w6.cell? ⟨EB,0,none⟩=some (.string s):=(zAW (HW6.out.2.2 EB hz5 hNE).1 0 none).trans e0
    clear hR Hpu e0 e1 hNE
    go_wp2_with fail
    refine Hs.out.mono ?_
    rintro e w7 ⟨rfl,hP7,hF7⟩
    have HP7:=cH hP7
    have HF7:=cH (HF6.out.trans hF7)
    clear hP7 hF7 Hs
    go_wp2_with fail
    go_ret
    exact .inr ⟨_,HR.out,rfl,HP7.out,HF7.out⟩
theorem zHD {α:Type} (q:α→Bool) {xs:List α} {k:Nat} {x:α} (h:xs[k]?=some x):(xs.drop k).any q=(q x||(xs.drop (k+1)).any q):=by
 obtain ⟨hk,e⟩:=gS.1 h
 rw[dC hk,e,List.any_cons]
theorem zHZ (g:FuncId) (lb:Array Value) (hE:zC2 Tryz.prog g) (q:Pin→Bool) (A:Option Addr) (n c:Nat) (xs:List Pin) (w:World) (S:Nat→Prop) (hx:SlV rPin w S xs (.slice A n c))
  (hq:∀ W (x:Pin),Below w.heap.size w W→Calls Tryz.prog g (#[.agg #[.string x.name,.int .i64 x.ver.major,.int .i64 x.ver.minor,.int .i64 x.ver.patch]]++lb) W fun e w'=>e=.returned (.bool (q x))∧Below W.heap.size W w') :
  Calls Tryz.prog 78 #[.slice A n c,.func (.func g) #[] lb] w fun e w'=>∃ r:Int,e=.returned (.int .i64 r)∧Hid (decide (0≤r)=xs.any q)∧Below w.heap.size w w':=by
 have hnx:=hx.n_eq
 have hcx:=hx.cap_le
 unfold maxLen at hcx
 have hn63:n≤9223372036854775807:=by omega
 have hx':=cH hx
 have Hend:Hid (xs.any q=(xs.drop 0).any q):=rfl
 have Hq:=cH hq;clear hq
 have Hnx:=cH hnx;clear hnx
 clear hcx hx
 generalize xs.any q=R at *
 go_enter Tryz.func78,Tryz.ntmps78
 go_wp2_with fail
 go_loopw [8] (fun i wr=>∃ k:Nat,k≤n∧i=.int .i64 k∧Hid (R=(xs.drop k).any q)∧Below w.heap.size w wr) (fun i _=>n - (intOf i).toNat)
 case atStart=>exact ⟨0,nZ _,rfl,Hend,bR _ _⟩
 case round=>
  obtain ⟨k,hk,rfl,heq,hbel⟩:=hrel
  have hk0:(0:Int)≤(k:Int):=by omega
  by_cases hlt:k<n
  case neg=>
   have He:Hid (R=false):=by unfold Hid;rw[heq.out,dN (by have:=Hnx.out;omega)];rfl
   have hI:¬(k:Int)<(n:Int):=by omega
   clear heq
   go_wp2_with fail
   go_ret
   exact ⟨_,rfl,by unfold Hid;rw[He.out];rfl,hbel⟩
  have hkn:(k:Int)<(n:Int):=by omega
  obtain ⟨x,hx⟩:∃ x,xs[k]?=some x:=⟨_,gE (by have:=Hnx.out;omega)⟩
  obtain ⟨b,o,cs,rfl,_,hb1,hh,hcell⟩:=(hx'.out.belowSize hbel).elem hx
  obtain ⟨rfl,_⟩:=hh
  have Hcall:=cH (Hq.out wr x hbel)
  have Hat:=cH (zHD q hx)
  have c0:=hcell 0 _ rfl
  have c1:=hcell 1 _ rfl
  have c2:=hcell 2 _ rfl
  have c3:=hcell 3 _ rfl
  simp only[rPin,Nat.add_zero] at c0 c1 c2 c3
  clear hcell hx
  have hent:=fun args W=>hE args W
  generalize q x=v at *
  generalize x.name=y0 at *
  generalize x.ver.major=y1 at *
  generalize x.ver.minor=y2 at *
  generalize x.ver.patch=y3 at *
  cases v with
  | false=>
    have He:Hid (R=(xs.drop (k+1)).any q):=by unfold Hid;rw[heq.out,Hat.out];rfl
    clear Hat heq
    go_wp2_with fail
    refine (Hcall.out).mono ?_
    rintro e w1 ⟨rfl,B1⟩
    go_wp2_with fail
    go_roundw
    case rel=>exact ⟨k+1,by omega,by go_num,He,bot hbel B1⟩
    case measure=>simp[intOf];omega
  | true=>
    have He:Hid (R=true):=by unfold Hid;rw[heq.out,Hat.out];rfl
    clear Hat heq
    go_wp2_with fail
    refine (Hcall.out).mono ?_
    rintro e w1 ⟨rfl,B1⟩
    go_wp2_with fail
    go_ret
    exact ⟨_,rfl,by unfold Hid;rw[He.out];exact decide_eq_true hk0,bot hbel B1⟩
theorem zEn (g:FuncId) (lb:Array Value) (hE:zC2 Tryz.prog g) (q:Pin→Bool) (A:Option Addr) (n c:Nat) (xs:List Pin) (w:World) (S:Nat→Prop) (hx:SlV rPin w S xs (.slice A n c))
  (hq:∀ W (x:Pin),Below w.heap.size w W→Calls Tryz.prog g (#[.agg #[.string x.name,.int .i64 x.ver.major,.int .i64 x.ver.minor,.int .i64 x.ver.patch]]++lb) W fun e w'=>e=.returned (.bool (q x))∧Below W.heap.size W w') :
  Calls Tryz.prog 47 #[.slice A n c,.func (.func g) #[] lb] w fun e w'=>e=.returned (.bool (xs.any q))∧Below w.heap.size w w':=by
 have Hc:=cH (zHZ g lb hE q A n c xs w S hx hq)
 clear hx hq
 generalize xs.any q=R at *
 go_enter Tryz.func47,Tryz.ntmps47
 go_wp2_with fail
 refine (Hc.out).mono ?_
 rintro e w1 ⟨r,rfl,hr,B1⟩
 go_wp2_with fail
 go_ret
 exact ⟨zAB hr.out,B1⟩
theorem zL5 (x:Pin) (EB:Nat) (s:ByteArray) (w:World) (he:w.cell? ⟨EB,0,none⟩=some (.string s)) :
  Calls Tryz.prog 48 #[.agg #[.string x.name,.int .i64 x.ver.major,.int .i64 x.ver.minor,.int .i64 x.ver.patch],.pointer (some ⟨EB,0,none⟩)] w fun e w'=>e=.returned (.bool (decide (x.name=s)))∧Below w.heap.size w w':=by
 have HR:Hid (decide (x.name=s)=(x.name.toList==s.toList)):=by
  unfold Hid
  by_cases h:x.name=s
  ·rw[decide_eq_true h,zAT h]
  ·rw[decide_eq_false h,zAL h]
 generalize decide (x.name=s)=R at *
 generalize x.name=y0 at *
 have e2:=fun o=>(zAW (Below.heap_alloc w o _ (zAf he)) 0 none).trans he
 have HB:=fun o=>cH (bal (bR w.heap.size w) o)
 go_enter Tryz.func48,Tryz.ntmps48
 go_wp2_with fail
 go_ret
 exact ⟨zAB HR.out.symm,(HB _).out⟩
theorem zHz:zC2 Tryz.prog 48:=zCG Tryz.func48 (by kernel_rfl) rfl
