/- The document's placer: a directory more: walked. -/
import Derived.Test.YtminjjdnmpaaoaaGreatDoorSv17
import Derived.Test.YtminjjdnmpaaoaaGreatDoorSv09
import Derived.Test.YtminjjdnmpaaoaaGreatDoorSv16
import Derived.Test.YtminjjdnmpaaoaaGreatDoorSv14
import Derived.Test.YtminjjdnmpaaoaaGreatDoorSv11
import Derived.Deep.CutRange
import Derived.Test.YtminjjdnmpaaoaaGreatDoorSv02
import Derived.Laws.OwnMore
import Derived.Test.YtminjjdnmpaaoaaGreatDoorSv15
import Derived.Test.YtminjjdnmpaaoaaGreatDoorAl
set_option linter.all false
set_option maxHeartbeats 12800000
set_option maxRecDepth 100000
namespace Go.Proofs.YtminjjdnmpaaoaaGreatDoor
open Go.Rows Go.RowKit Go.Shelf Go.Sort
theorem zLc (C:DlCtx) (hC:C.Ok) (w:World) (st:PlSt) (hw:DlWd C w st) (home nd:Nat) {d:Dir} (hd:st.1[home]?=some d) {n:Node} (hn:C.q.g[nd]?=some n) {x:Pack} (hx:C.q.ps[nd]?=some x) (hnx:x.name=n.name) (hl:st.1.length≤257) (hpl:d.path.length≤1024) (hnd:nd≤1048576) :
  Calls Tryz.prog 60 #[.pointer (some ⟨C.P,0,none⟩),.int .i64 (home:Int),.int .i64 (nd:Int)] w fun e w'=>
   (∃ c,putP C.q st.1 home nd=.error c∧e=.returned (.tuple #[.int .i64 0,.int .i64 c])∧DlWd C w' st∧DlFr C w w')∨(∃ T,putP C.q st.1 home nd=.ok T∧e=.returned (.tuple #[.int .i64 (st.1.length:Int),.int .i64 0])∧DlWd C w' (T,st.2)∧DlFr C w w'):=by
 have hbase:=hw.base
 have HW:=cH hw
 obtain ⟨A,c,A',c',S,hpp⟩:=hw.parts
 have hr:=hpp.rd
 have HP0:=cH hpp
 have HC:=cH hC
 have hHP:=hr.hP
 have x0:=hr.c0
 have ha:=(gS.1 hd).1
 obtain ⟨gb,go,xA,xc,gA,gc,hgA,hgb,hgn,n0,_,_,_,_,_,_,_,hnsz⟩:=hr.node hC hbase hn
 obtain ⟨pb,po,dA,dc,eA,ec,fA,fc,hpA,hpb,hndn,k0,k1,k2,k3,k4,k5,k6,hpv,i1,i2,i3⟩:=hr.pack hC hbase hx
 have hpcap:=zAi hC.p
 have hgcap:=zAi hC.g
 rw[hgA] at x0
 have hxn:zA5 C.q nd=x:=by unfold zA5;rw[List.getD_eq_getElem?_getD,hx];rfl
 have hdp:=zBV hd
 have hpw:pb<w.heap.size:=lL hpb hbase.size
 have HPt:Hid (putP C.q st.1 home nd=if C.q.path<((textB (d.path++[n.name])).size:Int) then .error 40 else if C.q.dirs≤(st.1.length:Int) - 1 then .error 41 else .ok (st.1++[⟨d.path++[n.name],x,(nd:Int)⟩])):=by
  unfold Hid putP;rw[hxn,hdp,hnx]
 generalize putP C.q st.1 home nd=R at *
 have HIn:Hid (Calls Tryz.prog 102 #[.pointer (some ⟨C.P,0,none⟩),.int .i64 (home:Int),.string n.name] w fun e w'=>∃ (A:Option Addr) (c:Nat),e=.returned (.slice A (d.path.length+1) c)∧SlV rStr w' (fun b=>w.heap.size≤b) (d.path++[n.name]) (.slice A (d.path.length+1) c)∧Below w.heap.size w w'):=by
  have h:=zDh C w st hw home ha n.name hnsz (by rw[hdp];omega)
  rw[hdp] at h
  exact h
 have Hrow:Hid (∀ W,Below w.heap.size w W→W.cell? ⟨C.P,4,none⟩=some (.int .i64 C.q.dirs)∧W.cell? ⟨C.P,5,none⟩=some (.int .i64 C.q.path)∧W.cell? ⟨C.P,8,none⟩=some (.slice A st.1.length c)∧W.cell? ⟨C.P,1,none⟩=some (.slice (some ⟨pb,po,none⟩) C.pn C.pc)):=fun W hW=>⟨zAA hW hr.c4 hHP,zAA hW hr.c5 hHP,zAA hW hr.c8 hHP,by rw[←hpA];exact zAA hW hr.c1 hHP⟩
 have Hpc:Hid (∀ W,Below w.heap.size w W→W.cell? ⟨pb,po+nd * 7,none⟩=some (.string x.name)∧W.cell? ⟨pb,po+nd * 7+1,none⟩=some (.int .i64 x.ver.major)∧W.cell? ⟨pb,po+nd * 7+2,none⟩=some (.int .i64 x.ver.minor)∧W.cell? ⟨pb,po+nd * 7+3,none⟩=some (.int .i64 x.ver.patch)∧W.cell? ⟨pb,po+nd * 7+4,none⟩=some (.slice dA x.deps.length dc)∧W.cell? ⟨pb,po+nd * 7+5,none⟩=some (.slice eA x.peers.length ec)∧W.cell? ⟨pb,po+nd * 7+6,none⟩=some (.slice fA x.opts.length fc)):=fun W hW=>
  ⟨zAA hW k0 hpw,zAA hW k1 hpw,zAA hW k2 hpw,zAA hW k3 hpw,zAA hW k4 hpw,zAA hW k5 hpw,zAA hW k6 hpw⟩
 have Hpv:Hid (∀ W,Below w.heap.size w W→x.name.size≤maxLen∧SlV rDep W (fun b=>b<C.w0.heap.size) x.deps (.slice dA x.deps.length dc)∧SlV rDep W (fun b=>b<C.w0.heap.size) x.peers (.slice eA x.peers.length ec)∧SlV rDep W (fun b=>b<C.w0.heap.size) x.opts (.slice fA x.opts.length fc)):=fun W hW=>by
  obtain ⟨A1,n1,c1,A2,n2,c2,A3,n3,c3,h1,h2,h3,h4,h5⟩:=hpv.keep hW
  cases h1
  exact ⟨h2,h3,h4,h5⟩
 have HI:Hid (I64 x.ver.major∧I64 x.ver.minor∧I64 x.ver.patch):=⟨i1,i2,i3⟩
 clear hr hpp hw hC hbase hx hn hgA hpA hpv hxn hdp hd i1 i2 i3 k0 k1 k2 k3 k4 k5 k6 hnx hnsz
 obtain ⟨lp,hlp⟩:∃ m,m=d.path.length:=⟨_,rfl⟩
 obtain ⟨N,hN⟩:∃ N,N=st.1.length:=⟨_,rfl⟩
 rw[←hlp] at hpl HIn
 rw[←hN] at ha hl Hrow HPt ⊢
 have Hlp:=cH hlp
 have HN:=cH hN
 clear hlp hN
 have hj0:(0:Int)≤(nd:Int):=by omega
 have hjn:(nd:Int)<(C.pn:Int):=by omega
 have hjg:(nd:Int)<(C.gn:Int):=by omega
 have hwN:IntKind.i64.wrap ((N:Int) - 1)=(N:Int) - 1:=IntWalk.i64_in _ ⟨by omega,by omega⟩
 have hlen2:(d.path++[n.name]).length=lp+1:=by rw[List.length_append,←Hlp.out];rfl
 generalize n.name=s at *
 generalize d.path++[s]=np at *
 obtain ⟨n4,hn4⟩:∃ m,m=x.deps.length:=⟨_,rfl⟩
 obtain ⟨n5,hn5⟩:∃ m,m=x.peers.length:=⟨_,rfl⟩
 obtain ⟨n6,hn6⟩:∃ m,m=x.opts.length:=⟨_,rfl⟩
 rw[←hn4,←hn5,←hn6] at Hpc Hpv
 clear hn4 hn5 hn6
 go_enter Tryz.func60,Tryz.ntmps60
 go_wp2_with fail
 refine HIn.out.mono ?_
 rintro e w1 ⟨gP,cap,rfl,hsl,hb1⟩
 have Hsl:=cH hsl
 have HBw:=cH hb1
 clear hsl hb1 x0 n0 HIn
 have HTx:Hid (∀ W,Below w1.heap.size w1 W→Calls Tryz.prog 61 #[.slice gP (lp+1) cap] W fun e w'=>e=.returned (.string (textB np))∧Below W.heap.size W w'):=fun W hW=>(zCH _ _ _ np W (fun b=>w.heap.size≤b) (by rw[hlen2];omega) (Hsl.out.belowSize hW)).mono fun e w' ⟨h1,h2⟩=>⟨h1,by rw[←h2];exact bR _ _⟩
 obtain ⟨v4,v5,v8,v1⟩:=Hrow.out w1 HBw.out
 have HTq:=cH (qcall (w:=w1) HTx.out)
 generalize textB np=tx at *
 go_upto_region 2 with (fail)
 by_cases hc1:C.q.path<(tx.size:Int)
 ·have He:Hid (R=.error 40):=by unfold Hid;rw[HPt.out,if_pos hc1]
  have hc1d:decide (C.q.path<(tx.size:Int))=true:=decide_eq_true hc1
  clear HPt HTx
  have r_v5:=cR v5
  go_wp2_with fail
  refine wQ ?_
  repeat (go_big_quiet_step (first|(with_reducible exact HTq.out _ _)))
  refine wpQuiet_nil fun w5 B5=>?_
  have HB5:=cH (bot HBw.out B5)
  go_wp2_with fail
  go_ret2
  exact .inl ⟨_,He.out,rfl,(HP0.out.keep HB5.out).all,DlFr.below hHP HB5.out⟩
 have hc1d:decide (C.q.path<(tx.size:Int))=false:=decide_eq_false hc1
 have HPt2:Hid (R=if C.q.dirs≤(N:Int) - 1 then .error 41 else .ok (st.1++[⟨np,x,(nd:Int)⟩])):=by unfold Hid;rw[HPt.out,if_neg hc1]
 clear HPt HTx
 have r_v5:=cR v5
 go_wp2_with fail
 refine wQ ?_
 repeat (go_big_quiet_step (first|(with_reducible exact HTq.out _ _)))
 refine wpQuiet_nil fun w5 B5=>?_
 have HB5:=cH (bot HBw.out B5)
 have HB45:=cH B5
 clear r_v5 v4 v5 v8 v1 B5 HTq
 obtain ⟨v4,v5,v8,v1⟩:=Hrow.out w5 HB5.out
 by_cases hc2:C.q.dirs≤(N:Int) - 1
 ·have He:Hid (R=.error 41):=by unfold Hid;rw[HPt2.out,if_pos hc2]
  have hc2d:decide (C.q.dirs≤(N:Int) - 1)=true:=decide_eq_true hc2
  clear HPt2
  go_upto_region 4 with (fail)
  have r_v4:=cR v4
  have r_v8:=cR v8
  go_wp2_with fail
  refine wQ ?_
  repeat (go_big_quiet_step (first|fail))
  refine wpQuiet_nil fun w6 B6=>?_
  have HB6:=cH (bot HB5.out B6)
  go_wp2_with fail
  go_ret2
  exact .inl ⟨_,He.out,rfl,(HP0.out.keep HB6.out).all,DlFr.below hHP HB6.out⟩
 have hc2d:decide (C.q.dirs≤(N:Int) - 1)=false:=decide_eq_false hc2
 have He:Hid (R=.ok (st.1++[⟨np,x,(nd:Int)⟩])):=by unfold Hid;rw[HPt2.out,if_neg hc2]
 clear HPt2
 go_upto_region 4 with (fail)
 have r_v4:=cR v4
 have r_v8:=cR v8
 go_wp2_with fail
 refine wQ ?_
 repeat (go_big_quiet_step (first|fail))
 refine wpQuiet_nil fun w6 B6=>?_
 have HB6:=cH (bot HB5.out B6)
 have HB46:=cH (bot HB45.out B6)
 clear r_v4 r_v8 v4 v5 v8 v1 B6 HB5 HB45 hc1d hc2d
 obtain ⟨v4,v5,v8,v1⟩:=Hrow.out w6 HB6.out
 obtain ⟨q0,q1,q2,q3,q4,q5,q6⟩:=Hpc.out w6 HB6.out
 have Hsl6:=cH (Hsl.out.belowSize HB46.out)
 have hzP:C.P<w6.heap.size:=lL hHP HB6.out.size
 have hzp:pb<w6.heap.size:=lL hpw HB6.out.size
 clear v4 v5 Hsl HB46
 go_upto_region 6 with (fail)
 have HOldS:Hid (∀ b,b<C.w0.heap.size→S b):=HP0.out.old
 have HP1:Hid (∀ (W:World) (ob:Obj),Below w6.heap.size w6 W→Own rDir (W.alloc ob) C.w0.heap.size 54 (.slice A st.1.length c) st.1 (fun b=>S b∨(w.heap.size≤b∧b<(W.alloc ob).heap.size))):=fun W ob hW=>((HP0.out.keep (bot HB6.out hW)).T.alloc ob).moreNew (B:=w.heap.size) (fun k hk=>(HP0.out.T.lt k hk).2)
 have HH:Hid (∀ (W:World) (ob:Obj),Below w6.heap.size w6 W →
   rDir.holds (W.alloc ob) (fun b=>S b∨(w.heap.size≤b∧b<(W.alloc ob).heap.size)) ⟨np,x,(nd:Int)⟩ [.slice gP (lp+1) cap,.string x.name,.int .i64 x.ver.major,.int .i64 x.ver.minor,.int .i64 x.ver.patch,.slice dA n4 dc,.slice eA n5 ec,.slice fA n6 fc,.int .i64 (nd:Int)]):=fun W ob hW=>by
  obtain ⟨h0,h1,h2,h3⟩:=Hpv.out W (bot HB6.out hW)
  exact ⟨_,_,_,_,rfl,((Hsl6.out.belowSize hW).alloc ob).more fun b hb hl=>.inr ⟨hb,hl⟩,h0,HI.out.1,HI.out.2.1,HI.out.2.2,(h1.alloc ob).more fun b hb hl=>.inl (HOldS.out b hb),(h2.alloc ob).more fun b hb hl=>.inl (HOldS.out b hb),(h3.alloc ob).more fun b hb hl=>.inl (HOldS.out b hb),(show I64 (nd:Int) by unfold I64;omega)⟩
 have HPd:Hid (∀ (W w8:World) (ob:Obj) (g8 cap8:Nat),Below w6.heap.size w6 W→Own rDir w8 C.w0.heap.size 54 (.slice (some ⟨g8,0,none⟩) (st.1.length+1) cap8) (st.1++[⟨np,x,(nd:Int)⟩]) (fun b=>S b∨(w.heap.size≤b∧b<(W.alloc ob).heap.size))→(W.alloc ob).grownBy w8 (Value.slice A st.1.length c).ownBlock→((Value.slice A st.1.length c).ownBlock=some g8∨g8=W.heap.size+1) →
   w8.heap[C.P]?=some (.cells (dlRow C (.slice A st.1.length c) (.slice A' st.2.length c')) 87 (0,0))∧DlWd C (w8.setCell ⟨C.P,8,none⟩ (.slice (some ⟨g8,0,none⟩) (st.1.length+1) cap8)) (st.1++[⟨np,x,(nd:Int)⟩],st.2)∧DlFr C w (w8.setCell ⟨C.P,8,none⟩ (.slice (some ⟨g8,0,none⟩) (st.1.length+1) cap8))):=fun W w8 ob g8 cap8 hW hown hgrow hat=>by
  have hat2:(Value.slice A st.1.length c).ownBlock=some g8∨(W.alloc ob).heap.size≤g8:=by rcases hat with h|h;exact .inl h;exact .inr (by rw[h];simp)
  obtain ⟨h1,h2⟩:=HP0.out.push_dir HC.out (bal (bot HB6.out hW) ob) hown hgrow hat2
  exact ⟨h1,h2,(DlFr.below hHP (bal (bot HB6.out hW) ob)).trans ((HP0.out.keep (bal (bot HB6.out hW) ob)).frT hgrow hat2 h1)⟩
 have hzc:C.w0.heap.size≤w6.heap.size:=nT HP0.out.base.size HB6.out.size
 clear Hsl6
 go_cut [] from 43 to 62 (fun wx=>Hid (DlWd C wx (st.1++[⟨np,x,(nd:Int)⟩],st.2)∧DlFr C w wx))
 case first=>
  rw[HN.out] at v8
  go_region_law
   (first
    | (refine zBB (by rfl) _ _ _ (by rfl) zDp Tryz.underlying31 (by rfl) (HP1.out w6.drew _ (bR _ _).drew) ⟨w6.heap.size,0,none⟩ 1 [.slice gP (lp+1) cap,.string x.name,.int .i64 x.ver.major,.int .i64 x.ver.minor,.int .i64 x.ver.patch,.slice dA n4 dc,.slice eA n5 ec,.slice fA n6 fc,.int .i64 (nd:Int)] ⟨np,x,(nd:Int)⟩ (by rfl) (HH.out w6.drew _ (bR _ _).drew) (zAd w6.drew #[.slice gP (lp+1) cap,.string x.name,.int .i64 x.ver.major,.int .i64 x.ver.minor,.int .i64 x.ver.patch,.slice dA n4 dc,.slice eA n5 ec,.slice fA n6 fc,.int .i64 (nd:Int)] _) (by rw[←HN.out];unfold maxLen;omega) (by rw[←HN.out];omega) (nT hzc (by simp)) (w6.heap.size+1) (by simp) ?_;intro g8 cap8 w8 hown8 hgrow8 hat8 hg8;have HD:=cH (HPd.out w6.drew w8 _ g8 cap8 (bR _ _).drew hown8 hgrow8 hat8);have y8:w8.cell? ⟨C.P,8,none⟩=some (.slice A st.1.length c):=cO _ _ 8 _ _ _ HD.out.1;have f8:w8.frozen? ⟨C.P,8,none⟩=false:=zAZ HD.out.1;clear hown8 hgrow8 hat8))
  all_goals
   go_wp2_with fail
   go_meet
   exact HD.out.2
 case rest=>
 have Hcut:=cH hcut.out
 obtain ⟨A9,c9,A9',c9',hr9⟩:=hcut.out.1.read
 have y8:=hr9.c8
 obtain ⟨M,hM⟩:∃ M,M=(st.1++[(⟨np,x,(nd:Int)⟩:Dir)]).length:=⟨_,rfl⟩
 have hMN:M=N+1:=by rw[hM,List.length_append,←HN.out];rfl
 simp only at y8
 rw[←hM] at y8
 have hwM:IntKind.i64.wrap ((M:Int) - 1)=(N:Int):=by rw[IntWalk.i64_in _ ⟨by omega,by omega⟩];omega
 clear hr9 hM v8 v1 q0 q1 q2 q3 q4 q5 q6 hcut
 go_wp2_with fail
 go_ret2
 exact .inr ⟨_,He.out,rfl,Hcut.out.1,Hcut.out.2⟩
theorem zMd (C:DlCtx) (hC:C.Ok) {w wx:World} {T:List Dir} {L:List Stl} (hw:DlWd C wx (T,L)) (hF:DlFr C w wx) (at_ j:Nat) (s:ByteArray) :
  ∃ (A':Option Addr) (c':Nat),wx.cell? ⟨C.P,9,none⟩=some (.slice A' L.length c')∧(∀ (W:World) (ob:Obj),Below wx.heap.size wx W→Own rStl (W.alloc ob) C.w0.heap.size 130 (.slice A' L.length c') L (fun _=>False)) ∧
    (∀ (W w8:World) (ob:Obj) (g8 cap8:Nat),Below wx.heap.size wx W→Own rStl w8 C.w0.heap.size 130 (.slice (some ⟨g8,0,none⟩) (L.length+1) cap8) (L++[⟨at_,s,j⟩]) (fun _=>False)→(W.alloc ob).grownBy w8 (Value.slice A' L.length c').ownBlock→((Value.slice A' L.length c').ownBlock=some g8∨g8=W.heap.size+1) →
      w8.cell? ⟨C.P,9,none⟩=some (.slice A' L.length c')∧w8.frozen? ⟨C.P,9,none⟩=false∧DlWd C (w8.setCell ⟨C.P,9,none⟩ (.slice (some ⟨g8,0,none⟩) (L.length+1) cap8)) (T,L++[⟨at_,s,j⟩])∧DlFr C w (w8.setCell ⟨C.P,9,none⟩ (.slice (some ⟨g8,0,none⟩) (L.length+1) cap8))) ∧
    C.w0.heap.size≤wx.heap.size∧C.P<wx.heap.size:=by
 obtain ⟨A,c,A',c',S,hpp⟩:=hw.parts
 have hP:=hpp.hP
 refine ⟨A',c',cO _ _ 9 _ _ _ hpp.row,fun W ob hW=>(hpp.keep (bal hW ob)).S',fun W w8 ob g8 cap8 hW hown hgrow hat=>?_,hpp.base.size,hP⟩
 have hk:=hpp.keep (bal hW ob)
 have hat2:(Value.slice A' L.length c').ownBlock=some g8∨(W.alloc ob).heap.size≤g8:=by rcases hat with h|h;exact .inl h;exact .inr (by rw[h];simp)
 obtain ⟨h1,h2⟩:=hk.push_stl hC hown hgrow hat2
 exact ⟨cO _ _ 9 _ _ _ h1,zAZ h1,h2.all,hF.trans ((DlFr.below hP (bal hW ob)).trans (hk.frS hgrow hat2 h1))⟩
theorem zMT (q:PlIn) (m:Node) (e:Edge) (h:(m.ctx.any fun x=>decide (x.name=e.label))=true):kindP q m e=1:=by unfold kindP;rw[if_pos h]
theorem zMe (q:PlIn) (m:Node) (e:Edge) (h:(m.ctx.any fun x=>decide (x.name=e.label))=false):kindP q m e=if (zBW q e.to.toNat).ctx.length=0 then 2 else 3:=by unfold kindP;rw[if_neg (by rw[h];decide)]
theorem zLZ {q:PlIn} {at_:Nat} {e:Edge} {st:PlSt} (h:zAx q st at_ 1 e=false):stepE q at_ 1 e st=.error 33:=by
 unfold stepE;rw[if_neg (by rw[h];decide),if_pos rfl]
def OneR (C:DlCtx) (w:World) (st:PlSt) (K kind:Nat) (R:Except Int PlSt) (e:Ending) (w':World):Prop:=
 (K≠kind∧e=.returned (.int .i64 0)∧DlWd C w' st∧DlFr C w w')∨(K=kind∧((∃ c,R=.error c∧e=.returned (.int .i64 c)∧(c=33∨c=40∨c=41)∧DlWd C w' st∧DlFr C w w')∨(∃ st',R=.ok st'∧e=.returned (.int .i64 0)∧DlWd C w' st'∧DlFr C w w')))
theorem zLg (C:DlCtx) (hC:C.Ok) (w:World) (st:PlSt) (hw:DlWd C w st) {at_:Nat} {done:List ByteArray} (hinv:PlInv C.q at_ done st) {d:Dir} (hd:st.1[at_]?=some d) {mn:Nat} (hdn:d.node=(mn:Int)) {m:Node} (hm:C.q.g[mn]?=some m) (s:ByteArray) (tn:Nat) (hsz:s.size≤maxLen) {n:Node} (hn:C.q.g[tn]?=some n) (hns:n.name=s)
  {x:Pack} (hx:C.q.ps[tn]?=some x) (hnx:x.name=n.name) (hst:st.2.length≤900000) (kind:Nat) (hk:kind=1∨kind=2∨kind=3) (hsd:kindP C.q m ⟨s,(tn:Int)⟩=kind→s∉done) :
  Calls Tryz.prog 29 #[.pointer (some ⟨C.P,0,none⟩),.int .i64 (at_:Int),.agg #[.string s,.int .i64 (tn:Int)],.int .i64 (kind:Int)] w fun e w'=>
   OneR C w st (kindP C.q m ⟨s,(tn:Int)⟩) kind (stepE C.q at_ kind ⟨s,(tn:Int)⟩ st) e w':=by
 have hbase:=hw.base
 obtain ⟨A,c,A',c',hr⟩:=hw.read
 have HW:=cH hw
 have HC:=cH hC
 have hHP:=hr.hP
 have hat:=(gS.1 hd).1
 have hll:=hinv.len
 obtain ⟨gb,go,yA,yc,fA,fc,hgA,hgb,hmn,g0,g1,g2,g3,g4,g5,hpin,_,_⟩:=hr.node hC hbase hm
 obtain ⟨gb2,go2,xA,xc,eA,ec,hgA2,_,hgn,n0,n1,n2,n3,n4,n5,_⟩:=hr.node hC hbase hn
 rw[hgA] at hgA2
 injection hgA2 with hgA2
 injection hgA2 with hgb2 hgo2 _
 subst hgb2 hgo2
 obtain ⟨b,o,pA,pc,hA,hb,_,y8,_,_,_⟩:=hr.dir hd
 rw[hdn] at y8
 subst hA
 have hgcap:=zAi hC.g
 have hlenD:∀ d∈st.1,d.path.length≤1024:=fun d hd=>nT (zDq (hinv.names d hd).1) (hinv.names d hd).2
 have hgw:gb<w.heap.size:=lL hgb hbase.size
 have HLk:Hid (∀ W,Below w.heap.size w W→Calls Tryz.prog 57 #[.agg #[.slice (some ⟨b,o,none⟩) st.1.length c],.int .i64 (at_:Int),.string s] W fun e w'=>e=.returned (.int .i64 (lookI st.1 (at_:Int) s))∧Below W.heap.size W w'):=fun W hW=>zFI _ _ c st.1 s W _ _ hsz (fun d hd=>by have:=hlenD d hd;omega) (hr.dirs.belowSize hW)
 have HBt:Hid (∀ W,Below w.heap.size w W→Calls Tryz.prog 59 #[.pointer (some ⟨C.P,0,none⟩),.int .i64 (at_:Int),.int .i64 (tn:Int)] W fun e w'=>e=.returned (.int .i64 (spotI st.1 st.2 C.q.old d.path s x))∧Below W.heap.size W w'):=fun W hW=>by
  have:=zLE C hC W st (hw.keep hW) at_ tn hat hn hx hlenD fun x hx=>⟨(hinv.stl x hx).1,(hinv.stl x hx).2.1⟩
  rw[hns,zLL hinv hd] at this
  exact this
 have HBs:Hid (∀ W (j:Nat),Below w.heap.size w W→j<st.1.length→(dirAt st.1 j).node=(tn:Int)→Calls Tryz.prog 58 #[.pointer (some ⟨C.P,0,none⟩),.int .i64 (j:Int),.int .i64 (at_:Int)] W fun e w'=>e=.returned (.bool (seesB C.q.g st.1 st.2 j at_))∧Below W.heap.size W w'):=fun W j hW hj hjn=>zMK C hC W st (hw.keep hW) j at_ hj (by omega) hjn hn (fun d hd=>by have:=hlenD d hd;omega)
 have HBe:Hid (∀ W,Below w.heap.size w W→Calls Tryz.prog 56 #[.agg #[.string m.name,.int .i64 m.ver.major,.int .i64 m.ver.minor,.int .i64 m.ver.patch,.slice yA m.ctx.length yc,.slice fA m.edges.length fc],.string s] W fun e w'=>e=.returned (.bool (m.ctx.any fun x=>decide (x.name=s)))∧Below W.heap.size W w'):=fun W hW=>zGX _ _ _ _ _ _ _ _ _ _ _ _ _ _ (hpin.belowSize hW)
 have hxp:zA5 C.q tn=x:=by unfold zA5;rw[List.getD_eq_getElem?_getD,hx];rfl
 have hnp:zBW C.q tn=n:=by unfold zBW;rw[List.getD_eq_getElem?_getD,hn];rfl
 have HHm:Hid (kindP C.q m ⟨s,(tn:Int)⟩=kind→∃ (i:Nat) (f:Dir),homeP C.q st at_ kind ⟨s,(tn:Int)⟩=(i:Int)∧st.1[i]?=some f∧f.path.length≤1024):=fun hkk=>by
  obtain ⟨i,f,h1,h2,h3,h4⟩:=zGa hinv hd kind (e:=⟨s,(tn:Int)⟩) (hsd hkk)
  exact ⟨i,f,h1,h2,hlenD f (mG h2)⟩
 have Hh2:Hid (kind=2→homeP C.q st at_ kind ⟨s,(tn:Int)⟩=spotI st.1 st.2 C.q.old d.path s x):=fun h=>by
  unfold homeP;rw[if_pos h,zBV hd,Int.toNat_natCast,hxp]
 have Hh3:Hid (kind≠2→homeP C.q st at_ kind ⟨s,(tn:Int)⟩=(at_:Int)):=fun h=>by
  unfold homeP;rw[if_neg h]
 have HK1:Hid ((m.ctx.any fun x=>decide (x.name=s))=true→kindP C.q m ⟨s,(tn:Int)⟩=1):=zMT C.q m ⟨s,(tn:Int)⟩
 have HK2:Hid ((m.ctx.any fun x=>decide (x.name=s))=false→kindP C.q m ⟨s,(tn:Int)⟩=if n.ctx.length=0 then 2 else 3):=fun h=>by
  rw[zMe C.q m ⟨s,(tn:Int)⟩ h];show (if (zBW C.q (tn:Int).toNat).ctx.length=0 then 2 else 3)=_;rw[Int.toNat_natCast,hnp]
 obtain ⟨k3,hk3⟩:∃ b,((kind:Int)==3)=b:=⟨_,rfl⟩
 obtain ⟨k2,hk2⟩:∃ b,((kind:Int)==2)=b:=⟨_,rfl⟩
 obtain ⟨k1,hk1⟩:∃ b,((kind:Int)==1)=b:=⟨_,rfl⟩
 have Hkk:Hid ((k3=true↔kind=3)∧(k2=true↔kind=2)∧(k1=true↔kind=1)):=by
  subst hk3 hk2 hk1
  simp only[beq_iff_eq]
  exact ⟨⟨fun h=>by omega,fun h=>by omega⟩,⟨fun h=>by omega,fun h=>by omega⟩,⟨fun h=>by omega,fun h=>by omega⟩⟩
 have Hrt:Hid (zAx C.q st at_ kind ⟨s,(tn:Int)⟩=(decide (0≤lookI st.1 (at_:Int) s)&&(decide ((dirAt st.1 (lookI st.1 (at_:Int) s).toNat).node=(tn:Int))&&(!k3||seesB C.q.g st.1 st.2 (lookI st.1 (at_:Int) s).toNat at_)))):=zHN _ _ _ _ _ (!k3) (by
  by_cases h:kind=3
  ·rw[Hkk.out.1.2 h,decide_eq_false (by omega)];rfl
  ·have:k3=false:=by cases hh:k3 with
    | false=>rfl
    | true=>exact absurd (Hkk.out.1.1 hh) h
   rw[this,decide_eq_true h];rfl)
 have Hlt:Hid (0≤lookI st.1 (at_:Int) s→(lookI st.1 (at_:Int) s).toNat<st.1.length):=zId
 have HDn:Hid (∀ W (j:Nat),Below w.heap.size w W→j<st.1.length→W.cell? ⟨b,o+j * 9+8,none⟩=some (.int .i64 (dirAt st.1 j).node)):=fun W j hW hj=>by
  obtain ⟨b',o',_,_,h1,_,_,h2,_⟩:=(hr.keep hW).dir (zAa hj)
  injection h1 with h1
  injection h1 with h3 h4 _
  subst h3 h4
  exact h2
 have HX:Hid (∀ W,Below w.heap.size w W→W.cell? ⟨C.P,0,none⟩=some (.slice (some ⟨gb,go,none⟩) C.gn C.gc)∧W.cell? ⟨gb,go+tn * 6+4,none⟩=some (.slice xA n.ctx.length xc)∧W.cell? ⟨C.P,8,none⟩=some (.slice (some ⟨b,o,none⟩) st.1.length c)):=fun W hW=>⟨by rw[←hgA];exact zAA hW hr.c0 hHP,zAA hW n4 hgw,zAA hW hr.c8 hHP⟩
 have HM:Hid (∀ W,Below w.heap.size w W→W.cell? ⟨b,o+at_ * 9+8,none⟩=some (.int .i64 (mn:Int))∧W.cell? ⟨gb,go+mn * 6,none⟩=some (.string m.name)∧W.cell? ⟨gb,go+mn * 6+1,none⟩=some (.int .i64 m.ver.major)∧W.cell? ⟨gb,go+mn * 6+2,none⟩=some (.int .i64 m.ver.minor)∧W.cell? ⟨gb,go+mn * 6+3,none⟩=some (.int .i64 m.ver.patch)∧W.cell? ⟨gb,go+mn * 6+4,none⟩=some (.slice yA m.ctx.length yc)∧W.cell? ⟨gb,go+mn * 6+5,none⟩=some (.slice fA m.edges.length fc)):=fun W hW=>
  ⟨zAA hW y8 hb,zAA hW g0 hgw,zAA hW g1 hgw,zAA hW g2 hgw,zAA hW g3 hgw,zAA hW g4 hgw,zAA hW g5 hgw⟩
 have HPu:Hid (∀ W (i:Nat) (f:Dir),DlWd C W st→st.1[i]?=some f→f.path.length≤1024→Calls Tryz.prog 60 #[.pointer (some ⟨C.P,0,none⟩),.int .i64 (i:Int),.int .i64 (tn:Int)] W fun e w'=>
  (∃ c,putP C.q st.1 i tn=.error c∧e=.returned (.tuple #[.int .i64 0,.int .i64 c])∧DlWd C w' st∧DlFr C W w')∨(∃ T,putP C.q st.1 i tn=.ok T∧e=.returned (.tuple #[.int .i64 (st.1.length:Int),.int .i64 0])∧DlWd C w' (T,st.2)∧DlFr C W w')):=fun W i f hW hf hfl=>zLc C hC W st hW i tn hf hn hx hnx hll hfl (by have:=(gS.1 hx).1;have:=hC.pz;omega)
 have HE0:Hid (zAx C.q st at_ kind ⟨s,(tn:Int)⟩=false→kind=1→stepE C.q at_ kind ⟨s,(tn:Int)⟩ st=.error 33):=fun h h1=>by subst h1;exact zLZ h
 have HE1:Hid (zAx C.q st at_ kind ⟨s,(tn:Int)⟩=true→stepE C.q at_ kind ⟨s,(tn:Int)⟩ st=.ok (st.1,st.2++[⟨at_,s,(lookI st.1 (at_:Int) s).toNat⟩])):=zDW
 have HE2:Hid (∀ (i:Nat) (c:Int),zAx C.q st at_ kind ⟨s,(tn:Int)⟩=false→kind≠1→homeP C.q st at_ kind ⟨s,(tn:Int)⟩=(i:Int)→putP C.q st.1 i tn=.error c→stepE C.q at_ kind ⟨s,(tn:Int)⟩ st=.error c):=fun i c h1 h0 h2 h3=>zGy h1 h0 (by rw[h2,Int.toNat_natCast,Int.toNat_natCast];exact h3)
 have HE3:Hid (∀ (i:Nat) (T:List Dir),zAx C.q st at_ kind ⟨s,(tn:Int)⟩=false→kind≠1→homeP C.q st at_ kind ⟨s,(tn:Int)⟩=(i:Int)→putP C.q st.1 i tn=.ok T→stepE C.q at_ kind ⟨s,(tn:Int)⟩ st=.ok (T,st.2++[⟨at_,s,st.1.length⟩])):=fun i T h1 h0 h2 h3=>zG8 h1 h0 (by rw[h2,Int.toNat_natCast,Int.toNat_natCast];exact h3)
 have HSl:Hid (∀ (wx:World) (T:List Dir) (j:Nat),DlWd C wx (T,st.2)→DlFr C w wx→_):=fun wx T j h1 h2=>zMd C hC h1 h2 at_ j s
 clear hsd hr hw hC hn hx hm hk hbase hgA hgb n0 n1 n2 n3 n4 n5 g0 g1 g2 g3 g4 g5 y8 hinv hxp hnp hd hdn hlenD hns hnx hpin
 obtain ⟨N,hN⟩:∃ N,N=st.1.length:=⟨_,rfl⟩
 rw[←hN] at hat hll HLk HX Hlt HBs HDn HE3 HPu
 have HN:=cH hN
 clear hN
 generalize stepE C.q at_ kind ⟨s,(tn:Int)⟩ st=R at *
 generalize zAx C.q st at_ kind ⟨s,(tn:Int)⟩=rt at *
 generalize homeP C.q st at_ kind ⟨s,(tn:Int)⟩=hm at *
 generalize kindP C.q m ⟨s,(tn:Int)⟩=K at *
 generalize lookI st.1 (at_:Int) s=L at *
 generalize (m.ctx.any fun x=>decide (x.name=s))=bes at *
 obtain ⟨m4,hm4⟩:∃ k,k=n.ctx.length:=⟨_,rfl⟩
 rw[←hm4] at HX HK2
 obtain ⟨l4,hl4⟩:∃ k,k=m.ctx.length:=⟨_,rfl⟩
 obtain ⟨l5,hl5⟩:∃ k,k=m.edges.length:=⟨_,rfl⟩
 rw[←hl4,←hl5] at HM HBe
 generalize m.name=m0 at *
 generalize m.ver.major=m1 at *
 generalize m.ver.minor=m2 at *
 generalize m.ver.patch=m3 at *
 clear hm4 hl4 hl5
 have hat0:(0:Int)≤(at_:Int):=by omega
 have hatN:(at_:Int)<(N:Int):=by omega
 have htn0:(0:Int)≤(tn:Int):=by omega
 have htg:(tn:Int)<(C.gn:Int):=by omega
 have hmn0:(0:Int)≤(mn:Int):=by omega
 have hmg:(mn:Int)<(C.gn:Int):=by omega
 go_enter Tryz.func29,Tryz.ntmps29
 go_upto_region 1 with (fail)
 obtain ⟨w1,hw1⟩:∃ w1,w1=w.alloc (.cells #[.string s,.int .i64 (tn:Int)] 61):=⟨_,rfl⟩
 have hq1:w1.heap[w.heap.size]?=some (.cells #[.string s,.int .i64 (tn:Int)] 61 (0,0)):=by rw[hw1];exact zAD _ _
 have hB1:Below w.heap.size w w1:=by rw[hw1];exact bal (bR _ _) _
 rw[←hw1]
 have HB1:=cH hB1
 have hz1:w.heap.size<w1.heap.size:=(aS.1 hq1).1
 obtain ⟨EB,hEB⟩:∃ k,k=w.heap.size:=⟨_,rfl⟩
 rw[←hEB] at hq1 hz1 ⊢
 have He:Hid (∀ W,Below w1.heap.size w1 W→W.cell? ⟨EB,0,none⟩=some (.string s)∧W.cell? ⟨EB,1,none⟩=some (.int .i64 (tn:Int))):=fun W hW=>⟨zAA hW (cO _ _ 0 _ _ _ hq1) hz1,zAA hW (cO _ _ 1 _ _ _ hq1) hz1⟩
 have HNE:Hid (∀ W,Below w.heap.size w W→NotDl C W EB):=fun W hW=>by
  obtain ⟨A2,c2,A2',c2',S2,hpp⟩:=HW.out.parts
  have hk:=hpp.keep hW
  refine ⟨by omega,fun v hv e=>?_,fun v hv e=>?_⟩
  ·rw[cO _ _ 8 _ _ _ hk.row] at hv
   cases hv
   have:=(hpp.T.lt _ e).2;omega
  ·rw[cO _ _ 9 _ _ _ hk.row] at hv
   cases hv
   have:=(hpp.S'.lt _ e).2;omega
 clear hw1 hq1 hB1 hEB
 obtain ⟨x0,x4,x8⟩:=HX.out w1 HB1.out
 obtain ⟨y8,g0,g1,g2,g3,g4,g5⟩:=HM.out w1 HB1.out
 go_cut [9] from 16 to 32 (fun nv wx=>∃ NB:Nat,nv=.pointer (some ⟨NB,0,none⟩)∧Hid (Below w1.heap.size w1 wx∧w1.heap.size≤NB ∧
  wx.heap[NB]?=some (.cells #[.string m0,.int .i64 m1,.int .i64 m2,.int .i64 m3,.slice yA l4 yc,.slice fA l5 fc] 58 (0,0))))
 case first=>
  go_region_held3 (fun w'=>w'.cell? ⟨C.P,0,none⟩=some (.slice (some ⟨gb,go,none⟩) C.gn C.gc)∧w'.cell? ⟨C.P,8,none⟩=some (.slice (some ⟨b,o,none⟩) N c)∧w'.cell? ⟨b,o+at_ * 9+8,none⟩=some (.int .i64 (mn:Int))∧w'.cell? ⟨gb,go+mn * 6,none⟩=some (.string m0)∧w'.cell? ⟨gb,go+mn * 6+1,none⟩=some (.int .i64 m1)∧w'.cell? ⟨gb,go+mn * 6+2,none⟩=some (.int .i64 m2)∧w'.cell? ⟨gb,go+mn * 6+3,none⟩=some (.int .i64 m3)∧w'.cell? ⟨gb,go+mn * 6+4,none⟩=some (.slice yA l4 yc)∧w'.cell? ⟨gb,go+mn * 6+5,none⟩=some (.slice fA l5 fc))
   (first|go_keep)
   (first|fail)
  all_goals
   go_wp2_with fail
   go_meet
   exact ⟨_,rfl,(zES w1 _).1,nR _,(zES w1 _).2⟩
 case rest=>
 obtain ⟨NB,rfl,HN1⟩:=hcut
 generalize wc=w2 at *
 have HB2:=cH HN1.out.1
 have hrow2:=HN1.out.2.2
 have d0:=cO _ _ 0 _ _ _ hrow2
 have d1:=cO _ _ 1 _ _ _ hrow2
 have d2:=cO _ _ 2 _ _ _ hrow2
 have d3:=cO _ _ 3 _ _ _ hrow2
 have d4:=cO _ _ 4 _ _ _ hrow2
 have d5:=cO _ _ 5 _ _ _ hrow2
 obtain ⟨e0,e1⟩:=He.out w2 HB2.out
 have Hbe:=cH (HBe.out w2 (bot HB1.out HB2.out))
 clear x0 x4 x8 y8 g0 g1 g2 g3 g4 g5 HN1 hrow2
 go_wp2_with fail
 refine Hbe.out.mono ?_
 rintro e w3 ⟨rfl,B3⟩
 have HB3:=cH (bot HB2.out B3)
 clear d0 d1 d2 d3 d4 d5 e0 e1 Hbe B3 HB2
 obtain ⟨x0,x4,x8⟩:=HX.out w3 (bot HB1.out HB3.out)
 obtain ⟨e0,e1⟩:=He.out w3 HB3.out
 go_upto_if 38 with fail
 go_cut [10] from 37 to 50 (fun kv wx=>kv=.int .i64 (K:Int)∧Hid (Below w1.heap.size w1 wx))
 case first=>
  cases bes with
  | true=>
    have hK:K=1:=HK1.out rfl
    subst hK
    go_wp2_with fail
    go_meet
    exact ⟨rfl,HB3⟩
  | false=>
    have hK:=HK2.out rfl
    go_upto_region 6 with (fail)
    by_cases h4:m4=0
    ·rw[if_pos h4] at hK
     subst hK
     have hD2:decide ((0:Int)<(m4:Int))=false:=decide_eq_false (by omega)
     have r_x0:=cR x0
     have r_x4:=cR x4
     have r_e1:=cR e1
     go_wp2_with fail
     refine wQ ?_
     repeat (go_big_quiet_step (first|fail))
     refine wpQuiet_nil fun w4 B4=>?_
     have HB4:=cH (bot HB3.out B4)
     go_wp2_with fail
     go_meet
     exact ⟨rfl,HB4⟩
    ·rw[if_neg h4] at hK
     subst hK
     have hD2:decide ((0:Int)<(m4:Int))=true:=decide_eq_true (by omega)
     have r_x0:=cR x0
     have r_x4:=cR x4
     have r_e1:=cR e1
     go_wp2_with fail
     refine wQ ?_
     repeat (go_big_quiet_step (first|fail))
     refine wpQuiet_nil fun w4 B4=>?_
     have HB4:=cH (bot HB3.out B4)
     go_wp2_with fail
     go_meet
     exact ⟨rfl,HB4⟩
 case rest=>
 obtain ⟨hkv,HB4⟩:=hcut
 generalize wc=w4 at *
 subst hkv
 have HBw4:=cH (bot HB1.out HB4.out)
 clear HM HBe HK1 HK2 x0 x4 x8 e0 e1
 by_cases hKk:K=kind
 case neg=>
  have hb1:((K:Int) != (kind:Int))=true:=by
   show (!((K:Int)==(kind:Int)))=true
   rw[beq_eq_false_iff_ne.2 (by omega)];rfl
  go_wp2_with fail
  go_ret
  exact Or.inl ⟨hKk,rfl,HW.out.keep HBw4.out,DlFr.below hHP HBw4.out⟩
 subst hKk
 have HHm2:=cH (HHm.out rfl)
 clear HHm
 have HHm:=HHm2
 clear HHm2
 have hb1:((K:Int) != (K:Int))=false:=by
  show (!((K:Int)==(K:Int)))=false
  rw[beq_self_eq_true];rfl
 obtain ⟨x0,x4,x8⟩:=HX.out w4 HBw4.out
 obtain ⟨e0,e1⟩:=He.out w4 HB4.out
 have HLq:=cH (qcall (w:=w4) (fun W hW=>HLk.out W (bot HBw4.out hW)))
 clear HLk HX
 go_upto_region 10 with (fail)
 have r_x8:=cR x8
 have r_e0:=cR e0
 go_wp2_with fail
 refine wQ ?_
 repeat (go_big_quiet_step (first|(with_reducible exact HLq.out _ _)))
 refine wpQuiet_nil fun w5 B5=>?_
 have HB5:=cH (bot HB4.out B5)
 have HB45:=cH (bot HBw4.out B5)
 have z8:=zAA B5 x8 (lL hHP HBw4.out.size)
 obtain ⟨z0,z1⟩:=He.out w5 HB5.out
 clear r_x8 r_e0 x0 x4 x8 e0 e1 B5 HLq
 go_upto_region 11 with (fail)
 obtain ⟨rb,hrb⟩:∃ rb,rb=(decide (0≤L)&&decide ((dirAt st.1 L.toNat).node=(tn:Int))):=⟨_,rfl⟩
 have Hrb:=cH hrb
 have hrt1:rt=(rb&&(!k3||seesB C.q.g st.1 st.2 L.toNat at_)):=by rw[Hrt.out,hrb,Bool.and_assoc]
 clear hrb Hrt
 have Hrt:=cH hrt1
 clear hrt1
 go_cut [13] from 62 to 77 (fun bv wx=>bv=.bool rb∧Hid (Below w5.heap.size w5 wx))
 case first=>
  by_cases hL:0≤L
  case neg=>
   have hr:rb=false:=by rw[Hrb.out,decide_eq_false hL];rfl
   have hLd:decide (0≤L)=false:=decide_eq_false hL
   clear hL Hrb Hrt
   subst hr
   have r_z8:=cR z8
   have r_z1:=cR z1
   go_wp2_with fail
   refine wQ ?_
   repeat (go_big_quiet_step (first|fail))
   refine wpQuiet_nil fun w6 B6=>?_
   have HB6:=cH B6
   go_wp2_with fail
   go_meet
   exact ⟨rfl,HB6⟩
  obtain ⟨j,hj⟩:∃ j:Nat,L=(j:Int):=⟨L.toNat,by omega⟩
  subst hj
  have hjN:j<N:=Hlt.out hL
  have y8:=HDn.out w5 j HB45.out hjN
  have hLd:decide (0≤(j:Int))=true:=decide_eq_true hL
  have hjI:(j:Int)<(N:Int):=by omega
  rw[Int.toNat_natCast,decide_eq_true hL,Bool.true_and] at Hrb
  clear Hrt
  generalize (dirAt st.1 j).node=nj at *
  by_cases hn:nj=(tn:Int)
  ·have hr:rb=true:=by rw[Hrb.out,decide_eq_true hn]
   have hb1:(nj==(tn:Int))=true:=by rw[hn,beq_self_eq_true]
   clear Hrb hn
   subst hr
   have r_z8:=cR z8
   have r_z1:=cR z1
   have r_y8:=cR y8
   go_wp2_with fail
   refine wQ ?_
   repeat (go_big_quiet_step (first|fail))
   refine wpQuiet_nil fun w6 B6=>?_
   have HB6:=cH B6
   go_wp2_with fail
   go_meet
   exact ⟨rfl,HB6⟩
  ·have hr:rb=false:=by rw[Hrb.out,decide_eq_false hn]
   have hb1:(nj==(tn:Int))=false:=beq_eq_false_iff_ne.2 hn
   clear Hrb hn
   subst hr
   have r_z8:=cR z8
   have r_z1:=cR z1
   have r_y8:=cR y8
   go_wp2_with fail
   refine wQ ?_
   repeat (go_big_quiet_step (first|fail))
   refine wpQuiet_nil fun w6 B6=>?_
   have HB6:=cH B6
   go_wp2_with fail
   go_meet
   exact ⟨rfl,HB6⟩
 case rest=>
 obtain ⟨hbv,HB6⟩:=hcut
 generalize wc=w6 at *
 subst hbv
 clear z8 z0 z1
 obtain ⟨qc,hqc⟩:∃ qc,qc=(rb&&k3):=⟨_,rfl⟩
 have HBw6:=cH (bot HB45.out HB6.out)
 go_upto_region 12 with (fail)
 go_cut [82] from 78 to 82 (fun bv wx=>bv=.bool qc∧wx=w6)
 case first=>
  cases rb<;>cases k3
  all_goals
   subst hqc
   go_wp2_with fail
   go_meet
   exact ⟨rfl,rfl⟩
 case rest=>
 obtain ⟨hbv,hwc⟩:=hcut
 subst hbv
 subst hwc
 generalize wc=w6 at *
 go_upto_if 82 with fail
 go_cut [13] from 83 to 86 (fun bv wx=>bv=.bool rt∧Hid (Below w5.heap.size w5 wx))
 case first=>
  cases qc with
  | false=>
    have hr:rt=rb:=by
     rw[Hrt.out]
     cases rb with
     | false=>rfl
     | true=>cases k3 with
       | false=>rfl
       | true=>cases hqc
    clear Hrt
    go_wp2_with fail
    go_meet
    exact ⟨by rw[hr],HB6⟩
  | true=>
    have h2:rb=true∧k3=true:=by
     have:=hqc.symm
     rwa [Bool.and_eq_true] at this
    have hr:rt=seesB C.q.g st.1 st.2 L.toNat at_:=by rw[Hrt.out,h2.1,h2.2];rfl
    have hLL:0≤L∧(dirAt st.1 L.toNat).node=(tn:Int):=by
     have:=Hrb.out
     rw[h2.1] at this
     have h3:=this.symm
     rw[Bool.and_eq_true,decide_eq_true_eq,decide_eq_true_eq] at h3
     exact h3
    obtain ⟨j,hj⟩:∃ j:Nat,L=(j:Int):=⟨L.toNat,by omega⟩
    have hjN:j<N:=by have:=Hlt.out hLL.1;omega
    have Hb:=cH (HBs.out w6 j HBw6.out hjN (by have:=hLL.2;rw[hj,Int.toNat_natCast] at this;exact this))
    rw[hj,Int.toNat_natCast] at hr
    clear Hrt Hrb hLL hqc
    subst hj
    go_wp2_with fail
    refine Hb.out.mono ?_
    rintro e w7 ⟨rfl,B7⟩
    have HB7:=cH (bot HB6.out B7)
    clear B7 Hb
    go_wp2_with fail
    go_meet
    exact ⟨by rw[hr],HB7⟩
 case rest=>
 obtain ⟨hbv,HB7⟩:=hcut
 generalize wc=w7 at *
 subst hbv
 clear hqc
 have HB17:=cH (bot HB5.out HB7.out)
 have HBw7:=cH (bot HB45.out HB7.out)
 obtain ⟨e0,e1⟩:=He.out w7 HB17.out
 cases hrt:rt with
 | true=>
   have hL:0≤L:=by
    have h1:=Hrt.out
    rw[hrt] at h1
    have h2:=Hrb.out
    have h3:rb=true:=by
     cases h:rb with
     | true=>rfl
     | false=>rw[h] at h1;cases h1
    rw[h3] at h2
    by_cases h:0≤L
    ·exact h
    ·rw[decide_eq_false h] at h2;cases h2
   have hR:=HE1.out hrt
   have hjN:L.toNat<N:=Hlt.out hL
   obtain ⟨j,hj⟩:∃ j:Nat,L=(j:Int):=⟨L.toNat,by omega⟩
   subst hj
   rw[Int.toNat_natCast] at hR hjN
   have HR:=cH hR
   clear hR hL Hlt HDn HBs Hrt Hrb HPu HBt HE1 HE2 HE3
   obtain ⟨A9,c9,x9,hOw,hPd,hzc,hzP⟩:=HSl.out w7 st.1 j (HW.out.keep HBw7.out) (DlFr.below hHP HBw7.out)
   have hi6:at_≤1000000:=by omega
   have hj6:j≤1000000:=by omega
   have HOw:=cH hOw
   have HPd:=cH hPd
   clear hOw hPd HSl
   go_upto_region 24 with (fail)
   go_cut [] from 114 to 127 (fun wq=>Hid (DlWd C wq (st.1,st.2++[⟨at_,s,j⟩])∧DlFr C w wq))
   case first=>
    go_region_law
     (first
      | (refine zBB (by rfl) _ _ _ (by rfl) zGV Tryz.underlying85 (by rfl) (HOw.out w7.drew _ (bR _ _).drew) ⟨w7.heap.size,0,none⟩ 1 [.int .i64 (at_:Int),.string s,.int .i64 (j:Int)] ⟨at_,s,j⟩ (by rfl) ⟨rfl,hsz,hi6,hj6⟩ (zAd w7.drew #[.int .i64 (at_:Int),.string s,.int .i64 (j:Int)] _) (by unfold maxLen;omega) (by omega) (nT hzc (by simp)) (w7.heap.size+1) (by simp) ?_;intro g8 cap8 w8 hown8 hgrow8 hat8 hg8;have HD:=cH (HPd.out w7.drew w8 _ g8 cap8 (bR _ _).drew hown8 hgrow8 hat8);have y9:=HD.out.1;have f9:=HD.out.2.1;clear hown8 hgrow8 hat8))
    all_goals
     go_wp2_with fail
     go_meet
     exact HD.out.2.2
   case rest=>
   have Hcut:=cH hcut.out
   clear x9 e0 hcut HOw HPd
   go_wp2_with fail
   go_ret
   exact Or.inr ⟨rfl,Or.inr ⟨_,HR.out,rfl,Hcut.out.1,Hcut.out.2⟩⟩
 | false=>
   cases hkk1:k1 with
   | true=>
     have hR:=cH (HE0.out hrt (Hkk.out.2.2.1 hkk1))
     subst hkk1
     go_wp2_with fail
     go_ret
     exact Or.inr ⟨rfl,Or.inl ⟨_,hR.out,rfl,by decide,HW.out.keep HBw7.out,DlFr.below hHP HBw7.out⟩⟩
   | false=>
   have hn1:K≠1:=fun h=>by
    have:=Hkk.out.2.2.2 h
    rw[hkk1] at this;cases this
   obtain ⟨i,f,hmi,hfi,hfl⟩:=HHm.out
   have Hpu:Hid (∀ W,DlWd C W st→Calls Tryz.prog 60 #[.pointer (some ⟨C.P,0,none⟩),.int .i64 (i:Int),.int .i64 (tn:Int)] W fun e w'=>
    (∃ c,R=.error c∧(c=40∨c=41)∧e=.returned (.tuple #[.int .i64 0,.int .i64 c])∧Hid (DlWd C w' st∧DlFr C W w'))∨(∃ T,R=.ok (T,st.2++[⟨at_,s,N⟩])∧e=.returned (.tuple #[.int .i64 (N:Int),.int .i64 0])∧Hid (DlWd C w' (T,st.2)∧DlFr C W w'))):=fun W hW=>by
    refine (HPu.out W i f hW hfi hfl).mono ?_
    rintro e w' (⟨c,h1,h2,h3⟩|⟨T,h1,h2,h3⟩)
    ·exact .inl ⟨c,HE2.out i c hrt hn1 hmi h1,zIy h1,h2,h3⟩
    ·exact .inr ⟨T,HE3.out i T hrt hn1 hmi h1,h2,h3⟩
   cases hkk2:k2 with
   | true=>
     have hsp:hm=spotI st.1 st.2 C.q.old d.path s x:=Hh2.out (Hkk.out.2.1.1 hkk2)
     rw[hmi] at hsp
     rw[←hsp] at HBt
     subst hkk1 hkk2
     clear hsp hmi hfi Hkk Hh2 Hh3 Hrt Hrb HPu HE1 HE2 HE3 HE0
     go_wp2_with fail
     refine (HBt.out w7 HBw7.out).mono ?_
     rintro e wy ⟨rfl,hb9⟩
     have HBx:=cH (bot HBw7.out hb9)
     have HB1x:=cH (bot HB17.out hb9)
     clear e0 e1
     obtain ⟨e0,e1⟩:=He.out wy HB1x.out
     clear hb9
     go_wp2_with fail
     have hNE:NotDl C wy EB:=HNE.out wy HBx.out
     refine (Hpu.out wy (HW.out.keep HBx.out)).mono ?_
     rintro e w9 (⟨c,hR,hc,rfl,HW9⟩|⟨T,hR,rfl,HW9⟩)
     ·have HF9:=cH ((DlFr.below hHP HBx.out).trans HW9.out.2)
      rcases hc with rfl|rfl
      ·go_wp2_with fail
       go_ret
       exact Or.inr ⟨rfl,Or.inl ⟨_,hR,rfl,by decide,HW9.out.1,HF9.out⟩⟩
      ·go_wp2_with fail
       go_ret
       exact Or.inr ⟨rfl,Or.inl ⟨_,hR,rfl,by decide,HW9.out.1,HF9.out⟩⟩
     ·have HR:=cH hR
      have HF9:=cH ((DlFr.below hHP HBx.out).trans HW9.out.2)
      have hzx:EB<wy.heap.size:=lL hz1 HB1x.out.size
      have e2:w9.cell? ⟨EB,0,none⟩=some (.string s):=(zAW (HW9.out.2.2 EB hzx hNE).1 0 none).trans e0
      have hz9:EB<w9.heap.size:=lL hzx HW9.out.2.1
      clear hR Hpu e0 e1 hNE hzx
      have e0:=e2
      clear e2
      obtain ⟨A9,c9,x9,hOw,hPd,hzc,hzP⟩:=HSl.out w9 T N HW9.out.1 HF9.out
      have hi6:at_≤1000000:=by omega
      have hj6:N≤1000000:=by omega
      have HOw:=cH hOw
      have HPd:=cH hPd
      clear hOw hPd HSl
      go_upto_region 24 with (fail)
      go_cut [] from 114 to 127 (fun wq=>Hid (DlWd C wq (T,st.2++[⟨at_,s,N⟩])∧DlFr C w wq))
      case first=>
       go_region_law
        (first
         | (refine zBB (by rfl) _ _ _ (by rfl) zGV Tryz.underlying85 (by rfl) (HOw.out w9.drew _ (bR _ _).drew) ⟨w9.heap.size,0,none⟩ 1 [.int .i64 (at_:Int),.string s,.int .i64 (N:Int)] ⟨at_,s,N⟩ (by rfl) ⟨rfl,hsz,hi6,hj6⟩ (zAd w9.drew #[.int .i64 (at_:Int),.string s,.int .i64 (N:Int)] _) (by unfold maxLen;omega) (by omega) (nT hzc (by simp)) (w9.heap.size+1) (by simp) ?_;intro g8 cap8 w8 hown8 hgrow8 hat8 hg8;have HD:=cH (HPd.out w9.drew w8 _ g8 cap8 (bR _ _).drew hown8 hgrow8 hat8);have y9:=HD.out.1;have f9:=HD.out.2.1;clear hown8 hgrow8 hat8))
       all_goals
        go_wp2_with fail
        go_meet
        exact HD.out.2.2
      case rest=>
      have Hcut:=cH hcut.out
      clear x9 e0 hcut HOw HPd
      go_wp2_with fail
      go_ret
      exact Or.inr ⟨rfl,Or.inr ⟨_,HR.out,rfl,Hcut.out.1,Hcut.out.2⟩⟩
   | false=>
     have hsp:hm=(at_:Int):=Hh3.out (fun h=>by
      have:=Hkk.out.2.1.2 h
      rw[hkk2] at this;cases this)
     have hia:at_=i:=by omega
     subst hia
     subst hkk1 hkk2
     clear hsp hmi hfi Hkk Hh2 Hh3 Hrt Hrb HPu HBt HE1 HE2 HE3 HE0
     have HBx:=HBw7
     have HB1x:=HB17
     go_wp2_with fail
     have hNE:NotDl C w7 EB:=HNE.out w7 HBx.out
     refine (Hpu.out w7 (HW.out.keep HBx.out)).mono ?_
     rintro e w9 (⟨c,hR,hc,rfl,HW9⟩|⟨T,hR,rfl,HW9⟩)
     ·have HF9:=cH ((DlFr.below hHP HBx.out).trans HW9.out.2)
      rcases hc with rfl|rfl
      ·go_wp2_with fail
       go_ret
       exact Or.inr ⟨rfl,Or.inl ⟨_,hR,rfl,by decide,HW9.out.1,HF9.out⟩⟩
      ·go_wp2_with fail
       go_ret
       exact Or.inr ⟨rfl,Or.inl ⟨_,hR,rfl,by decide,HW9.out.1,HF9.out⟩⟩
     ·have HR:=cH hR
      have HF9:=cH ((DlFr.below hHP HBx.out).trans HW9.out.2)
      have hzx:EB<w7.heap.size:=lL hz1 HB1x.out.size
      have e2:w9.cell? ⟨EB,0,none⟩=some (.string s):=(zAW (HW9.out.2.2 EB hzx hNE).1 0 none).trans e0
      have hz9:EB<w9.heap.size:=lL hzx HW9.out.2.1
      clear hR Hpu e0 e1 hNE hzx
      have e0:=e2
      clear e2
      obtain ⟨A9,c9,x9,hOw,hPd,hzc,hzP⟩:=HSl.out w9 T N HW9.out.1 HF9.out
      have hi6:at_≤1000000:=by omega
      have hj6:N≤1000000:=by omega
      have HOw:=cH hOw
      have HPd:=cH hPd
      clear hOw hPd HSl
      go_upto_region 24 with (fail)
      go_cut [] from 114 to 127 (fun wq=>Hid (DlWd C wq (T,st.2++[⟨at_,s,N⟩])∧DlFr C w wq))
      case first=>
       go_region_law
        (first
         | (refine zBB (by rfl) _ _ _ (by rfl) zGV Tryz.underlying85 (by rfl) (HOw.out w9.drew _ (bR _ _).drew) ⟨w9.heap.size,0,none⟩ 1 [.int .i64 (at_:Int),.string s,.int .i64 (N:Int)] ⟨at_,s,N⟩ (by rfl) ⟨rfl,hsz,hi6,hj6⟩ (zAd w9.drew #[.int .i64 (at_:Int),.string s,.int .i64 (N:Int)] _) (by unfold maxLen;omega) (by omega) (nT hzc (by simp)) (w9.heap.size+1) (by simp) ?_;intro g8 cap8 w8 hown8 hgrow8 hat8 hg8;have HD:=cH (HPd.out w9.drew w8 _ g8 cap8 (bR _ _).drew hown8 hgrow8 hat8);have y9:=HD.out.1;have f9:=HD.out.2.1;clear hown8 hgrow8 hat8))
       all_goals
        go_wp2_with fail
        go_meet
        exact HD.out.2.2
      case rest=>
      have Hcut:=cH hcut.out
      clear x9 e0 hcut HOw HPd
      go_wp2_with fail
      go_ret
      exact Or.inr ⟨rfl,Or.inr ⟨_,HR.out,rfl,Hcut.out.1,Hcut.out.2⟩⟩
end Go.Proofs.YtminjjdnmpaaoaaGreatDoor
namespace Go.Proofs.YtminjjdnmpaaoaaGreatDoor
open Go.RowKit Go.Sort
structure But (B:Nat) (w w':World):Prop where
 os:w'.os=w.os
 tape:w'.tape=w.tape
 output:w'.output=w.output
 size:w.heap.size≤w'.heap.size
 block:∀ k,k<w.heap.size→k≠B→w'.heap[k]?=w.heap[k]?
section
variable {B:Nat} {w w' w'':World}
theorem But.refl (B:Nat) (w:World):But B w w:=⟨rfl,rfl,rfl,nR _,fun _ _ _=>rfl⟩
theorem But.trans (h:But B w w') (k:But B w' w''):But B w w'':=
 ⟨k.os.trans h.os,k.tape.trans h.tape,k.output.trans h.output,nT h.size k.size,fun i hi hn=>(k.block i (lL hi h.size) hn).trans (h.block i hi hn)⟩
theorem But.of (h:Below w.heap.size w w'):But B w w':=⟨h.os,h.tape,h.output,h.size,fun k hk _=>h.block k hk⟩
theorem But.below {N:Nat} (h:But B w w') (hB:N≤B) (hN:N≤w.heap.size):Below N w w':=
 ⟨h.os,h.tape,h.output,h.size,fun k hk=>h.block k (lL hk hN) (Nat.ne_of_lt (lL hk hB))⟩
theorem But.then (h:But B w w') (k:Below w'.heap.size w' w''):But B w w'':=h.trans (But.of k)
theorem But.set (w:World) (B o:Nat) (v:Value):But B w (w.setCell ⟨B,o,none⟩ v):=
 ⟨rfl,rfl,rfl,by simp,fun k _ hk=>heap_setCell_other w ⟨B,o,none⟩ k v hk⟩
theorem But.cell (h:But B w w') {b o:Nat} {v:Value} (hc:w.cell? ⟨b,o,none⟩=some v) (hb:b≠B):w'.cell? ⟨b,o,none⟩=some v:=by
 rw[zAW (h.block b (zAf hc) hb) o none];exact hc
theorem But.slv {α:Type} {r:Rp α} {S:Nat→Prop} {l:List α} {v:Value} (h:But B w w') (hs:SlV r w S l v) (hS:∀ b,S b→b≠B):SlV r w' S l v:=SlV.keep hs fun b hb hl=>h.block b hl (hS b hb)
end
section
variable {α:Type} {r:Rp α} {w:World} {S:Nat→Prop}
theorem Elems.set {y:α} {j:Nat} {u:Value} (hj:j<r.size):∀ {l:List α} {xs:List Value} {i:Nat} (hi:i<l.length),Elems r w S l xs→(∀ cs,r.holds w S l[i] cs→r.holds w S y (cs.set j u))→Elems r w S (l.set i y) (xs.set (i * r.size+j) u):=by
 intro l
 induction l with
 | nil=>intro xs i hi;simp at hi
 | cons x l ih=>
   intro xs i hi h hy
   obtain ⟨cs,rest,h1,h2,h3⟩:=h
   have hl:=r.len h2
   subst h1
   cases i with
   | zero=>
     rw[List.set_cons_zero,Nat.zero_mul,Nat.zero_add,List.set_append_left _ _ (by rw[hl];exact hj)]
     exact ⟨cs.set j u,rest,rfl,hy cs h2,h3⟩
   | succ i=>
     rw[List.set_cons_succ,List.set_append_right _ _ (by rw[hl,Nat.succ_mul];omega),hl,show (i+1) * r.size+j - r.size=i * r.size+j from by rw[Nat.succ_mul];omega]
     exact ⟨cs,_,rfl,h2,ih (by simpa using hi) h3 (by simpa using hy)⟩
theorem Own.setE {base g n cap:Nat} {e:TypeId} {l:List α} (h:Own r w base e (.slice (some ⟨g,0,none⟩) n cap) l S) {i j:Nat} (hi:i<l.length) (hj:j<r.size) {y:α} {u:Value} (hy:∀ cs,r.holds w S l[i] cs→r.holds w S y (cs.set j u)) :
  Own r (w.setCell ⟨g,i * r.size+j,none⟩ u) base e (.slice (some ⟨g,0,none⟩) n cap) (l.set i y) S∧w.grownBy (w.setCell ⟨g,i * r.size+j,none⟩ u) (some g):=by
 obtain ⟨h0,xs,h1,h2⟩:=h
 have hn:n=l.length:=by
  rcases h1.2 with ⟨h',_⟩|⟨_,_,_,h',_⟩
  ·simp at h'
  ·simp at h';exact h'.2.1
 subst hn
 obtain ⟨g1,g2⟩:=h1.stored (i * r.size+j) u
 refine ⟨⟨fun b hb=>⟨lL (h0 b hb).1 g2.size,(h0 b hb).2⟩,xs.set (i * r.size+j) u,by rw[List.length_set];exact g1,(Elems.set hj hi h2 hy).mono fun b hb hl=>⟨hb,g2.block b hl (fun e=>(h0 b hb).2 (by rw[Value.ownBlock];exact e.symm))⟩⟩,g2⟩
end
theorem SlV.cutD {α:Type} {r:Rp α} {w:World} {S:Nat→Prop} {l:List α} {A:Option Addr} {n c:Nat} (h:SlV r w S l (.slice A n c)) (k:Nat) (hk:k≤n) :
  SlV r w S (l.drop k) (.slice (if c=k then A else A.map (·.add (k * r.size))) (n - k) (c - k)):=by
 obtain ⟨A',c',h1,h2,h3,h4,h5⟩:=h
 simp only[List.cons.injEq,Value.slice.injEq,and_true] at h1
 obtain ⟨rfl,rfl,rfl⟩:=h1
 refine ⟨_,_,by rw[List.length_drop],by rw[List.length_drop];omega,by omega,fun he=>?_,fun hn=>?_⟩
 ·split at he
  ·have:=h4 he;omega
  ·rw[Option.map_eq_none_iff] at he
   have:=h4 he;omega
 ·rw[List.length_drop] at hn
  obtain ⟨b,o,rfl,hS,hb,hr⟩:=h5 (by omega)
  rw[if_neg (by omega)]
  refine ⟨b,o+k * r.size,by rw[Option.map_some,zD0],hS,hb,fun i x hx=>?_⟩
  rw[List.getElem?_drop] at hx
  obtain ⟨cs,g1,g2⟩:=hr _ x hx
  refine ⟨cs,g1,fun j u hu=>?_⟩
  have:=g2 j u hu
  rw[Nat.add_mul] at this
  rw[show o+k * r.size+i * r.size+j=o+(k * r.size+i * r.size)+j from by omega]
  exact this
theorem zE7 {α:Type} (p:α→Bool):∀ (l:List α) (j:Nat),(∀ x∈l.take j,p x=true)→(l.length≤j∨∃ y,l[j]?=some y∧p y=false)→l.takeWhile p=l.take j∧l.dropWhile p=l.drop j
 | [],j,_,_=>by simp
 | x::l,0,_,h=>by
   rcases h with h|⟨y,h1,h2⟩
   ·simp at h
   ·cases h1
    simp[h2]
 | x::l,j+1,h,h'=>by
   have hx:p x=true:=h x (by simp)
   have ih:=zE7 p l j (fun y hy=>h y (by simp[hy])) (by
    rcases h' with h'|⟨y,h1,h2⟩
    ·exact .inl (by simpa using h')
    ·exact .inr ⟨y,by simpa using h1,h2⟩)
   simp[hx,ih.1,ih.2]
theorem zCe {P:Program} {t e:TypeId} {z:Nat} (ht:P.underlying t=some (.slice (P.elem t))) (he:P.elem t=e) (hs:∀ w,(sizeOf e).run P w=.ok z w) (A:Option Addr) (n c k:Nat) (h:k≤n) (w:World) :
  (Instr.slice t (.slice A n c) (some (.int .i64 (k:Int))) none none).run P w=.ok (.slice (if c=k then A else A.map (·.add (k * z))) (n - k) (c - k)) w:=by
 subst he
 rw[run_slice_l w t A n c ht .i64 (k:Int) (by omega) (by omega),hs]
 simp[Result.andThen,sliced]
theorem zBo {P:Program} {fn:Func} {p q:Tmp} {ty:TypeId} (h:fn.results=#[.cell p ty,.tmp q]) (tmps:Array Value) (w:World) (g:Nat) (t:TypeId) (cs:Array Value) (fr:Nat×Nat) (d:TypeDesc)
  (hp:tmps.getD p undef=.pointer (some ⟨g,0,none⟩)) (hg:w.heap[g]?=some (.cells cs t fr))
  (hu:P.underlying ty=some d) (hd:(match d with|.struct _|.array _ _=>true|_=>false)=true) (hi:(P.info? ty).map (·.size)=some cs.size) :
  (results fn tmps).run P w=.ok (.tuple #[.agg cs,tmps.getD q undef]) w:=by
 have hp':tmps[p]?.getD undef=.pointer (some ⟨g,0,none⟩):=by simpa using hp
 simp[results,h,hp',asAddr,run_loadVar_row w g t ty cs fr d hg hu hd hi]
theorem row3P {W:World} {b:Nat} {x y z:Value} {t:TypeId} (h:W.heap[b]?=some (.cells #[x,y,z] t (0,0))):(W.cell? ⟨b,0,none⟩=some x∧W.cell? ⟨b,1,none⟩=some y∧W.cell? ⟨b,2,none⟩=some z)∧W.frozen? ⟨b,0,none⟩=false∧W.frozen? ⟨b,1,none⟩=false∧W.frozen? ⟨b,2,none⟩=false:=by
 refine ⟨⟨cO _ _ 0 _ _ _ h,cO _ _ 1 _ _ _ h,cO _ _ 2 _ _ _ h⟩,?_,?_,?_⟩<;>simp[World.frozen?,h]
end Go.Proofs.YtminjjdnmpaaoaaGreatDoor
namespace Go.Proofs.YtminjjdnmpaaoaaGreatDoor
open Go.Rows Go.RowKit Go.Shelf Go.Sort
theorem zMf (C:PlCtx) (hC:C.Ok) (w:World) (st:PlSt) (hw:PlWd C w st) :
  Calls Tryz.prog 22 #[.pointer (some ⟨C.P,0,none⟩)] w fun e w'=>e=.returned (.bool (mayPl C.q.g C.q.ps))∧Below w.heap.size w w':=by
 obtain ⟨A,c,A',c',hr⟩:=hw.read
 have x0:=hr.c0
 have x1:=hr.c1
 have hgl:=hC.g.n_eq
 have hpl:=hC.p.n_eq
 have hgcap:=zAi hC.g
 have hpcap:=zAi hC.p
 have HF:Hid (∀ W (i:Nat),Below w.heap.size w W→i<C.gn→C.pn=C.gn→∃ (n:Node) (x:Pack),C.q.g[i]?=some n∧C.q.ps[i]?=some x∧Calls Tryz.prog 46 #[.pointer (some ⟨C.P,0,none⟩),.int .i64 (i:Int)] W fun e w'=>e=.returned (.bool (formP C.q.g i n x))∧Below W.heap.size W w'):=fun W i hW hi hp=>by
  have h1:i<C.q.g.length:=by omega
  have h2:i<C.q.ps.length:=by omega
  exact ⟨_,_,gE h1,gE h2,zHO C hC W st (hw.keep hC hW) i (gE h1) (gE h2)⟩
 have HR:Hid (mayPl C.q.g C.q.ps=(decide (1≤C.gn)&&(decide (C.gn≤128)&&(decide (C.pn=C.gn)&&zBl C.q.g 0 (C.q.g.drop 0) (C.q.ps.drop 0))))):=by
  unfold Hid mayPl;rw[hgl,hpl];rfl
 have Hgl:=cH hgl
 have Hpl:=cH hpl
 have hHP:=hr.hP
 clear hr hw hC hgl hpl
 generalize mayPl C.q.g C.q.ps=R at *
 generalize C.gn=gn at *
 generalize C.pn=pn at *
 generalize C.P=PB at *
 go_enter Tryz.func22,Tryz.ntmps22
 by_cases h1:1≤gn
 case neg=>
  have hI:(gn:Int)<1:=by omega
  have Hr:Hid (R=false):=by unfold Hid;rw[HR.out,decide_eq_false h1];rfl
  clear HR h1
  go_wp2_with fail
  go_ret
  exact ⟨zAc Hr.out.symm,bR _ _⟩
 have hI:¬(gn:Int)<1:=by omega
 by_cases h2:gn≤128
 case neg=>
  have hI2:(128:Int)<(gn:Int):=by omega
  have hD2:decide (128<gn)=true:=decide_eq_true (by omega)
  have Hr:Hid (R=false):=by unfold Hid;rw[HR.out,decide_eq_true h1,decide_eq_false h2];rfl
  clear HR h1 h2
  go_wp2_with fail
  go_ret
  exact ⟨zAc Hr.out.symm,bR _ _⟩
 have hI2:¬(128:Int)<(gn:Int):=by omega
 have hD2:decide (128<gn)=false:=decide_eq_false (by omega)
 by_cases h3:pn=gn
 case neg=>
  have hI3:((pn:Int) != (gn:Int))=true:=by show (!((pn:Int)==(gn:Int)))=true;rw[beq_eq_false_iff_ne.2 (by omega)];rfl
  have hI4:((pn:Int)==(gn:Int))=false:=beq_eq_false_iff_ne.2 (by omega)
  have Hr:Hid (R=false):=by unfold Hid;rw[HR.out,decide_eq_true h1,decide_eq_true h2,decide_eq_false h3];rfl
  clear HR h1 h2 h3
  go_wp2_with fail
  go_ret
  exact ⟨zAc Hr.out.symm,bR _ _⟩
 have HR2:Hid (R=zBl C.q.g 0 (C.q.g.drop 0) (C.q.ps.drop 0)):=by
  unfold Hid;rw[HR.out,decide_eq_true h1,decide_eq_true h2,decide_eq_true h3,Bool.true_and,Bool.true_and,Bool.true_and]
 subst h3
 clear HR h1
 have hI3:((pn:Int)==(pn:Int))=true:=beq_self_eq_true _
 go_wp2_with fail
 go_loopw [27] (fun t wr=>∃ k:Nat,k≤pn∧t=.int .i64 k∧Hid (R=zBl C.q.g k (C.q.g.drop k) (C.q.ps.drop k))∧Hid (Below w.heap.size w wr)) (fun t _=>pn - (intOf t).toNat)
 case atStart=>exact ⟨0,nZ _,rfl,HR2,bR _ _⟩
 case round=>
  clear HR2 x0 x1
  obtain ⟨k,hk,rfl,heq,hbel⟩:=hrel
  have hk0:(0:Int)≤(k:Int):=by omega
  by_cases hlt:k<pn
  case neg=>
   have He:Hid (R=true):=by unfold Hid;rw[heq.out,zEy _ (by have:=Hgl.out;omega) (by have:=Hpl.out;omega)]
   have hI:¬(k:Int)<(pn:Int):=by omega
   clear heq
   go_wp2_with fail
   go_ret
   exact ⟨zAc He.out.symm,hbel.out⟩
  have hkn:(k:Int)<(pn:Int):=by omega
  obtain ⟨n,x,hn,hx,hcall⟩:=HF.out wr k hbel.out hlt (by trivial)
  have Hst:=cH (heq.out.trans (zEl _ hn hx))
  have Hcall:=cH hcall
  clear heq hn hx hcall
  generalize formP C.q.g k n x=v at *
  cases v with
  | false=>
    have He:Hid (R=false):=Hst.out
    clear Hst
    go_wp2_with fail
    refine Hcall.out.mono ?_
    rintro e w1 ⟨rfl,B1⟩
    go_wp2_with fail
    go_ret
    exact ⟨zAc He.out.symm,bot hbel.out B1⟩
  | true=>
    have He:Hid (R=zBl C.q.g (k+1) (C.q.g.drop (k+1)) (C.q.ps.drop (k+1))):=by unfold Hid;rw[Hst.out,Bool.true_and]
    clear Hst
    go_wp2_with fail
    refine Hcall.out.mono ?_
    rintro e w1 ⟨rfl,B1⟩
    go_wp2_with fail
    go_roundw
    case rel=>exact ⟨k+1,by omega,by go_num,He,bot hbel.out B1⟩
    case measure=>simp[intOf];omega
