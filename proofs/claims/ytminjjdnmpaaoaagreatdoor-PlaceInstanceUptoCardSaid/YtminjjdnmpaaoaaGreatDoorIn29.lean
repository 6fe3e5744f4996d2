/-
  The law that what a node has beside it is found in one directory with its dependant: walked.
-/
import Derived.Test.YtminjjdnmpaaoaaGreatDoorIn27
import Derived.Test.YtminjjdnmpaaoaaGreatDoorIn28
import Derived.Test.YtminjjdnmpaaoaaGreatDoorIn06
import Derived.Test.YtminjjdnmpaaoaaGreatDoorAl
set_option linter.all false
set_option maxHeartbeats 12800000
set_option maxRecDepth 100000
namespace Go.Proofs.YtminjjdnmpaaoaaGreatDoor
open Go.Rows Go.RowKit Go.Shelf Go.Sort
theorem zD6 (x:Wd) (v:Value) (w:World) (S:Nat→Prop) (ht:Tab w) (hv:WdV w S x v) (hxz:WdZ x∧WdS x) :
  Calls Tryz.prog 5 #[v] w fun e w'=>e=.returned (.bool true)∧Below w.heap.size w w':=by
 have HSol:=cH (zLz hv hxz.2)
 obtain ⟨kA,kn,kc,mA,mn,mc,nA,nn,nc,lA,ln,lc,vA,vn,vc,oA,on,oc,rfl,_,_,_,_,_,h5,hi0,hi1,hi2,hi3⟩:=hv
 have HOld:Hid (∀ W,Below w.heap.size w W→Calls Tryz.prog 12 #[.agg #[.slice kA kn kc,.slice mA mn mc,.slice nA nn nc,.slice lA ln lc,.slice vA vn vc,.bool x.dev,.int .i64 x.lim.dec,.int .i64 x.lim.nod,.int .i64 x.lim.dirs,.int .i64 x.lim.path,.slice oA on oc,.bool x.like]] W fun e w'=>∃ p,e=.returned (.pointer p)∧OldV w' (fun b=>b<w'.heap.size) (.pointer p) (if x.like=true then some x.old else none)∧Below W.heap.size W w'):=fun W hW=>
  (zMY kA mA nA lA vA kn kc mn mc nn nc ln lc vn vc x.dev x.lim.dec x.lim.nod x.lim.dirs x.lim.path oA on oc x.like x.old W S (h5.belowSize hW) hxz.1).mono fun e w' ⟨ov,h1,h2,h3⟩=>by
    obtain ⟨p,rfl⟩:=h2.ptr
    exact ⟨p,h1,h2,h3⟩
 have HLv:Hid (∀ W,Below w.heap.size w W→Calls Tryz.prog 15 #[] W fun e w'=>e=.returned (.bool true)∧Below W.heap.size W w'):=fun W hW=>zKg W (zAT ht hW)
 have HT:=cH ht
 have Hi:Hid (I64 x.lim.dirs∧I64 x.lim.path):=⟨hi2,hi3⟩
 have Hxz:=cH hxz
 clear ht h5 hi0 hi1 hi2 hi3 hxz
 obtain ⟨ldec,hdec⟩:∃ k,k=x.lim.dec:=⟨_,rfl⟩
 obtain ⟨lnod,hnod⟩:∃ k,k=x.lim.nod:=⟨_,rfl⟩
 obtain ⟨ldirs,hdirs⟩:∃ k,k=x.lim.dirs:=⟨_,rfl⟩
 obtain ⟨lpath,hpath⟩:∃ k,k=x.lim.path:=⟨_,rfl⟩
 obtain ⟨xdev,hdev⟩:∃ k,k=x.dev:=⟨_,rfl⟩
 obtain ⟨xlike,hlike⟩:∃ k,k=x.like:=⟨_,rfl⟩
 rw[←hdec,←hnod,←hdirs,←hpath,←hdev,←hlike] at HSol HOld ⊢
 have Hlim:Hid (x.lim.dec=ldec∧x.lim.nod=lnod∧x.lim.dirs=ldirs∧x.lim.path=lpath∧x.like=xlike):=⟨hdec.symm,hnod.symm,hdirs.symm,hpath.symm,hlike.symm⟩
 clear hdec hnod hdirs hpath hdev hlike
 obtain ⟨w0,hw0⟩:∃ w0,w0=w.alloc (.cells #[.slice kA kn kc,.slice mA mn mc,.slice nA nn nc,.slice lA ln lc,.slice vA vn vc,.bool xdev,.int .i64 ldec,.int .i64 lnod,.int .i64 ldirs,.int .i64 lpath,.slice oA on oc,.bool xlike] 35):=⟨_,rfl⟩
 have HB0:Hid (Below w.heap.size w w0):=by unfold Hid;rw[hw0];exact bal (bR _ _) _
 have hqW:w0.heap[w.heap.size]?=some (.cells #[.slice kA kn kc,.slice mA mn mc,.slice nA nn nc,.slice lA ln lc,.slice vA vn vc,.bool xdev,.int .i64 ldec,.int .i64 lnod,.int .i64 ldirs,.int .i64 lpath,.slice oA on oc,.bool xlike] 35 (0,0)):=by rw[hw0];exact zAD _ _
 obtain ⟨QB,hQB⟩:∃ k,k=w.heap.size:=⟨_,rfl⟩
 rw[←hQB] at hqW
 go_enter Tryz.func5,Tryz.ntmps5
 go_upto_region 1 with (fail)
 rw[←hw0,←hQB]
 clear hw0 hQB
 have HqW:=cH hqW
 have d0:=cO _ _ 0 _ _ _ hqW
 have d1:=cO _ _ 1 _ _ _ hqW
 have d2:=cO _ _ 2 _ _ _ hqW
 have d3:=cO _ _ 3 _ _ _ hqW
 have d4:=cO _ _ 4 _ _ _ hqW
 have d5:=cO _ _ 5 _ _ _ hqW
 have d6:=cO _ _ 6 _ _ _ hqW
 have d7:=cO _ _ 7 _ _ _ hqW
 have d8:=cO _ _ 8 _ _ _ hqW
 have d9:=cO _ _ 9 _ _ _ hqW
 have d10:=cO _ _ 10 _ _ _ hqW
 have d11:=cO _ _ 11 _ _ _ hqW
 clear hqW
 go_wp2_with fail
 refine (HSol.out w0 HB0.out).mono ?_
 rintro e w1 ⟨⟨gA,pA,gn,gc,pn,pc,b,rfl,hc⟩,hb1⟩
 have HB1:=cH (bot HB0.out hb1)
 have Hc:=cH hc
 have Hq1:=cH (zFt HqW.out hb1)
 clear hb1 hc d0 d1 d2 d3 d4 d5 d6 d7 d8 d9 d10 d11 HB0 HqW HSol
 go_upto_region 2 with (fail)
 obtain ⟨w2,hw2⟩:∃ w2,w2=w1.alloc (.cells #[.slice gA gn gc] 24):=⟨_,rfl⟩
 have HB2:Hid (Below w.heap.size w w2):=by unfold Hid;rw[hw2];exact bal HB1.out _
 have hqG:w2.heap[w1.heap.size]?=some (.cells #[.slice gA gn gc] 24 (0,0)):=by rw[hw2];exact zAD _ _
 have hqW:w2.heap[QB]?=some (.cells #[.slice kA kn kc,.slice mA mn mc,.slice nA nn nc,.slice lA ln lc,.slice vA vn vc,.bool xdev,.int .i64 ldec,.int .i64 lnod,.int .i64 ldirs,.int .i64 lpath,.slice oA on oc,.bool xlike] 35 (0,0)):=by rw[hw2];exact zFt Hq1.out (bal (bR _ _) _)
 obtain ⟨GB,hGB⟩:∃ k,k=w1.heap.size:=⟨_,rfl⟩
 rw[←hGB] at hqG
 have HqG:=cH hqG
 have HqW:=cH hqW
 have Hns:Hid (b=true→∃ ns,solS (qSol x)=some ns∧SolF x ns∧SlV rNode w2 (fun _=>True) ns (.slice gA gn gc)∧SlV rPack w2 (fun _=>True) (psW x ns) (.slice pA pn pc)):=fun hb=>by
  obtain ⟨ns,g1,g2,g3,g4⟩:=Hc.out hb
  exact ⟨ns,g1,g2,by rw[hw2];exact g3.alloc _,by rw[hw2];exact g4.alloc _⟩
 rw[←hw2,←hGB]
 clear hw2 hqG hqW hGB Hc Hq1 HB1
 cases b with
 | false=>
   clear Hns
   go_wp2_with fail
   refine (HLv.out w2 HB2.out).mono ?_
   rintro e w3 ⟨rfl,hb3⟩
   have HB3:=cH (bot HB2.out hb3)
   clear hb3
   go_wp2_with fail
   go_ret
   exact ⟨rfl,HB3.out⟩
 | true=>
 obtain ⟨ns,hs,hf,hg,hp⟩:=Hns.out rfl
 have HG:=cH hg
 have HP:=cH hp
 have Hf:=cH hf
 have Hs:=cH hs
 clear hs hf hg hp Hns
 have Hcell:Hid (∀ W,Below w2.heap.size w2 W→W.cell? ⟨GB,0,none⟩=some (.slice gA gn gc)∧W.cell? ⟨QB,0,none⟩=some (.slice kA kn kc)∧W.cell? ⟨QB,1,none⟩=some (.slice mA mn mc)∧W.cell? ⟨QB,2,none⟩=some (.slice nA nn nc)∧W.cell? ⟨QB,3,none⟩=some (.slice lA ln lc)∧W.cell? ⟨QB,4,none⟩=some (.slice vA vn vc)∧W.cell? ⟨QB,5,none⟩=some (.bool xdev)∧W.cell? ⟨QB,6,none⟩=some (.int .i64 ldec)∧W.cell? ⟨QB,7,none⟩=some (.int .i64 lnod)∧W.cell? ⟨QB,8,none⟩=some (.int .i64 ldirs)∧W.cell? ⟨QB,9,none⟩=some (.int .i64 lpath)∧W.cell? ⟨QB,10,none⟩=some (.slice oA on oc)∧W.cell? ⟨QB,11,none⟩=some (.bool xlike)):=fun W hW=>by
  have h1:=zFt HqG.out hW
  have h2:=zFt HqW.out hW
  exact ⟨cO _ _ 0 _ _ _ h1,cO _ _ 0 _ _ _ h2,cO _ _ 1 _ _ _ h2,cO _ _ 2 _ _ _ h2,cO _ _ 3 _ _ _ h2,cO _ _ 4 _ _ _ h2,cO _ _ 5 _ _ _ h2,cO _ _ 6 _ _ _ h2,cO _ _ 7 _ _ _ h2,cO _ _ 8 _ _ _ h2,cO _ _ 9 _ _ _ h2,cO _ _ 10 _ _ _ h2,cO _ _ 11 _ _ _ h2⟩
 have HRun:Hid (∀ W,Below w2.heap.size w2 W→∀ p:Option Addr,OldV W (fun b=>b<W.heap.size) (.pointer p) (if xlike=true then some x.old else none)→Calls Tryz.prog 11 #[.agg #[.slice gA gn gc],.slice pA pn pc,.agg #[.int .i64 ldec,.int .i64 lnod,.int .i64 ldirs,.int .i64 lpath],.pointer p] W fun e w'=>
   (∃ A n c,e=.returned (.tuple #[.agg #[.slice A n c],.int .i64 (zBt (qW ns (psW x ns) x)).2])∧SlV rDir w' (fun b=>W.heap.size≤b) (zBt (qW ns (psW x ns) x)).1 (.slice A n c))∧Below W.heap.size W w'):=fun W hW p ho=>by
  have h:=zLf (x:=x) (zAT HT.out HB2.out) HG.out HP.out Hf.out.len Hf.out.packs Hi.out W hW p (by rw[show (qW ns (psW x ns) x).old=if x.like=true then some x.old else none from rfl,Hlim.out.2.2.2.2];exact ho)
  rw[Hlim.out.1,Hlim.out.2.1,Hlim.out.2.2.1,Hlim.out.2.2.2.1] at h
  exact h
 generalize hRR:zBt (qW ns (psW x ns) x)=RR at *
 obtain ⟨R1,R2⟩:=RR
 have HRR:=cH hRR
 clear hRR
 have hcell0:=Hcell.out w2 (bR _ _)
 go_upto_region 4 with (fail)
 go_cut [6,7] from 24 to 33 (fun v7 v8 wx=>∃ (TB:Nat) (A:Option Addr) (n c:Nat),v7=.pointer (some ⟨TB,0,none⟩)∧v8=.int .i64 R2∧Hid (Below w2.heap.size w2 wx∧wx.heap[TB]?=some (.cells #[.slice A n c] 33 (0,0))∧w2.heap.size≤TB∧SlV rDir wx (fun b=>w2.heap.size≤b∧b≠TB) R1 (.slice A n c)))
 case first=>
  go_region_held3 (fun W=>(W.cell? ⟨GB,0,none⟩=some (.slice gA gn gc)∧W.cell? ⟨QB,0,none⟩=some (.slice kA kn kc)∧W.cell? ⟨QB,1,none⟩=some (.slice mA mn mc)∧W.cell? ⟨QB,2,none⟩=some (.slice nA nn nc)∧W.cell? ⟨QB,3,none⟩=some (.slice lA ln lc)∧W.cell? ⟨QB,4,none⟩=some (.slice vA vn vc)∧W.cell? ⟨QB,5,none⟩=some (.bool xdev)∧W.cell? ⟨QB,6,none⟩=some (.int .i64 ldec)∧W.cell? ⟨QB,7,none⟩=some (.int .i64 lnod)∧W.cell? ⟨QB,8,none⟩=some (.int .i64 ldirs)∧W.cell? ⟨QB,9,none⟩=some (.int .i64 lpath)∧W.cell? ⟨QB,10,none⟩=some (.slice oA on oc)∧W.cell? ⟨QB,11,none⟩=some (.bool xlike))∧Below w2.heap.size w2 W)
   (first
     | (with_reducible exact ⟨hcell0,(bR _ _).drew⟩)
     | (with_reducible exact ⟨Hcell.out _ (bR _ _).drew,(bR _ _).drew⟩)
     | (with_reducible exact ⟨Hcell.out _ hB3,hB3⟩)
     | (with_reducible exact ⟨Hcell.out _ hB2,hB2⟩)
     | (with_reducible exact ⟨Hcell.out _ (bal hB3 _),bal hB3 _⟩)
     | (with_reducible exact ⟨Hcell.out _ (bal hB2 _),bal hB2 _⟩)
     | (with_reducible exact ⟨Hcell.out _ (bal (bR _ _).drew _),bal (bR _ _).drew _⟩)
     | (with_reducible exact ⟨Hcell.out _ ((bal hB3 _).setCell hz3 _),(bal hB3 _).setCell hz3 _⟩)
     | (with_reducible exact ⟨Hcell.out _ (hB3.setCell hz2 _),hB3.setCell hz2 _⟩)
     | (with_reducible exact ⟨Hcell.out _ (hB3.setCell (nR _) _),hB3.setCell (nR _) _⟩)
     | fail)
   (first
     | (go_at_call 12;go_split_ands;with_reducible refine (HOld.out _ (bot HB2.out (by assumption))).mono ?_;rintro e w4 ⟨op,rfl,hov,hb2⟩;have hB2:Below w2.heap.size w2 w4:=bot (by assumption) hb2;have hz2:=hB2.size;(try (have hT:=zJb hb2;obtain ⟨hR2,hT2,fT2⟩:=hT)))
     | (go_at_call 11;go_split_ands;with_reducible refine (HRun.out _ (by assumption) _ (by first|assumption|exact (hov.keep (bal (bR _ _) _)).wide)).mono ?_;rintro e w5 ⟨⟨A,n,c,rfl,hrv⟩,hb3⟩;have hB3:Below w2.heap.size w2 w5:=bot (by assumption) hb3;have hz3:=hB3.size;(first|(have hT:=zLg hb3;obtain ⟨hR3,hT3,fT3⟩:=hT)|(have hT:=zK3 hb3 hR2 hT2 fT2;obtain ⟨hR3,hT3,fT3⟩:=hT)|skip)))
  all_goals
   go_wp2_with fail
   go_meet
   first
    | exact ⟨_,_,_,_,rfl,rfl,zLx hB3 hrv hz2⟩
    | exact ⟨_,_,_,_,rfl,rfl,zIv hB3 hz2 hR3 hrv (by simp;omega) (by simp)⟩
    | exact ⟨_,_,_,_,rfl,rfl,zIv hB3 (nR _) hR3 hrv hz2 (zAU hT2)⟩
 case rest=>
 obtain ⟨TB,A,n,c,rfl,rfl,HN⟩:=hcut
 generalize wc=w3 at *
 have HB3:=cH HN.out.1
 clear hcell0
 clear HRun HOld
 rcases placeW_cases (q:=qW ns (psW x ns) x) (zDv Hs.out).may (zDv Hs.out).graph with ⟨c0,hR,hE,hc0⟩|⟨st,hE,hR⟩
 ·obtain ⟨h1,h2⟩:=Prod.mk.inj (HRR.out.symm.trans hR)
  have hz:(R2==0)=false:=by rw[h2];exact zNU hc0
  clear hR hE hc0 h1 h2
  go_wp2_with fail
  refine (HLv.out w3 (bot HB2.out HB3.out)).mono ?_
  rintro e wz ⟨rfl,hbz⟩
  have HBz:=cH (bot (bot HB2.out HB3.out) hbz)
  clear hbz
  go_wp2_with fail
  go_ret
  exact ⟨rfl,HBz.out⟩
 obtain ⟨h1,h2⟩:=Prod.mk.inj (HRR.out.symm.trans hR)
 subst h2
 have hgn:=HG.out.n_eq
 have hgc:=HG.out.cap_le
 unfold maxLen at hgc
 have hgz:gn≤9223372036854775807:=by omega
 have hn:=HN.out.2.2.2.n_eq
 have hlen:=zM8 hE
 rw[←h1,←hn] at hlen
 have hg1:1≤gn:=by
  have h:1≤ns.length:=(zBQ (zDv Hs.out).may).1
  omega
 have Hgn:Hid (ns.length=gn):=hgn.symm
 have Hn:Hid (R1.length=n):=hn.symm
 have HIn:Hid (∀ (i:Nat) (d:Dir),R1[i]?=some d→∃ (nd:Nat) (y:Node),d.node=(nd:Int)∧nd<gn∧ns[nd]?=some y∧∀ (k:Nat) (e:Edge),y.edges[k]?=some e→∃ (p tt:Nat) (z:Node),lookI R1 (i:Int) e.label=(p:Int)∧e.to=(tt:Int)∧tt<gn∧ns[tt]?=some z∧∀ (j:Nat) (c:Pin),z.ctx[j]?=some c→∃ a:Nat,lookI R1 (p:Int) c.name=(a:Int)∧lookI R1 (i:Int) c.name=(a:Int)):=fun i d hd=>by
  have hi:=zFe hE (zDv Hs.out).graph (show (sortD st.1)[i]?=some d by rw[←h1];exact hd)
  rw[←h1] at hi
  obtain ⟨i1,i2,i3⟩:=hi
  have i2:d.node<(ns.length:Int):=i2
  have hlt:d.node.toNat<ns.length:=by omega
  have hyy:ns[d.node.toNat]?=some ns[d.node.toNat]:=gE hlt
  refine ⟨d.node.toNat,ns[d.node.toNat],by omega,by omega,hyy,fun k e he=>?_⟩
  have hem:=mG he
  obtain ⟨e1,e2,_⟩:=zBx (q:=qW ns (psW x ns) x) (zDv Hs.out).may hyy hem
  have e2:e.to<(ns.length:Int):=e2
  have htt:e.to.toNat<ns.length:=by omega
  have hzz:ns[e.to.toNat]?=some ns[e.to.toNat]:=gE htt
  obtain ⟨p,p1,p2⟩:=i3 e (by rw[zAX (q:=qW ns (psW x ns) x) hyy];exact hem)
  refine ⟨p,e.to.toNat,ns[e.to.toNat],p1,by omega,by omega,hzz,fun j c hc=>?_⟩
  exact p2 c (by rw[zAX (q:=qW ns (psW x ns) x) hzz];exact mG hc)
 obtain ⟨y0,hy0⟩:∃ y0,ns[0]?=some y0:=⟨_,gE (by omega)⟩
 obtain ⟨e0,he0⟩:∃ e0,R1[0]?=some e0:=⟨_,gE (by omega)⟩
 obtain ⟨b,o,_,hgA,_⟩:=HG.out.elem hy0
 obtain ⟨b2,o2,_,hA,_⟩:=HN.out.2.2.2.elem he0
 have HEd:Hid (∀ (k:Nat) (y:Node),ns[k]?=some y→y.edges.length≤9223372036854775807∧∃ eA ec,(∀ W,Below w3.heap.size w3 W→W.cell? ⟨b,o+k * 6+5,none⟩=some (.slice eA y.edges.length ec))∧∀ (j:Nat) (e:Edge),y.edges[j]?=some e→∃ eb eo,eA=some ⟨eb,eo,none⟩∧e.label.size≤maxLen∧∀ W,Below w3.heap.size w3 W→W.cell? ⟨eb,eo+j * 2,none⟩=some (.string e.label)∧W.cell? ⟨eb,eo+j * 2+1,none⟩=some (.int .i64 e.to)):=fun k y hy=>by
  obtain ⟨b',o',cs,hA',_,hb,⟨q0,q1,rfl,_,_,_,_,_,hc⟩,hcell⟩:=(HG.out.belowSize HB3.out).elem hy
  rw[hgA] at hA'
  cases hA'
  obtain ⟨cA,cc,rfl,hcl,hcm⟩:=hc.val
  unfold maxLen at hcm
  refine ⟨by omega,cA,cc,fun W hW=>zAA hW (hcell 5 _ rfl) hb,fun j e he=>?_⟩
  obtain ⟨eb,eo,cs,hE',_,hbe,⟨rfl,hz,_⟩,hce⟩:=hc.elem he
  exact ⟨eb,eo,hE',hz,fun W hW=>⟨zAA hW (hce 0 _ rfl) hbe,zAA hW (hce 1 _ rfl) hbe⟩⟩
 have HCx:Hid (∀ (k:Nat) (y:Node),ns[k]?=some y→y.ctx.length≤9223372036854775807∧∃ cA cc,(∀ W,Below w3.heap.size w3 W→W.cell? ⟨b,o+k * 6+4,none⟩=some (.slice cA y.ctx.length cc))∧∀ (j:Nat) (p:Pin),y.ctx[j]?=some p→∃ pb po,cA=some ⟨pb,po,none⟩∧p.name.size≤maxLen∧∀ W,Below w3.heap.size w3 W→W.cell? ⟨pb,po+j * 4,none⟩=some (.string p.name)):=fun k y hy=>by
  obtain ⟨b',o',cs,hA',_,hb,⟨q0,q1,rfl,_,_,_,_,hc,_⟩,hcell⟩:=(HG.out.belowSize HB3.out).elem hy
  rw[hgA] at hA'
  cases hA'
  obtain ⟨cA,cc,rfl,hcl,hcm⟩:=hc.val
  unfold maxLen at hcm
  refine ⟨by omega,cA,cc,fun W hW=>zAA hW (hcell 4 _ rfl) hb,fun j p hp=>?_⟩
  obtain ⟨pb,po,cs,hP',_,hbp,⟨rfl,hz,_⟩,hcp⟩:=hc.elem hp
  exact ⟨pb,po,hP',hz,fun W hW=>zAA hW (hcp 0 _ rfl) hbp⟩
 have HDr:Hid (∀ (k:Nat) (d:Dir),R1[k]?=some d→∀ W,Below w3.heap.size w3 W→W.cell? ⟨b2,o2+k * 9+8,none⟩=some (.int .i64 d.node)):=fun k d hd W hW=>by
  obtain ⟨b',o',cs,hA',_,hb,⟨q0,q1,q2,q3,rfl,_⟩,hcell⟩:=HN.out.2.2.2.elem hd
  rw[hA] at hA'
  cases hA'
  exact zAA hW (hcell 8 _ rfl) hb
 have HBx:Hid (∀ W,Below w3.heap.size w3 W→W.cell? ⟨TB,0,none⟩=some (.slice A n c)∧W.cell? ⟨GB,0,none⟩=some (.slice gA gn gc)):=fun W hW=>⟨cO _ _ 0 _ _ _ (zFt HN.out.2.1 hW),(Hcell.out W (bot HB3.out hW)).1⟩
 have HLk:Hid (∀ W (i:Int) (s:ByteArray),s.size≤maxLen→Below w3.heap.size w3 W→Calls Tryz.prog 17 #[.agg #[.slice A n c],.int .i64 i,.string s] W fun e w'=>e=.returned (.int .i64 (lookI R1 i s))∧Below W.heap.size W w'):=fun W i s hs hW=>zEh A n c R1 s W _ i hs (fun d hd=>(zKl hE d (by rwa [h1] at hd)).1) (HN.out.2.2.2.belowSize hW)
 have HBa:=cH (bot HB2.out HB3.out)
 clear hE hR h1 hgn hgc hn HN Hcell hy0 he0 HB3 HB2 HG HP HqG HqW
 subst hgA hA
 go_wp2_with fail
 go_loopw [8] (fun t8 wr=>∃ i:Nat,i≤n∧t8=.int .i64 i∧Hid (Below w3.heap.size w3 wr)) (fun t8 _=>n - (intOf t8).toNat)
 case atStart=>exact ⟨0,nZ _,rfl,bR _ _⟩
 case round=>
  obtain ⟨i,hi,rfl,hB⟩:=hrel
  have hi0:(0:Int)≤(i:Int):=by omega
  obtain ⟨q1,q2⟩:=HBx.out wr hB.out
  by_cases hlt:i<n
  case neg=>
   have hiI:¬(i:Int)<(n:Int):=by omega
   clear HIn HEd HCx HDr HLk
   go_wp2_with fail
   refine (HLv.out wr (bot HBa.out hB.out)).mono ?_
   rintro e wz ⟨rfl,hbz⟩
   have HBz:=cH (bot (bot HBa.out hB.out) hbz)
   clear hbz
   go_wp2_with fail
   go_ret
   exact ⟨rfl,HBz.out⟩
  have hiI:(i:Int)<(n:Int):=by omega
  obtain ⟨d,hd⟩:∃ d,R1[i]?=some d:=⟨_,gE (by have:=Hn.out;omega)⟩
  have n8:=HDr.out i d hd wr hB.out
  obtain ⟨nd,y,hdn,hndg,hy,hrest⟩:=HIn.out i d hd
  have Hrest:=cH hrest
  obtain ⟨hel,eA,ec,hec,hee⟩:=HEd.out nd y hy
  have Hec:=cH hec
  have Hee:=cH hee
  rw[hdn] at n8
  have hnd0:(0:Int)≤(nd:Int):=by omega
  have hndI:(nd:Int)<(gn:Int):=by omega
  have hndN:¬(nd:Int)<0:=by omega
  have hndG:¬(gn:Int)≤(nd:Int):=by omega
  clear hd hdn hy hrest hec hee HIn HDr HEd
  obtain ⟨el,hell⟩:∃ k,k=y.edges.length:=⟨_,rfl⟩
  rw[←hell] at Hec hel
  have Hel:=cH hell
  clear hell
  go_upto_region 13 with (fail)
  clear q1 q2 n8
  generalize wr=wv at *
  go_wp2_with fail
  go_loopw [10] (fun t10 wr=>∃ k:Nat,k≤el∧t10=.int .i64 k∧Hid (Below wv.heap.size wv wr)) (fun t10 _=>el - (intOf t10).toNat)
  case atStart=>exact ⟨0,nZ _,rfl,bR _ _⟩
  case round=>
   obtain ⟨k,hk,rfl,hB2⟩:=hrel
   have hk0:(0:Int)≤(k:Int):=by omega
   have HBw:=cH (bot hB.out hB2.out)
   obtain ⟨q1,q2⟩:=HBx.out wr HBw.out
   have n5:=Hec.out wr HBw.out
   by_cases hkt:k<el
   case neg=>
    have hkI:¬(k:Int)<(el:Int):=by omega
    clear Hrest Hee HCx HLk
    go_wp2_with fail
    go_roundw
    case rel=>exact ⟨i+1,by omega,by go_num,HBw⟩
    case measure=>simp[intOf];omega
   have hkI:(k:Int)<(el:Int):=by omega
   obtain ⟨e,he⟩:∃ e,y.edges[k]?=some e:=⟨_,gE (by have:=Hel.out;omega)⟩
   obtain ⟨p,tt,z,hp,htt,htog,hz,hctx⟩:=Hrest.out k e he
   obtain ⟨eb,eo,heA,hls,hlc⟩:=Hee.out k e he
   obtain ⟨l0,l1⟩:=hlc wr HBw.out
   have Hlc:=cH hlc
   obtain ⟨hcl,cA,cc,hcc,hcp⟩:=HCx.out tt z hz
   have Hcc:=cH hcc
   have Hcp:=cH hcp
   have Hctx:=cH hctx
   have HLe:Hid (∀ W,Below wr.heap.size wr W→Calls Tryz.prog 17 #[.agg #[.slice (some ⟨b2,o2,none⟩) n c],.int .i64 (i:Int),.string e.label] W fun e w'=>e=.returned (.int .i64 (p:Int))∧Below W.heap.size W w'):=fun W hW=>by
    have h:=HLk.out W (i:Int) e.label hls (bot HBw.out hW)
    rwa [hp] at h
   have HLq:=cH (qcall (w:=wr) HLe.out)
   have hpN:¬(p:Int)<0:=by omega
   have hpd:decide ((p:Int)<0)=false:=decide_eq_false hpN
   rw[htt] at l1 Hlc
   have hto0:(0:Int)≤(tt:Int):=by omega
   have htoI:(tt:Int)<(gn:Int):=by omega
   clear he hp htt htog hz hctx hls hlc hcc hcp HLe HCx Hrest Hee
   subst heA
   generalize e.label=lb at *
   obtain ⟨cl,hcll⟩:∃ k,k=z.ctx.length:=⟨_,rfl⟩
   rw[←hcll] at Hcc hcl
   have Hcl:=cH hcll
   clear hcll
   go_upto_region 16 with (fail)
   have r_q1:=cR q1
   have r_q2:=cR q2
   have r_n5:=cR n5
   have r_l0:=cR l0
   go_wp2_with fail
   refine wQ ?_
   repeat (go_big_quiet_step (first|(with_reducible exact HLq.out _ _)))
   refine wpQuiet_nil fun w5 B5=>?_
   have HB5:=cH (bot hB2.out B5)
   have HBw5:=cH (bot HBw.out B5)
   clear B5 r_q1 r_q2 r_n5 r_l0 q1 q2 n5 l0 l1 HLq
   obtain ⟨q1,q2⟩:=HBx.out w5 HBw5.out
   have n5:=Hec.out w5 HBw5.out
   have l1:=(Hlc.out w5 HBw5.out).2
   have c4:=Hcc.out w5 HBw5.out
   go_upto_region 19 with (fail)
   have r_q1:=cR q1
   have r_q2:=cR q2
   have r_n5:=cR n5
   have r_l1:=cR l1
   have r_c4:=cR c4
   go_wp2_with fail
   refine wQ ?_
   repeat (go_big_quiet_step (first|fail))
   refine wpQuiet_nil fun w6 B6=>?_
   have HB6:=cH (bot HB5.out B6)
   have HBw6:=cH (bot HBw5.out B6)
   clear B6 r_q1 r_q2 r_n5 r_l1 r_c4 q1 q2 n5 l1 c4 HB5 HBw5 hB2 HBw
   generalize wr=wx at *
   go_wp2_with fail
   go_loopw [13] (fun t13 wr=>∃ j:Nat,j≤cl∧t13=.int .i64 j∧Hid (Below w6.heap.size w6 wr)) (fun t13 _=>cl - (intOf t13).toNat)
   case atStart=>exact ⟨0,nZ _,rfl,bR _ _⟩
   case round=>
    obtain ⟨j,hj,rfl,hB3⟩:=hrel
    have hj0:(0:Int)≤(j:Int):=by omega
    have HBw:=cH (bot HBw6.out hB3.out)
    obtain ⟨q1,q2⟩:=HBx.out wr HBw.out
    by_cases hjt:j<cl
    case neg=>
     have hjI:¬(j:Int)<(cl:Int):=by omega
     have HBv:=cH (bot HB6.out hB3.out)
     clear HLk Hctx Hcp
     go_wp2_with fail
     go_roundw
     case rel=>exact ⟨k+1,by omega,by go_num,HBv⟩
     case measure=>simp[intOf];omega
    have hjI:(j:Int)<(cl:Int):=by omega
    obtain ⟨pn,hpn⟩:∃ pn,z.ctx[j]?=some pn:=⟨_,gE (by have:=Hcl.out;omega)⟩
    obtain ⟨a,ha1,ha2⟩:=Hctx.out j pn hpn
    obtain ⟨pb,po,hcA,hns,hpc⟩:=Hcp.out j pn hpn
    have p0:=hpc wr HBw.out
    have HL1:Hid (∀ W,Below wr.heap.size wr W→Calls Tryz.prog 17 #[.agg #[.slice (some ⟨b2,o2,none⟩) n c],.int .i64 (p:Int),.string pn.name] W fun e w'=>e=.returned (.int .i64 (a:Int))∧Below W.heap.size W w'):=fun W hW=>by
     have h:=HLk.out W (p:Int) pn.name hns (bot HBw.out hW)
     rwa [ha1] at h
    have HL2:Hid (∀ W,Below w3.heap.size w3 W→Calls Tryz.prog 17 #[.agg #[.slice (some ⟨b2,o2,none⟩) n c],.int .i64 (i:Int),.string pn.name] W fun e w'=>e=.returned (.int .i64 (a:Int))∧Below W.heap.size W w'):=fun W hW=>by
     have h:=HLk.out W (i:Int) pn.name hns hW
     rwa [ha2] at h
    have HLq:=cH (qcall (w:=wr) HL1.out)
    have Hpc:=cH hpc
    have haN:¬(a:Int)<0:=by omega
    have had:decide ((a:Int)<0)=false:=decide_eq_false haN
    clear hpn ha1 ha2 hns hpc HL1 HLk Hctx Hcp
    subst hcA
    generalize pn.name=pm at *
    go_upto_region 23 with (fail)
    have r_q1:=cR q1
    have r_p0:=cR p0
    go_wp2_with fail
    refine wQ ?_
    repeat (go_big_quiet_step (first|(with_reducible exact HLq.out _ _)))
    refine wpQuiet_nil fun w7 B7=>?_
    have HB7:=cH (bot hB3.out B7)
    have HBw7:=cH (bot HBw.out B7)
    clear B7 r_q1 r_p0 q1 q2 p0 HLq
    obtain ⟨q1,q2⟩:=HBx.out w7 HBw7.out
    have p0:=Hpc.out w7 HBw7.out
    have HL3:Hid (∀ W,Below w7.heap.size w7 W→Calls Tryz.prog 17 #[.agg #[.slice (some ⟨b2,o2,none⟩) n c],.int .i64 (i:Int),.string pm] W fun e w'=>e=.returned (.int .i64 (a:Int))∧Below W.heap.size W w'):=fun W hW=>HL2.out W (bot HBw7.out hW)
    have HLq:=cH (qcall (w:=w7) HL3.out)
    clear HL2 HL3 Hpc
    go_upto_region 24 with (fail)
    have r_q1:=cR q1
    have r_p0:=cR p0
    go_wp2_with fail
    refine wQ ?_
    repeat (go_big_quiet_step (first|(with_reducible exact HLq.out _ _)))
    refine wpQuiet_nil fun w8 B8=>?_
    have HB8:=cH (bot HB7.out B8)
    clear B8 r_q1 r_p0 q1 q2 p0 HLq
    go_wp2_with fail
    go_roundw
    case rel=>exact ⟨j+1,by omega,by go_num,HB8⟩
    case measure=>simp[intOf];omega
