/-
  The law that lookups in a solution's tree tell which node each directory is: walked.
-/
import Derived.Test.YtminjjdnmpaaoaaGreatDoorMp28
import Derived.Test.YtminjjdnmpaaoaaGreatDoorMp29
import Derived.Test.YtminjjdnmpaaoaaGreatDoorMp10
import Derived.Test.YtminjjdnmpaaoaaGreatDoorMp12
import Derived.Test.YtminjjdnmpaaoaaGreatDoorAl
set_option linter.all false
set_option maxHeartbeats 12800000
set_option maxRecDepth 100000
namespace Go.Proofs.YtminjjdnmpaaoaaGreatDoor
open Go.Rows Go.RowKit Go.Shelf Go.Sort
theorem zGV (x:Wd) (v:Value) (w:World) (S:Nat→Prop) (ht:Tab w) (hv:WdV w S x v) (hxz:WdZ x∧WdS x) :
  Calls Tryz.prog 10 #[v] w fun e w'=>e=.returned (.bool true)∧Below w.heap.size w w':=by
 have HSol:=cH (zMv hv hxz.2)
 obtain ⟨kA,kn,kc,mA,mn,mc,nA,nn,nc,lA,ln,lc,vA,vn,vc,oA,on,oc,rfl,_,_,_,_,_,h5,hi0,hi1,hi2,hi3⟩:=hv
 have HOld:Hid (∀ W,Below w.heap.size w W→Calls Tryz.prog 12 #[.agg #[.slice kA kn kc,.slice mA mn mc,.slice nA nn nc,.slice lA ln lc,.slice vA vn vc,.bool x.dev,.int .i64 x.lim.dec,.int .i64 x.lim.nod,.int .i64 x.lim.dirs,.int .i64 x.lim.path,.slice oA on oc,.bool x.like]] W fun e w'=>∃ p,e=.returned (.pointer p)∧OldV w' (fun b=>b<w'.heap.size) (.pointer p) (if x.like=true then some x.old else none)∧Below W.heap.size W w'):=fun W hW=>
  (zMk kA mA nA lA vA kn kc mn mc nn nc ln lc vn vc x.dev x.lim.dec x.lim.nod x.lim.dirs x.lim.path oA on oc x.like x.old W S (h5.belowSize hW) hxz.1).mono fun e w' ⟨ov,h1,h2,h3⟩=>by
    obtain ⟨p,rfl⟩:=h2.ptr
    exact ⟨p,h1,h2,h3⟩
 have HLv:Hid (∀ W,Below w.heap.size w W→Calls Tryz.prog 15 #[] W fun e w'=>e=.returned (.bool true)∧Below W.heap.size W w'):=fun W hW=>zKu W (zAO ht hW)
 have HT:=cH ht
 have Hi:Hid (I64 x.lim.dirs∧I64 x.lim.path):=⟨hi2,hi3⟩
 have Hxz:=cH hxz
 clear ht h5 hi0 hi1 hi2 hi3 hxz
 obtain ⟨ldec,hdec⟩:∃ k,k=x.lim.dec:=⟨_,rfl⟩
 obtain ⟨lnod,hnod⟩:∃ k,k=x.lim.nod:=⟨_,rfl⟩
 obtain ⟨ldirs,hdirs⟩:∃ k,k=x.lim.dirs:=⟨_,rfl⟩
 obtain ⟨lpath,hpath⟩:∃ k,k=x.lim.path:=⟨_,rfl⟩
 obtain ⟨xdev,hdev⟩:∃ k,k=x.dev:=⟨_,rfl⟩
 obtain ⟨xlike,hlike⟩:∃ k,k=x.like:=⟨_,rfl⟩
 rw[←hdec,←hnod,←hdirs,←hpath,←hdev,←hlike] at HSol HOld ⊢
 have Hlim:Hid (x.lim.dec=ldec∧x.lim.nod=lnod∧x.lim.dirs=ldirs∧x.lim.path=lpath∧x.like=xlike):=⟨hdec.symm,hnod.symm,hdirs.symm,hpath.symm,hlike.symm⟩
 clear hdec hnod hdirs hpath hdev hlike
 obtain ⟨w0,hw0⟩:∃ w0,w0=w.alloc (.cells #[.slice kA kn kc,.slice mA mn mc,.slice nA nn nc,.slice lA ln lc,.slice vA vn vc,.bool xdev,.int .i64 ldec,.int .i64 lnod,.int .i64 ldirs,.int .i64 lpath,.slice oA on oc,.bool xlike] 35):=⟨_,rfl⟩
 have HB0:Hid (Below w.heap.size w w0):=by unfold Hid;rw[hw0];exact bal (bR _ _) _
 have hqW:w0.heap[w.heap.size]?=some (.cells #[.slice kA kn kc,.slice mA mn mc,.slice nA nn nc,.slice lA ln lc,.slice vA vn vc,.bool xdev,.int .i64 ldec,.int .i64 lnod,.int .i64 ldirs,.int .i64 lpath,.slice oA on oc,.bool xlike] 35 (0,0)):=by rw[hw0];exact zAD _ _
 obtain ⟨QB,hQB⟩:∃ k,k=w.heap.size:=⟨_,rfl⟩
 rw[←hQB] at hqW
 go_enter Tryz.func10,Tryz.ntmps10
 go_upto_region 1 with (fail)
 rw[←hw0,←hQB]
 clear hw0 hQB
 have HqW:=cH hqW
 have d0:=cO _ _ 0 _ _ _ hqW
 have d1:=cO _ _ 1 _ _ _ hqW
 have d2:=cO _ _ 2 _ _ _ hqW
 have d3:=cO _ _ 3 _ _ _ hqW
 have d4:=cO _ _ 4 _ _ _ hqW
 have d5:=cO _ _ 5 _ _ _ hqW
 have d6:=cO _ _ 6 _ _ _ hqW
 have d7:=cO _ _ 7 _ _ _ hqW
 have d8:=cO _ _ 8 _ _ _ hqW
 have d9:=cO _ _ 9 _ _ _ hqW
 have d10:=cO _ _ 10 _ _ _ hqW
 have d11:=cO _ _ 11 _ _ _ hqW
 clear hqW
 go_wp2_with fail
 refine (HSol.out w0 HB0.out).mono ?_
 rintro e w1 ⟨⟨gA,pA,gn,gc,pn,pc,b,rfl,hc⟩,hb1⟩
 have HB1:=cH (bot HB0.out hb1)
 have Hc:=cH hc
 have Hq1:=cH (zFi HqW.out hb1)
 clear hb1 hc d0 d1 d2 d3 d4 d5 d6 d7 d8 d9 d10 d11 HB0 HqW HSol
 go_upto_region 2 with (fail)
 obtain ⟨w2,hw2⟩:∃ w2,w2=w1.alloc (.cells #[.slice gA gn gc] 24):=⟨_,rfl⟩
 have HB2:Hid (Below w.heap.size w w2):=by unfold Hid;rw[hw2];exact bal HB1.out _
 have hqG:w2.heap[w1.heap.size]?=some (.cells #[.slice gA gn gc] 24 (0,0)):=by rw[hw2];exact zAD _ _
 have hqW:w2.heap[QB]?=some (.cells #[.slice kA kn kc,.slice mA mn mc,.slice nA nn nc,.slice lA ln lc,.slice vA vn vc,.bool xdev,.int .i64 ldec,.int .i64 lnod,.int .i64 ldirs,.int .i64 lpath,.slice oA on oc,.bool xlike] 35 (0,0)):=by rw[hw2];exact zFi Hq1.out (bal (bR _ _) _)
 obtain ⟨GB,hGB⟩:∃ k,k=w1.heap.size:=⟨_,rfl⟩
 rw[←hGB] at hqG
 have HqG:=cH hqG
 have HqW:=cH hqW
 have Hns:Hid (b=true→∃ ns,solS (qSol x)=some ns∧SolF x ns∧SlV rNode w2 (fun _=>True) ns (.slice gA gn gc)∧SlV rPack w2 (fun _=>True) (psW x ns) (.slice pA pn pc)):=fun hb=>by
  obtain ⟨ns,g1,g2,g3,g4⟩:=Hc.out hb
  exact ⟨ns,g1,g2,by rw[hw2];exact g3.alloc _,by rw[hw2];exact g4.alloc _⟩
 rw[←hw2,←hGB]
 clear hw2 hqG hqW hGB Hc Hq1 HB1
 cases b with
 | false=>
   clear Hns
   go_wp2_with fail
   refine (HLv.out w2 HB2.out).mono ?_
   rintro e w3 ⟨rfl,hb3⟩
   have HB3:=cH (bot HB2.out hb3)
   clear hb3
   go_wp2_with fail
   go_ret
   exact ⟨rfl,HB3.out⟩
 | true=>
 obtain ⟨ns,hs,hf,hg,hp⟩:=Hns.out rfl
 have HG:=cH hg
 have HP:=cH hp
 have Hf:=cH hf
 have Hs:=cH hs
 clear hs hf hg hp Hns
 have Hcell:Hid (∀ W,Below w2.heap.size w2 W→W.cell? ⟨GB,0,none⟩=some (.slice gA gn gc)∧W.cell? ⟨QB,0,none⟩=some (.slice kA kn kc)∧W.cell? ⟨QB,1,none⟩=some (.slice mA mn mc)∧W.cell? ⟨QB,2,none⟩=some (.slice nA nn nc)∧W.cell? ⟨QB,3,none⟩=some (.slice lA ln lc)∧W.cell? ⟨QB,4,none⟩=some (.slice vA vn vc)∧W.cell? ⟨QB,5,none⟩=some (.bool xdev)∧W.cell? ⟨QB,6,none⟩=some (.int .i64 ldec)∧W.cell? ⟨QB,7,none⟩=some (.int .i64 lnod)∧W.cell? ⟨QB,8,none⟩=some (.int .i64 ldirs)∧W.cell? ⟨QB,9,none⟩=some (.int .i64 lpath)∧W.cell? ⟨QB,10,none⟩=some (.slice oA on oc)∧W.cell? ⟨QB,11,none⟩=some (.bool xlike)):=fun W hW=>by
  have h1:=zFi HqG.out hW
  have h2:=zFi HqW.out hW
  exact ⟨cO _ _ 0 _ _ _ h1,cO _ _ 0 _ _ _ h2,cO _ _ 1 _ _ _ h2,cO _ _ 2 _ _ _ h2,cO _ _ 3 _ _ _ h2,cO _ _ 4 _ _ _ h2,cO _ _ 5 _ _ _ h2,cO _ _ 6 _ _ _ h2,cO _ _ 7 _ _ _ h2,cO _ _ 8 _ _ _ h2,cO _ _ 9 _ _ _ h2,cO _ _ 10 _ _ _ h2,cO _ _ 11 _ _ _ h2⟩
 have HRun:Hid (∀ W,Below w2.heap.size w2 W→∀ p:Option Addr,OldV W (fun b=>b<W.heap.size) (.pointer p) (if xlike=true then some x.old else none)→Calls Tryz.prog 11 #[.agg #[.slice gA gn gc],.slice pA pn pc,.agg #[.int .i64 ldec,.int .i64 lnod,.int .i64 ldirs,.int .i64 lpath],.pointer p] W fun e w'=>
   (∃ A n c,e=.returned (.tuple #[.agg #[.slice A n c],.int .i64 (zB0 (qW ns (psW x ns) x)).2])∧SlV rDir w' (fun b=>W.heap.size≤b) (zB0 (qW ns (psW x ns) x)).1 (.slice A n c))∧Below W.heap.size W w'):=fun W hW p ho=>by
  have h:=zML (x:=x) (zAO HT.out HB2.out) HG.out HP.out Hf.out.len Hf.out.packs Hi.out W hW p (by rw[show (qW ns (psW x ns) x).old=if x.like=true then some x.old else none from rfl,Hlim.out.2.2.2.2];exact ho)
  rw[Hlim.out.1,Hlim.out.2.1,Hlim.out.2.2.1,Hlim.out.2.2.2.1] at h
  exact h
 generalize hRR:zB0 (qW ns (psW x ns) x)=RR at *
 obtain ⟨R1,R2⟩:=RR
 have HRR:=cH hRR
 clear hRR
 have hcell0:=Hcell.out w2 (bR _ _)
 go_upto_region 4 with (fail)
 go_cut [6,7] from 20 to 29 (fun v7 v8 wx=>∃ (TB:Nat) (A:Option Addr) (n c:Nat),v7=.pointer (some ⟨TB,0,none⟩)∧v8=.int .i64 R2∧Hid (Below w2.heap.size w2 wx∧wx.heap[TB]?=some (.cells #[.slice A n c] 33 (0,0))∧w2.heap.size≤TB∧SlV rDir wx (fun b=>w2.heap.size≤b∧b≠TB) R1 (.slice A n c)))
 case first=>
  go_region_held3 (fun W=>(W.cell? ⟨GB,0,none⟩=some (.slice gA gn gc)∧W.cell? ⟨QB,0,none⟩=some (.slice kA kn kc)∧W.cell? ⟨QB,1,none⟩=some (.slice mA mn mc)∧W.cell? ⟨QB,2,none⟩=some (.slice nA nn nc)∧W.cell? ⟨QB,3,none⟩=some (.slice lA ln lc)∧W.cell? ⟨QB,4,none⟩=some (.slice vA vn vc)∧W.cell? ⟨QB,5,none⟩=some (.bool xdev)∧W.cell? ⟨QB,6,none⟩=some (.int .i64 ldec)∧W.cell? ⟨QB,7,none⟩=some (.int .i64 lnod)∧W.cell? ⟨QB,8,none⟩=some (.int .i64 ldirs)∧W.cell? ⟨QB,9,none⟩=some (.int .i64 lpath)∧W.cell? ⟨QB,10,none⟩=some (.slice oA on oc)∧W.cell? ⟨QB,11,none⟩=some (.bool xlike))∧Below w2.heap.size w2 W)
   (first
     | (with_reducible exact ⟨hcell0,(bR _ _).drew⟩)
     | (with_reducible exact ⟨Hcell.out _ (bR _ _).drew,(bR _ _).drew⟩)
     | (with_reducible exact ⟨Hcell.out _ hB3,hB3⟩)
     | (with_reducible exact ⟨Hcell.out _ hB2,hB2⟩)
     | (with_reducible exact ⟨Hcell.out _ (bal hB3 _),bal hB3 _⟩)
     | (with_reducible exact ⟨Hcell.out _ (bal hB2 _),bal hB2 _⟩)
     | (with_reducible exact ⟨Hcell.out _ (bal (bR _ _).drew _),bal (bR _ _).drew _⟩)
     | (with_reducible exact ⟨Hcell.out _ ((bal hB3 _).setCell hz3 _),(bal hB3 _).setCell hz3 _⟩)
     | (with_reducible exact ⟨Hcell.out _ (hB3.setCell hz2 _),hB3.setCell hz2 _⟩)
     | (with_reducible exact ⟨Hcell.out _ (hB3.setCell (nR _) _),hB3.setCell (nR _) _⟩)
     | fail)
   (first
     | (go_at_call 12;go_split_ands;with_reducible refine (HOld.out _ (bot HB2.out (by assumption))).mono ?_;rintro e w4 ⟨op,rfl,hov,hb2⟩;have hB2:Below w2.heap.size w2 w4:=bot (by assumption) hb2;have hz2:=hB2.size;(try (have hT:=zKI hb2;obtain ⟨hR2,hT2,fT2⟩:=hT)))
     | (go_at_call 11;go_split_ands;with_reducible refine (HRun.out _ (by assumption) _ (by first|assumption|exact (hov.keep (bal (bR _ _) _)).wide)).mono ?_;rintro e w5 ⟨⟨A,n,c,rfl,hrv⟩,hb3⟩;have hB3:Below w2.heap.size w2 w5:=bot (by assumption) hb3;have hz3:=hB3.size;(first|(have hT:=zM1 hb3;obtain ⟨hR3,hT3,fT3⟩:=hT)|(have hT:=zLR hb3 hR2 hT2 fT2;obtain ⟨hR3,hT3,fT3⟩:=hT)|skip)))
  all_goals
   go_wp2_with fail
   go_meet
   first
    | exact ⟨_,_,_,_,rfl,rfl,zM4 hB3 hrv hz2⟩
    | exact ⟨_,_,_,_,rfl,rfl,zJM hB3 hz2 hR3 hrv (by simp;omega) (by simp)⟩
    | exact ⟨_,_,_,_,rfl,rfl,zJM hB3 (nR _) hR3 hrv hz2 (zAV hT2)⟩
 case rest=>
 obtain ⟨TB,A,n,c,rfl,rfl,HN⟩:=hcut
 generalize wc=w3 at *
 have HB3:=cH HN.out.1
 clear hcell0
 clear HRun HOld
 have hn:=HN.out.2.2.2.n_eq
 have hcap:=HN.out.2.2.2.cap_le
 unfold maxLen at hcap
 have hnz:n≤9223372036854775807:=by omega
 have q1:w3.cell? ⟨TB,0,none⟩=some (.slice A n c):=cO _ _ 0 _ _ _ HN.out.2.1
 rcases placeW_cases (q:=qW ns (psW x ns) x) (zIy Hs.out).may (zIy Hs.out).graph with ⟨c0,hR,hE,hc0⟩|⟨st,hE,hR⟩
 ·obtain ⟨h1,h2⟩:=Prod.mk.inj (HRR.out.symm.trans hR)
  have hz:(R2==0)=false:=by rw[h2];exact zN3 hc0
  have hn0:n=0:=by rw[hn,h1];rfl
  subst hn0
  clear hR hE hc0 h1 h2 hn hcap
  go_wp2_with fail
  refine (HLv.out w3 (bot HB2.out HB3.out)).mono ?_
  rintro e wz ⟨rfl,hbz⟩
  have HBz:=cH (bot (bot HB2.out HB3.out) hbz)
  clear hbz
  go_wp2_with fail
  go_ret
  exact ⟨rfl,HBz.out⟩
 obtain ⟨h1,h2⟩:=Prod.mk.inj (HRR.out.symm.trans hR)
 subst h2
 have hm:mapR R1 ns=(some (R1.map (·.node)),0):=by
  rw[h1]
  obtain ⟨m,g1,g2⟩:=zKQ hE
  rw[←g2]
  exact g1
 have HMap:Hid (Calls Tryz.prog 20 #[.agg #[.slice A n c],.agg #[.slice gA gn gc]] w3 fun e w'=>(∃ B k,e=.returned (.tuple #[.slice B n k,.int .i64 0])∧SlV rInt w' (fun b=>w3.heap.size≤b) (R1.map (·.node)) (.slice B n k))∧Below w3.heap.size w3 w'):=by
  refine (zNw A gA n c gn gc R1 ns w3 _ _ (zAO HT.out (bot HB2.out HB3.out)) (fun d hd=>(zKe hE d (by rwa [h1] at hd)).1) HN.out.2.2.2 (HG.out.belowSize HB3.out)).mono ?_
  rintro e w' ⟨⟨v,he,hv⟩,hb⟩
  rw[hm] at he hv
  simp only[Option.getD_some] at hv
  obtain ⟨B,k,rfl,_,_⟩:=hv.val
  rw[List.length_map,←hn] at he hv
  exact ⟨⟨B,k,he,hv⟩,hb⟩
 have Hn:Hid (R1.length=n):=hn.symm
 obtain ⟨c0,_⟩:=Hcell.out w3 HB3.out
 clear hR hE h1 hn hcap hm HRR
 go_wp2_with fail
 refine HMap.out.mono ?_
 rintro e w4 ⟨⟨B,k4,rfl,hsl⟩,hb4⟩
 have HS4:=cH hsl
 have HB4:=cH hb4
 have HT4:Hid (∀ W,Below w4.heap.size w4 W→W.cell? ⟨TB,0,none⟩=some (.slice A n c)):=fun W hW=>cO _ _ 0 _ _ _ (zFi (zFi HN.out.2.1 HB4.out) hW)
 have HE4:Hid (∀ (k:Nat) (d:Dir),R1[k]?=some d→∃ b o b2 o2,A=some ⟨b,o,none⟩∧B=some ⟨b2,o2,none⟩∧∀ W,Below w4.heap.size w4 W→W.cell? ⟨b,o+k * 9+8,none⟩=some (.int .i64 d.node)∧W.cell? ⟨b2,o2+k,none⟩=some (.int .i64 d.node)):=fun k d hd=>by
  obtain ⟨b,o,cs,hA,_,hb,⟨q0,q1,q2,q3,rfl,_⟩,hcell⟩:=(HN.out.2.2.2.belowSize HB4.out).elem hd
  obtain ⟨b2,o2,cs2,hA2,_,hb2,⟨rfl,_⟩,hcell2⟩:=HS4.out.elem (show (R1.map (·.node))[k]?=some d.node by rw[List.getElem?_map,hd];rfl)
  refine ⟨b,o,b2,o2,hA,hA2,fun W hW=>⟨zAA hW (hcell 8 _ rfl) hb,?_⟩⟩
  have h:=hcell2 0 _ rfl
  rw[show o2+k * rInt.size+0=o2+k from by show o2+k * 1+0=_;omega] at h
  exact zAA hW h hb2
 have HBa:=cH (bot HB2.out (bot HB3.out HB4.out))
 clear hsl hb4 c0 q1 HMap HS4 HB4 HB3 HB2 HN HG HP HqG HqW Hcell
 have q1:=HT4.out w4 (bR _ _)
 go_wp2_with fail
 clear q1
 go_loopw [10] (fun t wr=>∃ k:Nat,k≤n∧t=.int .i64 k∧Hid (Below w4.heap.size w4 wr)) (fun t _=>n - (intOf t).toNat)
 case atStart=>exact ⟨0,nZ _,rfl,bR _ _⟩
 case round=>
  obtain ⟨k,hk,rfl,hB⟩:=hrel
  have hk0:(0:Int)≤(k:Int):=by omega
  have q1:=HT4.out wr hB.out
  by_cases hlt:k<n
  case pos=>
   have hkI:(k:Int)<(n:Int):=by omega
   obtain ⟨d,hd⟩:∃ d,R1[k]?=some d:=⟨_,gE (by have:=Hn.out;omega)⟩
   obtain ⟨b,o,b2,o2,hA,hA2,hc⟩:=HE4.out k d hd
   obtain ⟨n8,m0⟩:=hc wr hB.out
   subst hA hA2
   clear HE4 HT4 hd hc
   generalize d.node=nd at *
   go_upto_region 13 with (fail)
   have r_q1:=cR q1
   have r_n8:=cR n8
   have r_m0:=cR m0
   go_wp2_with fail
   refine wQ ?_
   repeat (go_big_quiet_step (first|fail))
   refine wpQuiet_nil fun w5 B5=>?_
   have HB5:=cH (bot hB.out B5)
   clear B5
   go_wp2_with fail
   go_roundw
   case rel=>exact ⟨k+1,by omega,by go_num,HB5⟩
   case measure=>simp[intOf];omega
  have hkI:¬(k:Int)<(n:Int):=by omega
  clear HE4 HT4
  go_wp2_with fail
  refine (HLv.out wr (bot HBa.out hB.out)).mono ?_
  rintro e wz ⟨rfl,hbz⟩
  have HBz:=cH (bot (bot HBa.out hB.out) hbz)
  clear hbz
  go_wp2_with fail
  go_ret
  exact ⟨rfl,HBz.out⟩
