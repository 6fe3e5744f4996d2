/-
  The law that the bounds are kept, and met just where they say: walked.
-/
import Derived.Test.YtminjjdnmpaaoaaGreatDoorBd28
import Derived.Test.YtminjjdnmpaaoaaGreatDoorBd17
import Derived.Test.YtminjjdnmpaaoaaGreatDoorAl
set_option linter.all false
set_option maxHeartbeats 12800000
set_option maxRecDepth 100000
namespace Go.Proofs.YtminjjdnmpaaoaaGreatDoor
open Go.Rows Go.RowKit Go.Shelf Go.Sort
theorem zFL (x:Wd) (v:Value) (w:World) (S:Nat→Prop) (ht:Tab w) (hv:WdV w S x v) (hxz:WdZ x∧WdS x) :
  Calls Tryz.prog 8 #[v] w fun e w'=>e=.returned (.bool true)∧Below w.heap.size w w':=by
 have HSol:=cH (zL2 hv hxz.2)
 obtain ⟨kA,kn,kc,mA,mn,mc,nA,nn,nc,lA,ln,lc,vA,vn,vc,oA,on,oc,rfl,_,_,_,_,_,h5,hi0,hi1,hi2,hi3⟩:=hv
 have HLv:Hid (∀ W,Below w.heap.size w W→Calls Tryz.prog 15 #[] W fun e w'=>e=.returned (.bool true)∧Below W.heap.size W w'):=fun W hW=>zK0 W (zAU ht hW)
 have HT:=cH ht
 have Hi:Hid (I64 x.lim.dirs∧I64 x.lim.path):=⟨hi2,hi3⟩
 have Hxz:=cH hxz
 clear ht h5 hi0 hi1 hi2 hi3 hxz
 obtain ⟨ldec,hdec⟩:∃ k,k=x.lim.dec:=⟨_,rfl⟩
 obtain ⟨lnod,hnod⟩:∃ k,k=x.lim.nod:=⟨_,rfl⟩
 obtain ⟨ldirs,hdirs⟩:∃ k,k=x.lim.dirs:=⟨_,rfl⟩
 obtain ⟨lpath,hpath⟩:∃ k,k=x.lim.path:=⟨_,rfl⟩
 obtain ⟨xdev,hdev⟩:∃ k,k=x.dev:=⟨_,rfl⟩
 obtain ⟨xlike,hlike⟩:∃ k,k=x.like:=⟨_,rfl⟩
 rw[←hdec,←hnod,←hdirs,←hpath,←hdev,←hlike] at HSol ⊢
 have Hlim:Hid (x.lim.dec=ldec∧x.lim.nod=lnod∧x.lim.dirs=ldirs∧x.lim.path=lpath∧x.like=xlike):=⟨hdec.symm,hnod.symm,hdirs.symm,hpath.symm,hlike.symm⟩
 clear hdec hnod hdirs hpath hdev hlike
 obtain ⟨w0,hw0⟩:∃ w0,w0=w.alloc (.cells #[.slice kA kn kc,.slice mA mn mc,.slice nA nn nc,.slice lA ln lc,.slice vA vn vc,.bool xdev,.int .i64 ldec,.int .i64 lnod,.int .i64 ldirs,.int .i64 lpath,.slice oA on oc,.bool xlike] 35):=⟨_,rfl⟩
 have HB0:Hid (Below w.heap.size w w0):=by unfold Hid;rw[hw0];exact bal (bR _ _) _
 have hqW:w0.heap[w.heap.size]?=some (.cells #[.slice kA kn kc,.slice mA mn mc,.slice nA nn nc,.slice lA ln lc,.slice vA vn vc,.bool xdev,.int .i64 ldec,.int .i64 lnod,.int .i64 ldirs,.int .i64 lpath,.slice oA on oc,.bool xlike] 35 (0,0)):=by rw[hw0];exact zAD _ _
 obtain ⟨QB,hQB⟩:∃ k,k=w.heap.size:=⟨_,rfl⟩
 rw[←hQB] at hqW
 go_enter Tryz.func8,Tryz.ntmps8
 go_upto_region 1 with (fail)
 rw[←hw0,←hQB]
 clear hw0 hQB
 have HqW:=cH hqW
 have d0:=cO _ _ 0 _ _ _ hqW
 have d1:=cO _ _ 1 _ _ _ hqW
 have d2:=cO _ _ 2 _ _ _ hqW
 have d3:=cO _ _ 3 _ _ _ hqW
 have d4:=cO _ _ 4 _ _ _ hqW
 have d5:=cO _ _ 5 _ _ _ hqW
 have d6:=cO _ _ 6 _ _ _ hqW
 have d7:=cO _ _ 7 _ _ _ hqW
 have d8:=cO _ _ 8 _ _ _ hqW
 have d9:=cO _ _ 9 _ _ _ hqW
 have d10:=cO _ _ 10 _ _ _ hqW
 have d11:=cO _ _ 11 _ _ _ hqW
 clear hqW
 go_wp2_with fail
 refine (HSol.out w0 HB0.out).mono ?_
 rintro e w1 ⟨⟨gA,pA,gn,gc,pn,pc,b,rfl,hc⟩,hb1⟩
 have HB1:=cH (bot HB0.out hb1)
 have Hc:=cH hc
 have Hq1:=cH (zHV HqW.out hb1)
 clear hb1 hc d0 d1 d2 d3 d4 d5 d6 d7 d8 d9 d10 d11 HB0 HqW HSol
 go_upto_region 2 with (fail)
 obtain ⟨w2,hw2⟩:∃ w2,w2=w1.alloc (.cells #[.slice gA gn gc] 24):=⟨_,rfl⟩
 have HB2:Hid (Below w.heap.size w w2):=by unfold Hid;rw[hw2];exact bal HB1.out _
 have hqG:w2.heap[w1.heap.size]?=some (.cells #[.slice gA gn gc] 24 (0,0)):=by rw[hw2];exact zAD _ _
 have hqW:w2.heap[QB]?=some (.cells #[.slice kA kn kc,.slice mA mn mc,.slice nA nn nc,.slice lA ln lc,.slice vA vn vc,.bool xdev,.int .i64 ldec,.int .i64 lnod,.int .i64 ldirs,.int .i64 lpath,.slice oA on oc,.bool xlike] 35 (0,0)):=by rw[hw2];exact zHV Hq1.out (bal (bR _ _) _)
 obtain ⟨GB,hGB⟩:∃ k,k=w1.heap.size:=⟨_,rfl⟩
 rw[←hGB] at hqG
 have HqG:=cH hqG
 have HqW:=cH hqW
 have Hns:Hid (b=true→∃ ns,solS (qSol x)=some ns∧SolF x ns∧SlV rNode w2 (fun _=>True) ns (.slice gA gn gc)∧SlV rPack w2 (fun _=>True) (psW x ns) (.slice pA pn pc)):=fun hb=>by
  obtain ⟨ns,g1,g2,g3,g4⟩:=Hc.out hb
  exact ⟨ns,g1,g2,by rw[hw2];exact g3.alloc _,by rw[hw2];exact g4.alloc _⟩
 rw[←hw2,←hGB]
 clear hw2 hqG hqW hGB Hc Hq1 HB1
 cases b with
 | false=>
   clear Hns
   go_wp2_with fail
   refine (HLv.out w2 HB2.out).mono ?_
   rintro e w3 ⟨rfl,hb3⟩
   have HB3:=cH (bot HB2.out hb3)
   clear hb3
   go_wp2_with fail
   go_ret
   exact ⟨rfl,HB3.out⟩
 | true=>
 obtain ⟨ns,hs,hf,hg,hp⟩:=Hns.out rfl
 have HG:=cH hg
 have HP:=cH hp
 have Hf:=cH hf
 have Hs:=cH hs
 clear hs hf hg hp Hns
 have Hcell:Hid (∀ W,Below w2.heap.size w2 W→W.cell? ⟨GB,0,none⟩=some (.slice gA gn gc)∧W.cell? ⟨QB,0,none⟩=some (.slice kA kn kc)∧W.cell? ⟨QB,1,none⟩=some (.slice mA mn mc)∧W.cell? ⟨QB,2,none⟩=some (.slice nA nn nc)∧W.cell? ⟨QB,3,none⟩=some (.slice lA ln lc)∧W.cell? ⟨QB,4,none⟩=some (.slice vA vn vc)∧W.cell? ⟨QB,5,none⟩=some (.bool xdev)∧W.cell? ⟨QB,6,none⟩=some (.int .i64 ldec)∧W.cell? ⟨QB,7,none⟩=some (.int .i64 lnod)∧W.cell? ⟨QB,8,none⟩=some (.int .i64 ldirs)∧W.cell? ⟨QB,9,none⟩=some (.int .i64 lpath)∧W.cell? ⟨QB,10,none⟩=some (.slice oA on oc)∧W.cell? ⟨QB,11,none⟩=some (.bool xlike)):=fun W hW=>by
  have h1:=zHV HqG.out hW
  have h2:=zHV HqW.out hW
  exact ⟨cO _ _ 0 _ _ _ h1,cO _ _ 0 _ _ _ h2,cO _ _ 1 _ _ _ h2,cO _ _ 2 _ _ _ h2,cO _ _ 3 _ _ _ h2,cO _ _ 4 _ _ _ h2,cO _ _ 5 _ _ _ h2,cO _ _ 6 _ _ _ h2,cO _ _ 7 _ _ _ h2,cO _ _ 8 _ _ _ h2,cO _ _ 9 _ _ _ h2,cO _ _ 10 _ _ _ h2,cO _ _ 11 _ _ _ h2⟩
 have HRun:Hid (∀ W,Below w2.heap.size w2 W→Calls Tryz.prog 11 #[.agg #[.slice gA gn gc],.slice pA pn pc,.agg #[.int .i64 ldec,.int .i64 lnod,.int .i64 ldirs,.int .i64 lpath],.pointer none] W fun e w'=>
   (∃ A n c,e=.returned (.tuple #[.agg #[.slice A n c],.int .i64 (zBC (qN ns x ldirs lpath)).2])∧SlV rDir w' (fun b=>W.heap.size≤b) (zBC (qN ns x ldirs lpath)).1 (.slice A n c))∧Below W.heap.size W w'):=fun W hW=>
  zIw (qN ns x ldirs lpath) ldec lnod (zAU HT.out HB2.out) HG.out HP.out Hf.out.len Hf.out.packs (by rw[show (qN ns x ldirs lpath).dirs=x.lim.dirs from Hlim.out.2.2.1.symm,show (qN ns x ldirs lpath).path=x.lim.path from Hlim.out.2.2.2.1.symm];exact Hi.out) W hW none (zIt W)
 have HRunD:Hid (∀ W,Below w2.heap.size w2 W→∀ D P:Int,I64 D→I64 P→Calls Tryz.prog 11 #[.agg #[.slice gA gn gc],.slice pA pn pc,.agg #[.int .i64 0,.int .i64 0,.int .i64 D,.int .i64 P],.pointer none] W fun e w'=>
   (∃ A n c,e=.returned (.tuple #[.agg #[.slice A n c],.int .i64 (zBC (qN ns x D P)).2])∧SlV rDir w' (fun b=>W.heap.size≤b) (zBC (qN ns x D P)).1 (.slice A n c))∧Below W.heap.size W w'):=fun W hW D P h1 h2=>
  zIw (qN ns x D P) 0 0 (zAU HT.out HB2.out) HG.out HP.out Hf.out.len Hf.out.packs ⟨h1,h2⟩ W hW none (zIt W)
 have HErr:Hid (∀ (D P z:Int),I64 D→I64 P→zBC (qN ns x D P)=([],z)→∀ W,Below w2.heap.size w2 W→Calls Tryz.prog 11 #[.agg #[.slice gA gn gc],.slice pA pn pc,.agg #[.int .i64 0,.int .i64 0,.int .i64 D,.int .i64 P],.pointer none] W fun e w'=>(∃ A c,e=.returned (.tuple #[.agg #[.slice A 0 c],.int .i64 z]))∧Below W.heap.size W w'):=fun D P z h1 h2 hR W hW=>by
  refine (HRunD.out W hW D P h1 h2).mono ?_
  rintro e w' ⟨⟨A,n,c,he,hs⟩,hb⟩
  rw[hR] at he hs
  have hn:=hs.n_eq
  have hn:n=0:=hn
  subst hn
  exact ⟨⟨A,c,he⟩,hb⟩
 clear HRunD
 generalize hRR:zBC (qN ns x ldirs lpath)=RR at *
 obtain ⟨R1,R2⟩:=RR
 have HRR:=cH hRR
 clear hRR
 obtain ⟨c0,d0,d1,d2,d3,d4,d5,d6,d7,d8,d9,d10,d11⟩:=Hcell.out w2 (bR _ _)
 go_wp2_with fail
 refine (HRun.out w2 (bR _ _)).mono ?_
 rintro e w3 ⟨⟨A,n,c,rfl,hsl⟩,hb3⟩
 have HS3:=cH hsl
 have HB3:=cH hb3
 clear hsl hb3 c0 d0 d1 d2 d3 d4 d5 d6 d7 d8 d9 d10 d11 HRun
 go_upto_region 5 with (fail)
 obtain ⟨w4,hw4⟩:∃ w4,w4=w3.alloc (.cells #[.slice A n c] 33):=⟨_,rfl⟩
 have HB4:Hid (Below w2.heap.size w2 w4):=by unfold Hid;rw[hw4];exact bal HB3.out _
 have hT4:w4.heap[w3.heap.size]?=some (.cells #[.slice A n c] 33 (0,0)):=by rw[hw4];exact zAD _ _
 obtain ⟨TB,hTB⟩:∃ k,k=w3.heap.size:=⟨_,rfl⟩
 rw[←hTB] at hT4
 have hTn:w2.heap.size≤TB:=by have:=HB3.out.size;omega
 have HN:Hid (w4.heap[TB]?=some (.cells #[.slice A n c] 33 (0,0))∧w2.heap.size≤TB∧SlV rDir w4 (fun b=>w2.heap.size≤b∧b≠TB) R1 (.slice A n c)):=⟨hT4,hTn,by rw[hw4];exact (HS3.out.more (S':=fun b=>w2.heap.size≤b∧b≠TB) fun b hb hl=>⟨hb,by omega⟩).alloc _⟩
 rw[←hw4,←hTB]
 clear hw4 hTB hT4 hTn HS3 HB3
 rcases placeW_cases (q:=qN ns x ldirs lpath) (zI7 Hs.out).may (zI7 Hs.out).graph with ⟨c0,hR,hE,hc0⟩|⟨st,hE,hR⟩
 ·have h2:R2=c0:=(Prod.mk.inj (HRR.out.symm.trans hR)).2
  have h3:R2=1∨R2=40∨R2=41:=by
   rw[h2]
   rcases hc0 with h|h|h|⟨_,h⟩
   ·exact .inl h
   ·exact .inr (.inl h)
   ·exact .inr (.inr h)
   ·exact absurd (show false=true from h) (by decide)
  clear hR hE hc0 h2
  rcases h3 with h3|h3|h3
  all_goals
   subst h3
   go_wp2_with fail
   refine (HLv.out w4 (bot HB2.out HB4.out)).mono ?_
   rintro e wz ⟨rfl,hbz⟩
   have HBz:=cH (bot (bot HB2.out HB4.out) hbz)
   clear hbz
   go_wp2_with fail
   go_ret
   exact ⟨rfl,HBz.out⟩
 obtain ⟨h1,h2⟩:=Prod.mk.inj (HRR.out.symm.trans hR)
 subst h2
 have hn:=HN.out.2.2.n_eq
 have hlen:=zNB hE
 rw[←h1,←hn] at hlen
 have Hn:Hid (R1.length=n):=hn.symm
 have Hlb:Hid (∀ L:Nat,L=longN (R1.drop 1)→(n:Int) - 1≤ldirs∧(L:Int)≤lpath∧L≤1024):=fun L hL=>by
  rw[hn]
  rw[h1] at hL ⊢
  exact zIW hE hL
 have Hless:Hid (2<n→zBC (qN ns x ((n:Int) - 2) 1024)=([],41)):=fun h=>by
  rw[hn] at h ⊢
  rw[h1] at h ⊢
  exact zLH hE h
 have Hshort:Hid (∀ L:Nat,L=longN (R1.drop 1)→1<L→zBC (qN ns x 256 ((L:Int) - 1))=([],40)):=fun L hL h=>by
  rw[h1] at hL
  exact zJU hE hL h
 have HE4:Hid (∀ (k:Nat) (d:Dir),R1[k]?=some d→(textB d.path).size≤1024∧∃ b o pA pc,A=some ⟨b,o,none⟩∧(∀ W,Below w4.heap.size w4 W→W.cell? ⟨b,o+k * 9,none⟩=some (.slice pA d.path.length pc))∧∀ W,Below w4.heap.size w4 W→Calls Tryz.prog 19 #[.slice pA d.path.length pc] W fun e w'=>e=.returned (.string (textB d.path))∧Below W.heap.size W w'):=fun k d hd=>by
  have hz:=zGu hE d (by rw[←h1];exact mG hd)
  obtain ⟨b,o,cs,hA,_,hb,⟨s0,s1,s2,s3,rfl,hp,_⟩,hcell⟩:=HN.out.2.2.elem hd
  obtain ⟨pA,pc,rfl,_,_⟩:=hp.val
  exact ⟨hz.2,b,o,pA,pc,hA,fun W hW=>zAA hW (hcell 0 _ rfl) hb,fun W hW=>zB3 pA _ pc d.path W (fun b=>b<W.heap.size) (fun b h=>h) hz.1 ((hp.belowSize hW).more fun b _ h=>h)⟩
 have HT4:Hid (∀ W,Below w4.heap.size w4 W→W.cell? ⟨TB,0,none⟩=some (.slice A n c)):=fun W hW=>cO _ _ 0 _ _ _ (zHV HN.out.1 hW)
 clear hR hE h1 hn
 go_wp2_with fail
 go_loopw [8,9] (fun t8 t9 wr=>∃ k m:Nat,1≤k∧k≤n∧t9=.int .i64 k∧t8=.int .i64 m∧m≤1024∧Hid (m=longN ((R1.drop 1).take (k - 1)))∧Hid (Below w4.heap.size w4 wr)) (fun _ t9 _=>n - (intOf t9).toNat)
 case atStart=>exact ⟨1,0,nR _,hlen.1,rfl,rfl,nZ _,rfl,bR _ _⟩
 case round=>
  obtain ⟨k,m,hk1,hk,rfl,rfl,hm,hlong,hB⟩:=hrel
  have hk0:(0:Int)≤(k:Int):=by omega
  have q1:=HT4.out wr hB.out
  by_cases hlt:k<n
  case pos=>
   have hkI:(k:Int)<(n:Int):=by omega
   obtain ⟨d,hd⟩:∃ d,R1[k]?=some d:=⟨_,gE (by have:=Hn.out;omega)⟩
   obtain ⟨hz,b,o,eA,ec,hA,hc,htx⟩:=HE4.out k d hd
   have p0:=hc wr hB.out
   have HTx:=cH (htx wr hB.out)
   have Hst:Hid (longN ((R1.drop 1).take (k+1 - 1))=max m (textB d.path).size):=by unfold Hid;rw[zJe hk1 hd,←hlong.out]
   clear hc htx hd HE4 HT4 Hcell Hlb Hless Hshort
   subst hA
   generalize textB d.path=tx at *
   obtain ⟨tz,htz⟩:∃ k,k=tx.size:=⟨_,rfl⟩
   rw[←htz] at Hst hz
   generalize d.path.length=pl at *
   have Htz:=cH htz
   clear htz
   go_wp2_with fail
   refine HTx.out.mono ?_
   rintro e w5 ⟨rfl,hb5⟩
   have HB5:=cH (bot hB.out hb5)
   clear hb5 HTx q1 p0
   by_cases hgt:m<tz
   case pos=>
    have hI:(m:Int)<((tx.size:Nat):Int):=by have:=Htz.out;omega
    have He:Hid (tz=longN ((R1.drop 1).take (k+1 - 1))):=by unfold Hid;rw[Hst.out];omega
    clear Hst
    go_wp2_with fail
    go_roundw
    case rel=>exact ⟨k+1,tz,by omega,by omega,by go_num,by rw[Htz.out],hz,He,HB5⟩
    case measure=>simp[intOf];omega
   have hI:¬(m:Int)<((tx.size:Nat):Int):=by have:=Htz.out;omega
   have He:Hid (m=longN ((R1.drop 1).take (k+1 - 1))):=by unfold Hid;rw[Hst.out];omega
   clear Hst
   go_wp2_with fail
   go_roundw
   case rel=>exact ⟨k+1,m,by omega,by omega,by go_num,rfl,hm,He,HB5⟩
   case measure=>simp[intOf];omega
  have hkI:¬(k:Int)<(n:Int):=by omega
  have HL:Hid (m=longN (R1.drop 1)):=by
   unfold Hid
   rw[hlong.out,List.take_of_length_le (by rw[List.length_drop];have:=Hn.out;omega)]
  obtain ⟨b1,b2,b3⟩:=Hlb.out m HL.out
  obtain ⟨_,_,_,_,_,_,_,_,_,d8,d9,_⟩:=Hcell.out wr (bot HB4.out hB.out)
  have hI1:¬ldirs<(n:Int) - 1:=by omega
  have hI2:¬lpath<(m:Int):=by omega
  clear HE4 Hlb hlong
  obtain rfl:k=n:=by omega
  generalize wr=wv at *
  go_upto_if 86 with fail
  generalize hbp:decide ((2:Int)<(k:Int))=bp
  have Hbp:=cH hbp
  clear hbp
  go_cut [11,12,13] from 87 to 106 (fun _ _ _ wx=>Hid (Below w4.heap.size w4 wx))
  case first=>
   cases bp with
   | true=>
     have h2:2<k:=by have:=of_decide_eq_true Hbp.out;omega
     have HX:=cH (HErr.out ((k:Int) - 2) 1024 41 (by unfold I64;omega) (by unfold I64;omega) (Hless.out h2))
     go_upto_region 18 with (fail)
     obtain ⟨w5,hw5⟩:∃ w5,w5=wv.alloc (.cells #[.int .i64 0,.int .i64 0,.int .i64 ((k:Int) - 2),.int .i64 1024] 30):=⟨_,rfl⟩
     have HB5:Hid (Below w4.heap.size w4 w5):=by unfold Hid;rw[hw5];exact bal hB.out _
     have hq5:w5.heap[wv.heap.size]?=some (.cells #[.int .i64 0,.int .i64 0,.int .i64 ((k:Int) - 2),.int .i64 1024] 30 (0,0)):=by rw[hw5];exact zAD _ _
     rw[←hw5]
     have y0:=cO _ _ 0 _ _ _ hq5
     have y1:=cO _ _ 1 _ _ _ hq5
     have y2:=cO _ _ 2 _ _ _ hq5
     have y3:=cO _ _ 3 _ _ _ hq5
     obtain ⟨c0,_⟩:=Hcell.out w5 (bot HB4.out HB5.out)
     clear hw5 hq5 q1 d8 d9
     go_wp2_with fail
     refine (HX.out w5 (bot HB4.out HB5.out)).mono ?_
     rintro e w6 ⟨⟨A2,c2,rfl⟩,hb6⟩
     have HB6:=cH (bot HB5.out hb6)
     clear hb6 y0 y1 y2 y3 c0 HX
     go_upto_region 19 with (fail)
     obtain ⟨w7,hw7⟩:∃ w7,w7=w6.alloc (.cells #[.slice A2 0 c2] 33):=⟨_,rfl⟩
     have HB7:Hid (Below w4.heap.size w4 w7):=by unfold Hid;rw[hw7];exact bal HB6.out _
     have q7:w7.cell? ⟨w6.heap.size,0,none⟩=some (.slice A2 0 c2):=by rw[hw7];exact cO _ _ 0 _ _ _ (zAD w6 _)
     rw[←hw7]
     clear hw7 HB5 HB6
     go_wp2_with fail
     go_meet
     exact HB7
   | false=>
     go_wp2_with fail
     go_meet
     exact hB
  case rest=>
  generalize wc=wa at *
  have Hwa:=cH hcut.out
  clear hcut
  have q1:=HT4.out wa Hwa.out
  obtain ⟨_,_,_,_,_,_,_,_,_,d8,d9,_⟩:=Hcell.out wa (bot HB4.out Hwa.out)
  go_upto_if 108 with fail
  generalize hbq:decide ((1:Int)<(m:Int))=bq
  have Hbq:=cH hbq
  clear hbq
  go_cut [14,15,16] from 109 to 126 (fun _ _ _ wx=>Hid (Below w4.heap.size w4 wx))
  case first=>
   cases bq with
   | true=>
     have h2:1<m:=by have:=of_decide_eq_true Hbq.out;omega
     have HX:=cH (HErr.out 256 ((m:Int) - 1) 40 (by unfold I64;omega) (by unfold I64;omega) (Hshort.out m HL.out h2))
     go_upto_region 23 with (fail)
     obtain ⟨w5,hw5⟩:∃ w5,w5=wa.alloc (.cells #[.int .i64 0,.int .i64 0,.int .i64 256,.int .i64 ((m:Int) - 1)] 30):=⟨_,rfl⟩
     have HB5:Hid (Below w4.heap.size w4 w5):=by unfold Hid;rw[hw5];exact bal Hwa.out _
     have hq5:w5.heap[wa.heap.size]?=some (.cells #[.int .i64 0,.int .i64 0,.int .i64 256,.int .i64 ((m:Int) - 1)] 30 (0,0)):=by rw[hw5];exact zAD _ _
     rw[←hw5]
     have y0:=cO _ _ 0 _ _ _ hq5
     have y1:=cO _ _ 1 _ _ _ hq5
     have y2:=cO _ _ 2 _ _ _ hq5
     have y3:=cO _ _ 3 _ _ _ hq5
     obtain ⟨c0,_⟩:=Hcell.out w5 (bot HB4.out HB5.out)
     clear hw5 hq5 q1 d8 d9
     go_wp2_with fail
     refine (HX.out w5 (bot HB4.out HB5.out)).mono ?_
     rintro e w6 ⟨⟨A2,c2,rfl⟩,hb6⟩
     have HB6:=cH (bot HB5.out hb6)
     clear hb6 y0 y1 y2 y3 c0 HX
     go_upto_region 24 with (fail)
     obtain ⟨w7,hw7⟩:∃ w7,w7=w6.alloc (.cells #[.slice A2 0 c2] 33):=⟨_,rfl⟩
     have HB7:Hid (Below w4.heap.size w4 w7):=by unfold Hid;rw[hw7];exact bal HB6.out _
     have q7:w7.cell? ⟨w6.heap.size,0,none⟩=some (.slice A2 0 c2):=by rw[hw7];exact cO _ _ 0 _ _ _ (zAD w6 _)
     rw[←hw7]
     clear hw7 HB5 HB6
     go_wp2_with fail
     go_meet
     exact HB7
   | false=>
     go_wp2_with fail
     go_meet
     exact Hwa
  case rest=>
  generalize wc=wb at *
  have Hwb:=cH hcut.out
  clear hcut
  clear q1 d8 d9
  go_wp2_with fail
  refine (HLv.out wb (bot HB2.out (bot HB4.out Hwb.out))).mono ?_
  rintro e wz ⟨rfl,hbz⟩
  have HBz:=cH (bot (bot HB2.out (bot HB4.out Hwb.out)) hbz)
  clear hbz
  go_wp2_with fail
  go_ret
  exact ⟨rfl,HBz.out⟩
