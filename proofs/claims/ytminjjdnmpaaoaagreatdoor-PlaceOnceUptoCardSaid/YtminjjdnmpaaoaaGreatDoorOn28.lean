/-
  The law that an only one of its name stands once, at the top: walked.
-/
import Derived.Test.YtminjjdnmpaaoaaGreatDoorOn27
import Derived.Test.YtminjjdnmpaaoaaGreatDoorOn16
import Derived.Test.YtminjjdnmpaaoaaGreatDoorOn17
import Derived.Test.YtminjjdnmpaaoaaGreatDoorOn03
import Derived.Test.YtminjjdnmpaaoaaGreatDoorAl
set_option linter.all false
set_option maxHeartbeats 12800000
set_option maxRecDepth 100000
namespace Go.Proofs.YtminjjdnmpaaoaaGreatDoor
open Go.Rows Go.RowKit Go.Shelf Go.Sort
theorem zIs {w:World} {s:ByteArray} (hs:s.size≤maxLen) (t:TypeId):SlV rStr (w.alloc (.cells #[.string s] t)) (fun _=>True) [s] (.slice (some ⟨w.heap.size,0,none⟩) 1 1):=
 SlV.of_block (zAD w _) (show Elems rStr _ _ [s] [.string s] from ⟨[.string s],[],rfl,⟨rfl,hs⟩,rfl⟩) trivial rfl (nR _) (by unfold maxLen;decide)
theorem zGH (x:Wd) (v:Value) (w:World) (S:Nat→Prop) (ht:Tab w) (hv:WdV w S x v) (hxz:WdZ x∧WdS x) :
  Calls Tryz.prog 6 #[v] w fun e w'=>e=.returned (.bool true)∧Below w.heap.size w w':=by
 have HSol:=cH (zLe hv hxz.2)
 obtain ⟨kA,kn,kc,mA,mn,mc,nA,nn,nc,lA,ln,lc,vA,vn,vc,oA,on,oc,rfl,_,_,_,_,_,h5,hi0,hi1,hi2,hi3⟩:=hv
 have HLv:Hid (∀ W,Below w.heap.size w W→Calls Tryz.prog 15 #[] W fun e w'=>e=.returned (.bool true)∧Below W.heap.size W w'):=fun W hW=>zKn W (zAU ht hW)
 have HT:=cH ht
 have Hi:Hid (I64 x.lim.dirs∧I64 x.lim.path):=⟨hi2,hi3⟩
 have Hxz:=cH hxz
 clear ht h5 hi0 hi1 hi2 hi3 hxz
 obtain ⟨ldec,hdec⟩:∃ k,k=x.lim.dec:=⟨_,rfl⟩
 obtain ⟨lnod,hnod⟩:∃ k,k=x.lim.nod:=⟨_,rfl⟩
 obtain ⟨ldirs,hdirs⟩:∃ k,k=x.lim.dirs:=⟨_,rfl⟩
 obtain ⟨lpath,hpath⟩:∃ k,k=x.lim.path:=⟨_,rfl⟩
 obtain ⟨xdev,hdev⟩:∃ k,k=x.dev:=⟨_,rfl⟩
 obtain ⟨xlike,hlike⟩:∃ k,k=x.like:=⟨_,rfl⟩
 rw[←hdec,←hnod,←hdirs,←hpath,←hdev,←hlike] at HSol ⊢
 have Hlim:Hid (x.lim.dec=ldec∧x.lim.nod=lnod∧x.lim.dirs=ldirs∧x.lim.path=lpath∧x.like=xlike):=⟨hdec.symm,hnod.symm,hdirs.symm,hpath.symm,hlike.symm⟩
 clear hdec hnod hdirs hpath hdev hlike
 obtain ⟨w0,hw0⟩:∃ w0,w0=w.alloc (.cells #[.slice kA kn kc,.slice mA mn mc,.slice nA nn nc,.slice lA ln lc,.slice vA vn vc,.bool xdev,.int .i64 ldec,.int .i64 lnod,.int .i64 ldirs,.int .i64 lpath,.slice oA on oc,.bool xlike] 35):=⟨_,rfl⟩
 have HB0:Hid (Below w.heap.size w w0):=by unfold Hid;rw[hw0];exact bal (bR _ _) _
 have hqW:w0.heap[w.heap.size]?=some (.cells #[.slice kA kn kc,.slice mA mn mc,.slice nA nn nc,.slice lA ln lc,.slice vA vn vc,.bool xdev,.int .i64 ldec,.int .i64 lnod,.int .i64 ldirs,.int .i64 lpath,.slice oA on oc,.bool xlike] 35 (0,0)):=by rw[hw0];exact zAD _ _
 obtain ⟨QB,hQB⟩:∃ k,k=w.heap.size:=⟨_,rfl⟩
 rw[←hQB] at hqW
 go_enter Tryz.func6,Tryz.ntmps6
 go_upto_region 1 with (fail)
 rw[←hw0,←hQB]
 clear hw0 hQB
 have HqW:=cH hqW
 have d0:=cO _ _ 0 _ _ _ hqW
 have d1:=cO _ _ 1 _ _ _ hqW
 have d2:=cO _ _ 2 _ _ _ hqW
 have d3:=cO _ _ 3 _ _ _ hqW
 have d4:=cO _ _ 4 _ _ _ hqW
 have d5:=cO _ _ 5 _ _ _ hqW
 have d6:=cO _ _ 6 _ _ _ hqW
 have d7:=cO _ _ 7 _ _ _ hqW
 have d8:=cO _ _ 8 _ _ _ hqW
 have d9:=cO _ _ 9 _ _ _ hqW
 have d10:=cO _ _ 10 _ _ _ hqW
 have d11:=cO _ _ 11 _ _ _ hqW
 clear hqW
 go_wp2_with fail
 refine (HSol.out w0 HB0.out).mono ?_
 rintro e w1 ⟨⟨gA,pA,gn,gc,pn,pc,b,rfl,hc⟩,hb1⟩
 have HB1:=cH (bot HB0.out hb1)
 have Hc:=cH hc
 have Hq1:=cH (zHR HqW.out hb1)
 clear hb1 hc d0 d1 d2 d3 d4 d5 d6 d7 d8 d9 d10 d11 HB0 HqW HSol
 go_upto_region 2 with (fail)
 obtain ⟨w2,hw2⟩:∃ w2,w2=w1.alloc (.cells #[.slice gA gn gc] 24):=⟨_,rfl⟩
 have HB2:Hid (Below w.heap.size w w2):=by unfold Hid;rw[hw2];exact bal HB1.out _
 have hqG:w2.heap[w1.heap.size]?=some (.cells #[.slice gA gn gc] 24 (0,0)):=by rw[hw2];exact zAD _ _
 have hqW:w2.heap[QB]?=some (.cells #[.slice kA kn kc,.slice mA mn mc,.slice nA nn nc,.slice lA ln lc,.slice vA vn vc,.bool xdev,.int .i64 ldec,.int .i64 lnod,.int .i64 ldirs,.int .i64 lpath,.slice oA on oc,.bool xlike] 35 (0,0)):=by rw[hw2];exact zHR Hq1.out (bal (bR _ _) _)
 obtain ⟨GB,hGB⟩:∃ k,k=w1.heap.size:=⟨_,rfl⟩
 rw[←hGB] at hqG
 have HqG:=cH hqG
 have HqW:=cH hqW
 have Hns:Hid (b=true→∃ ns,solS (qSol x)=some ns∧SolF x ns∧SlV rNode w2 (fun _=>True) ns (.slice gA gn gc)∧SlV rPack w2 (fun _=>True) (psW x ns) (.slice pA pn pc)):=fun hb=>by
  obtain ⟨ns,g1,g2,g3,g4⟩:=Hc.out hb
  exact ⟨ns,g1,g2,by rw[hw2];exact g3.alloc _,by rw[hw2];exact g4.alloc _⟩
 rw[←hw2,←hGB]
 clear hw2 hqG hqW hGB Hc Hq1 HB1
 cases b with
 | false=>
   clear Hns
   go_wp2_with fail
   refine (HLv.out w2 HB2.out).mono ?_
   rintro e w3 ⟨rfl,hb3⟩
   have HB3:=cH (bot HB2.out hb3)
   clear hb3
   go_wp2_with fail
   go_ret
   exact ⟨rfl,HB3.out⟩
 | true=>
 obtain ⟨ns,hs,hf,hg,hp⟩:=Hns.out rfl
 have HG:=cH hg
 have HP:=cH hp
 have Hf:=cH hf
 have Hs:=cH hs
 clear hs hf hg hp Hns
 have Hcell:Hid (∀ W,Below w2.heap.size w2 W→W.cell? ⟨GB,0,none⟩=some (.slice gA gn gc)∧W.cell? ⟨QB,0,none⟩=some (.slice kA kn kc)∧W.cell? ⟨QB,1,none⟩=some (.slice mA mn mc)∧W.cell? ⟨QB,2,none⟩=some (.slice nA nn nc)∧W.cell? ⟨QB,3,none⟩=some (.slice lA ln lc)∧W.cell? ⟨QB,4,none⟩=some (.slice vA vn vc)∧W.cell? ⟨QB,5,none⟩=some (.bool xdev)∧W.cell? ⟨QB,6,none⟩=some (.int .i64 ldec)∧W.cell? ⟨QB,7,none⟩=some (.int .i64 lnod)∧W.cell? ⟨QB,8,none⟩=some (.int .i64 ldirs)∧W.cell? ⟨QB,9,none⟩=some (.int .i64 lpath)∧W.cell? ⟨QB,10,none⟩=some (.slice oA on oc)∧W.cell? ⟨QB,11,none⟩=some (.bool xlike)):=fun W hW=>by
  have h1:=zHR HqG.out hW
  have h2:=zHR HqW.out hW
  exact ⟨cO _ _ 0 _ _ _ h1,cO _ _ 0 _ _ _ h2,cO _ _ 1 _ _ _ h2,cO _ _ 2 _ _ _ h2,cO _ _ 3 _ _ _ h2,cO _ _ 4 _ _ _ h2,cO _ _ 5 _ _ _ h2,cO _ _ 6 _ _ _ h2,cO _ _ 7 _ _ _ h2,cO _ _ 8 _ _ _ h2,cO _ _ 9 _ _ _ h2,cO _ _ 10 _ _ _ h2,cO _ _ 11 _ _ _ h2⟩
 have HRun:Hid (∀ W,Below w2.heap.size w2 W→Calls Tryz.prog 11 #[.agg #[.slice gA gn gc],.slice pA pn pc,.agg #[.int .i64 ldec,.int .i64 lnod,.int .i64 ldirs,.int .i64 lpath],.pointer none] W fun e w'=>
   (∃ A n c,e=.returned (.tuple #[.agg #[.slice A n c],.int .i64 (zBt (qN ns x ldirs lpath)).2])∧SlV rDir w' (fun b=>W.heap.size≤b) (zBt (qN ns x ldirs lpath)).1 (.slice A n c))∧Below W.heap.size W w'):=fun W hW=>
  zMM (qN ns x ldirs lpath) ldec lnod (zAU HT.out HB2.out) HG.out HP.out Hf.out.len Hf.out.packs (by rw[show (qN ns x ldirs lpath).dirs=x.lim.dirs from Hlim.out.2.2.1.symm,show (qN ns x ldirs lpath).path=x.lim.path from Hlim.out.2.2.2.1.symm];exact Hi.out) W hW none (zMI W)
 generalize hRR:zBt (qN ns x ldirs lpath)=RR at *
 obtain ⟨R1,R2⟩:=RR
 have HRR:=cH hRR
 clear hRR
 obtain ⟨c0,d0,d1,d2,d3,d4,d5,d6,d7,d8,d9,d10,d11⟩:=Hcell.out w2 (bR _ _)
 go_wp2_with fail
 refine (HRun.out w2 (bR _ _)).mono ?_
 rintro e w3 ⟨⟨A,n,c,rfl,hsl⟩,hb3⟩
 have HS3:=cH hsl
 have HB3:=cH hb3
 clear hsl hb3 c0 d0 d1 d2 d3 d4 d5 d6 d7 d8 d9 d10 d11 HRun
 go_upto_region 5 with (fail)
 obtain ⟨w4,hw4⟩:∃ w4,w4=w3.alloc (.cells #[.slice A n c] 33):=⟨_,rfl⟩
 have HB4:Hid (Below w2.heap.size w2 w4):=by unfold Hid;rw[hw4];exact bal HB3.out _
 have hT4:w4.heap[w3.heap.size]?=some (.cells #[.slice A n c] 33 (0,0)):=by rw[hw4];exact zAD _ _
 obtain ⟨TB,hTB⟩:∃ k,k=w3.heap.size:=⟨_,rfl⟩
 rw[←hTB] at hT4
 have hTn:w2.heap.size≤TB:=by have:=HB3.out.size;omega
 have HN:Hid (w4.heap[TB]?=some (.cells #[.slice A n c] 33 (0,0))∧w2.heap.size≤TB∧SlV rDir w4 (fun b=>w2.heap.size≤b∧b≠TB) R1 (.slice A n c)):=⟨hT4,hTn,by rw[hw4];exact (HS3.out.more (S':=fun b=>w2.heap.size≤b∧b≠TB) fun b hb hl=>⟨hb,by omega⟩).alloc _⟩
 rw[←hw4,←hTB]
 clear hw4 hTB hT4 hTn HS3 HB3
 rcases placeW_cases (q:=qN ns x ldirs lpath) (zEV Hs.out).may (zEV Hs.out).graph with ⟨c0,hR,hE,hc0⟩|⟨st,hE,hR⟩
 ·have h2:R2=c0:=(Prod.mk.inj (HRR.out.symm.trans hR)).2
  have hz:(R2==0)=false:=by rw[h2];exact zNK hc0
  clear hR hE hc0 h2
  go_wp2_with fail
  refine (HLv.out w4 (bot HB2.out HB4.out)).mono ?_
  rintro e wz ⟨rfl,hbz⟩
  have HBz:=cH (bot (bot HB2.out HB4.out) hbz)
  clear hbz
  go_wp2_with fail
  go_ret
  exact ⟨rfl,HBz.out⟩
 obtain ⟨h1,h2⟩:=Prod.mk.inj (HRR.out.symm.trans hR)
 have HE:=cH hE
 subst h2
 have hm:=(zEV Hs.out).may
 have hgn:=HG.out.n_eq
 have hgc:=HG.out.cap_le
 unfold maxLen at hgc
 have hgz:gn≤9223372036854775807:=by omega
 have hn:=HN.out.2.2.n_eq
 have hlen:=zNF hE
 rw[←h1,←hn] at hlen
 have hg1:1≤gn:=by
  have h:1≤ns.length:=(zBT hm).1
  omega
 have Hgn:Hid (ns.length=gn):=hgn.symm
 have Hn:Hid (R1.length=n):=hn.symm
 have HOn:Hid (∀ k:Nat,1≤k→k<gn→∀ y,ns[k]?=some y→1≤manyN R1 k∧(y.ctx.length=0→(∀ i z,1≤i→i<gn→ns[i]?=some z→i=k∨z.name≠y.name)→manyN R1 k=1∧0≤findI R1 [y.name])):=fun k hk1 hk y hy=>by
  have h:=zJe hE rfl (zEV Hs.out).reach hk1 (show k<ns.length by omega)
  rw[←h1] at h
  refine ⟨h.1,fun hc ho=>?_⟩
  have h3:=h.2 ⟨y,hy,List.eq_nil_of_length_eq_zero hc,fun i z hi hz hne=>by
   have hil:=(gS.1 hz).1
   exact (ho i z hi (by have:i<ns.length:=hil;omega) hz).resolve_left hne⟩
  rwa [show (zAZ (qN ns x ldirs lpath) k).name=y.name by rw[zAd (q:=qN ns x ldirs lpath) hy]] at h3
 obtain ⟨y0,hy0⟩:∃ y0,ns[0]?=some y0:=⟨_,gE (by omega)⟩
 obtain ⟨e0,he0⟩:∃ e0,R1[0]?=some e0:=⟨_,gE (by omega)⟩
 obtain ⟨b,o,_,hgA,_⟩:=HG.out.elem hy0
 obtain ⟨b2,o2,_,hA,_⟩:=HN.out.2.2.elem he0
 have HNd:Hid (∀ (k:Nat) (y:Node),ns[k]?=some y→∃ cA cc,∀ W,Below w4.heap.size w4 W→W.cell? ⟨b,o+k * 6,none⟩=some (.string y.name)∧W.cell? ⟨b,o+k * 6+4,none⟩=some (.slice cA y.ctx.length cc)):=fun k y hy=>by
  obtain ⟨b',o',cs,hA',_,hb,⟨q0,q1,rfl,_,_,_,_,hc,_⟩,hcell⟩:=(HG.out.belowSize HB4.out).elem hy
  rw[hgA] at hA'
  cases hA'
  obtain ⟨cA,cc,rfl,_,_⟩:=hc.val
  exact ⟨cA,cc,fun W hW=>⟨zAA hW (hcell 0 _ rfl) hb,zAA hW (hcell 4 _ rfl) hb⟩⟩
 have HDr:Hid (∀ (k:Nat) (d:Dir),R1[k]?=some d→∀ W,Below w4.heap.size w4 W→W.cell? ⟨b2,o2+k * 9+8,none⟩=some (.int .i64 d.node)):=fun k d hd W hW=>by
  obtain ⟨b',o',cs,hA',_,hb,⟨q0,q1,q2,q3,rfl,_⟩,hcell⟩:=HN.out.2.2.elem hd
  rw[hA] at hA'
  cases hA'
  exact zAA hW (hcell 8 _ rfl) hb
 have HBx:Hid (∀ W,Below w4.heap.size w4 W→W.cell? ⟨TB,0,none⟩=some (.slice A n c)∧W.cell? ⟨GB,0,none⟩=some (.slice gA gn gc)):=fun W hW=>⟨cO _ _ 0 _ _ _ (zHR HN.out.1 hW),(Hcell.out W (bot HB4.out hW)).1⟩
 have HFd:Hid (∀ (s:ByteArray),s.size≤maxLen→∀ W B T,Below w4.heap.size w4 W→SlV rStr W T [s] (.slice B 1 1)→Calls Tryz.prog 18 #[.agg #[.slice A n c],.slice B 1 1] W fun e w'=>e=.returned (.int .i64 (findI R1 [s]))∧Below W.heap.size W w'):=fun s _ W B T hW hs=>zCq A B n c 1 1 R1 [s] W _ T (HN.out.2.2.belowSize hW) hs
 have HNm:Hid (∀ (k:Nat) (y:Node),ns[k]?=some y→y.name.size≤maxLen):=fun k y hy=>by
  obtain ⟨_,_,_,_,_,_,⟨_,_,_,h,_⟩,_⟩:=HG.out.elem hy
  exact h
 clear hE hR h1 hm hgn hgc hn HN Hcell hy0 he0
 subst hgA hA
 go_wp2_with fail
 go_loopw [8] (fun t8 wr=>∃ k:Nat,1≤k∧k≤gn∧t8=.int .i64 k∧Hid (Below w4.heap.size w4 wr)) (fun t8 _=>gn - (intOf t8).toNat)
 case atStart=>exact ⟨1,nR _,hg1,rfl,bR _ _⟩
 case round=>
  obtain ⟨k,hk1,hk,rfl,hB⟩:=hrel
  have hk0:(0:Int)≤(k:Int):=by omega
  obtain ⟨q1,q2⟩:=HBx.out wr hB.out
  by_cases hlt:k<gn
  case neg=>
   have hkI:¬(k:Int)<(gn:Int):=by omega
   clear HOn HNd HDr HFd HNm
   go_wp2_with fail
   refine (HLv.out wr (bot HB2.out (bot HB4.out hB.out))).mono ?_
   rintro e wz ⟨rfl,hbz⟩
   have HBz:=cH (bot (bot HB2.out (bot HB4.out hB.out)) hbz)
   clear hbz
   go_wp2_with fail
   go_ret
   exact ⟨rfl,HBz.out⟩
  have hkI:(k:Int)<(gn:Int):=by omega
  obtain ⟨y,hy⟩:∃ y,ns[k]?=some y:=⟨_,gE (by have:=Hgn.out;omega)⟩
  obtain ⟨cA,cc,hc⟩:=HNd.out k y hy
  have Hc:=cH hc
  obtain ⟨n0,n4⟩:=hc wr hB.out
  have HO:=cH (HOn.out k hk1 hlt y hy)
  have Hnm:=cH (HNm.out k y hy)
  have Hy:=cH hy
  clear HOn hy hc HNm
  generalize hcl:y.ctx.length=cl at *
  generalize hyn:y.name=yn at *
  clear hcl hyn
  have hcz:cl=0∨cl≠0:=by omega
  go_upto_region 11 with (fail)
  generalize hcb:((cl:Int)==0)=cb
  have Hcb:Hid (cb=true↔cl=0):=by unfold Hid;rw[←hcb];simp
  clear hcb hcz n0 n4 q1 q2
  generalize wr=wv at *
  go_wp2_with fail
  go_loopw [9,10] (fun t9 t10 wr=>∃ (v:Bool) (j:Nat),1≤j∧j≤gn∧t9=.bool v∧t10=.int .i64 j∧Hid (v=true↔cl=0∧∀ i z,1≤i→i<j→ns[i]?=some z→i=k∨z.name≠yn)∧Hid (Below wv.heap.size wv wr)) (fun _ t10 _=>gn - (intOf t10).toNat)
  case atStart=>exact ⟨cb,1,nR _,hg1,rfl,rfl,by unfold Hid;rw[Hcb.out];exact ⟨fun h=>⟨h,fun i z h1 h2=>by omega⟩,fun h=>h.1⟩,bR _ _⟩
  case round=>
   obtain ⟨v,j,hj1,hj,rfl,rfl,hv,hB2⟩:=hrel
   have hj0:(0:Int)≤(j:Int):=by omega
   obtain ⟨q1,q2⟩:=HBx.out wr (bot hB.out hB2.out)
   by_cases hjt:j<gn
   case pos=>
    have hjI:(j:Int)<(gn:Int):=by omega
    obtain ⟨z,hz⟩:∃ z,ns[j]?=some z:=⟨_,gE (by have:=Hgn.out;omega)⟩
    obtain ⟨_,_,hcz⟩:=HNd.out j z hz
    have m0:=(hcz wr (bot hB.out hB2.out)).1
    have n0:=(Hc.out wr (bot hB.out hB2.out)).1
    have Hst:Hid ((cl=0∧∀ i z,1≤i→i<j+1→ns[i]?=some z→i=k∨z.name≠yn)↔v=true∧(j=k∨z.name≠yn)):=by
     unfold Hid
     rw[hv.out]
     constructor
     ·rintro ⟨h1,h2⟩
      exact ⟨⟨h1,fun i z' a b=>h2 i z' a (by omega)⟩,h2 j z hj1 (by omega) hz⟩
     ·rintro ⟨⟨h1,h2⟩,h3⟩
      refine ⟨h1,fun i z' a b hz'=>?_⟩
      by_cases hij:i=j
      ·subst hij
       rw[hz] at hz'
       cases hz'
       exact h3
      ·exact h2 i z' a (by omega) hz'
    clear hv hcz hz HNd HDr HFd HO Hc
    generalize z.name=zn at *
    cases v with
    | false=>
      have He:Hid (false=true↔cl=0∧∀ i z,1≤i→i<j+1→ns[i]?=some z→i=k∨z.name≠yn):=by unfold Hid;rw[Hst.out];simp
      clear Hst
      go_upto_region 14 with (fail)
      have r_q1:=cR q1
      have r_q2:=cR q2
      have r_m0:=cR m0
      have r_n0:=cR n0
      go_wp2_with fail
      refine wQ ?_
      repeat (go_big_quiet_step (first|fail))
      refine wpQuiet_nil fun w5 B5=>?_
      have HB5:=cH (bot hB2.out B5)
      clear B5
      go_wp2_with fail
      go_roundw
      case rel=>exact ⟨false,j+1,by omega,by omega,rfl,by go_num,He,HB5⟩
      case measure=>simp[intOf];omega
    | true=>
    by_cases hjk:j=k
    case pos=>
     have He:Hid (true=true↔cl=0∧∀ i z,1≤i→i<j+1→ns[i]?=some z→i=k∨z.name≠yn):=by unfold Hid;rw[Hst.out];simp[hjk]
     have hjb:((j:Int)==(k:Int))=true:=by simp;omega
     clear Hst hjk
     go_upto_region 14 with (fail)
     have r_q1:=cR q1
     have r_q2:=cR q2
     have r_m0:=cR m0
     have r_n0:=cR n0
     go_wp2_with fail
     refine wQ ?_
     repeat (go_big_quiet_step (first|fail))
     refine wpQuiet_nil fun w5 B5=>?_
     have HB5:=cH (bot hB2.out B5)
     clear B5
     go_wp2_with fail
     go_roundw
     case rel=>exact ⟨true,j+1,by omega,by omega,rfl,by go_num,by unfold Hid;rw[eq_self];exact He.out,HB5⟩
     case measure=>simp[intOf];omega
    have hjb:((j:Int)==(k:Int))=false:=by simp;omega
    by_cases hnm:zn=yn
    case pos=>
     have He:Hid (false=true↔cl=0∧∀ i z,1≤i→i<j+1→ns[i]?=some z→i=k∨z.name≠yn):=by unfold Hid;rw[Hst.out];simp[hjk,hnm]
     have hnb:=zAl hnm
     clear Hst hjk hnm
     go_upto_region 14 with (fail)
     have r_q1:=cR q1
     have r_q2:=cR q2
     have r_m0:=cR m0
     have r_n0:=cR n0
     go_wp2_with fail
     refine wQ ?_
     repeat (go_big_quiet_step (first|fail))
     refine wpQuiet_nil fun w5 B5=>?_
     have HB5:=cH (bot hB2.out B5)
     clear B5
     go_wp2_with fail
     go_roundw
     case rel=>exact ⟨false,j+1,by omega,by omega,rfl,by go_num,He,HB5⟩
     case measure=>simp[intOf];omega
    have He:Hid (true=true↔cl=0∧∀ i z,1≤i→i<j+1→ns[i]?=some z→i=k∨z.name≠yn):=by unfold Hid;rw[Hst.out];simp[hnm]
    have hnb:=zAW hnm
    clear Hst hjk hnm
    go_upto_region 14 with (fail)
    have r_q1:=cR q1
    have r_q2:=cR q2
    have r_m0:=cR m0
    have r_n0:=cR n0
    go_wp2_with fail
    refine wQ ?_
    repeat (go_big_quiet_step (first|fail))
    refine wpQuiet_nil fun w5 B5=>?_
    have HB5:=cH (bot hB2.out B5)
    clear B5
    go_wp2_with fail
    go_roundw
    case rel=>exact ⟨true,j+1,by omega,by omega,rfl,by go_num,by unfold Hid;rw[eq_self];exact He.out,HB5⟩
    case measure=>simp[intOf];omega
   have hjI:¬(j:Int)<(gn:Int):=by omega
   obtain rfl:gn=j:=by omega
   have Hv:=cH hv.out
   clear hv hjt hj
   go_upto_region 16 with (fail)
   clear q1 q2
   generalize wr=wx at *
   go_wp2_with fail
   go_loopw [11,12] (fun t11 t12 wr=>∃ (m i:Nat),i≤n∧m≤i∧t11=.int .i64 m∧t12=.int .i64 i∧Hid (m=manyN (R1.take i) k)∧Hid (Below wx.heap.size wx wr)) (fun _ t12 _=>n - (intOf t12).toNat)
   case atStart=>exact ⟨0,0,nZ _,nZ _,rfl,rfl,rfl,bR _ _⟩
   case round=>
    obtain ⟨m,i,hi,hmi,rfl,rfl,hm,hB3⟩:=hrel
    have hi0:(0:Int)≤(i:Int):=by omega
    have hm0:(0:Int)≤(m:Int):=by omega
    have HBw:=cH (bot hB.out (bot hB2.out hB3.out))
    obtain ⟨q1,q2⟩:=HBx.out wr HBw.out
    by_cases hit:i<n
    case pos=>
     have hiI:(i:Int)<(n:Int):=by omega
     obtain ⟨d,hd⟩:∃ d,R1[i]?=some d:=⟨_,gE (by have:=Hn.out;omega)⟩
     have n8:=HDr.out i d hd wr HBw.out
     have Hst:Hid (manyN (R1.take (i+1)) k=m+if d.node=(k:Int) then 1 else 0):=by
      unfold Hid
      rw[List.take_add_one,hd,hm.out]
      unfold manyN
      rw[List.countP_append]
      by_cases h:d.node=(k:Int)<;>simp[h]
     clear hd HNd HDr HFd HO Hc Hv hm
     generalize d.node=dn at *
     by_cases hdk:dn=(k:Int)
     case pos=>
      have hb:(dn==(k:Int))=true:=by simp[hdk]
      have He:Hid (m+1=manyN (R1.take (i+1)) k):=by unfold Hid;rw[Hst.out,if_pos hdk]
      clear Hst hdk
      go_wp2_with fail
      go_roundw
      case rel=>exact ⟨m+1,i+1,by omega,by omega,by go_num,by go_num,He,hB3⟩
      case measure=>simp[intOf];omega
     have hb:(dn==(k:Int))=false:=by simp[hdk]
     have He:Hid (m=manyN (R1.take (i+1)) k):=by unfold Hid;rw[Hst.out,if_neg hdk];rfl
     clear Hst hdk
     go_wp2_with fail
     go_roundw
     case rel=>exact ⟨m,i+1,by omega,by omega,rfl,by go_num,He,hB3⟩
     case measure=>simp[intOf];omega
    have hiI:¬(i:Int)<(n:Int):=by omega
    have HM:Hid (m=manyN R1 k):=by unfold Hid;rw[hm.out,List.take_of_length_le (by have:=Hn.out;omega)]
    obtain ⟨o1,o2'⟩:=HO.out
    have hmI:¬(m:Int)<1:=by have:=HM.out;omega
    have hmd:decide ((m:Int)<1)=false:=decide_eq_false hmI
    have n0:=(Hc.out wr HBw.out).1
    have Ho2:=cH o2'
    clear o1 o2' HO hm HDr HNd
    cases v with
    | false=>
      clear Hv Ho2 HFd Hc HM
      go_upto_region 21 with (fail)
      have r_q1:=cR q1
      have r_q2:=cR q2
      have r_n0:=cR n0
      go_wp2_with fail
      refine wQ ?_
      repeat (go_big_quiet_step (first|fail))
      refine wpQuiet_nil fun w5 B5=>?_
      have HB5:=cH (bot HBw.out B5)
      clear B5
      go_wp2_with fail
      go_roundw
      case rel=>exact ⟨k+1,by omega,by omega,by go_num,HB5⟩
      case measure=>simp[intOf];omega
    | true=>
    obtain ⟨hm1,hfi⟩:=Ho2.out (Hv.out.1 (by first|rfl|trivial)).1 (Hv.out.1 (by first|rfl|trivial)).2
    have hm1:m=1:=by have:=HM.out;omega
    subst hm1
    have Hcl:Hid (∀ W,Below wr.heap.size wr W→W.cell? ⟨TB,0,none⟩=some (.slice (some ⟨b2,o2,none⟩) n c)∧W.cell? ⟨GB,0,none⟩=some (.slice (some ⟨b,o,none⟩) gn gc)∧W.cell? ⟨b,o+k * 6,none⟩=some (.string yn)):=fun W hW=>⟨(HBx.out W (bot HBw.out hW)).1,(HBx.out W (bot HBw.out hW)).2,(Hc.out W (bot HBw.out hW)).1⟩
    obtain ⟨fz,hfz⟩:∃ fz,fz=findI R1 [yn]:=⟨_,rfl⟩
    rw[←hfz] at hfi
    have hfI:¬fz<0:=by omega
    have HF:Hid (∀ X,Below wr.heap.size wr X→Calls Tryz.prog 18 #[.agg #[.slice (some ⟨b2,o2,none⟩) n c],.slice (some ⟨X.heap.size,0,none⟩) 1 1] (X.alloc (.cells #[.string yn] 9)) fun e w'=>e=.returned (.int .i64 fz)∧Below (X.alloc (.cells #[.string yn] 9)).heap.size (X.alloc (.cells #[.string yn] 9)) w'):=fun X hX=>by
     rw[hfz]
     exact HFd.out yn Hnm.out _ _ _ (bal (bot HBw.out hX) _) (zIs Hnm.out _)
    have HF2:Hid (∀ X,Below wr.heap.size wr X→Calls Tryz.prog 18 #[.agg #[.slice (some ⟨b2,o2,none⟩) n c],.slice (some ⟨X.heap.size,0,none⟩) 1 1] (X.alloc (.cells #[.string yn] 9)).drew fun e w'=>e=.returned (.int .i64 fz)∧Below (X.alloc (.cells #[.string yn] 9)).drew.heap.size (X.alloc (.cells #[.string yn] 9)).drew w'):=fun X hX=>by
     rw[hfz]
     exact HFd.out yn Hnm.out _ _ _ (bal (bot HBw.out hX) _).drew (zIs Hnm.out _).drew
    have hcell0:=Hcl.out wr (bR _ _)
    clear Hv Ho2 HFd HM hfi hfz hmI hmd
    go_upto_region 21 with (fail)
    go_region_held3 (fun W=>(W.cell? ⟨TB,0,none⟩=some (.slice (some ⟨b2,o2,none⟩) n c)∧W.cell? ⟨GB,0,none⟩=some (.slice (some ⟨b,o,none⟩) gn gc)∧W.cell? ⟨b,o+k * 6,none⟩=some (.string yn))∧Below wr.heap.size wr W)
     (first
       | (with_reducible exact ⟨hcell0,(bR _ _).drew⟩)
       | (with_reducible exact ⟨Hcl.out _ (bR _ _).drew,(bR _ _).drew⟩)
       | (with_reducible exact ⟨Hcl.out _ hB7,hB7⟩)
       | (with_reducible exact ⟨Hcl.out _ (bal (bR _ _).drew _),bal (bR _ _).drew _⟩)
       | (with_reducible exact ⟨Hcl.out _ (bal (bR _ _) _).drew,(bal (bR _ _) _).drew⟩)
       | fail)
     (first
       | (go_at_call 18;go_split_ands;(first|(with_reducible refine (HF.out _ (bR _ _).drew).mono ?_)|(with_reducible refine (HF2.out _ (bR _ _)).mono ?_));rintro e w7 ⟨rfl,hb7⟩;have hB7:Below wr.heap.size wr w7:=bot (by assumption) hb7))
    all_goals
     have HB7:=cH (bot HBw.out hB7)
     clear hb7 hB7
     go_wp2_with fail
     go_roundw
     case rel=>exact ⟨k+1,by omega,by omega,by go_num,HB7⟩
     case measure=>simp[intOf];omega
