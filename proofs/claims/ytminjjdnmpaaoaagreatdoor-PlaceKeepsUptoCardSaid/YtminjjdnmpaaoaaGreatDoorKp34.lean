/-
  The law that what is handed in stays, and what is answered is the caller's: walked.
-/
import Derived.Test.YtminjjdnmpaaoaaGreatDoorKp33
import Derived.Test.YtminjjdnmpaaoaaGreatDoorAl
set_option linter.all false
set_option maxHeartbeats 12800000
set_option maxRecDepth 100000
namespace Go.Proofs.YtminjjdnmpaaoaaGreatDoor
open Go.Rows Go.RowKit Go.Shelf Go.Sort
theorem zFo (x:Wd) (v:Value) (w:World) (S:Nat→Prop) (ht:Tab w) (hv:WdV w S x v) (hxz:WdZ x∧WdS x) :
  Calls Tryz.prog 9 #[v] w fun e w'=>e=.returned (.bool true)∧Below w.heap.size w w':=by
 have HSol:=cH (zL8 hv hxz.2)
 have HSolT:Hid (∀ ns,solS (qSol x)=some ns→∀ W,Below w.heap.size w W→_):=fun ns h=>zLV hv hxz.2 h
 obtain ⟨kA,kn,kc,mA,mn,mc,nA,nn,nc,lA,ln,lc,vA,vn,vc,oA,on,oc,rfl,_,_,_,_,_,h5,hi0,hi1,hi2,hi3⟩:=hv
 have HOld:Hid (∀ W,Below w.heap.size w W→Calls Tryz.prog 12 #[.agg #[.slice kA kn kc,.slice mA mn mc,.slice nA nn nc,.slice lA ln lc,.slice vA vn vc,.bool x.dev,.int .i64 x.lim.dec,.int .i64 x.lim.nod,.int .i64 x.lim.dirs,.int .i64 x.lim.path,.slice oA on oc,.bool x.like]] W fun e w'=>∃ p,e=.returned (.pointer p)∧OldV w' (fun b=>b<w'.heap.size) (.pointer p) (if x.like=true then some x.old else none)∧Below W.heap.size W w'):=fun W hW=>
  (zLx kA mA nA lA vA kn kc mn mc nn nc ln lc vn vc x.dev x.lim.dec x.lim.nod x.lim.dirs x.lim.path oA on oc x.like x.old W S (h5.belowSize hW) hxz.1).mono fun e w' ⟨ov,h1,h2,h3⟩=>by
    obtain ⟨p,rfl⟩:=h2.ptr
    exact ⟨p,h1,h2,h3⟩
 have HLv:Hid (∀ W,Below w.heap.size w W→Calls Tryz.prog 15 #[] W fun e w'=>e=.returned (.bool true)∧Below W.heap.size W w'):=fun W hW=>zKt W (zAU ht hW)
 have HT:=cH ht
 have Hi:Hid (I64 x.lim.dirs∧I64 x.lim.path):=⟨hi2,hi3⟩
 have Hxz:=cH hxz
 have HO5:=cH (h5.more (S':=fun _=>True) fun _ _ _=>trivial)
 clear ht h5 hi0 hi1 hi2 hi3 hxz
 obtain ⟨ldec,hdec⟩:∃ k,k=x.lim.dec:=⟨_,rfl⟩
 obtain ⟨lnod,hnod⟩:∃ k,k=x.lim.nod:=⟨_,rfl⟩
 obtain ⟨ldirs,hdirs⟩:∃ k,k=x.lim.dirs:=⟨_,rfl⟩
 obtain ⟨lpath,hpath⟩:∃ k,k=x.lim.path:=⟨_,rfl⟩
 obtain ⟨xdev,hdev⟩:∃ k,k=x.dev:=⟨_,rfl⟩
 obtain ⟨xlike,hlike⟩:∃ k,k=x.like:=⟨_,rfl⟩
 rw[←hdec,←hnod,←hdirs,←hpath,←hdev,←hlike] at HSol HOld HSolT ⊢
 have Hlim:Hid (x.lim.dec=ldec∧x.lim.nod=lnod∧x.lim.dirs=ldirs∧x.lim.path=lpath∧x.like=xlike):=⟨hdec.symm,hnod.symm,hdirs.symm,hpath.symm,hlike.symm⟩
 clear hdec hnod hdirs hpath hdev hlike
 obtain ⟨w0,hw0⟩:∃ w0,w0=w.alloc (.cells #[.slice kA kn kc,.slice mA mn mc,.slice nA nn nc,.slice lA ln lc,.slice vA vn vc,.bool xdev,.int .i64 ldec,.int .i64 lnod,.int .i64 ldirs,.int .i64 lpath,.slice oA on oc,.bool xlike] 35):=⟨_,rfl⟩
 have HB0:Hid (Below w.heap.size w w0):=by unfold Hid;rw[hw0];exact bal (bR _ _) _
 have hqW:w0.heap[w.heap.size]?=some (.cells #[.slice kA kn kc,.slice mA mn mc,.slice nA nn nc,.slice lA ln lc,.slice vA vn vc,.bool xdev,.int .i64 ldec,.int .i64 lnod,.int .i64 ldirs,.int .i64 lpath,.slice oA on oc,.bool xlike] 35 (0,0)):=by rw[hw0];exact zAC _ _
 obtain ⟨QB,hQB⟩:∃ k,k=w.heap.size:=⟨_,rfl⟩
 rw[←hQB] at hqW
 go_enter Tryz.func9,Tryz.ntmps9
 go_upto_region 1 with (fail)
 rw[←hw0,←hQB]
 clear hw0 hQB
 have HqW:=cH hqW
 have d0:=cO _ _ 0 _ _ _ hqW
 have d1:=cO _ _ 1 _ _ _ hqW
 have d2:=cO _ _ 2 _ _ _ hqW
 have d3:=cO _ _ 3 _ _ _ hqW
 have d4:=cO _ _ 4 _ _ _ hqW
 have d5:=cO _ _ 5 _ _ _ hqW
 have d6:=cO _ _ 6 _ _ _ hqW
 have d7:=cO _ _ 7 _ _ _ hqW
 have d8:=cO _ _ 8 _ _ _ hqW
 have d9:=cO _ _ 9 _ _ _ hqW
 have d10:=cO _ _ 10 _ _ _ hqW
 have d11:=cO _ _ 11 _ _ _ hqW
 clear hqW
 go_wp2_with fail
 refine (HSol.out w0 HB0.out).mono ?_
 rintro e w1 ⟨⟨gA,pA,gn,gc,pn,pc,b,rfl,hc⟩,hb1⟩
 have HB1:=cH (bot HB0.out hb1)
 have Hc:=cH hc
 have Hq1:=cH (zFt HqW.out hb1)
 clear hb1 hc d0 d1 d2 d3 d4 d5 d6 d7 d8 d9 d10 d11 HB0 HqW HSol
 go_upto_region 2 with (fail)
 obtain ⟨w2,hw2⟩:∃ w2,w2=w1.alloc (.cells #[.slice gA gn gc] 24):=⟨_,rfl⟩
 have HB2:Hid (Below w.heap.size w w2):=by unfold Hid;rw[hw2];exact bal HB1.out _
 have hqG:w2.heap[w1.heap.size]?=some (.cells #[.slice gA gn gc] 24 (0,0)):=by rw[hw2];exact zAC _ _
 have hqW:w2.heap[QB]?=some (.cells #[.slice kA kn kc,.slice mA mn mc,.slice nA nn nc,.slice lA ln lc,.slice vA vn vc,.bool xdev,.int .i64 ldec,.int .i64 lnod,.int .i64 ldirs,.int .i64 lpath,.slice oA on oc,.bool xlike] 35 (0,0)):=by rw[hw2];exact zFt Hq1.out (bal (bR _ _) _)
 obtain ⟨GB,hGB⟩:∃ k,k=w1.heap.size:=⟨_,rfl⟩
 rw[←hGB] at hqG
 have HqG:=cH hqG
 have HqW:=cH hqW
 have Hns:Hid (b=true→∃ ns,solS (qSol x)=some ns∧SolF x ns∧SlV rNode w2 (fun _=>True) ns (.slice gA gn gc)∧SlV rPack w2 (fun _=>True) (psW x ns) (.slice pA pn pc)):=fun hb=>by
  obtain ⟨ns,g1,g2,g3,g4⟩:=Hc.out hb
  exact ⟨ns,g1,g2,by rw[hw2];exact g3.alloc _,by rw[hw2];exact g4.alloc _⟩
 rw[←hw2,←hGB]
 clear hw2 hqG hqW hGB Hc Hq1 HB1
 cases b with
 | false=>
   clear Hns
   go_wp2_with fail
   refine (HLv.out w2 HB2.out).mono ?_
   rintro e w3 ⟨rfl,hb3⟩
   have HB3:=cH (bot HB2.out hb3)
   clear hb3
   go_wp2_with fail
   go_ret
   exact ⟨rfl,HB3.out⟩
 | true=>
 obtain ⟨ns,hs,hf,hg,hp⟩:=Hns.out rfl
 have HG:=cH hg
 have HP:=cH hp
 have Hf:=cH hf
 have Hs:=cH hs
 clear hs hf hg hp Hns
 have Hcell:Hid (∀ W,Below w2.heap.size w2 W→W.cell? ⟨GB,0,none⟩=some (.slice gA gn gc)∧W.cell? ⟨QB,0,none⟩=some (.slice kA kn kc)∧W.cell? ⟨QB,1,none⟩=some (.slice mA mn mc)∧W.cell? ⟨QB,2,none⟩=some (.slice nA nn nc)∧W.cell? ⟨QB,3,none⟩=some (.slice lA ln lc)∧W.cell? ⟨QB,4,none⟩=some (.slice vA vn vc)∧W.cell? ⟨QB,5,none⟩=some (.bool xdev)∧W.cell? ⟨QB,6,none⟩=some (.int .i64 ldec)∧W.cell? ⟨QB,7,none⟩=some (.int .i64 lnod)∧W.cell? ⟨QB,8,none⟩=some (.int .i64 ldirs)∧W.cell? ⟨QB,9,none⟩=some (.int .i64 lpath)∧W.cell? ⟨QB,10,none⟩=some (.slice oA on oc)∧W.cell? ⟨QB,11,none⟩=some (.bool xlike)):=fun W hW=>by
  have h1:=zFt HqG.out hW
  have h2:=zFt HqW.out hW
  exact ⟨cO _ _ 0 _ _ _ h1,cO _ _ 0 _ _ _ h2,cO _ _ 1 _ _ _ h2,cO _ _ 2 _ _ _ h2,cO _ _ 3 _ _ _ h2,cO _ _ 4 _ _ _ h2,cO _ _ 5 _ _ _ h2,cO _ _ 6 _ _ _ h2,cO _ _ 7 _ _ _ h2,cO _ _ 8 _ _ _ h2,cO _ _ 9 _ _ _ h2,cO _ _ 10 _ _ _ h2,cO _ _ 11 _ _ _ h2⟩
 have HRun:Hid (∀ W,Below w2.heap.size w2 W→∀ p:Option Addr,OldV W (fun b=>b<W.heap.size) (.pointer p) (if xlike=true then some x.old else none)→Calls Tryz.prog 11 #[.agg #[.slice gA gn gc],.slice pA pn pc,.agg #[.int .i64 ldec,.int .i64 lnod,.int .i64 ldirs,.int .i64 lpath],.pointer p] W fun e w'=>
   (∃ A n c,e=.returned (.tuple #[.agg #[.slice A n c],.int .i64 (zAv (qW ns (psW x ns) x)).2])∧SlV rDir w' (fun b=>W.heap.size≤b∧FreeB w' b) (zAv (qW ns (psW x ns) x)).1 (.slice A n c))∧Below W.heap.size W w'):=fun W hW p ho=>by
  have h:=zLp (qW ns (psW x ns) x) ldec lnod (zAU HT.out HB2.out) HG.out HP.out Hf.out.len Hf.out.packs Hi.out W hW p (by rw[show (qW ns (psW x ns) x).old=if x.like=true then some x.old else none from rfl,Hlim.out.2.2.2.2];exact ho)
  rw[show (qW ns (psW x ns) x).dirs=ldirs from Hlim.out.2.2.1,show (qW ns (psW x ns) x).path=lpath from Hlim.out.2.2.2.1] at h
  exact h
 have HRunP:Hid (∀ W0,Below w2.heap.size w2 W0→∀ W,Below W0.heap.size W0 W→∀ p:Option Addr,OldV W (fun b=>b<W.heap.size) (.pointer p) (if xlike=true then some x.old else none)→Calls Tryz.prog 11 #[.agg #[.slice gA gn gc],.slice pA pn pc,.agg #[.int .i64 ldec,.int .i64 lnod,.int .i64 ldirs,.int .i64 lpath],.pointer p] W fun e w'=>
   (∃ A n c,e=.returned (.tuple #[.agg #[.slice A n c],.int .i64 (zAv (qW ns (psW x ns) x)).2])∧SlV rDir w' (fun b=>W.heap.size≤b) (zAv (qW ns (psW x ns) x)).1 (.slice A n c))∧Below W.heap.size W w'):=fun W0 hW0 W hW p ho=>by
  have h:=zMV (x:=x) (zAU HT.out HB2.out) HG.out HP.out Hf.out.len Hf.out.packs Hi.out W (bot hW0 hW) p (by rw[show (qW ns (psW x ns) x).old=if x.like=true then some x.old else none from rfl,Hlim.out.2.2.2.2];exact ho)
  rw[Hlim.out.1,Hlim.out.2.1,Hlim.out.2.2.1,Hlim.out.2.2.2.1] at h
  exact h
 have HRef:Hid (∀ W,Below w2.heap.size w2 W→∀ hA hn hc qA qn qc,SlV rNode W (fun _=>True) ns (.slice hA hn hc)→SlV rPack W (fun _=>True) (psW x ns) (.slice qA qn qc)→Calls Tryz.prog 13 #[.agg #[.slice hA hn hc],.slice qA qn qc,.agg #[.int .i64 ldec,.int .i64 lnod,.int .i64 ldirs,.int .i64 lpath],.agg #[.slice oA on oc],.bool xlike] W fun e w'=>
   (∃ A n c,e=.returned (.tuple #[.agg #[.slice A n c],.int .i64 (zAv (qW ns (psW x ns) x)).2])∧SlV rDir w' (fun _=>True) (zAv (qW ns (psW x ns) x)).1 (.slice A n c))∧Below W.heap.size W w'):=fun W hW hA hn hc qA qn qc h1 h2=>by
  have h:=zIZ (x:=x) (zAU HT.out (bot HB2.out hW)) h1 h2 Hf.out.len Hf.out.packs Hi.out (HO5.out.belowSize (bot HB2.out hW)) Hxz.out.1 W (bR _ _)
  rw[Hlim.out.1,Hlim.out.2.1,Hlim.out.2.2.1,Hlim.out.2.2.2.1,Hlim.out.2.2.2.2] at h
  exact h
 have HSv:=cH (HSolT.out ns Hs.out)
 clear HSolT
 generalize hRR:zAv (qW ns (psW x ns) x)=RR at *
 obtain ⟨R1,R2⟩:=RR
 have HRR:=cH hRR
 clear hRR
 have hcell0:=Hcell.out w2 (bR _ _)
 go_upto_region 4 with (fail)
 go_cut [6,7] from 28 to 37 (fun v7 v8 wx=>∃ (TB:Nat) (A:Option Addr) (n c:Nat),v7=.pointer (some ⟨TB,0,none⟩)∧v8=.int .i64 R2∧Hid (Below w2.heap.size w2 wx∧wx.heap[TB]?=some (.cells #[.slice A n c] 33 (0,0))∧w2.heap.size≤TB∧SlV rDir wx (fun b=>w2.heap.size≤b∧FreeB wx b) R1 (.slice A n c)))
 case first=>
  go_region_held3 (fun W=>(W.cell? ⟨GB,0,none⟩=some (.slice gA gn gc)∧W.cell? ⟨QB,0,none⟩=some (.slice kA kn kc)∧W.cell? ⟨QB,1,none⟩=some (.slice mA mn mc)∧W.cell? ⟨QB,2,none⟩=some (.slice nA nn nc)∧W.cell? ⟨QB,3,none⟩=some (.slice lA ln lc)∧W.cell? ⟨QB,4,none⟩=some (.slice vA vn vc)∧W.cell? ⟨QB,5,none⟩=some (.bool xdev)∧W.cell? ⟨QB,6,none⟩=some (.int .i64 ldec)∧W.cell? ⟨QB,7,none⟩=some (.int .i64 lnod)∧W.cell? ⟨QB,8,none⟩=some (.int .i64 ldirs)∧W.cell? ⟨QB,9,none⟩=some (.int .i64 lpath)∧W.cell? ⟨QB,10,none⟩=some (.slice oA on oc)∧W.cell? ⟨QB,11,none⟩=some (.bool xlike))∧Below w2.heap.size w2 W)
   (first
     | (with_reducible exact ⟨hcell0,(bR _ _).drew⟩)
     | (with_reducible exact ⟨Hcell.out _ (bR _ _).drew,(bR _ _).drew⟩)
     | (with_reducible exact ⟨Hcell.out _ hB3,hB3⟩)
     | (with_reducible exact ⟨Hcell.out _ hB2,hB2⟩)
     | (with_reducible exact ⟨Hcell.out _ (bal hB3 _),bal hB3 _⟩)
     | (with_reducible exact ⟨Hcell.out _ (bal hB2 _),bal hB2 _⟩)
     | (with_reducible exact ⟨Hcell.out _ (bal (bR _ _).drew _),bal (bR _ _).drew _⟩)
     | (with_reducible exact ⟨Hcell.out _ ((bal hB3 _).setCell hz3 _),(bal hB3 _).setCell hz3 _⟩)
     | (with_reducible exact ⟨Hcell.out _ (hB3.setCell hz2 _),hB3.setCell hz2 _⟩)
     | (with_reducible exact ⟨Hcell.out _ (hB3.setCell (nR _) _),hB3.setCell (nR _) _⟩)
     | fail)
   (first
     | (go_at_call 12;go_split_ands;with_reducible refine (HOld.out _ (bot HB2.out (by assumption))).mono ?_;rintro e w4 ⟨op,rfl,hov,hb2⟩;have hB2:Below w2.heap.size w2 w4:=bot (by assumption) hb2;have hz2:=hB2.size;(try (have hT:=zF5 hb2;obtain ⟨hR2,hT2,fT2⟩:=hT)))
     | (go_at_call 11;go_split_ands;with_reducible refine (HRun.out _ (by assumption) _ (by first|assumption|exact (hov.keep (bal (bR _ _) _)).wide)).mono ?_;rintro e w5 ⟨⟨A,n,c,rfl,hrv⟩,hb3⟩;have hB3:Below w2.heap.size w2 w5:=bot (by assumption) hb3;have hz3:=hB3.size;(first|(have hT:=zJF hb3;obtain ⟨hR3,hT3,fT3⟩:=hT)|(have hT:=zHH hb3 hR2 hT2 fT2;obtain ⟨hR3,hT3,fT3⟩:=hT)|skip)))
  all_goals
   go_wp2_with fail
   go_meet
   first
    | exact ⟨_,_,_,_,rfl,rfl,zME hB3 hrv hz2⟩
    | exact ⟨_,_,_,_,rfl,rfl,zI8 hB3 hz2 hR3 hrv (by simp;omega) (by simp)⟩
    | exact ⟨_,_,_,_,rfl,rfl,zI8 hB3 (nR _) hR3 hrv hz2 (zAd hT2)⟩
 case rest=>
 obtain ⟨TB,A,n,c,rfl,rfl,HN⟩:=hcut
 generalize wc=w3 at *
 have HB3:=cH HN.out.1
 clear hcell0
 clear HRun
 rcases place_two (qW ns (psW x ns) x) with ⟨c0,hR,hc0⟩|⟨st,hE,hR⟩
 ·obtain ⟨h1,h2⟩:=Prod.mk.inj (HRR.out.symm.trans hR)
  have hz:(R2==0)=false:=by rw[h2];exact hc0
  clear hR hc0 h1 h2
  go_wp2_with fail
  refine (HLv.out w3 (bot HB2.out HB3.out)).mono ?_
  rintro e wz ⟨rfl,hbz⟩
  have HBz:=cH (bot (bot HB2.out HB3.out) hbz)
  clear hbz
  go_wp2_with fail
  go_ret
  exact ⟨rfl,HBz.out⟩
 obtain ⟨h1,h2⟩:=Prod.mk.inj (HRR.out.symm.trans hR)
 subst h2
 obtain ⟨NB,hNB⟩:∃ k,k=w2.heap.size:=⟨_,rfl⟩
 have HNB:=cH hNB
 have hn:=HN.out.2.2.2.n_eq
 have hcap:=HN.out.2.2.2.cap_le
 unfold maxLen at hcap
 have hnz:n≤9223372036854775807:=by omega
 have hlen:=zNM hE
 rw[←h1,←hn] at hlen
 have Hn:Hid (R1.length=n):=hn.symm
 obtain ⟨e0,he0⟩:∃ e0,R1[0]?=some e0:=⟨_,gE (by omega)⟩
 obtain ⟨b2,o2,_,hA,_⟩:=HN.out.2.2.2.elem he0
 have HDi:Hid (∀ (i:Nat) (d:Dir),R1[i]?=some d→d.path.length≤9223372036854775807∧d.pack.deps.length≤9223372036854775807∧∃ qA qc dA dc,w3.cell? ⟨b2,o2+i * 9,none⟩=some (.slice qA d.path.length qc)∧w3.cell? ⟨b2,o2+i * 9+5,none⟩=some (.slice dA d.pack.deps.length dc) ∧
   (∀ (k:Nat) (s:ByteArray),d.path[k]?=some s→∃ qb qo,qA=some ⟨qb,qo,none⟩∧NB≤qb∧FreeB w3 qb∧w3.cell? ⟨qb,qo+k,none⟩=some (.string s)) ∧
   ∀ (k:Nat) (dp:Dep),d.pack.deps[k]?=some dp→dp.range.length≤9223372036854775807∧∃ db dof rA rc,dA=some ⟨db,dof,none⟩∧NB≤db∧FreeB w3 db∧w3.cell? ⟨db,dof+k * 2,none⟩=some (.string dp.name)∧w3.cell? ⟨db,dof+k * 2+1,none⟩=some (.slice rA dp.range.length rc) ∧
     ∀ (j:Nat) (sp:Spn),dp.range[j]?=some sp→∃ rb ro,rA=some ⟨rb,ro,none⟩∧NB≤rb∧FreeB w3 rb∧∃ z0 z1 z2 z3 z4 z5:Int,w3.cell? ⟨rb,ro+j * 6,none⟩=some (.int .i64 z0)∧w3.cell? ⟨rb,ro+j * 6+1,none⟩=some (.int .i64 z1)∧w3.cell? ⟨rb,ro+j * 6+2,none⟩=some (.int .i64 z2)∧w3.cell? ⟨rb,ro+j * 6+3,none⟩=some (.int .i64 z3)∧w3.cell? ⟨rb,ro+j * 6+4,none⟩=some (.int .i64 z4)∧w3.cell? ⟨rb,ro+j * 6+5,none⟩=some (.int .i64 z5)):=fun i d hd=>by
  rw[hNB]
  obtain ⟨b',o',cs,hA',_,hb,⟨s0,s1,s2,s3,rfl,hp,_,_,_,_,hdp,_⟩,hcell⟩:=HN.out.2.2.2.elem hd
  rw[hA] at hA'
  cases hA'
  obtain ⟨qA,qc,rfl,hq1,hq2⟩:=hp.val
  obtain ⟨dA,dc,rfl,hd1,hd2⟩:=hdp.val
  unfold maxLen at hq2 hd2
  refine ⟨by omega,by omega,qA,qc,dA,dc,hcell 0 _ rfl,hcell 5 _ rfl,fun k s hs=>?_,fun k dp hk=>?_⟩
  ·obtain ⟨qb,qo,cs,hq,hSb,_,⟨rfl,_⟩,hc⟩:=hp.elem hs
   have h:=hc 0 _ rfl
   rw[show qo+k * rStr.size+0=qo+k from by show qo+k * 1+0=_;omega] at h
   exact ⟨qb,qo,hq,hSb.1,hSb.2,h⟩
  ·obtain ⟨db,dof,cs,hq,hSb,_,⟨sr,rfl,_,hr⟩,hc⟩:=hdp.elem hk
   obtain ⟨rA,rc,rfl,hr1,hr2⟩:=hr.val
   unfold maxLen at hr2
   refine ⟨by omega,db,dof,rA,rc,hq,hSb.1,hSb.2,hc 0 _ rfl,hc 1 _ rfl,fun j sp hj=>?_⟩
   obtain ⟨rb,ro,cs,hq,hSb,_,hsp,hc⟩:=hr.elem hj
   obtain ⟨rfl,_⟩:=hsp
   exact ⟨rb,ro,hq,hSb.1,hSb.2,_,_,_,_,_,_,hc 0 _ rfl,hc 1 _ rfl,hc 2 _ rfl,hc 3 _ rfl,hc 4 _ rfl,hc 5 _ rfl⟩
 have HBx:Hid (∀ W,zBT NB w3 W→W.cell? ⟨TB,0,none⟩=some (.slice A n c)):=fun W hW=>hW.slices _ _ _ _ _ (cO _ _ 0 _ _ _ HN.out.2.1)
 have H3B:Hid (∀ W,zBT NB w3 W→Below w2.heap.size w2 W):=fun W hW=>HB3.out.trans (by rw[←hNB];exact hW.below)
 clear hE hR h1 hn hcap he0 hNB HN
 subst hA
 go_wp2_with fail
 go_loopw [8] (fun t8 wr=>∃ i:Nat,i≤n∧t8=.int .i64 i∧Hid (zBT NB w3 wr)) (fun t8 _=>n - (intOf t8).toNat)
 case atStart=>exact ⟨0,nZ _,rfl,zBT.refl _ _⟩
 case round=>
  obtain ⟨i,hi,rfl,hK⟩:=hrel
  have hi0:(0:Int)≤(i:Int):=by omega
  have q1:=HBx.out wr hK.out
  by_cases hlt:i<n
  case pos=>
   have hiI:(i:Int)<(n:Int):=by omega
   obtain ⟨d,hd⟩:∃ d,R1[i]?=some d:=⟨_,gE (by have:=Hn.out;omega)⟩
   obtain ⟨hpz,hdz,qA,qc,dA,dc,hc0,hc5,hpe,hde⟩:=HDi.out i d hd
   have Hc0:Hid (∀ W,zBT NB w3 W→W.cell? ⟨b2,o2+i * 9,none⟩=some (.slice qA d.path.length qc)∧W.cell? ⟨b2,o2+i * 9+5,none⟩=some (.slice dA d.pack.deps.length dc)):=fun W hW=>⟨hW.slices _ _ _ _ _ hc0,hW.slices _ _ _ _ _ hc5⟩
   have Hpe:=cH hpe
   have Hde:=cH hde
   clear hd hc0 hc5 hpe hde HDi HRef HRunP HOld HSv HLv HRR Hcell H3B
   obtain ⟨pl,hpl⟩:∃ k,k=d.path.length:=⟨_,rfl⟩
   obtain ⟨dl,hdl⟩:∃ k,k=d.pack.deps.length:=⟨_,rfl⟩
   rw[←hpl,←hdl] at Hc0
   rw[←hpl] at hpz
   rw[←hdl] at hdz
   have Hpl:=cH hpl
   have Hdl:=cH hdl
   clear hpl hdl
   go_upto_region 10 with (fail)
   clear q1
   generalize wr=wv at *
   go_wp2_with fail
   go_loopw [9] (fun t9 wr=>∃ k:Nat,k≤pl∧t9=.int .i64 k∧Hid (zBT NB w3 wr)) (fun t9 _=>pl - (intOf t9).toNat)
   case atStart=>exact ⟨0,nZ _,rfl,hK⟩
   case round=>
    clear hK
    obtain ⟨k,hk,rfl,hK⟩:=hrel
    have hk0:(0:Int)≤(k:Int):=by omega
    have q1:=HBx.out wr hK.out
    obtain ⟨c0,c5⟩:=Hc0.out wr hK.out
    by_cases hkt:k<pl
    case pos=>
     have hkI:(k:Int)<(pl:Int):=by omega
     obtain ⟨s,hs⟩:∃ s,d.path[k]?=some s:=⟨_,gE (by have:=Hpl.out;omega)⟩
     obtain ⟨qb,qo,hqA,hqN,hqF,hqc⟩:=Hpe.out k s hs
     obtain ⟨s',m0⟩:=hK.out.strs _ _ _ hqc
     have f0:=(hK.out.free _ hqF).frozen (qo+k)
     have HK2:Hid (∀ v,zBT NB w3 (wr.setCell ⟨qb,qo+k,none⟩ (.string v))):=fun v=>hK.out.setS hqN hqc v
     clear hs hqc hqN hqF Hpe Hde
     subst hqA
     go_wp2_with fail
     go_roundw
     case rel=>exact ⟨k+1,by omega,by go_num,HK2.out _⟩
     case measure=>simp[intOf];omega
    have hkI:¬(k:Int)<(pl:Int):=by omega
    go_upto_region 14 with (fail)
    clear q1 c0 c5 Hpe
    generalize wr=wx at *
    go_wp2_with fail
    go_loopw [10] (fun t10 wr=>∃ k:Nat,k≤dl∧t10=.int .i64 k∧Hid (zBT NB w3 wr)) (fun t10 _=>dl - (intOf t10).toNat)
    case atStart=>exact ⟨0,nZ _,rfl,hK⟩
    case round=>
     clear hK
     obtain ⟨p,hp,rfl,hK⟩:=hrel
     have hp0:(0:Int)≤(p:Int):=by omega
     have q1:=HBx.out wr hK.out
     obtain ⟨c0,c5⟩:=Hc0.out wr hK.out
     by_cases hpt:p<dl
     case neg=>
      have hpI:¬(p:Int)<(dl:Int):=by omega
      clear Hde
      go_wp2_with fail
      go_roundw
      case rel=>exact ⟨i+1,by omega,by go_num,hK⟩
      case measure=>simp[intOf];omega
     have hpI:(p:Int)<(dl:Int):=by omega
     obtain ⟨dp,hdp⟩:∃ dp,d.pack.deps[p]?=some dp:=⟨_,gE (by have:=Hdl.out;omega)⟩
     obtain ⟨hrz,db,dof,rA,rc,hdA,hdN,hdF,hdc0,hdc1,hre⟩:=Hde.out p dp hdp
     have Hd0:Hid (∀ W,zBT NB w3 W→(∃ s',W.cell? ⟨db,dof+p * 2,none⟩=some (.string s'))∧W.frozen? ⟨db,dof+p * 2,none⟩=false∧W.cell? ⟨db,dof+p * 2+1,none⟩=some (.slice rA dp.range.length rc)∧∀ v,zBT NB w3 (W.setCell ⟨db,dof+p * 2,none⟩ (.string v))):=fun W hW=>⟨hW.strs _ _ _ hdc0,(hW.free _ hdF).frozen _,hW.slices _ _ _ _ _ hdc1,fun v=>hW.setS hdN hdc0 v⟩
     have Hre:=cH hre
     clear hdp hdN hdF hdc0 hdc1 hre Hde
     subst hdA
     obtain ⟨rl,hrl⟩:∃ k,k=dp.range.length:=⟨_,rfl⟩
     rw[←hrl] at Hd0 hrz
     have Hrl:=cH hrl
     clear hrl
     go_upto_region 17 with (fail)
     clear q1 c0 c5
     generalize wr=wy at *
     go_wp2_with fail
     go_loopw [11] (fun t11 wr=>∃ k:Nat,k≤rl∧t11=.int .i64 k∧Hid (zBT NB w3 wr)) (fun t11 _=>rl - (intOf t11).toNat)
     case atStart=>exact ⟨0,nZ _,rfl,hK⟩
     case round=>
      clear hK
      obtain ⟨j,hj,rfl,hK⟩:=hrel
      have hj0:(0:Int)≤(j:Int):=by omega
      have q1:=HBx.out wr hK.out
      obtain ⟨c0,c5⟩:=Hc0.out wr hK.out
      obtain ⟨⟨s',e0⟩,g0,e1,hset⟩:=Hd0.out wr hK.out
      by_cases hjt:j<rl
      case neg=>
       have hjI:¬(j:Int)<(rl:Int):=by omega
       have Hset:=cH hset
       clear hset Hre
       go_wp2_with fail
       go_roundw
       case rel=>exact ⟨p+1,by omega,by go_num,Hset.out _⟩
       case measure=>simp[intOf];omega
      have hjI:(j:Int)<(rl:Int):=by omega
      obtain ⟨sp,hsp⟩:∃ sp,dp.range[j]?=some sp:=⟨_,gE (by have:=Hrl.out;omega)⟩
      obtain ⟨rb,ro,hrA,hrN,hrF,z0,z1,z2,z3,z4,z5,k0,k1,k2,k3,k4,k5⟩:=Hre.out j sp hsp
      obtain ⟨_,m0⟩:=hK.out.ints _ _ _ k0
      obtain ⟨_,m1⟩:=hK.out.ints _ _ _ k1
      obtain ⟨_,m2⟩:=hK.out.ints _ _ _ k2
      obtain ⟨_,m3⟩:=hK.out.ints _ _ _ k3
      obtain ⟨_,m4⟩:=hK.out.ints _ _ _ k4
      obtain ⟨_,m5⟩:=hK.out.ints _ _ _ k5
      have f0:=(hK.out.free _ hrF).frozen (ro+j * 6)
      have f1:=(hK.out.free _ hrF).frozen (ro+j * 6+1)
      have f2:=(hK.out.free _ hrF).frozen (ro+j * 6+2)
      have f3:=(hK.out.free _ hrF).frozen (ro+j * 6+3)
      have f4:=(hK.out.free _ hrF).frozen (ro+j * 6+4)
      have f5:=(hK.out.free _ hrF).frozen (ro+j * 6+5)
      have HK6:=cH (hK.out.set6 hrN k0 k1 k2 k3 k4 k5)
      clear hsp hrN hrF k0 k1 k2 k3 k4 k5 hset e0 g0 Hre
      subst hrA
      go_wp2_with fail
      go_roundw
      case rel=>exact ⟨j+1,by omega,by go_num,HK6⟩
      case measure=>simp[intOf];omega
  have hiI:¬(i:Int)<(n:Int):=by omega
  have HB4:=cH (H3B.out wr hK.out)
  clear HDi HBx hK H3B
  go_upto_region 22 with (fail)
  clear q1
  generalize wr=w4 at *
  have Hc4:Hid (∀ W,Below w4.heap.size w4 W→W.cell? ⟨GB,0,none⟩=some (.slice gA gn gc)∧W.cell? ⟨QB,0,none⟩=some (.slice kA kn kc)∧W.cell? ⟨QB,1,none⟩=some (.slice mA mn mc)∧W.cell? ⟨QB,2,none⟩=some (.slice nA nn nc)∧W.cell? ⟨QB,3,none⟩=some (.slice lA ln lc)∧W.cell? ⟨QB,4,none⟩=some (.slice vA vn vc)∧W.cell? ⟨QB,5,none⟩=some (.bool xdev)∧W.cell? ⟨QB,6,none⟩=some (.int .i64 ldec)∧W.cell? ⟨QB,7,none⟩=some (.int .i64 lnod)∧W.cell? ⟨QB,8,none⟩=some (.int .i64 ldirs)∧W.cell? ⟨QB,9,none⟩=some (.int .i64 lpath)∧W.cell? ⟨QB,10,none⟩=some (.slice oA on oc)∧W.cell? ⟨QB,11,none⟩=some (.bool xlike)):=fun W hW=>Hcell.out W (bot HB4.out hW)
  have HR4:=cH (HRunP.out w4 HB4.out)
  have hcell0:=Hc4.out w4 (bR _ _)
  clear HRunP HRR
  go_cut [12,7] from 119 to 128 (fun v7 v8 wx=>∃ (TB:Nat) (A:Option Addr) (n c:Nat),v7=.pointer (some ⟨TB,0,none⟩)∧v8=.int .i64 0∧Hid (Below w4.heap.size w4 wx∧wx.heap[TB]?=some (.cells #[.slice A n c] 33 (0,0))∧w4.heap.size≤TB∧SlV rDir wx (fun b=>w4.heap.size≤b∧b≠TB) R1 (.slice A n c)))
  case first=>
   go_region_held3 (fun W=>(W.cell? ⟨GB,0,none⟩=some (.slice gA gn gc)∧W.cell? ⟨QB,0,none⟩=some (.slice kA kn kc)∧W.cell? ⟨QB,1,none⟩=some (.slice mA mn mc)∧W.cell? ⟨QB,2,none⟩=some (.slice nA nn nc)∧W.cell? ⟨QB,3,none⟩=some (.slice lA ln lc)∧W.cell? ⟨QB,4,none⟩=some (.slice vA vn vc)∧W.cell? ⟨QB,5,none⟩=some (.bool xdev)∧W.cell? ⟨QB,6,none⟩=some (.int .i64 ldec)∧W.cell? ⟨QB,7,none⟩=some (.int .i64 lnod)∧W.cell? ⟨QB,8,none⟩=some (.int .i64 ldirs)∧W.cell? ⟨QB,9,none⟩=some (.int .i64 lpath)∧W.cell? ⟨QB,10,none⟩=some (.slice oA on oc)∧W.cell? ⟨QB,11,none⟩=some (.bool xlike))∧Below w4.heap.size w4 W)
    (first
      | (with_reducible exact ⟨hcell0,(bR _ _).drew⟩)
      | (with_reducible exact ⟨Hc4.out _ (bR _ _).drew,(bR _ _).drew⟩)
      | (with_reducible exact ⟨Hc4.out _ hB3,hB3⟩)
      | (with_reducible exact ⟨Hc4.out _ hB2,hB2⟩)
      | (with_reducible exact ⟨Hc4.out _ (bal hB3 _),bal hB3 _⟩)
      | (with_reducible exact ⟨Hc4.out _ (bal hB2 _),bal hB2 _⟩)
      | (with_reducible exact ⟨Hc4.out _ (bal (bR _ _).drew _),bal (bR _ _).drew _⟩)
      | (with_reducible exact ⟨Hc4.out _ ((bal hB3 _).setCell hz3 _),(bal hB3 _).setCell hz3 _⟩)
      | (with_reducible exact ⟨Hc4.out _ (hB3.setCell hz2 _),hB3.setCell hz2 _⟩)
      | (with_reducible exact ⟨Hc4.out _ (hB3.setCell (nR _) _),hB3.setCell (nR _) _⟩)
      | fail)
    (first
      | (go_at_call 12;go_split_ands;with_reducible refine (HOld.out _ (bot HB2.out (bot HB4.out (by assumption)))).mono ?_;rintro e wo ⟨op,rfl,hov,hb2⟩;have hB2:Below w4.heap.size w4 wo:=bot (by assumption) hb2;have hz2:=hB2.size;(try (have hT:=zF5 hb2;obtain ⟨hR2,hT2,fT2⟩:=hT)))
      | (go_at_call 11;go_split_ands;with_reducible refine (HR4.out _ (by assumption) _ (by first|assumption|exact (hov.keep (bal (bR _ _) _)).wide)).mono ?_;rintro e wp ⟨⟨A2,n2,c2,rfl,hrv⟩,hb3⟩;have hB3:Below w4.heap.size w4 wp:=bot (by assumption) hb3;have hz3:=hB3.size;(first|(have hT:=zJF hb3;obtain ⟨hR3,hT3,fT3⟩:=hT)|(have hT:=zHH hb3 hR2 hT2 fT2;obtain ⟨hR3,hT3,fT3⟩:=hT)|skip)))
   all_goals
    go_wp2_with fail
    go_meet
    first
     | exact ⟨_,_,_,_,rfl,rfl,zMY hB3 hrv hz2⟩
     | exact ⟨_,_,_,_,rfl,rfl,zJP hB3 hz2 hR3 hrv (by simp;omega) (by simp)⟩
     | exact ⟨_,_,_,_,rfl,rfl,zJP hB3 (nR _) hR3 hrv hz2 (zAd hT2)⟩
  case rest=>
  obtain ⟨TB2,A2,n2,c2,rfl,rfl,HN5⟩:=hcut
  generalize wc=w5 at *
  have HB5:=cH HN5.out.1
  clear hcell0 HR4 HOld
  obtain ⟨c0,d0,d1,d2,d3,d4,d5,d6,d7,d8,d9,d10,d11⟩:=Hc4.out w5 HB5.out
  go_wp2_with fail
  refine (HSv.out w5 (bot HB2.out (bot HB4.out HB5.out))).mono ?_
  rintro e w6 ⟨⟨hA,qA,hn6,hc6,qn6,qc6,rfl,g1,g2⟩,hb6⟩
  have HB6:=cH (bot HB5.out hb6)
  have HB56:=cH hb6
  have HG1:=cH g1
  have HG2:=cH g2
  clear hb6 g1 g2 c0 d0 d1 d2 d3 d4 d5 d6 d7 d8 d9 d10 d11 HSv
  go_upto_region 24 with (fail)
  obtain ⟨w7,hw7⟩:∃ w7,w7=w6.alloc (.cells #[.slice hA hn6 hc6] 24):=⟨_,rfl⟩
  have HB7:Hid (Below w4.heap.size w4 w7):=by unfold Hid;rw[hw7];exact bal HB6.out _
  have HB57:Hid (Below w5.heap.size w5 w7):=by unfold Hid;rw[hw7];exact bal HB56.out _
  have h7:w7.cell? ⟨w6.heap.size,0,none⟩=some (.slice hA hn6 hc6):=by rw[hw7];exact cO _ _ 0 _ _ _ (zAC w6 _)
  have hRx0:=HRef.out w7 (bot HB4.out HB7.out) hA hn6 hc6 qA qn6 qc6 (by rw[hw7];exact HG1.out.alloc _) (by rw[hw7];exact HG2.out.alloc _)
  have HRx:=cH hRx0
  clear hRx0
  rw[←hw7]
  clear hw7 HB6 HB56 HG1 HG2 HRef
  obtain ⟨c0,d0,d1,d2,d3,d4,d5,d6,d7,d8,d9,d10,d11⟩:=Hc4.out w7 HB7.out
  go_wp2_with fail
  refine HRx.out.mono ?_
  rintro e w8 ⟨⟨B,m,d,rfl,hsl⟩,hb8⟩
  have HS8:=cH hsl
  have HB8:=cH (bot HB57.out hb8)
  clear hsl hb8 c0 d0 d1 d2 d3 d4 d5 d6 d7 d8 d9 d10 d11 HRx Hc4 Hcell h7 HB57 HB7
  go_upto_region 25 with (fail)
  obtain ⟨w9,hw9⟩:∃ w9,w9=w8.alloc (.cells #[.slice B m d] 33):=⟨_,rfl⟩
  have HB9:Hid (Below w5.heap.size w5 w9):=by unfold Hid;rw[hw9];exact bal HB8.out _
  have q1:w9.cell? ⟨TB2,0,none⟩=some (.slice A2 n2 c2):=cO _ _ 0 _ _ _ (zFt HN5.out.2.1 HB9.out)
  have q2:w9.cell? ⟨w8.heap.size,0,none⟩=some (.slice B m d):=by rw[hw9];exact cO _ _ 0 _ _ _ (zAC w8 _)
  have HAl:Hid (Calls Tryz.prog 14 #[.agg #[.slice A2 n2 c2],.agg #[.slice B m d]] w9 fun e w'=>e=.returned (.bool true)∧Below w9.heap.size w9 w'):=by
   have h1:=HN5.out.2.2.2.belowSize HB9.out
   have h2:SlV rDir w9 (fun _=>True) R1 (.slice B m d):=by rw[hw9];exact HS8.out.alloc _
   have:=zK7 A2 B n2 c2 m d _ _ w9 _ _ h1 h2
   rwa [zAP rfl] at this
  have HBa:=cH (bot HB2.out (bot HB4.out (bot HB5.out HB9.out)))
  rw[←hw9]
  clear hw9 HS8 HB8 HN5 HB9 HB5 HB4 HB2
  go_wp2_with fail
  refine HAl.out.mono ?_
  rintro e w10 ⟨rfl,hb10⟩
  have HB10:=cH (bot HBa.out hb10)
  clear hb10 HAl q1 q2 HBa
  go_wp2_with fail
  refine (HLv.out w10 HB10.out).mono ?_
  rintro e wz ⟨rfl,hbz⟩
  have HBz:=cH (bot HB10.out hbz)
  clear hbz
  go_wp2_with fail
  go_ret
  exact ⟨rfl,HBz.out⟩
