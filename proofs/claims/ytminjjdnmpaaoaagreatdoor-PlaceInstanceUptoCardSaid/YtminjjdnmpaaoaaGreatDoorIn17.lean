/- The program's placer: Run: walked. -/
import Derived.Test.YtminjjdnmpaaoaaGreatDoorIn06
import Derived.Test.YtminjjdnmpaaoaaGreatDoorIn15
import Derived.Test.YtminjjdnmpaaoaaGreatDoorIn16
import Derived.Test.YtminjjdnmpaaoaaGreatDoorIn11
import Derived.Test.YtminjjdnmpaaoaaGreatDoorIn03
import Derived.Deep.CutRange
import Derived.Deep.RegionLaw
import Derived.Deep.RegionHeld3
import Derived.Test.YtminjjdnmpaaoaaGreatDoorIn12
import Derived.Test.YtminjjdnmpaaoaaGreatDoorIn09
import Derived.Test.YtminjjdnmpaaoaaGreatDoorIn14
import Derived.Test.YtminjjdnmpaaoaaGreatDoorIn13
import Derived.Test.YtminjjdnmpaaoaaGreatDoorIn10
import Derived.Test.YtminjjdnmpaaoaaGreatDoorIn01
import Derived.KernelRfl
import Derived.Test.YtminjjdnmpaaoaaGreatDoorIn07
import Derived.Test.YtminjjdnmpaaoaaGreatDoorIn02
import Derived.Test.YtminjjdnmpaaoaaGreatDoorAl
set_option linter.all false
set_option maxHeartbeats 6400000
set_option maxRecDepth 100000
namespace Go.Proofs.YtminjjdnmpaaoaaGreatDoor
open Go.Rows Go.RowKit Go.Shelf Go.Sort
theorem zCJ {P:Program} {fn:Func} {R:Ending→World→Prop} {ty:TypeId} {d:TypeDesc} {p q:Tmp} {a:Act} {W:World} {g:Nat} {x bv:Value} {t:TypeId} (hf:fn.results=#[.cell p ty,.tmp q]) (hd:a.defers=[]) (h2:a.tmps.getD p undef=.pointer (some ⟨g,0,none⟩)) (h3:a.tmps.getD q undef=bv)
  (hg:W.heap[g]?=some (.cells #[x] t (0,0))) (hu:P.underlying ty=some d) (hdd:(match d with|.struct _|.array _ _=>true|_=>false)=true) (hi:(P.info? ty).map (·.size)=some 1)
  (h:R (.returned (.tuple #[.agg #[x],bv])) W):bodyPost P fn R Exit.ret a W:=
 bodyPost_ret (zBi hf a.tmps W g t #[x] (0,0) d h2 hg hu hdd hi) hd (by rw[h3];exact h)
theorem zB0 {W:World} {b:Nat} {x:Value} {t:TypeId} (h:W.heap[b]?=some (.cells #[x] t (0,0))) (v:Value):(W.setCell ⟨b,0,none⟩ v).heap[b]?=some (.cells #[v] t (0,0)):=zAR (o:=0) h v
theorem zCW {q:PlIn} {f k:Nat} {st:PlSt} (h:k<st.1.length):dirsP q (f+1) k st=match dirP q k st with
 | .error c=>.error c
 | .ok st'=>dirsP q f (k+1) st':=by rw[dirsP,if_pos h];rfl
theorem zGE {q:PlIn} {f k:Nat} {st:PlSt} (h:¬k<st.1.length):dirsP q f k st=.ok st:=by
 cases f with
 | zero=>rfl
 | succ f=>rw[dirsP,if_neg h]
theorem zCZ {q:PlIn} {c:Int} (h:zA4 q=.error c):zBt q=([],c):=by unfold zBt;rw[h]
theorem zFI {q:PlIn} {st:PlSt} (h:zA4 q=.ok st):zBt q=(sortD st.1,0):=by unfold zBt;rw[h]
theorem OldV.wide {w:World} {S:Nat→Prop} {ov:Value} {old:Option (List Dir)} (h:OldV w S ov old):OldV w (fun b=>b<w.heap.size) ov old:=by
 rcases h with h|⟨b,o,A,n,c,l,h1,h2,h3,h4,h5,h6,h7⟩
 ·exact .inl h
 ·exact .inr ⟨b,o,A,n,c,l,h1,h2,h3,h3,h5,h6.more fun b _ h=>h,h7⟩
theorem PlS.made (C:PlCtx) {w:World} {DB:Nat} (hD:C.w0.heap.size≤DB) (hDP:DB≠C.P) (hd:w.heap[DB]?=some (.cells zeroCells.toArray 54 (0,0)))
  (hP:w.heap[C.P]?=some (.cells (plRow C (.slice (some ⟨DB,0,none⟩) 1 1) (.slice none 0 0)) 78 (0,0))) (hb:Below C.w0.heap.size C.w0 w):PlS C w ([dirZ0],[]) (fun _=>False):=by
 refine ⟨some ⟨DB,0,none⟩,1,none,0,hP,⟨fun b hb=>hb.elim,zeroCells,⟨rfl,.inr ⟨DB,1,zeroCells.toArray,rfl,hD,hd,nR _,by decide,rfl,rfl⟩⟩,zeroCells,[],rfl,zEJ _ _,rfl⟩,Own.nil_ rStl w _ _ (fun b hb=>hb.elim),fun b hb=>hb.elim,fun e=>hDP (Option.some.inj e),(fun e=>by cases e),(fun k _ e=>by cases e),hb,fun b hb=>hb.elim⟩
theorem zEQ (gA:Option Addr) (gn gc:Nat) (pA:Option Addr) (pn pc:Nat) (dec nod:Int) (ov:Value) (q:PlIn) (w:World) (S:Nat→Prop) (ht:Tab w) (hg:SlV rNode w S q.g (.slice gA gn gc)) (hp:SlV rPack w S q.ps (.slice pA pn pc)) (ho:OldV w S ov q.old)
  (hdi:I64 q.dirs) (hpi:I64 q.path) (hgz:q.g.length≤1048576) (hpz:q.ps.length≤1048576) (hsm:∀ x∈q.ps,zBY x) :
  Calls Tryz.prog 11 #[.agg #[.slice gA gn gc],.slice pA pn pc,.agg #[.int .i64 dec,.int .i64 nod,.int .i64 q.dirs,.int .i64 q.path],ov] w fun e w'=>
   ∃ rv,e=.returned (.tuple #[.agg #[rv],.int .i64 (zBt q).2])∧SlV rDir w' (fun b=>w.heap.size≤b) (zBt q).1 rv∧Below w.heap.size w w':=by
 obtain ⟨op,rfl⟩:∃ p,ov=.pointer p:=by
  rcases ho with ⟨_,h⟩|⟨b,o,_,_,_,_,_,h,_⟩
  ·exact ⟨_,h⟩
  ·exact ⟨_,h⟩
 obtain ⟨dd,hdd⟩:∃ d,d=q.dirs:=⟨_,rfl⟩
 obtain ⟨dp,hdp⟩:∃ d,d=q.path:=⟨_,rfl⟩
 rw[←hdd,←hdp]
 have Hdd:=cH hdd
 have Hdp:=cH hdp
 have HE1:Hid (q.dirs<1∨256<q.dirs∨q.path<1∨1024<q.path→zBt q=([],1)):=fun h=>zCZ (by unfold zA4;rw[if_pos h])
 have HE2:Hid (¬(q.dirs<1∨256<q.dirs∨q.path<1∨1024<q.path)→zCy q.old=true→zBt q=([],42)):=fun h h2=>zCZ (by unfold zA4;rw[if_neg h,if_pos h2])
 have HE3:Hid (¬(q.dirs<1∨256<q.dirs∨q.path<1∨1024<q.path)→zCy q.old=false→mayPl q.g q.ps=false→zBt q=([],33)):=fun h h2 h3=>zCZ (by unfold zA4;rw[if_neg h,if_neg (by rw[h2];decide),if_pos h3])
 have HE4:Hid (¬(q.dirs<1∨256<q.dirs∨q.path<1∨1024<q.path)→zCy q.old=false→mayPl q.g q.ps=true→zA4 q=dirsP q 258 0 ([dirZ0],[])):=fun h h2 h3=>by unfold zA4;rw[if_neg h,if_neg (by rw[h2];decide),if_neg (by rw[h3];decide)]
 have Ht:=cH ht
 have Hg:=cH (hg.more (S':=fun b=>b<w.heap.size) fun b _ h=>h)
 have Hp:=cH (hp.more (S':=fun b=>b<w.heap.size) fun b _ h=>h)
 have Ho:=cH ho
 have Hi:Hid (I64 q.dirs∧I64 q.path∧q.g.length≤1048576∧q.ps.length≤1048576∧∀ x∈q.ps,zBY x):=⟨hdi,hpi,hgz,hpz,hsm⟩
 have HNl:=fun (W:World)=>cH (SlV.nil_ rDir W (fun b=>w.heap.size≤b))
 clear ht hg hp ho hdi hpi hgz hpz hsm hdd hdp
 generalize hR:zBt q=R at *
 have HR:=cH hR
 clear hR
 go_enter Tryz.func11,Tryz.ntmps11
 go_upto_region 1 with (fail)
 obtain ⟨w3,hw3⟩:∃ w3,w3=((w.alloc (.cells #[.slice gA gn gc] 24)).alloc (.cells #[.int .i64 dec,.int .i64 nod,.int .i64 dd,.int .i64 dp] 30)).alloc (.cells #[.slice none 0 0] 33):=⟨_,rfl⟩
 have hz1:(w.alloc (.cells #[.slice gA gn gc] 24)).heap.size=w.heap.size+1:=by simp
 have hz2:((w.alloc (.cells #[.slice gA gn gc] 24)).alloc (.cells #[.int .i64 dec,.int .i64 nod,.int .i64 dd,.int .i64 dp] 30)).heap.size=w.heap.size+2:=by simp
 have hB3:Below w.heap.size w w3:=by rw[hw3];exact bal (bal (bal (bR _ _) _) _) _
 have hq1:w3.heap[w.heap.size]?=some (.cells #[.slice gA gn gc] 24 (0,0)):=by
  rw[hw3];exact (Below.heap_alloc _ _ _ (by rw[hz2];omega)).trans ((Below.heap_alloc _ _ _ (by rw[hz1];omega)).trans (zAD _ _))
 have hq2:w3.heap[w.heap.size+1]?=some (.cells #[.int .i64 dec,.int .i64 nod,.int .i64 dd,.int .i64 dp] 30 (0,0)):=by
  rw[hw3,←hz1];exact (Below.heap_alloc _ _ _ (by simp)).trans (zAD _ _)
 have hq3:w3.heap[w.heap.size+2]?=some (.cells #[.slice none 0 0] 33 (0,0)):=by
  rw[hw3,←hz2];exact zAD _ _
 rw[←hw3]
 have HB3:=cH hB3
 obtain ⟨GB,hGB⟩:∃ k,k=w.heap.size:=⟨_,rfl⟩
 obtain ⟨LB,hLB⟩:∃ k,k=w.heap.size+1:=⟨_,rfl⟩
 obtain ⟨TB,hTB⟩:∃ k,k=w.heap.size+2:=⟨_,rfl⟩
 rw[←hGB] at hq1
 rw[←hLB] at hq2
 rw[←hTB] at hq3
 have HTB:Hid (w.heap.size≤TB):=by unfold Hid;omega
 have hlt1:GB<w3.heap.size:=(aS.1 hq1).1
 have hlt2:LB<w3.heap.size:=(aS.1 hq2).1
 have hlt3:TB<w3.heap.size:=(aS.1 hq3).1
 have HQ:Hid (∀ W,Below w3.heap.size w3 W→W.heap[GB]?=some (.cells #[.slice gA gn gc] 24 (0,0))∧W.heap[LB]?=some (.cells #[.int .i64 dec,.int .i64 nod,.int .i64 dd,.int .i64 dp] 30 (0,0))∧W.heap[TB]?=some (.cells #[.slice none 0 0] 33 (0,0))):=fun W hW=>⟨(hW.block _ hlt1).trans hq1,(hW.block _ hlt2).trans hq2,(hW.block _ hlt3).trans hq3⟩
 have HEr:Hid (∀ W,Below w3.heap.size w3 W→W.heap[TB]?=some (.cells #[.slice none 0 0] 33 (0,0))∧W.frozen? ⟨TB,0,none⟩=false∧W.cell? ⟨TB,0,none⟩=some (.slice none 0 0)∧Below w.heap.size w (W.setCell ⟨TB,0,none⟩ (.slice none 0 0))):=fun W hW=>by
  have h:=(hW.block _ hlt3).trans hq3
  exact ⟨h,zAd h,cO _ _ 0 _ _ _ h,(bot HB3.out hW).setCell (p:=⟨TB,0,none⟩) HTB.out _⟩
 rw[←hTB,←hLB,←hGB]
 clear hw3 hz1 hz2 hB3 hGB hLB hTB
 have l2:=cO _ _ 2 _ _ _ hq2
 have l3:=cO _ _ 3 _ _ _ hq2
 obtain ⟨t0,tf,tc,tb⟩:=HEr.out w3 (bR _ _)
 have Ht0:=cH t0
 have Htb:=cH tb
 clear hq1 hq2 hq3 t0 tb
 by_cases h1:dd<1
 case pos=>
  have Hr:=cH (HE1.out (.inl (by rw[←Hdd.out];exact h1)))
  clear HE1 HE2 HE3 HE4
  go_wp2_with fail
  refine zCJ rfl rfl rfl rfl (zB0 Ht0.out _) Tryz.underlying33 rfl (by kernel_rfl) ⟨.slice none 0 0,?_,?_,Htb.out⟩
  ·rw[Hr.out];rfl
  ·rw[Hr.out];exact (HNl _).out
 by_cases h2:256<dd
 case pos=>
  have Hr:=cH (HE1.out (.inr (.inl (by rw[←Hdd.out];exact h2))))
  clear HE1 HE2 HE3 HE4
  go_wp2_with fail
  refine zCJ rfl rfl rfl rfl (zB0 Ht0.out _) Tryz.underlying33 rfl (by kernel_rfl) ⟨.slice none 0 0,?_,?_,Htb.out⟩
  ·rw[Hr.out];rfl
  ·rw[Hr.out];exact (HNl _).out
 by_cases h3:dp<1
 case pos=>
  have Hr:=cH (HE1.out (.inr (.inr (.inl (by rw[←Hdp.out];exact h3)))))
  clear HE1 HE2 HE3 HE4
  go_wp2_with fail
  refine zCJ rfl rfl rfl rfl (zB0 Ht0.out _) Tryz.underlying33 rfl (by kernel_rfl) ⟨.slice none 0 0,?_,?_,Htb.out⟩
  ·rw[Hr.out];rfl
  ·rw[Hr.out];exact (HNl _).out
 by_cases h4:1024<dp
 case pos=>
  have Hr:=cH (HE1.out (.inr (.inr (.inr (by rw[←Hdp.out];exact h4)))))
  clear HE1 HE2 HE3 HE4
  go_wp2_with fail
  refine zCJ rfl rfl rfl rfl (zB0 Ht0.out _) Tryz.underlying33 rfl (by kernel_rfl) ⟨.slice none 0 0,?_,?_,Htb.out⟩
  ·rw[Hr.out];rfl
  ·rw[Hr.out];exact (HNl _).out
 have Hlim:Hid (¬(q.dirs<1∨256<q.dirs∨q.path<1∨1024<q.path)):=by unfold Hid;rw[←Hdd.out,←Hdp.out];omega
 have hdz:dd≤256:=by omega
 have hpz:dp≤1024:=by omega
 clear HE1
 go_upto_region 3 with (fail)
 go_cut [33] from 34 to 42 (fun bv wx=>bv=.bool (zCy q.old)∧Hid (Below w3.heap.size w3 wx))
 case first=>
  clear HE2 HE3 HE4 HEr Ht0 Htb l2 l3 tf tc
  rcases Ho.out with ⟨hn,hov⟩|⟨b,o,A,n,c,l,hl,hov,hb,hS,hcell,hsl,hlen⟩
  ·cases hov
   have hbo:zCy q.old=false:=by rw[hn];rfl
   have Hbo:=cH hbo
   clear hn hbo
   go_wp2_with fail
   go_meet
   exact ⟨by rw[Hbo.out],bR _ _⟩
  ·cases hov
   have x0:=zAA HB3.out hcell hb
   have HCh:=cH (zKF A n c l w3 S (zAT Ht.out HB3.out) hlen (hsl.belowSize HB3.out))
   have hbo:zCy q.old=decide (zCf l≠0):=by rw[hl];rfl
   have Hbo:=cH hbo
   clear hl hbo hcell hsl hlen hb hS
   generalize zCf l=ce at *
   by_cases hc:ce=0
   ·subst hc
    go_wp2_with fail
    refine HCh.out.mono ?_
    rintro e w5 ⟨rfl,B5⟩
    go_wp2_with fail
    go_meet
    exact ⟨by rw[Hbo.out];rfl,B5⟩
   ·have hcb:(ce != 0)=true:=by show (!(ce==0))=true;rw[beq_eq_false_iff_ne.2 hc];rfl
    have Hcd:=cH (Hbo.out.trans (decide_eq_true hc))
    clear hc
    go_wp2_with fail
    refine HCh.out.mono ?_
    rintro e w5 ⟨rfl,B5⟩
    go_wp2_with fail
    go_meet
    exact ⟨by rw[Hcd.out],B5⟩
 case rest=>
 obtain ⟨hbv,HB4⟩:=hcut
 have HC4:Hid (Below w3.heap.size w3 wc):=HB4
 generalize wc=w4 at *
 clear l2 l3 tf tc Ht0 Htb
 cases hbo:zCy q.old with
 | true=>
   rw[hbo] at hbv
   subst hbv
   obtain ⟨t0,tf,tc,tb⟩:=HEr.out w4 HC4.out
   have Ht0:=cH t0
   have Htb:=cH tb
   have Hr:=cH (HE2.out Hlim.out hbo)
   clear HE2 HE3 HE4 t0 tb hbo
   go_wp2_with fail
   refine zCJ rfl rfl rfl rfl (zB0 Ht0.out _) Tryz.underlying33 rfl (by kernel_rfl) ⟨.slice none 0 0,?_,?_,Htb.out⟩
   ·rw[Hr.out];rfl
   ·rw[Hr.out];exact (HNl _).out
 | false=>
 rw[hbo] at hbv
 subst hbv
 have HE3':=cH (HE3.out Hlim.out hbo)
 have HE4':=cH (HE4.out Hlim.out hbo)
 have HBw4:Hid (Below w.heap.size w w4):=bot HB3.out HC4.out
 obtain ⟨gq,lq,tq⟩:=HQ.out w4 HC4.out
 have g0:=cO _ _ 0 _ _ _ gq
 have l0:=cO _ _ 0 _ _ _ lq
 have l1:=cO _ _ 1 _ _ _ lq
 have l2:=cO _ _ 2 _ _ _ lq
 have l3:=cO _ _ 3 _ _ _ lq
 have Htq:=cH tq
 clear HE2 HE3 HE4 hbo gq lq tq HQ HEr HC4 HB4
 go_upto_region 6 with (fail)
 obtain ⟨w5,hw5⟩:∃ w5,w5=(w4.alloc (.cells #[.slice none 0 0,.string ⟨#[]⟩,.int .i64 0,.int .i64 0,.int .i64 0,.slice none 0 0,.slice none 0 0,.slice none 0 0,.int .i64 0] 54)).alloc (.cells #[.slice gA gn gc,.slice pA pn pc,.int .i64 dec,.int .i64 nod,.int .i64 dd,.int .i64 dp,.pointer op,.slice (some ⟨w4.heap.size,0,none⟩) 1 1,.slice none 0 0] 78):=⟨_,rfl⟩
 have hB5:Below w4.heap.size w4 w5:=by rw[hw5];exact bal (bal (bR _ _) _) _
 have hq5:=zI0 w4 (.cells #[.slice none 0 0,.string ⟨#[]⟩,.int .i64 0,.int .i64 0,.int .i64 0,.slice none 0 0,.slice none 0 0,.slice none 0 0,.int .i64 0] 54) (.cells #[.slice gA gn gc,.slice pA pn pc,.int .i64 dec,.int .i64 nod,.int .i64 dd,.int .i64 dp,.pointer op,.slice (some ⟨w4.heap.size,0,none⟩) 1 1,.slice none 0 0] 78)
 rw[←hw5] at hq5 ⊢
 obtain ⟨C,hC⟩:∃ C:PlCtx,C=⟨w4,w4.heap.size+1,gA,gn,gc,pA,pn,pc,dec,nod,.pointer op,q⟩:=⟨_,rfl⟩
 have hCok:C.Ok:=by
  rw[hC]
  exact ⟨zAT Ht.out HBw4.out,(Hg.out.belowSize HBw4.out).more fun b _ h=>h,(Hp.out.belowSize HBw4.out).more fun b _ h=>h,(Ho.out.keep HBw4.out).wide,Nat.le_succ _,Hi.out.1,Hi.out.2.1,Hi.out.2.2.1,Hi.out.2.2.2.1⟩
 have hPs:PlS C w5 ([dirZ0],[]) (fun _=>False):=by
  refine PlS.made C (DB:=w4.heap.size) (by rw[hC];exact nR _) (by rw[hC];exact (Nat.ne_of_lt (Nat.lt_succ_self _))) hq5.1 ?_ (by rw[hC];exact hB5)
  rw[hC]
  show w5.heap[w4.heap.size+1]?=_
  rw[hq5.2,Hdd.out,Hdp.out]
  rfl
 have hCP:w4.heap.size+1=C.P:=by rw[hC]
 have hCw:C.w0=w4:=by rw[hC]
 have hCq:C.q=q:=by rw[hC]
 have HCok:=cH hCok
 have HPs:=cH hPs
 have HCw:=cH hCw
 have HCq:=cH hCq
 have HB5:=cH hB5
 rw[hCP]
 clear hw5 hB5 hq5 hC hCok hPs hCP hCw hCq g0 l0 l1 l2 l3
 have HMy:Hid (Calls Tryz.prog 22 #[.pointer (some ⟨C.P,0,none⟩)] w5 fun e w'=>e=.returned (.bool (mayPl C.q.g C.q.ps))∧Below w5.heap.size w5 w'):=zMt C HCok.out w5 _ HPs.out.all
 rw[HCq.out] at HMy
 have HTq:Hid (∀ W,Below C.w0.heap.size C.w0 W→W.heap[TB]?=some (.cells #[.slice none 0 0] 33 (0,0))∧W.frozen? ⟨TB,0,none⟩=false∧W.cell? ⟨TB,0,none⟩=some (.slice none 0 0)∧∀ v,Below w.heap.size w (W.setCell ⟨TB,0,none⟩ v)):=fun W hW=>by
  rw[HCw.out] at hW
  have h:=(hW.block _ (aS.1 Htq.out).1).trans Htq.out
  exact ⟨h,zAd h,cO _ _ 0 _ _ _ h,fun v=>(bot HBw4.out hW).setCell (p:=⟨TB,0,none⟩) HTB.out _⟩
 cases hmy:mayPl q.g q.ps with
 | false=>
   have Hr:=cH (HE3'.out hmy)
   rw[hmy] at HMy
   clear HE3' HE4' hmy
   go_wp2_with fail
   refine HMy.out.mono ?_
   rintro e w6 ⟨rfl,B6⟩
   obtain ⟨t0,tf,tc,tb⟩:=HTq.out w6 (bot HPs.out.all.base B6)
   have Ht0:=cH t0
   have Htb:=cH tb
   clear t0 tb
   go_wp2_with fail
   refine zCJ rfl rfl rfl rfl (zB0 Ht0.out _) Tryz.underlying33 rfl (by kernel_rfl) ⟨.slice none 0 0,?_,?_,Htb.out _⟩
   ·rw[Hr.out];rfl
   ·rw[Hr.out];exact (HNl _).out
 | true=>
 have HE:=cH (HE4'.out hmy)
 have HMp:=cH hmy
 rw[hmy] at HMy
 clear HE3' HE4' hmy
 go_wp2_with fail
 refine HMy.out.mono ?_
 rintro e w6 ⟨rfl,B6⟩
 have HPs6:=cH (HPs.out.keep B6).all
 clear HPs HMy B6
 go_wp2_with fail
 go_loopw [11] (fun t wr=>∃ (k:Nat) (stk:PlSt),k≤257∧t=.int .i64 k∧Hid (PlWd C wr stk∧PlInv C.q k [] stk∧stk.2.length≤k * 128∧dirsP q (258 - k) k stk=zA4 q)) (fun t _=>258 - (intOf t).toNat)
 case atStart=>exact ⟨0,([dirZ0],[]),by decide,rfl,HPs6.out,PlInv.start _,nZ _,HE.out.symm⟩
 case round=>
  clear HPs6 HE
  obtain ⟨k,stk,hk,rfl,hh⟩:=hrel
  have HPw:=cH hh.1
  have HIn:=cH hh.2.1
  have HLn:=cH hh.2.2.1
  have HGo:=cH hh.2.2.2
  have hlen257:=hh.2.1.len
  clear hh
  obtain ⟨A,c,A',c',S',hpp⟩:=HPw.out.parts
  have x7:=hpp.rd.c7
  have HPp:=cH hpp
  have hk0:(0:Int)≤(k:Int):=by omega
  obtain ⟨N,hN⟩:∃ N,N=stk.1.length:=⟨_,rfl⟩
  rw[←hN] at x7 hlen257
  have HN:=cH hN
  clear hN hpp
  by_cases hlt:k<N
  case neg=>
   have hI:¬(k:Int)<(N:Int):=by omega
   have Hr:Hid (R=(sortD stk.1,0)):=by
    unfold Hid
    rw[←HR.out]
    exact zFI (by rw[←HGo.out,zGE (by rw[←HN.out];exact hlt)])
   have hpos:0<stk.1.length:=HIn.out.pos
   have HSo:=cH (zH1 _ stk.1 wr _ S' HPp.out.T (by rw[←HN.out];omega) hpos (fun d hd=>by
    have:=nT (zEj (HIn.out.names d hd).1) (HIn.out.names d hd).2
    omega) (zHy HIn.out))
   rw[←HN.out] at HSo
   have HT:=cH HPp.out.tp
   have HL:=cH HPp.out.T.lt
   have HNw:=cH HPp.out.new
   have HBs:=cH HPp.out.base
   have hHP:=HPp.out.hP
   rw[←HN.out] at HT HL
   clear HGo HPw hlt
   go_wp2_with fail
   refine HSo.out.mono ?_
   rintro e w7 ⟨rfl,hs7,hg7⟩
   have hb7:Below C.w0.heap.size C.w0 w7:=HBs.out.grown hg7 HBs.out.size fun b hb=>(HL.out b hb).1
   obtain ⟨t0,tf,tc,tb⟩:=HTq.out w7 hb7
   have z7:w7.cell? ⟨C.P,7,none⟩=some (.slice A N c):=(zAN (hg7.block C.P hHP (fun e=>HT.out e.symm)) 7 none).trans x7
   have hTBw:TB<C.w0.heap.size:=by rw[HCw.out];exact (aS.1 Htq.out).1
   have HSl:Hid (SlV rDir (w7.setCell ⟨TB,0,none⟩ (.slice A N c)) (fun b=>w.heap.size≤b) (sortD stk.1) (.slice A N c)):=by
    refine SlV.more (S:=fun b=>S' b∨(Value.slice A N c).ownBlock=some b) (SlV.keep hs7 fun b hb hl=>heap_setCell_other w7 ⟨TB,0,none⟩ b _ (fun e=>?_)) (fun b hb _=>?_)
    ·have e2:b=TB:=e
     rcases hb with hb|hb
     ·have:=HNw.out b hb;omega
     ·have:=(HL.out b hb).1;omega
    ·have h1:w.heap.size≤C.w0.heap.size:=by rw[HCw.out];exact HBw4.out.size
     rcases hb with hb|hb
     ·exact nT h1 (HNw.out b hb)
     ·exact nT h1 (HL.out b hb).1
   have Ht0:=cH t0
   have Htb:=cH (tb (.slice A N c))
   clear t0 tb hs7 hg7 hb7 x7 HSo
   go_wp2_with fail
   refine zCJ rfl rfl rfl rfl (zB0 Ht0.out _) Tryz.underlying33 rfl (by kernel_rfl) ⟨.slice A N c,?_,?_,Htb.out⟩
   ·rw[Hr.out];rfl
   ·rw[Hr.out];exact HSl.out
  have hkn:(k:Int)<(N:Int):=by omega
  obtain ⟨f,hf⟩:∃ f,258 - k=f+1:=⟨257 - k,by omega⟩
  have HSt:Hid (zA4 q=match dirP q k stk with|.error c=>.error c|.ok st'=>dirsP q f (k+1) st'):=by
   unfold Hid;rw[←HGo.out,hf,zCW (by rw[←HN.out];exact hlt)]
  have hfe:f=258 - (k+1):=by omega
  subst hfe
  have HDr:=cH (zGc C HCok.out wr stk HPw.out (at_:=k) HIn.out (by rw[HCq.out];exact HMp.out) (by rw[HCq.out,←Hdp.out];exact hpz) (by rw[HCq.out,←Hdd.out];exact hdz) (by rw[←HN.out];exact hlt) (by rw[HCq.out];exact Hi.out.2.2.2.2) HLn.out)
  rw[HCq.out] at HDr
  clear HGo HPw HIn HLn HPp hf
  go_wp2_with fail
  refine HDr.out.mono ?_
  rintro e w7 (⟨c,h1,rfl,hc,hb7,_⟩|⟨st',h1,rfl,hP7,_,hl7,hi7⟩)
  ·have Hr:Hid (R=([],c)):=by
    unfold Hid
    rw[←HR.out]
    exact zCZ (by rw[HSt.out,h1])
   obtain ⟨t0,tf,tc,tb⟩:=HTq.out w7 hb7
   have Ht0:=cH t0
   have Htb:=cH tb
   clear t0 tb hb7 h1 HSt HDr x7
   rcases hc with rfl|rfl|rfl
   all_goals
    go_wp2_with fail
    refine zCJ rfl rfl rfl rfl (zB0 Ht0.out _) Tryz.underlying33 rfl (by kernel_rfl) ⟨.slice none 0 0,?_,?_,Htb.out _⟩
    ·rw[Hr.out];rfl
    ·rw[Hr.out];exact (HNl _).out
  ·have HS2:Hid (dirsP q (258 - (k+1)) (k+1) st'=zA4 q):=by unfold Hid;rw[HSt.out,h1]
   have HP7:=cH hP7
   have Hl7:=cH hl7
   rw[←HCq.out] at hi7
   have Hi7:=cH hi7
   clear h1 hP7 hl7 hi7 HSt HDr x7
   go_wp2_with fail
   go_roundw
   case rel=>exact ⟨k+1,st',by omega,by go_num,HP7.out,Hi7.out,Hl7.out,HS2.out⟩
   case measure=>simp[intOf];omega
set_option maxRecDepth 100000
structure DocK (q:PlIn) (at_:Nat) (n:Node) (d:Dir) (R:Except Int PlSt) (kind:Nat) (stk:PlSt):Prop where
 go:zAr q at_ n ([1,2,3].drop (kind - 1)) stk=R
 inv:∃ done,PlInv q at_ done stk∧zBf q n kind 0 done
 here:stk.1[at_]?=some d
 len:stk.2.length≤at_ * 384+(kind - 1) * 128
structure DocG (q:PlIn) (at_:Nat) (n:Node) (d:Dir) (R:Except Int PlSt) (kind k:Nat) (stk:PlSt):Prop where
 go:(match zAi q at_ n kind (n.edges.drop k) stk with|.error c=>.error c|.ok st'=>zAr q at_ n ([1,2,3].drop kind) st')=R
 inv:∃ done,PlInv q at_ done stk∧zBf q n kind k done
 here:stk.1[at_]?=some d
 len:stk.2.length≤at_ * 384+(kind - 1) * 128+k
section
variable {q:PlIn} {at_:Nat} {n:Node} {d:Dir} {R:Except Int PlSt} {kind k:Nat} {stk:PlSt}
theorem DocK.start (h:PlInv q at_ [] stk) (hd:stk.1[at_]?=some d) {j:Nat} (hj:d.node=(j:Int)) (hn:q.g[j]?=some n) (hl:stk.2.length≤at_ * 384):DocK q at_ n d (dirP q at_ stk) 1 stk:=by
 refine ⟨?_,⟨[],h,fun s hs=>by cases hs⟩,hd,by omega⟩
 unfold dirP
 rw[zB9 hd,hj,Int.toNat_natCast]
 have:zAb q j=n:=by unfold zAb;rw[List.getD_eq_getElem?_getD,hn];rfl
 rw[this];rfl
theorem DocK.enter (h:DocK q at_ n d R kind stk) (h1:1≤kind) (h3:kind≤3):DocG q at_ n d R kind 0 stk:=by
 refine ⟨?_,h.inv,h.here,h.len⟩
 have e:([1,2,3]:List Nat).drop (kind - 1)=kind::([1,2,3]:List Nat).drop kind:=by
  match kind,h1,h3 with
  | 1,_,_=>rfl
  | 2,_,_=>rfl
  | 3,_,_=>rfl
 have h4:=h.go
 rw[e,zAr] at h4
 rw[List.drop_zero]
 exact h4
theorem DocG.skip (h:DocG q at_ n d R kind k stk) {e:Edge} (he:n.edges[k]?=some e) (hk:kindP q n e≠kind):DocG q at_ n d R kind (k+1) stk:=by
 obtain ⟨done,i1,i2⟩:=h.inv
 have h4:=h.go
 rw[zBk q at_ n kind he,if_neg hk] at h4
 exact ⟨h4,⟨done,i1,i2.more (Nat.le_succ k)⟩,h.here,by have:=h.len;omega⟩
theorem DocG.err (h:DocG q at_ n d R kind k stk) {e:Edge} (he:n.edges[k]?=some e) (hk:kindP q n e=kind) {c:Int} (hs:stepE q at_ kind e stk=.error c):R=.error c:=by
 have h4:=h.go
 rw[zBk q at_ n kind he,if_pos hk,hs] at h4
 exact h4.symm
theorem DocG.ok (h:DocG q at_ n d R kind k stk) (hm:mayPl q.g q.ps=true) (hq:q.path≤1024) (hqd:q.dirs≤256) {j:Nat} (hn:q.g[j]?=some n) {e:Edge} (he:n.edges[k]?=some e) (hk:kindP q n e=kind) {st':PlSt} (hs:stepE q at_ kind e stk=.ok st'):DocG q at_ n d R kind (k+1) st':=by
 obtain ⟨done,i1,i2⟩:=h.inv
 have h4:=h.go
 rw[zBk q at_ n kind he,if_pos hk,hs] at h4
 obtain ⟨g1,⟨l,g2⟩,g3⟩:=zDA i1 hm hq hqd h.here hn (mG he) (i2.not (zA6 hm hn) he hk) hs
 refine ⟨h4,⟨_,g1,i2.step he hk⟩,?_,by have:=h.len;omega⟩
 rw[g2,List.getElem?_append_left (gS.1 h.here).1]
 exact h.here
theorem DocG.done_ (h:DocG q at_ n d R kind n.edges.length stk) (h1:1≤kind) (hl:n.edges.length≤128):DocK q at_ n d R (kind+1) stk:=by
 obtain ⟨done,i1,i2⟩:=h.inv
 have h4:=h.go
 rw[List.drop_length,zAi] at h4
 refine ⟨h4,⟨done,i1,i2.turn⟩,h.here,?_⟩
 have:=h.len
 have e:(kind+1 - 1) * 128=(kind - 1) * 128+128:=by omega
 omega
theorem DocK.last (h:DocK q at_ n d R 4 stk):R=.ok stk∧PlInv q (at_+1) [] stk∧stk.2.length≤(at_+1) * 384:=by
 obtain ⟨done,i1,_⟩:=h.inv
 have h4:=h.go
 refine ⟨h4.symm,i1.next,?_⟩
 have:=h.len
 omega
end
theorem DlS.made (C:DlCtx) (hC:C.Ok) {w:World} {DB:Nat} (hD:C.w0.heap.size≤DB) (hDP:DB≠C.P) (hd:w.heap[DB]?=some (.cells zeroCells.toArray 54 (0,0)))
  (hP:w.heap[C.P]?=some (.cells (dlRow C (.slice (some ⟨DB,0,none⟩) 1 1) (.slice none 0 0)) 87 (0,0))) (hb:Below C.w0.heap.size C.w0 w):DlWd C w ([dirZ0],[]):=by
 have hle:=hC.le
 have hsz:=hb.size
 refine ⟨some ⟨DB,0,none⟩,1,none,0,fun b=>b<C.w0.heap.size,hP,⟨fun b hb2=>⟨lL hb2 hsz,fun e=>?_⟩,zeroCells,⟨rfl,.inr ⟨DB,1,zeroCells.toArray,rfl,hD,hd,nR _,by decide,rfl,rfl⟩⟩,zeroCells,[],rfl,zEJ _ _,rfl⟩,Own.nil_ rStl w _ _ (fun b hb=>hb.elim),fun b hb2=>⟨by omega,fun e=>by cases e⟩,fun e=>hDP (Option.some.inj e),(fun e=>by cases e),(fun k _ e=>by cases e),hb,fun b hb2=>hb2⟩
 have e2:DB=b:=Option.some.inj e
 omega
theorem zMY (kA mA nA lA vA:Option Addr) (kn kc mn mc nn nc ln lc vn vc:Nat) (dev:Bool) (dec nod dirs path:Int) (oA:Option Addr) (on oc:Nat) (like:Bool) (ol:List Dir) (w:World) (S:Nat→Prop) (ho:SlV rDir w S ol (.slice oA on oc)) (hoz:∀ d∈ol,d.path.length * 32≤140737488355328) :
  Calls Tryz.prog 12 #[.agg #[.slice kA kn kc,.slice mA mn mc,.slice nA nn nc,.slice lA ln lc,.slice vA vn vc,.bool dev,.int .i64 dec,.int .i64 nod,.int .i64 dirs,.int .i64 path,.slice oA on oc,.bool like]] w fun e w'=>
   ∃ ov,e=.returned ov∧OldV w' (fun b=>b<w'.heap.size) ov (if like=true then some ol else none)∧Below w.heap.size w w':=by
 have Ho:=cH (ho.more (S':=fun b=>b<w.heap.size) fun b _ h=>h)
 have Hoz:=cH hoz
 clear ho hoz
 go_enter Tryz.func12,Tryz.ntmps12
 go_upto_region 1 with (fail)
 obtain ⟨w1,hw1⟩:∃ w1,w1=w.alloc (.cells #[.slice kA kn kc,.slice mA mn mc,.slice nA nn nc,.slice lA ln lc,.slice vA vn vc,.bool dev,.int .i64 dec,.int .i64 nod,.int .i64 dirs,.int .i64 path,.slice oA on oc,.bool like] 35):=⟨_,rfl⟩
 have hq:w1.heap[w.heap.size]?=some (.cells #[.slice kA kn kc,.slice mA mn mc,.slice nA nn nc,.slice lA ln lc,.slice vA vn vc,.bool dev,.int .i64 dec,.int .i64 nod,.int .i64 dirs,.int .i64 path,.slice oA on oc,.bool like] 35 (0,0)):=by rw[hw1];exact zAD _ _
 have HB1:Hid (Below w.heap.size w w1):=by unfold Hid;rw[hw1];exact bal (bR _ _) _
 rw[←hw1]
 have c10:=cO _ _ 10 _ _ _ hq
 have c11:=cO _ _ 11 _ _ _ hq
 clear hw1 hq
 cases hlk:like with
 | false=>
   subst hlk
   go_wp2_with fail
   go_ret
   exact ⟨_,rfl,.inl ⟨rfl,rfl⟩,HB1.out⟩
 | true=>
   subst hlk
   go_wp2_with fail
   go_ret
   refine ⟨_,rfl,.inr ⟨_,_,oA,on,oc,ol,rfl,rfl,by simp,by simp,cO _ _ 0 _ _ _ (zAD w1 _),((Ho.out.belowSize HB1.out).alloc _).more (fun b _ h=>h),Hoz.out⟩,bal HB1.out _⟩
end Go.Proofs.YtminjjdnmpaaoaaGreatDoor
namespace Go.Proofs.YtminjjdnmpaaoaaGreatDoor
open Go
theorem zEI {α:Type} [DecidableEq α] (x y:α):eqB x y=decide (x=y):=by
 by_cases h:x=y
 ·rw[zAg h,decide_eq_true h]
 ·rw[zAY h,decide_eq_false h]
deriving instance DecidableEq for Ver,Spn,Dep,Pack,Pin,Edge,Node,Dir
def sA:ByteArray:=⟨#[97]⟩
def sB:ByteArray:=⟨#[98]⟩
def packL (s:ByteArray) (v:Int):Pack:=⟨s,⟨v,0,0⟩,[],[],[]⟩
def gL:List Node:=[⟨⟨#[]⟩,⟨0,0,0⟩,[],[⟨sA,1⟩,⟨sB,2⟩]⟩,⟨sA,⟨1,0,0⟩,[],[⟨sB,3⟩]⟩,⟨sB,⟨1,0,0⟩,[],[]⟩,⟨sB,⟨2,0,0⟩,[],[]⟩]
def psL:List Pack:=[zAC,packL sA 1,packL sB 1,packL sB 2]
def qL:PlIn:=⟨gL,psL,9,99,none⟩
def tL:List Dir:=[dirZ0,⟨[sA],packL sA 1,1⟩,⟨[sB],packL sB 1,2⟩,⟨[sA,sB],packL sB 2,3⟩]
theorem zC7 (t:List Dir) (p:List ByteArray):findI t p=zCe (fun d=>decide (d.path=p)) t:=by
 unfold findI;simp only[zEI]
theorem zHF:nameB ⟨#[97]⟩=true:=by decide
theorem zHA:nameB ⟨#[98]⟩=true:=by decide
theorem zIn:(textB [⟨#[97]⟩]).size=10:=by decide
theorem zIZ:(textB [⟨#[98]⟩]).size=10:=by decide
theorem zGL:(textB [⟨#[97]⟩,⟨#[98]⟩]).size=20:=by decide
theorem zJs:dirP qL 0 ([dirZ0],[])=.ok ([dirZ0,⟨[sA],packL sA 1,1⟩,⟨[sB],packL sB 1,2⟩],[⟨0,sA,1⟩,⟨0,sB,2⟩]):=by
 simp[dirP,zAr,zAi,kindP,stepE,zAw,homeP,spotI,zAt,putP,lookI,zAj,zC7,zCe,zAl,qL,gL,psL,zAb,zA1,dirAt,zAk,dirZ0,pickI,zBn,zBR,zB4,zEI,zCH,sA,sB,packL,zHF,zHA,zIn,zIZ,zGL]
theorem zJh:dirP qL 1 ([dirZ0,⟨[sA],packL sA 1,1⟩,⟨[sB],packL sB 1,2⟩],[⟨0,sA,1⟩,⟨0,sB,2⟩])=.ok (tL,[⟨0,sA,1⟩,⟨0,sB,2⟩,⟨1,sB,3⟩]):=by
 simp[dirP,zAr,zAi,kindP,stepE,zAw,homeP,spotI,zAt,putP,lookI,zAj,zC7,zCe,zAl,qL,gL,psL,zAb,zA1,dirAt,zAk,dirZ0,pickI,zBn,zBR,zB4,zEI,zCH,sA,sB,packL,tL,zHF,zHA,zIn,zIZ,zGL]
def setL:List Stl:=[⟨0,sA,1⟩,⟨0,sB,2⟩,⟨1,sB,3⟩]
theorem zI4:dirP qL 2 (tL,setL)=.ok (tL,setL):=by
 simp[dirP,zAr,zAi,kindP,stepE,zAw,homeP,spotI,zAt,putP,lookI,zAj,zC7,zCe,zAl,qL,gL,psL,zAb,zA1,dirAt,zAk,dirZ0,pickI,zBn,zBR,zB4,zEI,zCH,sA,sB,packL,tL,zHF,zHA,zIn,zIZ,zGL,setL]
theorem zI6:dirP qL 3 (tL,setL)=.ok (tL,setL):=by
 simp[dirP,zAr,zAi,kindP,stepE,zAw,homeP,spotI,zAt,putP,lookI,zAj,zC7,zCe,zAl,qL,gL,psL,zAb,zA1,dirAt,zAk,dirZ0,pickI,zBn,zBR,zB4,zEI,zCH,sA,sB,packL,tL,zHF,zHA,zIn,zIZ,zGL,setL]
theorem zJK:zBL []=true:=zDe List.nodup_nil
theorem zJg:packB (packL sA 1)=true∧packB (packL sB 1)=true∧packB (packL sB 2)=true:=by
 have h0:∀ (s:ByteArray) (v:Int),zBL (zAH [(packL s v).deps,(packL s v).peers,(packL s v).opts])=true:=fun s v=>zJK
 refine ⟨?_,?_,?_⟩
 all_goals
  unfold packB
  rw[h0]
  decide +kernel
theorem zLv:behind none ⟨#[97]⟩=true:=by decide +kernel
theorem zL1:behind none ⟨#[98]⟩=true:=by decide +kernel
theorem zLT:behind (some ⟨#[97]⟩) ⟨#[98]⟩=true:=by decide +kernel
theorem zKk:mayPl gL psL=true:=by
 obtain ⟨h1,h2,h3⟩:=zJg
 simp only[sA,sB,packL] at h1 h2 h3
 simp[mayPl,gL,psL,zBz,formP,headP,zEY,zEV,h1,h2,h3,zEI,edgeP,pinP,sA,sB,packL,zeroV,zAC,zAP,zAZ,zAE,zHF,zHA,zLv,zL1,zLT]
theorem zHZ:zA4 qL=.ok (tL,setL):=by
 have h:zA4 qL=dirsP qL 258 0 ([dirZ0],[]):=by
  unfold zA4
  rw[if_neg (by decide),if_neg (by decide),if_neg (by show ¬mayPl gL psL=false;rw[zKk];decide)]
 rw[h]
 rw[zCW (f:=257) (by decide),zJs]
 show dirsP qL 257 1 _=_
 rw[zCW (f:=256) (by decide),zJh]
 show dirsP qL 256 2 (tL,setL)=_
 rw[zCW (f:=255) (by decide),zI4]
 show dirsP qL 255 3 (tL,setL)=_
 rw[zCW (f:=254) (by decide),zI6]
 show dirsP qL 254 4 (tL,setL)=_
 rw[zGE (by decide)]
theorem zDN:sortD tL=[dirZ0,⟨[sA],packL sA 1,1⟩,⟨[sA,sB],packL sB 2,3⟩,⟨[sB],packL sB 1,2⟩]:=by
 decide +kernel
theorem zI9:findI (sortD tL) [sA,sB]=2:=by
 rw[zDN,zC7]
 decide +kernel
end Go.Proofs.YtminjjdnmpaaoaaGreatDoor
namespace Go.Proofs.YtminjjdnmpaaoaaGreatDoor
open Go.Rows Go.RowKit Go.Shelf Go.Sort
def oV (v:Int):Obj:=.cells #[.int .i64 v,.int .i64 0,.int .i64 0] 50
def oE2:Obj:=.cells #[.string ⟨#[97]⟩,.int .i64 1,.string ⟨#[98]⟩,.int .i64 2] 61
def oE1:Obj:=.cells #[.string ⟨#[98]⟩,.int .i64 3] 61
def oN (b:Nat):Obj:=.cells #[.string ⟨#[]⟩,.int .i64 0,.int .i64 0,.int .i64 0,.slice none 0 0,.slice (some ⟨b+1+1,0,none⟩) 2 2,.string ⟨#[97]⟩,.int .i64 1,.int .i64 0,.int .i64 0,.slice none 0 0,.slice (some ⟨b+1+1+1,0,none⟩) 1 1,.string ⟨#[98]⟩,.int .i64 1,.int .i64 0,.int .i64 0,.slice none 0 0,.slice none 0 0,.string ⟨#[98]⟩,.int .i64 2,.int .i64 0,.int .i64 0,.slice none 0 0,.slice none 0 0] 58
def oG (b:Nat):Obj:=.cells #[.slice (some ⟨b+1+1+1+1,0,none⟩) 4 4] 24
def oP:Obj:=.cells #[.string ⟨#[]⟩,.int .i64 0,.int .i64 0,.int .i64 0,.slice none 0 0,.slice none 0 0,.slice none 0 0,.string ⟨#[97]⟩,.int .i64 1,.int .i64 0,.int .i64 0,.slice none 0 0,.slice none 0 0,.slice none 0 0,.string ⟨#[98]⟩,.int .i64 1,.int .i64 0,.int .i64 0,.slice none 0 0,.slice none 0 0,.slice none 0 0,.string ⟨#[98]⟩,.int .i64 2,.int .i64 0,.int .i64 0,.slice none 0 0,.slice none 0 0,.slice none 0 0] 52
def wL (w:World):World:=((((((w.alloc (oV 1)).alloc (oV 2)).alloc oE2).alloc oE1).alloc (oN w.heap.size)).alloc (oG w.heap.size)).alloc oP
theorem zIt (w:World):Below w.heap.size w (wL w):=bal (bal (bal (bal (bal (bal (bal (bR _ _) _) _) _) _) _) _) _
theorem zHz (w:World):(wL w).heap[w.heap.size+1+1]?=some oE2∧(wL w).heap[w.heap.size+1+1+1]?=some oE1∧(wL w).heap[w.heap.size+1+1+1+1]?=some (oN w.heap.size)∧(wL w).heap[w.heap.size+1+1+1+1+1]?=some (oG w.heap.size)∧(wL w).heap[w.heap.size+1+1+1+1+1+1]?=some oP:=by
 have hs:∀ (W:World) (o:Obj),(W.alloc o).heap=W.heap.push o:=fun W o=>rfl
 unfold wL
 simp only[hs,Array.getElem?_push,Array.size_push]
 refine ⟨?_,?_,?_,?_,?_⟩<;>simp<;>omega
theorem zMV (w:World):SlV rNode (wL w) (fun _=>True) gL (.slice (some ⟨w.heap.size+1+1+1+1,0,none⟩) 4 4):=by
 obtain ⟨h2,h3,h4,_,_⟩:=zHz w
 have e2:SlV rEdge (wL w) (fun _=>True) [⟨sA,1⟩,⟨sB,2⟩] (.slice (some ⟨w.heap.size+1+1,0,none⟩) 2 2):=
  SlV.of_block (r:=rEdge) (S:=fun _=>True) (l:=[⟨sA,1⟩,⟨sB,2⟩]) h2 (⟨[.string ⟨#[97]⟩,.int .i64 1],_,rfl,⟨rfl,by decide,by unfold I64;decide⟩,[.string ⟨#[98]⟩,.int .i64 2],_,rfl,⟨rfl,by decide,by unfold I64;decide⟩,rfl⟩) trivial rfl (by decide) (by decide)
 have e1:SlV rEdge (wL w) (fun _=>True) [⟨sB,3⟩] (.slice (some ⟨w.heap.size+1+1+1,0,none⟩) 1 1):=
  SlV.of_block (r:=rEdge) (S:=fun _=>True) (l:=[⟨sB,3⟩]) h3 (⟨[.string ⟨#[98]⟩,.int .i64 3],_,rfl,⟨rfl,by decide,by unfold I64;decide⟩,rfl⟩) trivial rfl (by decide) (by decide)
 exact SlV.of_block (r:=rNode) (S:=fun _=>True) (l:=gL) h4 (⟨[.string ⟨#[]⟩,.int .i64 0,.int .i64 0,.int .i64 0,.slice none 0 0,.slice (some ⟨w.heap.size+1+1,0,none⟩) 2 2],_,rfl,⟨_,_,rfl,by decide,by unfold I64;decide,by unfold I64;decide,by unfold I64;decide,SlV.nil_ _ _ _,e2⟩,[.string ⟨#[97]⟩,.int .i64 1,.int .i64 0,.int .i64 0,.slice none 0 0,.slice (some ⟨w.heap.size+1+1+1,0,none⟩) 1 1],_,rfl,⟨_,_,rfl,by decide,by unfold I64;decide,by unfold I64;decide,by unfold I64;decide,SlV.nil_ _ _ _,e1⟩,[.string ⟨#[98]⟩,.int .i64 1,.int .i64 0,.int .i64 0,.slice none 0 0,.slice none 0 0],_,rfl,⟨_,_,rfl,by decide,by unfold I64;decide,by unfold I64;decide,by unfold I64;decide,SlV.nil_ _ _ _,SlV.nil_ _ _ _⟩,[.string ⟨#[98]⟩,.int .i64 2,.int .i64 0,.int .i64 0,.slice none 0 0,.slice none 0 0],_,rfl,⟨_,_,rfl,by decide,by unfold I64;decide,by unfold I64;decide,by unfold I64;decide,SlV.nil_ _ _ _,SlV.nil_ _ _ _⟩,rfl⟩) trivial rfl (by decide) (by decide)
theorem zLj (w:World):SlV rPack (wL w) (fun _=>True) psL (.slice (some ⟨w.heap.size+1+1+1+1+1+1,0,none⟩) 4 4):=by
 obtain ⟨_,_,_,_,h5⟩:=zHz w
 exact SlV.of_block (r:=rPack) (S:=fun _=>True) (l:=psL) h5 (⟨[.string ⟨#[]⟩,.int .i64 0,.int .i64 0,.int .i64 0,.slice none 0 0,.slice none 0 0,.slice none 0 0],_,rfl,⟨_,_,_,rfl,by decide,by unfold I64;decide,by unfold I64;decide,by unfold I64;decide,SlV.nil_ _ _ _,SlV.nil_ _ _ _,SlV.nil_ _ _ _⟩,[.string ⟨#[97]⟩,.int .i64 1,.int .i64 0,.int .i64 0,.slice none 0 0,.slice none 0 0,.slice none 0 0],_,rfl,⟨_,_,_,rfl,by decide,by unfold I64;decide,by unfold I64;decide,by unfold I64;decide,SlV.nil_ _ _ _,SlV.nil_ _ _ _,SlV.nil_ _ _ _⟩,[.string ⟨#[98]⟩,.int .i64 1,.int .i64 0,.int .i64 0,.slice none 0 0,.slice none 0 0,.slice none 0 0],_,rfl,⟨_,_,_,rfl,by decide,by unfold I64;decide,by unfold I64;decide,by unfold I64;decide,SlV.nil_ _ _ _,SlV.nil_ _ _ _,SlV.nil_ _ _ _⟩,[.string ⟨#[98]⟩,.int .i64 2,.int .i64 0,.int .i64 0,.slice none 0 0,.slice none 0 0,.slice none 0 0],_,rfl,⟨_,_,_,rfl,by decide,by unfold I64;decide,by unfold I64;decide,by unfold I64;decide,SlV.nil_ _ _ _,SlV.nil_ _ _ _,SlV.nil_ _ _ _⟩,rfl⟩) trivial rfl (by decide) (by decide)
theorem zKg (w:World) (ht:Tab w) :
  Calls Tryz.prog 15 #[] w fun e w'=>e=.returned (.bool true)∧Below w.heap.size w w':=by
 have HB:=cH (zIt w)
 have g0:(wL w).cell? ⟨w.heap.size+1+1+1+1+1,0,none⟩=some (.slice (some ⟨w.heap.size+1+1+1+1,0,none⟩) 4 4):=cO _ _ 0 _ _ _ (zHz w).2.2.2.1
 have HR:Hid (Calls Tryz.prog 11 #[.agg #[.slice (some ⟨w.heap.size+1+1+1+1,0,none⟩) 4 4],.slice (some ⟨w.heap.size+1+1+1+1+1+1,0,none⟩) 4 4,.agg #[.int .i64 0,.int .i64 0,.int .i64 9,.int .i64 99],.pointer none] (wL w) fun e w'=>
   ∃ vA vc,e=.returned (.tuple #[.agg #[.slice vA 4 vc],.int .i64 0])∧SlV rDir w' (fun b=>(wL w).heap.size≤b) (sortD tL) (.slice vA 4 vc)∧Below (wL w).heap.size (wL w) w'):=by
  refine (zEQ _ 4 4 _ 4 4 0 0 (.pointer none) qL (wL w) (fun _=>True) (zAT ht (zIt w)) (zMV w) (zLj w) (.inl ⟨rfl,rfl⟩) (by unfold I64 qL;decide) (by unfold I64 qL;decide) (by decide) (by decide) (fun x hx=>by
   have:x.deps=[]∧x.peers=[]∧x.opts=[]:=by
    simp only[qL,psL,List.mem_cons,List.mem_nil_iff,or_false] at hx
    rcases hx with rfl|rfl|rfl|rfl<;>exact ⟨rfl,rfl,rfl⟩
   unfold zBY
   rw[this.1,this.2.1,this.2.2]
   unfold zEB
   simp)).mono ?_
  rintro e w' ⟨rv,rfl,h2,h3⟩
  have e1:zBt qL=(sortD tL,0):=zFI zHZ
  rw[e1] at h2 ⊢
  obtain ⟨vA,vc,rfl,_,_⟩:=h2.val
  have e2:(sortD tL).length=4:=by rw[zDN];rfl
  rw[e2] at h2 ⊢
  exact ⟨vA,vc,rfl,h2,h3⟩
 go_enter Tryz.func15,Tryz.ntmps15
 go_upto_region 5 with (fail)
 change Code.wp _ _ _ _ (wL w)
 generalize wL w=w7 at *
 go_wp2_with fail
 refine HR.out.mono ?_
 rintro e w8 ⟨vA,vc,rfl,h8,b8⟩
 have H8:=cH h8
 have HB8:=cH (bot HB.out b8)
 clear h8 b8 HR g0
 have hi2:(sortD tL)[2]?=some ⟨[sA,sB],packL sB 2,3⟩:=by rw[zDN];rfl
 have hi3:(sortD tL)[3]?=some ⟨[sB],packL sB 1,2⟩:=by rw[zDN];rfl
 obtain ⟨b,o,cs,hA,_,hb,hh,hcell⟩:=H8.out.elem hi2
 obtain ⟨s0,s1,s2,s3,rfl,_⟩:=hh
 have n2:=hcell 8 _ rfl
 obtain ⟨b',o',cs',hA',_,hb',hh',hcell'⟩:=H8.out.elem hi3
 obtain ⟨s0',s1',s2',s3',rfl,_⟩:=hh'
 have n3:=hcell' 8 _ rfl
 rw[hA] at hA'
 injection hA' with hA'
 injection hA' with e1 e2 _
 subst e1 e2
 simp only[rDir] at n2 n3
 subst hA
 clear hcell hcell' hi2 hi3
 go_upto_region 6 with (fail)
 obtain ⟨w9,hw9⟩:∃ w9,w9=w8.alloc (.cells #[.slice (some ⟨b,o,none⟩) 4 vc] 33):=⟨_,rfl⟩
 have HB9:Hid (Below w8.heap.size w8 w9):=by unfold Hid;rw[hw9];exact bal (bR _ _) _
 have hq9:w9.heap[w8.heap.size]?=some (.cells #[.slice (some ⟨b,o,none⟩) 4 vc] 33 (0,0)):=by rw[hw9];exact zAD _ _
 rw[←hw9]
 have c0:=cO _ _ 0 _ _ _ hq9
 have hz9:=(aS.1 hq9).1
 have m2:=zAA HB9.out n2 hb
 have m3:=zAA HB9.out n3 hb
 clear hw9 hq9 n2 n3
 have Hf:Hid (Calls Tryz.prog 18 #[.agg #[.slice (some ⟨b,o,none⟩) 4 vc],.slice (some ⟨w9.heap.size,0,none⟩) 2 2] (w9.alloc (.cells #[.string ⟨#[97]⟩,.string ⟨#[98]⟩] 9)) fun e w'=>e=.returned (.int .i64 2)∧Below (w9.alloc (.cells #[.string ⟨#[97]⟩,.string ⟨#[98]⟩] 9)).heap.size (w9.alloc (.cells #[.string ⟨#[97]⟩,.string ⟨#[98]⟩] 9)) w'):=by
  have h:=zDR _ _ 4 vc 2 2 (sortD tL) [sA,sB] (w9.alloc (.cells #[.string ⟨#[97]⟩,.string ⟨#[98]⟩] 9)) _ (fun _=>True) (H8.out.belowSize (bal HB9.out _)) (SlV.of_block (r:=rStr) (S:=fun _=>True) (l:=[sA,sB]) (zAD w9 _) (⟨[.string ⟨#[97]⟩],_,rfl,⟨rfl,by decide⟩,[.string ⟨#[98]⟩],_,rfl,⟨rfl,by decide⟩,rfl⟩) trivial rfl (by decide) (by decide))
  rw[zI9] at h
  exact h
 go_wp2_with fail
 refine Hf.out.mono ?_
 rintro e w10 ⟨rfl,b10⟩
 have HB10:=cH (bot (bal HB9.out _) b10)
 have HBz:=cH (bot (bal (bR w9.heap.size w9) _) b10)
 have p2:=zAA (bot (bal (bR w9.heap.size w9) _) b10) m2 (lL hb HB9.out.size)
 have p3:=zAA (bot (bal (bR w9.heap.size w9) _) b10) m3 (lL hb HB9.out.size)
 have q0:=zAA (bot (bal (bR w9.heap.size w9) _) b10) c0 hz9
 clear b10 Hf
 go_wp2_with fail
 go_ret
 exact ⟨rfl,bot HB8.out HB10.out⟩
end Go.Proofs.YtminjjdnmpaaoaaGreatDoor
namespace Go.Proofs.YtminjjdnmpaaoaaGreatDoor
open Go.ChangeShapes Go.WideShapes Go.ChangeAt Go.RowKit
structure Mani where
 deps:List Dep
 dev:List Dep
 opts:List Dep
 over:List Dep
def rMani:Rp Mani where
 size:=4
 holds:=fun w S x cs=>∃ s0 s1 s2 s3,cs=[s0,s1,s2,s3]∧SlV rDep w S x.deps s0∧SlV rDep w S x.dev s1∧SlV rDep w S x.opts s2∧SlV rDep w S x.over s3
 len:=fun ⟨s0,s1,s2,s3,h,c0,c1,c2,c3⟩=>by rw[h];rfl
 one:=fun ⟨s0,s1,s2,s3,h,c0,c1,c2,c3⟩=>by obtain ⟨_,_,rfl,_⟩:=c0.val;obtain ⟨_,_,rfl,_⟩:=c1.val;obtain ⟨_,_,rfl,_⟩:=c2.val;obtain ⟨_,_,rfl,_⟩:=c3.val;rw[h];simp[Value.oneCell']
 mono:=fun ⟨s0,s1,s2,s3,h,c0,c1,c2,c3⟩ hk=>⟨s0,s1,s2,s3,h,(zAh rDep).mono c0 hk,(zAh rDep).mono c1 hk,(zAh rDep).mono c2 hk,(zAh rDep).mono c3 hk⟩
def zFx (x:Mani):Nat:=1+bkL bkDep x.deps+bkL bkDep x.dev+bkL bkDep x.opts+bkL bkDep x.over
theorem zIG:zCC Tryz.prog 28 rMani zFx:=by
 intro H enc w base fuel cs x h
 obtain ⟨xs,n,rfl,rfl,hlen,hxl,hf⟩:=DataW.trod_struct Tryz.underlying28 h
 rw[show Tryz.prog.cellsOf 28=4 from by kernel_rfl] at hlen
 match cs,hlen with
 | [c0,c1,c2,c3],_=>
   have k0:Tryz.prog.cellsOf 26=1:=by kernel_rfl
   have f0:=hf 0 _ rfl
   have f1:=hf 1 _ rfl
   have f2:=hf 2 _ rfl
   have f3:=hf 3 _ rfl
   match xs,hxl with
   | [x0,x1,x2,x3],_=>
     simp[k0] at f0 f1 f2 f3
     obtain ⟨y0,g0,b0⟩:=zAo (e:=68) Tryz.underlying26 (r:=rDep) (by kernel_rfl) (by decide) zBv H enc w base n [c0] x0 f0
     obtain ⟨y1,g1,b1⟩:=zAo (e:=68) Tryz.underlying26 (r:=rDep) (by kernel_rfl) (by decide) zBv H enc w base n [c1] x1 f1
     obtain ⟨y2,g2,b2⟩:=zAo (e:=68) Tryz.underlying26 (r:=rDep) (by kernel_rfl) (by decide) zBv H enc w base n [c2] x2 f2
     obtain ⟨y3,g3,b3⟩:=zAo (e:=68) Tryz.underlying26 (r:=rDep) (by kernel_rfl) (by decide) zBv H enc w base n [c3] x3 f3
     refine ⟨⟨y0,y1,y2,y3⟩,⟨_,_,_,_,rfl,g0,g1,g2,g3⟩,?_⟩
     simp only[zFx,Rows.uptoBulk,Rows.uptoBulkAll,List.map_cons,List.map_nil] at *
     omega
structure Lim where
 dec:Int
 nod:Int
 dirs:Int
 path:Int
def rLim:Rp Lim where
 size:=4
 holds:=fun w S x cs=>cs=[.int .i64 x.dec,.int .i64 x.nod,.int .i64 x.dirs,.int .i64 x.path]∧I64 x.dec∧I64 x.nod∧I64 x.dirs∧I64 x.path
 len:=fun ⟨h,_⟩=>by rw[h];rfl
 one:=fun ⟨h,_⟩=>by rw[h];simp[Value.oneCell']
 mono:=fun h hk=>h
theorem zJp:zCC Tryz.prog 30 rLim (fun _=>1):=by
 intro H enc w base fuel cs x h
 obtain ⟨xs,n,rfl,rfl,hlen,hxl,hf⟩:=DataW.trod_struct Tryz.underlying30 h
 rw[show Tryz.prog.cellsOf 30=4 from by kernel_rfl] at hlen
 match cs,hlen with
 | [c0,c1,c2,c3],_=>
   have k0:Tryz.prog.cellsOf 3=1:=by kernel_rfl
   have f0:=hf 0 _ rfl
   have f1:=hf 1 _ rfl
   have f2:=hf 2 _ rfl
   have f3:=hf 3 _ rfl
   match xs,hxl with
   | [x0,x1,x2,x3],_=>
     simp[k0] at f0 f1 f2 f3
     obtain ⟨y0,⟨h0,i0⟩,b0⟩:=zBW Tryz.underlying3 H enc w base n [c0] x0 f0
     obtain ⟨y1,⟨h1,i1⟩,b1⟩:=zBW Tryz.underlying3 H enc w base n [c1] x1 f1
     obtain ⟨y2,⟨h2,i2⟩,b2⟩:=zBW Tryz.underlying3 H enc w base n [c2] x2 f2
     obtain ⟨y3,⟨h3,i3⟩,b3⟩:=zBW Tryz.underlying3 H enc w base n [c3] x3 f3
     simp only[List.cons.injEq,and_true] at h0 h1 h2 h3
     subst h0 h1 h2 h3
     exact ⟨⟨y0,y1,y2,y3⟩,⟨rfl,i0,i1,i2,i3⟩,zGQ _⟩
structure Wd where
 packs:List Pack
 man:Mani
 dev:Bool
 lim:Lim
 old:List Dir
 like:Bool
def WdV (w:World) (S:Nat→Prop) (x:Wd) (v:Value):Prop:=
 ∃ kA kn kc mA mn mc nA nn nc lA ln lc vA vn vc oA on oc,v=.agg #[.slice kA kn kc,.slice mA mn mc,.slice nA nn nc,.slice lA ln lc,.slice vA vn vc,.bool x.dev,.int .i64 x.lim.dec,.int .i64 x.lim.nod,.int .i64 x.lim.dirs,.int .i64 x.lim.path,.slice oA on oc,.bool x.like] ∧
   SlV rPack w S x.packs (.slice kA kn kc)∧SlV rDep w S x.man.deps (.slice mA mn mc)∧SlV rDep w S x.man.dev (.slice nA nn nc)∧SlV rDep w S x.man.opts (.slice lA ln lc)∧SlV rDep w S x.man.over (.slice vA vn vc)∧SlV rDir w S x.old (.slice oA on oc)∧(I64 x.lim.dec∧I64 x.lim.nod∧I64 x.lim.dirs∧I64 x.lim.path)
def rWd:Rp Wd where
 size:=12
 holds:=fun w S x cs=>∃ s0 s1 s2 s3 s4 s5,cs=[s0,s1,s2,s3,s4,.bool x.dev,.int .i64 x.lim.dec,.int .i64 x.lim.nod,.int .i64 x.lim.dirs,.int .i64 x.lim.path,s5,.bool x.like]∧SlV rPack w S x.packs s0∧SlV rDep w S x.man.deps s1∧SlV rDep w S x.man.dev s2∧SlV rDep w S x.man.opts s3∧SlV rDep w S x.man.over s4∧SlV rDir w S x.old s5∧(I64 x.lim.dec∧I64 x.lim.nod∧I64 x.lim.dirs∧I64 x.lim.path)
 len:=fun ⟨s0,s1,s2,s3,s4,s5,h,_⟩=>by rw[h];rfl
 one:=fun ⟨s0,s1,s2,s3,s4,s5,h,c0,c1,c2,c3,c4,c5,_⟩=>by obtain ⟨_,_,rfl,_⟩:=c0.val;obtain ⟨_,_,rfl,_⟩:=c1.val;obtain ⟨_,_,rfl,_⟩:=c2.val;obtain ⟨_,_,rfl,_⟩:=c3.val;obtain ⟨_,_,rfl,_⟩:=c4.val;obtain ⟨_,_,rfl,_⟩:=c5.val;rw[h];simp[Value.oneCell']
 mono:=fun ⟨s0,s1,s2,s3,s4,s5,h,c0,c1,c2,c3,c4,c5,i⟩ hk=>⟨s0,s1,s2,s3,s4,s5,h,(zAh rPack).mono c0 hk,(zAh rDep).mono c1 hk,(zAh rDep).mono c2 hk,(zAh rDep).mono c3 hk,(zAh rDep).mono c4 hk,(zAh rDir).mono c5 hk,i⟩
def bkWd (x:Wd):Nat:=1+bkL zCI x.packs+zFx x.man+1+1+(1+bkL bkDir x.old)+1
theorem zLA:zCC Tryz.prog 35 rWd bkWd:=by
 intro H enc w base fuel cs x h
 obtain ⟨xs,n,rfl,rfl,hlen,hxl,hf⟩:=DataW.trod_struct Tryz.underlying35 h
 rw[show Tryz.prog.cellsOf 35=12 from by kernel_rfl] at hlen
 match cs,hlen with
 | [c0,c1,c2,c3,c4,c5,c6,c7,c8,c9,c10,c11],_=>
   have k0:Tryz.prog.cellsOf 25=1:=by kernel_rfl
   have k1:Tryz.prog.cellsOf 28=4:=by kernel_rfl
   have k2:Tryz.prog.cellsOf 4=1:=by kernel_rfl
   have k3:Tryz.prog.cellsOf 30=4:=by kernel_rfl
   have k4:Tryz.prog.cellsOf 33=1:=by kernel_rfl
   have f0:=hf 0 _ rfl
   have f1:=hf 1 _ rfl
   have f2:=hf 2 _ rfl
   have f3:=hf 3 _ rfl
   have f4:=hf 4 _ rfl
   have f5:=hf 5 _ rfl
   match xs,hxl with
   | [x0,x1,x2,x3,x4,x5],_=>
     simp[k0,k1,k2,k3,k4] at f0 f1 f2 f3 f4 f5
     obtain ⟨y0,g0,b0⟩:=zAo (e:=52) Tryz.underlying25 (r:=rPack) (by kernel_rfl) (by decide) zEr H enc w base n [c0] x0 f0
     obtain ⟨v0,h0,g0⟩:∃ v0,[c0]=[v0]∧SlV rPack w (fun b=>b<w.heap.size) y0 v0:=⟨c0,rfl,g0⟩
     obtain ⟨y1,⟨v1,v2,v3,v4,h1,g1,g2,g3,g4⟩,b1⟩:=zIG H enc w base n [c1,c2,c3,c4] x1 f1
     simp only[List.cons.injEq,and_true] at h1
     obtain ⟨rfl,rfl,rfl,rfl⟩:=h1
     obtain ⟨y2,h2,b2⟩:=zFR Tryz.underlying4 H enc w base n [c5] x2 f2
     have h2':[c5]=[Value.bool y2]:=h2
     simp only[List.cons.injEq,and_true] at h2'
     subst h2'
     obtain ⟨y3,⟨h3,i3⟩,b3⟩:=zJp H enc w base n [c6,c7,c8,c9] x3 f3
     simp only[List.cons.injEq,and_true] at h3
     obtain ⟨rfl,rfl,rfl,rfl⟩:=h3
     obtain ⟨y4,⟨v5,h4,g5⟩,b4⟩:=zHr H enc w base n [c10] x4 f4
     simp only[List.cons.injEq,and_true] at h4
     subst h4
     obtain ⟨y5,h5,b5⟩:=zFR Tryz.underlying4 H enc w base n [c11] x5 f5
     have h5':[c11]=[Value.bool y5]:=h5
     simp only[List.cons.injEq,and_true] at h5'
     subst h5'
     simp only[List.cons.injEq,and_true] at h0
     subst h0
     refine ⟨⟨y0,y1,y2,y3,y4.dirs,y5⟩,⟨_,_,_,_,_,_,rfl,g0,g1,g2,g3,g4,g5,i3⟩,?_⟩
     simp only[bkWd,zJ7,Rows.uptoBulk,Rows.uptoBulkAll,List.map_cons,List.map_nil] at *
     omega
theorem zNP {H:Type} {enc:TypeId×Value→H} {w:World} {v:Value} {d:DataW H} {ps:List MemPlace} {base:Nat} {r:Reach}
  (hv:Value.okWide Tryz.prog w r base 35 v) (h:DataW.Trod enc Tryz.prog w 0 (fun _=>true) true 35 v d ps) :
  ∃ x:Wd,WdV w (fun b=>b<w.heap.size) x v∧bkWd x≤Rows.uptoBulk d:=by
 obtain ⟨y,hy,hbk⟩:=zJL zLA h
 obtain ⟨cs,rfl,_⟩:=okWide_struct Tryz.underlying35 hv
 obtain ⟨s0,s1,s2,s3,s4,s5,hcs,g0,g1,g2,g3,g4,g5,i⟩:=hy
 obtain ⟨A0,c0,rfl,_,_⟩:=g0.val
 obtain ⟨A1,c1,rfl,_,_⟩:=g1.val
 obtain ⟨A2,c2,rfl,_,_⟩:=g2.val
 obtain ⟨A3,c3,rfl,_,_⟩:=g3.val
 obtain ⟨A4,c4,rfl,_,_⟩:=g4.val
 obtain ⟨A5,c5,rfl,_,_⟩:=g5.val
 have e:cs.toList=[.slice A0 y.packs.length c0,.slice A1 y.man.deps.length c1,.slice A2 y.man.dev.length c2,.slice A3 y.man.opts.length c3,.slice A4 y.man.over.length c4,.bool y.dev,.int .i64 y.lim.dec,.int .i64 y.lim.nod,.int .i64 y.lim.dirs,.int .i64 y.lim.path,.slice A5 y.old.length c5,.bool y.like]:=hcs
 obtain rfl:cs=#[.slice A0 y.packs.length c0,.slice A1 y.man.deps.length c1,.slice A2 y.man.dev.length c2,.slice A3 y.man.opts.length c3,.slice A4 y.man.over.length c4,.bool y.dev,.int .i64 y.lim.dec,.int .i64 y.lim.nod,.int .i64 y.lim.dirs,.int .i64 y.lim.path,.slice A5 y.old.length c5,.bool y.like]:=Array.ext' e
 exact ⟨y,⟨_,_,_,_,_,_,_,_,_,_,_,_,_,_,_,_,_,_,rfl,g0,g1,g2,g3,g4,g5,i⟩,hbk⟩
def zIp (l:List Pack):Prop:=l.length≤1048576∧∀ x∈l,zBY x
def WdZ (x:Wd):Prop:=∀ d∈x.old,d.path.length * 32≤140737488355328
theorem zEK {l:List Dep} (h:bkL bkDep l≤1048576):zEB l:=by
 have n1:=zDk (bk:=bkDep) (l:=l) fun x=>by unfold bkDep;omega
 refine ⟨by omega,fun d hd=>?_⟩
 have k1:bkDep d≤bkL bkDep l:=zIO (bk:=bkDep) hd
 have k2:=zDk (bk:=bkSpn) (l:=d.range) fun x=>by unfold bkSpn;omega
 have k4:bkDep d=1+(d.name.size+1)+bkL bkSpn d.range:=rfl
 omega
theorem zIB {l:List Pack} {B:Nat} (h:bkL zCI l≤B) (hB:B≤1048576):zIp l:=by
 have n1:=zDk (bk:=zCI) (l:=l) fun x=>by unfold zCI;omega
 refine ⟨by omega,fun x hx=>?_⟩
 have k1:zCI x≤bkL zCI l:=zIO (bk:=zCI) hx
 have k4:zCI x=1+(x.name.size+1)+bkVer x.ver+bkL bkDep x.deps+bkL bkDep x.peers+bkL bkDep x.opts:=rfl
 exact ⟨zEK (by omega),zEK (by omega),zEK (by omega)⟩
theorem zNR {x:Wd} (h:bkWd x≤1048576):WdZ x:=fun d hd=>by
 have e:bkWd x=1+bkL zCI x.packs+zFx x.man+1+1+(1+bkL bkDir x.old)+1:=rfl
 have k1:bkDir d≤bkL bkDir x.old:=zIO (bk:=bkDir) hd
 have k2:=zDk (bk:=fun s:ByteArray=>s.size+1) (l:=d.path) fun x=>by omega
 have k4:bkDir d=1+bkL (fun s:ByteArray=>s.size+1) d.path+zCI d.pack+1:=rfl
 omega
end Go.Proofs.YtminjjdnmpaaoaaGreatDoor
namespace Go.Proofs.YtminjjdnmpaaoaaGreatDoor
open Go.Rows Go.RowKit Go.Shelf Go.Sort
theorem OldV.ptr {w:World} {S:Nat→Prop} {ov:Value} {old:Option (List Dir)} (h:OldV w S ov old):∃ p,ov=.pointer p:=by
 rcases h with ⟨_,h⟩|⟨b,o,_,_,_,_,_,h,_⟩
 ·exact ⟨_,h⟩
 ·exact ⟨_,h⟩
def qW (g:List Node) (ps:List Pack) (x:Wd):PlIn:=⟨g,ps,x.lim.dirs,x.lim.path,if x.like=true then some x.old else none⟩
section
variable {gA pA:Option Addr} {gn gc pn pc:Nat} {g:List Node} {ps:List Pack} {x:Wd} {w:World} {S:Nat→Prop}
variable {oA:Option Addr} {on oc:Nat}
theorem zLf (ht:Tab w) (hg:SlV rNode w S g (.slice gA gn gc)) (hp:SlV rPack w S ps (.slice pA pn pc)) (hgz:g.length≤1048576) (hpz:zIp ps) (hi:I64 x.lim.dirs∧I64 x.lim.path) (W:World) (hW:Below w.heap.size w W) (p:Option Addr) (ho:OldV W (fun b=>b<W.heap.size) (.pointer p) (qW g ps x).old) :
  Calls Tryz.prog 11 #[.agg #[.slice gA gn gc],.slice pA pn pc,.agg #[.int .i64 x.lim.dec,.int .i64 x.lim.nod,.int .i64 x.lim.dirs,.int .i64 x.lim.path],.pointer p] W fun e w'=>
   (∃ A n c,e=.returned (.tuple #[.agg #[.slice A n c],.int .i64 (zBt (qW g ps x)).2])∧SlV rDir w' (fun b=>W.heap.size≤b) (zBt (qW g ps x)).1 (.slice A n c))∧Below W.heap.size W w':=
 (zEQ gA gn gc pA pn pc x.lim.dec x.lim.nod (.pointer p) (qW g ps x) W (fun b=>b<W.heap.size) (zAT ht hW) ((hg.belowSize hW).more fun b _ h=>h) ((hp.belowSize hW).more fun b _ h=>h) ho hi.1 hi.2 hgz hpz.1 hpz.2).mono fun e w' ⟨rv,h1,h2,h3⟩=>by
   obtain ⟨A,c,rfl,_,_⟩:=h2.val
   exact ⟨⟨A,_,c,h1,h2⟩,h3⟩
end
def NodeV (w:World) (S:Nat→Prop) (x:Node) (v:Value):Prop:=
 ∃ A n c B m d,v=.agg #[.string x.name,.int .i64 x.ver.major,.int .i64 x.ver.minor,.int .i64 x.ver.patch,.slice A n c,.slice B m d]∧x.name.size≤maxLen∧SlV rPin w S x.ctx (.slice A n c)∧SlV rEdge w S x.edges (.slice B m d)
theorem NodeV.keep {w w':World} {S:Nat→Prop} {x:Node} {v:Value} (h:NodeV w S x v) (hb:Below w.heap.size w w'):NodeV w' S x v:=by
 obtain ⟨A,n,c,B,m,d,e,h0,h1,h2⟩:=h
 exact ⟨A,n,c,B,m,d,e,h0,h1.belowSize hb,h2.belowSize hb⟩
theorem zCx (a b:ByteArray) (ha:a.size≤maxLen) (hb:b.size≤maxLen) (w:World) :
  Calls Tryz.prog 108 #[.string a,.string b] w fun e w'=>e=.returned (.bool (lessB a b))∧Below w.heap.size w w':=by
 have H:=cH (fun W=>zIX a b ha hb W)
 go_enter Tryz.func108,Tryz.ntmps108
 go_wp2_with fail
 refine (H.out _).mono ?_
 rintro e w1 ⟨rfl,hb1⟩
 go_wp2_with fail
 go_ret
 exact ⟨rfl,hb1⟩
