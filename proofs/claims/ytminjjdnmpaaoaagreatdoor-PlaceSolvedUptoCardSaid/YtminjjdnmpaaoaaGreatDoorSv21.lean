/- The program's placer: Run: walked. -/
import Derived.Test.YtminjjdnmpaaoaaGreatDoorSv18
import Derived.Test.YtminjjdnmpaaoaaGreatDoorSv19
import Derived.Test.YtminjjdnmpaaoaaGreatDoorSv20
import Derived.Test.YtminjjdnmpaaoaaGreatDoorAl
set_option linter.all false
set_option maxHeartbeats 6400000
set_option maxRecDepth 100000
namespace Go.Proofs.YtminjjdnmpaaoaaGreatDoor
open Go.Rows Go.RowKit Go.Shelf Go.Sort
theorem zA6 {P:Program} {fn:Func} {R:Ending→World→Prop} {ty:TypeId} {d:TypeDesc} {p q:Tmp} {a:Act} {W:World} {g:Nat} {x bv:Value} {t:TypeId} (hf:fn.results=#[.cell p ty,.tmp q]) (hd:a.defers=[]) (h2:a.tmps.getD p undef=.pointer (some ⟨g,0,none⟩)) (h3:a.tmps.getD q undef=bv)
  (hg:W.heap[g]?=some (.cells #[x] t (0,0))) (hu:P.underlying ty=some d) (hdd:(match d with|.struct _|.array _ _=>true|_=>false)=true) (hi:(P.info? ty).map (·.size)=some 1)
  (h:R (.returned (.tuple #[.agg #[x],bv])) W):bodyPost P fn R Exit.ret a W:=
 bodyPost_ret (zBo hf a.tmps W g t #[x] (0,0) d h2 hg hu hdd hi) hd (by rw[h3];exact h)
theorem zAt {W:World} {b:Nat} {x:Value} {t:TypeId} (h:W.heap[b]?=some (.cells #[x] t (0,0))) (v:Value):(W.setCell ⟨b,0,none⟩ v).heap[b]?=some (.cells #[v] t (0,0)):=zAX (o:=0) h v
theorem zB5 {q:PlIn} {f k:Nat} {st:PlSt} (h:k<st.1.length):dirsP q (f+1) k st=match dirP q k st with
 | .error c=>.error c
 | .ok st'=>dirsP q f (k+1) st':=by rw[dirsP,if_pos h];rfl
theorem zD6 {q:PlIn} {f k:Nat} {st:PlSt} (h:¬k<st.1.length):dirsP q f k st=.ok st:=by
 cases f with
 | zero=>rfl
 | succ f=>rw[dirsP,if_neg h]
theorem zBd {q:PlIn} {c:Int} (h:zBN q=.error c):zAy q=([],c):=by unfold zAy;rw[h]
theorem zEt {q:PlIn} {st:PlSt} (h:zBN q=.ok st):zAy q=(sortD st.1,0):=by unfold zAy;rw[h]
theorem OldV.wide {w:World} {S:Nat→Prop} {ov:Value} {old:Option (List Dir)} (h:OldV w S ov old):OldV w (fun b=>b<w.heap.size) ov old:=by
 rcases h with h|⟨b,o,A,n,c,l,h1,h2,h3,h4,h5,h6,h7⟩
 ·exact .inl h
 ·exact .inr ⟨b,o,A,n,c,l,h1,h2,h3,h3,h5,h6.more fun b _ h=>h,h7⟩
theorem PlS.made (C:PlCtx) {w:World} {DB:Nat} (hD:C.w0.heap.size≤DB) (hDP:DB≠C.P) (hd:w.heap[DB]?=some (.cells zBT.toArray 54 (0,0)))
  (hP:w.heap[C.P]?=some (.cells (plRow C (.slice (some ⟨DB,0,none⟩) 1 1) (.slice none 0 0)) 78 (0,0))) (hb:Below C.w0.heap.size C.w0 w):PlS C w ([dirZ0],[]) (fun _=>False):=by
 refine ⟨some ⟨DB,0,none⟩,1,none,0,hP,⟨fun b hb=>hb.elim,zBT,⟨rfl,.inr ⟨DB,1,zBT.toArray,rfl,hD,hd,nR _,by decide,rfl,rfl⟩⟩,zBT,[],rfl,zD7 _ _,rfl⟩,Own.nil_ rStl w _ _ (fun b hb=>hb.elim),fun b hb=>hb.elim,fun e=>hDP (Option.some.inj e),(fun e=>by cases e),(fun k _ e=>by cases e),hb,fun b hb=>hb.elim⟩
theorem zGG (gA:Option Addr) (gn gc:Nat) (pA:Option Addr) (pn pc:Nat) (dec nod:Int) (ov:Value) (q:PlIn) (w:World) (S:Nat→Prop) (ht:Tab w) (hg:SlV rNode w S q.g (.slice gA gn gc)) (hp:SlV rPack w S q.ps (.slice pA pn pc)) (ho:OldV w S ov q.old)
  (hdi:I64 q.dirs) (hpi:I64 q.path) (hgz:q.g.length≤1048576) (hpz:q.ps.length≤1048576) (hsm:∀ x∈q.ps,zBR x) :
  Calls Tryz.prog 11 #[.agg #[.slice gA gn gc],.slice pA pn pc,.agg #[.int .i64 dec,.int .i64 nod,.int .i64 q.dirs,.int .i64 q.path],ov] w fun e w'=>
   ∃ rv,e=.returned (.tuple #[.agg #[rv],.int .i64 (zAy q).2])∧SlV rDir w' (fun b=>w.heap.size≤b∧FreeB w' b) (zAy q).1 rv∧Below w.heap.size w w':=by
 obtain ⟨op,rfl⟩:∃ p,ov=.pointer p:=by
  rcases ho with ⟨_,h⟩|⟨b,o,_,_,_,_,_,h,_⟩
  ·exact ⟨_,h⟩
  ·exact ⟨_,h⟩
 obtain ⟨dd,hdd⟩:∃ d,d=q.dirs:=⟨_,rfl⟩
 obtain ⟨dp,hdp⟩:∃ d,d=q.path:=⟨_,rfl⟩
 rw[←hdd,←hdp]
 have Hdd:=cH hdd
 have Hdp:=cH hdp
 have HE1:Hid (q.dirs<1∨256<q.dirs∨q.path<1∨1024<q.path→zAy q=([],1)):=fun h=>zBd (by unfold zBN;rw[if_pos h])
 have HE2:Hid (¬(q.dirs<1∨256<q.dirs∨q.path<1∨1024<q.path)→zCL q.old=true→zAy q=([],42)):=fun h h2=>zBd (by unfold zBN;rw[if_neg h,if_pos h2])
 have HE3:Hid (¬(q.dirs<1∨256<q.dirs∨q.path<1∨1024<q.path)→zCL q.old=false→mayPl q.g q.ps=false→zAy q=([],33)):=fun h h2 h3=>zBd (by unfold zBN;rw[if_neg h,if_neg (by rw[h2];decide),if_pos h3])
 have HE4:Hid (¬(q.dirs<1∨256<q.dirs∨q.path<1∨1024<q.path)→zCL q.old=false→mayPl q.g q.ps=true→zBN q=dirsP q 258 0 ([dirZ0],[])):=fun h h2 h3=>by unfold zBN;rw[if_neg h,if_neg (by rw[h2];decide),if_neg (by rw[h3];decide)]
 have Ht:=cH ht
 have Hg:=cH (hg.more (S':=fun b=>b<w.heap.size) fun b _ h=>h)
 have Hp:=cH (hp.more (S':=fun b=>b<w.heap.size) fun b _ h=>h)
 have Ho:=cH ho
 have Hi:Hid (I64 q.dirs∧I64 q.path∧q.g.length≤1048576∧q.ps.length≤1048576∧∀ x∈q.ps,zBR x):=⟨hdi,hpi,hgz,hpz,hsm⟩
 have HNl:=fun (W:World)=>cH (SlV.nil_ rDir W (fun b=>w.heap.size≤b∧FreeB W b))
 clear ht hg hp ho hdi hpi hgz hpz hsm hdd hdp
 generalize hR:zAy q=R at *
 have HR:=cH hR
 clear hR
 go_enter Tryz.func11,Tryz.ntmps11
 go_upto_region 1 with (fail)
 obtain ⟨w3,hw3⟩:∃ w3,w3=((w.alloc (.cells #[.slice gA gn gc] 24)).alloc (.cells #[.int .i64 dec,.int .i64 nod,.int .i64 dd,.int .i64 dp] 30)).alloc (.cells #[.slice none 0 0] 33):=⟨_,rfl⟩
 have hz1:(w.alloc (.cells #[.slice gA gn gc] 24)).heap.size=w.heap.size+1:=by simp
 have hz2:((w.alloc (.cells #[.slice gA gn gc] 24)).alloc (.cells #[.int .i64 dec,.int .i64 nod,.int .i64 dd,.int .i64 dp] 30)).heap.size=w.heap.size+2:=by simp
 have hB3:Below w.heap.size w w3:=by rw[hw3];exact bal (bal (bal (bR _ _) _) _) _
 have hq1:w3.heap[w.heap.size]?=some (.cells #[.slice gA gn gc] 24 (0,0)):=by
  rw[hw3];exact (Below.heap_alloc _ _ _ (by rw[hz2];omega)).trans ((Below.heap_alloc _ _ _ (by rw[hz1];omega)).trans (zAD _ _))
 have hq2:w3.heap[w.heap.size+1]?=some (.cells #[.int .i64 dec,.int .i64 nod,.int .i64 dd,.int .i64 dp] 30 (0,0)):=by
  rw[hw3,←hz1];exact (Below.heap_alloc _ _ _ (by simp)).trans (zAD _ _)
 have hq3:w3.heap[w.heap.size+2]?=some (.cells #[.slice none 0 0] 33 (0,0)):=by
  rw[hw3,←hz2];exact zAD _ _
 rw[←hw3]
 have HB3:=cH hB3
 obtain ⟨GB,hGB⟩:∃ k,k=w.heap.size:=⟨_,rfl⟩
 obtain ⟨LB,hLB⟩:∃ k,k=w.heap.size+1:=⟨_,rfl⟩
 obtain ⟨TB,hTB⟩:∃ k,k=w.heap.size+2:=⟨_,rfl⟩
 rw[←hGB] at hq1
 rw[←hLB] at hq2
 rw[←hTB] at hq3
 have HTB:Hid (w.heap.size≤TB):=by unfold Hid;omega
 have hlt1:GB<w3.heap.size:=(aS.1 hq1).1
 have hlt2:LB<w3.heap.size:=(aS.1 hq2).1
 have hlt3:TB<w3.heap.size:=(aS.1 hq3).1
 have HQ:Hid (∀ W,Below w3.heap.size w3 W→W.heap[GB]?=some (.cells #[.slice gA gn gc] 24 (0,0))∧W.heap[LB]?=some (.cells #[.int .i64 dec,.int .i64 nod,.int .i64 dd,.int .i64 dp] 30 (0,0))∧W.heap[TB]?=some (.cells #[.slice none 0 0] 33 (0,0))):=fun W hW=>⟨(hW.block _ hlt1).trans hq1,(hW.block _ hlt2).trans hq2,(hW.block _ hlt3).trans hq3⟩
 have HEr:Hid (∀ W,Below w3.heap.size w3 W→W.heap[TB]?=some (.cells #[.slice none 0 0] 33 (0,0))∧W.frozen? ⟨TB,0,none⟩=false∧W.cell? ⟨TB,0,none⟩=some (.slice none 0 0)∧Below w.heap.size w (W.setCell ⟨TB,0,none⟩ (.slice none 0 0))):=fun W hW=>by
  have h:=(hW.block _ hlt3).trans hq3
  exact ⟨h,zAZ h,cO _ _ 0 _ _ _ h,(bot HB3.out hW).setCell (p:=⟨TB,0,none⟩) HTB.out _⟩
 rw[←hTB,←hLB,←hGB]
 clear hw3 hz1 hz2 hB3 hGB hLB hTB
 have l2:=cO _ _ 2 _ _ _ hq2
 have l3:=cO _ _ 3 _ _ _ hq2
 obtain ⟨t0,tf,tc,tb⟩:=HEr.out w3 (bR _ _)
 have Ht0:=cH t0
 have Htb:=cH tb
 clear hq1 hq2 hq3 t0 tb
 by_cases h1:dd<1
 case pos=>
  have Hr:=cH (HE1.out (.inl (by rw[←Hdd.out];exact h1)))
  clear HE1 HE2 HE3 HE4
  go_wp2_with fail
  refine zA6 rfl rfl rfl rfl (zAt Ht0.out _) Tryz.underlying33 rfl (by kernel_rfl) ⟨.slice none 0 0,?_,?_,Htb.out⟩
  ·rw[Hr.out];rfl
  ·rw[Hr.out];exact (HNl _).out
 by_cases h2:256<dd
 case pos=>
  have Hr:=cH (HE1.out (.inr (.inl (by rw[←Hdd.out];exact h2))))
  clear HE1 HE2 HE3 HE4
  go_wp2_with fail
  refine zA6 rfl rfl rfl rfl (zAt Ht0.out _) Tryz.underlying33 rfl (by kernel_rfl) ⟨.slice none 0 0,?_,?_,Htb.out⟩
  ·rw[Hr.out];rfl
  ·rw[Hr.out];exact (HNl _).out
 by_cases h3:dp<1
 case pos=>
  have Hr:=cH (HE1.out (.inr (.inr (.inl (by rw[←Hdp.out];exact h3)))))
  clear HE1 HE2 HE3 HE4
  go_wp2_with fail
  refine zA6 rfl rfl rfl rfl (zAt Ht0.out _) Tryz.underlying33 rfl (by kernel_rfl) ⟨.slice none 0 0,?_,?_,Htb.out⟩
  ·rw[Hr.out];rfl
  ·rw[Hr.out];exact (HNl _).out
 by_cases h4:1024<dp
 case pos=>
  have Hr:=cH (HE1.out (.inr (.inr (.inr (by rw[←Hdp.out];exact h4)))))
  clear HE1 HE2 HE3 HE4
  go_wp2_with fail
  refine zA6 rfl rfl rfl rfl (zAt Ht0.out _) Tryz.underlying33 rfl (by kernel_rfl) ⟨.slice none 0 0,?_,?_,Htb.out⟩
  ·rw[Hr.out];rfl
  ·rw[Hr.out];exact (HNl _).out
 have Hlim:Hid (¬(q.dirs<1∨256<q.dirs∨q.path<1∨1024<q.path)):=by unfold Hid;rw[←Hdd.out,←Hdp.out];omega
 have hdz:dd≤256:=by omega
 have hpz:dp≤1024:=by omega
 clear HE1
 go_upto_region 3 with (fail)
 go_cut [33] from 34 to 42 (fun bv wx=>bv=.bool (zCL q.old)∧Hid (Below w3.heap.size w3 wx))
 case first=>
  clear HE2 HE3 HE4 HEr Ht0 Htb l2 l3 tf tc
  rcases Ho.out with ⟨hn,hov⟩|⟨b,o,A,n,c,l,hl,hov,hb,hS,hcell,hsl,hlen⟩
  ·cases hov
   have hbo:zCL q.old=false:=by rw[hn];rfl
   have Hbo:=cH hbo
   clear hn hbo
   go_wp2_with fail
   go_meet
   exact ⟨by rw[Hbo.out],bR _ _⟩
  ·cases hov
   have x0:=zAA HB3.out hcell hb
   have HCh:=cH (zK1 A n c l w3 S (zAY Ht.out HB3.out) hlen (hsl.belowSize HB3.out))
   have hbo:zCL q.old=decide (zBA l≠0):=by rw[hl];rfl
   have Hbo:=cH hbo
   clear hl hbo hcell hsl hlen hb hS
   generalize zBA l=ce at *
   by_cases hc:ce=0
   ·subst hc
    go_wp2_with fail
    refine HCh.out.mono ?_
    rintro e w5 ⟨rfl,B5⟩
    go_wp2_with fail
    go_meet
    exact ⟨by rw[Hbo.out];rfl,B5⟩
   ·have hcb:(ce != 0)=true:=by show (!(ce==0))=true;rw[beq_eq_false_iff_ne.2 hc];rfl
    have Hcd:=cH (Hbo.out.trans (decide_eq_true hc))
    clear hc
    go_wp2_with fail
    refine HCh.out.mono ?_
    rintro e w5 ⟨rfl,B5⟩
    go_wp2_with fail
    go_meet
    exact ⟨by rw[Hcd.out],B5⟩
 case rest=>
 obtain ⟨hbv,HB4⟩:=hcut
 have HC4:Hid (Below w3.heap.size w3 wc):=HB4
 generalize wc=w4 at *
 clear l2 l3 tf tc Ht0 Htb
 cases hbo:zCL q.old with
 | true=>
   rw[hbo] at hbv
   subst hbv
   obtain ⟨t0,tf,tc,tb⟩:=HEr.out w4 HC4.out
   have Ht0:=cH t0
   have Htb:=cH tb
   have Hr:=cH (HE2.out Hlim.out hbo)
   clear HE2 HE3 HE4 t0 tb hbo
   go_wp2_with fail
   refine zA6 rfl rfl rfl rfl (zAt Ht0.out _) Tryz.underlying33 rfl (by kernel_rfl) ⟨.slice none 0 0,?_,?_,Htb.out⟩
   ·rw[Hr.out];rfl
   ·rw[Hr.out];exact (HNl _).out
 | false=>
 rw[hbo] at hbv
 subst hbv
 have HE3':=cH (HE3.out Hlim.out hbo)
 have HE4':=cH (HE4.out Hlim.out hbo)
 have HBw4:Hid (Below w.heap.size w w4):=bot HB3.out HC4.out
 obtain ⟨gq,lq,tq⟩:=HQ.out w4 HC4.out
 have g0:=cO _ _ 0 _ _ _ gq
 have l0:=cO _ _ 0 _ _ _ lq
 have l1:=cO _ _ 1 _ _ _ lq
 have l2:=cO _ _ 2 _ _ _ lq
 have l3:=cO _ _ 3 _ _ _ lq
 have Htq:=cH tq
 clear HE2 HE3 HE4 hbo gq lq tq HQ HEr HC4 HB4
 go_upto_region 6 with (fail)
 obtain ⟨w5,hw5⟩:∃ w5,w5=(w4.alloc (.cells #[.slice none 0 0,.string ⟨#[]⟩,.int .i64 0,.int .i64 0,.int .i64 0,.slice none 0 0,.slice none 0 0,.slice none 0 0,.int .i64 0] 54)).alloc (.cells #[.slice gA gn gc,.slice pA pn pc,.int .i64 dec,.int .i64 nod,.int .i64 dd,.int .i64 dp,.pointer op,.slice (some ⟨w4.heap.size,0,none⟩) 1 1,.slice none 0 0] 78):=⟨_,rfl⟩
 have hB5:Below w4.heap.size w4 w5:=by rw[hw5];exact bal (bal (bR _ _) _) _
 have hq5:=zIo w4 (.cells #[.slice none 0 0,.string ⟨#[]⟩,.int .i64 0,.int .i64 0,.int .i64 0,.slice none 0 0,.slice none 0 0,.slice none 0 0,.int .i64 0] 54) (.cells #[.slice gA gn gc,.slice pA pn pc,.int .i64 dec,.int .i64 nod,.int .i64 dd,.int .i64 dp,.pointer op,.slice (some ⟨w4.heap.size,0,none⟩) 1 1,.slice none 0 0] 78)
 rw[←hw5] at hq5 ⊢
 obtain ⟨C,hC⟩:∃ C:PlCtx,C=⟨w4,w4.heap.size+1,gA,gn,gc,pA,pn,pc,dec,nod,.pointer op,q⟩:=⟨_,rfl⟩
 have hCok:C.Ok:=by
  rw[hC]
  exact ⟨zAY Ht.out HBw4.out,(Hg.out.belowSize HBw4.out).more fun b _ h=>h,(Hp.out.belowSize HBw4.out).more fun b _ h=>h,(Ho.out.keep HBw4.out).wide,Nat.le_succ _,Hi.out.1,Hi.out.2.1,Hi.out.2.2.1,Hi.out.2.2.2.1⟩
 have hPs:PlS C w5 ([dirZ0],[]) (fun _=>False):=by
  refine PlS.made C (DB:=w4.heap.size) (by rw[hC];exact nR _) (by rw[hC];exact (Nat.ne_of_lt (Nat.lt_succ_self _))) hq5.1 ?_ (by rw[hC];exact hB5)
  rw[hC]
  show w5.heap[w4.heap.size+1]?=_
  rw[hq5.2,Hdd.out,Hdp.out]
  rfl
 have hCP:w4.heap.size+1=C.P:=by rw[hC]
 have hCw:C.w0=w4:=by rw[hC]
 have hCq:C.q=q:=by rw[hC]
 have HCok:=cH hCok
 have HPs:=cH hPs
 have HCw:=cH hCw
 have HCq:=cH hCq
 have HB5:=cH hB5
 rw[hCP]
 clear hw5 hB5 hq5 hC hCok hPs hCP hCw hCq g0 l0 l1 l2 l3
 have HMy:Hid (Calls Tryz.prog 22 #[.pointer (some ⟨C.P,0,none⟩)] w5 fun e w'=>e=.returned (.bool (mayPl C.q.g C.q.ps))∧Below w5.heap.size w5 w'):=zMf C HCok.out w5 _ HPs.out.all
 rw[HCq.out] at HMy
 have HTq:Hid (∀ W,Below C.w0.heap.size C.w0 W→W.heap[TB]?=some (.cells #[.slice none 0 0] 33 (0,0))∧W.frozen? ⟨TB,0,none⟩=false∧W.cell? ⟨TB,0,none⟩=some (.slice none 0 0)∧∀ v,Below w.heap.size w (W.setCell ⟨TB,0,none⟩ v)):=fun W hW=>by
  rw[HCw.out] at hW
  have h:=(hW.block _ (aS.1 Htq.out).1).trans Htq.out
  exact ⟨h,zAZ h,cO _ _ 0 _ _ _ h,fun v=>(bot HBw4.out hW).setCell (p:=⟨TB,0,none⟩) HTB.out _⟩
 cases hmy:mayPl q.g q.ps with
 | false=>
   have Hr:=cH (HE3'.out hmy)
   rw[hmy] at HMy
   clear HE3' HE4' hmy
   go_wp2_with fail
   refine HMy.out.mono ?_
   rintro e w6 ⟨rfl,B6⟩
   obtain ⟨t0,tf,tc,tb⟩:=HTq.out w6 (bot HPs.out.all.base B6)
   have Ht0:=cH t0
   have Htb:=cH tb
   clear t0 tb
   go_wp2_with fail
   refine zA6 rfl rfl rfl rfl (zAt Ht0.out _) Tryz.underlying33 rfl (by kernel_rfl) ⟨.slice none 0 0,?_,?_,Htb.out _⟩
   ·rw[Hr.out];rfl
   ·rw[Hr.out];exact (HNl _).out
 | true=>
 have HE:=cH (HE4'.out hmy)
 have HMp:=cH hmy
 rw[hmy] at HMy
 clear HE3' HE4' hmy
 go_wp2_with fail
 refine HMy.out.mono ?_
 rintro e w6 ⟨rfl,B6⟩
 have HPs6:=cH (HPs.out.keep B6).all
 clear HPs HMy B6
 go_wp2_with fail
 go_loopw [11] (fun t wr=>∃ (k:Nat) (stk:PlSt),k≤257∧t=.int .i64 k∧Hid (PlWd C wr stk∧PlInv C.q k [] stk∧stk.2.length≤k * 128∧dirsP q (258 - k) k stk=zBN q)) (fun t _=>258 - (intOf t).toNat)
 case atStart=>exact ⟨0,([dirZ0],[]),by decide,rfl,HPs6.out,PlInv.start _,nZ _,HE.out.symm⟩
 case round=>
  clear HPs6 HE
  obtain ⟨k,stk,hk,rfl,hh⟩:=hrel
  have HPw:=cH hh.1
  have HIn:=cH hh.2.1
  have HLn:=cH hh.2.2.1
  have HGo:=cH hh.2.2.2
  have hlen257:=hh.2.1.len
  clear hh
  obtain ⟨A,c,A',c',S',hpp⟩:=HPw.out.parts
  have x7:=hpp.rd.c7
  have HPp:=cH hpp
  have hk0:(0:Int)≤(k:Int):=by omega
  obtain ⟨N,hN⟩:∃ N,N=stk.1.length:=⟨_,rfl⟩
  rw[←hN] at x7 hlen257
  have HN:=cH hN
  clear hN hpp
  by_cases hlt:k<N
  case neg=>
   have hI:¬(k:Int)<(N:Int):=by omega
   have Hr:Hid (R=(sortD stk.1,0)):=by
    unfold Hid
    rw[←HR.out]
    exact zEt (by rw[←HGo.out,zD6 (by rw[←HN.out];exact hlt)])
   have hpos:0<stk.1.length:=HIn.out.pos
   have HSo:=cH (zIY _ stk.1 wr _ S' HPp.out.T (by rw[←HN.out];omega) hpos (fun d hd=>by
    have:=nT (zDq (HIn.out.names d hd).1) (HIn.out.names d hd).2
    omega) (zHj HIn.out))
   rw[←HN.out] at HSo
   have HT:=cH HPp.out.tp
   have HL:=cH HPp.out.T.lt
   have HNw:=cH HPp.out.new
   have HFo:Hid (∀ b,(Value.slice A stk.1.length c).ownBlock=some b→FreeB wr b):=fun b hb=>HPp.out.T.free hb
   have HBs:=cH HPp.out.base
   have hHP:=HPp.out.hP
   rw[←HN.out] at HT HL HFo
   clear HGo HPw hlt
   go_wp2_with fail
   refine HSo.out.mono ?_
   rintro e w7 ⟨rfl,hs7,hg7,hf7⟩
   have hb7:Below C.w0.heap.size C.w0 w7:=HBs.out.grown hg7 HBs.out.size fun b hb=>(HL.out b hb).1
   obtain ⟨t0,tf,tc,tb⟩:=HTq.out w7 hb7
   have z7:w7.cell? ⟨C.P,7,none⟩=some (.slice A N c):=(zAW (hg7.block C.P hHP (fun e=>HT.out e.symm)) 7 none).trans x7
   have hTBw:TB<C.w0.heap.size:=by rw[HCw.out];exact (aS.1 Htq.out).1
   have HSl:Hid (SlV rDir (w7.setCell ⟨TB,0,none⟩ (.slice A N c)) (fun b=>w.heap.size≤b∧FreeB (w7.setCell ⟨TB,0,none⟩ (.slice A N c)) b) (sortD stk.1) (.slice A N c)):=by
    refine SlV.more (S:=fun b=>S' b∨(Value.slice A N c).ownBlock=some b) (SlV.keep hs7 fun b hb hl=>heap_setCell_other w7 ⟨TB,0,none⟩ b _ (fun e=>?_)) (fun b hb _=>?_)
    ·have e2:b=TB:=e
     rcases hb with hb|hb
     ·have:=(HNw.out b hb).1;omega
     ·have:=(HL.out b hb).1;omega
    ·have h1:w.heap.size≤C.w0.heap.size:=by rw[HCw.out];exact HBw4.out.size
     rcases hb with hb|hb
     ·exact ⟨nT h1 (HNw.out b hb).1,(hf7 b (HNw.out b hb).2).set _ _ _⟩
     ·exact ⟨nT h1 (HL.out b hb).1,(hf7 b (HFo.out b hb)).set _ _ _⟩
   have Ht0:=cH t0
   have Htb:=cH (tb (.slice A N c))
   clear t0 tb hs7 hg7 hb7 x7 HSo hf7 HFo
   go_wp2_with fail
   refine zA6 rfl rfl rfl rfl (zAt Ht0.out _) Tryz.underlying33 rfl (by kernel_rfl) ⟨.slice A N c,?_,?_,Htb.out⟩
   ·rw[Hr.out];rfl
   ·rw[Hr.out];exact HSl.out
  have hkn:(k:Int)<(N:Int):=by omega
  obtain ⟨f,hf⟩:∃ f,258 - k=f+1:=⟨257 - k,by omega⟩
  have HSt:Hid (zBN q=match dirP q k stk with|.error c=>.error c|.ok st'=>dirsP q f (k+1) st'):=by
   unfold Hid;rw[←HGo.out,hf,zB5 (by rw[←HN.out];exact hlt)]
  have hfe:f=258 - (k+1):=by omega
  subst hfe
  have HDr:=cH (zGc C HCok.out wr stk HPw.out (at_:=k) HIn.out (by rw[HCq.out];exact HMp.out) (by rw[HCq.out,←Hdp.out];exact hpz) (by rw[HCq.out,←Hdd.out];exact hdz) (by rw[←HN.out];exact hlt) (by rw[HCq.out];exact Hi.out.2.2.2.2) HLn.out)
  rw[HCq.out] at HDr
  clear HGo HPw HIn HLn HPp hf
  go_wp2_with fail
  refine HDr.out.mono ?_
  rintro e w7 (⟨c,h1,rfl,hc,hb7,_⟩|⟨st',h1,rfl,hP7,_,hl7,hi7⟩)
  ·have Hr:Hid (R=([],c)):=by
    unfold Hid
    rw[←HR.out]
    exact zBd (by rw[HSt.out,h1])
   obtain ⟨t0,tf,tc,tb⟩:=HTq.out w7 hb7
   have Ht0:=cH t0
   have Htb:=cH tb
   clear t0 tb hb7 h1 HSt HDr x7
   rcases hc with rfl|rfl|rfl
   all_goals
    go_wp2_with fail
    refine zA6 rfl rfl rfl rfl (zAt Ht0.out _) Tryz.underlying33 rfl (by kernel_rfl) ⟨.slice none 0 0,?_,?_,Htb.out _⟩
    ·rw[Hr.out];rfl
    ·rw[Hr.out];exact (HNl _).out
  ·have HS2:Hid (dirsP q (258 - (k+1)) (k+1) st'=zBN q):=by unfold Hid;rw[HSt.out,h1]
   have HP7:=cH hP7
   have Hl7:=cH hl7
   rw[←HCq.out] at hi7
   have Hi7:=cH hi7
   clear h1 hP7 hl7 hi7 HSt HDr x7
   go_wp2_with fail
   go_roundw
   case rel=>exact ⟨k+1,st',by omega,by go_num,HP7.out,Hi7.out,Hl7.out,HS2.out⟩
   case measure=>simp[intOf];omega
theorem zEK (gA:Option Addr) (gn gc:Nat) (pA:Option Addr) (pn pc:Nat) (dec nod:Int) (ov:Value) (q:PlIn) (w:World) (S:Nat→Prop) (ht:Tab w) (hg:SlV rNode w S q.g (.slice gA gn gc)) (hp:SlV rPack w S q.ps (.slice pA pn pc)) (ho:OldV w S ov q.old)
  (hdi:I64 q.dirs) (hpi:I64 q.path) (hgz:q.g.length≤1048576) (hpz:q.ps.length≤1048576) (hsm:∀ x∈q.ps,zBR x) :
  Calls Tryz.prog 11 #[.agg #[.slice gA gn gc],.slice pA pn pc,.agg #[.int .i64 dec,.int .i64 nod,.int .i64 q.dirs,.int .i64 q.path],ov] w fun e w'=>
   ∃ rv,e=.returned (.tuple #[.agg #[rv],.int .i64 (zAy q).2])∧SlV rDir w' (fun b=>w.heap.size≤b) (zAy q).1 rv∧Below w.heap.size w w':=
 (zGG gA gn gc pA pn pc dec nod ov q w S ht hg hp ho hdi hpi hgz hpz hsm).mono fun e w' ⟨rv,h1,h2,h3⟩=>⟨rv,h1,h2.more fun b hb _=>hb.1,h3⟩
set_option maxRecDepth 100000
structure DocK (q:PlIn) (at_:Nat) (n:Node) (d:Dir) (R:Except Int PlSt) (kind:Nat) (stk:PlSt):Prop where
 go:zBs q at_ n ([1,2,3].drop (kind - 1)) stk=R
 inv:∃ done,PlInv q at_ done stk∧zCE q n kind 0 done
 here:stk.1[at_]?=some d
 len:stk.2.length≤at_ * 384+(kind - 1) * 128
structure DocG (q:PlIn) (at_:Nat) (n:Node) (d:Dir) (R:Except Int PlSt) (kind k:Nat) (stk:PlSt):Prop where
 go:(match zBF q at_ n kind (n.edges.drop k) stk with|.error c=>.error c|.ok st'=>zBs q at_ n ([1,2,3].drop kind) st')=R
 inv:∃ done,PlInv q at_ done stk∧zCE q n kind k done
 here:stk.1[at_]?=some d
 len:stk.2.length≤at_ * 384+(kind - 1) * 128+k
section
variable {q:PlIn} {at_:Nat} {n:Node} {d:Dir} {R:Except Int PlSt} {kind k:Nat} {stk:PlSt}
theorem DocK.start (h:PlInv q at_ [] stk) (hd:stk.1[at_]?=some d) {j:Nat} (hj:d.node=(j:Int)) (hn:q.g[j]?=some n) (hl:stk.2.length≤at_ * 384):DocK q at_ n d (dirP q at_ stk) 1 stk:=by
 refine ⟨?_,⟨[],h,fun s hs=>by cases hs⟩,hd,by omega⟩
 unfold dirP
 rw[zET hd,hj,Int.toNat_natCast]
 have:zBW q j=n:=by unfold zBW;rw[List.getD_eq_getElem?_getD,hn];rfl
 rw[this];rfl
theorem DocK.enter (h:DocK q at_ n d R kind stk) (h1:1≤kind) (h3:kind≤3):DocG q at_ n d R kind 0 stk:=by
 refine ⟨?_,h.inv,h.here,h.len⟩
 have e:([1,2,3]:List Nat).drop (kind - 1)=kind::([1,2,3]:List Nat).drop kind:=by
  match kind,h1,h3 with
  | 1,_,_=>rfl
  | 2,_,_=>rfl
  | 3,_,_=>rfl
 have h4:=h.go
 rw[e,zBs] at h4
 rw[List.drop_zero]
 exact h4
theorem DocG.skip (h:DocG q at_ n d R kind k stk) {e:Edge} (he:n.edges[k]?=some e) (hk:kindP q n e≠kind):DocG q at_ n d R kind (k+1) stk:=by
 obtain ⟨done,i1,i2⟩:=h.inv
 have h4:=h.go
 rw[zCb q at_ n kind he,if_neg hk] at h4
 exact ⟨h4,⟨done,i1,i2.more (Nat.le_succ k)⟩,h.here,by have:=h.len;omega⟩
theorem DocG.err (h:DocG q at_ n d R kind k stk) {e:Edge} (he:n.edges[k]?=some e) (hk:kindP q n e=kind) {c:Int} (hs:stepE q at_ kind e stk=.error c):R=.error c:=by
 have h4:=h.go
 rw[zCb q at_ n kind he,if_pos hk,hs] at h4
 exact h4.symm
theorem DocG.ok (h:DocG q at_ n d R kind k stk) (hm:mayPl q.g q.ps=true) (hq:q.path≤1024) (hqd:q.dirs≤256) {j:Nat} (hn:q.g[j]?=some n) {e:Edge} (he:n.edges[k]?=some e) (hk:kindP q n e=kind) {st':PlSt} (hs:stepE q at_ kind e stk=.ok st'):DocG q at_ n d R kind (k+1) st':=by
 obtain ⟨done,i1,i2⟩:=h.inv
 have h4:=h.go
 rw[zCb q at_ n kind he,if_pos hk,hs] at h4
 obtain ⟨g1,⟨l,g2⟩,g3⟩:=zEo i1 hm hq hqd h.here hn (mG he) (i2.not (zBt hm hn) he hk) hs
 refine ⟨h4,⟨_,g1,i2.step he hk⟩,?_,by have:=h.len;omega⟩
 rw[g2,List.getElem?_append_left (gS.1 h.here).1]
 exact h.here
theorem DocG.done_ (h:DocG q at_ n d R kind n.edges.length stk) (h1:1≤kind) (hl:n.edges.length≤128):DocK q at_ n d R (kind+1) stk:=by
 obtain ⟨done,i1,i2⟩:=h.inv
 have h4:=h.go
 rw[List.drop_length,zBF] at h4
 refine ⟨h4,⟨done,i1,i2.turn⟩,h.here,?_⟩
 have:=h.len
 have e:(kind+1 - 1) * 128=(kind - 1) * 128+128:=by omega
 omega
theorem DocK.last (h:DocK q at_ n d R 4 stk):R=.ok stk∧PlInv q (at_+1) [] stk∧stk.2.length≤(at_+1) * 384:=by
 obtain ⟨done,i1,_⟩:=h.inv
 have h4:=h.go
 refine ⟨h4.symm,i1.next,?_⟩
 have:=h.len
 omega
end
theorem DlS.made (C:DlCtx) (hC:C.Ok) {w:World} {DB:Nat} (hD:C.w0.heap.size≤DB) (hDP:DB≠C.P) (hd:w.heap[DB]?=some (.cells zBT.toArray 54 (0,0)))
  (hP:w.heap[C.P]?=some (.cells (dlRow C (.slice (some ⟨DB,0,none⟩) 1 1) (.slice none 0 0)) 87 (0,0))) (hb:Below C.w0.heap.size C.w0 w):DlWd C w ([dirZ0],[]):=by
 have hle:=hC.le
 have hsz:=hb.size
 refine ⟨some ⟨DB,0,none⟩,1,none,0,fun b=>b<C.w0.heap.size,hP,⟨fun b hb2=>⟨lL hb2 hsz,fun e=>?_⟩,zBT,⟨rfl,.inr ⟨DB,1,zBT.toArray,rfl,hD,hd,nR _,by decide,rfl,rfl⟩⟩,zBT,[],rfl,zD7 _ _,rfl⟩,Own.nil_ rStl w _ _ (fun b hb=>hb.elim),fun b hb2=>⟨by omega,fun e=>by cases e⟩,fun e=>hDP (Option.some.inj e),(fun e=>by cases e),(fun k _ e=>by cases e),hb,fun b hb2=>hb2⟩
 have e2:DB=b:=Option.some.inj e
 omega
