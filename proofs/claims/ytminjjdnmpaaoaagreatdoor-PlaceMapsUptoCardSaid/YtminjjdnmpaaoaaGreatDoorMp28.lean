/- The document's search: walked from its start. -/
import Derived.Test.YtminjjdnmpaaoaaGreatDoorMp27
import Derived.Test.YtminjjdnmpaaoaaGreatDoorMp26
import Derived.Test.YtminjjdnmpaaoaaGreatDoorMp23
import Derived.Test.YtminjjdnmpaaoaaGreatDoorMp19
import Derived.Test.YtminjjdnmpaaoaaGreatDoorAl
set_option linter.all false
set_option maxHeartbeats 12800000
set_option maxRecDepth 100000
namespace Go.Proofs.YtminjjdnmpaaoaaGreatDoor
open Go.Rows Go.RowKit Go.Shelf Go.Sort
theorem zHy (C:SCtx) (hC:C.Ok):∀ f,SetC C f∧ChoC C f∧BinC C f:=by
 intro f
 induction f with
 | zero=>
   refine ⟨fun nodes at_ t A n c w hw hnd hz hat hf=>?_,fun nodes at_ t l k env A n c B ln lc D en ec w hw hnd hl he hz hat hk hlz hez hf=>?_,fun nodes at_ t env A n c D en ec w hw hnd he hz hat hez hf=>?_⟩
   ·unfold leftK at hf;simp only at hf;omega
   ·unfold leftK at hf;simp only at hf;omega
   ·have:=hz.1
    unfold leftK at hf;simp only at hf;omega
 | succ f ih=>exact ⟨zHz C hC f ih.2.1,zIg C hC f ih.2.1 ih.2.2,zLc C hC f ih.1⟩
theorem zD4 {P:Program} {fn:Func} {p q r:Tmp} {ty:TypeId} (h:fn.results=#[.cell p ty,.tmp q,.tmp r]) (tmps:Array Value) (w:World) (g:Nat) (t:TypeId) (cs:Array Value) (fr:Nat×Nat) (d:TypeDesc)
  (hp:tmps.getD p undef=.pointer (some ⟨g,0,none⟩)) (hg:w.heap[g]?=some (.cells cs t fr))
  (hu:P.underlying ty=some d) (hd:(match d with|.struct _|.array _ _=>true|_=>false)=true) (hi:(P.info? ty).map (·.size)=some cs.size) :
  (results fn tmps).run P w=.ok (.tuple #[.agg cs,tmps.getD q undef,tmps.getD r undef]) w:=by
 have hp':tmps[p]?.getD undef=.pointer (some ⟨g,0,none⟩):=by simpa using hp
 simp[results,h,hp',asAddr,run_loadVar_row w g t ty cs fr d hg hu hd hi]
theorem zCp {P:Program} {fn:Func} {R:Ending→World→Prop} {ty:TypeId} {d:TypeDesc} {p q r:Tmp} {a:Act} {W:World} {g:Nat} {x bv cv:Value} {t:TypeId} (hf:fn.results=#[.cell p ty,.tmp q,.tmp r]) (hd:a.defers=[]) (h2:a.tmps.getD p undef=.pointer (some ⟨g,0,none⟩)) (h3:a.tmps.getD q undef=bv) (h4:a.tmps.getD r undef=cv)
  (hg:W.heap[g]?=some (.cells #[x] t (0,0))) (hu:P.underlying ty=some d) (hdd:(match d with|.struct _|.array _ _=>true|_=>false)=true) (hi:(P.info? ty).map (·.size)=some 1)
  (h:R (.returned (.tuple #[.agg #[x],bv,cv])) W):bodyPost P fn R Exit.ret a W:=
 bodyPost_ret (zD4 hf a.tmps W g t #[x] (0,0) d h2 hg hu hdd hi) hd (by rw[h3,h4];exact h)
def RunP (q:SIn) (w:World) (e:Ending) (w':World):Prop:=(∃ (A:Option Addr) (n c:Nat) (tr er:Int),e=.returned (.tuple #[.agg #[.slice A n c],.int .i64 tr,.int .i64 er])∧I64 er∧((solS q=none∧er≠0)∨∃ ns,solS q=some ns∧er=0∧SlV rNode w' (fun _=>True) ns (.slice A n c)))∧Below w.heap.size w w'
theorem RunP.no {q:SIn} {w w':World} {A:Option Addr} {n c:Nat} {tr er:Int} (hs:solS q=none) (he:er≠0) (hi:I64 er) (hb:Below w.heap.size w w'):RunP q w (.returned (.tuple #[.agg #[.slice A n c],.int .i64 tr,.int .i64 er])) w':=⟨⟨A,n,c,tr,er,rfl,hi,.inl ⟨hs,he⟩⟩,hb⟩
theorem RunP.yes {q:SIn} {w w':World} {A:Option Addr} {n c:Nat} {tr:Int} {ns:List Node} (hs:solS q=some ns) (hl:SlV rNode w' (fun _=>True) ns (.slice A n c)) (hb:Below w.heap.size w w'):RunP q w (.returned (.tuple #[.agg #[.slice A n c],.int .i64 tr,.int .i64 0])) w':=⟨⟨A,n,c,tr,0,rfl,by unfold I64;decide,.inr ⟨ns,hs,rfl,hl⟩⟩,hb⟩
def solO:SOut→Option (List Node)
 | .ok _ ns=>some ns
 | _=>none
theorem zNy {q:SIn} (h:maniB q.m=true):solS q=solO (goS q (q.dec+3 * q.lim+6) (.settle [rootN] 0) 0):=by
 unfold solS
 rw[if_neg (by rw[h];decide)]
 cases goS q (q.dec+3 * q.lim+6) (.settle [rootN] 0) 0<;>rfl
theorem zCF:I64 0:=by unfold I64;decide
theorem zMi {w:World} {S:Nat→Prop} {b:Nat} {t:TypeId} (h:w.heap[b]?=some (.cells #[.string ⟨#[]⟩,.int .i64 0,.int .i64 0,.int .i64 0,.slice none 0 0,.slice none 0 0] t (0,0))) (hb:S b):SlV rNode w S [rootN] (.slice (some ⟨b,0,none⟩) 1 1):=
 SlV.of_block h (show Elems rNode w S [rootN] [.string ⟨#[]⟩,.int .i64 0,.int .i64 0,.int .i64 0,.slice none 0 0,.slice none 0 0] from ⟨[.string ⟨#[]⟩,.int .i64 0,.int .i64 0,.int .i64 0,.slice none 0 0,.slice none 0 0],[],rfl,(show rNode.holds w S rootN _ from ⟨_,_,rfl,nZ _,zCF,zCF,zCF,SlV.nil_ _ _ _,SlV.nil_ _ _ _⟩),rfl⟩) hb rfl (nR _) (by unfold maxLen;decide)
def RunA (q:SIn) (sB:Nat) (bb:Bool) (w':World):Prop:=
 (bb=false∧solS q=none)∨(bb=true∧∃ er:Int,er≠0∧I64 er∧solS q=none∧w'.cell? ⟨sB,12,none⟩=some (.int .i64 er)) ∨
   (bb=true∧∃ (ns:List Node) (A:Option Addr) (n c t:Nat),solS q=some ns∧w'.cell? ⟨sB,11,none⟩=some (.int .i64 (t:Int))∧w'.cell? ⟨sB,12,none⟩=some (.int .i64 0)∧w'.cell? ⟨sB,13,none⟩=some (.slice A n c)∧SlV rNode w' (fun b=>b≠sB) ns (.slice A n c))
theorem RunA.of {C:SCtx} {o:SOut} {e:Ending} {w w':World} (h:SPost C w o e w') (hs:solS C.q=solO o):∃ bb:Bool,e=.returned (.bool bb)∧But C.sB w w'∧RunA C.q C.sB bb w':=by
 obtain ⟨h1,h2⟩:=h
 cases o with
 | no t=>
   obtain ⟨h3,h4,_⟩:=h2
   exact ⟨false,h3,h1,.inl ⟨rfl,hs⟩⟩
 | bad c t=>
   obtain ⟨h3,h4,h5,t',h6⟩:=h2
   exact ⟨true,h5,h1,.inr (.inl ⟨rfl,c,h3,h4,hs,h6.cells.2.2.2.2.2.2.2.2.2.2.1⟩)⟩
 | ok t ns=>
   obtain ⟨h3,_,A,n,c,h4,h5⟩:=h2
   exact ⟨true,h3,h1,.inr (.inr ⟨rfl,ns,A,n,c,t,hs,h4.cells.2.2.2.2.2.2.2.2.2.1,h4.cells.2.2.2.2.2.2.2.2.2.2.1,h4.cells.2.2.2.2.2.2.2.2.2.2.2,h5⟩)⟩
theorem zFk {α:Type} {r:Rp α} {w:World} {S:Nat→Prop} {G:Nat} {A:Option Addr} {n c:Nat} {t:TypeId} {fr:Nat×Nat} (hG:w.heap[G]?=some (.cells #[.slice A n c] t fr)) {l:List α} {v:Value} (h:SlV r w S l v)
  (hr:∀ x∈l,∀ cs,r.holds w S x cs→(∃ s u,cs=.string s::u)∧r.holds w (fun b=>S b∧b≠G) x cs):SlV r w (fun b=>S b∧b≠G) l v:=by
 obtain ⟨A',c',h1,h2,h3,h4,h5⟩:=h
 refine ⟨A',c',h1,h2,h3,h4,fun hn=>?_⟩
 obtain ⟨b,o,hA,hS,hb,hrow⟩:=h5 hn
 refine ⟨b,o,hA,⟨hS,fun e=>?_⟩,hb,fun i x hx=>?_⟩
 ·obtain ⟨cs,hc,hcell⟩:=hrow 0 l[0] (gE hn)
  obtain ⟨⟨s,u,rfl⟩,_⟩:=hr _ (List.getElem_mem _) cs hc
  have h0:=hcell 0 _ rfl
  subst e
  simp only[World.cell?,hG] at h0
  generalize o+0 * r.size+0=j at h0
  cases j<;>simp at h0
 ·obtain ⟨cs,hc,hcell⟩:=hrow i x hx
  exact ⟨cs,(hr x (mG hx) cs hc).2,hcell⟩
theorem zFE {w:World} {S:Nat→Prop} {G:Nat} {A:Option Addr} {n c:Nat} {t:TypeId} {fr:Nat×Nat} (hG:w.heap[G]?=some (.cells #[.slice A n c] t fr)) {l:List Node} {v:Value} (h:SlV rNode w S l v):SlV rNode w (fun b=>S b∧b≠G) l v:=
 zFk hG h fun x _ cs ⟨s0,s1,e,h0,h1,h2,h3,h4,h5⟩=>⟨⟨_,_,e⟩,s0,s1,e,h0,h1,h2,h3,zFk hG h4 fun y _ cs h=>⟨⟨_,_,h.1⟩,h⟩,zFk hG h5 fun y _ cs h=>⟨⟨_,_,h.1⟩,h⟩⟩
theorem zNn (cB:Nat) (kA:Option Addr) (kn kc:Nat) (A0:Option Addr) (n0 c0:Nat) (A1:Option Addr) (n1 c1:Nat) (A2:Option Addr) (n2 c2:Nat) (A3:Option Addr) (n3 c3:Nat) (q:SIn) (ld lp:Int) (w:World) (S:Nat→Prop)
  (hcat:w.cell? ⟨cB,0,none⟩=some (.slice kA kn kc)) (hL:SlV rPack w S q.L (.slice kA kn kc)) (hm:ManiV w S q.m (.agg #[.slice A0 n0 c0,.slice A1 n1 c1,.slice A2 n2 c2,.slice A3 n3 c3]))
  (hsm:∀ x∈q.L,zBf x) (hlen:q.L.length≤128) (hmz:q.m.deps.length≤1048576∧q.m.dev.length≤1048576∧q.m.opts.length≤1048576) (hdec:1≤q.dec∧q.dec≤4096) (hlim:1≤q.lim∧q.lim≤128) :
  Calls Tryz.prog 34 #[.pointer (some ⟨cB,0,none⟩),.agg #[.slice A0 n0 c0,.slice A1 n1 c1,.slice A2 n2 c2,.slice A3 n3 c3],.bool q.dev,.slice none 0 0,.agg #[.int .i64 (q.dec:Int),.int .i64 (q.lim:Int),.int .i64 ld,.int .i64 lp]] w fun e w'=>RunP q w e w':=by
 have hcB:cB<w.heap.size:=zAV hcat
 have HMay:Hid (∀ W,Below w.heap.size w W→Calls Tryz.prog 65 #[.agg #[.slice A0 n0 c0,.slice A1 n1 c1,.slice A2 n2 c2,.slice A3 n3 c3]] W fun e w'=>e=.returned (.bool (maniB q.m))∧Below W.heap.size W w'):=fun W hW=>zFp q.m _ W S (hm.keep hW)
 have HL:=cH hL
 have HM:=cH hm
 have Hcat:=cH hcat
 have Hq:Hid ((∀ x∈q.L,zBf x)∧q.L.length≤128∧(q.m.deps.length≤1048576∧q.m.dev.length≤1048576∧q.m.opts.length≤1048576)∧(1≤q.dec∧q.dec≤4096)∧(1≤q.lim∧q.lim≤128)):=⟨hsm,hlen,hmz,hdec,hlim⟩
 have HcB:=cH hcB
 clear hL hm hcat hsm hlen hmz hcB
 obtain ⟨D,hD⟩:∃ D:Int,D=(q.dec:Int):=⟨_,rfl⟩
 obtain ⟨N,hN⟩:∃ N:Int,N=(q.lim:Int):=⟨_,rfl⟩
 obtain ⟨dv,hdv⟩:∃ d,d=q.dev:=⟨_,rfl⟩
 obtain ⟨hd1,hd2⟩:=hdec
 obtain ⟨hl1,hl2⟩:=hlim
 have bD1:¬D<1:=by omega
 have bD2:¬4096<D:=by omega
 have bN1:¬N<1:=by omega
 have bN2:¬128<N:=by omega
 rw[←hD,←hN,←hdv]
 have HD:=cH hD
 have HN:=cH hN
 have Hdv:=cH hdv
 clear hD hN hdv hd1 hd2 hl1 hl2
 go_enter Tryz.func34,Tryz.ntmps34
 go_upto_region 1 with (fail)
 obtain ⟨w3,hw3⟩:∃ w3,w3=((w.alloc (.cells #[.slice A0 n0 c0,.slice A1 n1 c1,.slice A2 n2 c2,.slice A3 n3 c3] 28)).alloc (.cells #[.int .i64 D,.int .i64 N,.int .i64 ld,.int .i64 lp] 30)).alloc (.cells #[.slice none 0 0] 24):=⟨_,rfl⟩
 have hz1:(w.alloc (.cells #[.slice A0 n0 c0,.slice A1 n1 c1,.slice A2 n2 c2,.slice A3 n3 c3] 28)).heap.size=w.heap.size+1:=by simp
 have hz2:((w.alloc (.cells #[.slice A0 n0 c0,.slice A1 n1 c1,.slice A2 n2 c2,.slice A3 n3 c3] 28)).alloc (.cells #[.int .i64 D,.int .i64 N,.int .i64 ld,.int .i64 lp] 30)).heap.size=w.heap.size+2:=by simp
 have hB3:Below w.heap.size w w3:=by rw[hw3];exact bal (bal (bal (bR _ _) _) _) _
 have hq1:w3.heap[w.heap.size]?=some (.cells #[.slice A0 n0 c0,.slice A1 n1 c1,.slice A2 n2 c2,.slice A3 n3 c3] 28 (0,0)):=by
  rw[hw3];exact (Below.heap_alloc _ _ _ (by rw[hz2];omega)).trans ((Below.heap_alloc _ _ _ (by rw[hz1];omega)).trans (zAD _ _))
 have hq2:w3.heap[w.heap.size+1]?=some (.cells #[.int .i64 D,.int .i64 N,.int .i64 ld,.int .i64 lp] 30 (0,0)):=by
  rw[hw3,←hz1];exact (Below.heap_alloc _ _ _ (by simp)).trans (zAD _ _)
 have hq3:w3.heap[w.heap.size+2]?=some (.cells #[.slice none 0 0] 24 (0,0)):=by
  rw[hw3,←hz2];exact zAD _ _
 rw[←hw3]
 have HB3:=cH hB3
 obtain ⟨MB,hMB⟩:∃ k,k=w.heap.size:=⟨_,rfl⟩
 obtain ⟨LB,hLB⟩:∃ k,k=w.heap.size+1:=⟨_,rfl⟩
 obtain ⟨GB,hGB⟩:∃ k,k=w.heap.size+2:=⟨_,rfl⟩
 rw[←hMB] at hq1
 rw[←hLB] at hq2
 rw[←hGB] at hq3
 have HGB:Hid (w.heap.size≤GB):=by unfold Hid;omega
 have hlt1:MB<w3.heap.size:=(aS.1 hq1).1
 have hlt2:LB<w3.heap.size:=(aS.1 hq2).1
 have hlt3:GB<w3.heap.size:=(aS.1 hq3).1
 have HQ:Hid (∀ W,Below w3.heap.size w3 W→W.heap[MB]?=some (.cells #[.slice A0 n0 c0,.slice A1 n1 c1,.slice A2 n2 c2,.slice A3 n3 c3] 28 (0,0))∧W.heap[LB]?=some (.cells #[.int .i64 D,.int .i64 N,.int .i64 ld,.int .i64 lp] 30 (0,0))∧W.heap[GB]?=some (.cells #[.slice none 0 0] 24 (0,0))):=fun W hW=>⟨(hW.block _ hlt1).trans hq1,(hW.block _ hlt2).trans hq2,(hW.block _ hlt3).trans hq3⟩
 have HGr:Hid (∀ W,Below w3.heap.size w3 W→W.heap[GB]?=some (.cells #[.slice none 0 0] 24 (0,0))∧W.frozen? ⟨GB,0,none⟩=false∧W.cell? ⟨GB,0,none⟩=some (.slice none 0 0)∧∀ v,Below w.heap.size w (W.setCell ⟨GB,0,none⟩ v)):=fun W hW=>by
  have h:=(hW.block _ hlt3).trans hq3
  exact ⟨h,zAd h,cO _ _ 0 _ _ _ h,fun v=>(bot HB3.out hW).setCell (p:=⟨GB,0,none⟩) HGB.out _⟩
 have Hl3:=cH hlt3
 rw[←hGB,←hLB,←hMB]
 clear hw3 hz1 hz2 hB3 hMB hLB hGB
 have m0:=cO _ _ 0 _ _ _ hq1
 have m1:=cO _ _ 1 _ _ _ hq1
 have m2:=cO _ _ 2 _ _ _ hq1
 have m3:=cO _ _ 3 _ _ _ hq1
 clear hq1 hq2 hq3 hlt1 hlt2 hlt3
 go_wp2_with fail
 refine (HMay.out w3 HB3.out).mono ?_
 rintro e w4 ⟨rfl,hb4⟩
 have HB4:=cH hb4
 clear m0 m1 m2 m3 hb4
 obtain ⟨hq1,hq2,hq3⟩:=HQ.out w4 HB4.out
 have m0:=cO _ _ 0 _ _ _ hq1
 have m1:=cO _ _ 1 _ _ _ hq1
 have m2:=cO _ _ 2 _ _ _ hq1
 have m3:=cO _ _ 3 _ _ _ hq1
 have l0:=cO _ _ 0 _ _ _ hq2
 have l1:=cO _ _ 1 _ _ _ hq2
 have l2:=cO _ _ 2 _ _ _ hq2
 have l3:=cO _ _ 3 _ _ _ hq2
 clear hq1 hq2 hq3
 by_cases hmB:maniB q.m=false
 case pos=>
  have Hno:Hid (solS q=none):=by unfold Hid solS;rw[if_pos hmB]
  obtain ⟨t0,tf,tc,tb⟩:=HGr.out w4 HB4.out
  have Ht0:=cH t0
  have Htb:=cH tb
  clear t0 tb
  rw[hmB]
  go_wp2_with fail
  refine zCp rfl rfl rfl rfl rfl (zAT (o:=0) Ht0.out _) Tryz.underlying24 rfl (by kernel_rfl) (RunP.no Hno.out (by decide) (by unfold I64;decide) (Htb.out _))
 have hmT:maniB q.m=true:=by simpa using hmB
 obtain ⟨f,hf⟩:∃ f,f=q.dec+3 * q.lim+6:=⟨_,rfl⟩
 have Hsol:Hid (solS q=solO (goS q f (.settle [rootN] 0) 0)):=by rw[hf];exact zNy hmT
 have Hf:=cH hf
 clear hf
 rw[hmT]
 clear hmB hmT HMay
 go_upto_region 4 with (fail)
 obtain ⟨sB,hsB⟩:∃ k,k=w4.heap.size:=⟨_,rfl⟩
 obtain ⟨w5,hw5⟩:∃ w5,w5=w4.alloc (.cells #[.pointer (some ⟨cB,0,none⟩),.slice A0 n0 c0,.slice A1 n1 c1,.slice A2 n2 c2,.slice A3 n3 c3,.bool dv,.slice none 0 0,.int .i64 D,.int .i64 N,.int .i64 ld,.int .i64 lp,.int .i64 0,.int .i64 0,.slice none 0 0] 136):=⟨_,rfl⟩
 have hr5:w5.heap[sB]?=some (.cells #[.pointer (some ⟨cB,0,none⟩),.slice A0 n0 c0,.slice A1 n1 c1,.slice A2 n2 c2,.slice A3 n3 c3,.bool dv,.slice none 0 0,.int .i64 D,.int .i64 N,.int .i64 ld,.int .i64 lp,.int .i64 0,.int .i64 0,.slice none 0 0] 136 (0,0)):=by
  rw[hw5,hsB];exact zAD _ _
 have HB35:Hid (Below w3.heap.size w3 w5):=by unfold Hid;rw[hw5];exact bal HB4.out _
 have hw4:w.heap.size≤w4.heap.size:=(bot HB3.out HB4.out).size
 have hGs:GB<sB:=by have h1:=Hl3.out;have h2:=HB4.out.size;omega
 have hsB5:sB<w5.heap.size:=(aS.1 hr5).1
 have hws:w.heap.size≤sB:=by omega
 rw[←hw5,←hsB]
 clear m0 m1 m2 m3 l0 l1 l2 l3 hw5
 have HSW:Hid (∀ W,Below w5.heap.size w5 W→SW ⟨q,cB,sB,kA,kn,kc,A0,n0,c0,A1,n1,c1,A2,n2,c2,A3,n3,c3,ld,lp⟩ W ((0:Nat):Int) 0 (.slice none 0 0)):=fun W hW=>by
  have hbw:Below w.heap.size w W:=bot HB3.out (bot HB35.out hW)
  refine ⟨?_,zAA hbw Hcat.out HcB.out,(HL.out.more (S':=fun b=>b≠sB) fun b hb hl=>?_).belowSize hbw,ManiV.keep (ManiV.moreV HM.out (T:=fun b=>b≠sB) fun b hb hl=>?_) hbw⟩
  ·have h1:=(hW.block _ hsB5).trans hr5
   rw[HD.out,HN.out,Hdv.out] at h1
   exact h1
  ·show b≠sB;omega
  ·show b≠sB;omega
 have HOk:Hid (SCtx.Ok ⟨q,cB,sB,kA,kn,kc,A0,n0,c0,A1,n1,c1,A2,n2,c2,A3,n3,c3,ld,lp⟩):=
  ⟨Hq.out.1,Hq.out.2.1,Hq.out.2.2.1,Hq.out.2.2.2.1.2,Hq.out.2.2.2.2,by have:=HcB.out;show cB≠sB;omega⟩
 have HCl:Hid (∀ W b,Below w5.heap.size w5 W→w5.heap.size≤b→W.heap[b]?=some (.cells #[.string ⟨#[]⟩,.int .i64 0,.int .i64 0,.int .i64 0,.slice none 0 0,.slice none 0 0] 58 (0,0))→Calls Tryz.prog 66 #[.pointer (some ⟨sB,0,none⟩),.slice (some ⟨b,0,none⟩) 1 1,.int .i64 0] W fun e w'=>∃ bb:Bool,e=.returned (.bool bb)∧But sB W w'∧RunA q sB bb w'):=fun W b hW hb hrow=>by
  refine ((zHy _ HOk.out f).1 [rootN] 0 0 _ 1 1 W (HSW.out W hW) (zMi hrow (by show b≠sB;omega)) ⟨by have:=Hq.out.2.2.2.2.1;exact this,fun n hn=>by rw[List.mem_singleton.1 hn];exact nZ _,nZ _⟩ (nZ _) (by have:=Hf.out;unfold leftK;simp only;omega)).mono ?_
  intro e w' h
  exact RunA.of h Hsol.out
 have HGs:=cH hGs
 have Hrun:Hid (∀ W W',Below w5.heap.size w5 W→But sB W W'→W'.heap[GB]?=some (.cells #[.slice none 0 0] 24 (0,0))∧Below w.heap.size w W'):=fun W W' hW hb=>by
  have h1:=HGr.out W (bot HB35.out hW)
  exact ⟨(hb.block _ (aS.1 h1.1).1 (by omega)).trans h1.1,(bot HB3.out (bot HB35.out hW)).trans (hb.below hws (by have:=(bot HB3.out (bot HB35.out hW)).size;omega))⟩
 have hGl5:GB<w5.heap.size:=by have:=HGs.out;omega
 have HGl5:=cH hGl5
 clear HSW HOk HL HM Hcat Hq HcB Hsol HQ HGr Hl3 hr5 hGl5 hw4 hGs hsB
 go_wp2_with fail
 refine (HCl.out _ w5.heap.size (bal (bR _ _) _) (nR _) (zAD _ _)).mono ?_
 rintro e w7 ⟨bb,rfl,hbut,hA⟩
 obtain ⟨t0,tb⟩:=Hrun.out _ w7 (bal (bR _ _) _) hbut
 have Ht0:=cH t0
 have Htb:=cH tb
 have tc:=cO _ _ 0 _ _ _ t0
 have tf:w7.frozen? ⟨GB,0,none⟩=false:=zAd t0
 clear HCl Hrun hbut t0 tb
 rcases hA with ⟨rfl,hs⟩|⟨rfl,er,hne,hi,hs,c12⟩|⟨rfl,ns,A,n,c,t,hs,c11,c12,c13,hsl⟩
 ·have Hs:=cH hs
  clear hs
  go_wp2_with fail
  refine zCp rfl rfl rfl rfl rfl (zAT (o:=0) Ht0.out _) Tryz.underlying24 rfl (by kernel_rfl) (RunP.no Hs.out (by decide) (by unfold I64;decide) (Htb.out.setCell (p:=⟨GB,0,none⟩) HGB.out _))
 ·have Hs:=cH hs
  have Hi:=cH hi
  have hE:(er==0)=false:=by simp;omega
  have Hne:=cH hne
  clear hs hi hne
  have tc2:w7.drew.cell? ⟨GB,0,none⟩=some (.slice none 0 0):=tc
  have tf2:w7.drew.frozen? ⟨GB,0,none⟩=false:=tf
  have tc12:w7.drew.cell? ⟨sB,12,none⟩=some (.int .i64 er):=c12
  have HC:Hid (∀ v,(w7.drew.setCell ⟨GB,0,none⟩ v).cell? ⟨sB,12,none⟩=some (.int .i64 er)):=fun v=>(But.set w7.drew GB 0 v).cell c12 (by have:=HGs.out;omega)
  have HD:Hid (∀ v,(w7.setCell ⟨GB,0,none⟩ v).drew.cell? ⟨sB,12,none⟩=some (.int .i64 er)):=fun v=>(But.set w7 GB 0 v).cell c12 (by have:=HGs.out;omega)
  go_upto_region 8 with (fail)
  go_region_held3 (fun W=>W.cell? ⟨sB,12,none⟩=some (.int .i64 er))
   (first
     | (with_reducible exact tc12)
     | (with_reducible exact HC.out _)
     | (with_reducible exact HD.out _))
   (fail)
  all_goals
   go_wp2_with fail
   refine zCp rfl rfl rfl rfl rfl (zAT (o:=0) Ht0.out _) Tryz.underlying24 rfl (by kernel_rfl) (RunP.no Hs.out Hne.out Hi.out (by first|exact (Htb.out.drew.setCell (p:=⟨GB,0,none⟩) HGB.out _)|exact (Htb.out.setCell (p:=⟨GB,0,none⟩) HGB.out _).drew))
 ·have Hs:=cH hs
  have hsl2:=zFE Ht0.out hsl
  have Hsl:Hid (∀ v,SlV rNode (w7.drew.setCell ⟨GB,0,none⟩ v) (fun _=>True) ns (.slice A n c)):=fun v=>(hsl2.drew.keep fun b hb _=>heap_setCell_other w7.drew ⟨GB,0,none⟩ b v (by exact hb.2)).more fun _ _ _=>trivial
  clear hs hsl hsl2
  have tc2:w7.drew.cell? ⟨GB,0,none⟩=some (.slice none 0 0):=tc
  have tf2:w7.drew.frozen? ⟨GB,0,none⟩=false:=tf
  have hcc:w7.drew.cell? ⟨sB,11,none⟩=some (.int .i64 (t:Int))∧w7.drew.cell? ⟨sB,13,none⟩=some (.slice A n c):=⟨c11,c13⟩
  have HC:Hid (∀ v,(w7.drew.setCell ⟨GB,0,none⟩ v).cell? ⟨sB,11,none⟩=some (.int .i64 (t:Int))∧(w7.drew.setCell ⟨GB,0,none⟩ v).cell? ⟨sB,13,none⟩=some (.slice A n c)):=fun v=>⟨(But.set w7.drew GB 0 v).cell c11 (by have:=HGs.out;omega),(But.set w7.drew GB 0 v).cell c13 (by have:=HGs.out;omega)⟩
  have HD:Hid (∀ v,(w7.setCell ⟨GB,0,none⟩ v).drew.cell? ⟨sB,11,none⟩=some (.int .i64 (t:Int))∧(w7.setCell ⟨GB,0,none⟩ v).drew.cell? ⟨sB,13,none⟩=some (.slice A n c)):=fun v=>⟨(But.set w7 GB 0 v).cell c11 (by have:=HGs.out;omega),(But.set w7 GB 0 v).cell c13 (by have:=HGs.out;omega)⟩
  go_upto_region 9 with (fail)
  go_region_held3 (fun W=>W.cell? ⟨sB,11,none⟩=some (.int .i64 (t:Int))∧W.cell? ⟨sB,13,none⟩=some (.slice A n c))
   (first
     | (with_reducible exact hcc)
     | (with_reducible exact HC.out _)
     | (with_reducible exact HD.out _))
   (fail)
  all_goals
   go_wp2_with fail
   refine zCp rfl rfl rfl rfl rfl (zAT (o:=0) Ht0.out _) Tryz.underlying24 rfl (by kernel_rfl) (RunP.yes Hs.out (by first|exact Hsl.out _|exact (Hsl.out _)) (by first|exact (Htb.out.drew.setCell (p:=⟨GB,0,none⟩) HGB.out _)|exact (Htb.out.setCell (p:=⟨GB,0,none⟩) HGB.out _).drew))
noncomputable def qSol (x:Wd):SIn:=⟨catC x.packs,x.man,x.dev,300,40⟩
def WdS (x:Wd):Prop:=zI1 x.packs∧x.man.deps.length≤1048576∧x.man.dev.length≤1048576∧x.man.opts.length≤1048576
theorem zKz {ps:List Pack} {k:Nat} {p:Pack} (h:ps[k]?=some p):catC (ps.take (k+1))=(putC (catC (ps.take k)) p).1:=by
 unfold catC
 rw[List.take_add_one,h,List.foldl_append]
 rfl
theorem zJI (ps:List Pack):(catC ps).length≤128:=by
 unfold catC
 have key:∀ (l:List Pack) (L:List Pack),L.length≤128→(l.foldl (fun L p=>(putC L p).1) L).length≤128:=by
  intro l
  induction l with
  | nil=>intro L h;exact h
  | cons p l ih=>intro L h;exact ih _ (zMQ h)
 exact key ps [] (by decide)
theorem zIq {ps:List Pack} {x:Pack} (h:x∈catC ps):x∈ps∧packB x=true:=(zMR h).resolve_left (by simp)
theorem zMJ {α:Type} {r:Rp α} {w:World} {S:Nat→Prop} {base:Nat} {e:TypeId} (y:α) (cs:Array Value) (hb:base≤w.heap.size) (hy:r.holds w S y cs.toList) (hS:∀ b,S b→b<w.heap.size):Own r (w.alloc (.cells cs e)) base e (.slice (some ⟨w.heap.size,0,none⟩) 1 1) [y] S:=by
 have hl:=r.len hy
 refine ⟨fun b hb'=>⟨?_,?_⟩,cs.toList,⟨?_,.inr ⟨w.heap.size,1,cs,rfl,hb,heap_alloc_new w _,nR _,by decide,?_,?_⟩⟩,Elems.one_ (Rp.alloc hy _)⟩
 ·have:=hS b hb';simp[go_sem];omega
 ·intro he
  have:=hS b hb'
  simp[Value.ownBlock] at he
  omega
 ·rw[hl];simp
 ·rw[←Array.length_toList,hl];simp
 ·rw[List.length_singleton,Nat.one_mul,←hl,List.take_length]
theorem zIk {w:World} {S:Nat→Prop} {y:Pack} {s:ByteArray} {a b c:Int} {A B C:Option Addr} {n1 c1 n2 c2 n3 c3:Nat} (h:PackV w S y (.agg #[.string s,.int .i64 a,.int .i64 b,.int .i64 c,.slice A n1 c1,.slice B n2 c2,.slice C n3 c3])) (hi:I64 a∧I64 b∧I64 c):rPack.holds w S y [.string s,.int .i64 a,.int .i64 b,.int .i64 c,.slice A n1 c1,.slice B n2 c2,.slice C n3 c3]:=by
 obtain ⟨A1,m1,d1,A2,m2,d2,A3,m3,d3,he,hnm,h1,h2,h3⟩:=h
 simp only[Value.agg.injEq,Array.mk.injEq,List.cons.injEq,Value.string.injEq,Value.int.injEq,Value.slice.injEq,and_true,true_and] at he
 obtain ⟨e0,e1,e2,e3,⟨rfl,rfl,rfl⟩,⟨rfl,rfl,rfl⟩,rfl,rfl,rfl⟩:=he
 exact ⟨_,_,_,by rw[e0,e1,e2,e3],hnm,by rw[←e1];exact hi.1,by rw[←e2];exact hi.2.1,by rw[←e3];exact hi.2.2,h1,h2,h3⟩
def SolvP (q:SIn) (w:World) (e:Ending) (w':World):Prop:=
 (∃ (gA pA:Option Addr) (gn gc pn pc:Nat) (b:Bool),e=.returned (.tuple #[.agg #[.slice gA gn gc],.slice pA pn pc,.bool b])∧((b=false∧solS q=none)∨∃ ns,b=true∧solS q=some ns∧SlV rNode w' (fun _=>True) ns (.slice gA gn gc)∧SlV rPack w' (fun _=>True) (zCC q.L ns) (.slice pA pn pc)))∧Below w.heap.size w w'
theorem SolvP.no {q:SIn} {w w':World} (h:solS q=none) (hb:Below w.heap.size w w'):SolvP q w (.returned (.tuple #[.agg #[.slice none 0 0],.slice none 0 0,.bool false])) w':=⟨⟨_,_,_,_,_,_,_,rfl,.inl ⟨rfl,h⟩⟩,hb⟩
theorem SolvP.yes {q:SIn} {w w':World} {gA pA:Option Addr} {gn gc pn pc:Nat} {ns:List Node} (h:solS q=some ns) (hg:SlV rNode w' (fun _=>True) ns (.slice gA gn gc)) (hp:SlV rPack w' (fun _=>True) (zCC q.L ns) (.slice pA pn pc)) (hb:Below w.heap.size w w'):SolvP q w (.returned (.tuple #[.agg #[.slice gA gn gc],.slice pA pn pc,.bool true])) w':=⟨⟨_,_,_,_,_,_,_,rfl,.inr ⟨ns,rfl,h,hg,hp⟩⟩,hb⟩
def CatS (w0 w1:World) (CB:Nat) (ps:List Pack) (k:Nat) (W:World):Prop:=
 ∃ A n c,W.heap[CB]?=some (.cells #[.slice A n c] 94 (0,0))∧SlV rPack W (fun b=>b<w0.heap.size∨w1.heap.size≤b) (catC (ps.take k)) (.slice A n c)
theorem zJp {L:List Pack} {ns:List Node} {k:Nat} {n:Node} (h1:1≤k) (h:ns[k]?=some n):(zCC L ns).take (k+1)=(zCC L ns).take k++[(getC L n.name n.ver).getD zAC]:=by
 rw[List.take_add_one,zG9 h1 h]
 rfl
theorem zIS {L:List Pack} {ns:List Node} (h:1≤ns.length):(zCC L ns).take 1=[zAC]:=by
 cases ns with
 | nil=>simp at h
 | cons n l=>rfl
theorem zJY (kA mA nA lA vA oA:Option Addr) (kn kc mn mc nn nc ln lc vn vc on oc:Nat) (dec nod dirs path:Int) (like:Bool) (x:Wd) (w:World) (S:Nat→Prop) (h0:SlV rPack w S x.packs (.slice kA kn kc)) (h1:SlV rDep w S x.man.deps (.slice mA mn mc)) (h2:SlV rDep w S x.man.dev (.slice nA nn nc)) (h3:SlV rDep w S x.man.opts (.slice lA ln lc)) (h4:SlV rDep w S x.man.over (.slice vA vn vc)) (hz:WdS x) :
  Calls Tryz.prog 16 #[.agg #[.slice kA kn kc,.slice mA mn mc,.slice nA nn nc,.slice lA ln lc,.slice vA vn vc,.bool x.dev,.int .i64 dec,.int .i64 nod,.int .i64 dirs,.int .i64 path,.slice oA on oc,.bool like]] w fun e w'=>SolvP (qSol x) w e w':=by
 have hn:=h0.n_eq
 have hcap:=h0.cap_le
 unfold maxLen at hcap
 have hknz:kn≤9223372036854775807:=by omega
 have HL0:=cH h0
 have Hn:Hid (x.packs.length=kn):=hn.symm
 have HMv:Hid (ManiV w S x.man (.agg #[.slice mA mn mc,.slice nA nn nc,.slice lA ln lc,.slice vA vn vc])):=⟨_,_,_,_,_,_,_,_,_,_,_,_,rfl,h1,h2,h3,h4⟩
 have Hz:=cH hz
 clear h0 h1 h2 h3 h4 hz hn hcap
 obtain ⟨q,hq⟩:∃ q,q=qSol x:=⟨_,rfl⟩
 have hqL:q.L=catC x.packs:=by rw[hq];rfl
 have hqd:q.dev=x.dev:=by rw[hq];rfl
 have hqm:q.m=x.man:=by rw[hq];rfl
 have hqk:q.dec=300:=by rw[hq];rfl
 have hql:q.lim=40:=by rw[hq];rfl
 rw[←hq]
 clear hq
 obtain ⟨dv,hdv⟩:∃ d,d=x.dev:=⟨_,rfl⟩
 rw[←hdv] at hqd ⊢
 clear hdv
 obtain ⟨w0,hw0⟩:∃ w0,w0=((w.alloc (.cells #[.slice kA kn kc,.slice mA mn mc,.slice nA nn nc,.slice lA ln lc,.slice vA vn vc,.bool dv,.int .i64 dec,.int .i64 nod,.int .i64 dirs,.int .i64 path,.slice oA on oc,.bool like] 35)).alloc (.cells #[.slice none 0 0] 24)).alloc (.cells #[.slice none 0 0] 94):=⟨_,rfl⟩
 have hz1:(w.alloc (.cells #[.slice kA kn kc,.slice mA mn mc,.slice nA nn nc,.slice lA ln lc,.slice vA vn vc,.bool dv,.int .i64 dec,.int .i64 nod,.int .i64 dirs,.int .i64 path,.slice oA on oc,.bool like] 35)).heap.size=w.heap.size+1:=by simp
 have hz2:((w.alloc (.cells #[.slice kA kn kc,.slice mA mn mc,.slice nA nn nc,.slice lA ln lc,.slice vA vn vc,.bool dv,.int .i64 dec,.int .i64 nod,.int .i64 dirs,.int .i64 path,.slice oA on oc,.bool like] 35)).alloc (.cells #[.slice none 0 0] 24)).heap.size=w.heap.size+2:=by simp
 have hz3:w0.heap.size=w.heap.size+3:=by rw[hw0];simp
 have HB0:Hid (Below w.heap.size w w0):=by unfold Hid;rw[hw0];exact bal (bal (bal (bR _ _) _) _) _
 have hq1:w0.heap[w.heap.size]?=some (.cells #[.slice kA kn kc,.slice mA mn mc,.slice nA nn nc,.slice lA ln lc,.slice vA vn vc,.bool dv,.int .i64 dec,.int .i64 nod,.int .i64 dirs,.int .i64 path,.slice oA on oc,.bool like] 35 (0,0)):=by
  rw[hw0];exact (Below.heap_alloc _ _ _ (by rw[hz2];omega)).trans ((Below.heap_alloc _ _ _ (by rw[hz1];omega)).trans (zAD _ _))
 have hq2:w0.heap[w.heap.size+1]?=some (.cells #[.slice none 0 0] 24 (0,0)):=by
  rw[hw0,←hz1];exact (Below.heap_alloc _ _ _ (by simp)).trans (zAD _ _)
 have hq3:w0.heap[w.heap.size+2]?=some (.cells #[.slice none 0 0] 94 (0,0)):=by
  rw[hw0,←hz2];exact zAD _ _
 obtain ⟨QB,hQB⟩:∃ k,k=w.heap.size:=⟨_,rfl⟩
 obtain ⟨GB,hGB⟩:∃ k,k=w.heap.size+1:=⟨_,rfl⟩
 obtain ⟨CB,hCB⟩:∃ k,k=w.heap.size+2:=⟨_,rfl⟩
 rw[←hQB] at hq1
 rw[←hGB] at hq2
 rw[←hCB] at hq3
 have HGB:Hid (w.heap.size≤GB∧GB<w0.heap.size∧GB≠CB):=by unfold Hid;omega
 have HCBz:Hid (w.heap.size≤CB∧CB<w0.heap.size):=by unfold Hid;omega
 have HW0:Hid (∀ W,But CB w0 W→Below w.heap.size w W):=fun W hW=>HB0.out.trans (hW.below (by omega) (by omega))
 have HQ:Hid (∀ W,But CB w0 W→W.cell? ⟨QB,0,none⟩=some (.slice kA kn kc)∧W.cell? ⟨QB,1,none⟩=some (.slice mA mn mc)∧W.cell? ⟨QB,2,none⟩=some (.slice nA nn nc)∧W.cell? ⟨QB,3,none⟩=some (.slice lA ln lc)∧W.cell? ⟨QB,4,none⟩=some (.slice vA vn vc)∧W.cell? ⟨QB,5,none⟩=some (.bool dv)):=fun W hW=>by
  have h:=(hW.block QB (aS.1 hq1).1 (by omega)).trans hq1
  exact ⟨cO _ _ 0 _ _ _ h,cO _ _ 1 _ _ _ h,cO _ _ 2 _ _ _ h,cO _ _ 3 _ _ _ h,cO _ _ 4 _ _ _ h,cO _ _ 5 _ _ _ h⟩
 have HG:Hid (∀ W,But CB w0 W→W.heap[GB]?=some (.cells #[.slice none 0 0] 24 (0,0))):=fun W hW=>(hW.block GB (aS.1 hq2).1 (by omega)).trans hq2
 have HC0:Hid (CatS w w0 CB x.packs 0 w0):=⟨none,0,0,hq3,SlV.nil_ _ _ _⟩
 have HPut:Hid (∀ (k:Nat) (p:Pack) (u:Value) W,But CB w0 W→CatS w w0 CB x.packs k W→x.packs[k]?=some p→PackV W (fun b=>b<w.heap.size) p u→(I64 p.ver.major∧I64 p.ver.minor∧I64 p.ver.patch)→Calls Tryz.prog 33 #[.pointer (some ⟨CB,0,none⟩),u] W fun e w'=>(∃ c,e=.returned (.int .i64 c))∧CatS w w0 CB x.packs (k+1) w'∧But CB w0 w'):=fun k p u W hW ⟨A,n,c,hr,hl⟩ hk hu hi=>by
  refine (zMj CB A n c _ p u W (fun b=>b<w.heap.size∨w0.heap.size≤b) hr hl (fun b hb=>by have:=HCBz.out;omega) (zJI _) (hu.moreP fun b hb _=>.inl hb) hi).mono ?_
  rintro e w' ⟨h1,A',n',c',h2,h3,h4⟩
  have:=hW.size
  exact ⟨h1,⟨A',n',c',h2,by rw[zKz hk];exact h3.more fun b hb _=>by rcases hb.1 with (hb|hb)|hb<;>omega⟩,hW.trans h4⟩
 have HRun:Hid (∀ W,But CB w0 W→CatS w w0 CB x.packs kn W→Calls Tryz.prog 34 #[.pointer (some ⟨CB,0,none⟩),.agg #[.slice mA mn mc,.slice nA nn nc,.slice lA ln lc,.slice vA vn vc],.bool dv,.slice none 0 0,.agg #[.int .i64 300,.int .i64 40,.int .i64 1,.int .i64 1]] W fun e w'=>RunP q W e w'):=fun W hW ⟨A,n,c,hr,hl⟩=>by
  rw[List.take_of_length_le (by have:=Hn.out;omega),←hqL] at hl
  have h:=zNn CB A n c mA mn mc nA nn nc lA ln lc vA vn vc q 1 1 W (fun _=>True) (cO _ _ 0 _ _ _ hr) (hl.more fun _ _ _=>trivial) (by rw[hqm];exact ((HMv.out.keep (HW0.out W hW)).moreV fun _ _ _=>trivial)) (fun y hy=>by rw[hqL] at hy;exact Hz.out.1.2 y (zIq hy).1) (by rw[hqL];exact zJI _) (by rw[hqm];exact Hz.out.2) (by rw[hqk];decide) (by rw[hql];decide)
  rw[hqk,hql,hqd] at h
  exact h
 have HElem:Hid (∀ (k:Nat) (p:Pack),x.packs[k]?=some p→∃ b o A1 B1 C1 a1 b1 c1,kA=some ⟨b,o,none⟩∧b<w.heap.size∧PackV w (fun b=>b<w.heap.size) p (.agg #[.string p.name,.int .i64 p.ver.major,.int .i64 p.ver.minor,.int .i64 p.ver.patch,.slice A1 p.deps.length a1,.slice B1 p.peers.length b1,.slice C1 p.opts.length c1])∧(I64 p.ver.major∧I64 p.ver.minor∧I64 p.ver.patch) ∧
   w.cell? ⟨b,o+k * 7,none⟩=some (.string p.name)∧w.cell? ⟨b,o+k * 7+1,none⟩=some (.int .i64 p.ver.major)∧w.cell? ⟨b,o+k * 7+2,none⟩=some (.int .i64 p.ver.minor)∧w.cell? ⟨b,o+k * 7+3,none⟩=some (.int .i64 p.ver.patch) ∧
   w.cell? ⟨b,o+k * 7+4,none⟩=some (.slice A1 p.deps.length a1)∧w.cell? ⟨b,o+k * 7+5,none⟩=some (.slice B1 p.peers.length b1)∧w.cell? ⟨b,o+k * 7+6,none⟩=some (.slice C1 p.opts.length c1)):=fun k p hp=>by
  obtain ⟨b,o,A1,B1,C1,a1,b1,c1,hA,hb,_,hpv,hrest⟩:=zFm HL0.out hp
  exact ⟨b,o,A1,B1,C1,a1,b1,c1,hA,hb,hpv.moreP fun b _ hl=>hl,hrest⟩
 go_enter Tryz.func16,Tryz.ntmps16
 go_upto_region 2 with (fail)
 rw[←hw0,←hCB,←hGB,←hQB]
 clear hw0 hz1 hz2 hz3 hq1 hq2 hq3 hQB hGB hCB HL0
 go_wp2_with fail
 go_loopw [6] (fun t wr=>∃ k:Nat,k≤kn∧t=.int .i64 k∧Hid (CatS w w0 CB x.packs k wr)∧Hid (But CB w0 wr)) (fun t _=>kn - (intOf t).toNat)
 case atStart=>exact ⟨0,nZ _,rfl,HC0,But.refl _ _⟩
 case round=>
  clear HC0
  obtain ⟨k,hk,rfl,hcat,hbut⟩:=hrel
  have hk0:(0:Int)≤(k:Int):=by omega
  obtain ⟨z0,z1,z2,z3,z4,z5⟩:=HQ.out wr hbut.out
  by_cases hlt:k<kn
  case pos=>
   have hkI:(k:Int)<(kn:Int):=by omega
   obtain ⟨p,hp⟩:∃ p,x.packs[k]?=some p:=⟨_,gE (by have:=Hn.out;omega)⟩
   obtain ⟨b,o,A1,B1,C1,a1,b1,c1,hA,hb,hpv,hi,n0,n1,n2,n3,n4,n5,n6⟩:=HElem.out k p hp
   have hBw:=HW0.out wr hbut.out
   have n0:=zAA hBw n0 hb
   have n1:=zAA hBw n1 hb
   have n2:=zAA hBw n2 hb
   have n3:=zAA hBw n3 hb
   have n4:=zAA hBw n4 hb
   have n5:=zAA hBw n5 hb
   have n6:=zAA hBw n6 hb
   have HP:=cH (HPut.out k p _ wr hbut.out hcat.out hp (hpv.keep hBw) hi)
   clear hpv hi hp hb hBw
   subst hA
   clear HElem HRun HG HQ HPut z1 z2 z3 z4 z5
   generalize p.deps.length=l1 at *
   generalize p.peers.length=l2 at *
   generalize p.opts.length=l3 at *
   generalize p.name=pn at *
   generalize p.ver.major=v1 at *
   generalize p.ver.minor=v2 at *
   generalize p.ver.patch=v3 at *
   go_wp2_with fail
   refine HP.out.mono ?_
   rintro e w5 ⟨⟨c,rfl⟩,hcat5,hbut5⟩
   have HC5:=cH hcat5
   have HB5:=cH hbut5
   clear hcat5 hbut5 HP z0 n0 n1 n2 n3 n4 n5 n6
   go_wp2_with fail
   go_roundw
   case rel=>exact ⟨k+1,by omega,by go_num,HC5,HB5⟩
   case measure=>simp[intOf];omega
  have hkI:¬(k:Int)<(kn:Int):=by omega
  have hke:k=kn:=by omega
  subst hke
  clear HPut HElem hlt hk
  generalize wr=wv at *
  go_upto_region 7 with (fail)
  obtain ⟨w4,hw4⟩:∃ w4,w4=wv.alloc (.cells #[.int .i64 300,.int .i64 40,.int .i64 1,.int .i64 1] 30):=⟨_,rfl⟩
  have HB4:Hid (But CB w0 w4):=by unfold Hid;rw[hw4];exact hbut.out.then (bal (bR _ _) _)
  have hq4:w4.heap[wv.heap.size]?=some (.cells #[.int .i64 300,.int .i64 40,.int .i64 1,.int .i64 1] 30 (0,0)):=by rw[hw4];exact zAD _ _
  have HC4:Hid (CatS w w0 CB x.packs k w4):=by
   obtain ⟨A,n,c,g1,g2⟩:=hcat.out
   unfold Hid
   rw[hw4]
   exact ⟨A,n,c,(Below.heap_alloc _ _ _ (aS.1 g1).1).trans g1,g2.alloc _⟩
  rw[←hw4]
  clear z0 z1 z2 z3 z4 z5 hcat hbut hw4
  obtain ⟨z0,z1,z2,z3,z4,z5⟩:=HQ.out w4 HB4.out
  have y0:=cO _ _ 0 _ _ _ hq4
  have y1:=cO _ _ 1 _ _ _ hq4
  have y2:=cO _ _ 2 _ _ _ hq4
  have y3:=cO _ _ 3 _ _ _ hq4
  clear hq4
  go_wp2_with fail
  refine (HRun.out w4 HB4.out HC4.out).mono ?_
  rintro e w5 ⟨⟨gA,gn,gc,tr,er,rfl,hi,hcase⟩,hb5⟩
  have HB5:=cH hb5
  have Hcase:=cH hcase
  clear hb5 hcase z0 z1 z2 z3 z4 z5 y0 y1 y2 y3 HRun HQ
  go_upto_region 8 with (fail)
  obtain ⟨w6,hw6⟩:∃ w6,w6=w5.alloc (.cells #[.slice gA gn gc] 24):=⟨_,rfl⟩
  have HB6:Hid (Below w4.heap.size w4 w6):=by unfold Hid;rw[hw6];exact bal HB5.out _
  have HBw6:Hid (Below w.heap.size w w6):=bot (HW0.out w4 HB4.out) HB6.out
  have hq6:w6.heap[w5.heap.size]?=some (.cells #[.slice gA gn gc] 24 (0,0)):=by rw[hw6];exact zAD _ _
  have hGB6:w6.heap[GB]?=some (.cells #[.slice none 0 0] 24 (0,0)):=by
   have h:=HG.out w4 HB4.out
   exact (HB6.out.block _ (aS.1 h).1).trans h
  have HGB6:=cH hGB6
  obtain ⟨RB,hRB⟩:∃ k,k=w5.heap.size:=⟨_,rfl⟩
  rw[←hRB] at hq6
  have HR:Hid (∀ W,Below w6.heap.size w6 W→W.heap[RB]?=some (.cells #[.slice gA gn gc] 24 (0,0))):=fun W hW=>(hW.block _ (aS.1 hq6).1).trans hq6
  rw[←hw6,←hRB]
  rcases Hcase.out with ⟨hs,hne⟩|⟨ns,hs,her,hsl⟩
  ·have hE:(er==0)=false:=by simp;omega
   have Hs:=cH hs
   have tc:=cO _ _ 0 _ _ _ hGB6
   have tf:w6.frozen? ⟨GB,0,none⟩=false:=frozen_of_row _ _ 0 _ _ hGB6
   clear hs hne hi Hcase hq6 hw6 hRB hGB6 HR
   go_wp2_with fail
   refine zCp rfl rfl rfl rfl rfl (zAT (o:=0) HGB6.out _) Tryz.underlying24 rfl (by kernel_rfl) (SolvP.no Hs.out (HBw6.out.setCell (p:=⟨GB,0,none⟩) HGB.out.1 _))
  subst her
  have hl1:1≤q.lim:=by omega
  have hinv:=zGZ hl1 hs
  have hgn:=hsl.n_eq
  have hgc:=hsl.cap_le
  unfold maxLen at hgc
  have hn40:gn≤40:=by have:=hinv.len;omega
  have hn1:1≤gn:=by
   obtain ⟨es,hr⟩:=hinv.root
   have:=(gS.1 hr).1
   omega
  have hgcz:gn≤gc:=by omega
  have Hgn:Hid (ns.length=gn):=hgn.symm
  have Hsl6:Hid (SlV rNode w6 (fun _=>True) ns (.slice gA gn gc)):=by unfold Hid;rw[hw6];exact hsl.alloc _
  have Hs:=cH hs
  have HGN:Hid (w6.heap[GB]?=some (.cells #[.slice none 0 0] 24 (0,0))):=hGB6
  obtain ⟨cA,cn,cc,hrc,hlc⟩:=HC4.out
  rw[List.take_of_length_le (by have:=Hn.out;omega),←hqL] at hlc
  have hw46:w4.heap.size≤w6.heap.size:=HB6.out.size
  obtain ⟨T,hT⟩:∃ T:Nat→Prop,T=fun b=>(b<w.heap.size∨w0.heap.size≤b)∧b<w6.heap.size:=⟨_,rfl⟩
  have HT:Hid (∀ b,T b↔(b<w.heap.size∨w0.heap.size≤b)∧b<w6.heap.size):=fun b=>by rw[hT]
  clear hT
  have HLc:Hid (SlV rPack w6 T q.L (.slice cA cn cc)):=(hlc.belowSize HB6.out).more fun b hb hl=>(HT.out b).2 ⟨hb,hl⟩
  have HCc:Hid (∀ W,Below w6.heap.size w6 W→W.cell? ⟨CB,0,none⟩=some (.slice cA cn cc)):=fun W hW=>by
   have h:=(HB6.out.block _ (aS.1 hrc).1).trans hrc
   exact cO _ _ 0 _ _ _ ((hW.block _ (aS.1 h).1).trans h)
  have HGet:Hid (∀ W (s:ByteArray) (u:Ver),Below w6.heap.size w6 W→Calls Tryz.prog 35 #[.pointer (some ⟨CB,0,none⟩),.string s,.agg #[.int .i64 u.major,.int .i64 u.minor,.int .i64 u.patch]] W fun e w'=>(∃ A B C' a b c,e=.returned (.tuple #[.agg #[.string ((getC q.L s u).getD zAC).name,.int .i64 ((getC q.L s u).getD zAC).ver.major,.int .i64 ((getC q.L s u).getD zAC).ver.minor,.int .i64 ((getC q.L s u).getD zAC).ver.patch,.slice A ((getC q.L s u).getD zAC).deps.length a,.slice B ((getC q.L s u).getD zAC).peers.length b,.slice C' ((getC q.L s u).getD zAC).opts.length c],.bool (getC q.L s u).isSome])∧PackV w' T ((getC q.L s u).getD zAC) (.agg #[.string ((getC q.L s u).getD zAC).name,.int .i64 ((getC q.L s u).getD zAC).ver.major,.int .i64 ((getC q.L s u).getD zAC).ver.minor,.int .i64 ((getC q.L s u).getD zAC).ver.patch,.slice A ((getC q.L s u).getD zAC).deps.length a,.slice B ((getC q.L s u).getD zAC).peers.length b,.slice C' ((getC q.L s u).getD zAC).opts.length c]))∧Below W.heap.size W w'):=fun W s u hW=>by
   refine (zEp CB cA cn cc q.L s u W T (HCc.out W hW) (HLc.out.belowSize hW)).mono ?_
   rintro e w' ⟨z,h1,h2,h3⟩
   obtain ⟨A,B,C',a,b,c,rfl,_⟩:=h2.open_
   exact ⟨⟨A,B,C',a,b,c,h1,h2⟩,h3⟩
  have HI:Hid (∀ (s:ByteArray) (u:Ver),I64 ((getC q.L s u).getD zAC).ver.major∧I64 ((getC q.L s u).getD zAC).ver.minor∧I64 ((getC q.L s u).getD zAC).ver.patch):=fun s u=>by
   cases hg:getC q.L s u with
   | none=>exact ⟨zCF,zCF,zCF⟩
   | some p=>
     obtain ⟨j,hj,hjp⟩:=List.getElem_of_mem (zDx hg).1
     obtain ⟨_,_,_,_,_,_,_,_,_,_,_,_,hi,_⟩:=zFm HLc.out (show q.L[j]?=some p by rw[gE hj,hjp])
     exact hi
  have HE:Hid (∀ (k:Nat) (y:Node),ns[k]?=some y→∃ b o,gA=some ⟨b,o,none⟩∧∀ W,Below w6.heap.size w6 W→W.cell? ⟨b,o+k * 6,none⟩=some (.string y.name)∧W.cell? ⟨b,o+k * 6+1,none⟩=some (.int .i64 y.ver.major)∧W.cell? ⟨b,o+k * 6+2,none⟩=some (.int .i64 y.ver.minor)∧W.cell? ⟨b,o+k * 6+3,none⟩=some (.int .i64 y.ver.patch)):=fun k y hy=>by
   obtain ⟨b,o,cs,hA,_,hb,⟨q0,q1,rfl,_,_,_,_,_,_⟩,hcell⟩:=Hsl6.out.elem hy
   exact ⟨b,o,hA,fun W hW=>⟨zAA hW (hcell 0 _ rfl) hb,zAA hW (hcell 1 _ rfl) hb,zAA hW (hcell 2 _ rfl) hb,zAA hW (hcell 3 _ rfl) hb⟩⟩
  obtain ⟨PS,hPS⟩:∃ PS,PS=zCC q.L ns:=⟨_,rfl⟩
  have HP1:Hid (PS.take 1=[zAC]):=by unfold Hid;rw[hPS];exact zIS (by have:=Hgn.out;omega)
  have HPn:Hid (∀ (k:Nat) (y:Node),1≤k→ns[k]?=some y→PS.take (k+1)=PS.take k++[(getC q.L y.name y.ver).getD zAC]):=fun k y h1 h2=>by rw[hPS];exact zJp h1 h2
  have HPl:Hid (PS.length=gn):=by unfold Hid;rw[hPS,zDW];exact Hgn.out
  have HPS:=cH hPS
  have r0:=cO _ _ 0 _ _ _ (HR.out w6 (bR _ _))
  clear hs hi Hcase hq6 hw6 hRB hGB6 hinv hgn hgc hsl hrc hlc hw46 hPS HC4 hl1
  go_upto_region 11 with (fail)
  obtain ⟨w7,hw7⟩:∃ w7,w7=w6.alloc (.cells #[.string ⟨#[]⟩,.int .i64 0,.int .i64 0,.int .i64 0,.slice none 0 0,.slice none 0 0,.slice none 0 0] 52):=⟨_,rfl⟩
  have HO7:Hid (Own rPack w7 w6.heap.size 52 (.slice (some ⟨w6.heap.size,0,none⟩) 1 1) (PS.take 1) T):=by
   unfold Hid
   rw[hw7,HP1.out]
   exact zMJ zAC _ (nR _) ⟨_,_,_,rfl,by decide,zCF,zCF,zCF,SlV.nil_ _ _ _,SlV.nil_ _ _ _,SlV.nil_ _ _ _⟩ (fun b hb=>((HT.out b).1 hb).2)
  have HB7:Hid (Below w6.heap.size w6 w7):=by unfold Hid;rw[hw7];exact bal (bR _ _) _
  rw[←hw7]
  clear hw7 r0 HP1
  go_wp2_with fail
  go_loopw [11,12] (fun t11 t12 wr=>∃ (k g cap:Nat),1≤k∧k≤gn∧t12=.int .i64 k∧t11=.slice (some ⟨g,0,none⟩) k cap∧Hid (Own rPack wr w6.heap.size 52 (.slice (some ⟨g,0,none⟩) k cap) (PS.take k) T)∧Hid (Below w6.heap.size w6 wr)) (fun _ t12 _=>gn - (intOf t12).toNat)
  case atStart=>exact ⟨1,w6.heap.size,1,nR _,hn1,rfl,rfl,HO7,HB7⟩
  case round=>
   clear HO7 HB7
   obtain ⟨k,g,cap,hk1,hk,rfl,rfl,hown,hB⟩:=hrel
   have hk0:(0:Int)≤(k:Int):=by omega
   have r0:=cO _ _ 0 _ _ _ (HR.out wr hB.out)
   by_cases hlt:k<gn
   case pos=>
    have hkI:(k:Int)<(gn:Int):=by omega
    obtain ⟨y,hy⟩:∃ y,ns[k]?=some y:=⟨_,gE (by have:=Hgn.out;omega)⟩
    obtain ⟨b,o,hA,hcells⟩:=HE.out k y hy
    have Hcl:=cH hcells
    have Hnext:=cH (HPn.out k y hk1 hy)
    have HGk:Hid (∀ W,Below w6.heap.size w6 W→_):=fun W hW=>HGet.out W y.name y.ver hW
    have HIk:=cH (HI.out y.name y.ver)
    clear hcells hy HE HGet HI HPn
    subst hA
    generalize (getC q.L y.name y.ver).isSome=gs at *
    generalize (getC q.L y.name y.ver).getD zAC=p at *
    obtain ⟨yn0,⟨x1,x2,x3⟩,xx,xe⟩:=y
    simp only at Hcl HGk
    obtain ⟨l1,hl1⟩:∃ k,k=p.deps.length:=⟨_,rfl⟩
    obtain ⟨l2,hl2⟩:∃ k,k=p.peers.length:=⟨_,rfl⟩
    obtain ⟨l3,hl3⟩:∃ k,k=p.opts.length:=⟨_,rfl⟩
    rw[←hl1,←hl2,←hl3] at HGk
    clear hl1 hl2 hl3
    obtain ⟨yn,hyn⟩:∃ k,k=p.name:=⟨_,rfl⟩
    obtain ⟨v1,hv1⟩:∃ k,k=p.ver.major:=⟨_,rfl⟩
    obtain ⟨v2,hv2⟩:∃ k,k=p.ver.minor:=⟨_,rfl⟩
    obtain ⟨v3,hv3⟩:∃ k,k=p.ver.patch:=⟨_,rfl⟩
    rw[←hyn,←hv1,←hv2,←hv3] at HGk
    rw[←hv1,←hv2,←hv3] at HIk
    clear hyn hv1 hv2 hv3
    obtain ⟨n0,n1,n2,n3⟩:=Hcl.out wr hB.out
    have Hcells:Hid (∀ W,Below wr.heap.size wr W→W.cell? ⟨RB,0,none⟩=some (.slice (some ⟨b,o,none⟩) gn gc)∧W.cell? ⟨b,o+k * 6,none⟩=some (.string yn0)∧W.cell? ⟨b,o+k * 6+1,none⟩=some (.int .i64 x1)∧W.cell? ⟨b,o+k * 6+2,none⟩=some (.int .i64 x2)∧W.cell? ⟨b,o+k * 6+3,none⟩=some (.int .i64 x3)):=fun W hW=>⟨cO _ _ 0 _ _ _ (HR.out W (bot hB.out hW)),Hcl.out W (bot hB.out hW)⟩
    have HGw:Hid (∀ W,Below wr.heap.size wr W→_):=fun W hW=>HGk.out W (bot hB.out hW)
    clear HGk Hcl HR
    go_upto_region 14 with (fail)
    go_cut [13,14] from 55 to 71 (fun v7 v8 wx=>∃ (PB:Nat) (A B C':Option Addr) (a b' c:Nat),v7=.pointer (some ⟨PB,0,none⟩)∧v8=.bool gs∧Hid (Below wr.heap.size wr wx∧wx.heap[PB]?=some (.cells #[.string yn,.int .i64 v1,.int .i64 v2,.int .i64 v3,.slice A l1 a,.slice B l2 b',.slice C' l3 c] 52 (0,0))∧PackV wx T p (.agg #[.string yn,.int .i64 v1,.int .i64 v2,.int .i64 v3,.slice A l1 a,.slice B l2 b',.slice C' l3 c])))
    case first=>
     go_region_held3 (fun W=>(W.cell? ⟨RB,0,none⟩=some (.slice (some ⟨b,o,none⟩) gn gc)∧W.cell? ⟨b,o+k * 6,none⟩=some (.string yn0)∧W.cell? ⟨b,o+k * 6+1,none⟩=some (.int .i64 x1)∧W.cell? ⟨b,o+k * 6+2,none⟩=some (.int .i64 x2)∧W.cell? ⟨b,o+k * 6+3,none⟩=some (.int .i64 x3))∧Below wr.heap.size wr W)
      (first
        | (with_reducible exact hK7 _ _ _ _ _ _ _)
        | (with_reducible exact ⟨Hcells.out _ (bR _ _).drew,(bR _ _).drew⟩)
        | (with_reducible exact ⟨Hcells.out _ hB2,hB2⟩)
        | (with_reducible exact ⟨Hcells.out _ (bal hB2 _),bal hB2 _⟩)
        | (with_reducible exact ⟨Hcells.out _ (bal (bR _ _).drew _),bal (bR _ _).drew _⟩))
      (first
        | (go_at_call 35;go_split_ands;with_reducible refine (HGw.out _ (by assumption)).mono ?_;rintro e w2 ⟨⟨eA,eB,eC,ea,eb,ec,rfl,hpv⟩,hb2⟩;have hB2:Below wr.heap.size wr w2:=bot (by assumption) hb2;have hz2:=hB2.size;(try (have hT:=zED hb2;obtain ⟨⟨t0,t1,t2,t3,t4,t5,t6⟩,f0,f1,f2,f3,f4,f5,f6⟩:=hT;have hK7:=fun a0 a1 a2 a3 a4 a5 a6=>And.intro (Hcells.out _ (zAb hB2 (nR wr.heap.size) a0 a1 a2 a3 a4 a5 a6)) (zAb hB2 (nR wr.heap.size) a0 a1 a2 a3 a4 a5 a6)))))
     all_goals
      go_wp2_with fail
      go_meet
      first
       | (have hq:=hK7;exact ⟨wr.heap.size,eA,eB,eC,ea,eb,ec,rfl,rfl,zAb hB2 (nR _) _ _ _ _ _ _ _,set7Q (zEj hb2) _ _ _ _ _ _ _,hpv.belowT (zAb (bR wr.heap.size w2) (nR _) _ _ _ _ _ _ _) (fun b hb=>lL ((HT.out b).1 hb).2 hB.out.size)⟩)
       | exact ⟨w2.heap.size,eA,eB,eC,ea,eb,ec,rfl,rfl,bal hB2 _,zAD w2 _,hpv.keep (bal (bR _ _) _)⟩
    case rest=>
    obtain ⟨PB,eA,eB,eC,ea,eb,ec,rfl,rfl,HN⟩:=hcut
    generalize wc=w8 at *
    have HB8:=cH HN.out.1
    have HO8:=cH (hown.out.keep HB8.out)
    obtain ⟨⟨t0,t1,t2,t3,t4,t5,t6⟩,_⟩:=row7 HN.out.2.1
    have HX8:Hid (rPack.holds (w8.alloc (.cells #[.string yn,.int .i64 v1,.int .i64 v2,.int .i64 v3,.slice eA l1 ea,.slice eB l2 eb,.slice eC l3 ec] 52)) T p [.string yn,.int .i64 v1,.int .i64 v2,.int .i64 v3,.slice eA l1 ea,.slice eB l2 eb,.slice eC l3 ec]):=Rp.alloc (zIk HN.out.2.2 HIk.out) _
    have Hlen:Hid ((PS.take k).length=k):=by unfold Hid;rw[List.length_take,HPl.out];omega
    have hz8:w6.heap.size≤w8.heap.size:=(bot hB.out HB8.out).size
    clear HN hown Hcells HGw n0 n1 n2 n3 r0
    go_wp2_with (at_builtin;refine zAK (by rfl) _ _ _ (by rfl) zDy Tryz.underlying25 (by rfl) (HO8.out.alloc _) ⟨w8.heap.size,0,none⟩ 1 [.string yn,.int .i64 v1,.int .i64 v2,.int .i64 v3,.slice eA l1 ea,.slice eB l2 eb,.slice eC l3 ec] p (by rfl) HX8.out (zAo w8 #[.string yn,.int .i64 v1,.int .i64 v2,.int .i64 v3,.slice eA l1 ea,.slice eB l2 eb,.slice eC l3 ec] _) (by rw[Hlen.out];unfold maxLen;omega) (by rw[Hlen.out];omega) (by simp;omega) (w8.heap.size+1) (by simp) ?_)
    intro g9 cap9 w9 hown9 hgrow9 hat9 hlt9
    have HB9:=cH (zA6 (bal (bot hB.out HB8.out) _) hgrow9 (HO8.out.alloc _) (nR _))
    have Hown9:Hid (Own rPack w9 w6.heap.size 52 (.slice (some ⟨g9,0,none⟩) (k+1) cap9) (PS.take (k+1)) T):=by
     unfold Hid
     rw[Hnext.out]
     rw[show min k PS.length=k from by have:=HPl.out;omega] at hown9
     exact hown9
    rw[show min k PS.length=k from by have:=HPl.out;omega]
    clear hown9 hgrow9 hat9 hlt9 HX8 HO8 t0 t1 t2 t3 t4 t5 t6
    go_wp2_with fail
    go_roundw
    case rel=>exact ⟨k+1,g9,cap9,by omega,by omega,by go_num,by go_num,Hown9,HB9⟩
    case measure=>simp[intOf];omega
   have hkI:¬(k:Int)<(gn:Int):=by omega
   have hke:gn=k:=by omega
   subst hke
   have hrow:=(hB.out.block _ (aS.1 HGN.out).1).trans HGN.out
   have Hrow:=cH hrow
   have tc:=cO _ _ 0 _ _ _ hrow
   have tf:wr.frozen? ⟨GB,0,none⟩=false:=frozen_of_row _ _ 0 _ _ hrow
   have HF:Hid (∀ v,SolvP q w (.returned (.tuple #[.agg #[.slice gA gn gc],.slice (some ⟨g,0,none⟩) gn cap,.bool true])) (wr.setCell ⟨GB,0,none⟩ v)):=fun v=>by
    have h1:=zFE HGN.out Hsl6.out
    have h2:=h1.belowSize hB.out
    have h3:=hown.out.slv
    have hgb:=HGB.out
    rw[show PS.take gn=zCC q.L ns by rw[List.take_of_length_le (by have:=HPl.out;omega),HPS.out]] at h3
    refine SolvP.yes Hs.out ((h2.keep fun b hb _=>heap_setCell_other wr ⟨GB,0,none⟩ b v (by exact hb.2)).more fun _ _ _=>trivial) ((h3.keep fun b hb _=>heap_setCell_other wr ⟨GB,0,none⟩ b v ?_).more fun _ _ _=>trivial) ((bot HBw6.out hB.out).setCell (p:=⟨GB,0,none⟩) hgb.1 _)
    show b≠GB
    have hGs:=(aS.1 HGN.out).1
    rcases hb with hb|hb
    ·have:=((HT.out b).1 hb).1;omega
    ·omega
   clear hrow
   go_wp2_with fail
   refine zCp rfl rfl rfl rfl rfl (zAT (o:=0) Hrow.out _) Tryz.underlying24 rfl (by kernel_rfl) (HF.out _)
noncomputable def psW (x:Wd) (ns:List Node):List Pack:=zCC (catC x.packs) ns
structure SolF (x:Wd) (ns:List Node):Prop where
 len:ns.length≤1048576
 packs:zI1 (psW x ns)
theorem zGE:zBf zAC:=⟨⟨nZ _,fun d hd=>by cases hd⟩,⟨nZ _,fun d hd=>by cases hd⟩,⟨nZ _,fun d hd=>by cases hd⟩⟩
theorem zLG {x:Wd} (hz:WdS x) {ns:List Node} (h:solS (qSol x)=some ns):SolF x ns:=by
 have hlen:ns.length≤40:=(zGZ (q:=qSol x) (by show 1≤40;decide) h).len
 refine ⟨by omega,⟨by show (zCC _ _).length≤_;rw[zDW];omega,fun y hy=>?_⟩⟩
 have hy:y∈zCC (catC x.packs) ns:=hy
 cases ns with
 | nil=>cases hy
 | cons a l=>
   rcases List.mem_cons.1 hy with rfl|hy
   ·exact zGE
   ·obtain ⟨n,_,rfl⟩:=List.mem_map.1 hy
    cases hg:getC (catC x.packs) n.name n.ver with
    | none=>exact zGE
    | some p=>exact hz.1.2 p (zIq (zDx hg).1).1
def SolA (x:Wd) (w:World) (e:Ending) (w':World):Prop:=
 (∃ (gA pA:Option Addr) (gn gc pn pc:Nat) (b:Bool),e=.returned (.tuple #[.agg #[.slice gA gn gc],.slice pA pn pc,.bool b])∧(b=true→∃ ns,solS (qSol x)=some ns∧SolF x ns∧SlV rNode w' (fun _=>True) ns (.slice gA gn gc)∧SlV rPack w' (fun _=>True) (psW x ns) (.slice pA pn pc)))∧Below w.heap.size w w'
theorem zMv {x:Wd} {v:Value} {w:World} {S:Nat→Prop} (hv:WdV w S x v) (hz:WdS x) (W:World) (hW:Below w.heap.size w W):Calls Tryz.prog 16 #[v] W fun e w'=>SolA x W e w':=by
 obtain ⟨kA,kn,kc,mA,mn,mc,nA,nn,nc,lA,ln,lc,vA,vn,vc,oA,on,oc,rfl,h0,h1,h2,h3,h4,h5,_⟩:=hv
 refine (zJY kA mA nA lA vA oA kn kc mn mc nn nc ln lc vn vc on oc _ _ _ _ _ x W S (h0.belowSize hW) (h1.belowSize hW) (h2.belowSize hW) (h3.belowSize hW) (h4.belowSize hW) hz).mono ?_
 rintro e w' ⟨⟨gA,pA,gn,gc,pn,pc,b,rfl,hc⟩,hb⟩
 refine ⟨⟨gA,pA,gn,gc,pn,pc,b,rfl,fun ht=>?_⟩,hb⟩
 rcases hc with ⟨hf,_⟩|⟨ns,_,hs,g1,g2⟩
 ·rw[ht] at hf;cases hf
 ·exact ⟨ns,hs,zLG hz hs,g1,g2⟩
theorem zNZ {x:Wd} (h:bkWd x≤1048576):WdZ x∧WdS x:=by
 have e:bkWd x=1+bkL zCY x.packs+zGM x.man+1+1+(1+bkL bkDir x.old)+1:=rfl
 have e2:zGM x.man=1+bkL bkDep x.man.deps+bkL bkDep x.man.dev+bkL bkDep x.man.opts+bkL bkDep x.man.over:=rfl
 have n1:=zDm (bk:=bkDep) (l:=x.man.deps) fun x=>by unfold bkDep;omega
 have n2:=zDm (bk:=bkDep) (l:=x.man.dev) fun x=>by unfold bkDep;omega
 have n3:=zDm (bk:=bkDep) (l:=x.man.opts) fun x=>by unfold bkDep;omega
 exact ⟨zN5 h,zIc (nR _) (by omega),by omega,by omega,by omega⟩
theorem zFi {w w':World} {b:Nat} {cs:Array Value} {t:TypeId} (h:w.heap[b]?=some (.cells cs t (0,0))) (hb:Below w.heap.size w w'):w'.heap[b]?=some (.cells cs t (0,0)):=(hb.block _ (aS.1 h).1).trans h
theorem zKI {w0 w2:World} (hb:Below (w0.alloc (Obj.cells #[.slice none 0 0] 33)).drew.heap.size (w0.alloc (Obj.cells #[.slice none 0 0] 33)).drew w2):w2.heap[w0.heap.size]?=some (.cells #[.slice none 0 0] 33 (0,0))∧w2.cell? ⟨w0.heap.size,0,none⟩=some (.slice none 0 0)∧w2.frozen? ⟨w0.heap.size,0,none⟩=false:=by
 have h:w2.heap[w0.heap.size]?=some (.cells #[.slice none 0 0] 33 (0,0)):=(hb.block _ (by show w0.heap.size<(w0.alloc (.cells #[.slice none 0 0] 33)).heap.size;simp)).trans (zAD w0 _)
 exact ⟨h,cO _ _ 0 _ _ _ h,frozen_of_row _ _ 0 _ _ h⟩
theorem zM1 {w2 w3:World} (hb:Below (w2.alloc (Obj.cells #[.slice none 0 0] 33)).heap.size (w2.alloc (Obj.cells #[.slice none 0 0] 33)) w3):w3.heap[w2.heap.size]?=some (.cells #[.slice none 0 0] 33 (0,0))∧w3.cell? ⟨w2.heap.size,0,none⟩=some (.slice none 0 0)∧w3.frozen? ⟨w2.heap.size,0,none⟩=false:=by
 have h:w3.heap[w2.heap.size]?=some (.cells #[.slice none 0 0] 33 (0,0)):=(hb.block _ (by simp)).trans (zAD w2 _)
 exact ⟨h,cO _ _ 0 _ _ _ h,frozen_of_row _ _ 0 _ _ h⟩
theorem zLR {w2 w3:World} {B:Nat} {v u:Value} (hb:Below w2.heap.size w2 w3) (hr:w2.heap[B]?=some (.cells #[v] 33 (0,0))) (h:w2.cell? ⟨B,0,none⟩=some u) (f:w2.frozen? ⟨B,0,none⟩=false):w3.heap[B]?=some (.cells #[v] 33 (0,0))∧w3.cell? ⟨B,0,none⟩=some u∧w3.frozen? ⟨B,0,none⟩=false:=
 ⟨zFi hr hb,zAA hb h (zAV h),(zFj (hb.block _ (zAV h)) _ _).trans f⟩
theorem zM4 {w0 w3:World} {A:Option Addr} {n c N:Nat} {R1:List Dir} (hB:Below w0.heap.size w0 w3) (hrv:SlV rDir w3 (fun b=>N≤b) R1 (.slice A n c)) (hN:w0.heap.size≤N) :
  Below w0.heap.size w0 (w3.alloc (.cells #[.slice A n c] 33))∧(w3.alloc (.cells #[.slice A n c] 33)).heap[w3.heap.size]?=some (.cells #[.slice A n c] 33 (0,0))∧w0.heap.size≤w3.heap.size∧SlV rDir (w3.alloc (.cells #[.slice A n c] 33)) (fun b=>w0.heap.size≤b∧b≠w3.heap.size) R1 (.slice A n c):=
 ⟨bal hB _,zAD w3 _,hB.size,(hrv.more (S':=fun b=>w0.heap.size≤b∧b≠w3.heap.size) fun b hb hl=>⟨nT hN hb,Nat.ne_of_lt hl⟩).alloc _⟩
theorem zJM {w0 w3:World} {TB N:Nat} {A:Option Addr} {n c:Nat} {u:Value} {R1:List Dir} (hB:Below w0.heap.size w0 w3) (hz:w0.heap.size≤TB) (hT:w3.heap[TB]?=some (.cells #[u] 33 (0,0))) (hrv:SlV rDir w3 (fun b=>N≤b) R1 (.slice A n c)) (hw:w0.heap.size≤N) (hN:TB<N) :
  Below w0.heap.size w0 (w3.setCell ⟨TB,0,none⟩ (.slice A n c))∧(w3.setCell ⟨TB,0,none⟩ (.slice A n c)).heap[TB]?=some (.cells #[.slice A n c] 33 (0,0))∧w0.heap.size≤TB∧SlV rDir (w3.setCell ⟨TB,0,none⟩ (.slice A n c)) (fun b=>w0.heap.size≤b∧b≠TB) R1 (.slice A n c):=
 ⟨hB.setCell hz _,zAT hT _,hz,(hrv.keep fun b hb _=>heap_setCell_other w3 ⟨TB,0,none⟩ b _ (by show b≠TB;omega)).more fun b hb _=>⟨by omega,by omega⟩⟩
end Go.Proofs.YtminjjdnmpaaoaaGreatDoor
namespace Go.Proofs.YtminjjdnmpaaoaaGreatDoor
open Go
structure SimQ (q q1:PlIn) (R:PlSt→Prop) (c:Option Int):Prop where
 g:q1.g=q.g
 mono:∀ st st':PlSt,st.1<+:st'.1→R st'→R st
 step:∀ (at_:Nat) (done:List ByteArray) (st st':PlSt) (d:Dir) (n:Node) (e:Edge) (kind:Nat),zAc q at_ done st→R st→st.1[at_]?=some d→q.g[d.node.toNat]?=some n→e∈n.edges→e.label∉done→stepE q at_ kind e st=.ok st' →
  (R st'→stepE q1 at_ kind e st=.ok st')∧(∀ c0,c=some c0→¬R st'→stepE q1 at_ kind e st=.error c0)
theorem SimQ.node {q q1:PlIn} {R:PlSt→Prop} {c:Option Int} (h:SimQ q q1 R c) (i:Nat):zAY q1 i=zAY q i:=by unfold zAY;rw[h.g]
theorem SimQ.kind {q q1:PlIn} {R:PlSt→Prop} {c:Option Int} (h:SimQ q q1 R c) (n:Node) (e:Edge):kindP q1 n e=kindP q n e:=by unfold kindP;rw[h.node]
