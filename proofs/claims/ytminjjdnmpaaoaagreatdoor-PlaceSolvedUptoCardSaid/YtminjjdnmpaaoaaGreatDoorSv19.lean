/- The program's placer: the edges of a directory: what stays, in memory and in plain words. -/
import Derived.Test.YtminjjdnmpaaoaaGreatDoorSv15
import Derived.Deep.CutRange
import Derived.Deep.RegionLaw
import Derived.Deep.RegionHeld3
import Derived.Test.YtminjjdnmpaaoaaGreatDoorAl
set_option linter.all false
set_option maxHeartbeats 12800000
set_option maxRecDepth 100000
namespace Go.Proofs.YtminjjdnmpaaoaaGreatDoor
open Go.Rows Go.RowKit Go.Shelf Go.Sort
theorem zI9 {α:Type} [DecidableEq α]:∀ {l m:List α},l.Nodup→(∀ x∈l,x∈m)→l.length≤m.length
 | [],m,_,_=>nZ _
 | a::l,m,hn,hs=>by
   rw[List.nodup_cons] at hn
   have ha:=hs a List.mem_cons_self
   have h1:=zI9 (l:=l) (m:=m.erase a) hn.2 (fun x hx=>(List.mem_erase_of_ne (by intro e;subst e;exact hn.1 hx)).2 (hs x (List.mem_cons_of_mem _ hx)))
   rw[List.length_erase_of_mem ha] at h1
   have h2:0<m.length:=List.length_pos_of_mem ha
   simp only[List.length_cons];omega
theorem zHC {q:PlIn} (h:mayPl q.g q.ps=true) {j:Nat} {n:Node} (hj:q.g[j]?=some n):n.edges.length≤128:=by
 have h1:=zBt h hj
 have h2:(zAF n.edges).length≤(q.g.map (·.name)).length:=zI9 h1 fun s hs=>by
  obtain ⟨e,he,rfl⟩:=List.mem_map.1 hs
  obtain ⟨h1,h2,h3,_⟩:=zDw h hj he
  have hlt:e.to.toNat<q.g.length:=by omega
  refine List.mem_map.2 ⟨q.g[e.to.toNat],List.getElem_mem hlt,?_⟩
  rw[←h3];unfold zBW;rw[List.getD_eq_getElem?_getD,gE hlt];rfl
 rw[List.length_map] at h2
 unfold zAF at h2
 rw[List.length_map] at h2
 exact nT h2 (zCy h).2.1
theorem zDl:Elt Tryz.prog 61 2 24:=Elt.mk' (z:=.agg #[.string ⟨#[]⟩,.int .i64 0]) (by kernel_rfl) rfl (by decide)
theorem zKL (w:World) (oa:Obj):Below w.heap.size w (w.alloc oa).drew∧(w.alloc oa).drew.heap[w.heap.size]?=some oa:=⟨(bal (bR _ _) _).drew,zAD w oa⟩
theorem Own.frame {α:Type} {r:Rp α} {w w':World} {base:Nat} {e:TypeId} {v:Value} {l:List α} (h:Own r w base e v l (fun _=>False)) (hk:∀ b,v.ownBlock=some b→w'.heap[b]?=w.heap[b]?):Own r w' base e v l (fun _=>False):=by
 obtain ⟨h0,xs,h1,h2⟩:=h
 refine ⟨fun b hb=>hb.elim,xs,⟨h1.1,?_⟩,h2.mono fun b hb _=>hb.elim⟩
 rcases h1.2 with hn|⟨g,cap,cur,rfl,hb,hgg,rest⟩
 ·exact .inl hn
 ·exact .inr ⟨g,cap,cur,rfl,hb,(hk g rfl).trans hgg,rest⟩
theorem PlP.notPl {C:PlCtx} {w:World} {st:PlSt} {A:Option Addr} {c:Nat} {A':Option Addr} {c':Nat} {S:Nat→Prop} (h:PlP C w st A c A' c' S) {b:Nat} (h1:b≠C.P) (h2:(Value.slice A st.1.length c).ownBlock≠some b) (h3:(Value.slice A' st.2.length c').ownBlock≠some b):NotPl C w b:=
 ⟨h1,fun v hv=>by rw[cO _ _ 7 _ _ _ h.row] at hv;cases hv;exact h2,fun v hv=>by rw[cO _ _ 8 _ _ _ h.row] at hv;cases hv;exact h3⟩
theorem PlP.notNew {C:PlCtx} {w w':World} {st:PlSt} {A:Option Addr} {c:Nat} {A':Option Addr} {c':Nat} {S:Nat→Prop} (h:PlP C w st A c A' c' S) (hb:Below w.heap.size w w') {b:Nat} (h1:w.heap.size≤b):NotPl C w' b:=
 (h.keep hb).notPl (by have:=h.hP;omega) (fun e=>by have:=(h.T.lt _ e).2;omega) (fun e=>by have:=(h.S'.lt _ e).2;omega)
theorem NotPl.grown {C:PlCtx} {w w':World} {row:Option Nat} {b:Nat} (hn:NotPl C w b) (hP:C.P<w.heap.size) (hg:w.grownBy w' row) (hr:row≠some C.P):NotPl C w' b:=
 ⟨hn.1,fun v hv=>hn.2.1 v (by rw[←zAW (hg.block C.P hP (fun e=>hr e.symm)) 7 none];exact hv),fun v hv=>hn.2.2 v (by rw[←zAW (hg.block C.P hP (fun e=>hr e.symm)) 8 none];exact hv)⟩
theorem PlFr.grown {C:PlCtx} {w w1 w2:World} {row:Option Nat} (h:PlFr C w w1) (hP:C.P<w1.heap.size) (hg:w1.grownBy w2 row) (hr:∀ b,row=some b→w.heap.size≤b∧b≠C.P):PlFr C w w2:=
 ⟨nT h.1 hg.size,fun b hb hn=>by
   obtain ⟨h1,h2⟩:=h.2 b hb hn
   exact ⟨(hg.block b (lL hb h.1) (fun e=>by have:=(hr b e.symm).1;omega)).trans h1,h2.grown hP hg (fun e=>(hr _ e).2 rfl)⟩⟩
theorem PlFr.refl (C:PlCtx) (w:World):PlFr C w w:=⟨nR _,fun b _ hn=>⟨rfl,hn⟩⟩
theorem PlP.grown {C:PlCtx} {w w':World} {st:PlSt} {A:Option Addr} {c:Nat} {A':Option Addr} {c':Nat} {S:Nat→Prop} (h:PlP C w st A c A' c' S) {row:Option Nat} (hg:w.grownBy w' row) (hr:∀ b,row=some b→NotPl C w b∧¬S b∧C.w0.heap.size≤b):PlP C w' st A c A' c' S:=by
 refine ⟨by rw[hg.block C.P h.hP (fun e=>(hr _ e.symm).1.1 rfl)];exact h.row,h.T.grown hg ?_ (fun b hb e=>(hr b e.symm).2.1 hb),h.S'.grown hg ?_ (fun b hb=>hb.elim),h.apart,h.tp,h.sp,h.ts,h.base.grown hg h.base.size (fun k hk=>(hr k hk).2.2),fun b hb=>⟨(h.new b hb).1,(h.new b hb).2.grown hg fun e=>(hr b e.symm).2.1 hb⟩⟩
 ·cases hk:(Value.slice A st.1.length c).ownBlock with
  | none=>exact .inl rfl
  | some k=>exact .inr fun e=>(hr k e.symm).1.2.1 _ (cO _ _ 7 _ _ _ h.row) hk
 ·cases hk:(Value.slice A' st.2.length c').ownBlock with
  | none=>exact .inl rfl
  | some k=>exact .inr fun e=>(hr k e.symm).1.2.2 _ (cO _ _ 8 _ _ _ h.row) hk
theorem Own.slvO {α:Type} {r:Rp α} {w:World} {base:Nat} {e:TypeId} {v:Value} {l:List α} (h:Own r w base e v l (fun _=>False)):SlV r w (fun b=>v.ownBlock=some b) l v:=by
 obtain ⟨h0,xs,h1,h2⟩:=h
 have h1':=h1
 rcases h1.2 with ⟨rfl,hn⟩|⟨g,cap,cur,rfl,hb,hg,hnc,hcm,hsz,htake⟩
 ·have:l=[]:=List.eq_nil_of_length_eq_zero hn
  subst this
  exact SlV.nil_ _ _ _
 ·refine ⟨some ⟨g,0,none⟩,cap,rfl,hnc,hcm,(fun h=>by cases h),fun _=>⟨g,0,rfl,rfl,(aS.1 hg).1,fun i x hx=>?_⟩⟩
  obtain ⟨cs,hc,hcell⟩:=h2.get i x hx
  refine ⟨cs,r.mono hc fun b hb _=>hb.elim,fun j u hu=>?_⟩
  have h3:=h1'.cells (g:=g) rfl _ u (hcell j u hu)
  rw[zD0,Nat.zero_add] at h3
  rw[Nat.zero_add]
  exact h3
theorem zF9 {w w':World} {S S':Nat→Prop}:∀ {l:List Edge} {xs:List Value},Elems rEdge w S l xs→Elems rEdge w' S' l xs
 | [],_,h=>h
 | x::l,_,⟨cs,rest,h1,h2,h3⟩=>⟨cs,rest,h1,h2,zF9 h3⟩
theorem zKl {w:World} {base:Nat} {e:TypeId} {v:Value} {l:List Edge} {S:Nat→Prop} (h:Own rEdge w base e v l S):Own rEdge w base e v l (fun _=>False):=by
 obtain ⟨h0,xs,h1,h2⟩:=h
 exact ⟨fun b hb=>hb.elim,xs,h1,zF9 h2⟩
theorem zDE {q:PlIn} {n:Node} {kind:Nat} {l:List Edge} {k:Nat}:(zAV q n kind (l.take k)).length≤k:=by
 unfold zAV
 have:=List.length_filter_le (fun e=>decide (kindP q n e=kind)) (l.take k)
 rw[List.length_take] at this
 omega
structure DirL (C:PlCtx) (w1 wr:World) (st:PlSt) (S:Nat→Prop) (vA:Value) (al:List Edge) (vO:Value) (ot:List Edge):Prop where
 pl:PlS C wr st S
 al:Own rEdge wr w1.heap.size 61 vA al (fun _=>False)
 ot:Own rEdge wr w1.heap.size 61 vO ot (fun _=>False)
 nA:∀ b,vA.ownBlock=some b→NotPl C wr b∧¬S b
 nO:∀ b,vO.ownBlock=some b→NotPl C wr b∧¬S b
 ao:∀ b,vA.ownBlock=some b→vO.ownBlock≠some b
 fr:PlFr C w1 wr
section
variable {C:PlCtx} {w1 wr w':World} {st st':PlSt} {S:Nat→Prop} {vA vO:Value} {al ot:List Edge}
theorem DirL.start (h:PlS C w1 st S):DirL C w1 w1 st S (.slice none 0 0) [] (.slice none 0 0) []:=
 ⟨h,Own.nil_ rEdge w1 _ _ (fun b hb=>hb.elim),Own.nil_ rEdge w1 _ _ (fun b hb=>hb.elim),fun b e=>(by cases e),fun b e=>(by cases e),fun b e=>(by cases e),PlFr.refl C w1⟩
theorem DirL.keep (h:DirL C w1 wr st S vA al vO ot) (hb:Below wr.heap.size wr w'):DirL C w1 w' st S vA al vO ot:=by
 obtain ⟨A,c,A',c',hp⟩:=h.pl
 exact ⟨h.pl.keep hb,h.al.keep hb,h.ot.keep hb,fun b e=>⟨((PlFr.below hp.hP hb).2 b (h.al.lt b e).2 (h.nA b e).1).2,(h.nA b e).2⟩,fun b e=>⟨((PlFr.below hp.hP hb).2 b (h.ot.lt b e).2 (h.nO b e).1).2,(h.nO b e).2⟩,h.ao,h.fr.trans (PlFr.below hp.hP hb)⟩
theorem DirL.swap (h:DirL C w1 wr st S vA al vO ot):DirL C w1 wr st S vO ot vA al:=⟨h.pl,h.ot,h.al,h.nO,h.nA,fun b e e'=>h.ao b e' e,h.fr⟩
theorem DirL.settle (h:DirL C w1 wr st S vA al vO ot) (hs:PlS C w' st' S) (hf:PlFr C wr w'):DirL C w1 w' st' S vA al vO ot:=
 ⟨hs,h.al.frame (fun b e=>(hf.2 b (h.al.lt b e).2 (h.nA b e).1).1),h.ot.frame (fun b e=>(hf.2 b (h.ot.lt b e).2 (h.nO b e).1).1),fun b e=>⟨(hf.2 b (h.al.lt b e).2 (h.nA b e).1).2,(h.nA b e).2⟩,fun b e=>⟨(hf.2 b (h.ot.lt b e).2 (h.nO b e).1).2,(h.nO b e).2⟩,h.ao,h.fr.trans hf⟩
theorem DirL.pushV (h:DirL C w1 wr st S vA al vO ot) (hw:C.w0.heap.size≤w1.heap.size) {v':Value} {l':List Edge} {T:Nat→Prop} (hT:∀ b,T b→b≠C.P)
  (hgrow:wr.grownBy w' vA.ownBlock) (hat:∀ g,v'.ownBlock=some g→vA.ownBlock=some g∨wr.heap.size≤g) :
  PlS C w' st S∧(∀ g,v'.ownBlock=some g→NotPl C w' g∧¬S g∧vO.ownBlock≠some g)∧Own rEdge w' w1.heap.size 61 vO ot (fun _=>False)∧(∀ b,vO.ownBlock=some b→NotPl C w' b∧¬S b)∧PlFr C w1 w':=by
 obtain ⟨A,c,A',c',hp⟩:=h.pl
 have hr:∀ b,vA.ownBlock=some b→NotPl C wr b∧¬S b∧C.w0.heap.size≤b:=fun b e=>⟨(h.nA b e).1,(h.nA b e).2,nT hw (h.al.lt b e).1⟩
 have hp9:=hp.grown hgrow hr
 have hne:vA.ownBlock≠some C.P:=fun e'=>(h.nA _ e').1.1 rfl
 refine ⟨⟨A,c,A',c',hp9⟩,fun g hg=>?_,?_,fun b e=>⟨(h.nO b e).1.grown hp.hP hgrow hne,(h.nO b e).2⟩,h.fr.grown hp.hP hgrow (fun b e=>⟨(h.al.lt b e).1,(h.nA b e).1.1⟩)⟩
 ·rcases hat g hg with e|e
  ·exact ⟨(h.nA g e).1.grown hp.hP hgrow hne,(h.nA g e).2,h.ao g e⟩
  ·exact ⟨hp9.notPl (by have:=hp.hP;omega) (fun e'=>by have:=(hp.T.lt _ e').2;omega) (fun e'=>by have:=(hp.S'.lt _ e').2;omega),fun hs=>by have:=(hp.T.1 g hs).1;omega,fun e'=>by have:=(h.ot.lt _ e').2;omega⟩
 ·refine h.ot.grown hgrow ?_ (fun b hb=>hb.elim)
  cases hk:vO.ownBlock with
  | none=>exact .inl rfl
  | some k=>exact .inr fun e=>h.ao k e.symm hk
theorem DirL.push (h:DirL C w1 wr st S vA al vO ot) (hw:C.w0.heap.size≤w1.heap.size) {g n cap:Nat} {l':List Edge} (hown:Own rEdge w' w1.heap.size 61 (.slice (some ⟨g,0,none⟩) n cap) l' (fun _=>False))
  (hgrow:wr.grownBy w' vA.ownBlock) (hat:vA.ownBlock=some g∨wr.heap.size≤g):DirL C w1 w' st S (.slice (some ⟨g,0,none⟩) n cap) l' vO ot:=by
 obtain ⟨h1,h2,h3,h4,h5⟩:=h.pushV hw (v':=.slice (some ⟨g,0,none⟩) n cap) (l':=l') (T:=fun _=>False) (fun b hb=>hb.elim) hgrow (fun g' e=>by cases e;exact hat)
 exact ⟨h1,hown,h3,fun b e=>⟨(h2 b e).1,(h2 b e).2.1⟩,h4,fun b e=>(h2 b e).2.2,h5⟩
end
structure DirP (q:PlIn) (at_:Nat) (n:Node) (st:PlSt) (k:Nat) (stk:PlSt):Prop where
 go:zBF q at_ n 1 (n.edges.drop k) stk=zBF q at_ n 1 n.edges st
 inv:∃ done,PlInv q at_ done stk∧zCE q n 1 k done
 fst:stk.1=st.1
 len:stk.2.length+(zAV q n 2 (n.edges.take k)).length+(zAV q n 3 (n.edges.take k)).length≤st.2.length+k
section
variable {q:PlIn} {at_:Nat} {n:Node} {st stk:PlSt} {k:Nat} {e:Edge}
theorem DirP.start (h:PlInv q at_ [] st):DirP q at_ n st 0 st:=⟨rfl,⟨[],h,fun s hs=>by cases hs⟩,rfl,by simp[zAV]⟩
theorem DirP.bad (h:DirP q at_ n st k stk) (he:n.edges[k]?=some e) (hk:kindP q n e=1) (hr:zAx q stk at_ 1 e=false):zBF q at_ n 1 n.edges st=.error 33:=by
 rw[←h.go,zCb q at_ n 1 he,if_pos hk]
 unfold stepE
 rw[if_neg (by rw[hr];decide),if_pos rfl]
theorem DirP.one (h:DirP q at_ n st k stk) (hm:mayPl q.g q.ps=true) (hq:q.path≤1024) (hqd:q.dirs≤256) {d:Dir} (hd:st.1[at_]?=some d) {j:Nat} (hn:q.g[j]?=some n) (he:n.edges[k]?=some e) (hk:kindP q n e=1) (hr:zAx q stk at_ 1 e=true) :
  DirP q at_ n st (k+1) (stk.1,stk.2++[⟨at_,e.label,(lookI stk.1 (at_:Int) e.label).toNat⟩])∧zAV q n 2 (n.edges.take (k+1))=zAV q n 2 (n.edges.take k)∧zAV q n 3 (n.edges.take (k+1))=zAV q n 3 (n.edges.take k):=by
 have h2:zAV q n 2 (n.edges.take (k+1))=zAV q n 2 (n.edges.take k):=by rw[zCA he,if_neg (by omega),List.append_nil]
 have h3:zAV q n 3 (n.edges.take (k+1))=zAV q n 3 (n.edges.take k):=by rw[zCA he,if_neg (by omega),List.append_nil]
 have hst:=zDW hr
 obtain ⟨done,i1,i2⟩:=h.inv
 have hlab:=zBt hm hn
 have hdk:stk.1[at_]?=some d:=by rw[h.fst];exact hd
 refine ⟨⟨?_,⟨_,(zEo i1 hm hq hqd hdk hn (mG he) (i2.not hlab he hk) hst).1,i2.step he hk⟩,h.fst,?_⟩,h2,h3⟩
 ·rw[←h.go,zCb q at_ n 1 he,if_pos hk,hst]
 ·rw[h2,h3]
  have:=h.len
  simp only[List.length_append,List.length_cons,List.length_nil]
  omega
theorem DirP.other (h:DirP q at_ n st k stk) (he:n.edges[k]?=some e) (hk:kindP q n e≠1):DirP q at_ n st (k+1) stk:=by
 obtain ⟨done,i1,i2⟩:=h.inv
 refine ⟨?_,⟨done,i1,i2.more (Nat.le_succ k)⟩,h.fst,?_⟩
 ·rw[←h.go,zCb q at_ n 1 he,if_neg hk]
 ·have:=h.len
  have hr:=zH2 q n e
  rw[zCA he,zCA he,List.length_append,List.length_append]
  by_cases h2:kindP q n e=2
  ·rw[if_pos h2,if_neg (by omega)]
   simp only[List.length_cons,List.length_nil];omega
  ·rw[if_neg h2,if_pos (by omega)]
   simp only[List.length_cons,List.length_nil];omega
theorem DirP.done_ (h:DirP q at_ n st n.edges.length stk):zBF q at_ n 1 n.edges st=.ok stk:=by
 rw[←h.go,dN (nR _)];rfl
structure DirR (q:PlIn) (at_:Nat) (n:Node) (d:Dir) (R:Except Int PlSt) (L:Nat) (k:Nat) (stk:PlSt):Prop where
 go:ownGo q at_ n ((restE q n).drop k) stk=R
 inv:∃ done,PlInv q at_ done stk∧∀ e∈(restE q n).drop k,e.label∉done
 dir:stk.1[at_]?=some d
 len:stk.2.length+(restE q n).length≤L+k
theorem DirP.rest (h:DirP q at_ n st n.edges.length stk) (hm:mayPl q.g q.ps=true) {j:Nat} (hn:q.g[j]?=some n) {d:Dir} (hd:st.1[at_]?=some d):DirR q at_ n d (ownGo q at_ n (restE q n) stk) (st.2.length+n.edges.length) 0 stk:=by
 obtain ⟨done,i1,i2⟩:=h.inv
 refine ⟨rfl,⟨done,i1,zJH (zBt hm hn) i2.turn⟩,by rw[h.fst];exact hd,?_⟩
 have:=h.len
 rw[List.take_of_length_le (nR _)] at this
 unfold restE
 rw[List.length_append]
 omega
theorem DirR.step {d:Dir} {R:Except Int PlSt} {L:Nat} (h:DirR q at_ n d R L k stk) (hm:mayPl q.g q.ps=true) (hq:q.path≤1024) (hqd:q.dirs≤256) {j:Nat} (hn:q.g[j]?=some n) (he:(restE q n)[k]?=some e) :
  (∀ c,stepE q at_ (kindP q n e) e stk=.error c→R=.error c)∧(∀ st',stepE q at_ (kindP q n e) e stk=.ok st'→DirR q at_ n d R L (k+1) st'):=by
 obtain ⟨done,i1,i2⟩:=h.inv
 obtain ⟨g1,g2,g3⟩:=zHM (zBt hm hn) i2 he
 refine ⟨fun c hc=>?_,fun st' hs=>?_⟩
 ·rw[←h.go,zIu q at_ n he,hc]
 ·obtain ⟨k1,⟨l,k2⟩,k3⟩:=zEo i1 hm hq hqd h.dir hn g1 g2 hs
  refine ⟨by rw[←h.go,zIu q at_ n he,hs],⟨_,k1,g3⟩,?_,by rw[k3];have:=h.len;omega⟩
  rw[k2,List.getElem?_append_left (gS.1 h.dir).1];exact h.dir
theorem DirR.done_ {d:Dir} {R:Except Int PlSt} {L:Nat} (h:DirR q at_ n d R L (restE q n).length stk):R=.ok stk∧stk.2.length≤L∧PlInv q (at_+1) [] stk:=by
 obtain ⟨done,i1,_⟩:=h.inv
 refine ⟨?_,by have:=h.len;omega,i1.next⟩
 rw[←h.go,dN (nR _)];rfl
end
theorem zGw {q:PlIn} {n:Node} {e:Edge} (h:(n.ctx.any fun x=>decide (x.name=e.label))=true):kindP q n e=1:=by unfold kindP;rw[if_pos h]
theorem zGi {q:PlIn} {n:Node} {e:Edge} {tn:Nat} {y:Node} (h:(n.ctx.any fun x=>decide (x.name=e.label))=false) (ht:e.to=(tn:Int)) (hy:q.g[tn]?=some y):kindP q n e=if y.ctx.length=0 then 2 else 3:=by
 unfold kindP
 rw[if_neg (by rw[h];decide),ht,Int.toNat_natCast]
 unfold zBW
 rw[List.getD_eq_getElem?_getD,hy]
 rfl
theorem zKK {q:PlIn} {at_:Nat} {st:PlSt} {d:Dir} (hd:st.1[at_]?=some d) {j:Nat} (hj:d.node=(j:Int)) {n:Node} (hn:q.g[j]?=some n):dirP q at_ st=match zBF q at_ n 1 n.edges st with
  | .error c=>.error c
  | .ok st'=>ownGo q at_ n (restE q n) st':=by
 unfold dirP
 rw[zET hd,hj,Int.toNat_natCast]
 have:zBW q j=n:=by unfold zBW;rw[List.getD_eq_getElem?_getD,hn];rfl
 rw[this,zIP]
 rfl
theorem zKb {q:PlIn} {st:PlSt} {at_:Nat} {e:Edge}:zAx q st at_ 1 e=(decide (0≤lookI st.1 (at_:Int) e.label)&&decide ((dirAt st.1 (lookI st.1 (at_:Int) e.label).toNat).node=e.to)):=by
 unfold zAx
 rw[show decide ((1:Nat)≠3)=true from rfl,Bool.true_or,Bool.and_true]
theorem zGc (C:PlCtx) (hC:C.Ok) (w:World) (st:PlSt) (hw:PlWd C w st) {at_:Nat} (hinv:PlInv C.q at_ [] st) (hm:mayPl C.q.g C.q.ps=true) (hq:C.q.path≤1024) (hqd:C.q.dirs≤256) (hat:at_<st.1.length) (hsm:∀ x∈C.q.ps,zBR x) (hst:st.2.length≤at_ * 128) :
  Calls Tryz.prog 23 #[.pointer (some ⟨C.P,0,none⟩),.int .i64 (at_:Int)] w fun e w'=>
   (∃ c,dirP C.q at_ st=.error c∧e=.returned (.int .i64 c)∧(c=33∨c=40∨c=41)∧Below C.w0.heap.size C.w0 w'∧PlFr C w w')∨(∃ st',dirP C.q at_ st=.ok st'∧e=.returned (.int .i64 0)∧PlWd C w' st'∧PlFr C w w'∧st'.2.length≤(at_+1) * 128∧PlInv C.q (at_+1) [] st'):=by
 have hbase:=hw.base
 obtain ⟨A,c,A',c',hr⟩:=hw.read
 have HW:=cH hw
 have HC:=cH hC
 have HM:=cH hm
 have Hsm:=cH hsm
 have hHP:=hr.hP
 have x0:=hr.c0
 have x7:=hr.c7
 have hNl:=hr.len.1
 have hN257:=hinv.len
 have hat257:at_≤257:=by have:=hinv.len;omega
 obtain ⟨d,hd⟩:∃ d,st.1[at_]?=some d:=⟨_,gE hat⟩
 obtain ⟨j,hj,hjl⟩:∃ j:Nat,d.node=(j:Int)∧j<C.q.g.length:=by
  have h1:=(zCy hm).1
  by_cases h0:at_=0
  ·rw[h0] at hd
   exact ⟨0,(hinv.root d hd).2.1,by omega⟩
  ·obtain ⟨h2,h3,_⟩:=hinv.node at_ d hd h0
   exact ⟨d.node.toNat,by omega,by omega⟩
 obtain ⟨n,hn⟩:∃ n,C.q.g[j]?=some n:=⟨_,gE hjl⟩
 obtain ⟨b,o,pA,pc,hA,hb,y0,y8,hp,_,_⟩:=hr.dir hd
 rw[hj] at y8
 obtain ⟨gb,go,xA,xc,eA,ec,hgA,hgb,hgn,n0,n1,n2,n3,n4,n5,hctx,hedg,hnsz⟩:=hr.node hC hbase hn
 have hgcap:=zAi hC.g
 rw[hgA] at x0
 have hm128:=zHC hm hn
 have HL:Hid (dirP C.q at_ st=match zBF C.q at_ n 1 n.edges st with|.error c=>.error c|.ok st'=>ownGo C.q at_ n (restE C.q n) st'):=zKK hd hj hn
 have HDP:Hid (DirP C.q at_ n st 0 st):=DirP.start hinv
 have HEd:Hid (∀ W,Below C.w0.heap.size C.w0 W→SlV rEdge W (fun b=>b<C.w0.heap.size) n.edges (.slice eA n.edges.length ec)):=fun W hW=>hedg.keep fun b hb _=>(hW.block b hb).trans (hbase.block b hb).symm
 have HCx:Hid (∀ W,Below C.w0.heap.size C.w0 W→SlV rPin W (fun b=>b<C.w0.heap.size) n.ctx (.slice xA n.ctx.length xc)):=fun W hW=>hctx.keep fun b hb _=>(hW.block b hb).trans (hbase.block b hb).symm
 have HNd:Hid (∀ W (stk:PlSt) (i:Nat) (y:Node),PlWd C W stk→C.q.g[i]?=some y→i<C.gn∧W.cell? ⟨C.P,0,none⟩=some (.slice (some ⟨gb,go,none⟩) C.gn C.gc)∧∃ yA yc,W.cell? ⟨gb,go+i * 6+4,none⟩=some (.slice yA y.ctx.length yc)):=fun W stk i y hW hy=>by
  obtain ⟨A2,c2,A2',c2',hr2⟩:=hW.read
  obtain ⟨b2,o2,yA,yc,_,_,hgA2,_,h3,_,_,_,_,m4,_⟩:=hr2.node hC hW.base hy
  rw[hgA] at hgA2
  cases hgA2
  exact ⟨h3,by rw[←hgA];exact hr2.c0,yA,yc,m4⟩
 have HlD:Hid (∀ d∈st.1,d.path.length≤1024):=fun d hd=>nT (zDq (hinv.names d hd).1) (hinv.names d hd).2
 have Hst0:=cH hst
 have Hnn:=cH hn
 have Hd:=cH hd
 have hm128':n.edges.length≤128:=hm128
 clear hw hinv hctx hedg hm hsm hm128
 obtain ⟨N,hN⟩:∃ N,N=st.1.length:=⟨_,rfl⟩
 rw[←hN] at x7 hat hNl hN257
 have HN:=cH hN
 obtain ⟨m4,hm4⟩:∃ k,k=n.ctx.length:=⟨_,rfl⟩
 obtain ⟨m5,hm5⟩:∃ k,k=n.edges.length:=⟨_,rfl⟩
 rw[←hm4] at n4 HCx
 rw[←hm5] at n5 HEd hm128'
 have Hm5:=cH hm5
 clear hm4 hm5 hN hd hn hj hjl
 have hws:=hbase.size
 have hj0:(0:Int)≤(j:Int):=by omega
 have hjI:(j:Int)<(C.gn:Int):=by omega
 have ha0:(0:Int)≤(at_:Int):=by omega
 have haI:(at_:Int)<(N:Int):=by omega
 generalize dirP C.q at_ st=R at *
 obtain ⟨nm,hnm⟩:∃ k,k=n.name:=⟨_,rfl⟩
 rw[←hnm] at n0
 clear hnm
 generalize n.ver.major=v1 at *
 generalize n.ver.minor=v2 at *
 generalize n.ver.patch=v3 at *
 subst hA
 go_enter Tryz.func23,Tryz.ntmps23
 have hne1:C.P≠w.heap.size:=by omega
 have hne2:gb≠w.heap.size:=by omega
 have hne3:b≠w.heap.size:=by omega
 go_upto_region 1 with (fail)
 go_cut [5] from 14 to 29 (fun nv wx=>∃ NB:Nat,nv=.pointer (some ⟨NB,0,none⟩)∧Hid (Below w.heap.size w wx∧w.heap.size≤NB ∧
  wx.heap[NB]?=some (.cells #[.string nm,.int .i64 v1,.int .i64 v2,.int .i64 v3,.slice xA m4 xc,.slice eA m5 ec] 58 (0,0))))
 case first=>
  go_region_held3 (fun w'=>w'.cell? ⟨C.P,0,none⟩=some (.slice (some ⟨gb,go,none⟩) C.gn C.gc)∧w'.cell? ⟨C.P,7,none⟩=some (.slice (some ⟨b,o,none⟩) N c)∧w'.cell? ⟨b,o+at_ * 9+8,none⟩=some (.int .i64 (j:Int))∧w'.cell? ⟨gb,go+j * 6,none⟩=some (.string nm)∧w'.cell? ⟨gb,go+j * 6+1,none⟩=some (.int .i64 v1)∧w'.cell? ⟨gb,go+j * 6+2,none⟩=some (.int .i64 v2)∧w'.cell? ⟨gb,go+j * 6+3,none⟩=some (.int .i64 v3)∧w'.cell? ⟨gb,go+j * 6+4,none⟩=some (.slice xA m4 xc)∧w'.cell? ⟨gb,go+j * 6+5,none⟩=some (.slice eA m5 ec))
   (first|go_keep)
   (first|fail)
  all_goals
   go_wp2_with fail
   go_meet
   exact ⟨_,rfl,(zKL w _).1,nR _,(zKL w _).2⟩
 case rest=>
 obtain ⟨NB,rfl,HN1⟩:=hcut
 generalize wc=w1 at *
 have HB1:=cH HN1.out.1
 obtain ⟨S,hS⟩:=(HW.out.keep HC.out HB1.out).s
 have hP1:C.P<w1.heap.size:=lL hHP HB1.out.size
 have Hw01:Hid (C.w0.heap.size≤w1.heap.size):=nT hws HB1.out.size
 have HNc:Hid (∀ W,PlFr C w1 W→W.cell? ⟨NB,4,none⟩=some (.slice xA m4 xc)∧W.cell? ⟨NB,5,none⟩=some (.slice eA m5 ec)):=fun W hW=>by
  obtain ⟨_,_,_,_,_,hpp⟩:=HW.out.parts
  have h:=(hW.2 NB (aS.1 HN1.out.2.2).1 (hpp.notNew HB1.out HN1.out.2.1)).1.trans HN1.out.2.2
  exact ⟨cO _ _ 4 _ _ _ h,cO _ _ 5 _ _ _ h⟩
 have HF1:=cH (PlFr.below hHP HB1.out)
 clear x0 x7 y0 y8 n0 n1 n2 n3 n4 n5 HN1
 have c5:=(HNc.out w1 (PlFr.refl C w1)).2
 have HDL:Hid (DirL C w1 w1 st S (.slice none 0 0) (zAV C.q n 2 (n.edges.take 0)) (.slice none 0 0) (zAV C.q n 3 (n.edges.take 0))):=DirL.start hS
 clear hS
 go_wp2_with fail
 go_loopw [6,7,33] (fun uA uO t wr=>∃ (k:Nat) (stk:PlSt) (vA vO:Value),k≤m5∧t=.int .i64 k∧vA=uA∧vO=uO∧Hid (DirP C.q at_ n st k stk∧DirL C w1 wr stk S vA (zAV C.q n 2 (n.edges.take k)) vO (zAV C.q n 3 (n.edges.take k)))) (fun _ _ t _=>m5 - (intOf t).toNat)
 case atStart=>exact ⟨0,st,_,_,nZ _,rfl,rfl,rfl,HDP.out,HDL.out⟩
 case round=>
  clear HDP HDL c5
  obtain ⟨k,stk,vA,vO,hk,rfl,rfl,rfl,hh⟩:=hrel
  have HDp:=cH hh.out.1
  have HDl:=cH hh.out.2
  clear hh
  have hk0:(0:Int)≤(k:Int):=by omega
  by_cases hlt:k<m5
  case neg=>
   have hke:k=n.edges.length:=by have:=Hm5.out;omega
   rw[hke] at HDp HDl
   have hI:¬(k:Int)<(m5:Int):=by omega
   have HDr:=cH (HDp.out.rest HM.out Hnn.out Hd.out)
   have HR:Hid (R=ownGo C.q at_ n (restE C.q n) stk):=by unfold Hid;rw[HL.out,HDp.out.done_]
   have Hrl:Hid (zAV C.q n 2 (n.edges.take n.edges.length)++zAV C.q n 3 (n.edges.take n.edges.length)=restE C.q n):=by
    unfold Hid;rw[List.take_of_length_le (nR _)];rfl
   have hl2:(zAV C.q n 2 (n.edges.take n.edges.length)).length≤m5:=by rw[Hm5.out];exact zDE
   have hl3:(zAV C.q n 3 (n.edges.take n.edges.length)).length≤m5:=by rw[Hm5.out];exact zDE
   obtain ⟨L2,hL2⟩:∃ L,L=zAV C.q n 2 (n.edges.take n.edges.length):=⟨_,rfl⟩
   obtain ⟨L3,hL3⟩:∃ L,L=zAV C.q n 3 (n.edges.take n.edges.length):=⟨_,rfl⟩
   rw[←hL2] at HDl Hrl hl2
   rw[←hL3] at HDl Hrl hl3
   clear hL2 hL3 hke hlt HDp HL
   obtain ⟨Ao,co,hvO,_,_⟩:=HDl.out.ot.slv.val
   obtain ⟨l3,hl3e⟩:∃ l,l=L3.length:=⟨_,rfl⟩
   rw[←hl3e] at hvO hl3
   have Hl3e:=cH hl3e
   subst hvO
   have HLo:Hid (SlV rEdge wr (fun b=>(Value.slice Ao l3 co).ownBlock=some b) L3 (.slice Ao l3 co)):=HDl.out.ot.slvO
   have Hao:=cH (fun b (h:(Value.slice Ao l3 co).ownBlock=some b) (e:vA.ownBlock=some b)=>HDl.out.ao b e h)
   have hzr:w1.heap.size≤wr.heap.size:=HDl.out.fr.1
   clear hl3e
   go_wp2_with (at_builtin;refine zAN (by rfl) _ _ _ (by rfl) zDl Tryz.underlying56 (by rfl) HDl.out.al (fun b=>(Value.slice Ao l3 co).ownBlock=some b) L3 Ao l3 co (by rfl) HLo.out Hao.out (by have:=Hl3e.out;unfold maxLen;omega) (by have:=Hl3e.out;omega) hzr ?_)
   intro v9 w9 hown9 hgrow9 hat9
   have hpv:=HDl.out.pushV Hw01.out (v':=v9) (l':=[]) (T:=fun _=>False) (fun b hb=>hb.elim) hgrow9 (fun g hg=>by rcases hat9 with h|h;exact .inl (by rw[←h];exact hg);exact .inr (by rw[h] at hg;cases hg;exact nR _))
   rw[Hrl.out] at hown9
   obtain ⟨A9,c9,hv9,_,_⟩:=hown9.slv.val
   obtain ⟨n7,hn7⟩:∃ l,l=(restE C.q n).length:=⟨_,rfl⟩
   rw[←hn7] at hv9
   have Hn7:=cH hn7
   subst hv9
   have HO9:=cH (zKl hown9)
   have HS9:=cH hpv.1
   have HN9:=cH hpv.2.1
   have HF9:=cH (HF1.out.trans hpv.2.2.2.2)
   have hn7z:n7≤256:=by
    have:(restE C.q n).length=L2.length+L3.length:=by rw[←Hrl.out,List.length_append]
    have:=Hl3e.out
    omega
   have HRs:Hid (∀ W,PlFr C w9 W→SlV rEdge W (fun b=>(Value.slice A9 n7 c9).ownBlock=some b) (restE C.q n) (.slice A9 n7 c9)):=fun W hW=>(HO9.out.frame (fun b e=>(hW.2 b (HO9.out.lt b e).2 (HN9.out b e).1).1)).slvO
   clear hown9 hgrow9 hat9 hpv hn7 HDl HLo Hao Hrl
   go_wp2_with fail
   go_loopw [98] (fun t wr=>∃ (k:Nat) (sk:PlSt),k≤n7∧t=.int .i64 k∧Hid (DirR C.q at_ n d (ownGo C.q at_ n (restE C.q n) stk) (st.2.length+n.edges.length) k sk∧PlWd C wr sk∧PlFr C w9 wr)) (fun t _=>n7 - (intOf t).toNat)
   case atStart=>exact ⟨0,stk,nZ _,rfl,HDr.out,HS9.out.all,PlFr.refl C w9⟩
   case round=>
    clear HDr HS9 hk0 hI hk
    obtain ⟨k,sk,hk,rfl,hh⟩:=hrel
    have HDr:=cH hh.1
    have HPw:=cH hh.2.1
    have HPf:=cH hh.2.2
    clear hh
    have hk0:(0:Int)≤(k:Int):=by omega
    by_cases hlt:k<n7
    case neg=>
     have hI:¬(k:Int)<(n7:Int):=by omega
     have hke:k=(restE C.q n).length:=by have:=Hn7.out;omega
     rw[hke] at HDr
     have HE:=cH HDr.out.done_
     have hlen:sk.2.length≤(at_+1) * 128:=by
      have h1:=HE.out.2.1
      have h2:=Hst0.out
      have h3:=Hm5.out
      omega
     have HFz:=cH (HF9.out.trans HPf.out)
     clear hke HDr
     go_wp2_with fail
     go_ret
     exact .inr ⟨sk.1,sk.2,HR.out.trans HE.out.1,rfl,HPw.out,HFz.out,hlen,HE.out.2.2⟩
    have hkn:(k:Int)<(n7:Int):=by omega
    obtain ⟨e,he⟩:∃ e,(restE C.q n)[k]?=some e:=⟨_,gE (by have:=Hn7.out;omega)⟩
    obtain ⟨eb,eo,cs,hA,_,hb1,hhd,hcell⟩:=(HRs.out wr HPf.out).elem he
    subst hA
    obtain ⟨rfl,hlz,hti⟩:=hhd
    have c0:=hcell 0 _ rfl
    have c1:=hcell 1 _ rfl
    simp only[rEdge,Nat.add_zero] at c0 c1
    obtain ⟨hmem,hk2⟩:=zEx (mG he)
    obtain ⟨e1,e2,e3,_⟩:=zDw HM.out Hnn.out hmem
    obtain ⟨lb,tt⟩:=e
    simp only at c0 c1 hlz hti e1 e2 e3
    obtain ⟨tn,rfl⟩:∃ tn:Nat,tt=(tn:Int):=⟨tt.toNat,by omega⟩
    obtain ⟨y,hy⟩:∃ y,C.q.g[tn]?=some y:=⟨_,gE (by omega)⟩
    obtain ⟨x,hx⟩:∃ x,C.q.ps[tn]?=some x:=by
     obtain ⟨_,_,h3,_⟩:=zCy HM.out
     exact ⟨_,gE (by have:=(gS.1 hy).1;omega)⟩
    have hyn:y.name=lb:=by
     rw[←e3,Int.toNat_natCast];unfold zBW;rw[List.getD_eq_getElem?_getD,hy];rfl
    have hkind:kindP C.q n ⟨lb,(tn:Int)⟩=2∧y.ctx.length=0∨kindP C.q n ⟨lb,(tn:Int)⟩=3∧y.ctx.length≠0:=by
     cases hany:(n.ctx.any fun x=>decide (x.name=lb)) with
     | true=>have:=zGw (q:=C.q) (n:=n) (e:=⟨lb,(tn:Int)⟩) hany;omega
     | false=>
       have:=zGi (q:=C.q) (n:=n) (e:=⟨lb,(tn:Int)⟩) hany rfl hy
       by_cases h0:y.ctx.length=0
       ·rw[if_pos h0] at this;exact .inl ⟨this,h0⟩
       ·rw[if_neg h0] at this;exact .inr ⟨this,h0⟩
    obtain ⟨done,i1,i2⟩:=HDr.out.inv
    obtain ⟨_,hsd,_⟩:=zHM (zBt HM.out Hnn.out) i2 he
    have hskl:sk.2.length≤900000:=by
     have h1:=HDr.out.len
     have h2:=Hst0.out
     have h3:=Hm5.out
     have h4:=Hn7.out
     omega
    have Hcall:Hid (∀ W,Below wr.heap.size wr W→_):=fun W hW=>zMh C HC.out W sk (HPw.out.keep HC.out hW) i1 HDr.out.dir lb tn hsd hlz hy hyn hx (Hsm.out x (mG hx)) hskl (kindP C.q n ⟨lb,(tn:Int)⟩) hkind
    have HSt:=cH (HDr.out.step HM.out hq hqd Hnn.out he)
    have HFo:Hid (∀ W,PlFr C wr W→PlFr C w W∧PlFr C w9 W):=fun W hW=>⟨HF9.out.trans (HPf.out.trans hW),HPf.out.trans hW⟩
    have hPr:C.P<wr.heap.size:=by
     obtain ⟨_,_,_,_,h⟩:=HPw.out.read
     exact h.hP
    clear hcell he hy hx hyn hkind i1 i2 hsd hmem hk2 e1 e2 e3 hlz hti HDr HPf
    go_upto_region 18 with (fail)
    obtain ⟨w4,hw4⟩:∃ w4,w4=wr.alloc (.cells #[.string lb,.int .i64 (tn:Int)] 61):=⟨_,rfl⟩
    have hq4:w4.heap[wr.heap.size]?=some (.cells #[.string lb,.int .i64 (tn:Int)] 61 (0,0)):=by rw[hw4];exact zAD _ _
    have HB4:Hid (Below wr.heap.size wr w4):=by unfold Hid;rw[hw4];exact bal (bR _ _) _
    rw[←hw4]
    obtain ⟨QB,hQB⟩:∃ QB,QB=wr.heap.size:=⟨_,rfl⟩
    rw[←hQB] at hq4 ⊢
    have d0:=cO _ _ 0 _ _ _ hq4
    have d1:=cO _ _ 1 _ _ _ hq4
    have Hc4:=cH (Hcall.out w4 HB4.out)
    have HF4:=cH (PlFr.below hPr HB4.out)
    clear hw4 hQB hq4 c0 c1 Hcall
    generalize stepE C.q at_ (kindP C.q n ⟨lb,(tn:Int)⟩) ⟨lb,(tn:Int)⟩ sk=SE at *
    go_wp2_with fail
    refine Hc4.out.mono ?_
    rintro e w5 (⟨c,h1,rfl,hc,hP5,hF5⟩|⟨st',h1,rfl,hP5,hF5⟩)
    ·have Hr:=cH (HR.out.trans (HSt.out.1 c h1))
     have HE5:=cH (HFo.out w5 (HF4.out.trans hF5)).1
     have HB5:=cH hP5.base
     clear h1 hP5 hF5 HSt d0 d1 Hc4
     rcases hc with rfl|rfl
     ·go_wp2_with fail
      go_ret
      exact .inl ⟨40,Hr.out,rfl,.inr (.inl rfl),HB5.out,HE5.out⟩
     ·go_wp2_with fail
      go_ret
      exact .inl ⟨41,Hr.out,rfl,.inr (.inr rfl),HB5.out,HE5.out⟩
    ·have Hs:=cH (HSt.out.2 st' h1)
     have HE5:=cH (HFo.out w5 (HF4.out.trans hF5)).2
     have HP5:=cH hP5
     clear h1 hP5 hF5 HSt d0 d1 Hc4
     go_wp2_with fail
     go_roundw
     case rel=>exact ⟨k+1,st',by omega,by go_num,Hs.out,HP5.out,HE5.out⟩
     case measure=>simp[intOf];omega
  case pos=>
  have hkn:(k:Int)<(m5:Int):=by omega
  obtain ⟨e,he⟩:∃ e,n.edges[k]?=some e:=⟨_,gE (by have:=Hm5.out;omega)⟩
  have HPW:=cH HDl.out.pl.all
  obtain ⟨eb,eo,cs,hA,_,hb1,hhd,hcell⟩:=(HEd.out wr HPW.out.base).elem he
  subst hA
  obtain ⟨rfl,hlz,hti⟩:=hhd
  have c0:=hcell 0 _ rfl
  have c1:=hcell 1 _ rfl
  simp only[rEdge,Nat.add_zero] at c0 c1
  obtain ⟨e1,e2,_⟩:=zDw HM.out Hnn.out (mG he)
  obtain ⟨lb,tt⟩:=e
  simp only at c0 c1 hlz hti e1 e2
  obtain ⟨tn,rfl⟩:∃ tn:Nat,tt=(tn:Int):=⟨tt.toNat,by omega⟩
  obtain ⟨y,hy⟩:∃ y,C.q.g[tn]?=some y:=⟨_,gE (by omega)⟩
  have He:=cH he
  have Hy:=cH hy
  have Hlz:=cH hlz
  have Hti:=cH hti
  clear hcell he hy e1 e2 hlz hti
  go_upto_region 7 with (fail)
  obtain ⟨w4,hw4⟩:∃ w4,w4=wr.alloc (.cells #[.string lb,.int .i64 (tn:Int)] 61):=⟨_,rfl⟩
  have hq4:w4.heap[wr.heap.size]?=some (.cells #[.string lb,.int .i64 (tn:Int)] 61 (0,0)):=by rw[hw4];exact zAD _ _
  have HB4:Hid (Below wr.heap.size wr w4):=by unfold Hid;rw[hw4];exact bal (bR _ _) _
  rw[←hw4]
  have HDl4:=cH (HDl.out.keep HB4.out)
  have hz4:wr.heap.size<w4.heap.size:=(aS.1 hq4).1
  obtain ⟨QB,hQB⟩:∃ QB,QB=wr.heap.size:=⟨_,rfl⟩
  rw[←hQB] at hq4 hz4 ⊢
  have HQc:Hid (∀ W,Below w4.heap.size w4 W→W.cell? ⟨QB,0,none⟩=some (.string lb)∧W.cell? ⟨QB,1,none⟩=some (.int .i64 (tn:Int))):=fun W hW=>by
   have h:=(hW.block _ hz4).trans hq4
   exact ⟨cO _ _ 0 _ _ _ h,cO _ _ 1 _ _ _ h⟩
  have HCt:Hid (Calls Tryz.prog 47 #[.slice xA m4 xc,.func (.func 48) #[] #[.pointer (some ⟨QB,0,none⟩)]] w4 fun e w'=>e=.returned (.bool (n.ctx.any fun x=>decide (x.name=lb)))∧Below w4.heap.size w4 w'):=
   zEn 48 #[.pointer (some ⟨QB,0,none⟩)] zHz (fun x=>decide (x.name=lb)) xA m4 xc n.ctx w4 _ (HCx.out w4 HDl4.out.pl.all.base) (fun W x hW=>zL5 x QB lb W (HQc.out W hW).1)
  have Hk1:Hid ((n.ctx.any fun x=>decide (x.name=lb))=true→kindP C.q n ⟨lb,(tn:Int)⟩=1):=fun h=>zGw h
  have Hk2:Hid ((n.ctx.any fun x=>decide (x.name=lb))=false→kindP C.q n ⟨lb,(tn:Int)⟩=if y.ctx.length=0 then 2 else 3):=fun h=>zGi h rfl Hy.out
  obtain ⟨q4,q5⟩:=HNc.out w4 HDl4.out.fr
  clear hw4 hQB hq4 c0 c1
  generalize (n.ctx.any fun x=>decide (x.name=lb))=isx at *
  go_wp2_with fail
  refine HCt.out.mono ?_
  rintro e w5 ⟨rfl,hb5⟩
  have HB5:=cH hb5
  have HDl5:=cH (HDl4.out.keep hb5)
  have hP5:C.P<w5.heap.size:=by
   obtain ⟨_,_,_,_,h⟩:=HDl5.out.pl
   exact h.hP
  clear hb5 q4 q5 HCt
  cases isx with
  | false=>
    have hkd:=cH (Hk2.out rfl)
    obtain ⟨htg,x0,yA,yc,y4⟩:=HNd.out w5 stk tn y HDl5.out.pl.all Hy.out
    have q1:=(HQc.out w5 HB5.out).2
    have ht0:(0:Int)≤(tn:Int):=by omega
    have htI:(tn:Int)<(C.gn:Int):=by omega
    have hgb5:gb<w5.heap.size:=lL hgb HDl5.out.pl.all.base.size
    have hQ5:QB<w5.heap.size:=lL hz4 HB5.out.size
    obtain ⟨ly,hly⟩:∃ ly,ly=y.ctx.length:=⟨_,rfl⟩
    rw[←hly] at y4 hkd
    clear hly Hk1 Hk2
    have Hl2:Hid ((zAV C.q n 2 (n.edges.take k)).length≤k):=zDE
    have Hl3:Hid ((zAV C.q n 3 (n.edges.take k)).length≤k):=zDE
    have HT:Hid (∀ kind,zAV C.q n kind (n.edges.take (k+1))=zAV C.q n kind (n.edges.take k)++if kindP C.q n ⟨lb,(tn:Int)⟩=kind then [⟨lb,(tn:Int)⟩] else []):=fun kind=>zCA He.out
    by_cases hy0:ly=0
    case pos=>
     have hb:((ly:Int)==0)=true:=by rw[hy0];rfl
     have hkk:=cH (hkd.out.trans (if_pos hy0))
     have hDp':=cH (HDp.out.other He.out (by rw[hkk.out];decide))
     have hT2:=cH ((HT.out 2).trans (congrArg (zAV C.q n 2 (n.edges.take k)++·) (if_pos hkk.out)))
     have hT3:=cH ((HT.out 3).trans ((congrArg (zAV C.q n 3 (n.edges.take k)++·) (if_neg (by rw[hkk.out];decide))).trans (List.append_nil _)))
     clear hkd hy0 hkk HT HDp
     have r_x0:=cR x0
     have r_q1:=cR q1
     have r_y4:=cR y4
     go_wp2_with fail
     refine wQ ?_
     repeat (go_big_quiet_step (first|fail))
     refine wpQuiet_nil fun w6 B6=>?_
     have HB46:=cH (bot HB5.out B6)
     have HDl6:=cH (HDl5.out.keep B6)
     clear r_x0 r_q1 r_y4 x0 q1 y4 B6
     obtain ⟨q0,q1⟩:=HQc.out w6 HB46.out
     obtain ⟨w7,hw7⟩:∃ w7,w7=w6.alloc (.cells #[.string lb,.int .i64 (tn:Int)] 61):=⟨_,rfl⟩
     have HDl7:Hid (DirL C w1 w7 stk S vA (zAV C.q n 2 (n.edges.take k)) vO (zAV C.q n 3 (n.edges.take k))):=by unfold Hid;rw[hw7];exact HDl6.out.keep (bal (bR _ _) _)
     have Hs7:Hid (w7.heap.size=w6.heap.size+1):=by unfold Hid;rw[hw7];simp
     have hnews:=zAd w6 #[.string lb,.int .i64 (tn:Int)] 61
     rw[←hw7] at hnews
     have Hnews:=cH hnews
     have hbase7:w1.heap.size≤w7.heap.size:=HDl7.out.fr.1
     clear hnews
     go_wp2_with (at_builtin;rw[←hw7];refine zAM (by rfl) _ _ _ (by rfl) zDl Tryz.underlying56 (by rfl) HDl7.out.al ⟨w6.heap.size,0,none⟩ 1 [.string lb,.int .i64 (tn:Int)] ⟨lb,(tn:Int)⟩ (by rfl) ⟨rfl,Hlz.out,Hti.out⟩ Hnews.out (by have:=Hl2.out;unfold maxLen;omega) (by have:=Hl2.out;omega) hbase7 (w6.heap.size+1) Hs7.out ?_)
     intro g9 cap9 w9 hown9 hgrow9 hat9 hlt9
     rw[←hw7] at hgrow9
     have hend:=HDl7.out.push Hw01.out hown9 hgrow9 (by rcases hat9 with h|h;exact .inl h;exact .inr (by rw[Hs7.out,h];exact nR _))
     have Hend:=cH hend
     clear hend hown9 hgrow9 hat9 hw7 q0 q1
     go_wp2_with fail
     go_roundw
     case rel=>exact ⟨k+1,stk,_,_,by omega,by go_num,rfl,rfl,hDp'.out,by rw[hT2.out,hT3.out];exact Hend.out⟩
     case measure=>simp[intOf];omega
    case neg=>
     have hb:((ly:Int)==0)=false:=beq_eq_false_iff_ne.2 (by omega)
     have hkk:=cH (hkd.out.trans (if_neg hy0))
     have hDp':=cH (HDp.out.other He.out (by rw[hkk.out];decide))
     have hT3:=cH ((HT.out 3).trans (congrArg (zAV C.q n 3 (n.edges.take k)++·) (if_pos hkk.out)))
     have hT2:=cH ((HT.out 2).trans ((congrArg (zAV C.q n 2 (n.edges.take k)++·) (if_neg (by rw[hkk.out];decide))).trans (List.append_nil _)))
     clear hkd hy0 hkk HT HDp
     have r_x0:=cR x0
     have r_q1:=cR q1
     have r_y4:=cR y4
     go_wp2_with fail
     refine wQ ?_
     repeat (go_big_quiet_step (first|fail))
     refine wpQuiet_nil fun w6 B6=>?_
     have HB46:=cH (bot HB5.out B6)
     have HDl6:=cH (HDl5.out.keep B6)
     clear r_x0 r_q1 r_y4 x0 q1 y4 B6
     obtain ⟨q0,q1⟩:=HQc.out w6 HB46.out
     obtain ⟨w7,hw7⟩:∃ w7,w7=w6.alloc (.cells #[.string lb,.int .i64 (tn:Int)] 61):=⟨_,rfl⟩
     have HDl7:Hid (DirL C w1 w7 stk S vA (zAV C.q n 2 (n.edges.take k)) vO (zAV C.q n 3 (n.edges.take k))):=by unfold Hid;rw[hw7];exact HDl6.out.keep (bal (bR _ _) _)
     have Hs7:Hid (w7.heap.size=w6.heap.size+1):=by unfold Hid;rw[hw7];simp
     have hnews:=zAd w6 #[.string lb,.int .i64 (tn:Int)] 61
     rw[←hw7] at hnews
     have Hnews:=cH hnews
     have hbase7:w1.heap.size≤w7.heap.size:=HDl7.out.fr.1
     clear hnews
     go_wp2_with (at_builtin;rw[←hw7];refine zAM (by rfl) _ _ _ (by rfl) zDl Tryz.underlying56 (by rfl) HDl7.out.ot ⟨w6.heap.size,0,none⟩ 1 [.string lb,.int .i64 (tn:Int)] ⟨lb,(tn:Int)⟩ (by rfl) ⟨rfl,Hlz.out,Hti.out⟩ Hnews.out (by have:=Hl3.out;unfold maxLen;omega) (by have:=Hl3.out;omega) hbase7 (w6.heap.size+1) Hs7.out ?_)
     intro g9 cap9 w9 hown9 hgrow9 hat9 hlt9
     rw[←hw7] at hgrow9
     have hend:=(HDl7.out.swap.push Hw01.out hown9 hgrow9 (by rcases hat9 with h|h;exact .inl h;exact .inr (by rw[Hs7.out,h];exact nR _))).swap
     have Hend:=cH hend
     clear hend hown9 hgrow9 hat9 hw7 q0 q1
     go_wp2_with fail
     go_roundw
     case rel=>exact ⟨k+1,stk,_,_,by omega,by go_num,rfl,rfl,hDp'.out,by rw[hT2.out,hT3.out];exact Hend.out⟩
     case measure=>simp[intOf];omega
  | true=>
    have hk1:=cH (Hk1.out rfl)
    obtain ⟨s2,hs2⟩:∃ s2,stk=(st.1,s2):=⟨stk.2,by rw[←HDp.out.fst]⟩
    subst hs2
    obtain ⟨A2,c2,A2',c2',hr2⟩:=HDl5.out.pl.all.read
    have hx7:=hr2.c7
    have x7:w5.cell? ⟨C.P,7,none⟩=some (.slice A2 N c2):=by rw[HN.out];exact hx7
    have HLk:Hid (∀ W,Below w5.heap.size w5 W→Calls Tryz.prog 17 #[.agg #[.slice A2 st.1.length c2],.int .i64 (at_:Int),.string lb] W fun e w'=>e=.returned (.int .i64 (lookI st.1 (at_:Int) lb))∧Below W.heap.size W w'):=fun W hW=>zGg A2 _ c2 st.1 lb W _ _ Hlz.out (fun d hd=>by have:=HlD.out d hd;omega) (hr2.dirs.belowSize hW)
    rw[←HN.out] at HLk
    have HDn:Hid (∀ W (j:Nat),Below w5.heap.size w5 W→j<N→∃ b o:Nat,A2=some ⟨b,o,none⟩∧W.cell? ⟨b,o+j * 9+8,none⟩=some (.int .i64 (dirAt st.1 j).node)):=fun W j hW hj=>by
     obtain ⟨b,o,_,_,h1,_,_,h2,_⟩:=(hr2.keep hW).dir (i:=j) (d:=dirAt st.1 j) (zAa (by rw[←HN.out];exact hj))
     exact ⟨b,o,h1,h2⟩
    have Hx7:Hid (∀ W,Below w5.heap.size w5 W→W.cell? ⟨C.P,7,none⟩=some (.slice A2 N c2)):=fun W hW=>zAA hW x7 hP5
    have Hrt:Hid (zAx C.q (st.1,s2) at_ 1 ⟨lb,(tn:Int)⟩=(decide (0≤lookI st.1 (at_:Int) lb)&&decide ((dirAt st.1 (lookI st.1 (at_:Int) lb).toNat).node=(tn:Int)))):=zKb
    have HBad:Hid (zAx C.q (st.1,s2) at_ 1 ⟨lb,(tn:Int)⟩=false→R=.error 33):=fun h=>by rw[HL.out,HDp.out.bad He.out hk1.out h]
    have HOne:Hid (zAx C.q (st.1,s2) at_ 1 ⟨lb,(tn:Int)⟩=true→DirP C.q at_ n st (k+1) (st.1,s2++[⟨at_,lb,(lookI st.1 (at_:Int) lb).toNat⟩])∧zAV C.q n 2 (n.edges.take (k+1))=zAV C.q n 2 (n.edges.take k)∧zAV C.q n 3 (n.edges.take (k+1))=zAV C.q n 3 (n.edges.take k)):=fun h=>HDp.out.one HM.out hq hqd Hd.out Hnn.out He.out hk1.out h
    have Hlt:Hid (0≤lookI st.1 (at_:Int) lb→(lookI st.1 (at_:Int) lb).toNat<st.1.length):=zId
    rw[←HN.out] at Hlt
    have hs2l:s2.length≤1000000:=by
     have h1:=HDp.out.len
     have h2:=Hst0.out
     simp only at h1
     omega
    have q0:=(HQc.out w5 HB5.out).1
    have hQ5:QB<w5.heap.size:=lL hz4 HB5.out.size
    have HLq:=cH (qcall (w:=w5) (fun W hW=>HLk.out W hW))
    clear hr2 hx7 HLk Hk1 Hk2 hk1 HDp HDl HDl4
    generalize zAx C.q (st.1,s2) at_ 1 ⟨lb,(tn:Int)⟩=rt at *
    generalize lookI st.1 (at_:Int) lb=L at *
    go_upto_region 8 with (fail)
    have r_x7:=cR x7
    have r_q0:=cR q0
    go_wp2_with fail
    refine wQ ?_
    repeat (go_big_quiet_step (first|(with_reducible exact HLq.out _ _)))
    refine wpQuiet_nil fun w6 B6=>?_
    have HB6:=cH B6
    have HDl6:=cH (HDl5.out.keep B6)
    clear r_x7 r_q0 x7 q0 B6 HLq
    have x7:=Hx7.out w6 HB6.out
    obtain ⟨q0,q1⟩:=HQc.out w6 (bot HB5.out HB6.out)
    have HEnd:Hid (∀ W,Below w6.heap.size w6 W→Below C.w0.heap.size C.w0 W∧PlFr C w W):=fun W hW=>by
     have h:=HDl6.out.keep hW
     exact ⟨h.pl.all.base,HF1.out.trans h.fr⟩
    go_upto_region 9 with (fail)
    by_cases hL:0≤L
    case neg=>
     have hr:rt=false:=by rw[Hrt.out,decide_eq_false hL];rfl
     have hLd:decide (L<0)=true:=decide_eq_true (by omega)
     have hLI:L<0:=by omega
     have Hr:=cH (HBad.out hr)
     clear hL Hrt hr HBad HOne Hlt
     have r_x7:=cR x7
     have r_q1:=cR q1
     go_wp2_with fail
     refine wQ ?_
     repeat (go_big_quiet_step (first|fail))
     refine wpQuiet_nil fun w7 B7=>?_
     have HB7:=cH (HEnd.out w7 B7)
     go_wp2_with fail
     go_ret
     exact .inl ⟨33,Hr.out,rfl,.inl rfl,HB7.out.1,HB7.out.2⟩
    obtain ⟨jl,hjl⟩:∃ jl:Nat,L=(jl:Int):=⟨L.toNat,by omega⟩
    subst hjl
    have hjN:jl<N:=by have:=Hlt.out hL;rwa [Int.toNat_natCast] at this
    obtain ⟨b2,o2,hA2,y8⟩:=HDn.out w6 jl HB6.out hjN
    subst hA2
    have hLd:decide ((jl:Int)<0)=false:=decide_eq_false (by omega)
    have hLI:¬(jl:Int)<0:=by omega
    have hjI2:(jl:Int)<(N:Int):=by omega
    rw[Int.toNat_natCast,decide_eq_true hL,Bool.true_and] at Hrt
    rw[Int.toNat_natCast] at HOne
    generalize (dirAt st.1 jl).node=nj at *
    by_cases hnj:nj=(tn:Int)
    case neg=>
     have hr:rt=false:=by rw[Hrt.out,decide_eq_false hnj]
     have hb1:(nj != (tn:Int))=true:=by show (!(nj==(tn:Int)))=true;rw[beq_eq_false_iff_ne.2 hnj];rfl
     have Hr:=cH (HBad.out hr)
     clear Hrt hr HBad HOne Hlt hnj
     have r_x7:=cR x7
     have r_q1:=cR q1
     have r_y8:=cR y8
     go_wp2_with fail
     refine wQ ?_
     repeat (go_big_quiet_step (first|fail))
     refine wpQuiet_nil fun w7 B7=>?_
     have HB7:=cH (HEnd.out w7 B7)
     go_wp2_with fail
     go_ret
     exact .inl ⟨33,Hr.out,rfl,.inl rfl,HB7.out.1,HB7.out.2⟩
    have hr:rt=true:=by rw[Hrt.out,decide_eq_true hnj]
    have hb1:(nj != (tn:Int))=false:=by show (!(nj==(tn:Int)))=false;rw[hnj,beq_self_eq_true];rfl
    have Ho:=cH (HOne.out hr)
    clear Hrt hr HBad HOne Hlt hnj
    have r_x7:=cR x7
    have r_q1:=cR q1
    have r_y8:=cR y8
    go_wp2_with fail
    refine wQ ?_
    repeat (go_big_quiet_step (first|fail))
    refine wpQuiet_nil fun w7 B7=>?_
    have HDl7:=cH (HDl6.out.keep B7)
    have q0:=zAA B7 q0 (lL hQ5 HB6.out.size)
    clear r_x7 r_q1 r_y8 x7 q1 y8 B7
    have Hs:=cH (zEs C HC.out w7 (st.1,s2) S HDl7.out.pl at_ jl (by omega) (by omega) lb Hlz.out hs2l)
    go_wp2_with fail
    refine Hs.out.mono ?_
    rintro e w8 ⟨rfl,hP8,hF8⟩
    have Hend:=cH (HDl7.out.settle hP8 hF8)
    clear hP8 hF8 Hs q0
    go_wp2_with fail
    go_roundw
    case rel=>exact ⟨k+1,_,_,_,by omega,by go_num,rfl,rfl,Ho.out.1,by rw[Ho.out.2.1,Ho.out.2.2];exact Hend.out⟩
    case measure=>simp[intOf];omega
