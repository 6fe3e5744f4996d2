/- Where a solution is placed, what a node has beside it is found in one directory with its dependant; a context is always there: plain. -/
import Derived.Test.YtminjjdnmpaaoaaGreatDoorBd21
import Derived.Test.YtminjjdnmpaaoaaGreatDoorBd20
import Derived.Test.YtminjjdnmpaaoaaGreatDoorBd09
import Derived.Test.YtminjjdnmpaaoaaGreatDoorBd15
import Derived.Test.YtminjjdnmpaaoaaGreatDoorAl
set_option linter.all false
set_option maxHeartbeats 6400000
set_option maxRecDepth 100000
namespace Go.Proofs.YtminjjdnmpaaoaaGreatDoor
open Go
def CtxN (n:Node) (s:ByteArray):Prop:=∃ p∈n.ctx,p.name=s
theorem zDK {q:PlIn} {n:Node} {e:Edge}:kindP q n e=1↔CtxN n e.label:=by
 unfold kindP CtxN
 by_cases h:(n.ctx.any fun x=>decide (x.name=e.label))=true
 ·rw[if_pos h]
  refine ⟨fun _=>?_,fun _=>rfl⟩
  obtain ⟨p,h1,h2⟩:=List.any_eq_true.1 h
  exact ⟨p,h1,by simpa using h2⟩
 ·rw[if_neg h]
  refine ⟨fun hk=>?_,fun ⟨p,h1,h2⟩=>absurd (List.any_eq_true.2 ⟨p,h1,by simpa using h2⟩) h⟩
  split at hk<;>cases hk
theorem zGe {q:PlIn} {n:Node} {e:Edge} (h:kindP q n e=2):(zAg q e.to.toNat).ctx=[]:=by
 unfold kindP at h
 split at h
 ·cases h
 ·split at h
  ·rename_i h1;exact List.eq_nil_of_length_eq_zero h1
  ·cases h
theorem zGD:∀ {l:List Edge} {s:ByteArray} {k:Nat},zA2 l s=some k→∃ e∈l,e.label=s
 | [],_,_,h=>by cases h
 | e::l,s,k,h=>by
   rw[zA2] at h
   split at h
   ·rename_i he;exact ⟨e,by simp,he⟩
   ·cases h2:zA2 l s with
    | none=>rw[h2] at h;cases h
    | some i=>
      obtain ⟨e',h3,h4⟩:=zGD h2
      exact ⟨e',by simp[h3],h4⟩
theorem zLg {q:PlIn} (h:mayPl q.g q.ps=true) {j:Nat} {n:Node} (hj:q.g[j]?=some n) {c:Pin} (hc:c∈n.ctx):nameB c.name=true∧∃ e∈n.edges,e.label=c.name:=by
 obtain ⟨_,_,_,hall⟩:=zBv h
 obtain ⟨x,hx,hf⟩:=hall j n hj
 unfold formP at hf
 simp only[Bool.and_eq_true] at hf
 obtain ⟨_,⟨hr,_⟩,_,hp⟩:=hf
 refine ⟨zCq hr c.name (List.mem_map.2 ⟨c,hc,rfl⟩),?_⟩
 have h1:=List.all_eq_true.1 hp c hc
 unfold pinP at h1
 split at h1
 ·cases h1
 ·rename_i k hk
  exact zGD hk
theorem zJC {q:PlIn} (h:mayPl q.g q.ps=true):(zAg q 0).ctx=[]:=by
 obtain ⟨h1,_,_,hall⟩:=zBv h
 obtain ⟨x,hx,hf⟩:=hall 0 _ (gE (by omega))
 rw[zAn (gE (by omega))]
 unfold formP headP at hf
 rw[if_pos rfl] at hf
 unfold zER at hf
 simp only[Bool.and_eq_true,decide_eq_true_eq] at hf
 exact List.eq_nil_of_length_eq_zero hf.1.2.2.1
theorem zGi {q:PlIn} {a:Nat} {done:List ByteArray} {st:PlSt} (h:zAf q a done st) (hm:mayPl q.g q.ps=true) {i:Nat} {d:Dir} (hi:st.1[i]?=some d):∃ n,q.g[d.node.toNat]?=some n:=by
 have hg:=(zBv hm).1
 by_cases h0:i=0
 ·subst h0
  have:=(h.inv.root d hi).2.1
  exact ⟨_,gE (by rw[this];show 0<_;omega)⟩
 ·have:=h.inv.node i d hi h0
  exact ⟨_,gE (by omega)⟩
theorem zDL {T:List Dir} {i f:Nat} {d df:Dir} {t s:ByteArray} (hi:T[i]?=some d) (hf:T[f]?=some df) (hp:d.path=df.path++[t]) (hs:nameB s=true) (hno:findI T (d.path++[s])<0):lookI T (i:Int) s=lookI T (f:Int) s:=by
 have hlen:d.path.length=df.path.length+1:=by rw[hp,List.length_append,List.length_singleton]
 have htk:∀ k,k≤df.path.length→d.path.take k=df.path.take k:=fun k hk=>by rw[hp,List.take_append_of_le_length hk]
 rcases lookI_spec hi hs with ⟨h1,h2⟩|⟨k,h1,h2,h3,h4⟩
 ·rcases lookI_spec hf hs with ⟨g1,_⟩|⟨k,g1,g2,g3,_⟩
  ·rw[h1,g1]
  ·have:=h2 k (by omega)
   rw[htk k g1] at this
   omega
 ·have hk:k≤df.path.length:=by
   rcases Nat.lt_or_ge df.path.length k with hl|hl
   ·exfalso
    have:k=d.path.length:=by omega
    rw[this,List.take_length] at h3
    omega
   ·exact hl
  rw[htk k hk] at h2 h3
  rw[h2,zEe hf hs hk h3 fun j hj1 hj2=>by rw[←htk j hj2];exact h4 j hj1 (by omega)]
theorem step_cases {q:PlIn} {at_:Nat} {done:List ByteArray} {st st':PlSt} (h:zAf q at_ done st) (hm:mayPl q.g q.ps=true) {d:Dir} (hd:st.1[at_]?=some d) {n:Node} (hn:q.g[d.node.toNat]?=some n) {e:Edge} (he:e∈n.edges) (hs:e.label∉done) {kind:Nat} (hst:stepE q at_ kind e st=.ok st') :
  (∃ (j:Nat) (f:Dir),lookI st.1 (at_:Int) e.label=(j:Int)∧st.1[j]?=some f∧f.node=e.to∧(kind=3→seesB q.g st.1 st.2 j at_=true)∧st'=(st.1,st.2++[⟨at_,e.label,j⟩])) ∨
  (kind≠1∧∃ (k:Nat) (nd:Dir),zB5 st.1 st.2 d.path e.label k∧nd.path=d.path.take k++[e.label]∧nd.node=e.to∧(kind≠2→k=d.path.length)∧st'=(st.1++[nd],st.2++[⟨at_,e.label,st.1.length⟩])):=by
 obtain ⟨e1,e2,e3,e4,e5,e6⟩:=zCE hm hn he
 unfold stepE at hst
 by_cases hr:zAm q st at_ kind e=true
 ·rw[if_pos hr] at hst
  cases hst
  unfold zAm at hr
  rw[Bool.and_eq_true,Bool.and_eq_true,decide_eq_true_eq,decide_eq_true_eq] at hr
  obtain ⟨r1,r2,r3⟩:=hr
  have hlt:(lookI st.1 (at_:Int) e.label).toNat<st.1.length:=by
   have:=(zCw st.1 (at_:Int) e.label).2
   omega
  refine .inl ⟨(lookI st.1 (at_:Int) e.label).toNat,_,by omega,zAX hlt,r2,fun hk=>?_,rfl⟩
  subst hk
  simpa using r3
 rw[if_neg hr] at hst
 by_cases hk1:kind=1
 ·rw[if_pos hk1] at hst;cases hst
 rw[if_neg hk1] at hst
 obtain ⟨k,hv,hk⟩:=zEv h.inv hd kind hs
 obtain ⟨i,f,_,hif,hi,hfp⟩:=h.inv.find hd hv.1
 have hhi:homeP q st at_ kind e=(i:Int):=by rw[hk];exact hif
 have hfull:kind≠2→k=d.path.length:=fun h2=>by
  unfold homeP at hhi
  rw[if_neg h2] at hhi
  have:i=at_:=by omega
  subst this
  rw[hd] at hi
  cases hi
  have:=congrArg List.length hfp
  rw[List.length_take] at this
  have:=hv.1
  omega
 rw[hhi,Int.toNat_natCast] at hst
 cases hp:putP q st.1 i e.to.toNat with
 | error c=>rw[hp] at hst;cases hst
 | ok T=>
   rw[hp] at hst
   cases hst
   unfold putP at hp
   rw[zBE hi,e4] at hp
   split at hp
   ·cases hp
   split at hp
   ·cases hp
   cases hp
   refine .inr ⟨hk1,k,⟨f.path++[e.label],zAh q e.to.toNat,((e.to.toNat:Nat):Int)⟩,hv,by rw[hfp],by show ((e.to.toNat:Nat):Int)=e.to;omega,hfull,rfl⟩
theorem zGq:∀ {S:List Stl} {i:Nat} {s:ByteArray},0≤zBB S i s→∃ z∈S,z.frm=i∧z.label=s∧zBB S i s=(z.dst:Int)
 | [],i,s,h=>by unfold zBB at h;omega
 | x::l,i,s,h=>by
   unfold zBB at h ⊢
   by_cases hx:x.frm=i∧x.label=s
   ·rw[if_pos hx]
    exact ⟨x,by simp,hx.1,hx.2,rfl⟩
   ·rw[if_neg hx] at h ⊢
    obtain ⟨z,h1,h2⟩:=zGq h
    exact ⟨z,by simp[h1],h2⟩
structure PJ (q:PlIn) (at_:Nat) (done:List ByteArray) (st:PlSt):Prop where
 par:∀ (j:Nat) (d:Dir),st.1[j]?=some d→(zAg q d.node.toNat).ctx≠[]→∃ (f:Nat) (d':Dir) (e:Edge),f<j∧st.1[f]?=some d'∧d.path=d'.path++[e.label]∧e∈(zAg q d'.node.toNat).edges∧e.to=d.node
 free:∀ d,st.1[at_]?=some d→∀ c∈(zAg q d.node.toNat).ctx,findI st.1 (d.path++[c.name])<0
 one:∀ x∈st.2,∀ f,st.1[x.dst]?=some f→∀ c∈(zAg q f.node.toNat).ctx,∀ y∈st.2,y.frm=x.frm→y.label=c.name→lookI st.1 (x.dst:Int) c.name=(y.dst:Int)
 fresh:∀ x∈st.2,x.frm=at_→∀ d f,st.1[at_]?=some d→st.1[x.dst]?=some f→∀ c∈(zAg q f.node.toNat).ctx,c.name∉done→¬CtxN (zAg q d.node.toNat) c.name→f.path=d.path++[x.label]
theorem PJ.start {q:PlIn} (hm:mayPl q.g q.ps=true):PJ q 0 [] ([dirZ0],[]) where
 par:=fun j d hj hc=>by
  cases j with
  | zero=>cases hj;exact absurd (zJC hm) hc
  | succ j=>cases hj
 free:=fun d hd c hc=>by
  cases hd
  rw[show (zAg q dirZ0.node.toNat).ctx=[] from zJC hm] at hc
  cases hc
 one:=fun x hx=>by cases hx
 fresh:=fun x hx=>by cases hx
theorem zLO {q:PlIn} (hm:mayPl q.g q.ps=true) (hG:SolG q.g) {i:Nat} {n:Node} (hn:q.g[i]?=some n) {s:ByteArray} (hs:CtxN n s) {ex:Edge} (hex:ex∈n.edges) (hxl:ex.label=s) {c:Pin} (hc:c∈(zAg q ex.to.toNat).ctx):c∈n.ctx:=by
 obtain ⟨p,hp,hps⟩:=hs
 obtain ⟨e1,e2,_⟩:=zCE hm hn hex
 have hy:q.g[ex.to.toNat]?=some (q.g[ex.to.toNat]'(by omega)):=gE (by omega)
 rw[zAn hy] at hc
 exact hG.low i ex.to.toNat n _ ex p hn hex hp (by rw[hxl,hps]) (by omega) hy c hc
theorem zKe {q:PlIn} {at_:Nat} {done:List ByteArray} {st:PlSt} (h:zAf q at_ done st) (hj:PJ q at_ done st) (hm:mayPl q.g q.ps=true) (hG:SolG q.g) {d:Dir} (hd:st.1[at_]?=some d) {n:Node} (hn:q.g[d.node.toNat]?=some n) (hne:n.ctx≠[]) :
  ∃ f0:Nat,∀ c∈n.ctx,∃ x∈st.2,x.frm=f0∧x.label=c.name∧lookI st.1 (at_:Int) c.name=(x.dst:Int)∧∀ e∈n.edges,e.label=c.name→∃ f,st.1[x.dst]?=some f∧f.node=e.to:=by
 obtain ⟨f0,d0,e0,g1,g2,g3,g4,g5⟩:=hj.par at_ d hd (by rw[zAn hn];exact hne)
 obtain ⟨n0,hn0⟩:=zGi h hm g2
 rw[zAn hn0] at g4
 have he0:=(zCE hm hn0 g4).1
 refine ⟨f0,fun c hc=>?_⟩
 obtain ⟨e1,he1,l1,hto⟩:=hG.two d0.node.toNat d.node.toNat n0 n e0 c hn0 g4 (by omega) hn hc
 obtain ⟨x,hx,x1,x2,f,x3,x4⟩:=h.all f0 d0 g2 e1 (by rw[zAn hn0];exact he1) (.inl g1)
 have hup:=zDL hd g2 g3 (zLg hm hn hc).1 (hj.free d hd c (by rw[zAn hn];exact hc))
 have hl:=(h.look x hx).2
 rw[x1,x2,l1] at hl
 exact ⟨x,hx,x1,by rw[x2,l1],by rw[hup,hl],fun e he hel=>⟨f,x3,by rw[x4,hto e he hel]⟩⟩
theorem zKV {q:PlIn} {at_:Nat} {done:List ByteArray} {st:PlSt} (h:zAf q at_ done st) (hj:PJ q at_ done st) (hm:mayPl q.g q.ps=true) (hG:SolG q.g) {d:Dir} (hd:st.1[at_]?=some d) {n:Node} (hn:q.g[d.node.toNat]?=some n) {s:ByteArray} (hs:CtxN n s) {j:Nat} (hl:lookI st.1 (at_:Int) s=(j:Int))
  {f:Dir} (hf:st.1[j]?=some f) {ex:Edge} (hex:ex∈n.edges) (hxl:ex.label=s) (hxt:ex.to=f.node) {c:Pin} (hc:c∈(zAg q f.node.toNat).ctx) {k:Nat} (hk:lookI st.1 (at_:Int) c.name=(k:Int)):lookI st.1 (j:Int) c.name=(k:Int):=by
 have hcn:=zLO hm hG hn hs hex hxl (by rw[hxt];exact hc)
 obtain ⟨p,hp,hps⟩:=hs
 obtain ⟨f0,hset⟩:=zKe h hj hm hG hd hn (fun e=>by rw[e] at hp;cases hp)
 obtain ⟨x0,hx0,a1,a2,a3,_⟩:=hset p hp
 obtain ⟨y0,hy0,b1,b2,b3,_⟩:=hset c hcn
 have hxj:x0.dst=j:=by rw[hps,hl] at a3;omega
 have hyk:y0.dst=k:=by rw[hk] at b3;omega
 have:=hj.one x0 hx0 f (by rw[hxj];exact hf) c hc y0 hy0 (by rw[b1,a1]) b2
 rwa [hxj,hyk] at this
theorem zKy {q:PlIn} {at_:Nat} {done:List ByteArray} {st:PlSt} (h:zAf q at_ done st) {d:Dir} (hd:st.1[at_]?=some d) (a b:ByteArray):findI st.1 (d.path++[a]++[b])<0:=by
 rcases Int.lt_or_le (findI st.1 (d.path++[a]++[b])) 0 with hl|hl
 ·exact hl
 ·exfalso
  obtain ⟨j,g,_,hj,hgp⟩:=zCj hl
  have hne:j≠at_:=fun e=>by
   rw[e,hd] at hj
   cases hj
   have:=congrArg List.length hgp
   simp at this
  obtain ⟨_,s,_,hs⟩:=h.inv.low j g at_ d hj hd (nR _) hne (by rw[hgp,List.append_assoc];exact List.prefix_append _ _)
  rw[hs] at hgp
  have:=congrArg List.length hgp
  simp at this
theorem snoc_at {T:List Dir} {nd:Dir} {j:Nat} {d:Dir} (hj:(T++[nd])[j]?=some d):T[j]?=some d∨(j=T.length∧d=nd):=by
 rcases Nat.lt_trichotomy j T.length with hlt|heq|hgt
 ·rw[List.getElem?_append_left hlt] at hj;exact .inl hj
 ·rw[heq,List.getElem?_append_right (nR _),Nat.sub_self] at hj
  cases hj
  exact .inr ⟨heq,rfl⟩
 ·rw[List.getElem?_eq_none (by rw[List.length_append,List.length_singleton];omega)] at hj
  cases hj
theorem PJ.step {q:PlIn} {at_:Nat} {done:List ByteArray} {st st':PlSt} (h:zAf q at_ done st) (hj:PJ q at_ done st) (hm:mayPl q.g q.ps=true) (hG:SolG q.g) (hq:q.path≤1024) (hqd:q.dirs≤256) {d:Dir} (hd:st.1[at_]?=some d) {n:Node} (hn:q.g[d.node.toNat]?=some n)
  {e:Edge} (he:e∈n.edges) (hs:e.label∉done) (hlow:∀ s∈done,∃ e'∈n.edges,e'.label=s∧kindP q n e'≤kindP q n e) (hst:stepE q at_ (kindP q n e) e st=.ok st'):PJ q at_ (done++[e.label]) st':=by
 have h':=h.step hm hq hqd hd hn he hs hst
 have hnd:=zAn hn
 have hstl:∀ x∈st.2,x.frm=at_→x.label∈done:=fun x hx hxf=>by
  rcases (h.inv.stl x hx).2.2 with g|g
  ·omega
  ·exact g.2
 have hedge:∀ x∈st.2,x.frm=at_→∀ f,st.1[x.dst]?=some f→∃ ex∈n.edges,ex.label=x.label∧ex.to=f.node∧kindP q n ex≤kindP q n e:=fun x hx hxf f hf=>by
  have hin:=hstl x hx hxf
  obtain ⟨e',g1,g2,g3⟩:=hlow _ hin
  obtain ⟨x2,r1,r2,r3,f2,r4,r5⟩:=h.all at_ d hd e' (by rw[hnd];exact g1) (.inr ⟨rfl,by rw[g2];exact hin⟩)
  have k1:=(h.look x hx).2
  have k2:=(h.look x2 r1).2
  rw[r2,r3,g2] at k2
  rw[hxf,k2] at k1
  have:x2.dst=x.dst:=by omega
  rw[this,hf] at r4
  cases r4
  exact ⟨e',g1,g2,r5.symm,g3⟩
 have hrange:=zAv q n e
 rcases step_cases h hm hd hn he hs hst with ⟨j,f,l1,l2,l3,l4,rfl⟩|⟨hk1,k,nd,hv,p1,p2,p3,rfl⟩
 ·
  have hsee:kindP q n e=3→∀ c∈(zAg q f.node.toNat).ctx,∃ z∈st.2,z.frm=at_∧z.label=c.name∧lookI st.1 (j:Int) c.name=(z.dst:Int):=fun hk c hc=>by
   have h4:=l4 hk
   unfold seesB at h4
   rw[zBl l2] at h4
   obtain ⟨y,hy⟩:=zGi h hm l2
   rw[hy] at h4
   rw[zAn hy] at hc
   have h5:=List.all_eq_true.1 h4 c hc
   unfold zDi at h5
   rw[Bool.and_eq_true,decide_eq_true_eq,decide_eq_true_eq] at h5
   obtain ⟨z,z1,z2,z3,z4⟩:=zGq h5.1
   exact ⟨z,z1,z2,z3,by rw[h5.2,z4]⟩
  refine ⟨hj.par,hj.free,fun x hx fx hfx c hc y hy hyf hyl=>?_,fun x hx hxf d' fx hd' hfx c hc hcd hcx=>?_⟩
  ·have hyl2:=h'.look y hy
   rcases List.mem_append.1 hx with hx|hx
   ·rcases List.mem_append.1 hy with hy|hy
    ·exact hj.one x hx fx hfx c hc y hy hyf hyl
    ·rw[List.mem_singleton.1 hy] at hyf hyl hyl2 ⊢
     have hyf:at_=x.frm:=hyf
     have hyl:e.label=c.name:=hyl
     have hxl:=(h.look x hx).2
     rw[←hyf] at hxl
     obtain ⟨ex,x1,x2,x3,x4⟩:=hedge x hx hyf.symm fx hfx
     by_cases hcx:CtxN n e.label
     ·have hk1:=(zDK (q:=q)).2 hcx
      have hx1:CtxN n ex.label:=(zDK (q:=q)).1 (by have:=(zAv q n ex).1;omega)
      exact zKV h hj hm hG hd hn (by rw[←x2];exact hx1) hxl hfx x1 x2 x3 hc (by rw[←hyl];exact l1)
     ·have hp:=hj.fresh x hx hyf.symm d fx hd hfx c hc (by rw[←hyl];exact hs) (by rw[hnd,←hyl];exact hcx)
      rw[zDL hfx hd hp (by rw[←hyl];exact hyl2.1) (by rw[hp];exact zKy h hd _ _),←hyl]
      exact l1
   ·rw[List.mem_singleton.1 hx] at hfx hyf ⊢
    have hyf:y.frm=at_:=hyf
    have hfx:st.1[j]?=some fx:=hfx
    rw[l2] at hfx
    cases hfx
    have hyk:lookI st.1 (at_:Int) c.name=(y.dst:Int):=by have:=hyl2.2;rwa [hyf,hyl] at this
    show lookI st.1 (j:Int) c.name=(y.dst:Int)
    rcases Nat.lt_trichotomy (kindP q n e) 2 with hk|hk|hk
    ·exact zKV h hj hm hG hd hn ((zDK (q:=q)).1 (by omega)) l1 l2 he rfl l3.symm hc hyk
    ·rw[l3,zGe hk] at hc;cases hc
    ·obtain ⟨z,z1,z2,z3,z4⟩:=hsee (by omega) c hc
     have:=(h.look z z1).2
     rw[z2,z3,hyk] at this
     rw[z4,this]
  ·have hd':st.1[at_]?=some d':=hd'
   rw[hd] at hd'
   cases hd'
   rcases List.mem_append.1 hx with hx|hx
   ·exact hj.fresh x hx hxf d fx hd hfx c hc (fun hm=>hcd (List.mem_append.2 (.inl hm))) hcx
   ·exfalso
    rw[List.mem_singleton.1 hx] at hfx
    have hfx:st.1[j]?=some fx:=hfx
    rw[l2] at hfx
    cases hfx
    rcases Nat.lt_trichotomy (kindP q n e) 2 with hk|hk|hk
    ·refine hcx ⟨c,?_,rfl⟩
     rw[hnd]
     exact zLO hm hG hn ((zDK (q:=q)).1 (by omega)) he rfl (by rw[←l3];exact hc)
    ·rw[l3,zGe hk] at hc;cases hc
    ·obtain ⟨z,z1,z2,z3,_⟩:=hsee (by omega) c hc
     exact hcd (List.mem_append.2 (.inl (by rw[←z3];exact hstl z z1 z2)))
 ·
  have hncx:¬CtxN n e.label:=fun hc=>hk1 (zDK.2 hc)
  have hfull:(zAg q nd.node.toNat).ctx≠[]→nd.path=d.path++[e.label]:=fun hne=>by
   have h2:kindP q n e≠2:=fun h2=>hne (by rw[p2];exact zGe h2)
   rw[p1,p3 h2,List.take_length]
  have hold:∀ {j:Nat} {d':Dir},st.1[j]?=some d'→(st.1++[nd])[j]?=some d':=fun {j d'} hj=>by
   rw[List.getElem?_append_left (gS.1 hj).1];exact hj
  have hlast:(st.1++[nd])[st.1.length]?=some nd:=by rw[List.getElem?_append_right (nR _),Nat.sub_self];rfl
  have hdl:=(gS.1 hd).1
  have hsame:∀ {d':Dir},(st.1++[nd])[at_]?=some d'→d'=d:=fun {d'} hd'=>by
   rw[hold hd] at hd'
   exact (Option.some.inj hd').symm
  have hlow2:∀ a b,findI (st.1++[nd]) (d.path++[a]++[b])<0:=fun a b=>by
   have h0:=zKy h hd a b
   rw[zBi,if_neg (by omega),if_neg]
   ·decide
   ·intro hp
    rw[p1] at hp
    have:=congrArg List.length hp
    simp only[List.length_append,List.length_take,List.length_singleton] at this
    omega
  refine ⟨fun j d' hj' hc=>?_,fun d' hd' c hc=>?_,fun x hx fx hfx c hc y hy hyf hyl=>?_,fun x hx hxf d' fx hd' hfx c hc hcd hcx=>?_⟩
  ·rcases snoc_at hj' with g|⟨g,rfl⟩
   ·obtain ⟨f0,d0,e0,g1,g2,g3⟩:=hj.par j d' g hc
    exact ⟨f0,d0,e0,g1,hold g2,g3⟩
   ·exact ⟨at_,d,e,by omega,hold hd,hfull hc,by rw[hnd];exact he,p2.symm⟩
  ·rw[hsame hd'] at hc ⊢
   have h0:=hj.free d hd c hc
   show findI (st.1++[nd]) _<0
   rw[zBi,if_neg (by omega),if_neg]
   ·decide
   ·intro hp
    rw[p1] at hp
    obtain ⟨_,hp⟩:=List.append_inj' hp rfl
    rw[hnd] at hc
    exact hncx ⟨c,hc,by simpa using hp.symm⟩
  ·have hyl2:=h'.look y hy
   rcases List.mem_append.1 hx with hx|hx
   ·have hxd:=(h.inv.stl x hx).2.1
    have hfx':st.1[x.dst]?=some fx:=by
     rcases snoc_at hfx with g|⟨g,_⟩
     ·exact g
     ·omega
    rcases List.mem_append.1 hy with hy|hy
    ·
     have h0:=hj.one x hx fx hfx' c hc y hy hyf hyl
     have hnb:nameB c.name=true:=by rw[←hyl];exact (h.look y hy).1
     rcases lookI_spec hfx' hnb with ⟨g1,_⟩|⟨m,g1,g2,g3,g4⟩
     ·omega
     have hmm:findI (st.1++[nd]) (fx.path.take m++[c.name])=(y.dst:Int):=by rw[zBi,if_pos g3,←g2,h0]
     show lookI (st.1++[nd]) (x.dst:Int) c.name=(y.dst:Int)
     rw[zEe hfx hnb g1 (by rw[hmm];omega) fun m' hm1 hm2=>?_,hmm]
     rw[zBi,if_neg (by have:=g4 m' hm1 hm2;omega)]
     by_cases hpe:nd.path=fx.path.take m'++[c.name]
     ·exfalso
      rw[p1] at hpe
      obtain ⟨hhome,hlb⟩:=List.append_inj' hpe rfl
      have hlb:e.label=c.name:=by simpa using hlb
      obtain ⟨ih,eh,_,hih,heh,hehp⟩:=h.inv.find hd hv.1
      have hturn:∀ z∈st.2,z.label=e.label→d.path.take k<+:zAa st.1 z.frm→(zAa st.1 z.dst).length≤(d.path.take k).length→False:=fun z hz z1 z2 z3=>by
       have hq:=hv.2.2
       unfold idxK zBs at hq
       rw[hih,Int.toNat_natCast,List.any_eq_false] at hq
       apply hq z hz
       unfold zBY
       rw[zBE heh,hehp]
       simp only[Bool.and_eq_true,decide_eq_true_eq]
       exact ⟨z1,zED.2 z2,z3⟩
      have hyd:zAa st.1 y.dst=fx.path.take m++[c.name]:=by
       obtain ⟨j',d',e1,e2,e3⟩:=zCj g3
       have:j'=y.dst:=by omega
       rw[this] at e2
       rw[zBE e2,e3]
      have hlen:(zAa st.1 y.dst).length≤(d.path.take k).length:=by
       rw[hyd,hhome,List.length_append,List.length_take,List.length_take,List.length_singleton]
       omega
      by_cases hw:m'=fx.path.length
      ·rw[hw,List.take_length] at hhome
       by_cases hxa:x.dst=at_
       ·rw[hxa,hd] at hfx'
        cases hfx'
        rw[hnd] at hc
        exact hncx ⟨c,hc,hlb.symm⟩
       ·have hle:=h.inv.behind_ hd hfx' (by rw[←hhome];exact List.take_prefix _ _)
        obtain ⟨nx,hnx⟩:=zGi h hm hfx'
        rw[zAn hnx] at hc
        obtain ⟨ec,hec,hel⟩:=(zLg hm hnx hc).2
        obtain ⟨z,z1,z2,z3,_⟩:=h.all x.dst fx hfx' ec (by rw[zAn hnx];exact hec) (.inl (by omega))
        have hz:=(h.look z z1).2
        rw[z2,z3,hel,h0] at hz
        have hzy:z.dst=y.dst:=by omega
        exact hturn z z1 (by rw[z3,hel,hlb]) (by rw[z2,zBE hfx',hhome];exact List.prefix_refl _) (by rw[hzy];exact hlen)
      ·refine hturn y hy (by rw[hyl,hlb]) ?_ hlen
       rw[hyf]
       have hfr:=zAX (h.inv.stl x hx).1
       obtain ⟨hxn,hxl⟩:=h.look x hx
       rcases lookI_spec hfr hxn with ⟨q1,_⟩|⟨m2,q1,q2,q3,_⟩
       ·omega
       obtain ⟨j',d',e1,e2,e3⟩:=zCj q3
       have:j'=x.dst:=by omega
       rw[this,hfx'] at e2
       cases e2
       have hl2:=congrArg List.length e3
       rw[List.length_append,List.length_take,List.length_singleton] at hl2
       rw[hhome,e3,List.take_append_of_le_length (by rw[List.length_take];omega),List.take_take]
       exact List.take_prefix _ _
     ·rw[if_neg hpe];decide
    ·rw[List.mem_singleton.1 hy] at hyf hyl hyl2 ⊢
     have hyf:at_=x.frm:=hyf
     have hyl:e.label=c.name:=hyl
     have hp:=hj.fresh x hx hyf.symm d fx hd hfx' c hc (by rw[←hyl];exact hs) (by rw[hnd,←hyl];exact hncx)
     show lookI (st.1++[nd]) (x.dst:Int) c.name=_
     rw[zDL hfx (hold hd) hp (by rw[←hyl];exact hyl2.1) (by rw[hp];exact hlow2 _ _),←hyl]
     exact hyl2.2
   ·rw[List.mem_singleton.1 hx] at hfx hyf ⊢
    have hyf:y.frm=at_:=hyf
    have hfx:(st.1++[nd])[st.1.length]?=some fx:=hfx
    rw[hlast] at hfx
    cases hfx
    have hp:=hfull (fun e=>by rw[e] at hc;cases hc)
    show lookI (st.1++[nd]) (st.1.length:Int) c.name=(y.dst:Int)
    rw[zDL hlast (hold hd) hp (by rw[←hyl];exact hyl2.1) (by rw[hp];exact hlow2 _ _)]
    have:=hyl2.2
    rwa [hyf,hyl] at this
  ·rw[hsame hd'] at hcx ⊢
   rcases List.mem_append.1 hx with hx|hx
   ·have hxd:=(h.inv.stl x hx).2.1
    have hfx':st.1[x.dst]?=some fx:=by
     rcases snoc_at hfx with g|⟨g,_⟩
     ·exact g
     ·omega
    exact hj.fresh x hx hxf d fx hd hfx' c hc (fun hm=>hcd (List.mem_append.2 (.inl hm))) hcx
   ·rw[List.mem_singleton.1 hx] at hfx ⊢
    have hfx:(st.1++[nd])[st.1.length]?=some fx:=hfx
    rw[hlast] at hfx
    cases hfx
    exact hfull (fun e=>by rw[e] at hc;cases hc)
theorem PJ.ind {q:PlIn} (hm:mayPl q.g q.ps=true) (hG:SolG q.g) (hq:q.path≤1024) (hqd:q.dirs≤256):PlInd q fun at_ _ done st=>PJ q at_ done st where
 step:=fun at_ done st st' d n e h hp hd hn he hs _ hlow hst=>PJ.step h hp hm hG hq hqd hd hn he hs hlow hst
 turn:=fun _ _ _ _ h=>h
 next:=fun at_ done st d h hp hd hall=>by
  have h1:=h.next hd hall
  exact { par:=hp.par
          free:=fun d' hd' c _=>h1.inv.fresh hd' (by simp)
          one:=hp.one
          fresh:=fun x hx hxf=>by
           rcases (h.inv.stl x hx).2.2 with g|g<;>omega}
structure PlErr (q:PlIn) (P:Nat→Nat→List ByteArray→PlSt→Prop) (E:Int→Prop):Prop where
 ind:PlInd q P
 err:∀ (at_:Nat) (done:List ByteArray) (st:PlSt) (d:Dir) (n:Node) (e:Edge) (c:Int),zAf q at_ done st→P at_ (kindP q n e) done st→st.1[at_]?=some d→q.g[d.node.toNat]?=some n→e∈n.edges→e.label∉done→stepE q at_ (kindP q n e) e st=.error c→E c
theorem zEF {q:PlIn} {P:Nat→Nat→List ByteArray→PlSt→Prop} {E:Int→Prop} (hP:PlErr q P E) (hm:mayPl q.g q.ps=true) (hq:q.path≤1024) (hqd:q.dirs≤256) {at_:Nat} {d:Dir} {n:Node} (hn:q.g[d.node.toNat]?=some n) {kind:Nat} {c:Int}:∀ (m k:Nat) (done:List ByteArray) (st:PlSt),n.edges.length=k+m→st.1[at_]?=some d→zBS q n kind k done→(∀ e'∈n.edges,kindP q n e'<kind→e'.label∈done)→zAf q at_ done st→P at_ kind done st→zAO q at_ n kind (n.edges.drop k) st=.error c→E c:=by
 intro m
 induction m with
 | zero=>
   intro k done st hl hd hdn hlow h hp hst
   rw[dN (by omega),zAO] at hst
   cases hst
 | succ m ih=>
   intro k done st hl hd hdn hlow h hp hst
   obtain ⟨e,he⟩:∃ e,n.edges[k]?=some e:=⟨_,gE (by omega)⟩
   rw[zBK q at_ n kind he] at hst
   by_cases hk:kindP q n e=kind
   ·rw[if_pos hk] at hst
    have hno:=hdn.not (zA1 hm hn) he hk
    have hmem:=mG he
    cases hs:stepE q at_ kind e st with
    | error c'=>
      rw[hs] at hst
      cases hst
      exact hP.err at_ done st d n e c h (by rw[hk];exact hp) hd hn hmem hno (by rw[hk];exact hs)
    | ok st1=>
      rw[hs] at hst
      have h1:=h.step hm hq hqd hd hn hmem hno hs
      have hp1:P at_ kind (done++[e.label]) st1:=by
       have:=hP.ind.step at_ done st st1 d n e h (by rw[hk];exact hp) hd hn hmem hno (by rw[hk];exact hlow) (fun s hs'=>by
        obtain ⟨j,e',g1,g2,g3⟩:=hdn s hs'
        exact ⟨e',mG g1,g2,by omega⟩) (by rw[hk];exact hs)
       rwa [hk] at this
      have hd1:st1.1[at_]?=some d:=by
       obtain ⟨l,hl1⟩:=(zDR hs).1
       rw[←hl1,List.getElem?_append_left (gS.1 hd).1];exact hd
      exact ih (k+1) _ st1 (by omega) hd1 (hdn.step he hk) (fun e' he' hlt=>List.mem_append.2 (.inl (hlow e' he' hlt))) h1 hp1 hst
   ·rw[if_neg hk] at hst
    exact ih (k+1) done st (by omega) hd (hdn.more (by omega)) hlow h hp hst
theorem zMR {q:PlIn} {P:Nat→Nat→List ByteArray→PlSt→Prop} {E:Int→Prop} (hP:PlErr q P E) (hm:mayPl q.g q.ps=true) (hq:q.path≤1024) (hqd:q.dirs≤256) {at_:Nat} {st:PlSt} {d:Dir} {c:Int} (hd:st.1[at_]?=some d) (h:zAf q at_ [] st) (hp:P at_ 1 [] st) (hst:dirP q at_ st=.error c):E c:=by
 obtain ⟨n,hn⟩:=zGi h hm hd
 have hidx:∀ e∈n.edges,∃ j:Nat,n.edges[j]?=some e:=fun e he=>by
  obtain ⟨j,hj,rfl⟩:=List.getElem_of_mem he
  exact ⟨j,gE hj⟩
 unfold dirP at hst
 rw[zBl hd,zAn hn,zAS] at hst
 cases h1:zAO q at_ n 1 n.edges st with
 | error c'=>
   rw[h1] at hst
   cases hst
   exact zEF hP hm hq hqd hn n.edges.length 0 [] st (by omega) hd (fun s hs=>by cases hs) (fun e' _ hlt=>by have:=(zAv q n e').1;omega) h hp (by rw[List.drop_zero];exact h1)
 | ok st1=>
   rw[h1] at hst
   simp only at hst
   obtain ⟨d1,a1,a2,a3,a4,a5,a6⟩:=zCg hP.ind hm hq hqd hn n.edges.length 0 [] st st1 (by omega) hd (fun s hs=>by cases hs) (fun e' _ hlt=>by have:=(zAv q n e').1;omega) h hp (by rw[List.drop_zero];exact h1)
   have hall1:∀ e'∈n.edges,kindP q n e'<2→e'.label∈d1:=fun e' he' hlt=>by
    obtain ⟨j,hj⟩:=hidx e' he'
    exact a3 j e' (nZ _) hj (by have:=(zAv q n e').1;omega)
   rw[zAS] at hst
   cases h2:zAO q at_ n 2 n.edges st1 with
   | error c'=>
     rw[h2] at hst
     cases hst
     exact zEF hP hm hq hqd hn n.edges.length 0 d1 st1 (by omega) a6 a1.turn hall1 a4 (hP.ind.turn _ _ _ _ a5) (by rw[List.drop_zero];exact h2)
   | ok st2=>
     rw[h2] at hst
     simp only at hst
     obtain ⟨d2,b1,b2,b3,b4,b5,b6⟩:=zCg hP.ind hm hq hqd hn n.edges.length 0 d1 st1 st2 (by omega) a6 a1.turn hall1 a4 (hP.ind.turn _ _ _ _ a5) (by rw[List.drop_zero];exact h2)
     have hall2:∀ e'∈n.edges,kindP q n e'<3→e'.label∈d2:=fun e' he' hlt=>by
      obtain ⟨j,hj⟩:=hidx e' he'
      have hr:=(zAv q n e').1
      rcases Nat.lt_or_ge (kindP q n e') 2 with hl|hl
      ·exact b2 _ (hall1 e' he' hl)
      ·exact b3 j e' (nZ _) hj (by omega)
     rw[zAS] at hst
     cases h3:zAO q at_ n 3 n.edges st2 with
     | error c'=>
       rw[h3] at hst
       cases hst
       exact zEF hP hm hq hqd hn n.edges.length 0 d2 st2 (by omega) b6 b1.turn hall2 b4 (hP.ind.turn _ _ _ _ b5) (by rw[List.drop_zero];exact h3)
     | ok st3=>
       rw[h3] at hst
       simp only at hst
       rw[zAS] at hst
       cases hst
theorem zK4 {q:PlIn} {P:Nat→Nat→List ByteArray→PlSt→Prop} {E:Int→Prop} (hP:PlErr q P E) (hm:mayPl q.g q.ps=true) (hq:q.path≤1024) (hqd:q.dirs≤256) {c:Int}:∀ (f at_:Nat) (st:PlSt),zAf q at_ [] st→P at_ 1 [] st→dirsP q f at_ st=.error c→E c:=by
 intro f
 induction f with
 | zero=>intro at_ st h hp hst;rw[dirsP] at hst;cases hst
 | succ f ih=>
   intro at_ st h hp hst
   rw[dirsP] at hst
   by_cases hlt:at_<st.1.length
   ·rw[if_pos hlt] at hst
    cases hd:dirP q at_ st with
    | error c'=>
      rw[hd] at hst
      cases hst
      exact zMR hP hm hq hqd (zAX hlt) h hp hd
    | ok st1=>
      rw[hd] at hst
      exact ih (at_+1) st1 (zFM hm hq hqd (zAX hlt) h hd) (zL3 hP.ind hm hq hqd (zAX hlt) h hp hd) hst
   ·rw[if_neg hlt] at hst
    cases hst
theorem PJ.err {q:PlIn} (hm:mayPl q.g q.ps=true) (hG:SolG q.g) (hq:q.path≤1024) (hqd:q.dirs≤256):PlErr q (fun at_ _ done st=>PJ q at_ done st) fun c=>c=40∨c=41 where
 ind:=PJ.ind hm hG hq hqd
 err:=fun at_ done st d n e c h hj hd hn he hs hst=>by
  unfold stepE at hst
  by_cases hr:zAm q st at_ (kindP q n e) e=true
  ·rw[if_pos hr] at hst;cases hst
  rw[if_neg hr] at hst
  by_cases hk1:kindP q n e=1
  ·exfalso
   apply hr
   obtain ⟨p,hp,hpn⟩:=zDK.1 hk1
   obtain ⟨f0,hset⟩:=zKe h hj hm hG hd hn (fun e=>by rw[e] at hp;cases hp)
   obtain ⟨x,hx,a1,a2,a3,a4⟩:=hset p hp
   obtain ⟨f,f1,f2⟩:=a4 e he hpn.symm
   rw[hpn] at a3
   unfold zAm
   rw[a3,Int.toNat_natCast,zBl f1,decide_eq_true (by omega),decide_eq_true f2,hk1]
   rfl
  rw[if_neg hk1] at hst
  cases hp:putP q st.1 (homeP q st at_ (kindP q n e) e).toNat e.to.toNat with
  | ok T=>rw[hp] at hst;cases hst
  | error c'=>
    rw[hp] at hst
    cases hst
    unfold putP at hp
    split at hp
    ·cases hp;exact .inl rfl
    split at hp
    ·cases hp;exact .inr rfl
    ·cases hp
theorem place_errs {q:PlIn} (hm:mayPl q.g q.ps=true) (hG:SolG q.g) (hold:zCG q.old=false) {c:Int} (h:zAq q=.error c):c=1∨c=40∨c=41:=by
 unfold zAq at h
 split at h
 ·cases h;exact .inl rfl
 rename_i hb
 rw[hold,if_neg (by decide),if_neg (by rw[hm];decide)] at h
 exact .inr (zK4 (PJ.err hm hG (by omega) (by omega)) hm (by omega) (by omega) 258 0 _ (zAf.start q) (PJ.start hm) h)
end Go.Proofs.YtminjjdnmpaaoaaGreatDoor
namespace Go.Proofs.YtminjjdnmpaaoaaGreatDoor
open Go.Rows Go.RowKit Go.Shelf Go.Sort
theorem zFD {w:World} {S:Nat→Prop} {L:List Pack} {A:Option Addr} {n c k:Nat} {x:Pack} (hl:SlV rPack w S L (.slice A n c)) (hx:L[k]?=some x) :
  ∃ b o A1 B1 C1 a1 b1 c1,A=some ⟨b,o,none⟩∧b<w.heap.size∧S b∧PackV w S x (.agg #[.string x.name,.int .i64 x.ver.major,.int .i64 x.ver.minor,.int .i64 x.ver.patch,.slice A1 x.deps.length a1,.slice B1 x.peers.length b1,.slice C1 x.opts.length c1])∧(I64 x.ver.major∧I64 x.ver.minor∧I64 x.ver.patch) ∧
    w.cell? ⟨b,o+k * 7,none⟩=some (.string x.name)∧w.cell? ⟨b,o+k * 7+1,none⟩=some (.int .i64 x.ver.major)∧w.cell? ⟨b,o+k * 7+2,none⟩=some (.int .i64 x.ver.minor)∧w.cell? ⟨b,o+k * 7+3,none⟩=some (.int .i64 x.ver.patch) ∧
    w.cell? ⟨b,o+k * 7+4,none⟩=some (.slice A1 x.deps.length a1)∧w.cell? ⟨b,o+k * 7+5,none⟩=some (.slice B1 x.peers.length b1)∧w.cell? ⟨b,o+k * 7+6,none⟩=some (.slice C1 x.opts.length c1):=by
 obtain ⟨b,o,cs,hA,hS,hb,hh,hcell⟩:=hl.elem hx
 obtain ⟨s0,s1,s2,rfl,hnm,i1,i2,i3,h1,h2,h3⟩:=hh
 obtain ⟨A1,a1,rfl,_,_⟩:=h1.val
 obtain ⟨B1,b1,rfl,_,_⟩:=h2.val
 obtain ⟨C1,c1,rfl,_,_⟩:=h3.val
 have c0:=hcell 0 _ rfl
 have d1:=hcell 1 _ rfl
 have d2:=hcell 2 _ rfl
 have d3:=hcell 3 _ rfl
 have d4:=hcell 4 _ rfl
 have d5:=hcell 5 _ rfl
 have d6:=hcell 6 _ rfl
 simp only[rPack,Nat.add_zero] at c0 d1 d2 d3 d4 d5 d6
 exact ⟨b,o,A1,B1,C1,a1,b1,c1,hA,hb,hS,⟨_,_,_,_,_,_,_,_,_,rfl,hnm,h1,h2,h3⟩,⟨i1,i2,i3⟩,c0,d1,d2,d3,d4,d5,d6⟩
theorem zKp {L:List Pack} {s:ByteArray} {v:Ver} {k:Nat} (h:L.length≤k):getC (L.drop k) s v=none:=by rw[dN h];rfl
theorem zKG {L:List Pack} {k:Nat} {x:Pack} (hx:L[k]?=some x) (s:ByteArray) (v:Ver):getC (L.drop k) s v=if isC s v x=true then some x else getC (L.drop (k+1)) s v:=by
 obtain ⟨h,e⟩:=gS.1 hx
 rw[dC h,e]
 unfold getC
 rw[List.find?_cons]
 cases isC s v x<;>rfl
theorem zNI (s:ByteArray) (v:Ver) (x:Pack):isC s v x=(decide (x.name=s)&&(decide (x.ver.major=v.major)&&(decide (x.ver.minor=v.minor)&&decide (x.ver.patch=v.patch)))):=by unfold isC;rw[zGQ]
theorem zGk {P:Program} {fn:Func} {R:Ending→World→Prop} {ty:TypeId} {d:TypeDesc} {p q:Tmp} {a:Act} {W:World} {g:Nat} {x0 x1 x2 x3 x4 x5 x6 bv:Value} {t:TypeId} (hf:fn.results=#[.cell p ty,.tmp q]) (hd:a.defers=[]) (h2:a.tmps.getD p undef=.pointer (some ⟨g,0,none⟩)) (h3:a.tmps.getD q undef=bv)
  (hg:W.heap[g]?=some (.cells #[x0,x1,x2,x3,x4,x5,x6] t (0,0))) (hu:P.underlying ty=some d) (hdd:(match d with|.struct _|.array _ _=>true|_=>false)=true) (hi:(P.info? ty).map (·.size)=some 7)
  (h:R (.returned (.tuple #[.agg #[x0,x1,x2,x3,x4,x5,x6],bv])) W):bodyPost P fn R Exit.ret a W:=
 bodyPost_ret (zBo hf a.tmps W g t #[x0,x1,x2,x3,x4,x5,x6] (0,0) d h2 hg hu hdd hi) hd (by rw[h3];exact h)
theorem set7Q {W:World} {b:Nat} {x0 x1 x2 x3 x4 x5 x6:Value} {t:TypeId} (h:W.heap[b]?=some (.cells #[x0,x1,x2,x3,x4,x5,x6] t (0,0))) (a0 a1 a2 a3 a4 a5 a6:Value) :
  (((((((W.setCell ⟨b,0,none⟩ a0).setCell ⟨b,1,none⟩ a1).setCell ⟨b,2,none⟩ a2).setCell ⟨b,3,none⟩ a3).setCell ⟨b,4,none⟩ a4).setCell ⟨b,5,none⟩ a5).setCell ⟨b,6,none⟩ a6).heap[b]?=some (.cells #[a0,a1,a2,a3,a4,a5,a6] t (0,0)):=by
 have h0:(W.setCell ⟨b,0,none⟩ a0).heap[b]?=some (.cells #[a0,x1,x2,x3,x4,x5,x6] t (0,0)):=set1Q h a0
 have h1:((W.setCell ⟨b,0,none⟩ a0).setCell ⟨b,1,none⟩ a1).heap[b]?=some (.cells #[a0,a1,x2,x3,x4,x5,x6] t (0,0)):=set1Q h0 a1
 have h2:(((W.setCell ⟨b,0,none⟩ a0).setCell ⟨b,1,none⟩ a1).setCell ⟨b,2,none⟩ a2).heap[b]?=some (.cells #[a0,a1,a2,x3,x4,x5,x6] t (0,0)):=set1Q h1 a2
 have h3:((((W.setCell ⟨b,0,none⟩ a0).setCell ⟨b,1,none⟩ a1).setCell ⟨b,2,none⟩ a2).setCell ⟨b,3,none⟩ a3).heap[b]?=some (.cells #[a0,a1,a2,a3,x4,x5,x6] t (0,0)):=set1Q h2 a3
 have h4:(((((W.setCell ⟨b,0,none⟩ a0).setCell ⟨b,1,none⟩ a1).setCell ⟨b,2,none⟩ a2).setCell ⟨b,3,none⟩ a3).setCell ⟨b,4,none⟩ a4).heap[b]?=some (.cells #[a0,a1,a2,a3,a4,x5,x6] t (0,0)):=set1Q h3 a4
 have h5:((((((W.setCell ⟨b,0,none⟩ a0).setCell ⟨b,1,none⟩ a1).setCell ⟨b,2,none⟩ a2).setCell ⟨b,3,none⟩ a3).setCell ⟨b,4,none⟩ a4).setCell ⟨b,5,none⟩ a5).heap[b]?=some (.cells #[a0,a1,a2,a3,a4,a5,x6] t (0,0)):=set1Q h4 a5
 have h6:(((((((W.setCell ⟨b,0,none⟩ a0).setCell ⟨b,1,none⟩ a1).setCell ⟨b,2,none⟩ a2).setCell ⟨b,3,none⟩ a3).setCell ⟨b,4,none⟩ a4).setCell ⟨b,5,none⟩ a5).setCell ⟨b,6,none⟩ a6).heap[b]?=some (.cells #[a0,a1,a2,a3,a4,a5,a6] t (0,0)):=set1Q h5 a6
 exact h6
theorem zAd {B:Nat} {w W:World} (h:Below B w W) {b:Nat} (hb:B≤b) (a0 a1 a2 a3 a4 a5 a6:Value):Below B w (((((((W.setCell ⟨b,0,none⟩ a0).setCell ⟨b,1,none⟩ a1).setCell ⟨b,2,none⟩ a2).setCell ⟨b,3,none⟩ a3).setCell ⟨b,4,none⟩ a4).setCell ⟨b,5,none⟩ a5).setCell ⟨b,6,none⟩ a6):=((((((h.setCell hb _).setCell hb _).setCell hb _).setCell hb _).setCell hb _).setCell hb _).setCell hb _
theorem row7 {W:World} {b:Nat} {x0 x1 x2 x3 x4 x5 x6:Value} {t:TypeId} (h:W.heap[b]?=some (.cells #[x0,x1,x2,x3,x4,x5,x6] t (0,0))) :
  (W.cell? ⟨b,0,none⟩=some x0∧W.cell? ⟨b,1,none⟩=some x1∧W.cell? ⟨b,2,none⟩=some x2∧W.cell? ⟨b,3,none⟩=some x3∧W.cell? ⟨b,4,none⟩=some x4∧W.cell? ⟨b,5,none⟩=some x5∧W.cell? ⟨b,6,none⟩=some x6) ∧
  (W.frozen? ⟨b,0,none⟩=false∧W.frozen? ⟨b,1,none⟩=false∧W.frozen? ⟨b,2,none⟩=false∧W.frozen? ⟨b,3,none⟩=false∧W.frozen? ⟨b,4,none⟩=false∧W.frozen? ⟨b,5,none⟩=false∧W.frozen? ⟨b,6,none⟩=false):=by
 refine ⟨⟨cO _ _ 0 _ _ _ h,cO _ _ 1 _ _ _ h,cO _ _ 2 _ _ _ h,cO _ _ 3 _ _ _ h,cO _ _ 4 _ _ _ h,cO _ _ 5 _ _ _ h,cO _ _ 6 _ _ _ h⟩,?_,?_,?_,?_,?_,?_,?_⟩<;>simp[World.frozen?,h]
theorem zKA (w:World) (S:Nat→Prop):PackV w S zAC (.agg #[.string ⟨#[]⟩,.int .i64 0,.int .i64 0,.int .i64 0,.slice none 0 0,.slice none 0 0,.slice none 0 0]):=⟨none,0,0,none,0,0,none,0,0,rfl,by decide,SlV.nil_ _ _ _,SlV.nil_ _ _ _,SlV.nil_ _ _ _⟩
theorem zEk (cB:Nat) (A:Option Addr) (n c:Nat) (L:List Pack) (s:ByteArray) (v:Ver) (w:World) (S:Nat→Prop) (hc:w.cell? ⟨cB,0,none⟩=some (.slice A n c)) (hl:SlV rPack w S L (.slice A n c)) :
  Calls Tryz.prog 35 #[.pointer (some ⟨cB,0,none⟩),.string s,.agg #[.int .i64 v.major,.int .i64 v.minor,.int .i64 v.patch]] w fun e w'=>∃ u,e=.returned (.tuple #[u,.bool (getC L s v).isSome])∧PackV w' S ((getC L s v).getD zAC) u∧Below w.heap.size w w':=by
 have hn:=hl.n_eq
 have hcap:=hl.cap_le
 unfold maxLen at hcap
 have hcB:cB<w.heap.size:=zAc hc
 have HL:=cH hl
 have Hz0:Hid (L.length=n):=hn.symm
 have HR:Hid (getC L s v=getC (L.drop 0) s v):=rfl
 have hnz:n≤9223372036854775807:=by omega
 obtain ⟨R,hR⟩:∃ R,R=getC L s v:=⟨_,rfl⟩
 rw[←hR] at HR ⊢
 have HStep:Hid (∀ (k:Nat) (x:Pack),L[k]?=some x→getC (L.drop k) s v=if (decide (x.name=s)&&(decide (x.ver.major=v.major)&&(decide (x.ver.minor=v.minor)&&decide (x.ver.patch=v.patch))))=true then some x else getC (L.drop (k+1)) s v):=fun k x hx=>by rw[zKG hx,zNI]
 have HEnd:Hid (∀ k,n≤k→getC (L.drop k) s v=none):=fun k hk=>zKp (by rw[←hn];exact hk)
 obtain ⟨v1,v2,v3⟩:=v
 simp only at HStep ⊢
 clear hl hn hR hcap
 obtain ⟨w0,hw0⟩:∃ w0,w0=(w.alloc (.cells #[.int .i64 v1,.int .i64 v2,.int .i64 v3] 50)).alloc (.cells #[.string ⟨#[]⟩,.int .i64 0,.int .i64 0,.int .i64 0,.slice none 0 0,.slice none 0 0,.slice none 0 0] 52):=⟨_,rfl⟩
 have hw1:(w.alloc (.cells #[.int .i64 v1,.int .i64 v2,.int .i64 v3] 50)).heap.size=w.heap.size+1:=by simp
 have HB0:Hid (Below w.heap.size w w0):=by unfold Hid;rw[hw0];exact bal (bal (bR _ _) _) _
 have hqX:w0.heap[w.heap.size]?=some (.cells #[.int .i64 v1,.int .i64 v2,.int .i64 v3] 50 (0,0)):=by
  rw[hw0]
  exact ((bal (bR _ _) _).block _ (by rw[hw1];omega)).trans (zAD _ _)
 have hqY:w0.heap[w.heap.size+1]?=some (.cells #[.string ⟨#[]⟩,.int .i64 0,.int .i64 0,.int .i64 0,.slice none 0 0,.slice none 0 0,.slice none 0 0] 52 (0,0)):=by
  rw[hw0,←hw1]
  exact zAD _ _
 obtain ⟨VB,hVB⟩:∃ k,k=w.heap.size:=⟨_,rfl⟩
 obtain ⟨PB,hPB⟩:∃ k,k=w.heap.size+1:=⟨_,rfl⟩
 rw[←hVB] at hqX
 rw[←hPB] at hqY
 have Hg:Hid (w.heap.size≤PB):=by unfold Hid;omega
 have HV:Hid (∀ W,Below w0.heap.size w0 W→W.cell? ⟨VB,0,none⟩=some (.int .i64 v1)∧W.cell? ⟨VB,1,none⟩=some (.int .i64 v2)∧W.cell? ⟨VB,2,none⟩=some (.int .i64 v3)):=fun W hW=>by
  have h:=(hW.block _ (aS.1 hqX).1).trans hqX
  exact ⟨cO _ _ 0 _ _ _ h,cO _ _ 1 _ _ _ h,cO _ _ 2 _ _ _ h⟩
 have HP:Hid (∀ W,Below w0.heap.size w0 W→W.heap[PB]?=some (.cells #[.string ⟨#[]⟩,.int .i64 0,.int .i64 0,.int .i64 0,.slice none 0 0,.slice none 0 0,.slice none 0 0] 52 (0,0))):=fun W hW=>(hW.block _ (aS.1 hqY).1).trans hqY
 have HC:Hid (∀ W,Below w.heap.size w W→W.cell? ⟨cB,0,none⟩=some (.slice A n c)):=fun W hW=>zAA hW hc hcB
 clear hqX hqY hw1 hc
 go_enter Tryz.func35,Tryz.ntmps35
 go_wp2_with fail
 rw[←hw0,←hPB,←hVB]
 clear hw0 hPB hVB
 go_loopw [8] (fun t wr=>∃ k:Nat,k≤n∧t=.int .i64 k∧Hid (R=getC (L.drop k) s ⟨v1,v2,v3⟩)∧Hid (Below w0.heap.size w0 wr)) (fun t _=>n - (intOf t).toNat)
 case atStart=>exact ⟨0,nZ _,rfl,HR,bR _ _⟩
 case round=>
  clear HR
  obtain ⟨k,hk,rfl,heq,hB⟩:=hrel
  have hk0:(0:Int)≤(k:Int):=by omega
  have HBw:=cH (bot HB0.out hB.out)
  have z0:=HC.out wr HBw.out
  by_cases hlt:k<n
  case neg=>
   have He:Hid (R=none):=by unfold Hid;rw[heq.out,HEnd.out k (by omega)]
   have hI:¬(k:Int)<(n:Int):=by omega
   have hrow:=HP.out wr hB.out
   obtain ⟨⟨d0,d1,d2,d3,d4,d5,d6⟩,e0,e1,e2,e3,e4,e5,e6⟩:=row7 hrow
   have Hrow:=cH hrow
   clear heq hrow
   go_wp2_with fail
   refine zGk rfl rfl rfl rfl (set7Q Hrow.out _ _ _ _ _ _ _) Tryz.underlying52 rfl (by kernel_rfl) ⟨.agg #[.string ⟨#[]⟩,.int .i64 0,.int .i64 0,.int .i64 0,.slice none 0 0,.slice none 0 0,.slice none 0 0],?_,?_,zAd HBw.out Hg.out _ _ _ _ _ _ _⟩
   ·rw[He.out];rfl
   ·rw[He.out];exact zKA _ _
  have hkI:(k:Int)<(n:Int):=by omega
  obtain ⟨x,hx⟩:∃ x,L[k]?=some x:=⟨_,gE (by have:=Hz0.out;omega)⟩
  obtain ⟨b,o,A1,B1,C1,a1,b1,c1,hA,hb,_,hpv,_,n0,n1,n2,n3,n4,n5,n6⟩:=zFD HL.out hx
  have Hpv:=cH hpv
  have Hrest:Hid (∀ W,Below w.heap.size w W→W.cell? ⟨b,o+k * 7,none⟩=some (.string x.name)∧W.cell? ⟨b,o+k * 7+1,none⟩=some (.int .i64 x.ver.major)∧W.cell? ⟨b,o+k * 7+2,none⟩=some (.int .i64 x.ver.minor)∧W.cell? ⟨b,o+k * 7+3,none⟩=some (.int .i64 x.ver.patch)∧W.cell? ⟨b,o+k * 7+4,none⟩=some (.slice A1 x.deps.length a1)∧W.cell? ⟨b,o+k * 7+5,none⟩=some (.slice B1 x.peers.length b1)∧W.cell? ⟨b,o+k * 7+6,none⟩=some (.slice C1 x.opts.length c1)):=fun W hW=>⟨zAA hW n0 hb,zAA hW n1 hb,zAA hW n2 hb,zAA hW n3 hb,zAA hW n4 hb,zAA hW n5 hb,zAA hW n6 hb⟩
  have n0:=zAA HBw.out n0 hb
  have n1:=zAA HBw.out n1 hb
  have n2:=zAA HBw.out n2 hb
  have n3:=zAA HBw.out n3 hb
  have Hstep:=cH (heq.out.trans (HStep.out k x hx))
  obtain ⟨d0,d1,d2⟩:=HV.out wr hB.out
  have Hx:=cH hx
  clear hpv n4 n5 n6 heq hx
  subst hA
  obtain ⟨xn,⟨x1,x2,x3⟩,xd,xp,xo⟩:=x
  simp only at n0 n1 n2 n3 Hstep Hrest Hpv
  generalize xd.length=l1 at *
  generalize xp.length=l2 at *
  generalize xo.length=l3 at *
  by_cases hnm:xn=s
  rotate_left
  focus
   have hb0:=zAb hnm
   have He:Hid (R=getC (L.drop (k+1)) s ⟨v1,v2,v3⟩):=by unfold Hid;rw[Hstep.out,if_neg (by simp[hnm])]
   clear Hstep Hrest Hpv
   go_upto_region 4 with (fail)
   have r_z0:=cR z0
   have r_n0:=cR n0
   have r_n1:=cR n1
   have r_n2:=cR n2
   have r_n3:=cR n3
   have r_d0:=cR d0
   have r_d1:=cR d1
   have r_d2:=cR d2
   go_wp2_with fail
   refine wQ ?_
   repeat (go_big_quiet_step (first|fail))
   refine wpQuiet_nil fun w4 B4=>?_
   have HB4:=cH (bot hB.out B4)
   clear B4
   go_wp2_with fail
   go_roundw
   case rel=>exact ⟨k+1,by omega,by go_num,He,HB4⟩
   case measure=>simp[intOf];omega
  have hb0:=zAr hnm
  by_cases e1:x1=v1
  rotate_left
  focus
   have hb1:(x1==v1)=false:=beq_eq_false_iff_ne.2 e1
   have He:Hid (R=getC (L.drop (k+1)) s ⟨v1,v2,v3⟩):=by unfold Hid;rw[Hstep.out,if_neg (by simp[e1])]
   clear Hstep Hrest Hpv
   go_upto_region 4 with (fail)
   have r_z0:=cR z0
   have r_n0:=cR n0
   have r_n1:=cR n1
   have r_n2:=cR n2
   have r_n3:=cR n3
   have r_d0:=cR d0
   have r_d1:=cR d1
   have r_d2:=cR d2
   go_wp2_with fail
   refine wQ ?_
   repeat (go_big_quiet_step (first|fail))
   refine wpQuiet_nil fun w4 B4=>?_
   have HB4:=cH (bot hB.out B4)
   clear B4
   go_wp2_with fail
   go_roundw
   case rel=>exact ⟨k+1,by omega,by go_num,He,HB4⟩
   case measure=>simp[intOf];omega
  have hb1:(x1==v1)=true:=by simp[e1]
  by_cases e2:x2=v2
  rotate_left
  focus
   have hb2:(x2==v2)=false:=beq_eq_false_iff_ne.2 e2
   have He:Hid (R=getC (L.drop (k+1)) s ⟨v1,v2,v3⟩):=by unfold Hid;rw[Hstep.out,if_neg (by simp[e2])]
   clear Hstep Hrest Hpv
   go_upto_region 4 with (fail)
   have r_z0:=cR z0
   have r_n0:=cR n0
   have r_n1:=cR n1
   have r_n2:=cR n2
   have r_n3:=cR n3
   have r_d0:=cR d0
   have r_d1:=cR d1
   have r_d2:=cR d2
   go_wp2_with fail
   refine wQ ?_
   repeat (go_big_quiet_step (first|fail))
   refine wpQuiet_nil fun w4 B4=>?_
   have HB4:=cH (bot hB.out B4)
   clear B4
   go_wp2_with fail
   go_roundw
   case rel=>exact ⟨k+1,by omega,by go_num,He,HB4⟩
   case measure=>simp[intOf];omega
  have hb2:(x2==v2)=true:=by simp[e2]
  by_cases e3:x3=v3
  rotate_left
  focus
   have hb3:(x3==v3)=false:=beq_eq_false_iff_ne.2 e3
   have He:Hid (R=getC (L.drop (k+1)) s ⟨v1,v2,v3⟩):=by unfold Hid;rw[Hstep.out,if_neg (by simp[e3])]
   clear Hstep Hrest Hpv
   go_upto_region 4 with (fail)
   have r_z0:=cR z0
   have r_n0:=cR n0
   have r_n1:=cR n1
   have r_n2:=cR n2
   have r_n3:=cR n3
   have r_d0:=cR d0
   have r_d1:=cR d1
   have r_d2:=cR d2
   go_wp2_with fail
   refine wQ ?_
   repeat (go_big_quiet_step (first|fail))
   refine wpQuiet_nil fun w4 B4=>?_
   have HB4:=cH (bot hB.out B4)
   clear B4
   go_wp2_with fail
   go_roundw
   case rel=>exact ⟨k+1,by omega,by go_num,He,HB4⟩
   case measure=>simp[intOf];omega
  have hb3:(x3==v3)=true:=by simp[e3]
  have He:Hid (R=some ⟨xn,⟨x1,x2,x3⟩,xd,xp,xo⟩):=by unfold Hid;rw[Hstep.out,if_pos (by simp[hnm,e1,e2,e3])]
  clear Hstep hnm e1 e2 e3
  go_upto_region 4 with (fail)
  have r_z0:=cR z0
  have r_n0:=cR n0
  have r_n1:=cR n1
  have r_n2:=cR n2
  have r_n3:=cR n3
  have r_d0:=cR d0
  have r_d1:=cR d1
  have r_d2:=cR d2
  go_wp2_with fail
  refine wQ ?_
  repeat (go_big_quiet_step (first|fail))
  refine wpQuiet_nil fun w4 B4=>?_
  have HB4:=cH (bot hB.out B4)
  have HBw4:=cH (bot HBw.out B4)
  clear B4 r_z0 r_n0 r_n1 r_n2 r_n3 r_d0 r_d1 r_d2 z0 n0 n1 n2 n3 d0 d1 d2
  obtain ⟨n0,n1,n2,n3,n4,n5,n6⟩:=Hrest.out w4 HBw4.out
  have z0:=HC.out w4 HBw4.out
  have hrow:=HP.out w4 HB4.out
  obtain ⟨⟨d0,d1,d2,d3,d4,d5,d6⟩,e0,e1,e2,e3,e4,e5,e6⟩:=row7 hrow
  have Hrow:=cH hrow
  clear hrow Hrest
  go_wp2_with fail
  refine zGk rfl rfl rfl rfl (set7Q Hrow.out _ _ _ _ _ _ _) Tryz.underlying52 rfl (by kernel_rfl) ⟨.agg #[.string xn,.int .i64 x1,.int .i64 x2,.int .i64 x3,.slice A1 l1 a1,.slice B1 l2 b1,.slice C1 l3 c1],?_,?_,zAd HBw4.out Hg.out _ _ _ _ _ _ _⟩
  ·rw[He.out];rfl
  ·rw[He.out];exact Hpv.out.keep (zAd HBw4.out Hg.out _ _ _ _ _ _ _)
