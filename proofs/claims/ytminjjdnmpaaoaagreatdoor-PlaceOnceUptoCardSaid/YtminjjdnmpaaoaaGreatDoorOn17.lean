/- Placing a graph, in plain words: what is settled stays as it is; all edges are settled; each directory was put for a lookup. -/
import Derived.Test.YtminjjdnmpaaoaaGreatDoorOn10
import Derived.Test.YtminjjdnmpaaoaaGreatDoorOn16
import Derived.Test.YtminjjdnmpaaoaaGreatDoorOn01
import Derived.KernelRfl
import Derived.Test.YtminjjdnmpaaoaaGreatDoorOn02
import Derived.Lib.Hide
import Derived.Test.YtminjjdnmpaaoaaGreatDoorOn04
import Derived.Deep.LoopGhost
import Derived.WalkMore
import Derived.Deep.RegionHeld3
import Derived.Test.YtminjjdnmpaaoaaGreatDoorOn08
import Derived.Test.YtminjjdnmpaaoaaGreatDoorOn03
import Derived.Test.YtminjjdnmpaaoaaGreatDoorOn05
import Derived.Test.YtminjjdnmpaaoaaGreatDoorAl
set_option linter.all false
set_option maxHeartbeats 2000000
set_option maxRecDepth 100000
namespace Go.Proofs.YtminjjdnmpaaoaaGreatDoor
open Go
theorem zEF (p:Dir→Bool) (d:Dir):∀ (l:List Dir) (k:Nat),zAm p (l++[d]) k=if zAm p l k=-1 then (if p d=true then ((k+l.length:Nat):Int) else -1) else zAm p l k
 | [],k=>by
   rw[List.nil_append,zAm,zAm,zAm,if_pos rfl]
   cases p d<;>rfl
 | x::l,k=>by
   rw[List.cons_append,zAm,zAm]
   cases hx:p x with
   | true=>
     simp only[cond_true]
     rw[if_neg (by omega)]
   | false=>
     simp only[cond_false]
     rw[zEF p d l (k+1)]
     simp only[List.length_cons]
     rw[show k+1+l.length=k+(l.length+1) from by omega]
theorem zBg (T:List Dir) (d:Dir) (p:List ByteArray):findI (T++[d]) p=if 0≤findI T p then findI T p else if d.path=p then (T.length:Int) else -1:=by
 have h:=zEF (fun d=>eqB d.path p) d T 0
 have hr:=(zE9 T p).1
 unfold findI zCZ at hr ⊢
 rw[h]
 by_cases h1:zAm (fun d=>eqB d.path p) T 0=-1
 ·rw[if_pos h1,h1]
  by_cases h2:d.path=p
  ·rw[if_pos (zAf h2),if_neg (by decide),if_pos h2,Nat.zero_add]
  ·rw[if_neg (by rw[zAX h2];decide),if_neg (by decide),if_neg h2]
 ·rw[if_neg h1,if_pos (by omega)]
theorem lookI_spec {T:List Dir} {i:Nat} {d:Dir} (hi:T[i]?=some d) {s:ByteArray} (hs:nameB s=true):(lookI T (i:Int) s=-1∧∀ k,k≤d.path.length→findI T (d.path.take k++[s])<0) ∨
  ∃ k,k≤d.path.length∧lookI T (i:Int) s=findI T (d.path.take k++[s])∧0≤findI T (d.path.take k++[s])∧∀ j,k<j→j≤d.path.length→findI T (d.path.take j++[s])<0:=by
 obtain ⟨hl,e⟩:=gS.1 hi
 rw[zMV hl,hs,cond_true,e]
 rcases lookDown_spec T d.path s (d.path.length+1) with ⟨h1,h2⟩|⟨k,h1,h2,h3,h4⟩
 ·exact .inl ⟨h1,fun k hk=>h2 k (by omega)⟩
 ·exact .inr ⟨k,by omega,h2,h3,fun j hj1 hj2=>h4 j hj1 (by omega)⟩
theorem zEZ {T:List Dir} {i:Nat} {d:Dir} (hi:T[i]?=some d) {s:ByteArray} (hs:nameB s=true) {k:Nat} (hk:k≤d.path.length) (h0:0≤findI T (d.path.take k++[s])) (h1:∀ j,k<j→j≤d.path.length→findI T (d.path.take j++[s])<0) :
  lookI T (i:Int) s=findI T (d.path.take k++[s]):=by
 rcases lookI_spec hi hs with ⟨_,h⟩|⟨k',g1,g2,g3,g4⟩
 ·have:=h k hk;omega
 ·rcases Nat.lt_trichotomy k k' with h|h|h
  ·have:=h1 k' h g1;omega
  ·rw[h];exact g2
  ·have:=g4 k h hk;omega
theorem zDZ {q:PlIn} {at_:Nat} {done:List ByteArray} {st:PlSt} (h:PlInv q at_ done st) {d:Dir} (hd:st.1[at_]?=some d) (kind:Nat) {e:Edge} (hs:e.label∉done) :
  ∃ k,zBs st.1 st.2 d.path e.label k∧homeP q st at_ kind e=idxK st.1 d.path k:=by
 unfold homeP
 by_cases hk:kind=2
 ·rw[if_pos hk,zAy hd]
  rcases spotI_min st.1 st.2 q.old d.path e.label (zAz q e.to.toNat) (fun k hk=>by
   obtain ⟨i,e,_,h1,_⟩:=h.find hd hk
   unfold idxK;omega) with ⟨h1,_⟩|⟨k,h1,h2,_⟩
  ·have:=(zIe h hd q.old hs (zAz q e.to.toNat)).lo
   omega
  ·exact ⟨k,h1,h2⟩
 ·rw[if_neg hk]
  have hf:=zCA h.apart hd
  refine ⟨d.path.length,⟨nR _,fun k' h1 h2=>?_,?_⟩,?_⟩
  ·rw[List.take_of_length_le h1];exact h.fresh hd hs
  ·unfold idxK;rw[List.take_length,hf,Int.toNat_natCast];exact h.quiet hd hs
  ·unfold idxK;rw[List.take_length,hf]
structure zAa (q:PlIn) (at_:Nat) (done:List ByteArray) (st:PlSt):Prop where
 inv:PlInv q at_ done st
 look:∀ x∈st.2,nameB x.label=true∧lookI st.1 (x.frm:Int) x.label=(x.dst:Int)
 all:∀ (i:Nat) (d:Dir),st.1[i]?=some d→∀ e∈(zAZ q d.node.toNat).edges,(i<at_∨(i=at_∧e.label∈done))→∃ x∈st.2,x.frm=i∧x.label=e.label∧∃ f,st.1[x.dst]?=some f∧f.node=e.to
 born:∀ (j:Nat) (d:Dir),st.1[j]?=some d→j≠0→∃ (i:Nat) (d':Dir) (e:Edge),i<j∧st.1[i]?=some d'∧e∈(zAZ q d'.node.toNat).edges∧(⟨i,e.label,j⟩:Stl)∈st.2
 last:∀ (j:Nat) (d:Dir),st.1[j]?=some d→j≠0→∃ p,d.path=p++[d.pack.name]
 bnd:(st.1.length:Int) - 1≤max 0 q.dirs∧∀ (j:Nat) (d:Dir),st.1[j]?=some d→j≠0→((textB d.path).size:Int)≤q.path
theorem zAa.start (q:PlIn):zAa q 0 [] ([dirZ0],[]) where
 inv:=PlInv.start q
 look:=fun x hx=>by cases hx
 all:=fun i d hi e he h=>by
  rcases h with h|⟨_,h⟩
  ·omega
  ·cases h
 born:=fun j d hj h0=>by
  cases j with
  | zero=>exact absurd rfl h0
  | succ j=>cases hj
 last:=fun j d hj h0=>by
  cases j with
  | zero=>exact absurd rfl h0
  | succ j=>cases hj
 bnd:=⟨by show ((1:Nat):Int) - 1≤_;omega,fun j d hj h0=>by
  cases j with
  | zero=>exact absurd rfl h0
  | succ j=>cases hj⟩
theorem zKI {q:PlIn} {at_:Nat} {done:List ByteArray} {st:PlSt} (h:zAa q at_ done st) {d:Dir} (hd:st.1[at_]?=some d) {s:ByteArray} {k:Nat} (hv:zBs st.1 st.2 d.path s k) {nd:Dir} (hnd:nd.path=d.path.take k++[s]) :
  ∀ x∈st.2,lookI (st.1++[nd]) (x.frm:Int) x.label=(x.dst:Int):=by
 intro x hx
 obtain ⟨hnb,hl⟩:=h.look x hx
 obtain ⟨h1,h2,_⟩:=h.inv.stl x hx
 have hf:=zAQ h1
 have hf':(st.1++[nd])[x.frm]?=some (dirAt st.1 x.frm):=by rw[List.getElem?_append_left h1];exact hf
 rcases lookI_spec hf hnb with ⟨g1,_⟩|⟨m,g1,g2,g3,g4⟩
 ·omega
 have hm:findI (st.1++[nd]) ((dirAt st.1 x.frm).path.take m++[x.label])=(x.dst:Int):=by rw[zBg,if_pos g3,←g2,hl]
 rw[zEZ hf' hnb g1 (by rw[hm];omega) fun j hj1 hj2=>?_,hm]
 have hneg:=g4 j hj1 hj2
 rw[zBg,if_neg (by omega)]
 by_cases hp:nd.path=(dirAt st.1 x.frm).path.take j++[x.label]
 ·exfalso
  rw[hnd] at hp
  have hlen:=congrArg List.length hp
  have hsp:d.path.take k=(dirAt st.1 x.frm).path.take j∧[s]=[x.label]:=by
   refine List.append_inj hp ?_
   rw[List.length_append,List.length_append,List.length_singleton,List.length_singleton] at hlen
   omega
  have hs:x.label=s:=by have:=hsp.2;simp only[List.cons.injEq,and_true] at this;exact this.symm
  obtain ⟨ih,eh,_,hih,heh,hehp⟩:=h.inv.find hd hv.1
  have hq:=hv.2.2
  unfold idxK zBP at hq
  rw[hih,Int.toNat_natCast,List.any_eq_false] at hq
  apply hq x hx
  unfold zBM
  rw[zAy heh,hehp]
  simp only[Bool.and_eq_true,decide_eq_true_eq]
  refine ⟨hs,?_,?_⟩
  ·rw[zD3,hsp.1]
   exact List.take_prefix _ _
  ·have hdst:=zAQ h2
   have hpd:(dirAt st.1 x.dst).path=(dirAt st.1 x.frm).path.take m++[x.label]:=by
    obtain ⟨j',d',e1,e2,e3⟩:=zBO g3
    have:j'=x.dst:=by omega
    rw[this,hdst] at e2
    cases e2
    exact e3
   show (dirAt st.1 x.dst).path.length≤_
   rw[hpd,hsp.1,List.length_append,List.length_take,List.length_take,List.length_singleton]
   omega
 ·rw[if_neg hp];decide
theorem zMQ {q:PlIn} {at_:Nat} {done:List ByteArray} {st:PlSt} (h:zAa q at_ done st) {d:Dir} (hd:st.1[at_]?=some d) {s:ByteArray} (hs:nameB s=true) {k:Nat} (hv:zBs st.1 st.2 d.path s k) {nd:Dir} (hnd:nd.path=d.path.take k++[s]) :
  lookI (st.1++[nd]) (at_:Int) s=(st.1.length:Int):=by
 have hd':(st.1++[nd])[at_]?=some d:=by rw[List.getElem?_append_left (gS.1 hd).1];exact hd
 have hk:=hv.2.1 k (nR _) hv.1
 have hm:findI (st.1++[nd]) (d.path.take k++[s])=(st.1.length:Int):=by rw[zBg,if_neg (by omega),if_pos hnd]
 rw[zEZ hd' hs hv.1 (by rw[hm];omega) fun j hj1 hj2=>?_,hm]
 have hc:=hv.2.1 j (by omega) hj2
 rw[zBg,if_neg (by omega)]
 by_cases hp:nd.path=d.path.take j++[s]
 ·exfalso
  rw[hnd] at hp
  have:=congrArg List.length hp
  rw[List.length_append,List.length_append,List.length_take,List.length_take,List.length_singleton] at this
  omega
 ·rw[if_neg hp];decide
theorem zAd {q:PlIn} {j:Nat} {n:Node} (h:q.g[j]?=some n):zAZ q j=n:=by
 unfold zAZ;rw[List.getD_eq_getElem?_getD,h];rfl
theorem zAa.step {q:PlIn} {at_:Nat} {done:List ByteArray} {st st':PlSt} (h:zAa q at_ done st) (hm:mayPl q.g q.ps=true) (hq:q.path≤1024) (hqd:q.dirs≤256) {d:Dir} (hd:st.1[at_]?=some d)
  {n:Node} (hn:q.g[d.node.toNat]?=some n) {e:Edge} (he:e∈n.edges) (hs:e.label∉done) {kind:Nat} (hst:stepE q at_ kind e st=.ok st'):zAa q at_ (done++[e.label]) st':=by
 obtain ⟨hinv,_,_⟩:=zC2 h.inv hm hq hqd hd hn he hs hst
 have hdl:=(gS.1 hd).1
 obtain ⟨e1,e2,e3,e4,e5,e6⟩:=zB9 hm hn he
 have hnd:=zAd hn
 unfold stepE at hst
 by_cases hr:zAu q st at_ kind e=true
 ·rw[if_pos hr] at hst
  cases hst
  unfold zAu at hr
  simp only[Bool.and_eq_true,decide_eq_true_eq] at hr
  obtain ⟨r1,r2,_⟩:=hr
  have hlt:(lookI st.1 (at_:Int) e.label).toNat<st.1.length:=by
   have:=(zCo st.1 (at_:Int) e.label).2
   omega
  exact {
   inv:=hinv
   look:=fun x hx=>by
    rcases List.mem_append.1 hx with hx|hx
    ·exact h.look x hx
    ·rw[List.mem_singleton.1 hx]
     exact ⟨e6,by show lookI st.1 (at_:Int) e.label=((lookI st.1 (at_:Int) e.label).toNat:Int);omega⟩
   all:=fun i d' hi e' he' hc=>by
    by_cases hnew:i=at_∧e'.label=e.label
    ·obtain ⟨rfl,hl⟩:=hnew
     have hi':st.1[i]?=some d':=hi
     rw[hd] at hi'
     cases hi'
     rw[hnd] at he'
     have hee:=zBI (f:=fun e:Edge=>e.label) (zA5 hm hn) he' he hl
     subst hee
     exact ⟨_,List.mem_append.2 (.inr (List.mem_singleton.2 rfl)),rfl,rfl,_,zAQ hlt,r2⟩
    ·have hc':i<at_∨(i=at_∧e'.label∈done):=by
      rcases hc with hc|⟨hc1,hc2⟩
      ·exact .inl hc
      ·rcases List.mem_append.1 hc2 with hc2|hc2
       ·exact .inr ⟨hc1,hc2⟩
       ·exact absurd ⟨hc1,List.mem_singleton.1 hc2⟩ hnew
     obtain ⟨x,hx,g1,g2,f,g3,g4⟩:=h.all i d' hi e' he' hc'
     exact ⟨x,List.mem_append.2 (.inl hx),g1,g2,f,g3,g4⟩
   born:=fun j d' hj h0=>by
    obtain ⟨i,f,e',g1,g2,g3,g4⟩:=h.born j d' hj h0
    exact ⟨i,f,e',g1,g2,g3,List.mem_append.2 (.inl g4)⟩
   last:=h.last
   bnd:=h.bnd}
 rw[if_neg hr] at hst
 by_cases hk1:kind=1
 ·rw[if_pos hk1] at hst;cases hst
 rw[if_neg hk1] at hst
 obtain ⟨k,hv,hk⟩:=zDZ h.inv hd kind hs
 obtain ⟨i,f,_,hif,hi,hfp⟩:=h.inv.find hd hv.1
 have hhi:homeP q st at_ kind e=(i:Int):=by rw[hk];exact hif
 rw[hhi,Int.toNat_natCast] at hst
 have hno:findI st.1 (f.path++[e.label])<0:=by rw[hfp];exact hv.2.1 k (nR _) hv.1
 cases hp:putP q st.1 i e.to.toNat with
 | error c=>rw[hp] at hst;cases hst
 | ok T=>
   rw[hp] at hst
   cases hst
   obtain ⟨hT,_⟩:=zLH h.inv hd hs e6 (node:=e.to.toNat) (by omega) (by omega) e4 hq hqd hi (by rw[hfp];exact List.take_prefix _ _) hno hp
   obtain ⟨nd,hndd⟩:∃ nd:Dir,nd=⟨f.path++[e.label],zAz q e.to.toNat,((e.to.toNat:Nat):Int)⟩:=⟨_,rfl⟩
   rw[←hndd] at hT
   have hndp:nd.path=d.path.take k++[e.label]:=by rw[hndd,hfp]
   have hndn:nd.node=e.to:=by rw[hndd];show ((e.to.toNat:Nat):Int)=_;omega
   subst hT
   have hat:∀ (j:Nat) (d':Dir),(st.1++[nd])[j]?=some d'→st.1[j]?=some d'∨(j=st.1.length∧d'=nd):=fun j d' hj=>by
    rcases Nat.lt_trichotomy j st.1.length with hlt|heq|hgt
    ·rw[List.getElem?_append_left hlt] at hj;exact .inl hj
    ·rw[heq,List.getElem?_append_right (nR _),Nat.sub_self] at hj
     cases hj
     exact .inr ⟨heq,rfl⟩
    ·rw[List.getElem?_eq_none (by rw[List.length_append,List.length_singleton];omega)] at hj
     cases hj
   have hold:∀ (j:Nat) (d':Dir),st.1[j]?=some d'→(st.1++[nd])[j]?=some d':=fun j d' hj=>by
    rw[List.getElem?_append_left (gS.1 hj).1];exact hj
   have hlast:(st.1++[nd])[st.1.length]?=some nd:=by rw[List.getElem?_append_right (nR _),Nat.sub_self];rfl
   have hput:=hp
   unfold putP at hput
   rw[zAy hi,e4] at hput
   by_cases c1:q.path<((textB (f.path++[e.label])).size:Int)
   ·rw[if_pos c1] at hput;cases hput
   rw[if_neg c1] at hput
   by_cases c2:q.dirs≤(st.1.length:Int) - 1
   ·rw[if_pos c2] at hput;cases hput
   exact {
    inv:=hinv
    look:=fun x hx=>by
     rcases List.mem_append.1 hx with hx|hx
     ·exact ⟨(h.look x hx).1,zKI h hd hv hndp x hx⟩
     ·rw[List.mem_singleton.1 hx]
      exact ⟨e6,zMQ h hd e6 hv hndp⟩
    all:=fun i' d' hi' e' he' hc=>by
     have hilt:i'<st.1.length:=by rcases hc with hc|hc<;>omega
     have hi2:st.1[i']?=some d':=by
      rcases hat i' d' hi' with g|⟨g,_⟩
      ·exact g
      ·omega
     by_cases hnew:i'=at_∧e'.label=e.label
     ·obtain ⟨rfl,hl⟩:=hnew
      rw[hd] at hi2
      cases hi2
      rw[hnd] at he'
      have hee:=zBI (f:=fun e:Edge=>e.label) (zA5 hm hn) he' he hl
      subst hee
      exact ⟨_,List.mem_append.2 (.inr (List.mem_singleton.2 rfl)),rfl,rfl,_,hlast,hndn⟩
     ·have hc':i'<at_∨(i'=at_∧e'.label∈done):=by
       rcases hc with hc|⟨hc1,hc2⟩
       ·exact .inl hc
       ·rcases List.mem_append.1 hc2 with hc2|hc2
        ·exact .inr ⟨hc1,hc2⟩
        ·exact absurd ⟨hc1,List.mem_singleton.1 hc2⟩ hnew
      obtain ⟨x,hx,g1,g2,f',g3,g4⟩:=h.all i' d' hi2 e' he' hc'
      exact ⟨x,List.mem_append.2 (.inl hx),g1,g2,f',hold _ _ g3,g4⟩
    born:=fun j d' hj h0=>by
     rcases hat j d' hj with g|⟨g,_⟩
     ·obtain ⟨i2,f2,e',g1,g2,g3,g4⟩:=h.born j d' g h0
      exact ⟨i2,f2,e',g1,hold _ _ g2,g3,List.mem_append.2 (.inl g4)⟩
     ·exact ⟨at_,d,e,by omega,hold _ _ hd,by rw[hnd];exact he,List.mem_append.2 (.inr (List.mem_singleton.2 (by rw[g])))⟩
    last:=fun j d' hj h0=>by
     rcases hat j d' hj with g|⟨_,rfl⟩
     ·exact h.last j d' g h0
     ·refine ⟨d.path.take k,?_⟩
      rw[hndp,hndd]
      show _=_++[(zAz q e.to.toNat).name]
      rw[e4]
    bnd:=by
     refine ⟨by show ((st.1++[nd]).length:Int) - 1≤_;rw[List.length_append,List.length_singleton];omega,fun j d' hj h0=>?_⟩
     rcases hat j d' hj with g|⟨_,rfl⟩
     ·exact h.bnd.2 j d' g h0
     ·rw[hndp,←hfp];omega}
theorem zAa.next {q:PlIn} {at_:Nat} {done:List ByteArray} {st:PlSt} (h:zAa q at_ done st) {d:Dir} (hd:st.1[at_]?=some d) (hall:∀ e∈(zAZ q d.node.toNat).edges,e.label∈done):zAa q (at_+1) [] st:=
 { h with
   inv:=h.inv.next
   all:=fun i d' hi e he hc=>by
    rcases hc with hc|⟨_,hc⟩
    ·by_cases hia:i=at_
     ·subst hia
      rw[hd] at hi
      cases hi
      exact h.all i d hd e he (.inr ⟨rfl,hall e he⟩)
     ·exact h.all i d' hi e he (.inl (by omega))
    ·cases hc}
theorem zDi {q:PlIn} (hm:mayPl q.g q.ps=true) (hq:q.path≤1024) (hqd:q.dirs≤256) {at_:Nat} {d:Dir} {n:Node} (hn:q.g[d.node.toNat]?=some n) {kind:Nat}:∀ (m k:Nat) (done:List ByteArray) (st st':PlSt),n.edges.length=k+m→st.1[at_]?=some d→zBe q n kind k done→zAa q at_ done st→zAh q at_ n kind (n.edges.drop k) st=.ok st' →
  ∃ done',zBe q n kind n.edges.length done'∧(∀ s∈done,s∈done')∧(∀ (j:Nat) (e:Edge),k≤j→n.edges[j]?=some e→kindP q n e=kind→e.label∈done')∧zAa q at_ done' st'∧st'.1[at_]?=some d:=by
 intro m
 induction m with
 | zero=>
   intro k done st st' hl hd hdn h hst
   rw[dN (by omega),zAh] at hst
   cases hst
   exact ⟨done,by rw[hl];exact hdn,fun s hs=>hs,fun j e hj he _=>by
    have:=(gS.1 he).1
    omega,h,hd⟩
 | succ m ih=>
   intro k done st st' hl hd hdn h hst
   obtain ⟨e,he⟩:∃ e,n.edges[k]?=some e:=⟨_,gE (by omega)⟩
   rw[zBq q at_ n kind he] at hst
   by_cases hk:kindP q n e=kind
   ·rw[if_pos hk] at hst
    cases hs:stepE q at_ kind e st with
    | error c=>rw[hs] at hst;cases hst
    | ok st1=>
      rw[hs] at hst
      have hno:=hdn.not (zA5 hm hn) he hk
      have hmem:=mG he
      have h1:=h.step hm hq hqd hd hn hmem hno hs
      obtain ⟨_,⟨l,hl1⟩,_⟩:=zC2 h.inv hm hq hqd hd hn hmem hno hs
      have hd1:st1.1[at_]?=some d:=by rw[hl1,List.getElem?_append_left (gS.1 hd).1];exact hd
      obtain ⟨done',g1,g2,g3,g4,g5⟩:=ih (k+1) _ st1 st' (by omega) hd1 (hdn.step he hk) h1 hst
      refine ⟨done',g1,fun s hs'=>g2 s (List.mem_append.2 (.inl hs')),fun j e' hj he' hk'=>?_,g4,g5⟩
      by_cases hjk:j=k
      ·subst hjk
       rw[he] at he'
       cases he'
       exact g2 _ (by simp)
      ·exact g3 j e' (by omega) he' hk'
   ·rw[if_neg hk] at hst
    obtain ⟨done',g1,g2,g3,g4,g5⟩:=ih (k+1) done st st' (by omega) hd (hdn.more (by omega)) h hst
    refine ⟨done',g1,g2,fun j e' hj he' hk'=>?_,g4,g5⟩
    by_cases hjk:j=k
    ·subst hjk
     rw[he] at he'
     cases he'
     exact absurd hk' hk
    ·exact g3 j e' (by omega) he' hk'
theorem zEd {q:PlIn} (hm:mayPl q.g q.ps=true) (hq:q.path≤1024) (hqd:q.dirs≤256) {at_:Nat} {st st':PlSt} {d:Dir} (hd:st.1[at_]?=some d) (h:zAa q at_ [] st) (hst:dirP q at_ st=.ok st'):zAa q (at_+1) [] st':=by
 have hnode:∃ n,q.g[d.node.toNat]?=some n:=by
  have hg:=(zBT hm).1
  by_cases h0:at_=0
  ·subst h0
   have:=(h.inv.root d hd).2.1
   exact ⟨_,gE (by rw[this];show 0<_;omega)⟩
  ·have:=h.inv.node at_ d hd h0
   exact ⟨_,gE (by omega)⟩
 obtain ⟨n,hn⟩:=hnode
 unfold dirP at hst
 rw[zBw hd,zAd hn,zAs] at hst
 cases h1:zAh q at_ n 1 n.edges st with
 | error c=>rw[h1] at hst;cases hst
 | ok st1=>
   rw[h1] at hst
   simp only at hst
   obtain ⟨d1,a1,a2,a3,a4,a5⟩:=zDi hm hq hqd hn n.edges.length 0 [] st st1 (by omega) hd (fun s hs=>by cases hs) h (by rw[List.drop_zero];exact h1)
   rw[zAs] at hst
   cases h2:zAh q at_ n 2 n.edges st1 with
   | error c=>rw[h2] at hst;cases hst
   | ok st2=>
     rw[h2] at hst
     simp only at hst
     obtain ⟨d2,b1,b2,b3,b4,b5⟩:=zDi hm hq hqd hn n.edges.length 0 d1 st1 st2 (by omega) a5 a1.turn a4 (by rw[List.drop_zero];exact h2)
     rw[zAs] at hst
     cases h3:zAh q at_ n 3 n.edges st2 with
     | error c=>rw[h3] at hst;cases hst
     | ok st3=>
       rw[h3] at hst
       simp only at hst
       rw[zAs] at hst
       cases hst
       obtain ⟨d3,c1,c2,c3,c4,c5⟩:=zDi hm hq hqd hn n.edges.length 0 d2 st2 st' (by omega) b5 b1.turn b4 (by rw[List.drop_zero];exact h3)
       refine c4.next c5 fun e he=>?_
       rw[zAd hn] at he
       obtain ⟨j,hj,rfl⟩:=List.getElem_of_mem he
       have hje:=gE hj
       have hkr:=zAq q n n.edges[j]
       have hk:kindP q n n.edges[j]=1∨kindP q n n.edges[j]=2∨kindP q n n.edges[j]=3:=by omega
       rcases hk with hk|hk|hk
       ·exact c2 _ (b2 _ (a3 j _ (nZ _) hje hk))
       ·exact c2 _ (b3 j _ (nZ _) hje hk)
       ·exact c3 j _ (nZ _) hje hk
theorem zJE {q:PlIn} (hm:mayPl q.g q.ps=true) (hq:q.path≤1024) (hqd:q.dirs≤256):∀ (f at_:Nat) (st st':PlSt),f+at_=258→zAa q at_ [] st→dirsP q f at_ st=.ok st'→∃ a,st'.1.length≤a∧zAa q a [] st':=by
 intro f
 induction f with
 | zero=>
   intro at_ st st' hf h hst
   rw[dirsP] at hst
   cases hst
   exact ⟨at_,by have:=h.inv.len;omega,h⟩
 | succ f ih=>
   intro at_ st st' hf h hst
   rw[dirsP] at hst
   by_cases hlt:at_<st.1.length
   ·rw[if_pos hlt] at hst
    cases hd:dirP q at_ st with
    | error c=>rw[hd] at hst;cases hst
    | ok st1=>
      rw[hd] at hst
      exact ih (at_+1) st1 st' (by omega) (zEd hm hq hqd (zAQ hlt) h hd) hst
   ·rw[if_neg hlt] at hst
    cases hst
    exact ⟨at_,by omega,h⟩
theorem zDh {q:PlIn} {st:PlSt} (h:zA8 q=.ok st):mayPl q.g q.ps=true∧1≤q.dirs∧q.dirs≤256∧1≤q.path∧q.path≤1024∧∃ a,st.1.length≤a∧zAa q a [] st:=by
 unfold zA8 at h
 by_cases h1:q.dirs<1∨256<q.dirs∨q.path<1∨1024<q.path
 ·rw[if_pos h1] at h;cases h
 rw[if_neg h1] at h
 by_cases h2:zCy q.old=true
 ·rw[if_pos h2] at h;cases h
 rw[if_neg h2] at h
 by_cases h3:mayPl q.g q.ps=false
 ·rw[if_pos h3] at h;cases h
 rw[if_neg h3] at h
 rw[Bool.not_eq_false] at h3
 exact ⟨h3,by omega,by omega,by omega,by omega,zJE h3 (by omega) (by omega) 258 0 _ st rfl (zAa.start q) h⟩
theorem zEq {T:List Dir} {p:List ByteArray}:0≤findI T p↔∃ d∈T,d.path=p:=by
 constructor
 ·intro h
  obtain ⟨j,d,_,h1,h2⟩:=zBO h
  exact ⟨d,mG h1,h2⟩
 ·rintro ⟨d,hd,rfl⟩
  rcases Int.lt_or_le (findI T d.path) 0 with hl|hl
  ·exact absurd rfl (zD4 hl hd)
  ·exact hl
theorem zMG {T:List Dir} (hn:(T.map (·.path)).Nodup) {d e:Dir} (hd:d∈T) (he:e∈T) (h:d.path=e.path):d=e:=zBI (f:=fun d:Dir=>d.path) hn hd he h
theorem zIQ {q:PlIn} {a:Nat} {done:List ByteArray} {st:PlSt} (h:PlInv q a done st):((sortD st.1).map (·.path)).Nodup:=((zCa st.1).map (·.path)).nodup_iff.2 h.apart
theorem zF4 {q:PlIn} {at_ kind:Nat} {e:Edge} {st st':PlSt} (h:stepE q at_ kind e st=.ok st'):st.1<+:st'.1∧(∃ x,st'.2=st.2++[x]):=by
 unfold stepE at h
 by_cases hr:zAu q st at_ kind e=true
 ·rw[if_pos hr] at h;cases h
  exact ⟨List.prefix_refl _,_,rfl⟩
 rw[if_neg hr] at h
 by_cases hk:kind=1
 ·rw[if_pos hk] at h;cases h
 rw[if_neg hk] at h
 cases hp:putP q st.1 (homeP q st at_ kind e).toNat e.to.toNat with
 | error c=>rw[hp] at h;cases h
 | ok T=>
   rw[hp] at h
   cases h
   refine ⟨?_,_,rfl⟩
   unfold putP at hp
   split at hp
   ·cases hp
   ·split at hp
    ·cases hp
    ·cases hp;exact List.prefix_append _ _
structure PlInd (q:PlIn) (P:Nat→Nat→List ByteArray→PlSt→Prop):Prop where
 step:∀ (at_:Nat) (done:List ByteArray) (st st':PlSt) (d:Dir) (n:Node) (e:Edge),zAa q at_ done st→P at_ (kindP q n e) done st→st.1[at_]?=some d→q.g[d.node.toNat]?=some n→e∈n.edges→e.label∉done →
  (∀ e'∈n.edges,kindP q n e'<kindP q n e→e'.label∈done)→(∀ s∈done,∃ e'∈n.edges,e'.label=s∧kindP q n e'≤kindP q n e)→stepE q at_ (kindP q n e) e st=.ok st'→P at_ (kindP q n e) (done++[e.label]) st'
 turn:∀ (at_ k:Nat) (done:List ByteArray) (st:PlSt),P at_ k done st→P at_ (k+1) done st
 next:∀ (at_:Nat) (done:List ByteArray) (st:PlSt) (d:Dir),zAa q at_ done st→P at_ 4 done st→st.1[at_]?=some d→(∀ e∈(zAZ q d.node.toNat).edges,e.label∈done)→P (at_+1) 1 [] st
theorem zCU {q:PlIn} {P:Nat→Nat→List ByteArray→PlSt→Prop} (hP:PlInd q P) (hm:mayPl q.g q.ps=true) (hq:q.path≤1024) (hqd:q.dirs≤256) {at_:Nat} {d:Dir} {n:Node} (hn:q.g[d.node.toNat]?=some n) {kind:Nat}:∀ (m k:Nat) (done:List ByteArray) (st st':PlSt),n.edges.length=k+m→st.1[at_]?=some d→zBe q n kind k done→(∀ e'∈n.edges,kindP q n e'<kind→e'.label∈done)→zAa q at_ done st→P at_ kind done st→zAh q at_ n kind (n.edges.drop k) st=.ok st' →
  ∃ done',zBe q n kind n.edges.length done'∧(∀ s∈done,s∈done')∧(∀ (j:Nat) (e:Edge),k≤j→n.edges[j]?=some e→kindP q n e=kind→e.label∈done')∧zAa q at_ done' st'∧P at_ kind done' st'∧st'.1[at_]?=some d:=by
 intro m
 induction m with
 | zero=>
   intro k done st st' hl hd hdn hlow h hp hst
   rw[dN (by omega),zAh] at hst
   cases hst
   exact ⟨done,by rw[hl];exact hdn,fun s hs=>hs,fun j e hj he _=>by
    have:=(gS.1 he).1
    omega,h,hp,hd⟩
 | succ m ih=>
   intro k done st st' hl hd hdn hlow h hp hst
   obtain ⟨e,he⟩:∃ e,n.edges[k]?=some e:=⟨_,gE (by omega)⟩
   rw[zBq q at_ n kind he] at hst
   by_cases hk:kindP q n e=kind
   ·rw[if_pos hk] at hst
    cases hs:stepE q at_ kind e st with
    | error c=>rw[hs] at hst;cases hst
    | ok st1=>
      rw[hs] at hst
      have hno:=hdn.not (zA5 hm hn) he hk
      have hmem:=mG he
      have h1:=h.step hm hq hqd hd hn hmem hno hs
      have hp1:P at_ kind (done++[e.label]) st1:=by
       have:=hP.step at_ done st st1 d n e h (by rw[hk];exact hp) hd hn hmem hno (by rw[hk];exact hlow) (fun s hs'=>by
        obtain ⟨j,e',g1,g2,g3⟩:=hdn s hs'
        exact ⟨e',mG g1,g2,by omega⟩) (by rw[hk];exact hs)
       rwa [hk] at this
      have hd1:st1.1[at_]?=some d:=by
       obtain ⟨l,hl1⟩:=(zF4 hs).1
       rw[←hl1,List.getElem?_append_left (gS.1 hd).1];exact hd
      obtain ⟨done',g1,g2,g3,g4,g5,g6⟩:=ih (k+1) _ st1 st' (by omega) hd1 (hdn.step he hk) (fun e' he' hlt=>List.mem_append.2 (.inl (hlow e' he' hlt))) h1 hp1 hst
      refine ⟨done',g1,fun s hs'=>g2 s (List.mem_append.2 (.inl hs')),fun j e' hj he' hk'=>?_,g4,g5,g6⟩
      by_cases hjk:j=k
      ·subst hjk
       rw[he] at he'
       cases he'
       exact g2 _ (by simp)
      ·exact g3 j e' (by omega) he' hk'
   ·rw[if_neg hk] at hst
    obtain ⟨done',g1,g2,g3,g4,g5,g6⟩:=ih (k+1) done st st' (by omega) hd (hdn.more (by omega)) hlow h hp hst
    refine ⟨done',g1,g2,fun j e' hj he' hk'=>?_,g4,g5,g6⟩
    by_cases hjk:j=k
    ·subst hjk
     rw[he] at he'
     cases he'
     exact absurd hk' hk
    ·exact g3 j e' (by omega) he' hk'
theorem zIm {q:PlIn} {P:Nat→Nat→List ByteArray→PlSt→Prop} (hP:PlInd q P) (hm:mayPl q.g q.ps=true) (hq:q.path≤1024) (hqd:q.dirs≤256) {at_:Nat} {st st':PlSt} {d:Dir} (hd:st.1[at_]?=some d) (h:zAa q at_ [] st) (hp:P at_ 1 [] st) (hst:dirP q at_ st=.ok st'):P (at_+1) 1 [] st':=by
 have hnode:∃ n,q.g[d.node.toNat]?=some n:=by
  have hg:=(zBT hm).1
  by_cases h0:at_=0
  ·subst h0
   have:=(h.inv.root d hd).2.1
   exact ⟨_,gE (by rw[this];show 0<_;omega)⟩
  ·have:=h.inv.node at_ d hd h0
   exact ⟨_,gE (by omega)⟩
 obtain ⟨n,hn⟩:=hnode
 have hidx:∀ e∈n.edges,∃ j:Nat,n.edges[j]?=some e:=fun e he=>by
  obtain ⟨j,hj,rfl⟩:=List.getElem_of_mem he
  exact ⟨j,gE hj⟩
 unfold dirP at hst
 rw[zBw hd,zAd hn,zAs] at hst
 cases h1:zAh q at_ n 1 n.edges st with
 | error c=>rw[h1] at hst;cases hst
 | ok st1=>
   rw[h1] at hst
   simp only at hst
   obtain ⟨d1,a1,a2,a3,a4,a5,a6⟩:=zCU hP hm hq hqd hn n.edges.length 0 [] st st1 (by omega) hd (fun s hs=>by cases hs) (fun e' _ hlt=>by have:=(zAq q n e').1;omega) h hp (by rw[List.drop_zero];exact h1)
   rw[zAs] at hst
   cases h2:zAh q at_ n 2 n.edges st1 with
   | error c=>rw[h2] at hst;cases hst
   | ok st2=>
     rw[h2] at hst
     simp only at hst
     obtain ⟨d2,b1,b2,b3,b4,b5,b6⟩:=zCU hP hm hq hqd hn n.edges.length 0 d1 st1 st2 (by omega) a6 a1.turn (fun e' he' hlt=>by
      obtain ⟨j,hj⟩:=hidx e' he'
      exact a3 j e' (nZ _) hj (by have:=(zAq q n e').1;omega)) a4 (hP.turn _ _ _ _ a5) (by rw[List.drop_zero];exact h2)
     rw[zAs] at hst
     cases h3:zAh q at_ n 3 n.edges st2 with
     | error c=>rw[h3] at hst;cases hst
     | ok st3=>
       rw[h3] at hst
       simp only at hst
       rw[zAs] at hst
       cases hst
       have hall2:∀ e'∈n.edges,kindP q n e'<3→e'.label∈d2:=fun e' he' hlt=>by
        obtain ⟨j,hj⟩:=hidx e' he'
        have hr:=(zAq q n e').1
        rcases Nat.lt_or_ge (kindP q n e') 2 with hl|hl
        ·exact b2 _ (a3 j e' (nZ _) hj (by omega))
        ·exact b3 j e' (nZ _) hj (by omega)
       obtain ⟨d3,c1,c2,c3,c4,c5,c6⟩:=zCU hP hm hq hqd hn n.edges.length 0 d2 st2 st' (by omega) b6 b1.turn hall2 b4 (hP.turn _ _ _ _ b5) (by rw[List.drop_zero];exact h3)
       refine hP.next at_ d3 st' d c4 (hP.turn _ _ _ _ c5) c6 fun e he=>?_
       rw[zAd hn] at he
       obtain ⟨j,hj⟩:=hidx e he
       have hkr:=zAq q n e
       rcases Nat.lt_or_ge (kindP q n e) 3 with hl|hl
       ·exact c2 _ (hall2 e he hl)
       ·exact c3 j _ (nZ _) hj (by omega)
theorem zKa {q:PlIn} {P:Nat→Nat→List ByteArray→PlSt→Prop} (hP:PlInd q P) (hm:mayPl q.g q.ps=true) (hq:q.path≤1024) (hqd:q.dirs≤256):∀ (f at_:Nat) (st st':PlSt),f+at_=258→zAa q at_ [] st→P at_ 1 [] st→dirsP q f at_ st=.ok st'→∃ a,st'.1.length≤a∧zAa q a [] st'∧P a 1 [] st':=by
 intro f
 induction f with
 | zero=>
   intro at_ st st' hf h hp hst
   rw[dirsP] at hst
   cases hst
   exact ⟨at_,by have:=h.inv.len;omega,h,hp⟩
 | succ f ih=>
   intro at_ st st' hf h hp hst
   rw[dirsP] at hst
   by_cases hlt:at_<st.1.length
   ·rw[if_pos hlt] at hst
    cases hd:dirP q at_ st with
    | error c=>rw[hd] at hst;cases hst
    | ok st1=>
      rw[hd] at hst
      exact ih (at_+1) st1 st' (by omega) (zEd hm hq hqd (zAQ hlt) h hd) (zIm hP hm hq hqd (zAQ hlt) h hp hd) hst
   ·rw[if_neg hlt] at hst
    cases hst
    exact ⟨at_,by omega,h,hp⟩
theorem zJF {q:PlIn} {P:Nat→Nat→List ByteArray→PlSt→Prop} (hP:PlInd q P) (h0:P 0 1 [] ([dirZ0],[])) {st:PlSt} (h:zA8 q=.ok st):∃ a,st.1.length≤a∧zAa q a [] st∧P a 1 [] st:=by
 obtain ⟨hm,_,hqd,_,hq,_⟩:=zDh h
 unfold zA8 at h
 split at h
 ·cases h
 split at h
 ·cases h
 split at h
 ·cases h
 exact zKa hP hm hq hqd 258 0 _ st rfl (zAa.start q) h0 h
theorem zMZ {q:PlIn} {a:Nat} {st:PlSt} (h:zAa q a [] st) (ha:st.1.length≤a) (hm:mayPl q.g q.ps=true) {i:Nat} {d:Dir} (hi:st.1[i]?=some d) {e:Edge} (he:e∈(zAZ q d.node.toNat).edges) :
  nameB e.label=true∧∃ (j:Nat) (f:Dir),lookI st.1 (i:Int) e.label=(j:Int)∧st.1[j]?=some f∧f.node=e.to:=by
 have hil:=(gS.1 hi).1
 obtain ⟨x,hx,h1,h2,f,h3,h4⟩:=h.all i d hi e he (.inl (by omega))
 obtain ⟨h5,h6⟩:=h.look x hx
 rw[h1,h2] at h6
 rw[h2] at h5
 exact ⟨h5,x.dst,f,h6,h3,h4⟩
structure MG (U:List Dir) (m:List Int):Prop where
 len:m.length=U.length
 val:∀ (i:Nat) (d:Dir),U[i]?=some d→m[i]?=some (-1)∨m[i]?=some d.node
structure TreeM (q:PlIn) (U:List Dir):Prop where
 node:∀ (i:Nat) (d:Dir),U[i]?=some d→0≤d.node
 edge:∀ (i:Nat) (d:Dir),U[i]?=some d→∀ e∈(zAZ q d.node.toNat).edges,1≤e.to∧∃ (j:Nat) (f:Dir),lookI U (i:Int) e.label=(j:Int)∧U[j]?=some f∧f.node=e.to
 pack:∀ (j:Nat) (f:Dir),U[j]?=some f→1≤f.node→zMa U q.g j f.node.toNat=true
def zIh (g:List Node):Prop:=∀ n,1≤n→n<g.length→∃ (k:Nat) (x:Node) (e:Edge),k<n∧g[k]?=some x∧e∈x.edges∧e.to=(n:Int)
theorem zIB {q:PlIn} {a:Nat} {st:PlSt} (h:zAa q a [] st) (ha:st.1.length≤a) (hm:mayPl q.g q.ps=true) (hr:zIh q.g):∀ n,n<q.g.length→∃ (i:Nat) (d:Dir),st.1[i]?=some d∧d.node=(n:Int):=by
 intro n
 induction n using Nat.strongRecOn with
 | _ n ih=>
   intro hn
   by_cases h0:n=0
   ·subst h0
    have hp:=h.inv.pos
    refine ⟨0,_,gE hp,?_⟩
    exact (h.inv.root _ (gE hp)).2.1
   ·obtain ⟨k,x,e,hk,hx,he,hto⟩:=hr n (by omega) hn
    obtain ⟨i,d,hi,hd⟩:=ih k hk (by omega)
    have hnd:zAZ q d.node.toNat=x:=by rw[hd,Int.toNat_natCast];exact zAd hx
    obtain ⟨_,j,f,_,hj,hf⟩:=zMZ h ha hm hi (by rw[hnd];exact he)
    exact ⟨j,f,hj,by rw[hf,hto]⟩
def OnlyG (g:List Node) (n:Nat):Prop:=∃ x,g[n]?=some x∧x.ctx=[]∧∀ (k:Nat) (y:Node),1≤k→g[k]?=some y→k≠n→y.name≠x.name
theorem zMD {q:PlIn} {a:Nat} {done:List ByteArray} {st:PlSt} (h:zAa q a done st) {x:Stl} (hx:x∈st.2):∃ p,zAi st.1 x.dst=p++[x.label]:=by
 obtain ⟨hnb,hl⟩:=h.look x hx
 obtain ⟨h1,h2,_⟩:=h.inv.stl x hx
 rcases lookI_spec (zAQ h1) hnb with ⟨g1,_⟩|⟨m,g1,g2,g3,g4⟩
 ·omega
 ·obtain ⟨j,d,e1,e2,e3⟩:=zBO g3
  have:j=x.dst:=by omega
  subst this
  exact ⟨_,by rw[zAy e2,e3]⟩
theorem zNJ {q:PlIn} {a:Nat} {done:List ByteArray} {st:PlSt} (h:zAa q a done st) (hm:mayPl q.g q.ps=true) {j:Nat} {d:Dir} (hj:st.1[j]?=some d) (h0:j≠0):∃ y,q.g[d.node.toNat]?=some y∧y.name=d.pack.name∧1≤d.node:=by
 obtain ⟨g1,g2,g3⟩:=h.inv.node j d hj h0
 have hlt:d.node.toNat<q.g.length:=by omega
 obtain ⟨_,_,_,hall⟩:=zBT hm
 obtain ⟨x,hx,hf⟩:=hall d.node.toNat _ (gE hlt)
 have hpk:zAz q d.node.toNat=x:=by unfold zAz;rw[List.getD_eq_getElem?_getD,hx];rfl
 unfold formP headP at hf
 rw[if_neg (by omega)] at hf
 unfold zDo at hf
 simp only[Bool.and_eq_true,decide_eq_true_eq] at hf
 exact ⟨_,gE hlt,by rw[g3,hpk,hf.1.2.1],g1⟩
theorem zGs {q:PlIn} {a:Nat} {done:List ByteArray} {st:PlSt} (h:zAa q a done st) (hm:mayPl q.g q.ps=true) {n:Nat} {x:Node} (hx:q.g[n]?=some x) (ho:∀ (k:Nat) (y:Node),1≤k→q.g[k]?=some y→k≠n→y.name≠x.name) {j:Nat} {d:Dir} (hj:st.1[j]?=some d) {p:List ByteArray} (hp:d.path=p++[x.name]):d.node=(n:Int):=by
 have h0:j≠0:=fun e=>by
  rw[e] at hj
  have:=(h.inv.root d hj).1
  rw[hp] at this
  exact absurd this (by simp)
 obtain ⟨p',hp'⟩:=h.last j d hj h0
 rw[hp] at hp'
 have hnm:x.name=d.pack.name:=by
  have:=List.append_inj_right' hp' (by simp)
  simpa using this
 obtain ⟨y,hy,hy2,hy3⟩:=zNJ h hm hj h0
 by_cases e:d.node.toNat=n
 ·omega
 ·exact absurd (hy2.trans hnm.symm) (ho _ y (by omega) hy e)
theorem zLr {q:PlIn} (hold:q.old=none) (hm:mayPl q.g q.ps=true) (hq:q.path≤1024) (hqd:q.dirs≤256) {n:Nat} {x:Node} (h1n:1≤n) (hx:q.g[n]?=some x) (hc:x.ctx=[]) (ho:∀ (k:Nat) (y:Node),1≤k→q.g[k]?=some y→k≠n→y.name≠x.name) :
  PlInd q fun _ _ _ st=>∀ d∈st.1,d.node=(n:Int)→d.path=[x.name] where
 turn:=fun _ _ _ _ h=>h
 next:=fun _ _ _ _ _ h _ _=>h
 step:=by
  intro at_ done st st' d nd e h hP hd hnd he hs _ _ hst
  obtain ⟨e1,e2,e3,e4,e5,e6⟩:=zB9 hm hnd he
  unfold stepE at hst
  by_cases hr:zAu q st at_ (kindP q nd e) e=true
  ·rw[if_pos hr] at hst;cases hst;exact hP
  rw[if_neg hr] at hst
  by_cases hk1:kindP q nd e=1
  ·rw[if_pos hk1] at hst;cases hst
  rw[if_neg hk1] at hst
  obtain ⟨k,hv,hk⟩:=zDZ h.inv hd (kindP q nd e) hs
  obtain ⟨i,f,_,hif,hi,hfp⟩:=h.inv.find hd hv.1
  have hhi:homeP q st at_ (kindP q nd e) e=(i:Int):=by rw[hk];exact hif
  rw[hhi,Int.toNat_natCast] at hst
  cases hp:putP q st.1 i e.to.toNat with
  | error c=>rw[hp] at hst;cases hst
  | ok T=>
    rw[hp] at hst
    cases hst
    unfold putP at hp
    rw[zAy hi,e4] at hp
    split at hp
    ·cases hp
    split at hp
    ·cases hp
    cases hp
    intro d' hd' hdn
    rcases List.mem_append.1 hd' with hm'|hm'
    ·exact hP d' hm' hdn
    rw[List.mem_singleton.1 hm'] at hdn ⊢
    have hto:e.to.toNat=n:=by
     have:((e.to.toNat:Nat):Int)=(n:Int):=hdn
     omega
    have hnx:zAZ q e.to.toNat=x:=by rw[hto];exact zAd hx
    have hlab:e.label=x.name:=by rw[←e3,hnx]
    have hk2:kindP q nd e=2:=by
     unfold kindP at hk1 ⊢
     split at hk1
     ·exact absurd rfl hk1
     ·rename_i hnc
      rw[if_neg hnc,hnx,hc]
      rfl
    have hnone:∀ p,findI st.1 (p++[e.label])<0:=fun p=>by
     rcases Int.lt_or_le (findI st.1 (p++[e.label])) 0 with hl|hl
     ·exact hl
     ·exfalso
      obtain ⟨j,g,_,hj,hgp⟩:=zBO hl
      rw[hlab] at hgp
      have hgn:=zGs h hm hx ho hj hgp
      have hgp2:=hP g (mG hj) hgn
      apply hr
      have h0:0≤findI st.1 (d.path.take 0++[e.label]):=by
       rw[List.take_zero,List.nil_append,zEq]
       exact ⟨g,mG hj,by rw[hgp2,hlab]⟩
      rcases lookI_spec hd e6 with ⟨_,g2⟩|⟨m,g1,g2,g3,g4⟩
      ·have:=g2 0 (nZ _);omega
      ·obtain ⟨j',f',q1,q2,q3⟩:=zBO g3
       rw[hlab] at q3
       have hfn:=zGs h hm hx ho q2 q3
       unfold zAu
       rw[hk2,g2,q1,Int.toNat_natCast,zBw q2,decide_eq_true (by omega),decide_eq_true (by rw[hfn];omega)]
       rfl
    have hturn:∀ home,zBP st.1 st.2 home e.label=false:=fun home=>by
     unfold zBP
     rw[List.any_eq_false]
     intro y hy ht
     unfold zBM at ht
     simp only[Bool.and_eq_true,decide_eq_true_eq] at ht
     obtain ⟨p,hp⟩:=zMD h hy
     have hds:=zAQ (h.inv.stl y hy).2.1
     have:0≤findI st.1 (p++[e.label]):=zEq.2 ⟨_,mG hds,by rw[←ht.1];exact hp⟩
     have:=hnone p
     omega
    have hv0:zBs st.1 st.2 d.path e.label 0:=⟨nZ _,fun k' _ _=>hnone _,hturn _⟩
    have hhome:homeP q st at_ (kindP q nd e) e=idxK st.1 d.path 0:=by
     unfold homeP
     rw[if_pos hk2,zAy hd,hold]
     rcases spotI_min st.1 st.2 none d.path e.label (zAz q e.to.toNat) (fun k hk=>by
      obtain ⟨i,e,_,h1,_⟩:=h.inv.find hd hk
      unfold idxK;omega) with ⟨_,g2⟩|⟨k',_,g2,g3⟩
     ·exact absurd hv0 (g2 0)
     ·have:=(g3 0 hv0).2 rfl
      rw[g2,show k'=0 from by omega]
    obtain ⟨i0,f0,_,hif0,hi0,hfp0⟩:=h.inv.find hd (nZ _)
    have hii:i=i0:=by
     rw[hhome] at hhi
     unfold idxK at hhi
     omega
    subst hii
    rw[hi0] at hi
    cases hi
    show f.path++[e.label]=[x.name]
    rw[hfp0,hlab,List.take_zero]
    rfl
theorem zLW {α:Type} {d:α}:∀ {l:List α},l.Nodup→(∀ y∈l,y=d)→l.length≤1
 | [],_,_=>by simp
 | [y],_,_=>by simp
 | y::z::l,hf,heq=>by
   have e1:=heq y (by simp)
   have e2:=heq z (by simp)
   rw[e1,e2,List.nodup_cons] at hf
   exact absurd (by simp) hf.1
def manyN (U:List Dir) (n:Int):Nat:=U.countP fun d=>decide (d.node=n)
theorem zJe {q:PlIn} {st:PlSt} (hfin:zA8 q=.ok st) (hold:q.old=none) (hr:zIh q.g) {n:Nat} (h1:1≤n) (hn:n<q.g.length) :
  1≤manyN (sortD st.1) n∧(OnlyG q.g n→manyN (sortD st.1) n=1∧0≤findI (sortD st.1) [(zAZ q n).name]):=by
 obtain ⟨hm,_,hqd,_,hq,a,ha,h⟩:=zDh hfin
 have hp:=zCa st.1
 obtain ⟨i,d,hi,hd⟩:=zIB h ha hm hr n hn
 have hdm:=hp.mem_iff.2 (mG hi)
 have h1le:1≤manyN (sortD st.1) n:=by
  unfold manyN
  exact List.countP_pos_iff.2 ⟨d,hdm,by rw[hd];simp⟩
 refine ⟨h1le,?_⟩
 rintro ⟨x,hx,hc,ho⟩
 obtain ⟨_,_,_,hP⟩:=zJF (zLr hold hm hq hqd h1 hx hc ho) (fun d hd hdn=>by
  rw[List.mem_singleton.1 hd] at hdn
  have:(0:Int)=(n:Int):=hdn
  omega) hfin
 have hdp:=hP d (mG hi) hd
 refine ⟨?_,?_⟩
 ·have hnd:(sortD st.1).Nodup:=by
   have:=zIQ h.inv
   rw[List.nodup_iff_pairwise_ne,List.pairwise_map] at this
   rw[List.nodup_iff_pairwise_ne]
   exact this.imp fun h e=>h (by rw[e])
  have hle:manyN (sortD st.1) n≤1:=by
   unfold manyN
   rw[List.countP_eq_length_filter]
   have hf:=hnd.filter (fun d=>decide (d.node=(n:Int)))
   have heq:∀ y∈(sortD st.1).filter (fun d=>decide (d.node=(n:Int))),y=d:=fun y hy=>by
    rw[List.mem_filter,decide_eq_true_eq] at hy
    have hy1:=hp.mem_iff.1 hy.1
    exact zMG h.inv.apart hy1 (mG hi) (by rw[hP y hy1 hy.2,hdp])
   exact zLW hf heq
  omega
 ·rw[zAd hx]
  exact zEq.2 ⟨d,hdm,hdp⟩
structure SimQ (q q1:PlIn) (R:PlSt→Prop) (c:Option Int):Prop where
 g:q1.g=q.g
 mono:∀ st st':PlSt,st.1<+:st'.1→R st'→R st
 step:∀ (at_:Nat) (done:List ByteArray) (st st':PlSt) (d:Dir) (n:Node) (e:Edge) (kind:Nat),zAa q at_ done st→R st→st.1[at_]?=some d→q.g[d.node.toNat]?=some n→e∈n.edges→e.label∉done→stepE q at_ kind e st=.ok st' →
  (R st'→stepE q1 at_ kind e st=.ok st')∧(∀ c0,c=some c0→¬R st'→stepE q1 at_ kind e st=.error c0)
theorem SimQ.node {q q1:PlIn} {R:PlSt→Prop} {c:Option Int} (h:SimQ q q1 R c) (i:Nat):zAZ q1 i=zAZ q i:=by unfold zAZ;rw[h.g]
theorem SimQ.kind {q q1:PlIn} {R:PlSt→Prop} {c:Option Int} (h:SimQ q q1 R c) (n:Node) (e:Edge):kindP q1 n e=kindP q n e:=by unfold kindP;rw[h.node]
end Go.Proofs.YtminjjdnmpaaoaaGreatDoor
namespace Go.Proofs.YtminjjdnmpaaoaaGreatDoor
open Go.ChangeShapes Go.WideShapes Go.ChangeAt Go.RowKit
structure Mani where
 deps:List Dep
 dev:List Dep
 opts:List Dep
 over:List Dep
def rMani:Rp Mani where
 size:=4
 holds:=fun w S x cs=>∃ s0 s1 s2 s3,cs=[s0,s1,s2,s3]∧SlV rDep w S x.deps s0∧SlV rDep w S x.dev s1∧SlV rDep w S x.opts s2∧SlV rDep w S x.over s3
 len:=fun ⟨s0,s1,s2,s3,h,c0,c1,c2,c3⟩=>by rw[h];rfl
 one:=fun ⟨s0,s1,s2,s3,h,c0,c1,c2,c3⟩=>by obtain ⟨_,_,rfl,_⟩:=c0.val;obtain ⟨_,_,rfl,_⟩:=c1.val;obtain ⟨_,_,rfl,_⟩:=c2.val;obtain ⟨_,_,rfl,_⟩:=c3.val;rw[h];simp[Value.oneCell']
 mono:=fun ⟨s0,s1,s2,s3,h,c0,c1,c2,c3⟩ hk=>⟨s0,s1,s2,s3,h,(zAj rDep).mono c0 hk,(zAj rDep).mono c1 hk,(zAj rDep).mono c2 hk,(zAj rDep).mono c3 hk⟩
def zF0 (x:Mani):Nat:=1+bkL bkDep x.deps+bkL bkDep x.dev+bkL bkDep x.opts+bkL bkDep x.over
theorem zHW:zCE Tryz.prog 28 rMani zF0:=by
 intro H enc w base fuel cs x h
 obtain ⟨xs,n,rfl,rfl,hlen,hxl,hf⟩:=DataW.trod_struct Tryz.underlying28 h
 rw[show Tryz.prog.cellsOf 28=4 from by kernel_rfl] at hlen
 match cs,hlen with
 | [c0,c1,c2,c3],_=>
   have k0:Tryz.prog.cellsOf 26=1:=by kernel_rfl
   have f0:=hf 0 _ rfl
   have f1:=hf 1 _ rfl
   have f2:=hf 2 _ rfl
   have f3:=hf 3 _ rfl
   match xs,hxl with
   | [x0,x1,x2,x3],_=>
     simp[k0] at f0 f1 f2 f3
     obtain ⟨y0,g0,b0⟩:=zAo (e:=68) Tryz.underlying26 (r:=rDep) (by kernel_rfl) (by decide) zBu H enc w base n [c0] x0 f0
     obtain ⟨y1,g1,b1⟩:=zAo (e:=68) Tryz.underlying26 (r:=rDep) (by kernel_rfl) (by decide) zBu H enc w base n [c1] x1 f1
     obtain ⟨y2,g2,b2⟩:=zAo (e:=68) Tryz.underlying26 (r:=rDep) (by kernel_rfl) (by decide) zBu H enc w base n [c2] x2 f2
     obtain ⟨y3,g3,b3⟩:=zAo (e:=68) Tryz.underlying26 (r:=rDep) (by kernel_rfl) (by decide) zBu H enc w base n [c3] x3 f3
     refine ⟨⟨y0,y1,y2,y3⟩,⟨_,_,_,_,rfl,g0,g1,g2,g3⟩,?_⟩
     simp only[zF0,Rows.uptoBulk,Rows.uptoBulkAll,List.map_cons,List.map_nil] at *
     omega
end Go.Proofs.YtminjjdnmpaaoaaGreatDoor
namespace Go.Proofs.YtminjjdnmpaaoaaGreatDoor
abbrev Rk:=Int×Int
def Has (l:List Rk) (n:Int):Prop:=∃ x∈l,x.1≤n∧n≤x.2
theorem zKG (n:Int):¬Has [] n:=fun ⟨x,h,_⟩=>by simp at h
theorem zML {x:Rk} {l:List Rk} {n:Int}:Has (x::l) n↔(x.1≤n∧n≤x.2)∨Has l n:=by
 unfold Has
 constructor
 ·rintro ⟨y,hy,h⟩
  rcases List.mem_cons.1 hy with rfl|hy
  ·exact .inl h
  ·exact .inr ⟨y,hy,h⟩
 ·rintro (h|⟨y,hy,h⟩)
  ·exact ⟨x,by simp,h⟩
  ·exact ⟨y,by simp[hy],h⟩
theorem zJB {l m:List Rk} {n:Int}:Has (l++m) n↔Has l n∨Has m n:=by
 unfold Has
 constructor
 ·rintro ⟨y,hy,h⟩
  rcases List.mem_append.1 hy with hy|hy
  ·exact .inl ⟨y,hy,h⟩
  ·exact .inr ⟨y,hy,h⟩
 ·rintro (⟨y,hy,h⟩|⟨y,hy,h⟩)
  ·exact ⟨y,by simp[hy],h⟩
  ·exact ⟨y,by simp[hy],h⟩
theorem zMv {x:Rk} {n:Int}:Has [x] n↔x.1≤n∧n≤x.2:=by rw[zML];simp[zKG]
def lastR:Int:=999999999
def zLR (q:Int→Bool):List Int→Prop
 | []=>False
 | [m]=>m=lastR+1
 | m::m'::L=>m<m'∧(∀ n,m≤n→n<m'→q n=q m)∧zLR q (m'::L)
theorem zLR.le {q:Int→Bool}:∀ {L:List Int} {m:Int},zLR q (m::L)→m≤lastR+1:=by
 intro L
 induction L with
 | nil=>intro m h;have:m=lastR+1:=h;omega
 | cons m' L ih=>intro m h;have:=ih h.2.2;have:=h.1;omega
open Classical in
noncomputable def hasB (l:List Rk) (n:Int):Bool:=decide (Has l n)
open Classical in
theorem zMF {l:List Rk} {n:Int} (h:Has l n):hasB l n=true:=by unfold hasB;exact decide_eq_true h
open Classical in
theorem zMp {l:List Rk} {n:Int} (h:¬Has l n):hasB l n=false:=by unfold hasB;exact decide_eq_false h
end Go.Proofs.YtminjjdnmpaaoaaGreatDoor
namespace Go.Proofs.YtminjjdnmpaaoaaGreatDoor
open Go.Rows Go.RowKit Go.Shelf Go.Sort
def Small (l:List Rk):Prop:=∀ x∈l,x.1.natAbs≤4000000000∧x.2.natAbs≤4000000000
theorem Small.i64 {l:List Rk} (h:Small l) {x:Rk} (hx:x∈l):I64 x.1∧I64 x.2:=by have:=h x hx;unfold I64;omega
def rks (l:List Spn):List Rk:=l.map fun s=>(s.lo.rank,s.hi.rank)
theorem zHq (l:List Spn):(rks l).length=l.length:=List.length_map _
theorem zNN {l:List Spn} {k:Nat} (h:k<l.length):(rks l)[k]'(by rw[zHq];exact h)=(l[k].lo.rank,l[k].hi.rank):=by unfold rks;rw[List.getElem_map]
theorem zLw {l:List Rk} {k:Nat} (h:k<l.length) {n:Int}:Has (l.take (k+1)) n↔Has (l.take k) n∨(l[k].1≤n∧n≤l[k].2):=by
 rw[List.take_succ_eq_append_getElem h,zJB,zMv]
theorem zMl (A:Option Addr) (n c:Nat) (l:List Spn) (N:Int) (w:World) (S:Nat→Prop) (hl:SlV rSpn w S l (.slice A n c)) :
  Calls Tryz.prog 165 #[.slice A n c,.int .i64 N] w fun e w'=>e=.returned (.bool (hasB (rks l) N))∧Below w.heap.size w w':=by
 have hnx:=hl.n_eq
 have hcx:=hl.cap_le
 unfold maxLen at hcx
 have hn63:n≤9223372036854775807:=by omega
 have HX:=cH (hl.more (S':=fun b=>b<w.heap.size) fun b _ hlt=>hlt)
 have Hnx:=cH hnx;clear hnx
 clear hl hcx
 go_enter Tryz.func165,Tryz.ntmps165
 go_wp2_with fail
 go_loopw [5] (fun i wr=>∃ (k:Nat),k≤n∧i=.int .i64 k∧Hid (¬Has ((rks l).take k) N)∧Below w.heap.size w wr) (fun i _=>n - (intOf i).toNat)
 case atStart=>exact ⟨0,nZ _,rfl,by unfold Hid;exact zKG N,bR _ _⟩
 case round=>
  obtain ⟨k,hk,rfl,Hno,hbel⟩:=hrel
  by_cases hlt:k<n
  case neg=>
   have hlt':¬(k:Int)<(n:Int):=by omega
   have hB:Hid (hasB (rks l) N=false):=by
    have:=Hno.out
    rw[List.take_of_length_le (by rw[zHq];have:=Hnx.out;omega)] at this
    exact zMp this
   go_wp2_with fail
   go_ret
   exact ⟨by rw[hB.out];rfl,hbel⟩
  have hkx:k<l.length:=by have:=Hnx.out;omega
  have hkI:(k:Int)<(n:Int):=by omega
  have hk0:(0:Int)≤(k:Int):=by omega
  obtain ⟨b,o,cs,rfl,hSb,_,⟨rfl,_,_,_,_,_,_⟩,hcell⟩:=HX.out.elem (gE hkx)
  have k0:=hcell 0 _ rfl
  have k1:=hcell 1 _ rfl
  have k2:=hcell 2 _ rfl
  have k3:=hcell 3 _ rfl
  have k4:=hcell 4 _ rfl
  have k5:=hcell 5 _ rfl
  simp only[rSpn,Nat.add_zero,Nat.mul_one] at k0 k1 k2 k3 k4 k5
  have Hst:=cH (zLw (l:=rks l) (n:=N) (by rw[zHq];exact hkx))
  rw[zNN hkx] at Hst
  have c0:=zAA hbel k0 hSb
  have c1:=zAA hbel k1 hSb
  have c2:=zAA hbel k2 hSb
  have HK3:=cH k3
  have HK4:=cH k4
  have HK5:=cH k5
  clear k0 k1 k2 k3 k4 k5 hcell
  have HhB:Hid (Has ((rks l).take (k+1)) N→hasB (rks l) N=true):=fun h=>zMF (by
   obtain ⟨x,hx,h⟩:=h
   exact ⟨x,List.mem_of_mem_take hx,h⟩)
  generalize l[k]=s at *
  obtain ⟨⟨x1,x2,x3⟩,⟨x4,x5,x6⟩⟩:=s
  simp only[Ver.rank] at c0 c1 c2 HK3 HK4 HK5 Hst
  have H1:=cH (fun W=>zBA x1 x2 x3 W)
  have H2:=cH (fun W=>zBA x4 x5 x6 W)
  generalize rankR x1 x2 x3=r1 at *
  generalize rankR x4 x5 x6=r2 at *
  go_wp2_with fail
  refine (H1.out _).mono ?_
  rintro e w1 ⟨rfl,hb1⟩
  have HB1:=cH (bot hbel hb1)
  clear hb1 c0 c1 c2 H1
  by_cases h1:r1≤N
  case neg=>
   have Hno2:Hid (¬Has ((rks l).take (k+1)) N):=fun h=>by
    rcases Hst.out.1 h with h|h
    ·exact Hno.out h
    ·exact h1 h.1
   go_wp2_with fail
   go_roundw
   case rel=>exact ⟨k+1,by omega,by go_num,Hno2,HB1.out⟩
   case measure=>simp[intOf];omega
  have c3:=zAA HB1.out HK3.out hSb
  have c4:=zAA HB1.out HK4.out hSb
  have c5:=zAA HB1.out HK5.out hSb
  go_wp2_with fail
  refine (H2.out _).mono ?_
  rintro e w2 ⟨rfl,hb2⟩
  have HB2:=cH (bot HB1.out hb2)
  clear hb2 c3 c4 c5 H2
  by_cases h2:N≤r2
  ·have Hyes:Hid (hasB (rks l) N=true):=HhB.out (Hst.out.2 (.inr ⟨h1,h2⟩))
   go_wp2_with fail
   go_ret
   exact ⟨by rw[Hyes.out];rfl,HB2.out⟩
  ·have Hno2:Hid (¬Has ((rks l).take (k+1)) N):=fun h=>by
    rcases Hst.out.1 h with h|h
    ·exact Hno.out h
    ·exact h2 h.2
   go_wp2_with fail
   go_roundw
   case rel=>exact ⟨k+1,by omega,by go_num,Hno2,HB2.out⟩
   case measure=>simp[intOf];omega
def NodeV (w:World) (S:Nat→Prop) (x:Node) (v:Value):Prop:=
 ∃ A n c B m d,v=.agg #[.string x.name,.int .i64 x.ver.major,.int .i64 x.ver.minor,.int .i64 x.ver.patch,.slice A n c,.slice B m d]∧x.name.size≤maxLen∧SlV rPin w S x.ctx (.slice A n c)∧SlV rEdge w S x.edges (.slice B m d)
theorem NodeV.keep {w w':World} {S:Nat→Prop} {x:Node} {v:Value} (h:NodeV w S x v) (hb:Below w.heap.size w w'):NodeV w' S x v:=by
 obtain ⟨A,n,c,B,m,d,e,h0,h1,h2⟩:=h
 exact ⟨A,n,c,B,m,d,e,h0,h1.belowSize hb,h2.belowSize hb⟩
theorem zCt (a b:ByteArray) (ha:a.size≤maxLen) (hb:b.size≤maxLen) (w:World) :
  Calls Tryz.prog 108 #[.string a,.string b] w fun e w'=>e=.returned (.bool (lessB a b))∧Below w.heap.size w w':=by
 have H:=cH (fun W=>zIw a b ha hb W)
 go_enter Tryz.func108,Tryz.ntmps108
 go_wp2_with fail
 refine (H.out _).mono ?_
 rintro e w1 ⟨rfl,hb1⟩
 go_wp2_with fail
 go_ret
 exact ⟨rfl,hb1⟩
