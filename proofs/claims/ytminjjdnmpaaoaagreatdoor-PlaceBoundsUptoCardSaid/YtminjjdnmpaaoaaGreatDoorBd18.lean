/- Placing a graph, in plain words: what is settled stays as it is; all edges are settled; each directory was put for a lookup. -/
import Derived.Test.YtminjjdnmpaaoaaGreatDoorBd11
import Derived.Test.YtminjjdnmpaaoaaGreatDoorBd17
import Derived.Test.YtminjjdnmpaaoaaGreatDoorBd01
import Derived.KernelRfl
import Derived.Test.YtminjjdnmpaaoaaGreatDoorBd03
import Derived.Lib.Hide
import Derived.Test.YtminjjdnmpaaoaaGreatDoorAl
set_option linter.all false
set_option maxRecDepth 100000
namespace Go.Proofs.YtminjjdnmpaaoaaGreatDoor
open Go
theorem zEV (p:Dir→Bool) (d:Dir):∀ (l:List Dir) (k:Nat),zAp p (l++[d]) k=if zAp p l k=-1 then (if p d=true then ((k+l.length:Nat):Int) else -1) else zAp p l k
 | [],k=>by
   rw[List.nil_append,zAp,zAp,zAp,if_pos rfl]
   cases p d<;>rfl
 | x::l,k=>by
   rw[List.cons_append,zAp,zAp]
   cases hx:p x with
   | true=>
     simp only[cond_true]
     rw[if_neg (by omega)]
   | false=>
     simp only[cond_false]
     rw[zEV p d l (k+1)]
     simp only[List.length_cons]
     rw[show k+1+l.length=k+(l.length+1) from by omega]
theorem zBi (T:List Dir) (d:Dir) (p:List ByteArray):findI (T++[d]) p=if 0≤findI T p then findI T p else if d.path=p then (T.length:Int) else -1:=by
 have h:=zEV (fun d=>eqB d.path p) d T 0
 have hr:=(zEx T p).1
 unfold findI zCf at hr ⊢
 rw[h]
 by_cases h1:zAp (fun d=>eqB d.path p) T 0=-1
 ·rw[if_pos h1,h1]
  by_cases h2:d.path=p
  ·rw[if_pos (zAj h2),if_neg (by decide),if_pos h2,Nat.zero_add]
  ·rw[if_neg (by rw[zAY h2];decide),if_neg (by decide),if_neg h2]
 ·rw[if_neg h1,if_pos (by omega)]
theorem lookI_spec {T:List Dir} {i:Nat} {d:Dir} (hi:T[i]?=some d) {s:ByteArray} (hs:nameB s=true):(lookI T (i:Int) s=-1∧∀ k,k≤d.path.length→findI T (d.path.take k++[s])<0) ∨
  ∃ k,k≤d.path.length∧lookI T (i:Int) s=findI T (d.path.take k++[s])∧0≤findI T (d.path.take k++[s])∧∀ j,k<j→j≤d.path.length→findI T (d.path.take j++[s])<0:=by
 obtain ⟨hl,e⟩:=gS.1 hi
 rw[zLs hl,hs,cond_true,e]
 rcases lookDown_spec T d.path s (d.path.length+1) with ⟨h1,h2⟩|⟨k,h1,h2,h3,h4⟩
 ·exact .inl ⟨h1,fun k hk=>h2 k (by omega)⟩
 ·exact .inr ⟨k,by omega,h2,h3,fun j hj1 hj2=>h4 j hj1 (by omega)⟩
theorem zEe {T:List Dir} {i:Nat} {d:Dir} (hi:T[i]?=some d) {s:ByteArray} (hs:nameB s=true) {k:Nat} (hk:k≤d.path.length) (h0:0≤findI T (d.path.take k++[s])) (h1:∀ j,k<j→j≤d.path.length→findI T (d.path.take j++[s])<0) :
  lookI T (i:Int) s=findI T (d.path.take k++[s]):=by
 rcases lookI_spec hi hs with ⟨_,h⟩|⟨k',g1,g2,g3,g4⟩
 ·have:=h k hk;omega
 ·rcases Nat.lt_trichotomy k k' with h|h|h
  ·have:=h1 k' h g1;omega
  ·rw[h];exact g2
  ·have:=g4 k h hk;omega
theorem zEv {q:PlIn} {at_:Nat} {done:List ByteArray} {st:PlSt} (h:PlInv q at_ done st) {d:Dir} (hd:st.1[at_]?=some d) (kind:Nat) {e:Edge} (hs:e.label∉done) :
  ∃ k,zB5 st.1 st.2 d.path e.label k∧homeP q st at_ kind e=idxK st.1 d.path k:=by
 unfold homeP
 by_cases hk:kind=2
 ·rw[if_pos hk,zBE hd]
  rcases spotI_min st.1 st.2 q.old d.path e.label (zAh q e.to.toNat) (fun k hk=>by
   obtain ⟨i,e,_,h1,_⟩:=h.find hd hk
   unfold idxK;omega) with ⟨h1,_⟩|⟨k,h1,h2,_⟩
  ·have:=(zI0 h hd q.old hs (zAh q e.to.toNat)).lo
   omega
  ·exact ⟨k,h1,h2⟩
 ·rw[if_neg hk]
  have hf:=zBG h.apart hd
  refine ⟨d.path.length,⟨nR _,fun k' h1 h2=>?_,?_⟩,?_⟩
  ·rw[List.take_of_length_le h1];exact h.fresh hd hs
  ·unfold idxK;rw[List.take_length,hf,Int.toNat_natCast];exact h.quiet hd hs
  ·unfold idxK;rw[List.take_length,hf]
structure zAf (q:PlIn) (at_:Nat) (done:List ByteArray) (st:PlSt):Prop where
 inv:PlInv q at_ done st
 look:∀ x∈st.2,nameB x.label=true∧lookI st.1 (x.frm:Int) x.label=(x.dst:Int)
 all:∀ (i:Nat) (d:Dir),st.1[i]?=some d→∀ e∈(zAg q d.node.toNat).edges,(i<at_∨(i=at_∧e.label∈done))→∃ x∈st.2,x.frm=i∧x.label=e.label∧∃ f,st.1[x.dst]?=some f∧f.node=e.to
 born:∀ (j:Nat) (d:Dir),st.1[j]?=some d→j≠0→∃ (i:Nat) (d':Dir) (e:Edge),i<j∧st.1[i]?=some d'∧e∈(zAg q d'.node.toNat).edges∧(⟨i,e.label,j⟩:Stl)∈st.2
 last:∀ (j:Nat) (d:Dir),st.1[j]?=some d→j≠0→∃ p,d.path=p++[d.pack.name]
 bnd:(st.1.length:Int) - 1≤max 0 q.dirs∧∀ (j:Nat) (d:Dir),st.1[j]?=some d→j≠0→((textB d.path).size:Int)≤q.path
theorem zAf.start (q:PlIn):zAf q 0 [] ([dirZ0],[]) where
 inv:=PlInv.start q
 look:=fun x hx=>by cases hx
 all:=fun i d hi e he h=>by
  rcases h with h|⟨_,h⟩
  ·omega
  ·cases h
 born:=fun j d hj h0=>by
  cases j with
  | zero=>exact absurd rfl h0
  | succ j=>cases hj
 last:=fun j d hj h0=>by
  cases j with
  | zero=>exact absurd rfl h0
  | succ j=>cases hj
 bnd:=⟨by show ((1:Nat):Int) - 1≤_;omega,fun j d hj h0=>by
  cases j with
  | zero=>exact absurd rfl h0
  | succ j=>cases hj⟩
theorem zLU {q:PlIn} {at_:Nat} {done:List ByteArray} {st:PlSt} (h:zAf q at_ done st) {d:Dir} (hd:st.1[at_]?=some d) {s:ByteArray} {k:Nat} (hv:zB5 st.1 st.2 d.path s k) {nd:Dir} (hnd:nd.path=d.path.take k++[s]) :
  ∀ x∈st.2,lookI (st.1++[nd]) (x.frm:Int) x.label=(x.dst:Int):=by
 intro x hx
 obtain ⟨hnb,hl⟩:=h.look x hx
 obtain ⟨h1,h2,_⟩:=h.inv.stl x hx
 have hf:=zAX h1
 have hf':(st.1++[nd])[x.frm]?=some (dirAt st.1 x.frm):=by rw[List.getElem?_append_left h1];exact hf
 rcases lookI_spec hf hnb with ⟨g1,_⟩|⟨m,g1,g2,g3,g4⟩
 ·omega
 have hm:findI (st.1++[nd]) ((dirAt st.1 x.frm).path.take m++[x.label])=(x.dst:Int):=by rw[zBi,if_pos g3,←g2,hl]
 rw[zEe hf' hnb g1 (by rw[hm];omega) fun j hj1 hj2=>?_,hm]
 have hneg:=g4 j hj1 hj2
 rw[zBi,if_neg (by omega)]
 by_cases hp:nd.path=(dirAt st.1 x.frm).path.take j++[x.label]
 ·exfalso
  rw[hnd] at hp
  have hlen:=congrArg List.length hp
  have hsp:d.path.take k=(dirAt st.1 x.frm).path.take j∧[s]=[x.label]:=by
   refine List.append_inj hp ?_
   rw[List.length_append,List.length_append,List.length_singleton,List.length_singleton] at hlen
   omega
  have hs:x.label=s:=by have:=hsp.2;simp only[List.cons.injEq,and_true] at this;exact this.symm
  obtain ⟨ih,eh,_,hih,heh,hehp⟩:=h.inv.find hd hv.1
  have hq:=hv.2.2
  unfold idxK zBs at hq
  rw[hih,Int.toNat_natCast,List.any_eq_false] at hq
  apply hq x hx
  unfold zBY
  rw[zBE heh,hehp]
  simp only[Bool.and_eq_true,decide_eq_true_eq]
  refine ⟨hs,?_,?_⟩
  ·rw[zED,hsp.1]
   exact List.take_prefix _ _
  ·have hdst:=zAX h2
   have hpd:(dirAt st.1 x.dst).path=(dirAt st.1 x.frm).path.take m++[x.label]:=by
    obtain ⟨j',d',e1,e2,e3⟩:=zCj g3
    have:j'=x.dst:=by omega
    rw[this,hdst] at e2
    cases e2
    exact e3
   show (dirAt st.1 x.dst).path.length≤_
   rw[hpd,hsp.1,List.length_append,List.length_take,List.length_take,List.length_singleton]
   omega
 ·rw[if_neg hp];decide
theorem zL8 {q:PlIn} {at_:Nat} {done:List ByteArray} {st:PlSt} (h:zAf q at_ done st) {d:Dir} (hd:st.1[at_]?=some d) {s:ByteArray} (hs:nameB s=true) {k:Nat} (hv:zB5 st.1 st.2 d.path s k) {nd:Dir} (hnd:nd.path=d.path.take k++[s]) :
  lookI (st.1++[nd]) (at_:Int) s=(st.1.length:Int):=by
 have hd':(st.1++[nd])[at_]?=some d:=by rw[List.getElem?_append_left (gS.1 hd).1];exact hd
 have hk:=hv.2.1 k (nR _) hv.1
 have hm:findI (st.1++[nd]) (d.path.take k++[s])=(st.1.length:Int):=by rw[zBi,if_neg (by omega),if_pos hnd]
 rw[zEe hd' hs hv.1 (by rw[hm];omega) fun j hj1 hj2=>?_,hm]
 have hc:=hv.2.1 j (by omega) hj2
 rw[zBi,if_neg (by omega)]
 by_cases hp:nd.path=d.path.take j++[s]
 ·exfalso
  rw[hnd] at hp
  have:=congrArg List.length hp
  rw[List.length_append,List.length_append,List.length_take,List.length_take,List.length_singleton] at this
  omega
 ·rw[if_neg hp];decide
theorem zAn {q:PlIn} {j:Nat} {n:Node} (h:q.g[j]?=some n):zAg q j=n:=by
 unfold zAg;rw[List.getD_eq_getElem?_getD,h];rfl
theorem zAf.step {q:PlIn} {at_:Nat} {done:List ByteArray} {st st':PlSt} (h:zAf q at_ done st) (hm:mayPl q.g q.ps=true) (hq:q.path≤1024) (hqd:q.dirs≤256) {d:Dir} (hd:st.1[at_]?=some d)
  {n:Node} (hn:q.g[d.node.toNat]?=some n) {e:Edge} (he:e∈n.edges) (hs:e.label∉done) {kind:Nat} (hst:stepE q at_ kind e st=.ok st'):zAf q at_ (done++[e.label]) st':=by
 obtain ⟨hinv,_,_⟩:=zC7 h.inv hm hq hqd hd hn he hs hst
 have hdl:=(gS.1 hd).1
 obtain ⟨e1,e2,e3,e4,e5,e6⟩:=zCE hm hn he
 have hnd:=zAn hn
 unfold stepE at hst
 by_cases hr:zAm q st at_ kind e=true
 ·rw[if_pos hr] at hst
  cases hst
  unfold zAm at hr
  simp only[Bool.and_eq_true,decide_eq_true_eq] at hr
  obtain ⟨r1,r2,_⟩:=hr
  have hlt:(lookI st.1 (at_:Int) e.label).toNat<st.1.length:=by
   have:=(zCw st.1 (at_:Int) e.label).2
   omega
  exact {
   inv:=hinv
   look:=fun x hx=>by
    rcases List.mem_append.1 hx with hx|hx
    ·exact h.look x hx
    ·rw[List.mem_singleton.1 hx]
     exact ⟨e6,by show lookI st.1 (at_:Int) e.label=((lookI st.1 (at_:Int) e.label).toNat:Int);omega⟩
   all:=fun i d' hi e' he' hc=>by
    by_cases hnew:i=at_∧e'.label=e.label
    ·obtain ⟨rfl,hl⟩:=hnew
     have hi':st.1[i]?=some d':=hi
     rw[hd] at hi'
     cases hi'
     rw[hnd] at he'
     have hee:=zBp (f:=fun e:Edge=>e.label) (zA1 hm hn) he' he hl
     subst hee
     exact ⟨_,List.mem_append.2 (.inr (List.mem_singleton.2 rfl)),rfl,rfl,_,zAX hlt,r2⟩
    ·have hc':i<at_∨(i=at_∧e'.label∈done):=by
      rcases hc with hc|⟨hc1,hc2⟩
      ·exact .inl hc
      ·rcases List.mem_append.1 hc2 with hc2|hc2
       ·exact .inr ⟨hc1,hc2⟩
       ·exact absurd ⟨hc1,List.mem_singleton.1 hc2⟩ hnew
     obtain ⟨x,hx,g1,g2,f,g3,g4⟩:=h.all i d' hi e' he' hc'
     exact ⟨x,List.mem_append.2 (.inl hx),g1,g2,f,g3,g4⟩
   born:=fun j d' hj h0=>by
    obtain ⟨i,f,e',g1,g2,g3,g4⟩:=h.born j d' hj h0
    exact ⟨i,f,e',g1,g2,g3,List.mem_append.2 (.inl g4)⟩
   last:=h.last
   bnd:=h.bnd}
 rw[if_neg hr] at hst
 by_cases hk1:kind=1
 ·rw[if_pos hk1] at hst;cases hst
 rw[if_neg hk1] at hst
 obtain ⟨k,hv,hk⟩:=zEv h.inv hd kind hs
 obtain ⟨i,f,_,hif,hi,hfp⟩:=h.inv.find hd hv.1
 have hhi:homeP q st at_ kind e=(i:Int):=by rw[hk];exact hif
 rw[hhi,Int.toNat_natCast] at hst
 have hno:findI st.1 (f.path++[e.label])<0:=by rw[hfp];exact hv.2.1 k (nR _) hv.1
 cases hp:putP q st.1 i e.to.toNat with
 | error c=>rw[hp] at hst;cases hst
 | ok T=>
   rw[hp] at hst
   cases hst
   obtain ⟨hT,_⟩:=zKm h.inv hd hs e6 (node:=e.to.toNat) (by omega) (by omega) e4 hq hqd hi (by rw[hfp];exact List.take_prefix _ _) hno hp
   obtain ⟨nd,hndd⟩:∃ nd:Dir,nd=⟨f.path++[e.label],zAh q e.to.toNat,((e.to.toNat:Nat):Int)⟩:=⟨_,rfl⟩
   rw[←hndd] at hT
   have hndp:nd.path=d.path.take k++[e.label]:=by rw[hndd,hfp]
   have hndn:nd.node=e.to:=by rw[hndd];show ((e.to.toNat:Nat):Int)=_;omega
   subst hT
   have hat:∀ (j:Nat) (d':Dir),(st.1++[nd])[j]?=some d'→st.1[j]?=some d'∨(j=st.1.length∧d'=nd):=fun j d' hj=>by
    rcases Nat.lt_trichotomy j st.1.length with hlt|heq|hgt
    ·rw[List.getElem?_append_left hlt] at hj;exact .inl hj
    ·rw[heq,List.getElem?_append_right (nR _),Nat.sub_self] at hj
     cases hj
     exact .inr ⟨heq,rfl⟩
    ·rw[List.getElem?_eq_none (by rw[List.length_append,List.length_singleton];omega)] at hj
     cases hj
   have hold:∀ (j:Nat) (d':Dir),st.1[j]?=some d'→(st.1++[nd])[j]?=some d':=fun j d' hj=>by
    rw[List.getElem?_append_left (gS.1 hj).1];exact hj
   have hlast:(st.1++[nd])[st.1.length]?=some nd:=by rw[List.getElem?_append_right (nR _),Nat.sub_self];rfl
   have hput:=hp
   unfold putP at hput
   rw[zBE hi,e4] at hput
   by_cases c1:q.path<((textB (f.path++[e.label])).size:Int)
   ·rw[if_pos c1] at hput;cases hput
   rw[if_neg c1] at hput
   by_cases c2:q.dirs≤(st.1.length:Int) - 1
   ·rw[if_pos c2] at hput;cases hput
   exact {
    inv:=hinv
    look:=fun x hx=>by
     rcases List.mem_append.1 hx with hx|hx
     ·exact ⟨(h.look x hx).1,zLU h hd hv hndp x hx⟩
     ·rw[List.mem_singleton.1 hx]
      exact ⟨e6,zL8 h hd e6 hv hndp⟩
    all:=fun i' d' hi' e' he' hc=>by
     have hilt:i'<st.1.length:=by rcases hc with hc|hc<;>omega
     have hi2:st.1[i']?=some d':=by
      rcases hat i' d' hi' with g|⟨g,_⟩
      ·exact g
      ·omega
     by_cases hnew:i'=at_∧e'.label=e.label
     ·obtain ⟨rfl,hl⟩:=hnew
      rw[hd] at hi2
      cases hi2
      rw[hnd] at he'
      have hee:=zBp (f:=fun e:Edge=>e.label) (zA1 hm hn) he' he hl
      subst hee
      exact ⟨_,List.mem_append.2 (.inr (List.mem_singleton.2 rfl)),rfl,rfl,_,hlast,hndn⟩
     ·have hc':i'<at_∨(i'=at_∧e'.label∈done):=by
       rcases hc with hc|⟨hc1,hc2⟩
       ·exact .inl hc
       ·rcases List.mem_append.1 hc2 with hc2|hc2
        ·exact .inr ⟨hc1,hc2⟩
        ·exact absurd ⟨hc1,List.mem_singleton.1 hc2⟩ hnew
      obtain ⟨x,hx,g1,g2,f',g3,g4⟩:=h.all i' d' hi2 e' he' hc'
      exact ⟨x,List.mem_append.2 (.inl hx),g1,g2,f',hold _ _ g3,g4⟩
    born:=fun j d' hj h0=>by
     rcases hat j d' hj with g|⟨g,_⟩
     ·obtain ⟨i2,f2,e',g1,g2,g3,g4⟩:=h.born j d' g h0
      exact ⟨i2,f2,e',g1,hold _ _ g2,g3,List.mem_append.2 (.inl g4)⟩
     ·exact ⟨at_,d,e,by omega,hold _ _ hd,by rw[hnd];exact he,List.mem_append.2 (.inr (List.mem_singleton.2 (by rw[g])))⟩
    last:=fun j d' hj h0=>by
     rcases hat j d' hj with g|⟨_,rfl⟩
     ·exact h.last j d' g h0
     ·refine ⟨d.path.take k,?_⟩
      rw[hndp,hndd]
      show _=_++[(zAh q e.to.toNat).name]
      rw[e4]
    bnd:=by
     refine ⟨by show ((st.1++[nd]).length:Int) - 1≤_;rw[List.length_append,List.length_singleton];omega,fun j d' hj h0=>?_⟩
     rcases hat j d' hj with g|⟨_,rfl⟩
     ·exact h.bnd.2 j d' g h0
     ·rw[hndp,←hfp];omega}
theorem zAf.next {q:PlIn} {at_:Nat} {done:List ByteArray} {st:PlSt} (h:zAf q at_ done st) {d:Dir} (hd:st.1[at_]?=some d) (hall:∀ e∈(zAg q d.node.toNat).edges,e.label∈done):zAf q (at_+1) [] st:=
 { h with
   inv:=h.inv.next
   all:=fun i d' hi e he hc=>by
    rcases hc with hc|⟨_,hc⟩
    ·by_cases hia:i=at_
     ·subst hia
      rw[hd] at hi
      cases hi
      exact h.all i d hd e he (.inr ⟨rfl,hall e he⟩)
     ·exact h.all i d' hi e he (.inl (by omega))
    ·cases hc}
theorem zCK {q:PlIn} (hm:mayPl q.g q.ps=true) (hq:q.path≤1024) (hqd:q.dirs≤256) {at_:Nat} {d:Dir} {n:Node} (hn:q.g[d.node.toNat]?=some n) {kind:Nat}:∀ (m k:Nat) (done:List ByteArray) (st st':PlSt),n.edges.length=k+m→st.1[at_]?=some d→zBS q n kind k done→zAf q at_ done st→zAO q at_ n kind (n.edges.drop k) st=.ok st' →
  ∃ done',zBS q n kind n.edges.length done'∧(∀ s∈done,s∈done')∧(∀ (j:Nat) (e:Edge),k≤j→n.edges[j]?=some e→kindP q n e=kind→e.label∈done')∧zAf q at_ done' st'∧st'.1[at_]?=some d:=by
 intro m
 induction m with
 | zero=>
   intro k done st st' hl hd hdn h hst
   rw[dN (by omega),zAO] at hst
   cases hst
   exact ⟨done,by rw[hl];exact hdn,fun s hs=>hs,fun j e hj he _=>by
    have:=(gS.1 he).1
    omega,h,hd⟩
 | succ m ih=>
   intro k done st st' hl hd hdn h hst
   obtain ⟨e,he⟩:∃ e,n.edges[k]?=some e:=⟨_,gE (by omega)⟩
   rw[zBK q at_ n kind he] at hst
   by_cases hk:kindP q n e=kind
   ·rw[if_pos hk] at hst
    cases hs:stepE q at_ kind e st with
    | error c=>rw[hs] at hst;cases hst
    | ok st1=>
      rw[hs] at hst
      have hno:=hdn.not (zA1 hm hn) he hk
      have hmem:=mG he
      have h1:=h.step hm hq hqd hd hn hmem hno hs
      obtain ⟨_,⟨l,hl1⟩,_⟩:=zC7 h.inv hm hq hqd hd hn hmem hno hs
      have hd1:st1.1[at_]?=some d:=by rw[hl1,List.getElem?_append_left (gS.1 hd).1];exact hd
      obtain ⟨done',g1,g2,g3,g4,g5⟩:=ih (k+1) _ st1 st' (by omega) hd1 (hdn.step he hk) h1 hst
      refine ⟨done',g1,fun s hs'=>g2 s (List.mem_append.2 (.inl hs')),fun j e' hj he' hk'=>?_,g4,g5⟩
      by_cases hjk:j=k
      ·subst hjk
       rw[he] at he'
       cases he'
       exact g2 _ (by simp)
      ·exact g3 j e' (by omega) he' hk'
   ·rw[if_neg hk] at hst
    obtain ⟨done',g1,g2,g3,g4,g5⟩:=ih (k+1) done st st' (by omega) hd (hdn.more (by omega)) h hst
    refine ⟨done',g1,g2,fun j e' hj he' hk'=>?_,g4,g5⟩
    by_cases hjk:j=k
    ·subst hjk
     rw[he] at he'
     cases he'
     exact absurd hk' hk
    ·exact g3 j e' (by omega) he' hk'
theorem zFM {q:PlIn} (hm:mayPl q.g q.ps=true) (hq:q.path≤1024) (hqd:q.dirs≤256) {at_:Nat} {st st':PlSt} {d:Dir} (hd:st.1[at_]?=some d) (h:zAf q at_ [] st) (hst:dirP q at_ st=.ok st'):zAf q (at_+1) [] st':=by
 have hnode:∃ n,q.g[d.node.toNat]?=some n:=by
  have hg:=(zBv hm).1
  by_cases h0:at_=0
  ·subst h0
   have:=(h.inv.root d hd).2.1
   exact ⟨_,gE (by rw[this];show 0<_;omega)⟩
  ·have:=h.inv.node at_ d hd h0
   exact ⟨_,gE (by omega)⟩
 obtain ⟨n,hn⟩:=hnode
 unfold dirP at hst
 rw[zBl hd,zAn hn,zAS] at hst
 cases h1:zAO q at_ n 1 n.edges st with
 | error c=>rw[h1] at hst;cases hst
 | ok st1=>
   rw[h1] at hst
   simp only at hst
   obtain ⟨d1,a1,a2,a3,a4,a5⟩:=zCK hm hq hqd hn n.edges.length 0 [] st st1 (by omega) hd (fun s hs=>by cases hs) h (by rw[List.drop_zero];exact h1)
   rw[zAS] at hst
   cases h2:zAO q at_ n 2 n.edges st1 with
   | error c=>rw[h2] at hst;cases hst
   | ok st2=>
     rw[h2] at hst
     simp only at hst
     obtain ⟨d2,b1,b2,b3,b4,b5⟩:=zCK hm hq hqd hn n.edges.length 0 d1 st1 st2 (by omega) a5 a1.turn a4 (by rw[List.drop_zero];exact h2)
     rw[zAS] at hst
     cases h3:zAO q at_ n 3 n.edges st2 with
     | error c=>rw[h3] at hst;cases hst
     | ok st3=>
       rw[h3] at hst
       simp only at hst
       rw[zAS] at hst
       cases hst
       obtain ⟨d3,c1,c2,c3,c4,c5⟩:=zCK hm hq hqd hn n.edges.length 0 d2 st2 st' (by omega) b5 b1.turn b4 (by rw[List.drop_zero];exact h3)
       refine c4.next c5 fun e he=>?_
       rw[zAn hn] at he
       obtain ⟨j,hj,rfl⟩:=List.getElem_of_mem he
       have hje:=gE hj
       have hkr:=zAv q n n.edges[j]
       have hk:kindP q n n.edges[j]=1∨kindP q n n.edges[j]=2∨kindP q n n.edges[j]=3:=by omega
       rcases hk with hk|hk|hk
       ·exact c2 _ (b2 _ (a3 j _ (nZ _) hje hk))
       ·exact c2 _ (b3 j _ (nZ _) hje hk)
       ·exact c3 j _ (nZ _) hje hk
theorem zJP {q:PlIn} (hm:mayPl q.g q.ps=true) (hq:q.path≤1024) (hqd:q.dirs≤256):∀ (f at_:Nat) (st st':PlSt),f+at_=258→zAf q at_ [] st→dirsP q f at_ st=.ok st'→∃ a,st'.1.length≤a∧zAf q a [] st':=by
 intro f
 induction f with
 | zero=>
   intro at_ st st' hf h hst
   rw[dirsP] at hst
   cases hst
   exact ⟨at_,by have:=h.inv.len;omega,h⟩
 | succ f ih=>
   intro at_ st st' hf h hst
   rw[dirsP] at hst
   by_cases hlt:at_<st.1.length
   ·rw[if_pos hlt] at hst
    cases hd:dirP q at_ st with
    | error c=>rw[hd] at hst;cases hst
    | ok st1=>
      rw[hd] at hst
      exact ih (at_+1) st1 st' (by omega) (zFM hm hq hqd (zAX hlt) h hd) hst
   ·rw[if_neg hlt] at hst
    cases hst
    exact ⟨at_,by omega,h⟩
theorem zBZ {q:PlIn} {st:PlSt} (h:zAq q=.ok st):mayPl q.g q.ps=true∧1≤q.dirs∧q.dirs≤256∧1≤q.path∧q.path≤1024∧∃ a,st.1.length≤a∧zAf q a [] st:=by
 unfold zAq at h
 by_cases h1:q.dirs<1∨256<q.dirs∨q.path<1∨1024<q.path
 ·rw[if_pos h1] at h;cases h
 rw[if_neg h1] at h
 by_cases h2:zCG q.old=true
 ·rw[if_pos h2] at h;cases h
 rw[if_neg h2] at h
 by_cases h3:mayPl q.g q.ps=false
 ·rw[if_pos h3] at h;cases h
 rw[if_neg h3] at h
 rw[Bool.not_eq_false] at h3
 exact ⟨h3,by omega,by omega,by omega,by omega,zJP h3 (by omega) (by omega) 258 0 _ st rfl (zAf.start q) h⟩
theorem zKE {p:List ByteArray} (h:p.all nameB=true) (h0:p≠[]):(textB p).data.toList=zAx p:=by
 unfold textB
 rw[if_neg h0,if_pos h]
theorem zJS {p:List ByteArray} (h:p.all nameB=true) (h0:p≠[]):lessB (textB []) (textB p)=true:=by
 rw[zCD,decide_eq_true_eq,zKE h h0]
 obtain ⟨x,t,rfl⟩:∃ x t,p=x::t:=by
  cases p with
  | nil=>exact absurd rfl h0
  | cons x t=>exact ⟨x,t,rfl⟩
 have hs:stepB.data.toList=47::[109,111,100,117,108,101,115,47]:=by decide +kernel
 rw[zAx,hs]
 show ([47]:List UInt8)<47::_
 rw[List.cons_lt_cons_iff]
 exact .inr ⟨rfl,List.nil_lt_cons _ _⟩
theorem zIi {U:List Dir} {d:Dir} (h:d∈U):∃ i:Nat,U[i]?=some d:=by
 obtain ⟨i,hi,e⟩:=List.getElem_of_mem h
 exact ⟨i,by rw[gE hi,e]⟩
theorem zCu {q:PlIn} {a:Nat} {done:List ByteArray} {st:PlSt} (h:PlInv q a done st):((sortD st.1).map (·.path)).Nodup:=((zBF st.1).map (·.path)).nodup_iff.2 h.apart
theorem zG9 {q:PlIn} {a:Nat} {done:List ByteArray} {st:PlSt} (h:PlInv q a done st):(sortD st.1).Pairwise fun x y=>lessB (textB x.path) (textB y.path)=true:=by
 have h1:=zEL st.1
 have h2:((sortD st.1).map fun d=>textB d.path).Nodup:=((zBF st.1).map fun d=>textB d.path).nodup_iff.2 (zEm h)
 rw[List.nodup_iff_pairwise_ne,List.pairwise_map] at h2
 refine (h1.and h2).imp fun {x y} hxy=>?_
 obtain ⟨g1,g2⟩:=hxy
 unfold upD at g1
 cases hl:lessB (textB x.path) (textB y.path) with
 | true=>rfl
 | false=>
   rw[zCD,decide_eq_false_iff_not,List.not_lt] at g1 hl
   exact absurd (ByteArray.ext (Array.toList_inj.1 (List.le_antisymm g1 hl))) g2
theorem zLm {U:List Dir} (h:U.Pairwise fun x y=>lessB (textB x.path) (textB y.path)=true) {i j:Nat} {d e:Dir} (hi:U[i]?=some d) (hj:U[j]?=some e) (hl:lessB (textB d.path) (textB e.path)=true):i<j:=by
 obtain ⟨h1,e1⟩:=gS.1 hi
 obtain ⟨h2,e2⟩:=gS.1 hj
 rcases Nat.lt_trichotomy i j with hlt|heq|hgt
 ·exact hlt
 ·subst heq
  rw[hi] at hj
  cases hj
  rw[zA9] at hl
  cases hl
 ·have:=List.pairwise_iff_getElem.1 h j i h2 h1 hgt
  rw[e1,e2] at this
  have:=zCJ hl this
  rw[zA9] at this
  cases this
theorem zNS {q:PlIn} {a:Nat} {done:List ByteArray} {st:PlSt} (h:PlInv q a done st):(sortD st.1)[0]?=some ⟨[],zAC,0⟩:=by
 have hp:=zBF st.1
 obtain ⟨r,hr⟩:∃ r,st.1[0]?=some r:=⟨_,gE h.pos⟩
 obtain ⟨r1,r2,r3⟩:=h.root r hr
 have hre:r=⟨[],zAC,0⟩:=by
  obtain ⟨x,y,z⟩:=r
  simp only at r1 r2 r3
  rw[r1,r2,r3]
 obtain ⟨i,hi⟩:=zIi (hp.mem_iff.2 (mG hr))
 have hl:0<(sortD st.1).length:=by rw[hp.length_eq];exact h.pos
 have h0:=gE hl
 by_cases hi0:i=0
 ·rw[hi0] at hi;rw[hi,hre]
 ·exfalso
  have hm:=hp.mem_iff.1 (mG h0)
  obtain ⟨j,hj⟩:=zIi hm
  have hj0:j≠0:=fun e=>by
   rw[e,hr] at hj
   have e2:r=(sortD st.1)[0]:=Option.some.inj hj
   have hb:=zBG (zCu h) h0
   have hb2:=zBG (zCu h) hi
   rw[e2] at hb2
   omega
  obtain ⟨hp0,_⟩:=h.up j _ hj hj0
  have hlt:=zJS (h.names _ hm).1 hp0
  rw[←r1] at hlt
  have:=zLm (zG9 h) hi h0 hlt
  omega
theorem zDR {q:PlIn} {at_ kind:Nat} {e:Edge} {st st':PlSt} (h:stepE q at_ kind e st=.ok st'):st.1<+:st'.1∧(∃ x,st'.2=st.2++[x]):=by
 unfold stepE at h
 by_cases hr:zAm q st at_ kind e=true
 ·rw[if_pos hr] at h;cases h
  exact ⟨List.prefix_refl _,_,rfl⟩
 rw[if_neg hr] at h
 by_cases hk:kind=1
 ·rw[if_pos hk] at h;cases h
 rw[if_neg hk] at h
 cases hp:putP q st.1 (homeP q st at_ kind e).toNat e.to.toNat with
 | error c=>rw[hp] at h;cases h
 | ok T=>
   rw[hp] at h
   cases h
   refine ⟨?_,_,rfl⟩
   unfold putP at hp
   split at hp
   ·cases hp
   ·split at hp
    ·cases hp
    ·cases hp;exact List.prefix_append _ _
theorem zBW {q:PlIn} {at_:Nat} {n:Node} {kind:Nat}:∀ {l:List Edge} {st st':PlSt},zAO q at_ n kind l st=.ok st'→st.1<+:st'.1
 | [],st,st',h=>by rw[zAO] at h;cases h;exact List.prefix_refl _
 | e::l,st,st',h=>by
   rw[zAO] at h
   by_cases hk:kindP q n e=kind
   ·rw[if_pos hk] at h
    cases hs:stepE q at_ kind e st with
    | error c=>rw[hs] at h;cases h
    | ok st1=>
      rw[hs] at h
      exact (zDR hs).1.trans (zBW h)
   ·rw[if_neg hk] at h
    exact zBW h
theorem zEJ {q:PlIn} {at_:Nat} {n:Node}:∀ {l:List Nat} {st st':PlSt},zAS q at_ n l st=.ok st'→st.1<+:st'.1
 | [],st,st',h=>by rw[zAS] at h;cases h;exact List.prefix_refl _
 | k::l,st,st',h=>by
   rw[zAS] at h
   cases hs:zAO q at_ n k n.edges st with
   | error c=>rw[hs] at h;cases h
   | ok st1=>
     rw[hs] at h
     exact (zBW hs).trans (zEJ h)
theorem zF1 {q:PlIn}:∀ {f at_:Nat} {st st':PlSt},dirsP q f at_ st=.ok st'→st.1<+:st'.1
 | 0,_,st,st',h=>by rw[dirsP] at h;cases h;exact List.prefix_refl _
 | f+1,at_,st,st',h=>by
   rw[dirsP] at h
   by_cases hlt:at_<st.1.length
   ·rw[if_pos hlt] at h
    cases hd:dirP q at_ st with
    | error c=>rw[hd] at h;cases h
    | ok st1=>
      rw[hd] at h
      exact (zEJ (show zAS q at_ _ [1,2,3] st=.ok st1 from hd)).trans (zF1 h)
   ·rw[if_neg hlt] at h;cases h;exact List.prefix_refl _
structure PlInd (q:PlIn) (P:Nat→Nat→List ByteArray→PlSt→Prop):Prop where
 step:∀ (at_:Nat) (done:List ByteArray) (st st':PlSt) (d:Dir) (n:Node) (e:Edge),zAf q at_ done st→P at_ (kindP q n e) done st→st.1[at_]?=some d→q.g[d.node.toNat]?=some n→e∈n.edges→e.label∉done →
  (∀ e'∈n.edges,kindP q n e'<kindP q n e→e'.label∈done)→(∀ s∈done,∃ e'∈n.edges,e'.label=s∧kindP q n e'≤kindP q n e)→stepE q at_ (kindP q n e) e st=.ok st'→P at_ (kindP q n e) (done++[e.label]) st'
 turn:∀ (at_ k:Nat) (done:List ByteArray) (st:PlSt),P at_ k done st→P at_ (k+1) done st
 next:∀ (at_:Nat) (done:List ByteArray) (st:PlSt) (d:Dir),zAf q at_ done st→P at_ 4 done st→st.1[at_]?=some d→(∀ e∈(zAg q d.node.toNat).edges,e.label∈done)→P (at_+1) 1 [] st
theorem zCg {q:PlIn} {P:Nat→Nat→List ByteArray→PlSt→Prop} (hP:PlInd q P) (hm:mayPl q.g q.ps=true) (hq:q.path≤1024) (hqd:q.dirs≤256) {at_:Nat} {d:Dir} {n:Node} (hn:q.g[d.node.toNat]?=some n) {kind:Nat}:∀ (m k:Nat) (done:List ByteArray) (st st':PlSt),n.edges.length=k+m→st.1[at_]?=some d→zBS q n kind k done→(∀ e'∈n.edges,kindP q n e'<kind→e'.label∈done)→zAf q at_ done st→P at_ kind done st→zAO q at_ n kind (n.edges.drop k) st=.ok st' →
  ∃ done',zBS q n kind n.edges.length done'∧(∀ s∈done,s∈done')∧(∀ (j:Nat) (e:Edge),k≤j→n.edges[j]?=some e→kindP q n e=kind→e.label∈done')∧zAf q at_ done' st'∧P at_ kind done' st'∧st'.1[at_]?=some d:=by
 intro m
 induction m with
 | zero=>
   intro k done st st' hl hd hdn hlow h hp hst
   rw[dN (by omega),zAO] at hst
   cases hst
   exact ⟨done,by rw[hl];exact hdn,fun s hs=>hs,fun j e hj he _=>by
    have:=(gS.1 he).1
    omega,h,hp,hd⟩
 | succ m ih=>
   intro k done st st' hl hd hdn hlow h hp hst
   obtain ⟨e,he⟩:∃ e,n.edges[k]?=some e:=⟨_,gE (by omega)⟩
   rw[zBK q at_ n kind he] at hst
   by_cases hk:kindP q n e=kind
   ·rw[if_pos hk] at hst
    cases hs:stepE q at_ kind e st with
    | error c=>rw[hs] at hst;cases hst
    | ok st1=>
      rw[hs] at hst
      have hno:=hdn.not (zA1 hm hn) he hk
      have hmem:=mG he
      have h1:=h.step hm hq hqd hd hn hmem hno hs
      have hp1:P at_ kind (done++[e.label]) st1:=by
       have:=hP.step at_ done st st1 d n e h (by rw[hk];exact hp) hd hn hmem hno (by rw[hk];exact hlow) (fun s hs'=>by
        obtain ⟨j,e',g1,g2,g3⟩:=hdn s hs'
        exact ⟨e',mG g1,g2,by omega⟩) (by rw[hk];exact hs)
       rwa [hk] at this
      have hd1:st1.1[at_]?=some d:=by
       obtain ⟨l,hl1⟩:=(zDR hs).1
       rw[←hl1,List.getElem?_append_left (gS.1 hd).1];exact hd
      obtain ⟨done',g1,g2,g3,g4,g5,g6⟩:=ih (k+1) _ st1 st' (by omega) hd1 (hdn.step he hk) (fun e' he' hlt=>List.mem_append.2 (.inl (hlow e' he' hlt))) h1 hp1 hst
      refine ⟨done',g1,fun s hs'=>g2 s (List.mem_append.2 (.inl hs')),fun j e' hj he' hk'=>?_,g4,g5,g6⟩
      by_cases hjk:j=k
      ·subst hjk
       rw[he] at he'
       cases he'
       exact g2 _ (by simp)
      ·exact g3 j e' (by omega) he' hk'
   ·rw[if_neg hk] at hst
    obtain ⟨done',g1,g2,g3,g4,g5,g6⟩:=ih (k+1) done st st' (by omega) hd (hdn.more (by omega)) hlow h hp hst
    refine ⟨done',g1,g2,fun j e' hj he' hk'=>?_,g4,g5,g6⟩
    by_cases hjk:j=k
    ·subst hjk
     rw[he] at he'
     cases he'
     exact absurd hk' hk
    ·exact g3 j e' (by omega) he' hk'
theorem zL3 {q:PlIn} {P:Nat→Nat→List ByteArray→PlSt→Prop} (hP:PlInd q P) (hm:mayPl q.g q.ps=true) (hq:q.path≤1024) (hqd:q.dirs≤256) {at_:Nat} {st st':PlSt} {d:Dir} (hd:st.1[at_]?=some d) (h:zAf q at_ [] st) (hp:P at_ 1 [] st) (hst:dirP q at_ st=.ok st'):P (at_+1) 1 [] st':=by
 have hnode:∃ n,q.g[d.node.toNat]?=some n:=by
  have hg:=(zBv hm).1
  by_cases h0:at_=0
  ·subst h0
   have:=(h.inv.root d hd).2.1
   exact ⟨_,gE (by rw[this];show 0<_;omega)⟩
  ·have:=h.inv.node at_ d hd h0
   exact ⟨_,gE (by omega)⟩
 obtain ⟨n,hn⟩:=hnode
 have hidx:∀ e∈n.edges,∃ j:Nat,n.edges[j]?=some e:=fun e he=>by
  obtain ⟨j,hj,rfl⟩:=List.getElem_of_mem he
  exact ⟨j,gE hj⟩
 unfold dirP at hst
 rw[zBl hd,zAn hn,zAS] at hst
 cases h1:zAO q at_ n 1 n.edges st with
 | error c=>rw[h1] at hst;cases hst
 | ok st1=>
   rw[h1] at hst
   simp only at hst
   obtain ⟨d1,a1,a2,a3,a4,a5,a6⟩:=zCg hP hm hq hqd hn n.edges.length 0 [] st st1 (by omega) hd (fun s hs=>by cases hs) (fun e' _ hlt=>by have:=(zAv q n e').1;omega) h hp (by rw[List.drop_zero];exact h1)
   rw[zAS] at hst
   cases h2:zAO q at_ n 2 n.edges st1 with
   | error c=>rw[h2] at hst;cases hst
   | ok st2=>
     rw[h2] at hst
     simp only at hst
     obtain ⟨d2,b1,b2,b3,b4,b5,b6⟩:=zCg hP hm hq hqd hn n.edges.length 0 d1 st1 st2 (by omega) a6 a1.turn (fun e' he' hlt=>by
      obtain ⟨j,hj⟩:=hidx e' he'
      exact a3 j e' (nZ _) hj (by have:=(zAv q n e').1;omega)) a4 (hP.turn _ _ _ _ a5) (by rw[List.drop_zero];exact h2)
     rw[zAS] at hst
     cases h3:zAO q at_ n 3 n.edges st2 with
     | error c=>rw[h3] at hst;cases hst
     | ok st3=>
       rw[h3] at hst
       simp only at hst
       rw[zAS] at hst
       cases hst
       have hall2:∀ e'∈n.edges,kindP q n e'<3→e'.label∈d2:=fun e' he' hlt=>by
        obtain ⟨j,hj⟩:=hidx e' he'
        have hr:=(zAv q n e').1
        rcases Nat.lt_or_ge (kindP q n e') 2 with hl|hl
        ·exact b2 _ (a3 j e' (nZ _) hj (by omega))
        ·exact b3 j e' (nZ _) hj (by omega)
       obtain ⟨d3,c1,c2,c3,c4,c5,c6⟩:=zCg hP hm hq hqd hn n.edges.length 0 d2 st2 st' (by omega) b6 b1.turn hall2 b4 (hP.turn _ _ _ _ b5) (by rw[List.drop_zero];exact h3)
       refine hP.next at_ d3 st' d c4 (hP.turn _ _ _ _ c5) c6 fun e he=>?_
       rw[zAn hn] at he
       obtain ⟨j,hj⟩:=hidx e he
       have hkr:=zAv q n e
       rcases Nat.lt_or_ge (kindP q n e) 3 with hl|hl
       ·exact c2 _ (hall2 e he hl)
       ·exact c3 j _ (nZ _) hj (by omega)
structure SimQ (q q1:PlIn) (R:PlSt→Prop) (c:Option Int):Prop where
 g:q1.g=q.g
 mono:∀ st st':PlSt,st.1<+:st'.1→R st'→R st
 step:∀ (at_:Nat) (done:List ByteArray) (st st':PlSt) (d:Dir) (n:Node) (e:Edge) (kind:Nat),zAf q at_ done st→R st→st.1[at_]?=some d→q.g[d.node.toNat]?=some n→e∈n.edges→e.label∉done→stepE q at_ kind e st=.ok st' →
  (R st'→stepE q1 at_ kind e st=.ok st')∧(∀ c0,c=some c0→¬R st'→stepE q1 at_ kind e st=.error c0)
theorem SimQ.node {q q1:PlIn} {R:PlSt→Prop} {c:Option Int} (h:SimQ q q1 R c) (i:Nat):zAg q1 i=zAg q i:=by unfold zAg;rw[h.g]
theorem SimQ.kind {q q1:PlIn} {R:PlSt→Prop} {c:Option Int} (h:SimQ q q1 R c) (n:Node) (e:Edge):kindP q1 n e=kindP q n e:=by unfold kindP;rw[h.node]
theorem zD7 {q q1:PlIn} {R:PlSt→Prop} {c:Option Int} (hS:SimQ q q1 R c) (hm:mayPl q.g q.ps=true) (hq:q.path≤1024) (hqd:q.dirs≤256) {at_:Nat} {d:Dir} {n:Node} (hn:q.g[d.node.toNat]?=some n) {kind:Nat}:∀ (m k:Nat) (done:List ByteArray) (st st':PlSt),n.edges.length=k+m→st.1[at_]?=some d→zBS q n kind k done→zAf q at_ done st→R st→zAO q at_ n kind (n.edges.drop k) st=.ok st' →
  (R st'→zAO q1 at_ n kind (n.edges.drop k) st=.ok st')∧(∀ c0,c=some c0→¬R st'→zAO q1 at_ n kind (n.edges.drop k) st=.error c0):=by
 intro m
 induction m with
 | zero=>
   intro k done st st' hl hd hdn h hR hst
   rw[dN (by omega),zAO] at hst
   cases hst
   rw[dN (by omega),zAO]
   exact ⟨fun _=>rfl,fun _ _ hn=>absurd hR hn⟩
 | succ m ih=>
   intro k done st st' hl hd hdn h hR hst
   obtain ⟨e,he⟩:∃ e,n.edges[k]?=some e:=⟨_,gE (by omega)⟩
   rw[zBK q at_ n kind he] at hst
   rw[zBK q1 at_ n kind he,hS.kind]
   by_cases hk:kindP q n e=kind
   ·rw[if_pos hk] at hst ⊢
    cases hs:stepE q at_ kind e st with
    | error c=>rw[hs] at hst;cases hst
    | ok st1=>
      rw[hs] at hst
      have hno:=hdn.not (zA1 hm hn) he hk
      have hmem:=mG he
      have h1:=h.step hm hq hqd hd hn hmem hno hs
      obtain ⟨s1,s2⟩:=hS.step at_ done st st1 d n e kind h hR hd hn hmem hno hs
      have hd1:st1.1[at_]?=some d:=by
       obtain ⟨l,hl1⟩:=(zDR hs).1
       rw[←hl1,List.getElem?_append_left (gS.1 hd).1];exact hd
      by_cases hR1:R st1
      ·rw[s1 hR1]
       exact ih (k+1) _ st1 st' (by omega) hd1 (hdn.step he hk) h1 hR1 hst
      ·exact ⟨fun hR2=>absurd (hS.mono st1 st' (zBW hst) hR2) hR1,fun c0 hc _=>by rw[s2 c0 hc hR1]⟩
   ·rw[if_neg hk] at hst ⊢
    exact ih (k+1) done st st' (by omega) hd (hdn.more (by omega)) h hR hst
theorem zMY {q q1:PlIn} {R:PlSt→Prop} {c:Option Int} (hS:SimQ q q1 R c) (hm:mayPl q.g q.ps=true) (hq:q.path≤1024) (hqd:q.dirs≤256) {at_:Nat} {st st':PlSt} {d:Dir} (hd:st.1[at_]?=some d) (h:zAf q at_ [] st) (hR:R st) (hst:dirP q at_ st=.ok st') :
  (R st'→dirP q1 at_ st=.ok st')∧(∀ c0,c=some c0→¬R st'→dirP q1 at_ st=.error c0):=by
 have hnode:∃ n,q.g[d.node.toNat]?=some n:=by
  have hg:=(zBv hm).1
  by_cases h0:at_=0
  ·subst h0
   have:=(h.inv.root d hd).2.1
   exact ⟨_,gE (by rw[this];show 0<_;omega)⟩
  ·have:=h.inv.node at_ d hd h0
   exact ⟨_,gE (by omega)⟩
 obtain ⟨n,hn⟩:=hnode
 unfold dirP at hst ⊢
 rw[zBl hd,zAn hn,zAS] at hst
 rw[zBl hd,hS.node,zAn hn,zAS]
 cases h1:zAO q at_ n 1 n.edges st with
 | error c=>rw[h1] at hst;cases hst
 | ok st1=>
   rw[h1] at hst
   simp only at hst
   have e1:zAO q at_ n 1 (n.edges.drop 0) st=.ok st1:=by rw[List.drop_zero];exact h1
   obtain ⟨d1,a1,a2,a3,a4,a5⟩:=zCK hm hq hqd hn n.edges.length 0 [] st st1 (by omega) hd (fun s hs=>by cases hs) h e1
   obtain ⟨u1,u2⟩:=zD7 hS hm hq hqd hn n.edges.length 0 [] st st1 (by omega) hd (fun s hs=>by cases hs) h hR e1
   rw[List.drop_zero] at u1 u2
   rw[zAS] at hst
   cases h2:zAO q at_ n 2 n.edges st1 with
   | error c=>rw[h2] at hst;cases hst
   | ok st2=>
     rw[h2] at hst
     simp only at hst
     have e2:zAO q at_ n 2 (n.edges.drop 0) st1=.ok st2:=by rw[List.drop_zero];exact h2
     obtain ⟨d2,b1,b2,b3,b4,b5⟩:=zCK hm hq hqd hn n.edges.length 0 d1 st1 st2 (by omega) a5 a1.turn a4 e2
     rw[zAS] at hst
     cases h3:zAO q at_ n 3 n.edges st2 with
     | error c=>rw[h3] at hst;cases hst
     | ok st3=>
       rw[h3] at hst
       simp only at hst
       rw[zAS] at hst
       cases hst
       have e3:zAO q at_ n 3 (n.edges.drop 0) st2=.ok st':=by rw[List.drop_zero];exact h3
       by_cases hR1:R st1
       ·rw[u1 hR1]
        simp only
        obtain ⟨v1,v2⟩:=zD7 hS hm hq hqd hn n.edges.length 0 d1 st1 st2 (by omega) a5 a1.turn a4 hR1 e2
        rw[List.drop_zero] at v1 v2
        rw[zAS]
        by_cases hR2:R st2
        ·rw[v1 hR2]
         simp only
         obtain ⟨x1,x2⟩:=zD7 hS hm hq hqd hn n.edges.length 0 d2 st2 st' (by omega) b5 b1.turn b4 hR2 e3
         rw[List.drop_zero] at x1 x2
         rw[zAS]
         by_cases hR3:R st'
         ·rw[x1 hR3]
          simp only
          rw[zAS]
          exact ⟨fun _=>rfl,fun _ _ h=>absurd hR3 h⟩
         ·exact ⟨fun h=>absurd h hR3,fun c0 hc _=>by rw[x2 c0 hc hR3]⟩
        ·exact ⟨fun h=>absurd (hS.mono _ _ (zBW h3) h) hR2,fun c0 hc _=>by rw[v2 c0 hc hR2]⟩
       ·exact ⟨fun h=>absurd (hS.mono _ _ ((zBW h2).trans (zBW h3)) h) hR1,fun c0 hc _=>by rw[u2 c0 hc hR1]⟩
theorem zHB {q q1:PlIn} {R:PlSt→Prop} {c:Option Int} (hS:SimQ q q1 R c) (hm:mayPl q.g q.ps=true) (hq:q.path≤1024) (hqd:q.dirs≤256):∀ (f at_:Nat) (st st':PlSt),zAf q at_ [] st→R st→dirsP q f at_ st=.ok st' →
  (R st'→dirsP q1 f at_ st=.ok st')∧(∀ c0,c=some c0→¬R st'→dirsP q1 f at_ st=.error c0):=by
 intro f
 induction f with
 | zero=>
   intro at_ st st' h hR hst
   rw[dirsP] at hst ⊢
   cases hst
   exact ⟨fun _=>rfl,fun _ _ hn=>absurd hR hn⟩
 | succ f ih=>
   intro at_ st st' h hR hst
   rw[dirsP] at hst ⊢
   by_cases hlt:at_<st.1.length
   ·rw[if_pos hlt] at hst ⊢
    cases hd:dirP q at_ st with
    | error c=>rw[hd] at hst;cases hst
    | ok st1=>
      rw[hd] at hst
      obtain ⟨s1,s2⟩:=zMY hS hm hq hqd (zAX hlt) h hR hd
      by_cases hR1:R st1
      ·rw[s1 hR1]
       exact ih (at_+1) st1 st' (zFM hm hq hqd (zAX hlt) h hd) hR1 hst
      ·exact ⟨fun hR2=>absurd (hS.mono _ _ (zF1 hst) hR2) hR1,fun c0 hc _=>by rw[s2 c0 hc hR1]⟩
   ·rw[if_neg hlt] at hst ⊢
    cases hst
    exact ⟨fun _=>rfl,fun _ _ hn=>absurd hR hn⟩
theorem zF2 {q:PlIn} {st:PlSt} (h:zAq q=.ok st):dirsP q 258 0 ([dirZ0],[])=.ok st:=by
 unfold zAq at h
 split at h
 ·cases h
 split at h
 ·cases h
 split at h
 ·cases h
 exact h
theorem zGy {q:PlIn} (h1:1≤q.dirs∧q.dirs≤256∧1≤q.path∧q.path≤1024) (h2:zCG q.old=false) (h3:mayPl q.g q.ps=true):zAq q=dirsP q 258 0 ([dirZ0],[]):=by
 unfold zAq
 rw[if_neg (by omega),if_neg (by rw[h2];decide),if_neg (by rw[h3];decide)]
theorem zMJ {q:PlIn} (hold:q.old=none) (hm:mayPl q.g q.ps=true) (D L:Int) (hL:q.path≤L):SimQ q { q with dirs:=D,path:=L} (fun st=>(st.1.length:Int) - 1≤D) (some 41) where
 g:=rfl
 mono:=fun st st' h1 h2=>by have:=h1.length_le;omega
 step:=by
  intro at_ done st st' d n e kind h hR hd hnd he hs hst
  unfold stepE at hst ⊢
  have hrr:zAm { q with dirs:=D,path:=L} st at_ kind e=zAm q st at_ kind e:=rfl
  have hho:homeP { q with dirs:=D,path:=L} st at_ kind e=homeP q st at_ kind e:=rfl
  rw[hrr,hho]
  by_cases hr:zAm q st at_ kind e=true
  ·rw[if_pos hr] at hst ⊢
   cases hst
   exact ⟨fun _=>rfl,fun _ _ hn=>absurd hR hn⟩
  rw[if_neg hr] at hst ⊢
  by_cases hk1:kind=1
  ·rw[if_pos hk1] at hst;cases hst
  rw[if_neg hk1] at hst ⊢
  generalize (homeP q st at_ kind e).toNat=i at *
  have hpp:putP { q with dirs:=D,path:=L} st.1 i e.to.toNat=if L<((textB (zAa st.1 i++[(zAh q e.to.toNat).name])).size:Int) then .error 40 else if D≤(st.1.length:Int) - 1 then .error 41 else .ok (st.1++[⟨zAa st.1 i++[(zAh q e.to.toNat).name],zAh q e.to.toNat,((e.to.toNat:Nat):Int)⟩]):=rfl
  rw[hpp]
  cases hp:putP q st.1 i e.to.toNat with
  | error c=>rw[hp] at hst;cases hst
  | ok T=>
    rw[hp] at hst
    cases hst
    unfold putP at hp
    split at hp
    ·cases hp
    rename_i hc1
    split at hp
    ·cases hp
    cases hp
    rw[if_neg (by omega)]
    by_cases hD:D≤(st.1.length:Int) - 1
    ·rw[if_pos hD]
     refine ⟨fun hR2=>?_,fun c0 hc _=>by cases hc;rfl⟩
     simp only[List.length_append,List.length_singleton] at hR2
     omega
    ·rw[if_neg hD]
     refine ⟨fun _=>rfl,fun _ _ hn=>absurd ?_ hn⟩
     simp only[List.length_append,List.length_singleton]
     omega
theorem zLe {q:PlIn} (hold:q.old=none) (hm:mayPl q.g q.ps=true) (hqd:q.dirs≤256) (L:Int):SimQ q { q with dirs:=256,path:=L} (fun st=>∀ d∈st.1.drop 1,((textB d.path).size:Int)≤L) (some 40) where
 g:=rfl
 mono:=fun st st' ⟨l,h1⟩ h2 d hd=>h2 d (by
  rw[←h1]
  rcases Nat.eq_zero_or_pos st.1.length with h0|h0
  ·rw[List.eq_nil_of_length_eq_zero h0] at hd
   cases hd
  ·rw[List.drop_append_of_le_length (by omega)]
   exact List.mem_append.2 (.inl hd))
 step:=by
  intro at_ done st st' d n e kind h hR hd hnd he hs hst
  obtain ⟨e1,e2,e3,e4,e5,e6⟩:=zCE hm hnd he
  have hpos:=h.inv.pos
  unfold stepE at hst ⊢
  have hrr:zAm { q with dirs:=256,path:=L} st at_ kind e=zAm q st at_ kind e:=rfl
  have hho:homeP { q with dirs:=256,path:=L} st at_ kind e=homeP q st at_ kind e:=rfl
  rw[hrr,hho]
  by_cases hr:zAm q st at_ kind e=true
  ·rw[if_pos hr] at hst ⊢
   cases hst
   exact ⟨fun _=>rfl,fun _ _ hn=>absurd hR hn⟩
  rw[if_neg hr] at hst ⊢
  by_cases hk1:kind=1
  ·rw[if_pos hk1] at hst;cases hst
  rw[if_neg hk1] at hst ⊢
  generalize (homeP q st at_ kind e).toNat=i at *
  have hpp:putP { q with dirs:=256,path:=L} st.1 i e.to.toNat=if L<((textB (zAa st.1 i++[(zAh q e.to.toNat).name])).size:Int) then .error 40 else if (256:Int)≤(st.1.length:Int) - 1 then .error 41 else .ok (st.1++[⟨zAa st.1 i++[(zAh q e.to.toNat).name],zAh q e.to.toNat,((e.to.toNat:Nat):Int)⟩]):=rfl
  rw[hpp]
  cases hp:putP q st.1 i e.to.toNat with
  | error c=>rw[hp] at hst;cases hst
  | ok T=>
    rw[hp] at hst
    cases hst
    unfold putP at hp
    split at hp
    ·cases hp
    rename_i hc1
    split at hp
    ·cases hp
    rename_i hc2
    cases hp
    by_cases hL:L<((textB (zAa st.1 i++[(zAh q e.to.toNat).name])).size:Int)
    ·rw[if_pos hL]
     refine ⟨fun hR2=>?_,fun c0 hc _=>by cases hc;rfl⟩
     have:=hR2 ⟨zAa st.1 i++[(zAh q e.to.toNat).name],zAh q e.to.toNat,((e.to.toNat:Nat):Int)⟩ (by
      show _∈(st.1++[_]).drop 1
      rw[List.drop_append_of_le_length (by omega)]
      simp)
     simp only at this
     omega
    ·rw[if_neg hL,if_neg (by omega)]
     refine ⟨fun _=>rfl,fun _ _ hn=>absurd ?_ hn⟩
     intro d' hd'
     have hd2:d'∈(st.1++[(⟨zAa st.1 i++[(zAh q e.to.toNat).name],zAh q e.to.toNat,((e.to.toNat:Nat):Int)⟩:Dir)]).drop 1:=hd'
     rw[List.drop_append_of_le_length (by omega)] at hd2
     rcases List.mem_append.1 hd2 with h2|h2
     ·exact hR d' h2
     ·rw[List.mem_singleton.1 h2];simp only;omega
theorem zJo {q:PlIn} (hold:q.old=none) {st:PlSt} (hfin:zAq q=.ok st) {D:Int} (h1:1≤D) (hD:D<(st.1.length:Int) - 1):zAq { q with dirs:=D,path:=1024}=.error 41:=by
 obtain ⟨hm,g1,g2,g3,g4,a,ha,h⟩:=zBZ hfin
 have hlen:=h.inv.len
 rw[zGy (q:={ q with dirs:=D,path:=1024}) ⟨h1,by show D≤256;omega,by show (1:Int)≤1024;omega,by show (1024:Int)≤1024;omega⟩ (by show zCG q.old=false;rw[hold];rfl) hm]
 have hrun:=zF2 hfin
 exact (zHB (zMJ hold hm D 1024 g4) hm g4 g2 258 0 _ st (zAf.start q) (by show ((1:Nat):Int) - 1≤D;omega) hrun).2 41 rfl (by show ¬(st.1.length:Int) - 1≤D;omega)
theorem zIU {q:PlIn} (hold:q.old=none) {st:PlSt} (hfin:zAq q=.ok st) {L:Int} (h1:1≤L) (hL:∃ (j:Nat) (d:Dir),st.1[j]?=some d∧j≠0∧L<((textB d.path).size:Int)):zAq { q with dirs:=256,path:=L}=.error 40:=by
 obtain ⟨hm,g1,g2,g3,g4,a,ha,h⟩:=zBZ hfin
 obtain ⟨j,d,hj,hj0,hlt⟩:=hL
 have hsz:=(h.inv.names d (mG hj)).2
 rw[zGy (q:={ q with dirs:=256,path:=L}) ⟨by show (1:Int)≤256;omega,by show (256:Int)≤256;omega,h1,by show L≤1024;omega⟩ (by show zCG q.old=false;rw[hold];rfl) hm]
 have hrun:=zF2 hfin
 refine (zHB (zLe hold hm g2 L) hm g4 g2 258 0 _ st (zAf.start q) (fun d hd=>by cases hd) hrun).2 40 rfl fun hn=>?_
 have:=hn d (by
  rw[List.mem_iff_getElem?]
  exact ⟨j - 1,by rw[List.getElem?_drop,show 1+(j - 1)=j from by omega];exact hj⟩)
 omega
theorem zGt {q:PlIn} {st:PlSt} (hfin:zAq q=.ok st):((sortD st.1).length:Int) - 1≤q.dirs∧∀ (j:Nat) (d:Dir),(sortD st.1)[j]?=some d→j≠0→((textB d.path).size:Int)≤q.path:=by
 obtain ⟨hm,g1,g2,g3,g4,a,ha,h⟩:=zBZ hfin
 have hp:=zBF st.1
 refine ⟨by rw[hp.length_eq];have:=h.bnd.1;omega,fun j d hj hj0=>?_⟩
 obtain ⟨i,hi⟩:=zIi (hp.mem_iff.1 (mG hj))
 refine h.bnd.2 i d hi fun e=>?_
 rw[e] at hi
 have h0:=zNS h.inv
 have e1:=zBG (zCu h.inv) hj
 have e2:=zBG (zCu h.inv) h0
 rw[(h.inv.root d hi).1] at e1
 simp only at e2
 omega
structure MG (U:List Dir) (m:List Int):Prop where
 len:m.length=U.length
 val:∀ (i:Nat) (d:Dir),U[i]?=some d→m[i]?=some (-1)∨m[i]?=some d.node
structure TreeM (q:PlIn) (U:List Dir):Prop where
 node:∀ (i:Nat) (d:Dir),U[i]?=some d→0≤d.node
 edge:∀ (i:Nat) (d:Dir),U[i]?=some d→∀ e∈(zAg q d.node.toNat).edges,1≤e.to∧∃ (j:Nat) (f:Dir),lookI U (i:Int) e.label=(j:Int)∧U[j]?=some f∧f.node=e.to
 pack:∀ (j:Nat) (f:Dir),U[j]?=some f→1≤f.node→zMn U q.g j f.node.toNat=true
def zMq (g:List Node):Prop:=∀ n,1≤n→n<g.length→∃ (k:Nat) (x:Node) (e:Edge),k<n∧g[k]?=some x∧e∈x.edges∧e.to=(n:Int)
end Go.Proofs.YtminjjdnmpaaoaaGreatDoor
namespace Go.Proofs.YtminjjdnmpaaoaaGreatDoor
open Go.ChangeShapes Go.WideShapes Go.ChangeAt Go.RowKit
structure Mani where
 deps:List Dep
 dev:List Dep
 opts:List Dep
 over:List Dep
def rMani:Rp Mani where
 size:=4
 holds:=fun w S x cs=>∃ s0 s1 s2 s3,cs=[s0,s1,s2,s3]∧SlV rDep w S x.deps s0∧SlV rDep w S x.dev s1∧SlV rDep w S x.opts s2∧SlV rDep w S x.over s3
 len:=fun ⟨s0,s1,s2,s3,h,c0,c1,c2,c3⟩=>by rw[h];rfl
 one:=fun ⟨s0,s1,s2,s3,h,c0,c1,c2,c3⟩=>by obtain ⟨_,_,rfl,_⟩:=c0.val;obtain ⟨_,_,rfl,_⟩:=c1.val;obtain ⟨_,_,rfl,_⟩:=c2.val;obtain ⟨_,_,rfl,_⟩:=c3.val;rw[h];simp[Value.oneCell']
 mono:=fun ⟨s0,s1,s2,s3,h,c0,c1,c2,c3⟩ hk=>⟨s0,s1,s2,s3,h,(zAk rDep).mono c0 hk,(zAk rDep).mono c1 hk,(zAk rDep).mono c2 hk,(zAk rDep).mono c3 hk⟩
def zF6 (x:Mani):Nat:=1+bkL bkDep x.deps+bkL bkDep x.dev+bkL bkDep x.opts+bkL bkDep x.over
theorem zH0:zCH Tryz.prog 28 rMani zF6:=by
 intro H enc w base fuel cs x h
 obtain ⟨xs,n,rfl,rfl,hlen,hxl,hf⟩:=DataW.trod_struct Tryz.underlying28 h
 rw[show Tryz.prog.cellsOf 28=4 from by kernel_rfl] at hlen
 match cs,hlen with
 | [c0,c1,c2,c3],_=>
   have k0:Tryz.prog.cellsOf 26=1:=by kernel_rfl
   have f0:=hf 0 _ rfl
   have f1:=hf 1 _ rfl
   have f2:=hf 2 _ rfl
   have f3:=hf 3 _ rfl
   match xs,hxl with
   | [x0,x1,x2,x3],_=>
     simp[k0] at f0 f1 f2 f3
     obtain ⟨y0,g0,b0⟩:=zAs (e:=68) Tryz.underlying26 (r:=rDep) (by kernel_rfl) (by decide) zBy H enc w base n [c0] x0 f0
     obtain ⟨y1,g1,b1⟩:=zAs (e:=68) Tryz.underlying26 (r:=rDep) (by kernel_rfl) (by decide) zBy H enc w base n [c1] x1 f1
     obtain ⟨y2,g2,b2⟩:=zAs (e:=68) Tryz.underlying26 (r:=rDep) (by kernel_rfl) (by decide) zBy H enc w base n [c2] x2 f2
     obtain ⟨y3,g3,b3⟩:=zAs (e:=68) Tryz.underlying26 (r:=rDep) (by kernel_rfl) (by decide) zBy H enc w base n [c3] x3 f3
     refine ⟨⟨y0,y1,y2,y3⟩,⟨_,_,_,_,rfl,g0,g1,g2,g3⟩,?_⟩
     simp only[zF6,Rows.uptoBulk,Rows.uptoBulkAll,List.map_cons,List.map_nil] at *
     omega
end Go.Proofs.YtminjjdnmpaaoaaGreatDoor
namespace Go.Proofs.YtminjjdnmpaaoaaGreatDoor
abbrev Rk:=Int×Int
def Has (l:List Rk) (n:Int):Prop:=∃ x∈l,x.1≤n∧n≤x.2
theorem zKI (n:Int):¬Has [] n:=fun ⟨x,h,_⟩=>by simp at h
theorem zMi {x:Rk} {l:List Rk} {n:Int}:Has (x::l) n↔(x.1≤n∧n≤x.2)∨Has l n:=by
 unfold Has
 constructor
 ·rintro ⟨y,hy,h⟩
  rcases List.mem_cons.1 hy with rfl|hy
  ·exact .inl h
  ·exact .inr ⟨y,hy,h⟩
 ·rintro (h|⟨y,hy,h⟩)
  ·exact ⟨x,by simp,h⟩
  ·exact ⟨y,by simp[hy],h⟩
theorem zJL {l m:List Rk} {n:Int}:Has (l++m) n↔Has l n∨Has m n:=by
 unfold Has
 constructor
 ·rintro ⟨y,hy,h⟩
  rcases List.mem_append.1 hy with hy|hy
  ·exact .inl ⟨y,hy,h⟩
  ·exact .inr ⟨y,hy,h⟩
 ·rintro (⟨y,hy,h⟩|⟨y,hy,h⟩)
  ·exact ⟨y,by simp[hy],h⟩
  ·exact ⟨y,by simp[hy],h⟩
theorem zMz {x:Rk} {n:Int}:Has [x] n↔x.1≤n∧n≤x.2:=by rw[zMi];simp[zKI]
def lastR:Int:=999999999
def zLo (q:Int→Bool):List Int→Prop
 | []=>False
 | [m]=>m=lastR+1
 | m::m'::L=>m<m'∧(∀ n,m≤n→n<m'→q n=q m)∧zLo q (m'::L)
theorem zLo.le {q:Int→Bool}:∀ {L:List Int} {m:Int},zLo q (m::L)→m≤lastR+1:=by
 intro L
 induction L with
 | nil=>intro m h;have:m=lastR+1:=h;omega
 | cons m' L ih=>intro m h;have:=ih h.2.2;have:=h.1;omega
open Classical in
noncomputable def hasB (l:List Rk) (n:Int):Bool:=decide (Has l n)
open Classical in
theorem zMW {l:List Rk} {n:Int} (h:Has l n):hasB l n=true:=by unfold hasB;exact decide_eq_true h
open Classical in
theorem zNV {l:List Rk} {n:Int} (h:¬Has l n):hasB l n=false:=by unfold hasB;exact decide_eq_false h
