/- Placing a graph, in plain words: what is settled stays as it is; all edges are settled; each directory was put for a lookup. -/
import Derived.Test.YtminjjdnmpaaoaaGreatDoorMp11
import Derived.Test.YtminjjdnmpaaoaaGreatDoorMp10
import Derived.Test.YtminjjdnmpaaoaaGreatDoorMp02
import Derived.Laws.OwnMore
import Derived.Test.YtminjjdnmpaaoaaGreatDoorAl
set_option linter.all false
namespace Go.Proofs.YtminjjdnmpaaoaaGreatDoor
open Go
theorem zEX (p:Dir→Bool) (d:Dir):∀ (l:List Dir) (k:Nat),zAn p (l++[d]) k=if zAn p l k=-1 then (if p d=true then ((k+l.length:Nat):Int) else -1) else zAn p l k
 | [],k=>by
   rw[List.nil_append,zAn,zAn,zAn,if_pos rfl]
   cases p d<;>rfl
 | x::l,k=>by
   rw[List.cons_append,zAn,zAn]
   cases hx:p x with
   | true=>
     simp only[cond_true]
     rw[if_neg (by omega)]
   | false=>
     simp only[cond_false]
     rw[zEX p d l (k+1)]
     simp only[List.length_cons]
     rw[show k+1+l.length=k+(l.length+1) from by omega]
theorem zBk (T:List Dir) (d:Dir) (p:List ByteArray):findI (T++[d]) p=if 0≤findI T p then findI T p else if d.path=p then (T.length:Int) else -1:=by
 have h:=zEX (fun d=>eqB d.path p) d T 0
 have hr:=(zFF T p).1
 unfold findI zCl at hr ⊢
 rw[h]
 by_cases h1:zAn (fun d=>eqB d.path p) T 0=-1
 ·rw[if_pos h1,h1]
  by_cases h2:d.path=p
  ·rw[if_pos (zAa h2),if_neg (by decide),if_pos h2,Nat.zero_add]
  ·rw[if_neg (by rw[zAU h2];decide),if_neg (by decide),if_neg h2]
 ·rw[if_neg h1,if_pos (by omega)]
theorem lookI_spec {T:List Dir} {i:Nat} {d:Dir} (hi:T[i]?=some d) {s:ByteArray} (hs:nameB s=true):(lookI T (i:Int) s=-1∧∀ k,k≤d.path.length→findI T (d.path.take k++[s])<0) ∨
  ∃ k,k≤d.path.length∧lookI T (i:Int) s=findI T (d.path.take k++[s])∧0≤findI T (d.path.take k++[s])∧∀ j,k<j→j≤d.path.length→findI T (d.path.take j++[s])<0:=by
 obtain ⟨hl,e⟩:=gS.1 hi
 rw[zMG hl,hs,cond_true,e]
 rcases lookDown_spec T d.path s (d.path.length+1) with ⟨h1,h2⟩|⟨k,h1,h2,h3,h4⟩
 ·exact .inl ⟨h1,fun k hk=>h2 k (by omega)⟩
 ·exact .inr ⟨k,by omega,h2,h3,fun j hj1 hj2=>h4 j hj1 (by omega)⟩
theorem zDv {T:List Dir} {i:Nat} {d:Dir} (hi:T[i]?=some d) {s:ByteArray} (hs:nameB s=true) {k:Nat} (hk:k≤d.path.length) (h0:0≤findI T (d.path.take k++[s])) (h1:∀ j,k<j→j≤d.path.length→findI T (d.path.take j++[s])<0) :
  lookI T (i:Int) s=findI T (d.path.take k++[s]):=by
 rcases lookI_spec hi hs with ⟨_,h⟩|⟨k',g1,g2,g3,g4⟩
 ·have:=h k hk;omega
 ·rcases Nat.lt_trichotomy k k' with h|h|h
  ·have:=h1 k' h g1;omega
  ·rw[h];exact g2
  ·have:=g4 k h hk;omega
theorem zFA {q:PlIn} {at_:Nat} {done:List ByteArray} {st:PlSt} (h:PlInv q at_ done st) {d:Dir} (hd:st.1[at_]?=some d) (kind:Nat) {e:Edge} (hs:e.label∉done) :
  ∃ k,zB5 st.1 st.2 d.path e.label k∧homeP q st at_ kind e=idxK st.1 d.path k:=by
 unfold homeP
 by_cases hk:kind=2
 ·rw[if_pos hk,zBE hd]
  rcases spotI_min st.1 st.2 q.old d.path e.label (zAz q e.to.toNat) (fun k hk=>by
   obtain ⟨i,e,_,h1,_⟩:=h.find hd hk
   unfold idxK;omega) with ⟨h1,_⟩|⟨k,h1,h2,_⟩
  ·have:=(zI7 h hd q.old hs (zAz q e.to.toNat)).lo
   omega
  ·exact ⟨k,h1,h2⟩
 ·rw[if_neg hk]
  have hf:=zAg h.apart hd
  refine ⟨d.path.length,⟨nR _,fun k' h1 h2=>?_,?_⟩,?_⟩
  ·rw[List.take_of_length_le h1];exact h.fresh hd hs
  ·unfold idxK;rw[List.take_length,hf,Int.toNat_natCast];exact h.quiet hd hs
  ·unfold idxK;rw[List.take_length,hf]
structure zAc (q:PlIn) (at_:Nat) (done:List ByteArray) (st:PlSt):Prop where
 inv:PlInv q at_ done st
 look:∀ x∈st.2,nameB x.label=true∧lookI st.1 (x.frm:Int) x.label=(x.dst:Int)
 all:∀ (i:Nat) (d:Dir),st.1[i]?=some d→∀ e∈(zAY q d.node.toNat).edges,(i<at_∨(i=at_∧e.label∈done))→∃ x∈st.2,x.frm=i∧x.label=e.label∧∃ f,st.1[x.dst]?=some f∧f.node=e.to
 born:∀ (j:Nat) (d:Dir),st.1[j]?=some d→j≠0→∃ (i:Nat) (d':Dir) (e:Edge),i<j∧st.1[i]?=some d'∧e∈(zAY q d'.node.toNat).edges∧(⟨i,e.label,j⟩:Stl)∈st.2
 last:∀ (j:Nat) (d:Dir),st.1[j]?=some d→j≠0→∃ p,d.path=p++[d.pack.name]
 bnd:(st.1.length:Int) - 1≤max 0 q.dirs∧∀ (j:Nat) (d:Dir),st.1[j]?=some d→j≠0→((textB d.path).size:Int)≤q.path
theorem zAc.start (q:PlIn):zAc q 0 [] ([dirZ0],[]) where
 inv:=PlInv.start q
 look:=fun x hx=>by cases hx
 all:=fun i d hi e he h=>by
  rcases h with h|⟨_,h⟩
  ·omega
  ·cases h
 born:=fun j d hj h0=>by
  cases j with
  | zero=>exact absurd rfl h0
  | succ j=>cases hj
 last:=fun j d hj h0=>by
  cases j with
  | zero=>exact absurd rfl h0
  | succ j=>cases hj
 bnd:=⟨by show ((1:Nat):Int) - 1≤_;omega,fun j d hj h0=>by
  cases j with
  | zero=>exact absurd rfl h0
  | succ j=>cases hj⟩
theorem zK6 {q:PlIn} {at_:Nat} {done:List ByteArray} {st:PlSt} (h:zAc q at_ done st) {d:Dir} (hd:st.1[at_]?=some d) {s:ByteArray} {k:Nat} (hv:zB5 st.1 st.2 d.path s k) {nd:Dir} (hnd:nd.path=d.path.take k++[s]) :
  ∀ x∈st.2,lookI (st.1++[nd]) (x.frm:Int) x.label=(x.dst:Int):=by
 intro x hx
 obtain ⟨hnb,hl⟩:=h.look x hx
 obtain ⟨h1,h2,_⟩:=h.inv.stl x hx
 have hf:=zAe h1
 have hf':(st.1++[nd])[x.frm]?=some (dirAt st.1 x.frm):=by rw[List.getElem?_append_left h1];exact hf
 rcases lookI_spec hf hnb with ⟨g1,_⟩|⟨m,g1,g2,g3,g4⟩
 ·omega
 have hm:findI (st.1++[nd]) ((dirAt st.1 x.frm).path.take m++[x.label])=(x.dst:Int):=by rw[zBk,if_pos g3,←g2,hl]
 rw[zDv hf' hnb g1 (by rw[hm];omega) fun j hj1 hj2=>?_,hm]
 have hneg:=g4 j hj1 hj2
 rw[zBk,if_neg (by omega)]
 by_cases hp:nd.path=(dirAt st.1 x.frm).path.take j++[x.label]
 ·exfalso
  rw[hnd] at hp
  have hlen:=congrArg List.length hp
  have hsp:d.path.take k=(dirAt st.1 x.frm).path.take j∧[s]=[x.label]:=by
   refine List.append_inj hp ?_
   rw[List.length_append,List.length_append,List.length_singleton,List.length_singleton] at hlen
   omega
  have hs:x.label=s:=by have:=hsp.2;simp only[List.cons.injEq,and_true] at this;exact this.symm
  obtain ⟨ih,eh,_,hih,heh,hehp⟩:=h.inv.find hd hv.1
  have hq:=hv.2.2
  unfold idxK zBq at hq
  rw[hih,Int.toNat_natCast,List.any_eq_false] at hq
  apply hq x hx
  unfold zBd
  rw[zBE heh,hehp]
  simp only[Bool.and_eq_true,decide_eq_true_eq]
  refine ⟨hs,?_,?_⟩
  ·rw[zEP,hsp.1]
   exact List.take_prefix _ _
  ·have hdst:=zAe h2
   have hpd:(dirAt st.1 x.dst).path=(dirAt st.1 x.frm).path.take m++[x.label]:=by
    obtain ⟨j',d',e1,e2,e3⟩:=zBs g3
    have:j'=x.dst:=by omega
    rw[this,hdst] at e2
    cases e2
    exact e3
   show (dirAt st.1 x.dst).path.length≤_
   rw[hpd,hsp.1,List.length_append,List.length_take,List.length_take,List.length_singleton]
   omega
 ·rw[if_neg hp];decide
theorem zMb {q:PlIn} {at_:Nat} {done:List ByteArray} {st:PlSt} (h:zAc q at_ done st) {d:Dir} (hd:st.1[at_]?=some d) {s:ByteArray} (hs:nameB s=true) {k:Nat} (hv:zB5 st.1 st.2 d.path s k) {nd:Dir} (hnd:nd.path=d.path.take k++[s]) :
  lookI (st.1++[nd]) (at_:Int) s=(st.1.length:Int):=by
 have hd':(st.1++[nd])[at_]?=some d:=by rw[List.getElem?_append_left (gS.1 hd).1];exact hd
 have hk:=hv.2.1 k (nR _) hv.1
 have hm:findI (st.1++[nd]) (d.path.take k++[s])=(st.1.length:Int):=by rw[zBk,if_neg (by omega),if_pos hnd]
 rw[zDv hd' hs hv.1 (by rw[hm];omega) fun j hj1 hj2=>?_,hm]
 have hc:=hv.2.1 j (by omega) hj2
 rw[zBk,if_neg (by omega)]
 by_cases hp:nd.path=d.path.take j++[s]
 ·exfalso
  rw[hnd] at hp
  have:=congrArg List.length hp
  rw[List.length_append,List.length_append,List.length_take,List.length_take,List.length_singleton] at this
  omega
 ·rw[if_neg hp];decide
theorem zAl {q:PlIn} {j:Nat} {n:Node} (h:q.g[j]?=some n):zAY q j=n:=by
 unfold zAY;rw[List.getD_eq_getElem?_getD,h];rfl
theorem zAc.step {q:PlIn} {at_:Nat} {done:List ByteArray} {st st':PlSt} (h:zAc q at_ done st) (hm:mayPl q.g q.ps=true) (hq:q.path≤1024) (hqd:q.dirs≤256) {d:Dir} (hd:st.1[at_]?=some d)
  {n:Node} (hn:q.g[d.node.toNat]?=some n) {e:Edge} (he:e∈n.edges) (hs:e.label∉done) {kind:Nat} (hst:stepE q at_ kind e st=.ok st'):zAc q at_ (done++[e.label]) st':=by
 obtain ⟨hinv,_,_⟩:=zDE h.inv hm hq hqd hd hn he hs hst
 have hdl:=(gS.1 hd).1
 obtain ⟨e1,e2,e3,e4,e5,e6⟩:=zB4 hm hn he
 have hnd:=zAl hn
 unfold stepE at hst
 by_cases hr:zA0 q st at_ kind e=true
 ·rw[if_pos hr] at hst
  cases hst
  unfold zA0 at hr
  simp only[Bool.and_eq_true,decide_eq_true_eq] at hr
  obtain ⟨r1,r2,_⟩:=hr
  have hlt:(lookI st.1 (at_:Int) e.label).toNat<st.1.length:=by
   have:=(zCJ st.1 (at_:Int) e.label).2
   omega
  exact {
   inv:=hinv
   look:=fun x hx=>by
    rcases List.mem_append.1 hx with hx|hx
    ·exact h.look x hx
    ·rw[List.mem_singleton.1 hx]
     exact ⟨e6,by show lookI st.1 (at_:Int) e.label=((lookI st.1 (at_:Int) e.label).toNat:Int);omega⟩
   all:=fun i d' hi e' he' hc=>by
    by_cases hnew:i=at_∧e'.label=e.label
    ·obtain ⟨rfl,hl⟩:=hnew
     have hi':st.1[i]?=some d':=hi
     rw[hd] at hi'
     cases hi'
     rw[hnd] at he'
     have hee:=zBR (f:=fun e:Edge=>e.label) (zA7 hm hn) he' he hl
     subst hee
     exact ⟨_,List.mem_append.2 (.inr (List.mem_singleton.2 rfl)),rfl,rfl,_,zAe hlt,r2⟩
    ·have hc':i<at_∨(i=at_∧e'.label∈done):=by
      rcases hc with hc|⟨hc1,hc2⟩
      ·exact .inl hc
      ·rcases List.mem_append.1 hc2 with hc2|hc2
       ·exact .inr ⟨hc1,hc2⟩
       ·exact absurd ⟨hc1,List.mem_singleton.1 hc2⟩ hnew
     obtain ⟨x,hx,g1,g2,f,g3,g4⟩:=h.all i d' hi e' he' hc'
     exact ⟨x,List.mem_append.2 (.inl hx),g1,g2,f,g3,g4⟩
   born:=fun j d' hj h0=>by
    obtain ⟨i,f,e',g1,g2,g3,g4⟩:=h.born j d' hj h0
    exact ⟨i,f,e',g1,g2,g3,List.mem_append.2 (.inl g4)⟩
   last:=h.last
   bnd:=h.bnd}
 rw[if_neg hr] at hst
 by_cases hk1:kind=1
 ·rw[if_pos hk1] at hst;cases hst
 rw[if_neg hk1] at hst
 obtain ⟨k,hv,hk⟩:=zFA h.inv hd kind hs
 obtain ⟨i,f,_,hif,hi,hfp⟩:=h.inv.find hd hv.1
 have hhi:homeP q st at_ kind e=(i:Int):=by rw[hk];exact hif
 rw[hhi,Int.toNat_natCast] at hst
 have hno:findI st.1 (f.path++[e.label])<0:=by rw[hfp];exact hv.2.1 k (nR _) hv.1
 cases hp:putP q st.1 i e.to.toNat with
 | error c=>rw[hp] at hst;cases hst
 | ok T=>
   rw[hp] at hst
   cases hst
   obtain ⟨hT,_⟩:=zLq h.inv hd hs e6 (node:=e.to.toNat) (by omega) (by omega) e4 hq hqd hi (by rw[hfp];exact List.take_prefix _ _) hno hp
   obtain ⟨nd,hndd⟩:∃ nd:Dir,nd=⟨f.path++[e.label],zAz q e.to.toNat,((e.to.toNat:Nat):Int)⟩:=⟨_,rfl⟩
   rw[←hndd] at hT
   have hndp:nd.path=d.path.take k++[e.label]:=by rw[hndd,hfp]
   have hndn:nd.node=e.to:=by rw[hndd];show ((e.to.toNat:Nat):Int)=_;omega
   subst hT
   have hat:∀ (j:Nat) (d':Dir),(st.1++[nd])[j]?=some d'→st.1[j]?=some d'∨(j=st.1.length∧d'=nd):=fun j d' hj=>by
    rcases Nat.lt_trichotomy j st.1.length with hlt|heq|hgt
    ·rw[List.getElem?_append_left hlt] at hj;exact .inl hj
    ·rw[heq,List.getElem?_append_right (nR _),Nat.sub_self] at hj
     cases hj
     exact .inr ⟨heq,rfl⟩
    ·rw[List.getElem?_eq_none (by rw[List.length_append,List.length_singleton];omega)] at hj
     cases hj
   have hold:∀ (j:Nat) (d':Dir),st.1[j]?=some d'→(st.1++[nd])[j]?=some d':=fun j d' hj=>by
    rw[List.getElem?_append_left (gS.1 hj).1];exact hj
   have hlast:(st.1++[nd])[st.1.length]?=some nd:=by rw[List.getElem?_append_right (nR _),Nat.sub_self];rfl
   have hput:=hp
   unfold putP at hput
   rw[zBE hi,e4] at hput
   by_cases c1:q.path<((textB (f.path++[e.label])).size:Int)
   ·rw[if_pos c1] at hput;cases hput
   rw[if_neg c1] at hput
   by_cases c2:q.dirs≤(st.1.length:Int) - 1
   ·rw[if_pos c2] at hput;cases hput
   exact {
    inv:=hinv
    look:=fun x hx=>by
     rcases List.mem_append.1 hx with hx|hx
     ·exact ⟨(h.look x hx).1,zK6 h hd hv hndp x hx⟩
     ·rw[List.mem_singleton.1 hx]
      exact ⟨e6,zMb h hd e6 hv hndp⟩
    all:=fun i' d' hi' e' he' hc=>by
     have hilt:i'<st.1.length:=by rcases hc with hc|hc<;>omega
     have hi2:st.1[i']?=some d':=by
      rcases hat i' d' hi' with g|⟨g,_⟩
      ·exact g
      ·omega
     by_cases hnew:i'=at_∧e'.label=e.label
     ·obtain ⟨rfl,hl⟩:=hnew
      rw[hd] at hi2
      cases hi2
      rw[hnd] at he'
      have hee:=zBR (f:=fun e:Edge=>e.label) (zA7 hm hn) he' he hl
      subst hee
      exact ⟨_,List.mem_append.2 (.inr (List.mem_singleton.2 rfl)),rfl,rfl,_,hlast,hndn⟩
     ·have hc':i'<at_∨(i'=at_∧e'.label∈done):=by
       rcases hc with hc|⟨hc1,hc2⟩
       ·exact .inl hc
       ·rcases List.mem_append.1 hc2 with hc2|hc2
        ·exact .inr ⟨hc1,hc2⟩
        ·exact absurd ⟨hc1,List.mem_singleton.1 hc2⟩ hnew
      obtain ⟨x,hx,g1,g2,f',g3,g4⟩:=h.all i' d' hi2 e' he' hc'
      exact ⟨x,List.mem_append.2 (.inl hx),g1,g2,f',hold _ _ g3,g4⟩
    born:=fun j d' hj h0=>by
     rcases hat j d' hj with g|⟨g,_⟩
     ·obtain ⟨i2,f2,e',g1,g2,g3,g4⟩:=h.born j d' g h0
      exact ⟨i2,f2,e',g1,hold _ _ g2,g3,List.mem_append.2 (.inl g4)⟩
     ·exact ⟨at_,d,e,by omega,hold _ _ hd,by rw[hnd];exact he,List.mem_append.2 (.inr (List.mem_singleton.2 (by rw[g])))⟩
    last:=fun j d' hj h0=>by
     rcases hat j d' hj with g|⟨_,rfl⟩
     ·exact h.last j d' g h0
     ·refine ⟨d.path.take k,?_⟩
      rw[hndp,hndd]
      show _=_++[(zAz q e.to.toNat).name]
      rw[e4]
    bnd:=by
     refine ⟨by show ((st.1++[nd]).length:Int) - 1≤_;rw[List.length_append,List.length_singleton];omega,fun j d' hj h0=>?_⟩
     rcases hat j d' hj with g|⟨_,rfl⟩
     ·exact h.bnd.2 j d' g h0
     ·rw[hndp,←hfp];omega}
theorem zAc.next {q:PlIn} {at_:Nat} {done:List ByteArray} {st:PlSt} (h:zAc q at_ done st) {d:Dir} (hd:st.1[at_]?=some d) (hall:∀ e∈(zAY q d.node.toNat).edges,e.label∈done):zAc q (at_+1) [] st:=
 { h with
   inv:=h.inv.next
   all:=fun i d' hi e he hc=>by
    rcases hc with hc|⟨_,hc⟩
    ·by_cases hia:i=at_
     ·subst hia
      rw[hd] at hi
      cases hi
      exact h.all i d hd e he (.inr ⟨rfl,hall e he⟩)
     ·exact h.all i d' hi e he (.inl (by omega))
    ·cases hc}
theorem zDo {q:PlIn} (hm:mayPl q.g q.ps=true) (hq:q.path≤1024) (hqd:q.dirs≤256) {at_:Nat} {d:Dir} {n:Node} (hn:q.g[d.node.toNat]?=some n) {kind:Nat}:∀ (m k:Nat) (done:List ByteArray) (st st':PlSt),n.edges.length=k+m→st.1[at_]?=some d→zBg q n kind k done→zAc q at_ done st→zAh q at_ n kind (n.edges.drop k) st=.ok st' →
  ∃ done',zBg q n kind n.edges.length done'∧(∀ s∈done,s∈done')∧(∀ (j:Nat) (e:Edge),k≤j→n.edges[j]?=some e→kindP q n e=kind→e.label∈done')∧zAc q at_ done' st'∧st'.1[at_]?=some d:=by
 intro m
 induction m with
 | zero=>
   intro k done st st' hl hd hdn h hst
   rw[dN (by omega),zAh] at hst
   cases hst
   exact ⟨done,by rw[hl];exact hdn,fun s hs=>hs,fun j e hj he _=>by
    have:=(gS.1 he).1
    omega,h,hd⟩
 | succ m ih=>
   intro k done st st' hl hd hdn h hst
   obtain ⟨e,he⟩:∃ e,n.edges[k]?=some e:=⟨_,gE (by omega)⟩
   rw[zBo q at_ n kind he] at hst
   by_cases hk:kindP q n e=kind
   ·rw[if_pos hk] at hst
    cases hs:stepE q at_ kind e st with
    | error c=>rw[hs] at hst;cases hst
    | ok st1=>
      rw[hs] at hst
      have hno:=hdn.not (zA7 hm hn) he hk
      have hmem:=mG he
      have h1:=h.step hm hq hqd hd hn hmem hno hs
      obtain ⟨_,⟨l,hl1⟩,_⟩:=zDE h.inv hm hq hqd hd hn hmem hno hs
      have hd1:st1.1[at_]?=some d:=by rw[hl1,List.getElem?_append_left (gS.1 hd).1];exact hd
      obtain ⟨done',g1,g2,g3,g4,g5⟩:=ih (k+1) _ st1 st' (by omega) hd1 (hdn.step he hk) h1 hst
      refine ⟨done',g1,fun s hs'=>g2 s (List.mem_append.2 (.inl hs')),fun j e' hj he' hk'=>?_,g4,g5⟩
      by_cases hjk:j=k
      ·subst hjk
       rw[he] at he'
       cases he'
       exact g2 _ (by simp)
      ·exact g3 j e' (by omega) he' hk'
   ·rw[if_neg hk] at hst
    obtain ⟨done',g1,g2,g3,g4,g5⟩:=ih (k+1) done st st' (by omega) hd (hdn.more (by omega)) h hst
    refine ⟨done',g1,g2,fun j e' hj he' hk'=>?_,g4,g5⟩
    by_cases hjk:j=k
    ·subst hjk
     rw[he] at he'
     cases he'
     exact absurd hk' hk
    ·exact g3 j e' (by omega) he' hk'
theorem zG0 {q:PlIn} (hm:mayPl q.g q.ps=true) (hq:q.path≤1024) (hqd:q.dirs≤256) {at_:Nat} {st st':PlSt} {d:Dir} (hd:st.1[at_]?=some d) (h:zAc q at_ [] st) (hst:dirP q at_ st=.ok st'):zAc q (at_+1) [] st':=by
 have hnode:∃ n,q.g[d.node.toNat]?=some n:=by
  have hg:=(zBG hm).1
  by_cases h0:at_=0
  ·subst h0
   have:=(h.inv.root d hd).2.1
   exact ⟨_,gE (by rw[this];show 0<_;omega)⟩
  ·have:=h.inv.node at_ d hd h0
   exact ⟨_,gE (by omega)⟩
 obtain ⟨n,hn⟩:=hnode
 unfold dirP at hst
 rw[zCH hd,zAl hn,zAt] at hst
 cases h1:zAh q at_ n 1 n.edges st with
 | error c=>rw[h1] at hst;cases hst
 | ok st1=>
   rw[h1] at hst
   simp only at hst
   obtain ⟨d1,a1,a2,a3,a4,a5⟩:=zDo hm hq hqd hn n.edges.length 0 [] st st1 (by omega) hd (fun s hs=>by cases hs) h (by rw[List.drop_zero];exact h1)
   rw[zAt] at hst
   cases h2:zAh q at_ n 2 n.edges st1 with
   | error c=>rw[h2] at hst;cases hst
   | ok st2=>
     rw[h2] at hst
     simp only at hst
     obtain ⟨d2,b1,b2,b3,b4,b5⟩:=zDo hm hq hqd hn n.edges.length 0 d1 st1 st2 (by omega) a5 a1.turn a4 (by rw[List.drop_zero];exact h2)
     rw[zAt] at hst
     cases h3:zAh q at_ n 3 n.edges st2 with
     | error c=>rw[h3] at hst;cases hst
     | ok st3=>
       rw[h3] at hst
       simp only at hst
       rw[zAt] at hst
       cases hst
       obtain ⟨d3,c1,c2,c3,c4,c5⟩:=zDo hm hq hqd hn n.edges.length 0 d2 st2 st' (by omega) b5 b1.turn b4 (by rw[List.drop_zero];exact h3)
       refine c4.next c5 fun e he=>?_
       rw[zAl hn] at he
       obtain ⟨j,hj,rfl⟩:=List.getElem_of_mem he
       have hje:=gE hj
       have hkr:=zAu q n n.edges[j]
       have hk:kindP q n n.edges[j]=1∨kindP q n n.edges[j]=2∨kindP q n n.edges[j]=3:=by omega
       rcases hk with hk|hk|hk
       ·exact c2 _ (b2 _ (a3 j _ (nZ _) hje hk))
       ·exact c2 _ (b3 j _ (nZ _) hje hk)
       ·exact c3 j _ (nZ _) hje hk
theorem zJq {q:PlIn} (hm:mayPl q.g q.ps=true) (hq:q.path≤1024) (hqd:q.dirs≤256):∀ (f at_:Nat) (st st':PlSt),f+at_=258→zAc q at_ [] st→dirsP q f at_ st=.ok st'→∃ a,st'.1.length≤a∧zAc q a [] st':=by
 intro f
 induction f with
 | zero=>
   intro at_ st st' hf h hst
   rw[dirsP] at hst
   cases hst
   exact ⟨at_,by have:=h.inv.len;omega,h⟩
 | succ f ih=>
   intro at_ st st' hf h hst
   rw[dirsP] at hst
   by_cases hlt:at_<st.1.length
   ·rw[if_pos hlt] at hst
    cases hd:dirP q at_ st with
    | error c=>rw[hd] at hst;cases hst
    | ok st1=>
      rw[hd] at hst
      exact ih (at_+1) st1 st' (by omega) (zG0 hm hq hqd (zAe hlt) h hd) hst
   ·rw[if_neg hlt] at hst
    cases hst
    exact ⟨at_,by omega,h⟩
theorem zFh {q:PlIn} {st:PlSt} (h:zBH q=.ok st):mayPl q.g q.ps=true∧1≤q.dirs∧q.dirs≤256∧1≤q.path∧q.path≤1024∧∃ a,st.1.length≤a∧zAc q a [] st:=by
 unfold zBH at h
 by_cases h1:q.dirs<1∨256<q.dirs∨q.path<1∨1024<q.path
 ·rw[if_pos h1] at h;cases h
 rw[if_neg h1] at h
 by_cases h2:zC6 q.old=true
 ·rw[if_pos h2] at h;cases h
 rw[if_neg h2] at h
 by_cases h3:mayPl q.g q.ps=false
 ·rw[if_pos h3] at h;cases h
 rw[if_neg h3] at h
 rw[Bool.not_eq_false] at h3
 exact ⟨h3,by omega,by omega,by omega,by omega,zJq h3 (by omega) (by omega) 258 0 _ st rfl (zAc.start q) h⟩
theorem zNK:∀ (l:List UInt8) (x:UInt8) (r:List UInt8),l<l++x::r
 | [],x,r=>List.nil_lt_cons x r
 | y::l,x,r=>by
   rw[List.cons_append,List.cons_lt_cons_iff]
   exact .inr ⟨rfl,zNK l x r⟩
theorem zEH {p:List ByteArray} (h:p.all nameB=true) (h0:p≠[]):(textB p).data.toList=zAp p:=by
 unfold textB
 rw[if_neg h0,if_pos h]
theorem zMI {p:List ByteArray} {n:ByteArray} (h:(p++[n]).all nameB=true):lessB (textB p) (textB (p++[n]))=true:=by
 rw[zBv,decide_eq_true_eq,zEH h (by simp)]
 have hj:zAp (p++[n])=zAp p++(stepB.data.toList++n.data.toList):=by
  rw[zD8]
  simp[zAp]
 have hs:stepB.data.toList=47::[109,111,100,117,108,101,115,47]:=by decide +kernel
 rw[hj,hs]
 by_cases h0:p=[]
 ·subst h0
  show ([47]:List UInt8)<47::([109,111,100,117,108,101,115,47]++n.data.toList)
  rw[List.cons_lt_cons_iff]
  exact .inr ⟨rfl,List.nil_lt_cons _ _⟩
 ·have hp:p.all nameB=true:=by
   rw[List.all_append,Bool.and_eq_true] at h
   exact h.1
  rw[zEH hp h0]
  exact zNK _ _ _
theorem zGI {p:List ByteArray} (h:p.all nameB=true) (h0:p≠[]):lessB (textB []) (textB p)=true:=by
 rw[zBv,decide_eq_true_eq,zEH h h0]
 obtain ⟨x,t,rfl⟩:∃ x t,p=x::t:=by
  cases p with
  | nil=>exact absurd rfl h0
  | cons x t=>exact ⟨x,t,rfl⟩
 have hs:stepB.data.toList=47::[109,111,100,117,108,101,115,47]:=by decide +kernel
 rw[zAp,hs]
 show ([47]:List UInt8)<47::_
 rw[List.cons_lt_cons_iff]
 exact .inr ⟨rfl,List.nil_lt_cons _ _⟩
theorem zJy {p:List ByteArray} (h:p.all nameB=true) (h0:p≠[]):textB p≠⟨#[]⟩:=fun e=>by
 have:=zGI h h0
 rw[e,zBv,decide_eq_true_eq] at this
 exact absurd this (List.not_lt_nil _)
theorem zHI {T:List Dir} {p:List ByteArray}:0≤findI T p↔∃ d∈T,d.path=p:=by
 constructor
 ·intro h
  obtain ⟨j,d,_,h1,h2⟩:=zBs h
  exact ⟨d,mG h1,h2⟩
 ·rintro ⟨d,hd,rfl⟩
  rcases Int.lt_or_le (findI T d.path) 0 with hl|hl
  ·exact absurd rfl (zEN hl hd)
  ·exact hl
theorem zGK {T U:List Dir} (hp:U.Perm T) (p:List ByteArray):0≤findI U p↔0≤findI T p:=by
 rw[zHI,zHI]
 constructor
 ·rintro ⟨d,hd,h⟩;exact ⟨d,hp.mem_iff.1 hd,h⟩
 ·rintro ⟨d,hd,h⟩;exact ⟨d,hp.mem_iff.2 hd,h⟩
theorem zMp {T:List Dir} (hn:(T.map (·.path)).Nodup) {d e:Dir} (hd:d∈T) (he:e∈T) (h:d.path=e.path):d=e:=zBR (f:=fun d:Dir=>d.path) hn hd he h
theorem look_perm {T U:List Dir} (hp:U.Perm T) (hn:(T.map (·.path)).Nodup) {i i':Nat} {d:Dir} (hi:T[i]?=some d) (hi':U[i']?=some d) {s:ByteArray} (hs:nameB s=true) :
  (lookI T (i:Int) s=-1∧lookI U (i':Int) s=-1)∨∃ (j j':Nat) (f:Dir),lookI T (i:Int) s=(j:Int)∧lookI U (i':Int) s=(j':Int)∧T[j]?=some f∧U[j']?=some f:=by
 have hneg:∀ p,findI U p<0↔findI T p<0:=fun p=>by
  have:=zGK hp p
  omega
 rcases lookI_spec hi hs with ⟨h1,h2⟩|⟨k,h1,h2,h3,h4⟩
 ·left
  refine ⟨h1,?_⟩
  rcases lookI_spec hi' hs with ⟨g1,_⟩|⟨k,g1,_,g3,_⟩
  ·exact g1
  ·have:=h2 k g1
   have:=(hneg _).2 this
   omega
 ·right
  have h3':0≤findI U (d.path.take k++[s]):=(zGK hp _).2 h3
  have hU:=zDv hi' hs h1 h3' fun j hj1 hj2=>(hneg _).2 (h4 j hj1 hj2)
  obtain ⟨j,f,e1,e2,e3⟩:=zBs h3
  obtain ⟨j',f',e1',e2',e3'⟩:=zBs h3'
  have hff:f'=f:=zMp hn (hp.mem_iff.1 (mG e2')) (mG e2) (by rw[e3',e3])
  exact ⟨j,j',f,by rw[h2,e1],by rw[hU,e1'],e2,by rw[←hff];exact e2'⟩
theorem zDg {U:List Dir} {d:Dir} (h:d∈U):∃ i:Nat,U[i]?=some d:=by
 obtain ⟨i,hi,e⟩:=List.getElem_of_mem h
 exact ⟨i,by rw[gE hi,e]⟩
theorem zBX {q:PlIn} {a:Nat} {done:List ByteArray} {st:PlSt} (h:PlInv q a done st):((sortD st.1).map (·.path)).Nodup:=((zA1 st.1).map (·.path)).nodup_iff.2 h.apart
theorem zEU {q:PlIn} {a:Nat} {done:List ByteArray} {st:PlSt} (h:PlInv q a done st):(sortD st.1).Pairwise fun x y=>lessB (textB x.path) (textB y.path)=true:=by
 have h1:=zEZ st.1
 have h2:((sortD st.1).map fun d=>textB d.path).Nodup:=((zA1 st.1).map fun d=>textB d.path).nodup_iff.2 (zFL h)
 rw[List.nodup_iff_pairwise_ne,List.pairwise_map] at h2
 refine (h1.and h2).imp fun {x y} hxy=>?_
 obtain ⟨g1,g2⟩:=hxy
 unfold upD at g1
 cases hl:lessB (textB x.path) (textB y.path) with
 | true=>rfl
 | false=>
   rw[zBv,decide_eq_false_iff_not,List.not_lt] at g1 hl
   exact absurd (ByteArray.ext (Array.toList_inj.1 (List.le_antisymm g1 hl))) g2
theorem zHD {U:List Dir} (h:U.Pairwise fun x y=>lessB (textB x.path) (textB y.path)=true) {i j:Nat} {d e:Dir} (hi:U[i]?=some d) (hj:U[j]?=some e) (hl:lessB (textB d.path) (textB e.path)=true):i<j:=by
 obtain ⟨h1,e1⟩:=gS.1 hi
 obtain ⟨h2,e2⟩:=gS.1 hj
 rcases Nat.lt_trichotomy i j with hlt|heq|hgt
 ·exact hlt
 ·subst heq
  rw[hi] at hj
  cases hj
  rw[zBB] at hl
  cases hl
 ·have:=List.pairwise_iff_getElem.1 h j i h2 h1 hgt
  rw[e1,e2] at this
  have:=zCQ hl this
  rw[zBB] at this
  cases this
theorem zKX {t:List Dir}:∀ {l:List Dir} {k:Nat},(∀ (j:Nat) (d:Dir),l[j]?=some d→(bif decide (k+j=0) then rootB d else zCa t d (k+j))=true)→okGo t l k=true
 | [],_,_=>rfl
 | d::l,k,h=>by
   rw[okGo,zKX (l:=l) (k:=k+1) fun j e he=>by
    have:=h (j+1) e he
    rwa [show k+(j+1)=k+1+j from by omega] at this,Bool.and_true]
   exact h 0 d rfl
def zGW (p:List ByteArray) (n:ByteArray):Prop:=lastN (p++[n])=n
theorem zIP (p:List ByteArray) (n:ByteArray):zGW p n:=by
 unfold zGW lastN
 rw[List.length_append,List.length_singleton,Nat.add_sub_cancel,List.getD_eq_getElem?_getD,List.getElem?_append_right (nR _),Nat.sub_self]
 rfl
theorem zKS {q:PlIn} {a:Nat} {done:List ByteArray} {st:PlSt} (h:PlInv q a done st):(sortD st.1)[0]?=some ⟨[],zAC,0⟩:=by
 have hp:=zA1 st.1
 obtain ⟨r,hr⟩:∃ r,st.1[0]?=some r:=⟨_,gE h.pos⟩
 obtain ⟨r1,r2,r3⟩:=h.root r hr
 have hre:r=⟨[],zAC,0⟩:=by
  obtain ⟨x,y,z⟩:=r
  simp only at r1 r2 r3
  rw[r1,r2,r3]
 obtain ⟨i,hi⟩:=zDg (hp.mem_iff.2 (mG hr))
 have hl:0<(sortD st.1).length:=by rw[hp.length_eq];exact h.pos
 have h0:=gE hl
 by_cases hi0:i=0
 ·rw[hi0] at hi;rw[hi,hre]
 ·exfalso
  have hm:=hp.mem_iff.1 (mG h0)
  obtain ⟨j,hj⟩:=zDg hm
  have hj0:j≠0:=fun e=>by
   rw[e,hr] at hj
   have e2:r=(sortD st.1)[0]:=Option.some.inj hj
   have hb:=zAg (zBX h) h0
   have hb2:=zAg (zBX h) hi
   rw[e2] at hb2
   omega
  obtain ⟨hp0,_⟩:=h.up j _ hj hj0
  have hlt:=zGI (h.names _ hm).1 hp0
  rw[←r1] at hlt
  have:=zHD (zEU h) hi h0 hlt
  omega
theorem zHQ (t:List Dir) {p:List ByteArray} {q:Nat} (h:p.length=q+1):zDF t p=findI t (p.take q):=by
 unfold zDF;rw[h];rfl
theorem zHZ {q:PlIn} {a:Nat} {done:List ByteArray} {st:PlSt} (h:zAc q a done st) (hm:mayPl q.g q.ps=true):zBI (sortD st.1)=0:=by
 have hp:=zA1 st.1
 have hn:=zBX h.inv
 have hst:=zEU h.inv
 have h0:=zKS h.inv
 have hlen:=hp.length_eq
 have hl1:=h.inv.pos
 have hl2:=h.inv.len
 unfold zBI
 rw[if_neg (by omega)]
 rw[show okGo (sortD st.1) (sortD st.1) 0=true from ?_]
 ·rfl
 refine zKX fun j d hj=>?_
 rw[Nat.zero_add]
 by_cases hj0:j=0
 ·subst hj0
  rw[h0] at hj
  cases hj
  rw[decide_eq_true rfl,cond_true]
  unfold rootB
  rw[zAa rfl]
  rfl
 ·rw[decide_eq_false hj0,cond_false]
  have hdm:=hp.mem_iff.1 (mG hj)
  obtain ⟨i,hi⟩:=zDg hdm
  have hi0:i≠0:=fun e=>by
   rw[e] at hi
   obtain ⟨r1,r2,r3⟩:=h.inv.root d hi
   have hb:=zAg hn h0
   have hb2:=zAg hn hj
   rw[r1] at hb2
   simp only at hb
   omega
  obtain ⟨n1,n2⟩:=h.inv.names d hdm
  obtain ⟨u1,i2,e,_,hi2,hep⟩:=h.inv.up i d hi hi0
  obtain ⟨g1,g2,g3⟩:=h.inv.node i d hi hi0
  obtain ⟨p,hpp⟩:=h.last i d hi hi0
  have hlt:d.node.toNat<q.g.length:=by omega
  obtain ⟨_,_,_,hall⟩:=zBG hm
  obtain ⟨x,hx,hf⟩:=hall d.node.toNat _ (gE hlt)
  have hpk:zAz q d.node.toNat=x:=by unfold zAz;rw[List.getD_eq_getElem?_getD,hx];rfl
  unfold formP headP at hf
  rw[if_neg (by omega)] at hf
  unfold zDh at hf
  simp only[Bool.and_eq_true,decide_eq_true_eq] at hf
  have hpb:packB d.pack=true:=by rw[g3,hpk];exact hf.1.1
  have hdrop:d.path.dropLast=p:=by rw[hpp,List.dropLast_concat]
  have hpl:d.path.length=p.length+1:=by rw[hpp,List.length_append];rfl
  obtain ⟨i3,hi3⟩:=zDg (hp.mem_iff.2 (mG hi2))
  have hab:zDF (sortD st.1) d.path=(i3:Int):=by
   rw[zHQ (sortD st.1) hpl,hpp,List.take_left,←hdrop,←hep]
   exact zAg hn hi3
  have hij:i3<j:=by
   refine zHD hst hi3 hj ?_
   rw[hep,hdrop,hpp]
   exact zMI (by rw[←hpp];exact n1)
  have hlast:d.pack.name=lastN d.path:=by
   have:=zIP p d.pack.name
   unfold zGW at this
   rw[←hpp] at this
   exact this.symm
  unfold zCa
  rw[decide_eq_true (show d.path.length≠0 by omega),decide_eq_true (zJy n1 u1),decide_eq_true n2,decide_eq_true g1,decide_eq_true (zAg hn hj),hab,decide_eq_true (show (0:Int)≤(i3:Int) by omega),decide_eq_true (show (i3:Int)<(j:Int) by omega),hpb,decide_eq_true hlast]
  rfl
theorem zJQ {q:PlIn} {a:Nat} {st:PlSt} (h:zAc q a [] st) (hm:mayPl q.g q.ps=true) {i:Nat} {d:Dir} (hi:st.1[i]?=some d):∃ n,q.g[d.node.toNat]?=some n∧0≤d.node:=by
 have hg:=(zBG hm).1
 by_cases h0:i=0
 ·subst h0
  have:=(h.inv.root d hi).2.1
  exact ⟨_,gE (by rw[this];show 0<_;omega),by omega⟩
 ·have:=h.inv.node i d hi h0
  exact ⟨_,gE (by omega),by omega⟩
theorem zMK {q:PlIn} {a:Nat} {st:PlSt} (h:zAc q a [] st) (ha:st.1.length≤a) (hm:mayPl q.g q.ps=true) {i:Nat} {d:Dir} (hi:st.1[i]?=some d) {e:Edge} (he:e∈(zAY q d.node.toNat).edges) :
  nameB e.label=true∧∃ (j:Nat) (f:Dir),lookI st.1 (i:Int) e.label=(j:Int)∧st.1[j]?=some f∧f.node=e.to:=by
 have hil:=(gS.1 hi).1
 obtain ⟨x,hx,h1,h2,f,h3,h4⟩:=h.all i d hi e he (.inl (by omega))
 obtain ⟨h5,h6⟩:=h.look x hx
 rw[h1,h2] at h6
 rw[h2] at h5
 exact ⟨h5,x.dst,f,h6,h3,h4⟩
theorem zKa {q:PlIn} {a:Nat} {st:PlSt} (h:zAc q a [] st) (ha:st.1.length≤a) (hm:mayPl q.g q.ps=true) {i:Nat} {d:Dir} (hi:(sortD st.1)[i]?=some d) {e:Edge} (he:e∈(zAY q d.node.toNat).edges) :
  ∃ (j:Nat) (f:Dir),lookI (sortD st.1) (i:Int) e.label=(j:Int)∧(sortD st.1)[j]?=some f∧f.node=e.to:=by
 have hp:=zA1 st.1
 obtain ⟨i0,hi0⟩:=zDg (hp.mem_iff.1 (mG hi))
 obtain ⟨hnb,j,f,h1,h2,h3⟩:=zMK h ha hm hi0 he
 rcases look_perm hp h.inv.apart hi0 hi hnb with ⟨g1,_⟩|⟨j1,j2,f2,g1,g2,g3,g4⟩
 ·omega
 ·have:j=j1:=by omega
  subst this
  rw[h2] at g3
  cases g3
  exact ⟨j2,f,g2,g4,h3⟩
theorem zNr {q:PlIn} {a:Nat} {st:PlSt} (h:zAc q a [] st) (hm:mayPl q.g q.ps=true) {j:Nat} {f:Dir} (hj:(sortD st.1)[j]?=some f) (h1:1≤f.node):zD7 (sortD st.1) q.g j f.node.toNat=true:=by
 have hp:=zA1 st.1
 obtain ⟨j0,hj0⟩:=zDg (hp.mem_iff.1 (mG hj))
 have hne:j0≠0:=fun e=>by
  rw[e] at hj0
  have:=(h.inv.root f hj0).2.1
  omega
 obtain ⟨g1,g2,g3⟩:=h.inv.node j0 f hj0 hne
 have hlt:f.node.toNat<q.g.length:=by omega
 obtain ⟨_,_,_,hall⟩:=zBG hm
 obtain ⟨x,hx,hf⟩:=hall f.node.toNat _ (gE hlt)
 have hpk:zAz q f.node.toNat=x:=by unfold zAz;rw[List.getD_eq_getElem?_getD,hx];rfl
 unfold formP headP at hf
 rw[if_neg (by omega)] at hf
 unfold zDh at hf
 simp only[Bool.and_eq_true,decide_eq_true_eq] at hf
 unfold zD7
 rw[hj,gE hlt]
 simp only
 rw[g3,hpk,decide_eq_true hf.1.2.1,hf.1.2.2]
 rfl
def Asg (m:List Int) (i:Nat):Prop:=∃ v,m[i]?=some v∧0≤v
structure MG (U:List Dir) (m:List Int):Prop where
 len:m.length=U.length
 val:∀ (i:Nat) (d:Dir),U[i]?=some d→m[i]?=some (-1)∨m[i]?=some d.node
def zLD (q:PlIn) (U:List Dir) (m:List Int) (i:Nat):Prop:=∀ d,U[i]?=some d→∀ e∈(zAY q d.node.toNat).edges,∀ j:Nat,lookI U (i:Int) e.label=(j:Int)→Asg m j
structure TreeM (q:PlIn) (U:List Dir):Prop where
 node:∀ (i:Nat) (d:Dir),U[i]?=some d→0≤d.node
 edge:∀ (i:Nat) (d:Dir),U[i]?=some d→∀ e∈(zAY q d.node.toNat).edges,1≤e.to∧∃ (j:Nat) (f:Dir),lookI U (i:Int) e.label=(j:Int)∧U[j]?=some f∧f.node=e.to
 pack:∀ (j:Nat) (f:Dir),U[j]?=some f→1≤f.node→zD7 U q.g j f.node.toNat=true
theorem zES {q:PlIn} {U:List Dir} (hT:TreeM q U) {a:Nat} {d:Dir} (ha:U[a]?=some d):∀ (es:List Edge) (m:List Int) (rest:List Nat),(∀ e∈es,e∈(zAY q d.node.toNat).edges)→MG U m →
  ∃ m' rest',zAy U q.g a es (m,rest)=some (m',rest')∧MG U m'∧(∀ i,Asg m i→Asg m' i)∧(∀ i,Asg m' i→Asg m i∨i∈rest')∧(∀ i∈rest,i∈rest')∧(∀ e∈es,∀ j:Nat,lookI U (a:Int) e.label=(j:Int)→Asg m' j)
 | [],m,rest,_,hg=>⟨m,rest,by rw[zAy],hg,fun i h=>h,fun i h=>.inl h,fun i h=>h,fun e he=>by cases he⟩
 | e::es,m,rest,hes,hg=>by
   obtain ⟨h1,j,f,hl,hj,hfn⟩:=hT.edge a d ha e (hes e (by simp))
   have hpk:=hT.pack j f hj (by omega)
   rw[hfn] at hpk
   have hjl:=(gS.1 hj).1
   have hst:∃ m1 rest1,zCA U q.g a (m,rest) e=some (m1,rest1)∧MG U m1∧(∀ i,Asg m i→Asg m1 i)∧(∀ i,Asg m1 i→Asg m i∨i∈rest1)∧(∀ i∈rest,i∈rest1)∧Asg m1 j:=by
    unfold zCA
    rw[hl,Int.toNat_natCast,if_pos ⟨by omega,hpk⟩]
    simp only
    rcases hg.val j f hj with hv|hv
    ·rw[if_pos hv]
     have hset:∀ i,(m.set j e.to)[i]?=if i=j then some e.to else m[i]?:=fun i=>by
      by_cases hij:i=j
      ·subst hij
       rw[if_pos rfl,List.getElem?_set_self (by rw[hg.len];exact hjl)]
      ·rw[if_neg hij,List.getElem?_set_ne (Ne.symm hij)]
     refine ⟨_,_,rfl,⟨by rw[List.length_set];exact hg.len,fun i d' hi=>?_⟩,fun i ⟨v,g1,g2⟩=>?_,fun i ⟨v,g1,g2⟩=>?_,fun i hi=>List.mem_append.2 (.inl hi),⟨e.to,by rw[hset,if_pos rfl],by omega⟩⟩
     ·rw[hset]
      by_cases hij:i=j
      ·subst hij
       rw[hj] at hi
       cases hi
       rw[if_pos rfl,hfn]
       exact .inr rfl
      ·rw[if_neg hij];exact hg.val i d' hi
     ·refine ⟨v,?_,g2⟩
      rw[hset,if_neg (fun e2=>by rw[e2,hv] at g1;cases g1;omega)]
      exact g1
     ·rw[hset] at g1
      by_cases hij:i=j
      ·exact .inr (List.mem_append.2 (.inr (List.mem_singleton.2 hij)))
      ·rw[if_neg hij] at g1
       exact .inl ⟨v,g1,g2⟩
    ·rw[if_neg (by rw[hv];intro e2;have:=Option.some.inj e2;omega),if_pos (by rw[hv,hfn])]
     exact ⟨_,_,rfl,hg,fun i h=>h,fun i h=>.inl h,fun i h=>h,⟨f.node,hv,by omega⟩⟩
   obtain ⟨m1,r1,e1,g1,g2,g3,g4,g5⟩:=hst
   obtain ⟨m2,r2,f1,f2,f3,f4,f5,f6⟩:=zES hT ha es m1 r1 (fun e' he'=>hes e' (by simp[he'])) g1
   refine ⟨m2,r2,by rw[zAy,e1];exact f1,f2,fun i hi=>f3 i (g2 i hi),fun i hi=>?_,fun i hi=>f5 i (g4 i hi),fun e' he' j' hj'=>?_⟩
   ·rcases f4 i hi with h|h
    ·rcases g3 i h with h|h
     ·exact .inl h
     ·exact .inr (f5 i h)
    ·exact .inr h
   ·rcases List.mem_cons.1 he' with rfl|he'
    ·have:j'=j:=by omega
     rw[this]
     exact f3 j g5
    ·exact f6 e' he' j' hj'
theorem zEd (q:PlIn) (i:Int):zCf q.g i=(zAY q i.toNat).edges:=by
 unfold zCf zAY
 rw[List.getD_eq_getElem?_getD]
 cases q.g[i.toNat]?<;>rfl
theorem zFB {q:PlIn} {U:List Dir} (hT:TreeM q U) (hf:zBL q.g=true):∀ (f:Nat) (m:List Int) (rest:List Nat),MG U m→MInv U.length q.g.length (m,rest)→freeN m+rest.length<f→(∀ i,Asg m i→i∈rest∨zLD q U m i) →
  ∃ m',zBZ U q.g f (m,rest)=some m'∧MG U m'∧(∀ i,Asg m i→Asg m' i)∧∀ i,Asg m' i→zLD q U m' i
 | 0,_,_,_,_,h,_=>absurd h (Nat.not_lt_zero _)
 | f+1,m,[],hg,_,_,hc=>⟨m,by rw[zBZ],hg,fun i h=>h,fun i h=>(hc i h).resolve_left (by simp)⟩
 | f+1,m,a::rest,hg,hi,hlt,hc=>by
   obtain ⟨v,hv,hv0⟩:=hi.rest a (by simp)
   have hv':m[a]?=some v:=hv
   have hal:a<U.length:=by rw[←hg.len];exact (gS.1 hv').1
   have hd:=gE hal
   have hvn:v=U[a].node:=by
    rcases hg.val a _ hd with h|h
    ·rw[h] at hv';cases hv';omega
    ·rw[h] at hv';cases hv';rfl
   have hi':MInv U.length q.g.length (m,rest):=⟨hi.len,hi.rng,fun r hr=>hi.rest r (by simp[hr])⟩
   obtain ⟨m1,r1,e1,g1,g2,g3,g4,g5⟩:=zES hT hd (zCf q.g (m.getD a 0)) m rest (fun e he=>by
    rw[zEd,List.getD_eq_getElem?_getD,hv',Option.getD_some,hvn] at he
    exact he) hg
   obtain ⟨k1,k2,_⟩:=MInv.edges hi' (zIB hf _) e1
   have k2':freeN m1+r1.length=freeN m+rest.length:=k2
   rw[List.length_cons] at hlt
   obtain ⟨m',h1,h2,h3,h4⟩:=zFB hT hf f m1 r1 g1 k1 (by omega) fun i hi2=>by
    rcases g3 i hi2 with h|h
    ·rcases hc i h with h|h
     ·rcases List.mem_cons.1 h with rfl|h
      ·right
       intro d' hd' e he j hj
       rw[hd] at hd'
       cases hd'
       refine g5 e ?_ j hj
       rw[zEd,List.getD_eq_getElem?_getD,hv',Option.getD_some,hvn]
       exact he
      ·exact .inl (g4 i h)
     ·right
      intro d' hd' e he j hj
      exact g2 j (h d' hd' e he j hj)
    ·exact .inl h
   refine ⟨m',?_,h2,fun i hi2=>h3 i (g2 i hi2),h4⟩
   rw[zBZ,e1]
   exact h1
theorem zMF {q:PlIn} {a:Nat} {st:PlSt} (h:zAc q a [] st) (ha:st.1.length≤a) (hm:mayPl q.g q.ps=true):TreeM q (sortD st.1) where
 node:=fun i d hi=>by
  obtain ⟨i0,hi0⟩:=zDg ((zA1 st.1).mem_iff.1 (mG hi))
  obtain ⟨_,_,h0⟩:=zJQ h hm hi0
  exact h0
 edge:=fun i d hi e he=>by
  obtain ⟨i0,hi0⟩:=zDg ((zA1 st.1).mem_iff.1 (mG hi))
  obtain ⟨n,hn,_⟩:=zJQ h hm hi0
  rw[zAl hn] at he
  exact ⟨(zB4 hm hn he).1,zKa h ha hm hi (by rw[zAl hn];exact he)⟩
 pack:=fun j f hj h1=>zNr h hm hj h1
theorem zJT {q:PlIn} (hm:mayPl q.g q.ps=true):zBL q.g=true:=by
 have hg:=(zBG hm).1
 unfold zBL
 rw[decide_eq_true (show 0<q.g.length by omega),Bool.and_true]
 refine List.all_eq_true.2 fun x hx=>?_
 obtain ⟨j,hj,rfl⟩:=List.getElem_of_mem hx
 unfold nodeB
 refine List.all_eq_true.2 fun e he=>?_
 obtain ⟨h1,h2,_⟩:=zB4 hm (gE hj) he
 unfold edgeB
 rw[decide_eq_true h1,decide_eq_true h2]
 rfl
theorem zKQ {q:PlIn} {st:PlSt} (hfin:zBH q=.ok st):∃ m,mapR (sortD st.1) q.g=(some m,0)∧m=(sortD st.1).map (·.node):=by
 obtain ⟨hm,_,_,_,_,a,ha,h⟩:=zFh hfin
 have hT:=zMF h ha hm
 have hfb:=zJT hm
 have hck:=zHZ h hm
 have hp:=zA1 st.1
 have hlen:=hp.length_eq
 have hpos:=h.inv.pos
 obtain ⟨hi0,hi1⟩:=MInv.start (n:=(sortD st.1).length) (gl:=q.g.length) (by omega) (zDG hfb).1
 have hroot:=zKS h.inv
 have h0v:∀ i:Nat,(map0 (sortD st.1).length).1[i]?=if i=0 then some 0 else if i<(sortD st.1).length then some (-1) else none:=fun i=>by
  unfold map0
  cases i with
  | zero=>rfl
  | succ i=>
    rw[if_neg (by omega)]
    show (List.replicate ((sortD st.1).length - 1) (-1:Int))[i]?=_
    rw[List.getElem?_replicate]
    by_cases hl:i<(sortD st.1).length - 1
    ·rw[if_pos hl,if_pos (by omega)]
    ·rw[if_neg hl,if_neg (by omega)]
 have hg0:MG (sortD st.1) (map0 (sortD st.1).length).1:=⟨hi0.len,fun i d hi=>by
  rw[h0v]
  by_cases e:i=0
  ·subst e
   rw[hroot] at hi
   cases hi
   rw[if_pos rfl]
   exact .inr rfl
  ·rw[if_neg e,if_pos (gS.1 hi).1]
   exact .inl rfl⟩
 obtain ⟨m,h1,h2,h3,h4⟩:=zFB hT hfb ((sortD st.1).length+1) (map0 (sortD st.1).length).1 (map0 (sortD st.1).length).2 hg0 hi0 (by omega) fun i ⟨v,g1,g2⟩=>by
  rw[h0v] at g1
  by_cases e:i=0
  ·left;rw[e];simp[map0]
  ·rw[if_neg e] at g1
   split at g1
   ·cases g1;omega
   ·cases g1
 have hall:∀ (n j:Nat) (d:Dir) (i:Nat),j<n→st.1[j]?=some d→(sortD st.1)[i]?=some d→Asg m i:=by
  intro n
  induction n with
  | zero=>intro j d i hj;omega
  | succ n ih=>
    intro j d i hj hjd hid
    by_cases hj0:j=0
    ·subst hj0
     obtain ⟨r1,r2,r3⟩:=h.inv.root d hjd
     have e1:=zAg (zBX h.inv) hid
     have e2:=zAg (zBX h.inv) hroot
     rw[r1] at e1
     simp only at e2
     have:i=0:=by omega
     rw[this]
     exact h3 0 ⟨0,by rw[h0v,if_pos rfl],Int.le_refl _⟩
    ·obtain ⟨i1,d1,e,g1,g2,g3,g4⟩:=h.born j d hjd hj0
     obtain ⟨i2,hi2⟩:=zDg (hp.mem_iff.2 (mG g2))
     have hasg:=ih i1 d1 i2 (by omega) g2 hi2
     obtain ⟨hnb,hl⟩:=h.look _ g4
     rcases look_perm hp h.inv.apart g2 hi2 hnb with ⟨k1,_⟩|⟨j1,j2,f,k1,k2,k3,k4⟩
     ·simp only at hl k1;omega
     ·simp only at hl k1 k2
      have hjj:j1=j:=by omega
      subst hjj
      rw[hjd] at k3
      cases k3
      have e1:=zAg (zBX h.inv) hid
      have e2:=zAg (zBX h.inv) k4
      have hij:j2=i:=by omega
      subst hij
      exact h4 i2 hasg d1 hi2 e g3 j2 k2
 refine ⟨m,?_,?_⟩
 ·unfold mapR
  rw[if_neg (by rw[hck];decide),if_neg (by rw[hfb];decide)]
  have:zBZ (sortD st.1) q.g ((sortD st.1).length+1) (map0 (sortD st.1).length)=some m:=h1
  rw[this]
 ·refine List.ext_getElem? fun i=>?_
  rw[List.getElem?_map]
  cases hi:(sortD st.1)[i]? with
  | none=>
    rw[List.getElem?_eq_none_iff] at hi
    rw[Option.map_none,List.getElem?_eq_none_iff,h2.len]
    exact hi
  | some d=>
    obtain ⟨j,hj⟩:=zDg (hp.mem_iff.1 (mG hi))
    obtain ⟨v,g1,g2⟩:=hall (j+1) j d i (by omega) hj hi
    rw[Option.map_some]
    rcases h2.val i d hi with h|h
    ·rw[h] at g1;cases g1;omega
    ·exact h
end Go.Proofs.YtminjjdnmpaaoaaGreatDoor
namespace Go.Proofs.YtminjjdnmpaaoaaGreatDoor
open Go.RowKit Go.Sort
structure But (B:Nat) (w w':World):Prop where
 os:w'.os=w.os
 tape:w'.tape=w.tape
 output:w'.output=w.output
 size:w.heap.size≤w'.heap.size
 block:∀ k,k<w.heap.size→k≠B→w'.heap[k]?=w.heap[k]?
section
variable {B:Nat} {w w' w'':World}
theorem But.refl (B:Nat) (w:World):But B w w:=⟨rfl,rfl,rfl,nR _,fun _ _ _=>rfl⟩
theorem But.trans (h:But B w w') (k:But B w' w''):But B w w'':=
 ⟨k.os.trans h.os,k.tape.trans h.tape,k.output.trans h.output,nT h.size k.size,fun i hi hn=>(k.block i (lL hi h.size) hn).trans (h.block i hi hn)⟩
theorem But.of (h:Below w.heap.size w w'):But B w w':=⟨h.os,h.tape,h.output,h.size,fun k hk _=>h.block k hk⟩
theorem But.below {N:Nat} (h:But B w w') (hB:N≤B) (hN:N≤w.heap.size):Below N w w':=
 ⟨h.os,h.tape,h.output,h.size,fun k hk=>h.block k (lL hk hN) (Nat.ne_of_lt (lL hk hB))⟩
theorem But.then (h:But B w w') (k:Below w'.heap.size w' w''):But B w w'':=h.trans (But.of k)
theorem But.set (w:World) (B o:Nat) (v:Value):But B w (w.setCell ⟨B,o,none⟩ v):=
 ⟨rfl,rfl,rfl,by simp,fun k _ hk=>heap_setCell_other w ⟨B,o,none⟩ k v hk⟩
theorem But.cell (h:But B w w') {b o:Nat} {v:Value} (hc:w.cell? ⟨b,o,none⟩=some v) (hb:b≠B):w'.cell? ⟨b,o,none⟩=some v:=by
 rw[zAM (h.block b (zAV hc) hb) o none];exact hc
theorem But.slv {α:Type} {r:Rp α} {S:Nat→Prop} {l:List α} {v:Value} (h:But B w w') (hs:SlV r w S l v) (hS:∀ b,S b→b≠B):SlV r w' S l v:=SlV.keep hs fun b hb hl=>h.block b hl (hS b hb)
end
section
variable {α:Type} {r:Rp α} {w:World} {S:Nat→Prop}
theorem Elems.set {y:α} {j:Nat} {u:Value} (hj:j<r.size):∀ {l:List α} {xs:List Value} {i:Nat} (hi:i<l.length),Elems r w S l xs→(∀ cs,r.holds w S l[i] cs→r.holds w S y (cs.set j u))→Elems r w S (l.set i y) (xs.set (i * r.size+j) u):=by
 intro l
 induction l with
 | nil=>intro xs i hi;simp at hi
 | cons x l ih=>
   intro xs i hi h hy
   obtain ⟨cs,rest,h1,h2,h3⟩:=h
   have hl:=r.len h2
   subst h1
   cases i with
   | zero=>
     rw[List.set_cons_zero,Nat.zero_mul,Nat.zero_add,List.set_append_left _ _ (by rw[hl];exact hj)]
     exact ⟨cs.set j u,rest,rfl,hy cs h2,h3⟩
   | succ i=>
     rw[List.set_cons_succ,List.set_append_right _ _ (by rw[hl,Nat.succ_mul];omega),hl,show (i+1) * r.size+j - r.size=i * r.size+j from by rw[Nat.succ_mul];omega]
     exact ⟨cs,_,rfl,h2,ih (by simpa using hi) h3 (by simpa using hy)⟩
theorem Own.setE {base g n cap:Nat} {e:TypeId} {l:List α} (h:Own r w base e (.slice (some ⟨g,0,none⟩) n cap) l S) {i j:Nat} (hi:i<l.length) (hj:j<r.size) {y:α} {u:Value} (hy:∀ cs,r.holds w S l[i] cs→r.holds w S y (cs.set j u)) :
  Own r (w.setCell ⟨g,i * r.size+j,none⟩ u) base e (.slice (some ⟨g,0,none⟩) n cap) (l.set i y) S∧w.grownBy (w.setCell ⟨g,i * r.size+j,none⟩ u) (some g):=by
 obtain ⟨h0,xs,h1,h2⟩:=h
 have hn:n=l.length:=by
  rcases h1.2 with ⟨h',_⟩|⟨_,_,_,h',_⟩
  ·simp at h'
  ·simp at h';exact h'.2.1
 subst hn
 obtain ⟨g1,g2⟩:=h1.stored (i * r.size+j) u
 refine ⟨⟨fun b hb=>⟨lL (h0 b hb).1 g2.size,(h0 b hb).2⟩,xs.set (i * r.size+j) u,by rw[List.length_set];exact g1,(Elems.set hj hi h2 hy).mono fun b hb hl=>⟨hb,g2.block b hl (fun e=>(h0 b hb).2 (by rw[Value.ownBlock];exact e.symm))⟩⟩,g2⟩
end
theorem SlV.cutD {α:Type} {r:Rp α} {w:World} {S:Nat→Prop} {l:List α} {A:Option Addr} {n c:Nat} (h:SlV r w S l (.slice A n c)) (k:Nat) (hk:k≤n) :
  SlV r w S (l.drop k) (.slice (if c=k then A else A.map (·.add (k * r.size))) (n - k) (c - k)):=by
 obtain ⟨A',c',h1,h2,h3,h4,h5⟩:=h
 simp only[List.cons.injEq,Value.slice.injEq,and_true] at h1
 obtain ⟨rfl,rfl,rfl⟩:=h1
 refine ⟨_,_,by rw[List.length_drop],by rw[List.length_drop];omega,by omega,fun he=>?_,fun hn=>?_⟩
 ·split at he
  ·have:=h4 he;omega
  ·rw[Option.map_eq_none_iff] at he
   have:=h4 he;omega
 ·rw[List.length_drop] at hn
  obtain ⟨b,o,rfl,hS,hb,hr⟩:=h5 (by omega)
  rw[if_neg (by omega)]
  refine ⟨b,o+k * r.size,by rw[Option.map_some,zEl],hS,hb,fun i x hx=>?_⟩
  rw[List.getElem?_drop] at hx
  obtain ⟨cs,g1,g2⟩:=hr _ x hx
  refine ⟨cs,g1,fun j u hu=>?_⟩
  have:=g2 j u hu
  rw[Nat.add_mul] at this
  rw[show o+k * r.size+i * r.size+j=o+(k * r.size+i * r.size)+j from by omega]
  exact this
theorem zDI {P:Program} {t e:TypeId} {z:Nat} (ht:P.underlying t=some (.slice (P.elem t))) (he:P.elem t=e) (hs:∀ w,(sizeOf e).run P w=.ok z w) (A:Option Addr) (n c k:Nat) (h:k≤n) (w:World) :
  (Instr.slice t (.slice A n c) (some (.int .i64 (k:Int))) none none).run P w=.ok (.slice (if c=k then A else A.map (·.add (k * z))) (n - k) (c - k)) w:=by
 subst he
 rw[run_slice_l w t A n c ht .i64 (k:Int) (by omega) (by omega),hs]
 simp[Result.andThen,sliced]
theorem zBx {P:Program} {fn:Func} {p q:Tmp} {ty:TypeId} (h:fn.results=#[.cell p ty,.tmp q]) (tmps:Array Value) (w:World) (g:Nat) (t:TypeId) (cs:Array Value) (fr:Nat×Nat) (d:TypeDesc)
  (hp:tmps.getD p undef=.pointer (some ⟨g,0,none⟩)) (hg:w.heap[g]?=some (.cells cs t fr))
  (hu:P.underlying ty=some d) (hd:(match d with|.struct _|.array _ _=>true|_=>false)=true) (hi:(P.info? ty).map (·.size)=some cs.size) :
  (results fn tmps).run P w=.ok (.tuple #[.agg cs,tmps.getD q undef]) w:=by
 have hp':tmps[p]?.getD undef=.pointer (some ⟨g,0,none⟩):=by simpa using hp
 simp[results,h,hp',asAddr,run_loadVar_row w g t ty cs fr d hg hu hd hi]
theorem row3P {W:World} {b:Nat} {x y z:Value} {t:TypeId} (h:W.heap[b]?=some (.cells #[x,y,z] t (0,0))):(W.cell? ⟨b,0,none⟩=some x∧W.cell? ⟨b,1,none⟩=some y∧W.cell? ⟨b,2,none⟩=some z)∧W.frozen? ⟨b,0,none⟩=false∧W.frozen? ⟨b,1,none⟩=false∧W.frozen? ⟨b,2,none⟩=false:=by
 refine ⟨⟨cO _ _ 0 _ _ _ h,cO _ _ 1 _ _ _ h,cO _ _ 2 _ _ _ h⟩,?_,?_,?_⟩<;>simp[World.frozen?,h]
