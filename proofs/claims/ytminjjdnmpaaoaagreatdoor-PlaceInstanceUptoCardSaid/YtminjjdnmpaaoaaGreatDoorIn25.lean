/- Placing a graph, in plain words: what is settled stays as it is; all edges are settled; each directory was put for a lookup. -/
import Derived.Test.YtminjjdnmpaaoaaGreatDoorIn10
import Derived.Test.YtminjjdnmpaaoaaGreatDoorIn24
import Derived.Test.YtminjjdnmpaaoaaGreatDoorIn22
import Derived.Test.YtminjjdnmpaaoaaGreatDoorAl
set_option linter.all false
namespace Go.Proofs.YtminjjdnmpaaoaaGreatDoor
open Go
theorem zEO (p:Dir→Bool) (d:Dir):∀ (l:List Dir) (k:Nat),zAl p (l++[d]) k=if zAl p l k=-1 then (if p d=true then ((k+l.length:Nat):Int) else -1) else zAl p l k
 | [],k=>by
   rw[List.nil_append,zAl,zAl,zAl,if_pos rfl]
   cases p d<;>rfl
 | x::l,k=>by
   rw[List.cons_append,zAl,zAl]
   cases hx:p x with
   | true=>
     simp only[cond_true]
     rw[if_neg (by omega)]
   | false=>
     simp only[cond_false]
     rw[zEO p d l (k+1)]
     simp only[List.length_cons]
     rw[show k+1+l.length=k+(l.length+1) from by omega]
theorem zBX (T:List Dir) (d:Dir) (p:List ByteArray):findI (T++[d]) p=if 0≤findI T p then findI T p else if d.path=p then (T.length:Int) else -1:=by
 have h:=zEO (fun d=>eqB d.path p) d T 0
 have hr:=(zEy T p).1
 unfold findI zCe at hr ⊢
 rw[h]
 by_cases h1:zAl (fun d=>eqB d.path p) T 0=-1
 ·rw[if_pos h1,h1]
  by_cases h2:d.path=p
  ·rw[if_pos (zAg h2),if_neg (by decide),if_pos h2,Nat.zero_add]
  ·rw[if_neg (by rw[zAY h2];decide),if_neg (by decide),if_neg h2]
 ·rw[if_neg h1,if_pos (by omega)]
theorem lookI_spec {T:List Dir} {i:Nat} {d:Dir} (hi:T[i]?=some d) {s:ByteArray} (hs:nameB s=true):(lookI T (i:Int) s=-1∧∀ k,k≤d.path.length→findI T (d.path.take k++[s])<0) ∨
  ∃ k,k≤d.path.length∧lookI T (i:Int) s=findI T (d.path.take k++[s])∧0≤findI T (d.path.take k++[s])∧∀ j,k<j→j≤d.path.length→findI T (d.path.take j++[s])<0:=by
 obtain ⟨hl,e⟩:=gS.1 hi
 rw[zLs hl,hs,cond_true,e]
 rcases lookDown_spec T d.path s (d.path.length+1) with ⟨h1,h2⟩|⟨k,h1,h2,h3,h4⟩
 ·exact .inl ⟨h1,fun k hk=>h2 k (by omega)⟩
 ·exact .inr ⟨k,by omega,h2,h3,fun j hj1 hj2=>h4 j hj1 (by omega)⟩
theorem zDz {T:List Dir} {i:Nat} {d:Dir} (hi:T[i]?=some d) {s:ByteArray} (hs:nameB s=true) {k:Nat} (hk:k≤d.path.length) (h0:0≤findI T (d.path.take k++[s])) (h1:∀ j,k<j→j≤d.path.length→findI T (d.path.take j++[s])<0) :
  lookI T (i:Int) s=findI T (d.path.take k++[s]):=by
 rcases lookI_spec hi hs with ⟨_,h⟩|⟨k',g1,g2,g3,g4⟩
 ·have:=h k hk;omega
 ·rcases Nat.lt_trichotomy k k' with h|h|h
  ·have:=h1 k' h g1;omega
  ·rw[h];exact g2
  ·have:=g4 k h hk;omega
theorem zE9 {q:PlIn} {at_:Nat} {done:List ByteArray} {st:PlSt} (h:PlInv q at_ done st) {d:Dir} (hd:st.1[at_]?=some d) (kind:Nat) {e:Edge} (hs:e.label∉done) :
  ∃ k,zBy st.1 st.2 d.path e.label k∧homeP q st at_ kind e=idxK st.1 d.path k:=by
 unfold homeP
 by_cases hk:kind=2
 ·rw[if_pos hk,zBB hd]
  rcases spotI_min st.1 st.2 q.old d.path e.label (zA1 q e.to.toNat) (fun k hk=>by
   obtain ⟨i,e,_,h1,_⟩:=h.find hd hk
   unfold idxK;omega) with ⟨h1,_⟩|⟨k,h1,h2,_⟩
  ·have:=(zIr h hd q.old hs (zA1 q e.to.toNat)).lo
   omega
  ·exact ⟨k,h1,h2⟩
 ·rw[if_neg hk]
  have hf:=zBg h.apart hd
  refine ⟨d.path.length,⟨nR _,fun k' h1 h2=>?_,?_⟩,?_⟩
  ·rw[List.take_of_length_le h1];exact h.fresh hd hs
  ·unfold idxK;rw[List.take_length,hf,Int.toNat_natCast];exact h.quiet hd hs
  ·unfold idxK;rw[List.take_length,hf]
structure zAe (q:PlIn) (at_:Nat) (done:List ByteArray) (st:PlSt):Prop where
 inv:PlInv q at_ done st
 look:∀ x∈st.2,nameB x.label=true∧lookI st.1 (x.frm:Int) x.label=(x.dst:Int)
 all:∀ (i:Nat) (d:Dir),st.1[i]?=some d→∀ e∈(zAb q d.node.toNat).edges,(i<at_∨(i=at_∧e.label∈done))→∃ x∈st.2,x.frm=i∧x.label=e.label∧∃ f,st.1[x.dst]?=some f∧f.node=e.to
 born:∀ (j:Nat) (d:Dir),st.1[j]?=some d→j≠0→∃ (i:Nat) (d':Dir) (e:Edge),i<j∧st.1[i]?=some d'∧e∈(zAb q d'.node.toNat).edges∧(⟨i,e.label,j⟩:Stl)∈st.2
 last:∀ (j:Nat) (d:Dir),st.1[j]?=some d→j≠0→∃ p,d.path=p++[d.pack.name]
 bnd:(st.1.length:Int) - 1≤max 0 q.dirs∧∀ (j:Nat) (d:Dir),st.1[j]?=some d→j≠0→((textB d.path).size:Int)≤q.path
theorem zAe.start (q:PlIn):zAe q 0 [] ([dirZ0],[]) where
 inv:=PlInv.start q
 look:=fun x hx=>by cases hx
 all:=fun i d hi e he h=>by
  rcases h with h|⟨_,h⟩
  ·omega
  ·cases h
 born:=fun j d hj h0=>by
  cases j with
  | zero=>exact absurd rfl h0
  | succ j=>cases hj
 last:=fun j d hj h0=>by
  cases j with
  | zero=>exact absurd rfl h0
  | succ j=>cases hj
 bnd:=⟨by show ((1:Nat):Int) - 1≤_;omega,fun j d hj h0=>by
  cases j with
  | zero=>exact absurd rfl h0
  | succ j=>cases hj⟩
theorem zKZ {q:PlIn} {at_:Nat} {done:List ByteArray} {st:PlSt} (h:zAe q at_ done st) {d:Dir} (hd:st.1[at_]?=some d) {s:ByteArray} {k:Nat} (hv:zBy st.1 st.2 d.path s k) {nd:Dir} (hnd:nd.path=d.path.take k++[s]) :
  ∀ x∈st.2,lookI (st.1++[nd]) (x.frm:Int) x.label=(x.dst:Int):=by
 intro x hx
 obtain ⟨hnb,hl⟩:=h.look x hx
 obtain ⟨h1,h2,_⟩:=h.inv.stl x hx
 have hf:=zAV h1
 have hf':(st.1++[nd])[x.frm]?=some (dirAt st.1 x.frm):=by rw[List.getElem?_append_left h1];exact hf
 rcases lookI_spec hf hnb with ⟨g1,_⟩|⟨m,g1,g2,g3,g4⟩
 ·omega
 have hm:findI (st.1++[nd]) ((dirAt st.1 x.frm).path.take m++[x.label])=(x.dst:Int):=by rw[zBX,if_pos g3,←g2,hl]
 rw[zDz hf' hnb g1 (by rw[hm];omega) fun j hj1 hj2=>?_,hm]
 have hneg:=g4 j hj1 hj2
 rw[zBX,if_neg (by omega)]
 by_cases hp:nd.path=(dirAt st.1 x.frm).path.take j++[x.label]
 ·exfalso
  rw[hnd] at hp
  have hlen:=congrArg List.length hp
  have hsp:d.path.take k=(dirAt st.1 x.frm).path.take j∧[s]=[x.label]:=by
   refine List.append_inj hp ?_
   rw[List.length_append,List.length_append,List.length_singleton,List.length_singleton] at hlen
   omega
  have hs:x.label=s:=by have:=hsp.2;simp only[List.cons.injEq,and_true] at this;exact this.symm
  obtain ⟨ih,eh,_,hih,heh,hehp⟩:=h.inv.find hd hv.1
  have hq:=hv.2.2
  unfold idxK zBn at hq
  rw[hih,Int.toNat_natCast,List.any_eq_false] at hq
  apply hq x hx
  unfold zBR
  rw[zBB heh,hehp]
  simp only[Bool.and_eq_true,decide_eq_true_eq]
  refine ⟨hs,?_,?_⟩
  ·rw[zEL,hsp.1]
   exact List.take_prefix _ _
  ·have hdst:=zAV h2
   have hpd:(dirAt st.1 x.dst).path=(dirAt st.1 x.frm).path.take m++[x.label]:=by
    obtain ⟨j',d',e1,e2,e3⟩:=zBo g3
    have:j'=x.dst:=by omega
    rw[this,hdst] at e2
    cases e2
    exact e3
   show (dirAt st.1 x.dst).path.length≤_
   rw[hpd,hsp.1,List.length_append,List.length_take,List.length_take,List.length_singleton]
   omega
 ·rw[if_neg hp];decide
theorem zLh {q:PlIn} {at_:Nat} {done:List ByteArray} {st:PlSt} (h:zAe q at_ done st) {d:Dir} (hd:st.1[at_]?=some d) {s:ByteArray} (hs:nameB s=true) {k:Nat} (hv:zBy st.1 st.2 d.path s k) {nd:Dir} (hnd:nd.path=d.path.take k++[s]) :
  lookI (st.1++[nd]) (at_:Int) s=(st.1.length:Int):=by
 have hd':(st.1++[nd])[at_]?=some d:=by rw[List.getElem?_append_left (gS.1 hd).1];exact hd
 have hk:=hv.2.1 k (nR _) hv.1
 have hm:findI (st.1++[nd]) (d.path.take k++[s])=(st.1.length:Int):=by rw[zBX,if_neg (by omega),if_pos hnd]
 rw[zDz hd' hs hv.1 (by rw[hm];omega) fun j hj1 hj2=>?_,hm]
 have hc:=hv.2.1 j (by omega) hj2
 rw[zBX,if_neg (by omega)]
 by_cases hp:nd.path=d.path.take j++[s]
 ·exfalso
  rw[hnd] at hp
  have:=congrArg List.length hp
  rw[List.length_append,List.length_append,List.length_take,List.length_take,List.length_singleton] at this
  omega
 ·rw[if_neg hp];decide
theorem zAX {q:PlIn} {j:Nat} {n:Node} (h:q.g[j]?=some n):zAb q j=n:=by
 unfold zAb;rw[List.getD_eq_getElem?_getD,h];rfl
theorem zAe.step {q:PlIn} {at_:Nat} {done:List ByteArray} {st st':PlSt} (h:zAe q at_ done st) (hm:mayPl q.g q.ps=true) (hq:q.path≤1024) (hqd:q.dirs≤256) {d:Dir} (hd:st.1[at_]?=some d)
  {n:Node} (hn:q.g[d.node.toNat]?=some n) {e:Edge} (he:e∈n.edges) (hs:e.label∉done) {kind:Nat} (hst:stepE q at_ kind e st=.ok st'):zAe q at_ (done++[e.label]) st':=by
 obtain ⟨hinv,_,_⟩:=zDA h.inv hm hq hqd hd hn he hs hst
 have hdl:=(gS.1 hd).1
 obtain ⟨e1,e2,e3,e4,e5,e6⟩:=zBx hm hn he
 have hnd:=zAX hn
 unfold stepE at hst
 by_cases hr:zAw q st at_ kind e=true
 ·rw[if_pos hr] at hst
  cases hst
  unfold zAw at hr
  simp only[Bool.and_eq_true,decide_eq_true_eq] at hr
  obtain ⟨r1,r2,_⟩:=hr
  have hlt:(lookI st.1 (at_:Int) e.label).toNat<st.1.length:=by
   have:=(zCt st.1 (at_:Int) e.label).2
   omega
  exact {
   inv:=hinv
   look:=fun x hx=>by
    rcases List.mem_append.1 hx with hx|hx
    ·exact h.look x hx
    ·rw[List.mem_singleton.1 hx]
     exact ⟨e6,by show lookI st.1 (at_:Int) e.label=((lookI st.1 (at_:Int) e.label).toNat:Int);omega⟩
   all:=fun i d' hi e' he' hc=>by
    by_cases hnew:i=at_∧e'.label=e.label
    ·obtain ⟨rfl,hl⟩:=hnew
     have hi':st.1[i]?=some d':=hi
     rw[hd] at hi'
     cases hi'
     rw[hnd] at he'
     have hee:=zBG (f:=fun e:Edge=>e.label) (zA6 hm hn) he' he hl
     subst hee
     exact ⟨_,List.mem_append.2 (.inr (List.mem_singleton.2 rfl)),rfl,rfl,_,zAV hlt,r2⟩
    ·have hc':i<at_∨(i=at_∧e'.label∈done):=by
      rcases hc with hc|⟨hc1,hc2⟩
      ·exact .inl hc
      ·rcases List.mem_append.1 hc2 with hc2|hc2
       ·exact .inr ⟨hc1,hc2⟩
       ·exact absurd ⟨hc1,List.mem_singleton.1 hc2⟩ hnew
     obtain ⟨x,hx,g1,g2,f,g3,g4⟩:=h.all i d' hi e' he' hc'
     exact ⟨x,List.mem_append.2 (.inl hx),g1,g2,f,g3,g4⟩
   born:=fun j d' hj h0=>by
    obtain ⟨i,f,e',g1,g2,g3,g4⟩:=h.born j d' hj h0
    exact ⟨i,f,e',g1,g2,g3,List.mem_append.2 (.inl g4)⟩
   last:=h.last
   bnd:=h.bnd}
 rw[if_neg hr] at hst
 by_cases hk1:kind=1
 ·rw[if_pos hk1] at hst;cases hst
 rw[if_neg hk1] at hst
 obtain ⟨k,hv,hk⟩:=zE9 h.inv hd kind hs
 obtain ⟨i,f,_,hif,hi,hfp⟩:=h.inv.find hd hv.1
 have hhi:homeP q st at_ kind e=(i:Int):=by rw[hk];exact hif
 rw[hhi,Int.toNat_natCast] at hst
 have hno:findI st.1 (f.path++[e.label])<0:=by rw[hfp];exact hv.2.1 k (nR _) hv.1
 cases hp:putP q st.1 i e.to.toNat with
 | error c=>rw[hp] at hst;cases hst
 | ok T=>
   rw[hp] at hst
   cases hst
   obtain ⟨hT,_⟩:=zKo h.inv hd hs e6 (node:=e.to.toNat) (by omega) (by omega) e4 hq hqd hi (by rw[hfp];exact List.take_prefix _ _) hno hp
   obtain ⟨nd,hndd⟩:∃ nd:Dir,nd=⟨f.path++[e.label],zA1 q e.to.toNat,((e.to.toNat:Nat):Int)⟩:=⟨_,rfl⟩
   rw[←hndd] at hT
   have hndp:nd.path=d.path.take k++[e.label]:=by rw[hndd,hfp]
   have hndn:nd.node=e.to:=by rw[hndd];show ((e.to.toNat:Nat):Int)=_;omega
   subst hT
   have hat:∀ (j:Nat) (d':Dir),(st.1++[nd])[j]?=some d'→st.1[j]?=some d'∨(j=st.1.length∧d'=nd):=fun j d' hj=>by
    rcases Nat.lt_trichotomy j st.1.length with hlt|heq|hgt
    ·rw[List.getElem?_append_left hlt] at hj;exact .inl hj
    ·rw[heq,List.getElem?_append_right (nR _),Nat.sub_self] at hj
     cases hj
     exact .inr ⟨heq,rfl⟩
    ·rw[List.getElem?_eq_none (by rw[List.length_append,List.length_singleton];omega)] at hj
     cases hj
   have hold:∀ (j:Nat) (d':Dir),st.1[j]?=some d'→(st.1++[nd])[j]?=some d':=fun j d' hj=>by
    rw[List.getElem?_append_left (gS.1 hj).1];exact hj
   have hlast:(st.1++[nd])[st.1.length]?=some nd:=by rw[List.getElem?_append_right (nR _),Nat.sub_self];rfl
   have hput:=hp
   unfold putP at hput
   rw[zBB hi,e4] at hput
   by_cases c1:q.path<((textB (f.path++[e.label])).size:Int)
   ·rw[if_pos c1] at hput;cases hput
   rw[if_neg c1] at hput
   by_cases c2:q.dirs≤(st.1.length:Int) - 1
   ·rw[if_pos c2] at hput;cases hput
   exact {
    inv:=hinv
    look:=fun x hx=>by
     rcases List.mem_append.1 hx with hx|hx
     ·exact ⟨(h.look x hx).1,zKZ h hd hv hndp x hx⟩
     ·rw[List.mem_singleton.1 hx]
      exact ⟨e6,zLh h hd e6 hv hndp⟩
    all:=fun i' d' hi' e' he' hc=>by
     have hilt:i'<st.1.length:=by rcases hc with hc|hc<;>omega
     have hi2:st.1[i']?=some d':=by
      rcases hat i' d' hi' with g|⟨g,_⟩
      ·exact g
      ·omega
     by_cases hnew:i'=at_∧e'.label=e.label
     ·obtain ⟨rfl,hl⟩:=hnew
      rw[hd] at hi2
      cases hi2
      rw[hnd] at he'
      have hee:=zBG (f:=fun e:Edge=>e.label) (zA6 hm hn) he' he hl
      subst hee
      exact ⟨_,List.mem_append.2 (.inr (List.mem_singleton.2 rfl)),rfl,rfl,_,hlast,hndn⟩
     ·have hc':i'<at_∨(i'=at_∧e'.label∈done):=by
       rcases hc with hc|⟨hc1,hc2⟩
       ·exact .inl hc
       ·rcases List.mem_append.1 hc2 with hc2|hc2
        ·exact .inr ⟨hc1,hc2⟩
        ·exact absurd ⟨hc1,List.mem_singleton.1 hc2⟩ hnew
      obtain ⟨x,hx,g1,g2,f',g3,g4⟩:=h.all i' d' hi2 e' he' hc'
      exact ⟨x,List.mem_append.2 (.inl hx),g1,g2,f',hold _ _ g3,g4⟩
    born:=fun j d' hj h0=>by
     rcases hat j d' hj with g|⟨g,_⟩
     ·obtain ⟨i2,f2,e',g1,g2,g3,g4⟩:=h.born j d' g h0
      exact ⟨i2,f2,e',g1,hold _ _ g2,g3,List.mem_append.2 (.inl g4)⟩
     ·exact ⟨at_,d,e,by omega,hold _ _ hd,by rw[hnd];exact he,List.mem_append.2 (.inr (List.mem_singleton.2 (by rw[g])))⟩
    last:=fun j d' hj h0=>by
     rcases hat j d' hj with g|⟨_,rfl⟩
     ·exact h.last j d' g h0
     ·refine ⟨d.path.take k,?_⟩
      rw[hndp,hndd]
      show _=_++[(zA1 q e.to.toNat).name]
      rw[e4]
    bnd:=by
     refine ⟨by show ((st.1++[nd]).length:Int) - 1≤_;rw[List.length_append,List.length_singleton];omega,fun j d' hj h0=>?_⟩
     rcases hat j d' hj with g|⟨_,rfl⟩
     ·exact h.bnd.2 j d' g h0
     ·rw[hndp,←hfp];omega}
theorem zAe.next {q:PlIn} {at_:Nat} {done:List ByteArray} {st:PlSt} (h:zAe q at_ done st) {d:Dir} (hd:st.1[at_]?=some d) (hall:∀ e∈(zAb q d.node.toNat).edges,e.label∈done):zAe q (at_+1) [] st:=
 { h with
   inv:=h.inv.next
   all:=fun i d' hi e he hc=>by
    rcases hc with hc|⟨_,hc⟩
    ·by_cases hia:i=at_
     ·subst hia
      rw[hd] at hi
      cases hi
      exact h.all i d hd e he (.inr ⟨rfl,hall e he⟩)
     ·exact h.all i d' hi e he (.inl (by omega))
    ·cases hc}
theorem zDc {q:PlIn} (hm:mayPl q.g q.ps=true) (hq:q.path≤1024) (hqd:q.dirs≤256) {at_:Nat} {d:Dir} {n:Node} (hn:q.g[d.node.toNat]?=some n) {kind:Nat}:∀ (m k:Nat) (done:List ByteArray) (st st':PlSt),n.edges.length=k+m→st.1[at_]?=some d→zBf q n kind k done→zAe q at_ done st→zAi q at_ n kind (n.edges.drop k) st=.ok st' →
  ∃ done',zBf q n kind n.edges.length done'∧(∀ s∈done,s∈done')∧(∀ (j:Nat) (e:Edge),k≤j→n.edges[j]?=some e→kindP q n e=kind→e.label∈done')∧zAe q at_ done' st'∧st'.1[at_]?=some d:=by
 intro m
 induction m with
 | zero=>
   intro k done st st' hl hd hdn h hst
   rw[dN (by omega),zAi] at hst
   cases hst
   exact ⟨done,by rw[hl];exact hdn,fun s hs=>hs,fun j e hj he _=>by
    have:=(gS.1 he).1
    omega,h,hd⟩
 | succ m ih=>
   intro k done st st' hl hd hdn h hst
   obtain ⟨e,he⟩:∃ e,n.edges[k]?=some e:=⟨_,gE (by omega)⟩
   rw[zBk q at_ n kind he] at hst
   by_cases hk:kindP q n e=kind
   ·rw[if_pos hk] at hst
    cases hs:stepE q at_ kind e st with
    | error c=>rw[hs] at hst;cases hst
    | ok st1=>
      rw[hs] at hst
      have hno:=hdn.not (zA6 hm hn) he hk
      have hmem:=mG he
      have h1:=h.step hm hq hqd hd hn hmem hno hs
      obtain ⟨_,⟨l,hl1⟩,_⟩:=zDA h.inv hm hq hqd hd hn hmem hno hs
      have hd1:st1.1[at_]?=some d:=by rw[hl1,List.getElem?_append_left (gS.1 hd).1];exact hd
      obtain ⟨done',g1,g2,g3,g4,g5⟩:=ih (k+1) _ st1 st' (by omega) hd1 (hdn.step he hk) h1 hst
      refine ⟨done',g1,fun s hs'=>g2 s (List.mem_append.2 (.inl hs')),fun j e' hj he' hk'=>?_,g4,g5⟩
      by_cases hjk:j=k
      ·subst hjk
       rw[he] at he'
       cases he'
       exact g2 _ (by simp)
      ·exact g3 j e' (by omega) he' hk'
   ·rw[if_neg hk] at hst
    obtain ⟨done',g1,g2,g3,g4,g5⟩:=ih (k+1) done st st' (by omega) hd (hdn.more (by omega)) h hst
    refine ⟨done',g1,g2,fun j e' hj he' hk'=>?_,g4,g5⟩
    by_cases hjk:j=k
    ·subst hjk
     rw[he] at he'
     cases he'
     exact absurd hk' hk
    ·exact g3 j e' (by omega) he' hk'
theorem zEo {q:PlIn} (hm:mayPl q.g q.ps=true) (hq:q.path≤1024) (hqd:q.dirs≤256) {at_:Nat} {st st':PlSt} {d:Dir} (hd:st.1[at_]?=some d) (h:zAe q at_ [] st) (hst:dirP q at_ st=.ok st'):zAe q (at_+1) [] st':=by
 have hnode:∃ n,q.g[d.node.toNat]?=some n:=by
  have hg:=(zBQ hm).1
  by_cases h0:at_=0
  ·subst h0
   have:=(h.inv.root d hd).2.1
   exact ⟨_,gE (by rw[this];show 0<_;omega)⟩
  ·have:=h.inv.node at_ d hd h0
   exact ⟨_,gE (by omega)⟩
 obtain ⟨n,hn⟩:=hnode
 unfold dirP at hst
 rw[zB9 hd,zAX hn,zAr] at hst
 cases h1:zAi q at_ n 1 n.edges st with
 | error c=>rw[h1] at hst;cases hst
 | ok st1=>
   rw[h1] at hst
   simp only at hst
   obtain ⟨d1,a1,a2,a3,a4,a5⟩:=zDc hm hq hqd hn n.edges.length 0 [] st st1 (by omega) hd (fun s hs=>by cases hs) h (by rw[List.drop_zero];exact h1)
   rw[zAr] at hst
   cases h2:zAi q at_ n 2 n.edges st1 with
   | error c=>rw[h2] at hst;cases hst
   | ok st2=>
     rw[h2] at hst
     simp only at hst
     obtain ⟨d2,b1,b2,b3,b4,b5⟩:=zDc hm hq hqd hn n.edges.length 0 d1 st1 st2 (by omega) a5 a1.turn a4 (by rw[List.drop_zero];exact h2)
     rw[zAr] at hst
     cases h3:zAi q at_ n 3 n.edges st2 with
     | error c=>rw[h3] at hst;cases hst
     | ok st3=>
       rw[h3] at hst
       simp only at hst
       rw[zAr] at hst
       cases hst
       obtain ⟨d3,c1,c2,c3,c4,c5⟩:=zDc hm hq hqd hn n.edges.length 0 d2 st2 st' (by omega) b5 b1.turn b4 (by rw[List.drop_zero];exact h3)
       refine c4.next c5 fun e he=>?_
       rw[zAX hn] at he
       obtain ⟨j,hj,rfl⟩:=List.getElem_of_mem he
       have hje:=gE hj
       have hkr:=zAs q n n.edges[j]
       have hk:kindP q n n.edges[j]=1∨kindP q n n.edges[j]=2∨kindP q n n.edges[j]=3:=by omega
       rcases hk with hk|hk|hk
       ·exact c2 _ (b2 _ (a3 j _ (nZ _) hje hk))
       ·exact c2 _ (b3 j _ (nZ _) hje hk)
       ·exact c3 j _ (nZ _) hje hk
theorem zJl {q:PlIn} (hm:mayPl q.g q.ps=true) (hq:q.path≤1024) (hqd:q.dirs≤256):∀ (f at_:Nat) (st st':PlSt),f+at_=258→zAe q at_ [] st→dirsP q f at_ st=.ok st'→∃ a,st'.1.length≤a∧zAe q a [] st':=by
 intro f
 induction f with
 | zero=>
   intro at_ st st' hf h hst
   rw[dirsP] at hst
   cases hst
   exact ⟨at_,by have:=h.inv.len;omega,h⟩
 | succ f ih=>
   intro at_ st st' hf h hst
   rw[dirsP] at hst
   by_cases hlt:at_<st.1.length
   ·rw[if_pos hlt] at hst
    cases hd:dirP q at_ st with
    | error c=>rw[hd] at hst;cases hst
    | ok st1=>
      rw[hd] at hst
      exact ih (at_+1) st1 st' (by omega) (zEo hm hq hqd (zAV hlt) h hd) hst
   ·rw[if_neg hlt] at hst
    cases hst
    exact ⟨at_,by omega,h⟩
theorem zCm {q:PlIn} {st:PlSt} (h:zA4 q=.ok st):mayPl q.g q.ps=true∧1≤q.dirs∧q.dirs≤256∧1≤q.path∧q.path≤1024∧∃ a,st.1.length≤a∧zAe q a [] st:=by
 unfold zA4 at h
 by_cases h1:q.dirs<1∨256<q.dirs∨q.path<1∨1024<q.path
 ·rw[if_pos h1] at h;cases h
 rw[if_neg h1] at h
 by_cases h2:zCy q.old=true
 ·rw[if_pos h2] at h;cases h
 rw[if_neg h2] at h
 by_cases h3:mayPl q.g q.ps=false
 ·rw[if_pos h3] at h;cases h
 rw[if_neg h3] at h
 rw[Bool.not_eq_false] at h3
 exact ⟨h3,by omega,by omega,by omega,by omega,zJl h3 (by omega) (by omega) 258 0 _ st rfl (zAe.start q) h⟩
theorem zHP {T:List Dir} {p:List ByteArray}:0≤findI T p↔∃ d∈T,d.path=p:=by
 constructor
 ·intro h
  obtain ⟨j,d,_,h1,h2⟩:=zBo h
  exact ⟨d,mG h1,h2⟩
 ·rintro ⟨d,hd,rfl⟩
  rcases Int.lt_or_le (findI T d.path) 0 with hl|hl
  ·exact absurd rfl (zEH hl hd)
  ·exact hl
theorem zFs {T U:List Dir} (hp:U.Perm T) (p:List ByteArray):0≤findI U p↔0≤findI T p:=by
 rw[zHP,zHP]
 constructor
 ·rintro ⟨d,hd,h⟩;exact ⟨d,hp.mem_iff.1 hd,h⟩
 ·rintro ⟨d,hd,h⟩;exact ⟨d,hp.mem_iff.2 hd,h⟩
theorem zMK {T:List Dir} (hn:(T.map (·.path)).Nodup) {d e:Dir} (hd:d∈T) (he:e∈T) (h:d.path=e.path):d=e:=zBG (f:=fun d:Dir=>d.path) hn hd he h
theorem look_perm {T U:List Dir} (hp:U.Perm T) (hn:(T.map (·.path)).Nodup) {i i':Nat} {d:Dir} (hi:T[i]?=some d) (hi':U[i']?=some d) {s:ByteArray} (hs:nameB s=true) :
  (lookI T (i:Int) s=-1∧lookI U (i':Int) s=-1)∨∃ (j j':Nat) (f:Dir),lookI T (i:Int) s=(j:Int)∧lookI U (i':Int) s=(j':Int)∧T[j]?=some f∧U[j']?=some f:=by
 have hneg:∀ p,findI U p<0↔findI T p<0:=fun p=>by
  have:=zFs hp p
  omega
 rcases lookI_spec hi hs with ⟨h1,h2⟩|⟨k,h1,h2,h3,h4⟩
 ·left
  refine ⟨h1,?_⟩
  rcases lookI_spec hi' hs with ⟨g1,_⟩|⟨k,g1,_,g3,_⟩
  ·exact g1
  ·have:=h2 k g1
   have:=(hneg _).2 this
   omega
 ·right
  have h3':0≤findI U (d.path.take k++[s]):=(zFs hp _).2 h3
  have hU:=zDz hi' hs h1 h3' fun j hj1 hj2=>(hneg _).2 (h4 j hj1 hj2)
  obtain ⟨j,f,e1,e2,e3⟩:=zBo h3
  obtain ⟨j',f',e1',e2',e3'⟩:=zBo h3'
  have hff:f'=f:=zMK hn (hp.mem_iff.1 (mG e2')) (mG e2) (by rw[e3',e3])
  exact ⟨j,j',f,by rw[h2,e1],by rw[hU,e1'],e2,by rw[←hff];exact e2'⟩
theorem zNK {U:List Dir} {d:Dir} (h:d∈U):∃ i:Nat,U[i]?=some d:=by
 obtain ⟨i,hi,e⟩:=List.getElem_of_mem h
 exact ⟨i,by rw[gE hi,e]⟩
theorem zFy {q:PlIn} {at_ kind:Nat} {e:Edge} {st st':PlSt} (h:stepE q at_ kind e st=.ok st'):st.1<+:st'.1∧(∃ x,st'.2=st.2++[x]):=by
 unfold stepE at h
 by_cases hr:zAw q st at_ kind e=true
 ·rw[if_pos hr] at h;cases h
  exact ⟨List.prefix_refl _,_,rfl⟩
 rw[if_neg hr] at h
 by_cases hk:kind=1
 ·rw[if_pos hk] at h;cases h
 rw[if_neg hk] at h
 cases hp:putP q st.1 (homeP q st at_ kind e).toNat e.to.toNat with
 | error c=>rw[hp] at h;cases h
 | ok T=>
   rw[hp] at h
   cases h
   refine ⟨?_,_,rfl⟩
   unfold putP at hp
   split at hp
   ·cases hp
   ·split at hp
    ·cases hp
    ·cases hp;exact List.prefix_append _ _
structure PlInd (q:PlIn) (P:Nat→Nat→List ByteArray→PlSt→Prop):Prop where
 step:∀ (at_:Nat) (done:List ByteArray) (st st':PlSt) (d:Dir) (n:Node) (e:Edge),zAe q at_ done st→P at_ (kindP q n e) done st→st.1[at_]?=some d→q.g[d.node.toNat]?=some n→e∈n.edges→e.label∉done →
  (∀ e'∈n.edges,kindP q n e'<kindP q n e→e'.label∈done)→(∀ s∈done,∃ e'∈n.edges,e'.label=s∧kindP q n e'≤kindP q n e)→stepE q at_ (kindP q n e) e st=.ok st'→P at_ (kindP q n e) (done++[e.label]) st'
 turn:∀ (at_ k:Nat) (done:List ByteArray) (st:PlSt),P at_ k done st→P at_ (k+1) done st
 next:∀ (at_:Nat) (done:List ByteArray) (st:PlSt) (d:Dir),zAe q at_ done st→P at_ 4 done st→st.1[at_]?=some d→(∀ e∈(zAb q d.node.toNat).edges,e.label∈done)→P (at_+1) 1 [] st
theorem zCb {q:PlIn} {P:Nat→Nat→List ByteArray→PlSt→Prop} (hP:PlInd q P) (hm:mayPl q.g q.ps=true) (hq:q.path≤1024) (hqd:q.dirs≤256) {at_:Nat} {d:Dir} {n:Node} (hn:q.g[d.node.toNat]?=some n) {kind:Nat}:∀ (m k:Nat) (done:List ByteArray) (st st':PlSt),n.edges.length=k+m→st.1[at_]?=some d→zBf q n kind k done→(∀ e'∈n.edges,kindP q n e'<kind→e'.label∈done)→zAe q at_ done st→P at_ kind done st→zAi q at_ n kind (n.edges.drop k) st=.ok st' →
  ∃ done',zBf q n kind n.edges.length done'∧(∀ s∈done,s∈done')∧(∀ (j:Nat) (e:Edge),k≤j→n.edges[j]?=some e→kindP q n e=kind→e.label∈done')∧zAe q at_ done' st'∧P at_ kind done' st'∧st'.1[at_]?=some d:=by
 intro m
 induction m with
 | zero=>
   intro k done st st' hl hd hdn hlow h hp hst
   rw[dN (by omega),zAi] at hst
   cases hst
   exact ⟨done,by rw[hl];exact hdn,fun s hs=>hs,fun j e hj he _=>by
    have:=(gS.1 he).1
    omega,h,hp,hd⟩
 | succ m ih=>
   intro k done st st' hl hd hdn hlow h hp hst
   obtain ⟨e,he⟩:∃ e,n.edges[k]?=some e:=⟨_,gE (by omega)⟩
   rw[zBk q at_ n kind he] at hst
   by_cases hk:kindP q n e=kind
   ·rw[if_pos hk] at hst
    cases hs:stepE q at_ kind e st with
    | error c=>rw[hs] at hst;cases hst
    | ok st1=>
      rw[hs] at hst
      have hno:=hdn.not (zA6 hm hn) he hk
      have hmem:=mG he
      have h1:=h.step hm hq hqd hd hn hmem hno hs
      have hp1:P at_ kind (done++[e.label]) st1:=by
       have:=hP.step at_ done st st1 d n e h (by rw[hk];exact hp) hd hn hmem hno (by rw[hk];exact hlow) (fun s hs'=>by
        obtain ⟨j,e',g1,g2,g3⟩:=hdn s hs'
        exact ⟨e',mG g1,g2,by omega⟩) (by rw[hk];exact hs)
       rwa [hk] at this
      have hd1:st1.1[at_]?=some d:=by
       obtain ⟨l,hl1⟩:=(zFy hs).1
       rw[←hl1,List.getElem?_append_left (gS.1 hd).1];exact hd
      obtain ⟨done',g1,g2,g3,g4,g5,g6⟩:=ih (k+1) _ st1 st' (by omega) hd1 (hdn.step he hk) (fun e' he' hlt=>List.mem_append.2 (.inl (hlow e' he' hlt))) h1 hp1 hst
      refine ⟨done',g1,fun s hs'=>g2 s (List.mem_append.2 (.inl hs')),fun j e' hj he' hk'=>?_,g4,g5,g6⟩
      by_cases hjk:j=k
      ·subst hjk
       rw[he] at he'
       cases he'
       exact g2 _ (by simp)
      ·exact g3 j e' (by omega) he' hk'
   ·rw[if_neg hk] at hst
    obtain ⟨done',g1,g2,g3,g4,g5,g6⟩:=ih (k+1) done st st' (by omega) hd (hdn.more (by omega)) hlow h hp hst
    refine ⟨done',g1,g2,fun j e' hj he' hk'=>?_,g4,g5,g6⟩
    by_cases hjk:j=k
    ·subst hjk
     rw[he] at he'
     cases he'
     exact absurd hk' hk
    ·exact g3 j e' (by omega) he' hk'
theorem zIe {q:PlIn} {P:Nat→Nat→List ByteArray→PlSt→Prop} (hP:PlInd q P) (hm:mayPl q.g q.ps=true) (hq:q.path≤1024) (hqd:q.dirs≤256) {at_:Nat} {st st':PlSt} {d:Dir} (hd:st.1[at_]?=some d) (h:zAe q at_ [] st) (hp:P at_ 1 [] st) (hst:dirP q at_ st=.ok st'):P (at_+1) 1 [] st':=by
 have hnode:∃ n,q.g[d.node.toNat]?=some n:=by
  have hg:=(zBQ hm).1
  by_cases h0:at_=0
  ·subst h0
   have:=(h.inv.root d hd).2.1
   exact ⟨_,gE (by rw[this];show 0<_;omega)⟩
  ·have:=h.inv.node at_ d hd h0
   exact ⟨_,gE (by omega)⟩
 obtain ⟨n,hn⟩:=hnode
 have hidx:∀ e∈n.edges,∃ j:Nat,n.edges[j]?=some e:=fun e he=>by
  obtain ⟨j,hj,rfl⟩:=List.getElem_of_mem he
  exact ⟨j,gE hj⟩
 unfold dirP at hst
 rw[zB9 hd,zAX hn,zAr] at hst
 cases h1:zAi q at_ n 1 n.edges st with
 | error c=>rw[h1] at hst;cases hst
 | ok st1=>
   rw[h1] at hst
   simp only at hst
   obtain ⟨d1,a1,a2,a3,a4,a5,a6⟩:=zCb hP hm hq hqd hn n.edges.length 0 [] st st1 (by omega) hd (fun s hs=>by cases hs) (fun e' _ hlt=>by have:=(zAs q n e').1;omega) h hp (by rw[List.drop_zero];exact h1)
   rw[zAr] at hst
   cases h2:zAi q at_ n 2 n.edges st1 with
   | error c=>rw[h2] at hst;cases hst
   | ok st2=>
     rw[h2] at hst
     simp only at hst
     obtain ⟨d2,b1,b2,b3,b4,b5,b6⟩:=zCb hP hm hq hqd hn n.edges.length 0 d1 st1 st2 (by omega) a6 a1.turn (fun e' he' hlt=>by
      obtain ⟨j,hj⟩:=hidx e' he'
      exact a3 j e' (nZ _) hj (by have:=(zAs q n e').1;omega)) a4 (hP.turn _ _ _ _ a5) (by rw[List.drop_zero];exact h2)
     rw[zAr] at hst
     cases h3:zAi q at_ n 3 n.edges st2 with
     | error c=>rw[h3] at hst;cases hst
     | ok st3=>
       rw[h3] at hst
       simp only at hst
       rw[zAr] at hst
       cases hst
       have hall2:∀ e'∈n.edges,kindP q n e'<3→e'.label∈d2:=fun e' he' hlt=>by
        obtain ⟨j,hj⟩:=hidx e' he'
        have hr:=(zAs q n e').1
        rcases Nat.lt_or_ge (kindP q n e') 2 with hl|hl
        ·exact b2 _ (a3 j e' (nZ _) hj (by omega))
        ·exact b3 j e' (nZ _) hj (by omega)
       obtain ⟨d3,c1,c2,c3,c4,c5,c6⟩:=zCb hP hm hq hqd hn n.edges.length 0 d2 st2 st' (by omega) b6 b1.turn hall2 b4 (hP.turn _ _ _ _ b5) (by rw[List.drop_zero];exact h3)
       refine hP.next at_ d3 st' d c4 (hP.turn _ _ _ _ c5) c6 fun e he=>?_
       rw[zAX hn] at he
       obtain ⟨j,hj⟩:=hidx e he
       have hkr:=zAs q n e
       rcases Nat.lt_or_ge (kindP q n e) 3 with hl|hl
       ·exact c2 _ (hall2 e he hl)
       ·exact c3 j _ (nZ _) hj (by omega)
theorem zKL {q:PlIn} {P:Nat→Nat→List ByteArray→PlSt→Prop} (hP:PlInd q P) (hm:mayPl q.g q.ps=true) (hq:q.path≤1024) (hqd:q.dirs≤256):∀ (f at_:Nat) (st st':PlSt),f+at_=258→zAe q at_ [] st→P at_ 1 [] st→dirsP q f at_ st=.ok st'→∃ a,st'.1.length≤a∧zAe q a [] st'∧P a 1 [] st':=by
 intro f
 induction f with
 | zero=>
   intro at_ st st' hf h hp hst
   rw[dirsP] at hst
   cases hst
   exact ⟨at_,by have:=h.inv.len;omega,h,hp⟩
 | succ f ih=>
   intro at_ st st' hf h hp hst
   rw[dirsP] at hst
   by_cases hlt:at_<st.1.length
   ·rw[if_pos hlt] at hst
    cases hd:dirP q at_ st with
    | error c=>rw[hd] at hst;cases hst
    | ok st1=>
      rw[hd] at hst
      exact ih (at_+1) st1 st' (by omega) (zEo hm hq hqd (zAV hlt) h hd) (zIe hP hm hq hqd (zAV hlt) h hp hd) hst
   ·rw[if_neg hlt] at hst
    cases hst
    exact ⟨at_,by omega,h,hp⟩
theorem zJV {q:PlIn} {P:Nat→Nat→List ByteArray→PlSt→Prop} (hP:PlInd q P) (h0:P 0 1 [] ([dirZ0],[])) {st:PlSt} (h:zA4 q=.ok st):∃ a,st.1.length≤a∧zAe q a [] st∧P a 1 [] st:=by
 obtain ⟨hm,_,hqd,_,hq,_⟩:=zCm h
 unfold zA4 at h
 split at h
 ·cases h
 split at h
 ·cases h
 split at h
 ·cases h
 exact zKL hP hm hq hqd 258 0 _ st rfl (zAe.start q) h0 h
theorem zMZ {q:PlIn} {a:Nat} {st:PlSt} (h:zAe q a [] st) (hm:mayPl q.g q.ps=true) {i:Nat} {d:Dir} (hi:st.1[i]?=some d):∃ n,q.g[d.node.toNat]?=some n∧0≤d.node:=by
 have hg:=(zBQ hm).1
 by_cases h0:i=0
 ·subst h0
  have:=(h.inv.root d hi).2.1
  exact ⟨_,gE (by rw[this];show 0<_;omega),by omega⟩
 ·have:=h.inv.node i d hi h0
  exact ⟨_,gE (by omega),by omega⟩
theorem zLp {q:PlIn} {a:Nat} {st:PlSt} (h:zAe q a [] st) (ha:st.1.length≤a) (hm:mayPl q.g q.ps=true) {i:Nat} {d:Dir} (hi:st.1[i]?=some d) {e:Edge} (he:e∈(zAb q d.node.toNat).edges) :
  nameB e.label=true∧∃ (j:Nat) (f:Dir),lookI st.1 (i:Int) e.label=(j:Int)∧st.1[j]?=some f∧f.node=e.to:=by
 have hil:=(gS.1 hi).1
 obtain ⟨x,hx,h1,h2,f,h3,h4⟩:=h.all i d hi e he (.inl (by omega))
 obtain ⟨h5,h6⟩:=h.look x hx
 rw[h1,h2] at h6
 rw[h2] at h5
 exact ⟨h5,x.dst,f,h6,h3,h4⟩
structure MG (U:List Dir) (m:List Int):Prop where
 len:m.length=U.length
 val:∀ (i:Nat) (d:Dir),U[i]?=some d→m[i]?=some (-1)∨m[i]?=some d.node
structure TreeM (q:PlIn) (U:List Dir):Prop where
 node:∀ (i:Nat) (d:Dir),U[i]?=some d→0≤d.node
 edge:∀ (i:Nat) (d:Dir),U[i]?=some d→∀ e∈(zAb q d.node.toNat).edges,1≤e.to∧∃ (j:Nat) (f:Dir),lookI U (i:Int) e.label=(j:Int)∧U[j]?=some f∧f.node=e.to
 pack:∀ (j:Nat) (f:Dir),U[j]?=some f→1≤f.node→zMb U q.g j f.node.toNat=true
def zMc (g:List Node):Prop:=∀ n,1≤n→n<g.length→∃ (k:Nat) (x:Node) (e:Edge),k<n∧g[k]?=some x∧e∈x.edges∧e.to=(n:Int)
theorem zD3 {L:List Pack} {s:ByteArray} {v:Ver} {x:Pack} (h:getC L s v=some x):x∈L∧x.name=s∧x.ver=v:=by
 unfold getC at h
 have h1:=List.mem_of_find?_eq_some h
 have h2:=List.find?_some h
 unfold isC at h2
 rw[Bool.and_eq_true,decide_eq_true_eq] at h2
 exact ⟨h1,h2.1,zC6.1 h2.2⟩
structure NGood (q:SIn) (n:Node):Prop where
 nm:∃ x,getC q.L n.name n.ver=some x
 srt:SrtP n.ctx
 pins:∀ p∈n.ctx,∃ x,getC q.L p.name p.ver=some x
structure EGood (q:SIn) (nodes:List Node) (n:Node):Prop where
 srt:n.edges.Pairwise fun a b=>lessB a.label b.label=true
 tgt:∀ e∈n.edges,∃ (j:Nat) (y:Node),e.to=(j:Int)∧1≤j∧nodes[j]?=some y∧y.name=e.label
 pin:∀ p∈n.ctx,∃ e∈n.edges,e.label=p.name∧∃ (j:Nat) (y:Node),e.to=(j:Int)∧nodes[j]?=some y∧y.ver=p.ver
structure SInv (q:SIn) (nodes:List Node) (at_:Nat):Prop where
 root:∃ es,nodes[0]?=some { rootN with edges:=es}
 len:nodes.length≤q.lim
 node:∀ (j:Nat) (n:Node),1≤j→nodes[j]?=some n→NGood q n
 done:∀ (i:Nat) (n:Node),i<at_→nodes[i]?=some n→EGood q nodes n
 reach:∀ j,1≤j→j<nodes.length→∃ (k:Nat) (x:Node) (e:Edge),k<j∧k<at_∧nodes[k]?=some x∧e∈x.edges∧e.to=(j:Int)
 rest:∀ (i:Nat) (n:Node),at_≤i→nodes[i]?=some n→n.edges=[]
theorem zIk {dec:Nat} {k:List Pin→Nat→SOut} {env:List Pin} {s:ByteArray} {t':Nat} {ns:List Node}:∀ {os:List (Option Ver)} {t:Nat},tryGo dec k env s os t=.ok t' ns→∃ o∈os,∃ t1,k (withO env s o) t1=.ok t' ns:=by
 intro os
 induction os with
 | nil=>intro t h;unfold tryGo at h;cases h
 | cons o os ih=>
   intro t h
   unfold tryGo at h
   split at h
   ·cases h
   ·split at h
    ·rename_i t1 hk
     obtain ⟨o',ho,h'⟩:=ih h
     exact ⟨o',by simp[ho],h'⟩
    ·exact ⟨o,by simp,t+1,h⟩
theorem zDD {q:SIn} {env:List Pin}:∀ {l:List Pin} {cs:List (List Pin)},ctxsP q.L q.m env l=some cs→cs.length=l.length∧(∀ p∈l,∃ x,getC q.L p.name p.ver=some x)∧∀ c∈cs,SrtP c∧c.length≤env.length∧∀ x∈c,x∈env:=by
 intro l
 induction l with
 | nil=>intro cs h;unfold ctxsP at h;cases h;exact ⟨rfl,(fun p hp=>by cases hp),(fun c hc=>by cases hc)⟩
 | cons p l ih=>
   intro cs h
   unfold ctxsP at h
   split at h
   ·cases h
   ·rename_i x hx
    split at h
    ·cases h
    ·rename_i xs hxs
     cases h
     obtain ⟨h1,h2,h3⟩:=ih hxs
     refine ⟨by simp[h1],fun p' hp'=>?_,fun c hc=>?_⟩
     ·rcases List.mem_cons.1 hp' with rfl|hp'
      ·cases hg:getC q.L p'.name p'.ver with
       | some y=>exact ⟨y,rfl⟩
       | none=>unfold ctxP ctxGo at hx;rw[hg] at hx;cases hx
      ·exact h2 p' hp'
     ·rcases List.mem_cons.1 hc with rfl|hc
      ·exact zIh hx
      ·exact h3 c hc
theorem zLZ {p:Pin} {c:List Pin} {n:Node}:isN p c n=true↔n.name=p.name∧n.ver=p.ver∧n.ctx=c:=by
 unfold isN
 rw[Bool.and_eq_true,Bool.and_eq_true,decide_eq_true_eq,zC6,zC6]
theorem zJA {p:Pin} {c:List Pin}:∀ {l:List Node},zAq p c l≤l.length∧(zAq p c l<l.length→∃ y,l[zAq p c l]?=some y∧y.name=p.name∧y.ver=p.ver∧y.ctx=c):=by
 intro l
 induction l with
 | nil=>exact ⟨nR _,fun h=>by simp[zAq] at h⟩
 | cons n l ih=>
   unfold zAq
   split
   ·rename_i h
    exact ⟨nZ _,fun _=>⟨n,rfl,zLZ.1 h⟩⟩
   ·refine ⟨by rw[List.length_cons];have:=ih.1;omega,fun h=>?_⟩
    rw[List.getElem?_cons_succ]
    exact ih.2 (by rw[List.length_cons] at h;omega)
theorem zGi {p:Pin} {c:List Pin} {l:List Node} (hl:1≤l.length):1≤placeN l p c∧placeN l p c≤l.length∧(placeN l p c<l.length→∃ y,l[placeN l p c]?=some y∧y.name=p.name∧y.ver=p.ver∧y.ctx=c):=by
 cases l with
 | nil=>simp at hl
 | cons n l=>
   have e:placeN (n::l) p c=zAq p c l+1:=rfl
   rw[e]
   obtain ⟨h1,h2⟩:=zJA (p:=p) (c:=c) (l:=l)
   refine ⟨by omega,by rw[List.length_cons];omega,fun h=>?_⟩
   rw[List.getElem?_cons_succ]
   exact h2 (by rw[List.length_cons] at h;omega)
theorem zDL {lim:Nat}:∀ {env:List Pin} {cs:List (List Pin)} {out:List Node} {es:List Edge} {out':List Node} {es':List Edge},zA2 lim env cs out es=some (out',es')→cs.length=env.length→1≤out.length→out.length≤lim →
  ∃ (new:List Node) (esn:List Edge),out'=out++new∧es'=es++esn∧esn.map (·.label)=env.map (·.name)∧out'.length≤lim∧(∀ n∈new,n.edges=[]∧(∃ p∈env,n.name=p.name∧n.ver=p.ver)∧n.ctx∈cs) ∧
    (∀ (i:Nat) (p:Pin),env[i]?=some p→∃ (e:Edge) (j:Nat) (y:Node),esn[i]?=some e∧e.label=p.name∧e.to=(j:Int)∧1≤j∧out'[j]?=some y∧y.name=p.name∧y.ver=p.ver∧cs[i]?=some y.ctx) ∧
    (∀ j,out.length≤j→j<out'.length→∃ e∈esn,e.to=(j:Int)):=by
 intro env
 induction env with
 | nil=>
   intro cs out es out' es' h _ h1 h2
   cases cs<;>(unfold zA2 at h;cases h;exact ⟨[],[],by simp,by simp,rfl,h2,by simp,by simp,fun j a b=>by omega⟩)
 | cons p l ih=>
   intro cs out es out' es' h hl h1 h2
   cases cs with
   | nil=>simp at hl
   | cons c cs=>
     obtain ⟨q1,q2,q3⟩:=zGi (p:=p) (c:=c) h1
     unfold zA2 at h
     split at h
     ·rename_i hp
      split at h
      ·cases h
      ·rename_i hlim
       obtain ⟨new,esn,e1,e2,e3,e4,e5,e6,e7⟩:=ih h (by simpa using hl) (by simp) (by rw[List.length_append];simp only[List.length_cons,List.length_nil];omega)
       have hat:out'[out.length]?=some ⟨p.name,p.ver,c,[]⟩:=by rw[e1];simp
       refine ⟨⟨p.name,p.ver,c,[]⟩::new,⟨p.name,(out.length:Int)⟩::esn,by rw[e1];simp,by rw[e2];simp,by simp[e3],e4,fun n hn=>?_,fun i p' hp'=>?_,fun j a b=>?_⟩
       ·rcases List.mem_cons.1 hn with rfl|hn
        ·exact ⟨rfl,⟨p,by simp,rfl,rfl⟩,by simp⟩
        ·obtain ⟨a1,⟨p',a2,a3⟩,a4⟩:=e5 n hn
         exact ⟨a1,⟨p',by simp[a2],a3⟩,by simp[a4]⟩
       ·cases i with
        | zero=>cases hp';exact ⟨_,out.length,_,rfl,rfl,rfl,h1,hat,rfl,rfl,rfl⟩
        | succ i=>exact e6 i p' hp'
       ·by_cases hj:j=out.length
        ·exact ⟨⟨p.name,(out.length:Int)⟩,by simp,by rw[hj]⟩
        ·obtain ⟨e,he,hee⟩:=e7 j (by rw[List.length_append];simp only[List.length_cons,List.length_nil];omega) b
         exact ⟨e,by simp[he],hee⟩
     ·rename_i hp
      obtain ⟨new,esn,e1,e2,e3,e4,e5,e6,e7⟩:=ih h (by simpa using hl) h1 h2
      obtain ⟨y,y1,y2,y3,y4⟩:=q3 (by omega)
      refine ⟨new,⟨p.name,(placeN out p c:Int)⟩::esn,e1,by rw[e2];simp,by simp[e3],e4,fun n hn=>?_,fun i p' hp'=>?_,fun j a b=>?_⟩
      ·obtain ⟨a1,⟨p',a2,a3⟩,a4⟩:=e5 n hn
       exact ⟨a1,⟨p',by simp[a2],a3⟩,by simp[a4]⟩
      ·cases i with
       | zero=>
         cases hp'
         exact ⟨_,placeN out p c,y,rfl,rfl,rfl,q1,by rw[e1,List.getElem?_append_left (gS.1 y1).1];exact y1,y2,y3,by rw[y4];rfl⟩
       | succ i=>exact e6 i p' hp'
      ·obtain ⟨e,he,hee⟩:=e7 j a b
       exact ⟨e,by simp[he],hee⟩
theorem zBj (ns:List Node) (i:Nat) (es:List Edge) (j:Nat):(zAv ns i es)[j]?=if j=i then (ns[j]?).map (fun n=>{ n with edges:=es}) else ns[j]?:=by
 unfold zAv
 rw[List.getElem?_modify]
 by_cases h:j=i
 ·subst h;simp
 ·have h':¬i=j:=fun e=>h e.symm
  simp[h,h']
theorem zD0 (ns:List Node) (i:Nat) (es:List Edge):(zAv ns i es).length=ns.length:=by unfold zAv;exact List.length_modify _ _ _
theorem zC9 {ns:List Node} {i:Nat} {es:List Edge} {j:Nat} {y:Node} (h:ns[j]?=some y):∃ y',(zAv ns i es)[j]?=some y'∧y'.name=y.name∧y'.ver=y.ver∧y'.ctx=y.ctx:=by
 rw[zBj]
 by_cases hj:j=i
 ·rw[if_pos hj,h];exact ⟨_,rfl,rfl,rfl,rfl⟩
 ·rw[if_neg hj];exact ⟨y,h,rfl,rfl,rfl⟩
theorem zIi {q:SIn} {nodes:List Node} {at_:Nat} {env:List Pin} {cs:List (List Pin)} {out:List Node} {es:List Edge} (h:SInv q nodes at_) {n:Node} (hat:nodes[at_]?=some n) (hs:SrtP env) (hc:∀ p∈n.ctx,p∈env)
  (hcs:ctxsP q.L q.m env env=some cs) (hb:zA2 q.lim env cs nodes []=some (out,es)):SInv q (zAv out at_ es) (at_+1):=by
 have hpos:1≤nodes.length:=by have:=(gS.1 hat).1;omega
 have hal:=(gS.1 hat).1
 obtain ⟨c1,c2,c3⟩:=zDD hcs
 obtain ⟨new,esn,rfl,e2,e3,e4,e5,e6,e7⟩:=zDL hb c1 hpos h.len
 rw[List.nil_append] at e2
 subst e2
 have hold:∀ (j:Nat) (x:Node),nodes[j]?=some x→(nodes++new)[j]?=some x:=fun j x hx=>by rw[List.getElem?_append_left (gS.1 hx).1];exact hx
 have hedge:∀ e∈es,∃ (p:Pin) (j:Nat) (y:Node),p∈env∧e.label=p.name∧e.to=(j:Int)∧1≤j∧(nodes++new)[j]?=some y∧y.name=p.name∧y.ver=p.ver:=fun e he=>by
  obtain ⟨i,hi,hie⟩:=List.mem_iff_getElem.1 he
  have hlen:es.length=env.length:=by have:=congrArg List.length e3;simpa using this
  obtain ⟨e',j,y,f1,f2,f3,f4,f5,f6,f7,_⟩:=e6 i env[i] (gE (by omega))
  rw[gE hi,hie] at f1
  cases f1
  exact ⟨_,j,y,List.getElem_mem _,f2,f3,f4,f5,f6,f7⟩
 refine ⟨?_,by rw[zD0];exact e4,fun j m hj hm=>?_,fun i m hi hm=>?_,fun j hj hl=>?_,fun i m hi hm=>?_⟩
 ·obtain ⟨es0,hr⟩:=h.root
  rw[zBj]
  by_cases h0:0=at_
  ·rw[if_pos h0,hold 0 _ hr];exact ⟨es,rfl⟩
  ·rw[if_neg h0,hold 0 _ hr];exact ⟨es0,rfl⟩
 ·
  have key:∃ m0,(nodes++new)[j]?=some m0∧m.name=m0.name∧m.ver=m0.ver∧m.ctx=m0.ctx:=by
   rw[zBj] at hm
   split at hm
   ·cases hx:(nodes++new)[j]? with
    | none=>rw[hx] at hm;cases hm
    | some x=>rw[hx] at hm;cases hm;exact ⟨x,rfl,rfl,rfl,rfl⟩
   ·exact ⟨m,hm,rfl,rfl,rfl⟩
  obtain ⟨m0,g0,g1,g2,g3⟩:=key
  have hg:NGood q m0:=by
   by_cases hjl:j<nodes.length
   ·rw[List.getElem?_append_left hjl] at g0
    exact h.node j m0 hj g0
   ·rw[List.getElem?_append_right (by omega)] at g0
    obtain ⟨_,⟨p,hp,p1,p2⟩,hcm⟩:=e5 m0 (mG g0)
    obtain ⟨s1,_,s3⟩:=c3 _ hcm
    exact ⟨by rw[p1,p2];exact c2 p hp,s1,fun x hx=>c2 x (s3 x hx)⟩
  exact ⟨by rw[g1,g2];exact hg.nm,by rw[g3];exact hg.srt,by rw[g3];exact hg.pins⟩
 ·
  by_cases hi0:i=at_
  ·subst hi0
   rw[zBj,if_pos rfl,hold i n hat] at hm
   cases hm
   refine ⟨?_,fun e he=>?_,fun p hp=>?_⟩
   ·have hm:(es.map (·.label)).Pairwise fun a b=>lessB a b=true:=by rw[e3,List.pairwise_map];exact hs
    exact List.pairwise_map.1 hm
   ·obtain ⟨p,j,y,_,f2,f3,f4,f5,f6,_⟩:=hedge e he
    obtain ⟨y',g1,g2,_⟩:=zC9 (i:=i) (es:=es) f5
    exact ⟨j,y',f3,f4,g1,by rw[g2,f6,f2]⟩
   ·obtain ⟨k,hk,hke⟩:=List.mem_iff_getElem.1 (hc p hp)
    obtain ⟨e,j,y,f1,f2,f3,f4,f5,f6,f7,_⟩:=e6 k p (by rw[gE hk,hke])
    obtain ⟨y',g1,g2,g3,_⟩:=zC9 (i:=i) (es:=es) f5
    exact ⟨e,mG f1,f2,j,y',f3,g1,by rw[g3,f7]⟩
  ·have hm0:=hm
   rw[zBj,if_neg hi0,List.getElem?_append_left (by omega)] at hm0
   have hd:=h.done i m (by omega) hm0
   refine ⟨hd.srt,fun e he=>?_,fun p hp=>?_⟩
   ·obtain ⟨j,y,f1,f2,f3,f4⟩:=hd.tgt e he
    obtain ⟨y',g1,g2,_⟩:=zC9 (i:=at_) (es:=es) (hold j y f3)
    exact ⟨j,y',f1,f2,g1,by rw[g2,f4]⟩
   ·obtain ⟨e,he,f0,j,y,f1,f2,f3⟩:=hd.pin p hp
    obtain ⟨y',g1,g2,g3,_⟩:=zC9 (i:=at_) (es:=es) (hold j y f2)
    exact ⟨e,he,f0,j,y',f1,g1,by rw[g3,f3]⟩
 ·
  rw[zD0] at hl
  by_cases hjl:j<nodes.length
  ·obtain ⟨k,x,e,r1,r2,r3,r4,r5⟩:=h.reach j hj hjl
   refine ⟨k,x,e,r1,by omega,?_,r4,r5⟩
   rw[zBj,if_neg (by omega),hold k x r3]
  ·obtain ⟨e,he,hee⟩:=e7 j (by omega) hl
   refine ⟨at_,{ n with edges:=es},e,by omega,by omega,?_,he,hee⟩
   rw[zBj,if_pos rfl,hold at_ n hat];rfl
 ·rw[zBj,if_neg (by omega)] at hm
  by_cases hil:i<nodes.length
  ·rw[List.getElem?_append_left hil] at hm
   exact h.rest i m (by omega) hm
  ·rw[List.getElem?_append_right (by omega)] at hm
   exact (e5 m (mG hm)).1
def TOk (q:SIn):Task→Prop
 | .settle nodes at_=>SInv q nodes at_∧at_≤nodes.length
 | .choose nodes at_ _ env=>SInv q nodes at_∧∃ n,nodes[at_]?=some n∧SrtP env∧∀ p∈n.ctx,p∈env
 | .bind nodes at_ env=>SInv q nodes at_∧∃ n,nodes[at_]?=some n∧SrtP env∧∀ p∈n.ctx,p∈env
theorem zMo {q:SIn} {t':Nat} {ns:List Node}:∀ {f:Nat} {k:Task} {t:Nat},goS q f k t=.ok t' ns→TOk q k→SInv q ns ns.length:=by
 intro f
 induction f with
 | zero=>intro k t h;unfold goS at h;cases h
 | succ f ih=>
   intro k t h hk
   cases k with
   | settle nodes at_=>
     obtain ⟨h1,h2⟩:=hk
     rw[goS] at h
     split at h
     ·rename_i he
      cases h
      rwa [he] at h1
     ·rename_i hne
      have hal:at_<nodes.length:=by omega
      have hat:nodes[at_]?=some nodes[at_]:=gE hal
      have e:ctxAt nodes at_=(nodes[at_]).ctx:=by unfold ctxAt;rw[hat]
      refine ih h ⟨h1,_,hat,?_,fun p hp=>by rw[e];exact hp⟩
      rw[e]
      by_cases h0:at_=0
      ·obtain ⟨es,hr⟩:=h1.root
       subst h0
       rw[hat] at hr
       rw[Option.some.inj hr]
       exact List.Pairwise.nil
      ·exact (h1.node at_ _ (by omega) hat).srt
   | choose nodes at_ l env=>
     cases l with
     | nil=>rw[goS] at h;exact ih h hk
     | cons w l=>
       obtain ⟨h1,n,h2,h3,h4⟩:=hk
       rw[goS] at h
       obtain ⟨o,_,t1,ho⟩:=zIk h
       refine ih ho ⟨h1,n,h2,?_,fun p hp=>?_⟩
       ·cases o with
        | none=>exact h3
        | some v=>exact zCM _ h3
       ·cases o with
        | none=>exact h4 p hp
        | some v=>exact zDs (h4 p hp)
   | bind nodes at_ env=>
     obtain ⟨h1,n,h2,h3,h4⟩:=hk
     rw[goS] at h
     split at h
     ·cases h
     ·rename_i cs hcs
      split at h
      ·cases h
      ·rename_i out es hb
       have hal:=(gS.1 h2).1
       have hinv:=zIi h1 h2 h3 h4 hcs hb
       refine ih h ⟨hinv,?_⟩
       rw[zD0]
       obtain ⟨c1,_⟩:=zDD hcs
       obtain ⟨new,_,e1,_⟩:=zDL hb c1 (by omega) h1.len
       rw[e1,List.length_append]
       omega
theorem SInv.start {q:SIn} (h:1≤q.lim):SInv q [rootN] 0 where
 root:=⟨[],rfl⟩
 len:=h
 node:=fun j n hj hn=>by cases j with|zero=>omega|succ j=>simp at hn
 done:=fun i n hi=>by omega
 reach:=fun j hj hl=>by simp at hl;omega
 rest:=fun i n hi hn=>by cases i with|zero=>cases hn;rfl|succ i=>simp at hn
theorem zGY {q:SIn} {ns:List Node} (hl:1≤q.lim) (h:solS q=some ns):SInv q ns ns.length:=by
 unfold solS at h
 split at h
 ·cases h
 ·split at h
  ·rename_i t0 ns0 hr
   cases h
   exact zMo hr ⟨SInv.start hl,nZ _⟩
  ·cases h
theorem SInv.reachG {q:SIn} {ns:List Node} (h:SInv q ns ns.length):zMc ns:=fun j hj hl=>by
 obtain ⟨k,x,e,r1,_,r3,r4,r5⟩:=h.reach j hj hl
 exact ⟨k,x,e,r1,r3,r4,r5⟩
theorem zIy:∀ {l:List ByteArray} {p:Option ByteArray},l.Pairwise (fun a b=>lessB a b=true)→(∀ s∈l,nameB s=true∧behind p s=true)→zAP p l=true:=by
 intro l
 induction l with
 | nil=>intro p _ _;unfold zAP;rfl
 | cons s l ih=>
   intro p h hn
   rw[List.pairwise_cons] at h
   obtain ⟨h1,h2⟩:=hn s (by simp)
   unfold zAP
   rw[h1,h2,ih (p:=some s) h.2 fun y hy=>⟨(hn y (by simp[hy])).1,(show lessB s y=true from h.1 y hy)⟩]
   rfl
theorem zJC (g:List Node):∀ {l:List Node} {m:List Pack} {k:Nat},m.length=l.length→(∀ (i:Nat) (n:Node) (x:Pack),l[i]?=some n→m[i]?=some x→formP g (k+i) n x=true)→zBz g k l m=true:=by
 intro l
 induction l with
 | nil=>intro m k hl _;rw[List.eq_nil_of_length_eq_zero hl];rfl
 | cons n l ih=>
   intro m k hl h
   cases m with
   | nil=>simp at hl
   | cons x m=>
     unfold zBz
     have h0:=h 0 n x rfl rfl
     rw[Nat.add_zero] at h0
     rw[h0,ih (by simpa using hl) fun i n' x' hn hx=>by have:=h (i+1) n' x' hn hx;rwa [show k+(i+1)=k+1+i from by omega] at this]
     rfl
theorem zKN {es:List Edge} (hs:es.Pairwise fun a b=>lessB a.label b.label=true) {e:Edge} (he:e∈es):∃ k,zA0 es e.label=some k∧es[k]?=some e:=by
 induction es with
 | nil=>cases he
 | cons f es ih=>
   rw[List.pairwise_cons] at hs
   unfold zA0
   rcases List.mem_cons.1 he with rfl|he
   ·exact ⟨0,by rw[if_pos rfl],rfl⟩
   ·have hne:¬f.label=e.label:=fun h=>by have:=hs.1 e he;rw[h,zBd] at this;cases this
    obtain ⟨k,h1,h2⟩:=ih hs.2 he
    exact ⟨k+1,by rw[if_neg hne,h1];rfl,h2⟩
theorem zDK (L:List Pack) (ns:List Node):(zB6 L ns).length=ns.length:=by
 cases ns<;>simp[zB6]
theorem zGw {L:List Pack} {ns:List Node} {i:Nat} {n:Node} (h1:1≤i) (h:ns[i]?=some n):(zB6 L ns)[i]?=some ((getC L n.name n.ver).getD zAC):=by
 cases ns with
 | nil=>cases h
 | cons a l=>
   cases i with
   | zero=>omega
   | succ i=>
     unfold zB6
     rw[List.getElem?_cons_succ] at h ⊢
     rw[List.getElem?_map,h];rfl
theorem zMw {q:SIn} {ns:List Node} (hL:∀ x∈q.L,packB x=true) (hlim:q.lim≤128) (h:SInv q ns ns.length):mayPl ns (zB6 q.L ns)=true:=by
 obtain ⟨es0,hr⟩:=h.root
 have hpos:=(gS.1 hr).1
 have hname:∀ {s:ByteArray} {v:Ver},(∃ x,getC q.L s v=some x)→nameB s=true:=fun {s v} hx=>by
  obtain ⟨x,hx⟩:=hx
  obtain ⟨h1,h2,_⟩:=zD3 hx
  have:=hL x h1
  unfold packB at this
  rw[Bool.and_eq_true] at this
  rw[←h2];exact this.1
 unfold mayPl
 rw[decide_eq_true (show 1≤ns.length by omega),decide_eq_true (nT h.len hlim),decide_eq_true (zDK _ _),Bool.true_and,Bool.true_and,Bool.true_and]
 refine zJC ns (zDK _ _) fun i n x hn hx=>?_
 rw[Nat.zero_add]
 have hil:=(gS.1 hn).1
 have hd:=h.done i n hil hn
 have hctx:SrtP n.ctx∧∀ p∈n.ctx,∃ x,getC q.L p.name p.ver=some x:=by
  by_cases h0:i=0
  ·subst h0
   rw[hr] at hn
   rw[←Option.some.inj hn]
   exact ⟨List.Pairwise.nil,fun p hp=>by cases hp⟩
  ·have:=h.node i n (by omega) hn
   exact ⟨this.srt,this.pins⟩
 have htgt:∀ e∈n.edges,edgeP ns e=true∧nameB e.label=true:=fun e he=>by
  obtain ⟨j,y,f1,f2,f3,f4⟩:=hd.tgt e he
  have hj:=(gS.1 f3).1
  refine ⟨?_,?_⟩
  ·unfold edgeP
   rw[f1,decide_eq_true (by omega),decide_eq_true (by omega),Int.toNat_natCast,f3,Bool.true_and,Bool.true_and]
   exact decide_eq_true f4
  ·rw[←f4];exact hname (h.node j y f2 f3).nm
 unfold formP
 rw[Bool.and_eq_true,Bool.and_eq_true,Bool.and_eq_true,Bool.and_eq_true]
 refine ⟨?_,⟨?_,?_⟩,?_,?_⟩
 ·unfold headP
  by_cases h0:i=0
  ·rw[if_pos h0]
   subst h0
   rw[hr] at hn
   obtain rfl:=Option.some.inj hn
   have hx0:x=zAC:=by
    cases ns with
    | nil=>cases hr
    | cons a l=>unfold zB6 at hx;exact (Option.some.inj hx).symm
   subst hx0
   unfold zEY
   rw[zAg rfl]
   have h0:(rootN.name.toList==[])=true:=by rw[Go.ByteArray.toList_eq];rfl
   show (rootN.name.toList==[]&&(zeroV rootN.ver&&(decide (rootN.ctx.length=0)&&true)))=true
   rw[h0]
   rfl
  ·rw[if_neg h0]
   obtain ⟨x0,hx0⟩:=(h.node i n (by omega) hn).nm
   rw[zGw (by omega) hn,hx0] at hx
   have e:x0=x:=Option.some.inj hx
   subst e
   obtain ⟨g1,g2,g3⟩:=zD3 hx0
   unfold zEV
   rw[hL x0 g1,decide_eq_true g2,zAg g3]
   rfl
 ·exact zIy (by unfold zAZ;rw[List.pairwise_map];exact hctx.1) fun s hs=>by
   obtain ⟨p,hp,rfl⟩:=List.mem_map.1 hs
   exact ⟨hname (hctx.2 p hp),rfl⟩
 ·exact zIy (by unfold zAE;rw[List.pairwise_map];exact hd.srt) fun s hs=>by
   obtain ⟨e,he,rfl⟩:=List.mem_map.1 hs
   exact ⟨(htgt e he).2,rfl⟩
 ·exact List.all_eq_true.2 fun e he=>(htgt e he).1
 ·refine List.all_eq_true.2 fun p hp=>?_
  obtain ⟨e,he,f0,j,y,f1,f2,f3⟩:=hd.pin p hp
  obtain ⟨k,k1,k2⟩:=zKN hd.srt he
  unfold pinP
  rw[←f0,k1]
  simp only
  rw[k2]
  simp only
  rw[f1,Int.toNat_natCast,f2]
  exact zAg f3
