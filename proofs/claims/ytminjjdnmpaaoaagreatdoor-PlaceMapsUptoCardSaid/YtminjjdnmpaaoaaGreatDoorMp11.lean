/- Placing a graph, in plain words: what stays true from edge to edge. -/
import Derived.Test.YtminjjdnmpaaoaaGreatDoorMp10
import Derived.Test.YtminjjdnmpaaoaaGreatDoorAl
set_option linter.all false
namespace Go.Proofs.YtminjjdnmpaaoaaGreatDoor
open Go
theorem zCH {T:List Dir} {i:Nat} {d:Dir} (h:T[i]?=some d):dirAt T i=d:=by
 unfold dirAt;rw[List.getD_eq_getElem?_getD,h];rfl
theorem zBE {T:List Dir} {i:Nat} {d:Dir} (h:T[i]?=some d):zAm T i=d.path:=by
 unfold zAm;rw[zCH h]
theorem zAe {T:List Dir} {i:Nat} (h:i<T.length):T[i]?=some (dirAt T i):=by
 unfold dirAt;rw[List.getD_eq_getElem?_getD,gE h];rfl
theorem zAg {T:List Dir} (hn:(T.map (·.path)).Nodup) {i:Nat} {d:Dir} (h:T[i]?=some d):findI T d.path=(i:Int):=by
 rcases Int.lt_or_le (findI T d.path) 0 with hl|hl
 ·exact absurd rfl (zEN hl (mG h))
 ·obtain ⟨j,hj⟩:∃ j:Nat,findI T d.path=(j:Int):=⟨(findI T d.path).toNat,by omega⟩
  obtain ⟨h1,h2⟩:=zFb hj
  obtain ⟨hi,e⟩:=gS.1 h
  rw[hj]
  have:j=i:=by
   have h3:(T.map (·.path))[j]'(by rw[List.length_map];exact h1)=(T.map (·.path))[i]'(by rw[List.length_map];exact hi):=by
    rw[List.getElem_map,List.getElem_map,h2,e]
   exact (List.getElem_inj hn).1 h3
  rw[this]
theorem zBs {T:List Dir} {p:List ByteArray} (h:0≤findI T p):∃ (j:Nat) (d:Dir),findI T p=(j:Int)∧T[j]?=some d∧d.path=p:=by
 obtain ⟨j,hj⟩:∃ j:Nat,findI T p=(j:Int):=⟨(findI T p).toNat,by omega⟩
 obtain ⟨h1,h2⟩:=zFb hj
 exact ⟨j,_,hj,gE h1,h2⟩
theorem zEP {p a:List ByteArray}:zCE p a=true↔a<+:p:=by
 unfold zCE
 rw[Bool.and_eq_true,decide_eq_true_eq,zDJ]
 constructor
 ·rintro ⟨_,h⟩
  exact ⟨p.drop a.length,by conv=>lhs;rw[←h]
                            rw[h]
                            conv=>rhs;rw[←List.take_append_drop a.length p,h]⟩
 ·rintro ⟨r,rfl⟩
  exact ⟨by rw[List.length_append];omega,List.take_left⟩
structure PlInv (q:PlIn) (at_:Nat) (done:List ByteArray) (st:PlSt):Prop where
 pos:0<st.1.length
 len:st.1.length≤257
 root:∀ d,st.1[0]?=some d→d.path=[]∧d.node=0∧d.pack=zAC
 names:∀ d∈st.1,d.path.all nameB=true∧(textB d.path).size≤1024
 up:∀ (j:Nat) (d:Dir),st.1[j]?=some d→j≠0→d.path≠[]∧∃ (i:Nat) (e:Dir),i<j∧st.1[i]?=some e∧e.path=d.path.dropLast
 apart:(st.1.map (·.path)).Nodup
 node:∀ (j:Nat) (d:Dir),st.1[j]?=some d→j≠0→1≤d.node∧d.node<(q.g.length:Int)∧d.pack=zAz q d.node.toNat
 stl:∀ x∈st.2,x.frm<st.1.length∧x.dst<st.1.length∧(x.frm<at_∨(x.frm=at_∧x.label∈done))
 low:∀ (j:Nat) (d:Dir) (i:Nat) (e:Dir),st.1[j]?=some d→st.1[i]?=some e→at_≤i→j≠i→e.path<+:d.path→i=at_∧∃ s∈done,d.path=e.path++[s]
theorem PlInv.next {q:PlIn} {at_:Nat} {done:List ByteArray} {st:PlSt} (h:PlInv q at_ done st):PlInv q (at_+1) [] st:=
 { h with
   stl:=fun x hx=>by
    obtain ⟨h1,h2,h3⟩:=h.stl x hx
    exact ⟨h1,h2,.inl (by rcases h3 with h3|h3<;>omega)⟩
   low:=fun j d i e hj hi hle hne hp=>by
    have:=(h.low j d i e hj hi (by omega) hne hp).1
    omega}
theorem PlInv.start (q:PlIn):PlInv q 0 [] ([dirZ0],[]) where
 pos:=by decide
 len:=by decide
 root:=fun d hd=>by cases hd;exact ⟨rfl,rfl,rfl⟩
 names:=fun d hd=>by rw[List.mem_singleton.1 hd];exact ⟨rfl,by decide⟩
 up:=fun j d hj h0=>by
  cases j with
  | zero=>exact absurd rfl h0
  | succ j=>cases hj
 apart:=by simp
 node:=fun j d hj h0=>by
  cases j with
  | zero=>exact absurd rfl h0
  | succ j=>cases hj
 stl:=fun x hx=>by cases hx
 low:=fun j d i e hj hi _ hne _=>by
  cases j with
  | zero=>cases i with
    | zero=>exact absurd rfl hne
    | succ i=>cases hi
  | succ j=>cases hj
theorem PlInv.closed {q:PlIn} {at_:Nat} {done:List ByteArray} {st:PlSt} (h:PlInv q at_ done st):∀ (n j:Nat) (d:Dir) (k:Nat),st.1[j]?=some d→d.path.length=k+n→∃ (i:Nat) (e:Dir),i≤j∧st.1[i]?=some e∧e.path=d.path.take k:=by
 intro n
 induction n with
 | zero=>intro j d k hj hl;exact ⟨j,d,nR _,hj,by rw[List.take_of_length_le (by omega)]⟩
 | succ n ih=>
   intro j d k hj hl
   have h0:j≠0:=fun e=>by
    subst e
    have:=(h.root d hj).1
    rw[this,List.length_nil] at hl
    omega
   obtain ⟨_,i,e,hij,hi,he⟩:=h.up j d hj h0
   obtain ⟨i',e',h1,h2,h3⟩:=ih i e k hi (by rw[he,List.length_dropLast];omega)
   refine ⟨i',e',by omega,h2,?_⟩
   rw[h3,he,List.dropLast_eq_take,List.take_take,Nat.min_eq_left (by omega)]
theorem PlInv.find {q:PlIn} {at_:Nat} {done:List ByteArray} {st:PlSt} (h:PlInv q at_ done st) {j:Nat} {d:Dir} (hj:st.1[j]?=some d) {k:Nat} (hk:k≤d.path.length) :
  ∃ (i:Nat) (e:Dir),i≤j∧findI st.1 (d.path.take k)=(i:Int)∧st.1[i]?=some e∧e.path=d.path.take k:=by
 obtain ⟨i,e,h1,h2,h3⟩:=h.closed (d.path.length - k) j d k hj (by omega)
 exact ⟨i,e,h1,by rw[←h3];exact zAg h.apart h2,h2,h3⟩
theorem PlInv.behind_ {q:PlIn} {at_:Nat} {done:List ByteArray} {st:PlSt} (h:PlInv q at_ done st) {i j:Nat} {d e:Dir} (hj:st.1[j]?=some d) (hi:st.1[i]?=some e) (hp:e.path<+:d.path):i≤j:=by
 obtain ⟨i',e',h1,h2,h3,h4⟩:=h.find hj (k:=e.path.length) hp.length_le
 have:d.path.take e.path.length=e.path:=(List.prefix_iff_eq_take.1 hp).symm
 rw[this] at h2
 rw[zAg h.apart hi] at h2
 omega
theorem PlInv.fresh {q:PlIn} {at_:Nat} {done:List ByteArray} {st:PlSt} (h:PlInv q at_ done st) {d:Dir} (hd:st.1[at_]?=some d) {s:ByteArray} (hs:s∉done):findI st.1 (d.path++[s])<0:=by
 rcases Int.lt_or_le (findI st.1 (d.path++[s])) 0 with hl|hl
 ·exact hl
 ·exfalso
  obtain ⟨j,e,_,hj,hp⟩:=zBs hl
  have hne:j≠at_:=fun e'=>by
   rw[e'] at hj
   rw[hd] at hj
   cases hj
   have:=congrArg List.length hp
   rw[List.length_append,List.length_singleton] at this
   omega
  obtain ⟨_,s',h1,h2⟩:=h.low j e at_ d hj hd (nR _) hne ⟨[s],hp.symm⟩
  rw[hp] at h2
  have:=List.append_cancel_left h2
  simp only[List.cons.injEq,and_true] at this
  rw[this] at hs
  exact hs h1
theorem PlInv.quiet {q:PlIn} {at_:Nat} {done:List ByteArray} {st:PlSt} (h:PlInv q at_ done st) {d:Dir} (hd:st.1[at_]?=some d) {s:ByteArray} (hs:s∉done):zBq st.1 st.2 at_ s=false:=by
 unfold zBq
 rw[List.any_eq_false]
 intro x hx ht
 unfold zBd at ht
 simp only[Bool.and_eq_true,decide_eq_true_eq] at ht
 obtain ⟨hl,hu,_⟩:=ht
 obtain ⟨h1,_,h3⟩:=h.stl x hx
 rcases h3 with h3|⟨h3,h4⟩
 ·have hf:=zAe h1
  rw[zEP,zBE hd] at hu
  have:=h.behind_ hf hd (by rw[zAm] at hu;exact hu)
  omega
 ·rw[hl] at h4;exact hs h4
structure zEv (T:List Dir) (path:List ByteArray) (s:ByteArray) (r:Int):Prop where
 lo:0≤r
 is:∃ (i:Nat) (e:Dir),r=(i:Int)∧T[i]?=some e∧e.path<+:path∧findI T (e.path++[s])<0
theorem zKZ {q:PlIn} {at_:Nat} {done:List ByteArray} {st:PlSt} (h:PlInv q at_ done st) {j:Nat} {d:Dir} (hj:st.1[j]?=some d) (old:Option (List Dir)) (s:ByteArray) (x:Pack):∀ (k:Nat) (b l:Int),k≤d.path.length+1 →
  zEv st.1 d.path s b→(l=-1∨zEv st.1 d.path s l)→zEv st.1 d.path s (zAv st.1 st.2 old d.path s x k (b,l)).1∧((zAv st.1 st.2 old d.path s x k (b,l)).2=-1∨zEv st.1 d.path s (zAv st.1 st.2 old d.path s x k (b,l)).2):=by
 intro k
 induction k with
 | zero=>intro b l _ hb hl;exact ⟨hb,hl⟩
 | succ k ih=>
   intro b l hk hb hl
   rw[zAv]
   by_cases h1:0≤findI st.1 (d.path.take k++[s])
   ·rw[if_pos h1];exact ⟨hb,hl⟩
   ·rw[if_neg h1]
    by_cases h2:zBq st.1 st.2 (findI st.1 (d.path.take k)).toNat s=true
    ·rw[if_pos h2];exact ih b l (by omega) hb hl
    ·rw[if_neg h2]
     obtain ⟨i,e,_,hi,he,hp⟩:=h.find hj (k:=k) (by omega)
     have hok:zEv st.1 d.path s (findI st.1 (d.path.take k)):=⟨by omega,i,e,hi,he,by rw[hp];exact List.take_prefix _ _,by rw[hp];omega⟩
     refine ih _ _ (by omega) hok ?_
     split
     ·exact .inr hok
     ·exact hl
theorem zI7 {q:PlIn} {at_:Nat} {done:List ByteArray} {st:PlSt} (h:PlInv q at_ done st) {d:Dir} (hd:st.1[at_]?=some d) (old:Option (List Dir)) {s:ByteArray} (hs:s∉done) (x:Pack):zEv st.1 d.path s (spotI st.1 st.2 old d.path s x):=by
 have h1:=h.fresh hd hs
 have h2:=h.quiet hd hs
 have h3:=zAg h.apart hd
 have hok:zEv st.1 d.path s (at_:Int):=⟨by omega,at_,d,rfl,hd,List.prefix_refl _,h1⟩
 unfold spotI
 rw[zAv,List.take_length,if_neg (by omega),h3,Int.toNat_natCast,if_neg (by rw[h2];decide)]
 have h4:=zKZ h hd old s x d.path.length (at_:Int) (if zCR old (d.path++[s]) x=true then (at_:Int) else -1) (by omega) hok (by
  split
  ·exact .inr hok
  ·exact .inl rfl)
 generalize zAv st.1 st.2 old d.path s x d.path.length (at_,if zCR old (d.path++[s]) x=true then (at_:Int) else -1)=r at *
 unfold pickI
 by_cases hl:0≤r.2
 ·rw[if_pos hl]
  rcases h4.2 with e|e
  ·rw[e] at hl;exact absurd hl (by decide)
  ·exact e
 ·rw[if_neg hl];exact h4.1
theorem zBG {g:List Node} {ps:List Pack} (h:mayPl g ps=true):1≤g.length∧g.length≤128∧ps.length=g.length∧∀ (j:Nat) (n:Node),g[j]?=some n→∃ x,ps[j]?=some x∧formP g j n x=true:=by
 unfold mayPl at h
 simp only[Bool.and_eq_true,decide_eq_true_eq] at h
 refine ⟨h.1,h.2.1,h.2.2.1,fun j n hj=>?_⟩
 have:=zHn g h.2.2.2 j n hj
 rwa [Nat.zero_add] at this
theorem zB4 {q:PlIn} (h:mayPl q.g q.ps=true) {j:Nat} {n:Node} (hj:q.g[j]?=some n) {e:Edge} (he:e∈n.edges) :
  1≤e.to∧e.to<(q.g.length:Int)∧(zAY q e.to.toNat).name=e.label∧(zAz q e.to.toNat).name=e.label∧packB (zAz q e.to.toNat)=true∧nameB e.label=true:=by
 obtain ⟨_,_,hz,hall⟩:=zBG h
 obtain ⟨x,hx,hf⟩:=hall j n hj
 unfold formP at hf
 simp only[Bool.and_eq_true] at hf
 obtain ⟨_,⟨_,hr⟩,hed,_⟩:=hf
 have h1:=List.all_eq_true.1 hed e he
 unfold edgeP at h1
 simp only[Bool.and_eq_true,decide_eq_true_eq] at h1
 obtain ⟨h1,h2,h3⟩:=h1
 have hlt:e.to.toNat<q.g.length:=by omega
 rw[gE hlt] at h3
 simp only[decide_eq_true_eq] at h3
 have hn:zAY q e.to.toNat=q.g[e.to.toNat]:=by unfold zAY;rw[List.getD_eq_getElem?_getD,gE hlt];rfl
 obtain ⟨y,hy,hf2⟩:=hall e.to.toNat _ (gE hlt)
 have hp:zAz q e.to.toNat=y:=by unfold zAz;rw[List.getD_eq_getElem?_getD,hy];rfl
 unfold formP headP at hf2
 rw[if_neg (by omega)] at hf2
 unfold zDh at hf2
 simp only[Bool.and_eq_true,decide_eq_true_eq] at hf2
 refine ⟨h1,h2,by rw[hn,h3],by rw[hp,hf2.1.2.1,h3],by rw[hp];exact hf2.1.1,?_⟩
 exact zC3 hr e.label (List.mem_map.2 ⟨e,he,rfl⟩)
theorem zE9:∀ {l:List ByteArray} {p:Option ByteArray},zAQ p l=true→l.Nodup∧∀ a,p=some a→∀ x∈l,lessB a x=true
 | [],p,_=>⟨List.nodup_nil,fun a _ x hx=>by cases hx⟩
 | s::l,p,h=>by
   rw[zAQ,Bool.and_eq_true,Bool.and_eq_true] at h
   obtain ⟨h1,h2⟩:=zE9 h.2
   refine ⟨List.nodup_cons.2 ⟨fun hm=>?_,h1⟩,fun a ha x hx=>?_⟩
   ·have:=h2 s rfl s hm
    rw[zBB] at this
    cases this
   ·subst ha
    have hb:lessB a s=true:=h.1.2
    rcases List.mem_cons.1 hx with rfl|hx
    ·exact hb
    ·exact zCQ hb (h2 s rfl x hx)
theorem zA7 {q:PlIn} (h:mayPl q.g q.ps=true) {j:Nat} {n:Node} (hj:q.g[j]?=some n):(zAE n.edges).Nodup:=by
 obtain ⟨_,_,_,hall⟩:=zBG h
 obtain ⟨x,_,hf⟩:=hall j n hj
 unfold formP at hf
 simp only[Bool.and_eq_true] at hf
 exact (zE9 hf.2.1.2).1
theorem zLq {q:PlIn} {at_:Nat} {done:List ByteArray} {st:PlSt} (h:PlInv q at_ done st) {d:Dir} (hd:st.1[at_]?=some d) {s:ByteArray} (hs:s∉done) (hnm:nameB s=true)
  {node:Nat} (hn1:1≤node) (hn2:node<q.g.length) (hps:(zAz q node).name=s) (hq:q.path≤1024) (hqd:q.dirs≤256)
  {home:Nat} {e:Dir} (hh:st.1[home]?=some e) (hpre:e.path<+:d.path) (hno:findI st.1 (e.path++[s])<0) {T:List Dir} (hT:putP q st.1 home node=.ok T) :
  T=st.1++[⟨e.path++[s],zAz q node,(node:Int)⟩]∧PlInv q at_ (done++[s]) (T,st.2++[⟨at_,s,st.1.length⟩]):=by
 have hpa:zAm st.1 home=e.path:=zBE hh
 unfold putP at hT
 rw[hpa,hps] at hT
 by_cases c1:q.path<((textB (e.path++[s])).size:Int)
 ·rw[if_pos c1] at hT;cases hT
 rw[if_neg c1] at hT
 by_cases c2:q.dirs≤(st.1.length:Int) - 1
 ·rw[if_pos c2] at hT;cases hT
 rw[if_neg c2] at hT
 cases hT
 refine ⟨rfl,?_⟩
 obtain ⟨nd,hnd⟩:∃ nd:Dir,nd=⟨e.path++[s],zAz q node,(node:Int)⟩:=⟨_,rfl⟩
 have hndp:nd.path=e.path++[s]:=by rw[hnd]
 rw[←hnd]
 have hnew:∀ d'∈st.1,d'.path≠e.path++[s]:=fun d' hd'=>zEN hno hd'
 have hat:∀ (j:Nat) (d':Dir),(st.1++[nd])[j]?=some d'→st.1[j]?=some d'∨(j=st.1.length∧d'=nd):=fun j d' hj=>by
  rcases Nat.lt_trichotomy j st.1.length with hlt|heq|hgt
  ·rw[List.getElem?_append_left hlt] at hj;exact .inl hj
  ·rw[heq,List.getElem?_append_right (nR _),Nat.sub_self] at hj
   cases hj
   exact .inr ⟨heq,rfl⟩
  ·rw[List.getElem?_eq_none (by rw[List.length_append,List.length_singleton];omega)] at hj
   cases hj
 have hold:∀ (j:Nat) (d':Dir),st.1[j]?=some d'→(st.1++[nd])[j]?=some d':=fun j d' hj=>by
  rw[List.getElem?_append_left (gS.1 hj).1];exact hj
 have hhl:=(gS.1 hh).1
 have hdl:=(gS.1 hd).1
 exact {
  pos:=by show 0<(st.1++[nd]).length;rw[List.length_append];have:=h.pos;omega
  len:=by show (st.1++[nd]).length≤257;rw[List.length_append,List.length_singleton];omega
  root:=fun d' hd'=>by
   rcases hat 0 d' hd' with hj|⟨hj,_⟩
   ·exact h.root d' hj
   ·have:=h.pos;omega
  names:=fun d' hd'=>by
   rcases List.mem_append.1 hd' with hm|hm
   ·exact h.names d' hm
   ·rw[List.mem_singleton.1 hm,hndp]
    refine ⟨?_,by omega⟩
    rw[List.all_append,(h.names e (mG hh)).1,List.all_cons,hnm]
    rfl
  up:=fun j d' hj h0=>by
   rcases hat j d' hj with hj'|⟨hj',rfl⟩
   ·obtain ⟨h1,i,e',h2,h3,h4⟩:=h.up j d' hj' h0
    exact ⟨h1,i,e',h2,hold _ _ h3,h4⟩
   ·rw[hndp]
    exact ⟨by simp,home,e,by omega,hold _ _ hh,by rw[List.dropLast_concat]⟩
  apart:=by
   show ((st.1++[nd]).map (·.path)).Nodup
   rw[List.map_append,List.nodup_append]
   refine ⟨h.apart,by simp,fun a ha b hb hab=>?_⟩
   obtain ⟨d',hd',rfl⟩:=List.mem_map.1 ha
   have:b=nd.path:=by simpa using hb
   rw[this,hndp] at hab
   exact hnew d' hd' hab
  node:=fun j d' hj h0=>by
   rcases hat j d' hj with hj'|⟨_,rfl⟩
   ·exact h.node j d' hj' h0
   ·rw[hnd]
    exact ⟨by show (1:Int)≤(node:Int);omega,by show (node:Int)<_;omega,by show zAz q node=zAz q (node:Int).toNat;rw[Int.toNat_natCast]⟩
  stl:=fun x hx=>by
   have hl:(st.1++[nd]).length=st.1.length+1:=by rw[List.length_append];rfl
   rcases List.mem_append.1 hx with hm|hm
   ·obtain ⟨h1,h2,h3⟩:=h.stl x hm
    refine ⟨by rw[hl];omega,by rw[hl];omega,?_⟩
    rcases h3 with h3|⟨h3,h4⟩
    ·exact .inl h3
    ·exact .inr ⟨h3,List.mem_append.2 (.inl h4)⟩
   ·rw[List.mem_singleton.1 hm]
    exact ⟨by rw[hl];show at_<_;omega,by rw[hl];show st.1.length<_;omega,.inr ⟨rfl,by simp⟩⟩
  low:=fun j d' i e' hj hi hle hne hp=>by
   rcases hat i e' hi with hi'|⟨hi',rfl⟩
   ·rcases hat j d' hj with hj'|⟨hj',rfl⟩
    ·obtain ⟨h1,s',h2,h3⟩:=h.low j d' i e' hj' hi' hle hne hp
     exact ⟨h1,s',List.mem_append.2 (.inl h2),h3⟩
    ·rw[hndp] at hp ⊢
     have hp2:e'.path<+:e.path:=by
      rcases List.prefix_concat_iff.1 hp with h1|h1
      ·exact absurd h1 (hnew e' (mG hi'))
      ·exact h1
     have hia:i=at_:=by
      by_cases hc:at_=i
      ·exact hc.symm
      ·exact (h.low at_ d i e' hd hi' hle hc (hp2.trans hpre)).1
     subst hia
     rw[hd] at hi'
     cases hi'
     have he:e.path=d.path:=hpre.eq_of_length_le hp2.length_le
     exact ⟨rfl,s,by simp,by rw[he]⟩
   ·rcases hat j d' hj with hj'|⟨hj',_⟩
    ·exfalso
     rw[hndp] at hp
     obtain ⟨i',e2,_,_,h3,h4⟩:=h.find hj' (k:=(e.path++[s]).length) hp.length_le
     rw[←List.prefix_iff_eq_take.1 hp] at h4
     exact hnew e2 (mG h3) h4
    ·omega}
theorem zKy {T:List Dir} {i:Int} {s:ByteArray} (h:0≤lookI T i s):(lookI T i s).toNat<T.length:=by
 have:=(zCJ T i s).2
 omega
theorem zJB {q:PlIn} {at_:Nat} {done:List ByteArray} {st:PlSt} (h:PlInv q at_ done st) {d:Dir} (hd:st.1[at_]?=some d) (kind:Nat) {e:Edge} (hs:e.label∉done) :
  ∃ (i:Nat) (f:Dir),homeP q st at_ kind e=(i:Int)∧st.1[i]?=some f∧f.path<+:d.path∧findI st.1 (f.path++[e.label])<0:=by
 unfold homeP
 by_cases hk:kind=2
 ·rw[if_pos hk,zBE hd]
  exact (zI7 h hd q.old hs (zAz q e.to.toNat)).is
 ·rw[if_neg hk]
  exact ⟨at_,d,rfl,hd,List.prefix_refl _,h.fresh hd hs⟩
theorem zDE {q:PlIn} {at_:Nat} {done:List ByteArray} {st st':PlSt} (h:PlInv q at_ done st) (hm:mayPl q.g q.ps=true) (hq:q.path≤1024) (hqd:q.dirs≤256) {d:Dir} (hd:st.1[at_]?=some d)
  {j:Nat} {n:Node} (hn:q.g[j]?=some n) {e:Edge} (he:e∈n.edges) (hs:e.label∉done) {kind:Nat} (hst:stepE q at_ kind e st=.ok st') :
  PlInv q at_ (done++[e.label]) st'∧(∃ l,st'.1=st.1++l)∧st'.2.length=st.2.length+1:=by
 have hdl:=(gS.1 hd).1
 unfold stepE at hst
 by_cases hr:zA0 q st at_ kind e=true
 ·rw[if_pos hr] at hst
  cases hst
  unfold zA0 at hr
  simp only[Bool.and_eq_true,decide_eq_true_eq] at hr
  have hlt:(lookI st.1 (at_:Int) e.label).toNat<st.1.length:=by
   have:=(zCJ st.1 (at_:Int) e.label).2
   omega
  refine ⟨{ h with
   stl:=fun x hx=>?_
   low:=fun j d' i e' hj hi hle hne hp=>?_},⟨[],by simp⟩,by simp⟩
  ·rcases List.mem_append.1 hx with hm|hm
   ·obtain ⟨h1,h2,h3⟩:=h.stl x hm
    refine ⟨h1,h2,?_⟩
    rcases h3 with h3|⟨h3,h4⟩
    ·exact .inl h3
    ·exact .inr ⟨h3,List.mem_append.2 (.inl h4)⟩
   ·rw[List.mem_singleton.1 hm]
    exact ⟨hdl,hlt,.inr ⟨rfl,by simp⟩⟩
  ·obtain ⟨h1,s,h2,h3⟩:=h.low j d' i e' hj hi hle hne hp
   exact ⟨h1,s,List.mem_append.2 (.inl h2),h3⟩
 rw[if_neg hr] at hst
 by_cases hk1:kind=1
 ·rw[if_pos hk1] at hst;cases hst
 rw[if_neg hk1] at hst
 obtain ⟨i,f,h1,h2,h3,h4⟩:=zJB h hd kind hs
 rw[h1,Int.toNat_natCast] at hst
 cases hp:putP q st.1 i e.to.toNat with
 | error c=>rw[hp] at hst;cases hst
 | ok T=>
   rw[hp] at hst
   cases hst
   obtain ⟨e1,e2,e3,e4,e5,e6⟩:=zB4 hm hn he
   obtain ⟨g1,g2⟩:=zLq h hd hs e6 (node:=e.to.toNat) (by omega) (by omega) e4 hq hqd h2 h3 h4 hp
   exact ⟨g2,⟨_,g1⟩,by simp⟩
def zBg (q:PlIn) (n:Node) (kind k:Nat) (done:List ByteArray):Prop:=∀ s∈done,∃ (j:Nat) (e:Edge),n.edges[j]?=some e∧e.label=s∧(kindP q n e<kind∨(kindP q n e=kind∧j<k))
theorem zBg.more {q:PlIn} {n:Node} {kind k:Nat} {done:List ByteArray} (h:zBg q n kind k done) {k':Nat} (hk:k≤k'):zBg q n kind k' done:=fun s hs=>by
 obtain ⟨j,e,h1,h2,h3⟩:=h s hs
 exact ⟨j,e,h1,h2,by omega⟩
theorem zBg.turn {q:PlIn} {n:Node} {kind k:Nat} {done:List ByteArray} (h:zBg q n kind k done):zBg q n (kind+1) 0 done:=fun s hs=>by
 obtain ⟨j,e,h1,h2,h3⟩:=h s hs
 exact ⟨j,e,h1,h2,by omega⟩
theorem zBg.not {q:PlIn} {n:Node} {kind k:Nat} {done:List ByteArray} (h:zBg q n kind k done) (hn:(zAE n.edges).Nodup) {e:Edge} (he:n.edges[k]?=some e) (hk:kindP q n e=kind):e.label∉done:=fun hm=>by
 obtain ⟨j,e',h1,h2,h3⟩:=h _ hm
 obtain ⟨hj,ej⟩:=gS.1 h1
 obtain ⟨hk',ek⟩:=gS.1 he
 have hjk:j=k:=by
  have h5:(zAE n.edges)[j]'(by unfold zAE;rw[List.length_map];exact hj)=(zAE n.edges)[k]'(by unfold zAE;rw[List.length_map];exact hk'):=by
   simp only[zAE,List.getElem_map,ej,ek,h2]
  exact (List.getElem_inj hn).1 h5
 subst hjk
 rw[h1] at he
 cases he
 omega
theorem zBg.step {q:PlIn} {n:Node} {kind k:Nat} {done:List ByteArray} (h:zBg q n kind k done) {e:Edge} (he:n.edges[k]?=some e) (hk:kindP q n e=kind):zBg q n kind (k+1) (done++[e.label]):=fun s hs=>by
 rcases List.mem_append.1 hs with hs|hs
 ·obtain ⟨j,e',h1,h2,h3⟩:=h s hs
  exact ⟨j,e',h1,h2,by omega⟩
 ·exact ⟨k,e,he,(List.mem_singleton.1 hs).symm,.inr ⟨hk,by omega⟩⟩
theorem zAu (q:PlIn) (n:Node) (e:Edge):1≤kindP q n e∧kindP q n e≤3:=by
 unfold kindP
 split
 ·decide
 ·split<;>decide
theorem zBo (q:PlIn) (at_:Nat) (n:Node) (kind:Nat) {l:List Edge} {k:Nat} {e:Edge} (h:l[k]?=some e) (st:PlSt):zAh q at_ n kind (l.drop k) st=if kindP q n e=kind then (match stepE q at_ kind e st with
  | .error c=>.error c
  | .ok st'=>zAh q at_ n kind (l.drop (k+1)) st') else zAh q at_ n kind (l.drop (k+1)) st:=by
 obtain ⟨hk,e'⟩:=gS.1 h
 rw[dC hk,e',zAh]
 rfl
def MinI (idx:Nat→Int) (P:Nat→Prop) (lo:Nat) (r:Int):Prop:=(r=-1∧∀ k,lo≤k→¬P k)∨∃ k,lo≤k∧P k∧r=idx k∧∀ k',lo≤k'→P k'→k≤k'
theorem MinI.skip {idx:Nat→Int} {P:Nat→Prop} {lo:Nat} {r:Int} (h:MinI idx P (lo+1) r) (hn:¬P lo):MinI idx P lo r:=by
 rcases h with ⟨h1,h2⟩|⟨k,h1,h2,h3,h4⟩
 ·refine .inl ⟨h1,fun k hk hp=>?_⟩
  by_cases e:k=lo
  ·rw[e] at hp;exact hn hp
  ·exact h2 k (by omega) hp
 ·refine .inr ⟨k,by omega,h2,h3,fun k' hk' hp=>?_⟩
  by_cases e:k'=lo
  ·rw[e] at hp;exact absurd hp hn
  ·exact h4 k' (by omega) hp
theorem MinI.all {idx:Nat→Int} {P:Nat→Prop} {lo:Nat} {r:Int} (h:MinI idx P (lo+1) r) (hn:∀ k,k≤lo→¬P k):MinI idx P 0 r:=by
 rcases h with ⟨h1,h2⟩|⟨k,h1,h2,h3,h4⟩
 ·refine .inl ⟨h1,fun k _ hp=>?_⟩
  rcases Nat.lt_or_ge lo k with e|e
  ·exact h2 k e hp
  ·exact hn k e hp
 ·refine .inr ⟨k,by omega,h2,h3,fun k' _ hp=>?_⟩
  rcases Nat.lt_or_ge lo k' with e|e
  ·exact h4 k' e hp
  ·exact absurd hp (hn k' e)
theorem MinI.here {idx:Nat→Int} {P:Nat→Prop} {lo:Nat} (h:P lo):MinI idx P lo (idx lo):=.inr ⟨lo,nR _,h,rfl,fun k' hk' _=>hk'⟩
section
variable (T:List Dir) (S:List Stl) (old:Option (List Dir)) (path:List ByteArray) (s:ByteArray) (x:Pack)
noncomputable def idxK (k:Nat):Int:=findI T (path.take k)
def zLz (k:Nat):Prop:=∀ k',k≤k'→k'≤path.length→findI T (path.take k'++[s])<0
def zB5 (k:Nat):Prop:=k≤path.length∧zLz T path s k∧zBq T S (idxK T path k).toNat s=false
noncomputable def zD2 (k:Nat):Bool:=zCR old (path.take k++[s]) x
def zGf (k:Nat):Prop:=zB5 T S path s k∧zD2 old path s x k=true
end
theorem zKH (T:List Dir) (S:List Stl) (old:Option (List Dir)) (path:List ByteArray) (s:ByteArray) (x:Pack):∀ (k:Nat) (b l:Int),k≤path.length+1→zLz T path s k →
  MinI (idxK T path) (zB5 T S path s) k b→MinI (idxK T path) (zGf T S old path s x) k l →
  MinI (idxK T path) (zB5 T S path s) 0 (zAv T S old path s x k (b,l)).1∧MinI (idxK T path) (zGf T S old path s x) 0 (zAv T S old path s x k (b,l)).2:=by
 intro k
 induction k with
 | zero=>intro b l _ _ hb hl;exact ⟨hb,hl⟩
 | succ k ih=>
   intro b l hk hc hb hl
   rw[zAv]
   by_cases h1:0≤findI T (path.take k++[s])
   ·rw[if_pos h1]
    have hno:∀ k',k'≤k→¬zB5 T S path s k':=fun k' hk' hv=>by
     have:=hv.2.1 k hk' (by omega)
     omega
    exact ⟨hb.all hno,hl.all fun k' hk' hv=>hno k' hk' hv.1⟩
   ·rw[if_neg h1]
    have hc':zLz T path s k:=fun k' h2 h3=>by
     by_cases e:k'=k
     ·rw[e];omega
     ·exact hc k' (by omega) h3
    by_cases h2:zBq T S (findI T (path.take k)).toNat s=true
    ·rw[if_pos h2]
     have hno:¬zB5 T S path s k:=fun hv=>by
      have:=hv.2.2
      unfold idxK at this
      rw[h2] at this;cases this
     exact ih b l (by omega) hc' (hb.skip hno) (hl.skip fun hv=>hno hv.1)
    ·rw[if_neg h2]
     have hv:zB5 T S path s k:=⟨by omega,hc',by unfold idxK;exact Bool.eq_false_iff.2 h2⟩
     refine ih _ _ (by omega) hc' (MinI.here hv) ?_
     by_cases h3:zCR old (path.take k++[s]) x=true
     ·rw[if_pos h3];exact MinI.here (P:=zGf T S old path s x) ⟨hv,h3⟩
     ·rw[if_neg h3];exact hl.skip fun hv=>h3 hv.2
theorem spotI_min (T:List Dir) (S:List Stl) (old:Option (List Dir)) (path:List ByteArray) (s:ByteArray) (x:Pack) (hpos:∀ k,k≤path.length→0≤idxK T path k) :
  (spotI T S old path s x=-1∧∀ k,¬zB5 T S path s k)∨∃ k,zB5 T S path s k∧spotI T S old path s x=idxK T path k ∧
    ∀ k',zB5 T S path s k'→(zD2 old path s x k'=true→zD2 old path s x k=true)∧(zD2 old path s x k'=zD2 old path s x k→k≤k'):=by
 have hno:∀ k,path.length+1≤k→¬zB5 T S path s k:=fun k hk hv=>by have:=hv.1;omega
 obtain ⟨h1,h2⟩:=zKH T S old path s x (path.length+1) (-1) (-1) (nR _) (fun k' h1 h2=>by omega) (.inl ⟨rfl,hno⟩) (.inl ⟨rfl,fun k hk hv=>hno k hk hv.1⟩)
 unfold spotI pickI
 generalize zAv T S old path s x (path.length+1) (-1,-1)=r at *
 obtain ⟨b,l⟩:=r
 simp only at h1 h2 ⊢
 have none_of:(∀ k,0≤k→¬zGf T S old path s x k)→(b=-1∧∀ k,¬zB5 T S path s k)∨∃ k,zB5 T S path s k∧b=idxK T path k ∧
   ∀ k',zB5 T S path s k'→(zD2 old path s x k'=true→zD2 old path s x k=true)∧(zD2 old path s x k'=zD2 old path s x k→k≤k'):=fun hn=>by
  rcases h1 with ⟨h3,h4⟩|⟨k,_,h3,h4,h5⟩
  ·exact .inl ⟨h3,fun k=>h4 k (nZ _)⟩
  ·exact .inr ⟨k,h3,h4,fun k' hk'=>⟨fun hl=>absurd ⟨hk',hl⟩ (hn k' (nZ _)),fun _=>h5 k' (nZ _) hk'⟩⟩
 rcases h2 with ⟨h3,h4⟩|⟨k,_,h3,h4,h5⟩
 ·rw[if_neg (by omega)];exact none_of h4
 ·have h0:0≤l:=by rw[h4];exact hpos k h3.1.1
  rw[if_pos h0]
  exact .inr ⟨k,h3.1,h4,fun k' hk'=>⟨fun _=>h3.2,fun e=>h5 k' (nZ _) ⟨hk',by rw[e];exact h3.2⟩⟩⟩
def putD (l:List Dir) (d:Dir):List Dir:=l.takeWhile (fun g=>!lessB (textB d.path) (textB g.path))++d::l.dropWhile (fun g=>!lessB (textB d.path) (textB g.path))
def sortD (l:List Dir):List Dir:=l.foldl putD []
def upD (x y:Dir):Prop:=lessB (textB y.path) (textB x.path)=false
theorem zHj (l:List Dir) (f:Dir):(putD l f).Perm (l++[f]):=by
 unfold putD
 have e:=List.takeWhile_append_dropWhile (p:=fun g:Dir=>!lessB (textB f.path) (textB g.path)) (l:=l)
 refine List.perm_middle.trans ?_
 rw[e]
 exact (List.perm_append_singleton f l).symm
theorem zM2 (l:List Dir):∀ a,(l.foldl putD a).Perm (a++l):=by
 induction l with
 | nil=>intro a;rw[List.append_nil];exact List.Perm.refl _
 | cons f l ih=>
   intro a
   rw[List.foldl_cons]
   refine (ih (putD a f)).trans ?_
   refine ((zHj a f).append_right l).trans ?_
   rw[List.append_assoc]
   exact List.Perm.refl _
theorem zA1 (l:List Dir):(sortD l).Perm l:=zM2 l []
theorem zMa {a b c:ByteArray} (h1:lessB b a=false) (h2:lessB c b=false):lessB c a=false:=by
 rw[zBv,decide_eq_false_iff_not] at *
 rw[List.not_lt] at *
 exact List.le_trans h1 h2
theorem zI2 {a b:ByteArray} (h:lessB a b=true):lessB b a=false:=by
 cases hb:lessB b a with
 | false=>rfl
 | true=>have:=zCQ h hb;rw[zBB] at this;cases this
theorem zIO {l:List Dir} {f:Dir} (h:l.Pairwise upD):(putD l f).Pairwise upD:=by
 induction l with
 | nil=>exact List.pairwise_singleton _ _
 | cons g l ih=>
   rw[List.pairwise_cons] at h
   unfold putD
   rw[List.takeWhile_cons,List.dropWhile_cons]
   cases hg:lessB (textB f.path) (textB g.path) with
   | false=>
     rw[if_pos (by rfl),if_pos (by rfl),List.cons_append,List.pairwise_cons]
     refine ⟨fun y hy=>?_,ih h.2⟩
     have hy':y∈putD l f:=hy
     rcases List.mem_append.1 ((zHj l f).mem_iff.1 hy') with hy|hy
     ·exact h.1 y hy
     ·rw[List.mem_singleton.1 hy];exact hg
   | true=>
     rw[if_neg (by decide),if_neg (by decide),List.nil_append,List.pairwise_cons]
     refine ⟨fun y hy=>?_,List.pairwise_cons.2 h⟩
     rcases List.mem_cons.1 hy with rfl|hy
     ·exact zI2 hg
     ·exact zMa (zI2 hg) (h.1 y hy)
theorem zEZ (l:List Dir):(sortD l).Pairwise upD:=by
 unfold sortD
 have:∀ (l a:List Dir),a.Pairwise upD→(l.foldl putD a).Pairwise upD:=fun l=>by
  induction l with
  | nil=>intro a h;exact h
  | cons f l ih=>intro a h;exact ih _ (zIO h)
 exact this l [] List.Pairwise.nil
theorem zIh {l:List Dir} (h:(l.map fun d=>textB d.path).Nodup) {a b:Dir} (ha:a∈l) (hb:b∈l) (e:textB a.path=textB b.path):a=b:=by
 induction l with
 | nil=>cases ha
 | cons x l ih=>
   rw[List.map_cons,List.nodup_cons] at h
   rcases List.mem_cons.1 ha with ea|ha'<;>rcases List.mem_cons.1 hb with eb|hb'
   ·rw[ea,eb]
   ·exact absurd (List.mem_map.2 ⟨b,hb',by rw[←e,ea]⟩) h.1
   ·exact absurd (List.mem_map.2 ⟨a,ha',by rw[e,eb]⟩) h.1
   ·exact ih h.2 ha' hb'
theorem zHE {l M:List Dir} (hn:(l.map fun d=>textB d.path).Nodup) (hp:M.Perm l) (hM:M.Pairwise upD):M=sortD l:=by
 refine List.Perm.eq_of_pairwise (le:=upD) ?_ hM (zEZ l) (hp.trans (zA1 l).symm)
 intro a b ha hb h1 h2
 refine zIh hn (hp.mem_iff.1 ha) ((zA1 l).mem_iff.1 hb) ?_
 unfold upD at h1 h2
 rw[zBv,decide_eq_false_iff_not,List.not_lt] at h1 h2
 exact ByteArray.ext (Array.toList_inj.1 (List.le_antisymm h1 h2))
theorem zJ2 {p q:List ByteArray} (hp:p.all nameB=true) (hq:q.all nameB=true) (h:textB p=textB q):p=q:=by
 unfold textB at h
 rw[if_pos hp,if_pos hq] at h
 have e47:∀ l:List ByteArray,l≠[]→(⟨#[47]⟩:ByteArray)≠⟨(zAp l).toArray⟩:=fun l hl e=>by
  have h1:([47]:List UInt8)=zAp l:=by
   have:=congrArg (fun b:ByteArray=>b.data.toList) e
   simpa using this
  cases l with
  | nil=>exact hl rfl
  | cons x t=>
    rw[zAp] at h1
    have h2:=congrArg List.length h1
    have h3:stepB.data.toList.length=9:=by decide
    simp only[List.length_append,List.length_cons,List.length_nil] at h2
    omega
 by_cases h1:p=[]<;>by_cases h2:q=[]
 ·rw[h1,h2]
 ·rw[if_pos h1,if_neg h2] at h
  exact absurd h (e47 q h2)
 ·rw[if_neg h1,if_pos h2] at h
  exact absurd h.symm (e47 p h1)
 ·rw[if_neg h1,if_neg h2] at h
  refine zKE hp hq ?_
  have:=congrArg (fun b:ByteArray=>b.data.toList) h
  simpa using this
theorem zFL {q:PlIn} {at_:Nat} {done:List ByteArray} {st:PlSt} (h:PlInv q at_ done st):(st.1.map fun d=>textB d.path).Nodup:=by
 rw[List.nodup_iff_pairwise_ne,List.pairwise_map]
 refine List.pairwise_iff_getElem.2 fun i j hi hj hij e=>?_
 have e2:=zJ2 (h.names _ (List.getElem_mem hi)).1 (h.names _ (List.getElem_mem hj)).1 e
 have h1:=zAg h.apart (gE hi)
 have h2:=zAg h.apart (gE hj)
 rw[e2,h2] at h1
 omega
noncomputable def zB0 (q:PlIn):List Dir×Int:=match zBH q with
 | .error c=>([],c)
 | .ok st=>(sortD st.1,0)
noncomputable def ownGo (q:PlIn) (at_:Nat) (n:Node):List Edge→PlSt→Except Int PlSt
 | [],st=>.ok st
 | e::l,st=>match stepE q at_ (kindP q n e) e st with
   | .error c=>.error c
   | .ok st'=>ownGo q at_ n l st'
noncomputable def zAN (q:PlIn) (n:Node) (kind:Nat) (l:List Edge):List Edge:=l.filter fun e=>decide (kindP q n e=kind)
theorem zDP (q:PlIn) (at_:Nat) (n:Node) (kind:Nat):∀ (l:List Edge) (st:PlSt),zAh q at_ n kind l st=ownGo q at_ n (zAN q n kind l) st
 | [],st=>rfl
 | e::l,st=>by
   rw[zAh]
   unfold zAN
   by_cases h:kindP q n e=kind
   ·rw[if_pos h,List.filter_cons_of_pos (by simp[h]),ownGo,h]
    cases stepE q at_ kind e st with
    | error c=>rfl
    | ok st'=>exact zDP q at_ n kind l st'
   ·rw[if_neg h,List.filter_cons_of_neg (by simp[h])]
    exact zDP q at_ n kind l st
theorem zEf (q:PlIn) (at_:Nat) (n:Node):∀ (a b:List Edge) (st:PlSt),ownGo q at_ n (a++b) st=match ownGo q at_ n a st with
  | .error c=>.error c
  | .ok st'=>ownGo q at_ n b st'
 | [],b,st=>rfl
 | e::a,b,st=>by
   rw[List.cons_append,ownGo,ownGo]
   cases stepE q at_ (kindP q n e) e st with
   | error c=>rfl
   | ok st'=>exact zEf q at_ n a b st'
theorem zIQ (q:PlIn) (at_:Nat) (n:Node) (st:PlSt):zAt q at_ n [1,2,3] st=match zAh q at_ n 1 n.edges st with
  | .error c=>.error c
  | .ok st'=>ownGo q at_ n (zAN q n 2 n.edges++zAN q n 3 n.edges) st':=by
 rw[zAt]
 cases zAh q at_ n 1 n.edges st with
 | error c=>rfl
 | ok st1=>
   simp only
   rw[zAt,zDP,zEf]
   cases ownGo q at_ n (zAN q n 2 n.edges) st1 with
   | error c=>rfl
   | ok st2=>
     simp only
     rw[zAt,zDP]
     cases ownGo q at_ n (zAN q n 3 n.edges) st2<;>rfl
theorem zIx (q:PlIn) (at_:Nat) (n:Node) {l:List Edge} {k:Nat} {e:Edge} (h:l[k]?=some e) (st:PlSt):ownGo q at_ n (l.drop k) st=match stepE q at_ (kindP q n e) e st with
  | .error c=>.error c
  | .ok st'=>ownGo q at_ n (l.drop (k+1)) st':=by
 obtain ⟨hk,e'⟩:=gS.1 h
 rw[dC hk,e',ownGo]
theorem zCP {q:PlIn} {n:Node} {kind:Nat} {l:List Edge} {k:Nat} {e:Edge} (h:l[k]?=some e):zAN q n kind (l.take (k+1))=zAN q n kind (l.take k)++if kindP q n e=kind then [e] else []:=by
 unfold zAN
 rw[List.take_add_one,h,List.filter_append]
 congr 1
 by_cases hk:kindP q n e=kind
 ·rw[if_pos hk];simp[hk]
 ·rw[if_neg hk];simp[hk]
theorem zBR {α β:Type} {f:α→β}:∀ {l:List α},(l.map f).Nodup→∀ {a b:α},a∈l→b∈l→f a=f b→a=b
 | [],_,a,b,ha,_,_=>by cases ha
 | x::l,h,a,b,ha,hb,e=>by
   rw[List.map_cons,List.nodup_cons] at h
   rcases List.mem_cons.1 ha with ea|ha'<;>rcases List.mem_cons.1 hb with eb|hb'
   ·rw[ea,eb]
   ·exact absurd (List.mem_map.2 ⟨b,hb',by rw[←e,ea]⟩) h.1
   ·exact absurd (List.mem_map.2 ⟨a,ha',by rw[e,eb]⟩) h.1
   ·exact zBR h.2 ha' hb' e
theorem zDS {q:PlIn} {n:Node} {kind:Nat} {l:List Edge} {e:Edge} (h:e∈zAN q n kind l):e∈l∧kindP q n e=kind:=by
 unfold zAN at h
 rw[List.mem_filter,decide_eq_true_eq] at h
 exact h
noncomputable def restE (q:PlIn) (n:Node):List Edge:=zAN q n 2 n.edges++zAN q n 3 n.edges
theorem zFe {q:PlIn} {n:Node} {e:Edge} (h:e∈restE q n):e∈n.edges∧2≤kindP q n e:=by
 unfold restE at h
 rcases List.mem_append.1 h with h|h
 ·have:=zDS h;exact ⟨this.1,by omega⟩
 ·have:=zDS h;exact ⟨this.1,by omega⟩
theorem zIi {q:PlIn} {n:Node} (hn:(zAE n.edges).Nodup):((restE q n).map (·.label)).Nodup:=by
 have sub:∀ k,((zAN q n k n.edges).map (·.label)).Nodup:=fun k=>((List.filter_sublist (l:=n.edges)).map _).nodup hn
 unfold restE
 rw[List.map_append,List.nodup_append]
 refine ⟨sub 2,sub 3,fun a ha b hb e=>?_⟩
 obtain ⟨x,hx,rfl⟩:=List.mem_map.1 ha
 obtain ⟨y,hy,rfl⟩:=List.mem_map.1 hb
 have h1:=zDS hx
 have h2:=zDS hy
 have:=zBR (f:=fun e:Edge=>e.label) hn h1.1 h2.1 e
 rw[this] at h1
 omega
theorem zJ3 {q:PlIn} {n:Node} {done:List ByteArray} (hn:(zAE n.edges).Nodup) (h:zBg q n 2 0 done):∀ e∈(restE q n).drop 0,e.label∉done:=fun e he hm=>by
 obtain ⟨h1,h2⟩:=zFe (show e∈restE q n from he)
 obtain ⟨j,e',g1,g2,g3⟩:=h _ hm
 have:=zBR (f:=fun e:Edge=>e.label) hn (mG g1) h1 g2
 rw[this] at g3
 omega
theorem zGz {q:PlIn} {n:Node} {done:List ByteArray} {k:Nat} {e:Edge} (hn:(zAE n.edges).Nodup) (h:∀ e∈(restE q n).drop k,e.label∉done) (he:(restE q n)[k]?=some e) :
  e∈n.edges∧e.label∉done∧∀ e'∈(restE q n).drop (k+1),e'.label∉done++[e.label]:=by
 obtain ⟨hk,e2⟩:=gS.1 he
 have hd:(restE q n).drop k=e::(restE q n).drop (k+1):=by rw[dC hk,e2]
 refine ⟨(zFe (mG he)).1,h e (by rw[hd];simp),fun e' he' hm=>?_⟩
 rcases List.mem_append.1 hm with hm|hm
 ·exact h e' (by rw[hd];simp[he']) hm
 ·have h1:=zIi hn (q:=q)
  have h2:((restE q n).drop k |>.map (·.label)).Nodup:=((List.drop_sublist k _).map _).nodup h1
  rw[hd,List.map_cons,List.nodup_cons] at h2
  exact h2.1 (List.mem_map.2 ⟨e',he',List.mem_singleton.1 hm⟩)
