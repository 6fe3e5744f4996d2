/- Placing a graph, in plain words: what stays true from edge to edge. -/
import Derived.Test.YtminjjdnmpaaoaaGreatDoorAg10
import Derived.Test.YtminjjdnmpaaoaaGreatDoorAg02
import Derived.Test.YtminjjdnmpaaoaaGreatDoorAg03
import Derived.Test.YtminjjdnmpaaoaaGreatDoorAg09
import Derived.WalkKit
import Derived.WalkSpells
import Derived.IntWalk
import Derived.Lib.Hide
import Derived.Test.YtminjjdnmpaaoaaGreatDoorAl
set_option linter.all false
set_option maxHeartbeats 3200000
set_option maxRecDepth 100000
namespace Go.Proofs.YtminjjdnmpaaoaaGreatDoor
open Go
theorem zBV {T:List Dir} {i:Nat} {d:Dir} (h:T[i]?=some d):dirAt T i=d:=by
 unfold dirAt;rw[List.getD_eq_getElem?_getD,h];rfl
theorem zA2 {T:List Dir} {i:Nat} {d:Dir} (h:T[i]?=some d):zAm T i=d.path:=by
 unfold zAm;rw[zBV h]
theorem zAa {T:List Dir} {i:Nat} (h:i<T.length):T[i]?=some (dirAt T i):=by
 unfold dirAt;rw[List.getD_eq_getElem?_getD,gE h];rfl
theorem zA0 {T:List Dir} (hn:(T.map (·.path)).Nodup) {i:Nat} {d:Dir} (h:T[i]?=some d):findI T d.path=(i:Int):=by
 rcases Int.lt_or_le (findI T d.path) 0 with hl|hl
 ·exact absurd rfl (zED hl (mG h))
 ·obtain ⟨j,hj⟩:∃ j:Nat,findI T d.path=(j:Int):=⟨(findI T d.path).toNat,by omega⟩
  obtain ⟨h1,h2⟩:=zFf hj
  obtain ⟨hi,e⟩:=gS.1 h
  rw[hj]
  have:j=i:=by
   have h3:(T.map (·.path))[j]'(by rw[List.length_map];exact h1)=(T.map (·.path))[i]'(by rw[List.length_map];exact hi):=by
    rw[List.getElem_map,List.getElem_map,h2,e]
   exact (List.getElem_inj hn).1 h3
  rw[this]
theorem zB1 {T:List Dir} {p:List ByteArray} (h:0≤findI T p):∃ (j:Nat) (d:Dir),findI T p=(j:Int)∧T[j]?=some d∧d.path=p:=by
 obtain ⟨j,hj⟩:∃ j:Nat,findI T p=(j:Int):=⟨(findI T p).toNat,by omega⟩
 obtain ⟨h1,h2⟩:=zFf hj
 exact ⟨j,_,hj,gE h1,h2⟩
theorem zD9 {p a:List ByteArray}:zCB p a=true↔a<+:p:=by
 unfold zCB
 rw[Bool.and_eq_true,decide_eq_true_eq,zCL]
 constructor
 ·rintro ⟨_,h⟩
  exact ⟨p.drop a.length,by conv=>lhs;rw[←h]
                            rw[h]
                            conv=>rhs;rw[←List.take_append_drop a.length p,h]⟩
 ·rintro ⟨r,rfl⟩
  exact ⟨by rw[List.length_append];omega,List.take_left⟩
structure PlInv (q:PlIn) (at_:Nat) (done:List ByteArray) (st:PlSt):Prop where
 pos:0<st.1.length
 len:st.1.length≤257
 root:∀ d,st.1[0]?=some d→d.path=[]∧d.node=0∧d.pack=zAC
 names:∀ d∈st.1,d.path.all nameB=true∧(textB d.path).size≤1024
 up:∀ (j:Nat) (d:Dir),st.1[j]?=some d→j≠0→d.path≠[]∧∃ (i:Nat) (e:Dir),i<j∧st.1[i]?=some e∧e.path=d.path.dropLast
 apart:(st.1.map (·.path)).Nodup
 node:∀ (j:Nat) (d:Dir),st.1[j]?=some d→j≠0→1≤d.node∧d.node<(q.g.length:Int)∧d.pack=zAj q d.node.toNat
 stl:∀ x∈st.2,x.frm<st.1.length∧x.dst<st.1.length∧(x.frm<at_∨(x.frm=at_∧x.label∈done))
 low:∀ (j:Nat) (d:Dir) (i:Nat) (e:Dir),st.1[j]?=some d→st.1[i]?=some e→at_≤i→j≠i→e.path<+:d.path→i=at_∧∃ s∈done,d.path=e.path++[s]
theorem PlInv.next {q:PlIn} {at_:Nat} {done:List ByteArray} {st:PlSt} (h:PlInv q at_ done st):PlInv q (at_+1) [] st:=
 { h with
   stl:=fun x hx=>by
    obtain ⟨h1,h2,h3⟩:=h.stl x hx
    exact ⟨h1,h2,.inl (by rcases h3 with h3|h3<;>omega)⟩
   low:=fun j d i e hj hi hle hne hp=>by
    have:=(h.low j d i e hj hi (by omega) hne hp).1
    omega}
theorem PlInv.start (q:PlIn):PlInv q 0 [] ([dirZ0],[]) where
 pos:=by decide
 len:=by decide
 root:=fun d hd=>by cases hd;exact ⟨rfl,rfl,rfl⟩
 names:=fun d hd=>by rw[List.mem_singleton.1 hd];exact ⟨rfl,by decide⟩
 up:=fun j d hj h0=>by
  cases j with
  | zero=>exact absurd rfl h0
  | succ j=>cases hj
 apart:=by simp
 node:=fun j d hj h0=>by
  cases j with
  | zero=>exact absurd rfl h0
  | succ j=>cases hj
 stl:=fun x hx=>by cases hx
 low:=fun j d i e hj hi _ hne _=>by
  cases j with
  | zero=>cases i with
    | zero=>exact absurd rfl hne
    | succ i=>cases hi
  | succ j=>cases hj
theorem PlInv.closed {q:PlIn} {at_:Nat} {done:List ByteArray} {st:PlSt} (h:PlInv q at_ done st):∀ (n j:Nat) (d:Dir) (k:Nat),st.1[j]?=some d→d.path.length=k+n→∃ (i:Nat) (e:Dir),i≤j∧st.1[i]?=some e∧e.path=d.path.take k:=by
 intro n
 induction n with
 | zero=>intro j d k hj hl;exact ⟨j,d,nR _,hj,by rw[List.take_of_length_le (by omega)]⟩
 | succ n ih=>
   intro j d k hj hl
   have h0:j≠0:=fun e=>by
    subst e
    have:=(h.root d hj).1
    rw[this,List.length_nil] at hl
    omega
   obtain ⟨_,i,e,hij,hi,he⟩:=h.up j d hj h0
   obtain ⟨i',e',h1,h2,h3⟩:=ih i e k hi (by rw[he,List.length_dropLast];omega)
   refine ⟨i',e',by omega,h2,?_⟩
   rw[h3,he,List.dropLast_eq_take,List.take_take,Nat.min_eq_left (by omega)]
theorem PlInv.find {q:PlIn} {at_:Nat} {done:List ByteArray} {st:PlSt} (h:PlInv q at_ done st) {j:Nat} {d:Dir} (hj:st.1[j]?=some d) {k:Nat} (hk:k≤d.path.length) :
  ∃ (i:Nat) (e:Dir),i≤j∧findI st.1 (d.path.take k)=(i:Int)∧st.1[i]?=some e∧e.path=d.path.take k:=by
 obtain ⟨i,e,h1,h2,h3⟩:=h.closed (d.path.length - k) j d k hj (by omega)
 exact ⟨i,e,h1,by rw[←h3];exact zA0 h.apart h2,h2,h3⟩
theorem PlInv.behind_ {q:PlIn} {at_:Nat} {done:List ByteArray} {st:PlSt} (h:PlInv q at_ done st) {i j:Nat} {d e:Dir} (hj:st.1[j]?=some d) (hi:st.1[i]?=some e) (hp:e.path<+:d.path):i≤j:=by
 obtain ⟨i',e',h1,h2,h3,h4⟩:=h.find hj (k:=e.path.length) hp.length_le
 have:d.path.take e.path.length=e.path:=(List.prefix_iff_eq_take.1 hp).symm
 rw[this] at h2
 rw[zA0 h.apart hi] at h2
 omega
theorem PlInv.fresh {q:PlIn} {at_:Nat} {done:List ByteArray} {st:PlSt} (h:PlInv q at_ done st) {d:Dir} (hd:st.1[at_]?=some d) {s:ByteArray} (hs:s∉done):findI st.1 (d.path++[s])<0:=by
 rcases Int.lt_or_le (findI st.1 (d.path++[s])) 0 with hl|hl
 ·exact hl
 ·exfalso
  obtain ⟨j,e,_,hj,hp⟩:=zB1 hl
  have hne:j≠at_:=fun e'=>by
   rw[e'] at hj
   rw[hd] at hj
   cases hj
   have:=congrArg List.length hp
   rw[List.length_append,List.length_singleton] at this
   omega
  obtain ⟨_,s',h1,h2⟩:=h.low j e at_ d hj hd (nR _) hne ⟨[s],hp.symm⟩
  rw[hp] at h2
  have:=List.append_cancel_left h2
  simp only[List.cons.injEq,and_true] at this
  rw[this] at hs
  exact hs h1
theorem PlInv.quiet {q:PlIn} {at_:Nat} {done:List ByteArray} {st:PlSt} (h:PlInv q at_ done st) {d:Dir} (hd:st.1[at_]?=some d) {s:ByteArray} (hs:s∉done):zBq st.1 st.2 at_ s=false:=by
 unfold zBq
 rw[List.any_eq_false]
 intro x hx ht
 unfold zBX at ht
 simp only[Bool.and_eq_true,decide_eq_true_eq] at ht
 obtain ⟨hl,hu,_⟩:=ht
 obtain ⟨h1,_,h3⟩:=h.stl x hx
 rcases h3 with h3|⟨h3,h4⟩
 ·have hf:=zAa h1
  rw[zD9,zA2 hd] at hu
  have:=h.behind_ hf hd (by rw[zAm] at hu;exact hu)
  omega
 ·rw[hl] at h4;exact hs h4
structure zFe (T:List Dir) (path:List ByteArray) (s:ByteArray) (r:Int):Prop where
 lo:0≤r
 is:∃ (i:Nat) (e:Dir),r=(i:Int)∧T[i]?=some e∧e.path<+:path∧findI T (e.path++[s])<0
theorem zKZ {q:PlIn} {at_:Nat} {done:List ByteArray} {st:PlSt} (h:PlInv q at_ done st) {j:Nat} {d:Dir} (hj:st.1[j]?=some d) (old:Option (List Dir)) (s:ByteArray) (x:Pack):∀ (k:Nat) (b l:Int),k≤d.path.length+1 →
  zFe st.1 d.path s b→(l=-1∨zFe st.1 d.path s l)→zFe st.1 d.path s (zAw st.1 st.2 old d.path s x k (b,l)).1∧((zAw st.1 st.2 old d.path s x k (b,l)).2=-1∨zFe st.1 d.path s (zAw st.1 st.2 old d.path s x k (b,l)).2):=by
 intro k
 induction k with
 | zero=>intro b l _ hb hl;exact ⟨hb,hl⟩
 | succ k ih=>
   intro b l hk hb hl
   rw[zAw]
   by_cases h1:0≤findI st.1 (d.path.take k++[s])
   ·rw[if_pos h1];exact ⟨hb,hl⟩
   ·rw[if_neg h1]
    by_cases h2:zBq st.1 st.2 (findI st.1 (d.path.take k)).toNat s=true
    ·rw[if_pos h2];exact ih b l (by omega) hb hl
    ·rw[if_neg h2]
     obtain ⟨i,e,_,hi,he,hp⟩:=h.find hj (k:=k) (by omega)
     have hok:zFe st.1 d.path s (findI st.1 (d.path.take k)):=⟨by omega,i,e,hi,he,by rw[hp];exact List.take_prefix _ _,by rw[hp];omega⟩
     refine ih _ _ (by omega) hok ?_
     split
     ·exact .inr hok
     ·exact hl
theorem zJC {q:PlIn} {at_:Nat} {done:List ByteArray} {st:PlSt} (h:PlInv q at_ done st) {d:Dir} (hd:st.1[at_]?=some d) (old:Option (List Dir)) {s:ByteArray} (hs:s∉done) (x:Pack):zFe st.1 d.path s (spotI st.1 st.2 old d.path s x):=by
 have h1:=h.fresh hd hs
 have h2:=h.quiet hd hs
 have h3:=zA0 h.apart hd
 have hok:zFe st.1 d.path s (at_:Int):=⟨by omega,at_,d,rfl,hd,List.prefix_refl _,h1⟩
 unfold spotI
 rw[zAw,List.take_length,if_neg (by omega),h3,Int.toNat_natCast,if_neg (by rw[h2];decide)]
 have h4:=zKZ h hd old s x d.path.length (at_:Int) (if zCC old (d.path++[s]) x=true then (at_:Int) else -1) (by omega) hok (by
  split
  ·exact .inr hok
  ·exact .inl rfl)
 generalize zAw st.1 st.2 old d.path s x d.path.length (at_,if zCC old (d.path++[s]) x=true then (at_:Int) else -1)=r at *
 unfold pickI
 by_cases hl:0≤r.2
 ·rw[if_pos hl]
  rcases h4.2 with e|e
  ·rw[e] at hl;exact absurd hl (by decide)
  ·exact e
 ·rw[if_neg hl];exact h4.1
theorem zBW {g:List Node} {ps:List Pack} (h:mayPl g ps=true):1≤g.length∧g.length≤128∧ps.length=g.length∧∀ (j:Nat) (n:Node),g[j]?=some n→∃ x,ps[j]?=some x∧formP g j n x=true:=by
 unfold mayPl at h
 simp only[Bool.and_eq_true,decide_eq_true_eq] at h
 refine ⟨h.1,h.2.1,h.2.2.1,fun j n hj=>?_⟩
 have:=zG5 g h.2.2.2 j n hj
 rwa [Nat.zero_add] at this
theorem zCH {q:PlIn} (h:mayPl q.g q.ps=true) {j:Nat} {n:Node} (hj:q.g[j]?=some n) {e:Edge} (he:e∈n.edges) :
  1≤e.to∧e.to<(q.g.length:Int)∧(zAh q e.to.toNat).name=e.label∧(zAj q e.to.toNat).name=e.label∧packB (zAj q e.to.toNat)=true∧nameB e.label=true:=by
 obtain ⟨_,_,hz,hall⟩:=zBW h
 obtain ⟨x,hx,hf⟩:=hall j n hj
 unfold formP at hf
 simp only[Bool.and_eq_true] at hf
 obtain ⟨_,⟨_,hr⟩,hed,_⟩:=hf
 have h1:=List.all_eq_true.1 hed e he
 unfold edgeP at h1
 simp only[Bool.and_eq_true,decide_eq_true_eq] at h1
 obtain ⟨h1,h2,h3⟩:=h1
 have hlt:e.to.toNat<q.g.length:=by omega
 rw[gE hlt] at h3
 simp only[decide_eq_true_eq] at h3
 have hn:zAh q e.to.toNat=q.g[e.to.toNat]:=by unfold zAh;rw[List.getD_eq_getElem?_getD,gE hlt];rfl
 obtain ⟨y,hy,hf2⟩:=hall e.to.toNat _ (gE hlt)
 have hp:zAj q e.to.toNat=y:=by unfold zAj;rw[List.getD_eq_getElem?_getD,hy];rfl
 unfold formP headP at hf2
 rw[if_neg (by omega)] at hf2
 unfold zDs at hf2
 simp only[Bool.and_eq_true,decide_eq_true_eq] at hf2
 refine ⟨h1,h2,by rw[hn,h3],by rw[hp,hf2.1.2.1,h3],by rw[hp];exact hf2.1.1,?_⟩
 exact zCv hr e.label (List.mem_map.2 ⟨e,he,rfl⟩)
theorem zEt:∀ {l:List ByteArray} {p:Option ByteArray},zAS p l=true→l.Nodup∧∀ a,p=some a→∀ x∈l,lessB a x=true
 | [],p,_=>⟨List.nodup_nil,fun a _ x hx=>by cases hx⟩
 | s::l,p,h=>by
   rw[zAS,Bool.and_eq_true,Bool.and_eq_true] at h
   obtain ⟨h1,h2⟩:=zEt h.2
   refine ⟨List.nodup_cons.2 ⟨fun hm=>?_,h1⟩,fun a ha x hx=>?_⟩
   ·have:=h2 s rfl s hm
    rw[zBB] at this
    cases this
   ·subst ha
    have hb:lessB a s=true:=h.1.2
    rcases List.mem_cons.1 hx with rfl|hx
    ·exact hb
    ·exact zCK hb (h2 s rfl x hx)
theorem zA1 {q:PlIn} (h:mayPl q.g q.ps=true) {j:Nat} {n:Node} (hj:q.g[j]?=some n):(zAE n.edges).Nodup:=by
 obtain ⟨_,_,_,hall⟩:=zBW h
 obtain ⟨x,_,hf⟩:=hall j n hj
 unfold formP at hf
 simp only[Bool.and_eq_true] at hf
 exact (zEt hf.2.1.2).1
theorem zLj {q:PlIn} {at_:Nat} {done:List ByteArray} {st:PlSt} (h:PlInv q at_ done st) {d:Dir} (hd:st.1[at_]?=some d) {s:ByteArray} (hs:s∉done) (hnm:nameB s=true)
  {node:Nat} (hn1:1≤node) (hn2:node<q.g.length) (hps:(zAj q node).name=s) (hq:q.path≤1024) (hqd:q.dirs≤256)
  {home:Nat} {e:Dir} (hh:st.1[home]?=some e) (hpre:e.path<+:d.path) (hno:findI st.1 (e.path++[s])<0) {T:List Dir} (hT:putP q st.1 home node=.ok T) :
  T=st.1++[⟨e.path++[s],zAj q node,(node:Int)⟩]∧PlInv q at_ (done++[s]) (T,st.2++[⟨at_,s,st.1.length⟩]):=by
 have hpa:zAm st.1 home=e.path:=zA2 hh
 unfold putP at hT
 rw[hpa,hps] at hT
 by_cases c1:q.path<((textB (e.path++[s])).size:Int)
 ·rw[if_pos c1] at hT;cases hT
 rw[if_neg c1] at hT
 by_cases c2:q.dirs≤(st.1.length:Int) - 1
 ·rw[if_pos c2] at hT;cases hT
 rw[if_neg c2] at hT
 cases hT
 refine ⟨rfl,?_⟩
 obtain ⟨nd,hnd⟩:∃ nd:Dir,nd=⟨e.path++[s],zAj q node,(node:Int)⟩:=⟨_,rfl⟩
 have hndp:nd.path=e.path++[s]:=by rw[hnd]
 rw[←hnd]
 have hnew:∀ d'∈st.1,d'.path≠e.path++[s]:=fun d' hd'=>zED hno hd'
 have hat:∀ (j:Nat) (d':Dir),(st.1++[nd])[j]?=some d'→st.1[j]?=some d'∨(j=st.1.length∧d'=nd):=fun j d' hj=>by
  rcases Nat.lt_trichotomy j st.1.length with hlt|heq|hgt
  ·rw[List.getElem?_append_left hlt] at hj;exact .inl hj
  ·rw[heq,List.getElem?_append_right (nR _),Nat.sub_self] at hj
   cases hj
   exact .inr ⟨heq,rfl⟩
  ·rw[List.getElem?_eq_none (by rw[List.length_append,List.length_singleton];omega)] at hj
   cases hj
 have hold:∀ (j:Nat) (d':Dir),st.1[j]?=some d'→(st.1++[nd])[j]?=some d':=fun j d' hj=>by
  rw[List.getElem?_append_left (gS.1 hj).1];exact hj
 have hhl:=(gS.1 hh).1
 have hdl:=(gS.1 hd).1
 exact {
  pos:=by show 0<(st.1++[nd]).length;rw[List.length_append];have:=h.pos;omega
  len:=by show (st.1++[nd]).length≤257;rw[List.length_append,List.length_singleton];omega
  root:=fun d' hd'=>by
   rcases hat 0 d' hd' with hj|⟨hj,_⟩
   ·exact h.root d' hj
   ·have:=h.pos;omega
  names:=fun d' hd'=>by
   rcases List.mem_append.1 hd' with hm|hm
   ·exact h.names d' hm
   ·rw[List.mem_singleton.1 hm,hndp]
    refine ⟨?_,by omega⟩
    rw[List.all_append,(h.names e (mG hh)).1,List.all_cons,hnm]
    rfl
  up:=fun j d' hj h0=>by
   rcases hat j d' hj with hj'|⟨hj',rfl⟩
   ·obtain ⟨h1,i,e',h2,h3,h4⟩:=h.up j d' hj' h0
    exact ⟨h1,i,e',h2,hold _ _ h3,h4⟩
   ·rw[hndp]
    exact ⟨by simp,home,e,by omega,hold _ _ hh,by rw[List.dropLast_concat]⟩
  apart:=by
   show ((st.1++[nd]).map (·.path)).Nodup
   rw[List.map_append,List.nodup_append]
   refine ⟨h.apart,by simp,fun a ha b hb hab=>?_⟩
   obtain ⟨d',hd',rfl⟩:=List.mem_map.1 ha
   have:b=nd.path:=by simpa using hb
   rw[this,hndp] at hab
   exact hnew d' hd' hab
  node:=fun j d' hj h0=>by
   rcases hat j d' hj with hj'|⟨_,rfl⟩
   ·exact h.node j d' hj' h0
   ·rw[hnd]
    exact ⟨by show (1:Int)≤(node:Int);omega,by show (node:Int)<_;omega,by show zAj q node=zAj q (node:Int).toNat;rw[Int.toNat_natCast]⟩
  stl:=fun x hx=>by
   have hl:(st.1++[nd]).length=st.1.length+1:=by rw[List.length_append];rfl
   rcases List.mem_append.1 hx with hm|hm
   ·obtain ⟨h1,h2,h3⟩:=h.stl x hm
    refine ⟨by rw[hl];omega,by rw[hl];omega,?_⟩
    rcases h3 with h3|⟨h3,h4⟩
    ·exact .inl h3
    ·exact .inr ⟨h3,List.mem_append.2 (.inl h4)⟩
   ·rw[List.mem_singleton.1 hm]
    exact ⟨by rw[hl];show at_<_;omega,by rw[hl];show st.1.length<_;omega,.inr ⟨rfl,by simp⟩⟩
  low:=fun j d' i e' hj hi hle hne hp=>by
   rcases hat i e' hi with hi'|⟨hi',rfl⟩
   ·rcases hat j d' hj with hj'|⟨hj',rfl⟩
    ·obtain ⟨h1,s',h2,h3⟩:=h.low j d' i e' hj' hi' hle hne hp
     exact ⟨h1,s',List.mem_append.2 (.inl h2),h3⟩
    ·rw[hndp] at hp ⊢
     have hp2:e'.path<+:e.path:=by
      rcases List.prefix_concat_iff.1 hp with h1|h1
      ·exact absurd h1 (hnew e' (mG hi'))
      ·exact h1
     have hia:i=at_:=by
      by_cases hc:at_=i
      ·exact hc.symm
      ·exact (h.low at_ d i e' hd hi' hle hc (hp2.trans hpre)).1
     subst hia
     rw[hd] at hi'
     cases hi'
     have he:e.path=d.path:=hpre.eq_of_length_le hp2.length_le
     exact ⟨rfl,s,by simp,by rw[he]⟩
   ·rcases hat j d' hj with hj'|⟨hj',_⟩
    ·exfalso
     rw[hndp] at hp
     obtain ⟨i',e2,_,_,h3,h4⟩:=h.find hj' (k:=(e.path++[s]).length) hp.length_le
     rw[←List.prefix_iff_eq_take.1 hp] at h4
     exact hnew e2 (mG h3) h4
    ·omega}
theorem zKP {T:List Dir} {i:Int} {s:ByteArray} (h:0≤lookI T i s):(lookI T i s).toNat<T.length:=by
 have:=(zC0 T i s).2
 omega
theorem zJH {q:PlIn} {at_:Nat} {done:List ByteArray} {st:PlSt} (h:PlInv q at_ done st) {d:Dir} (hd:st.1[at_]?=some d) (kind:Nat) {e:Edge} (hs:e.label∉done) :
  ∃ (i:Nat) (f:Dir),homeP q st at_ kind e=(i:Int)∧st.1[i]?=some f∧f.path<+:d.path∧findI st.1 (f.path++[e.label])<0:=by
 unfold homeP
 by_cases hk:kind=2
 ·rw[if_pos hk,zA2 hd]
  exact (zJC h hd q.old hs (zAj q e.to.toNat)).is
 ·rw[if_neg hk]
  exact ⟨at_,d,rfl,hd,List.prefix_refl _,h.fresh hd hs⟩
theorem zDA {q:PlIn} {at_:Nat} {done:List ByteArray} {st st':PlSt} (h:PlInv q at_ done st) (hm:mayPl q.g q.ps=true) (hq:q.path≤1024) (hqd:q.dirs≤256) {d:Dir} (hd:st.1[at_]?=some d)
  {j:Nat} {n:Node} (hn:q.g[j]?=some n) {e:Edge} (he:e∈n.edges) (hs:e.label∉done) {kind:Nat} (hst:stepE q at_ kind e st=.ok st') :
  PlInv q at_ (done++[e.label]) st'∧(∃ l,st'.1=st.1++l)∧st'.2.length=st.2.length+1:=by
 have hdl:=(gS.1 hd).1
 unfold stepE at hst
 by_cases hr:zAs q st at_ kind e=true
 ·rw[if_pos hr] at hst
  cases hst
  unfold zAs at hr
  simp only[Bool.and_eq_true,decide_eq_true_eq] at hr
  have hlt:(lookI st.1 (at_:Int) e.label).toNat<st.1.length:=by
   have:=(zC0 st.1 (at_:Int) e.label).2
   omega
  refine ⟨{ h with
   stl:=fun x hx=>?_
   low:=fun j d' i e' hj hi hle hne hp=>?_},⟨[],by simp⟩,by simp⟩
  ·rcases List.mem_append.1 hx with hm|hm
   ·obtain ⟨h1,h2,h3⟩:=h.stl x hm
    refine ⟨h1,h2,?_⟩
    rcases h3 with h3|⟨h3,h4⟩
    ·exact .inl h3
    ·exact .inr ⟨h3,List.mem_append.2 (.inl h4)⟩
   ·rw[List.mem_singleton.1 hm]
    exact ⟨hdl,hlt,.inr ⟨rfl,by simp⟩⟩
  ·obtain ⟨h1,s,h2,h3⟩:=h.low j d' i e' hj hi hle hne hp
   exact ⟨h1,s,List.mem_append.2 (.inl h2),h3⟩
 rw[if_neg hr] at hst
 by_cases hk1:kind=1
 ·rw[if_pos hk1] at hst;cases hst
 rw[if_neg hk1] at hst
 obtain ⟨i,f,h1,h2,h3,h4⟩:=zJH h hd kind hs
 rw[h1,Int.toNat_natCast] at hst
 cases hp:putP q st.1 i e.to.toNat with
 | error c=>rw[hp] at hst;cases hst
 | ok T=>
   rw[hp] at hst
   cases hst
   obtain ⟨e1,e2,e3,e4,e5,e6⟩:=zCH hm hn he
   obtain ⟨g1,g2⟩:=zLj h hd hs e6 (node:=e.to.toNat) (by omega) (by omega) e4 hq hqd h2 h3 h4 hp
   exact ⟨g2,⟨_,g1⟩,by simp⟩
def zBU (q:PlIn) (n:Node) (kind k:Nat) (done:List ByteArray):Prop:=∀ s∈done,∃ (j:Nat) (e:Edge),n.edges[j]?=some e∧e.label=s∧(kindP q n e<kind∨(kindP q n e=kind∧j<k))
theorem zBU.more {q:PlIn} {n:Node} {kind k:Nat} {done:List ByteArray} (h:zBU q n kind k done) {k':Nat} (hk:k≤k'):zBU q n kind k' done:=fun s hs=>by
 obtain ⟨j,e,h1,h2,h3⟩:=h s hs
 exact ⟨j,e,h1,h2,by omega⟩
theorem zBU.turn {q:PlIn} {n:Node} {kind k:Nat} {done:List ByteArray} (h:zBU q n kind k done):zBU q n (kind+1) 0 done:=fun s hs=>by
 obtain ⟨j,e,h1,h2,h3⟩:=h s hs
 exact ⟨j,e,h1,h2,by omega⟩
theorem zBU.not {q:PlIn} {n:Node} {kind k:Nat} {done:List ByteArray} (h:zBU q n kind k done) (hn:(zAE n.edges).Nodup) {e:Edge} (he:n.edges[k]?=some e) (hk:kindP q n e=kind):e.label∉done:=fun hm=>by
 obtain ⟨j,e',h1,h2,h3⟩:=h _ hm
 obtain ⟨hj,ej⟩:=gS.1 h1
 obtain ⟨hk',ek⟩:=gS.1 he
 have hjk:j=k:=by
  have h5:(zAE n.edges)[j]'(by unfold zAE;rw[List.length_map];exact hj)=(zAE n.edges)[k]'(by unfold zAE;rw[List.length_map];exact hk'):=by
   simp only[zAE,List.getElem_map,ej,ek,h2]
  exact (List.getElem_inj hn).1 h5
 subst hjk
 rw[h1] at he
 cases he
 omega
theorem zBU.step {q:PlIn} {n:Node} {kind k:Nat} {done:List ByteArray} (h:zBU q n kind k done) {e:Edge} (he:n.edges[k]?=some e) (hk:kindP q n e=kind):zBU q n kind (k+1) (done++[e.label]):=fun s hs=>by
 rcases List.mem_append.1 hs with hs|hs
 ·obtain ⟨j,e',h1,h2,h3⟩:=h s hs
  exact ⟨j,e',h1,h2,by omega⟩
 ·exact ⟨k,e,he,(List.mem_singleton.1 hs).symm,.inr ⟨hk,by omega⟩⟩
theorem zAu (q:PlIn) (n:Node) (e:Edge):1≤kindP q n e∧kindP q n e≤3:=by
 unfold kindP
 split
 ·decide
 ·split<;>decide
theorem zBF (q:PlIn) (at_:Nat) (n:Node) (kind:Nat) {l:List Edge} {k:Nat} {e:Edge} (h:l[k]?=some e) (st:PlSt):zAP q at_ n kind (l.drop k) st=if kindP q n e=kind then (match stepE q at_ kind e st with
  | .error c=>.error c
  | .ok st'=>zAP q at_ n kind (l.drop (k+1)) st') else zAP q at_ n kind (l.drop (k+1)) st:=by
 obtain ⟨hk,e'⟩:=gS.1 h
 rw[dC hk,e',zAP]
 rfl
def MinI (idx:Nat→Int) (P:Nat→Prop) (lo:Nat) (r:Int):Prop:=(r=-1∧∀ k,lo≤k→¬P k)∨∃ k,lo≤k∧P k∧r=idx k∧∀ k',lo≤k'→P k'→k≤k'
theorem MinI.skip {idx:Nat→Int} {P:Nat→Prop} {lo:Nat} {r:Int} (h:MinI idx P (lo+1) r) (hn:¬P lo):MinI idx P lo r:=by
 rcases h with ⟨h1,h2⟩|⟨k,h1,h2,h3,h4⟩
 ·refine .inl ⟨h1,fun k hk hp=>?_⟩
  by_cases e:k=lo
  ·rw[e] at hp;exact hn hp
  ·exact h2 k (by omega) hp
 ·refine .inr ⟨k,by omega,h2,h3,fun k' hk' hp=>?_⟩
  by_cases e:k'=lo
  ·rw[e] at hp;exact absurd hp hn
  ·exact h4 k' (by omega) hp
theorem MinI.all {idx:Nat→Int} {P:Nat→Prop} {lo:Nat} {r:Int} (h:MinI idx P (lo+1) r) (hn:∀ k,k≤lo→¬P k):MinI idx P 0 r:=by
 rcases h with ⟨h1,h2⟩|⟨k,h1,h2,h3,h4⟩
 ·refine .inl ⟨h1,fun k _ hp=>?_⟩
  rcases Nat.lt_or_ge lo k with e|e
  ·exact h2 k e hp
  ·exact hn k e hp
 ·refine .inr ⟨k,by omega,h2,h3,fun k' _ hp=>?_⟩
  rcases Nat.lt_or_ge lo k' with e|e
  ·exact h4 k' e hp
  ·exact absurd hp (hn k' e)
theorem MinI.here {idx:Nat→Int} {P:Nat→Prop} {lo:Nat} (h:P lo):MinI idx P lo (idx lo):=.inr ⟨lo,nR _,h,rfl,fun k' hk' _=>hk'⟩
section
variable (T:List Dir) (S:List Stl) (old:Option (List Dir)) (path:List ByteArray) (s:ByteArray) (x:Pack)
noncomputable def idxK (k:Nat):Int:=findI T (path.take k)
def zKb (k:Nat):Prop:=∀ k',k≤k'→k'≤path.length→findI T (path.take k'++[s])<0
def zB4 (k:Nat):Prop:=k≤path.length∧zKb T path s k∧zBq T S (idxK T path k).toNat s=false
noncomputable def zC8 (k:Nat):Bool:=zCC old (path.take k++[s]) x
def zGW (k:Nat):Prop:=zB4 T S path s k∧zC8 old path s x k=true
end
theorem zJn (T:List Dir) (S:List Stl) (old:Option (List Dir)) (path:List ByteArray) (s:ByteArray) (x:Pack):∀ (k:Nat) (b l:Int),k≤path.length+1→zKb T path s k →
  MinI (idxK T path) (zB4 T S path s) k b→MinI (idxK T path) (zGW T S old path s x) k l →
  MinI (idxK T path) (zB4 T S path s) 0 (zAw T S old path s x k (b,l)).1∧MinI (idxK T path) (zGW T S old path s x) 0 (zAw T S old path s x k (b,l)).2:=by
 intro k
 induction k with
 | zero=>intro b l _ _ hb hl;exact ⟨hb,hl⟩
 | succ k ih=>
   intro b l hk hc hb hl
   rw[zAw]
   by_cases h1:0≤findI T (path.take k++[s])
   ·rw[if_pos h1]
    have hno:∀ k',k'≤k→¬zB4 T S path s k':=fun k' hk' hv=>by
     have:=hv.2.1 k hk' (by omega)
     omega
    exact ⟨hb.all hno,hl.all fun k' hk' hv=>hno k' hk' hv.1⟩
   ·rw[if_neg h1]
    have hc':zKb T path s k:=fun k' h2 h3=>by
     by_cases e:k'=k
     ·rw[e];omega
     ·exact hc k' (by omega) h3
    by_cases h2:zBq T S (findI T (path.take k)).toNat s=true
    ·rw[if_pos h2]
     have hno:¬zB4 T S path s k:=fun hv=>by
      have:=hv.2.2
      unfold idxK at this
      rw[h2] at this;cases this
     exact ih b l (by omega) hc' (hb.skip hno) (hl.skip fun hv=>hno hv.1)
    ·rw[if_neg h2]
     have hv:zB4 T S path s k:=⟨by omega,hc',by unfold idxK;exact Bool.eq_false_iff.2 h2⟩
     refine ih _ _ (by omega) hc' (MinI.here hv) ?_
     by_cases h3:zCC old (path.take k++[s]) x=true
     ·rw[if_pos h3];exact MinI.here (P:=zGW T S old path s x) ⟨hv,h3⟩
     ·rw[if_neg h3];exact hl.skip fun hv=>h3 hv.2
theorem spotI_min (T:List Dir) (S:List Stl) (old:Option (List Dir)) (path:List ByteArray) (s:ByteArray) (x:Pack) (hpos:∀ k,k≤path.length→0≤idxK T path k) :
  (spotI T S old path s x=-1∧∀ k,¬zB4 T S path s k)∨∃ k,zB4 T S path s k∧spotI T S old path s x=idxK T path k ∧
    ∀ k',zB4 T S path s k'→(zC8 old path s x k'=true→zC8 old path s x k=true)∧(zC8 old path s x k'=zC8 old path s x k→k≤k'):=by
 have hno:∀ k,path.length+1≤k→¬zB4 T S path s k:=fun k hk hv=>by have:=hv.1;omega
 obtain ⟨h1,h2⟩:=zJn T S old path s x (path.length+1) (-1) (-1) (nR _) (fun k' h1 h2=>by omega) (.inl ⟨rfl,hno⟩) (.inl ⟨rfl,fun k hk hv=>hno k hk hv.1⟩)
 unfold spotI pickI
 generalize zAw T S old path s x (path.length+1) (-1,-1)=r at *
 obtain ⟨b,l⟩:=r
 simp only at h1 h2 ⊢
 have none_of:(∀ k,0≤k→¬zGW T S old path s x k)→(b=-1∧∀ k,¬zB4 T S path s k)∨∃ k,zB4 T S path s k∧b=idxK T path k ∧
   ∀ k',zB4 T S path s k'→(zC8 old path s x k'=true→zC8 old path s x k=true)∧(zC8 old path s x k'=zC8 old path s x k→k≤k'):=fun hn=>by
  rcases h1 with ⟨h3,h4⟩|⟨k,_,h3,h4,h5⟩
  ·exact .inl ⟨h3,fun k=>h4 k (nZ _)⟩
  ·exact .inr ⟨k,h3,h4,fun k' hk'=>⟨fun hl=>absurd ⟨hk',hl⟩ (hn k' (nZ _)),fun _=>h5 k' (nZ _) hk'⟩⟩
 rcases h2 with ⟨h3,h4⟩|⟨k,_,h3,h4,h5⟩
 ·rw[if_neg (by omega)];exact none_of h4
 ·have h0:0≤l:=by rw[h4];exact hpos k h3.1.1
  rw[if_pos h0]
  exact .inr ⟨k,h3.1,h4,fun k' hk'=>⟨fun _=>h3.2,fun e=>h5 k' (nZ _) ⟨hk',by rw[e];exact h3.2⟩⟩⟩
def putD (l:List Dir) (d:Dir):List Dir:=l.takeWhile (fun g=>!lessB (textB d.path) (textB g.path))++d::l.dropWhile (fun g=>!lessB (textB d.path) (textB g.path))
def sortD (l:List Dir):List Dir:=l.foldl putD []
def upD (x y:Dir):Prop:=lessB (textB y.path) (textB x.path)=false
theorem zHY (l:List Dir) (f:Dir):(putD l f).Perm (l++[f]):=by
 unfold putD
 have e:=List.takeWhile_append_dropWhile (p:=fun g:Dir=>!lessB (textB f.path) (textB g.path)) (l:=l)
 refine List.perm_middle.trans ?_
 rw[e]
 exact (List.perm_append_singleton f l).symm
theorem zMp (l:List Dir):∀ a,(l.foldl putD a).Perm (a++l):=by
 induction l with
 | nil=>intro a;rw[List.append_nil];exact List.Perm.refl _
 | cons f l ih=>
   intro a
   rw[List.foldl_cons]
   refine (ih (putD a f)).trans ?_
   refine ((zHY a f).append_right l).trans ?_
   rw[List.append_assoc]
   exact List.Perm.refl _
theorem zBj (l:List Dir):(sortD l).Perm l:=zMp l []
theorem zMl {a b c:ByteArray} (h1:lessB b a=false) (h2:lessB c b=false):lessB c a=false:=by
 rw[zBr,decide_eq_false_iff_not] at *
 rw[List.not_lt] at *
 exact List.le_trans h1 h2
theorem zIy {a b:ByteArray} (h:lessB a b=true):lessB b a=false:=by
 cases hb:lessB b a with
 | false=>rfl
 | true=>have:=zCK h hb;rw[zBB] at this;cases this
theorem zIh {l:List Dir} {f:Dir} (h:l.Pairwise upD):(putD l f).Pairwise upD:=by
 induction l with
 | nil=>exact List.pairwise_singleton _ _
 | cons g l ih=>
   rw[List.pairwise_cons] at h
   unfold putD
   rw[List.takeWhile_cons,List.dropWhile_cons]
   cases hg:lessB (textB f.path) (textB g.path) with
   | false=>
     rw[if_pos (by rfl),if_pos (by rfl),List.cons_append,List.pairwise_cons]
     refine ⟨fun y hy=>?_,ih h.2⟩
     have hy':y∈putD l f:=hy
     rcases List.mem_append.1 ((zHY l f).mem_iff.1 hy') with hy|hy
     ·exact h.1 y hy
     ·rw[List.mem_singleton.1 hy];exact hg
   | true=>
     rw[if_neg (by decide),if_neg (by decide),List.nil_append,List.pairwise_cons]
     refine ⟨fun y hy=>?_,List.pairwise_cons.2 h⟩
     rcases List.mem_cons.1 hy with rfl|hy
     ·exact zIy hg
     ·exact zMl (zIy hg) (h.1 y hy)
theorem zEc (l:List Dir):(sortD l).Pairwise upD:=by
 unfold sortD
 have:∀ (l a:List Dir),a.Pairwise upD→(l.foldl putD a).Pairwise upD:=fun l=>by
  induction l with
  | nil=>intro a h;exact h
  | cons f l ih=>intro a h;exact ih _ (zIh h)
 exact this l [] List.Pairwise.nil
theorem zII {l:List Dir} (h:(l.map fun d=>textB d.path).Nodup) {a b:Dir} (ha:a∈l) (hb:b∈l) (e:textB a.path=textB b.path):a=b:=by
 induction l with
 | nil=>cases ha
 | cons x l ih=>
   rw[List.map_cons,List.nodup_cons] at h
   rcases List.mem_cons.1 ha with ea|ha'<;>rcases List.mem_cons.1 hb with eb|hb'
   ·rw[ea,eb]
   ·exact absurd (List.mem_map.2 ⟨b,hb',by rw[←e,ea]⟩) h.1
   ·exact absurd (List.mem_map.2 ⟨a,ha',by rw[e,eb]⟩) h.1
   ·exact ih h.2 ha' hb'
theorem zHZ {l M:List Dir} (hn:(l.map fun d=>textB d.path).Nodup) (hp:M.Perm l) (hM:M.Pairwise upD):M=sortD l:=by
 refine List.Perm.eq_of_pairwise (le:=upD) ?_ hM (zEc l) (hp.trans (zBj l).symm)
 intro a b ha hb h1 h2
 refine zII hn (hp.mem_iff.1 ha) ((zBj l).mem_iff.1 hb) ?_
 unfold upD at h1 h2
 rw[zBr,decide_eq_false_iff_not,List.not_lt] at h1 h2
 exact ByteArray.ext (Array.toList_inj.1 (List.le_antisymm h1 h2))
theorem zJc {p q:List ByteArray} (hp:p.all nameB=true) (hq:q.all nameB=true) (h:textB p=textB q):p=q:=by
 unfold textB at h
 rw[if_pos hp,if_pos hq] at h
 have e47:∀ l:List ByteArray,l≠[]→(⟨#[47]⟩:ByteArray)≠⟨(zAq l).toArray⟩:=fun l hl e=>by
  have h1:([47]:List UInt8)=zAq l:=by
   have:=congrArg (fun b:ByteArray=>b.data.toList) e
   simpa using this
  cases l with
  | nil=>exact hl rfl
  | cons x t=>
    rw[zAq] at h1
    have h2:=congrArg List.length h1
    have h3:stepB.data.toList.length=9:=by decide
    simp only[List.length_append,List.length_cons,List.length_nil] at h2
    omega
 by_cases h1:p=[]<;>by_cases h2:q=[]
 ·rw[h1,h2]
 ·rw[if_pos h1,if_neg h2] at h
  exact absurd h (e47 q h2)
 ·rw[if_neg h1,if_pos h2] at h
  exact absurd h.symm (e47 p h1)
 ·rw[if_neg h1,if_neg h2] at h
  refine zJr hp hq ?_
  have:=congrArg (fun b:ByteArray=>b.data.toList) h
  simpa using this
theorem zFa {q:PlIn} {at_:Nat} {done:List ByteArray} {st:PlSt} (h:PlInv q at_ done st):(st.1.map fun d=>textB d.path).Nodup:=by
 rw[List.nodup_iff_pairwise_ne,List.pairwise_map]
 refine List.pairwise_iff_getElem.2 fun i j hi hj hij e=>?_
 have e2:=zJc (h.names _ (List.getElem_mem hi)).1 (h.names _ (List.getElem_mem hj)).1 e
 have h1:=zA0 h.apart (gE hi)
 have h2:=zA0 h.apart (gE hj)
 rw[e2,h2] at h1
 omega
noncomputable def zBR (q:PlIn):List Dir×Int:=match zA4 q with
 | .error c=>([],c)
 | .ok st=>(sortD st.1,0)
noncomputable def ownGo (q:PlIn) (at_:Nat) (n:Node):List Edge→PlSt→Except Int PlSt
 | [],st=>.ok st
 | e::l,st=>match stepE q at_ (kindP q n e) e st with
   | .error c=>.error c
   | .ok st'=>ownGo q at_ n l st'
noncomputable def zAQ (q:PlIn) (n:Node) (kind:Nat) (l:List Edge):List Edge:=l.filter fun e=>decide (kindP q n e=kind)
theorem zDQ (q:PlIn) (at_:Nat) (n:Node) (kind:Nat):∀ (l:List Edge) (st:PlSt),zAP q at_ n kind l st=ownGo q at_ n (zAQ q n kind l) st
 | [],st=>rfl
 | e::l,st=>by
   rw[zAP]
   unfold zAQ
   by_cases h:kindP q n e=kind
   ·rw[if_pos h,List.filter_cons_of_pos (by simp[h]),ownGo,h]
    cases stepE q at_ kind e st with
    | error c=>rfl
    | ok st'=>exact zDQ q at_ n kind l st'
   ·rw[if_neg h,List.filter_cons_of_neg (by simp[h])]
    exact zDQ q at_ n kind l st
theorem zEZ (q:PlIn) (at_:Nat) (n:Node):∀ (a b:List Edge) (st:PlSt),ownGo q at_ n (a++b) st=match ownGo q at_ n a st with
  | .error c=>.error c
  | .ok st'=>ownGo q at_ n b st'
 | [],b,st=>rfl
 | e::a,b,st=>by
   rw[List.cons_append,ownGo,ownGo]
   cases stepE q at_ (kindP q n e) e st with
   | error c=>rfl
   | ok st'=>exact zEZ q at_ n a b st'
theorem zIl (q:PlIn) (at_:Nat) (n:Node) (st:PlSt):zAU q at_ n [1,2,3] st=match zAP q at_ n 1 n.edges st with
  | .error c=>.error c
  | .ok st'=>ownGo q at_ n (zAQ q n 2 n.edges++zAQ q n 3 n.edges) st':=by
 rw[zAU]
 cases zAP q at_ n 1 n.edges st with
 | error c=>rfl
 | ok st1=>
   simp only
   rw[zAU,zDQ,zEZ]
   cases ownGo q at_ n (zAQ q n 2 n.edges) st1 with
   | error c=>rfl
   | ok st2=>
     simp only
     rw[zAU,zDQ]
     cases ownGo q at_ n (zAQ q n 3 n.edges) st2<;>rfl
theorem zIv (q:PlIn) (at_:Nat) (n:Node) {l:List Edge} {k:Nat} {e:Edge} (h:l[k]?=some e) (st:PlSt):ownGo q at_ n (l.drop k) st=match stepE q at_ (kindP q n e) e st with
  | .error c=>.error c
  | .ok st'=>ownGo q at_ n (l.drop (k+1)) st':=by
 obtain ⟨hk,e'⟩:=gS.1 h
 rw[dC hk,e',ownGo]
theorem zCM {q:PlIn} {n:Node} {kind:Nat} {l:List Edge} {k:Nat} {e:Edge} (h:l[k]?=some e):zAQ q n kind (l.take (k+1))=zAQ q n kind (l.take k)++if kindP q n e=kind then [e] else []:=by
 unfold zAQ
 rw[List.take_add_one,h,List.filter_append]
 congr 1
 by_cases hk:kindP q n e=kind
 ·rw[if_pos hk];simp[hk]
 ·rw[if_neg hk];simp[hk]
theorem zBN {α β:Type} {f:α→β}:∀ {l:List α},(l.map f).Nodup→∀ {a b:α},a∈l→b∈l→f a=f b→a=b
 | [],_,a,b,ha,_,_=>by cases ha
 | x::l,h,a,b,ha,hb,e=>by
   rw[List.map_cons,List.nodup_cons] at h
   rcases List.mem_cons.1 ha with ea|ha'<;>rcases List.mem_cons.1 hb with eb|hb'
   ·rw[ea,eb]
   ·exact absurd (List.mem_map.2 ⟨b,hb',by rw[←e,ea]⟩) h.1
   ·exact absurd (List.mem_map.2 ⟨a,ha',by rw[e,eb]⟩) h.1
   ·exact zBN h.2 ha' hb' e
theorem zDL {q:PlIn} {n:Node} {kind:Nat} {l:List Edge} {e:Edge} (h:e∈zAQ q n kind l):e∈l∧kindP q n e=kind:=by
 unfold zAQ at h
 rw[List.mem_filter,decide_eq_true_eq] at h
 exact h
noncomputable def restE (q:PlIn) (n:Node):List Edge:=zAQ q n 2 n.edges++zAQ q n 3 n.edges
theorem zFF {q:PlIn} {n:Node} {e:Edge} (h:e∈restE q n):e∈n.edges∧2≤kindP q n e:=by
 unfold restE at h
 rcases List.mem_append.1 h with h|h
 ·have:=zDL h;exact ⟨this.1,by omega⟩
 ·have:=zDL h;exact ⟨this.1,by omega⟩
theorem zIg {q:PlIn} {n:Node} (hn:(zAE n.edges).Nodup):((restE q n).map (·.label)).Nodup:=by
 have sub:∀ k,((zAQ q n k n.edges).map (·.label)).Nodup:=fun k=>((List.filter_sublist (l:=n.edges)).map _).nodup hn
 unfold restE
 rw[List.map_append,List.nodup_append]
 refine ⟨sub 2,sub 3,fun a ha b hb e=>?_⟩
 obtain ⟨x,hx,rfl⟩:=List.mem_map.1 ha
 obtain ⟨y,hy,rfl⟩:=List.mem_map.1 hb
 have h1:=zDL hx
 have h2:=zDL hy
 have:=zBN (f:=fun e:Edge=>e.label) hn h1.1 h2.1 e
 rw[this] at h1
 omega
theorem zJ9 {q:PlIn} {n:Node} {done:List ByteArray} (hn:(zAE n.edges).Nodup) (h:zBU q n 2 0 done):∀ e∈(restE q n).drop 0,e.label∉done:=fun e he hm=>by
 obtain ⟨h1,h2⟩:=zFF (show e∈restE q n from he)
 obtain ⟨j,e',g1,g2,g3⟩:=h _ hm
 have:=zBN (f:=fun e:Edge=>e.label) hn (mG g1) h1 g2
 rw[this] at g3
 omega
theorem zHc {q:PlIn} {n:Node} {done:List ByteArray} {k:Nat} {e:Edge} (hn:(zAE n.edges).Nodup) (h:∀ e∈(restE q n).drop k,e.label∉done) (he:(restE q n)[k]?=some e) :
  e∈n.edges∧e.label∉done∧∀ e'∈(restE q n).drop (k+1),e'.label∉done++[e.label]:=by
 obtain ⟨hk,e2⟩:=gS.1 he
 have hd:(restE q n).drop k=e::(restE q n).drop (k+1):=by rw[dC hk,e2]
 refine ⟨(zFF (mG he)).1,h e (by rw[hd];simp),fun e' he' hm=>?_⟩
 rcases List.mem_append.1 hm with hm|hm
 ·exact h e' (by rw[hd];simp[he']) hm
 ·have h1:=zIg hn (q:=q)
  have h2:((restE q n).drop k |>.map (·.label)).Nodup:=((List.drop_sublist k _).map _).nodup h1
  rw[hd,List.map_cons,List.nodup_cons] at h2
  exact h2.1 (List.mem_map.2 ⟨e',he',List.mem_singleton.1 hm⟩)
end Go.Proofs.YtminjjdnmpaaoaaGreatDoor
namespace Go.Proofs.YtminjjdnmpaaoaaGreatDoor
open Go.Rows Go.RowKit Go.Shelf Go.Sort
def rStl:Rp Stl where
 size:=3
 holds:=fun w S x cs=>cs=[.int .i64 (x.frm:Int),.string x.label,.int .i64 (x.dst:Int)]∧x.label.size≤maxLen∧x.frm≤1000000∧x.dst≤1000000
 len:=fun ⟨h,_⟩=>by rw[h];rfl
 one:=fun ⟨h,_⟩=>by rw[h];simp[Value.oneCell']
 mono:=fun ⟨h,c0⟩ hk=>⟨h,c0⟩
structure PlCtx where
 w0:World
 P:Nat
 gA:Option Addr
 gn:Nat
 gc:Nat
 pA:Option Addr
 pn:Nat
 pc:Nat
 dec:Int
 nod:Int
 ov:Value
 q:PlIn
def OldV (w:World) (S:Nat→Prop) (ov:Value) (old:Option (List Dir)):Prop:=
 (old=none∧ov=.pointer none)∨∃ (b o:Nat) (A:Option Addr) (n c:Nat) (l:List Dir),old=some l∧ov=.pointer (some ⟨b,o,none⟩)∧b<w.heap.size∧S b∧w.cell? ⟨b,o,none⟩=some (.slice A n c)∧SlV rDir w S l (.slice A n c)∧(∀ d∈l,d.path.length * 32≤140737488355328)
theorem OldV.keep {w w':World} {S:Nat→Prop} {ov:Value} {old:Option (List Dir)} (h:OldV w S ov old) (hb:Below w.heap.size w w'):OldV w' S ov old:=by
 rcases h with h|⟨b,o,A,n,c,l,h1,h2,h3,h4,h5,h6,h7⟩
 ·exact .inl h
 ·exact .inr ⟨b,o,A,n,c,l,h1,h2,lL h3 hb.size,h4,zAA hb h5 h3,h6.belowSize hb,h7⟩
structure PlCtx.Ok (C:PlCtx):Prop where
 tab:Tab C.w0
 g:SlV rNode C.w0 (fun b=>b<C.w0.heap.size) C.q.g (.slice C.gA C.gn C.gc)
 p:SlV rPack C.w0 (fun b=>b<C.w0.heap.size) C.q.ps (.slice C.pA C.pn C.pc)
 o:OldV C.w0 (fun b=>b<C.w0.heap.size) C.ov C.q.old
 le:C.w0.heap.size≤C.P
 dirs:I64 C.q.dirs
 path:I64 C.q.path
 gz:C.q.g.length≤1048576
 pz:C.q.ps.length≤1048576
def PlWd (C:PlCtx) (w:World) (st:PlSt):Prop:=
 ∃ (A:Option Addr) (c:Nat) (A':Option Addr) (c':Nat) (S:Nat→Prop),
   w.heap[C.P]?=some (.cells #[.slice C.gA C.gn C.gc,.slice C.pA C.pn C.pc,.int .i64 C.dec,.int .i64 C.nod,.int .i64 C.q.dirs,.int .i64 C.q.path,C.ov,.slice A st.1.length c,.slice A' st.2.length c'] 78 (0,0)) ∧
   Own rDir w C.w0.heap.size 54 (.slice A st.1.length c) st.1 S∧Own rStl w C.w0.heap.size 148 (.slice A' st.2.length c') st.2 (fun _=>False) ∧
   (∀ b,S b→b≠C.P∧(Value.slice A' st.2.length c').ownBlock≠some b)∧(Value.slice A st.1.length c).ownBlock≠some C.P∧(Value.slice A' st.2.length c').ownBlock≠some C.P ∧
   (∀ k,(Value.slice A st.1.length c).ownBlock=some k→(Value.slice A' st.2.length c').ownBlock≠some k)∧Below C.w0.heap.size C.w0 w∧∀ b,S b→C.w0.heap.size≤b
theorem PlWd.keep {C:PlCtx} {w w':World} {st:PlSt} (hC:C.Ok) (h:PlWd C w st) (hb:Below w.heap.size w w'):PlWd C w' st:=by
 obtain ⟨A,c,A',c',S,h1,h2,h3,h4,h5,h6,h7,h8⟩:=h
 have hP:C.P<w.heap.size:=(aS.1 h1).1
 exact ⟨A,c,A',c',S,(hb.block _ hP).trans h1,h2.keep hb,h3.keep hb,h4,h5,h6,h7,bot h8.1 hb,h8.2⟩
theorem PlWd.base {C:PlCtx} {w:World} {st:PlSt} (h:PlWd C w st):Below C.w0.heap.size C.w0 w:=by
 obtain ⟨A,c,A',c',S,h1,h2,h3,h4,h5,h6,h7,h8⟩:=h
 exact h8.1
theorem PlWd.graph {C:PlCtx} {w:World} {st:PlSt} (hC:C.Ok) (h:PlWd C w st):SlV rNode w (fun b=>b<C.w0.heap.size) C.q.g (.slice C.gA C.gn C.gc):=hC.g.belowSize h.base
theorem PlWd.packs {C:PlCtx} {w:World} {st:PlSt} (hC:C.Ok) (h:PlWd C w st):SlV rPack w (fun b=>b<C.w0.heap.size) C.q.ps (.slice C.pA C.pn C.pc):=hC.p.belowSize h.base
structure PlRd (C:PlCtx) (w:World) (st:PlSt) (A:Option Addr) (c:Nat) (A':Option Addr) (c':Nat):Prop where
 c0:w.cell? ⟨C.P,0,none⟩=some (.slice C.gA C.gn C.gc)
 c1:w.cell? ⟨C.P,1,none⟩=some (.slice C.pA C.pn C.pc)
 c2:w.cell? ⟨C.P,2,none⟩=some (.int .i64 C.dec)
 c3:w.cell? ⟨C.P,3,none⟩=some (.int .i64 C.nod)
 c4:w.cell? ⟨C.P,4,none⟩=some (.int .i64 C.q.dirs)
 c5:w.cell? ⟨C.P,5,none⟩=some (.int .i64 C.q.path)
 c6:w.cell? ⟨C.P,6,none⟩=some C.ov
 c7:w.cell? ⟨C.P,7,none⟩=some (.slice A st.1.length c)
 c8:w.cell? ⟨C.P,8,none⟩=some (.slice A' st.2.length c')
 dirs:SlV rDir w (fun _=>True) st.1 (.slice A st.1.length c)
 stls:SlV rStl w (fun _=>True) st.2 (.slice A' st.2.length c')
 hP:C.P<w.heap.size
theorem PlWd.read {C:PlCtx} {w:World} {st:PlSt} (h:PlWd C w st):∃ A c A' c',PlRd C w st A c A' c':=by
 obtain ⟨A,c,A',c',S,h1,h2,h3,h4,h5,h6,h7,h8⟩:=h
 exact ⟨A,c,A',c',cO _ _ 0 _ _ _ h1,cO _ _ 1 _ _ _ h1,cO _ _ 2 _ _ _ h1,cO _ _ 3 _ _ _ h1,cO _ _ 4 _ _ _ h1,cO _ _ 5 _ _ _ h1,cO _ _ 6 _ _ _ h1,cO _ _ 7 _ _ _ h1,cO _ _ 8 _ _ _ h1,h2.slv.more fun _ _ _=>trivial,h3.slv.more fun _ _ _=>trivial,(aS.1 h1).1⟩
theorem PlRd.keep {C:PlCtx} {w w':World} {st:PlSt} {A:Option Addr} {c:Nat} {A':Option Addr} {c':Nat} (h:PlRd C w st A c A' c') (hb:Below w.heap.size w w'):PlRd C w' st A c A' c':=
 ⟨zAA hb h.c0 h.hP,zAA hb h.c1 h.hP,zAA hb h.c2 h.hP,zAA hb h.c3 h.hP,zAA hb h.c4 h.hP,zAA hb h.c5 h.hP,zAA hb h.c6 h.hP,zAA hb h.c7 h.hP,zAA hb h.c8 h.hP,h.dirs.belowSize hb,h.stls.belowSize hb,lL h.hP hb.size⟩
theorem zH6 {S:List Stl} {k:Nat} {x:Stl} (h:S[k]?=some x) (i:Nat) (s:ByteArray):zBE (S.drop k) i s=if x.frm=i∧x.label=s then (x.dst:Int) else zBE (S.drop (k+1)) i s:=by
 obtain ⟨hk,e⟩:=gS.1 h
 rw[dC hk,e,zBE]
theorem zLE (C:PlCtx) (w:World) (st:PlSt) (hw:PlWd C w st) (i:Nat) (hi:i≤1000000) (s:ByteArray) :
  Calls Tryz.prog 128 #[.pointer (some ⟨C.P,0,none⟩),.int .i64 (i:Int),.string s] w fun e w'=>e=.returned (.int .i64 (zBE st.2 i s))∧Below w.heap.size w w':=by
 obtain ⟨A,c,A',c',hr⟩:=hw.read
 have x8:=hr.c8
 have hst:=cH hr.stls
 have hcm:=hr.stls.cap_le
 unfold maxLen at hcm
 have HR:Hid (zBE st.2 i s=zBE (st.2.drop 0) i s):=by unfold Hid;rw[List.drop_zero]
 have Hend:Hid (∀ k,st.2.length≤k→zBE (st.2.drop k) i s=-1):=fun k hk=>by rw[dN hk];rfl
 have hcn:=hr.stls.n_eq
 clear hr hw
 obtain ⟨n,hn⟩:∃ n,n=st.2.length:=⟨_,rfl⟩
 rw[←hn] at x8 hst Hend hcm
 have hn63:n≤9223372036854775807:=by
  obtain ⟨_,_,h1,h2,h3⟩:=hst.out.val
  simp only[Value.slice.injEq] at h1
  omega
 have Hn:=cH hn
 clear hn hcn hcm
 generalize st.2=SS at *
 generalize zBE SS i s=R at *
 generalize C.P=PB at *
 go_enter Tryz.func128,Tryz.ntmps128
 go_wp2_with fail
 go_loopw [14] (fun t wr=>∃ k:Nat,k≤n∧t=.int .i64 k∧Hid (R=zBE (SS.drop k) i s)∧Hid (Below w.heap.size w wr)) (fun t _=>n - (intOf t).toNat)
 case atStart=>exact ⟨0,nZ _,rfl,HR,bR _ _⟩
 case round=>
  clear HR x8
  obtain ⟨k,hk,rfl,heq,hbel⟩:=hrel
  have hk0:(0:Int)≤(k:Int):=by omega
  by_cases hlt:k<n
  case neg=>
   have He:Hid (R=-1):=by unfold Hid;rw[heq.out,Hend.out k (by omega)]
   have hI:¬(k:Int)<(n:Int):=by omega
   clear heq Hend
   go_wp2_with fail
   go_ret
   exact ⟨zAx He.out.symm,hbel.out⟩
  have hkn:(k:Int)<(n:Int):=by omega
  obtain ⟨x,hx⟩:∃ x,SS[k]?=some x:=⟨_,gE (by have:=Hn.out;omega)⟩
  obtain ⟨b,o,cs,hA,_,hb1,⟨rfl,hlz,hf,hd⟩,hcell⟩:=(hst.out.belowSize hbel.out).elem hx
  subst hA
  have c0:=hcell 0 _ rfl
  have c1:=hcell 1 _ rfl
  have c2:=hcell 2 _ rfl
  simp only[rStl,Nat.add_zero] at c0 c1 c2
  have Hstep:=cH (zH6 hx i s)
  clear hcell hlz
  obtain ⟨xf,xl,xd⟩:=x
  simp only at c0 c1 c2 hf hd Hstep
  have HBa:Hid (∀ o:Obj,Below w.heap.size w (wr.alloc o)):=fun o=>bal hbel.out o
  by_cases h1:xf=i
  ·have hb1:((xf:Int)==(i:Int))=true:=by simp[h1]
   by_cases h2:xl=s
   ·have hb2:=zAf h2
    have He:Hid (R=(xd:Int)):=by unfold Hid;rw[heq.out,Hstep.out,if_pos ⟨h1,h2⟩]
    clear heq Hstep h1 h2 Hend
    go_wp2_with fail
    go_ret
    exact ⟨zAx He.out.symm,HBa.out _⟩
   ·have hb2:=zAW h2
    have He:Hid (R=zBE (SS.drop (k+1)) i s):=by unfold Hid;rw[heq.out,Hstep.out,if_neg (fun h=>h2 h.2)]
    clear heq Hstep h1 h2
    go_wp2_with fail
    go_roundw
    case rel=>exact ⟨k+1,by omega,by go_num,He,HBa.out _⟩
    case measure=>simp[intOf];omega
  ·have hb1:((xf:Int)==(i:Int))=false:=by simp;omega
   have He:Hid (R=zBE (SS.drop (k+1)) i s):=by unfold Hid;rw[heq.out,Hstep.out,if_neg (fun h=>h1 h.1)]
   clear heq Hstep h1
   go_wp2_with fail
   go_roundw
   case rel=>exact ⟨k+1,by omega,by go_num,He,HBa.out _⟩
   case measure=>simp[intOf];omega
