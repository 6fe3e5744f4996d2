/- Placing a graph, in plain words: what can be placed, how a directory's edges are settled, where a directory is put. -/
import Derived.Test.YtminjjdnmpaaoaaGreatDoorIn09
import Derived.Test.YtminjjdnmpaaoaaGreatDoorIn02
import Derived.Test.YtminjjdnmpaaoaaGreatDoorIn03
import Derived.WalkKit
import Derived.WalkSpells
import Derived.IntWalk
import Derived.Lib.Hide
import Derived.Test.YtminjjdnmpaaoaaGreatDoorAl
set_option linter.all false
set_option maxHeartbeats 3200000
set_option maxRecDepth 100000
namespace Go.Proofs.YtminjjdnmpaaoaaGreatDoor
open Go
noncomputable def zEY (n:Node) (x:Pack):Bool:=(n.name.toList==[])&&(zeroV n.ver&&(decide (n.ctx.length=0)&&eqB x zAC))
noncomputable def zEV (n:Node) (x:Pack):Bool:=packB x&&(decide (x.name=n.name)&&eqB x.ver n.ver)
noncomputable def headP (i:Nat) (n:Node) (x:Pack):Bool:=if i=0 then zEY n x else zEV n x
noncomputable def edgeP (g:List Node) (e:Edge):Bool:=decide (1≤e.to)&&(decide (e.to<(g.length:Int))&&match g[e.to.toNat]? with|some y=>decide (y.name=e.label)|none=>false)
def zA0:List Edge→ByteArray→Option Nat
 | [],_=>none
 | e::l,s=>if e.label=s then some 0 else (zA0 l s).map (·+1)
noncomputable def pinP (g:List Node) (es:List Edge) (q:Pin):Bool:=match zA0 es q.name with
 | none=>false
 | some k=>match es[k]? with
   | none=>false
   | some e=>match g[e.to.toNat]? with
     | none=>false
     | some y=>eqB y.ver q.ver
noncomputable def formP (g:List Node) (i:Nat) (n:Node) (x:Pack):Bool:=
 headP i n x&&((zAP none (zAZ n.ctx)&&zAP none (zAE n.edges))&&(n.edges.all (edgeP g)&&n.ctx.all (pinP g n.edges)))
noncomputable def zBz (g:List Node):Nat→List Node→List Pack→Bool
 | i,n::l,x::m=>formP g i n x&&zBz g (i+1) l m
 | _,[],[]=>true
 | _,_,_=>false
noncomputable def mayPl (g:List Node) (ps:List Pack):Bool:=decide (1≤g.length)&&(decide (g.length≤128)&&(decide (ps.length=g.length)&&zBz g 0 g ps))
theorem zHR (g:List Node):∀ {l:List Node} {m:List Pack} {i:Nat},zBz g i l m=true→∀ (j:Nat) (n:Node),l[j]?=some n→∃ x,m[j]?=some x∧formP g (i+j) n x=true
 | [],_,_,_,j,n,h=>by cases h
 | a::l,[],i,hf,j,n,h=>by simp[zBz] at hf
 | a::l,b::m,i,hf,0,n,h=>by
   rw[zBz,Bool.and_eq_true] at hf
   cases h
   exact ⟨b,rfl,hf.1⟩
 | a::l,b::m,i,hf,j+1,n,h=>by
   rw[zBz,Bool.and_eq_true] at hf
   obtain ⟨x,hx,hx2⟩:=zHR g hf.2 j n h
   exact ⟨x,hx,by rwa [show i+(j+1)=i+1+j from by omega]⟩
theorem zH9 (g:List Node) {l:List Node} {m:List Pack} {k:Nat} {n:Node} {x:Pack} (hl:l[k]?=some n) (hm:m[k]?=some x):zBz g k (l.drop k) (m.drop k)=(formP g k n x&&zBz g (k+1) (l.drop (k+1)) (m.drop (k+1))):=by
 obtain ⟨h1,e1⟩:=gS.1 hl
 obtain ⟨h2,e2⟩:=gS.1 hm
 rw[dC h1,dC h2,e1,e2,zBz]
theorem zIK (g:List Node) {l:List Node} {m:List Pack} {k:Nat} (h1:l.length≤k) (h2:m.length≤k):zBz g k (l.drop k) (m.drop k)=true:=by
 rw[dN h1,dN h2]
 rfl
structure Stl where
 frm:Nat
 label:ByteArray
 dst:Nat
abbrev PlSt:=List Dir×List Stl
def dirZ0:Dir:=⟨[],⟨⟨#[]⟩,⟨0,0,0⟩,[],[],[]⟩,0⟩
def dirAt (T:List Dir) (i:Nat):Dir:=T.getD i dirZ0
def zAk (T:List Dir) (i:Nat):List ByteArray:=(dirAt T i).path
noncomputable def zB4 (path above:List ByteArray):Bool:=decide (above.length≤path.length)&&eqB (path.take above.length) above
def zBA (S:List Stl) (i:Nat) (s:ByteArray):Int:=match S with
 | []=>-1
 | x::l=>if x.frm=i∧x.label=s then (x.dst:Int) else zBA l i s
noncomputable def zBR (T:List Dir) (home:Nat) (s:ByteArray) (x:Stl):Bool:=decide (x.label=s)&&(zB4 (zAk T x.frm) (zAk T home)&&decide ((zAk T x.dst).length≤(zAk T home).length))
noncomputable def zBn (T:List Dir) (S:List Stl) (home:Nat) (s:ByteArray):Bool:=S.any (zBR T home s)
noncomputable def zCH (old:Option (List Dir)) (inside:List ByteArray) (x:Pack):Bool:=match old with
 | none=>false
 | some o=>decide (0≤findI o inside)&&eqB (dirAt o (findI o inside).toNat).pack x
noncomputable def zDm (T:List Dir) (S:List Stl) (at_ from_:Nat) (q:Pin):Bool:=decide (0≤zBA S from_ q.name)&&decide (lookI T (at_:Int) q.name=zBA S from_ q.name)
noncomputable def seesB (g:List Node) (T:List Dir) (S:List Stl) (at_ from_:Nat):Bool:=match g[(dirAt T at_).node.toNat]? with
 | none=>false
 | some n=>n.ctx.all (zDm T S at_ from_)
noncomputable def zAt (T:List Dir) (S:List Stl) (old:Option (List Dir)) (path:List ByteArray) (s:ByteArray) (x:Pack):Nat→Int×Int→Int×Int
 | 0,st=>st
 | k+1,(best,liked)=>
   if 0≤findI T (path.take k++[s]) then (best,liked)
   else if zBn T S (findI T (path.take k)).toNat s=true then zAt T S old path s x k (best,liked)
   else zAt T S old path s x k (findI T (path.take k),if zCH old (path.take k++[s]) x=true then findI T (path.take k) else liked)
def pickI (r:Int×Int):Int:=if 0≤r.2 then r.2 else r.1
noncomputable def spotI (T:List Dir) (S:List Stl) (old:Option (List Dir)) (path:List ByteArray) (s:ByteArray) (x:Pack):Int:=pickI (zAt T S old path s x (path.length+1) (-1,-1))
structure PlIn where
 g:List Node
 ps:List Pack
 dirs:Int
 path:Int
 old:Option (List Dir)
def zA1 (q:PlIn) (i:Nat):Pack:=q.ps.getD i ⟨⟨#[]⟩,⟨0,0,0⟩,[],[],[]⟩
def zAb (q:PlIn) (i:Nat):Node:=q.g.getD i ⟨⟨#[]⟩,⟨0,0,0⟩,[],[]⟩
noncomputable def putP (q:PlIn) (T:List Dir) (home node:Nat):Except Int (List Dir):=
 if q.path<((textB (zAk T home++[(zA1 q node).name])).size:Int) then .error 40
 else if q.dirs≤(T.length:Int) - 1 then .error 41
 else .ok (T++[⟨zAk T home++[(zA1 q node).name],zA1 q node,(node:Int)⟩])
noncomputable def kindP (q:PlIn) (n:Node) (e:Edge):Nat:=if (n.ctx.any fun x=>decide (x.name=e.label))=true then 1 else if (zAb q e.to.toNat).ctx.length=0 then 2 else 3
noncomputable def zAw (q:PlIn) (st:PlSt) (at_:Nat) (kind:Nat) (e:Edge):Bool:=
 decide (0≤lookI st.1 (at_:Int) e.label)&&(decide ((dirAt st.1 (lookI st.1 (at_:Int) e.label).toNat).node=e.to)&&(decide (kind≠3)||seesB q.g st.1 st.2 (lookI st.1 (at_:Int) e.label).toNat at_))
noncomputable def homeP (q:PlIn) (st:PlSt) (at_:Nat) (kind:Nat) (e:Edge):Int:=
 if kind=2 then spotI st.1 st.2 q.old (zAk st.1 at_) e.label (zA1 q e.to.toNat) else (at_:Int)
noncomputable def stepE (q:PlIn) (at_:Nat) (kind:Nat) (e:Edge) (st:PlSt):Except Int PlSt:=
 if zAw q st at_ kind e=true then .ok (st.1,st.2++[⟨at_,e.label,(lookI st.1 (at_:Int) e.label).toNat⟩])
 else if kind=1 then .error 33
 else match putP q st.1 (homeP q st at_ kind e).toNat e.to.toNat with
  | .error c=>.error c
  | .ok T=>.ok (T,st.2++[⟨at_,e.label,st.1.length⟩])
noncomputable def zAi (q:PlIn) (at_:Nat) (n:Node) (kind:Nat):List Edge→PlSt→Except Int PlSt
 | [],st=>.ok st
 | e::l,st=>if kindP q n e=kind then (match stepE q at_ kind e st with
    | .error c=>.error c
    | .ok st'=>zAi q at_ n kind l st') else zAi q at_ n kind l st
noncomputable def zAr (q:PlIn) (at_:Nat) (n:Node):List Nat→PlSt→Except Int PlSt
 | [],st=>.ok st
 | k::l,st=>match zAi q at_ n k n.edges st with
   | .error c=>.error c
   | .ok st'=>zAr q at_ n l st'
noncomputable def dirP (q:PlIn) (at_:Nat) (st:PlSt):Except Int PlSt:=zAr q at_ (zAb q (dirAt st.1 at_).node.toNat) [1,2,3] st
noncomputable def dirsP (q:PlIn):Nat→Nat→PlSt→Except Int PlSt
 | 0,_,st=>.ok st
 | f+1,at_,st=>if at_<st.1.length then (match dirP q at_ st with
    | .error c=>.error c
    | .ok st'=>dirsP q f (at_+1) st') else .ok st
noncomputable def zCy:Option (List Dir)→Bool
 | none=>false
 | some o=>decide (zCf o≠0)
noncomputable def zA4 (q:PlIn):Except Int PlSt:=
 if q.dirs<1∨256<q.dirs∨q.path<1∨1024<q.path then .error 1
 else if zCy q.old=true then .error 42
 else if mayPl q.g q.ps=false then .error 33
 else dirsP q 258 0 ([dirZ0],[])
theorem zB9 {T:List Dir} {i:Nat} {d:Dir} (h:T[i]?=some d):dirAt T i=d:=by
 unfold dirAt;rw[List.getD_eq_getElem?_getD,h];rfl
theorem zBB {T:List Dir} {i:Nat} {d:Dir} (h:T[i]?=some d):zAk T i=d.path:=by
 unfold zAk;rw[zB9 h]
theorem zAV {T:List Dir} {i:Nat} (h:i<T.length):T[i]?=some (dirAt T i):=by
 unfold dirAt;rw[List.getD_eq_getElem?_getD,gE h];rfl
theorem zBg {T:List Dir} (hn:(T.map (·.path)).Nodup) {i:Nat} {d:Dir} (h:T[i]?=some d):findI T d.path=(i:Int):=by
 rcases Int.lt_or_le (findI T d.path) 0 with hl|hl
 ·exact absurd rfl (zEH hl (mG h))
 ·obtain ⟨j,hj⟩:∃ j:Nat,findI T d.path=(j:Int):=⟨(findI T d.path).toNat,by omega⟩
  obtain ⟨h1,h2⟩:=zE3 hj
  obtain ⟨hi,e⟩:=gS.1 h
  rw[hj]
  have:j=i:=by
   have h3:(T.map (·.path))[j]'(by rw[List.length_map];exact h1)=(T.map (·.path))[i]'(by rw[List.length_map];exact hi):=by
    rw[List.getElem_map,List.getElem_map,h2,e]
   exact (List.getElem_inj hn).1 h3
  rw[this]
theorem zBo {T:List Dir} {p:List ByteArray} (h:0≤findI T p):∃ (j:Nat) (d:Dir),findI T p=(j:Int)∧T[j]?=some d∧d.path=p:=by
 obtain ⟨j,hj⟩:∃ j:Nat,findI T p=(j:Int):=⟨(findI T p).toNat,by omega⟩
 obtain ⟨h1,h2⟩:=zE3 hj
 exact ⟨j,_,hj,gE h1,h2⟩
theorem zEL {p a:List ByteArray}:zB4 p a=true↔a<+:p:=by
 unfold zB4
 rw[Bool.and_eq_true,decide_eq_true_eq,zC6]
 constructor
 ·rintro ⟨_,h⟩
  exact ⟨p.drop a.length,by conv=>lhs;rw[←h]
                            rw[h]
                            conv=>rhs;rw[←List.take_append_drop a.length p,h]⟩
 ·rintro ⟨r,rfl⟩
  exact ⟨by rw[List.length_append];omega,List.take_left⟩
structure PlInv (q:PlIn) (at_:Nat) (done:List ByteArray) (st:PlSt):Prop where
 pos:0<st.1.length
 len:st.1.length≤257
 root:∀ d,st.1[0]?=some d→d.path=[]∧d.node=0∧d.pack=zAC
 names:∀ d∈st.1,d.path.all nameB=true∧(textB d.path).size≤1024
 up:∀ (j:Nat) (d:Dir),st.1[j]?=some d→j≠0→d.path≠[]∧∃ (i:Nat) (e:Dir),i<j∧st.1[i]?=some e∧e.path=d.path.dropLast
 apart:(st.1.map (·.path)).Nodup
 node:∀ (j:Nat) (d:Dir),st.1[j]?=some d→j≠0→1≤d.node∧d.node<(q.g.length:Int)∧d.pack=zA1 q d.node.toNat
 stl:∀ x∈st.2,x.frm<st.1.length∧x.dst<st.1.length∧(x.frm<at_∨(x.frm=at_∧x.label∈done))
 low:∀ (j:Nat) (d:Dir) (i:Nat) (e:Dir),st.1[j]?=some d→st.1[i]?=some e→at_≤i→j≠i→e.path<+:d.path→i=at_∧∃ s∈done,d.path=e.path++[s]
theorem PlInv.next {q:PlIn} {at_:Nat} {done:List ByteArray} {st:PlSt} (h:PlInv q at_ done st):PlInv q (at_+1) [] st:=
 { h with
   stl:=fun x hx=>by
    obtain ⟨h1,h2,h3⟩:=h.stl x hx
    exact ⟨h1,h2,.inl (by rcases h3 with h3|h3<;>omega)⟩
   low:=fun j d i e hj hi hle hne hp=>by
    have:=(h.low j d i e hj hi (by omega) hne hp).1
    omega}
theorem PlInv.start (q:PlIn):PlInv q 0 [] ([dirZ0],[]) where
 pos:=by decide
 len:=by decide
 root:=fun d hd=>by cases hd;exact ⟨rfl,rfl,rfl⟩
 names:=fun d hd=>by rw[List.mem_singleton.1 hd];exact ⟨rfl,by decide⟩
 up:=fun j d hj h0=>by
  cases j with
  | zero=>exact absurd rfl h0
  | succ j=>cases hj
 apart:=by simp
 node:=fun j d hj h0=>by
  cases j with
  | zero=>exact absurd rfl h0
  | succ j=>cases hj
 stl:=fun x hx=>by cases hx
 low:=fun j d i e hj hi _ hne _=>by
  cases j with
  | zero=>cases i with
    | zero=>exact absurd rfl hne
    | succ i=>cases hi
  | succ j=>cases hj
theorem PlInv.closed {q:PlIn} {at_:Nat} {done:List ByteArray} {st:PlSt} (h:PlInv q at_ done st):∀ (n j:Nat) (d:Dir) (k:Nat),st.1[j]?=some d→d.path.length=k+n→∃ (i:Nat) (e:Dir),i≤j∧st.1[i]?=some e∧e.path=d.path.take k:=by
 intro n
 induction n with
 | zero=>intro j d k hj hl;exact ⟨j,d,nR _,hj,by rw[List.take_of_length_le (by omega)]⟩
 | succ n ih=>
   intro j d k hj hl
   have h0:j≠0:=fun e=>by
    subst e
    have:=(h.root d hj).1
    rw[this,List.length_nil] at hl
    omega
   obtain ⟨_,i,e,hij,hi,he⟩:=h.up j d hj h0
   obtain ⟨i',e',h1,h2,h3⟩:=ih i e k hi (by rw[he,List.length_dropLast];omega)
   refine ⟨i',e',by omega,h2,?_⟩
   rw[h3,he,List.dropLast_eq_take,List.take_take,Nat.min_eq_left (by omega)]
theorem PlInv.find {q:PlIn} {at_:Nat} {done:List ByteArray} {st:PlSt} (h:PlInv q at_ done st) {j:Nat} {d:Dir} (hj:st.1[j]?=some d) {k:Nat} (hk:k≤d.path.length) :
  ∃ (i:Nat) (e:Dir),i≤j∧findI st.1 (d.path.take k)=(i:Int)∧st.1[i]?=some e∧e.path=d.path.take k:=by
 obtain ⟨i,e,h1,h2,h3⟩:=h.closed (d.path.length - k) j d k hj (by omega)
 exact ⟨i,e,h1,by rw[←h3];exact zBg h.apart h2,h2,h3⟩
theorem PlInv.behind_ {q:PlIn} {at_:Nat} {done:List ByteArray} {st:PlSt} (h:PlInv q at_ done st) {i j:Nat} {d e:Dir} (hj:st.1[j]?=some d) (hi:st.1[i]?=some e) (hp:e.path<+:d.path):i≤j:=by
 obtain ⟨i',e',h1,h2,h3,h4⟩:=h.find hj (k:=e.path.length) hp.length_le
 have:d.path.take e.path.length=e.path:=(List.prefix_iff_eq_take.1 hp).symm
 rw[this] at h2
 rw[zBg h.apart hi] at h2
 omega
theorem PlInv.fresh {q:PlIn} {at_:Nat} {done:List ByteArray} {st:PlSt} (h:PlInv q at_ done st) {d:Dir} (hd:st.1[at_]?=some d) {s:ByteArray} (hs:s∉done):findI st.1 (d.path++[s])<0:=by
 rcases Int.lt_or_le (findI st.1 (d.path++[s])) 0 with hl|hl
 ·exact hl
 ·exfalso
  obtain ⟨j,e,_,hj,hp⟩:=zBo hl
  have hne:j≠at_:=fun e'=>by
   rw[e'] at hj
   rw[hd] at hj
   cases hj
   have:=congrArg List.length hp
   rw[List.length_append,List.length_singleton] at this
   omega
  obtain ⟨_,s',h1,h2⟩:=h.low j e at_ d hj hd (nR _) hne ⟨[s],hp.symm⟩
  rw[hp] at h2
  have:=List.append_cancel_left h2
  simp only[List.cons.injEq,and_true] at this
  rw[this] at hs
  exact hs h1
theorem PlInv.quiet {q:PlIn} {at_:Nat} {done:List ByteArray} {st:PlSt} (h:PlInv q at_ done st) {d:Dir} (hd:st.1[at_]?=some d) {s:ByteArray} (hs:s∉done):zBn st.1 st.2 at_ s=false:=by
 unfold zBn
 rw[List.any_eq_false]
 intro x hx ht
 unfold zBR at ht
 simp only[Bool.and_eq_true,decide_eq_true_eq] at ht
 obtain ⟨hl,hu,_⟩:=ht
 obtain ⟨h1,_,h3⟩:=h.stl x hx
 rcases h3 with h3|⟨h3,h4⟩
 ·have hf:=zAV h1
  rw[zEL,zBB hd] at hu
  have:=h.behind_ hf hd (by rw[zAk] at hu;exact hu)
  omega
 ·rw[hl] at h4;exact hs h4
structure zFM (T:List Dir) (path:List ByteArray) (s:ByteArray) (r:Int):Prop where
 lo:0≤r
 is:∃ (i:Nat) (e:Dir),r=(i:Int)∧T[i]?=some e∧e.path<+:path∧findI T (e.path++[s])<0
theorem zKw {q:PlIn} {at_:Nat} {done:List ByteArray} {st:PlSt} (h:PlInv q at_ done st) {j:Nat} {d:Dir} (hj:st.1[j]?=some d) (old:Option (List Dir)) (s:ByteArray) (x:Pack):∀ (k:Nat) (b l:Int),k≤d.path.length+1 →
  zFM st.1 d.path s b→(l=-1∨zFM st.1 d.path s l)→zFM st.1 d.path s (zAt st.1 st.2 old d.path s x k (b,l)).1∧((zAt st.1 st.2 old d.path s x k (b,l)).2=-1∨zFM st.1 d.path s (zAt st.1 st.2 old d.path s x k (b,l)).2):=by
 intro k
 induction k with
 | zero=>intro b l _ hb hl;exact ⟨hb,hl⟩
 | succ k ih=>
   intro b l hk hb hl
   rw[zAt]
   by_cases h1:0≤findI st.1 (d.path.take k++[s])
   ·rw[if_pos h1];exact ⟨hb,hl⟩
   ·rw[if_neg h1]
    by_cases h2:zBn st.1 st.2 (findI st.1 (d.path.take k)).toNat s=true
    ·rw[if_pos h2];exact ih b l (by omega) hb hl
    ·rw[if_neg h2]
     obtain ⟨i,e,_,hi,he,hp⟩:=h.find hj (k:=k) (by omega)
     have hok:zFM st.1 d.path s (findI st.1 (d.path.take k)):=⟨by omega,i,e,hi,he,by rw[hp];exact List.take_prefix _ _,by rw[hp];omega⟩
     refine ih _ _ (by omega) hok ?_
     split
     ·exact .inr hok
     ·exact hl
theorem zIr {q:PlIn} {at_:Nat} {done:List ByteArray} {st:PlSt} (h:PlInv q at_ done st) {d:Dir} (hd:st.1[at_]?=some d) (old:Option (List Dir)) {s:ByteArray} (hs:s∉done) (x:Pack):zFM st.1 d.path s (spotI st.1 st.2 old d.path s x):=by
 have h1:=h.fresh hd hs
 have h2:=h.quiet hd hs
 have h3:=zBg h.apart hd
 have hok:zFM st.1 d.path s (at_:Int):=⟨by omega,at_,d,rfl,hd,List.prefix_refl _,h1⟩
 unfold spotI
 rw[zAt,List.take_length,if_neg (by omega),h3,Int.toNat_natCast,if_neg (by rw[h2];decide)]
 have h4:=zKw h hd old s x d.path.length (at_:Int) (if zCH old (d.path++[s]) x=true then (at_:Int) else -1) (by omega) hok (by
  split
  ·exact .inr hok
  ·exact .inl rfl)
 generalize zAt st.1 st.2 old d.path s x d.path.length (at_,if zCH old (d.path++[s]) x=true then (at_:Int) else -1)=r at *
 unfold pickI
 by_cases hl:0≤r.2
 ·rw[if_pos hl]
  rcases h4.2 with e|e
  ·rw[e] at hl;exact absurd hl (by decide)
  ·exact e
 ·rw[if_neg hl];exact h4.1
theorem zBQ {g:List Node} {ps:List Pack} (h:mayPl g ps=true):1≤g.length∧g.length≤128∧ps.length=g.length∧∀ (j:Nat) (n:Node),g[j]?=some n→∃ x,ps[j]?=some x∧formP g j n x=true:=by
 unfold mayPl at h
 simp only[Bool.and_eq_true,decide_eq_true_eq] at h
 refine ⟨h.1,h.2.1,h.2.2.1,fun j n hj=>?_⟩
 have:=zHR g h.2.2.2 j n hj
 rwa [Nat.zero_add] at this
theorem zBx {q:PlIn} (h:mayPl q.g q.ps=true) {j:Nat} {n:Node} (hj:q.g[j]?=some n) {e:Edge} (he:e∈n.edges) :
  1≤e.to∧e.to<(q.g.length:Int)∧(zAb q e.to.toNat).name=e.label∧(zA1 q e.to.toNat).name=e.label∧packB (zA1 q e.to.toNat)=true∧nameB e.label=true:=by
 obtain ⟨_,_,hz,hall⟩:=zBQ h
 obtain ⟨x,hx,hf⟩:=hall j n hj
 unfold formP at hf
 simp only[Bool.and_eq_true] at hf
 obtain ⟨_,⟨_,hr⟩,hed,_⟩:=hf
 have h1:=List.all_eq_true.1 hed e he
 unfold edgeP at h1
 simp only[Bool.and_eq_true,decide_eq_true_eq] at h1
 obtain ⟨h1,h2,h3⟩:=h1
 have hlt:e.to.toNat<q.g.length:=by omega
 rw[gE hlt] at h3
 simp only[decide_eq_true_eq] at h3
 have hn:zAb q e.to.toNat=q.g[e.to.toNat]:=by unfold zAb;rw[List.getD_eq_getElem?_getD,gE hlt];rfl
 obtain ⟨y,hy,hf2⟩:=hall e.to.toNat _ (gE hlt)
 have hp:zA1 q e.to.toNat=y:=by unfold zA1;rw[List.getD_eq_getElem?_getD,hy];rfl
 unfold formP headP at hf2
 rw[if_neg (by omega)] at hf2
 unfold zEV at hf2
 simp only[Bool.and_eq_true,decide_eq_true_eq] at hf2
 refine ⟨h1,h2,by rw[hn,h3],by rw[hp,hf2.1.2.1,h3],by rw[hp];exact hf2.1.1,?_⟩
 exact zCl hr e.label (List.mem_map.2 ⟨e,he,rfl⟩)
theorem zEw:∀ {l:List ByteArray} {p:Option ByteArray},zAP p l=true→l.Nodup∧∀ a,p=some a→∀ x∈l,lessB a x=true
 | [],p,_=>⟨List.nodup_nil,fun a _ x hx=>by cases hx⟩
 | s::l,p,h=>by
   rw[zAP,Bool.and_eq_true,Bool.and_eq_true] at h
   obtain ⟨h1,h2⟩:=zEw h.2
   refine ⟨List.nodup_cons.2 ⟨fun hm=>?_,h1⟩,fun a ha x hx=>?_⟩
   ·have:=h2 s rfl s hm
    rw[zBd] at this
    cases this
   ·subst ha
    have hb:lessB a s=true:=h.1.2
    rcases List.mem_cons.1 hx with rfl|hx
    ·exact hb
    ·exact zCv hb (h2 s rfl x hx)
theorem zA6 {q:PlIn} (h:mayPl q.g q.ps=true) {j:Nat} {n:Node} (hj:q.g[j]?=some n):(zAE n.edges).Nodup:=by
 obtain ⟨_,_,_,hall⟩:=zBQ h
 obtain ⟨x,_,hf⟩:=hall j n hj
 unfold formP at hf
 simp only[Bool.and_eq_true] at hf
 exact (zEw hf.2.1.2).1
theorem zKo {q:PlIn} {at_:Nat} {done:List ByteArray} {st:PlSt} (h:PlInv q at_ done st) {d:Dir} (hd:st.1[at_]?=some d) {s:ByteArray} (hs:s∉done) (hnm:nameB s=true)
  {node:Nat} (hn1:1≤node) (hn2:node<q.g.length) (hps:(zA1 q node).name=s) (hq:q.path≤1024) (hqd:q.dirs≤256)
  {home:Nat} {e:Dir} (hh:st.1[home]?=some e) (hpre:e.path<+:d.path) (hno:findI st.1 (e.path++[s])<0) {T:List Dir} (hT:putP q st.1 home node=.ok T) :
  T=st.1++[⟨e.path++[s],zA1 q node,(node:Int)⟩]∧PlInv q at_ (done++[s]) (T,st.2++[⟨at_,s,st.1.length⟩]):=by
 have hpa:zAk st.1 home=e.path:=zBB hh
 unfold putP at hT
 rw[hpa,hps] at hT
 by_cases c1:q.path<((textB (e.path++[s])).size:Int)
 ·rw[if_pos c1] at hT;cases hT
 rw[if_neg c1] at hT
 by_cases c2:q.dirs≤(st.1.length:Int) - 1
 ·rw[if_pos c2] at hT;cases hT
 rw[if_neg c2] at hT
 cases hT
 refine ⟨rfl,?_⟩
 obtain ⟨nd,hnd⟩:∃ nd:Dir,nd=⟨e.path++[s],zA1 q node,(node:Int)⟩:=⟨_,rfl⟩
 have hndp:nd.path=e.path++[s]:=by rw[hnd]
 rw[←hnd]
 have hnew:∀ d'∈st.1,d'.path≠e.path++[s]:=fun d' hd'=>zEH hno hd'
 have hat:∀ (j:Nat) (d':Dir),(st.1++[nd])[j]?=some d'→st.1[j]?=some d'∨(j=st.1.length∧d'=nd):=fun j d' hj=>by
  rcases Nat.lt_trichotomy j st.1.length with hlt|heq|hgt
  ·rw[List.getElem?_append_left hlt] at hj;exact .inl hj
  ·rw[heq,List.getElem?_append_right (nR _),Nat.sub_self] at hj
   cases hj
   exact .inr ⟨heq,rfl⟩
  ·rw[List.getElem?_eq_none (by rw[List.length_append,List.length_singleton];omega)] at hj
   cases hj
 have hold:∀ (j:Nat) (d':Dir),st.1[j]?=some d'→(st.1++[nd])[j]?=some d':=fun j d' hj=>by
  rw[List.getElem?_append_left (gS.1 hj).1];exact hj
 have hhl:=(gS.1 hh).1
 have hdl:=(gS.1 hd).1
 exact {
  pos:=by show 0<(st.1++[nd]).length;rw[List.length_append];have:=h.pos;omega
  len:=by show (st.1++[nd]).length≤257;rw[List.length_append,List.length_singleton];omega
  root:=fun d' hd'=>by
   rcases hat 0 d' hd' with hj|⟨hj,_⟩
   ·exact h.root d' hj
   ·have:=h.pos;omega
  names:=fun d' hd'=>by
   rcases List.mem_append.1 hd' with hm|hm
   ·exact h.names d' hm
   ·rw[List.mem_singleton.1 hm,hndp]
    refine ⟨?_,by omega⟩
    rw[List.all_append,(h.names e (mG hh)).1,List.all_cons,hnm]
    rfl
  up:=fun j d' hj h0=>by
   rcases hat j d' hj with hj'|⟨hj',rfl⟩
   ·obtain ⟨h1,i,e',h2,h3,h4⟩:=h.up j d' hj' h0
    exact ⟨h1,i,e',h2,hold _ _ h3,h4⟩
   ·rw[hndp]
    exact ⟨by simp,home,e,by omega,hold _ _ hh,by rw[List.dropLast_concat]⟩
  apart:=by
   show ((st.1++[nd]).map (·.path)).Nodup
   rw[List.map_append,List.nodup_append]
   refine ⟨h.apart,by simp,fun a ha b hb hab=>?_⟩
   obtain ⟨d',hd',rfl⟩:=List.mem_map.1 ha
   have:b=nd.path:=by simpa using hb
   rw[this,hndp] at hab
   exact hnew d' hd' hab
  node:=fun j d' hj h0=>by
   rcases hat j d' hj with hj'|⟨_,rfl⟩
   ·exact h.node j d' hj' h0
   ·rw[hnd]
    exact ⟨by show (1:Int)≤(node:Int);omega,by show (node:Int)<_;omega,by show zA1 q node=zA1 q (node:Int).toNat;rw[Int.toNat_natCast]⟩
  stl:=fun x hx=>by
   have hl:(st.1++[nd]).length=st.1.length+1:=by rw[List.length_append];rfl
   rcases List.mem_append.1 hx with hm|hm
   ·obtain ⟨h1,h2,h3⟩:=h.stl x hm
    refine ⟨by rw[hl];omega,by rw[hl];omega,?_⟩
    rcases h3 with h3|⟨h3,h4⟩
    ·exact .inl h3
    ·exact .inr ⟨h3,List.mem_append.2 (.inl h4)⟩
   ·rw[List.mem_singleton.1 hm]
    exact ⟨by rw[hl];show at_<_;omega,by rw[hl];show st.1.length<_;omega,.inr ⟨rfl,by simp⟩⟩
  low:=fun j d' i e' hj hi hle hne hp=>by
   rcases hat i e' hi with hi'|⟨hi',rfl⟩
   ·rcases hat j d' hj with hj'|⟨hj',rfl⟩
    ·obtain ⟨h1,s',h2,h3⟩:=h.low j d' i e' hj' hi' hle hne hp
     exact ⟨h1,s',List.mem_append.2 (.inl h2),h3⟩
    ·rw[hndp] at hp ⊢
     have hp2:e'.path<+:e.path:=by
      rcases List.prefix_concat_iff.1 hp with h1|h1
      ·exact absurd h1 (hnew e' (mG hi'))
      ·exact h1
     have hia:i=at_:=by
      by_cases hc:at_=i
      ·exact hc.symm
      ·exact (h.low at_ d i e' hd hi' hle hc (hp2.trans hpre)).1
     subst hia
     rw[hd] at hi'
     cases hi'
     have he:e.path=d.path:=hpre.eq_of_length_le hp2.length_le
     exact ⟨rfl,s,by simp,by rw[he]⟩
   ·rcases hat j d' hj with hj'|⟨hj',_⟩
    ·exfalso
     rw[hndp] at hp
     obtain ⟨i',e2,_,_,h3,h4⟩:=h.find hj' (k:=(e.path++[s]).length) hp.length_le
     rw[←List.prefix_iff_eq_take.1 hp] at h4
     exact hnew e2 (mG h3) h4
    ·omega}
theorem zKy {T:List Dir} {i:Int} {s:ByteArray} (h:0≤lookI T i s):(lookI T i s).toNat<T.length:=by
 have:=(zCt T i s).2
 omega
theorem zIu {q:PlIn} {at_:Nat} {done:List ByteArray} {st:PlSt} (h:PlInv q at_ done st) {d:Dir} (hd:st.1[at_]?=some d) (kind:Nat) {e:Edge} (hs:e.label∉done) :
  ∃ (i:Nat) (f:Dir),homeP q st at_ kind e=(i:Int)∧st.1[i]?=some f∧f.path<+:d.path∧findI st.1 (f.path++[e.label])<0:=by
 unfold homeP
 by_cases hk:kind=2
 ·rw[if_pos hk,zBB hd]
  exact (zIr h hd q.old hs (zA1 q e.to.toNat)).is
 ·rw[if_neg hk]
  exact ⟨at_,d,rfl,hd,List.prefix_refl _,h.fresh hd hs⟩
theorem zDA {q:PlIn} {at_:Nat} {done:List ByteArray} {st st':PlSt} (h:PlInv q at_ done st) (hm:mayPl q.g q.ps=true) (hq:q.path≤1024) (hqd:q.dirs≤256) {d:Dir} (hd:st.1[at_]?=some d)
  {j:Nat} {n:Node} (hn:q.g[j]?=some n) {e:Edge} (he:e∈n.edges) (hs:e.label∉done) {kind:Nat} (hst:stepE q at_ kind e st=.ok st') :
  PlInv q at_ (done++[e.label]) st'∧(∃ l,st'.1=st.1++l)∧st'.2.length=st.2.length+1:=by
 have hdl:=(gS.1 hd).1
 unfold stepE at hst
 by_cases hr:zAw q st at_ kind e=true
 ·rw[if_pos hr] at hst
  cases hst
  unfold zAw at hr
  simp only[Bool.and_eq_true,decide_eq_true_eq] at hr
  have hlt:(lookI st.1 (at_:Int) e.label).toNat<st.1.length:=by
   have:=(zCt st.1 (at_:Int) e.label).2
   omega
  refine ⟨{ h with
   stl:=fun x hx=>?_
   low:=fun j d' i e' hj hi hle hne hp=>?_},⟨[],by simp⟩,by simp⟩
  ·rcases List.mem_append.1 hx with hm|hm
   ·obtain ⟨h1,h2,h3⟩:=h.stl x hm
    refine ⟨h1,h2,?_⟩
    rcases h3 with h3|⟨h3,h4⟩
    ·exact .inl h3
    ·exact .inr ⟨h3,List.mem_append.2 (.inl h4)⟩
   ·rw[List.mem_singleton.1 hm]
    exact ⟨hdl,hlt,.inr ⟨rfl,by simp⟩⟩
  ·obtain ⟨h1,s,h2,h3⟩:=h.low j d' i e' hj hi hle hne hp
   exact ⟨h1,s,List.mem_append.2 (.inl h2),h3⟩
 rw[if_neg hr] at hst
 by_cases hk1:kind=1
 ·rw[if_pos hk1] at hst;cases hst
 rw[if_neg hk1] at hst
 obtain ⟨i,f,h1,h2,h3,h4⟩:=zIu h hd kind hs
 rw[h1,Int.toNat_natCast] at hst
 cases hp:putP q st.1 i e.to.toNat with
 | error c=>rw[hp] at hst;cases hst
 | ok T=>
   rw[hp] at hst
   cases hst
   obtain ⟨e1,e2,e3,e4,e5,e6⟩:=zBx hm hn he
   obtain ⟨g1,g2⟩:=zKo h hd hs e6 (node:=e.to.toNat) (by omega) (by omega) e4 hq hqd h2 h3 h4 hp
   exact ⟨g2,⟨_,g1⟩,by simp⟩
def zBf (q:PlIn) (n:Node) (kind k:Nat) (done:List ByteArray):Prop:=∀ s∈done,∃ (j:Nat) (e:Edge),n.edges[j]?=some e∧e.label=s∧(kindP q n e<kind∨(kindP q n e=kind∧j<k))
theorem zBf.more {q:PlIn} {n:Node} {kind k:Nat} {done:List ByteArray} (h:zBf q n kind k done) {k':Nat} (hk:k≤k'):zBf q n kind k' done:=fun s hs=>by
 obtain ⟨j,e,h1,h2,h3⟩:=h s hs
 exact ⟨j,e,h1,h2,by omega⟩
theorem zBf.turn {q:PlIn} {n:Node} {kind k:Nat} {done:List ByteArray} (h:zBf q n kind k done):zBf q n (kind+1) 0 done:=fun s hs=>by
 obtain ⟨j,e,h1,h2,h3⟩:=h s hs
 exact ⟨j,e,h1,h2,by omega⟩
theorem zBf.not {q:PlIn} {n:Node} {kind k:Nat} {done:List ByteArray} (h:zBf q n kind k done) (hn:(zAE n.edges).Nodup) {e:Edge} (he:n.edges[k]?=some e) (hk:kindP q n e=kind):e.label∉done:=fun hm=>by
 obtain ⟨j,e',h1,h2,h3⟩:=h _ hm
 obtain ⟨hj,ej⟩:=gS.1 h1
 obtain ⟨hk',ek⟩:=gS.1 he
 have hjk:j=k:=by
  have h5:(zAE n.edges)[j]'(by unfold zAE;rw[List.length_map];exact hj)=(zAE n.edges)[k]'(by unfold zAE;rw[List.length_map];exact hk'):=by
   simp only[zAE,List.getElem_map,ej,ek,h2]
  exact (List.getElem_inj hn).1 h5
 subst hjk
 rw[h1] at he
 cases he
 omega
theorem zBf.step {q:PlIn} {n:Node} {kind k:Nat} {done:List ByteArray} (h:zBf q n kind k done) {e:Edge} (he:n.edges[k]?=some e) (hk:kindP q n e=kind):zBf q n kind (k+1) (done++[e.label]):=fun s hs=>by
 rcases List.mem_append.1 hs with hs|hs
 ·obtain ⟨j,e',h1,h2,h3⟩:=h s hs
  exact ⟨j,e',h1,h2,by omega⟩
 ·exact ⟨k,e,he,(List.mem_singleton.1 hs).symm,.inr ⟨hk,by omega⟩⟩
theorem zAs (q:PlIn) (n:Node) (e:Edge):1≤kindP q n e∧kindP q n e≤3:=by
 unfold kindP
 split
 ·decide
 ·split<;>decide
theorem zBk (q:PlIn) (at_:Nat) (n:Node) (kind:Nat) {l:List Edge} {k:Nat} {e:Edge} (h:l[k]?=some e) (st:PlSt):zAi q at_ n kind (l.drop k) st=if kindP q n e=kind then (match stepE q at_ kind e st with
  | .error c=>.error c
  | .ok st'=>zAi q at_ n kind (l.drop (k+1)) st') else zAi q at_ n kind (l.drop (k+1)) st:=by
 obtain ⟨hk,e'⟩:=gS.1 h
 rw[dC hk,e',zAi]<;>rfl
def MinI (idx:Nat→Int) (P:Nat→Prop) (lo:Nat) (r:Int):Prop:=(r=-1∧∀ k,lo≤k→¬P k)∨∃ k,lo≤k∧P k∧r=idx k∧∀ k',lo≤k'→P k'→k≤k'
theorem MinI.skip {idx:Nat→Int} {P:Nat→Prop} {lo:Nat} {r:Int} (h:MinI idx P (lo+1) r) (hn:¬P lo):MinI idx P lo r:=by
 rcases h with ⟨h1,h2⟩|⟨k,h1,h2,h3,h4⟩
 ·refine .inl ⟨h1,fun k hk hp=>?_⟩
  by_cases e:k=lo
  ·rw[e] at hp;exact hn hp
  ·exact h2 k (by omega) hp
 ·refine .inr ⟨k,by omega,h2,h3,fun k' hk' hp=>?_⟩
  by_cases e:k'=lo
  ·rw[e] at hp;exact absurd hp hn
  ·exact h4 k' (by omega) hp
theorem MinI.all {idx:Nat→Int} {P:Nat→Prop} {lo:Nat} {r:Int} (h:MinI idx P (lo+1) r) (hn:∀ k,k≤lo→¬P k):MinI idx P 0 r:=by
 rcases h with ⟨h1,h2⟩|⟨k,h1,h2,h3,h4⟩
 ·refine .inl ⟨h1,fun k _ hp=>?_⟩
  rcases Nat.lt_or_ge lo k with e|e
  ·exact h2 k e hp
  ·exact hn k e hp
 ·refine .inr ⟨k,by omega,h2,h3,fun k' _ hp=>?_⟩
  rcases Nat.lt_or_ge lo k' with e|e
  ·exact h4 k' e hp
  ·exact absurd hp (hn k' e)
theorem MinI.here {idx:Nat→Int} {P:Nat→Prop} {lo:Nat} (h:P lo):MinI idx P lo (idx lo):=.inr ⟨lo,nR _,h,rfl,fun k' hk' _=>hk'⟩
section
variable (T:List Dir) (S:List Stl) (old:Option (List Dir)) (path:List ByteArray) (s:ByteArray) (x:Pack)
noncomputable def idxK (k:Nat):Int:=findI T (path.take k)
def zK9 (k:Nat):Prop:=∀ k',k≤k'→k'≤path.length→findI T (path.take k'++[s])<0
def zBy (k:Nat):Prop:=k≤path.length∧zK9 T path s k∧zBn T S (idxK T path k).toNat s=false
noncomputable def zDt (k:Nat):Bool:=zCH old (path.take k++[s]) x
def zGa (k:Nat):Prop:=zBy T S path s k∧zDt old path s x k=true
end
theorem zJW (T:List Dir) (S:List Stl) (old:Option (List Dir)) (path:List ByteArray) (s:ByteArray) (x:Pack):∀ (k:Nat) (b l:Int),k≤path.length+1→zK9 T path s k →
  MinI (idxK T path) (zBy T S path s) k b→MinI (idxK T path) (zGa T S old path s x) k l →
  MinI (idxK T path) (zBy T S path s) 0 (zAt T S old path s x k (b,l)).1∧MinI (idxK T path) (zGa T S old path s x) 0 (zAt T S old path s x k (b,l)).2:=by
 intro k
 induction k with
 | zero=>intro b l _ _ hb hl;exact ⟨hb,hl⟩
 | succ k ih=>
   intro b l hk hc hb hl
   rw[zAt]
   by_cases h1:0≤findI T (path.take k++[s])
   ·rw[if_pos h1]
    have hno:∀ k',k'≤k→¬zBy T S path s k':=fun k' hk' hv=>by
     have:=hv.2.1 k hk' (by omega)
     omega
    exact ⟨hb.all hno,hl.all fun k' hk' hv=>hno k' hk' hv.1⟩
   ·rw[if_neg h1]
    have hc':zK9 T path s k:=fun k' h2 h3=>by
     by_cases e:k'=k
     ·rw[e];omega
     ·exact hc k' (by omega) h3
    by_cases h2:zBn T S (findI T (path.take k)).toNat s=true
    ·rw[if_pos h2]
     have hno:¬zBy T S path s k:=fun hv=>by
      have:=hv.2.2
      unfold idxK at this
      rw[h2] at this;cases this
     exact ih b l (by omega) hc' (hb.skip hno) (hl.skip fun hv=>hno hv.1)
    ·rw[if_neg h2]
     have hv:zBy T S path s k:=⟨by omega,hc',by unfold idxK;exact Bool.eq_false_iff.2 h2⟩
     refine ih _ _ (by omega) hc' (MinI.here hv) ?_
     by_cases h3:zCH old (path.take k++[s]) x=true
     ·rw[if_pos h3];exact MinI.here (P:=zGa T S old path s x) ⟨hv,h3⟩
     ·rw[if_neg h3];exact hl.skip fun hv=>h3 hv.2
theorem spotI_min (T:List Dir) (S:List Stl) (old:Option (List Dir)) (path:List ByteArray) (s:ByteArray) (x:Pack) (hpos:∀ k,k≤path.length→0≤idxK T path k) :
  (spotI T S old path s x=-1∧∀ k,¬zBy T S path s k)∨∃ k,zBy T S path s k∧spotI T S old path s x=idxK T path k ∧
    ∀ k',zBy T S path s k'→(zDt old path s x k'=true→zDt old path s x k=true)∧(zDt old path s x k'=zDt old path s x k→k≤k'):=by
 have hno:∀ k,path.length+1≤k→¬zBy T S path s k:=fun k hk hv=>by have:=hv.1;omega
 obtain ⟨h1,h2⟩:=zJW T S old path s x (path.length+1) (-1) (-1) (nR _) (fun k' h1 h2=>by omega) (.inl ⟨rfl,hno⟩) (.inl ⟨rfl,fun k hk hv=>hno k hk hv.1⟩)
 unfold spotI pickI
 generalize zAt T S old path s x (path.length+1) (-1,-1)=r at *
 obtain ⟨b,l⟩:=r
 simp only at h1 h2 ⊢
 have none_of:(∀ k,0≤k→¬zGa T S old path s x k)→(b=-1∧∀ k,¬zBy T S path s k)∨∃ k,zBy T S path s k∧b=idxK T path k ∧
   ∀ k',zBy T S path s k'→(zDt old path s x k'=true→zDt old path s x k=true)∧(zDt old path s x k'=zDt old path s x k→k≤k'):=fun hn=>by
  rcases h1 with ⟨h3,h4⟩|⟨k,_,h3,h4,h5⟩
  ·exact .inl ⟨h3,fun k=>h4 k (nZ _)⟩
  ·exact .inr ⟨k,h3,h4,fun k' hk'=>⟨fun hl=>absurd ⟨hk',hl⟩ (hn k' (nZ _)),fun _=>h5 k' (nZ _) hk'⟩⟩
 rcases h2 with ⟨h3,h4⟩|⟨k,_,h3,h4,h5⟩
 ·rw[if_neg (by omega)];exact none_of h4
 ·have h0:0≤l:=by rw[h4];exact hpos k h3.1.1
  rw[if_pos h0]
  exact .inr ⟨k,h3.1,h4,fun k' hk'=>⟨fun _=>h3.2,fun e=>h5 k' (nZ _) ⟨hk',by rw[e];exact h3.2⟩⟩⟩
def putD (l:List Dir) (d:Dir):List Dir:=l.takeWhile (fun g=>!lessB (textB d.path) (textB g.path))++d::l.dropWhile (fun g=>!lessB (textB d.path) (textB g.path))
def sortD (l:List Dir):List Dir:=l.foldl putD []
def upD (x y:Dir):Prop:=lessB (textB y.path) (textB x.path)=false
theorem zHM (l:List Dir) (f:Dir):(putD l f).Perm (l++[f]):=by
 unfold putD
 have e:=List.takeWhile_append_dropWhile (p:=fun g:Dir=>!lessB (textB f.path) (textB g.path)) (l:=l)
 refine List.perm_middle.trans ?_
 rw[e]
 exact (List.perm_append_singleton f l).symm
theorem zLm (l:List Dir):∀ a,(l.foldl putD a).Perm (a++l):=by
 induction l with
 | nil=>intro a;rw[List.append_nil];exact List.Perm.refl _
 | cons f l ih=>
   intro a
   rw[List.foldl_cons]
   refine (ih (putD a f)).trans ?_
   refine ((zHM a f).append_right l).trans ?_
   rw[List.append_assoc]
   exact List.Perm.refl _
theorem zCU (l:List Dir):(sortD l).Perm l:=zLm l []
theorem zMD {a b c:ByteArray} (h1:lessB b a=false) (h2:lessB c b=false):lessB c a=false:=by
 rw[zCg,decide_eq_false_iff_not] at *
 rw[List.not_lt] at *
 exact List.le_trans h1 h2
theorem zIs {a b:ByteArray} (h:lessB a b=true):lessB b a=false:=by
 cases hb:lessB b a with
 | false=>rfl
 | true=>have:=zCv h hb;rw[zBd] at this;cases this
theorem zH7 {l:List Dir} {f:Dir} (h:l.Pairwise upD):(putD l f).Pairwise upD:=by
 induction l with
 | nil=>exact List.pairwise_singleton _ _
 | cons g l ih=>
   rw[List.pairwise_cons] at h
   unfold putD
   rw[List.takeWhile_cons,List.dropWhile_cons]
   cases hg:lessB (textB f.path) (textB g.path) with
   | false=>
     rw[if_pos (by rfl),if_pos (by rfl),List.cons_append,List.pairwise_cons]
     refine ⟨fun y hy=>?_,ih h.2⟩
     have hy':y∈putD l f:=hy
     rcases List.mem_append.1 ((zHM l f).mem_iff.1 hy') with hy|hy
     ·exact h.1 y hy
     ·rw[List.mem_singleton.1 hy];exact hg
   | true=>
     rw[if_neg (by decide),if_neg (by decide),List.nil_append,List.pairwise_cons]
     refine ⟨fun y hy=>?_,List.pairwise_cons.2 h⟩
     rcases List.mem_cons.1 hy with rfl|hy
     ·exact zIs hg
     ·exact zMD (zIs hg) (h.1 y hy)
theorem zHK (l:List Dir):(sortD l).Pairwise upD:=by
 unfold sortD
 have:∀ (l a:List Dir),a.Pairwise upD→(l.foldl putD a).Pairwise upD:=fun l=>by
  induction l with
  | nil=>intro a h;exact h
  | cons f l ih=>intro a h;exact ih _ (zH7 h)
 exact this l [] List.Pairwise.nil
theorem zHm {l:List Dir} (h:(l.map fun d=>textB d.path).Nodup) {a b:Dir} (ha:a∈l) (hb:b∈l) (e:textB a.path=textB b.path):a=b:=by
 induction l with
 | nil=>cases ha
 | cons x l ih=>
   rw[List.map_cons,List.nodup_cons] at h
   rcases List.mem_cons.1 ha with ea|ha'<;>rcases List.mem_cons.1 hb with eb|hb'
   ·rw[ea,eb]
   ·exact absurd (List.mem_map.2 ⟨b,hb',by rw[←e,ea]⟩) h.1
   ·exact absurd (List.mem_map.2 ⟨a,ha',by rw[e,eb]⟩) h.1
   ·exact ih h.2 ha' hb'
theorem zGj {l M:List Dir} (hn:(l.map fun d=>textB d.path).Nodup) (hp:M.Perm l) (hM:M.Pairwise upD):M=sortD l:=by
 refine List.Perm.eq_of_pairwise (le:=upD) ?_ hM (zHK l) (hp.trans (zCU l).symm)
 intro a b ha hb h1 h2
 refine zHm hn (hp.mem_iff.1 ha) ((zCU l).mem_iff.1 hb) ?_
 unfold upD at h1 h2
 rw[zCg,decide_eq_false_iff_not,List.not_lt] at h1 h2
 exact ByteArray.ext (Array.toList_inj.1 (List.le_antisymm h1 h2))
theorem zJO {p q:List ByteArray} (hp:p.all nameB=true) (hq:q.all nameB=true) (h:textB p=textB q):p=q:=by
 unfold textB at h
 rw[if_pos hp,if_pos hq] at h
 have e47:∀ l:List ByteArray,l≠[]→(⟨#[47]⟩:ByteArray)≠⟨(zAx l).toArray⟩:=fun l hl e=>by
  have h1:([47]:List UInt8)=zAx l:=by
   have:=congrArg (fun b:ByteArray=>b.data.toList) e
   simpa using this
  cases l with
  | nil=>exact hl rfl
  | cons x t=>
    rw[zAx] at h1
    have h2:=congrArg List.length h1
    have h3:stepB.data.toList.length=9:=by decide
    simp only[List.length_append,List.length_cons,List.length_nil] at h2
    omega
 by_cases h1:p=[]<;>by_cases h2:q=[]
 ·rw[h1,h2]
 ·rw[if_pos h1,if_neg h2] at h
  exact absurd h (e47 q h2)
 ·rw[if_neg h1,if_pos h2] at h
  exact absurd h.symm (e47 p h1)
 ·rw[if_neg h1,if_neg h2] at h
  refine zJZ hp hq ?_
  have:=congrArg (fun b:ByteArray=>b.data.toList) h
  simpa using this
theorem zHy {q:PlIn} {at_:Nat} {done:List ByteArray} {st:PlSt} (h:PlInv q at_ done st):(st.1.map fun d=>textB d.path).Nodup:=by
 rw[List.nodup_iff_pairwise_ne,List.pairwise_map]
 refine List.pairwise_iff_getElem.2 fun i j hi hj hij e=>?_
 have e2:=zJO (h.names _ (List.getElem_mem hi)).1 (h.names _ (List.getElem_mem hj)).1 e
 have h1:=zBg h.apart (gE hi)
 have h2:=zBg h.apart (gE hj)
 rw[e2,h2] at h1
 omega
noncomputable def zBt (q:PlIn):List Dir×Int:=match zA4 q with
 | .error c=>([],c)
 | .ok st=>(sortD st.1,0)
noncomputable def ownGo (q:PlIn) (at_:Nat) (n:Node):List Edge→PlSt→Except Int PlSt
 | [],st=>.ok st
 | e::l,st=>match stepE q at_ (kindP q n e) e st with
   | .error c=>.error c
   | .ok st'=>ownGo q at_ n l st'
noncomputable def zAM (q:PlIn) (n:Node) (kind:Nat) (l:List Edge):List Edge:=l.filter fun e=>decide (kindP q n e=kind)
theorem zDI (q:PlIn) (at_:Nat) (n:Node) (kind:Nat):∀ (l:List Edge) (st:PlSt),zAi q at_ n kind l st=ownGo q at_ n (zAM q n kind l) st
 | [],st=>rfl
 | e::l,st=>by
   rw[zAi]
   unfold zAM
   by_cases h:kindP q n e=kind
   ·rw[if_pos h,List.filter_cons_of_pos (by simp[h]),ownGo,h]
    cases stepE q at_ kind e st with
    | error c=>rfl
    | ok st'=>exact zDI q at_ n kind l st'
   ·rw[if_neg h,List.filter_cons_of_neg (by simp[h])]
    exact zDI q at_ n kind l st
theorem zEW (q:PlIn) (at_:Nat) (n:Node):∀ (a b:List Edge) (st:PlSt),ownGo q at_ n (a++b) st=match ownGo q at_ n a st with
  | .error c=>.error c
  | .ok st'=>ownGo q at_ n b st'
 | [],b,st=>rfl
 | e::a,b,st=>by
   rw[List.cons_append,ownGo,ownGo]
   cases stepE q at_ (kindP q n e) e st with
   | error c=>rfl
   | ok st'=>exact zEW q at_ n a b st'
theorem zHn (q:PlIn) (at_:Nat) (n:Node) (st:PlSt):zAr q at_ n [1,2,3] st=match zAi q at_ n 1 n.edges st with
  | .error c=>.error c
  | .ok st'=>ownGo q at_ n (zAM q n 2 n.edges++zAM q n 3 n.edges) st':=by
 rw[zAr]
 cases zAi q at_ n 1 n.edges st with
 | error c=>rfl
 | ok st1=>
   simp only
   rw[zAr,zDI,zEW]
   cases ownGo q at_ n (zAM q n 2 n.edges) st1 with
   | error c=>rfl
   | ok st2=>
     simp only
     rw[zAr,zDI]
     cases ownGo q at_ n (zAM q n 3 n.edges) st2<;>rfl
theorem zIf (q:PlIn) (at_:Nat) (n:Node) {l:List Edge} {k:Nat} {e:Edge} (h:l[k]?=some e) (st:PlSt):ownGo q at_ n (l.drop k) st=match stepE q at_ (kindP q n e) e st with
  | .error c=>.error c
  | .ok st'=>ownGo q at_ n (l.drop (k+1)) st':=by
 obtain ⟨hk,e'⟩:=gS.1 h
 rw[dC hk,e',ownGo]
theorem zCE {q:PlIn} {n:Node} {kind:Nat} {l:List Edge} {k:Nat} {e:Edge} (h:l[k]?=some e):zAM q n kind (l.take (k+1))=zAM q n kind (l.take k)++if kindP q n e=kind then [e] else []:=by
 unfold zAM
 rw[List.take_add_one,h,List.filter_append]
 congr 1
 by_cases hk:kindP q n e=kind
 ·rw[if_pos hk];simp[hk]
 ·rw[if_neg hk];simp[hk]
theorem zBG {α β:Type} {f:α→β}:∀ {l:List α},(l.map f).Nodup→∀ {a b:α},a∈l→b∈l→f a=f b→a=b
 | [],_,a,b,ha,_,_=>by cases ha
 | x::l,h,a,b,ha,hb,e=>by
   rw[List.map_cons,List.nodup_cons] at h
   rcases List.mem_cons.1 ha with ea|ha'<;>rcases List.mem_cons.1 hb with eb|hb'
   ·rw[ea,eb]
   ·exact absurd (List.mem_map.2 ⟨b,hb',by rw[←e,ea]⟩) h.1
   ·exact absurd (List.mem_map.2 ⟨a,ha',by rw[e,eb]⟩) h.1
   ·exact zBG h.2 ha' hb' e
theorem zDG {q:PlIn} {n:Node} {kind:Nat} {l:List Edge} {e:Edge} (h:e∈zAM q n kind l):e∈l∧kindP q n e=kind:=by
 unfold zAM at h
 rw[List.mem_filter,decide_eq_true_eq] at h
 exact h
noncomputable def restE (q:PlIn) (n:Node):List Edge:=zAM q n 2 n.edges++zAM q n 3 n.edges
theorem zEm {q:PlIn} {n:Node} {e:Edge} (h:e∈restE q n):e∈n.edges∧2≤kindP q n e:=by
 unfold restE at h
 rcases List.mem_append.1 h with h|h
 ·have:=zDG h;exact ⟨this.1,by omega⟩
 ·have:=zDG h;exact ⟨this.1,by omega⟩
theorem zHc {q:PlIn} {n:Node} (hn:(zAE n.edges).Nodup):((restE q n).map (·.label)).Nodup:=by
 have sub:∀ k,((zAM q n k n.edges).map (·.label)).Nodup:=fun k=>((List.filter_sublist (l:=n.edges)).map _).nodup hn
 unfold restE
 rw[List.map_append,List.nodup_append]
 refine ⟨sub 2,sub 3,fun a ha b hb e=>?_⟩
 obtain ⟨x,hx,rfl⟩:=List.mem_map.1 ha
 obtain ⟨y,hy,rfl⟩:=List.mem_map.1 hb
 have h1:=zDG hx
 have h2:=zDG hy
 have:=zBG (f:=fun e:Edge=>e.label) hn h1.1 h2.1 e
 rw[this] at h1
 omega
theorem zJN {q:PlIn} {n:Node} {done:List ByteArray} (hn:(zAE n.edges).Nodup) (h:zBf q n 2 0 done):∀ e∈(restE q n).drop 0,e.label∉done:=fun e he hm=>by
 obtain ⟨h1,h2⟩:=zEm (show e∈restE q n from he)
 obtain ⟨j,e',g1,g2,g3⟩:=h _ hm
 have:=zBG (f:=fun e:Edge=>e.label) hn (mG g1) h1 g2
 rw[this] at g3
 omega
theorem zGh {q:PlIn} {n:Node} {done:List ByteArray} {k:Nat} {e:Edge} (hn:(zAE n.edges).Nodup) (h:∀ e∈(restE q n).drop k,e.label∉done) (he:(restE q n)[k]?=some e) :
  e∈n.edges∧e.label∉done∧∀ e'∈(restE q n).drop (k+1),e'.label∉done++[e.label]:=by
 obtain ⟨hk,e2⟩:=gS.1 he
 have hd:(restE q n).drop k=e::(restE q n).drop (k+1):=by rw[dC hk,e2]
 refine ⟨(zEm (mG he)).1,h e (by rw[hd];simp),fun e' he' hm=>?_⟩
 rcases List.mem_append.1 hm with hm|hm
 ·exact h e' (by rw[hd];simp[he']) hm
 ·have h1:=zHc hn (q:=q)
  have h2:((restE q n).drop k |>.map (·.label)).Nodup:=((List.drop_sublist k _).map _).nodup h1
  rw[hd,List.map_cons,List.nodup_cons] at h2
  exact h2.1 (List.mem_map.2 ⟨e',he',List.mem_singleton.1 hm⟩)
end Go.Proofs.YtminjjdnmpaaoaaGreatDoor
namespace Go.Proofs.YtminjjdnmpaaoaaGreatDoor
open Go.Rows Go.RowKit Go.Shelf Go.Sort
def rStl:Rp Stl where
 size:=3
 holds:=fun w S x cs=>cs=[.int .i64 (x.frm:Int),.string x.label,.int .i64 (x.dst:Int)]∧x.label.size≤maxLen∧x.frm≤1000000∧x.dst≤1000000
 len:=fun ⟨h,_⟩=>by rw[h];rfl
 one:=fun ⟨h,_⟩=>by rw[h];simp[Value.oneCell']
 mono:=fun ⟨h,c0⟩ hk=>⟨h,c0⟩
structure PlCtx where
 w0:World
 P:Nat
 gA:Option Addr
 gn:Nat
 gc:Nat
 pA:Option Addr
 pn:Nat
 pc:Nat
 dec:Int
 nod:Int
 ov:Value
 q:PlIn
def OldV (w:World) (S:Nat→Prop) (ov:Value) (old:Option (List Dir)):Prop:=
 (old=none∧ov=.pointer none)∨∃ (b o:Nat) (A:Option Addr) (n c:Nat) (l:List Dir),old=some l∧ov=.pointer (some ⟨b,o,none⟩)∧b<w.heap.size∧S b∧w.cell? ⟨b,o,none⟩=some (.slice A n c)∧SlV rDir w S l (.slice A n c)∧(∀ d∈l,d.path.length * 32≤140737488355328)
theorem OldV.keep {w w':World} {S:Nat→Prop} {ov:Value} {old:Option (List Dir)} (h:OldV w S ov old) (hb:Below w.heap.size w w'):OldV w' S ov old:=by
 rcases h with h|⟨b,o,A,n,c,l,h1,h2,h3,h4,h5,h6,h7⟩
 ·exact .inl h
 ·exact .inr ⟨b,o,A,n,c,l,h1,h2,lL h3 hb.size,h4,zAA hb h5 h3,h6.belowSize hb,h7⟩
structure PlCtx.Ok (C:PlCtx):Prop where
 tab:Tab C.w0
 g:SlV rNode C.w0 (fun b=>b<C.w0.heap.size) C.q.g (.slice C.gA C.gn C.gc)
 p:SlV rPack C.w0 (fun b=>b<C.w0.heap.size) C.q.ps (.slice C.pA C.pn C.pc)
 o:OldV C.w0 (fun b=>b<C.w0.heap.size) C.ov C.q.old
 le:C.w0.heap.size≤C.P
 dirs:I64 C.q.dirs
 path:I64 C.q.path
 gz:C.q.g.length≤1048576
 pz:C.q.ps.length≤1048576
def PlWd (C:PlCtx) (w:World) (st:PlSt):Prop:=
 ∃ (A:Option Addr) (c:Nat) (A':Option Addr) (c':Nat) (S:Nat→Prop),
   w.heap[C.P]?=some (.cells #[.slice C.gA C.gn C.gc,.slice C.pA C.pn C.pc,.int .i64 C.dec,.int .i64 C.nod,.int .i64 C.q.dirs,.int .i64 C.q.path,C.ov,.slice A st.1.length c,.slice A' st.2.length c'] 78 (0,0)) ∧
   Own rDir w C.w0.heap.size 54 (.slice A st.1.length c) st.1 S∧Own rStl w C.w0.heap.size 148 (.slice A' st.2.length c') st.2 (fun _=>False) ∧
   (∀ b,S b→b≠C.P∧(Value.slice A' st.2.length c').ownBlock≠some b)∧(Value.slice A st.1.length c).ownBlock≠some C.P∧(Value.slice A' st.2.length c').ownBlock≠some C.P ∧
   (∀ k,(Value.slice A st.1.length c).ownBlock=some k→(Value.slice A' st.2.length c').ownBlock≠some k)∧Below C.w0.heap.size C.w0 w∧∀ b,S b→C.w0.heap.size≤b
theorem PlWd.keep {C:PlCtx} {w w':World} {st:PlSt} (hC:C.Ok) (h:PlWd C w st) (hb:Below w.heap.size w w'):PlWd C w' st:=by
 obtain ⟨A,c,A',c',S,h1,h2,h3,h4,h5,h6,h7,h8⟩:=h
 have hP:C.P<w.heap.size:=(aS.1 h1).1
 exact ⟨A,c,A',c',S,(hb.block _ hP).trans h1,h2.keep hb,h3.keep hb,h4,h5,h6,h7,bot h8.1 hb,h8.2⟩
theorem PlWd.base {C:PlCtx} {w:World} {st:PlSt} (h:PlWd C w st):Below C.w0.heap.size C.w0 w:=by
 obtain ⟨A,c,A',c',S,h1,h2,h3,h4,h5,h6,h7,h8⟩:=h
 exact h8.1
theorem PlWd.graph {C:PlCtx} {w:World} {st:PlSt} (hC:C.Ok) (h:PlWd C w st):SlV rNode w (fun b=>b<C.w0.heap.size) C.q.g (.slice C.gA C.gn C.gc):=hC.g.belowSize h.base
theorem PlWd.packs {C:PlCtx} {w:World} {st:PlSt} (hC:C.Ok) (h:PlWd C w st):SlV rPack w (fun b=>b<C.w0.heap.size) C.q.ps (.slice C.pA C.pn C.pc):=hC.p.belowSize h.base
structure PlRd (C:PlCtx) (w:World) (st:PlSt) (A:Option Addr) (c:Nat) (A':Option Addr) (c':Nat):Prop where
 c0:w.cell? ⟨C.P,0,none⟩=some (.slice C.gA C.gn C.gc)
 c1:w.cell? ⟨C.P,1,none⟩=some (.slice C.pA C.pn C.pc)
 c2:w.cell? ⟨C.P,2,none⟩=some (.int .i64 C.dec)
 c3:w.cell? ⟨C.P,3,none⟩=some (.int .i64 C.nod)
 c4:w.cell? ⟨C.P,4,none⟩=some (.int .i64 C.q.dirs)
 c5:w.cell? ⟨C.P,5,none⟩=some (.int .i64 C.q.path)
 c6:w.cell? ⟨C.P,6,none⟩=some C.ov
 c7:w.cell? ⟨C.P,7,none⟩=some (.slice A st.1.length c)
 c8:w.cell? ⟨C.P,8,none⟩=some (.slice A' st.2.length c')
 dirs:SlV rDir w (fun _=>True) st.1 (.slice A st.1.length c)
 stls:SlV rStl w (fun _=>True) st.2 (.slice A' st.2.length c')
 hP:C.P<w.heap.size
theorem PlWd.read {C:PlCtx} {w:World} {st:PlSt} (h:PlWd C w st):∃ A c A' c',PlRd C w st A c A' c':=by
 obtain ⟨A,c,A',c',S,h1,h2,h3,h4,h5,h6,h7,h8⟩:=h
 exact ⟨A,c,A',c',cO _ _ 0 _ _ _ h1,cO _ _ 1 _ _ _ h1,cO _ _ 2 _ _ _ h1,cO _ _ 3 _ _ _ h1,cO _ _ 4 _ _ _ h1,cO _ _ 5 _ _ _ h1,cO _ _ 6 _ _ _ h1,cO _ _ 7 _ _ _ h1,cO _ _ 8 _ _ _ h1,h2.slv.more fun _ _ _=>trivial,h3.slv.more fun _ _ _=>trivial,(aS.1 h1).1⟩
theorem PlRd.keep {C:PlCtx} {w w':World} {st:PlSt} {A:Option Addr} {c:Nat} {A':Option Addr} {c':Nat} (h:PlRd C w st A c A' c') (hb:Below w.heap.size w w'):PlRd C w' st A c A' c':=
 ⟨zAA hb h.c0 h.hP,zAA hb h.c1 h.hP,zAA hb h.c2 h.hP,zAA hb h.c3 h.hP,zAA hb h.c4 h.hP,zAA hb h.c5 h.hP,zAA hb h.c6 h.hP,zAA hb h.c7 h.hP,zAA hb h.c8 h.hP,h.dirs.belowSize hb,h.stls.belowSize hb,lL h.hP hb.size⟩
theorem zII {S:List Stl} {k:Nat} {x:Stl} (h:S[k]?=some x) (i:Nat) (s:ByteArray):zBA (S.drop k) i s=if x.frm=i∧x.label=s then (x.dst:Int) else zBA (S.drop (k+1)) i s:=by
 obtain ⟨hk,e⟩:=gS.1 h
 rw[dC hk,e,zBA]
theorem zKi (C:PlCtx) (w:World) (st:PlSt) (hw:PlWd C w st) (i:Nat) (hi:i≤1000000) (s:ByteArray) :
  Calls Tryz.prog 128 #[.pointer (some ⟨C.P,0,none⟩),.int .i64 (i:Int),.string s] w fun e w'=>e=.returned (.int .i64 (zBA st.2 i s))∧Below w.heap.size w w':=by
 obtain ⟨A,c,A',c',hr⟩:=hw.read
 have x8:=hr.c8
 have hst:=cH hr.stls
 have hcm:=hr.stls.cap_le
 unfold maxLen at hcm
 have HR:Hid (zBA st.2 i s=zBA (st.2.drop 0) i s):=by unfold Hid;rw[List.drop_zero]
 have Hend:Hid (∀ k,st.2.length≤k→zBA (st.2.drop k) i s=-1):=fun k hk=>by rw[dN hk];rfl
 have hcn:=hr.stls.n_eq
 clear hr hw
 obtain ⟨n,hn⟩:∃ n,n=st.2.length:=⟨_,rfl⟩
 rw[←hn] at x8 hst Hend hcm
 have hn63:n≤9223372036854775807:=by
  obtain ⟨_,_,h1,h2,h3⟩:=hst.out.val
  simp only[Value.slice.injEq] at h1
  omega
 have Hn:=cH hn
 clear hn hcn hcm
 generalize st.2=SS at *
 generalize zBA SS i s=R at *
 generalize C.P=PB at *
 go_enter Tryz.func128,Tryz.ntmps128
 go_wp2_with fail
 go_loopw [14] (fun t wr=>∃ k:Nat,k≤n∧t=.int .i64 k∧Hid (R=zBA (SS.drop k) i s)∧Hid (Below w.heap.size w wr)) (fun t _=>n - (intOf t).toNat)
 case atStart=>exact ⟨0,nZ _,rfl,HR,bR _ _⟩
 case round=>
  clear HR x8
  obtain ⟨k,hk,rfl,heq,hbel⟩:=hrel
  have hk0:(0:Int)≤(k:Int):=by omega
  by_cases hlt:k<n
  case neg=>
   have He:Hid (R=-1):=by unfold Hid;rw[heq.out,Hend.out k (by omega)]
   have hI:¬(k:Int)<(n:Int):=by omega
   clear heq Hend
   go_wp2_with fail
   go_ret
   exact ⟨zAu He.out.symm,hbel.out⟩
  have hkn:(k:Int)<(n:Int):=by omega
  obtain ⟨x,hx⟩:∃ x,SS[k]?=some x:=⟨_,gE (by have:=Hn.out;omega)⟩
  obtain ⟨b,o,cs,hA,_,hb1,⟨rfl,hlz,hf,hd⟩,hcell⟩:=(hst.out.belowSize hbel.out).elem hx
  subst hA
  have c0:=hcell 0 _ rfl
  have c1:=hcell 1 _ rfl
  have c2:=hcell 2 _ rfl
  simp only[rStl,Nat.add_zero] at c0 c1 c2
  have Hstep:=cH (zII hx i s)
  clear hcell hlz
  obtain ⟨xf,xl,xd⟩:=x
  simp only at c0 c1 c2 hf hd Hstep
  have HBa:Hid (∀ o:Obj,Below w.heap.size w (wr.alloc o)):=fun o=>bal hbel.out o
  by_cases h1:xf=i
  ·have hb1:((xf:Int)==(i:Int))=true:=by simp[h1]
   by_cases h2:xl=s
   ·have hb2:=zAn h2
    have He:Hid (R=(xd:Int)):=by unfold Hid;rw[heq.out,Hstep.out,if_pos ⟨h1,h2⟩]
    clear heq Hstep h1 h2 Hend
    go_wp2_with fail
    go_ret
    exact ⟨zAu He.out.symm,HBa.out _⟩
   ·have hb2:=zAa h2
    have He:Hid (R=zBA (SS.drop (k+1)) i s):=by unfold Hid;rw[heq.out,Hstep.out,if_neg (fun h=>h2 h.2)]
    clear heq Hstep h1 h2
    go_wp2_with fail
    go_roundw
    case rel=>exact ⟨k+1,by omega,by go_num,He,HBa.out _⟩
    case measure=>simp[intOf];omega
  ·have hb1:((xf:Int)==(i:Int))=false:=by simp;omega
   have He:Hid (R=zBA (SS.drop (k+1)) i s):=by unfold Hid;rw[heq.out,Hstep.out,if_neg (fun h=>h1 h.1)]
   clear heq Hstep h1
   go_wp2_with fail
   go_roundw
   case rel=>exact ⟨k+1,by omega,by go_num,He,HBa.out _⟩
   case measure=>simp[intOf];omega
