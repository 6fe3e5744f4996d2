/- The map of a tree's lookups as a plain function, and what it keeps. -/
import Derived.Test.YtminjjdnmpaaoaaGreatDoorSv10
import Derived.Test.YtminjjdnmpaaoaaGreatDoorSv04
import Derived.Test.YtminjjdnmpaaoaaGreatDoorSv02
import Derived.Lib.Hide
import Derived.Test.YtminjjdnmpaaoaaGreatDoorAl
set_option linter.all false
namespace Go.Proofs.YtminjjdnmpaaoaaGreatDoor
open Go.Rows Go.RowKit Go.Shelf Go.Sort
theorem zHp (t:List Dir) (p:List ByteArray):-1≤findI t p∧findI t p<(t.length:Int):=by
 unfold findI
 rcases firstI_lt (fun d=>eqB d.path p) t with h|⟨j,h,hj,_⟩
 ·rw[h.1];omega
 ·rw[h];omega
theorem zFZ (t:List Dir) (p:List ByteArray) (s:ByteArray):∀ q,-1≤zAg t p s q∧zAg t p s q<(t.length:Int):=by
 intro q
 induction q with
 | zero=>unfold zAg;omega
 | succ q ih=>
   unfold zAg
   cases decide (0≤findI t (p.take q++[s]))
   ·exact ih
   ·exact zHp _ _
theorem zEf (t:List Dir) (i:Int) (s:ByteArray):-1≤lookI t i s∧lookI t i s<(t.length:Int):=by
 unfold lookI
 split
 ·cases nameB s
  ·show (-1:Int)≤-1∧(-1:Int)<t.length;omega
  ·exact zFZ _ _ _ _
 ·omega
theorem zGT (q:Dir→Bool):∀ (t:List Dir) (k j:Nat),zA2 q t k=(j:Int)→∃ i,∃ h:i<t.length,j=k+i∧q t[i]=true:=by
 intro t
 induction t with
 | nil=>intro k j h;rw[zA2] at h;omega
 | cons d t ih=>
   intro k j h
   rw[zA2] at h
   cases hq:q d
   ·rw[hq] at h
    obtain ⟨i,hi,e,hqi⟩:=ih (k+1) j h
    exact ⟨i+1,by simpa using hi,by omega,by simpa using hqi⟩
   ·rw[hq] at h
    refine ⟨0,by simp,?_,by simpa using hq⟩
    have:(k:Int)=(j:Int):=h
    omega
theorem zDV {t:List Dir} {p:List ByteArray} {j:Nat} (h:findI t p=(j:Int)):∃ hj:j<t.length,t[j].path=p:=by
 unfold findI zC0 at h
 obtain ⟨i,hi,e,hq⟩:=zGT _ t 0 j h
 obtain rfl:i=j:=by omega
 refine ⟨hi,?_⟩
 by_cases e:t[i].path=p
 ·exact e
 ·rw[zAH e] at hq;cases hq
theorem zFh {t:List Dir} {p:List ByteArray} (h:findI t p<0) {d:Dir} (hd:d∈t):d.path≠p:=by
 intro e
 unfold findI at h
 rcases firstI_lt (fun d=>eqB d.path p) t with h'|⟨j,h',_⟩
 ·have:=List.any_eq_false.1 h'.2 d hd
  rw[zAP e] at this
  exact this rfl
 ·omega
end Go.Proofs.YtminjjdnmpaaoaaGreatDoor
namespace Go.Proofs.YtminjjdnmpaaoaaGreatDoor
open Go
noncomputable def zDU (n:Node) (x:Pack):Bool:=(n.name.toList==[])&&(zeroV n.ver&&(decide (n.ctx.length=0)&&eqB x zAC))
noncomputable def zC4 (n:Node) (x:Pack):Bool:=packB x&&(decide (x.name=n.name)&&eqB x.ver n.ver)
noncomputable def headP (i:Nat) (n:Node) (x:Pack):Bool:=if i=0 then zDU n x else zC4 n x
noncomputable def edgeP (g:List Node) (e:Edge):Bool:=decide (1≤e.to)&&(decide (e.to<(g.length:Int))&&match g[e.to.toNat]? with|some y=>decide (y.name=e.label)|none=>false)
def zAo:List Edge→ByteArray→Option Nat
 | [],_=>none
 | e::l,s=>if e.label=s then some 0 else (zAo l s).map (·+1)
noncomputable def pinP (g:List Node) (es:List Edge) (q:Pin):Bool:=match zAo es q.name with
 | none=>false
 | some k=>match es[k]? with
   | none=>false
   | some e=>match g[e.to.toNat]? with
     | none=>false
     | some y=>eqB y.ver q.ver
noncomputable def formP (g:List Node) (i:Nat) (n:Node) (x:Pack):Bool:=
 headP i n x&&((zAJ none (zAG n.ctx)&&zAJ none (zAF n.edges))&&(n.edges.all (edgeP g)&&n.ctx.all (pinP g n.edges)))
noncomputable def zBl (g:List Node):Nat→List Node→List Pack→Bool
 | i,n::l,x::m=>formP g i n x&&zBl g (i+1) l m
 | _,[],[]=>true
 | _,_,_=>false
noncomputable def mayPl (g:List Node) (ps:List Pack):Bool:=decide (1≤g.length)&&(decide (g.length≤128)&&(decide (ps.length=g.length)&&zBl g 0 g ps))
theorem zGx (g:List Node):∀ {l:List Node} {m:List Pack} {i:Nat},zBl g i l m=true→∀ (j:Nat) (n:Node),l[j]?=some n→∃ x,m[j]?=some x∧formP g (i+j) n x=true
 | [],_,_,_,j,n,h=>by cases h
 | a::l,[],i,hf,j,n,h=>by simp[zBl] at hf
 | a::l,b::m,i,hf,0,n,h=>by
   rw[zBl,Bool.and_eq_true] at hf
   cases h
   exact ⟨b,rfl,hf.1⟩
 | a::l,b::m,i,hf,j+1,n,h=>by
   rw[zBl,Bool.and_eq_true] at hf
   obtain ⟨x,hx,hx2⟩:=zGx g hf.2 j n h
   exact ⟨x,hx,by rwa [show i+(j+1)=i+1+j from by omega]⟩
theorem zEl (g:List Node) {l:List Node} {m:List Pack} {k:Nat} {n:Node} {x:Pack} (hl:l[k]?=some n) (hm:m[k]?=some x):zBl g k (l.drop k) (m.drop k)=(formP g k n x&&zBl g (k+1) (l.drop (k+1)) (m.drop (k+1))):=by
 obtain ⟨h1,e1⟩:=gS.1 hl
 obtain ⟨h2,e2⟩:=gS.1 hm
 rw[dC h1,dC h2,e1,e2,zBl]
theorem zEy (g:List Node) {l:List Node} {m:List Pack} {k:Nat} (h1:l.length≤k) (h2:m.length≤k):zBl g k (l.drop k) (m.drop k)=true:=by
 rw[dN h1,dN h2]
 rfl
structure Stl where
 frm:Nat
 label:ByteArray
 dst:Nat
abbrev PlSt:=List Dir×List Stl
def dirZ0:Dir:=⟨[],⟨⟨#[]⟩,⟨0,0,0⟩,[],[],[]⟩,0⟩
def dirAt (T:List Dir) (i:Nat):Dir:=T.getD i dirZ0
def zAE (T:List Dir) (i:Nat):List ByteArray:=(dirAt T i).path
noncomputable def zAl (path above:List ByteArray):Bool:=decide (above.length≤path.length)&&eqB (path.take above.length) above
def zAq (S:List Stl) (i:Nat) (s:ByteArray):Int:=match S with
 | []=>-1
 | x::l=>if x.frm=i∧x.label=s then (x.dst:Int) else zAq l i s
noncomputable def zA3 (T:List Dir) (home:Nat) (s:ByteArray) (x:Stl):Bool:=decide (x.label=s)&&(zAl (zAE T x.frm) (zAE T home)&&decide ((zAE T x.dst).length≤(zAE T home).length))
noncomputable def zBQ (T:List Dir) (S:List Stl) (home:Nat) (s:ByteArray):Bool:=S.any (zA3 T home s)
noncomputable def zAk (old:Option (List Dir)) (inside:List ByteArray) (x:Pack):Bool:=match old with
 | none=>false
 | some o=>decide (0≤findI o inside)&&eqB (dirAt o (findI o inside).toNat).pack x
noncomputable def zCB (T:List Dir) (S:List Stl) (at_ from_:Nat) (q:Pin):Bool:=decide (0≤zAq S from_ q.name)&&decide (lookI T (at_:Int) q.name=zAq S from_ q.name)
noncomputable def seesB (g:List Node) (T:List Dir) (S:List Stl) (at_ from_:Nat):Bool:=match g[(dirAt T at_).node.toNat]? with
 | none=>false
 | some n=>n.ctx.all (zCB T S at_ from_)
noncomputable def zAv (T:List Dir) (S:List Stl) (old:Option (List Dir)) (path:List ByteArray) (s:ByteArray) (x:Pack):Nat→Int×Int→Int×Int
 | 0,st=>st
 | k+1,(best,liked)=>
   if 0≤findI T (path.take k++[s]) then (best,liked)
   else if zBQ T S (findI T (path.take k)).toNat s=true then zAv T S old path s x k (best,liked)
   else zAv T S old path s x k (findI T (path.take k),if zAk old (path.take k++[s]) x=true then findI T (path.take k) else liked)
def pickI (r:Int×Int):Int:=if 0≤r.2 then r.2 else r.1
noncomputable def spotI (T:List Dir) (S:List Stl) (old:Option (List Dir)) (path:List ByteArray) (s:ByteArray) (x:Pack):Int:=pickI (zAv T S old path s x (path.length+1) (-1,-1))
noncomputable def spotD (T:List Dir) (S:List Stl) (home from_:Nat) (s:ByteArray):Bool:=
 zAl (zAE T from_) (zAE T home)&&((T.all fun d=>!(zAl d.path (zAE T home)&&(zAl (zAE T from_) d.path&&decide (0≤findI T (d.path++[s])))))&&!zBQ T S home s)
noncomputable def zI7 (T:List Dir) (S:List Stl) (old:Option (List Dir)) (from_:Nat) (s:ByteArray) (x:Pack) (i:Nat) (st:Int×Bool):Int×Bool:=
 let liked:=zAk old (zAE T i++[s]) x
 let nearer:=decide (st.1<0)||decide ((zAE T i).length<(zAE T st.1.toNat).length)
 if spotD T S i from_ s=true∧((liked=true∧st.2=false)∨(liked=st.2∧nearer=true)) then ((i:Int),liked) else st
noncomputable def zCi (T:List Dir) (S:List Stl) (old:Option (List Dir)) (from_:Nat) (s:ByteArray) (x:Pack):Nat→Int×Bool
 | 0=>(-1,false)
 | i+1=>zI7 T S old from_ s x i (zCi T S old from_ s x i)
noncomputable def bestI (T:List Dir) (S:List Stl) (old:Option (List Dir)) (from_:Nat) (s:ByteArray) (x:Pack):Int:=(zCi T S old from_ s x T.length).1
structure PlIn where
 g:List Node
 ps:List Pack
 dirs:Int
 path:Int
 old:Option (List Dir)
def zA5 (q:PlIn) (i:Nat):Pack:=q.ps.getD i ⟨⟨#[]⟩,⟨0,0,0⟩,[],[],[]⟩
def zBW (q:PlIn) (i:Nat):Node:=q.g.getD i ⟨⟨#[]⟩,⟨0,0,0⟩,[],[]⟩
noncomputable def putP (q:PlIn) (T:List Dir) (home node:Nat):Except Int (List Dir):=
 if q.path<((textB (zAE T home++[(zA5 q node).name])).size:Int) then .error 40
 else if q.dirs≤(T.length:Int) - 1 then .error 41
 else .ok (T++[⟨zAE T home++[(zA5 q node).name],zA5 q node,(node:Int)⟩])
noncomputable def kindP (q:PlIn) (n:Node) (e:Edge):Nat:=if (n.ctx.any fun x=>decide (x.name=e.label))=true then 1 else if (zBW q e.to.toNat).ctx.length=0 then 2 else 3
noncomputable def zAx (q:PlIn) (st:PlSt) (at_:Nat) (kind:Nat) (e:Edge):Bool:=
 decide (0≤lookI st.1 (at_:Int) e.label)&&(decide ((dirAt st.1 (lookI st.1 (at_:Int) e.label).toNat).node=e.to)&&(decide (kind≠3)||seesB q.g st.1 st.2 (lookI st.1 (at_:Int) e.label).toNat at_))
noncomputable def homeP (q:PlIn) (st:PlSt) (at_:Nat) (kind:Nat) (e:Edge):Int:=
 if kind=2 then spotI st.1 st.2 q.old (zAE st.1 at_) e.label (zA5 q e.to.toNat) else (at_:Int)
noncomputable def stepE (q:PlIn) (at_:Nat) (kind:Nat) (e:Edge) (st:PlSt):Except Int PlSt:=
 if zAx q st at_ kind e=true then .ok (st.1,st.2++[⟨at_,e.label,(lookI st.1 (at_:Int) e.label).toNat⟩])
 else if kind=1 then .error 33
 else match putP q st.1 (homeP q st at_ kind e).toNat e.to.toNat with
  | .error c=>.error c
  | .ok T=>.ok (T,st.2++[⟨at_,e.label,st.1.length⟩])
noncomputable def zBF (q:PlIn) (at_:Nat) (n:Node) (kind:Nat):List Edge→PlSt→Except Int PlSt
 | [],st=>.ok st
 | e::l,st=>if kindP q n e=kind then (match stepE q at_ kind e st with
    | .error c=>.error c
    | .ok st'=>zBF q at_ n kind l st') else zBF q at_ n kind l st
noncomputable def zBs (q:PlIn) (at_:Nat) (n:Node):List Nat→PlSt→Except Int PlSt
 | [],st=>.ok st
 | k::l,st=>match zBF q at_ n k n.edges st with
   | .error c=>.error c
   | .ok st'=>zBs q at_ n l st'
noncomputable def dirP (q:PlIn) (at_:Nat) (st:PlSt):Except Int PlSt:=zBs q at_ (zBW q (dirAt st.1 at_).node.toNat) [1,2,3] st
noncomputable def dirsP (q:PlIn):Nat→Nat→PlSt→Except Int PlSt
 | 0,_,st=>.ok st
 | f+1,at_,st=>if at_<st.1.length then (match dirP q at_ st with
    | .error c=>.error c
    | .ok st'=>dirsP q f (at_+1) st') else .ok st
noncomputable def zCL:Option (List Dir)→Bool
 | none=>false
 | some o=>decide (zBA o≠0)
noncomputable def zBN (q:PlIn):Except Int PlSt:=
 if q.dirs<1∨256<q.dirs∨q.path<1∨1024<q.path then .error 1
 else if zCL q.old=true then .error 42
 else if mayPl q.g q.ps=false then .error 33
 else dirsP q 258 0 ([dirZ0],[])
theorem zET {T:List Dir} {i:Nat} {d:Dir} (h:T[i]?=some d):dirAt T i=d:=by
 unfold dirAt;rw[List.getD_eq_getElem?_getD,h];rfl
theorem zBV {T:List Dir} {i:Nat} {d:Dir} (h:T[i]?=some d):zAE T i=d.path:=by
 unfold zAE;rw[zET h]
theorem zAa {T:List Dir} {i:Nat} (h:i<T.length):T[i]?=some (dirAt T i):=by
 unfold dirAt;rw[List.getD_eq_getElem?_getD,gE h];rfl
theorem zB4 {T:List Dir} (hn:(T.map (·.path)).Nodup) {i:Nat} {d:Dir} (h:T[i]?=some d):findI T d.path=(i:Int):=by
 rcases Int.lt_or_le (findI T d.path) 0 with hl|hl
 ·exact absurd rfl (zFh hl (mG h))
 ·obtain ⟨j,hj⟩:∃ j:Nat,findI T d.path=(j:Int):=⟨(findI T d.path).toNat,by omega⟩
  obtain ⟨h1,h2⟩:=zDV hj
  obtain ⟨hi,e⟩:=gS.1 h
  rw[hj]
  have:j=i:=by
   have h3:(T.map (·.path))[j]'(by rw[List.length_map];exact h1)=(T.map (·.path))[i]'(by rw[List.length_map];exact hi):=by
    rw[List.getElem_map,List.getElem_map,h2,e]
   exact (List.getElem_inj hn).1 h3
  rw[this]
theorem zHb {T:List Dir} {p:List ByteArray} (h:0≤findI T p):∃ (j:Nat) (d:Dir),findI T p=(j:Int)∧T[j]?=some d∧d.path=p:=by
 obtain ⟨j,hj⟩:∃ j:Nat,findI T p=(j:Int):=⟨(findI T p).toNat,by omega⟩
 obtain ⟨h1,h2⟩:=zDV hj
 exact ⟨j,_,hj,gE h1,h2⟩
theorem zCZ {p a:List ByteArray}:zAl p a=true↔a<+:p:=by
 unfold zAl
 rw[Bool.and_eq_true,decide_eq_true_eq,zCC]
 constructor
 ·rintro ⟨_,h⟩
  exact ⟨p.drop a.length,by conv=>lhs;rw[←h]
                            rw[h]
                            conv=>rhs;rw[←List.take_append_drop a.length p,h]⟩
 ·rintro ⟨r,rfl⟩
  exact ⟨by rw[List.length_append];omega,List.take_left⟩
structure PlInv (q:PlIn) (at_:Nat) (done:List ByteArray) (st:PlSt):Prop where
 pos:0<st.1.length
 len:st.1.length≤257
 root:∀ d,st.1[0]?=some d→d.path=[]∧d.node=0∧d.pack=zAC
 names:∀ d∈st.1,d.path.all nameB=true∧(textB d.path).size≤1024
 up:∀ (j:Nat) (d:Dir),st.1[j]?=some d→j≠0→d.path≠[]∧∃ (i:Nat) (e:Dir),i<j∧st.1[i]?=some e∧e.path=d.path.dropLast
 apart:(st.1.map (·.path)).Nodup
 node:∀ (j:Nat) (d:Dir),st.1[j]?=some d→j≠0→1≤d.node∧d.node<(q.g.length:Int)∧d.pack=zA5 q d.node.toNat
 stl:∀ x∈st.2,x.frm<st.1.length∧x.dst<st.1.length∧(x.frm<at_∨(x.frm=at_∧x.label∈done))
 low:∀ (j:Nat) (d:Dir) (i:Nat) (e:Dir),st.1[j]?=some d→st.1[i]?=some e→at_≤i→j≠i→e.path<+:d.path→i=at_∧∃ s∈done,d.path=e.path++[s]
theorem PlInv.next {q:PlIn} {at_:Nat} {done:List ByteArray} {st:PlSt} (h:PlInv q at_ done st):PlInv q (at_+1) [] st:=
 { h with
   stl:=fun x hx=>by
    obtain ⟨h1,h2,h3⟩:=h.stl x hx
    exact ⟨h1,h2,.inl (by rcases h3 with h3|h3<;>omega)⟩
   low:=fun j d i e hj hi hle hne hp=>by
    have:=(h.low j d i e hj hi (by omega) hne hp).1
    omega}
theorem PlInv.start (q:PlIn):PlInv q 0 [] ([dirZ0],[]) where
 pos:=by decide
 len:=by decide
 root:=fun d hd=>by cases hd;exact ⟨rfl,rfl,rfl⟩
 names:=fun d hd=>by rw[List.mem_singleton.1 hd];exact ⟨rfl,by decide⟩
 up:=fun j d hj h0=>by
  cases j with
  | zero=>exact absurd rfl h0
  | succ j=>cases hj
 apart:=by simp
 node:=fun j d hj h0=>by
  cases j with
  | zero=>exact absurd rfl h0
  | succ j=>cases hj
 stl:=fun x hx=>by cases hx
 low:=fun j d i e hj hi _ hne _=>by
  cases j with
  | zero=>cases i with
    | zero=>exact absurd rfl hne
    | succ i=>cases hi
  | succ j=>cases hj
theorem PlInv.closed {q:PlIn} {at_:Nat} {done:List ByteArray} {st:PlSt} (h:PlInv q at_ done st):∀ (n j:Nat) (d:Dir) (k:Nat),st.1[j]?=some d→d.path.length=k+n→∃ (i:Nat) (e:Dir),i≤j∧st.1[i]?=some e∧e.path=d.path.take k:=by
 intro n
 induction n with
 | zero=>intro j d k hj hl;exact ⟨j,d,nR _,hj,by rw[List.take_of_length_le (by omega)]⟩
 | succ n ih=>
   intro j d k hj hl
   have h0:j≠0:=fun e=>by
    subst e
    have:=(h.root d hj).1
    rw[this,List.length_nil] at hl
    omega
   obtain ⟨_,i,e,hij,hi,he⟩:=h.up j d hj h0
   obtain ⟨i',e',h1,h2,h3⟩:=ih i e k hi (by rw[he,List.length_dropLast];omega)
   refine ⟨i',e',by omega,h2,?_⟩
   rw[h3,he,List.dropLast_eq_take,List.take_take,Nat.min_eq_left (by omega)]
theorem PlInv.find {q:PlIn} {at_:Nat} {done:List ByteArray} {st:PlSt} (h:PlInv q at_ done st) {j:Nat} {d:Dir} (hj:st.1[j]?=some d) {k:Nat} (hk:k≤d.path.length) :
  ∃ (i:Nat) (e:Dir),i≤j∧findI st.1 (d.path.take k)=(i:Int)∧st.1[i]?=some e∧e.path=d.path.take k:=by
 obtain ⟨i,e,h1,h2,h3⟩:=h.closed (d.path.length - k) j d k hj (by omega)
 exact ⟨i,e,h1,by rw[←h3];exact zB4 h.apart h2,h2,h3⟩
theorem PlInv.behind_ {q:PlIn} {at_:Nat} {done:List ByteArray} {st:PlSt} (h:PlInv q at_ done st) {i j:Nat} {d e:Dir} (hj:st.1[j]?=some d) (hi:st.1[i]?=some e) (hp:e.path<+:d.path):i≤j:=by
 obtain ⟨i',e',h1,h2,h3,h4⟩:=h.find hj (k:=e.path.length) hp.length_le
 have:d.path.take e.path.length=e.path:=(List.prefix_iff_eq_take.1 hp).symm
 rw[this] at h2
 rw[zB4 h.apart hi] at h2
 omega
theorem PlInv.fresh {q:PlIn} {at_:Nat} {done:List ByteArray} {st:PlSt} (h:PlInv q at_ done st) {d:Dir} (hd:st.1[at_]?=some d) {s:ByteArray} (hs:s∉done):findI st.1 (d.path++[s])<0:=by
 rcases Int.lt_or_le (findI st.1 (d.path++[s])) 0 with hl|hl
 ·exact hl
 ·exfalso
  obtain ⟨j,e,_,hj,hp⟩:=zHb hl
  have hne:j≠at_:=fun e'=>by
   rw[e'] at hj
   rw[hd] at hj
   cases hj
   have:=congrArg List.length hp
   rw[List.length_append,List.length_singleton] at this
   omega
  obtain ⟨_,s',h1,h2⟩:=h.low j e at_ d hj hd (nR _) hne ⟨[s],hp.symm⟩
  rw[hp] at h2
  have:=List.append_cancel_left h2
  simp only[List.cons.injEq,and_true] at this
  rw[this] at hs
  exact hs h1
theorem PlInv.quiet {q:PlIn} {at_:Nat} {done:List ByteArray} {st:PlSt} (h:PlInv q at_ done st) {d:Dir} (hd:st.1[at_]?=some d) {s:ByteArray} (hs:s∉done):zBQ st.1 st.2 at_ s=false:=by
 unfold zBQ
 rw[List.any_eq_false]
 intro x hx ht
 unfold zA3 at ht
 simp only[Bool.and_eq_true,decide_eq_true_eq] at ht
 obtain ⟨hl,hu,_⟩:=ht
 obtain ⟨h1,_,h3⟩:=h.stl x hx
 rcases h3 with h3|⟨h3,h4⟩
 ·have hf:=zAa h1
  rw[zCZ,zBV hd] at hu
  have:=h.behind_ hf hd (by rw[zAE] at hu;exact hu)
  omega
 ·rw[hl] at h4;exact hs h4
structure zE3 (T:List Dir) (path:List ByteArray) (s:ByteArray) (r:Int):Prop where
 lo:0≤r
 is:∃ (i:Nat) (e:Dir),r=(i:Int)∧T[i]?=some e∧e.path<+:path∧findI T (e.path++[s])<0
theorem zLK {q:PlIn} {at_:Nat} {done:List ByteArray} {st:PlSt} (h:PlInv q at_ done st) {j:Nat} {d:Dir} (hj:st.1[j]?=some d) (old:Option (List Dir)) (s:ByteArray) (x:Pack):∀ (k:Nat) (b l:Int),k≤d.path.length+1 →
  zE3 st.1 d.path s b→(l=-1∨zE3 st.1 d.path s l)→zE3 st.1 d.path s (zAv st.1 st.2 old d.path s x k (b,l)).1∧((zAv st.1 st.2 old d.path s x k (b,l)).2=-1∨zE3 st.1 d.path s (zAv st.1 st.2 old d.path s x k (b,l)).2):=by
 intro k
 induction k with
 | zero=>intro b l _ hb hl;exact ⟨hb,hl⟩
 | succ k ih=>
   intro b l hk hb hl
   rw[zAv]
   by_cases h1:0≤findI st.1 (d.path.take k++[s])
   ·rw[if_pos h1];exact ⟨hb,hl⟩
   ·rw[if_neg h1]
    by_cases h2:zBQ st.1 st.2 (findI st.1 (d.path.take k)).toNat s=true
    ·rw[if_pos h2];exact ih b l (by omega) hb hl
    ·rw[if_neg h2]
     obtain ⟨i,e,_,hi,he,hp⟩:=h.find hj (k:=k) (by omega)
     have hok:zE3 st.1 d.path s (findI st.1 (d.path.take k)):=⟨by omega,i,e,hi,he,by rw[hp];exact List.take_prefix _ _,by rw[hp];omega⟩
     refine ih _ _ (by omega) hok ?_
     split
     ·exact .inr hok
     ·exact hl
theorem zLQ {q:PlIn} {at_:Nat} {done:List ByteArray} {st:PlSt} (h:PlInv q at_ done st) {d:Dir} (hd:st.1[at_]?=some d) (old:Option (List Dir)) {s:ByteArray} (hs:s∉done) (x:Pack):zE3 st.1 d.path s (spotI st.1 st.2 old d.path s x):=by
 have h1:=h.fresh hd hs
 have h2:=h.quiet hd hs
 have h3:=zB4 h.apart hd
 have hok:zE3 st.1 d.path s (at_:Int):=⟨by omega,at_,d,rfl,hd,List.prefix_refl _,h1⟩
 unfold spotI
 rw[zAv,List.take_length,if_neg (by omega),h3,Int.toNat_natCast,if_neg (by rw[h2];decide)]
 have h4:=zLK h hd old s x d.path.length (at_:Int) (if zAk old (d.path++[s]) x=true then (at_:Int) else -1) (by omega) hok (by
  split
  ·exact .inr hok
  ·exact .inl rfl)
 generalize zAv st.1 st.2 old d.path s x d.path.length (at_,if zAk old (d.path++[s]) x=true then (at_:Int) else -1)=r at *
 unfold pickI
 by_cases hl:0≤r.2
 ·rw[if_pos hl]
  rcases h4.2 with e|e
  ·rw[e] at hl;exact absurd hl (by decide)
  ·exact e
 ·rw[if_neg hl];exact h4.1
theorem zCy {g:List Node} {ps:List Pack} (h:mayPl g ps=true):1≤g.length∧g.length≤128∧ps.length=g.length∧∀ (j:Nat) (n:Node),g[j]?=some n→∃ x,ps[j]?=some x∧formP g j n x=true:=by
 unfold mayPl at h
 simp only[Bool.and_eq_true,decide_eq_true_eq] at h
 refine ⟨h.1,h.2.1,h.2.2.1,fun j n hj=>?_⟩
 have:=zGx g h.2.2.2 j n hj
 rwa [Nat.zero_add] at this
theorem zDw {q:PlIn} (h:mayPl q.g q.ps=true) {j:Nat} {n:Node} (hj:q.g[j]?=some n) {e:Edge} (he:e∈n.edges) :
  1≤e.to∧e.to<(q.g.length:Int)∧(zBW q e.to.toNat).name=e.label∧(zA5 q e.to.toNat).name=e.label∧packB (zA5 q e.to.toNat)=true∧nameB e.label=true:=by
 obtain ⟨_,_,hz,hall⟩:=zCy h
 obtain ⟨x,hx,hf⟩:=hall j n hj
 unfold formP at hf
 simp only[Bool.and_eq_true] at hf
 obtain ⟨_,⟨_,hr⟩,hed,_⟩:=hf
 have h1:=List.all_eq_true.1 hed e he
 unfold edgeP at h1
 simp only[Bool.and_eq_true,decide_eq_true_eq] at h1
 obtain ⟨h1,h2,h3⟩:=h1
 have hlt:e.to.toNat<q.g.length:=by omega
 rw[gE hlt] at h3
 simp only[decide_eq_true_eq] at h3
 have hn:zBW q e.to.toNat=q.g[e.to.toNat]:=by unfold zBW;rw[List.getD_eq_getElem?_getD,gE hlt];rfl
 obtain ⟨y,hy,hf2⟩:=hall e.to.toNat _ (gE hlt)
 have hp:zA5 q e.to.toNat=y:=by unfold zA5;rw[List.getD_eq_getElem?_getD,hy];rfl
 unfold formP headP at hf2
 rw[if_neg (by omega)] at hf2
 unfold zC4 at hf2
 simp only[Bool.and_eq_true,decide_eq_true_eq] at hf2
 refine ⟨h1,h2,by rw[hn,h3],by rw[hp,hf2.1.2.1,h3],by rw[hp];exact hf2.1.1,?_⟩
 exact zDr hr e.label (List.mem_map.2 ⟨e,he,rfl⟩)
theorem zEk:∀ {l:List ByteArray} {p:Option ByteArray},zAJ p l=true→l.Nodup∧∀ a,p=some a→∀ x∈l,lessB a x=true
 | [],p,_=>⟨List.nodup_nil,fun a _ x hx=>by cases hx⟩
 | s::l,p,h=>by
   rw[zAJ,Bool.and_eq_true,Bool.and_eq_true] at h
   obtain ⟨h1,h2⟩:=zEk h.2
   refine ⟨List.nodup_cons.2 ⟨fun hm=>?_,h1⟩,fun a ha x hx=>?_⟩
   ·have:=h2 s rfl s hm
    rw[zCN] at this
    cases this
   ·subst ha
    have hb:lessB a s=true:=h.1.2
    rcases List.mem_cons.1 hx with rfl|hx
    ·exact hb
    ·exact zCv hb (h2 s rfl x hx)
theorem zBt {q:PlIn} (h:mayPl q.g q.ps=true) {j:Nat} {n:Node} (hj:q.g[j]?=some n):(zAF n.edges).Nodup:=by
 obtain ⟨_,_,_,hall⟩:=zCy h
 obtain ⟨x,_,hf⟩:=hall j n hj
 unfold formP at hf
 simp only[Bool.and_eq_true] at hf
 exact (zEk hf.2.1.2).1
theorem zMy {q:PlIn} {at_:Nat} {done:List ByteArray} {st:PlSt} (h:PlInv q at_ done st) {d:Dir} (hd:st.1[at_]?=some d) {s:ByteArray} (hs:s∉done) (hnm:nameB s=true)
  {node:Nat} (hn1:1≤node) (hn2:node<q.g.length) (hps:(zA5 q node).name=s) (hq:q.path≤1024) (hqd:q.dirs≤256)
  {home:Nat} {e:Dir} (hh:st.1[home]?=some e) (hpre:e.path<+:d.path) (hno:findI st.1 (e.path++[s])<0) {T:List Dir} (hT:putP q st.1 home node=.ok T) :
  T=st.1++[⟨e.path++[s],zA5 q node,(node:Int)⟩]∧PlInv q at_ (done++[s]) (T,st.2++[⟨at_,s,st.1.length⟩]):=by
 have hpa:zAE st.1 home=e.path:=zBV hh
 unfold putP at hT
 rw[hpa,hps] at hT
 by_cases c1:q.path<((textB (e.path++[s])).size:Int)
 ·rw[if_pos c1] at hT;cases hT
 rw[if_neg c1] at hT
 by_cases c2:q.dirs≤(st.1.length:Int) - 1
 ·rw[if_pos c2] at hT;cases hT
 rw[if_neg c2] at hT
 cases hT
 refine ⟨rfl,?_⟩
 obtain ⟨nd,hnd⟩:∃ nd:Dir,nd=⟨e.path++[s],zA5 q node,(node:Int)⟩:=⟨_,rfl⟩
 have hndp:nd.path=e.path++[s]:=by rw[hnd]
 rw[←hnd]
 have hnew:∀ d'∈st.1,d'.path≠e.path++[s]:=fun d' hd'=>zFh hno hd'
 have hat:∀ (j:Nat) (d':Dir),(st.1++[nd])[j]?=some d'→st.1[j]?=some d'∨(j=st.1.length∧d'=nd):=fun j d' hj=>by
  rcases Nat.lt_trichotomy j st.1.length with hlt|heq|hgt
  ·rw[List.getElem?_append_left hlt] at hj;exact .inl hj
  ·rw[heq,List.getElem?_append_right (nR _),Nat.sub_self] at hj
   cases hj
   exact .inr ⟨heq,rfl⟩
  ·rw[List.getElem?_eq_none (by rw[List.length_append,List.length_singleton];omega)] at hj
   cases hj
 have hold:∀ (j:Nat) (d':Dir),st.1[j]?=some d'→(st.1++[nd])[j]?=some d':=fun j d' hj=>by
  rw[List.getElem?_append_left (gS.1 hj).1];exact hj
 have hhl:=(gS.1 hh).1
 have hdl:=(gS.1 hd).1
 exact {
  pos:=by show 0<(st.1++[nd]).length;rw[List.length_append];have:=h.pos;omega
  len:=by show (st.1++[nd]).length≤257;rw[List.length_append,List.length_singleton];omega
  root:=fun d' hd'=>by
   rcases hat 0 d' hd' with hj|⟨hj,_⟩
   ·exact h.root d' hj
   ·have:=h.pos;omega
  names:=fun d' hd'=>by
   rcases List.mem_append.1 hd' with hm|hm
   ·exact h.names d' hm
   ·rw[List.mem_singleton.1 hm,hndp]
    refine ⟨?_,by omega⟩
    rw[List.all_append,(h.names e (mG hh)).1,List.all_cons,hnm]
    rfl
  up:=fun j d' hj h0=>by
   rcases hat j d' hj with hj'|⟨hj',rfl⟩
   ·obtain ⟨h1,i,e',h2,h3,h4⟩:=h.up j d' hj' h0
    exact ⟨h1,i,e',h2,hold _ _ h3,h4⟩
   ·rw[hndp]
    exact ⟨by simp,home,e,by omega,hold _ _ hh,by rw[List.dropLast_concat]⟩
  apart:=by
   show ((st.1++[nd]).map (·.path)).Nodup
   rw[List.map_append,List.nodup_append]
   refine ⟨h.apart,by simp,fun a ha b hb hab=>?_⟩
   obtain ⟨d',hd',rfl⟩:=List.mem_map.1 ha
   have:b=nd.path:=by simpa using hb
   rw[this,hndp] at hab
   exact hnew d' hd' hab
  node:=fun j d' hj h0=>by
   rcases hat j d' hj with hj'|⟨_,rfl⟩
   ·exact h.node j d' hj' h0
   ·rw[hnd]
    exact ⟨by show (1:Int)≤(node:Int);omega,by show (node:Int)<_;omega,by show zA5 q node=zA5 q (node:Int).toNat;rw[Int.toNat_natCast]⟩
  stl:=fun x hx=>by
   have hl:(st.1++[nd]).length=st.1.length+1:=by rw[List.length_append];rfl
   rcases List.mem_append.1 hx with hm|hm
   ·obtain ⟨h1,h2,h3⟩:=h.stl x hm
    refine ⟨by rw[hl];omega,by rw[hl];omega,?_⟩
    rcases h3 with h3|⟨h3,h4⟩
    ·exact .inl h3
    ·exact .inr ⟨h3,List.mem_append.2 (.inl h4)⟩
   ·rw[List.mem_singleton.1 hm]
    exact ⟨by rw[hl];show at_<_;omega,by rw[hl];show st.1.length<_;omega,.inr ⟨rfl,by simp⟩⟩
  low:=fun j d' i e' hj hi hle hne hp=>by
   rcases hat i e' hi with hi'|⟨hi',rfl⟩
   ·rcases hat j d' hj with hj'|⟨hj',rfl⟩
    ·obtain ⟨h1,s',h2,h3⟩:=h.low j d' i e' hj' hi' hle hne hp
     exact ⟨h1,s',List.mem_append.2 (.inl h2),h3⟩
    ·rw[hndp] at hp ⊢
     have hp2:e'.path<+:e.path:=by
      rcases List.prefix_concat_iff.1 hp with h1|h1
      ·exact absurd h1 (hnew e' (mG hi'))
      ·exact h1
     have hia:i=at_:=by
      by_cases hc:at_=i
      ·exact hc.symm
      ·exact (h.low at_ d i e' hd hi' hle hc (hp2.trans hpre)).1
     subst hia
     rw[hd] at hi'
     cases hi'
     have he:e.path=d.path:=hpre.eq_of_length_le hp2.length_le
     exact ⟨rfl,s,by simp,by rw[he]⟩
   ·rcases hat j d' hj with hj'|⟨hj',_⟩
    ·exfalso
     rw[hndp] at hp
     obtain ⟨i',e2,_,_,h3,h4⟩:=h.find hj' (k:=(e.path++[s]).length) hp.length_le
     rw[←List.prefix_iff_eq_take.1 hp] at h4
     exact hnew e2 (mG h3) h4
    ·omega}
theorem zId {T:List Dir} {i:Int} {s:ByteArray} (h:0≤lookI T i s):(lookI T i s).toNat<T.length:=by
 have:=(zEf T i s).2
 omega
theorem zGa {q:PlIn} {at_:Nat} {done:List ByteArray} {st:PlSt} (h:PlInv q at_ done st) {d:Dir} (hd:st.1[at_]?=some d) (kind:Nat) {e:Edge} (hs:e.label∉done) :
  ∃ (i:Nat) (f:Dir),homeP q st at_ kind e=(i:Int)∧st.1[i]?=some f∧f.path<+:d.path∧findI st.1 (f.path++[e.label])<0:=by
 unfold homeP
 by_cases hk:kind=2
 ·rw[if_pos hk,zBV hd]
  exact (zLQ h hd q.old hs (zA5 q e.to.toNat)).is
 ·rw[if_neg hk]
  exact ⟨at_,d,rfl,hd,List.prefix_refl _,h.fresh hd hs⟩
theorem zEo {q:PlIn} {at_:Nat} {done:List ByteArray} {st st':PlSt} (h:PlInv q at_ done st) (hm:mayPl q.g q.ps=true) (hq:q.path≤1024) (hqd:q.dirs≤256) {d:Dir} (hd:st.1[at_]?=some d)
  {j:Nat} {n:Node} (hn:q.g[j]?=some n) {e:Edge} (he:e∈n.edges) (hs:e.label∉done) {kind:Nat} (hst:stepE q at_ kind e st=.ok st') :
  PlInv q at_ (done++[e.label]) st'∧(∃ l,st'.1=st.1++l)∧st'.2.length=st.2.length+1:=by
 have hdl:=(gS.1 hd).1
 unfold stepE at hst
 by_cases hr:zAx q st at_ kind e=true
 ·rw[if_pos hr] at hst
  cases hst
  unfold zAx at hr
  simp only[Bool.and_eq_true,decide_eq_true_eq] at hr
  have hlt:(lookI st.1 (at_:Int) e.label).toNat<st.1.length:=by
   have:=(zEf st.1 (at_:Int) e.label).2
   omega
  refine ⟨{ h with
   stl:=fun x hx=>?_
   low:=fun j d' i e' hj hi hle hne hp=>?_},⟨[],by simp⟩,by simp⟩
  ·rcases List.mem_append.1 hx with hm|hm
   ·obtain ⟨h1,h2,h3⟩:=h.stl x hm
    refine ⟨h1,h2,?_⟩
    rcases h3 with h3|⟨h3,h4⟩
    ·exact .inl h3
    ·exact .inr ⟨h3,List.mem_append.2 (.inl h4)⟩
   ·rw[List.mem_singleton.1 hm]
    exact ⟨hdl,hlt,.inr ⟨rfl,by simp⟩⟩
  ·obtain ⟨h1,s,h2,h3⟩:=h.low j d' i e' hj hi hle hne hp
   exact ⟨h1,s,List.mem_append.2 (.inl h2),h3⟩
 rw[if_neg hr] at hst
 by_cases hk1:kind=1
 ·rw[if_pos hk1] at hst;cases hst
 rw[if_neg hk1] at hst
 obtain ⟨i,f,h1,h2,h3,h4⟩:=zGa h hd kind hs
 rw[h1,Int.toNat_natCast] at hst
 cases hp:putP q st.1 i e.to.toNat with
 | error c=>rw[hp] at hst;cases hst
 | ok T=>
   rw[hp] at hst
   cases hst
   obtain ⟨e1,e2,e3,e4,e5,e6⟩:=zDw hm hn he
   obtain ⟨g1,g2⟩:=zMy h hd hs e6 (node:=e.to.toNat) (by omega) (by omega) e4 hq hqd h2 h3 h4 hp
   exact ⟨g2,⟨_,g1⟩,by simp⟩
def zCE (q:PlIn) (n:Node) (kind k:Nat) (done:List ByteArray):Prop:=∀ s∈done,∃ (j:Nat) (e:Edge),n.edges[j]?=some e∧e.label=s∧(kindP q n e<kind∨(kindP q n e=kind∧j<k))
theorem zCE.more {q:PlIn} {n:Node} {kind k:Nat} {done:List ByteArray} (h:zCE q n kind k done) {k':Nat} (hk:k≤k'):zCE q n kind k' done:=fun s hs=>by
 obtain ⟨j,e,h1,h2,h3⟩:=h s hs
 exact ⟨j,e,h1,h2,by omega⟩
theorem zCE.turn {q:PlIn} {n:Node} {kind k:Nat} {done:List ByteArray} (h:zCE q n kind k done):zCE q n (kind+1) 0 done:=fun s hs=>by
 obtain ⟨j,e,h1,h2,h3⟩:=h s hs
 exact ⟨j,e,h1,h2,by omega⟩
theorem zCE.not {q:PlIn} {n:Node} {kind k:Nat} {done:List ByteArray} (h:zCE q n kind k done) (hn:(zAF n.edges).Nodup) {e:Edge} (he:n.edges[k]?=some e) (hk:kindP q n e=kind):e.label∉done:=fun hm=>by
 obtain ⟨j,e',h1,h2,h3⟩:=h _ hm
 obtain ⟨hj,ej⟩:=gS.1 h1
 obtain ⟨hk',ek⟩:=gS.1 he
 have hjk:j=k:=by
  have h5:(zAF n.edges)[j]'(by unfold zAF;rw[List.length_map];exact hj)=(zAF n.edges)[k]'(by unfold zAF;rw[List.length_map];exact hk'):=by
   simp only[zAF,List.getElem_map,ej,ek,h2]
  exact (List.getElem_inj hn).1 h5
 subst hjk
 rw[h1] at he
 cases he
 omega
theorem zCE.step {q:PlIn} {n:Node} {kind k:Nat} {done:List ByteArray} (h:zCE q n kind k done) {e:Edge} (he:n.edges[k]?=some e) (hk:kindP q n e=kind):zCE q n kind (k+1) (done++[e.label]):=fun s hs=>by
 rcases List.mem_append.1 hs with hs|hs
 ·obtain ⟨j,e',h1,h2,h3⟩:=h s hs
  exact ⟨j,e',h1,h2,by omega⟩
 ·exact ⟨k,e,he,(List.mem_singleton.1 hs).symm,.inr ⟨hk,by omega⟩⟩
theorem zH2 (q:PlIn) (n:Node) (e:Edge):1≤kindP q n e∧kindP q n e≤3:=by
 unfold kindP
 split
 ·decide
 ·split<;>decide
theorem zCb (q:PlIn) (at_:Nat) (n:Node) (kind:Nat) {l:List Edge} {k:Nat} {e:Edge} (h:l[k]?=some e) (st:PlSt):zBF q at_ n kind (l.drop k) st=if kindP q n e=kind then (match stepE q at_ kind e st with
  | .error c=>.error c
  | .ok st'=>zBF q at_ n kind (l.drop (k+1)) st') else zBF q at_ n kind (l.drop (k+1)) st:=by
 obtain ⟨hk,e'⟩:=gS.1 h
 rw[dC hk,e',zBF]<;>rfl
def MinI (idx:Nat→Int) (P:Nat→Prop) (lo:Nat) (r:Int):Prop:=(r=-1∧∀ k,lo≤k→¬P k)∨∃ k,lo≤k∧P k∧r=idx k∧∀ k',lo≤k'→P k'→k≤k'
theorem MinI.skip {idx:Nat→Int} {P:Nat→Prop} {lo:Nat} {r:Int} (h:MinI idx P (lo+1) r) (hn:¬P lo):MinI idx P lo r:=by
 rcases h with ⟨h1,h2⟩|⟨k,h1,h2,h3,h4⟩
 ·refine .inl ⟨h1,fun k hk hp=>?_⟩
  by_cases e:k=lo
  ·rw[e] at hp;exact hn hp
  ·exact h2 k (by omega) hp
 ·refine .inr ⟨k,by omega,h2,h3,fun k' hk' hp=>?_⟩
  by_cases e:k'=lo
  ·rw[e] at hp;exact absurd hp hn
  ·exact h4 k' (by omega) hp
theorem MinI.all {idx:Nat→Int} {P:Nat→Prop} {lo:Nat} {r:Int} (h:MinI idx P (lo+1) r) (hn:∀ k,k≤lo→¬P k):MinI idx P 0 r:=by
 rcases h with ⟨h1,h2⟩|⟨k,h1,h2,h3,h4⟩
 ·refine .inl ⟨h1,fun k _ hp=>?_⟩
  rcases Nat.lt_or_ge lo k with e|e
  ·exact h2 k e hp
  ·exact hn k e hp
 ·refine .inr ⟨k,by omega,h2,h3,fun k' _ hp=>?_⟩
  rcases Nat.lt_or_ge lo k' with e|e
  ·exact h4 k' e hp
  ·exact absurd hp (hn k' e)
theorem MinI.here {idx:Nat→Int} {P:Nat→Prop} {lo:Nat} (h:P lo):MinI idx P lo (idx lo):=.inr ⟨lo,nR _,h,rfl,fun k' hk' _=>hk'⟩
section
variable (T:List Dir) (S:List Stl) (old:Option (List Dir)) (path:List ByteArray) (s:ByteArray) (x:Pack)
noncomputable def idxK (k:Nat):Int:=findI T (path.take k)
def zKr (k:Nat):Prop:=∀ k',k≤k'→k'≤path.length→findI T (path.take k'++[s])<0
def zCO (k:Nat):Prop:=k≤path.length∧zKr T path s k∧zBQ T S (idxK T path k).toNat s=false
noncomputable def zDT (k:Nat):Bool:=zAk old (path.take k++[s]) x
def zGE (k:Nat):Prop:=zCO T S path s k∧zDT old path s x k=true
end
theorem zJw (T:List Dir) (S:List Stl) (old:Option (List Dir)) (path:List ByteArray) (s:ByteArray) (x:Pack):∀ (k:Nat) (b l:Int),k≤path.length+1→zKr T path s k →
  MinI (idxK T path) (zCO T S path s) k b→MinI (idxK T path) (zGE T S old path s x) k l →
  MinI (idxK T path) (zCO T S path s) 0 (zAv T S old path s x k (b,l)).1∧MinI (idxK T path) (zGE T S old path s x) 0 (zAv T S old path s x k (b,l)).2:=by
 intro k
 induction k with
 | zero=>intro b l _ _ hb hl;exact ⟨hb,hl⟩
 | succ k ih=>
   intro b l hk hc hb hl
   rw[zAv]
   by_cases h1:0≤findI T (path.take k++[s])
   ·rw[if_pos h1]
    have hno:∀ k',k'≤k→¬zCO T S path s k':=fun k' hk' hv=>by
     have:=hv.2.1 k hk' (by omega)
     omega
    exact ⟨hb.all hno,hl.all fun k' hk' hv=>hno k' hk' hv.1⟩
   ·rw[if_neg h1]
    have hc':zKr T path s k:=fun k' h2 h3=>by
     by_cases e:k'=k
     ·rw[e];omega
     ·exact hc k' (by omega) h3
    by_cases h2:zBQ T S (findI T (path.take k)).toNat s=true
    ·rw[if_pos h2]
     have hno:¬zCO T S path s k:=fun hv=>by
      have:=hv.2.2
      unfold idxK at this
      rw[h2] at this;cases this
     exact ih b l (by omega) hc' (hb.skip hno) (hl.skip fun hv=>hno hv.1)
    ·rw[if_neg h2]
     have hv:zCO T S path s k:=⟨by omega,hc',by unfold idxK;exact Bool.eq_false_iff.2 h2⟩
     refine ih _ _ (by omega) hc' (MinI.here hv) ?_
     by_cases h3:zAk old (path.take k++[s]) x=true
     ·rw[if_pos h3];exact MinI.here (P:=zGE T S old path s x) ⟨hv,h3⟩
     ·rw[if_neg h3];exact hl.skip fun hv=>h3 hv.2
theorem zLF (T:List Dir) (S:List Stl) (old:Option (List Dir)) (path:List ByteArray) (s:ByteArray) (x:Pack) (hpos:∀ k,k≤path.length→0≤idxK T path k) :
  (spotI T S old path s x=-1∧∀ k,¬zCO T S path s k)∨∃ k,zCO T S path s k∧spotI T S old path s x=idxK T path k ∧
    ∀ k',zCO T S path s k'→(zDT old path s x k'=true→zDT old path s x k=true)∧(zDT old path s x k'=zDT old path s x k→k≤k'):=by
 have hno:∀ k,path.length+1≤k→¬zCO T S path s k:=fun k hk hv=>by have:=hv.1;omega
 obtain ⟨h1,h2⟩:=zJw T S old path s x (path.length+1) (-1) (-1) (nR _) (fun k' h1 h2=>by omega) (.inl ⟨rfl,hno⟩) (.inl ⟨rfl,fun k hk hv=>hno k hk hv.1⟩)
 unfold spotI pickI
 generalize zAv T S old path s x (path.length+1) (-1,-1)=r at *
 obtain ⟨b,l⟩:=r
 simp only at h1 h2 ⊢
 have none_of:(∀ k,0≤k→¬zGE T S old path s x k)→(b=-1∧∀ k,¬zCO T S path s k)∨∃ k,zCO T S path s k∧b=idxK T path k ∧
   ∀ k',zCO T S path s k'→(zDT old path s x k'=true→zDT old path s x k=true)∧(zDT old path s x k'=zDT old path s x k→k≤k'):=fun hn=>by
  rcases h1 with ⟨h3,h4⟩|⟨k,_,h3,h4,h5⟩
  ·exact .inl ⟨h3,fun k=>h4 k (nZ _)⟩
  ·exact .inr ⟨k,h3,h4,fun k' hk'=>⟨fun hl=>absurd ⟨hk',hl⟩ (hn k' (nZ _)),fun _=>h5 k' (nZ _) hk'⟩⟩
 rcases h2 with ⟨h3,h4⟩|⟨k,_,h3,h4,h5⟩
 ·rw[if_neg (by omega)];exact none_of h4
 ·have h0:0≤l:=by rw[h4];exact hpos k h3.1.1
  rw[if_pos h0]
  exact .inr ⟨k,h3.1,h4,fun k' hk'=>⟨fun _=>h3.2,fun e=>h5 k' (nZ _) ⟨hk',by rw[e];exact h3.2⟩⟩⟩
def BestR (T:List Dir) (cand liked:Nat→Bool) (len:Nat→Nat) (m:Nat) (r:Int×Bool):Prop:=
 (r=(-1,false)∧∀ i,i<m→cand i=false)∨∃ i:Nat,i<m∧cand i=true∧r=((i:Int),liked i)∧∀ c,c<m→cand c=true→(liked c=true→liked i=true)∧(liked c=liked i→len i≤len c)
theorem zE6 (T:List Dir) (S:List Stl) (old:Option (List Dir)) (from_:Nat) (s:ByteArray) (x:Pack):∀ m,BestR T (fun i=>spotD T S i from_ s) (fun i=>zAk old (zAE T i++[s]) x) (fun i=>(zAE T i).length) m (zCi T S old from_ s x m)
 | 0=>.inl ⟨rfl,fun i hi=>absurd hi (Nat.not_lt_zero i)⟩
 | m+1=>by
   have h:=zE6 T S old from_ s x m
   rw[zCi]
   generalize zCi T S old from_ s x m=st at *
   unfold zI7
   simp only
   cases hc:spotD T S m from_ s with
   | false=>
     rw[if_neg (by simp)]
     rcases h with ⟨h1,h2⟩|⟨i,h1,h2,h3,h4⟩
     ·refine .inl ⟨h1,fun i hi=>?_⟩
      by_cases e:i=m
      ·rw[e];exact hc
      ·exact h2 i (by omega)
     ·refine .inr ⟨i,by omega,h2,h3,fun c hcm hcc=>?_⟩
      by_cases e:c=m
      ·rw[e] at hcc;simp only at hcc;rw[hc] at hcc;cases hcc
      ·exact h4 c (by omega) hcc
   | true=>
     simp only[true_and]
     rcases h with ⟨h1,h2⟩|⟨i,h1,h2,h3,h4⟩
     ·subst h1
      have hcond:(zAk old (zAE T m++[s]) x=true∧False=False)∨True:=.inr trivial
      rw[if_pos (by
       cases hl:zAk old (zAE T m++[s]) x
       ·exact .inr ⟨rfl,rfl⟩
       ·exact .inl ⟨rfl,rfl⟩)]
      refine .inr ⟨m,by omega,hc,rfl,fun c hcm hcc=>?_⟩
      by_cases e:c=m
      ·subst e;exact ⟨fun h=>h,fun _=>nR _⟩
      ·have:=h2 c (by omega);simp only at this hcc;rw[this] at hcc;cases hcc
     ·subst h3
      simp only[Int.toNat_natCast]
      have hi0:decide ((i:Int)<0)=false:=decide_eq_false (by omega)
      rw[hi0,Bool.false_or]
      by_cases hcond:(zAk old (zAE T m++[s]) x=true∧zAk old (zAE T i++[s]) x=false)∨(zAk old (zAE T m++[s]) x=zAk old (zAE T i++[s]) x∧decide ((zAE T m).length<(zAE T i).length)=true)
      ·rw[if_pos hcond]
       refine .inr ⟨m,by omega,hc,rfl,fun c hcm hcc=>?_⟩
       by_cases e:c=m
       ·subst e;exact ⟨fun h=>h,fun _=>nR _⟩
       ·have h5:=h4 c (by omega) hcc
        simp only at h5 ⊢
        rcases hcond with ⟨g1,g2⟩|⟨g1,g2⟩
        ·refine ⟨fun _=>g1,fun hh=>?_⟩
         rw[g1] at hh
         have:=h5.1 hh
         rw[g2] at this;cases this
        ·rw[decide_eq_true_eq] at g2
         refine ⟨fun hh=>by rw[g1];exact h5.1 hh,fun hh=>?_⟩
         have:=h5.2 (by rw[hh,g1])
         omega
      ·rw[if_neg hcond]
       refine .inr ⟨i,by omega,h2,rfl,fun c hcm hcc=>?_⟩
       by_cases e:c=m
       ·subst e
        simp only
        refine ⟨fun hh=>?_,fun hh=>?_⟩
        ·cases hl:zAk old (zAE T i++[s]) x with
         | true=>rfl
         | false=>exact absurd (.inl ⟨hh,hl⟩) hcond
        ·rcases Nat.lt_or_ge (zAE T c).length (zAE T i).length with hlt|hge
         ·exact absurd (.inr ⟨hh,decide_eq_true hlt⟩) hcond
         ·exact hge
       ·exact h4 c (by omega) hcc
theorem zFS {q:PlIn} {at_:Nat} {done:List ByteArray} {st:PlSt} (h:PlInv q at_ done st) {j:Nat} {d:Dir} (hd:st.1[j]?=some d) {i:Nat} (hi:i<st.1.length) (s:ByteArray) :
  spotD st.1 st.2 i j s=true↔∃ k,zCO st.1 st.2 d.path s k∧(i:Int)=idxK st.1 d.path k:=by
 have hpi:=zAa hi
 unfold spotD
 rw[zBV hd]
 simp only[Bool.and_eq_true,Bool.not_eq_true',List.all_eq_true,zCZ]
 constructor
 ·rintro ⟨h1,h2,h3⟩
  have h1':(dirAt st.1 i).path<+:d.path:=h1
  have hk:d.path.take (dirAt st.1 i).path.length=(dirAt st.1 i).path:=(List.prefix_iff_eq_take.1 h1').symm
  have hidx:idxK st.1 d.path (dirAt st.1 i).path.length=(i:Int):=by
   unfold idxK;rw[hk];exact zB4 h.apart hpi
  refine ⟨(dirAt st.1 i).path.length,⟨h1'.length_le,fun k' hk1 hk2=>?_,?_⟩,hidx.symm⟩
  ·obtain ⟨i',e,_,_,he,hep⟩:=h.find hd hk2
   have h4:=h2 e (mG he)
   rcases Int.lt_or_le (findI st.1 (d.path.take k'++[s])) 0 with hl|hl
   ·exact hl
   ·exfalso
    have u1:zAl e.path (zAE st.1 i)=true:=by
     rw[zCZ,hep]
     show (dirAt st.1 i).path<+:_
     rw[←hk]
     exact List.take_prefix_take_left hk1
    have u2:zAl d.path e.path=true:=by rw[zCZ,hep];exact List.take_prefix _ _
    rw[u1,u2,hep,decide_eq_true hl] at h4
    cases h4
  ·rw[hidx,Int.toNat_natCast];exact h3
 ·rintro ⟨k,⟨hk,hcl,ht⟩,hik⟩
  obtain ⟨i',e,_,hf,he,hep⟩:=h.find hd hk
  have hii:i=i':=by unfold idxK at hik;omega
  subst hii
  have hpe:zAE st.1 i=d.path.take k:=by rw[zBV he,hep]
  rw[hpe]
  refine ⟨List.take_prefix _ _,fun f hf'=>?_,?_⟩
  ·cases hu1:zAl f.path (d.path.take k) with
   | false=>rfl
   | true=>
     cases hu2:zAl d.path f.path with
     | false=>rfl
     | true=>
       rw[zCZ] at hu1 hu2
       have hfk:f.path=d.path.take f.path.length:=List.prefix_iff_eq_take.1 hu2
       have h1:=hu1.length_le
       rw[List.length_take,Nat.min_eq_left hk] at h1
       have h2:=hcl f.path.length h1 hu2.length_le
       rw[←hfk] at h2
       rw[decide_eq_false (by omega)]
       rfl
  ·rw[←hik,Int.toNat_natCast] at ht;exact ht
theorem zLL {q:PlIn} {at_:Nat} {done:List ByteArray} {st:PlSt} (h:PlInv q at_ done st) {j:Nat} {d:Dir} (hd:st.1[j]?=some d) (old:Option (List Dir)) (s:ByteArray) (x:Pack) :
  bestI st.1 st.2 old j s x=spotI st.1 st.2 old d.path s x:=by
 have hB:=zE6 st.1 st.2 old j s x st.1.length
 have hS:=zLF st.1 st.2 old d.path s x fun k hk=>by
  obtain ⟨i,e,_,h1,_⟩:=h.find hd hk
  unfold idxK;omega
 unfold bestI
 have at_k:∀ k,k≤d.path.length→∃ i:Nat,i<st.1.length∧idxK st.1 d.path k=(i:Int)∧zAE st.1 i=d.path.take k:=fun k hk=>by
  obtain ⟨i,e,_,h1,h2,h3⟩:=h.find hd hk
  exact ⟨i,(gS.1 h2).1,h1,by rw[zBV h2,h3]⟩
 rcases hS with ⟨h1,h2⟩|⟨k,h1,h2,h3⟩
 ·rcases hB with ⟨g1,_⟩|⟨i,g1,g2,g3,_⟩
  ·rw[g1,h1]
  ·obtain ⟨k,hk,_⟩:=(zFS h hd g1 s).1 g2
   exact absurd hk (h2 k)
 ·obtain ⟨i0,hi0,hik,hip⟩:=at_k k h1.1
  have hc0:spotD st.1 st.2 i0 j s=true:=(zFS h hd hi0 s).2 ⟨k,h1,hik.symm⟩
  rcases hB with ⟨_,g2⟩|⟨i,g1,g2,g3,g4⟩
  ·have:=g2 i0 hi0
   simp only at this
   rw[hc0] at this;cases this
  ·rw[g3,h2]
   simp only
   obtain ⟨k',hk',hik'⟩:=(zFS h hd g1 s).1 g2
   obtain ⟨i1,hi1,hik1,hip1⟩:=at_k k' hk'.1
   have hii:i=i1:=by omega
   subst hii
   have e1:=h3 k' hk'
   have e2:=g4 i0 hi0 hc0
   simp only[hip,hip1] at e2
   unfold zDT at e1
   rw[List.length_take,List.length_take,Nat.min_eq_left hk'.1,Nat.min_eq_left h1.1] at e2
   have hl:zAk old (d.path.take k'++[s]) x=zAk old (d.path.take k++[s]) x:=by
    cases ha:zAk old (d.path.take k'++[s]) x<;>cases hb:zAk old (d.path.take k++[s]) x
    ·rfl
    ·have:=e2.1 hb;rw[ha] at this;cases this
    ·have:=e1.1 ha;rw[hb] at this;cases this
    ·rfl
   have hle:=e1.2 hl
   have hge:=e2.2 hl.symm
   have hkk:k=k':=by omega
   rw[hik',hkk]
