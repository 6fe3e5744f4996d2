/- A graph's text as lines, in plain words; what is written is read as it was; two graphs with one text are the same. -/
import Derived.Test.YthbnmehbhpakaaaGreatDoorBk08
import Derived.Test.YthbnmehbhpakaaaGreatDoorBk13
import Derived.Test.YthbnmehbhpakaaaGreatDoorBk11
import Derived.Test.YthbnmehbhpakaaaGreatDoorBk24
import Derived.Test.YthbnmehbhpakaaaGreatDoorBk18
import Derived.Test.YthbnmehbhpakaaaGreatDoorBk16
import Derived.Test.YthbnmehbhpakaaaGreatDoorBk15
import Derived.Deep.RegionLaw
import Derived.Test.YthbnmehbhpakaaaGreatDoorAl
set_option linter.all false
set_option maxHeartbeats 16000000
set_option maxRecDepth 100000
namespace Go.Proofs.YthbnmehbhpakaaaGreatDoor
open Go
def zEf:ByteArray:=⟨#[108,111,99,107]⟩
def rootK:ByteArray:=⟨#[114,111,111,116]⟩
def nodeK:ByteArray:=⟨#[110,111,100,101]⟩
def withK:ByteArray:=⟨#[119,105,116,104]⟩
def toK:ByteArray:=⟨#[116,111]⟩
def Ln (a:ByteArray) (ls:List (List ByteArray)):Prop:=∀ t,zCB (a.data.toList++t)=(zCB t).map ((ls.map fun w=>w.map (·.data.toList))++·)
theorem Ln.nil:Ln ⟨#[]⟩ []:=fun t=>by
 show zCB t=_
 cases zCB t<;>rfl
theorem Ln.append {a b:ByteArray} {x y:List (List ByteArray)} (ha:Ln a x) (hb:Ln b y):Ln (a++b) (x++y):=fun t=>by
 rw[ByteArray.data_append,Array.toList_append,List.append_assoc,ha,hb,Option.map_map,List.map_append]
 congr 1
 funext z
 simp
theorem Ln.done {a:ByteArray} {ls:List (List ByteArray)} (h:Ln a ls):zEC a=some ls:=by
 have h1:=h []
 rw[List.append_nil,show zCB []=some [] from rfl,Option.map_some,List.append_nil] at h1
 unfold zEC
 rw[h1,Option.map_some,List.map_map]
 have e:(fun w:List (List UInt8)=>w.map mkB) ∘ (fun w:List ByteArray=>w.map (·.data.toList))=id:=by
  funext w
  show (w.map (·.data.toList)).map mkB=w
  rw[List.map_map]
  have:mkB ∘ (fun x:ByteArray=>x.data.toList)=id:=by funext x;exact zDh x
  rw[this,List.map_id]
 rw[e,List.map_id]
theorem Ln.one {a w:ByteArray} (hw:GoodB w) (h:a.data.toList=w.data.toList++[10]):Ln a [[w]]:=fun t=>by
 obtain ⟨n1,n2⟩:=zDy hw.2
 rw[h,List.append_assoc,List.singleton_append,zCn n2,zFX (zCS hw.1 hw.2) n1]
 rfl
theorem Ln.three {a u v w:ByteArray} (hu:GoodB u) (hv:GoodB v) (hw:GoodB w) (h:a.data.toList=u.data.toList++32::(v.data.toList++32::(w.data.toList++[10]))):Ln a [[u,v,w]]:=fun t=>by
 obtain ⟨u1,u2⟩:=zDy hu.2
 obtain ⟨v1,v2⟩:=zDy hv.2
 obtain ⟨w1,w2⟩:=zDy hw.2
 have e:a.data.toList++t=(u.data.toList++32::(v.data.toList++32::w.data.toList))++10::t:=by rw[h];simp
 rw[e,zCn (by
  simp only[List.mem_append,List.mem_cons,not_or]
  exact ⟨u2,by decide,v2,by decide,w2⟩)]
 rw[zCl (zCS hu.1 hu.2) u1 (zCl (zCS hv.1 hv.2) v1 (zFX (zCS hw.1 hw.2) w1))]
 rfl
theorem zQq {n:Int} (h0:0≤n) (h1:n≤999):GoodB (itoaB n):=by
 obtain ⟨ha,hd⟩:=zBa h0 h1
 refine ⟨fun e=>?_,fun c hc=>?_⟩
 ·rw[e] at ha
  cases ha
 ·have:=List.all_eq_true.1 hd c hc
  simp only[Bool.and_eq_true,decide_eq_true_eq] at this
  unfold visB
  rw[decide_eq_true (show 33≤c.toNat by omega),decide_eq_true (show c.toNat≤126 by omega)]
  rfl
def zDL (q:Pin):List ByteArray:=[withK,q.name,q.ver.txt]
def toLs (e:Edge):List ByteArray:=[toK,e.label,itoaB e.to]
def headLs (i:Nat) (x:Node):List ByteArray:=if i=0 then [rootK] else [nodeK,x.name,x.ver.txt]
def zHZ (i:Nat) (x:Node):List (List ByteArray):=headLs i x::(x.ctx.map zDL++x.edges.map toLs)
def zBl:Nat→List Node→List (List ByteArray)
 | _,[]=>[]
 | i,x::l=>zHZ i x++zBl (i+1) l
def zIn (l:List Node):List (List ByteArray):=[zEf]::zBl 0 l
theorem zMn:∀ {l:List Pin},(∀ q∈l,nameB q.name=true∧verOk q.ver=true)→Ln (withs l) (l.map zDL)
 | [],_=>Ln.nil
 | q::l,h=>by
   obtain ⟨h1,h2⟩:=h q (by simp)
   rw[withs,List.map_cons,show zDL q::l.map zDL=[zDL q]++l.map zDL from rfl]
   refine Ln.append (Ln.three (u:=withK) (by unfold GoodB;decide) (zFB h1) (zIz h2) ?_) (zMn fun x hx=>h x (by simp[hx]))
   show (withW++q.name++zAH++q.ver.txt++nlB).data.toList=_
   simp[withW,withK,zAH,nlB]
theorem zSF:∀ {l:List Edge},(∀ e∈l,nameB e.label=true∧0≤e.to∧e.to≤999)→Ln (tos l) (l.map toLs)
 | [],_=>Ln.nil
 | e::l,h=>by
   obtain ⟨h1,h2,h3⟩:=h e (by simp)
   rw[tos,List.map_cons,show toLs e::l.map toLs=[toLs e]++l.map toLs from rfl]
   refine Ln.append (Ln.three (u:=toK) (by unfold GoodB;decide) (zFB h1) (zQq h2 h3) ?_) (zSF fun x hx=>h x (by simp[hx]))
   show (toW++e.label++zAH++itoaB e.to++nlB).data.toList=_
   simp[toW,toK,zAH,nlB]
def NodeW (i:Nat) (x:Node):Prop:=(i≠0→nameB x.name=true∧verOk x.ver=true)∧(i=0→x.name=⟨#[]⟩∧x.ver=⟨0,0,0⟩∧x.ctx=[])∧(∀ q∈x.ctx,nameB q.name=true∧verOk q.ver=true)∧(∀ e∈x.edges,nameB e.label=true∧1≤e.to∧e.to≤127)
theorem zMu {many i:Nat} {x:Node} (hm:many≤128) (h1:zFA i x=true) (h2:zC8 many x=true):NodeW i x:=by
 unfold zFA at h1
 unfold zC8 at h2
 simp only[Bool.and_eq_true] at h2
 obtain ⟨⟨⟨hp,he⟩,hv⟩,ht⟩:=h2
 unfold zC4 at hp he
 rw[Bool.and_eq_true] at hp he
 refine ⟨fun hi=>?_,fun hi=>?_,fun q hq=>⟨zB6 hp.1 _ (List.mem_map.2 ⟨q,hq,rfl⟩),List.all_eq_true.1 hv q hq⟩,fun e he'=>⟨zB6 he.1 _ (List.mem_map.2 ⟨e,he',rfl⟩),?_⟩⟩
 ·rw[if_neg hi,Bool.and_eq_true] at h1
  exact h1
 ·rw[if_pos hi] at h1
  simp only[Bool.and_eq_true,decide_eq_true_eq,beq_iff_eq,zeroV] at h1
  obtain ⟨a1,⟨a2,a3,a4⟩,a5⟩:=h1
  refine ⟨?_,?_,List.eq_nil_of_length_eq_zero a5⟩
  ·rw[Go.ByteArray.toList_eq] at a1
   exact zAt a1
  ·cases hx:x.ver
   rw[hx] at a2 a3 a4
   simp only at a2 a3 a4
   rw[a2,a3,a4]
 ·have:=List.all_eq_true.1 ht e he'
  simp only[Bool.and_eq_true,decide_eq_true_eq] at this
  omega
theorem zG3:∀ {l:List Node} {many i:Nat},zCP many i l=true→∀ j x,l[j]?=some x→zFA (i+j) x=true∧zC8 many x=true
 | [],_,_,_,j,x,hx=>by cases hx
 | y::l,many,i,h,0,x,hx=>by
   rw[zCP,Bool.and_eq_true,Bool.and_eq_true] at h
   cases hx
   exact h.1
 | y::l,many,i,h,j+1,x,hx=>by
   rw[zCP,Bool.and_eq_true] at h
   have:=zG3 h.2 j x hx
   rwa [show i+1+j=i+(j+1) from by omega] at this
theorem zI1 {l:List Node} (h:lockB l=true):∀ j x,l[j]?=some x→NodeW j x:=fun j x hx=>by
 unfold lockB at h
 simp only[Bool.and_eq_true,decide_eq_true_eq] at h
 obtain ⟨h1,h2⟩:=zG3 h.2 j x hx
 rw[Nat.zero_add] at h1
 exact zMu h.1.2 h1 h2
theorem zRX {i:Nat} {x:Node} (h:NodeW i x):Ln (nodeT i x) (zHZ i x):=by
 unfold nodeT zHZ
 rw[show headLs i x::(x.ctx.map zDL++x.edges.map toLs)=([headLs i x]++x.ctx.map zDL)++x.edges.map toLs from by simp]
 refine Ln.append (Ln.append ?_ (zMn h.2.2.1)) (zSF fun e he=>⟨(h.2.2.2 e he).1,by have:=(h.2.2.2 e he).2;omega,by have:=(h.2.2.2 e he).2;omega⟩)
 unfold nodeL headLs
 by_cases hi:i=0
 ·rw[if_pos hi,if_pos hi]
  exact Ln.one (by unfold GoodB;decide) (by decide +kernel)
 ·rw[if_neg hi,if_neg hi]
  obtain ⟨h1,h2⟩:=h.1 hi
  refine Ln.three (u:=nodeK) (by unfold GoodB;decide) (zFB h1) (zIz h2) ?_
  show (nodeW++x.name++zAH++x.ver.txt++nlB).data.toList=_
  simp[nodeW,nodeK,zAH,nlB]
theorem zLI:∀ {l:List Node} {i:Nat},(∀ j x,l[j]?=some x→NodeW (i+j) x)→Ln (zBQ i l) (zBl i l)
 | [],_,_=>Ln.nil
 | x::l,i,h=>by
   rw[zBQ,zBl]
   exact Ln.append (zRX (show NodeW i x from h 0 x rfl)) (zLI fun j y hy=>by
    have:=h (j+1) y hy
    rwa [show i+(j+1)=i+1+j from by omega] at this)
theorem zE2 {l:List Node} (h:lockB l=true):Ln (zAo l) (zIn l):=by
 unfold zAo zIn
 rw[show [zEf]::zBl 0 l=[[zEf]]++zBl 0 l from rfl]
 exact Ln.append (Ln.one (by unfold GoodB;decide) (by decide +kernel)) (zLI fun j x hx=>by rw[Nat.zero_add];exact zI1 h j x hx)
def node0:Node:=⟨⟨#[]⟩,⟨0,0,0⟩,[],[]⟩
def zGd (f:Node→Node):List Node→List Node
 | []=>[]
 | [x]=>[f x]
 | x::y::l=>x::zGd f (y::l)
theorem zEz (f:Node→Node):∀ (l:List Node) (x:Node),zGd f (l++[x])=l++[f x]
 | [],x=>rfl
 | [y],x=>rfl
 | y::z::l,x=>by
   show y::zGd f ((z::l)++[x])=_
   rw[zEz f (z::l) x]
   rfl
noncomputable def numQ (s:ByteArray):Option Int:=match Lib.atoiAll s.data.toList with
 | .ok n=>if 0≤n∧n≤128∧itoaB n=s then some n else none
 | _=>none
theorem zLU {n:Int} (h0:0≤n) (h1:n≤128):numQ (itoaB n)=some n:=by
 unfold numQ
 rw[(zBa h0 (by omega)).1]
 exact if_pos ⟨h0,h1,rfl⟩
def verZ:Ver:=⟨0,0,0⟩
noncomputable def zLP (b c:ByteArray) (x:Node):Node:={ x with ctx:=x.ctx++[⟨b,(zAS c).getD verZ⟩]}
noncomputable def zGx (b c:ByteArray) (x:Node):Node:={ x with edges:=x.edges++[⟨b,(numQ c).getD 0⟩]}
noncomputable def zFn (l:List Node):List ByteArray→Option (List Node)
 | []=>some l
 | a::r=>if a=rootK then some (l++[node0]) else match r with
   | [b,c]=>some (if a=nodeK then l++[⟨b,(zAS c).getD verZ,[],[]⟩] else if a=withK then zGd (zLP b c) l else zGd (zGx b c) l)
   | _=>none
noncomputable def docGo:List (List ByteArray)→List Node→Option (List Node)
 | [],l=>some l
 | w::ws,l=>match zFn l w with
   | none=>none
   | some l'=>docGo ws l'
theorem zDl (l:List Node) (a b c:ByteArray):zFn l [a,b,c]=if a=rootK then some (l++[node0]) else some (if a=nodeK then l++[⟨b,(zAS c).getD verZ,[],[]⟩] else if a=withK then zGd (zLP b c) l else zGd (zGx b c) l):=rfl
theorem zD3:∀ (a b:List (List ByteArray)) (l:List Node),docGo (a++b) l=match docGo a l with
  | none=>none
  | some l'=>docGo b l'
 | [],b,l=>rfl
 | w::a,b,l=>by
   rw[List.cons_append,docGo,docGo]
   cases zFn l w with
   | none=>rfl
   | some l'=>exact zD3 a b l'
theorem zHF:∀ (qs:List Pin) (pre:List Node) (x:Node),(∀ q∈qs,verOk q.ver=true)→docGo (qs.map zDL) (pre++[x])=some (pre++[{ x with ctx:=x.ctx++qs}])
 | [],pre,x,_=>by
   rw[List.map_nil,docGo,List.append_nil]
 | q::qs,pre,x,h=>by
   have hs:zFn (pre++[x]) (zDL q)=some (pre++[{ x with ctx:=x.ctx++[q]}]):=by
    unfold zDL
    rw[zDl,if_neg (by decide),if_neg (by decide),if_pos rfl,zEz]
    unfold zLP
    rw[zBq (v:=q.ver) (h q (by simp)) rfl]
    rfl
   rw[List.map_cons,docGo,hs]
   simp only
   rw[zHF qs pre _ fun y hy=>h y (by simp[hy])]
   simp
theorem zKD:∀ (es:List Edge) (pre:List Node) (x:Node),(∀ e∈es,1≤e.to∧e.to≤127)→docGo (es.map toLs) (pre++[x])=some (pre++[{ x with edges:=x.edges++es}])
 | [],pre,x,_=>by
   rw[List.map_nil,docGo,List.append_nil]
 | e::es,pre,x,h=>by
   have hs:zFn (pre++[x]) (toLs e)=some (pre++[{ x with edges:=x.edges++[e]}]):=by
    unfold toLs
    rw[zDl,if_neg (by decide),if_neg (by decide),if_neg (by decide),zEz]
    unfold zGx
    have:=h e (by simp)
    rw[zLU (by omega) (by omega)]
    rfl
   rw[List.map_cons,docGo,hs]
   simp only
   rw[zKD es pre _ fun y hy=>h y (by simp[hy])]
   simp
theorem zOX {i:Nat} {x:Node} (h:NodeW i x) (pre:List Node):docGo (zHZ i x) pre=some (pre++[x]):=by
 have hh:zFn pre (headLs i x)=some (pre++[⟨x.name,x.ver,[],[]⟩]):=by
  unfold headLs
  by_cases hi:i=0
  ·rw[if_pos hi]
   obtain ⟨h1,h2,_⟩:=h.2.1 hi
   rw[h1,h2]
   rfl
  ·rw[if_neg hi]
   rw[zDl,if_neg (by decide),if_pos rfl,zBq (v:=x.ver) (h.1 hi).2 rfl]
   rfl
 rw[zHZ,docGo,hh]
 simp only
 rw[zD3,zHF x.ctx pre _ fun q hq=>(h.2.2.1 q hq).2]
 simp only
 rw[zKD x.edges pre _ fun e he=>(h.2.2.2 e he).2]
 cases x
 simp
theorem zHc:∀ {l:List Node} {i:Nat},(∀ j x,l[j]?=some x→NodeW (i+j) x)→∀ pre,docGo (zBl i l) pre=some (pre++l)
 | [],_,_,pre=>by rw[zBl,docGo,List.append_nil]
 | x::l,i,h,pre=>by
   rw[zBl,zD3,zOX (show NodeW i x from h 0 x rfl)]
   simp only
   rw[zHc (l:=l) (i:=i+1) fun j y hy=>by
    have:=h (j+1) y hy
    rwa [show i+(j+1)=i+1+j from by omega] at this]
   simp
theorem zHT {l:List Node} (h:lockB l=true):docGo (zIn l).tail []=some l:=by
 show docGo (zBl 0 l) []=_
 rw[zHc fun j x hx=>by rw[Nat.zero_add];exact zI1 h j x hx]
 rfl
theorem zKj {a b:List Node} (ha:lockB a=true) (hb:lockB b=true) (h:zAo a=zAo b):a=b:=by
 have h1:=(zE2 ha).done
 have h2:=(zE2 hb).done
 rw[h,h2] at h1
 have h3:=zHT ha
 rw[←Option.some.inj h1,zHT hb] at h3
 exact (Option.some.inj h3).symm
end Go.Proofs.YthbnmehbhpakaaaGreatDoor
namespace Go.Proofs.YthbnmehbhpakaaaGreatDoor
open Go.Rows Go.RowKit Go.Shelf Go.Sort
theorem zSb {s:ByteArray} {n:Int} (h:Lib.atoiAll s.data.toList=.ok n):numQ s=if 0≤n∧n≤128∧itoaB n=s then some n else none:=by
 unfold numQ
 rw[h]
theorem zSz {s:ByteArray} (h:∀ n,Lib.atoiAll s.data.toList≠.ok n):numQ s=none:=by
 unfold numQ
 split
 ·rename_i n hn
  exact absurd hn (h n)
 ·rfl
theorem zIF (s:ByteArray) (w:World) (hv:Vok w) (hs:s.size≤2000000) :
  Calls Tryz.prog 98 #[.string s,.int .i64 128] w fun e w'=>e=.returned (.tuple #[.int .i64 ((numQ s).getD 0),.bool (numQ s).isSome])∧Below w.heap.size w w':=by
 have Hv:=cH hv
 have Hat:=cH (zNO s w hv hs)
 have Hok:Hid (∀ n,Lib.atoiAll s.data.toList=.ok n→numQ s=if 0≤n∧n≤128∧itoaB n=s then some n else none):=fun n h=>zSb h
 have Hno:Hid ((∀ n,Lib.atoiAll s.data.toList≠.ok n)→numQ s=none):=fun h=>zSz h
 clear hv hs
 generalize numQ s=R at *
 go_enter Tryz.func98,Tryz.ntmps98
 go_wp2_with fail
 refine Hat.out.mono ?_
 rintro e w1 ⟨hres,hb1⟩
 have HB1:=cH hb1
 clear hb1 Hat
 rcases hres with ⟨x,rfl,hx1,hx2⟩|⟨x,et,ep,rfl,hno⟩
 ·have hq:=Hok.out x hx1
  have Hit:=cH (zEO x hx2 w1 (Hv.out.below HB1.out).tab)
  clear hx1 hx2 Hv Hok Hno
  by_cases h1:x<0
  ·have hR:R=none:=by rw[hq,if_neg (by omega)]
   subst hR
   clear hq Hit
   go_wp2_with fail
   go_ret2
   exact ⟨rfl,HB1.out⟩
  by_cases h2:128<x
  ·have hR:R=none:=by rw[hq,if_neg (by omega)]
   subst hR
   clear hq Hit
   go_wp2_with fail
   go_ret2
   exact ⟨rfl,HB1.out⟩
  obtain ⟨ix,hix⟩:∃ ix,ix=itoaB x:=⟨_,rfl⟩
  rw[←hix] at Hit hq
  clear hix
  go_wp2_with fail
  refine Hit.out.mono ?_
  rintro e w2 ⟨rfl,hb2⟩
  have HB2:=cH (bot HB1.out hb2)
  clear hb2 Hit HB1
  by_cases h3:ix=s
  ·have hR:R=some x:=by rw[hq,if_pos ⟨by omega,by omega,h3⟩]
   have hbe:(ix.toList != s.toList)=false:=by rw[h3];simp
   have hbe2:(ix.toList==s.toList)=true:=by rw[h3];simp
   subst hR
   clear hq h3
   go_wp2_with fail
   go_ret2
   exact ⟨rfl,HB2.out⟩
  ·have hR:R=none:=by rw[hq,if_neg (fun h=>h3 h.2.2)]
   have hne:¬ix.toList=s.toList:=fun e=>h3 (zBF (by rw[Go.ByteArray.toList_eq,Go.ByteArray.toList_eq] at e;exact e))
   have hbe:(ix.toList != s.toList)=true:=by simpa using hne
   have hbe2:(ix.toList==s.toList)=false:=by simpa using hne
   subst hR
   clear hq h3
   go_wp2_with fail
   go_ret2
   exact ⟨rfl,HB2.out⟩
 ·have hR:=Hno.out hno
  subst hR
  clear hno Hv Hok Hno
  go_wp2_with fail
  go_ret2
  exact ⟨rfl,HB1.out⟩
end Go.Proofs.YthbnmehbhpakaaaGreatDoor
namespace Go.Proofs.YthbnmehbhpakaaaGreatDoor
open Go
noncomputable def zEx (s:List Node×Node) (a b c:ByteArray):Option (List Node×Node):=
 if a=nodeK∧(zAS c).isSome=true then some (s.1++[s.2],⟨b,(zAS c).getD verZ,[],[]⟩)
 else if a=withK∧(zAS c).isSome=true∧s.2.edges.length=0 then some (s.1,zLP b c s.2)
 else if a=toK∧(numQ c).isSome=true then some (s.1,zGx b c s.2)
 else none
noncomputable def zDw (s:List Node×Node):List ByteArray→Option (List Node×Node)
 | [a,b,c]=>zEx s a b c
 | _=>none
noncomputable def lkGo:List (List ByteArray)→List Node×Node→Option (List Node×Node)
 | [],s=>some s
 | w::ws,s=>match zDw s w with
   | none=>none
   | some s'=>lkGo ws s'
def zEl:List (List ByteArray)→Option (List (List ByteArray))
 | a::b::r=>if a=[zEf]∧b=[rootK] then some r else none
 | _=>none
noncomputable def lkEnd:Option (List Node×Node)→List Node×Int
 | none=>([],22)
 | some s=>if lockB (s.1++[s.2])=true then (s.1++[s.2],0) else ([],22)
noncomputable def lkL (L:List (List ByteArray)):List Node×Int:=match zEl L with
 | none=>([],22)
 | some r=>lkEnd (lkGo r ([],node0))
noncomputable def lkQ (t:ByteArray):List Node×Int:=if (scanQ 1048576 t).2=0 then lkL (scanQ 1048576 t).1 else ([],(scanQ 1048576 t).2)
theorem zHN {s s':List Node×Node} {w:List ByteArray} (h:zDw s w=some s') (ws:List (List ByteArray)):lkGo (w::ws) s=lkGo ws s':=by rw[lkGo,h]
theorem zIi:∀ (qs:List Pin) (pre:List Node) (x:Node) (r:List (List ByteArray)),(∀ q∈qs,verOk q.ver=true)→x.edges=[]→lkGo (qs.map zDL++r) (pre,x)=lkGo r (pre,{ x with ctx:=x.ctx++qs})
 | [],pre,x,r,_,_=>by
   rw[List.map_nil,List.nil_append,List.append_nil]
 | q::qs,pre,x,r,h,hx=>by
   have hs:zDw (pre,x) (zDL q)=some (pre,{ x with ctx:=x.ctx++[q]}):=by
    have hv:zAS q.ver.txt=some q.ver:=zBq (v:=q.ver) (h q (by simp)) rfl
    show zEx (pre,x) withK q.name q.ver.txt=_
    unfold zEx
    rw[if_neg (fun e=>absurd e.1 (by decide)),if_pos ⟨rfl,by rw[hv];rfl,by show x.edges.length=0;rw[hx];rfl⟩]
    unfold zLP
    rw[hv]
    rfl
   rw[List.map_cons,List.cons_append,zHN hs,zIi qs pre { x with ctx:=x.ctx++[q]} r (fun y hy=>h y (by simp[hy])) hx]
   simp
theorem zI0:∀ (es:List Edge) (pre:List Node) (x:Node) (r:List (List ByteArray)),(∀ e∈es,1≤e.to∧e.to≤127)→lkGo (es.map toLs++r) (pre,x)=lkGo r (pre,{ x with edges:=x.edges++es})
 | [],pre,x,r,_=>by
   rw[List.map_nil,List.nil_append,List.append_nil]
 | e::es,pre,x,r,h=>by
   have hs:zDw (pre,x) (toLs e)=some (pre,{ x with edges:=x.edges++[e]}):=by
    have he:=h e (by simp)
    have hn:numQ (itoaB e.to)=some e.to:=zLU (by omega) (by omega)
    show zEx (pre,x) toK e.label (itoaB e.to)=_
    unfold zEx
    rw[if_neg (fun e=>absurd e.1 (by decide)),if_neg (fun e=>absurd e.1 (by decide)),if_pos ⟨rfl,by rw[hn];rfl⟩]
    unfold zGx
    rw[hn]
    rfl
   rw[List.map_cons,List.cons_append,zHN hs,zI0 es pre { x with edges:=x.edges++[e]} r fun y hy=>h y (by simp[hy])]
   simp
theorem zIc:∀ {l:List Node} {i:Nat},(∀ j x,l[j]?=some x→NodeW (i+1+j) x)→∀ pre x,lkGo (zBl (i+1) l) (pre,x)=lkGo [] ((pre++x::l).dropLast,(x::l).getLast (by simp))
 | [],_,_,pre,x=>by
   rw[zBl]
   simp
 | y::l,i,h,pre,x=>by
   have hy:=h 0 y rfl
   rw[Nat.add_zero] at hy
   have hv:zAS y.ver.txt=some y.ver:=zBq (v:=y.ver) (hy.1 (by omega)).2 rfl
   have hs:zDw (pre,x) (headLs (i+1) y)=some (pre++[x],⟨y.name,y.ver,[],[]⟩):=by
    unfold headLs
    rw[if_neg (by omega)]
    show zEx (pre,x) nodeK y.name y.ver.txt=_
    unfold zEx
    rw[if_pos ⟨rfl,by rw[hv];rfl⟩,hv]
    rfl
   rw[zBl,zHZ,List.cons_append,zHN hs,List.append_assoc,zIi y.ctx _ _ _ (fun q hq=>(hy.2.2.1 q hq).2) rfl,zI0 y.edges _ _ _ fun e he=>(hy.2.2.2 e he).2]
   rw[zIc (l:=l) (i:=i+1) fun j z hz=>by
    have:=h (j+1) z hz
    rwa [show i+1+(j+1)=i+1+1+j from by omega] at this]
   cases y
   simp
theorem zFP {a b:List ByteArray} {r:List (List ByteArray)} (h:¬(a=[zEf]∧b=[rootK])):zEl (a::b::r)=none:=by
 show (if a=[zEf]∧b=[rootK] then some r else none)=none
 rw[if_neg h]
theorem zIS (r:List (List ByteArray)):zEl ([zEf]::[rootK]::r)=some r:=by
 show (if [zEf]=[zEf]∧[rootK]=[rootK] then some r else none)=some r
 rw[if_pos ⟨rfl,rfl⟩]
theorem zSN {l:List Node} (h:lockB l=true):lkQ (zAo l)=(l,0):=by
 have hz:=zEq h
 have hW:=zI1 h
 have hs:scanQ 1048576 (zAo l)=(zIn l,0):=by
  unfold scanQ
  rw[if_neg (by omega),(zE2 h).done]
 cases l with
 | nil=>simp[lockB] at h
 | cons x l=>
   have h0:=hW 0 x rfl
   obtain ⟨e1,e2,e3⟩:=h0.2.1 rfl
   have hd:zEl (zIn (x::l))=some (x.edges.map toLs++zBl 1 l):=by
    unfold zIn
    rw[zBl,zHZ,e3]
    unfold headLs
    rw[if_pos rfl,List.map_nil,List.nil_append,List.cons_append]
    exact zIS _
   have hg:lkGo (x.edges.map toLs++zBl 1 l) ([],node0)=some ((x::l).dropLast,(x::l).getLast (by simp)):=by
    rw[zI0 x.edges _ _ _ fun e he=>(h0.2.2.2 e he).2]
    rw[zIc (l:=l) (i:=0) fun j z hz=>by
     have:=hW (j+1) z hz
     rwa [show j+1=0+1+j from by omega] at this]
    have hx:({ node0 with edges:=node0.edges++x.edges}:Node)=x:=by
     cases x
     simp only at e1 e2 e3
     subst e1 e2 e3
     rfl
    rw[hx]
    rfl
   unfold lkQ
   rw[hs,if_pos rfl]
   unfold lkL
   rw[hd]
   simp only
   rw[hg]
   unfold lkEnd
   simp only
   rw[List.dropLast_concat_getLast,if_pos h]
theorem zSr {t:ByteArray} {L:List (List ByteArray)} {en:Int} (h:scanQ 1048576 t=(L,en)) (he:en≠0):lkQ t=([],en):=by unfold lkQ;rw[h,if_neg he]
theorem zRk {t:ByteArray} {L:List (List ByteArray)} (h:scanQ 1048576 t=(L,0)) (h2:zEl L=none):lkQ t=([],22):=by unfold lkQ;rw[h,if_pos rfl];unfold lkL;rw[h2]
theorem zTJ {t:ByteArray} {L r:List (List ByteArray)} (h:scanQ 1048576 t=(L,0)) (h2:zEl L=some r):lkQ t=lkEnd (lkGo r ([],node0)):=by unfold lkQ;rw[h,if_pos rfl];unfold lkL;rw[h2]
theorem zP2 {rest:List (List ByteArray)} {k:Nat} (hk:k<rest.length) {s:List Node×Node} (h:zDw s rest[k]=none):lkEnd (lkGo (rest.drop k) s)=([],22):=by
 rw[dC hk,lkGo,h]
 rfl
theorem zO7 {rest:List (List ByteArray)} {k:Nat} (hk:k<rest.length) {s s':List Node×Node} (h:zDw s rest[k]=some s'):lkEnd (lkGo (rest.drop k) s)=lkEnd (lkGo (rest.drop (k+1)) s'):=by
 rw[dC hk,lkGo,h]
theorem zOY {s:List Node×Node} {ws:List ByteArray} (h:ws.length≠3):zDw s ws=none:=by
 match ws,h with
 | [],_=>rfl
 | [_],_=>rfl
 | [_,_],_=>rfl
 | [a,b,c],h=>exact absurd rfl h
 | _::_::_::_::_,_=>rfl
theorem zRD {rest:List (List ByteArray)} {k:Nat} (hk:rest.length≤k) (s:List Node×Node):lkEnd (lkGo (rest.drop k) s)=if lockB (s.1++[s.2])=true then (s.1++[s.2],0) else ([],22):=by
 rw[dN hk,lkGo]
 rfl
end Go.Proofs.YthbnmehbhpakaaaGreatDoor
namespace Go.Proofs.YthbnmehbhpakaaaGreatDoor
open Go.Rows Go.RowKit Go.Shelf Go.Sort
theorem zQT:Elt Tryz.prog 63 6 88:=Elt.mk' (z:=.agg #[.string ⟨#[]⟩,.int .i64 0,.int .i64 0,.int .i64 0,.slice none 0 0,.slice none 0 0]) (by kernel_rfl) rfl (by decide)
theorem zR5:Elt Tryz.prog 107 4 40:=Elt.mk' (z:=.agg #[.string ⟨#[]⟩,.int .i64 0,.int .i64 0,.int .i64 0]) (by kernel_rfl) rfl (by decide)
theorem zP6:Elt Tryz.prog 65 2 24:=Elt.mk' (z:=.agg #[.string ⟨#[]⟩,.int .i64 0]) (by kernel_rfl) rfl (by decide)
theorem zBA {W:World} {b:Nat} {x:Value} {t:TypeId} (h:W.heap[b]?=some (.cells #[x] t (0,0))) (v:Value):(W.setCell ⟨b,0,none⟩ v).heap[b]?=some (.cells #[v] t (0,0)):=zAU (o:=0) h v
theorem row1 {W:World} {b:Nat} {x:Value} {t:TypeId} (h:W.heap[b]?=some (.cells #[x] t (0,0))):W.cell? ⟨b,0,none⟩=some x∧W.frozen? ⟨b,0,none⟩=false:=⟨cO _ _ 0 _ _ _ h,by simp[World.frozen?,h]⟩
theorem zRU {s:ByteArray} {v:Int} (h:numQ s=some v):I64 v:=by
 unfold numQ at h
 split at h
 ·split at h
  ·rename_i hc
   cases h
   unfold I64
   omega
  ·cases h
 ·cases h
theorem zOr (s:ByteArray):I64 ((zAS s).getD verZ).major∧I64 ((zAS s).getD verZ).minor∧I64 ((zAS s).getD verZ).patch:=by
 cases h:zAS s with
 | none=>exact ⟨⟨by decide,by decide⟩,⟨by decide,by decide⟩,⟨by decide,by decide⟩⟩
 | some v=>
   have:=(zGc h).1
   simp[Ver.ok,verB,partB] at this
   show I64 v.major∧I64 v.minor∧I64 v.patch
   unfold I64
   omega
theorem zKe {L:List (List ByteArray)} (h:L.length<2):zEl L=none:=by
 match L,h with
 | [],_=>rfl
 | [_],_=>rfl
theorem zJ2 {a:ByteArray} {l:List UInt8} {k:ByteArray} (hk:k.data.toList=l) (h:a=k):(a.toList==l)=true∧(a.toList != l)=false:=by
 have e:(a.toList==l)=true:=by rw[beq_iff_eq,h,Go.ByteArray.toList_eq,hk]
 exact ⟨e,by simp[bne,e]⟩
theorem zF6 {a:ByteArray} {l:List UInt8} {k:ByteArray} (hk:k.data.toList=l) (h:a≠k):(a.toList==l)=false∧(a.toList != l)=true:=by
 have e:(a.toList==l)=false:=by
  rw[beq_eq_false_iff_ne]
  exact fun e=>h (zAt (by rw[←Go.ByteArray.toList_eq,e,hk]))
 exact ⟨e,by simp[bne,e]⟩
theorem zJM (t:ByteArray) (w:World) (hv:Vok w) (ht:t.size≤4611686018427387904) :
  Calls Tryz.prog 39 #[.string t] w fun e w'=>∃ u,e=.returned (.tuple #[.agg #[u],.int .i64 (lkQ t).2])∧SlV rNode w' (fun b=>w.heap.size≤b) (lkQ t).1 u∧Below w.heap.size w w':=by
 obtain ⟨L,en,hQ⟩:∃ L en,scanQ 1048576 t=(L,en):=⟨_,_,rfl⟩
 have hbd:=zE3 (most:=1048576) (t:=t)
 rw[hQ] at hbd
 obtain ⟨hL1,hL2⟩:=hbd
 simp only at hL1 hL2
 have Hsc:Hid (∀ W,Calls Tryz.prog 91 #[.string t,.int .i64 1048576] W fun e w'=>∃ v,(∃ k:Int,e=.returned (.tuple #[v,.int .i64 en,.int .i64 k]))∧SlV (zAL rStr) w' (fun b=>W.heap.size≤b) L v∧Below W.heap.size W w'):=fun W=>by
  have:=zCf t 1048576 W (by decide) ht
  rw[hQ] at this
  exact this
 have K0:Hid (en≠0→lkQ t=([],en)):=fun h=>zSr hQ h
 have K1:Hid (en=0→zEl L=none→lkQ t=([],22)):=fun h h2=>zRk (by rw[←h];exact hQ) h2
 have K2:Hid (en=0→∀ r,zEl L=some r→lkQ t=lkEnd (lkGo r ([],node0))):=fun h r h2=>zTJ (by rw[←h];exact hQ) h2
 have Hv:=cH hv
 have HL1:=cH hL1
 have HL2:=cH hL2
 clear hv hL1 hL2 hQ ht
 generalize lkQ t=R at *
 go_enter Tryz.func39,Tryz.ntmps39
 go_wp2_with fail
 obtain ⟨w0,hw0⟩:∃ w0,w0=w.alloc (.cells #[.slice none 0 0] 27):=⟨_,rfl⟩
 have hr0:w0.heap[w.heap.size]?=some (.cells #[.slice none 0 0] 27 (0,0)):=by rw[hw0];exact heap_alloc_new w _
 have HB0:Hid (Below w.heap.size w w0):=by unfold Hid;rw[hw0];exact bal (bR _ _) _
 have hz0:w.heap.size<w0.heap.size:=(aS.1 hr0).1
 rw[←hw0]
 clear hw0
 have Hr0:=cH hr0
 clear hr0
 refine (Hsc.out w0).mono ?_
 rintro e w1 ⟨vL,⟨kk,rfl⟩,hL,hb1⟩
 have Hr1:=cH ((hb1.block _ hz0).trans Hr0.out)
 have HB1:=cH (bot HB0.out hb1)
 have hz1:w.heap.size<w1.heap.size:=lL hz0 hb1.size
 have hL':=hL.more (S':=fun b=>b<w1.heap.size) fun b _ h=>h
 obtain ⟨AL,cL,rfl,hcl,hcm⟩:=hL'.val
 obtain ⟨n,hn⟩:∃ n,n=L.length:=⟨_,rfl⟩
 have hcl2:n≤cL:=by rw[hn];exact hcl
 unfold maxLen at hcm
 have hn7:n≤1048577:=by rw[hn];exact HL1.out
 rw[←hn] at hL' ⊢
 have HL:=cH hL'
 have Hn:=cH hn
 clear hL hb1 HB0 Hr0 hz0 Hsc hcl hL' hn
 by_cases he:en=0
 case neg=>
  have hbe:(en != 0)=true:=by simpa using he
  have hq:=K0.out he
  subst hq
  obtain ⟨a0,f0⟩:=row1 Hr1.out
  clear he K0 K1 K2
  go_wp2_with fail
  exact zAC rfl rfl rfl rfl (zBA Hr1.out _) Tryz.underlying27 rfl (by kernel_rfl) ⟨_,rfl,SlV.nil_ _ _ _,HB1.out.setCell (nR _) _⟩
 have K1':=cH (K1.out he)
 have K2':=cH (K2.out he)
 clear K0 K1 K2
 subst he
 go_upto_region 5 with (fail)
 obtain ⟨w2,hw2⟩:∃ w2,w2=w1.alloc (.cells #[.slice none 0 0] 27):=⟨_,rfl⟩
 have hN2:w2.heap[w1.heap.size]?=some (.cells #[.slice none 0 0] 27 (0,0)):=by rw[hw2];exact heap_alloc_new w1 _
 have HB12:Hid (Below w1.heap.size w1 w2):=by unfold Hid;rw[hw2];exact bal (bR _ _) _
 have hz2:w1.heap.size<w2.heap.size:=(aS.1 hN2).1
 rw[←hw2]
 have Hr2:=cH ((HB12.out.block _ hz1).trans Hr1.out)
 have HN2:=cH hN2
 have HB2:=cH (bot HB1.out HB12.out)
 obtain ⟨a0,f0⟩:=row1 Hr2.out
 obtain ⟨p0,_⟩:=row1 HN2.out
 clear hw2 hN2 Hr1
 by_cases hn2:n<2
 ·have hq:=K1'.out (zKe (by have:=Hn.out;omega))
  subst hq
  have hI:(n:Int)<2:=by omega
  clear K1' K2'
  go_wp2_with fail
  exact zAC rfl rfl rfl rfl (zBA Hr2.out _) Tryz.underlying27 rfl (by kernel_rfl) ⟨_,rfl,SlV.nil_ _ _ _,HB2.out.setCell (nR _) _⟩
 have hI:¬(n:Int)<2:=by omega
 obtain ⟨ws0,ws1,rest,rfl⟩:∃ ws0 ws1 rest,L=ws0::ws1::rest:=by
  match L,Hn.out with
  | [],h=>simp at h;omega
  | [_],h=>simp at h;omega
  | a::b::r,_=>exact ⟨a,b,r,rfl⟩
 have hnr:n=rest.length+2:=Hn.out
 obtain ⟨b0,o0,rfl,_,hb0⟩:=HL.out.at (by simp)
 obtain ⟨A0,cc0,c0,hs0⟩:=HL.out.row (i:=0) (x:=ws0) rfl
 obtain ⟨A1,cc1,c1,hs1⟩:=HL.out.row (i:=1) (x:=ws1) rfl
 rw[Nat.add_zero] at c0
 have c0:=zAA HB12.out c0 hb0
 have c1:=zAA HB12.out c1 hb0
 obtain ⟨m0,hm0⟩:∃ m,m=ws0.length:=⟨_,rfl⟩
 obtain ⟨m1,hm1⟩:∃ m,m=ws1.length:=⟨_,rfl⟩
 rw[←hm0] at c0 hs0
 rw[←hm1] at c1 hs1
 have Hs0:=cH hs0
 have Hs1:=cH hs1
 have h0n:(0:Int)<(n:Int):=by omega
 have h1n:(1:Int)<(n:Int):=by omega
 have Hnr:=cH hnr
 clear hs0 hs1 hn2 hnr
 by_cases e0:m0=1
 case neg=>
  have hq:=K1'.out (zFP fun e=>e0 (by rw[hm0,e.1];rfl))
  subst hq
  have hbe:((m0:Int) != 1)=true:=by rw[bne_iff_ne];omega
  clear K1' K2' hm0 hm1 e0
  go_wp2_with fail
  exact zAC rfl rfl rfl rfl (zBA Hr2.out _) Tryz.underlying27 rfl (by kernel_rfl) ⟨_,rfl,SlV.nil_ _ _ _,HB2.out.setCell (nR _) _⟩
 obtain ⟨a,rfl⟩:∃ a,ws0=[a]:=List.length_eq_one_iff.1 (by omega)
 have hbe0:((m0:Int) != 1)=false:=by rw[e0];rfl
 have h0m:(0:Int)<(m0:Int):=by omega
 obtain ⟨b1,o1,rfl,_,hb1⟩:=Hs0.out.at (by simp)
 obtain ⟨d0,_⟩:=Hs0.out.str (i:=0) (x:=a) rfl
 rw[Nat.add_zero] at d0
 have d0:=zAA HB12.out d0 hb1
 clear Hs0 hm0 hb1 e0
 by_cases ha:a=zEf
 case neg=>
  have hq:=K1'.out (zFP fun e=>ha (by injection e.1))
  subst hq
  obtain ⟨hbe,hbn⟩:=zF6 (l:=[108,111,99,107]) rfl ha
  clear K1' K2' hm1 ha
  go_wp2_with fail
  exact zAC rfl rfl rfl rfl (zBA Hr2.out _) Tryz.underlying27 rfl (by kernel_rfl) ⟨_,rfl,SlV.nil_ _ _ _,HB2.out.setCell (nR _) _⟩
 obtain ⟨hbl,hbln⟩:=zJ2 (l:=[108,111,99,107]) rfl ha
 by_cases e1:m1=1
 case neg=>
  have hq:=K1'.out (zFP fun e=>e1 (by rw[hm1,e.2];rfl))
  subst hq
  have hbe:((m1:Int) != 1)=true:=by rw[bne_iff_ne];omega
  clear K1' K2' hm1 e1 ha
  go_wp2_with fail
  exact zAC rfl rfl rfl rfl (zBA Hr2.out _) Tryz.underlying27 rfl (by kernel_rfl) ⟨_,rfl,SlV.nil_ _ _ _,HB2.out.setCell (nR _) _⟩
 obtain ⟨b,rfl⟩:∃ b,ws1=[b]:=List.length_eq_one_iff.1 (by omega)
 have hbe1:((m1:Int) != 1)=false:=by rw[e1];rfl
 have h1m:(0:Int)<(m1:Int):=by omega
 obtain ⟨b2,o2,rfl,_,hb2⟩:=Hs1.out.at (by simp)
 obtain ⟨d1,_⟩:=Hs1.out.str (i:=0) (x:=b) rfl
 rw[Nat.add_zero] at d1
 have d1:=zAA HB12.out d1 hb2
 clear Hs1 hm1 hb2 e1
 by_cases hb:b=rootK
 case neg=>
  have hq:=K1'.out (zFP fun e=>hb (by injection e.2))
  subst hq
  obtain ⟨hbe,hbn⟩:=zF6 (l:=[114,111,111,116]) rfl hb
  clear K1' K2' ha hb
  go_wp2_with fail
  exact zAC rfl rfl rfl rfl (zBA Hr2.out _) Tryz.underlying27 rfl (by kernel_rfl) ⟨_,rfl,SlV.nil_ _ _ _,HB2.out.setCell (nR _) _⟩
 obtain ⟨hbr,hbrn⟩:=zJ2 (l:=[114,111,111,116]) rfl hb
 have Hm0:=cH (K2'.out rest (by rw[ha,hb];exact zIS rest))
 clear K1' K2' ha hb
 go_upto_region 8 with (fail)
 obtain ⟨w3,hw3⟩:∃ w3,w3=(w2.alloc (.cells #[.string ⟨#[]⟩,.int .i64 0,.int .i64 0,.int .i64 0,.slice none 0 0,.slice none 0 0] 63)).alloc (.cells #[.slice (some ⟨w2.heap.size,0,none⟩) 1 1] 27):=⟨_,rfl⟩
 have HK3:Hid (LkS w2 w3 (w2.heap.size+1) w2.heap.size 1 1 [] node0 [] ⟨⟨#[]⟩,⟨0,0,0⟩,none,0,0,none,0,0⟩ (fun _=>False)):=by unfold Hid;rw[hw3];exact LkS.made
 rw[←hw3]
 clear hw3
 obtain ⟨GB,hGB⟩:∃ GB,GB=w2.heap.size+1:=⟨_,rfl⟩
 obtain ⟨g0,hg0⟩:∃ g0,g0=w2.heap.size:=⟨_,rfl⟩
 rw[←hGB,←hg0] at HK3 ⊢
 obtain ⟨gc,gf,_⟩:=HK3.out.cells
 have hsl:∀ W,(Instr.slice 145 (.slice (some ⟨b0,o0,none⟩) n cL) (some (.int .i64 2)) none none).run Tryz.prog W=.ok (.slice (if cL=2 then some ⟨b0,o0,none⟩ else Option.map (fun x:Addr=>x.add (2 * 1)) (some (⟨b0,o0,none⟩:Addr))) (n - 2) (cL - 2)) W:=fun W=>
  zDc (P:=Tryz.prog) (t:=145) (e:=53) (z:=1) Tryz.underlying145 (by kernel_rfl) (fun _=>by kernel_rfl) (some ⟨b0,o0,none⟩) n cL 2 (by have:=Hnr.out;omega) W
 obtain ⟨X,hX⟩:∃ X,X=(if cL=2 then some (⟨b0,o0,none⟩:Addr) else Option.map (fun x:Addr=>x.add (2 * 1)) (some (⟨b0,o0,none⟩:Addr))):=⟨_,rfl⟩
 have HLq:Hid (SlV (zAL rStr) w1 (fun b=>b<w1.heap.size) rest (.slice X (n - 2) (cL - 2))):=by
  unfold Hid
  rw[hX]
  exact HL.out.cut 2 (by have:=Hnr.out;omega)
 rw[←hX] at hsl
 obtain ⟨ln,hln⟩:∃ ln,ln=n - 2:=⟨_,rfl⟩
 rw[←hln] at hsl HLq
 have Hln:Hid (rest.length=ln):=by have:=Hnr.out;unfold Hid;omega
 have hln7:ln≤1048575:=by omega
 have HL2':Hid (∀ ws∈rest,ws≠[]∧ws.length≤1048577∧(joinS ws).size≤1048576):=fun ws h=>HL2.out ws (by simp[h])
 have HB3:Hid (∀ W,Below w2.heap.size w2 W→Below w1.heap.size w1 W):=fun W h=>bot HB12.out h
 have HBw:Hid (∀ W,Below w2.heap.size w2 W→Below w.heap.size w W):=fun W h=>bot HB2.out h
 have HRw:Hid (∀ W,Below w2.heap.size w2 W→W.heap[w.heap.size]?=some (.cells #[.slice none 0 0] 27 (0,0))∧W.heap[w1.heap.size]?=some (.cells #[.slice none 0 0] 27 (0,0))):=fun W h=>⟨(h.block _ (Nat.lt_trans hz1 hz2)).trans Hr2.out,(h.block _ hz2).trans HN2.out⟩
 clear hX hln HL Hnr HL2 HL1 hGB hg0 c0 c1 d0 d1 hbe0 hbe1 HB12 hcl2 Hn hb0
 go_wp2_with fail
 go_loopw [9,70] (fun xp i wr=>∃ (k g n' cap q6:Nat) (pre:List Node) (x:Node) (rs:List RawN) (r:RawN) (P:Nat→Prop),k≤ln∧xp=.pointer (some ⟨g,q6,none⟩)∧i=.int .i64 k∧Hid (q6=rs.length * 6)∧Hid (R=lkEnd (lkGo (rest.drop k) (pre,x)))∧Hid (LkS w2 wr GB g n' cap pre x rs r P)∧Hid (rs.length≤k∧∀ y∈pre++[x],y.ctx.length≤k∧y.edges.length≤k)) (fun _ i _=>ln - (intOf i).toNat)
 case atStart=>exact ⟨0,g0,1,1,0,[],node0,[],_,_,nZ _,rfl,rfl,rfl,Hm0.out,HK3.out,nR _,by intro y hy;rw[List.nil_append,List.mem_singleton] at hy;subst hy;exact ⟨nR _,nR _⟩⟩
 case round=>
  clear HK3 Hm0 gc gf hsl
  obtain ⟨k,g,n',cap,q6,pre,x,rs,r,P,hk,rfl,rfl,Hq6,Hm,HK,HZ⟩:=hrel
  have HBr:=cH HK.out.bel
  have hk0:(0:Int)≤(k:Int):=by omega
  obtain ⟨hRr,hNr⟩:=HRw.out wr HBr.out
  have HRr:=cH hRr
  have HNr:=cH hNr
  obtain ⟨a0,f0⟩:=row1 HRr.out
  obtain ⟨p0,_⟩:=row1 HNr.out
  obtain ⟨gc,gf,xc,xe,fc,fe⟩:=HK.out.cells
  rw[←Hq6.out] at xc xe fc fe
  clear hRr hNr
  by_cases hlt:k<ln
  case neg=>
   obtain rfl:k=ln:=by omega
   have hI2:¬(k:Int)<(k:Int):=by omega
   have hm:=Hm.out
   rw[zRD (by have:=Hln.out;omega)] at hm
   have hS:=HK.out.nod.slv
   have HM:=cH (zHP _ _ _ _ wr _ hS ⟨by rw[List.length_append];have h1:=HZ.out.1;have h2:=HK.out.nod.len;simp only[List.length_singleton];omega,fun y hy=>by have:=HZ.out.2 y hy;omega⟩)
   have HS:=cH hS
   have Hmm:=cH hm
   simp only at Hmm
   clear hm hS Hm xc xe fc fe HZ Hq6
   generalize lockB (pre++[x])=z at *
   go_wp2_with fail
   refine HM.out.mono ?_
   rintro e w9 ⟨rfl,hb9⟩
   have HB9:=cH (bot (HBw.out wr HBr.out) hb9)
   have HR9:=cH ((hb9.block _ (zAE a0)).trans HRr.out)
   have n9:=zAA hb9 p0 (zAE p0)
   have g9:=zAA hb9 gc (zAE gc)
   have HS9:=cH (HS.out.belowSize hb9)
   clear a0 f0 p0 gc gf hb9 HM HS
   obtain ⟨a0,f0⟩:=row1 HR9.out
   have hq:=Hmm.out
   clear Hmm
   cases z with
   | false=>
     rw[if_neg (by decide)] at hq
     subst hq
     go_wp2_with fail
     exact zAC rfl rfl rfl rfl (zBA HR9.out _) Tryz.underlying27 rfl (by kernel_rfl) ⟨_,rfl,SlV.nil_ _ _ _,HB9.out.setCell (nR _) _⟩
   | true=>
     rw[if_pos rfl] at hq
     subst hq
     go_wp2_with fail
     exact zAC rfl rfl rfl rfl (zBA HR9.out _) Tryz.underlying27 rfl (by kernel_rfl) ⟨_,rfl,(HS9.out.keep fun b hb _=>heap_setCell_other w9 ⟨w.heap.size,0,none⟩ b _ (by have h:w2.heap.size≤b:=hb;show b≠w.heap.size;omega)).more fun b hb _=>by have h:w2.heap.size≤b:=hb;omega,HB9.out.setCell (nR _) _⟩
  have hkI:(k:Int)<(ln:Int):=by omega
  have hkx:k<rest.length:=by have:=Hln.out;omega
  have HLw:=cH (HLq.out.below (HB3.out wr HBr.out) (fun b hb=>hb))
  obtain ⟨bx,ox,rfl,_,hbx⟩:=HLw.out.at (by omega)
  obtain ⟨Aw,cw,cx,hsw⟩:=HLw.out.row (i:=k) (gE hkx)
  obtain ⟨hne,hwl,hwj⟩:=HL2'.out rest[k] (List.getElem_mem hkx)
  have Hnone:Hid (zDw (pre,x) rest[k]=none→R=([],22)):=fun h=>Hm.out.trans (zP2 hkx h)
  have Hsome:Hid (∀ s',zDw (pre,x) rest[k]=some s'→R=lkEnd (lkGo (rest.drop (k+1)) s')):=fun s' h=>Hm.out.trans (zO7 hkx h)
  clear Hm
  generalize rest[k]=ws at *
  obtain ⟨m,hm⟩:∃ m,m=ws.length:=⟨_,rfl⟩
  rw[←hm] at cx hsw
  have Hsw:=cH hsw
  clear hsw
  by_cases hm3:m=3
  case neg=>
   have hq:=Hnone.out (zOY (by omega))
   subst hq
   have hbe:((m:Int) != 3)=true:=by rw[bne_iff_ne];omega
   clear Hnone Hsome hm hm3 hne hwl hwj gc gf xc xe fc fe
   go_wp2_with fail
   exact zAC rfl rfl rfl rfl (zBA HRr.out _) Tryz.underlying27 rfl (by kernel_rfl) ⟨_,rfl,SlV.nil_ _ _ _,(HBw.out wr HBr.out).setCell (nR _) _⟩
  obtain ⟨a,b,c,rfl⟩:∃ a b c,ws=[a,b,c]:=by
   match ws,hm with
   | [],h=>simp at h;omega
   | [_],h=>simp at h;omega
   | [_,_],h=>simp at h;omega
   | [a,b,c],_=>exact ⟨a,b,c,rfl⟩
   | _::_::_::_::_,h=>simp at h;omega
  have hbe3:((m:Int) != 3)=false:=by rw[hm3];rfl
  have hI0:(0:Int)<(m:Int):=by omega
  have hI1:(1:Int)<(m:Int):=by omega
  have hI2:(2:Int)<(m:Int):=by omega
  obtain ⟨bw,ow,rfl,_,hbw⟩:=Hsw.out.at (by simp)
  obtain ⟨d0,_⟩:=Hsw.out.str (i:=0) (x:=a) rfl
  obtain ⟨d1,hbz⟩:=Hsw.out.str (i:=1) (x:=b) rfl
  obtain ⟨d2,_⟩:=Hsw.out.str (i:=2) (x:=c) rfl
  rw[Nat.add_zero] at d0
  have hcz:c.size≤2000000:=by
   have h1:=zBv a [b,c]
   have h2:=zBv b [c]
   have h3:(joinS [c]).size=c.size:=by
    rw[zAJ,zAJ];unfold joinS;simp[mkB,Lib.join,Lib.joinTail]
   omega
  have HV:Hid (∀ W,Vok W→Calls Tryz.prog 97 #[.string c] W fun e w'=>e=.returned (.tuple #[verV ((zAS c).getD ⟨0,0,0⟩),.bool (zAS c).isSome])∧Below W.heap.size W w'):=fun W hW=>zFJ c W hW hcz
  have HU:Hid (∀ W,Vok W→Calls Tryz.prog 98 #[.string c,.int .i64 128] W fun e w'=>e=.returned (.tuple #[.int .i64 ((numQ c).getD 0),.bool (numQ c).isSome])∧Below W.heap.size W w'):=fun W hW=>zIF c W hW hcz
  have Hst:Hid (zDw (pre,x) [a,b,c]=if a=nodeK∧(zAS c).isSome=true then some (pre++[x],⟨b,(zAS c).getD verZ,[],[]⟩) else if a=withK∧(zAS c).isSome=true∧x.edges.length=0 then some (pre,{ x with ctx:=x.ctx++[⟨b,(zAS c).getD verZ⟩]}) else if a=toK∧(numQ c).isSome=true then some (pre,{ x with edges:=x.edges++[⟨b,(numQ c).getD 0⟩]}) else none):=rfl
  have Hbz:=cH hbz
  have Hvw:=cH (Hv.out.below (HBw.out wr HBr.out))
  have Hint:Hid (∀ v,numQ c=some v→I64 v):=fun v h=>zRU h
  have Hver:Hid (I64 ((zAS c).getD verZ).major∧I64 ((zAS c).getD verZ).minor∧I64 ((zAS c).getD verZ).patch):=zOr c
  rw[show (⟨0,0,0⟩:Ver)=verZ from rfl] at HV
  have Hni:Hid (I64 ((numQ c).getD 0)):=by
   unfold Hid
   cases hq:numQ c with
   | none=>exact ⟨by decide,by decide⟩
   | some v=>exact Hint.out v hq
  clear hm hne hwl hwj hcz hbz Hint hm3
  generalize (zAS c).getD verZ=ver at *
  generalize (zAS c).isSome=vz at *
  generalize (numQ c).getD 0=nu at *
  generalize (numQ c).isSome=nz at *
  obtain ⟨x1,x2,x3⟩:=ver
  simp only[verV] at HV Hver
  go_wp2_with fail
  refine (HV.out wr Hvw.out).mono ?_
  rintro e w4 ⟨rfl,hb4⟩
  go_upto_region 15 with (fail)
  obtain ⟨w5,hw5⟩:∃ w5,w5=w4.alloc (.cells #[.int .i64 x1,.int .i64 x2,.int .i64 x3] 55):=⟨_,rfl⟩
  have hb5:Below wr.heap.size wr w5:=by rw[hw5];exact bal hb4 _
  have hv5:w5.heap[w4.heap.size]?=some (.cells #[.int .i64 x1,.int .i64 x2,.int .i64 x3] 55 (0,0)):=by rw[hw5];exact heap_alloc_new w4 _
  obtain ⟨VB,hVB⟩:∃ VB,VB=w4.heap.size:=⟨_,rfl⟩
  rw[←hw5,←hVB]
  rw[←hVB] at hv5
  have d2:=zAA hb5 d2 hbw
  have Hd2:=cH d2
  have Hv5:=cH hv5
  have HB5:=cH hb5
  clear hw5 hVB hv5 hb5 hb4 HV
  go_wp2_with fail
  refine (HU.out w5 (Hvw.out.below HB5.out)).mono ?_
  rintro e w6 ⟨rfl,hb6⟩
  have Hv6:=cH ((hb6.block _ (aS.1 Hv5.out).1).trans Hv5.out)
  have HB6:=cH (bot HB5.out hb6)
  have HK6:=cH (HK.out.keep HB6.out)
  have cx:=zAA HB6.out cx hbx
  have d0:=zAA HB6.out d0 hbw
  have d1:=zAA HB6.out d1 hbw
  obtain ⟨hRr,hNr⟩:=HRw.out w6 HK6.out.bel
  have HR6:=cH hRr
  have HN6:=cH hNr
  clear d2 Hd2 Hv5 hb6 HB5 HU a0 f0 p0 gc gf xc xe fc fe hRr hNr HRr HNr HK HBr Hvw
  obtain ⟨a0,f0⟩:=row1 HR6.out
  obtain ⟨p0,_⟩:=row1 HN6.out
  obtain ⟨gc,gf,xc,xe,fc,fe⟩:=HK6.out.cells
  rw[←Hq6.out] at xc xe fc fe
  obtain ⟨⟨v0,v1,v2⟩,_⟩:=row3 Hv6.out
  have hzz:w2.heap.size≤w6.heap.size:=HK6.out.bel.size
  have ed1:=fun o=>(zAI (Below.heap_alloc w6 o _ (zAE d1)) _ none).trans d1
  have ev0:=fun o=>(zAI (Below.heap_alloc w6 o _ (zAE v0)) _ none).trans v0
  have ev1:=fun o=>(zAI (Below.heap_alloc w6 o _ (zAE v1)) _ none).trans v1
  have ev2:=fun o=>(zAI (Below.heap_alloc w6 o _ (zAE v2)) _ none).trans v2
  have hbI:∀ y∈pre++[x],y.ctx.length≤k∧y.edges.length≤k:=HZ.out.2
  have Hlx:Hid (x.ctx.length≤k∧x.edges.length≤k):=hbI x (by simp)
  have HzN:Hid (rs.length≤k):=HZ.out.1
  have HbI:=cH hbI
  clear hbI HZ hbw hbx
  by_cases hN:a=nodeK
  ·obtain ⟨hbN,hbNn⟩:=zJ2 (l:=[110,111,100,101]) rfl hN
   obtain ⟨hbW,hbWn⟩:=zF6 (a:=a) (l:=[119,105,116,104]) (k:=withK) rfl (by rw[hN];decide)
   obtain ⟨hbT,hbTn⟩:=zF6 (a:=a) (l:=[116,111]) (k:=toK) rfl (by rw[hN];decide)
   cases vz with
   | false=>
     have hq:=Hnone.out (by rw[Hst.out,if_neg (fun e=>absurd e.2 (by decide)),if_neg (fun e=>absurd e.2.1 (by decide)),if_neg (fun e=>absurd (hN.symm.trans e.1) (by decide))])
     subst hq
     clear Hnone Hsome Hst hN gc gf xc xe fc fe ed1 ev0 ev1 ev2
     go_wp2_with fail
     exact zAC rfl rfl rfl rfl (zBA HR6.out _) Tryz.underlying27 rfl (by kernel_rfl) ⟨_,rfl,SlV.nil_ _ _ _,(HBw.out w6 HK6.out.bel).setCell (nR _) _⟩
   | true=>
     have Hnx:=cH (Hsome.out _ (by rw[Hst.out,if_pos ⟨hN,rfl⟩]))
     obtain ⟨RR,hRR⟩:∃ RR,RR=rs++[r]:=⟨_,rfl⟩
     have HO:Hid (Own rRaw w6 w2.heap.size 63 (.slice (some ⟨g,0,none⟩) n' cap) RR (fun _=>False)):=by unfold Hid;rw[hRR];exact HK6.out.nod.row
     have HRl:Hid (RR.length=rs.length+1):=by unfold Hid;rw[hRR];simp
     have hn9:rs.length≤1048576:=by have:=HzN.out;omega
     have Hrow:Hid (some GB≠(Value.slice (some ⟨g,0,none⟩) n' cap).ownBlock):=fun e=>HK6.out.g_ne (Option.some.inj e)
     have Hh:Hid (rRaw.holds w6 (fun _=>False) ⟨b,⟨x1,x2,x3⟩,none,0,0,none,0,0⟩ [.string b,.int .i64 x1,.int .i64 x2,.int .i64 x3,.slice none 0 0,.slice none 0 0]):=⟨rfl,Hbz.out,Hver.out⟩
     have eg:=fun o=>(zAI (Below.heap_alloc w6 o _ (zAE gc)) _ none).trans gc
     have HRR:=cH hRR
     clear Hnone Hsome Hst hN xc xe fc fe hRR
     go_wp2_with fail
     go_region_law
      (first
       | (refine zDO (by rfl) _ _ _ (by rfl) zQT Tryz.underlying25 (by rfl) (HO.out.drew.alloc _) ⟨w6.heap.size,0,none⟩ 1 [.string b,.int .i64 x1,.int .i64 x2,.int .i64 x3,.slice none 0 0,.slice none 0 0] ⟨b,⟨x1,x2,x3⟩,none,0,0,none,0,0⟩ (by rfl) (Rp.alloc (Rp.drew Hh.out) _)
           (zAz w6.drew #[.string b,.int .i64 x1,.int .i64 x2,.int .i64 x3,.slice none 0 0,.slice none 0 0] _) (by rw[HRl.out];unfold maxLen;omega) (by rw[HRl.out];omega) (by simp;omega) (w6.heap.size+1) (by simp) ?_;intro g6 cap6 w9 hown6 hgrow hat hg6;have hc6:=hgrow.cell ((zAI (Below.heap_alloc w6.drew _ _ (zAE gc)) _ _).trans gc) Hrow.out;have hf6:=(zBr ((hgrow.block _ (by simp;have:=zAE gc;omega) Hrow.out).trans (Below.heap_alloc w6.drew _ _ (zAE gc))) 0 none).trans gf))
     all_goals
      have s1:=(HK6.out.keep (w9:=w6.drew.alloc (.cells #[.string b,.int .i64 x1,.int .i64 x2,.int .i64 x3,.slice none 0 0,.slice none 0 0] 63)) (bal (bR _ _).drew _)).node (s:=b) (v:=⟨x1,x2,x3⟩) (by rw[←HRR.out];exact hown6) hgrow (hat.imp (fun e=>Option.some.inj e) (fun e=>by rw[e];simp))
      obtain ⟨m9,hm9⟩:∃ m9,m9=RR.length+1:=⟨_,rfl⟩
      rw[←hm9] at s1 ⊢
      obtain ⟨w10,hw10⟩:∃ w10,w10=w9.setCell ⟨GB,0,none⟩ (.slice (some ⟨g6,0,none⟩) m9 cap6):=⟨_,rfl⟩
      rw[←hw10] at s1 ⊢
      have S1:=cH s1
      have hm9':m9=rs.length+2:=by rw[hm9,HRl.out]
      obtain ⟨q9,hq9⟩:∃ q9,q9=rs.length+1:=⟨_,rfl⟩
      have hwm:IntKind.i64.wrap ((m9:Int) - 1)=(q9:Int):=(IntWalk.i64_in _ ⟨by omega,by omega⟩).trans (by omega)
      have hq0:(0:Int)≤(q9:Int):=by omega
      have hqm:(q9:Int)<(m9:Int):=by omega
      have hqq:q9<m9:=by omega
      have gc:=s1.cells.1
      have Hq9:Hid (q9 * 6=(rs++[r]).length * 6):=by unfold Hid;rw[List.length_append,hq9];rfl
      clear s1 hw10 hm9 hm9' hq9 hgrow hown6 hat hc6 hf6 gf Hrow HO Hh eg ed1 ev0 ev1 ev2 d0 d1 v0 v1 v2 a0 f0 p0 cx HK6 HR6 HN6 hzz hn9
      go_wp2_with fail
      go_roundw
      case rel=>
       refine ⟨k+1,g6,m9,cap6,_,pre++[x],⟨b,⟨x1,x2,x3⟩,[],[]⟩,rs++[r],_,_,by omega,rfl,by go_num,Hq9.out,Hnx.out,S1.out,by rw[List.length_append];exact Nat.succ_le_succ HzN.out,fun y hy=>?_⟩
       rcases List.mem_append.1 hy with h|h
       ·have:=HbI.out y h
        omega
       ·rw[List.mem_singleton.1 h]
        exact ⟨nZ _,nZ _⟩
      case measure=>simp[intOf];omega
  obtain ⟨hbN,hbNn⟩:=zF6 (l:=[110,111,100,101]) rfl hN
  by_cases hW:a=withK
  ·obtain ⟨hbW,hbWn⟩:=zJ2 (l:=[119,105,116,104]) rfl hW
   obtain ⟨hbT,hbTn⟩:=zF6 (a:=a) (l:=[116,111]) (k:=toK) rfl (by rw[hW];decide)
   cases vz with
   | false=>
     have hq:=Hnone.out (by rw[Hst.out,if_neg (fun e=>hN e.1),if_neg (fun e=>absurd e.2.1 (by decide)),if_neg (fun e=>absurd (hW.symm.trans e.1) (by decide))])
     subst hq
     clear Hnone Hsome Hst hN hW gc gf xc xe fc fe ed1 ev0 ev1 ev2
     go_wp2_with fail
     exact zAC rfl rfl rfl rfl (zBA HR6.out _) Tryz.underlying27 rfl (by kernel_rfl) ⟨_,rfl,SlV.nil_ _ _ _,(HBw.out w6 HK6.out.bel).setCell (nR _) _⟩
   | true=>
   by_cases hE:x.edges.length=0
   case neg=>
    have hq:=Hnone.out (by rw[Hst.out,if_neg (fun e=>hN e.1),if_neg (fun e=>hE e.2.2),if_neg (fun e=>absurd (hW.symm.trans e.1) (by decide))])
    subst hq
    have hbe:((r.en:Int)==0)=false:=by rw[beq_eq_false_iff_ne];have:=HK6.out.cn_eq.2.1;omega
    clear Hnone Hsome Hst hN hW gc gf xc fc fe ed1 ev0 ev1 ev2 hE
    go_wp2_with fail
    exact zAC rfl rfl rfl rfl (zBA HR6.out _) Tryz.underlying27 rfl (by kernel_rfl) ⟨_,rfl,SlV.nil_ _ _ _,(HBw.out w6 HK6.out.bel).setCell (nR _) _⟩
   have hbe:((r.en:Int)==0)=true:=by rw[beq_iff_eq];have:=HK6.out.cn_eq.2.1;omega
   have Hnx:=cH (Hsome.out _ (by rw[Hst.out,if_neg (fun e=>hN e.1),if_pos ⟨hW,rfl,hE⟩]))
   have HO:=cH HK6.out.nod.ctx
   have hn9:x.ctx.length≤1048576:=by have:=Hlx.out;omega
   have Hrow:Hid (some g≠(Value.slice r.cA r.cn r.cc).ownBlock):=fun e=>HK6.out.nod.ag e.symm
   have Hh:Hid (rPin.holds w6 (fun _=>False) ⟨b,⟨x1,x2,x3⟩⟩ [.string b,.int .i64 x1,.int .i64 x2,.int .i64 x3]):=⟨rfl,Hbz.out,Hver.out⟩
   have ex:=fun o=>(zAI (Below.heap_alloc w6 o _ (zAE xc)) _ none).trans xc
   have Hn9:=cH hn9
   clear Hnone Hsome Hst hN hW hE gc gf fe hn9
   go_wp2_with fail
   go_region_law
    (first
     | (refine zDO (by rfl) _ _ _ (by rfl) zR5 Tryz.underlying60 (by rfl) (HO.out.drew.alloc _) ⟨w6.heap.size,0,none⟩ 1 [.string b,.int .i64 x1,.int .i64 x2,.int .i64 x3] ⟨b,⟨x1,x2,x3⟩⟩ (by rfl) (Rp.alloc (Rp.drew Hh.out) _)
         (zAz w6.drew #[.string b,.int .i64 x1,.int .i64 x2,.int .i64 x3] _) (by have:=Hn9.out;unfold maxLen;omega) (by have:=Hn9.out;omega) (by simp;omega) (w6.heap.size+1) (by simp) ?_;intro g6 cap6 w9 hown6 hgrow hat hg6;have hc6:=hgrow.cell ((zAI (Below.heap_alloc w6.drew _ _ (zAE xc)) _ _).trans xc) Hrow.out;have hf6:=(zBr ((hgrow.block _ (by simp;have:=zAE xc;omega) Hrow.out).trans (Below.heap_alloc w6.drew _ _ (zAE xc))) (q6+4) none).trans fc))
   all_goals
    have s1:=(HK6.out.keep (w9:=w6.drew.alloc (.cells #[.string b,.int .i64 x1,.int .i64 x2,.int .i64 x3] 107)) (bal (bR _ _).drew _)).pin hown6 hgrow (hat.imp id (fun e=>by rw[e];simp))
    rw[←Hq6.out] at s1
    have S1:=cH s1
    clear s1 hgrow hown6 hat hc6 hf6 Hrow HO Hh ex ed1 ev0 ev1 ev2 d0 d1 v0 v1 v2 a0 f0 p0 cx HK6 HR6 HN6 hzz xc xe fc
    go_wp2_with fail
    go_roundw
    case rel=>
     refine ⟨k+1,g,n',cap,q6,pre,_,rs,_,_,by omega,rfl,by go_num,Hq6.out,Hnx.out,S1.out,Nat.le_succ_of_le HzN.out,fun y hy=>?_⟩
     rcases List.mem_append.1 hy with h|h
     ·have:=HbI.out y (List.mem_append.2 (.inl h))
      omega
     ·rw[List.mem_singleton.1 h]
      have:=Hlx.out
      simp only[List.length_append,List.length_singleton]
      omega
    case measure=>simp[intOf];omega
  obtain ⟨hbW,hbWn⟩:=zF6 (l:=[119,105,116,104]) rfl hW
  by_cases hT:a=toK
  case neg=>
   obtain ⟨hbT,hbTn⟩:=zF6 (l:=[116,111]) rfl hT
   have hq:=Hnone.out (by rw[Hst.out,if_neg (fun e=>hN e.1),if_neg (fun e=>hW e.1),if_neg (fun e=>hT e.1)])
   subst hq
   clear Hnone Hsome Hst hN hW hT gc gf xc xe fc fe ed1 ev0 ev1 ev2
   go_wp2_with fail
   exact zAC rfl rfl rfl rfl (zBA HR6.out _) Tryz.underlying27 rfl (by kernel_rfl) ⟨_,rfl,SlV.nil_ _ _ _,(HBw.out w6 HK6.out.bel).setCell (nR _) _⟩
  obtain ⟨hbT,hbTn⟩:=zJ2 (l:=[116,111]) rfl hT
  cases nz with
  | false=>
    have hq:=Hnone.out (by rw[Hst.out,if_neg (fun e=>hN e.1),if_neg (fun e=>hW e.1),if_neg (fun e=>absurd e.2 (by decide))])
    subst hq
    clear Hnone Hsome Hst hN hW hT gc gf xc xe fc fe ed1 ev0 ev1 ev2
    go_wp2_with fail
    exact zAC rfl rfl rfl rfl (zBA HR6.out _) Tryz.underlying27 rfl (by kernel_rfl) ⟨_,rfl,SlV.nil_ _ _ _,(HBw.out w6 HK6.out.bel).setCell (nR _) _⟩
  | true=>
  have Hnx:=cH (Hsome.out _ (by rw[Hst.out,if_neg (fun e=>hN e.1),if_neg (fun e=>hW e.1),if_pos ⟨hT,rfl⟩]))
  have HO:=cH HK6.out.nod.eds
  have hn9:x.edges.length≤1048576:=by have:=Hlx.out;omega
  have Hrow:Hid (some g≠(Value.slice r.eA r.en r.ec).ownBlock):=fun e=>HK6.out.nod.eg e.symm
  have Hh:Hid (rEdge.holds w6 (fun _=>False) ⟨b,nu⟩ [.string b,.int .i64 nu]):=⟨rfl,Hbz.out,Hni.out⟩
  have ex:=fun o=>(zAI (Below.heap_alloc w6 o _ (zAE xe)) _ none).trans xe
  have Hn9:=cH hn9
  clear Hnone Hsome Hst hN hW hT gc gf fc hn9 xc ev0 ev1 ev2
  go_wp2_with fail
  go_region_law
   (first
    | (refine zDO (by rfl) _ _ _ (by rfl) zP6 Tryz.underlying61 (by rfl) (HO.out.drew.alloc _) ⟨w6.heap.size,0,none⟩ 1 [.string b,.int .i64 nu] ⟨b,nu⟩ (by rfl) (Rp.alloc (Rp.drew Hh.out) _)
        (zAz w6.drew #[.string b,.int .i64 nu] _) (by have:=Hn9.out;unfold maxLen;omega) (by have:=Hn9.out;omega) (by simp;omega) (w6.heap.size+1) (by simp) ?_;intro g6 cap6 w9 hown6 hgrow hat hg6;have hc6:=hgrow.cell ((zAI (Below.heap_alloc w6.drew _ _ (zAE xe)) _ _).trans xe) Hrow.out;have hf6:=(zBr ((hgrow.block _ (by simp;have:=zAE xe;omega) Hrow.out).trans (Below.heap_alloc w6.drew _ _ (zAE xe))) (q6+5) none).trans fe))
  all_goals
   have s1:=(HK6.out.keep (w9:=w6.drew.alloc (.cells #[.string b,.int .i64 nu] 65)) (bal (bR _ _).drew _)).edge hown6 hgrow (hat.imp id (fun e=>by rw[e];simp))
   rw[←Hq6.out] at s1
   have S1:=cH s1
   clear s1 hgrow hown6 hat hc6 hf6 Hrow HO Hh ex ed1 d0 d1 v0 v1 v2 a0 f0 p0 cx HK6 HR6 HN6 hzz xe fe
   go_wp2_with fail
   go_roundw
   case rel=>
    refine ⟨k+1,g,n',cap,q6,pre,_,rs,_,_,by omega,rfl,by go_num,Hq6.out,Hnx.out,S1.out,Nat.le_succ_of_le HzN.out,fun y hy=>?_⟩
    rcases List.mem_append.1 hy with h|h
    ·have:=HbI.out y (List.mem_append.2 (.inl h))
     omega
    ·rw[List.mem_singleton.1 h]
     have:=Hlx.out
     simp only[List.length_append,List.length_singleton]
     omega
   case measure=>simp[intOf];omega
