/- What the document's search finds can be placed, and all of it is reached: plain. -/
import Derived.Test.YtminjjdnmpaaoaaGreatDoorBd20
import Derived.Test.YtminjjdnmpaaoaaGreatDoorBd18
import Derived.Test.YtminjjdnmpaaoaaGreatDoorAl
set_option linter.all false
namespace Go.Proofs.YtminjjdnmpaaoaaGreatDoor
open Go
theorem zDo {L:List Pack} {s:ByteArray} {v:Ver} {x:Pack} (h:getC L s v=some x):x∈L∧x.name=s∧x.ver=v:=by
 unfold getC at h
 have h1:=List.mem_of_find?_eq_some h
 have h2:=List.find?_some h
 unfold isC at h2
 rw[Bool.and_eq_true,decide_eq_true_eq] at h2
 exact ⟨h1,h2.1,zDC.1 h2.2⟩
structure NGood (q:SIn) (n:Node):Prop where
 nm:∃ x,getC q.L n.name n.ver=some x
 srt:SrtP n.ctx
 pins:∀ p∈n.ctx,∃ x,getC q.L p.name p.ver=some x
structure EGood (q:SIn) (nodes:List Node) (n:Node):Prop where
 srt:n.edges.Pairwise fun a b=>lessB a.label b.label=true
 tgt:∀ e∈n.edges,∃ (j:Nat) (y:Node),e.to=(j:Int)∧1≤j∧nodes[j]?=some y∧y.name=e.label
 pin:∀ p∈n.ctx,∃ e∈n.edges,e.label=p.name∧∃ (j:Nat) (y:Node),e.to=(j:Int)∧nodes[j]?=some y∧y.ver=p.ver
structure SInv (q:SIn) (nodes:List Node) (at_:Nat):Prop where
 root:∃ es,nodes[0]?=some { rootN with edges:=es}
 len:nodes.length≤q.lim
 node:∀ (j:Nat) (n:Node),1≤j→nodes[j]?=some n→NGood q n
 done:∀ (i:Nat) (n:Node),i<at_→nodes[i]?=some n→EGood q nodes n
 reach:∀ j,1≤j→j<nodes.length→∃ (k:Nat) (x:Node) (e:Edge),k<j∧k<at_∧nodes[k]?=some x∧e∈x.edges∧e.to=(j:Int)
 rest:∀ (i:Nat) (n:Node),at_≤i→nodes[i]?=some n→n.edges=[]
theorem zJA {dec:Nat} {k:List Pin→Nat→SOut} {env:List Pin} {s:ByteArray} {t':Nat} {ns:List Node}:∀ {os:List (Option Ver)} {t:Nat},tryGo dec k env s os t=.ok t' ns→∃ o∈os,∃ t1,k (withO env s o) t1=.ok t' ns:=by
 intro os
 induction os with
 | nil=>intro t h;unfold tryGo at h;cases h
 | cons o os ih=>
   intro t h
   unfold tryGo at h
   split at h
   ·cases h
   ·split at h
    ·rename_i t1 hk
     obtain ⟨o',ho,h'⟩:=ih h
     exact ⟨o',by simp[ho],h'⟩
    ·exact ⟨o,by simp,t+1,h⟩
theorem zC9 {q:SIn} {env:List Pin}:∀ {l:List Pin} {cs:List (List Pin)},ctxsP q.L q.m env l=some cs→cs.length=l.length∧(∀ p∈l,∃ x,getC q.L p.name p.ver=some x)∧∀ c∈cs,SrtP c∧c.length≤env.length∧∀ x∈c,x∈env:=by
 intro l
 induction l with
 | nil=>intro cs h;unfold ctxsP at h;cases h;exact ⟨rfl,(fun p hp=>by cases hp),(fun c hc=>by cases hc)⟩
 | cons p l ih=>
   intro cs h
   unfold ctxsP at h
   split at h
   ·cases h
   ·rename_i x hx
    split at h
    ·cases h
    ·rename_i xs hxs
     cases h
     obtain ⟨h1,h2,h3⟩:=ih hxs
     refine ⟨by simp[h1],fun p' hp'=>?_,fun c hc=>?_⟩
     ·rcases List.mem_cons.1 hp' with rfl|hp'
      ·cases hg:getC q.L p'.name p'.ver with
       | some y=>exact ⟨y,rfl⟩
       | none=>unfold ctxP ctxGo at hx;rw[hg] at hx;cases hx
      ·exact h2 p' hp'
     ·rcases List.mem_cons.1 hc with rfl|hc
      ·exact zIy hx
      ·exact h3 c hc
theorem zKL {p:Pin} {c:List Pin} {n:Node}:isN p c n=true↔n.name=p.name∧n.ver=p.ver∧n.ctx=c:=by
 unfold isN
 rw[Bool.and_eq_true,Bool.and_eq_true,decide_eq_true_eq,zDC,zDC]
theorem zJr {p:Pin} {c:List Pin}:∀ {l:List Node},zAu p c l≤l.length∧(zAu p c l<l.length→∃ y,l[zAu p c l]?=some y∧y.name=p.name∧y.ver=p.ver∧y.ctx=c):=by
 intro l
 induction l with
 | nil=>exact ⟨nR _,fun h=>by simp[zAu] at h⟩
 | cons n l ih=>
   unfold zAu
   split
   ·rename_i h
    exact ⟨nZ _,fun _=>⟨n,rfl,zKL.1 h⟩⟩
   ·refine ⟨by rw[List.length_cons];have:=ih.1;omega,fun h=>?_⟩
    rw[List.getElem?_cons_succ]
    exact ih.2 (by rw[List.length_cons] at h;omega)
theorem zHS {p:Pin} {c:List Pin} {l:List Node} (hl:1≤l.length):1≤placeN l p c∧placeN l p c≤l.length∧(placeN l p c<l.length→∃ y,l[placeN l p c]?=some y∧y.name=p.name∧y.ver=p.ver∧y.ctx=c):=by
 cases l with
 | nil=>simp at hl
 | cons n l=>
   have e:placeN (n::l) p c=zAu p c l+1:=rfl
   rw[e]
   obtain ⟨h1,h2⟩:=zJr (p:=p) (c:=c) (l:=l)
   refine ⟨by omega,by rw[List.length_cons];omega,fun h=>?_⟩
   rw[List.getElem?_cons_succ]
   exact h2 (by rw[List.length_cons] at h;omega)
theorem zDS {lim:Nat}:∀ {env:List Pin} {cs:List (List Pin)} {out:List Node} {es:List Edge} {out':List Node} {es':List Edge},zA4 lim env cs out es=some (out',es')→cs.length=env.length→1≤out.length→out.length≤lim →
  ∃ (new:List Node) (esn:List Edge),out'=out++new∧es'=es++esn∧esn.map (·.label)=env.map (·.name)∧out'.length≤lim∧(∀ n∈new,n.edges=[]∧(∃ p∈env,n.name=p.name∧n.ver=p.ver)∧n.ctx∈cs) ∧
    (∀ (i:Nat) (p:Pin),env[i]?=some p→∃ (e:Edge) (j:Nat) (y:Node),esn[i]?=some e∧e.label=p.name∧e.to=(j:Int)∧1≤j∧out'[j]?=some y∧y.name=p.name∧y.ver=p.ver∧cs[i]?=some y.ctx) ∧
    (∀ j,out.length≤j→j<out'.length→∃ e∈esn,e.to=(j:Int)):=by
 intro env
 induction env with
 | nil=>
   intro cs out es out' es' h _ h1 h2
   cases cs<;>(unfold zA4 at h;cases h;exact ⟨[],[],by simp,by simp,rfl,h2,by simp,by simp,fun j a b=>by omega⟩)
 | cons p l ih=>
   intro cs out es out' es' h hl h1 h2
   cases cs with
   | nil=>simp at hl
   | cons c cs=>
     obtain ⟨q1,q2,q3⟩:=zHS (p:=p) (c:=c) h1
     unfold zA4 at h
     split at h
     ·rename_i hp
      split at h
      ·cases h
      ·rename_i hlim
       obtain ⟨new,esn,e1,e2,e3,e4,e5,e6,e7⟩:=ih h (by simpa using hl) (by simp) (by rw[List.length_append];simp only[List.length_cons,List.length_nil];omega)
       have hat:out'[out.length]?=some ⟨p.name,p.ver,c,[]⟩:=by rw[e1];simp
       refine ⟨⟨p.name,p.ver,c,[]⟩::new,⟨p.name,(out.length:Int)⟩::esn,by rw[e1];simp,by rw[e2];simp,by simp[e3],e4,fun n hn=>?_,fun i p' hp'=>?_,fun j a b=>?_⟩
       ·rcases List.mem_cons.1 hn with rfl|hn
        ·exact ⟨rfl,⟨p,by simp,rfl,rfl⟩,by simp⟩
        ·obtain ⟨a1,⟨p',a2,a3⟩,a4⟩:=e5 n hn
         exact ⟨a1,⟨p',by simp[a2],a3⟩,by simp[a4]⟩
       ·cases i with
        | zero=>cases hp';exact ⟨_,out.length,_,rfl,rfl,rfl,h1,hat,rfl,rfl,rfl⟩
        | succ i=>exact e6 i p' hp'
       ·by_cases hj:j=out.length
        ·exact ⟨⟨p.name,(out.length:Int)⟩,by simp,by rw[hj]⟩
        ·obtain ⟨e,he,hee⟩:=e7 j (by rw[List.length_append];simp only[List.length_cons,List.length_nil];omega) b
         exact ⟨e,by simp[he],hee⟩
     ·rename_i hp
      obtain ⟨new,esn,e1,e2,e3,e4,e5,e6,e7⟩:=ih h (by simpa using hl) h1 h2
      obtain ⟨y,y1,y2,y3,y4⟩:=q3 (by omega)
      refine ⟨new,⟨p.name,(placeN out p c:Int)⟩::esn,e1,by rw[e2];simp,by simp[e3],e4,fun n hn=>?_,fun i p' hp'=>?_,fun j a b=>?_⟩
      ·obtain ⟨a1,⟨p',a2,a3⟩,a4⟩:=e5 n hn
       exact ⟨a1,⟨p',by simp[a2],a3⟩,by simp[a4]⟩
      ·cases i with
       | zero=>
         cases hp'
         exact ⟨_,placeN out p c,y,rfl,rfl,rfl,q1,by rw[e1,List.getElem?_append_left (gS.1 y1).1];exact y1,y2,y3,by rw[y4];rfl⟩
       | succ i=>exact e6 i p' hp'
      ·obtain ⟨e,he,hee⟩:=e7 j a b
       exact ⟨e,by simp[he],hee⟩
theorem zBn (ns:List Node) (i:Nat) (es:List Edge) (j:Nat):(zAz ns i es)[j]?=if j=i then (ns[j]?).map (fun n=>{ n with edges:=es}) else ns[j]?:=by
 unfold zAz
 rw[List.getElem?_modify]
 by_cases h:j=i
 ·subst h;simp
 ·have h':¬i=j:=fun e=>h e.symm
  simp[h,h']
theorem zDp (ns:List Node) (i:Nat) (es:List Edge):(zAz ns i es).length=ns.length:=by unfold zAz;exact List.length_modify _ _ _
theorem zC6 {ns:List Node} {i:Nat} {es:List Edge} {j:Nat} {y:Node} (h:ns[j]?=some y):∃ y',(zAz ns i es)[j]?=some y'∧y'.name=y.name∧y'.ver=y.ver∧y'.ctx=y.ctx:=by
 rw[zBn]
 by_cases hj:j=i
 ·rw[if_pos hj,h];exact ⟨_,rfl,rfl,rfl,rfl⟩
 ·rw[if_neg hj];exact ⟨y,h,rfl,rfl,rfl⟩
theorem zI4 {q:SIn} {nodes:List Node} {at_:Nat} {env:List Pin} {cs:List (List Pin)} {out:List Node} {es:List Edge} (h:SInv q nodes at_) {n:Node} (hat:nodes[at_]?=some n) (hs:SrtP env) (hc:∀ p∈n.ctx,p∈env)
  (hcs:ctxsP q.L q.m env env=some cs) (hb:zA4 q.lim env cs nodes []=some (out,es)):SInv q (zAz out at_ es) (at_+1):=by
 have hpos:1≤nodes.length:=by have:=(gS.1 hat).1;omega
 have hal:=(gS.1 hat).1
 obtain ⟨c1,c2,c3⟩:=zC9 hcs
 obtain ⟨new,esn,rfl,e2,e3,e4,e5,e6,e7⟩:=zDS hb c1 hpos h.len
 rw[List.nil_append] at e2
 subst e2
 have hold:∀ (j:Nat) (x:Node),nodes[j]?=some x→(nodes++new)[j]?=some x:=fun j x hx=>by rw[List.getElem?_append_left (gS.1 hx).1];exact hx
 have hedge:∀ e∈es,∃ (p:Pin) (j:Nat) (y:Node),p∈env∧e.label=p.name∧e.to=(j:Int)∧1≤j∧(nodes++new)[j]?=some y∧y.name=p.name∧y.ver=p.ver:=fun e he=>by
  obtain ⟨i,hi,hie⟩:=List.mem_iff_getElem.1 he
  have hlen:es.length=env.length:=by have:=congrArg List.length e3;simpa using this
  obtain ⟨e',j,y,f1,f2,f3,f4,f5,f6,f7,_⟩:=e6 i env[i] (gE (by omega))
  rw[gE hi,hie] at f1
  cases f1
  exact ⟨_,j,y,List.getElem_mem _,f2,f3,f4,f5,f6,f7⟩
 refine ⟨?_,by rw[zDp];exact e4,fun j m hj hm=>?_,fun i m hi hm=>?_,fun j hj hl=>?_,fun i m hi hm=>?_⟩
 ·obtain ⟨es0,hr⟩:=h.root
  rw[zBn]
  by_cases h0:0=at_
  ·rw[if_pos h0,hold 0 _ hr];exact ⟨es,rfl⟩
  ·rw[if_neg h0,hold 0 _ hr];exact ⟨es0,rfl⟩
 ·
  have key:∃ m0,(nodes++new)[j]?=some m0∧m.name=m0.name∧m.ver=m0.ver∧m.ctx=m0.ctx:=by
   rw[zBn] at hm
   split at hm
   ·cases hx:(nodes++new)[j]? with
    | none=>rw[hx] at hm;cases hm
    | some x=>rw[hx] at hm;cases hm;exact ⟨x,rfl,rfl,rfl,rfl⟩
   ·exact ⟨m,hm,rfl,rfl,rfl⟩
  obtain ⟨m0,g0,g1,g2,g3⟩:=key
  have hg:NGood q m0:=by
   by_cases hjl:j<nodes.length
   ·rw[List.getElem?_append_left hjl] at g0
    exact h.node j m0 hj g0
   ·rw[List.getElem?_append_right (by omega)] at g0
    obtain ⟨_,⟨p,hp,p1,p2⟩,hcm⟩:=e5 m0 (mG g0)
    obtain ⟨s1,_,s3⟩:=c3 _ hcm
    exact ⟨by rw[p1,p2];exact c2 p hp,s1,fun x hx=>c2 x (s3 x hx)⟩
  exact ⟨by rw[g1,g2];exact hg.nm,by rw[g3];exact hg.srt,by rw[g3];exact hg.pins⟩
 ·
  by_cases hi0:i=at_
  ·subst hi0
   rw[zBn,if_pos rfl,hold i n hat] at hm
   cases hm
   refine ⟨?_,fun e he=>?_,fun p hp=>?_⟩
   ·have hm:(es.map (·.label)).Pairwise fun a b=>lessB a b=true:=by rw[e3,List.pairwise_map];exact hs
    exact List.pairwise_map.1 hm
   ·obtain ⟨p,j,y,_,f2,f3,f4,f5,f6,_⟩:=hedge e he
    obtain ⟨y',g1,g2,_⟩:=zC6 (i:=i) (es:=es) f5
    exact ⟨j,y',f3,f4,g1,by rw[g2,f6,f2]⟩
   ·obtain ⟨k,hk,hke⟩:=List.mem_iff_getElem.1 (hc p hp)
    obtain ⟨e,j,y,f1,f2,f3,f4,f5,f6,f7,_⟩:=e6 k p (by rw[gE hk,hke])
    obtain ⟨y',g1,g2,g3,_⟩:=zC6 (i:=i) (es:=es) f5
    exact ⟨e,mG f1,f2,j,y',f3,g1,by rw[g3,f7]⟩
  ·have hm0:=hm
   rw[zBn,if_neg hi0,List.getElem?_append_left (by omega)] at hm0
   have hd:=h.done i m (by omega) hm0
   refine ⟨hd.srt,fun e he=>?_,fun p hp=>?_⟩
   ·obtain ⟨j,y,f1,f2,f3,f4⟩:=hd.tgt e he
    obtain ⟨y',g1,g2,_⟩:=zC6 (i:=at_) (es:=es) (hold j y f3)
    exact ⟨j,y',f1,f2,g1,by rw[g2,f4]⟩
   ·obtain ⟨e,he,f0,j,y,f1,f2,f3⟩:=hd.pin p hp
    obtain ⟨y',g1,g2,g3,_⟩:=zC6 (i:=at_) (es:=es) (hold j y f2)
    exact ⟨e,he,f0,j,y',f1,g1,by rw[g3,f3]⟩
 ·
  rw[zDp] at hl
  by_cases hjl:j<nodes.length
  ·obtain ⟨k,x,e,r1,r2,r3,r4,r5⟩:=h.reach j hj hjl
   refine ⟨k,x,e,r1,by omega,?_,r4,r5⟩
   rw[zBn,if_neg (by omega),hold k x r3]
  ·obtain ⟨e,he,hee⟩:=e7 j (by omega) hl
   refine ⟨at_,{ n with edges:=es},e,by omega,by omega,?_,he,hee⟩
   rw[zBn,if_pos rfl,hold at_ n hat];rfl
 ·rw[zBn,if_neg (by omega)] at hm
  by_cases hil:i<nodes.length
  ·rw[List.getElem?_append_left hil] at hm
   exact h.rest i m (by omega) hm
  ·rw[List.getElem?_append_right (by omega)] at hm
   exact (e5 m (mG hm)).1
def TOk (q:SIn):Task→Prop
 | .settle nodes at_=>SInv q nodes at_∧at_≤nodes.length
 | .choose nodes at_ _ env=>SInv q nodes at_∧∃ n,nodes[at_]?=some n∧SrtP env∧∀ p∈n.ctx,p∈env
 | .bind nodes at_ env=>SInv q nodes at_∧∃ n,nodes[at_]?=some n∧SrtP env∧∀ p∈n.ctx,p∈env
theorem zMx {q:SIn} {t':Nat} {ns:List Node}:∀ {f:Nat} {k:Task} {t:Nat},goS q f k t=.ok t' ns→TOk q k→SInv q ns ns.length:=by
 intro f
 induction f with
 | zero=>intro k t h;unfold goS at h;cases h
 | succ f ih=>
   intro k t h hk
   cases k with
   | settle nodes at_=>
     obtain ⟨h1,h2⟩:=hk
     rw[goS] at h
     split at h
     ·rename_i he
      cases h
      rwa [he] at h1
     ·rename_i hne
      have hal:at_<nodes.length:=by omega
      have hat:nodes[at_]?=some nodes[at_]:=gE hal
      have e:ctxAt nodes at_=(nodes[at_]).ctx:=by unfold ctxAt;rw[hat]
      refine ih h ⟨h1,_,hat,?_,fun p hp=>by rw[e];exact hp⟩
      rw[e]
      by_cases h0:at_=0
      ·obtain ⟨es,hr⟩:=h1.root
       subst h0
       rw[hat] at hr
       rw[Option.some.inj hr]
       exact List.Pairwise.nil
      ·exact (h1.node at_ _ (by omega) hat).srt
   | choose nodes at_ l env=>
     cases l with
     | nil=>rw[goS] at h;exact ih h hk
     | cons w l=>
       obtain ⟨h1,n,h2,h3,h4⟩:=hk
       rw[goS] at h
       obtain ⟨o,_,t1,ho⟩:=zJA h
       refine ih ho ⟨h1,n,h2,?_,fun p hp=>?_⟩
       ·cases o with
        | none=>exact h3
        | some v=>exact zCT _ h3
       ·cases o with
        | none=>exact h4 p hp
        | some v=>exact zDu (h4 p hp)
   | bind nodes at_ env=>
     obtain ⟨h1,n,h2,h3,h4⟩:=hk
     rw[goS] at h
     split at h
     ·cases h
     ·rename_i cs hcs
      split at h
      ·cases h
      ·rename_i out es hb
       have hal:=(gS.1 h2).1
       have hinv:=zI4 h1 h2 h3 h4 hcs hb
       refine ih h ⟨hinv,?_⟩
       rw[zDp]
       obtain ⟨c1,_⟩:=zC9 hcs
       obtain ⟨new,_,e1,_⟩:=zDS hb c1 (by omega) h1.len
       rw[e1,List.length_append]
       omega
theorem SInv.start {q:SIn} (h:1≤q.lim):SInv q [rootN] 0 where
 root:=⟨[],rfl⟩
 len:=h
 node:=fun j n hj hn=>by cases j with|zero=>omega|succ j=>simp at hn
 done:=fun i n hi=>by omega
 reach:=fun j hj hl=>by simp at hl;omega
 rest:=fun i n hi hn=>by cases i with|zero=>cases hn;rfl|succ i=>simp at hn
theorem zGW {q:SIn} {ns:List Node} (hl:1≤q.lim) (h:solS q=some ns):SInv q ns ns.length:=by
 unfold solS at h
 split at h
 ·cases h
 ·split at h
  ·rename_i t0 ns0 hr
   cases h
   exact zMx hr ⟨SInv.start hl,nZ _⟩
  ·cases h
theorem SInv.reachG {q:SIn} {ns:List Node} (h:SInv q ns ns.length):zMq ns:=fun j hj hl=>by
 obtain ⟨k,x,e,r1,_,r3,r4,r5⟩:=h.reach j hj hl
 exact ⟨k,x,e,r1,r3,r4,r5⟩
theorem zIr:∀ {l:List ByteArray} {p:Option ByteArray},l.Pairwise (fun a b=>lessB a b=true)→(∀ s∈l,nameB s=true∧behind p s=true)→zAP p l=true:=by
 intro l
 induction l with
 | nil=>intro p _ _;unfold zAP;rfl
 | cons s l ih=>
   intro p h hn
   rw[List.pairwise_cons] at h
   obtain ⟨h1,h2⟩:=hn s (by simp)
   unfold zAP
   rw[h1,h2,ih (p:=some s) h.2 fun y hy=>⟨(hn y (by simp[hy])).1,(show lessB s y=true from h.1 y hy)⟩]
   rfl
theorem zJs (g:List Node):∀ {l:List Node} {m:List Pack} {k:Nat},m.length=l.length→(∀ (i:Nat) (n:Node) (x:Pack),l[i]?=some n→m[i]?=some x→formP g (k+i) n x=true)→zB2 g k l m=true:=by
 intro l
 induction l with
 | nil=>intro m k hl _;rw[List.eq_nil_of_length_eq_zero hl];rfl
 | cons n l ih=>
   intro m k hl h
   cases m with
   | nil=>simp at hl
   | cons x m=>
     unfold zB2
     have h0:=h 0 n x rfl rfl
     rw[Nat.add_zero] at h0
     rw[h0,ih (by simpa using hl) fun i n' x' hn hx=>by have:=h (i+1) n' x' hn hx;rwa [show k+(i+1)=k+1+i from by omega] at this]
     rfl
theorem zLa {es:List Edge} (hs:es.Pairwise fun a b=>lessB a.label b.label=true) {e:Edge} (he:e∈es):∃ k,zA2 es e.label=some k∧es[k]?=some e:=by
 induction es with
 | nil=>cases he
 | cons f es ih=>
   rw[List.pairwise_cons] at hs
   unfold zA2
   rcases List.mem_cons.1 he with rfl|he
   ·exact ⟨0,by rw[if_pos rfl],rfl⟩
   ·have hne:¬f.label=e.label:=fun h=>by have:=hs.1 e he;rw[h,zA9] at this;cases this
    obtain ⟨k,h1,h2⟩:=ih hs.2 he
    exact ⟨k+1,by rw[if_neg hne,h1];rfl,h2⟩
theorem zDN (L:List Pack) (ns:List Node):(zB7 L ns).length=ns.length:=by
 cases ns<;>simp[zB7]
theorem zG7 {L:List Pack} {ns:List Node} {i:Nat} {n:Node} (h1:1≤i) (h:ns[i]?=some n):(zB7 L ns)[i]?=some ((getC L n.name n.ver).getD zAC):=by
 cases ns with
 | nil=>cases h
 | cons a l=>
   cases i with
   | zero=>omega
   | succ i=>
     unfold zB7
     rw[List.getElem?_cons_succ] at h ⊢
     rw[List.getElem?_map,h];rfl
theorem zM1 {q:SIn} {ns:List Node} (hL:∀ x∈q.L,packB x=true) (hlim:q.lim≤128) (h:SInv q ns ns.length):mayPl ns (zB7 q.L ns)=true:=by
 obtain ⟨es0,hr⟩:=h.root
 have hpos:=(gS.1 hr).1
 have hname:∀ {s:ByteArray} {v:Ver},(∃ x,getC q.L s v=some x)→nameB s=true:=fun {s v} hx=>by
  obtain ⟨x,hx⟩:=hx
  obtain ⟨h1,h2,_⟩:=zDo hx
  have:=hL x h1
  unfold packB at this
  rw[Bool.and_eq_true] at this
  rw[←h2];exact this.1
 unfold mayPl
 rw[decide_eq_true (show 1≤ns.length by omega),decide_eq_true (nT h.len hlim),decide_eq_true (zDN _ _),Bool.true_and,Bool.true_and,Bool.true_and]
 refine zJs ns (zDN _ _) fun i n x hn hx=>?_
 rw[Nat.zero_add]
 have hil:=(gS.1 hn).1
 have hd:=h.done i n hil hn
 have hctx:SrtP n.ctx∧∀ p∈n.ctx,∃ x,getC q.L p.name p.ver=some x:=by
  by_cases h0:i=0
  ·subst h0
   rw[hr] at hn
   rw[←Option.some.inj hn]
   exact ⟨List.Pairwise.nil,fun p hp=>by cases hp⟩
  ·have:=h.node i n (by omega) hn
   exact ⟨this.srt,this.pins⟩
 have htgt:∀ e∈n.edges,edgeP ns e=true∧nameB e.label=true:=fun e he=>by
  obtain ⟨j,y,f1,f2,f3,f4⟩:=hd.tgt e he
  have hj:=(gS.1 f3).1
  refine ⟨?_,?_⟩
  ·unfold edgeP
   rw[f1,decide_eq_true (by omega),decide_eq_true (by omega),Int.toNat_natCast,f3,Bool.true_and,Bool.true_and]
   exact decide_eq_true f4
  ·rw[←f4];exact hname (h.node j y f2 f3).nm
 unfold formP
 rw[Bool.and_eq_true,Bool.and_eq_true,Bool.and_eq_true,Bool.and_eq_true]
 refine ⟨?_,⟨?_,?_⟩,?_,?_⟩
 ·unfold headP
  by_cases h0:i=0
  ·rw[if_pos h0]
   subst h0
   rw[hr] at hn
   obtain rfl:=Option.some.inj hn
   have hx0:x=zAC:=by
    cases ns with
    | nil=>cases hr
    | cons a l=>unfold zB7 at hx;exact (Option.some.inj hx).symm
   subst hx0
   unfold zER
   rw[zAj rfl]
   have h0:(rootN.name.toList==[])=true:=by rw[Go.ByteArray.toList_eq];rfl
   show (rootN.name.toList==[]&&(zeroV rootN.ver&&(decide (rootN.ctx.length=0)&&true)))=true
   rw[h0]
   rfl
  ·rw[if_neg h0]
   obtain ⟨x0,hx0⟩:=(h.node i n (by omega) hn).nm
   rw[zG7 (by omega) hn,hx0] at hx
   have e:x0=x:=Option.some.inj hx
   subst e
   obtain ⟨g1,g2,g3⟩:=zDo hx0
   unfold zEP
   rw[hL x0 g1,decide_eq_true g2,zAj g3]
   rfl
 ·exact zIr (by unfold zAZ;rw[List.pairwise_map];exact hctx.1) fun s hs=>by
   obtain ⟨p,hp,rfl⟩:=List.mem_map.1 hs
   exact ⟨hname (hctx.2 p hp),rfl⟩
 ·exact zIr (by unfold zAE;rw[List.pairwise_map];exact hd.srt) fun s hs=>by
   obtain ⟨e,he,rfl⟩:=List.mem_map.1 hs
   exact ⟨(htgt e he).2,rfl⟩
 ·exact List.all_eq_true.2 fun e he=>(htgt e he).1
 ·refine List.all_eq_true.2 fun p hp=>?_
  obtain ⟨e,he,f0,j,y,f1,f2,f3⟩:=hd.pin p hp
  obtain ⟨k,k1,k2⟩:=zLa hd.srt he
  unfold pinP
  rw[←f0,k1]
  simp only
  rw[k2]
  simp only
  rw[f1,Int.toNat_natCast,f2]
  exact zAj f3
def zB0 (env l:List Pin):Prop:=∀ x∈l,zAR env x.name=some x.ver
def ClP (L:List Pack) (m:Mani) (env r:List Pin) (p:Pin):Prop:=∃ x,getC L p.name p.ver=some x∧∀ d∈zBj m x.peers,∃ v,zAR env d.name=some v∧inSB d.range v=true∧(⟨d.name,v⟩:Pin)∈r
theorem ClP.more {L:List Pack} {m:Mani} {env r r':List Pin} {p:Pin} (h:ClP L m env r p) (hr:∀ x∈r,x∈r'):ClP L m env r' p:=by
 obtain ⟨x,h1,h2⟩:=h
 refine ⟨x,h1,fun d hd=>?_⟩
 obtain ⟨v,g1,g2,g3⟩:=h2 d hd
 exact ⟨v,g1,g2,hr _ g3⟩
theorem zEi {l:List Pin} (h:SrtP l) {x:Pin} (hx:x∈l):zAR l x.name=some x.ver:=by
 induction l with
 | nil=>cases hx
 | cons y l ih=>
   unfold SrtP at h
   rw[List.pairwise_cons] at h
   unfold zAR
   rcases List.mem_cons.1 hx with rfl|hx
   ·rw[if_pos rfl]
   ·rw[if_neg (fun e=>by have:=h.1 x hx;rw[e,zA9] at this;cases this)]
    exact ih h.2 hx
theorem zHP {l:List Pin} {s:ByteArray} (h:pinIs l s=true):∃ x∈l,x.name=s:=by
 unfold pinIs at h
 split at h
 ·cases h
 ·rename_i x hx
  exact ⟨x,mG hx,by simpa using h⟩
theorem zLV {l:List Pin} {p:Pin} (h:¬pinIs l p.name=true):p∈withP l p:=by
 unfold withP
 rw[if_neg h]
 simp
theorem zNW {env:List Pin}:∀ {ds:List Dep} {out next out' next':List Pin},askP env ds out next=some (out',next')→zB0 env out →
  zB0 env out'∧(∀ x∈out,x∈out')∧(∀ x∈next,x∈next')∧(∀ x∈out',x∈out∨x∈next')∧∀ d∈ds,∃ v,zAR env d.name=some v∧inSB d.range v=true∧(⟨d.name,v⟩:Pin)∈out':=by
 intro ds
 induction ds with
 | nil=>intro out next out' next' h ht;unfold askP at h;cases h;exact ⟨ht,fun x h=>h,fun x h=>h,fun x h=>.inl h,fun d hd=>by cases hd⟩
 | cons d ds ih=>
   intro out next out' next' h ht
   unfold askP at h
   split at h
   ·cases h
   ·rename_i v hv
    split at h
    ·rename_i hr
     have ht':zB0 env (withP out ⟨d.name,v⟩):=fun x hx=>by
      rcases withP_mem hx with rfl|hx
      ·exact hv
      ·exact ht x hx
     obtain ⟨h1,h2,h3,h4,h5⟩:=ih h ht'
     have hin:(⟨d.name,v⟩:Pin)∈withP out ⟨d.name,v⟩:=by
      by_cases hp:pinIs out d.name=true
      ·obtain ⟨x,hx,hxn⟩:=zHP hp
       have:=ht x hx
       rw[hxn,hv] at this
       have e:x=⟨d.name,v⟩:=by cases x;simp only at hxn this;rw[hxn,Option.some.inj this]
       exact zDu (by rw[←e];exact hx)
      ·exact zLV hp
     refine ⟨h1,fun x hx=>h2 x (zDu hx),fun x hx=>h3 x ?_,fun x hx=>?_,fun d' hd'=>?_⟩
     ·split
      ·exact hx
      ·exact List.mem_append.2 (.inl hx)
     ·rcases h4 x hx with hx|hx
      ·rcases withP_mem hx with rfl|hx
       ·by_cases hp:pinIs out d.name=true
        ·obtain ⟨x,hx,hxn⟩:=zHP hp
         have:=ht x hx
         rw[hxn,hv] at this
         have e:x=⟨d.name,v⟩:=by cases x;simp only at hxn this;rw[hxn,Option.some.inj this]
         exact .inl (by rw[←e];exact hx)
        ·exact .inr (h3 _ (by rw[if_neg hp];simp))
       ·exact .inl hx
      ·exact .inr hx
     ·rcases List.mem_cons.1 hd' with rfl|hd'
      ·exact ⟨v,hv,hr,h2 _ hin⟩
      ·exact h5 d' hd'
    ·cases h
theorem zMB {L:List Pack} {m:Mani} {env:List Pin}:∀ {f:Nat} {rest out r:List Pin},ctxGo L m env f rest out=some r→zB0 env out →
  zB0 env r∧(∀ x∈out,x∈r)∧(∀ x∈rest,ClP L m env r x)∧∀ x∈r,x∈out∨ClP L m env r x:=by
 intro f
 induction f with
 | zero=>
   intro rest out r h ht
   cases rest with
   | nil=>unfold ctxGo at h;cases h;exact ⟨ht,fun x h=>h,(fun x h=>by cases h),fun x h=>.inl h⟩
   | cons p rest=>unfold ctxGo at h;cases h
 | succ f ih=>
   intro rest out r h ht
   cases rest with
   | nil=>unfold ctxGo at h;cases h;exact ⟨ht,fun x h=>h,(fun x h=>by cases h),fun x h=>.inl h⟩
   | cons p rest=>
     unfold ctxGo at h
     split at h
     ·cases h
     ·rename_i x hx
      split at h
      ·cases h
      ·rename_i out' rest' ha
       obtain ⟨a1,a2,a3,a4,a5⟩:=zNW ha ht
       obtain ⟨g1,g2,g3,g4⟩:=ih h a1
       refine ⟨g1,fun y hy=>g2 y (a2 y hy),fun y hy=>?_,fun y hy=>?_⟩
       ·rcases List.mem_cons.1 hy with rfl|hy
        ·refine ⟨x,hx,fun d hd=>?_⟩
         obtain ⟨v,b1,b2,b3⟩:=a5 d hd
         exact ⟨v,b1,b2,g2 _ b3⟩
        ·exact g3 y (a3 y hy)
       ·rcases g4 y hy with hy|hy
        ·rcases a4 y hy with hy|hy
         ·exact .inl hy
         ·exact .inr (g3 y hy)
        ·exact .inr hy
theorem zMH {env env' r:List Pin}:∀ {ds:List Dep} {out next:List Pin},(∀ d∈ds,∃ v,zAR env d.name=some v∧inSB d.range v=true∧(⟨d.name,v⟩:Pin)∈r)→zB0 env' r→(∀ x∈out,x∈r)→(∀ x∈next,x∈r) →
  ∃ out' next',askP env ds out next=some (out',next')∧askP env' ds out next=some (out',next')∧(∀ x∈out',x∈r)∧∀ x∈next',x∈r:=by
 intro ds
 induction ds with
 | nil=>intro out next _ _ ho hn;exact ⟨out,next,rfl,rfl,ho,hn⟩
 | cons d ds ih=>
   intro out next h ht ho hn
   obtain ⟨v,h1,h2,h3⟩:=h d (by simp)
   have h4:zAR env' d.name=some v:=ht _ h3
   obtain ⟨out',next',g1,g2,g3,g4⟩:=ih (out:=withP out ⟨d.name,v⟩) (next:=if pinIs out d.name=true then next else next++[⟨d.name,v⟩]) (fun d' hd'=>h d' (by simp[hd'])) ht (fun x hx=>by
    rcases withP_mem hx with rfl|hx
    ·exact h3
    ·exact ho x hx) (fun x hx=>by
    split at hx
    ·exact hn x hx
    ·rcases List.mem_append.1 hx with hx|hx
     ·exact hn x hx
     ·rw[List.mem_singleton.1 hx];exact h3)
   refine ⟨out',next',?_,?_,g3,g4⟩
   ·rw[askP,h1];simp only[h2,if_true];exact g1
   ·rw[askP,h4];simp only[h2,if_true];exact g2
theorem zKw {L:List Pack} {m:Mani} {env env' r:List Pin} (hc:∀ x∈r,ClP L m env r x) (ht:zB0 env' r):∀ {f:Nat} {rest out:List Pin},(∀ x∈rest,x∈r)→(∀ x∈out,x∈r) →
  ctxGo L m env f rest out=ctxGo L m env' f rest out∧∀ r',ctxGo L m env f rest out=some r'→∀ x∈r',x∈r:=by
 intro f
 induction f with
 | zero=>
   intro rest out hr ho
   cases rest with
   | nil=>unfold ctxGo;exact ⟨rfl,fun r' h=>by cases h;exact ho⟩
   | cons p rest=>unfold ctxGo;exact ⟨rfl,fun r' h=>by cases h⟩
 | succ f ih=>
   intro rest out hr ho
   cases rest with
   | nil=>unfold ctxGo;exact ⟨rfl,fun r' h=>by cases h;exact ho⟩
   | cons p rest=>
     obtain ⟨x,h1,h2⟩:=hc p (hr p (by simp))
     obtain ⟨out',rest',g1,g2,g3,g4⟩:=zMH (next:=rest) h2 ht ho (fun y hy=>hr y (by simp[hy]))
     have:=ih g4 g3
     rw[ctxGo,ctxGo,h1]
     simp only
     rw[g1,g2]
     exact this
theorem zLM {L:List Pack} {m:Mani} {env env' r:List Pin} {p c:Pin} (h:ctxP L m env p=some r) (hc:c∈r) (ht:zB0 env' r):ctxP L m env' c=ctxP L m env c∧∀ r',ctxP L m env c=some r'→∀ x∈r',x∈r:=by
 obtain ⟨_,_,_,h4⟩:=zMB h (fun x hx=>by cases hx)
 have hcl:∀ x∈r,ClP L m env r x:=fun x hx=>(h4 x hx).resolve_left (by simp)
 have hfu:∀ (e:List Pin) (F:Nat),e.length+1≤F→ctxP L m e c=ctxGo L m e F [c] []:=fun e F hF=>zEE List.Pairwise.nil (fun x hx=>by cases hx) (by unfold muC;simp;omega) (by unfold muC;simp;omega)
 obtain ⟨g1,g2⟩:=zKw (f:=env.length+env'.length+1) (rest:=[c]) (out:=[]) hcl ht (fun x hx=>by rw[List.mem_singleton.1 hx];exact hc) (fun x hx=>by cases hx)
 rw[hfu env (env.length+env'.length+1) (by omega),hfu env' (env.length+env'.length+1) (by omega)]
 exact ⟨g1.symm,g2⟩
theorem zMT {L:List Pack} {m:Mani} {env:List Pin}:∀ {l:List Pin} {cs:List (List Pin)},ctxsP L m env l=some cs→∀ (i:Nat) (p:Pin),l[i]?=some p→∃ c,cs[i]?=some c∧ctxP L m env p=some c:=by
 intro l
 induction l with
 | nil=>intro cs _ i p hp;cases hp
 | cons a l ih=>
   intro cs h i p hp
   unfold ctxsP at h
   split at h
   ·cases h
   ·rename_i x hx
    split at h
    ·cases h
    ·rename_i xs hxs
     cases h
     cases i with
     | zero=>cases hp;exact ⟨x,rfl,hx⟩
     | succ i=>exact ih hxs i p hp
theorem zLY {L:List Pack} {m:Mani} {env:List Pin}:∀ {l:List Pin} {cs:List (List Pin)},ctxsP L m env l=some cs→∀ c∈cs,∃ p,ctxP L m env p=some c:=by
 intro l
 induction l with
 | nil=>intro cs h c hc;unfold ctxsP at h;cases h;cases hc
 | cons a l ih=>
   intro cs h c hc
   unfold ctxsP at h
   split at h
   ·cases h
   ·rename_i x hx
    split at h
    ·cases h
    ·rename_i xs hxs
     cases h
     rcases List.mem_cons.1 hc with rfl|hc
     ·exact ⟨a,hx⟩
     ·exact ih hxs c hc
def zDt (l:List Node):Prop:=∀ (i j:Nat) (n m:Node),1≤i→1≤j→l[i]?=some n→l[j]?=some m→n.name=m.name→n.ver=m.ver→n.ctx=m.ctx→i=j
theorem zGm {p:Pin} {c:List Pin}:∀ {l:List Node},zAu p c l=l.length→∀ (j:Nat) (y:Node),l[j]?=some y→¬(y.name=p.name∧y.ver=p.ver∧y.ctx=c):=by
 intro l
 induction l with
 | nil=>intro _ j y hy;cases hy
 | cons n l ih=>
   intro h j y hy
   unfold zAu at h
   split at h
   ·simp at h
   ·rename_i hn
    cases j with
    | zero=>cases hy;exact fun e=>hn (zKL.2 e)
    | succ j=>exact ih (by rw[List.length_cons] at h;omega) j y hy
theorem zIS {p:Pin} {c:List Pin} {l:List Node} (h:placeN l p c=l.length) (hl:1≤l.length):∀ (j:Nat) (y:Node),1≤j→l[j]?=some y→¬(y.name=p.name∧y.ver=p.ver∧y.ctx=c):=by
 cases l with
 | nil=>simp at hl
 | cons n l=>
   intro j y hj hy
   cases j with
   | zero=>omega
   | succ j=>
     have e:placeN (n::l) p c=zAu p c l+1:=rfl
     exact zGm (by rw[e,List.length_cons] at h;omega) j y hy
theorem zDt.snoc {l:List Node} {n:Node} (h:zDt l) (hn:∀ (j:Nat) (y:Node),1≤j→l[j]?=some y→¬(y.name=n.name∧y.ver=n.ver∧y.ctx=n.ctx)):zDt (l++[n]):=by
 have hat:∀ (j:Nat) (y:Node),(l++[n])[j]?=some y→l[j]?=some y∨(j=l.length∧y=n):=fun j y hy=>by
  rcases Nat.lt_trichotomy j l.length with hlt|heq|hgt
  ·rw[List.getElem?_append_left hlt] at hy;exact .inl hy
  ·rw[heq,List.getElem?_append_right (nR _),Nat.sub_self] at hy
   cases hy
   exact .inr ⟨heq,rfl⟩
  ·rw[List.getElem?_eq_none (by rw[List.length_append,List.length_singleton];omega)] at hy
   cases hy
 intro i j a b hi hj ha hb e1 e2 e3
 rcases hat i a ha with ha|⟨ha,ea⟩<;>rcases hat j b hb with hb|⟨hb,eb⟩
 ·exact h i j a b hi hj ha hb e1 e2 e3
 ·exact absurd (by rw[←eb];exact ⟨e1,e2,e3⟩) (hn i a hi ha)
 ·exact absurd (by rw[←ea];exact ⟨e1.symm,e2.symm,e3.symm⟩) (hn j b hj hb)
 ·omega
theorem zHW {lim:Nat}:∀ {env:List Pin} {cs:List (List Pin)} {out:List Node} {es:List Edge} {out':List Node} {es':List Edge},zA4 lim env cs out es=some (out',es')→1≤out.length→zDt out→zDt out':=by
 intro env
 induction env with
 | nil=>intro cs out es out' es' h _ ha;cases cs<;>(unfold zA4 at h;cases h;exact ha)
 | cons p l ih=>
   intro cs out es out' es' h h1 ha
   cases cs with
   | nil=>unfold zA4 at h;cases h;exact ha
   | cons c cs=>
     unfold zA4 at h
     split at h
     ·rename_i hp
      split at h
      ·cases h
      ·exact ih h (by simp) (ha.snoc (zIS hp h1))
     ·exact ih h h1 ha
theorem zDt.setE {l:List Node} (h:zDt l) (i:Nat) (es:List Edge):zDt (zAz l i es):=by
 have key:∀ (j:Nat) (m:Node),(zAz l i es)[j]?=some m→∃ m0,l[j]?=some m0∧m.name=m0.name∧m.ver=m0.ver∧m.ctx=m0.ctx:=fun j m hm=>by
  rw[zBn] at hm
  split at hm
  ·cases hx:l[j]? with
   | none=>rw[hx] at hm;cases hm
   | some x=>rw[hx] at hm;cases hm;exact ⟨x,rfl,rfl,rfl,rfl⟩
  ·exact ⟨m,hm,rfl,rfl,rfl⟩
 intro a b n m ha hb hn hm e1 e2 e3
 obtain ⟨n0,p1,p2,p3,p4⟩:=key a n hn
 obtain ⟨m0,r1,r2,r3,r4⟩:=key b m hm
 exact h a b n0 m0 ha hb p1 r1 (by rw[←p2,←r2,e1]) (by rw[←p3,←r3,e2]) (by rw[←p4,←r4,e3])
def zFu (q:SIn) (nodes:List Node) (env:List Pin) (e:Edge) (p:Pin):Prop:=e.label=p.name∧∃ (j:Nat) (y:Node),e.to=(j:Int)∧1≤j∧nodes[j]?=some y∧y.name=p.name∧y.ver=p.ver∧ctxP q.L q.m env p=some y.ctx
structure EnvOf (q:SIn) (nodes:List Node) (n:Node) (env:List Pin):Prop where
 srt:SrtP env
 ctx:∀ p∈n.ctx,p∈env
 edge:∀ e∈n.edges,∃ p∈env,zFu q nodes env e p
 pin:∀ p∈env,∃ e∈n.edges,zFu q nodes env e p
structure SInv2 (q:SIn) (nodes:List Node) (at_:Nat):Prop where
 made:∀ (j:Nat) (n:Node),1≤j→nodes[j]?=some n→∃ env p,ctxP q.L q.m env p=some n.ctx
 apart:zDt nodes
 env:∀ (i:Nat) (n:Node),i<at_→nodes[i]?=some n→∃ env,EnvOf q nodes n env
theorem zFu.more {q:SIn} {nodes nodes':List Node} {env:List Pin} {e:Edge} {p:Pin} (h:zFu q nodes env e p) (hn:∀ (j:Nat) (y:Node),nodes[j]?=some y→∃ y',nodes'[j]?=some y'∧y'.name=y.name∧y'.ver=y.ver∧y'.ctx=y.ctx):zFu q nodes' env e p:=by
 obtain ⟨h1,j,y,h2,h3,h4,h5,h6,h7⟩:=h
 obtain ⟨y',g1,g2,g3,g4⟩:=hn j y h4
 exact ⟨h1,j,y',h2,h3,g1,by rw[g2,h5],by rw[g3,h6],by rw[g4,h7]⟩
theorem zKP {q:SIn} {nodes:List Node} {at_:Nat} {env:List Pin} {cs:List (List Pin)} {out:List Node} {es:List Edge} (h:SInv q nodes at_) (h':SInv2 q nodes at_) {n:Node} (hat:nodes[at_]?=some n) (hs:SrtP env) (hc:∀ p∈n.ctx,p∈env)
  (hcs:ctxsP q.L q.m env env=some cs) (hb:zA4 q.lim env cs nodes []=some (out,es)):SInv2 q (zAz out at_ es) (at_+1):=by
 have hal:=(gS.1 hat).1
 have hpos:1≤nodes.length:=by omega
 obtain ⟨c1,c2,c3⟩:=zC9 hcs
 have hap:=zHW hb hpos h'.apart
 obtain ⟨new,esn,e1,e2,e3,e4,e5,e6,e7⟩:=zDS hb c1 hpos h.len
 rw[List.nil_append] at e2
 subst e2
 have hold:∀ (j:Nat) (x:Node),nodes[j]?=some x→out[j]?=some x:=fun j x hx=>by rw[e1,List.getElem?_append_left (gS.1 hx).1];exact hx
 have hset:∀ (j:Nat) (y:Node),out[j]?=some y→∃ y',(zAz out at_ es)[j]?=some y'∧y'.name=y.name∧y'.ver=y.ver∧y'.ctx=y.ctx:=fun j y hy=>zC6 hy
 have hedge:∀ (i:Nat) (p:Pin),env[i]?=some p→∃ e,es[i]?=some e∧zFu q out env e p:=fun i p hp=>by
  obtain ⟨e,j,y,f1,f2,f3,f4,f5,f6,f7,f8⟩:=e6 i p hp
  obtain ⟨c,g1,g2⟩:=zMT hcs i p hp
  rw[g1] at f8
  exact ⟨e,f1,f2,j,y,f3,f4,f5,f6,f7,by rw[g2];exact f8⟩
 refine ⟨fun j m hj hm=>?_,hap.setE _ _,fun i m hi hm=>?_⟩
 ·have key:∃ m0,out[j]?=some m0∧m.ctx=m0.ctx:=by
   rw[zBn] at hm
   split at hm
   ·cases hx:out[j]? with
    | none=>rw[hx] at hm;cases hm
    | some x=>rw[hx] at hm;cases hm;exact ⟨x,rfl,rfl⟩
   ·exact ⟨m,hm,rfl⟩
  obtain ⟨m0,g0,g1⟩:=key
  rw[g1]
  rw[e1] at g0
  by_cases hjl:j<nodes.length
  ·rw[List.getElem?_append_left hjl] at g0
   exact h'.made j m0 hj g0
  ·rw[List.getElem?_append_right (by omega)] at g0
   obtain ⟨_,_,hcm⟩:=e5 m0 (mG g0)
   obtain ⟨p,hp⟩:=zLY hcs _ hcm
   exact ⟨env,p,hp⟩
 ·by_cases hi0:i=at_
  ·subst hi0
   rw[zBn,if_pos rfl,hold i n hat] at hm
   cases hm
   refine ⟨env,hs,hc,fun e he=>?_,fun p hp=>?_⟩
   ·obtain ⟨k,hk,hke⟩:=List.mem_iff_getElem.1 (show e∈es from he)
    have hlen:es.length=env.length:=by have:=congrArg List.length e3;simpa using this
    obtain ⟨e',f1,f2⟩:=hedge k env[k] (gE (by omega))
    rw[gE hk,hke] at f1
    cases f1
    exact ⟨_,List.getElem_mem _,f2.more hset⟩
   ·obtain ⟨k,hk,hke⟩:=List.mem_iff_getElem.1 hp
    obtain ⟨e',f1,f2⟩:=hedge k p (by rw[gE hk,hke])
    exact ⟨e',mG f1,f2.more hset⟩
  ·rw[zBn,if_neg hi0] at hm
   rw[e1,List.getElem?_append_left (by omega)] at hm
   obtain ⟨ev,g⟩:=h'.env i m (by omega) hm
   have hmore:∀ (j:Nat) (y:Node),nodes[j]?=some y→∃ y',(zAz out at_ es)[j]?=some y'∧y'.name=y.name∧y'.ver=y.ver∧y'.ctx=y.ctx:=fun j y hy=>hset j y (hold j y hy)
   refine ⟨ev,g.srt,g.ctx,fun e he=>?_,fun p hp=>?_⟩
   ·obtain ⟨p,hp,hpe⟩:=g.edge e he
    exact ⟨p,hp,hpe.more hmore⟩
   ·obtain ⟨e,he,hpe⟩:=g.pin p hp
    exact ⟨e,he,hpe.more hmore⟩
def TOk2 (q:SIn):Task→Prop
 | .settle nodes at_=>SInv2 q nodes at_
 | .choose nodes at_ _ _=>SInv2 q nodes at_
 | .bind nodes at_ _=>SInv2 q nodes at_
theorem zLu {q:SIn} {t':Nat} {ns:List Node}:∀ {f:Nat} {k:Task} {t:Nat},goS q f k t=.ok t' ns→TOk q k→TOk2 q k→SInv2 q ns ns.length:=by
 intro f
 induction f with
 | zero=>intro k t h;unfold goS at h;cases h
 | succ f ih=>
   intro k t h hk hk2
   cases k with
   | settle nodes at_=>
     obtain ⟨h1,h2⟩:=hk
     rw[goS] at h
     split at h
     ·rename_i he
      cases h
      have:SInv2 q ns at_:=hk2
      rwa [he] at this
     ·rename_i hne
      have hal:at_<nodes.length:=by omega
      have hat:nodes[at_]?=some nodes[at_]:=gE hal
      have e:ctxAt nodes at_=(nodes[at_]).ctx:=by unfold ctxAt;rw[hat]
      refine ih h ⟨h1,_,hat,?_,fun p hp=>by rw[e];exact hp⟩ hk2
      rw[e]
      by_cases h0:at_=0
      ·obtain ⟨es,hr⟩:=h1.root
       subst h0
       rw[hat] at hr
       rw[Option.some.inj hr]
       exact List.Pairwise.nil
      ·exact (h1.node at_ _ (by omega) hat).srt
   | choose nodes at_ l env=>
     cases l with
     | nil=>rw[goS] at h;exact ih h hk hk2
     | cons w l=>
       obtain ⟨h1,n,h2,h3,h4⟩:=hk
       rw[goS] at h
       obtain ⟨o,_,t1,ho⟩:=zJA h
       refine ih ho ⟨h1,n,h2,?_,fun p hp=>?_⟩ hk2
       ·cases o with
        | none=>exact h3
        | some v=>exact zCT _ h3
       ·cases o with
        | none=>exact h4 p hp
        | some v=>exact zDu (h4 p hp)
   | bind nodes at_ env=>
     obtain ⟨h1,n,h2,h3,h4⟩:=hk
     rw[goS] at h
     split at h
     ·cases h
     ·rename_i cs hcs
      split at h
      ·cases h
      ·rename_i out es hb
       have hal:=(gS.1 h2).1
       refine ih h ⟨zI4 h1 h2 h3 h4 hcs hb,?_⟩ (zKP h1 hk2 h2 h3 h4 hcs hb)
       rw[zDp]
       obtain ⟨c1,_⟩:=zC9 hcs
       obtain ⟨new,_,e1,_⟩:=zDS hb c1 (by omega) h1.len
       rw[e1,List.length_append]
       omega
theorem SInv2.start (q:SIn):SInv2 q [rootN] 0 where
 made:=fun j n hj hn=>by cases j with|zero=>omega|succ j=>simp at hn
 apart:=fun i j n m hi hj hn=>by cases i with|zero=>omega|succ i=>simp at hn
 env:=fun i n hi=>by omega
theorem zKk {q:SIn} {ns:List Node} (hl:1≤q.lim) (h:solS q=some ns):SInv2 q ns ns.length:=by
 unfold solS at h
 split at h
 ·cases h
 ·split at h
  ·rename_i t0 ns0 hr
   cases h
   exact zLu hr ⟨SInv.start hl,nZ _⟩ (SInv2.start q)
  ·cases h
structure SolG (g:List Node):Prop where
 two:∀ (i j:Nat) (n y:Node) (e:Edge) (c:Pin),g[i]?=some n→e∈n.edges→e.to=(j:Int)→g[j]?=some y→c∈y.ctx→∃ e1∈n.edges,e1.label=c.name∧∀ e2∈y.edges,e2.label=c.name→e2.to=e1.to
 low:∀ (j k:Nat) (y z:Node) (e:Edge) (c0:Pin),g[j]?=some y→e∈y.edges→c0∈y.ctx→e.label=c0.name→e.to=(k:Int)→g[k]?=some z→∀ c∈z.ctx,c∈y.ctx
theorem zLf {q:SIn} {ns:List Node} (h:SInv q ns ns.length) (h2:SInv2 q ns ns.length):SolG ns:=by
 have huni:∀ {l:List Pin},SrtP l→∀ {a b:Pin},a∈l→b∈l→a.name=b.name→a=b:=fun {l} hs {a b} ha hb e=>by
  have g1:=zEi hs ha
  have g2:=zEi hs hb
  rw[e,g2] at g1
  cases a;cases b
  simp only at e g1
  rw[e,Option.some.inj g1]
 refine ⟨fun i j n y e c hn he hto hy hc=>?_,fun j k y z e c0 hy he hc0 hl hto hz c hc=>?_⟩
 ·have hil:=(gS.1 hn).1
  have hjl:=(gS.1 hy).1
  obtain ⟨env,g⟩:=h2.env i n hil hn
  obtain ⟨envy,gy⟩:=h2.env j y hjl hy
  obtain ⟨p,hp,_,j',y',f1,f2,f3,f4,f5,f6⟩:=g.edge e he
  have:j'=j:=by omega
  subst this
  rw[hy] at f3
  cases f3
  obtain ⟨k1,k2,k3⟩:=zIy f6
  obtain ⟨e1,he1,l1,j1,y1,a1,a2,a3,a4,a5,a6⟩:=g.pin c (k3 c hc)
  refine ⟨e1,he1,l1,fun e2 he2 l2=>?_⟩
  obtain ⟨p2,hp2,m1,j2,y2,b1,b2,b3,b4,b5,b6⟩:=gy.edge e2 he2
  have hpc:p2=c:=huni gy.srt hp2 (gy.ctx c hc) (by rw[←m1,l2])
  subst hpc
  have ht:zB0 envy y.ctx:=fun x hx=>zEi gy.srt (gy.ctx x hx)
  obtain ⟨d1,_⟩:=zLM f6 hc ht
  rw[d1,a6] at b6
  have:=h2.apart j2 j1 y2 y1 b2 a2 b3 a3 (by rw[b4,a4]) (by rw[b5,a5]) (Option.some.inj b6).symm
  rw[b1,a1,this]
 ·have hjl:=(gS.1 hy).1
  have hj1:1≤j:=by
   rcases Nat.eq_zero_or_pos j with h0|h0
   ·subst h0
    obtain ⟨es,hr⟩:=h.root
    rw[hr] at hy
    rw[←Option.some.inj hy] at hc0
    cases hc0
   ·exact h0
  obtain ⟨envy,gy⟩:=h2.env j y hjl hy
  obtain ⟨env0,p0,hm⟩:=h2.made j y hj1 hy
  obtain ⟨p2,hp2,m1,j2,y2,b1,b2,b3,b4,b5,b6⟩:=gy.edge e he
  have:j2=k:=by omega
  subst this
  rw[hz] at b3
  cases b3
  have hpc:p2=c0:=huni gy.srt hp2 (gy.ctx c0 hc0) (by rw[←m1,hl])
  subst hpc
  have ht:zB0 envy y.ctx:=fun x hx=>zEi gy.srt (gy.ctx x hx)
  obtain ⟨d1,d2⟩:=zLM hm hc0 ht
  rw[d1] at b6
  exact d2 _ b6 c hc
