/- What the document's search finds can be placed, and all of it is reached: plain. -/
import Derived.Test.YtminjjdnmpaaoaaGreatDoorMp24
import Derived.Test.YtminjjdnmpaaoaaGreatDoorMp26
import Derived.Test.YtminjjdnmpaaoaaGreatDoorMp17
import Derived.Test.YtminjjdnmpaaoaaGreatDoorAl
set_option linter.all false
set_option maxHeartbeats 12800000
set_option maxRecDepth 100000
namespace Go.Proofs.YtminjjdnmpaaoaaGreatDoor
open Go
theorem zDx {L:List Pack} {s:ByteArray} {v:Ver} {x:Pack} (h:getC L s v=some x):x∈L∧x.name=s∧x.ver=v:=by
 unfold getC at h
 have h1:=List.mem_of_find?_eq_some h
 have h2:=List.find?_some h
 unfold isC at h2
 rw[Bool.and_eq_true,decide_eq_true_eq] at h2
 exact ⟨h1,h2.1,zDJ.1 h2.2⟩
structure NGood (q:SIn) (n:Node):Prop where
 nm:∃ x,getC q.L n.name n.ver=some x
 srt:SrtP n.ctx
 pins:∀ p∈n.ctx,∃ x,getC q.L p.name p.ver=some x
structure EGood (q:SIn) (nodes:List Node) (n:Node):Prop where
 srt:n.edges.Pairwise fun a b=>lessB a.label b.label=true
 tgt:∀ e∈n.edges,∃ (j:Nat) (y:Node),e.to=(j:Int)∧1≤j∧nodes[j]?=some y∧y.name=e.label
 pin:∀ p∈n.ctx,∃ e∈n.edges,e.label=p.name∧∃ (j:Nat) (y:Node),e.to=(j:Int)∧nodes[j]?=some y∧y.ver=p.ver
structure SInv (q:SIn) (nodes:List Node) (at_:Nat):Prop where
 root:∃ es,nodes[0]?=some { rootN with edges:=es}
 len:nodes.length≤q.lim
 node:∀ (j:Nat) (n:Node),1≤j→nodes[j]?=some n→NGood q n
 done:∀ (i:Nat) (n:Node),i<at_→nodes[i]?=some n→EGood q nodes n
 reach:∀ j,1≤j→j<nodes.length→∃ (k:Nat) (x:Node) (e:Edge),k<j∧k<at_∧nodes[k]?=some x∧e∈x.edges∧e.to=(j:Int)
 rest:∀ (i:Nat) (n:Node),at_≤i→nodes[i]?=some n→n.edges=[]
theorem zI6 {dec:Nat} {k:List Pin→Nat→SOut} {env:List Pin} {s:ByteArray} {t':Nat} {ns:List Node}:∀ {os:List (Option Ver)} {t:Nat},tryGo dec k env s os t=.ok t' ns→∃ o∈os,∃ t1,k (withO env s o) t1=.ok t' ns:=by
 intro os
 induction os with
 | nil=>intro t h;unfold tryGo at h;cases h
 | cons o os ih=>
   intro t h
   unfold tryGo at h
   split at h
   ·cases h
   ·split at h
    ·rename_i t1 hk
     obtain ⟨o',ho,h'⟩:=ih h
     exact ⟨o',by simp[ho],h'⟩
    ·exact ⟨o,by simp,t+1,h⟩
theorem zDD {q:SIn} {env:List Pin}:∀ {l:List Pin} {cs:List (List Pin)},ctxsP q.L q.m env l=some cs→cs.length=l.length∧(∀ p∈l,∃ x,getC q.L p.name p.ver=some x)∧∀ c∈cs,SrtP c∧c.length≤env.length∧∀ x∈c,x∈env:=by
 intro l
 induction l with
 | nil=>intro cs h;unfold ctxsP at h;cases h;exact ⟨rfl,(fun p hp=>by cases hp),(fun c hc=>by cases hc)⟩
 | cons p l ih=>
   intro cs h
   unfold ctxsP at h
   split at h
   ·cases h
   ·rename_i x hx
    split at h
    ·cases h
    ·rename_i xs hxs
     cases h
     obtain ⟨h1,h2,h3⟩:=ih hxs
     refine ⟨by simp[h1],fun p' hp'=>?_,fun c hc=>?_⟩
     ·rcases List.mem_cons.1 hp' with rfl|hp'
      ·cases hg:getC q.L p'.name p'.ver with
       | some y=>exact ⟨y,rfl⟩
       | none=>unfold ctxP ctxGo at hx;rw[hg] at hx;cases hx
      ·exact h2 p' hp'
     ·rcases List.mem_cons.1 hc with rfl|hc
      ·exact zJK hx
      ·exact h3 c hc
theorem zL2 {p:Pin} {c:List Pin} {n:Node}:isN p c n=true↔n.name=p.name∧n.ver=p.ver∧n.ctx=c:=by
 unfold isN
 rw[Bool.and_eq_true,Bool.and_eq_true,decide_eq_true_eq,zDJ,zDJ]
theorem zKR {p:Pin} {c:List Pin}:∀ {l:List Node},zAs p c l≤l.length∧(zAs p c l<l.length→∃ y,l[zAs p c l]?=some y∧y.name=p.name∧y.ver=p.ver∧y.ctx=c):=by
 intro l
 induction l with
 | nil=>exact ⟨nR _,fun h=>by simp[zAs] at h⟩
 | cons n l ih=>
   unfold zAs
   split
   ·rename_i h
    exact ⟨nZ _,fun _=>⟨n,rfl,zL2.1 h⟩⟩
   ·refine ⟨by rw[List.length_cons];have:=ih.1;omega,fun h=>?_⟩
    rw[List.getElem?_cons_succ]
    exact ih.2 (by rw[List.length_cons] at h;omega)
theorem zHA {p:Pin} {c:List Pin} {l:List Node} (hl:1≤l.length):1≤placeN l p c∧placeN l p c≤l.length∧(placeN l p c<l.length→∃ y,l[placeN l p c]?=some y∧y.name=p.name∧y.ver=p.ver∧y.ctx=c):=by
 cases l with
 | nil=>simp at hl
 | cons n l=>
   have e:placeN (n::l) p c=zAs p c l+1:=rfl
   rw[e]
   obtain ⟨h1,h2⟩:=zKR (p:=p) (c:=c) (l:=l)
   refine ⟨by omega,by rw[List.length_cons];omega,fun h=>?_⟩
   rw[List.getElem?_cons_succ]
   exact h2 (by rw[List.length_cons] at h;omega)
theorem zDX {lim:Nat}:∀ {env:List Pin} {cs:List (List Pin)} {out:List Node} {es:List Edge} {out':List Node} {es':List Edge},zA5 lim env cs out es=some (out',es')→cs.length=env.length→1≤out.length→out.length≤lim →
  ∃ (new:List Node) (esn:List Edge),out'=out++new∧es'=es++esn∧esn.map (·.label)=env.map (·.name)∧out'.length≤lim∧(∀ n∈new,n.edges=[]∧(∃ p∈env,n.name=p.name∧n.ver=p.ver)∧n.ctx∈cs) ∧
    (∀ (i:Nat) (p:Pin),env[i]?=some p→∃ (e:Edge) (j:Nat) (y:Node),esn[i]?=some e∧e.label=p.name∧e.to=(j:Int)∧1≤j∧out'[j]?=some y∧y.name=p.name∧y.ver=p.ver∧cs[i]?=some y.ctx) ∧
    (∀ j,out.length≤j→j<out'.length→∃ e∈esn,e.to=(j:Int)):=by
 intro env
 induction env with
 | nil=>
   intro cs out es out' es' h _ h1 h2
   cases cs<;>(unfold zA5 at h;cases h;exact ⟨[],[],by simp,by simp,rfl,h2,by simp,by simp,fun j a b=>by omega⟩)
 | cons p l ih=>
   intro cs out es out' es' h hl h1 h2
   cases cs with
   | nil=>simp at hl
   | cons c cs=>
     obtain ⟨q1,q2,q3⟩:=zHA (p:=p) (c:=c) h1
     unfold zA5 at h
     split at h
     ·rename_i hp
      split at h
      ·cases h
      ·rename_i hlim
       obtain ⟨new,esn,e1,e2,e3,e4,e5,e6,e7⟩:=ih h (by simpa using hl) (by simp) (by rw[List.length_append];simp only[List.length_cons,List.length_nil];omega)
       have hat:out'[out.length]?=some ⟨p.name,p.ver,c,[]⟩:=by rw[e1];simp
       refine ⟨⟨p.name,p.ver,c,[]⟩::new,⟨p.name,(out.length:Int)⟩::esn,by rw[e1];simp,by rw[e2];simp,by simp[e3],e4,fun n hn=>?_,fun i p' hp'=>?_,fun j a b=>?_⟩
       ·rcases List.mem_cons.1 hn with rfl|hn
        ·exact ⟨rfl,⟨p,by simp,rfl,rfl⟩,by simp⟩
        ·obtain ⟨a1,⟨p',a2,a3⟩,a4⟩:=e5 n hn
         exact ⟨a1,⟨p',by simp[a2],a3⟩,by simp[a4]⟩
       ·cases i with
        | zero=>cases hp';exact ⟨_,out.length,_,rfl,rfl,rfl,h1,hat,rfl,rfl,rfl⟩
        | succ i=>exact e6 i p' hp'
       ·by_cases hj:j=out.length
        ·exact ⟨⟨p.name,(out.length:Int)⟩,by simp,by rw[hj]⟩
        ·obtain ⟨e,he,hee⟩:=e7 j (by rw[List.length_append];simp only[List.length_cons,List.length_nil];omega) b
         exact ⟨e,by simp[he],hee⟩
     ·rename_i hp
      obtain ⟨new,esn,e1,e2,e3,e4,e5,e6,e7⟩:=ih h (by simpa using hl) h1 h2
      obtain ⟨y,y1,y2,y3,y4⟩:=q3 (by omega)
      refine ⟨new,⟨p.name,(placeN out p c:Int)⟩::esn,e1,by rw[e2];simp,by simp[e3],e4,fun n hn=>?_,fun i p' hp'=>?_,fun j a b=>?_⟩
      ·obtain ⟨a1,⟨p',a2,a3⟩,a4⟩:=e5 n hn
       exact ⟨a1,⟨p',by simp[a2],a3⟩,by simp[a4]⟩
      ·cases i with
       | zero=>
         cases hp'
         exact ⟨_,placeN out p c,y,rfl,rfl,rfl,q1,by rw[e1,List.getElem?_append_left (gS.1 y1).1];exact y1,y2,y3,by rw[y4];rfl⟩
       | succ i=>exact e6 i p' hp'
      ·obtain ⟨e,he,hee⟩:=e7 j a b
       exact ⟨e,by simp[he],hee⟩
theorem zBw (ns:List Node) (i:Nat) (es:List Edge) (j:Nat):(zAw ns i es)[j]?=if j=i then (ns[j]?).map (fun n=>{ n with edges:=es}) else ns[j]?:=by
 unfold zAw
 rw[List.getElem?_modify]
 by_cases h:j=i
 ·subst h;simp
 ·have h':¬i=j:=fun e=>h e.symm
  simp[h,h']
theorem zDu (ns:List Node) (i:Nat) (es:List Edge):(zAw ns i es).length=ns.length:=by unfold zAw;exact List.length_modify _ _ _
theorem zDA {ns:List Node} {i:Nat} {es:List Edge} {j:Nat} {y:Node} (h:ns[j]?=some y):∃ y',(zAw ns i es)[j]?=some y'∧y'.name=y.name∧y'.ver=y.ver∧y'.ctx=y.ctx:=by
 rw[zBw]
 by_cases hj:j=i
 ·rw[if_pos hj,h];exact ⟨_,rfl,rfl,rfl,rfl⟩
 ·rw[if_neg hj];exact ⟨y,h,rfl,rfl,rfl⟩
theorem zJO {q:SIn} {nodes:List Node} {at_:Nat} {env:List Pin} {cs:List (List Pin)} {out:List Node} {es:List Edge} (h:SInv q nodes at_) {n:Node} (hat:nodes[at_]?=some n) (hs:SrtP env) (hc:∀ p∈n.ctx,p∈env)
  (hcs:ctxsP q.L q.m env env=some cs) (hb:zA5 q.lim env cs nodes []=some (out,es)):SInv q (zAw out at_ es) (at_+1):=by
 have hpos:1≤nodes.length:=by have:=(gS.1 hat).1;omega
 have hal:=(gS.1 hat).1
 obtain ⟨c1,c2,c3⟩:=zDD hcs
 obtain ⟨new,esn,rfl,e2,e3,e4,e5,e6,e7⟩:=zDX hb c1 hpos h.len
 rw[List.nil_append] at e2
 subst e2
 have hold:∀ (j:Nat) (x:Node),nodes[j]?=some x→(nodes++new)[j]?=some x:=fun j x hx=>by rw[List.getElem?_append_left (gS.1 hx).1];exact hx
 have hedge:∀ e∈es,∃ (p:Pin) (j:Nat) (y:Node),p∈env∧e.label=p.name∧e.to=(j:Int)∧1≤j∧(nodes++new)[j]?=some y∧y.name=p.name∧y.ver=p.ver:=fun e he=>by
  obtain ⟨i,hi,hie⟩:=List.mem_iff_getElem.1 he
  have hlen:es.length=env.length:=by have:=congrArg List.length e3;simpa using this
  obtain ⟨e',j,y,f1,f2,f3,f4,f5,f6,f7,_⟩:=e6 i env[i] (gE (by omega))
  rw[gE hi,hie] at f1
  cases f1
  exact ⟨_,j,y,List.getElem_mem _,f2,f3,f4,f5,f6,f7⟩
 refine ⟨?_,by rw[zDu];exact e4,fun j m hj hm=>?_,fun i m hi hm=>?_,fun j hj hl=>?_,fun i m hi hm=>?_⟩
 ·obtain ⟨es0,hr⟩:=h.root
  rw[zBw]
  by_cases h0:0=at_
  ·rw[if_pos h0,hold 0 _ hr];exact ⟨es,rfl⟩
  ·rw[if_neg h0,hold 0 _ hr];exact ⟨es0,rfl⟩
 ·
  have key:∃ m0,(nodes++new)[j]?=some m0∧m.name=m0.name∧m.ver=m0.ver∧m.ctx=m0.ctx:=by
   rw[zBw] at hm
   split at hm
   ·cases hx:(nodes++new)[j]? with
    | none=>rw[hx] at hm;cases hm
    | some x=>rw[hx] at hm;cases hm;exact ⟨x,rfl,rfl,rfl,rfl⟩
   ·exact ⟨m,hm,rfl,rfl,rfl⟩
  obtain ⟨m0,g0,g1,g2,g3⟩:=key
  have hg:NGood q m0:=by
   by_cases hjl:j<nodes.length
   ·rw[List.getElem?_append_left hjl] at g0
    exact h.node j m0 hj g0
   ·rw[List.getElem?_append_right (by omega)] at g0
    obtain ⟨_,⟨p,hp,p1,p2⟩,hcm⟩:=e5 m0 (mG g0)
    obtain ⟨s1,_,s3⟩:=c3 _ hcm
    exact ⟨by rw[p1,p2];exact c2 p hp,s1,fun x hx=>c2 x (s3 x hx)⟩
  exact ⟨by rw[g1,g2];exact hg.nm,by rw[g3];exact hg.srt,by rw[g3];exact hg.pins⟩
 ·
  by_cases hi0:i=at_
  ·subst hi0
   rw[zBw,if_pos rfl,hold i n hat] at hm
   cases hm
   refine ⟨?_,fun e he=>?_,fun p hp=>?_⟩
   ·have hm:(es.map (·.label)).Pairwise fun a b=>lessB a b=true:=by rw[e3,List.pairwise_map];exact hs
    exact List.pairwise_map.1 hm
   ·obtain ⟨p,j,y,_,f2,f3,f4,f5,f6,_⟩:=hedge e he
    obtain ⟨y',g1,g2,_⟩:=zDA (i:=i) (es:=es) f5
    exact ⟨j,y',f3,f4,g1,by rw[g2,f6,f2]⟩
   ·obtain ⟨k,hk,hke⟩:=List.mem_iff_getElem.1 (hc p hp)
    obtain ⟨e,j,y,f1,f2,f3,f4,f5,f6,f7,_⟩:=e6 k p (by rw[gE hk,hke])
    obtain ⟨y',g1,g2,g3,_⟩:=zDA (i:=i) (es:=es) f5
    exact ⟨e,mG f1,f2,j,y',f3,g1,by rw[g3,f7]⟩
  ·have hm0:=hm
   rw[zBw,if_neg hi0,List.getElem?_append_left (by omega)] at hm0
   have hd:=h.done i m (by omega) hm0
   refine ⟨hd.srt,fun e he=>?_,fun p hp=>?_⟩
   ·obtain ⟨j,y,f1,f2,f3,f4⟩:=hd.tgt e he
    obtain ⟨y',g1,g2,_⟩:=zDA (i:=at_) (es:=es) (hold j y f3)
    exact ⟨j,y',f1,f2,g1,by rw[g2,f4]⟩
   ·obtain ⟨e,he,f0,j,y,f1,f2,f3⟩:=hd.pin p hp
    obtain ⟨y',g1,g2,g3,_⟩:=zDA (i:=at_) (es:=es) (hold j y f2)
    exact ⟨e,he,f0,j,y',f1,g1,by rw[g3,f3]⟩
 ·
  rw[zDu] at hl
  by_cases hjl:j<nodes.length
  ·obtain ⟨k,x,e,r1,r2,r3,r4,r5⟩:=h.reach j hj hjl
   refine ⟨k,x,e,r1,by omega,?_,r4,r5⟩
   rw[zBw,if_neg (by omega),hold k x r3]
  ·obtain ⟨e,he,hee⟩:=e7 j (by omega) hl
   refine ⟨at_,{ n with edges:=es},e,by omega,by omega,?_,he,hee⟩
   rw[zBw,if_pos rfl,hold at_ n hat];rfl
 ·rw[zBw,if_neg (by omega)] at hm
  by_cases hil:i<nodes.length
  ·rw[List.getElem?_append_left hil] at hm
   exact h.rest i m (by omega) hm
  ·rw[List.getElem?_append_right (by omega)] at hm
   exact (e5 m (mG hm)).1
def TOk (q:SIn):Task→Prop
 | .settle nodes at_=>SInv q nodes at_∧at_≤nodes.length
 | .choose nodes at_ _ env=>SInv q nodes at_∧∃ n,nodes[at_]?=some n∧SrtP env∧∀ p∈n.ctx,p∈env
 | .bind nodes at_ env=>SInv q nodes at_∧∃ n,nodes[at_]?=some n∧SrtP env∧∀ p∈n.ctx,p∈env
theorem zNp {q:SIn} {t':Nat} {ns:List Node}:∀ {f:Nat} {k:Task} {t:Nat},goS q f k t=.ok t' ns→TOk q k→SInv q ns ns.length:=by
 intro f
 induction f with
 | zero=>intro k t h;unfold goS at h;cases h
 | succ f ih=>
   intro k t h hk
   cases k with
   | settle nodes at_=>
     obtain ⟨h1,h2⟩:=hk
     rw[goS] at h
     split at h
     ·rename_i he
      cases h
      rwa [he] at h1
     ·rename_i hne
      have hal:at_<nodes.length:=by omega
      have hat:nodes[at_]?=some nodes[at_]:=gE hal
      have e:ctxAt nodes at_=(nodes[at_]).ctx:=by unfold ctxAt;rw[hat]
      refine ih h ⟨h1,_,hat,?_,fun p hp=>by rw[e];exact hp⟩
      rw[e]
      by_cases h0:at_=0
      ·obtain ⟨es,hr⟩:=h1.root
       subst h0
       rw[hat] at hr
       rw[Option.some.inj hr]
       exact List.Pairwise.nil
      ·exact (h1.node at_ _ (by omega) hat).srt
   | choose nodes at_ l env=>
     cases l with
     | nil=>rw[goS] at h;exact ih h hk
     | cons w l=>
       obtain ⟨h1,n,h2,h3,h4⟩:=hk
       rw[goS] at h
       obtain ⟨o,_,t1,ho⟩:=zI6 h
       refine ih ho ⟨h1,n,h2,?_,fun p hp=>?_⟩
       ·cases o with
        | none=>exact h3
        | some v=>exact zCT _ h3
       ·cases o with
        | none=>exact h4 p hp
        | some v=>exact zD0 (h4 p hp)
   | bind nodes at_ env=>
     obtain ⟨h1,n,h2,h3,h4⟩:=hk
     rw[goS] at h
     split at h
     ·cases h
     ·rename_i cs hcs
      split at h
      ·cases h
      ·rename_i out es hb
       have hal:=(gS.1 h2).1
       have hinv:=zJO h1 h2 h3 h4 hcs hb
       refine ih h ⟨hinv,?_⟩
       rw[zDu]
       obtain ⟨c1,_⟩:=zDD hcs
       obtain ⟨new,_,e1,_⟩:=zDX hb c1 (by omega) h1.len
       rw[e1,List.length_append]
       omega
theorem SInv.start {q:SIn} (h:1≤q.lim):SInv q [rootN] 0 where
 root:=⟨[],rfl⟩
 len:=h
 node:=fun j n hj hn=>by cases j with|zero=>omega|succ j=>simp at hn
 done:=fun i n hi=>by omega
 reach:=fun j hj hl=>by simp at hl;omega
 rest:=fun i n hi hn=>by cases i with|zero=>cases hn;rfl|succ i=>simp at hn
theorem zGZ {q:SIn} {ns:List Node} (hl:1≤q.lim) (h:solS q=some ns):SInv q ns ns.length:=by
 unfold solS at h
 split at h
 ·cases h
 ·split at h
  ·rename_i t0 ns0 hr
   cases h
   exact zNp hr ⟨SInv.start hl,nZ _⟩
  ·cases h
theorem SInv.reachG {q:SIn} {ns:List Node} (h:SInv q ns ns.length):zNL ns:=fun j hj hl=>by
 obtain ⟨k,x,e,r1,_,r3,r4,r5⟩:=h.reach j hj hl
 exact ⟨k,x,e,r1,r3,r4,r5⟩
theorem zI4:∀ {l:List ByteArray} {p:Option ByteArray},l.Pairwise (fun a b=>lessB a b=true)→(∀ s∈l,nameB s=true∧behind p s=true)→zAQ p l=true:=by
 intro l
 induction l with
 | nil=>intro p _ _;unfold zAQ;rfl
 | cons s l ih=>
   intro p h hn
   rw[List.pairwise_cons] at h
   obtain ⟨h1,h2⟩:=hn s (by simp)
   unfold zAQ
   rw[h1,h2,ih (p:=some s) h.2 fun y hy=>⟨(hn y (by simp[hy])).1,(show lessB s y=true from h.1 y hy)⟩]
   rfl
theorem zJZ (g:List Node):∀ {l:List Node} {m:List Pack} {k:Nat},m.length=l.length→(∀ (i:Nat) (n:Node) (x:Pack),l[i]?=some n→m[i]?=some x→formP g (k+i) n x=true)→zB7 g k l m=true:=by
 intro l
 induction l with
 | nil=>intro m k hl _;rw[List.eq_nil_of_length_eq_zero hl];rfl
 | cons n l ih=>
   intro m k hl h
   cases m with
   | nil=>simp at hl
   | cons x m=>
     unfold zB7
     have h0:=h 0 n x rfl rfl
     rw[Nat.add_zero] at h0
     rw[h0,ih (by simpa using hl) fun i n' x' hn hx=>by have:=h (i+1) n' x' hn hx;rwa [show k+(i+1)=k+1+i from by omega] at this]
     rfl
theorem zLB {es:List Edge} (hs:es.Pairwise fun a b=>lessB a.label b.label=true) {e:Edge} (he:e∈es):∃ k,zA3 es e.label=some k∧es[k]?=some e:=by
 induction es with
 | nil=>cases he
 | cons f es ih=>
   rw[List.pairwise_cons] at hs
   unfold zA3
   rcases List.mem_cons.1 he with rfl|he
   ·exact ⟨0,by rw[if_pos rfl],rfl⟩
   ·have hne:¬f.label=e.label:=fun h=>by have:=hs.1 e he;rw[h,zBB] at this;cases this
    obtain ⟨k,h1,h2⟩:=ih hs.2 he
    exact ⟨k+1,by rw[if_neg hne,h1];rfl,h2⟩
theorem zDW (L:List Pack) (ns:List Node):(zCC L ns).length=ns.length:=by
 cases ns<;>simp[zCC]
theorem zG9 {L:List Pack} {ns:List Node} {i:Nat} {n:Node} (h1:1≤i) (h:ns[i]?=some n):(zCC L ns)[i]?=some ((getC L n.name n.ver).getD zAC):=by
 cases ns with
 | nil=>cases h
 | cons a l=>
   cases i with
   | zero=>omega
   | succ i=>
     unfold zCC
     rw[List.getElem?_cons_succ] at h ⊢
     rw[List.getElem?_map,h];rfl
theorem zNl {q:SIn} {ns:List Node} (hL:∀ x∈q.L,packB x=true) (hlim:q.lim≤128) (h:SInv q ns ns.length):mayPl ns (zCC q.L ns)=true:=by
 obtain ⟨es0,hr⟩:=h.root
 have hpos:=(gS.1 hr).1
 have hname:∀ {s:ByteArray} {v:Ver},(∃ x,getC q.L s v=some x)→nameB s=true:=fun {s v} hx=>by
  obtain ⟨x,hx⟩:=hx
  obtain ⟨h1,h2,_⟩:=zDx hx
  have:=hL x h1
  unfold packB at this
  rw[Bool.and_eq_true] at this
  rw[←h2];exact this.1
 unfold mayPl
 rw[decide_eq_true (show 1≤ns.length by omega),decide_eq_true (nT h.len hlim),decide_eq_true (zDW _ _),Bool.true_and,Bool.true_and,Bool.true_and]
 refine zJZ ns (zDW _ _) fun i n x hn hx=>?_
 rw[Nat.zero_add]
 have hil:=(gS.1 hn).1
 have hd:=h.done i n hil hn
 have hctx:SrtP n.ctx∧∀ p∈n.ctx,∃ x,getC q.L p.name p.ver=some x:=by
  by_cases h0:i=0
  ·subst h0
   rw[hr] at hn
   rw[←Option.some.inj hn]
   exact ⟨List.Pairwise.nil,fun p hp=>by cases hp⟩
  ·have:=h.node i n (by omega) hn
   exact ⟨this.srt,this.pins⟩
 have htgt:∀ e∈n.edges,edgeP ns e=true∧nameB e.label=true:=fun e he=>by
  obtain ⟨j,y,f1,f2,f3,f4⟩:=hd.tgt e he
  have hj:=(gS.1 f3).1
  refine ⟨?_,?_⟩
  ·unfold edgeP
   rw[f1,decide_eq_true (by omega),decide_eq_true (by omega),Int.toNat_natCast,f3,Bool.true_and,Bool.true_and]
   exact decide_eq_true f4
  ·rw[←f4];exact hname (h.node j y f2 f3).nm
 unfold formP
 rw[Bool.and_eq_true,Bool.and_eq_true,Bool.and_eq_true,Bool.and_eq_true]
 refine ⟨?_,⟨?_,?_⟩,?_,?_⟩
 ·unfold headP
  by_cases h0:i=0
  ·rw[if_pos h0]
   subst h0
   rw[hr] at hn
   obtain rfl:=Option.some.inj hn
   have hx0:x=zAC:=by
    cases ns with
    | nil=>cases hr
    | cons a l=>unfold zCC at hx;exact (Option.some.inj hx).symm
   subst hx0
   unfold zEe
   rw[zAa rfl]
   have h0:(rootN.name.toList==[])=true:=by rw[Go.ByteArray.toList_eq];rfl
   show (rootN.name.toList==[]&&(zeroV rootN.ver&&(decide (rootN.ctx.length=0)&&true)))=true
   rw[h0]
   rfl
  ·rw[if_neg h0]
   obtain ⟨x0,hx0⟩:=(h.node i n (by omega) hn).nm
   rw[zG9 (by omega) hn,hx0] at hx
   have e:x0=x:=Option.some.inj hx
   subst e
   obtain ⟨g1,g2,g3⟩:=zDx hx0
   unfold zDh
   rw[hL x0 g1,decide_eq_true g2,zAa g3]
   rfl
 ·exact zI4 (by unfold zAZ;rw[List.pairwise_map];exact hctx.1) fun s hs=>by
   obtain ⟨p,hp,rfl⟩:=List.mem_map.1 hs
   exact ⟨hname (hctx.2 p hp),rfl⟩
 ·exact zI4 (by unfold zAE;rw[List.pairwise_map];exact hd.srt) fun s hs=>by
   obtain ⟨e,he,rfl⟩:=List.mem_map.1 hs
   exact ⟨(htgt e he).2,rfl⟩
 ·exact List.all_eq_true.2 fun e he=>(htgt e he).1
 ·refine List.all_eq_true.2 fun p hp=>?_
  obtain ⟨e,he,f0,j,y,f1,f2,f3⟩:=hd.pin p hp
  obtain ⟨k,k1,k2⟩:=zLB hd.srt he
  unfold pinP
  rw[←f0,k1]
  simp only
  rw[k2]
  simp only
  rw[f1,Int.toNat_natCast,f2]
  exact zAa f3
end Go.Proofs.YtminjjdnmpaaoaaGreatDoor
namespace Go.Proofs.YtminjjdnmpaaoaaGreatDoor
open Go.Rows Go.RowKit Go.Shelf Go.Sort
theorem zMs:Elt Tryz.prog 55 1 24:=Elt.mk' (z:=.slice none 0 0) (by kernel_rfl) rfl (by decide)
theorem zJH:Elt Tryz.prog 58 6 88:=Elt.mk' (z:=.agg #[.string ⟨#[]⟩,.int .i64 0,.int .i64 0,.int .i64 0,.slice none 0 0,.slice none 0 0]) (by kernel_rfl) rfl (by decide)
theorem zK4 {L:List Pack} {m:Mani} {env:List Pin}:∀ {l:List Pin} {k:Nat} {p:Pin},l[k]?=some p→ctxP L m env p=none→ctxsP L m env l=none:=by
 intro l
 induction l with
 | nil=>intro k p h;cases h
 | cons a l ih=>
   intro k p h hp
   unfold ctxsP
   cases k with
   | zero=>cases h;rw[hp]
   | succ k=>
     cases ctxP L m env a with
     | none=>rfl
     | some x=>simp only;rw[ih (k:=k) h hp]
def zEY (L:List Pack) (m:Mani) (env:List Pin) (l:List Pin) (k:Nat) (cs:List (List Pin)):Prop:=ctxsP L m env (l.take k)=some cs
theorem zH5 (L:List Pack) (m:Mani) (env l:List Pin):zEY L m env l 0 []:=rfl
theorem zH2 {L:List Pack} {m:Mani} {env:List Pin}:∀ {l:List Pin} {cs:List (List Pin)} {p:Pin} {x:List Pin},ctxsP L m env l=some cs→ctxP L m env p=some x→ctxsP L m env (l++[p])=some (cs++[x]):=by
 intro l
 induction l with
 | nil=>
   intro cs p x h hp
   unfold ctxsP at h
   cases h
   show ctxsP L m env [p]=some [x]
   unfold ctxsP
   rw[hp]
   rfl
 | cons a l ih=>
   intro cs p x h hp
   unfold ctxsP at h
   split at h
   ·cases h
   ·rename_i y hy
    split at h
    ·cases h
    ·rename_i ys hys
     cases h
     show ctxsP L m env (a::(l++[p]))=some (y::ys++[x])
     unfold ctxsP
     rw[hy]
     simp only
     rw[ih hys hp]
     rfl
theorem zIG {L:List Pack} {m:Mani} {env l:List Pin} {k:Nat} {cs:List (List Pin)} {p:Pin} {x:List Pin} (h:zEY L m env l k cs) (hp:l[k]?=some p) (hx:ctxP L m env p=some x):zEY L m env l (k+1) (cs++[x]):=by
 unfold zEY at h ⊢
 rw[List.take_add_one,hp]
 exact zH2 h hx
theorem zId {L:List Pack} {m:Mani} {env l:List Pin} {k:Nat} {cs:List (List Pin)} (h:zEY L m env l k cs) (hk:l.length≤k):ctxsP L m env l=some cs:=by
 unfold zEY at h
 rwa [List.take_of_length_le hk] at h
theorem zIr {lim:Nat} {env:List Pin} {cs:List (List Pin)} {k:Nat} {out:List Node} {es:List Edge} (h:env.length≤k):zA5 lim (env.drop k) (cs.drop k) out es=some (out,es):=by
 rw[dN h]
 cases cs.drop k<;>(unfold zA5;rfl)
theorem zH6 {lim:Nat} {env:List Pin} {cs:List (List Pin)} {k:Nat} {p:Pin} {c:List Pin} (hp:env[k]?=some p) (hc:cs[k]?=some c) (out:List Node) (es:List Edge):zA5 lim (env.drop k) (cs.drop k) out es=if placeN out p c=out.length then
   if out.length=lim then none
   else zA5 lim (env.drop (k+1)) (cs.drop (k+1)) (out++[⟨p.name,p.ver,c,[]⟩]) (es++[⟨p.name,(out.length:Int)⟩])
  else zA5 lim (env.drop (k+1)) (cs.drop (k+1)) out (es++[⟨p.name,(placeN out p c:Int)⟩]):=by
 obtain ⟨h1,e1⟩:=gS.1 hp
 obtain ⟨h2,e2⟩:=gS.1 hc
 rw[dC h1,dC h2,e1,e2]
 conv=>lhs;unfold zA5
theorem Own.slvOwn {α:Type} {r:Rp α} {w:World} {S:Nat→Prop} {l:List α} {base:Nat} {e:TypeId} {v:Value} (h:Own r w base e v l S):SlV r w (fun b=>S b∨v.ownBlock=some b) l v:=by
 obtain ⟨h0,xs,h1,h2⟩:=h
 have h1':=h1
 rcases h1.2 with ⟨rfl,hn⟩|⟨g,cap,cur,rfl,hb,hg,hnc,hcm,hsz,htake⟩
 ·have:l=[]:=List.eq_nil_of_length_eq_zero hn
  subst this
  exact SlV.nil_ _ _ _
 ·refine ⟨some ⟨g,0,none⟩,cap,rfl,hnc,hcm,(fun h=>by cases h),fun _=>⟨g,0,rfl,.inr rfl,(aS.1 hg).1,fun i x hx=>?_⟩⟩
  obtain ⟨cs,hc,hcell⟩:=h2.get i x hx
  refine ⟨cs,r.mono hc fun b hb _=>⟨.inl hb,rfl⟩,fun j u hu=>?_⟩
  have h3:=h1'.cells (g:=g) rfl _ u (hcell j u hu)
  have hadd:∀ k,(⟨g,0,none⟩:Addr).add k=⟨g,k,none⟩:=fun k=>by unfold Addr.add;split<;>simp_all
  rw[hadd] at h3
  rw[Nat.zero_add]
  exact h3
theorem zHF {ns:List Node} {i:Nat} (h:i<ns.length) (es:List Edge):zAw ns i es=ns.set i { ns[i] with edges:=es}:=by
 apply List.ext_getElem?
 intro j
 rw[zBw,List.getElem?_set]
 by_cases hj:j=i
 ·subst hj
  rw[if_pos rfl,if_pos rfl,if_pos h,gE h];rfl
 ·rw[if_neg hj,if_neg (Ne.symm hj)]
theorem zNz {w:World} {base:Nat} {ov ev:Value} {out:List Node} {es:List Edge} {T:Nat→Prop} {at_:Nat} (HO:Own rNode w base 58 ov out T) (HE:Own rEdge w base 61 ev es (fun _=>False))
  (hap:∀ g,ov.ownBlock=some g→ev.ownBlock≠some g) (hi:at_<out.length) :
  ∃ g o cap,ov=.slice (some ⟨g,o,none⟩) out.length cap∧base≤g∧g<w.heap.size∧(∃ x,w.cell? ⟨g,o+at_ * 6+5,none⟩=some x)∧w.frozen? ⟨g,o+at_ * 6+5,none⟩=false ∧
    SlV rNode (w.setCell ⟨g,o+at_ * 6+5,none⟩ ev) (fun b=>T b∨base≤b) (zAw out at_ es) (.slice (some ⟨g,o,none⟩) out.length cap):=by
 have hT2:Own rNode w base 58 ov out (fun b=>T b∨ev.ownBlock=some b):=HO.more (fun b hb=>by
  rcases hb with hb|hb
  ·exact HO.1 b hb
  ·exact ⟨(HE.lt b hb).2,fun h=>hap b h hb⟩) (fun b hb=>.inl hb)
 have hev:SlV rEdge w (fun b=>T b∨ev.ownBlock=some b) es ev:=HE.slvOwn.more fun b hb _=>by
  rcases hb with hb|hb
  ·exact hb.elim
  ·exact .inr hb
 have hc:=hT2
 obtain ⟨h0,xs,h1,h2⟩:=hc
 have h1':=h1
 rcases h1.2 with ⟨rfl,hn⟩|⟨g,cap,cur,rfl,hb,hg,hnc,hcm,hsz,htake⟩
 ·omega
 have hx:∃ cs,rNode.holds w (fun b=>T b∨ev.ownBlock=some b) out[at_] cs∧∀ (j:Nat) (u:Value),cs[j]?=some u→xs[at_ * 6+j]?=some u:=h2.get at_ _ (gE hi)
 obtain ⟨cs,hh,hcell⟩:=hx
 have hh2:=hh
 obtain ⟨q0,q1,rfl,_,_,_,_,_,_⟩:=hh2
 have h3:=h1'.cells (g:=g) rfl _ _ (hcell 5 _ rfl)
 have hadd:∀ k,(⟨g,0,none⟩:Addr).add k=⟨g,k,none⟩:=fun k=>by unfold Addr.add;split<;>simp_all
 rw[hadd] at h3
 refine ⟨g,0,cap,rfl,hb,(aS.1 hg).1,⟨_,by rw[Nat.zero_add];exact h3⟩,by first|exact zAd hg|simp[World.frozen?,hg],?_⟩
 rw[Nat.zero_add]
 have hset:=(hT2.setE (i:=at_) (j:=5) hi (show 5<rNode.size by decide) (y:={ out[at_] with edges:=es}) (u:=ev) fun cs hcs=>by
  obtain ⟨q0,q1,rfl,e1,e2,e3,e4,e5,_⟩:=hcs
  exact ⟨q0,ev,rfl,e1,e2,e3,e4,e5,hev⟩)
 rw[zHF hi]
 refine hset.1.slv.more fun b hb hl=>?_
 rcases hb with (hb|hb)|hb
 ·exact .inl hb
 ·exact .inr (HE.lt b hb).1
 ·exact .inr hb
theorem zLc (C:SCtx) (hC:C.Ok) (f:Nat) (IHs:SetC C f):BinC C (f+1):=by
 intro nodes at_ t env A n c D en ec w hw hnd he hz hat hez hf
 have hsB:=hw.hB
 have hn:=hnd.n_eq
 have hcap:=hnd.cap_le
 have hen:=he.n_eq
 have henc:=he.cap_le
 unfold maxLen at hcap henc
 have HND:=cH hnd
 have HEN:=cH he
 have HW:=cH hw
 have Hz:=cH hz
 have Hf:=cH hf
 have HOk:=cH hC
 have Hne:=cH hC.ne
 have Hnl:Hid (nodes.length=n):=hn.symm
 have Hel:Hid (env.length=en):=hen.symm
 have HIs:=cH IHs
 have Hezt:=cH hez
 have henz:en≤4096:=by have h1:=hz.2.2;have h2:=hC.dec;omega
 have hatn:at_<n:=by omega
 have hnz:n≤128:=by have h1:=hz.1;have h2:=hC.lim.2;omega
 obtain ⟨sB,hsq⟩:∃ k,k=C.sB:=⟨_,rfl⟩
 have Hsq:=cH hsq
 obtain ⟨R,hR⟩:∃ R,R=goS C.q (f+1) (.bind nodes at_ env) t:=⟨_,rfl⟩
 rw[←hR,←hsq]
 rw[←hsq] at hsB
 have HRn:Hid (ctxsP C.q.L C.q.m env env=none→R=.no t):=fun h=>by rw[hR,goS,h]
 have HRb:Hid (∀ cs,ctxsP C.q.L C.q.m env env=some cs→zA5 C.q.lim env cs nodes []=none→R=.bad 32 t):=fun cs h h2=>by rw[hR,goS,h];simp only;rw[h2]
 have HRo:Hid (∀ cs out es,ctxsP C.q.L C.q.m env env=some cs→zA5 C.q.lim env cs nodes []=some (out,es)→R=goS C.q f (.settle (zAw out at_ es) (at_+1)) t):=fun cs out es h h2=>by rw[hR,goS,h];simp only;rw[h2]
 have HSW:Hid (∀ W,Below w.heap.size w W→SW C W (t:Int) 0 (.slice none 0 0)):=fun W hW=>hw.keep hC.ne hW
 have HCx:Hid (∀ W (p:Pin),Below w.heap.size w W→(p.name.size≤maxLen∧I64 p.ver.major∧I64 p.ver.minor∧I64 p.ver.patch)→Calls Tryz.prog 163 #[.pointer (some ⟨C.cB,0,none⟩),.agg #[.slice C.A0 C.n0 C.c0,.slice C.A1 C.n1 C.c1,.slice C.A2 C.n2 C.c2,.slice C.A3 C.n3 C.c3],.slice D en ec,.agg #[.string p.name,.int .i64 p.ver.major,.int .i64 p.ver.minor,.int .i64 p.ver.patch]] W fun e w'=>(∃ B n k,e=.returned (.tuple #[.slice B n k,.bool (ctxP C.q.L C.q.m env p).isSome])∧SlV rPin w' (fun b=>W.heap.size≤b) ((ctxP C.q.L C.q.m env p).getD []) (.slice B n k))∧Below W.heap.size W w'):=fun W p hW hp=>by
  have h:=(hw.keep hC.ne hW).rd
  exact zNR C.cB C.kA C.kn C.kc C.q.L C.q.m _ D en ec env p W (fun b=>b≠C.sB) h.cat h.L hC.small h.m (he.belowSize hW) (by omega) hp
 obtain ⟨s0,s1,s2,s3,s4,_,_,_,_,_,_,_⟩:=hw.cells
 rw[←hsq] at s0 s1 s2 s3 s4
 have Hs:Hid (∀ W,Below w.heap.size w W→W.cell? ⟨sB,0,none⟩=some (.pointer (some ⟨C.cB,0,none⟩))∧W.cell? ⟨sB,1,none⟩=some (.slice C.A0 C.n0 C.c0)∧W.cell? ⟨sB,2,none⟩=some (.slice C.A1 C.n1 C.c1)∧W.cell? ⟨sB,3,none⟩=some (.slice C.A2 C.n2 C.c2)∧W.cell? ⟨sB,4,none⟩=some (.slice C.A3 C.n3 C.c3)):=fun W hW=>⟨zAA hW s0 hsB,zAA hW s1 hsB,zAA hW s2 hsB,zAA hW s3 hsB,zAA hW s4 hsB⟩
 clear hw hnd he hz hez hf hC hn hcap hen henc IHs hsq hR hat s0 s1 s2 s3 s4
 generalize C.A0=A0 at *
 generalize C.n0=n0 at *
 generalize C.c0=c0 at *
 generalize C.A1=A1 at *
 generalize C.n1=n1 at *
 generalize C.c1=c1 at *
 generalize C.A2=A2 at *
 generalize C.n2=n2 at *
 generalize C.c2=c2 at *
 generalize C.A3=A3 at *
 generalize C.n3=n3 at *
 generalize C.c3=c3 at *
 have ha0:(0:Int)≤(at_:Int):=by omega
 have hatI:(at_:Int)<(n:Int):=by omega
 go_enter Tryz.func143,Tryz.ntmps143
 go_wp2_with fail
 go_loopw [9,10] (fun ov iv wr=>∃ (i:Nat) (cs:List (List Pin)) (S1:Nat→Prop),i≤en∧iv=.int .i64 i∧Hid (cs.length=i)∧Hid (zEY C.q.L C.q.m env env i cs)∧Hid (Own (zAi rPin) wr w.heap.size 55 ov cs S1)∧Hid (∀ b,S1 b→w.heap.size≤b)∧Hid (Below w.heap.size w wr)) (fun _ iv _=>en - (intOf iv).toNat)
 case atStart=>exact ⟨0,[],fun _=>False,nZ _,rfl,cH rfl,zH5 _ _ _ _,Own.nil_ _ _ _ _ (fun b hb=>hb.elim),fun b hb=>hb.elim,bR _ _⟩
 case round=>
  obtain ⟨i,cs,S1,hi,rfl,Hcl,Hct,Hown,HS1,hB⟩:=hrel
  have hi0:(0:Int)≤(i:Int):=by omega
  by_cases hlt:i<en
  case neg=>
   have hI:¬(i:Int)<(en:Int):=by omega
   have hien:i=en:=by omega
   have HCS:Hid (ctxsP C.q.L C.q.m env env=some cs):=zId Hct.out (by have:=Hel.out;omega)
   have HRb2:Hid (zA5 C.q.lim env cs nodes []=none→R=.bad 32 t):=fun h=>HRb.out cs HCS.out h
   have HRo2:Hid (∀ out es,zA5 C.q.lim env cs nodes []=some (out,es)→R=goS C.q f (.settle (zAw out at_ es) (at_+1)) t):=fun out es h=>HRo.out cs out es HCS.out h
   have Hclen:Hid (cs.length=en):=by have:=Hcl.out;unfold Hid;omega
   have Hcin:Hid (∀ x∈cs,x.length≤t):=fun x hx=>by
    have h1:=((zDD HCS.out).2.2 x hx).2.1
    have h2:=Hezt.out
    omega
   have h1:=Hown.out.slv
   obtain ⟨CA,cc,hv,_,_⟩:=h1.val
   have hv2:u9=.slice CA en cc:=by rw[hv,Hclen.out]
   rw[hv2] at h1
   clear hv
   have HCs:Hid (SlV (zAi rPin) wr (fun b=>w.heap.size≤b∧b<wr.heap.size) cs (.slice CA en cc)):=h1.more fun b hb hl=>⟨by rcases hb with hb|hb;exact HS1.out b hb;exact hb,hl⟩
   have HB5:=cH hB.out
   clear h1 hien HRn HRb HRo HCx HCS Hcl Hct Hown HS1 hB hlt
   subst hv2
   generalize wr=w5 at *
   obtain ⟨T,hT⟩:∃ T:Nat→Prop,T=fun b=>b≠sB∧b<w5.heap.size:=⟨_,rfl⟩
   have HT:Hid (∀ b,T b↔b≠sB∧b<w5.heap.size):=fun b=>by rw[hT]
   clear hT
   have HNd5:Hid (SlV rNode w5 T nodes (.slice A n c)):=(HND.out.belowSize HB5.out).more fun b hb hl=>(HT.out b).2 ⟨by rw[Hsq.out];exact hb,hl⟩
   have hsB5:sB<w5.heap.size:=by have:=HB5.out.size;omega
   go_wp2_with (at_builtin;refine zAS (by rfl) _ _ _ (by rfl) zJH Tryz.underlying22 (by rfl) (Own.nil_ rNode w5 w5.heap.size 58 (S:=fun _=>False) (fun b h=>h.elim)) T nodes _ _ _ (by rfl) HNd5.out (by intro b hb he;simp[Value.ownBlock] at he) (by rw[Hnl.out];simp[maxLen];omega) (by rw[Hnl.out];simp;omega) (by simp) ?_)
   intro u6 w6 hown6 hgrow6 hat6
   have HB6:Hid (Below w5.heap.size w5 w6):=(bR _ _).grown hgrow6 (nR _) (fun k hk=>by simp[Value.ownBlock] at hk)
   have hz6:=HB6.out.size
   have HO6:Hid (Own rNode w6 w5.heap.size 58 u6 nodes T):=hown6.more (fun b hb=>⟨lL ((HT.out b).1 hb).2 hz6,fun he=>by have:=(hown6.lt b he).1;have:=((HT.out b).1 hb).2;omega⟩) (fun b hb=>by first|exact hb.1|(rcases hb with h|h;exact h.elim;exact h.1))
   clear hown6 hgrow6 hat6
   go_wp2_with fail
   go_loopw [13,14,15] (fun ov ev jv wx=>∃ (j:Nat) (out:List Node) (es:List Edge),j≤en∧jv=.int .i64 j∧Hid (zA5 C.q.lim env cs nodes []=zA5 C.q.lim (env.drop j) (cs.drop j) out es)∧Hid (out.length≤C.q.lim∧at_<out.length∧(∀ n∈out,n.ctx.length≤t)∧es.length=j)∧Hid (Own rNode wx w5.heap.size 58 ov out T)∧Hid (Own rEdge wx w5.heap.size 61 ev es (fun _=>False))∧Hid (∀ g,ov.ownBlock=some g→ev.ownBlock≠some g)∧Hid (Below w5.heap.size w5 wx)) (fun _ _ jv _=>en - (intOf jv).toNat)
   case atStart=>exact ⟨0,nodes,[],nZ _,rfl,cH rfl,⟨Hz.out.1,by have:=Hnl.out;omega,Hz.out.2.1,rfl⟩,HO6,Own.nil_ _ _ _ _ (fun b hb=>hb.elim),fun g hg he=>by simp[Value.ownBlock] at he,HB6⟩
   case round=>
    obtain ⟨j,out,es,hj,rfl,hbd,Hbo,Hout,Hes,Hap,HB⟩:=hrel
    have hj0:(0:Int)≤(j:Int):=by omega
    have HBw:=cH (bot HB5.out HB.out)
    by_cases hlt:j<en
    case neg=>
     have hjI:¬(j:Int)<(en:Int):=by omega
     have hR2:=HRo2.out out es (by rw[hbd.out,zIr (by have:=Hel.out;omega)])
     obtain ⟨g,o0,cap,hov,hgb,hgl,⟨xc,hxc⟩,hfz,hsl⟩:=zNz Hout.out Hes.out Hap.out Hbo.out.2.1
     have HSW5:Hid (SW C (wr.setCell ⟨g,o0+at_ * 6+5,none⟩ u14) (t:Int) 0 (.slice none 0 0)):=HSW.out _ (HBw.out.setCell (p:=⟨g,o0+at_ * 6+5,none⟩) (by show w.heap.size≤g;have:=HB5.out.size;omega) _)
     have HBu:Hid (But sB w (wr.setCell ⟨g,o0+at_ * 6+5,none⟩ u14)):=But.of (HBw.out.setCell (p:=⟨g,o0+at_ * 6+5,none⟩) (by show w.heap.size≤g;have:=HB5.out.size;omega) _)
     have Hlen:Hid ((zAw out at_ es).length=out.length):=zDu _ _ _
     have HSl:Hid (SlV rNode (wr.setCell ⟨g,o0+at_ * 6+5,none⟩ u14) (fun b=>b≠C.sB) (zAw out at_ es) (.slice (some ⟨g,o0,none⟩) out.length cap)):=hsl.more fun b hb _=>by
      rw[←Hsq.out]
      rcases hb with hb|hb
      ·exact ((HT.out b).1 hb).1
      ·omega
     have hwt:IntKind.i64.wrap ((at_:Int)+1)=(at_:Int)+1:=IntWalk.i64_in _ ⟨by omega,by omega⟩
     have HCl:Hid (Calls Tryz.prog 66 #[.pointer (some ⟨sB,0,none⟩),.slice (some ⟨g,o0,none⟩) out.length cap,.int .i64 ((at_:Int)+1)] (wr.setCell ⟨g,o0+at_ * 6+5,none⟩ u14) fun e w'=>∃ bb:Bool,e=.returned (.bool bb)∧SPost C w R e w'):=by
      rw[Hsq.out]
      refine (HIs.out (zAw out at_ es) (at_+1) t _ _ cap _ HSW5.out HSl.out ⟨by rw[Hlen.out];exact Hbo.out.1,fun x hx=>?_,Hz.out.2.2⟩ (by rw[Hlen.out];have:=Hbo.out.2.1;omega) (by have h1:=Hf.out;have h2:=Hbo.out;unfold leftK at h1 ⊢;simp only at h1 ⊢;omega)).mono ?_
      ·obtain ⟨k,hk⟩:=List.getElem?_of_mem hx
       rw[zBw] at hk
       split at hk
       ·obtain ⟨y,hy,rfl⟩:=Option.map_eq_some_iff.1 hk
        exact Hbo.out.2.2.1 y (mG hy)
       ·exact Hbo.out.2.2.1 x (mG hk)
      ·intro e w' h
       rw[←hR2] at h
       obtain ⟨bb,rfl⟩:=h.ret
       exact ⟨bb,rfl,h.from (by rw[←Hsq.out];exact HBu.out)⟩
     have hatM:(at_:Int)<(out.length:Int):=by have:=Hbo.out.2.1;omega
     have hM0:out.length≤128:=by have h3:=Hbo.out.1;have h4:=HOk.out.lim.2;omega
     obtain ⟨EB,ek,hev,_,_⟩:=Hes.out.slv.val
     clear hR2 hsl HSl HSW5 HBu Hlen hbd Hbo Hout Hes Hap HB HBw hlt HCs HRb2 HRo2
     subst hov
     subst hev
     generalize es.length=el at *
     generalize out.length=M at *
     go_wp2_with (go_at_call 66;refine HCl.out.mono ?_;rintro e w9 ⟨bb,rfl,hsp⟩)
     all_goals
      go_ret
      exact hsp
    have hjI:(j:Int)<(en:Int):=by omega
    obtain ⟨p,hp⟩:∃ p,env[j]?=some p:=⟨_,gE (by have:=Hel.out;omega)⟩
    obtain ⟨c,hc⟩:∃ c,cs[j]?=some c:=⟨_,gE (by have:=Hclen.out;omega)⟩
    have hpw:=HEN.out.elem hp
    obtain ⟨eb,eo,cs1,hA,_,heb,⟨rfl,hpn,hp1,hp2,hp3⟩,hcell⟩:=hpw
    obtain ⟨cb,co,cs2,hC2,_,hcb,hcs2,hcell2⟩:=HCs.out.elem hc
    have hcs3:∃ xv,cs2=[xv]∧SlV rPin w5 (fun b=>w.heap.size≤b∧b<w5.heap.size) c xv:=by
     match cs2,(zAi rPin).len hcs2 with
     | [xv],_=>exact ⟨xv,rfl,hcs2⟩
    obtain ⟨xv,rfl,hxc⟩:=hcs3
    obtain ⟨xA,xk,rfl,_,_⟩:=hxc.val
    have Hxc:=cH hxc
    have Hpc:Hid (∀ W,Below w5.heap.size w5 W→(W.cell? ⟨eb,eo+j * 4,none⟩=some (.string p.name)∧W.cell? ⟨eb,eo+j * 4+1,none⟩=some (.int .i64 p.ver.major)∧W.cell? ⟨eb,eo+j * 4+2,none⟩=some (.int .i64 p.ver.minor)∧W.cell? ⟨eb,eo+j * 4+3,none⟩=some (.int .i64 p.ver.patch))∧W.cell? ⟨cb,co+j,none⟩=some (.slice xA c.length xk)):=fun W hW=>by
     have hbw:=bot HB5.out hW
     have k:=hcell2 0 _ rfl
     simp only[zAi,Nat.mul_one,Nat.add_zero] at k
     exact ⟨⟨zAA hbw (hcell 0 _ rfl) heb,zAA hbw (hcell 1 _ rfl) heb,zAA hbw (hcell 2 _ rfl) heb,zAA hbw (hcell 3 _ rfl) heb⟩,zAA hW k hcb⟩
    have Hpi:Hid (p.name.size≤maxLen∧I64 p.ver.major∧I64 p.ver.minor∧I64 p.ver.patch):=⟨hpn,hp1,hp2,hp3⟩
    have Hct:Hid (c.length≤t):=Hcin.out c (mG hc)
    have HST:=cH (hbd.out.trans (zH6 hp hc out es))
    have h1:=Hout.out.slv
    obtain ⟨OA,oc,hov,_,_⟩:=h1.val
    have h2:=h1.more (S':=fun b=>b≠sB) fun b hb _=>by
     rcases hb with hb|hb
     ·exact ((HT.out b).1 hb).1
     ·show b≠sB;omega
    rw[hov] at h2
    have HOs:=cH h2
    have hol:out.length≤128:=by have h3:=Hbo.out.1;have h4:=HOk.out.lim.2;omega
    obtain ⟨M,hM⟩:∃ M,M=out.length:=⟨_,rfl⟩
    rw[←hM] at hov HOs
    have HM:=cH hM
    have HPl:Hid (∀ W,Below wr.heap.size wr W→Calls Tryz.prog 164 #[.slice OA M oc,.agg #[.string p.name,.int .i64 p.ver.major,.int .i64 p.ver.minor,.int .i64 p.ver.patch],.slice xA c.length xk] W fun e w'=>e=.returned (.int .i64 (placeN out p c:Int))∧Below W.heap.size W w'):=fun W hW=>zKi OA M oc out p xA c.length xk c W _ _ (HOs.out.belowSize hW) (Hxc.out.belowSize (bot HB.out hW)) (by have:=Hbo.out.2.1;omega)
    have HPq:=cH (qcall (w:=wr) HPl.out)
    have hplz:placeN out p c≤out.length:=(zHA (p:=p) (c:=c) (by have:=Hbo.out.2.1;omega)).2.1
    clear h1 h2 hcell hcell2 hpn hp1 hp2 hp3 hcs2 hxc hbd HPl hM
    subst hA
    subst hC2
    subst hov
    obtain ⟨pn,p1,p2,p3⟩:=p
    simp only at Hpc Hpi HPq HST
    obtain ⟨K,hK⟩:∃ K,K=placeN out ⟨pn,p1,p2,p3⟩ c:=⟨_,rfl⟩
    rw[←hK] at HPq HST hplz
    rw[HM.out.symm] at HST hplz hol
    clear hK hp hc
    obtain ⟨xl,hxl⟩:∃ k,k=c.length:=⟨_,rfl⟩
    rw[←hxl] at Hpc HPq Hxc Hct
    have Hxl:=cH hxl
    clear hxl
    obtain ⟨⟨y0,y1,y2,y3⟩,k0⟩:=Hpc.out wr HB.out
    go_upto_region 15 with (fail)
    have r_y0:=cR y0
    have r_y1:=cR y1
    have r_y2:=cR y2
    have r_y3:=cR y3
    have r_k0:=cR k0
    go_wp2_with fail
    refine wQ ?_
    repeat (go_big_quiet_step (first|(with_reducible exact HPq.out _ _)))
    refine wpQuiet_nil fun w7 B7=>?_
    have HB7:=cH B7
    clear r_y0 r_y1 r_y2 r_y3 r_k0 y0 y1 y2 y3 k0 B7 HPq
    have HB57:=cH (bot HB.out HB7.out)
    have HO7:=cH (Hout.out.keep HB7.out)
    have HE7:=cH (Hes.out.keep HB7.out)
    have hw57:w5.heap.size≤w7.heap.size:=HB57.out.size
    have HEl:=cH HE7.out.lt
    have hKn:K≤128:=by omega
    by_cases hKM:K=M
    rotate_left
    focus
     have hKb:((K:Int)==(M:Int))=false:=by simp;omega
     have HST3:Hid (zA5 C.q.lim env cs nodes []=zA5 C.q.lim (env.drop (j+1)) (cs.drop (j+1)) out (es++[⟨pn,(K:Int)⟩])):=by unfold Hid;rw[HST.out,if_neg hKM]
     have Hbo3:Hid (out.length≤C.q.lim∧at_<out.length∧(∀ n∈out,n.ctx.length≤t)):=⟨Hbo.out.1,Hbo.out.2.1,Hbo.out.2.2.1⟩
     have HB58:=HB57
     have HO8:=HO7
     have HE8:=HE7
     have Hap8:=Hap
     clear hKM HST
     go_upto_region 21 with (fail)
     generalize hq8:w7=w8 at *
     generalize hq9:out=out3 at *
     generalize hq1:OA=OB at *
     generalize hq2:M=M3 at *
     generalize hq3:oc=od at *
     clear hq8 hq9 hq1 hq2 hq3
    rotate_left
    focus
     have hKb:((K:Int)==(M:Int))=true:=by simp;omega
     have hsz:=HSW.out w7 (bot HB5.out HB57.out)
     have HS7:=cH hsz
     obtain ⟨_,_,_,_,_,_,_,_,s8,_,s12,_⟩:=hsz.cells
     have f12:=hsz.frz 12
     rw[←Hsq.out] at s8 s12 f12
     clear hsz
     by_cases hlim:M=C.q.lim
     focus
      have hlb:((K:Int)==(C.q.lim:Int))=true:=by simp;omega
      have He:Hid (R=.bad 32 t):=HRb2.out (by rw[HST.out,if_pos hKM,if_pos hlim])
      clear hKM hlim HST
      go_wp2_with fail
      go_ret
      have hf:=SW.fail_ Hne.out HS7.out 32
      rw[←Hsq.out] at hf
      rw[He.out]
      exact ⟨by rw[←Hsq.out];exact (But.of (bot HB5.out HB57.out)).trans hf.2,by decide,by unfold I64;decide,rfl,_,hf.1⟩
     have hlb:((K:Int)==(C.q.lim:Int))=false:=by simp;omega
     have hKI:(M:Int)=(K:Int):=by omega
     have HST3:Hid (zA5 C.q.lim env cs nodes []=zA5 C.q.lim (env.drop (j+1)) (cs.drop (j+1)) (out++[⟨pn,⟨p1,p2,p3⟩,c,[]⟩]) (es++[⟨pn,(K:Int)⟩])):=by unfold Hid;rw[HST.out,if_pos hKM,if_neg hlim,hKI]
     have Hbo3:Hid ((out++[(⟨pn,⟨p1,p2,p3⟩,c,[]⟩:Node)]).length≤C.q.lim∧at_<(out++[(⟨pn,⟨p1,p2,p3⟩,c,[]⟩:Node)]).length∧(∀ n∈out++[(⟨pn,⟨p1,p2,p3⟩,c,[]⟩:Node)],n.ctx.length≤t)):=by
      have h1:=Hbo.out
      have h2:=HM.out
      have h3:=Hxl.out
      have h4:=Hct.out
      refine ⟨by rw[List.length_append];simp only[List.length_cons,List.length_nil];omega,by rw[List.length_append];omega,fun n hn=>?_⟩
      rcases List.mem_append.1 hn with hn|hn
      ·exact h1.2.2.1 n hn
      ·rw[List.mem_singleton.1 hn];show c.length≤t;omega
     clear hKM hlim HST hKI
     obtain ⟨⟨y0,y1,y2,y3⟩,k0⟩:=Hpc.out w7 HB57.out
     have HNh:Hid (rNode.holds (w7.drew.alloc (.cells #[.string pn,.int .i64 p1,.int .i64 p2,.int .i64 p3,.slice xA xl xk,.slice none 0 0] 58)) T ⟨pn,⟨p1,p2,p3⟩,c,[]⟩ [.string pn,.int .i64 p1,.int .i64 p2,.int .i64 p3,.slice xA xl xk,.slice none 0 0]):=
      ⟨_,_,rfl,Hpi.out.1,Hpi.out.2.1,Hpi.out.2.2.1,Hpi.out.2.2.2,((Hxc.out.belowSize HB57.out).drew.alloc _).more fun b hb _=>(HT.out b).2 ⟨by omega,hb.2⟩,SlV.nil_ _ _ _⟩
     go_upto_region 20 with (fail)
     go_region_held3 (fun W=>(W.cell? ⟨eb,eo+j * 4,none⟩=some (.string pn)∧W.cell? ⟨eb,eo+j * 4+1,none⟩=some (.int .i64 p1)∧W.cell? ⟨eb,eo+j * 4+2,none⟩=some (.int .i64 p2)∧W.cell? ⟨eb,eo+j * 4+3,none⟩=some (.int .i64 p3))∧W.cell? ⟨cb,co+j,none⟩=some (.slice xA xl xk))
      (first
        | (with_reducible exact Hpc.out _ HB57.out.drew)
        | (with_reducible exact Hpc.out _ hB9)
        | (with_reducible exact Hpc.out _ (HB57.out.alloc hw57 _).drew))
      (first
        | (refine zB8 (by rfl) _ _ _ (by rfl) zJH Tryz.underlying22 (by rfl) (HO7.out.drew.alloc _) ⟨w7.heap.size,0,none⟩ 1 [.string pn,.int .i64 p1,.int .i64 p2,.int .i64 p3,.slice xA xl xk,.slice none 0 0] ⟨pn,⟨p1,p2,p3⟩,c,[]⟩ (by rfl) HNh.out (zAo w7.drew #[.string pn,.int .i64 p1,.int .i64 p2,.int .i64 p3,.slice xA xl xk,.slice none 0 0] _) (by rw[←HM.out];unfold maxLen;omega) (by rw[←HM.out];omega) (by show w5.heap.size≤(w7.alloc _).heap.size;simp;omega) (w7.heap.size+1) (by show (w7.alloc _).heap.size=_;simp) ?_;intro g9 cap9 w9 hown9 hgrow9 hat9 hlt9;have hB9:Below w5.heap.size w5 w9:=zA6 ((HB57.out.drew).alloc hw57 _) hgrow9 (HO7.out.drew.alloc _) (nR _)))
     have HB58:=cH hB9
     have HE8:Hid (Own rEdge w9 w5.heap.size 61 u14 es (fun _=>False)):=(HE7.out.drew.alloc _).grown hgrow9 (by
      cases hq:u14.ownBlock with
      | none=>exact Or.inl rfl
      | some g=>exact Or.inr fun h=>Hap.out g h.symm hq) (fun b hb=>hb.elim)
     have HO8:=cH hown9
     have Hap8:Hid (∀ g,(Value.slice (some ⟨g9,0,none⟩) (out.length+1) cap9).ownBlock=some g→u14.ownBlock≠some g):=fun g hg he=>by
      have e2:g9=g:=Option.some.inj hg
      rcases hat9 with h|h
      ·exact Hap.out g9 h (by rw[e2];exact he)
      ·have:=(HEl.out g he).2;omega
     clear hown9 hgrow9 hat9 hlt9 hB9 y0 y1 y2 y3 k0 s8 s12 f12 hlb HNh
     go_upto_region 21 with (fail)
     generalize hq8:w9=w8 at *
     generalize hq9:out++[(⟨pn,⟨p1,p2,p3⟩,c,[]⟩:Node)]=out3 at *
     generalize hq1:(some (⟨g9,0,none⟩:Addr))=OB at *
     generalize hq2:out.length+1=M3 at *
     generalize hq3:cap9=od at *
     clear hq8 hq9 hq1 hq2 hq3
    all_goals
     obtain ⟨⟨y0,y1,y2,y3⟩,k0⟩:=Hpc.out w8 HB58.out
     have HKi:Hid (I64 (K:Int)):=by unfold Hid I64;omega
     have HElz:Hid (es.length=j):=Hbo.out.2.2.2
     have hw58:w5.heap.size≤w8.heap.size:=HB58.out.size
     have HEl8:=cH HE8.out.lt
     have HOl8:=cH HO8.out.lt
     go_wp2_with (at_builtin;refine zAK (by rfl) _ _ _ (by rfl) zDw Tryz.underlying56 (by rfl) (HE8.out.alloc _) ⟨w8.heap.size,0,none⟩ 1 [.string pn,.int .i64 (K:Int)] ⟨pn,(K:Int)⟩ (by rfl) ⟨rfl,Hpi.out.1,HKi.out⟩ (zAo w8 #[.string pn,.int .i64 (K:Int)] _) (by rw[HElz.out];unfold maxLen;omega) (by rw[HElz.out];omega) (by simp;omega) (w8.heap.size+1) (by simp) ?_)
     intro g10 cap10 w10 hown10 hgrow10 hat10 hlt10
     have HB10:=cH (zA6 (HB58.out.alloc hw58 _) hgrow10 (HE8.out.alloc _) (nR _))
     have HO10:Hid (Own rNode w10 w5.heap.size 58 (.slice OB M3 od) out3 T):=(HO8.out.alloc _).grown hgrow10 (by
      cases hq:(Value.slice OB M3 od).ownBlock with
      | none=>exact Or.inl rfl
      | some g=>exact Or.inr fun h=>Hap8.out g hq h.symm) (fun b hb he=>by
      have h1:=((HT.out b).1 hb).2
      have h2:=(HEl8.out b he.symm).1
      omega)
     have HE10:=cH hown10
     have Hap10:Hid (∀ g,(Value.slice OB M3 od).ownBlock=some g→(Value.slice (some ⟨g10,0,none⟩) (es.length+1) cap10).ownBlock≠some g):=fun g hg he=>by
      have e2:g10=g:=Option.some.inj he
      rcases hat10 with h|h
      ·exact Hap8.out g hg (by rw[←e2];exact h)
      ·have:=(HOl8.out g hg).2;omega
     clear hown10 hgrow10 hat10 hlt10 y0 y1 y2 y3 k0
     go_wp2_with fail
     go_roundw
     case rel=>exact ⟨j+1,out3,es++[⟨pn,(K:Int)⟩],by omega,by go_num,HST3,⟨Hbo3.out.1,Hbo3.out.2.1,Hbo3.out.2.2,by rw[List.length_append,HElz.out];rfl⟩,HO10,HE10,Hap10,HB10⟩
     case measure=>simp[intOf];omega
  have hiI:(i:Int)<(en:Int):=by omega
  obtain ⟨p,hp⟩:∃ p,env[i]?=some p:=⟨_,gE (by have:=Hel.out;omega)⟩
  obtain ⟨eb,eo,cs',hA,_,heb,⟨rfl,hpn,hp1,hp2,hp3⟩,hcell⟩:=HEN.out.elem hp
  have Hp:Hid (∀ W,Below w.heap.size w W→W.cell? ⟨eb,eo+i * 4,none⟩=some (.string p.name)∧W.cell? ⟨eb,eo+i * 4+1,none⟩=some (.int .i64 p.ver.major)∧W.cell? ⟨eb,eo+i * 4+2,none⟩=some (.int .i64 p.ver.minor)∧W.cell? ⟨eb,eo+i * 4+3,none⟩=some (.int .i64 p.ver.patch)):=fun W hW=>⟨zAA hW (hcell 0 _ rfl) heb,zAA hW (hcell 1 _ rfl) heb,zAA hW (hcell 2 _ rfl) heb,zAA hW (hcell 3 _ rfl) heb⟩
  have HCk:Hid (∀ W,Below wr.heap.size wr W→Calls Tryz.prog 163 #[.pointer (some ⟨C.cB,0,none⟩),.agg #[.slice A0 n0 c0,.slice A1 n1 c1,.slice A2 n2 c2,.slice A3 n3 c3],.slice D en ec,.agg #[.string p.name,.int .i64 p.ver.major,.int .i64 p.ver.minor,.int .i64 p.ver.patch]] W fun e w'=>(∃ B n k,e=.returned (.tuple #[.slice B n k,.bool (ctxP C.q.L C.q.m env p).isSome])∧SlV rPin w' (fun b=>wr.heap.size≤b) ((ctxP C.q.L C.q.m env p).getD []) (.slice B n k))∧Below W.heap.size W w'):=fun W hW=>(HCx.out W p (bot hB.out hW) ⟨hpn,hp1,hp2,hp3⟩).mono fun e w' ⟨⟨B,n,k,h1,h2⟩,h3⟩=>⟨⟨B,n,k,h1,h2.more fun b hb _=>nT hW.size hb⟩,h3⟩
  have HNo:Hid (ctxP C.q.L C.q.m env p=none→R=.no t):=fun h=>HRn.out (zK4 hp h)
  have HYes:Hid (∀ x,ctxP C.q.L C.q.m env p=some x→zEY C.q.L C.q.m env env (i+1) (cs++[x])):=fun x h=>zIG Hct.out hp h
  clear hcell hpn hp1 hp2 hp3 hp
  subst hA
  obtain ⟨pn,p1,p2,p3⟩:=p
  simp only at Hp HCk
  generalize ctxP C.q.L C.q.m env ⟨pn,p1,p2,p3⟩=cx at *
  have Hcells:Hid (∀ W,Below wr.heap.size wr W→(W.cell? ⟨sB,0,none⟩=some (.pointer (some ⟨C.cB,0,none⟩))∧W.cell? ⟨sB,1,none⟩=some (.slice A0 n0 c0)∧W.cell? ⟨sB,2,none⟩=some (.slice A1 n1 c1)∧W.cell? ⟨sB,3,none⟩=some (.slice A2 n2 c2)∧W.cell? ⟨sB,4,none⟩=some (.slice A3 n3 c3))∧W.cell? ⟨eb,eo+i * 4,none⟩=some (.string pn)∧W.cell? ⟨eb,eo+i * 4+1,none⟩=some (.int .i64 p1)∧W.cell? ⟨eb,eo+i * 4+2,none⟩=some (.int .i64 p2)∧W.cell? ⟨eb,eo+i * 4+3,none⟩=some (.int .i64 p3)):=fun W hW=>⟨Hs.out W (bot hB.out hW),Hp.out W (bot hB.out hW)⟩
  obtain ⟨⟨s0,s1,s2,s3,s4⟩,y0,y1,y2,y3⟩:=Hcells.out wr (bR _ _)
  go_upto_region 5 with (fail)
  go_region_held3 (fun W=>(W.cell? ⟨sB,0,none⟩=some (.pointer (some ⟨C.cB,0,none⟩))∧W.cell? ⟨sB,1,none⟩=some (.slice A0 n0 c0)∧W.cell? ⟨sB,2,none⟩=some (.slice A1 n1 c1)∧W.cell? ⟨sB,3,none⟩=some (.slice A2 n2 c2)∧W.cell? ⟨sB,4,none⟩=some (.slice A3 n3 c3))∧W.cell? ⟨eb,eo+i * 4,none⟩=some (.string pn)∧W.cell? ⟨eb,eo+i * 4+1,none⟩=some (.int .i64 p1)∧W.cell? ⟨eb,eo+i * 4+2,none⟩=some (.int .i64 p2)∧W.cell? ⟨eb,eo+i * 4+3,none⟩=some (.int .i64 p3))
   (first
     | (with_reducible exact Hcells.out _ (bR _ _).drew)
     | (with_reducible exact Hcells.out _ hB2))
   (first
     | (go_at_call 163;with_reducible refine (HCk.out _ (bR _ _).drew).mono ?_;rintro e w2 ⟨⟨xB,xn,xk,rfl,hsl⟩,hb2⟩;have hB2:Below wr.heap.size wr w2:=bot (bR _ _).drew hb2))
  all_goals
   have HB2:=cH (bot hB.out hB2)
   have HO2:Hid (Own (zAi rPin) w2 w.heap.size 55 u9 cs (fun b=>S1 b∨(wr.heap.size≤b∧b<w2.heap.size))):=(Hown.out.keep hB2).moreNew (B:=wr.heap.size) (fun k hk=>(Hown.out.lt k hk).2)
   have hwr:w.heap.size≤wr.heap.size:=hB.out.size
   cases cx with
   | none=>
     have He:=cH (HNo.out rfl)
     clear HNo HYes hsl hb2 hB2 s0 s1 s2 s3 s4 y0 y1 y2 y3 HO2
     go_wp2_with fail
     go_ret
     rw[He.out]
     exact ⟨But.of (by rw[←Hsq.out] at *;exact HB2.out),rfl,HSW.out _ HB2.out,Hz.out.2.2⟩
   | some x=>
     have HYx:=cH (HYes.out x rfl)
     have Hxs:=cH hsl
     clear HNo HYes hsl hb2 hB2 s0 s1 s2 s3 s4 y0 y1 y2 y3
     obtain ⟨xA,xc,hxe,_,_⟩:=Hxs.out.val
     have hw2z:w.heap.size≤w2.heap.size:=HB2.out.size
     have Hclz:Hid (cs.length≤4096):=by have h1:=Hcl.out;unfold Hid;omega
     have HXh:Hid ((zAi rPin).holds (w2.alloc (.cells #[.slice xB xn xk] 55)) (fun b=>S1 b∨(wr.heap.size≤b∧b<w2.heap.size)) x [.slice xB xn xk]):=(show SlV rPin _ _ x (.slice xB xn xk) from (Hxs.out.more fun b hb hl=>Or.inr ⟨hb,hl⟩).alloc _)
     clear hxe
     go_wp2_with (at_builtin;refine zAK (by rfl) _ _ _ (by rfl) zMs Tryz.underlying228 (by rfl) (HO2.out.alloc _) ⟨w2.heap.size,0,none⟩ 1 [.slice xB xn xk] x (by rfl) HXh.out (zAo w2 #[.slice xB xn xk] _) (by have:=Hclz.out;unfold maxLen;omega) (by have:=Hclz.out;omega) (by simp;omega) (w2.heap.size+1) (by simp) ?_)
     intro g9 cap9 w9 hown9 hgrow9 hat9 hlt9
     have HB9:=cH (zA6 (bal HB2.out _) hgrow9 (HO2.out.alloc _) (nR _))
     have HO9:=cH hown9
     have HS9:Hid (∀ b,(S1 b∨(wr.heap.size≤b∧b<w2.heap.size))→w.heap.size≤b):=fun b hb=>by
      rcases hb with hb|hb
      ·exact HS1.out b hb
      ·omega
     clear hown9 hgrow9 hat9 hlt9 HO2 HXh Hxs
     go_wp2_with fail
     go_roundw
     case rel=>exact ⟨i+1,cs++[x],_,by omega,by go_num,cH (by rw[List.length_append,Hcl.out];rfl),HYx,HO9,HS9,HB9⟩
     case measure=>simp[intOf];omega
