/- The document's search: contexts are closed, nodes are apart: what a solution's graph is: plain. -/
import Derived.Test.YtminjjdnmpaaoaaGreatDoorIn25
import Derived.Test.YtminjjdnmpaaoaaGreatDoorIn27
import Derived.Test.YtminjjdnmpaaoaaGreatDoorIn17
import Derived.Test.YtminjjdnmpaaoaaGreatDoorAl
set_option linter.all false
namespace Go.Proofs.YtminjjdnmpaaoaaGreatDoor
open Go
def zBw (env l:List Pin):Prop:=∀ x∈l,zAQ env x.name=some x.ver
def ClP (L:List Pack) (m:Mani) (env r:List Pin) (p:Pin):Prop:=∃ x,getC L p.name p.ver=some x∧∀ d∈zBa m x.peers,∃ v,zAQ env d.name=some v∧inSB d.range v=true∧(⟨d.name,v⟩:Pin)∈r
theorem ClP.more {L:List Pack} {m:Mani} {env r r':List Pin} {p:Pin} (h:ClP L m env r p) (hr:∀ x∈r,x∈r'):ClP L m env r' p:=by
 obtain ⟨x,h1,h2⟩:=h
 refine ⟨x,h1,fun d hd=>?_⟩
 obtain ⟨v,g1,g2,g3⟩:=h2 d hd
 exact ⟨v,g1,g2,hr _ g3⟩
theorem zEd {l:List Pin} (h:SrtP l) {x:Pin} (hx:x∈l):zAQ l x.name=some x.ver:=by
 induction l with
 | nil=>cases hx
 | cons y l ih=>
   unfold SrtP at h
   rw[List.pairwise_cons] at h
   unfold zAQ
   rcases List.mem_cons.1 hx with rfl|hx
   ·rw[if_pos rfl]
   ·rw[if_neg (fun e=>by have:=h.1 x hx;rw[e,zBd] at this;cases this)]
    exact ih h.2 hx
theorem zHC {l:List Pin} {s:ByteArray} (h:pinIs l s=true):∃ x∈l,x.name=s:=by
 unfold pinIs at h
 split at h
 ·cases h
 ·rename_i x hx
  exact ⟨x,mG hx,by simpa using h⟩
theorem zKt {l:List Pin} {p:Pin} (h:¬pinIs l p.name=true):p∈withP l p:=by
 unfold withP
 rw[if_neg h]
 simp
theorem zMl {env:List Pin}:∀ {ds:List Dep} {out next out' next':List Pin},askP env ds out next=some (out',next')→zBw env out →
  zBw env out'∧(∀ x∈out,x∈out')∧(∀ x∈next,x∈next')∧(∀ x∈out',x∈out∨x∈next')∧∀ d∈ds,∃ v,zAQ env d.name=some v∧inSB d.range v=true∧(⟨d.name,v⟩:Pin)∈out':=by
 intro ds
 induction ds with
 | nil=>intro out next out' next' h ht;unfold askP at h;cases h;exact ⟨ht,fun x h=>h,fun x h=>h,fun x h=>.inl h,fun d hd=>by cases hd⟩
 | cons d ds ih=>
   intro out next out' next' h ht
   unfold askP at h
   split at h
   ·cases h
   ·rename_i v hv
    split at h
    ·rename_i hr
     have ht':zBw env (withP out ⟨d.name,v⟩):=fun x hx=>by
      rcases withP_mem hx with rfl|hx
      ·exact hv
      ·exact ht x hx
     obtain ⟨h1,h2,h3,h4,h5⟩:=ih h ht'
     have hin:(⟨d.name,v⟩:Pin)∈withP out ⟨d.name,v⟩:=by
      by_cases hp:pinIs out d.name=true
      ·obtain ⟨x,hx,hxn⟩:=zHC hp
       have:=ht x hx
       rw[hxn,hv] at this
       have e:x=⟨d.name,v⟩:=by cases x;simp only at hxn this;rw[hxn,Option.some.inj this]
       exact zDs (by rw[←e];exact hx)
      ·exact zKt hp
     refine ⟨h1,fun x hx=>h2 x (zDs hx),fun x hx=>h3 x ?_,fun x hx=>?_,fun d' hd'=>?_⟩
     ·split
      ·exact hx
      ·exact List.mem_append.2 (.inl hx)
     ·rcases h4 x hx with hx|hx
      ·rcases withP_mem hx with rfl|hx
       ·by_cases hp:pinIs out d.name=true
        ·obtain ⟨x,hx,hxn⟩:=zHC hp
         have:=ht x hx
         rw[hxn,hv] at this
         have e:x=⟨d.name,v⟩:=by cases x;simp only at hxn this;rw[hxn,Option.some.inj this]
         exact .inl (by rw[←e];exact hx)
        ·exact .inr (h3 _ (by rw[if_neg hp];simp))
       ·exact .inl hx
      ·exact .inr hx
     ·rcases List.mem_cons.1 hd' with rfl|hd'
      ·exact ⟨v,hv,hr,h2 _ hin⟩
      ·exact h5 d' hd'
    ·cases h
theorem zL4 {L:List Pack} {m:Mani} {env:List Pin}:∀ {f:Nat} {rest out r:List Pin},ctxGo L m env f rest out=some r→zBw env out →
  zBw env r∧(∀ x∈out,x∈r)∧(∀ x∈rest,ClP L m env r x)∧∀ x∈r,x∈out∨ClP L m env r x:=by
 intro f
 induction f with
 | zero=>
   intro rest out r h ht
   cases rest with
   | nil=>unfold ctxGo at h;cases h;exact ⟨ht,fun x h=>h,(fun x h=>by cases h),fun x h=>.inl h⟩
   | cons p rest=>unfold ctxGo at h;cases h
 | succ f ih=>
   intro rest out r h ht
   cases rest with
   | nil=>unfold ctxGo at h;cases h;exact ⟨ht,fun x h=>h,(fun x h=>by cases h),fun x h=>.inl h⟩
   | cons p rest=>
     unfold ctxGo at h
     split at h
     ·cases h
     ·rename_i x hx
      split at h
      ·cases h
      ·rename_i out' rest' ha
       obtain ⟨a1,a2,a3,a4,a5⟩:=zMl ha ht
       obtain ⟨g1,g2,g3,g4⟩:=ih h a1
       refine ⟨g1,fun y hy=>g2 y (a2 y hy),fun y hy=>?_,fun y hy=>?_⟩
       ·rcases List.mem_cons.1 hy with rfl|hy
        ·refine ⟨x,hx,fun d hd=>?_⟩
         obtain ⟨v,b1,b2,b3⟩:=a5 d hd
         exact ⟨v,b1,b2,g2 _ b3⟩
        ·exact g3 y (a3 y hy)
       ·rcases g4 y hy with hy|hy
        ·rcases a4 y hy with hy|hy
         ·exact .inl hy
         ·exact .inr (g3 y hy)
        ·exact .inr hy
theorem zLr {env env' r:List Pin}:∀ {ds:List Dep} {out next:List Pin},(∀ d∈ds,∃ v,zAQ env d.name=some v∧inSB d.range v=true∧(⟨d.name,v⟩:Pin)∈r)→zBw env' r→(∀ x∈out,x∈r)→(∀ x∈next,x∈r) →
  ∃ out' next',askP env ds out next=some (out',next')∧askP env' ds out next=some (out',next')∧(∀ x∈out',x∈r)∧∀ x∈next',x∈r:=by
 intro ds
 induction ds with
 | nil=>intro out next _ _ ho hn;exact ⟨out,next,rfl,rfl,ho,hn⟩
 | cons d ds ih=>
   intro out next h ht ho hn
   obtain ⟨v,h1,h2,h3⟩:=h d (by simp)
   have h4:zAQ env' d.name=some v:=ht _ h3
   obtain ⟨out',next',g1,g2,g3,g4⟩:=ih (out:=withP out ⟨d.name,v⟩) (next:=if pinIs out d.name=true then next else next++[⟨d.name,v⟩]) (fun d' hd'=>h d' (by simp[hd'])) ht (fun x hx=>by
    rcases withP_mem hx with rfl|hx
    ·exact h3
    ·exact ho x hx) (fun x hx=>by
    split at hx
    ·exact hn x hx
    ·rcases List.mem_append.1 hx with hx|hx
     ·exact hn x hx
     ·rw[List.mem_singleton.1 hx];exact h3)
   refine ⟨out',next',?_,?_,g3,g4⟩
   ·rw[askP,h1];simp only[h2,if_true];exact g1
   ·rw[askP,h4];simp only[h2,if_true];exact g2
theorem zLG {L:List Pack} {m:Mani} {env env' r:List Pin} (hc:∀ x∈r,ClP L m env r x) (ht:zBw env' r):∀ {f:Nat} {rest out:List Pin},(∀ x∈rest,x∈r)→(∀ x∈out,x∈r) →
  ctxGo L m env f rest out=ctxGo L m env' f rest out∧∀ r',ctxGo L m env f rest out=some r'→∀ x∈r',x∈r:=by
 intro f
 induction f with
 | zero=>
   intro rest out hr ho
   cases rest with
   | nil=>unfold ctxGo;exact ⟨rfl,fun r' h=>by cases h;exact ho⟩
   | cons p rest=>unfold ctxGo;exact ⟨rfl,fun r' h=>by cases h⟩
 | succ f ih=>
   intro rest out hr ho
   cases rest with
   | nil=>unfold ctxGo;exact ⟨rfl,fun r' h=>by cases h;exact ho⟩
   | cons p rest=>
     obtain ⟨x,h1,h2⟩:=hc p (hr p (by simp))
     obtain ⟨out',rest',g1,g2,g3,g4⟩:=zLr (next:=rest) h2 ht ho (fun y hy=>hr y (by simp[hy]))
     have:=ih g4 g3
     rw[ctxGo,ctxGo,h1]
     simp only
     rw[g1,g2]
     exact this
theorem zJ0 {L:List Pack} {m:Mani} {env env' r:List Pin} {p c:Pin} (h:ctxP L m env p=some r) (hc:c∈r) (ht:zBw env' r):ctxP L m env' c=ctxP L m env c∧∀ r',ctxP L m env c=some r'→∀ x∈r',x∈r:=by
 obtain ⟨_,_,_,h4⟩:=zL4 h (fun x hx=>by cases hx)
 have hcl:∀ x∈r,ClP L m env r x:=fun x hx=>(h4 x hx).resolve_left (by simp)
 have hfu:∀ (e:List Pin) (F:Nat),e.length+1≤F→ctxP L m e c=ctxGo L m e F [c] []:=fun e F hF=>zEA List.Pairwise.nil (fun x hx=>by cases hx) (by unfold muC;simp;omega) (by unfold muC;simp;omega)
 obtain ⟨g1,g2⟩:=zLG (f:=env.length+env'.length+1) (rest:=[c]) (out:=[]) hcl ht (fun x hx=>by rw[List.mem_singleton.1 hx];exact hc) (fun x hx=>by cases hx)
 rw[hfu env (env.length+env'.length+1) (by omega),hfu env' (env.length+env'.length+1) (by omega)]
 exact ⟨g1.symm,g2⟩
theorem zMW {L:List Pack} {m:Mani} {env:List Pin}:∀ {l:List Pin} {cs:List (List Pin)},ctxsP L m env l=some cs→∀ (i:Nat) (p:Pin),l[i]?=some p→∃ c,cs[i]?=some c∧ctxP L m env p=some c:=by
 intro l
 induction l with
 | nil=>intro cs _ i p hp;cases hp
 | cons a l ih=>
   intro cs h i p hp
   unfold ctxsP at h
   split at h
   ·cases h
   ·rename_i x hx
    split at h
    ·cases h
    ·rename_i xs hxs
     cases h
     cases i with
     | zero=>cases hp;exact ⟨x,rfl,hx⟩
     | succ i=>exact ih hxs i p hp
theorem zLa {L:List Pack} {m:Mani} {env:List Pin}:∀ {l:List Pin} {cs:List (List Pin)},ctxsP L m env l=some cs→∀ c∈cs,∃ p,ctxP L m env p=some c:=by
 intro l
 induction l with
 | nil=>intro cs h c hc;unfold ctxsP at h;cases h;cases hc
 | cons a l ih=>
   intro cs h c hc
   unfold ctxsP at h
   split at h
   ·cases h
   ·rename_i x hx
    split at h
    ·cases h
    ·rename_i xs hxs
     cases h
     rcases List.mem_cons.1 hc with rfl|hc
     ·exact ⟨a,hx⟩
     ·exact ih hxs c hc
def zDp (l:List Node):Prop:=∀ (i j:Nat) (n m:Node),1≤i→1≤j→l[i]?=some n→l[j]?=some m→n.name=m.name→n.ver=m.ver→n.ctx=m.ctx→i=j
theorem zHT {p:Pin} {c:List Pin}:∀ {l:List Node},zAq p c l=l.length→∀ (j:Nat) (y:Node),l[j]?=some y→¬(y.name=p.name∧y.ver=p.ver∧y.ctx=c):=by
 intro l
 induction l with
 | nil=>intro _ j y hy;cases hy
 | cons n l ih=>
   intro h j y hy
   unfold zAq at h
   split at h
   ·simp at h
   ·rename_i hn
    cases j with
    | zero=>cases hy;exact fun e=>hn (zLZ.2 e)
    | succ j=>exact ih (by rw[List.length_cons] at h;omega) j y hy
theorem zHX {p:Pin} {c:List Pin} {l:List Node} (h:placeN l p c=l.length) (hl:1≤l.length):∀ (j:Nat) (y:Node),1≤j→l[j]?=some y→¬(y.name=p.name∧y.ver=p.ver∧y.ctx=c):=by
 cases l with
 | nil=>simp at hl
 | cons n l=>
   intro j y hj hy
   cases j with
   | zero=>omega
   | succ j=>
     have e:placeN (n::l) p c=zAq p c l+1:=rfl
     exact zHT (by rw[e,List.length_cons] at h;omega) j y hy
theorem zDp.snoc {l:List Node} {n:Node} (h:zDp l) (hn:∀ (j:Nat) (y:Node),1≤j→l[j]?=some y→¬(y.name=n.name∧y.ver=n.ver∧y.ctx=n.ctx)):zDp (l++[n]):=by
 have hat:∀ (j:Nat) (y:Node),(l++[n])[j]?=some y→l[j]?=some y∨(j=l.length∧y=n):=fun j y hy=>by
  rcases Nat.lt_trichotomy j l.length with hlt|heq|hgt
  ·rw[List.getElem?_append_left hlt] at hy;exact .inl hy
  ·rw[heq,List.getElem?_append_right (nR _),Nat.sub_self] at hy
   cases hy
   exact .inr ⟨heq,rfl⟩
  ·rw[List.getElem?_eq_none (by rw[List.length_append,List.length_singleton];omega)] at hy
   cases hy
 intro i j a b hi hj ha hb e1 e2 e3
 rcases hat i a ha with ha|⟨ha,ea⟩<;>rcases hat j b hb with hb|⟨hb,eb⟩
 ·exact h i j a b hi hj ha hb e1 e2 e3
 ·exact absurd (by rw[←eb];exact ⟨e1,e2,e3⟩) (hn i a hi ha)
 ·exact absurd (by rw[←ea];exact ⟨e1.symm,e2.symm,e3.symm⟩) (hn j b hj hb)
 ·omega
theorem zG0 {lim:Nat}:∀ {env:List Pin} {cs:List (List Pin)} {out:List Node} {es:List Edge} {out':List Node} {es':List Edge},zA2 lim env cs out es=some (out',es')→1≤out.length→zDp out→zDp out':=by
 intro env
 induction env with
 | nil=>intro cs out es out' es' h _ ha;cases cs<;>(unfold zA2 at h;cases h;exact ha)
 | cons p l ih=>
   intro cs out es out' es' h h1 ha
   cases cs with
   | nil=>unfold zA2 at h;cases h;exact ha
   | cons c cs=>
     unfold zA2 at h
     split at h
     ·rename_i hp
      split at h
      ·cases h
      ·exact ih h (by simp) (ha.snoc (zHX hp h1))
     ·exact ih h h1 ha
theorem zDp.setE {l:List Node} (h:zDp l) (i:Nat) (es:List Edge):zDp (zAv l i es):=by
 have key:∀ (j:Nat) (m:Node),(zAv l i es)[j]?=some m→∃ m0,l[j]?=some m0∧m.name=m0.name∧m.ver=m0.ver∧m.ctx=m0.ctx:=fun j m hm=>by
  rw[zBj] at hm
  split at hm
  ·cases hx:l[j]? with
   | none=>rw[hx] at hm;cases hm
   | some x=>rw[hx] at hm;cases hm;exact ⟨x,rfl,rfl,rfl,rfl⟩
  ·exact ⟨m,hm,rfl,rfl,rfl⟩
 intro a b n m ha hb hn hm e1 e2 e3
 obtain ⟨n0,p1,p2,p3,p4⟩:=key a n hn
 obtain ⟨m0,r1,r2,r3,r4⟩:=key b m hm
 exact h a b n0 m0 ha hb p1 r1 (by rw[←p2,←r2,e1]) (by rw[←p3,←r3,e2]) (by rw[←p4,←r4,e3])
def zF0 (q:SIn) (nodes:List Node) (env:List Pin) (e:Edge) (p:Pin):Prop:=e.label=p.name∧∃ (j:Nat) (y:Node),e.to=(j:Int)∧1≤j∧nodes[j]?=some y∧y.name=p.name∧y.ver=p.ver∧ctxP q.L q.m env p=some y.ctx
structure EnvOf (q:SIn) (nodes:List Node) (n:Node) (env:List Pin):Prop where
 srt:SrtP env
 ctx:∀ p∈n.ctx,p∈env
 edge:∀ e∈n.edges,∃ p∈env,zF0 q nodes env e p
 pin:∀ p∈env,∃ e∈n.edges,zF0 q nodes env e p
structure SInv2 (q:SIn) (nodes:List Node) (at_:Nat):Prop where
 made:∀ (j:Nat) (n:Node),1≤j→nodes[j]?=some n→∃ env p,ctxP q.L q.m env p=some n.ctx
 apart:zDp nodes
 env:∀ (i:Nat) (n:Node),i<at_→nodes[i]?=some n→∃ env,EnvOf q nodes n env
theorem zF0.more {q:SIn} {nodes nodes':List Node} {env:List Pin} {e:Edge} {p:Pin} (h:zF0 q nodes env e p) (hn:∀ (j:Nat) (y:Node),nodes[j]?=some y→∃ y',nodes'[j]?=some y'∧y'.name=y.name∧y'.ver=y.ver∧y'.ctx=y.ctx):zF0 q nodes' env e p:=by
 obtain ⟨h1,j,y,h2,h3,h4,h5,h6,h7⟩:=h
 obtain ⟨y',g1,g2,g3,g4⟩:=hn j y h4
 exact ⟨h1,j,y',h2,h3,g1,by rw[g2,h5],by rw[g3,h6],by rw[g4,h7]⟩
theorem zKI {q:SIn} {nodes:List Node} {at_:Nat} {env:List Pin} {cs:List (List Pin)} {out:List Node} {es:List Edge} (h:SInv q nodes at_) (h':SInv2 q nodes at_) {n:Node} (hat:nodes[at_]?=some n) (hs:SrtP env) (hc:∀ p∈n.ctx,p∈env)
  (hcs:ctxsP q.L q.m env env=some cs) (hb:zA2 q.lim env cs nodes []=some (out,es)):SInv2 q (zAv out at_ es) (at_+1):=by
 have hal:=(gS.1 hat).1
 have hpos:1≤nodes.length:=by omega
 obtain ⟨c1,c2,c3⟩:=zDD hcs
 have hap:=zG0 hb hpos h'.apart
 obtain ⟨new,esn,e1,e2,e3,e4,e5,e6,e7⟩:=zDL hb c1 hpos h.len
 rw[List.nil_append] at e2
 subst e2
 have hold:∀ (j:Nat) (x:Node),nodes[j]?=some x→out[j]?=some x:=fun j x hx=>by rw[e1,List.getElem?_append_left (gS.1 hx).1];exact hx
 have hset:∀ (j:Nat) (y:Node),out[j]?=some y→∃ y',(zAv out at_ es)[j]?=some y'∧y'.name=y.name∧y'.ver=y.ver∧y'.ctx=y.ctx:=fun j y hy=>zC9 hy
 have hedge:∀ (i:Nat) (p:Pin),env[i]?=some p→∃ e,es[i]?=some e∧zF0 q out env e p:=fun i p hp=>by
  obtain ⟨e,j,y,f1,f2,f3,f4,f5,f6,f7,f8⟩:=e6 i p hp
  obtain ⟨c,g1,g2⟩:=zMW hcs i p hp
  rw[g1] at f8
  exact ⟨e,f1,f2,j,y,f3,f4,f5,f6,f7,by rw[g2];exact f8⟩
 refine ⟨fun j m hj hm=>?_,hap.setE _ _,fun i m hi hm=>?_⟩
 ·have key:∃ m0,out[j]?=some m0∧m.ctx=m0.ctx:=by
   rw[zBj] at hm
   split at hm
   ·cases hx:out[j]? with
    | none=>rw[hx] at hm;cases hm
    | some x=>rw[hx] at hm;cases hm;exact ⟨x,rfl,rfl⟩
   ·exact ⟨m,hm,rfl⟩
  obtain ⟨m0,g0,g1⟩:=key
  rw[g1]
  rw[e1] at g0
  by_cases hjl:j<nodes.length
  ·rw[List.getElem?_append_left hjl] at g0
   exact h'.made j m0 hj g0
  ·rw[List.getElem?_append_right (by omega)] at g0
   obtain ⟨_,_,hcm⟩:=e5 m0 (mG g0)
   obtain ⟨p,hp⟩:=zLa hcs _ hcm
   exact ⟨env,p,hp⟩
 ·by_cases hi0:i=at_
  ·subst hi0
   rw[zBj,if_pos rfl,hold i n hat] at hm
   cases hm
   refine ⟨env,hs,hc,fun e he=>?_,fun p hp=>?_⟩
   ·obtain ⟨k,hk,hke⟩:=List.mem_iff_getElem.1 (show e∈es from he)
    have hlen:es.length=env.length:=by have:=congrArg List.length e3;simpa using this
    obtain ⟨e',f1,f2⟩:=hedge k env[k] (gE (by omega))
    rw[gE hk,hke] at f1
    cases f1
    exact ⟨_,List.getElem_mem _,f2.more hset⟩
   ·obtain ⟨k,hk,hke⟩:=List.mem_iff_getElem.1 hp
    obtain ⟨e',f1,f2⟩:=hedge k p (by rw[gE hk,hke])
    exact ⟨e',mG f1,f2.more hset⟩
  ·rw[zBj,if_neg hi0] at hm
   rw[e1,List.getElem?_append_left (by omega)] at hm
   obtain ⟨ev,g⟩:=h'.env i m (by omega) hm
   have hmore:∀ (j:Nat) (y:Node),nodes[j]?=some y→∃ y',(zAv out at_ es)[j]?=some y'∧y'.name=y.name∧y'.ver=y.ver∧y'.ctx=y.ctx:=fun j y hy=>hset j y (hold j y hy)
   refine ⟨ev,g.srt,g.ctx,fun e he=>?_,fun p hp=>?_⟩
   ·obtain ⟨p,hp,hpe⟩:=g.edge e he
    exact ⟨p,hp,hpe.more hmore⟩
   ·obtain ⟨e,he,hpe⟩:=g.pin p hp
    exact ⟨e,he,hpe.more hmore⟩
def TOk2 (q:SIn):Task→Prop
 | .settle nodes at_=>SInv2 q nodes at_
 | .choose nodes at_ _ _=>SInv2 q nodes at_
 | .bind nodes at_ _=>SInv2 q nodes at_
theorem zME {q:SIn} {t':Nat} {ns:List Node}:∀ {f:Nat} {k:Task} {t:Nat},goS q f k t=.ok t' ns→TOk q k→TOk2 q k→SInv2 q ns ns.length:=by
 intro f
 induction f with
 | zero=>intro k t h;unfold goS at h;cases h
 | succ f ih=>
   intro k t h hk hk2
   cases k with
   | settle nodes at_=>
     obtain ⟨h1,h2⟩:=hk
     rw[goS] at h
     split at h
     ·rename_i he
      cases h
      have:SInv2 q ns at_:=hk2
      rwa [he] at this
     ·rename_i hne
      have hal:at_<nodes.length:=by omega
      have hat:nodes[at_]?=some nodes[at_]:=gE hal
      have e:ctxAt nodes at_=(nodes[at_]).ctx:=by unfold ctxAt;rw[hat]
      refine ih h ⟨h1,_,hat,?_,fun p hp=>by rw[e];exact hp⟩ hk2
      rw[e]
      by_cases h0:at_=0
      ·obtain ⟨es,hr⟩:=h1.root
       subst h0
       rw[hat] at hr
       rw[Option.some.inj hr]
       exact List.Pairwise.nil
      ·exact (h1.node at_ _ (by omega) hat).srt
   | choose nodes at_ l env=>
     cases l with
     | nil=>rw[goS] at h;exact ih h hk hk2
     | cons w l=>
       obtain ⟨h1,n,h2,h3,h4⟩:=hk
       rw[goS] at h
       obtain ⟨o,_,t1,ho⟩:=zIk h
       refine ih ho ⟨h1,n,h2,?_,fun p hp=>?_⟩ hk2
       ·cases o with
        | none=>exact h3
        | some v=>exact zCM _ h3
       ·cases o with
        | none=>exact h4 p hp
        | some v=>exact zDs (h4 p hp)
   | bind nodes at_ env=>
     obtain ⟨h1,n,h2,h3,h4⟩:=hk
     rw[goS] at h
     split at h
     ·cases h
     ·rename_i cs hcs
      split at h
      ·cases h
      ·rename_i out es hb
       have hal:=(gS.1 h2).1
       refine ih h ⟨zIi h1 h2 h3 h4 hcs hb,?_⟩ (zKI h1 hk2 h2 h3 h4 hcs hb)
       rw[zD0]
       obtain ⟨c1,_⟩:=zDD hcs
       obtain ⟨new,_,e1,_⟩:=zDL hb c1 (by omega) h1.len
       rw[e1,List.length_append]
       omega
theorem SInv2.start (q:SIn):SInv2 q [rootN] 0 where
 made:=fun j n hj hn=>by cases j with|zero=>omega|succ j=>simp at hn
 apart:=fun i j n m hi hj hn=>by cases i with|zero=>omega|succ i=>simp at hn
 env:=fun i n hi=>by omega
theorem zKW {q:SIn} {ns:List Node} (hl:1≤q.lim) (h:solS q=some ns):SInv2 q ns ns.length:=by
 unfold solS at h
 split at h
 ·cases h
 ·split at h
  ·rename_i t0 ns0 hr
   cases h
   exact zME hr ⟨SInv.start hl,nZ _⟩ (SInv2.start q)
  ·cases h
structure SolG (g:List Node):Prop where
 two:∀ (i j:Nat) (n y:Node) (e:Edge) (c:Pin),g[i]?=some n→e∈n.edges→e.to=(j:Int)→g[j]?=some y→c∈y.ctx→∃ e1∈n.edges,e1.label=c.name∧∀ e2∈y.edges,e2.label=c.name→e2.to=e1.to
 low:∀ (j k:Nat) (y z:Node) (e:Edge) (c0:Pin),g[j]?=some y→e∈y.edges→c0∈y.ctx→e.label=c0.name→e.to=(k:Int)→g[k]?=some z→∀ c∈z.ctx,c∈y.ctx
theorem zJ5 {q:SIn} {ns:List Node} (h:SInv q ns ns.length) (h2:SInv2 q ns ns.length):SolG ns:=by
 have huni:∀ {l:List Pin},SrtP l→∀ {a b:Pin},a∈l→b∈l→a.name=b.name→a=b:=fun {l} hs {a b} ha hb e=>by
  have g1:=zEd hs ha
  have g2:=zEd hs hb
  rw[e,g2] at g1
  cases a;cases b
  simp only at e g1
  rw[e,Option.some.inj g1]
 refine ⟨fun i j n y e c hn he hto hy hc=>?_,fun j k y z e c0 hy he hc0 hl hto hz c hc=>?_⟩
 ·have hil:=(gS.1 hn).1
  have hjl:=(gS.1 hy).1
  obtain ⟨env,g⟩:=h2.env i n hil hn
  obtain ⟨envy,gy⟩:=h2.env j y hjl hy
  obtain ⟨p,hp,_,j',y',f1,f2,f3,f4,f5,f6⟩:=g.edge e he
  have:j'=j:=by omega
  subst this
  rw[hy] at f3
  cases f3
  obtain ⟨k1,k2,k3⟩:=zIh f6
  obtain ⟨e1,he1,l1,j1,y1,a1,a2,a3,a4,a5,a6⟩:=g.pin c (k3 c hc)
  refine ⟨e1,he1,l1,fun e2 he2 l2=>?_⟩
  obtain ⟨p2,hp2,m1,j2,y2,b1,b2,b3,b4,b5,b6⟩:=gy.edge e2 he2
  have hpc:p2=c:=huni gy.srt hp2 (gy.ctx c hc) (by rw[←m1,l2])
  subst hpc
  have ht:zBw envy y.ctx:=fun x hx=>zEd gy.srt (gy.ctx x hx)
  obtain ⟨d1,_⟩:=zJ0 f6 hc ht
  rw[d1,a6] at b6
  have:=h2.apart j2 j1 y2 y1 b2 a2 b3 a3 (by rw[b4,a4]) (by rw[b5,a5]) (Option.some.inj b6).symm
  rw[b1,a1,this]
 ·have hjl:=(gS.1 hy).1
  have hj1:1≤j:=by
   rcases Nat.eq_zero_or_pos j with h0|h0
   ·subst h0
    obtain ⟨es,hr⟩:=h.root
    rw[hr] at hy
    rw[←Option.some.inj hy] at hc0
    cases hc0
   ·exact h0
  obtain ⟨envy,gy⟩:=h2.env j y hjl hy
  obtain ⟨env0,p0,hm⟩:=h2.made j y hj1 hy
  obtain ⟨p2,hp2,m1,j2,y2,b1,b2,b3,b4,b5,b6⟩:=gy.edge e he
  have:j2=k:=by omega
  subst this
  rw[hz] at b3
  cases b3
  have hpc:p2=c0:=huni gy.srt hp2 (gy.ctx c0 hc0) (by rw[←m1,hl])
  subst hpc
  have ht:zBw envy y.ctx:=fun x hx=>zEd gy.srt (gy.ctx x hx)
  obtain ⟨d1,d2⟩:=zJ0 hm hc0 ht
  rw[d1] at b6
  exact d2 _ b6 c hc
def CtxN (n:Node) (s:ByteArray):Prop:=∃ p∈n.ctx,p.name=s
theorem zDH {q:PlIn} {n:Node} {e:Edge}:kindP q n e=1↔CtxN n e.label:=by
 unfold kindP CtxN
 by_cases h:(n.ctx.any fun x=>decide (x.name=e.label))=true
 ·rw[if_pos h]
  refine ⟨fun _=>?_,fun _=>rfl⟩
  obtain ⟨p,h1,h2⟩:=List.any_eq_true.1 h
  exact ⟨p,h1,by simpa using h2⟩
 ·rw[if_neg h]
  refine ⟨fun hk=>?_,fun ⟨p,h1,h2⟩=>absurd (List.any_eq_true.2 ⟨p,h1,by simpa using h2⟩) h⟩
  split at hk<;>cases hk
theorem zGe {q:PlIn} {n:Node} {e:Edge} (h:kindP q n e=2):(zAb q e.to.toNat).ctx=[]:=by
 unfold kindP at h
 split at h
 ·cases h
 ·split at h
  ·rename_i h1;exact List.eq_nil_of_length_eq_zero h1
  ·cases h
theorem zF4:∀ {l:List Edge} {s:ByteArray} {k:Nat},zA0 l s=some k→∃ e∈l,e.label=s
 | [],_,_,h=>by cases h
 | e::l,s,k,h=>by
   rw[zA0] at h
   split at h
   ·rename_i he;exact ⟨e,by simp,he⟩
   ·cases h2:zA0 l s with
    | none=>rw[h2] at h;cases h
    | some i=>
      obtain ⟨e',h3,h4⟩:=zF4 h2
      exact ⟨e',by simp[h3],h4⟩
theorem zLL {q:PlIn} (h:mayPl q.g q.ps=true) {j:Nat} {n:Node} (hj:q.g[j]?=some n) {c:Pin} (hc:c∈n.ctx):nameB c.name=true∧∃ e∈n.edges,e.label=c.name:=by
 obtain ⟨_,_,_,hall⟩:=zBQ h
 obtain ⟨x,hx,hf⟩:=hall j n hj
 unfold formP at hf
 simp only[Bool.and_eq_true] at hf
 obtain ⟨_,⟨hr,_⟩,_,hp⟩:=hf
 refine ⟨zCl hr c.name (List.mem_map.2 ⟨c,hc,rfl⟩),?_⟩
 have h1:=List.all_eq_true.1 hp c hc
 unfold pinP at h1
 split at h1
 ·cases h1
 ·rename_i k hk
  exact zF4 hk
theorem zIo {q:PlIn} (h:mayPl q.g q.ps=true):(zAb q 0).ctx=[]:=by
 obtain ⟨h1,_,_,hall⟩:=zBQ h
 obtain ⟨x,hx,hf⟩:=hall 0 _ (gE (by omega))
 rw[zAX (gE (by omega))]
 unfold formP headP at hf
 rw[if_pos rfl] at hf
 unfold zEY at hf
 simp only[Bool.and_eq_true,decide_eq_true_eq] at hf
 exact List.eq_nil_of_length_eq_zero hf.1.2.2.1
theorem zFb {q:PlIn} {a:Nat} {done:List ByteArray} {st:PlSt} (h:zAe q a done st) (hm:mayPl q.g q.ps=true) {i:Nat} {d:Dir} (hi:st.1[i]?=some d):∃ n,q.g[d.node.toNat]?=some n:=by
 have hg:=(zBQ hm).1
 by_cases h0:i=0
 ·subst h0
  have:=(h.inv.root d hi).2.1
  exact ⟨_,gE (by rw[this];show 0<_;omega)⟩
 ·have:=h.inv.node i d hi h0
  exact ⟨_,gE (by omega)⟩
theorem zDJ {T:List Dir} {i f:Nat} {d df:Dir} {t s:ByteArray} (hi:T[i]?=some d) (hf:T[f]?=some df) (hp:d.path=df.path++[t]) (hs:nameB s=true) (hno:findI T (d.path++[s])<0):lookI T (i:Int) s=lookI T (f:Int) s:=by
 have hlen:d.path.length=df.path.length+1:=by rw[hp,List.length_append,List.length_singleton]
 have htk:∀ k,k≤df.path.length→d.path.take k=df.path.take k:=fun k hk=>by rw[hp,List.take_append_of_le_length hk]
 rcases lookI_spec hi hs with ⟨h1,h2⟩|⟨k,h1,h2,h3,h4⟩
 ·rcases lookI_spec hf hs with ⟨g1,_⟩|⟨k,g1,g2,g3,_⟩
  ·rw[h1,g1]
  ·have:=h2 k (by omega)
   rw[htk k g1] at this
   omega
 ·have hk:k≤df.path.length:=by
   rcases Nat.lt_or_ge df.path.length k with hl|hl
   ·exfalso
    have:k=d.path.length:=by omega
    rw[this,List.take_length] at h3
    omega
   ·exact hl
  rw[htk k hk] at h2 h3
  rw[h2,zDz hf hs hk h3 fun j hj1 hj2=>by rw[←htk j hj2];exact h4 j hj1 (by omega)]
theorem step_cases {q:PlIn} {at_:Nat} {done:List ByteArray} {st st':PlSt} (h:zAe q at_ done st) (hm:mayPl q.g q.ps=true) {d:Dir} (hd:st.1[at_]?=some d) {n:Node} (hn:q.g[d.node.toNat]?=some n) {e:Edge} (he:e∈n.edges) (hs:e.label∉done) {kind:Nat} (hst:stepE q at_ kind e st=.ok st') :
  (∃ (j:Nat) (f:Dir),lookI st.1 (at_:Int) e.label=(j:Int)∧st.1[j]?=some f∧f.node=e.to∧(kind=3→seesB q.g st.1 st.2 j at_=true)∧st'=(st.1,st.2++[⟨at_,e.label,j⟩])) ∨
  (kind≠1∧∃ (k:Nat) (nd:Dir),zBy st.1 st.2 d.path e.label k∧nd.path=d.path.take k++[e.label]∧nd.node=e.to∧(kind≠2→k=d.path.length)∧st'=(st.1++[nd],st.2++[⟨at_,e.label,st.1.length⟩])):=by
 obtain ⟨e1,e2,e3,e4,e5,e6⟩:=zBx hm hn he
 unfold stepE at hst
 by_cases hr:zAw q st at_ kind e=true
 ·rw[if_pos hr] at hst
  cases hst
  unfold zAw at hr
  rw[Bool.and_eq_true,Bool.and_eq_true,decide_eq_true_eq,decide_eq_true_eq] at hr
  obtain ⟨r1,r2,r3⟩:=hr
  have hlt:(lookI st.1 (at_:Int) e.label).toNat<st.1.length:=by
   have:=(zCt st.1 (at_:Int) e.label).2
   omega
  refine .inl ⟨(lookI st.1 (at_:Int) e.label).toNat,_,by omega,zAV hlt,r2,fun hk=>?_,rfl⟩
  subst hk
  simpa using r3
 rw[if_neg hr] at hst
 by_cases hk1:kind=1
 ·rw[if_pos hk1] at hst;cases hst
 rw[if_neg hk1] at hst
 obtain ⟨k,hv,hk⟩:=zE9 h.inv hd kind hs
 obtain ⟨i,f,_,hif,hi,hfp⟩:=h.inv.find hd hv.1
 have hhi:homeP q st at_ kind e=(i:Int):=by rw[hk];exact hif
 have hfull:kind≠2→k=d.path.length:=fun h2=>by
  unfold homeP at hhi
  rw[if_neg h2] at hhi
  have:i=at_:=by omega
  subst this
  rw[hd] at hi
  cases hi
  have:=congrArg List.length hfp
  rw[List.length_take] at this
  have:=hv.1
  omega
 rw[hhi,Int.toNat_natCast] at hst
 cases hp:putP q st.1 i e.to.toNat with
 | error c=>rw[hp] at hst;cases hst
 | ok T=>
   rw[hp] at hst
   cases hst
   unfold putP at hp
   rw[zBB hi,e4] at hp
   split at hp
   ·cases hp
   split at hp
   ·cases hp
   cases hp
   refine .inr ⟨hk1,k,⟨f.path++[e.label],zA1 q e.to.toNat,((e.to.toNat:Nat):Int)⟩,hv,by rw[hfp],by show ((e.to.toNat:Nat):Int)=e.to;omega,hfull,rfl⟩
theorem zGt:∀ {S:List Stl} {i:Nat} {s:ByteArray},0≤zBA S i s→∃ z∈S,z.frm=i∧z.label=s∧zBA S i s=(z.dst:Int)
 | [],i,s,h=>by unfold zBA at h;omega
 | x::l,i,s,h=>by
   unfold zBA at h ⊢
   by_cases hx:x.frm=i∧x.label=s
   ·rw[if_pos hx]
    exact ⟨x,by simp,hx.1,hx.2,rfl⟩
   ·rw[if_neg hx] at h ⊢
    obtain ⟨z,h1,h2⟩:=zGt h
    exact ⟨z,by simp[h1],h2⟩
structure PJ (q:PlIn) (at_:Nat) (done:List ByteArray) (st:PlSt):Prop where
 par:∀ (j:Nat) (d:Dir),st.1[j]?=some d→(zAb q d.node.toNat).ctx≠[]→∃ (f:Nat) (d':Dir) (e:Edge),f<j∧st.1[f]?=some d'∧d.path=d'.path++[e.label]∧e∈(zAb q d'.node.toNat).edges∧e.to=d.node
 free:∀ d,st.1[at_]?=some d→∀ c∈(zAb q d.node.toNat).ctx,findI st.1 (d.path++[c.name])<0
 one:∀ x∈st.2,∀ f,st.1[x.dst]?=some f→∀ c∈(zAb q f.node.toNat).ctx,∀ y∈st.2,y.frm=x.frm→y.label=c.name→lookI st.1 (x.dst:Int) c.name=(y.dst:Int)
 fresh:∀ x∈st.2,x.frm=at_→∀ d f,st.1[at_]?=some d→st.1[x.dst]?=some f→∀ c∈(zAb q f.node.toNat).ctx,c.name∉done→¬CtxN (zAb q d.node.toNat) c.name→f.path=d.path++[x.label]
theorem PJ.start {q:PlIn} (hm:mayPl q.g q.ps=true):PJ q 0 [] ([dirZ0],[]) where
 par:=fun j d hj hc=>by
  cases j with
  | zero=>cases hj;exact absurd (zIo hm) hc
  | succ j=>cases hj
 free:=fun d hd c hc=>by
  cases hd
  rw[show (zAb q dirZ0.node.toNat).ctx=[] from zIo hm] at hc
  cases hc
 one:=fun x hx=>by cases hx
 fresh:=fun x hx=>by cases hx
theorem zLC {q:PlIn} (hm:mayPl q.g q.ps=true) (hG:SolG q.g) {i:Nat} {n:Node} (hn:q.g[i]?=some n) {s:ByteArray} (hs:CtxN n s) {ex:Edge} (hex:ex∈n.edges) (hxl:ex.label=s) {c:Pin} (hc:c∈(zAb q ex.to.toNat).ctx):c∈n.ctx:=by
 obtain ⟨p,hp,hps⟩:=hs
 obtain ⟨e1,e2,_⟩:=zBx hm hn hex
 have hy:q.g[ex.to.toNat]?=some (q.g[ex.to.toNat]'(by omega)):=gE (by omega)
 rw[zAX hy] at hc
 exact hG.low i ex.to.toNat n _ ex p hn hex hp (by rw[hxl,hps]) (by omega) hy c hc
theorem zKr {q:PlIn} {at_:Nat} {done:List ByteArray} {st:PlSt} (h:zAe q at_ done st) (hj:PJ q at_ done st) (hm:mayPl q.g q.ps=true) (hG:SolG q.g) {d:Dir} (hd:st.1[at_]?=some d) {n:Node} (hn:q.g[d.node.toNat]?=some n) (hne:n.ctx≠[]) :
  ∃ f0:Nat,∀ c∈n.ctx,∃ x∈st.2,x.frm=f0∧x.label=c.name∧lookI st.1 (at_:Int) c.name=(x.dst:Int)∧∀ e∈n.edges,e.label=c.name→∃ f,st.1[x.dst]?=some f∧f.node=e.to:=by
 obtain ⟨f0,d0,e0,g1,g2,g3,g4,g5⟩:=hj.par at_ d hd (by rw[zAX hn];exact hne)
 obtain ⟨n0,hn0⟩:=zFb h hm g2
 rw[zAX hn0] at g4
 have he0:=(zBx hm hn0 g4).1
 refine ⟨f0,fun c hc=>?_⟩
 obtain ⟨e1,he1,l1,hto⟩:=hG.two d0.node.toNat d.node.toNat n0 n e0 c hn0 g4 (by omega) hn hc
 obtain ⟨x,hx,x1,x2,f,x3,x4⟩:=h.all f0 d0 g2 e1 (by rw[zAX hn0];exact he1) (.inl g1)
 have hup:=zDJ hd g2 g3 (zLL hm hn hc).1 (hj.free d hd c (by rw[zAX hn];exact hc))
 have hl:=(h.look x hx).2
 rw[x1,x2,l1] at hl
 exact ⟨x,hx,x1,by rw[x2,l1],by rw[hup,hl],fun e he hel=>⟨f,x3,by rw[x4,hto e he hel]⟩⟩
theorem zK7 {q:PlIn} {at_:Nat} {done:List ByteArray} {st:PlSt} (h:zAe q at_ done st) (hj:PJ q at_ done st) (hm:mayPl q.g q.ps=true) (hG:SolG q.g) {d:Dir} (hd:st.1[at_]?=some d) {n:Node} (hn:q.g[d.node.toNat]?=some n) {s:ByteArray} (hs:CtxN n s) {j:Nat} (hl:lookI st.1 (at_:Int) s=(j:Int))
  {f:Dir} (hf:st.1[j]?=some f) {ex:Edge} (hex:ex∈n.edges) (hxl:ex.label=s) (hxt:ex.to=f.node) {c:Pin} (hc:c∈(zAb q f.node.toNat).ctx) {k:Nat} (hk:lookI st.1 (at_:Int) c.name=(k:Int)):lookI st.1 (j:Int) c.name=(k:Int):=by
 have hcn:=zLC hm hG hn hs hex hxl (by rw[hxt];exact hc)
 obtain ⟨p,hp,hps⟩:=hs
 obtain ⟨f0,hset⟩:=zKr h hj hm hG hd hn (fun e=>by rw[e] at hp;cases hp)
 obtain ⟨x0,hx0,a1,a2,a3,_⟩:=hset p hp
 obtain ⟨y0,hy0,b1,b2,b3,_⟩:=hset c hcn
 have hxj:x0.dst=j:=by rw[hps,hl] at a3;omega
 have hyk:y0.dst=k:=by rw[hk] at b3;omega
 have:=hj.one x0 hx0 f (by rw[hxj];exact hf) c hc y0 hy0 (by rw[b1,a1]) b2
 rwa [hxj,hyk] at this
theorem zLK {q:PlIn} {at_:Nat} {done:List ByteArray} {st:PlSt} (h:zAe q at_ done st) {d:Dir} (hd:st.1[at_]?=some d) (a b:ByteArray):findI st.1 (d.path++[a]++[b])<0:=by
 rcases Int.lt_or_le (findI st.1 (d.path++[a]++[b])) 0 with hl|hl
 ·exact hl
 ·exfalso
  obtain ⟨j,g,_,hj,hgp⟩:=zBo hl
  have hne:j≠at_:=fun e=>by
   rw[e,hd] at hj
   cases hj
   have:=congrArg List.length hgp
   simp at this
  obtain ⟨_,s,_,hs⟩:=h.inv.low j g at_ d hj hd (nR _) hne (by rw[hgp,List.append_assoc];exact List.prefix_append _ _)
  rw[hs] at hgp
  have:=congrArg List.length hgp
  simp at this
theorem snoc_at {T:List Dir} {nd:Dir} {j:Nat} {d:Dir} (hj:(T++[nd])[j]?=some d):T[j]?=some d∨(j=T.length∧d=nd):=by
 rcases Nat.lt_trichotomy j T.length with hlt|heq|hgt
 ·rw[List.getElem?_append_left hlt] at hj;exact .inl hj
 ·rw[heq,List.getElem?_append_right (nR _),Nat.sub_self] at hj
  cases hj
  exact .inr ⟨heq,rfl⟩
 ·rw[List.getElem?_eq_none (by rw[List.length_append,List.length_singleton];omega)] at hj
  cases hj
theorem PJ.step {q:PlIn} {at_:Nat} {done:List ByteArray} {st st':PlSt} (h:zAe q at_ done st) (hj:PJ q at_ done st) (hm:mayPl q.g q.ps=true) (hG:SolG q.g) (hq:q.path≤1024) (hqd:q.dirs≤256) {d:Dir} (hd:st.1[at_]?=some d) {n:Node} (hn:q.g[d.node.toNat]?=some n)
  {e:Edge} (he:e∈n.edges) (hs:e.label∉done) (hlow:∀ s∈done,∃ e'∈n.edges,e'.label=s∧kindP q n e'≤kindP q n e) (hst:stepE q at_ (kindP q n e) e st=.ok st'):PJ q at_ (done++[e.label]) st':=by
 have h':=h.step hm hq hqd hd hn he hs hst
 have hnd:=zAX hn
 have hstl:∀ x∈st.2,x.frm=at_→x.label∈done:=fun x hx hxf=>by
  rcases (h.inv.stl x hx).2.2 with g|g
  ·omega
  ·exact g.2
 have hedge:∀ x∈st.2,x.frm=at_→∀ f,st.1[x.dst]?=some f→∃ ex∈n.edges,ex.label=x.label∧ex.to=f.node∧kindP q n ex≤kindP q n e:=fun x hx hxf f hf=>by
  have hin:=hstl x hx hxf
  obtain ⟨e',g1,g2,g3⟩:=hlow _ hin
  obtain ⟨x2,r1,r2,r3,f2,r4,r5⟩:=h.all at_ d hd e' (by rw[hnd];exact g1) (.inr ⟨rfl,by rw[g2];exact hin⟩)
  have k1:=(h.look x hx).2
  have k2:=(h.look x2 r1).2
  rw[r2,r3,g2] at k2
  rw[hxf,k2] at k1
  have:x2.dst=x.dst:=by omega
  rw[this,hf] at r4
  cases r4
  exact ⟨e',g1,g2,r5.symm,g3⟩
 have hrange:=zAs q n e
 rcases step_cases h hm hd hn he hs hst with ⟨j,f,l1,l2,l3,l4,rfl⟩|⟨hk1,k,nd,hv,p1,p2,p3,rfl⟩
 ·
  have hsee:kindP q n e=3→∀ c∈(zAb q f.node.toNat).ctx,∃ z∈st.2,z.frm=at_∧z.label=c.name∧lookI st.1 (j:Int) c.name=(z.dst:Int):=fun hk c hc=>by
   have h4:=l4 hk
   unfold seesB at h4
   rw[zB9 l2] at h4
   obtain ⟨y,hy⟩:=zFb h hm l2
   rw[hy] at h4
   rw[zAX hy] at hc
   have h5:=List.all_eq_true.1 h4 c hc
   unfold zDm at h5
   rw[Bool.and_eq_true,decide_eq_true_eq,decide_eq_true_eq] at h5
   obtain ⟨z,z1,z2,z3,z4⟩:=zGt h5.1
   exact ⟨z,z1,z2,z3,by rw[h5.2,z4]⟩
  refine ⟨hj.par,hj.free,fun x hx fx hfx c hc y hy hyf hyl=>?_,fun x hx hxf d' fx hd' hfx c hc hcd hcx=>?_⟩
  ·have hyl2:=h'.look y hy
   rcases List.mem_append.1 hx with hx|hx
   ·rcases List.mem_append.1 hy with hy|hy
    ·exact hj.one x hx fx hfx c hc y hy hyf hyl
    ·rw[List.mem_singleton.1 hy] at hyf hyl hyl2 ⊢
     have hyf:at_=x.frm:=hyf
     have hyl:e.label=c.name:=hyl
     have hxl:=(h.look x hx).2
     rw[←hyf] at hxl
     obtain ⟨ex,x1,x2,x3,x4⟩:=hedge x hx hyf.symm fx hfx
     by_cases hcx:CtxN n e.label
     ·have hk1:=(zDH (q:=q)).2 hcx
      have hx1:CtxN n ex.label:=(zDH (q:=q)).1 (by have:=(zAs q n ex).1;omega)
      exact zK7 h hj hm hG hd hn (by rw[←x2];exact hx1) hxl hfx x1 x2 x3 hc (by rw[←hyl];exact l1)
     ·have hp:=hj.fresh x hx hyf.symm d fx hd hfx c hc (by rw[←hyl];exact hs) (by rw[hnd,←hyl];exact hcx)
      rw[zDJ hfx hd hp (by rw[←hyl];exact hyl2.1) (by rw[hp];exact zLK h hd _ _),←hyl]
      exact l1
   ·rw[List.mem_singleton.1 hx] at hfx hyf ⊢
    have hyf:y.frm=at_:=hyf
    have hfx:st.1[j]?=some fx:=hfx
    rw[l2] at hfx
    cases hfx
    have hyk:lookI st.1 (at_:Int) c.name=(y.dst:Int):=by have:=hyl2.2;rwa [hyf,hyl] at this
    show lookI st.1 (j:Int) c.name=(y.dst:Int)
    rcases Nat.lt_trichotomy (kindP q n e) 2 with hk|hk|hk
    ·exact zK7 h hj hm hG hd hn ((zDH (q:=q)).1 (by omega)) l1 l2 he rfl l3.symm hc hyk
    ·rw[l3,zGe hk] at hc;cases hc
    ·obtain ⟨z,z1,z2,z3,z4⟩:=hsee (by omega) c hc
     have:=(h.look z z1).2
     rw[z2,z3,hyk] at this
     rw[z4,this]
  ·have hd':st.1[at_]?=some d':=hd'
   rw[hd] at hd'
   cases hd'
   rcases List.mem_append.1 hx with hx|hx
   ·exact hj.fresh x hx hxf d fx hd hfx c hc (fun hm=>hcd (List.mem_append.2 (.inl hm))) hcx
   ·exfalso
    rw[List.mem_singleton.1 hx] at hfx
    have hfx:st.1[j]?=some fx:=hfx
    rw[l2] at hfx
    cases hfx
    rcases Nat.lt_trichotomy (kindP q n e) 2 with hk|hk|hk
    ·refine hcx ⟨c,?_,rfl⟩
     rw[hnd]
     exact zLC hm hG hn ((zDH (q:=q)).1 (by omega)) he rfl (by rw[←l3];exact hc)
    ·rw[l3,zGe hk] at hc;cases hc
    ·obtain ⟨z,z1,z2,z3,_⟩:=hsee (by omega) c hc
     exact hcd (List.mem_append.2 (.inl (by rw[←z3];exact hstl z z1 z2)))
 ·
  have hncx:¬CtxN n e.label:=fun hc=>hk1 (zDH.2 hc)
  have hfull:(zAb q nd.node.toNat).ctx≠[]→nd.path=d.path++[e.label]:=fun hne=>by
   have h2:kindP q n e≠2:=fun h2=>hne (by rw[p2];exact zGe h2)
   rw[p1,p3 h2,List.take_length]
  have hold:∀ {j:Nat} {d':Dir},st.1[j]?=some d'→(st.1++[nd])[j]?=some d':=fun {j d'} hj=>by
   rw[List.getElem?_append_left (gS.1 hj).1];exact hj
  have hlast:(st.1++[nd])[st.1.length]?=some nd:=by rw[List.getElem?_append_right (nR _),Nat.sub_self];rfl
  have hdl:=(gS.1 hd).1
  have hsame:∀ {d':Dir},(st.1++[nd])[at_]?=some d'→d'=d:=fun {d'} hd'=>by
   rw[hold hd] at hd'
   exact (Option.some.inj hd').symm
  have hlow2:∀ a b,findI (st.1++[nd]) (d.path++[a]++[b])<0:=fun a b=>by
   have h0:=zLK h hd a b
   rw[zBX,if_neg (by omega),if_neg]
   ·decide
   ·intro hp
    rw[p1] at hp
    have:=congrArg List.length hp
    simp only[List.length_append,List.length_take,List.length_singleton] at this
    omega
  refine ⟨fun j d' hj' hc=>?_,fun d' hd' c hc=>?_,fun x hx fx hfx c hc y hy hyf hyl=>?_,fun x hx hxf d' fx hd' hfx c hc hcd hcx=>?_⟩
  ·rcases snoc_at hj' with g|⟨g,rfl⟩
   ·obtain ⟨f0,d0,e0,g1,g2,g3⟩:=hj.par j d' g hc
    exact ⟨f0,d0,e0,g1,hold g2,g3⟩
   ·exact ⟨at_,d,e,by omega,hold hd,hfull hc,by rw[hnd];exact he,p2.symm⟩
  ·rw[hsame hd'] at hc ⊢
   have h0:=hj.free d hd c hc
   show findI (st.1++[nd]) _<0
   rw[zBX,if_neg (by omega),if_neg]
   ·decide
   ·intro hp
    rw[p1] at hp
    obtain ⟨_,hp⟩:=List.append_inj' hp rfl
    rw[hnd] at hc
    exact hncx ⟨c,hc,by simpa using hp.symm⟩
  ·have hyl2:=h'.look y hy
   rcases List.mem_append.1 hx with hx|hx
   ·have hxd:=(h.inv.stl x hx).2.1
    have hfx':st.1[x.dst]?=some fx:=by
     rcases snoc_at hfx with g|⟨g,_⟩
     ·exact g
     ·omega
    rcases List.mem_append.1 hy with hy|hy
    ·
     have h0:=hj.one x hx fx hfx' c hc y hy hyf hyl
     have hnb:nameB c.name=true:=by rw[←hyl];exact (h.look y hy).1
     rcases lookI_spec hfx' hnb with ⟨g1,_⟩|⟨m,g1,g2,g3,g4⟩
     ·omega
     have hmm:findI (st.1++[nd]) (fx.path.take m++[c.name])=(y.dst:Int):=by rw[zBX,if_pos g3,←g2,h0]
     show lookI (st.1++[nd]) (x.dst:Int) c.name=(y.dst:Int)
     rw[zDz hfx hnb g1 (by rw[hmm];omega) fun m' hm1 hm2=>?_,hmm]
     rw[zBX,if_neg (by have:=g4 m' hm1 hm2;omega)]
     by_cases hpe:nd.path=fx.path.take m'++[c.name]
     ·exfalso
      rw[p1] at hpe
      obtain ⟨hhome,hlb⟩:=List.append_inj' hpe rfl
      have hlb:e.label=c.name:=by simpa using hlb
      obtain ⟨ih,eh,_,hih,heh,hehp⟩:=h.inv.find hd hv.1
      have hturn:∀ z∈st.2,z.label=e.label→d.path.take k<+:zAk st.1 z.frm→(zAk st.1 z.dst).length≤(d.path.take k).length→False:=fun z hz z1 z2 z3=>by
       have hq:=hv.2.2
       unfold idxK zBn at hq
       rw[hih,Int.toNat_natCast,List.any_eq_false] at hq
       apply hq z hz
       unfold zBR
       rw[zBB heh,hehp]
       simp only[Bool.and_eq_true,decide_eq_true_eq]
       exact ⟨z1,zEL.2 z2,z3⟩
      have hyd:zAk st.1 y.dst=fx.path.take m++[c.name]:=by
       obtain ⟨j',d',e1,e2,e3⟩:=zBo g3
       have:j'=y.dst:=by omega
       rw[this] at e2
       rw[zBB e2,e3]
      have hlen:(zAk st.1 y.dst).length≤(d.path.take k).length:=by
       rw[hyd,hhome,List.length_append,List.length_take,List.length_take,List.length_singleton]
       omega
      by_cases hw:m'=fx.path.length
      ·rw[hw,List.take_length] at hhome
       by_cases hxa:x.dst=at_
       ·rw[hxa,hd] at hfx'
        cases hfx'
        rw[hnd] at hc
        exact hncx ⟨c,hc,hlb.symm⟩
       ·have hle:=h.inv.behind_ hd hfx' (by rw[←hhome];exact List.take_prefix _ _)
        obtain ⟨nx,hnx⟩:=zFb h hm hfx'
        rw[zAX hnx] at hc
        obtain ⟨ec,hec,hel⟩:=(zLL hm hnx hc).2
        obtain ⟨z,z1,z2,z3,_⟩:=h.all x.dst fx hfx' ec (by rw[zAX hnx];exact hec) (.inl (by omega))
        have hz:=(h.look z z1).2
        rw[z2,z3,hel,h0] at hz
        have hzy:z.dst=y.dst:=by omega
        exact hturn z z1 (by rw[z3,hel,hlb]) (by rw[z2,zBB hfx',hhome];exact List.prefix_refl _) (by rw[hzy];exact hlen)
      ·refine hturn y hy (by rw[hyl,hlb]) ?_ hlen
       rw[hyf]
       have hfr:=zAV (h.inv.stl x hx).1
       obtain ⟨hxn,hxl⟩:=h.look x hx
       rcases lookI_spec hfr hxn with ⟨q1,_⟩|⟨m2,q1,q2,q3,_⟩
       ·omega
       obtain ⟨j',d',e1,e2,e3⟩:=zBo q3
       have:j'=x.dst:=by omega
       rw[this,hfx'] at e2
       cases e2
       have hl2:=congrArg List.length e3
       rw[List.length_append,List.length_take,List.length_singleton] at hl2
       rw[hhome,e3,List.take_append_of_le_length (by rw[List.length_take];omega),List.take_take]
       exact List.take_prefix _ _
     ·rw[if_neg hpe];decide
    ·rw[List.mem_singleton.1 hy] at hyf hyl hyl2 ⊢
     have hyf:at_=x.frm:=hyf
     have hyl:e.label=c.name:=hyl
     have hp:=hj.fresh x hx hyf.symm d fx hd hfx' c hc (by rw[←hyl];exact hs) (by rw[hnd,←hyl];exact hncx)
     show lookI (st.1++[nd]) (x.dst:Int) c.name=_
     rw[zDJ hfx (hold hd) hp (by rw[←hyl];exact hyl2.1) (by rw[hp];exact hlow2 _ _),←hyl]
     exact hyl2.2
   ·rw[List.mem_singleton.1 hx] at hfx hyf ⊢
    have hyf:y.frm=at_:=hyf
    have hfx:(st.1++[nd])[st.1.length]?=some fx:=hfx
    rw[hlast] at hfx
    cases hfx
    have hp:=hfull (fun e=>by rw[e] at hc;cases hc)
    show lookI (st.1++[nd]) (st.1.length:Int) c.name=(y.dst:Int)
    rw[zDJ hlast (hold hd) hp (by rw[←hyl];exact hyl2.1) (by rw[hp];exact hlow2 _ _)]
    have:=hyl2.2
    rwa [hyf,hyl] at this
  ·rw[hsame hd'] at hcx ⊢
   rcases List.mem_append.1 hx with hx|hx
   ·have hxd:=(h.inv.stl x hx).2.1
    have hfx':st.1[x.dst]?=some fx:=by
     rcases snoc_at hfx with g|⟨g,_⟩
     ·exact g
     ·omega
    exact hj.fresh x hx hxf d fx hd hfx' c hc (fun hm=>hcd (List.mem_append.2 (.inl hm))) hcx
   ·rw[List.mem_singleton.1 hx] at hfx ⊢
    have hfx:(st.1++[nd])[st.1.length]?=some fx:=hfx
    rw[hlast] at hfx
    cases hfx
    exact hfull (fun e=>by rw[e] at hc;cases hc)
theorem PJ.ind {q:PlIn} (hm:mayPl q.g q.ps=true) (hG:SolG q.g) (hq:q.path≤1024) (hqd:q.dirs≤256):PlInd q fun at_ _ done st=>PJ q at_ done st where
 step:=fun at_ done st st' d n e h hp hd hn he hs _ hlow hst=>PJ.step h hp hm hG hq hqd hd hn he hs hlow hst
 turn:=fun _ _ _ _ h=>h
 next:=fun at_ done st d h hp hd hall=>by
  have h1:=h.next hd hall
  exact { par:=hp.par
          free:=fun d' hd' c _=>h1.inv.fresh hd' (by simp)
          one:=hp.one
          fresh:=fun x hx hxf=>by
           rcases (h.inv.stl x hx).2.2 with g|g<;>omega}
theorem zFe {q:PlIn} {st:PlSt} (hfin:zA4 q=.ok st) (hG:SolG q.g) {i:Nat} {d:Dir} (hi:(sortD st.1)[i]?=some d) :
  0≤d.node∧d.node<(q.g.length:Int)∧∀ e∈(zAb q d.node.toNat).edges,∃ p:Nat,lookI (sortD st.1) (i:Int) e.label=(p:Int)∧∀ c∈(zAb q e.to.toNat).ctx,∃ a:Nat,lookI (sortD st.1) (p:Int) c.name=(a:Int)∧lookI (sortD st.1) (i:Int) c.name=(a:Int):=by
 obtain ⟨hm,_,hqd,_,hq,_⟩:=zCm hfin
 obtain ⟨a,ha,h,hj⟩:=zJV (PJ.ind hm hG hq hqd) (PJ.start hm) hfin
 have hp:=zCU st.1
 obtain ⟨i0,hi0⟩:=zNK (hp.mem_iff.1 (mG hi))
 obtain ⟨n,hn,hn0⟩:=zMZ h hm hi0
 refine ⟨hn0,by have:=(gS.1 hn).1;omega,fun e he=>?_⟩
 obtain ⟨hnb,j,f,l1,l2,l3⟩:=zLp h ha hm hi0 he
 have hil:=(gS.1 hi0).1
 obtain ⟨x,hx,x1,x2,fx,x3,x4⟩:=h.all i0 d hi0 e he (.inl (by omega))
 have hxl:=(h.look x hx).2
 rw[x1,x2,l1] at hxl
 have hxj:x.dst=j:=by omega
 rcases look_perm hp h.inv.apart hi0 hi hnb with ⟨g1,_⟩|⟨j1,j2,f2,g1,g2,g3,g4⟩
 ·omega
 have hjj:j1=j:=by omega
 subst hjj
 rw[l2] at g3
 cases g3
 refine ⟨j2,g2,fun c hc=>?_⟩
 rw[←l3] at hc
 rw[zAX hn] at he
 obtain ⟨y,hy⟩:=zFb h hm l2
 rw[zAX hy] at hc
 have hto:=(zBx hm hn he).1
 obtain ⟨e1,he1,el1,_⟩:=hG.two d.node.toNat f.node.toNat n y e c hn he (by omega) hy hc
 obtain ⟨z,hz,z1,z2,_⟩:=h.all i0 d hi0 e1 (by rw[zAX hn];exact he1) (.inl (by omega))
 obtain ⟨hcb,hzl⟩:=h.look z hz
 rw[z1,z2,el1] at hzl
 rw[z2,el1] at hcb
 have hone:=hj.one x hx f (by rw[hxj];exact l2) c (by rw[zAX hy];exact hc) z hz (by rw[z1,x1]) (by rw[z2,el1])
 rw[hxj] at hone
 rcases look_perm hp h.inv.apart hi0 hi hcb with ⟨b1,_⟩|⟨k1,k2,f3,b1,b2,b3,b4⟩
 ·omega
 rcases look_perm hp h.inv.apart l2 g4 hcb with ⟨c1,_⟩|⟨m1,m2,f4,c1,c2,c3,c4⟩
 ·omega
 have e3:k1=m1:=by omega
 subst e3
 rw[b3] at c3
 cases c3
 have hk:k2=m2:=by
  have hpn:=(hp.map (·.path)).nodup_iff.2 h.inv.apart
  have g5:=zBg hpn b4
  have g6:=zBg hpn c4
  omega
 exact ⟨k2,by rw[c2,hk],b2⟩
structure PlErr (q:PlIn) (P:Nat→Nat→List ByteArray→PlSt→Prop) (E:Int→Prop):Prop where
 ind:PlInd q P
 err:∀ (at_:Nat) (done:List ByteArray) (st:PlSt) (d:Dir) (n:Node) (e:Edge) (c:Int),zAe q at_ done st→P at_ (kindP q n e) done st→st.1[at_]?=some d→q.g[d.node.toNat]?=some n→e∈n.edges→e.label∉done→stepE q at_ (kindP q n e) e st=.error c→E c
theorem zEC {q:PlIn} {P:Nat→Nat→List ByteArray→PlSt→Prop} {E:Int→Prop} (hP:PlErr q P E) (hm:mayPl q.g q.ps=true) (hq:q.path≤1024) (hqd:q.dirs≤256) {at_:Nat} {d:Dir} {n:Node} (hn:q.g[d.node.toNat]?=some n) {kind:Nat} {c:Int}:∀ (m k:Nat) (done:List ByteArray) (st:PlSt),n.edges.length=k+m→st.1[at_]?=some d→zBf q n kind k done→(∀ e'∈n.edges,kindP q n e'<kind→e'.label∈done)→zAe q at_ done st→P at_ kind done st→zAi q at_ n kind (n.edges.drop k) st=.error c→E c:=by
 intro m
 induction m with
 | zero=>
   intro k done st hl hd hdn hlow h hp hst
   rw[dN (by omega),zAi] at hst
   cases hst
 | succ m ih=>
   intro k done st hl hd hdn hlow h hp hst
   obtain ⟨e,he⟩:∃ e,n.edges[k]?=some e:=⟨_,gE (by omega)⟩
   rw[zBk q at_ n kind he] at hst
   by_cases hk:kindP q n e=kind
   ·rw[if_pos hk] at hst
    have hno:=hdn.not (zA6 hm hn) he hk
    have hmem:=mG he
    cases hs:stepE q at_ kind e st with
    | error c'=>
      rw[hs] at hst
      cases hst
      exact hP.err at_ done st d n e c h (by rw[hk];exact hp) hd hn hmem hno (by rw[hk];exact hs)
    | ok st1=>
      rw[hs] at hst
      have h1:=h.step hm hq hqd hd hn hmem hno hs
      have hp1:P at_ kind (done++[e.label]) st1:=by
       have:=hP.ind.step at_ done st st1 d n e h (by rw[hk];exact hp) hd hn hmem hno (by rw[hk];exact hlow) (fun s hs'=>by
        obtain ⟨j,e',g1,g2,g3⟩:=hdn s hs'
        exact ⟨e',mG g1,g2,by omega⟩) (by rw[hk];exact hs)
       rwa [hk] at this
      have hd1:st1.1[at_]?=some d:=by
       obtain ⟨l,hl1⟩:=(zFy hs).1
       rw[←hl1,List.getElem?_append_left (gS.1 hd).1];exact hd
      exact ih (k+1) _ st1 (by omega) hd1 (hdn.step he hk) (fun e' he' hlt=>List.mem_append.2 (.inl (hlow e' he' hlt))) h1 hp1 hst
   ·rw[if_neg hk] at hst
    exact ih (k+1) done st (by omega) hd (hdn.more (by omega)) hlow h hp hst
theorem zLe {q:PlIn} {P:Nat→Nat→List ByteArray→PlSt→Prop} {E:Int→Prop} (hP:PlErr q P E) (hm:mayPl q.g q.ps=true) (hq:q.path≤1024) (hqd:q.dirs≤256) {at_:Nat} {st:PlSt} {d:Dir} {c:Int} (hd:st.1[at_]?=some d) (h:zAe q at_ [] st) (hp:P at_ 1 [] st) (hst:dirP q at_ st=.error c):E c:=by
 obtain ⟨n,hn⟩:=zFb h hm hd
 have hidx:∀ e∈n.edges,∃ j:Nat,n.edges[j]?=some e:=fun e he=>by
  obtain ⟨j,hj,rfl⟩:=List.getElem_of_mem he
  exact ⟨j,gE hj⟩
 unfold dirP at hst
 rw[zB9 hd,zAX hn,zAr] at hst
 cases h1:zAi q at_ n 1 n.edges st with
 | error c'=>
   rw[h1] at hst
   cases hst
   exact zEC hP hm hq hqd hn n.edges.length 0 [] st (by omega) hd (fun s hs=>by cases hs) (fun e' _ hlt=>by have:=(zAs q n e').1;omega) h hp (by rw[List.drop_zero];exact h1)
 | ok st1=>
   rw[h1] at hst
   simp only at hst
   obtain ⟨d1,a1,a2,a3,a4,a5,a6⟩:=zCb hP.ind hm hq hqd hn n.edges.length 0 [] st st1 (by omega) hd (fun s hs=>by cases hs) (fun e' _ hlt=>by have:=(zAs q n e').1;omega) h hp (by rw[List.drop_zero];exact h1)
   have hall1:∀ e'∈n.edges,kindP q n e'<2→e'.label∈d1:=fun e' he' hlt=>by
    obtain ⟨j,hj⟩:=hidx e' he'
    exact a3 j e' (nZ _) hj (by have:=(zAs q n e').1;omega)
   rw[zAr] at hst
   cases h2:zAi q at_ n 2 n.edges st1 with
   | error c'=>
     rw[h2] at hst
     cases hst
     exact zEC hP hm hq hqd hn n.edges.length 0 d1 st1 (by omega) a6 a1.turn hall1 a4 (hP.ind.turn _ _ _ _ a5) (by rw[List.drop_zero];exact h2)
   | ok st2=>
     rw[h2] at hst
     simp only at hst
     obtain ⟨d2,b1,b2,b3,b4,b5,b6⟩:=zCb hP.ind hm hq hqd hn n.edges.length 0 d1 st1 st2 (by omega) a6 a1.turn hall1 a4 (hP.ind.turn _ _ _ _ a5) (by rw[List.drop_zero];exact h2)
     have hall2:∀ e'∈n.edges,kindP q n e'<3→e'.label∈d2:=fun e' he' hlt=>by
      obtain ⟨j,hj⟩:=hidx e' he'
      have hr:=(zAs q n e').1
      rcases Nat.lt_or_ge (kindP q n e') 2 with hl|hl
      ·exact b2 _ (hall1 e' he' hl)
      ·exact b3 j e' (nZ _) hj (by omega)
     rw[zAr] at hst
     cases h3:zAi q at_ n 3 n.edges st2 with
     | error c'=>
       rw[h3] at hst
       cases hst
       exact zEC hP hm hq hqd hn n.edges.length 0 d2 st2 (by omega) b6 b1.turn hall2 b4 (hP.ind.turn _ _ _ _ b5) (by rw[List.drop_zero];exact h3)
     | ok st3=>
       rw[h3] at hst
       simp only at hst
       rw[zAr] at hst
       cases hst
theorem zKT {q:PlIn} {P:Nat→Nat→List ByteArray→PlSt→Prop} {E:Int→Prop} (hP:PlErr q P E) (hm:mayPl q.g q.ps=true) (hq:q.path≤1024) (hqd:q.dirs≤256) {c:Int}:∀ (f at_:Nat) (st:PlSt),zAe q at_ [] st→P at_ 1 [] st→dirsP q f at_ st=.error c→E c:=by
 intro f
 induction f with
 | zero=>intro at_ st h hp hst;rw[dirsP] at hst;cases hst
 | succ f ih=>
   intro at_ st h hp hst
   rw[dirsP] at hst
   by_cases hlt:at_<st.1.length
   ·rw[if_pos hlt] at hst
    cases hd:dirP q at_ st with
    | error c'=>
      rw[hd] at hst
      cases hst
      exact zLe hP hm hq hqd (zAV hlt) h hp hd
    | ok st1=>
      rw[hd] at hst
      exact ih (at_+1) st1 (zEo hm hq hqd (zAV hlt) h hd) (zIe hP.ind hm hq hqd (zAV hlt) h hp hd) hst
   ·rw[if_neg hlt] at hst
    cases hst
theorem PJ.err {q:PlIn} (hm:mayPl q.g q.ps=true) (hG:SolG q.g) (hq:q.path≤1024) (hqd:q.dirs≤256):PlErr q (fun at_ _ done st=>PJ q at_ done st) fun c=>c=40∨c=41 where
 ind:=PJ.ind hm hG hq hqd
 err:=fun at_ done st d n e c h hj hd hn he hs hst=>by
  unfold stepE at hst
  by_cases hr:zAw q st at_ (kindP q n e) e=true
  ·rw[if_pos hr] at hst;cases hst
  rw[if_neg hr] at hst
  by_cases hk1:kindP q n e=1
  ·exfalso
   apply hr
   obtain ⟨p,hp,hpn⟩:=zDH.1 hk1
   obtain ⟨f0,hset⟩:=zKr h hj hm hG hd hn (fun e=>by rw[e] at hp;cases hp)
   obtain ⟨x,hx,a1,a2,a3,a4⟩:=hset p hp
   obtain ⟨f,f1,f2⟩:=a4 e he hpn.symm
   rw[hpn] at a3
   unfold zAw
   rw[a3,Int.toNat_natCast,zB9 f1,decide_eq_true (by omega),decide_eq_true f2,hk1]
   rfl
  rw[if_neg hk1] at hst
  cases hp:putP q st.1 (homeP q st at_ (kindP q n e) e).toNat e.to.toNat with
  | ok T=>rw[hp] at hst;cases hst
  | error c'=>
    rw[hp] at hst
    cases hst
    unfold putP at hp
    split at hp
    ·cases hp;exact .inl rfl
    split at hp
    ·cases hp;exact .inr rfl
    ·cases hp
theorem place_errs {q:PlIn} (hm:mayPl q.g q.ps=true) (hG:SolG q.g) (hold:zCy q.old=false) {c:Int} (h:zA4 q=.error c):c=1∨c=40∨c=41:=by
 unfold zA4 at h
 split at h
 ·cases h;exact .inl rfl
 rename_i hb
 rw[hold,if_neg (by decide),if_neg (by rw[hm];decide)] at h
 exact .inr (zKT (PJ.err hm hG (by omega) (by omega)) hm (by omega) (by omega) 258 0 _ (zAe.start q) (PJ.start hm) h)
end Go.Proofs.YtminjjdnmpaaoaaGreatDoor
namespace Go.Proofs.YtminjjdnmpaaoaaGreatDoor
open Go.Rows Go.RowKit Go.Shelf Go.Sort
structure SolR (x:Wd) (ns:List Node):Prop where
 may:mayPl ns (psW x ns)=true
 reach:zMc ns
 graph:SolG ns
theorem zDv {x:Wd} {ns:List Node} (h:solS (qSol x)=some ns):SolR x ns:=by
 have hl:1≤(qSol x).lim:=by show 1≤40;decide
 have h1:=zGY hl h
 exact ⟨zMw (q:=qSol x) (fun y hy=>(zIP hy).2) (by show 40≤128;decide) h1,h1.reachG,zJ5 h1 (zKW hl h)⟩
theorem placeW_cases {q:PlIn} (hm:mayPl q.g q.ps=true) (hG:SolG q.g):(∃ c,zBt q=([],c)∧zA4 q=.error c∧(c=1∨c=40∨c=41∨(c=42∧zCy q.old=true)))∨∃ st,zA4 q=.ok st∧zBt q=(sortD st.1,0):=by
 cases h:zA4 q with
 | ok st=>exact .inr ⟨st,rfl,zFI h⟩
 | error c=>
   refine .inl ⟨c,zCZ h,rfl,?_⟩
   cases hb:zCy q.old with
   | false=>
     rcases place_errs hm hG hb h with h|h|h
     ·exact .inl h
     ·exact .inr (.inl h)
     ·exact .inr (.inr (.inl h))
   | true=>
     unfold zA4 at h
     split at h
     ·cases h;exact .inl rfl
     ·cases h
      exact .inr (.inr (.inr ⟨rfl,rfl⟩))
theorem zKl {q:PlIn} {st:PlSt} (h:zA4 q=.ok st):∀ d∈sortD st.1,d.path.length * 32≤140737488355328∧(textB d.path).size≤1024:=fun d hd=>by
 obtain ⟨_,_,_,_,_,a,_,hF⟩:=zCm h
 have hn:=hF.inv.names d ((zCU st.1).mem_iff.1 hd)
 have:=nT (zEj hn.1) hn.2
 exact ⟨by omega,hn.2⟩
theorem zM8 {q:PlIn} {st:PlSt} (h:zA4 q=.ok st):1≤(sortD st.1).length∧(sortD st.1).length≤257:=by
 obtain ⟨_,_,_,_,_,a,_,hF⟩:=zCm h
 rw[(zCU st.1).length_eq]
 exact ⟨hF.inv.pos,hF.inv.len⟩
theorem zNU {c:Int} {p:Prop} (h:c=1∨c=40∨c=41∨(c=42∧p)):(c==0)=false:=by
 rcases h with rfl|rfl|rfl|⟨rfl,_⟩<;>rfl
