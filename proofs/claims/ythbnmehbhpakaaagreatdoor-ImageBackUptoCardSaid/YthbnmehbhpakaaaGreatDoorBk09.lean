/- A range over an iterator that keeps its place in a box of its own, and what turns behind it. -/
import Derived.RangeFuncNested
import Derived.RangeFuncBound
import Derived.RangeFuncCalls
import Derived.RangeFuncLeaves
import Derived.OwnWalkIn
import Derived.Test.YthbnmehbhpakaaaGreatDoorBk01
import Derived.Shelf.SlGeneric
import Derived.Shelf.SlSortCmp.WholeK
import Derived.Shelf.SlSortCmp.NoneTotal
import Derived.Ground.SlsfProg
import Derived.Test.YthbnmehbhpakaaaGreatDoorProg
import Derived.Test.YthbnmehbhpakaaaGreatDoorBk02
import Derived.Lib.Hide
import Derived.Test.YthbnmehbhpakaaaGreatDoorAl
set_option linter.all false
namespace Go.Proofs.YthbnmehbhpakaaaGreatDoor
open Go.RowKit
structure Turn (X:Nat→Prop) (W W':World):Prop where
 os:W'.os=W.os
 tape:W'.tape=W.tape
 output:W'.output=W.output
 size:W.heap.size≤W'.heap.size
 block:∀ k,k<W.heap.size→¬X k→W'.heap[k]?=W.heap[k]?
theorem Turn.refl (X:Nat→Prop) (W:World):Turn X W W:=⟨rfl,rfl,rfl,nR _,fun _ _ _=>rfl⟩
theorem Turn.trans {X:Nat→Prop} {A B C:World} (h:Turn X A B) (k:Turn X B C):Turn X A C:=
 ⟨k.os.trans h.os,k.tape.trans h.tape,k.output.trans h.output,nT h.size k.size,fun i hi hx=>(k.block i (lL hi h.size) hx).trans (h.block i hi hx)⟩
theorem Turn.trans2 {X Y:Nat→Prop} {A B C:World} (h:Turn X A B) (k:Turn Y B C) (hy:∀ j,j<A.heap.size→Y j→X j):Turn X A C:=
 ⟨k.os.trans h.os,k.tape.trans h.tape,k.output.trans h.output,nT h.size k.size,fun i hi hx=>(k.block i (lL hi h.size) fun e=>hx (hy i hi e)).trans (h.block i hi hx)⟩
theorem Turn.mono {X Y:Nat→Prop} {A B:World} (h:Turn X A B) (hxy:∀ k,k<A.heap.size→X k→Y k):Turn Y A B:=⟨h.os,h.tape,h.output,h.size,fun i hi hy=>h.block i hi fun hx=>hy (hxy i hi hx)⟩
theorem Turn.of_below {X:Nat→Prop} {A B:World} (h:Below A.heap.size A B):Turn X A B:=⟨h.os,h.tape,h.output,h.size,fun i hi _=>h.block i hi⟩
theorem Turn.below {X:Nat→Prop} {A B:World} {n:Nat} (h:Turn X A B) (hn:n≤A.heap.size) (hx:∀ k,X k→n≤k):Below n A B:=⟨h.os,h.tape,h.output,h.size,fun i hi=>h.block i (by omega) fun hxi=>by have:=hx i hxi;omega⟩
theorem Turn.grown {X:Nat→Prop} {A B:World} {r:Option Nat} (h:A.grownBy B r) (hr:∀ k,r=some k→X k):Turn X A B:=⟨h.os,h.tape,h.output,h.size,fun i hi hx=>h.block i hi fun e=>hx (hr i e.symm)⟩
theorem Turn.set {X:Nat→Prop} (W:World) {b:Nat} (hb:X b) (v:Value):Turn X W (W.setCell ⟨b,0,none⟩ v):=Turn.grown (grownBy_setCell' W b v) fun k e=>by cases e;exact hb
theorem Turn.alloc {X:Nat→Prop} (W:World) (o:Obj):Turn X W (W.alloc o):=Turn.grown (r:=none) (World.grownBy_alloc W o none) fun k e=>by cases e
theorem Turn.put {X:Nat→Prop} (W:World) {b:Nat} (hb:X b) (o:Obj):Turn X W (W.putObj b o):=Turn.grown (grownBy_putObj' W b o) fun k e=>by cases e;exact hb
theorem Turn.box {X:Nat→Prop} {A B:World} (h:Turn X A B) {b:Nat} {t:TypeId} {v:Value} (hb:Boxed A b t v) (hx:¬X b):Boxed B b t v:=(h.block b hb.lt hx).trans hb
theorem Turn.at {X:Nat→Prop} {A B:World} (h:Turn X A B) {b:Nat} {o:Obj} (hb:A.heap[b]?=some o) (hx:¬X b):B.heap[b]?=some o:=(h.block b (aS.1 hb).1 hx).trans hb
theorem zKA {X:Nat→Prop} {A B:World} {base:Nat} {e:TypeId} {size:Nat} {v:Value} {k:Nat} {xs:List Value} (h:A.ownsRow base e size v k xs) (t:Turn X A B) (hv:∀ g,v.ownBlock=some g→¬X g):B.ownsRow base e size v k xs:=by
 obtain ⟨h0,h1⟩:=h
 refine ⟨h0,?_⟩
 rcases h1 with h1|⟨g,cap,cur,rfl,h2,h3,h4⟩
 ·exact .inl h1
 ·exact .inr ⟨g,cap,cur,rfl,h2,t.at h3 (hv g rfl),h4⟩
theorem Own.turn {α:Type} {r:Rp α} {X:Nat→Prop} {A B:World} {base:Nat} {e:TypeId} {v:Value} {l:List α} {S:Nat→Prop} (h:Own r A base e v l S) (t:Turn X A B) (hv:∀ g,v.ownBlock=some g→¬X g) (hS:∀ b,S b→¬X b):Own r B base e v l S:=by
 obtain ⟨h0,xs,h1,h2⟩:=h
 exact ⟨fun b hb=>⟨lL (h0 b hb).1 t.size,(h0 b hb).2⟩,xs,zKA h1 t hv,h2.mono fun b hb hl=>⟨hb,t.block b hl (hS b hb)⟩⟩
theorem Own.lower {α:Type} {r:Rp α} {A:World} {base base':Nat} {e:TypeId} {v:Value} {l:List α} {S:Nat→Prop} (h:Own r A base e v l S) (hb:base'≤base):Own r A base' e v l S:=by
 obtain ⟨h0,xs,⟨q0,q1⟩,h2⟩:=h
 refine ⟨h0,xs,⟨q0,?_⟩,h2⟩
 rcases q1 with q1|⟨g,cap,cur,rfl,h2,h3,h4⟩
 ·exact .inl q1
 ·exact .inr ⟨g,cap,cur,rfl,by omega,h3,h4⟩
theorem Own.cells {α:Type} {r:Rp α} {A:World} {base:Nat} {e:TypeId} {v:Value} {l:List α} {S:Nat→Prop} (h:Own r A base e v l S) {g:Nat} (hg:v.ownBlock=some g):base≤g∧¬∃ o,A.heap[g]?=some o∧o.isCells=false:=by
 obtain ⟨h0,xs,h1,h2⟩:=h
 rcases h1.2 with ⟨rfl,_⟩|⟨g',cap,cur,rfl,h2,h3,h4⟩
 ·simp[Value.ownBlock] at hg
 ·obtain rfl:g'=g:=by simpa [Value.ownBlock] using hg
  refine ⟨h2,?_⟩
  rintro ⟨o,ho,hc⟩
  rw[h3] at ho;cases ho;cases hc
variable {F:Fence} {n:Nat} {P:Program}
def Parts {α:Type} (enc:α→Value) (F:Fence) (n:Nat) (P:Program) (g:Nat) (lb:Array Value) (T K:Nat→Prop) (ps:List α) (w:World):Prop:=
 ∀ (l:Nat) (J:Nat→World→Prop) (Jx:World→Prop) (W:World),(∀ j,K j→j<l∧W.heap[j]?=w.heap[j]?∧j<W.heap.size) →
   (∀ k A B,J k A→Turn T A B→J k B)→(∀ A B,Jx A→Turn T A B→Jx B) →
   (∀ k (hk:k<ps.length) A,J k A→YieldAt F (n - 1) P l #[enc ps[k]] A fun e B=>
     (e=.returned (.bool true)∧J (k+1) B∧∀ j,K j→B.heap[j]?=A.heap[j]?)∨(e=.returned (.bool false)∧Jx B)) →
   J 0 W →
   CallsIn F n P g (#[.func (.yield l) #[] #[]]++lb) W fun e B=>(∃ v,e=.returned v)∧(J ps.length B∨Jx B)
def Free (X:Nat→Prop) (lo:Nat) (A:World) (j:Nat):Prop:=X j∨(lo≤j∧∃ o,A.heap[j]?=some o∧o.isCells=true)
theorem Free.no {X:Nat→Prop} {lo:Nat} {A:World} {j:Nat} {o:Obj} (hx:¬X j) (h:A.heap[j]?=some o) (hc:o.isCells=false):¬Free X lo A j:=by
 rintro (e|⟨_,o',ho,hc'⟩)
 ·exact hx e
 ·rw[h] at ho;cases ho;rw[hc] at hc';cases hc'
def Left (X:Nat→Prop) (lo:Nat) (I:World→Prop) (Ix:World→Prop) (A:World):Exit→Act→World→Prop
 | .normal,_,B=>Turn (Free X lo A) A B∧I B
 | .ret,_,B=>Turn (Free X lo A) A B∧Ix B
 | _,_,_=>False
def zPM {α:Type} (enc:α→Value) (F:Fence) (m:Nat) (P:Program) (X:Nat→Prop) (ts:Array Value) (pt:Array Tmp) (assign body:Code) (ps:List α) (lo:Nat) (I:Nat→World→Prop) (Ix:World→Prop):Prop:=
 ∀ (l:Nat) (r:Loop) (k:Nat) (hk:k<ps.length) (W:World),lo≤l→W.heap[l]?=some (.loop r)→I k W →
   assign.wpIn (F.inRound l) m P (Exit.then (fun a A=>Turn (Free X lo W) W A ∧
    ∀ A',Turn (·=l) A A'→(∃ r,A'.heap[l]?=some (.loop r))→body.wpIn (F.inRound l) m P (Left X lo (I (k+1)) Ix A') a A') (fun _ _ _=>False))
    { tmps:=(pt.zip #[enc ps[k]]).foldl (fun t (p,v)=>t.setIfInBounds p v) ts,defers:=[]} W
theorem zIx {α:Type} {enc:α→Value} {X:Nat→Prop} {gf:Nat} {lb:Array Value} {T K:Nat→Prop} {ps:List α} {w0:World} (hseq:Parts enc F n P gf lb T K ps w0) (hTK:∀ j,T j→K j)
  {ts:Array Value} {pt:Array Tmp} {assign body:Code} (hpt:pt.size=1) {fn:FuncId} (hfn:F.fn fn) (l D lo:Nat) (hlo:lo≤l) (hXl:¬X l) (hXB:∀ j,K j→¬X j∧j<lo)
  (W1:World) (hB:∀ j,K j→j<l∧W1.heap[j]?=w0.heap[j]?∧j<W1.heap.size)
  (rec:LoopState→Option Code→Loop) (hrec:rec=fun st pe=>{ state:=st,pending:=pe,fn,tmps:=ts,params:=pt,assign,body,defers:=D})
  (hL:W1.heap[l]?=some (.loop (rec .ready none))) (I:Nat→World→Prop) (Ix:World→Prop)
  (hI:∀ k A B r,I k A→A.heap[l]?=some (.loop r)→Turn (fun j=>T j∨j=l) A B→I k B) (hIx:∀ A B r,Ix A→A.heap[l]?=some (.loop r)→Turn (fun j=>T j∨j=l) A B→Ix B) (h0:I 0 W1)
  (hround:zPM enc F (n - 1) P X ts pt assign body ps lo I Ix) :
  CallsIn F n P gf (#[.func (.yield l) #[] #[]]++lb) W1 fun e B=>(∃ v,e=.returned v) ∧
   ((I ps.length B∧B.heap[l]?=some (.loop (rec .ready none)))∨(Ix B∧B.heap[l]?=some (.loop (rec .done (some .ret))))):=by
 have hne:∀ j,K j→l≠j:=fun j hj e=>by have:=(hB j hj).1;omega
 refine hseq l (fun k A=>I k A∧A.heap[l]?=some (.loop (rec .ready none))) (fun A=>Ix A∧A.heap[l]?=some (.loop (rec .done (some .ret)))) W1 hB
  (fun k A B h t=>⟨hI k A B _ h.1 h.2 (t.mono fun j _ e=>.inl e),t.at h.2 (fun e=>hne l (hTK l e) rfl)⟩) (fun A B h t=>⟨hIx A B _ h.1 h.2 (t.mono fun j _ e=>.inl e),t.at h.2 (fun e=>hne l (hTK l e) rfl)⟩) ?_ ⟨h0,hL⟩
 rintro k hk W ⟨hi,hl⟩
 have hy:=run_yield (P:=P) (args:=#[enc ps[k]]) hl (by rw[hrec];exact hpt.symm)
 rw[hrec] at hy
 refine ⟨fn,_,assign,body,hy,roundIn_of_wpIn hfn (wpIn_mono (hround l _ k hk W hlo hl hi) ?_)⟩
 intro e a A h
 cases e with
 | normal=>
   obtain ⟨ht,hb⟩:=h
   have hlA:=ht.at hl (Free.no hXl hl rfl)
   have hKF:∀ j V,K j→¬Free X lo V j:=fun j V hj e=>e.elim (hXB j hj).1 fun e=>by have:=(hXB j hj).2;omega
   refine ⟨_,run_beginRound hlA (by rw[hrec]),?_⟩
   have hl2:(A.putObj l (.loop { rec .ready none with state:=.busy})).heap[l]?=some (.loop { rec .ready none with state:=.busy}):=World.putObj_heap_same (aS.1 hlA).1
   have tp:Turn (·=l) A (A.putObj l (.loop { rec .ready none with state:=.busy})):=Turn.put A (X:=(·=l)) (show l=l from rfl) _
   have hBA:∀ j,K j→(A.putObj l (.loop { rec .ready none with state:=.busy})).heap[j]?=W.heap[j]?:=fun j hj=>by
    have hw:j<W.heap.size:=by have:=(aS.1 hl).1;have:=(hB j hj).1;omega
    exact (tp.block j (lL hw ht.size) (fun e=>hne j hj e.symm)).trans (ht.block j hw (hKF j _ hj))
   refine wpIn_mono (hb _ tp ⟨_,hl2⟩) ?_
   have fin:∀ (jump:Option Code) (B:World),Turn (Free X lo (A.putObj l (.loop { rec .ready none with state:=.busy}))) (A.putObj l (.loop { rec .ready none with state:=.busy})) B →
     (Instr.endRound l jump).run P B=.ok (.bool jump.isNone) (B.putObj l (.loop (rec (if jump.isNone then .ready else .done) jump))) ∧
     (B.putObj l (.loop (rec (if jump.isNone then .ready else .done) jump))).heap[l]?=some (.loop (rec (if jump.isNone then .ready else .done) jump)) ∧
     B.heap[l]?=some (.loop { rec .ready none with state:=.busy})∧Turn (fun j=>T j∨j=l) B (B.putObj l (.loop (rec (if jump.isNone then .ready else .done) jump))) ∧
     (∀ j,K j→(B.putObj l (.loop (rec (if jump.isNone then .ready else .done) jump))).heap[j]?=W.heap[j]?):=fun jump B hk3=>by
    have hl3:=hk3.at hl2 (Free.no hXl hl2 rfl)
    have hr:=run_endRound (P:=P) jump hl3
    have hlt3:=(aS.1 hl3).1
    rw[hrec] at hr ⊢
    refine ⟨hr,World.putObj_heap_same hlt3,by rw[hrec] at hl3;exact hl3,Turn.put B (.inr rfl) _,fun j hj=>?_⟩
    rw[World.putObj_heap_other (fun e=>hne j hj e.symm),←hBA j hj]
    refine hk3.block j ?_ (hKF j _ hj)
    have:=(aS.1 hl2).1
    have:=(hB j hj).1
    omega
   rintro e' a' B hp
   cases e' with
   | normal=>
     obtain ⟨hk3,hi3⟩:=hp
     obtain ⟨hr,hl4,hl3,ht4,hb4⟩:=fin none B hk3
     exact ⟨_,_,hr,.inl ⟨rfl,⟨hI _ _ _ _ hi3 hl3 ht4,hl4⟩,hb4⟩⟩
   | ret=>
     obtain ⟨hk3,hi3⟩:=hp
     obtain ⟨hr,hl4,hl3,ht4,hb4⟩:=fin (some .ret) B hk3
     exact ⟨_,_,hr,.inr ⟨rfl,hIx _ _ _ hi3 hl3 ht4,hl4⟩⟩
   | exit id=>exact hp.elim
   | goto t=>exact hp.elim
   | panic ch=>exact hp.elim
   | outgrown=>exact hp.elim
 | exit id=>exact h.elim
 | goto t=>exact h.elim
 | ret=>exact h.elim
 | panic ch=>exact h.elim
 | outgrown=>exact h.elim
def NC (T:Nat→Prop) (lo:Nat) (A:World) (j:Nat):Prop:=T j∨(lo≤j∧∃ o,A.heap[j]?=some o∧o.isCells=false)
theorem zG2 {α:Type} {enc:α→Value} {X:Nat→Prop} {g:Operand} {pt:Array Tmp} {assign body:Code} {Q:Exit→Act→World→Prop} {a:Act} {w:World}
  (hro:F.round=none) (h1:1≤n) {gf:Nat} {lb:Array Value} (hg:a.eval g=.func (.func gf) #[] lb) (hFg:F.fn gf) (eg:∀ args w,(callFunc gf args).run P w=.ok (.enter gf args) w)
  {T K:Nat→Prop} {ps:List α} {w0:World} (hseq:Parts enc F (n - 1) P gf lb T K ps w0) (hTK:∀ j,T j→K j) (hpt:pt.size=1) (hB:∀ j,K j→w.heap[j]?=w0.heap[j]?∧j<w.heap.size) (hX:∀ k,X k→k<w.heap.size) (hXB:∀ j,K j→¬X j)
  (I:Nat→World→Prop) (Ix:World→Prop)
  (hI:∀ k A B,I k A→Turn (NC T w.heap.size A) A B→I k B) (hIx:∀ A B,Ix A→Turn (NC T w.heap.size A) A B→Ix B) (h0:I 0 w)
  (hround:zPM enc F (n - 1 - 1) P X a.tmps pt assign body ps w.heap.size I Ix)
  (hdone:∀ (D:Nat) (W:World),w.heap.size≤D→I ps.length W→W.heap[D]?=some (.deferred (some []))→Q .normal { a with defers:={ target:=.collected D,args:=#[]}::a.defers} W)
  (hstop:∀ (D:Nat) (W:World),w.heap.size≤D→Ix W→W.heap[D]?=some (.deferred (some []))→Code.ret.wpIn F n P Q { a with defers:={ target:=.collected D,args:=#[]}::a.defers} W) :
  (Code.rangeFunc g pt assign body).wpIn F n P Q a w:=by
 refine wpIn_rangeFunc fun fn hfn=>?_
 rw[hro]
 obtain ⟨rec,hrec⟩:∃ rec:LoopState→Option Code→Loop,rec=fun st pe=>{ state:=st,pending:=pe,fn,tmps:=a.tmps,params:=pt,assign,body,defers:=w.heap.size}:=⟨_,rfl⟩
 obtain ⟨V,hV⟩:∃ V,V=w.alloc (.deferred (some [])):=⟨_,rfl⟩
 have tV:∀ {Y:Nat→Prop},Turn Y w V:=by rw[hV];exact Turn.alloc w _
 have hVs:V.heap.size=w.heap.size+1:=by rw[hV];simp
 have hVD:V.heap[w.heap.size]?=some (.deferred (some [])):=by rw[hV];exact World.alloc_heap_new w _
 obtain ⟨W1,hW1⟩:∃ W1,W1=V.alloc (.loop (rec .ready none)):=⟨_,rfl⟩
 have t1:∀ {Y:Nat→Prop},Turn Y V W1:=by rw[hW1];exact Turn.alloc V _
 have hL:W1.heap[w.heap.size+1]?=some (.loop (rec .ready none)):=by rw[hW1,←hVs];exact World.alloc_heap_new V _
 have hD1:W1.heap[w.heap.size]?=some (.deferred (some [])):=(t1 (Y:=fun _=>False)).at hVD (fun h=>h)
 refine ⟨w.heap.size+1,[{ target:=.collected w.heap.size,args:=#[]}],W1,{ target:=.fn (.func gf) lb,args:=#[.func (.yield (w.heap.size+1)) #[] #[]]},W1,gf,
  #[.func (.yield (w.heap.size+1)) #[] #[]]++lb,W1,?_,?_,?_,?_,fun _=>h1,?_⟩
 ·rw[hW1,hV,hrec];exact run_enterLoop_outer _ _ _ _ _
 ·simp only[resolve,hg]
  simp[go_sem]
 ·intro f' hf';simp[Target.leads] at hf';subst hf';exact hFg
 ·simp[invoke,go_sem,eg]
 ·have hnX:∀ j,w.heap.size≤j→¬X j:=fun j hj hx=>by have:=hX j hx;omega
  have tw:Turn (NC T w.heap.size w) w W1:=tV.trans t1
  have hTl:∀ j,T j→j<w.heap.size:=fun j hj=>(hB j (hTK j hj)).2
  refine (zIx hseq hTK hpt hfn (w.heap.size+1) w.heap.size w.heap.size (by omega) (hnX _ (by omega)) (fun j hj=>⟨hXB j hj,(hB j hj).2⟩) W1 ?_ rec hrec hL
   (fun k A=>I k A∧A.heap[w.heap.size]?=some (.deferred (some []))) (fun A=>Ix A∧A.heap[w.heap.size]?=some (.deferred (some [])))
   (fun k A B r h hl t=>⟨hI k A B h.1 (t.mono fun j _ e=>e.elim .inl fun e=>.inr ⟨by omega,by rw[e];exact ⟨_,hl,rfl⟩⟩),t.at h.2 (by rintro (e|e);exact absurd (hTl _ e) (by omega);omega)⟩)
   (fun A B r h hl t=>⟨hIx A B h.1 (t.mono fun j _ e=>e.elim .inl fun e=>.inr ⟨by omega,by rw[e];exact ⟨_,hl,rfl⟩⟩),t.at h.2 (by rintro (e|e);exact absurd (hTl _ e) (by omega);omega)⟩)
   ⟨hI 0 _ _ h0 tw,hD1⟩ ?_).mono ?_
  ·intro j hj
   obtain ⟨h1,h2⟩:=hB j hj
   refine ⟨by omega,?_,lL h2 tw.size⟩
   rw[←h1]
   exact (tV.trans (t1 (Y:=fun _=>False))).block j h2 (fun h=>h)
  ·intro l r k hk W hlo hl hi
   refine wpIn_mono (hround l r k hk W hlo hl hi.1) ?_
   intro e a' A h
   cases e with
   | normal=>
     obtain ⟨ht,hb⟩:=h
     refine ⟨ht,fun A' tA hlA=>wpIn_mono (hb A' tA hlA) ?_⟩
     have hDA:=ht.at hi.2 (Free.no (hnX _ (nR _)) hi.2 rfl)
     have hlD:w.heap.size≠l:=fun e=>by rw[←e] at hl;rw[hi.2] at hl;cases hl
     have hDA':=tA.at hDA hlD
     intro e2 a2 B hp
     cases e2 with
     | normal=>exact ⟨hp.1,hp.2,hp.1.at hDA' (Free.no (hnX _ (nR _)) hDA' rfl)⟩
     | ret=>exact ⟨hp.1,hp.2,hp.1.at hDA' (Free.no (hnX _ (nR _)) hDA' rfl)⟩
     | exit id=>exact hp.elim
     | goto t=>exact hp.elim
     | panic ch=>exact hp.elim
     | outgrown=>exact hp.elim
   | exit id=>exact h.elim
   | goto t=>exact h.elim
   | ret=>exact h.elim
   | panic ch=>exact h.elim
   | outgrown=>exact h.elim
  ·rintro e W2 ⟨⟨v,rfl⟩,(⟨⟨hi,hk⟩,hl⟩|⟨⟨hi,hk⟩,hl⟩)⟩
   ·exact ⟨none,_,by have:=run_endLoop (P:=P) hl (by rw[hrec];simp);rw[hrec] at this;exact this,hdone _ _ (nR _) (hI _ _ _ hi (Turn.put _ (.inr ⟨by omega,_,hl,rfl⟩) _)) ((World.putObj_heap_other (by omega)).trans hk)⟩
   ·exact ⟨some .ret,_,by have:=run_endLoop (P:=P) hl (by rw[hrec];simp);rw[hrec] at this;exact this,hstop _ _ (nR _) (hIx _ _ hi (Turn.put _ (.inr ⟨by omega,_,hl,rfl⟩) _)) ((World.putObj_heap_other (by omega)).trans hk)⟩
theorem zMX {α:Type} {enc:α→Value} {X:Nat→Prop} {g:Operand} {pt:Array Tmp} {assign body:Code} {Q:Exit→Act→World→Prop} {a:Act} {w:World} {l₀:Nat} {r₀:Loop}
  (hro:F.round=some l₀) (hl₀:w.heap[l₀]?=some (.loop r₀)) (h1:1≤n) {gf:Nat} {lb:Array Value} (hg:a.eval g=.func (.func gf) #[] lb) (hFg:F.fn gf) (eg:∀ args w,(callFunc gf args).run P w=.ok (.enter gf args) w)
  {T K:Nat→Prop} {ps:List α} {w0:World} (hseq:Parts enc F (n - 1) P gf lb T K ps w0) (hTK:∀ j,T j→K j) (hpt:pt.size=1) (hB:∀ j,K j→w.heap[j]?=w0.heap[j]?∧j<w.heap.size) (hX:∀ k,X k→k<w.heap.size) (hXB:∀ j,K j→¬X j)
  (I:Nat→World→Prop) (Ix:World→Prop)
  (hI:∀ k A B,I k A→Turn (NC T w.heap.size A) A B→I k B) (hIx:∀ A B,Ix A→Turn (NC T w.heap.size A) A B→Ix B) (h0:I 0 w)
  (hround:zPM enc F (n - 1 - 1) P X a.tmps pt assign body ps w.heap.size I Ix)
  (hdone:∀ (W:World),I ps.length W→Q .normal a W)
  (hstop:∀ (W:World),Ix W→Code.ret.wpIn F n P Q a W) :
  (Code.rangeFunc g pt assign body).wpIn F n P Q a w:=by
 refine wpIn_rangeFunc fun fn hfn=>?_
 rw[hro]
 obtain ⟨rec,hrec⟩:∃ rec:LoopState→Option Code→Loop,rec=fun st pe=>{ state:=st,pending:=pe,fn,tmps:=a.tmps,params:=pt,assign,body,defers:=r₀.defers}:=⟨_,rfl⟩
 obtain ⟨W1,hW1⟩:∃ W1,W1=w.alloc (.loop (rec .ready none)):=⟨_,rfl⟩
 have t1:∀ {Y:Nat→Prop},Turn Y w W1:=by rw[hW1];exact Turn.alloc w _
 have hL:W1.heap[w.heap.size]?=some (.loop (rec .ready none)):=by rw[hW1];exact World.alloc_heap_new w _
 refine ⟨w.heap.size,[],W1,{ target:=.fn (.func gf) lb,args:=#[.func (.yield w.heap.size) #[] #[]]},W1,gf,
  #[.func (.yield w.heap.size) #[] #[]]++lb,W1,?_,?_,?_,?_,fun _=>h1,?_⟩
 ·rw[hW1,hrec];exact run_enterLoop_inner hl₀ _ _ _ _ _
 ·simp only[resolve,hg]
  simp[go_sem]
 ·intro f' hf';simp[Target.leads] at hf';subst hf';exact hFg
 ·simp[invoke,go_sem,eg]
 ·refine (zIx hseq hTK hpt hfn w.heap.size r₀.defers w.heap.size (nR _) (fun hx=>by have:=hX _ hx;omega) (fun j hj=>⟨hXB j hj,(hB j hj).2⟩) W1 ?_ rec hrec hL
   I Ix (fun k A B r h hl t=>hI k A B h (t.mono fun j _ e=>e.elim .inl fun e=>.inr ⟨by omega,by rw[e];exact ⟨_,hl,rfl⟩⟩))
   (fun A B r h hl t=>hIx A B h (t.mono fun j _ e=>e.elim .inl fun e=>.inr ⟨by omega,by rw[e];exact ⟨_,hl,rfl⟩⟩))
   (hI 0 _ _ h0 t1) hround).mono ?_
  ·intro j hj
   obtain ⟨h1,h2⟩:=hB j hj
   refine ⟨h2,?_,lL h2 (t1 (Y:=fun _=>False)).size⟩
   rw[←h1]
   exact (t1 (Y:=fun _=>False)).block j h2 (fun h=>h)
  ·rintro e W2 ⟨⟨v,rfl⟩,(⟨hi,hl⟩|⟨hi,hl⟩)⟩
   ·exact ⟨none,_,by have:=run_endLoop (P:=P) hl (by rw[hrec];simp);rw[hrec] at this;exact this,hdone _ (hI _ _ _ hi (Turn.put _ (.inr ⟨by omega,_,hl,rfl⟩) _))⟩
   ·exact ⟨some .ret,_,by have:=run_endLoop (P:=P) hl (by rw[hrec];simp);rw[hrec] at this;exact this,hstop _ (hIx _ _ hi (Turn.put _ (.inr ⟨by omega,_,hl,rfl⟩) _))⟩
theorem zEe {α:Type} {r:Rp α} {w:World} {base:Nat} {e:TypeId} {v:Value} {l:List α} {ops:Array Oper} {rest:List Oper} {o:Oper} {a:Act} {Q:Exit→Act→World→Prop} {bytes:Nat}
  (hg:o.guard=none) (s x:Operand) (t:TypeId) (ho:o.op=.call { callee:=.builtin .append,args:=#[s,x],argTypes:=#[t,t]})
  (E:Elt P e r.size bytes) (ht:P.underlying t=some (.slice e)) (hs:a.eval s=v) (hown:Own r w base e v l (fun _=>False))
  (ad:Addr) (c:Nat) (cs:List Value) (y:α) (hx:a.eval x=.slice (some ad) 1 c) (hy:r.holds w (fun _=>False) y cs) (hnews:∀ j u,cs[j]?=some u→w.cell? (ad.add j)=some u)
  (h63:l.length+1≤maxLen) (hbytes:(l.length+1) * bytes≤140737488355328) (hbase:base≤w.heap.size)
  (h:∀ g cap w',Own r w' base e (.slice (some ⟨g,0,none⟩) (l.length+1) cap) (l++[y]) (fun _=>False)→w.grownBy w' v.ownBlock→g<w'.heap.size→wpListIn F n P ops Q rest (a.put o.dst (.slice (some ⟨g,0,none⟩) (l.length+1) cap)) w') :
  wpListIn F n P ops Q (o::rest) a w:=by
 obtain ⟨i,z,hi,hz,hsz,hby,hzs,hpos⟩:=E
 obtain ⟨h0,xs,h1,h2⟩:=hown
 refine wpListIn_append_own w hg s x t ho base e i z r.size bytes ht hi hz hsz hby hzs hpos v l.length xs hs h1 ad 1 c cs hx (by rw[r.len hy,Nat.one_mul]) hnews (r.one hy) h63 hbytes hbase ?_
 intro v' w' hown' hgrow _
 obtain ⟨g,cap,rfl,_,hlt⟩:=hown'.form (by omega)
 exact h g cap w' ⟨fun b hb=>hb.elim,xs++cs,by simpa using hown',Elems.append (Elems.one_ (r.mono hy fun b hb _=>hb.elim)) (h2.mono fun b hb _=>hb.elim)⟩ hgrow hlt
end Go.Proofs.YthbnmehbhpakaaaGreatDoor
namespace Go.Proofs
open Go.Shelf
def Tryz.sortRk_ren:Go.Shelf.Ren:=⟨fun|6=>259|15=>83|14=>296|28=>147|29=>148|20=>318|21=>319|22=>320|23=>321|24=>322|25=>323|26=>324|27=>325|46=>333|47=>207|48=>208|49=>334|50=>335|57=>336|n=>n,fun|22=>206|24=>211|25=>265|3=>3|39=>143|0=>0|53=>200|55=>202|4=>4|46=>194|45=>193|50=>165|5=>5|9=>9|66=>252|70=>256|76=>287|77=>288|n=>n,fun|n=>n⟩
theorem Tryz.sortRk:Go.Proofs.SlLaysF0.n6 Tryz.prog Tryz.sortRk_ren:={
 mixed:=by kernel_rfl
 f6:=⟨Tryz.f259.name,by decide,Tryz.func259.trans (congrArg some (by kernel_rfl))⟩
 f14:=⟨Tryz.f296.name,by decide,Tryz.func296.trans (congrArg some (by kernel_rfl))⟩
 f15:=Tryz.func83.trans (congrArg some (by kernel_rfl))
 f20:=⟨Tryz.f318.name,by decide,Tryz.func318.trans (congrArg some (by kernel_rfl))⟩
 f21:=⟨Tryz.f319.name,by decide,Tryz.func319.trans (congrArg some (by kernel_rfl))⟩
 f22:=⟨Tryz.f320.name,by decide,Tryz.func320.trans (congrArg some (by kernel_rfl))⟩
 f23:=⟨Tryz.f321.name,by decide,Tryz.func321.trans (congrArg some (by kernel_rfl))⟩
 f24:=⟨Tryz.f322.name,by decide,Tryz.func322.trans (congrArg some (by kernel_rfl))⟩
 f25:=⟨Tryz.f323.name,by decide,Tryz.func323.trans (congrArg some (by kernel_rfl))⟩
 f26:=⟨Tryz.f324.name,by decide,Tryz.func324.trans (congrArg some (by kernel_rfl))⟩
 f27:=⟨Tryz.f325.name,by decide,Tryz.func325.trans (congrArg some (by kernel_rfl))⟩
 f28:=Tryz.func147.trans (congrArg some (by kernel_rfl))
 f29:=Tryz.func148.trans (congrArg some (by kernel_rfl))
 f46:=⟨Tryz.f333.name,by decide,Tryz.func333.trans (congrArg some (by kernel_rfl))⟩
 f47:=Tryz.func207.trans (congrArg some (by kernel_rfl))
 f48:=Tryz.func208.trans (congrArg some (by kernel_rfl))
 f49:=⟨Tryz.f334.name,by decide,Tryz.func334.trans (congrArg some (by kernel_rfl))⟩
 f50:=⟨Tryz.f335.name,by decide,Tryz.func335.trans (congrArg some (by kernel_rfl))⟩
 f57:=⟨Tryz.f336.name,by decide,Tryz.func336.trans (congrArg some (by kernel_rfl))⟩
 t0:=Tryz.underlying0
 a0:=Tryz.isAgg0
 z0:=Tryz.sizeOf0
 v0:=Tryz.zeroValue0
 t3:=Tryz.underlying3
 a3:=Tryz.isAgg3
 z3:=Tryz.sizeOf3
 v3:=Tryz.zeroValue3
 t4:=Tryz.underlying4
 a4:=Tryz.isAgg4
 z4:=Tryz.sizeOf4
 v4:=Tryz.zeroValue4
 t5:=Tryz.underlying5
 a5:=Tryz.isAgg5
 z5:=Tryz.sizeOf5
 v5:=Tryz.zeroValue5
 t9:=Tryz.underlying9
 a9:=Tryz.isAgg9
 z9:=Tryz.sizeOf9
 v9:=Tryz.zeroValue9
 t22:=Tryz.underlying206
 a22:=Tryz.isAgg206
 z22:=Tryz.sizeOf206
 v22:=Tryz.zeroValue206
 t25:=Tryz.underlying265
 a25:=Tryz.isAgg265
 z25:=Tryz.sizeOf265
 v25:=Tryz.zeroValue265
 t39:=Tryz.underlying143
 a39:=Tryz.isAgg143
 z39:=Tryz.sizeOf143
 v39:=Tryz.zeroValue143
 t45:=Tryz.underlying193
 a45:=Tryz.isAgg193
 z45:=Tryz.sizeOf193
 v45:=Tryz.zeroValue193
 t46:=Tryz.underlying194
 a46:=Tryz.isAgg194
 z46:=Tryz.sizeOf194
 v46:=Tryz.zeroValue194
 t50:=Tryz.underlying165
 a50:=Tryz.isAgg165
 z50:=Tryz.sizeOf165
 v50:=Tryz.zeroValue165
 t53:=Tryz.underlying200
 a53:=Tryz.isAgg200
 z53:=Tryz.sizeOf200
 v53:=Tryz.zeroValue200
 t55:=Tryz.underlying202
 a55:=Tryz.isAgg202
 z55:=Tryz.sizeOf202
 v55:=Tryz.zeroValue202
 t66:=Tryz.underlying252
 a66:=Tryz.isAgg252
 z66:=Tryz.sizeOf252
 v66:=Tryz.zeroValue252
 t70:=Tryz.underlying256
 a70:=Tryz.isAgg256
 z70:=Tryz.sizeOf256
 v70:=Tryz.zeroValue256
 t76:=Tryz.underlying287
 a76:=Tryz.isAgg287
 z76:=Tryz.sizeOf287
 v76:=Tryz.zeroValue287
 t77:=Tryz.underlying288
 a77:=Tryz.isAgg288
 z77:=Tryz.sizeOf288
 v77:=Tryz.zeroValue288}
def Tryz.sortDep_ren:Go.Shelf.Ren:=⟨fun|6=>189|15=>83|14=>244|28=>147|29=>148|20=>281|21=>282|22=>283|23=>284|24=>285|25=>286|26=>287|27=>288|46=>313|47=>207|48=>208|49=>314|50=>315|57=>332|n=>n,fun|22=>22|24=>158|25=>238|3=>3|39=>143|0=>0|53=>200|55=>202|4=>4|46=>194|45=>193|50=>165|5=>5|9=>9|66=>252|70=>256|76=>287|77=>288|n=>n,fun|n=>n⟩
theorem Tryz.sortDep:Go.Proofs.SlLaysF0.n6 Tryz.prog Tryz.sortDep_ren:={
 mixed:=by kernel_rfl
 f6:=⟨Tryz.f189.name,by decide,Tryz.func189.trans (congrArg some (by kernel_rfl))⟩
 f14:=⟨Tryz.f244.name,by decide,Tryz.func244.trans (congrArg some (by kernel_rfl))⟩
 f15:=Tryz.func83.trans (congrArg some (by kernel_rfl))
 f20:=⟨Tryz.f281.name,by decide,Tryz.func281.trans (congrArg some (by kernel_rfl))⟩
 f21:=⟨Tryz.f282.name,by decide,Tryz.func282.trans (congrArg some (by kernel_rfl))⟩
 f22:=⟨Tryz.f283.name,by decide,Tryz.func283.trans (congrArg some (by kernel_rfl))⟩
 f23:=⟨Tryz.f284.name,by decide,Tryz.func284.trans (congrArg some (by kernel_rfl))⟩
 f24:=⟨Tryz.f285.name,by decide,Tryz.func285.trans (congrArg some (by kernel_rfl))⟩
 f25:=⟨Tryz.f286.name,by decide,Tryz.func286.trans (congrArg some (by kernel_rfl))⟩
 f26:=⟨Tryz.f287.name,by decide,Tryz.func287.trans (congrArg some (by kernel_rfl))⟩
 f27:=⟨Tryz.f288.name,by decide,Tryz.func288.trans (congrArg some (by kernel_rfl))⟩
 f28:=Tryz.func147.trans (congrArg some (by kernel_rfl))
 f29:=Tryz.func148.trans (congrArg some (by kernel_rfl))
 f46:=⟨Tryz.f313.name,by decide,Tryz.func313.trans (congrArg some (by kernel_rfl))⟩
 f47:=Tryz.func207.trans (congrArg some (by kernel_rfl))
 f48:=Tryz.func208.trans (congrArg some (by kernel_rfl))
 f49:=⟨Tryz.f314.name,by decide,Tryz.func314.trans (congrArg some (by kernel_rfl))⟩
 f50:=⟨Tryz.f315.name,by decide,Tryz.func315.trans (congrArg some (by kernel_rfl))⟩
 f57:=⟨Tryz.f332.name,by decide,Tryz.func332.trans (congrArg some (by kernel_rfl))⟩
 t0:=Tryz.underlying0
 a0:=Tryz.isAgg0
 z0:=Tryz.sizeOf0
 v0:=Tryz.zeroValue0
 t3:=Tryz.underlying3
 a3:=Tryz.isAgg3
 z3:=Tryz.sizeOf3
 v3:=Tryz.zeroValue3
 t4:=Tryz.underlying4
 a4:=Tryz.isAgg4
 z4:=Tryz.sizeOf4
 v4:=Tryz.zeroValue4
 t5:=Tryz.underlying5
 a5:=Tryz.isAgg5
 z5:=Tryz.sizeOf5
 v5:=Tryz.zeroValue5
 t9:=Tryz.underlying9
 a9:=Tryz.isAgg9
 z9:=Tryz.sizeOf9
 v9:=Tryz.zeroValue9
 t22:=Tryz.underlying22
 a22:=Tryz.isAgg22
 z22:=Tryz.sizeOf22
 v22:=Tryz.zeroValue22
 t25:=Tryz.underlying238
 a25:=Tryz.isAgg238
 z25:=Tryz.sizeOf238
 v25:=Tryz.zeroValue238
 t39:=Tryz.underlying143
 a39:=Tryz.isAgg143
 z39:=Tryz.sizeOf143
 v39:=Tryz.zeroValue143
 t45:=Tryz.underlying193
 a45:=Tryz.isAgg193
 z45:=Tryz.sizeOf193
 v45:=Tryz.zeroValue193
 t46:=Tryz.underlying194
 a46:=Tryz.isAgg194
 z46:=Tryz.sizeOf194
 v46:=Tryz.zeroValue194
 t50:=Tryz.underlying165
 a50:=Tryz.isAgg165
 z50:=Tryz.sizeOf165
 v50:=Tryz.zeroValue165
 t53:=Tryz.underlying200
 a53:=Tryz.isAgg200
 z53:=Tryz.sizeOf200
 v53:=Tryz.zeroValue200
 t55:=Tryz.underlying202
 a55:=Tryz.isAgg202
 z55:=Tryz.sizeOf202
 v55:=Tryz.zeroValue202
 t66:=Tryz.underlying252
 a66:=Tryz.isAgg252
 z66:=Tryz.sizeOf252
 v66:=Tryz.zeroValue252
 t70:=Tryz.underlying256
 a70:=Tryz.isAgg256
 z70:=Tryz.sizeOf256
 v70:=Tryz.zeroValue256
 t76:=Tryz.underlying287
 a76:=Tryz.isAgg287
 z76:=Tryz.sizeOf287
 v76:=Tryz.zeroValue287
 t77:=Tryz.underlying288
 a77:=Tryz.isAgg288
 z77:=Tryz.sizeOf288
 v77:=Tryz.zeroValue288}
def Tryz.sortFile_ren:Go.Shelf.Ren:=⟨fun|6=>28|15=>83|14=>82|28=>147|29=>148|20=>139|21=>140|22=>141|23=>142|24=>143|25=>144|26=>145|27=>146|46=>206|47=>207|48=>208|49=>209|50=>210|57=>255|n=>n,fun|22=>33|24=>45|25=>78|3=>3|39=>143|0=>0|53=>200|55=>202|4=>4|46=>194|45=>193|50=>165|5=>5|9=>9|66=>252|70=>256|76=>287|77=>288|n=>n,fun|n=>n⟩
theorem Tryz.sortFile:Go.Proofs.SlLaysF0.n6 Tryz.prog Tryz.sortFile_ren:={
 mixed:=by kernel_rfl
 f6:=⟨Tryz.f28.name,by decide,Tryz.func28.trans (congrArg some (by kernel_rfl))⟩
 f14:=⟨Tryz.f82.name,by decide,Tryz.func82.trans (congrArg some (by kernel_rfl))⟩
 f15:=Tryz.func83.trans (congrArg some (by kernel_rfl))
 f20:=⟨Tryz.f139.name,by decide,Tryz.func139.trans (congrArg some (by kernel_rfl))⟩
 f21:=⟨Tryz.f140.name,by decide,Tryz.func140.trans (congrArg some (by kernel_rfl))⟩
 f22:=⟨Tryz.f141.name,by decide,Tryz.func141.trans (congrArg some (by kernel_rfl))⟩
 f23:=⟨Tryz.f142.name,by decide,Tryz.func142.trans (congrArg some (by kernel_rfl))⟩
 f24:=⟨Tryz.f143.name,by decide,Tryz.func143.trans (congrArg some (by kernel_rfl))⟩
 f25:=⟨Tryz.f144.name,by decide,Tryz.func144.trans (congrArg some (by kernel_rfl))⟩
 f26:=⟨Tryz.f145.name,by decide,Tryz.func145.trans (congrArg some (by kernel_rfl))⟩
 f27:=⟨Tryz.f146.name,by decide,Tryz.func146.trans (congrArg some (by kernel_rfl))⟩
 f28:=Tryz.func147.trans (congrArg some (by kernel_rfl))
 f29:=Tryz.func148.trans (congrArg some (by kernel_rfl))
 f46:=⟨Tryz.f206.name,by decide,Tryz.func206.trans (congrArg some (by kernel_rfl))⟩
 f47:=Tryz.func207.trans (congrArg some (by kernel_rfl))
 f48:=Tryz.func208.trans (congrArg some (by kernel_rfl))
 f49:=⟨Tryz.f209.name,by decide,Tryz.func209.trans (congrArg some (by kernel_rfl))⟩
 f50:=⟨Tryz.f210.name,by decide,Tryz.func210.trans (congrArg some (by kernel_rfl))⟩
 f57:=⟨Tryz.f255.name,by decide,Tryz.func255.trans (congrArg some (by kernel_rfl))⟩
 t0:=Tryz.underlying0
 a0:=Tryz.isAgg0
 z0:=Tryz.sizeOf0
 v0:=Tryz.zeroValue0
 t3:=Tryz.underlying3
 a3:=Tryz.isAgg3
 z3:=Tryz.sizeOf3
 v3:=Tryz.zeroValue3
 t4:=Tryz.underlying4
 a4:=Tryz.isAgg4
 z4:=Tryz.sizeOf4
 v4:=Tryz.zeroValue4
 t5:=Tryz.underlying5
 a5:=Tryz.isAgg5
 z5:=Tryz.sizeOf5
 v5:=Tryz.zeroValue5
 t9:=Tryz.underlying9
 a9:=Tryz.isAgg9
 z9:=Tryz.sizeOf9
 v9:=Tryz.zeroValue9
 t22:=Tryz.underlying33
 a22:=Tryz.isAgg33
 z22:=Tryz.sizeOf33
 v22:=Tryz.zeroValue33
 t25:=Tryz.underlying78
 a25:=Tryz.isAgg78
 z25:=Tryz.sizeOf78
 v25:=Tryz.zeroValue78
 t39:=Tryz.underlying143
 a39:=Tryz.isAgg143
 z39:=Tryz.sizeOf143
 v39:=Tryz.zeroValue143
 t45:=Tryz.underlying193
 a45:=Tryz.isAgg193
 z45:=Tryz.sizeOf193
 v45:=Tryz.zeroValue193
 t46:=Tryz.underlying194
 a46:=Tryz.isAgg194
 z46:=Tryz.sizeOf194
 v46:=Tryz.zeroValue194
 t50:=Tryz.underlying165
 a50:=Tryz.isAgg165
 z50:=Tryz.sizeOf165
 v50:=Tryz.zeroValue165
 t53:=Tryz.underlying200
 a53:=Tryz.isAgg200
 z53:=Tryz.sizeOf200
 v53:=Tryz.zeroValue200
 t55:=Tryz.underlying202
 a55:=Tryz.isAgg202
 z55:=Tryz.sizeOf202
 v55:=Tryz.zeroValue202
 t66:=Tryz.underlying252
 a66:=Tryz.isAgg252
 z66:=Tryz.sizeOf252
 v66:=Tryz.zeroValue252
 t70:=Tryz.underlying256
 a70:=Tryz.isAgg256
 z70:=Tryz.sizeOf256
 v70:=Tryz.zeroValue256
 t76:=Tryz.underlying287
 a76:=Tryz.isAgg287
 z76:=Tryz.sizeOf287
 v76:=Tryz.zeroValue287
 t77:=Tryz.underlying288
 a77:=Tryz.isAgg288
 z77:=Tryz.sizeOf288
 v77:=Tryz.zeroValue288}
def Tryz.sortDir_ren:Go.Shelf.Ren:=⟨fun|6=>101|15=>83|14=>166|28=>147|29=>148|20=>226|21=>227|22=>228|23=>229|24=>230|25=>231|26=>232|27=>233|46=>267|47=>207|48=>208|49=>268|50=>269|57=>300|n=>n,fun|22=>28|24=>59|25=>169|3=>3|39=>143|0=>0|53=>200|55=>202|4=>4|46=>194|45=>193|50=>165|5=>5|9=>9|66=>252|70=>256|76=>287|77=>288|n=>n,fun|n=>n⟩
theorem Tryz.sortDir:Go.Proofs.SlLaysF0.n6 Tryz.prog Tryz.sortDir_ren:={
 mixed:=by kernel_rfl
 f6:=⟨Tryz.f101.name,by decide,Tryz.func101.trans (congrArg some (by kernel_rfl))⟩
 f14:=⟨Tryz.f166.name,by decide,Tryz.func166.trans (congrArg some (by kernel_rfl))⟩
 f15:=Tryz.func83.trans (congrArg some (by kernel_rfl))
 f20:=⟨Tryz.f226.name,by decide,Tryz.func226.trans (congrArg some (by kernel_rfl))⟩
 f21:=⟨Tryz.f227.name,by decide,Tryz.func227.trans (congrArg some (by kernel_rfl))⟩
 f22:=⟨Tryz.f228.name,by decide,Tryz.func228.trans (congrArg some (by kernel_rfl))⟩
 f23:=⟨Tryz.f229.name,by decide,Tryz.func229.trans (congrArg some (by kernel_rfl))⟩
 f24:=⟨Tryz.f230.name,by decide,Tryz.func230.trans (congrArg some (by kernel_rfl))⟩
 f25:=⟨Tryz.f231.name,by decide,Tryz.func231.trans (congrArg some (by kernel_rfl))⟩
 f26:=⟨Tryz.f232.name,by decide,Tryz.func232.trans (congrArg some (by kernel_rfl))⟩
 f27:=⟨Tryz.f233.name,by decide,Tryz.func233.trans (congrArg some (by kernel_rfl))⟩
 f28:=Tryz.func147.trans (congrArg some (by kernel_rfl))
 f29:=Tryz.func148.trans (congrArg some (by kernel_rfl))
 f46:=⟨Tryz.f267.name,by decide,Tryz.func267.trans (congrArg some (by kernel_rfl))⟩
 f47:=Tryz.func207.trans (congrArg some (by kernel_rfl))
 f48:=Tryz.func208.trans (congrArg some (by kernel_rfl))
 f49:=⟨Tryz.f268.name,by decide,Tryz.func268.trans (congrArg some (by kernel_rfl))⟩
 f50:=⟨Tryz.f269.name,by decide,Tryz.func269.trans (congrArg some (by kernel_rfl))⟩
 f57:=⟨Tryz.f300.name,by decide,Tryz.func300.trans (congrArg some (by kernel_rfl))⟩
 t0:=Tryz.underlying0
 a0:=Tryz.isAgg0
 z0:=Tryz.sizeOf0
 v0:=Tryz.zeroValue0
 t3:=Tryz.underlying3
 a3:=Tryz.isAgg3
 z3:=Tryz.sizeOf3
 v3:=Tryz.zeroValue3
 t4:=Tryz.underlying4
 a4:=Tryz.isAgg4
 z4:=Tryz.sizeOf4
 v4:=Tryz.zeroValue4
 t5:=Tryz.underlying5
 a5:=Tryz.isAgg5
 z5:=Tryz.sizeOf5
 v5:=Tryz.zeroValue5
 t9:=Tryz.underlying9
 a9:=Tryz.isAgg9
 z9:=Tryz.sizeOf9
 v9:=Tryz.zeroValue9
 t22:=Tryz.underlying28
 a22:=Tryz.isAgg28
 z22:=Tryz.sizeOf28
 v22:=Tryz.zeroValue28
 t25:=Tryz.underlying169
 a25:=Tryz.isAgg169
 z25:=Tryz.sizeOf169
 v25:=Tryz.zeroValue169
 t39:=Tryz.underlying143
 a39:=Tryz.isAgg143
 z39:=Tryz.sizeOf143
 v39:=Tryz.zeroValue143
 t45:=Tryz.underlying193
 a45:=Tryz.isAgg193
 z45:=Tryz.sizeOf193
 v45:=Tryz.zeroValue193
 t46:=Tryz.underlying194
 a46:=Tryz.isAgg194
 z46:=Tryz.sizeOf194
 v46:=Tryz.zeroValue194
 t50:=Tryz.underlying165
 a50:=Tryz.isAgg165
 z50:=Tryz.sizeOf165
 v50:=Tryz.zeroValue165
 t53:=Tryz.underlying200
 a53:=Tryz.isAgg200
 z53:=Tryz.sizeOf200
 v53:=Tryz.zeroValue200
 t55:=Tryz.underlying202
 a55:=Tryz.isAgg202
 z55:=Tryz.sizeOf202
 v55:=Tryz.zeroValue202
 t66:=Tryz.underlying252
 a66:=Tryz.isAgg252
 z66:=Tryz.sizeOf252
 v66:=Tryz.zeroValue252
 t70:=Tryz.underlying256
 a70:=Tryz.isAgg256
 z70:=Tryz.sizeOf256
 v70:=Tryz.zeroValue256
 t76:=Tryz.underlying287
 a76:=Tryz.isAgg287
 z76:=Tryz.sizeOf287
 v76:=Tryz.zeroValue287
 t77:=Tryz.underlying288
 a77:=Tryz.isAgg288
 z77:=Tryz.sizeOf288
 v77:=Tryz.zeroValue288}
end Go.Proofs
namespace Go.Proofs.YthbnmehbhpakaaaGreatDoor
abbrev Rk:=Int×Int
def Has (l:List Rk) (n:Int):Prop:=∃ x∈l,x.1≤n∧n≤x.2
def Nrm:Int→List Rk→Prop
 | _,[]=>True
 | a,x::l=>a≤x.1∧x.1≤x.2∧Nrm (x.2+2) l
theorem zF2 (n:Int):¬Has [] n:=fun ⟨x,h,_⟩=>by simp at h
theorem has_cons {x:Rk} {l:List Rk} {n:Int}:Has (x::l) n↔(x.1≤n∧n≤x.2)∨Has l n:=by
 unfold Has
 constructor
 ·rintro ⟨y,hy,h⟩
  rcases List.mem_cons.1 hy with rfl|hy
  ·exact .inl h
  ·exact .inr ⟨y,hy,h⟩
 ·rintro (h|⟨y,hy,h⟩)
  ·exact ⟨x,by simp,h⟩
  ·exact ⟨y,by simp[hy],h⟩
theorem zDM {l m:List Rk} {n:Int}:Has (l++m) n↔Has l n∨Has m n:=by
 unfold Has
 constructor
 ·rintro ⟨y,hy,h⟩
  rcases List.mem_append.1 hy with hy|hy
  ·exact .inl ⟨y,hy,h⟩
  ·exact .inr ⟨y,hy,h⟩
 ·rintro (⟨y,hy,h⟩|⟨y,hy,h⟩)
  ·exact ⟨y,by simp[hy],h⟩
  ·exact ⟨y,by simp[hy],h⟩
theorem zJJ {x:Rk} {n:Int}:Has [x] n↔x.1≤n∧n≤x.2:=by rw[has_cons];simp[zF2]
theorem zIb:∀ {l:List Rk} {a n:Int},Nrm a l→Has l n→a≤n:=by
 intro l
 induction l with
 | nil=>intro a n _ h;exact absurd h (zF2 n)
 | cons x l ih=>
   intro a n h hn
   obtain ⟨h1,h2,h3⟩:=h
   rcases has_cons.1 hn with hn|hn
   ·omega
   ·have:=ih h3 hn;omega
theorem zSB:∀ {l:List Rk} {a b:Int},b≤a→Nrm a l→Nrm b l:=by
 intro l a b hb h
 cases l with
 | nil=>trivial
 | cons x l=>exact ⟨by have:=h.1;omega,h.2.1,h.2.2⟩
theorem zSi:∀ {l m:List Rk} {a b:Int},Nrm a l→Nrm b m→(∀ n,Has l n↔Has m n)→l=m:=by
 intro l
 induction l with
 | nil=>
   intro m a b _ hm h
   cases m with
   | nil=>rfl
   | cons y m=>exact absurd ((h y.1).2 (has_cons.2 (.inl ⟨Int.le_refl _,hm.2.1⟩))) (zF2 _)
 | cons x l ih=>
   intro m a b hl hm h
   cases m with
   | nil=>exact absurd ((h x.1).1 (has_cons.2 (.inl ⟨Int.le_refl _,hl.2.1⟩))) (zF2 _)
   | cons y m=>
     obtain ⟨l1,l2,l3⟩:=hl
     obtain ⟨m1,m2,m3⟩:=hm
     have e1:y.1≤x.1:=by
      rcases has_cons.1 ((h x.1).1 (has_cons.2 (.inl ⟨Int.le_refl _,l2⟩))) with g|g
      ·exact g.1
      ·have:=zIb m3 g;omega
     have e2:x.1≤y.1:=by
      rcases has_cons.1 ((h y.1).2 (has_cons.2 (.inl ⟨Int.le_refl _,m2⟩))) with g|g
      ·exact g.1
      ·have:=zIb l3 g;omega
     have e3:¬x.2<y.2:=by
      intro hlt
      rcases has_cons.1 ((h (x.2+1)).2 (has_cons.2 (.inl ⟨by omega,by omega⟩))) with g|g
      ·omega
      ·have:=zIb l3 g;omega
     have e4:¬y.2<x.2:=by
      intro hlt
      rcases has_cons.1 ((h (y.2+1)).1 (has_cons.2 (.inl ⟨by omega,by omega⟩))) with g|g
      ·omega
      ·have:=zIb m3 g;omega
     have e5:l=m:=ih l3 m3 fun n=>by
      constructor
      ·intro hn
       have h1:=zIb l3 hn
       rcases has_cons.1 ((h n).1 (has_cons.2 (.inr hn))) with g|g
       ·omega
       ·exact g
      ·intro hn
       have h1:=zIb m3 hn
       rcases has_cons.1 ((h n).2 (has_cons.2 (.inr hn))) with g|g
       ·omega
       ·exact g
     have e6:x=y:=Prod.ext (by omega) (by omega)
     rw[e5,e6]
def Runs (p:Int→Prop):Prop:=∃ r,Nrm 0 r∧∀ n,Has r n↔p n
open Classical in
noncomputable def canon (p:Int→Prop):List Rk:=if h:Runs p then h.choose else []
theorem zLW {p:Int→Prop} (h:Runs p):Nrm 0 (canon p):=by unfold canon;rw[dif_pos h];exact h.choose_spec.1
theorem zKK {p:Int→Prop} (h:Runs p) (n:Int):Has (canon p) n↔p n:=by unfold canon;rw[dif_pos h];exact h.choose_spec.2 n
theorem zND {p:Int→Prop} {r:List Rk} (h1:Nrm 0 r) (h2:∀ n,Has r n↔p n):canon p=r:=
 zSi (zLW ⟨r,h1,h2⟩) h1 fun n=>(zKK ⟨r,h1,h2⟩ n).trans (h2 n).symm
theorem zOg {r:List Rk} (h:Nrm 0 r):canon (Has r)=r:=zND h fun _=>Iff.rfl
def lastR:Int:=999999999
def endOf:Int→List Rk→Int
 | a,[]=>a
 | _,x::l=>endOf (x.2+2) l
theorem zNy:∀ (l:List Rk) (a:Int) (x:Rk),endOf a (l++[x])=x.2+2:=by
 intro l
 induction l with
 | nil=>intro a x;rfl
 | cons y l ih=>intro a x;exact ih _ x
theorem zJt:∀ {l:List Rk} {a:Int} {x:Rk},Nrm a (l++[x])↔Nrm a l∧endOf a l≤x.1∧x.1≤x.2:=by
 intro l
 induction l with
 | nil=>intro a x;exact ⟨fun h=>⟨trivial,h.1,h.2.1⟩,fun h=>⟨h.2.1,h.2.2,trivial⟩⟩
 | cons y l ih=>
   intro a x
   constructor
   ·rintro ⟨h1,h2,h3⟩
    obtain ⟨g1,g2⟩:=ih.1 h3
    exact ⟨⟨h1,h2,g1⟩,g2⟩
   ·rintro ⟨⟨h1,h2,h3⟩,g⟩
    exact ⟨h1,h2,ih.2 ⟨h3,g⟩⟩
def zG0 (out:List Rk) (x:Rk):List Rk:=match out.getLast? with
 | none=>[x]
 | some y=>if x.1≤y.2+1 then out.dropLast++[(y.1,max y.2 x.2)] else out++[x]
theorem zFr (x:Rk):zG0 [] x=[x]:=rfl
theorem zEu (l:List Rk) (y x:Rk):zG0 (l++[y]) x=if x.1≤y.2+1 then l++[(y.1,max y.2 x.2)] else l++[y]++[x]:=by
 unfold zG0
 simp[List.getLast?_append]
def zBj (l:List Rk):List Rk:=l.foldl zG0 []
theorem zHn (l:List Rk) (x:Rk):zBj (l++[x])=zG0 (zBj l) x:=by unfold zBj;rw[List.foldl_append];rfl
theorem list_snoc {α:Type} (l:List α):l=[]∨∃ i y,l=i++[y]:=by
 rcases List.eq_nil_or_concat l with h|⟨i,y,h⟩
 ·exact .inl h
 ·exact .inr ⟨i,y,by rw[h,List.concat_eq_append]⟩
theorem zIv:∀ (l:List Rk),(∀ x∈l,0≤x.1∧x.1≤x.2)→l.Pairwise (fun x y=>x.1≤y.1) →
  Nrm 0 (zBj l)∧(∀ n,Has (zBj l) n↔Has l n)∧((zBj l=[]∧l=[])∨∃ i y z j,zBj l=i++[y]∧l=j++[z]∧y.1≤z.1):=by
 intro l
 refine (show ∀ (r:List Rk),(∀ x∈r.reverse,0≤x.1∧x.1≤x.2)→r.reverse.Pairwise (fun x y=>x.1≤y.1) →
  Nrm 0 (zBj r.reverse)∧(∀ n,Has (zBj r.reverse) n↔Has r.reverse n)∧((zBj r.reverse=[]∧r.reverse=[])∨∃ i y z j,zBj r.reverse=i++[y]∧r.reverse=j++[z]∧y.1≤z.1) from ?_) l.reverse |> fun h=>by rw[List.reverse_reverse] at h;exact h
 intro r
 induction r with
 | nil=>intro _ _;exact ⟨trivial,fun n=>Iff.rfl,.inl ⟨rfl,rfl⟩⟩
 | cons x r ih=>
   rw[List.reverse_cons]
   intro h1 h2
   have hx:=h1 x (by simp)
   obtain ⟨p1,_,p3⟩:=List.pairwise_append.1 h2
   obtain ⟨n1,n2,n3⟩:=ih (fun y hy=>h1 y (List.mem_append_left _ hy)) p1
   rw[zHn]
   rcases n3 with ⟨e1,e2⟩|⟨i,y,z,j,e1,e2,e3⟩
   ·rw[e1,e2,zFr]
    exact ⟨⟨hx.1,hx.2,trivial⟩,fun n=>by simp,.inr ⟨[],x,x,[],rfl,rfl,Int.le_refl _⟩⟩
   ·have hzx:z.1≤x.1:=p3 z (by rw[e2];simp) x (by simp)
    rw[e1] at n1 n2
    rw[e1,zEu]
    obtain ⟨m1,m2,m3⟩:=zJt.1 n1
    by_cases ht:x.1≤y.2+1
    ·rw[if_pos ht]
     refine ⟨zJt.2 ⟨m1,m2,by simp only;omega⟩,fun n=>?_,.inr ⟨i,_,x,_,rfl,rfl,by simp only;omega⟩⟩
     rw[zDM,zJJ,zDM,zJJ,←n2 n,zDM,zJJ]
     simp only
     constructor
     ·rintro (g|g)
      ·exact .inl (.inl g)
      ·by_cases hn:n≤y.2
       ·exact .inl (.inr ⟨g.1,hn⟩)
       ·exact .inr ⟨by omega,by omega⟩
     ·rintro ((g|g)|g)
      ·exact .inl g
      ·exact .inr ⟨g.1,by omega⟩
      ·exact .inr ⟨by omega,by omega⟩
    ·rw[if_neg ht]
     refine ⟨zJt.2 ⟨n1,by rw[zNy];omega,hx.2⟩,fun n=>?_,.inr ⟨_,x,x,_,rfl,rfl,Int.le_refl _⟩⟩
     rw[zDM,zDM (l:=r.reverse),n2 n]
def zCV (q:Int→Bool):List Int→Int→List Rk
 | [],_=>[]
 | m::L,f=>if (decide (m≤lastR)&&q m)=true then (if f<0 then zCV q L m else zCV q L f) else (if 0≤f then (f,m - 1)::zCV q L (-1) else zCV q L f)
def zKU (q:Int→Bool):List Int→Prop
 | []=>False
 | [m]=>m=lastR+1
 | m::m'::L=>m<m'∧(∀ n,m≤n→n<m'→q n=q m)∧zKU q (m'::L)
theorem zKU.le {q:Int→Bool}:∀ {L:List Int} {m:Int},zKU q (m::L)→m≤lastR+1:=by
 intro L
 induction L with
 | nil=>intro m h;have:m=lastR+1:=h;omega
 | cons m' L ih=>intro m h;have:=ih h.2.2;have:=h.1;omega
theorem zOU {q:Int→Bool}:∀ (L:List Int) (m:Int),0≤m→zKU q (m::L) →
  ((∀ n,Has (zCV q (m::L) (-1)) n↔m≤n∧n≤lastR∧q n=true)∧Nrm m (zCV q (m::L) (-1))) ∧
  (∀ f,0≤f→f<m→(∀ n,Has (zCV q (m::L) f) n↔(f≤n∧n<m)∨(m≤n∧n≤lastR∧q n=true))∧Nrm f (zCV q (m::L) f)):=by
 intro L
 induction L with
 | nil=>
   intro m h0 hs
   have hm:m=lastR+1:=hs
   have hc:¬(decide (m≤lastR)&&q m)=true:=by simp;intro h;omega
   constructor
   ·rw[zCV,if_neg hc,if_neg (by omega),zCV]
    exact ⟨fun n=>⟨fun g=>absurd g (zF2 n),fun g=>by omega⟩,trivial⟩
   ·intro f hf hfm
    rw[zCV,if_neg hc,if_pos hf,zCV]
    refine ⟨fun n=>?_,⟨Int.le_refl _,by simp only;omega,trivial⟩⟩
    rw[zJJ]
    simp only
    constructor
    ·intro g;exact .inl ⟨g.1,by omega⟩
    ·rintro (g|g)
     ·exact ⟨g.1,by omega⟩
     ·omega
 | cons m' L ih=>
   intro m h0 hs
   obtain ⟨s1,s2,s3⟩:=hs
   have hle:=s3.le
   obtain ⟨⟨i1,i2⟩,i3⟩:=ih m' (by omega) s3
   by_cases hc:(decide (m≤lastR)&&q m)=true
   ·have hq:q m=true:=by simp at hc;exact hc.2
    constructor
    ·rw[zCV,if_pos hc,if_pos (by omega)]
     obtain ⟨j1,j2⟩:=i3 m h0 s1
     refine ⟨fun n=>?_,j2⟩
     rw[j1 n]
     constructor
     ·rintro (g|g)
      ·exact ⟨g.1,by omega,by rw[s2 n g.1 g.2];exact hq⟩
      ·exact ⟨by omega,g.2⟩
     ·rintro ⟨g1,g2,g3⟩
      by_cases hn:n<m'
      ·exact .inl ⟨g1,hn⟩
      ·exact .inr ⟨by omega,g2,g3⟩
    ·intro f hf hfm
     rw[zCV,if_pos hc,if_neg (by omega)]
     obtain ⟨j1,j2⟩:=i3 f hf (by omega)
     refine ⟨fun n=>?_,j2⟩
     rw[j1 n]
     constructor
     ·rintro (g|g)
      ·by_cases hn:n<m
       ·exact .inl ⟨g.1,hn⟩
       ·exact .inr ⟨by omega,by omega,by rw[s2 n (by omega) g.2];exact hq⟩
      ·exact .inr ⟨by omega,g.2⟩
     ·rintro (g|⟨g1,g2,g3⟩)
      ·exact .inl ⟨g.1,by omega⟩
      ·by_cases hn:n<m'
       ·exact .inl ⟨by omega,hn⟩
       ·exact .inr ⟨by omega,g2,g3⟩
   ·have hq:m≤lastR→q m=false:=by
     intro h;simp[h] at hc;exact hc
    constructor
    ·rw[zCV,if_neg hc,if_neg (by omega)]
     refine ⟨fun n=>?_,zSB (by omega) i2⟩
     rw[i1 n]
     constructor
     ·rintro ⟨g1,g2,g3⟩;exact ⟨by omega,g2,g3⟩
     ·rintro ⟨g1,g2,g3⟩
      by_cases hn:n<m'
      ·rw[s2 n g1 hn,hq (by omega)] at g3;cases g3
      ·exact ⟨by omega,g2,g3⟩
    ·intro f hf hfm
     rw[zCV,if_neg hc,if_pos hf]
     refine ⟨fun n=>?_,⟨Int.le_refl _,by simp only;omega,zSB (by simp only;omega) i2⟩⟩
     rw[has_cons,i1 n]
     simp only
     constructor
     ·rintro (g|⟨g1,g2,g3⟩)
      ·exact .inl ⟨g.1,by omega⟩
      ·exact .inr ⟨by omega,g2,g3⟩
     ·rintro (g|⟨g1,g2,g3⟩)
      ·exact .inl ⟨g.1,by omega⟩
      ·by_cases hn:n<m'
       ·rw[s2 n g1 hn,hq (by omega)] at g3;cases g3
       ·exact .inr ⟨by omega,g2,g3⟩
def addF (l:List Int) (n:Int):List Int:=if n∈l then l else l.takeWhile (fun m=>decide (m<n))++n::l.dropWhile (fun m=>decide (m<n))
def endsF (l:List Int) (a:List Rk):List Int:=a.foldl (fun l x=>addF (addF l x.1) (x.2+1)) l
theorem zGR {l:List Int} {n m:Int} (h:m∈l.takeWhile (fun m=>decide (m<n))):m<n:=by
 induction l with
 | nil=>simp at h
 | cons y l ih=>
   by_cases hy:y<n
   ·rw[List.takeWhile_cons_of_pos (by simpa using hy)] at h
    rcases List.mem_cons.1 h with rfl|h
    ·exact hy
    ·exact ih h
   ·rw[List.takeWhile_cons_of_neg (by simpa using hy)] at h;simp at h
theorem zDt {l:List Int} {n m:Int} (hl:l.Pairwise (·<·)) (h:m∈l.dropWhile (fun m=>decide (m<n))):n≤m:=by
 induction l with
 | nil=>simp at h
 | cons y l ih=>
   by_cases hy:y<n
   ·rw[List.dropWhile_cons_of_pos (by simpa using hy)] at h
    exact ih (List.pairwise_cons.1 hl).2 h
   ·rw[List.dropWhile_cons_of_neg (by simpa using hy)] at h
    rcases List.mem_cons.1 h with rfl|h
    ·omega
    ·have:=(List.pairwise_cons.1 hl).1 m h;omega
theorem zMz {l:List Int} {n m:Int}:m∈addF l n↔m=n∨m∈l:=by
 unfold addF
 by_cases h:n∈l
 ·rw[if_pos h]
  constructor
  ·exact .inr
  ·rintro (rfl|g)
   ·exact h
   ·exact g
 ·rw[if_neg h]
  conv=>rhs;rw[←List.takeWhile_append_dropWhile (p:=fun m=>decide (m<n)) (l:=l)]
  simp only[List.mem_append,List.mem_cons]
  constructor
  ·rintro (g|g|g)
   ·exact .inr (.inl g)
   ·exact .inl g
   ·exact .inr (.inr g)
  ·rintro (g|g|g)
   ·exact .inr (.inl g)
   ·exact .inl g
   ·exact .inr (.inr g)
theorem zHK {l:List Int} (hl:l.Pairwise (·<·)) (n:Int):(addF l n).Pairwise (·<·):=by
 unfold addF
 by_cases h:n∈l
 ·rw[if_pos h];exact hl
 ·rw[if_neg h]
  refine List.pairwise_append.2 ⟨hl.sublist (List.takeWhile_sublist _),List.pairwise_cons.2 ⟨?_,hl.sublist (List.dropWhile_sublist _)⟩,?_⟩
  ·intro m hm
   have:=zDt hl hm
   have:m≠n:=fun e=>h (e▸(List.dropWhile_sublist _).subset hm)
   omega
  ·intro m hm m' hm'
   have h1:=zGR hm
   rcases List.mem_cons.1 hm' with rfl|hm'
   ·exact h1
   ·have:=zDt hl hm';omega
theorem zLL {a:List Rk}:∀ {l:List Int} {m:Int},m∈endsF l a↔m∈l∨∃ x∈a,m=x.1∨m=x.2+1:=by
 induction a with
 | nil=>intro l m;simp[endsF]
 | cons x a ih=>
   intro l m
   have e:endsF l (x::a)=endsF (addF (addF l x.1) (x.2+1)) a:=rfl
   rw[e,ih,zMz,zMz]
   constructor
   ·rintro ((g|g|g)|⟨y,hy,g⟩)
    ·exact .inr ⟨x,by simp,.inr g⟩
    ·exact .inr ⟨x,by simp,.inl g⟩
    ·exact .inl g
    ·exact .inr ⟨y,by simp[hy],g⟩
   ·rintro (g|⟨y,hy,g⟩)
    ·exact .inl (.inr (.inr g))
    ·rcases List.mem_cons.1 hy with rfl|hy
     ·rcases g with g|g
      ·exact .inl (.inr (.inl g))
      ·exact .inl (.inl g)
     ·exact .inr ⟨y,hy,g⟩
theorem zGG {a:List Rk}:∀ {l:List Int},l.Pairwise (·<·)→(endsF l a).Pairwise (·<·):=by
 induction a with
 | nil=>intro l h;exact h
 | cons x a ih=>intro l h;exact ih (zHK (zHK h _) _)
theorem zPz {q:Int→Bool}:∀ {L:List Int} {m:Int},(m::L).Pairwise (·<·)→lastR+1∈m::L→(∀ k∈m::L,k≤lastR+1) →
  (∀ k∈m::L,∀ n,k≤n→(∀ k'∈m::L,¬(k<k'∧k'≤n))→q n=q k)→zKU q (m::L):=by
 intro L
 induction L with
 | nil=>
   intro m _ h1 _ _
   rcases List.mem_cons.1 h1 with h|h
   ·exact h.symm
   ·simp at h
 | cons m' L ih=>
   intro m hp h1 h2 h3
   obtain ⟨p1,p2⟩:=List.pairwise_cons.1 hp
   have hlt:=p1 m' (by simp)
   refine ⟨hlt,fun n hn hn'=>h3 m (by simp) n hn ?_,ih p2 ?_ (fun k hk=>h2 k (List.mem_cons_of_mem _ hk)) ?_⟩
   ·intro k' hk' ⟨g1,g2⟩
    rcases List.mem_cons.1 hk' with rfl|hk'
    ·omega
    ·rcases List.mem_cons.1 hk' with rfl|hk'
     ·omega
     ·have:=(List.pairwise_cons.1 p2).1 k' hk';omega
   ·rcases List.mem_cons.1 h1 with h|h
    ·have:=h2 m' (by simp);omega
    ·exact h
   ·intro k hk n hn hno
    refine h3 k (List.mem_cons_of_mem _ hk) n hn ?_
    intro k' hk' ⟨g1,g2⟩
    rcases List.mem_cons.1 hk' with rfl|hk'
    ·have:=p1 k hk;omega
    ·exact hno k' hk' ⟨g1,g2⟩
open Classical in
noncomputable def hasB (l:List Rk) (n:Int):Bool:=decide (Has l n)
open Classical in
theorem zSu {l:List Rk} {n:Int} (h:¬Has l n):hasB l n=false:=by unfold hasB;exact decide_eq_false h
open Classical in
theorem zRJ {l:List Rk} {n:Int}:hasB l n=true↔Has l n:=by unfold hasB;exact decide_eq_true_iff
def wantB (kind:Nat) (x y:Bool):Bool:=if kind=109 then x&&y else if kind=106 then x||y else x&&!y
noncomputable def zMd (kind:Nat) (a b:List Rk):List Rk:=zCV (fun n=>wantB kind (hasB a n) (hasB b n)) (endsF (endsF [0,lastR+1] a) b) (-1)
theorem zIa {a:List Rk} {m n:Int} (hmn:m≤n) (h:∀ x∈a,¬(m<x.1∧x.1≤n)∧¬(m<x.2+1∧x.2+1≤n)):hasB a n=hasB a m:=by
 have this:Has a n↔Has a m:=by
  constructor
  ·rintro ⟨x,hx,g1,g2⟩
   have:=h x hx
   exact ⟨x,hx,by omega,by omega⟩
  ·rintro ⟨x,hx,g1,g2⟩
   have:=h x hx
   exact ⟨x,hx,by omega,by omega⟩
 exact decide_eq_decide.2 this
def In0 (l:List Rk):Prop:=∀ x∈l,0≤x.1∧x.1≤x.2∧x.2≤lastR
theorem zLy (kind:Nat) {a b:List Rk} (ha:In0 a) (hb:In0 b) :
  (∀ n,Has (zMd kind a b) n↔0≤n∧n≤lastR∧wantB kind (hasB a n) (hasB b n)=true)∧Nrm 0 (zMd kind a b):=by
 unfold zMd
 have hmem:∀ m,m∈endsF (endsF [0,lastR+1] a) b↔(m=0∨m=lastR+1)∨(∃ x∈a,m=x.1∨m=x.2+1)∨∃ x∈b,m=x.1∨m=x.2+1:=by
  intro m;rw[zLL,zLL];simp only[List.mem_cons,List.not_mem_nil,or_false,or_assoc]
 have hsort:(endsF (endsF [0,lastR+1] a) b).Pairwise (·<·):=zGG (zGG (by simp[lastR]))
 have hlo:∀ m∈endsF (endsF [0,lastR+1] a) b,0≤m∧m≤lastR+1:=by
  intro m hm
  rcases (hmem m).1 hm with (h|h)|⟨x,hx,h⟩|⟨x,hx,h⟩
  ·unfold lastR;omega
  ·unfold lastR at *;omega
  ·have:=ha x hx;omega
  ·have:=hb x hx;omega
 have h0:(0:Int)∈endsF (endsF [0,lastR+1] a) b:=(hmem 0).2 (.inl (.inl rfl))
 have h9:lastR+1∈endsF (endsF [0,lastR+1] a) b:=(hmem _).2 (.inl (.inr rfl))
 have hst:∀ k∈endsF (endsF [0,lastR+1] a) b,∀ n,k≤n→(∀ k'∈endsF (endsF [0,lastR+1] a) b,¬(k<k'∧k'≤n))→wantB kind (hasB a n) (hasB b n)=wantB kind (hasB a k) (hasB b k):=by
  intro k _ n hn hno
  rw[zIa hn (a:=a) fun x hx=>⟨hno _ ((hmem _).2 (.inr (.inl ⟨x,hx,.inl rfl⟩))),hno _ ((hmem _).2 (.inr (.inl ⟨x,hx,.inr rfl⟩)))⟩,
   zIa hn (a:=b) fun x hx=>⟨hno _ ((hmem _).2 (.inr (.inr ⟨x,hx,.inl rfl⟩))),hno _ ((hmem _).2 (.inr (.inr ⟨x,hx,.inr rfl⟩)))⟩]
 generalize endsF (endsF [0,lastR+1] a) b=L at *
 cases L with
 | nil=>simp at h0
 | cons m L=>
   have hm:m=0:=by
    rcases List.mem_cons.1 h0 with h|h
    ·exact h.symm
    ·have:=(List.pairwise_cons.1 hsort).1 0 h
     have:=(hlo m (by simp)).1
     omega
   subst hm
   exact (zOU L 0 (Int.le_refl _) (zPz (q:=fun n=>wantB kind (hasB a n) (hasB b n)) hsort h9 (fun k hk=>(hlo k hk).2) hst)).1
