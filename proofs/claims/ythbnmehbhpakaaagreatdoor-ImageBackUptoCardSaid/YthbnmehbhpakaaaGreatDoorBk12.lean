/- span.Parse, walked. -/
import Derived.Test.YthbnmehbhpakaaaGreatDoorBk11
import Derived.Test.YthbnmehbhpakaaaGreatDoorBk04
import Derived.Test.YthbnmehbhpakaaaGreatDoorAl
set_option linter.all false
set_option maxHeartbeats 4000000
set_option maxRecDepth 100000
namespace Go.Proofs.YthbnmehbhpakaaaGreatDoor
open Go.Rows Go.RowKit Go.Shelf Go.Sort
attribute [local go_sem] Oper.semAt_some
theorem zNB {l:List Rk} (h:In0 l):Runs (Has l):=by
 obtain ⟨h1,h2⟩:=zLy 106 h (fun x hx=>by simp at hx:In0 [])
 refine ⟨_,h2,fun n=>(h1 n).trans ?_⟩
 have hw:wantB 106 (hasB l n) (hasB [] n)=hasB l n:=by rw[zSu (zF2 n)];simp[wantB]
 rw[hw,zRJ]
 constructor
 ·exact fun h=>h.2.2
 ·rintro ⟨x,hx,q1,q2⟩
  have:=h x hx
  exact ⟨by omega,by omega,x,hx,q1,q2⟩
theorem zP0 {l:List Rk} (h:In0 l):In0 (canon (Has l)):=fun x hx=>by
 have hn:=zLW (zNB h)
 obtain ⟨q1,q2⟩:=zMV hn hx
 obtain ⟨y,hy,_,hy2⟩:=(zKK (zNB h) x.2).1 ⟨x,hx,q2,Int.le_refl _⟩
 have:=h y hy
 omega
theorem zDp {P:Program} (w:World) (ad:Addr) (ty:TypeId) (v:Value) (d:TypeDesc) (hc:w.cell? ad=some v) (hu:P.underlying ty=some d) (hd:(match d with|.struct _|.array _ _=>true|_=>false)=false):(loadVar ty ad).run P w=.ok v w:=by
 have hagg:(isAgg ty).run P w=.ok false w:=by
  unfold isAgg
  rw[Sem.run_bind,run_underlying hu w]
  cases d<;>simp_all
 simp[loadVar,Sem.run_bind,hagg,go_sem,hc]
theorem zDg {P:Program} {fn:Func} {p q:Tmp} {ty ty2:TypeId} (h:fn.results=#[.cell p ty,.cell q ty2]) (tmps:Array Value) (w:World) (g g2:Nat) (d d2:TypeDesc) (v v2:Value)
  (hp:tmps.getD p undef=.pointer (some ⟨g,0,none⟩)) (hq:tmps.getD q undef=.pointer (some ⟨g2,0,none⟩)) (hg:w.cell? ⟨g,0,none⟩=some v) (hg2:w.cell? ⟨g2,0,none⟩=some v2)
  (hu:P.underlying ty=some d) (hd:(match d with|.struct _|.array _ _=>true|_=>false)=false) (hu2:P.underlying ty2=some d2) (hd2:(match d2 with|.struct _|.array _ _=>true|_=>false)=false) :
  (results fn tmps).run P w=.ok (.tuple #[v,v2]) w:=by
 have hp':tmps[p]?.getD undef=.pointer (some ⟨g,0,none⟩):=by simpa using hp
 have hq':tmps[q]?.getD undef=.pointer (some ⟨g2,0,none⟩):=by simpa using hq
 simp[results,h,hp',hq',asAddr,zDp w ⟨g,0,none⟩ ty v d hg hu hd,zDp w ⟨g2,0,none⟩ ty2 v2 d2 hg2 hu2 hd2]
theorem Turn.setAt {X:Nat→Prop} (W:World) {b:Nat} (hb:X b) (o:Nat) (v:Value):Turn X W (W.setCell ⟨b,o,none⟩ v):=by
 refine ⟨rfl,rfl,rfl,by simp[World.setCell],fun i hi hx=>?_⟩
 have hne:b≠i:=fun e=>hx (e▸hb)
 show (W.heap.modify b _)[i]?=_
 rw[Array.getElem?_modify,if_neg hne]
theorem zLt {W:World} {a b:Nat} {ta tb:TypeId} {va vb:Value} (h1:Boxed W a ta va) (h2:Boxed W b tb vb) (hne:a≠b) (x y:Value) :
  Boxed ((W.setCell ⟨a,0,none⟩ x).setCell ⟨b,0,none⟩ y) a ta x∧Boxed ((W.setCell ⟨a,0,none⟩ x).setCell ⟨b,0,none⟩ y) b tb y∧Turn (fun j=>j=a∨j=b) W ((W.setCell ⟨a,0,none⟩ x).setCell ⟨b,0,none⟩ y):=
 ⟨(h1.set x).other hne y,(h2.other (Ne.symm hne) x).set y,(Turn.set (X:=fun j=>j=a∨j=b) _ (.inl rfl) _).trans (Turn.set (X:=fun j=>j=a∨j=b) _ (.inr rfl) _)⟩
theorem zEm (t:ByteArray) (w:World) (hv:Vok w) (hs:t.size≤4611686018427387904) :
  Calls Tryz.prog 95 #[.string t] w fun e w'=>∃ v,e=.returned (.tuple #[v,.int .i64 (zBM t).2])∧Own rSpn w' w.heap.size 227 v (zBM t).1 (fun _=>False)∧Below w.heap.size w w':=by
 by_cases hbig:4096<t.size
 ·have Hq:Hid (zBM t=([],21)):=by unfold Hid zBM zFT;rw[if_pos hbig]
  have hbigI:(4096:Int)<(t.size:Int):=by omega
  go_enter Tryz.func95,Tryz.ntmps95
  go_wp2_with fail
  refine bodyPost_ret (zDg rfl _ _ w.heap.size (w.heap.size+1) _ _ (.slice none 0 0) (.int .i64 21) rfl rfl ?_ ?_ Tryz.underlying156 rfl Tryz.underlying34 rfl) rfl ?_
  ·simp[go_sem]
  ·simp[go_sem]
  ·rw[Hq.out]
   exact ⟨_,rfl,Own.nil_ _ _ _ _ (fun b hb=>hb.elim),bal (bal (bR _ _) _) _⟩
 ·have Hq:Hid (zFT t=altsF (spl t barsB)):=by unfold Hid zFT;rw[if_neg hbig]
  have hbigI:¬(4096:Int)<(t.size:Int):=by omega
  obtain ⟨m,hm⟩:=hv.maxLen
  have Hv:=cH hv
  have hmb:=zAE hm
  have Hsp:=cH (fun W=>zGL t barsB W)
  unfold barsB at Hsp
  refine (callsIn_wide (n:=9)).1 ?_
  refine callsIn_of_wp_marks Tryz.func95 rfl trivial ?_ rfl
  simp only[Tryz.ntmps95,List.size_toArray,List.length_cons,List.length_nil,Nat.reduceAdd,Nat.reduceSub,Array.replicate_succ,Array.replicate_zero,List.push_toArray,List.append_toArray,List.nil_append,List.cons_append]
  gi_wp2
  obtain ⟨W1,hW1⟩:∃ W1,W1=((w.alloc (.cells #[.slice none 0 0] 156)).alloc (.cells #[.int .i64 0] 34)).alloc (.cells #[.slice none 0 0] 206):=⟨_,rfl⟩
  have hB1:Below w.heap.size w W1:=by rw[hW1];exact bal (bal (bal (bR _ _) _) _) _
  have hz1:W1.heap.size=w.heap.size+3:=by rw[hW1];simp
  have b2:Boxed W1 w.heap.size 156 (.slice none 0 0):=by rw[hW1];exact ((Boxed.new w _ _).alloc _).alloc _
  have b3:Boxed W1 (w.heap.size+1) 34 (.int .i64 0):=by rw[hW1];exact (show Boxed _ (w.heap.size+1) _ _ from (by simpa using Boxed.new (w.alloc (.cells #[.slice none 0 0] 156)) 34 (.int .i64 0))).alloc _
  have b4:Boxed W1 (w.heap.size+2) 206 (.slice none 0 0):=by rw[hW1];exact (by simpa using Boxed.new ((w.alloc (.cells #[.slice none 0 0] 156)).alloc (.cells #[.int .i64 0] 34)) 206 (.slice none 0 0))
  rw[←hW1]
  clear hW1
  refine ⟨trivial,(callsIn_wide.2 (Hsp.out _)).mono ?_⟩
  rintro e W0 ⟨rfl,hW0⟩
  obtain ⟨B,hB⟩:∃ B,B=W1.heap.size:=⟨_,rfl⟩
  rw[←hB]
  have hB0:Below w.heap.size w W0:=by rw[hW0];exact bal (bal (bal hB1 _) _) _
  have hz0:W0.heap.size=w.heap.size+6:=by rw[hW0];simp[hz1]
  have c2:Boxed W0 w.heap.size 156 (.slice none 0 0):=by rw[hW0];exact ((b2.alloc _).alloc _).alloc _
  have c3:Boxed W0 (w.heap.size+1) 34 (.int .i64 0):=by rw[hW0];exact ((b3.alloc _).alloc _).alloc _
  have c4:Boxed W0 (w.heap.size+2) 206 (.slice none 0 0):=by rw[hW0];exact ((b4.alloc _).alloc _).alloc _
  have d1:Boxed W0 B 9 (.string t):=by rw[hW0,hB];exact ((Boxed.new _ _ _).alloc _).alloc _
  have d2:Boxed W0 (B+1) 9 (.string barsB):=by rw[hW0,hB];exact (show Boxed _ (W1.heap.size+1) _ _ from (by simpa [barsB] using Boxed.new (W1.alloc (.cells #[.string t] 9)) 9 (.string ⟨#[124,124]⟩))).alloc _
  have d3:Boxed W0 (B+2) 3 (.int .i64 0):=by rw[hW0,hB];exact (by simpa using Boxed.new ((W1.alloc (.cells #[.string t] 9)).alloc (.cells #[.string ⟨#[124,124]⟩] 9)) 3 (.int .i64 0))
  have hm0:W0.cell? ⟨0,0,none⟩=some (.int .i64 m):=zAA hB0 hm hmb
  have hBz:B=w.heap.size+3:=by rw[hB,hz1]
  have hg0:0<w.heap.size:=hmb
  have hseq:=zEA 8 (by omega) B (B+1) (B+2) t barsB m W0 (by decide) (by decide) (by omega) hm0 d1 d2 d3 ⟨by omega,by omega,by omega⟩
  clear hW0 b2 b3 b4 hB d1 d2 d3 Hsp
  obtain ⟨L,hL⟩:∃ L,L=spl t barsB:=⟨_,rfl⟩
  rw[←hL] at hseq Hq
  have hLl:L.length≤4097:=by rw[hL];have:=zOt barsB t.size t;unfold spl;omega
  have hLs:∀ x∈L,x.size≤4096:=fun x hx=>by rw[hL] at hx;have:=zGi barsB _ _ _ hx;omega
  clear hL
  subst hBz
  gi_wp2
  refine zG2 (X:=fun j=>j=w.heap.size∨j=w.heap.size+1∨j=w.heap.size+2) rfl (by omega) (gf:=257) (lb:=#[.pointer (some ⟨w.heap.size+3+1,0,none⟩),.pointer (some ⟨w.heap.size+3,0,none⟩),.pointer (some ⟨w.heap.size+3+2,0,none⟩)]) rfl trivial (zA9 Tryz.func257 (by kernel_rfl) rfl)
   hseq (fun j h=>.inl h) rfl (fun j hj=>⟨rfl,by omega⟩) (fun k hk=>by omega) (fun j hj=>by omega)
   (fun k W=>∃ v all,(L.take k).foldl stepA (some [])=some all∧Boxed W w.heap.size 156 (.slice none 0 0)∧Boxed W (w.heap.size+1) 34 (.int .i64 0)∧Boxed W (w.heap.size+2) 206 v∧Own rRnk W (w.heap.size+6) 211 v all (fun _=>False)∧Below w.heap.size w W)
   (fun W=>L.foldl stepA (some [])=none∧Boxed W w.heap.size 156 (.slice none 0 0)∧Boxed W (w.heap.size+1) 34 (.int .i64 21)∧Below w.heap.size w W)
   ?hI ?hIx ⟨_,_,rfl,c2,c3,c4,Own.nil_ _ _ _ _ (fun b hb=>hb.elim),hB0⟩ ?round ?done ?stop
  case hI=>
   rintro k P Q ⟨v,all,h0,h1,h2,h3,h4,h5⟩ t
   have hnb:∀ {b:Nat} {ty:TypeId} {x:Value},Boxed P b ty x→b<w.heap.size+3→¬NC (fun j=>j=w.heap.size+3) W0.heap.size P b:=by
    intro b ty x hb hlt
    rintro (e|⟨e,_⟩)
    ·omega
    ·omega
   refine ⟨v,all,h0,t.box h1 (hnb h1 (by omega)),t.box h2 (hnb h2 (by omega)),t.box h3 (hnb h3 (by omega)),h4.turn t (fun g hg=>?_) (fun b hb=>hb.elim),h5.trans (t.below h5.size ?_)⟩
   ·obtain ⟨q1,q2⟩:=h4.cells hg
    rintro (e|e)
    ·omega
    ·exact q2 e.2
   ·rintro k (e|e)
    ·omega
    ·omega
  case hIx=>
   rintro P Q ⟨h0,h1,h2,h5⟩ t
   have hnb:∀ {b:Nat} {ty:TypeId} {x:Value},Boxed P b ty x→b<w.heap.size+3→¬NC (fun j=>j=w.heap.size+3) W0.heap.size P b:=by
    intro b ty x hb hlt
    rintro (e|⟨e,_⟩)
    ·omega
    ·omega
   refine ⟨h0,t.box h1 (hnb h1 (by omega)),t.box h2 (hnb h2 (by omega)),h5.trans (t.below h5.size ?_)⟩
   rintro k (e|e)
   ·omega
   ·omega
  case stop=>
   rintro D W hD ⟨h0,h1,h2,h5⟩ hK
   gi_wp2
   refine ⟨by simp,.inl ⟨_,_,rfl,run_takeDeferred hK,?_⟩⟩
   have tD:Turn (fun j=>j=D) W (W.putObj D (.deferred none)):=Turn.put W (X:=fun j=>j=D) (show D=D from rfl) _
   have g1:=tD.box h1 (by show ¬w.heap.size=D;omega)
   have g2:=tD.box h2 (by show ¬w.heap.size+1=D;omega)
   have hq:zBM t=([],21):=by unfold zBM;rw[show zFT t=none from Hq.out.trans h0]
   rw[hq]
   exact ⟨_,zDg rfl _ _ w.heap.size (w.heap.size+1) _ _ _ _ rfl rfl g1.cell g2.cell Tryz.underlying156 rfl Tryz.underlying34 rfl,_,rfl,Own.nil_ _ _ _ _ (fun b hb=>hb.elim),h5.trans (tD.below h5.size fun j hj=>by omega)⟩
  case done=>
   rintro D W hD ⟨v,all,h0,h1,h2,h3,h4,h5⟩ hK
   rw[List.take_length] at h0
   have cv:=h3.cell
   have hz:=h5.size
   obtain ⟨hin,hal⟩:=zJ8 L h0
   obtain ⟨A,c,rfl,_,_⟩:=h4.slv.val
   have hDW:=(aS.1 hK).1
   have hsl:SlV rRnk W (fun b=>b<W.heap.size) all (.slice A all.length c):=h4.slv.more fun b _ h=>h
   have Hj:=cH (zK1 A all.length c all W hsl hin (by omega))
   have hci:=zP0 hin
   have hq:zBM t=fitR (canon (Has all)):=by unfold zBM;rw[show zFT t=some all from Hq.out.trans h0]
   have Hq2:=cH hq
   have Hci:=cH hci
   clear hsl hin hal hci hq h0 Hq
   generalize all.length=al at *
   gi_wp2
   refine ⟨trivial,(callsIn_wide.2 Hj.out).mono ?_⟩
   rintro e W2 ⟨v2,rfl,hv2,hb2⟩
   obtain ⟨A2,c2,hv2e,_,_⟩:=hv2.val
   have Hf:=cH (zRw A2 _ c2 (canon (Has all)) W2 _ (fun x hx=>by have:=Hci.out x hx;unfold lastR at this;omega) (hv2e▸hv2))
   rw[←hv2e] at Hf
   rw[←Hq2.out] at Hf
   obtain ⟨q2,hq2⟩:∃ q2,q2=(zBM t).2:=⟨_,rfl⟩
   obtain ⟨ql,hql⟩:∃ ql,ql=(zBM t).1:=⟨_,rfl⟩
   rw[←hq2,←hql] at Hf
   have Hq2':=cH hq2
   have Hql:=cH hql
   clear hv2 hv2e Hq2 Hci Hj hq2 hql
   gi_wp2
   refine ⟨trivial,(callsIn_wide.2 Hf.out).mono ?_⟩
   rintro e W3 ⟨v3,rfl,hv3,hb3⟩
   have hb23:Below W.heap.size W W3:=hb2.trans (hb3.mono hb2.size)
   obtain ⟨A3,c3',rfl,_,_⟩:=hv3.slvB.val
   have tW:Turn (fun _=>False) W W3:=Turn.of_below hb23
   have g1:=tW.box h1 (fun e=>e)
   have g2:=tW.box h2 (fun e=>e)
   have gK:=tW.at hK (fun e=>e)
   have cg1:=g1.cell
   have cg2:=g2.cell
   have fg1:=g1.frozen
   have fg2:=g2.frozen
   have hz2:=hb2.size
   have hz3:=hb23.size
   have hb03:Below w.heap.size w W3:=h5.trans (hb23.mono hz)
   generalize hqn:ql.length=qn at *
   have Hqn:=cH hqn
   clear hqn
   gi_wp2
   obtain ⟨s1,s2,tS⟩:=zLt g1 g2 (by omega) (.slice A3 qn c3') (.int .i64 q2)
   generalize (W3.setCell ⟨w.heap.size,0,none⟩ (.slice A3 qn c3')).setCell ⟨w.heap.size+1,0,none⟩ (.int .i64 q2)=W4 at *
   have gK':=tS.at gK (by show ¬(D=w.heap.size∨D=w.heap.size+1);omega)
   refine ⟨by simp,.inl ⟨_,_,rfl,run_takeDeferred gK',?_⟩⟩
   have tD:Turn (fun j=>j=D) W4 (W4.putObj D (.deferred none)):=Turn.put W4 (X:=fun j=>j=D) (show D=D from rfl) _
   have s1':=tD.box s1 (by show ¬w.heap.size=D;omega)
   have s2':=tD.box s2 (by show ¬w.heap.size+1=D;omega)
   have tE:Turn (fun j=>j=w.heap.size∨j=w.heap.size+1∨j=D) W3 (W4.putObj D (.deferred none)):=(tS.mono fun j _ e=>by omega).trans (tD.mono fun j _ e=>by omega)
   rw[←Hq2'.out,←Hql.out]
   refine ⟨_,zDg rfl _ _ w.heap.size (w.heap.size+1) _ _ _ _ rfl rfl s1'.cell s2'.cell Tryz.underlying156 rfl Tryz.underlying34 rfl,_,rfl,?_,hb03.trans (tE.below (by omega) fun j hj=>by omega)⟩
   exact (hv3.turn tE (fun g hg=>by have:=(hv3.lt g hg).1;omega) (fun b hb=>hb.elim)).lower (by omega)
  case round=>
   rintro lp r k hk W hlo hlp ⟨v,all,h0,h1,h2,h3,h4,h5⟩
   have hlW:=(aS.1 hlp).1
   unfold encS
   have hx:=hLs _ (List.getElem_mem hk)
   have hsnoc:=zLO (f:=stepA) (s:=some []) hk
   generalize L[k]=x at *
   gi_wp2
   refine ⟨Turn.refl _ _,fun V tV hrV=>?_⟩
   have b1:=tV.box h1 (by show ¬w.heap.size=lp;omega)
   have b2:=tV.box h2 (by show ¬w.heap.size+1=lp;omega)
   have b3:=tV.box h3 (by show ¬w.heap.size+2=lp;omega)
   have hbV:Below w.heap.size w V:=h5.trans (tV.below h5.size fun j hj=>by omega)
   have hVz:=hbV.size
   have hlV:lp<V.heap.size:=lL hlW tV.size
   obtain ⟨rV,hrV⟩:=hrV
   have Hsp:=cH (fun W=>zGL x zCr W)
   unfold zCr at Hsp
   gi_wp2
   obtain ⟨V1,hV1⟩:∃ V1,V1=(V.alloc (.cells #[.int .i64 0,.int .i64 999999999] 211)).alloc (.cells #[.bool false] 4):=⟨_,rfl⟩
   have hz1':V1.heap.size=V.heap.size+2:=by rw[hV1];simp
   have tV1:Turn (fun _=>False) V V1:=by rw[hV1];exact (Turn.alloc _ _).trans (Turn.alloc _ _)
   have r6:V1.heap[V.heap.size]?=some (.cells #[.int .i64 0,.int .i64 999999999] 211 (0,0)):=by rw[hV1];exact (Turn.alloc (X:=fun _=>False) _ _).at (World.alloc_heap_new _ _) (fun e=>e)
   have r7:Boxed V1 (V.heap.size+1) 4 (.bool false):=by rw[hV1];exact (by simpa using Boxed.new (V.alloc (.cells #[.int .i64 0,.int .i64 999999999] 211)) 4 (.bool false))
   rw[←hV1]
   clear hV1
   refine ⟨trivial,(CallsIn.inRound lp (callsIn_wide.2 (Hsp.out _))).mono ?_⟩
   rintro e V0 ⟨rfl,hV0⟩
   have tV0:Turn (fun _=>False) V1 V0:=by rw[hV0];exact ((Turn.alloc _ _).trans (Turn.alloc _ _)).trans (Turn.alloc _ _)
   have hzV0:V0.heap.size=V.heap.size+5:=by rw[hV0];simp[hz1']
   have e1:Boxed V0 (V.heap.size+2) 9 (.string x):=by rw[hV0,←hz1'];exact ((Boxed.new _ _ _).alloc _).alloc _
   have e2:Boxed V0 (V.heap.size+2+1) 9 (.string zCr):=by rw[hV0,←hz1'];exact (show Boxed _ (V1.heap.size+1) _ _ from (by simpa [zCr] using Boxed.new (V1.alloc (.cells #[.string x] 9)) 9 (.string ⟨#[32]⟩))).alloc _
   have e3:Boxed V0 (V.heap.size+2+2) 3 (.int .i64 0):=by rw[hV0,←hz1'];exact (by simpa using Boxed.new ((V1.alloc (.cells #[.string x] 9)).alloc (.cells #[.string ⟨#[32]⟩] 9)) 3 (.int .i64 0))
   rw[hz1']
   have tVV:Turn (fun _=>False) V V0:=tV1.trans tV0
   have hbV0:Below w.heap.size w V0:=hbV.trans (tVV.below hVz fun j hj=>hj.elim)
   have hmV:V0.cell? ⟨0,0,none⟩=some (.int .i64 m):=zAA hbV0 hm hmb
   have hseq2:=zEA 6 (by omega) (V.heap.size+2) (V.heap.size+2+1) (V.heap.size+2+2) x zCr m V0 (by decide) (by decide) (by omega) hmV e1 e2 e3 ⟨by omega,by omega,by omega⟩
   have r6':=tV0.at r6 (fun e=>e)
   have r7':=tV0.box r7 (fun e=>e)
   have hl0:=tVV.at hrV (fun e=>e)
   have b1':=tVV.box b1 (fun e=>e)
   have b2':=tVV.box b2 (fun e=>e)
   obtain ⟨M,hM⟩:∃ M,M=spl x zCr:=⟨_,rfl⟩
   rw[←hM] at hseq2
   have HM:=cH hM
   have hMs:∀ y∈M,y.size≤4096:=fun y hy=>by rw[hM] at hy;have:=zGi zCr _ _ _ hy;omega
   clear hV0 r6 r7 e1 e2 e3 Hsp tV0 tV1 hM
   gi_wp2
   refine zMX (X:=fun j=>j=V.heap.size∨j=V.heap.size+1∨j=w.heap.size∨j=w.heap.size+1) (F:=Fence.wide.inRound lp) rfl hl0 (by omega) (gf:=257) (lb:=#[.pointer (some ⟨V.heap.size+2+1,0,none⟩),.pointer (some ⟨V.heap.size+2,0,none⟩),.pointer (some ⟨V.heap.size+2+2,0,none⟩)]) rfl trivial (zA9 Tryz.func257 (by kernel_rfl) rfl)
    hseq2 (fun j h=>.inl h) rfl (fun j hj=>⟨rfl,by omega⟩) (fun k hk=>by omega) (fun j hj=>by omega)
    (fun j U=>Hid (∃ o b,(M.take j).foldl stepW (some ((0,lastR),false))=some (o,b)∧U.heap[V.heap.size]?=some (.cells #[.int .i64 o.1,.int .i64 o.2] 211 (0,0))∧Boxed U (V.heap.size+1) 4 (.bool b)∧Turn (fun _=>False) V U))
    (fun U=>M.foldl stepW (some ((0,lastR),false))=none∧Boxed U w.heap.size 156 (.slice none 0 0)∧Boxed U (w.heap.size+1) 34 (.int .i64 21)∧Turn (fun j=>j=w.heap.size∨j=w.heap.size+1) V U)
    ?hI ?hIx ⟨_,_,rfl,r6',r7',tVV⟩ ?round ?done ?stop
   case hI=>
    rintro j P Q ⟨o,b,g0,g1,g2,g3⟩ t
    refine ⟨o,b,g0,t.at g1 ?_,t.box g2 ?_,g3.trans2 t fun j hj e=>?_⟩
    ·rintro (e|⟨e,_⟩)<;>omega
    ·rintro (e|⟨e,_⟩)<;>omega
    ·rcases e with e|⟨e,_⟩<;>omega
   case hIx=>
    rintro P Q ⟨g0,g1,g2,g3⟩ t
    refine ⟨g0,t.box g1 ?_,t.box g2 ?_,g3.trans2 t fun j hj e=>?_⟩
    ·rintro (e|⟨e,_⟩)<;>omega
    ·rintro (e|⟨e,_⟩)<;>omega
    ·rcases e with e|⟨e,_⟩<;>omega
   case stop=>
    rintro U ⟨g0,g1,g2,g3⟩
    gi_wp2
    refine ⟨g3.mono fun j _ e=>.inl (by omega),?_,g1,g2,hbV.trans (g3.below hVz fun j hj=>by omega)⟩
    refine zHe zEW (k:=k+1) ?_
    rw[hsnoc,h0]
    have hi:innF (spl x zCr)=none:=by unfold innF;rw[←HM.out];exact g0
    unfold stepA
    simp only[hi]
   case done=>
    rintro U ⟨o,b,g0,g1,g2,g3⟩
    rw[List.take_length] at g0
    have hi:innF (spl x zCr)=some (o,b):=by unfold innF;rw[←HM.out];exact g0
    obtain ⟨⟨p0,p1⟩,f0,f1⟩:=row2 g1
    have p2:=g2.cell
    have k1:=g3.box b1 (fun e=>e)
    have k2:=g3.box b2 (fun e=>e)
    have k3:=g3.box b3 (fun e=>e)
    have k1c:=k1.cell
    have k2c:=k2.cell
    have k3c:=k3.cell
    have k1f:=k1.frozen
    have k2f:=k2.frozen
    have k3f:=k3.frozen
    have hbU:Below w.heap.size w U:=hbV.trans (g3.below hVz fun j hj=>hj.elim)
    have hi2:=zGj _ hi
    have hq:(L.take (k+1)).foldl stepA (some [])=if b=false then none else if o.1≤o.2 then some (all++[o]) else some all:=by
     rw[hsnoc,h0];unfold stepA;simp only[hi]
    have Hq3:=cH hq
    clear hq hi g0 hsnoc
    cases b with
    | false=>
      gi_wp2
      obtain ⟨s1,s2,tS⟩:=zLt k1 k2 (by omega) (.slice none 0 0) (.int .i64 21)
      refine ⟨(g3.mono fun j _ e=>e.elim).trans (tS.mono fun j _ e=>.inl (by omega)),zHe zEW (k:=k+1) Hq3.out,s1,s2,hbU.trans (tS.below hbU.size fun j hj=>by omega)⟩
    | true=>
      rw[if_neg (by simp)] at Hq3
      have h4U:Own rRnk U (w.heap.size+6) 211 v all (fun _=>False):=(h4.turn tV (fun g hg e=>(h4.cells hg).2 (by rw[e];exact ⟨_,hlp,rfl⟩)) (fun b hb=>hb.elim)).turn g3 (fun _ _ e=>e) (fun b hb=>hb.elim)
      by_cases hle:o.1≤o.2
      ·rw[if_pos hle] at Hq3
       have hal:all.length≤k:=by
        have:=(zJ8 (L.take k) h0).2
        rw[List.length_take] at this;omega
       have hkL:k<4097:=by omega
       obtain ⟨o1,o2⟩:=o
       simp only at p0 p1 hle hi2 Hq3
       unfold lastR at hi2
       have hUz:w.heap.size+6≤U.heap.size:=by have:=(aS.1 g1).1;omega
       gi_wp2_with (gi_at_builtin;go_loud (refine zEe (by rfl) _ _ _ (by rfl) zGg Tryz.underlying206 (by rfl) (h4U.alloc _) ⟨U.heap.size,0,none⟩ 1 [.int .i64 o1,.int .i64 o2] (o1,o2) (by rfl) ⟨rfl,by unfold I64;omega,by unfold I64;omega⟩ (zAz U #[.int .i64 o1,.int .i64 o2] _) (by unfold maxLen;omega) (by omega) (by simp;omega) ?_))
       intro g cap V2 own2 hgrow hlt2
       have hne2:some (w.heap.size+2)≠v.ownBlock:=fun e=>by have:=(h4U.lt _ e.symm).1;omega
       have hnea:some w.heap.size≠v.ownBlock:=fun e=>by have:=(h4U.lt _ e.symm).1;omega
       have hneb:some (w.heap.size+1)≠v.ownBlock:=fun e=>by have:=(h4U.lt _ e.symm).1;omega
       have m1:Boxed V2 w.heap.size 156 (.slice none 0 0):=(k1.alloc _).kept hgrow hnea
       have m2:Boxed V2 (w.heap.size+1) 34 (.int .i64 0):=(k2.alloc _).kept hgrow hneb
       have m3:Boxed V2 (w.heap.size+2) 206 v:=(k3.alloc _).kept hgrow hne2
       have cv2:=m3.cell
       have fv2:=m3.frozen
       gi_wp2
       have hg1:=own2.lt g rfl
       have tG:Turn (Free (fun _=>False) (w.heap.size+6) U) U V2:=(Turn.alloc U _).trans2 (Turn.grown (X:=fun j=>v.ownBlock=some j) hgrow (fun j e=>e)) fun j hj e=>by
        obtain ⟨q1,q2⟩:=h4U.cells e
        refine .inr ⟨by omega,?_⟩
        obtain ⟨ob,ho⟩:∃ ob,U.heap[j]?=some ob:=⟨_,Array.getElem?_eq_getElem hj⟩
        refine ⟨ob,ho,?_⟩
        cases hc:ob.isCells with
        | true=>rfl
        | false=>exact absurd ⟨ob,ho,hc⟩ q2
       have tS:Turn (fun j=>j=w.heap.size+2) V2 (V2.setCell ⟨w.heap.size+2,0,none⟩ (.slice (some ⟨g,0,none⟩) (all.length+1) cap)):=Turn.set (X:=fun j=>j=w.heap.size+2) _ rfl _
       have tZ:Turn (Free (fun j=>j=w.heap.size∨j=w.heap.size+1∨j=w.heap.size+2) W0.heap.size V) V (V2.setCell ⟨w.heap.size+2,0,none⟩ (.slice (some ⟨g,0,none⟩) (all.length+1) cap)):=by
        refine Turn.trans2 (Turn.trans2 (g3.mono fun j _ e=>e.elim) tG fun j hj e=>?_) tS fun j _ e=>.inl (by omega)
        rcases e with e|⟨e,ob,ho,hc⟩
        ·exact e.elim
        ·exact .inr ⟨by omega,ob,by rw[←g3.block j hj (fun e=>e)];exact ho,hc⟩
       refine ⟨tZ,_,_,Hq3.out,m1.other (by omega) _,m2.other (by omega) _,m3.set _,own2.turn tS (fun g' hg' e=>by simp[Value.ownBlock] at hg';omega) (fun b hb=>hb.elim),?_⟩
       refine hbV.trans (tZ.below hVz fun j e=>?_)
       rcases e with e|⟨e,_⟩
       ·omega
       ·omega
      ·rw[if_neg hle] at Hq3
       gi_wp2
       exact ⟨g3.mono fun j _ e=>e.elim,v,all,Hq3.out,k1,k2,k3,h4U,hbU⟩
   case round=>
    rintro l2 r2 j hj U hlo2 hlp2 ⟨o,b,g0,g1,g2,g3⟩
    unfold encS
    have hy:=hMs _ (List.getElem_mem hj)
    have hsn2:=zLO (f:=stepW) (s:=some ((0,lastR),false)) hj
    generalize M[j]=y at *
    gi_wp2
    refine ⟨Turn.refl _ _,fun U1 tU hrU=>?_⟩
    have hl2U:=(aS.1 hlp2).1
    rw[g0] at hsn2
    have q1:=tU.at g1 (by show ¬V.heap.size=l2;omega)
    have q2:=tU.box g2 (by show ¬V.heap.size+1=l2;omega)
    have q3:Turn (fun _=>False) V U1:=g3.trans2 tU fun j' hj' e=>by omega
    by_cases hye:y=⟨#[]⟩
    ·have hb:(y.toList==[])=true:=by rw[hye,Go.ByteArray.toList_eq];rfl
     have Hst:Hid ((M.take (j+1)).foldl stepW (some ((0,lastR),false))=some (o,b)):=by unfold Hid;rw[hsn2];unfold stepW;simp only[if_pos hye]
     clear hsn2 hye
     gi_wp2
     exact ⟨Turn.refl _ _,o,b,Hst.out,q1,q2,q3⟩
    ·have hb:(y.toList==[])=false:=by rw[beq_eq_false_iff_ne];intro e;exact hye (zBF (by rw[Go.ByteArray.toList_eq] at e;exact e))
     have hbU1:Below w.heap.size w U1:=hbV.trans (q3.below hVz fun j hj=>hj.elim)
     have Hwd:=cH (zRg y U1 (Hv.out.below hbU1) (by omega))
     have HstN:Hid (wordF y=none→(M.take (j+1)).foldl stepW (some ((0,lastR),false))=none):=fun h=>by rw[hsn2];unfold stepW;simp only[if_neg hye,h]
     have HstS:Hid (∀ z,wordF y=some z→(M.take (j+1)).foldl stepW (some ((0,lastR),false))=some ((max o.1 z.1,min o.2 z.2),true)):=fun z h=>by rw[hsn2];unfold stepW;simp only[if_neg hye,h]
     have Hwb:Hid (∀ x,wordF y=some x→(0≤x.1∧x.1≤1000000000)∧-1≤x.2∧x.2≤lastR):=fun x h=>zF7 h
     clear hsn2 hye
     cases hw:wordF y with
     | none=>
       rw[hw] at Hwd
       have Hst:=cH (HstN.out hw)
       clear HstN HstS Hwb
       gi_wp2
       refine ⟨trivial,(CallsIn.inRound l2 (callsIn_wide.2 Hwd.out)).mono ?_⟩
       rintro e U2 ⟨rfl,hbu2⟩
       have tU2:Turn (fun _=>False) U1 U2:=Turn.of_below hbu2
       have k1:=(q3.trans tU2).box b1 (fun e=>e)
       have k2:=(q3.trans tU2).box b2 (fun e=>e)
       have hzu:=hbU1.size
       have hzu2:=tU2.size
       have hzu3:w.heap.size+1<U2.heap.size:=k2.lt
       simp only[Option.getD_none,Option.isSome_none,rkV]
       have k1c:=k1.cell
       have k2c:=k2.cell
       have k1f:=k1.frozen
       have k2f:=k2.frozen
       have k1c':=(k1.alloc (.cells #[.int .i64 0,.int .i64 0] 211)).cell
       have k2c':=(k2.alloc (.cells #[.int .i64 0,.int .i64 0] 211)).cell
       have k1f':=(k1.alloc (.cells #[.int .i64 0,.int .i64 0] 211)).frozen
       have k2f':=(k2.alloc (.cells #[.int .i64 0,.int .i64 0] 211)).frozen
       have hzu4:w.heap.size<U2.heap.size:=k1.lt
       have kk1:=k1.alloc (.cells #[.int .i64 0,.int .i64 0] 211)
       have kk2:=k2.alloc (.cells #[.int .i64 0,.int .i64 0] 211)
       have tU3:Turn (fun _=>False) U1 (U2.alloc (.cells #[.int .i64 0,.int .i64 0] 211)):=tU2.trans (Turn.alloc _ _)
       gi_wp2
       obtain ⟨s1,s2,tS⟩:=zLt k1 k2 (by omega) (.slice none 0 0) (.int .i64 21)
       refine ⟨((tU2.mono fun j _ e=>e.elim).trans (tS.mono fun j _ e=>.inl (by omega))).trans (Turn.alloc _ _),zHe zIs (k:=j+1) Hst.out,s1.alloc _,s2.alloc _,(((q3.trans tU2).mono fun j _ e=>e.elim).trans tS).trans (Turn.alloc _ _)⟩
     | some z=>
       rw[hw] at Hwd
       have Hst:=cH (HstS.out z hw)
       have hzb:=Hwb.out z hw
       clear HstN HstS Hwb
       gi_wp2
       refine ⟨trivial,(CallsIn.inRound l2 (callsIn_wide.2 Hwd.out)).mono ?_⟩
       rintro e U2 ⟨rfl,hbu2⟩
       have tU2:Turn (fun _=>False) U1 U2:=Turn.of_below hbu2
       have k1:=tU2.at q1 (fun e=>e)
       have k2:=tU2.box q2 (fun e=>e)
       simp only[Option.getD_some,Option.isSome_some,rkV]
       obtain ⟨o1,o2⟩:=o
       obtain ⟨z1,z2⟩:=z
       simp only at k1 hzb Hst
       have hzu3:V.heap.size+1<U2.heap.size:=k2.lt
       have hzu4:V.heap.size<U2.heap.size:=by omega
       have tA:Turn (fun _=>False) U2 (U2.alloc (.cells #[.int .i64 z1,.int .i64 z2] 211)):=Turn.alloc _ _
       have kk1:=tA.at k1 (fun e=>e)
       have kk2:=tA.box k2 (fun e=>e)
       have kn:(U2.alloc (.cells #[.int .i64 z1,.int .i64 z2] 211)).heap[U2.heap.size]?=some (.cells #[.int .i64 z1,.int .i64 z2] 211 (0,0)):=World.alloc_heap_new _ _
       obtain ⟨⟨p0,p1⟩,f0,f1⟩:=row2 k1
       obtain ⟨⟨p0',p1'⟩,f0',f1'⟩:=row2 kk1
       obtain ⟨⟨pn0,pn1⟩,_⟩:=row2 kn
       have p2:=k2.cell
       have p2f:=k2.frozen
       have p2':=kk2.cell
       have p2f':=kk2.frozen
       have hmx:=zSG o1 z1
       have hmn:=zTM o2 z2
       gi_wp2
       have tS:Turn (fun j=>j=V.heap.size∨j=V.heap.size+1) U2 (((U2.setCell ⟨V.heap.size,0,none⟩ (.int .i64 (max o1 z1))).setCell ⟨V.heap.size,1,none⟩ (.int .i64 (min o2 z2))).setCell ⟨V.heap.size+1,0,none⟩ (.bool true)):=((Turn.setAt _ (.inl rfl) 0 _).trans (Turn.setAt _ (.inl rfl) 1 _)).trans (Turn.setAt _ (.inr rfl) 0 _)
       have s1:=(Turn.set (X:=fun j=>j=V.heap.size+1) ((U2.setCell ⟨V.heap.size,0,none⟩ (.int .i64 (max o1 z1))).setCell ⟨V.heap.size,1,none⟩ (.int .i64 (min o2 z2))) rfl (.bool true)).at (zBY k1 (.int .i64 (max o1 z1)) (.int .i64 (min o2 z2))) (by show ¬V.heap.size=V.heap.size+1;omega)
       have s2:=((((Turn.setAt (X:=fun j=>j=V.heap.size) U2 rfl 0 (.int .i64 (max o1 z1))).trans (Turn.setAt (X:=fun j=>j=V.heap.size) _ rfl 1 (.int .i64 (min o2 z2)))).box k2 (by show ¬V.heap.size+1=V.heap.size;omega)).set (.bool true))
       refine ⟨((tU2.mono fun j _ e=>e.elim).trans (tS.mono fun j _ e=>.inl (by omega))).trans (Turn.alloc _ _),_,_,.inr ⟨Hst.out,(Turn.alloc (X:=fun _=>False) _ _).at s1 (fun e=>e),s2.alloc _,((q3.trans tU2).trans2 tS fun j hj e=>by omega).trans (Turn.alloc _ _)⟩⟩
theorem zQ2:∀ {l:List Spn} {a:Int},zCb a l=true→(∀ s∈l,s.lo.ok=true∧s.hi.ok=true)∧Nrm a (rks l):=by
 intro l
 induction l with
 | nil=>intro a _;exact ⟨fun s h=>by simp at h,trivial⟩
 | cons s l ih=>
   intro a h
   unfold zCb at h
   simp only[Bool.and_eq_true,decide_eq_true_eq] at h
   obtain ⟨⟨⟨⟨h1,h2⟩,h3⟩,h4⟩,h5⟩:=h
   obtain ⟨i1,i2⟩:=ih h5
   refine ⟨fun x hx=>?_,h3,h4,i2⟩
   rcases List.mem_cons.1 hx with rfl|hx
   ·exact ⟨h1,h2⟩
   ·exact i1 x hx
theorem zDI {l:List Spn} (h:zAp l=true):l.length≤64∧(∀ s∈l,s.lo.ok=true∧s.hi.ok=true)∧Nrm 0 (rks l):=by
 unfold zAp at h
 simp only[Bool.and_eq_true,decide_eq_true_eq] at h
 exact ⟨h.1,zQ2 h.2⟩
end Go.Proofs.YthbnmehbhpakaaaGreatDoor
namespace Go.Proofs.YthbnmehbhpakaaaGreatDoor
theorem zJi {v:Ver} (h:v.ok=true):0≤v.rank∧v.rank≤lastR:=by
 have hv:=zA0.1 h
 rw[Ver.rank_ok h]
 unfold rankI lastR
 omega
theorem zPQ {l:List Spn} (h:zAp l=true):In0 (rks l):=by
 obtain ⟨_,h2,h3⟩:=zDI h
 intro x hx
 obtain ⟨_,q2⟩:=zMV h3 hx
 unfold rks at hx
 obtain ⟨s,hs,rfl⟩:=List.mem_map.1 hx
 obtain ⟨o1,o2⟩:=h2 s hs
 exact ⟨(zJi o1).1,q2,(zJi o2).2⟩
theorem zQD {l:List Spn} (h:zAp l=true):Nrm 0 (rks l):=(zDI h).2.2
theorem zIf {v:Ver} (h:v.ok=true):verAt v.rank=v:=by
 have hv:=zA0.1 h
 rw[Ver.rank_ok h]
 unfold verAt rankI
 obtain ⟨x,y,z⟩:=v
 simp only at hv ⊢
 congr 1<;>omega
theorem zSR {l:List Spn} (h:zAp l=true):(rks l).map spnAt=l:=by
 obtain ⟨_,h2,_⟩:=zDI h
 unfold rks
 rw[List.map_map]
 refine (List.map_congr_left fun s hs=>?_).trans (List.map_id _)
 obtain ⟨o1,o2⟩:=h2 s hs
 show (⟨verAt s.lo.rank,verAt s.hi.rank⟩:Spn)=s
 rw[zIf o1,zIf o2]
theorem zRj {l:List Spn} (h:zAp l=true):fitR (rks l)=(l,0):=by
 unfold fitR
 rw[if_pos (by rw[zSo];exact (zDI h).1),zSR h]
def mkB (l:List UInt8):ByteArray:=⟨l.toArray⟩
theorem zGX (l:List UInt8):(mkB l).data.toList=l:=rfl
theorem zDh (s:ByteArray):mkB s.data.toList=s:=zBF rfl
def altL:List UInt8→List UInt8→List (List UInt8)
 | acc,[]=>[acc]
 | acc,[c]=>[acc++[c]]
 | acc,c::d::t=>if c=124∧d=124 then acc::altL [] t else altL (acc++[c]) (d::t)
def wrdL:List UInt8→List UInt8→List (List UInt8)
 | acc,[]=>[acc]
 | acc,c::t=>if c=32 then acc::wrdL [] t else wrdL (acc++[c]) t
theorem zKC (acc t:List UInt8):altL acc (124::124::t)=acc::altL [] t:=by rw[altL,if_pos ⟨rfl,rfl⟩]
theorem zGu {acc:List UInt8} {c d:UInt8} {t:List UInt8} (h:¬(c=124∧d=124)):altL acc (c::d::t)=altL (acc++[c]) (d::t):=by rw[altL,if_neg h]
theorem zFs {acc:List UInt8} {c:UInt8} {t:List UInt8} (h:c≠124):altL acc (c::t)=altL (acc++[c]) t:=by
 cases t with
 | nil=>rfl
 | cons d t=>exact zGu fun e=>h e.1
theorem zCk (acc t:List UInt8):wrdL acc (32::t)=acc::wrdL [] t:=by rw[wrdL,if_pos rfl]
theorem zDE {acc:List UInt8} {c:UInt8} {t:List UInt8} (h:c≠32):wrdL acc (c::t)=wrdL (acc++[c]) t:=by rw[wrdL,if_neg h]
theorem zI8 (c d:UInt8) (t:List UInt8):Lib.occAt (c::d::t) [124,124] 0=decide (c=124∧d=124):=by
 unfold Lib.occAt
 rw[List.drop_zero,List.isPrefixOf_cons_cons,List.isPrefixOf_cons_cons,List.isPrefixOf_nil_left,Bool.and_true]
 by_cases h1:c=124
 ·by_cases h2:d=124
  ·subst h1 h2;rfl
  ·have:(124==d)=false:=by simp;exact fun e=>h2 e.symm
   rw[this];simp[h2]
 ·have:(124==c)=false:=by simp;exact fun e=>h1 e.symm
  rw[this];simp[h1]
theorem zGU (c:UInt8) (t sub:List UInt8) (i:Nat):Lib.occAt (c::t) sub (i+1)=Lib.occAt t sub i:=rfl
theorem zP9:∀ (l acc:List UInt8),(∀ j,Lib.occAt l [124,124] j=false)→altL acc l=[acc++l]:=by
 intro l
 induction l with
 | nil=>intro acc _;rw[altL,List.append_nil]
 | cons c t ih=>
   intro acc h
   cases t with
   | nil=>rfl
   | cons d t=>
     have h0:=h 0
     rw[zI8,decide_eq_false_iff_not] at h0
     rw[zGu h0,ih _ fun j=>(zGU c _ _ j).symm.trans (h (j+1)),List.append_assoc]
     rfl
theorem zRa:∀ (i:Nat) (l acc:List UInt8),(∀ j,j<i→Lib.occAt l [124,124] j=false)→Lib.occAt l [124,124] i=true→altL acc l=(acc++l.take i)::altL [] (l.drop (i+2)):=by
 intro i
 induction i with
 | zero=>
   intro l acc _ h
   match l,h with
   | [],h=>exact absurd h (by decide)
   | [c],h=>exact absurd h (by simp[Lib.occAt])
   | c::d::t,h=>
     rw[zI8,decide_eq_true_eq] at h
     obtain ⟨rfl,rfl⟩:=h
     rw[zKC];simp
 | succ i ih=>
   intro l acc hn h
   match l,hn,h with
   | [],_,h=>exact absurd h (by simp[Lib.occAt])
   | [c],_,h=>exact absurd h (by simp[Lib.occAt])
   | c::d::t,hn,h=>
     have h0:=hn 0 (Nat.succ_pos i)
     rw[zI8,decide_eq_false_iff_not] at h0
     rw[zGu h0,ih (d::t) (acc++[c]) (fun j hj=>(zGU c _ _ j).symm.trans (hn (j+1) (by omega))) h,List.append_assoc]
     rfl
theorem zMG:∀ (k:Nat) (l:List UInt8),l.length≤k→Lib.splitK [124,124] 0 k l=altL [] l:=by
 intro k
 induction k with
 | zero=>
   intro l h
   obtain rfl:=List.eq_nil_of_length_eq_zero (Nat.le_zero.1 h)
   rfl
 | succ k ih=>
   intro l h
   unfold Lib.splitK
   rcases Lib.index_spec l [124,124] with ⟨h1,h2⟩|⟨i,h1,h2,h3,h4⟩
   ·rw[h1,if_pos (by decide),zP9 l [] fun j=>?_]
    ·rfl
    ·by_cases hj:j≤l.length
     ·exact h2 j hj
     ·unfold Lib.occAt;rw[dN (by omega)];rfl
   ·have hr:=Lib.occAt_room h3
    have hr':i+2≤l.length:=by rcases hr with h|h;exact h;cases h
    rw[h1,if_neg (by simp),zRa i l [] h4 h3,List.nil_append]
    have e:((i:Nat):Int).toNat=i:=by omega
    rw[e,Nat.add_zero]
    show l.take i::Lib.splitK [124,124] 0 k (l.drop (i+2))=_
    rw[ih _ (by rw[List.length_drop];omega)]
theorem zGn (c:UInt8) (t:List UInt8):Lib.occAt (c::t) [32] 0=decide (c=32):=by
 unfold Lib.occAt
 rw[List.drop_zero,List.isPrefixOf_cons_cons,List.isPrefixOf_nil_left,Bool.and_true]
 by_cases h1:c=32
 ·subst h1;rfl
 ·have:(32==c)=false:=by simp;exact fun e=>h1 e.symm
  rw[this];simp[h1]
theorem zQR:∀ (l acc:List UInt8),(∀ j,Lib.occAt l [32] j=false)→wrdL acc l=[acc++l]:=by
 intro l
 induction l with
 | nil=>intro acc _;rw[wrdL,List.append_nil]
 | cons c t ih=>
   intro acc h
   have h0:=h 0
   rw[zGn,decide_eq_false_iff_not] at h0
   rw[zDE h0,ih _ fun j=>(zGU c _ _ j).symm.trans (h (j+1)),List.append_assoc]
   rfl
theorem zRI:∀ (i:Nat) (l acc:List UInt8),(∀ j,j<i→Lib.occAt l [32] j=false)→Lib.occAt l [32] i=true→wrdL acc l=(acc++l.take i)::wrdL [] (l.drop (i+1)):=by
 intro i
 induction i with
 | zero=>
   intro l acc _ h
   match l,h with
   | [],h=>exact absurd h (by decide)
   | c::t,h=>
     rw[zGn,decide_eq_true_eq] at h
     subst h
     rw[zCk];simp
 | succ i ih=>
   intro l acc hn h
   match l,hn,h with
   | [],_,h=>exact absurd h (by simp[Lib.occAt])
   | c::t,hn,h=>
     have h0:=hn 0 (Nat.succ_pos i)
     rw[zGn,decide_eq_false_iff_not] at h0
     rw[zDE h0,ih t (acc++[c]) (fun j hj=>(zGU c _ _ j).symm.trans (hn (j+1) (by omega))) h,List.append_assoc]
     rfl
theorem zLR:∀ (k:Nat) (l:List UInt8),l.length≤k→Lib.splitK [32] 0 k l=wrdL [] l:=by
 intro k
 induction k with
 | zero=>
   intro l h
   obtain rfl:=List.eq_nil_of_length_eq_zero (Nat.le_zero.1 h)
   rfl
 | succ k ih=>
   intro l h
   unfold Lib.splitK
   rcases Lib.index_spec l [32] with ⟨h1,h2⟩|⟨i,h1,h2,h3,h4⟩
   ·rw[h1,if_pos (by decide),zQR l [] fun j=>?_]
    ·rfl
    ·by_cases hj:j≤l.length
     ·exact h2 j hj
     ·unfold Lib.occAt;rw[dN (by omega)];rfl
   ·have hr:=Lib.occAt_room h3
    have hr':i+1≤l.length:=by rcases hr with h|h;exact h;cases h
    rw[h1,if_neg (by simp),zRI i l [] h4 h3,List.nil_append]
    have e:((i:Nat):Int).toNat=i:=by omega
    rw[e,Nat.add_zero]
    show l.take i::Lib.splitK [32] 0 k (l.drop (i+1))=_
    rw[ih _ (by rw[List.length_drop];omega)]
theorem zM2 (l:List ByteArray):l=(l.map (·.data.toList)).map mkB:=by
 rw[List.map_map]
 exact ((List.map_congr_left fun s _=>zDh s).trans (List.map_id _)).symm
theorem zR3 (s:ByteArray):spl s barsB=(altL [] s.data.toList).map mkB:=by
 rw[zM2 (spl s barsB)]
 unfold spl
 rw[Lib.splitB_data]
 show (Lib.splitK [124,124] 0 s.size s.data.toList).map mkB=_
 rw[zMG _ _ (by rw[zAJ s];exact nR _)]
theorem zPw (s:ByteArray):spl s zCr=(wrdL [] s.data.toList).map mkB:=by
 rw[zM2 (spl s zCr)]
 unfold spl
 rw[Lib.splitB_data]
 show (Lib.splitK [32] 0 s.size s.data.toList).map mkB=_
 rw[zLR _ _ (by rw[zAJ s];exact nR _)]
theorem zPU:∀ (p acc t:List UInt8),(124:UInt8)∉p→altL acc (p++124::124::t)=(acc++p)::altL [] t:=by
 intro p
 induction p with
 | nil=>intro acc t _;rw[List.nil_append,zKC,List.append_nil]
 | cons c p ih=>
   intro acc t h
   rw[List.mem_cons,not_or] at h
   rw[List.cons_append,zFs (fun e=>h.1 e.symm),ih _ _ h.2,List.append_assoc]
   rfl
theorem zKH:∀ (p acc:List UInt8),(124:UInt8)∉p→altL acc p=[acc++p]:=by
 intro p
 induction p with
 | nil=>intro acc _;rw[altL,List.append_nil]
 | cons c p ih=>
   intro acc h
   rw[List.mem_cons,not_or] at h
   rw[zFs (fun e=>h.1 e.symm),ih _ h.2,List.append_assoc]
   rfl
theorem zPT:∀ (p acc t:List UInt8),(32:UInt8)∉p→wrdL acc (p++32::t)=(acc++p)::wrdL [] t:=by
 intro p
 induction p with
 | nil=>intro acc t _;rw[List.nil_append,zCk,List.append_nil]
 | cons c p ih=>
   intro acc t h
   rw[List.mem_cons,not_or] at h
   rw[List.cons_append,zDE (fun e=>h.1 e.symm),ih _ _ h.2,List.append_assoc]
   rfl
theorem zLX:∀ (p acc:List UInt8),(32:UInt8)∉p→wrdL acc p=[acc++p]:=by
 intro p
 induction p with
 | nil=>intro acc _;rw[wrdL,List.append_nil]
 | cons c p ih=>
   intro acc h
   rw[List.mem_cons,not_or] at h
   rw[zDE (fun e=>h.1 e.symm),ih _ h.2,List.append_assoc]
   rfl
theorem zLg:∀ (s acc t:List UInt8),wrdL acc (s++32::t)=wrdL acc s++wrdL [] t:=by
 intro s
 induction s with
 | nil=>intro acc t;rw[List.nil_append,zCk,wrdL];rfl
 | cons c s ih=>
   intro acc t
   by_cases h:c=32
   ·subst h;rw[List.cons_append,zCk,zCk,ih,List.cons_append]
   ·rw[List.cons_append,zDE h,zDE h,ih]
def pStep (st:Option (List Int×Int)) (c:UInt8):Option (List Int×Int):=match st with
 | none=>none
 | some (l,x)=>if c=46 then some (l++[x],0) else if (48≤c.toNat∧c.toNat≤57)∧x≤999 then some (l,10 * x+((c.toNat:Int) - 48)) else none
def pAll (s:List UInt8):Option (List Int×Int):=s.foldl pStep (some ([],0))
def dStep (o:Option Int) (c:UInt8):Option Int:=match o with
 | none=>none
 | some x=>if (48≤c.toNat∧c.toNat≤57)∧x≤999 then some (10 * x+((c.toNat:Int) - 48)) else none
theorem zOo:∀ s:List UInt8,s.foldl dStep none=none:=by
 intro s
 induction s with
 | nil=>rfl
 | cons c s ih=>rw[List.foldl_cons];exact ih
theorem zJ6:∀ (s:List UInt8) (l:List Int) (x y:Int),s.foldl dStep (some x)=some y→s.foldl pStep (some (l,x))=some (l,y):=by
 intro s
 induction s with
 | nil=>intro l x y h;cases h;rfl
 | cons c s ih=>
   intro l x y h
   rw[List.foldl_cons] at h ⊢
   by_cases hc:(48≤c.toNat∧c.toNat≤57)∧x≤999
   ·have e:dStep (some x) c=some (10 * x+((c.toNat:Int) - 48)):=if_pos hc
    have n:c≠46:=by rintro rfl;exact absurd hc.1.1 (by decide)
    have e':pStep (some (l,x)) c=some (l,10 * x+((c.toNat:Int) - 48)):=by unfold pStep;simp only[if_neg n,if_pos hc]
    rw[e] at h
    rw[e']
    exact ih _ _ _ h
   ·have e:dStep (some x) c=none:=if_neg hc
    rw[e,zOo] at h
    cases h
theorem zMM:∀ k:Fin 1000,(itoaB (k.val:Int)).data.toList.foldl dStep (some 0)=some (k.val:Int):=by decide +kernel
theorem zHJ {n:Int} (h0:0≤n) (h1:n≤999) (l:List Int):(itoaB n).data.toList.foldl pStep (some (l,0))=some (l,n):=by
 have:=zMM ⟨n.toNat,by omega⟩
 have e:((n.toNat:Nat):Int)=n:=by omega
 simp only[e] at this
 exact zJ6 _ l 0 n this
theorem zJz (l:List Int) (x:Int):pStep (some (l,x)) 46=some (l++[x],0):=by simp[pStep]
theorem zKT {v:Ver} (h:v.ok=true):v.txt.data.toList=(itoaB v.major).data.toList++(46::((itoaB v.minor).data.toList++(46::(itoaB v.patch).data.toList))):=by
 unfold Ver.txt zAj
 have hv:verB v.major v.minor v.patch=true:=h
 rw[if_pos hv]
 simp[dotB]
theorem zNH {v:Ver} (h:v.ok=true):pAll v.txt.data.toList=some ([v.major,v.minor],v.patch):=by
 obtain ⟨⟨a0,a1⟩,⟨b0,b1⟩,c0,c1⟩:=zA0.1 (show verB v.major v.minor v.patch=true from h)
 rw[zKT h]
 unfold pAll
 rw[List.foldl_append,zHJ a0 a1,List.foldl_cons,zJz,List.foldl_append,zHJ b0 b1,List.foldl_cons,zJz,zHJ c0 c1]
 rfl
theorem isSign_iff {c:UInt8}:zEi.contains c=true↔c=60∨c=62∨c=61∨c=94∨c=126:=by
 unfold zEi
 simp[List.contains_cons]
