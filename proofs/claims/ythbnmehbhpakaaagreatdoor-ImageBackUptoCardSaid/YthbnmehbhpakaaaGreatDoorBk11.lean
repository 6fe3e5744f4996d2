/- Versions' texts in plain words: a text is read as the version whose text it is. -/
import Derived.Test.YthbnmehbhpakaaaGreatDoorBk02
import Derived.Test.YthbnmehbhpakaaaGreatDoorBk04
import Derived.Lib.Split
import Derived.Lib.SplitLaws
import Derived.Lib.PathFns
import Derived.Lib.IndexMore
import Derived.Test.YthbnmehbhpakaaaGreatDoorBk10
import Derived.Lib.UnsafeStr
import Derived.Lib.AtoiAllCases
import Derived.Test.YthbnmehbhpakaaaGreatDoorAl
set_option linter.all false
set_option maxHeartbeats 4000000
set_option maxRecDepth 100000
namespace Go.Proofs.YthbnmehbhpakaaaGreatDoor
open Go.Rows Go.RowKit Go.Shelf Go.Sort
def Ver.txt (v:Ver):ByteArray:=zAj v.major v.minor v.patch
open Classical in
noncomputable def zAS (s:ByteArray):Option Ver:=if h:∃ v:Ver,v.ok=true∧s=v.txt then some h.choose else none
theorem zQw:∀ k:Fin 1000,Lib.atoiAll (itoaB (k.val:Int)).data.toList=.ok (k.val:Int)∧(itoaB (k.val:Int)).data.toList.all (fun c=>decide (48≤c.toNat)&&decide (c.toNat≤57))=true:=by decide +kernel
theorem zBa {n:Int} (h0:0≤n) (h1:n≤999):Lib.atoiAll (itoaB n).data.toList=.ok n∧(itoaB n).data.toList.all (fun c=>decide (48≤c.toNat)&&decide (c.toNat≤57))=true:=by
 have:=zQw ⟨n.toNat,by omega⟩
 rwa [show ((n.toNat:Nat):Int)=n by omega] at this
theorem zJU {n m:Int} (h0:0≤n) (h1:n≤999) (h:itoaB n=itoaB m) (g0:0≤m) (g1:m≤999):n=m:=by
 have e1:=(zBa h0 h1).1
 have e2:=(zBa g0 g1).1
 rw[h,e2] at e1
 cases e1;rfl
theorem zKx {x y:List UInt8} (hx:x.all (fun c=>decide (48≤c.toNat)&&decide (c.toNat≤57))=true):Lib.index (x++46::y) [46]=(x.length:Int):=by
 refine Lib.index_first (by simp) (by simp[Lib.occAt]) fun j hj=>?_
 unfold Lib.occAt
 rw[List.drop_append_of_le_length (by omega),dC hj]
 have:=List.all_eq_true.1 hx _ (List.getElem_mem hj)
 simp only[List.cons_append,List.isPrefixOf,Bool.and_true]
 rw[beq_eq_false_iff_ne]
 intro e
 rw[←e] at this
 simp at this
theorem zLo {x:List UInt8} (hx:x.all (fun c=>decide (48≤c.toNat)&&decide (c.toNat≤57))=true):Lib.index x [46]=-1:=by
 refine Lib.index_none fun j hj=>?_
 unfold Lib.occAt
 by_cases hjl:j<x.length
 ·rw[dC hjl]
  have:=List.all_eq_true.1 hx _ (List.getElem_mem hjl)
  simp only[List.isPrefixOf,Bool.and_true]
  rw[beq_eq_false_iff_ne]
  intro e
  rw[←e] at this
  simp at this
 ·rw[dN (by omega)];rfl
theorem zBF {a b:ByteArray} (h:a.data.toList=b.data.toList):a=b:=by
 cases a;cases b;simp only[ByteArray.mk.injEq];exact Array.toList_inj.1 h
theorem zEP {v:Ver} (h:v.ok=true):Lib.countB v.txt dotB=2∧Lib.splitB dotB 0 2 v.txt=[itoaB v.major,itoaB v.minor,itoaB v.patch]:=by
 obtain ⟨a,b,c⟩:=v
 have hv:verB a b c=true:=h
 obtain ⟨⟨a0,a1⟩,⟨b0,b1⟩,c0,c1⟩:=zA0.1 hv
 have ht:Ver.txt ⟨a,b,c⟩=itoaB a++dotB++itoaB b++dotB++itoaB c:=by show zAj a b c=_;unfold zAj;rw[if_pos hv]
 have ha:=(zBa a0 a1).2
 have hb:=(zBa b0 b1).2
 have hc:=(zBa c0 c1).2
 rw[ht]
 simp only
 generalize itoaB a=A at *
 generalize itoaB b=B at *
 generalize itoaB c=C at *
 have hd:dotB.data.toList=[46]:=rfl
 have e1:(A++dotB++B++dotB++C).data.toList=A.data.toList++46::(B++dotB++C).data.toList:=by simp[ByteArray.data_append,hd]
 have e2:(B++dotB++C).data.toList=B.data.toList++46::C.data.toList:=by simp[ByteArray.data_append,hd]
 have s1:dotB.size=1:=rfl
 have i1:Lib.indexB (A++dotB++B++dotB++C) dotB=(A.size:Int):=by
  show Lib.index _ dotB.data.toList=_
  rw[e1,hd,zKx ha];rfl
 have i2:Lib.indexB (B++dotB++C) dotB=(B.size:Int):=by
  show Lib.index _ dotB.data.toList=_
  rw[e2,hd,zKx hb];rfl
 have i3:Lib.indexB C dotB=-1:=by
  show Lib.index _ dotB.data.toList=_
  rw[hd,zLo hc]
 have z1:A.data.toList.length=A.size:=rfl
 have z2:B.data.toList.length=B.size:=rfl
 have x1:(A++dotB++B++dotB++C).extract (A.size+dotB.size) (A++dotB++B++dotB++C).size=B++dotB++C:=by
  rw[Lib.extract_from,e1,s1]
  apply zBF
  rw[List.drop_append,dN (by omega),z1,show A.size+1 - A.size=1 by omega];rfl
 have x2:(B++dotB++C).extract (B.size+dotB.size) (B++dotB++C).size=C:=by
  rw[Lib.extract_from,e2,s1]
  apply zBF
  rw[List.drop_append,dN (by omega),z2,show B.size+1 - B.size=1 by omega];rfl
 have y1:(A++dotB++B++dotB++C).extract 0 (A.size+0)=A:=by
  rw[Lib.extract_upto,e1]
  apply zBF
  rw[List.take_append_of_le_length (by omega),List.take_of_length_le (by omega)]
 have y2:(B++dotB++C).extract 0 (B.size+0)=B:=by
  rw[Lib.extract_upto,e2]
  apply zBF
  rw[List.take_append_of_le_length (by omega),List.take_of_length_le (by omega)]
 constructor
 ·rw[Lib.countB_hit _ _ _ (by decide) i1,x1,Lib.countB_hit _ _ _ (by decide) i2,x2,Lib.countB_miss _ _ i3]
 ·rw[Lib.splitB_hit _ _ _ _ _ i1,x1,y1,Lib.splitB_hit _ _ _ _ _ i2,x2,y2,Lib.splitB_zero]
theorem zIO {k:Nat} {s p q:ByteArray} {r:List ByteArray} (h:Lib.splitB dotB 0 k s=p::q::r):∃ k' s',s=p++dotB++s'∧Lib.splitB dotB 0 k' s'=q::r:=by
 cases k with
 | zero=>rw[Lib.splitB_zero] at h;simp at h
 | succ k=>
   rcases Lib.indexB_cases s dotB with hi|⟨i,hi,hir⟩
   ·rw[Lib.splitB_miss _ _ _ _ hi] at h;simp at h
   ·rw[Lib.splitB_hit _ _ _ _ _ hi] at h
    simp only[List.cons.injEq] at h
    obtain ⟨h1,h2⟩:=h
    refine ⟨k,_,?_,h2⟩
    have hI:Lib.index s.data.toList dotB.data.toList=(i:Int):=hi
    rcases Lib.index_spec s.data.toList dotB.data.toList with ⟨g,_⟩|⟨j,g,_,ho,_⟩
    ·omega
    ·obtain rfl:j=i:=by omega
     have hc:=Lib.occAt_head (c:=46) (t:=[]) rfl ho
     rw[←h1,Lib.extract_upto,Lib.extract_from]
     apply zBF
     have hjl:=(gS.1 hc).1
     have hd:dotB.data.toList=[46]:=rfl
     have s1:dotB.size=1:=rfl
     simp only[ByteArray.data_append,Array.toList_append,hd,s1,Nat.add_zero,List.append_assoc,List.singleton_append]
     rw[←(gS.1 hc).2]
     conv=>lhs;rw[←List.take_append_drop j s.data.toList,dC hjl]
theorem zMW {k:Nat} {s p q r:ByteArray} (h:Lib.splitB dotB 0 k s=[p,q,r]):s=p++dotB++q++dotB++r:=by
 obtain ⟨k1,s1,e1,h1⟩:=zIO h
 obtain ⟨k2,s2,e2,h2⟩:=zIO h1
 have e3:s2=r:=by
  cases k2 with
  | zero=>rw[Lib.splitB_zero] at h2;simpa using h2
  | succ k2=>
    rcases Lib.indexB_cases s2 dotB with hi|⟨i,hi,hir⟩
    ·rw[Lib.splitB_miss _ _ _ _ hi] at h2;simpa using h2
    ·rw[Lib.splitB_hit _ _ _ _ _ hi] at h2
     have:=congrArg List.length h2
     have hp:0<(Lib.splitB dotB 0 k2 (s2.extract (i+dotB.size) s2.size)).length:=by cases k2<;>unfold Lib.splitB<;>(try split)<;>simp
     simp only[List.length_cons,List.length_nil] at this
     omega
 rw[e1,e2,e3]
 apply zBF
 simp[ByteArray.data_append]
theorem zBq {s:ByteArray} {v:Ver} (h:v.ok=true) (hs:s=v.txt):zAS s=some v:=by
 have hex:∃ v:Ver,v.ok=true∧s=v.txt:=⟨v,h,hs⟩
 unfold zAS
 rw[dif_pos hex]
 obtain ⟨g1,g2⟩:=hex.choose_spec
 have hp1:=(zEP h).2
 have hp2:=(zEP g1).2
 rw[←hs] at hp1
 rw[←g2,hp1] at hp2
 simp only[List.cons.injEq,and_true] at hp2
 generalize hex.choose=u at *
 obtain ⟨a,b,c⟩:=v
 obtain ⟨a',b',c'⟩:=u
 obtain ⟨⟨a0,a1⟩,⟨b0,b1⟩,c0,c1⟩:=zA0.1 (show verB a b c=true from h)
 obtain ⟨⟨p0,p1⟩,⟨q0,q1⟩,r0,r1⟩:=zA0.1 (show verB a' b' c'=true from g1)
 simp only at hp2
 rw[zJU a0 a1 hp2.1 p0 p1,zJU b0 b1 hp2.2.1 q0 q1,zJU c0 c1 hp2.2.2 r0 r1]
theorem zGc {s:ByteArray} {v:Ver} (h:zAS s=some v):v.ok=true∧s=v.txt:=by
 unfold zAS at h
 split at h
 ·rename_i hex
  cases h
  exact hex.choose_spec
 ·cases h
theorem zFS {s:ByteArray} (h:∀ v:Ver,v.ok=true→s≠v.txt):zAS s=none:=by
 unfold zAS
 rw[dif_neg]
 rintro ⟨v,h1,h2⟩
 exact h v h1 h2
structure Vok (w:World):Prop where
 tab:Tab w
 maxLen:∃ m:Int,w.cell? ⟨0,0,none⟩=some (.int .i64 m)
 errSyntax:∃ te pe,w.cell? ⟨2,0,none⟩=some (.iface te pe)
 errRange:∃ te pe,w.cell? ⟨3,0,none⟩=some (.iface te pe)
theorem Vok.below {w W:World} (h:Vok w) (hb:Below w.heap.size w W):Vok W:=by
 obtain ⟨h1,⟨m,h2⟩,⟨te,pe,h3⟩,⟨tr,pr,h4⟩⟩:=h
 exact ⟨zAG h1 hb,⟨m,zAA hb h2 (zAE h2)⟩,⟨te,pe,zAA hb h3 (zAE h3)⟩,⟨tr,pr,zAA hb h4 (zAE h4)⟩⟩
theorem zGN (w:World) (e:TypeId) (s:ByteArray):Below w.heap.size w (Lib.bytesWorld w e s):=by
 unfold Lib.bytesWorld
 exact Lib.below_freeze ((bR _ w).drew.alloc (nR _) _) (nR _) _
theorem zNO (s:ByteArray) (w:World) (hv:Vok w) (hs:s.size≤2000000) :
  Calls Tryz.prog 162 #[.string s] w fun e w'=>((∃ x,e=.returned (.tuple #[.int .i64 x,.nilIface])∧Lib.atoiAll s.data.toList=.ok x∧I64 x)∨(∃ x t p,e=.returned (.tuple #[.int .i64 x,.iface t p])∧∀ x,Lib.atoiAll s.data.toList≠.ok x))∧Below w.heap.size w w':=by
 obtain ⟨_,_,⟨te,pe,h3⟩,⟨tr,pr,h4⟩⟩:=hv
 rcases h:Lib.atoiAll s.data.toList with x|_|_
 ·refine (Tryz.strconv_Atoi_ok s (by omega) x h w).mono ?_
  rintro e w' ⟨rfl,hw⟩
  refine ⟨.inl ⟨x,rfl,rfl,Lib.atoiAll_bounds h⟩,?_⟩
  rcases hw with rfl|⟨t,rfl⟩
  ·exact bR _ _
  ·exact zGN _ _ _
 ·refine (Tryz.strconv_Atoi_syntax s (by omega) h _ w h3 (.inr ⟨te,pe,rfl⟩)).mono ?_
  rintro e w' ⟨N,rfl,_,_,hb⟩
  exact ⟨.inr ⟨_,_,_,rfl,fun x e=>by cases e⟩,hb⟩
 ·refine (Tryz.strconv_Atoi_range s (by omega) h _ w h4 (.inr ⟨tr,pr,rfl⟩)).mono ?_
  rintro e w' ⟨N,rfl,_,_,hb⟩
  exact ⟨.inr ⟨_,_,_,rfl,fun x e=>by cases e⟩,hb⟩
theorem zCH {P:Program} {fn:Func} {p q:Tmp} {ty:TypeId} (h:fn.results=#[.cell p ty,.tmp q]) (tmps:Array Value) (w:World) (g:Nat) (t:TypeId) (cs:Array Value) (fr:Nat×Nat) (d:TypeDesc)
  (hp:tmps.getD p undef=.pointer (some ⟨g,0,none⟩)) (hg:w.heap[g]?=some (.cells cs t fr))
  (hu:P.underlying ty=some d) (hd:(match d with|.struct _|.array _ _=>true|_=>false)=true) (hi:(P.info? ty).map (·.size)=some cs.size) :
  (results fn tmps).run P w=.ok (.tuple #[.agg cs,tmps.getD q undef]) w:=by
 have hp':tmps[p]?.getD undef=.pointer (some ⟨g,0,none⟩):=by simpa using hp
 simp[results,h,hp',asAddr,run_loadVar_row w g t ty cs fr d hg hu hd hi]
def verV (v:Ver):Value:=.agg #[.int .i64 v.major,.int .i64 v.minor,.int .i64 v.patch]
theorem row3 {W:World} {b:Nat} {x y z:Value} {t:TypeId} (h:W.heap[b]?=some (.cells #[x,y,z] t (0,0))):(W.cell? ⟨b,0,none⟩=some x∧W.cell? ⟨b,1,none⟩=some y∧W.cell? ⟨b,2,none⟩=some z)∧W.frozen? ⟨b,0,none⟩=false∧W.frozen? ⟨b,1,none⟩=false∧W.frozen? ⟨b,2,none⟩=false:=by
 refine ⟨⟨cO _ _ 0 _ _ _ h,cO _ _ 1 _ _ _ h,cO _ _ 2 _ _ _ h⟩,?_,?_,?_⟩<;>simp[World.frozen?,h]
theorem zGv {P:Program} {fn:Func} {R:Ending→World→Prop} {ty:TypeId} {d:TypeDesc} {p q:Tmp} {a:Act} {W:World} {g:Nat} {x y z bv:Value} {t:TypeId} (hf:fn.results=#[.cell p ty,.tmp q]) (hd:a.defers=[]) (h2:a.tmps.getD p undef=.pointer (some ⟨g,0,none⟩)) (h3:a.tmps.getD q undef=bv)
  (hg:W.heap[g]?=some (.cells #[x,y,z] t (0,0))) (hu:P.underlying ty=some d) (hdd:(match d with|.struct _|.array _ _=>true|_=>false)=true) (hi:(P.info? ty).map (·.size)=some 3)
  (h:R (.returned (.tuple #[.agg #[x,y,z],bv])) W):bodyPost P fn R Exit.ret a W:=
 bodyPost_ret (zCH hf a.tmps W g t #[x,y,z] (0,0) d h2 hg hu hdd hi) hd (by rw[h3];exact h)
def zDD (p:ByteArray) (x:Int):Prop:=Lib.atoiAll p.data.toList=.ok x∧itoaB x=p∧I64 x
theorem zKo {s:ByteArray} {L:List ByteArray} (hL:Lib.splitB dotB 0 2 s=L) {v:Ver} (hv:v.ok=true) (hs:s=v.txt):L=[itoaB v.major,itoaB v.minor,itoaB v.patch]∧zDD (itoaB v.major) v.major∧zDD (itoaB v.minor) v.minor∧zDD (itoaB v.patch) v.patch:=by
 obtain ⟨⟨a0,a1⟩,⟨b0,b1⟩,c0,c1⟩:=zA0.1 (show verB v.major v.minor v.patch=true from hv)
 refine ⟨by rw[←hL,hs];exact (zEP hv).2,⟨(zBa a0 a1).1,rfl,?_⟩,⟨(zBa b0 b1).1,rfl,?_⟩,(zBa c0 c1).1,rfl,?_⟩<;>(unfold I64;omega)
theorem zOj {s:ByteArray} {L:List ByteArray} (hL:Lib.splitB dotB 0 2 s=L) {j:Nat} (hj:j<L.length) (h:∀ x,¬zDD L[j] x):zAS s=none:=by
 refine zFS fun v hv hs=>?_
 obtain ⟨h1,h2,h3,h4⟩:=zKo hL hv hs
 subst h1
 have:j=0∨j=1∨j=2:=by simp at hj;omega
 rcases this with rfl|rfl|rfl
 ·exact h _ h2
 ·exact h _ h3
 ·exact h _ h4
theorem zOk {s p q r:ByteArray} (hL:Lib.splitB dotB 0 2 s=[p,q,r]) {x y z:Int} (hp:zDD p x) (hq:zDD q y) (hr:zDD r z):zAS s=if verB x y z=true then some ⟨x,y,z⟩ else none:=by
 by_cases h:verB x y z=true
 ·rw[if_pos h]
  refine zBq h ?_
  rw[zMW hL,←hp.2.1,←hq.2.1,←hr.2.1]
  show _=zAj x y z
  unfold zAj
  rw[if_pos h]
 ·rw[if_neg h]
  refine zFS fun v hv hs=>h ?_
  obtain ⟨h1,h2,h3,h4⟩:=zKo hL hv hs
  simp only[List.cons.injEq,and_true] at h1
  obtain ⟨rfl,rfl,rfl⟩:=h1
  have e1:=hp.1.symm.trans h2.1
  have e2:=hq.1.symm.trans h3.1
  have e3:=hr.1.symm.trans h4.1
  cases e1;cases e2;cases e3
  exact hv
theorem zPb {X:Nat→Int} {k:Nat} (hk:k<3) (x:Int):(#[Value.int .i64 (X 0),.int .i64 (X 1),.int .i64 (X 2)]:Array Value).setIfInBounds k (.int .i64 x)=#[.int .i64 (if 0=k then x else X 0),.int .i64 (if 1=k then x else X 1),.int .i64 (if 2=k then x else X 2)]:=by
 have:k=0∨k=1∨k=2:=by omega
 rcases this with rfl|rfl|rfl<;>rfl
theorem zGi (sep:ByteArray):∀ (k:Nat) (s x:ByteArray),x∈Lib.splitB sep 0 k s→x.size≤s.size:=by
 intro k
 induction k with
 | zero=>intro s x h;rw[Lib.splitB_zero] at h;simp at h;subst h;exact nR _
 | succ k ih=>
   intro s x h
   rcases Lib.indexB_cases s sep with hi|⟨i,hi,hir⟩
   ·rw[Lib.splitB_miss _ _ _ _ hi] at h;simp at h;subst h;exact nR _
   ·rw[Lib.splitB_hit _ _ _ _ _ hi] at h
    rcases List.mem_cons.1 h with rfl|h
    ·rw[ByteArray.size_extract];omega
    ·have:=ih _ _ h;rw[ByteArray.size_extract] at this;omega
theorem zQI:∀ {l:List ByteArray} {w:World} {S:Nat→Prop},(∀ x∈l,x.size≤maxLen)→Elems rStr w S l (l.map Value.string):=by
 intro l
 induction l with
 | nil=>intro w S _;rfl
 | cons x l ih=>intro w S h;exact ⟨[.string x],l.map Value.string,rfl,⟨rfl,h x (by simp)⟩,ih fun y hy=>h y (by simp[hy])⟩
theorem zFJ (s:ByteArray) (w:World) (hv:Vok w) (hs:s.size≤2000000) :
  Calls Tryz.prog 97 #[.string s] w fun e w'=>e=.returned (.tuple #[verV ((zAS s).getD ⟨0,0,0⟩),.bool (zAS s).isSome])∧Below w.heap.size w w':=by
 have Hv:=cH hv
 obtain ⟨m,hm⟩:=hv.maxLen
 have Hm:=cH hm
 clear hv hm
 go_enter Tryz.func97,Tryz.ntmps97
 go_wp2_with fail
 obtain ⟨w1,hw1⟩:∃ w1,w1=w.alloc (.cells #[.int .i64 0,.int .i64 0,.int .i64 0] 55):=⟨_,rfl⟩
 have HB1:Hid (Below w.heap.size w w1):=by unfold Hid;rw[hw1];exact bal (bR _ _) _
 have hr1:w1.heap[w.heap.size]?=some (.cells #[.int .i64 0,.int .i64 0,.int .i64 0] 55 (0,0)):=by rw[hw1];exact heap_alloc_new w _
 rw[←hw1]
 clear hw1
 have hz1:w.heap.size<w1.heap.size:=(aS.1 hr1).1
 have Hsp:=cH (Tryz.strings_Split s dotB m w1 (by omega) (zAA HB1.out Hm.out (zAE Hm.out)) (by decide))
 have hdot:dotB=⟨#[46]⟩:=rfl
 have HsA:Hid (∀ L,Lib.countB s dotB=2→Lib.splitB dotB 0 (Lib.countB s dotB) s=L→Lib.splitB dotB 0 2 s=L∧L.length=3):=fun L h1 h2=>by
  rw[←h2,h1]
  exact ⟨rfl,by rw[Lib.splitB_all dotB (by decide) 0 2 s h1]⟩
 have HsN:Hid (Lib.countB s dotB≠2→zAS s=none):=fun hc=>zFS fun v hv hs=>hc (by rw[hs];exact (zEP hv).1)
 rw[hdot] at Hsp
 obtain ⟨L,hL⟩:∃ L,Lib.splitB dotB 0 (Lib.countB s dotB) s=L:=⟨_,rfl⟩
 have HsA2:=cH (fun h=>HsA.out L h hL)
 have HLs:Hid (∀ x∈L,x.size≤s.size):=fun x hx=>zGi _ _ _ _ (by rw[hL];exact hx)
 rw[hdot] at hL HsA2 HsN
 rw[hL] at Hsp
 clear hL HsA hdot
 have Hcn:Hid (Lib.countB s ⟨#[46]⟩≤2000000):=nT (Lib.countB_le ⟨#[46]⟩ (by decide) s.size s (nR _)) hs
 generalize Lib.countB s ⟨#[46]⟩=cn at *
 refine Hsp.out.mono ?_
 rintro e w2 ⟨rfl,hw2⟩
 have HB12:Hid (Below w1.heap.size w1 w2):=by unfold Hid;rw[hw2];exact bal (bR _ _) _
 have HB2:=cH (bot HB1.out HB12.out)
 have hr2:=(HB12.out.block _ hz1).trans hr1
 have hn2:w2.heap[w1.heap.size]?=some (.cells (L.map Value.string).toArray 9 (0,0)):=by rw[hw2];exact heap_alloc_new _ _
 have HL2:Hid (L.length=cn+1→SlV rStr w2 (fun b=>b<w2.heap.size) L (.slice (some ⟨w1.heap.size,0,none⟩) (cn+1) (cn+1))):=fun hl=>
  SlV.of_block hn2 (by rw[List.toList_toArray];exact zQI fun x hx=>by have:=HLs.out x hx;unfold maxLen;omega) (by have:=(aS.1 hn2).1;exact this) hl.symm (by rw[hl];exact nR _) (by have:=Hcn.out;unfold maxLen;omega)
 clear hw2 Hsp hn2 hr1
 by_cases hc:cn=2
 case neg=>
  have hne:((cn:Int)+1 != 3)=true:=by simp;omega
  have hne':(((cn+1:Nat):Int) != 3)=true:=by simp;omega
  have Hno:=cH (HsN.out hc)
  obtain ⟨⟨c0,c1,c2⟩,f0,f1,f2⟩:=row3 hr2
  clear hc HsA2 HsN HL2
  go_wp2_with fail
  refine zGv rfl rfl rfl rfl (zEI hr2 _ _ _) Tryz.underlying55 rfl (by kernel_rfl) ⟨?_,?_⟩
  ·rw[Hno.out];rfl
  ·exact ((HB2.out.setCell (nR _) _).setCell (nR _) _).setCell (nR _) _
 obtain ⟨hL2,hL3⟩:=HsA2.out hc
 have HV2:=cH (HL2.out (by omega))
 subst hc
 clear HL2 HsA2 HsN
 obtain ⟨p,q,r,rfl⟩:∃ p q r,L=[p,q,r]:=by
  match L,hL3 with
  | [p,q,r],_=>exact ⟨p,q,r,rfl⟩
 have HpF:Hid (∀ (j:Nat) (hj:j<[p,q,r].length),(∀ x,¬zDD ([p,q,r][j]) x)→zAS s=none):=fun j hj h=>zOj hL2 hj h
 have HpG:Hid (∀ x y z,zDD p x→zDD q y→zDD r z→zAS s=if verB x y z=true then some ⟨x,y,z⟩ else none):=fun x y z h1 h2 h3=>zOk hL2 h1 h2 h3
 have Hsz:Hid (∀ (j:Nat) (hj:j<[p,q,r].length),([p,q,r][j]).size≤2000000):=fun j hj=>nT (HLs.out _ (List.getElem_mem hj)) hs
 clear hL2 hL3 HLs Hcn
 obtain ⟨b1,hb1⟩:∃ b1,b1=w1.heap.size:=⟨_,rfl⟩
 rw[←hb1] at HV2
 rw[←hb1]
 clear hb1
 go_wp2_with fail
 obtain ⟨w3,hw3⟩:∃ w3,w3=w2.alloc (.cells #[.int .i64 0,.int .i64 0,.int .i64 0] 217):=⟨_,rfl⟩
 have HB3:Hid (Below w2.heap.size w2 w3):=by unfold Hid;rw[hw3];exact bal (bR _ _) _
 have hr3:w3.heap[w2.heap.size]?=some (.cells #[.int .i64 0,.int .i64 0,.int .i64 0] 217 (0,0)):=by rw[hw3];exact heap_alloc_new _ _
 have HV3:=cH (HV2.out.belowSize HB3.out)
 have hz2:w.heap.size<w2.heap.size:=(aS.1 hr2).1
 have hr23:=(HB3.out.block _ hz2).trans hr2
 have HBw3:=cH (bot HB2.out HB3.out)
 have Hz23:Hid (w2.heap.size≤w3.heap.size):=HB3.out.size
 rw[←hw3]
 clear hw3 HB3 HV2 hr2
 generalize w2.heap.size=B5 at *
 clear HB2 HB12
 go_loopw [19] (fun i wr=>∃ (k:Nat) (X:Nat→Int),k≤3∧i=.int .i64 k∧Hid (∀ (j:Nat) (hj:j<[p,q,r].length),j<k→zDD ([p,q,r][j]) (X j))∧Hid (wr.heap[B5]?=some (.cells #[.int .i64 (X 0),.int .i64 (X 1),.int .i64 (X 2)] 217 (0,0)))∧Hid (Below B5 w3 wr∧w3.heap.size≤wr.heap.size)) (fun i _=>3 - (intOf i).toNat)
 case atStart=>exact ⟨0,fun _=>0,nZ _,rfl,fun j hj h=>absurd h (Nat.not_lt_zero _),hr3,bR _ _,nR _⟩
 case round=>
  obtain ⟨k,X,hk,rfl,HX,HR,HB⟩:=hrel
  have hrr:=(HB.out.1.block _ hz2).trans hr23
  have hBw:Below w.heap.size w wr:=HBw3.out.trans (HB.out.1.mono (by have:=HBw3.out.size;omega))
  by_cases hlt:k<3
  case neg=>
   obtain rfl:k=3:=by omega
   have hlt':¬((3:Nat):Int)<3:=by omega
   obtain ⟨⟨c0,c1,c2⟩,f0,f1,f2⟩:=row3 HR.out
   obtain ⟨⟨d0,d1,d2⟩,g0,g1,g2⟩:=row3 hrr
   have hfin:=HpG.out (X 0) (X 1) (X 2) (HX.out 0 (by simp) (by omega)) (HX.out 1 (by simp) (by omega)) (HX.out 2 (by simp) (by omega))
   have Hfin:=cH hfin
   have HBw:=cH hBw
   clear hfin hBw
   generalize X 0=x at *
   generalize X 1=y at *
   generalize X 2=z at *
   go_wp2_with fail
   refine (zCF x y z _).mono ?_
   rintro e w5 ⟨rfl,hb5⟩
   have HB5:=cH (bot HBw.out (bnew hb5))
   have hzr:w.heap.size<wr.heap.size:=(aS.1 hrr).1
   have hr5:w5.heap[w.heap.size]?=some (.cells #[.int .i64 0,.int .i64 0,.int .i64 0] 55 (0,0)):=((bnew hb5).block _ hzr).trans hrr
   have hn5:w5.heap[wr.heap.size]?=some (.cells #[.int .i64 x,.int .i64 y,.int .i64 z] 55 (0,0)):=(hb5.block _ (by simp)).trans (heap_alloc_new _ _)
   obtain ⟨⟨d0,d1,d2⟩,g0,g1,g2⟩:=row3 hr5
   obtain ⟨⟨e0,e1,e2⟩,_⟩:=row3 hn5
   have Hr5:=cH hr5
   clear hb5 c0 c1 c2 f0 f1 f2 hr5 hn5 HR HX HB hrr hzr
   by_cases hvb:verB x y z=true
   ·rw[if_pos hvb] at Hfin
    rw[hvb]
    go_wp2_with fail
    refine zGv rfl rfl rfl rfl (zEI Hr5.out _ _ _) Tryz.underlying55 rfl (by kernel_rfl) ⟨?_,?_⟩
    ·rw[Hfin.out];rfl
    ·exact ((HB5.out.setCell (nR _) _).setCell (nR _) _).setCell (nR _) _
   ·rw[if_neg hvb] at Hfin
    rw[Bool.not_eq_true] at hvb
    rw[hvb]
    go_wp2_with fail
    refine zGv rfl rfl rfl rfl (zEI Hr5.out _ _ _) Tryz.underlying55 rfl (by kernel_rfl) ⟨?_,?_⟩
    ·rw[Hfin.out];rfl
    ·exact ((HB5.out.setCell (nR _) _).setCell (nR _) _).setCell (nR _) _
  have hkI:(k:Int)<3:=by omega
  have hk0:(0:Int)≤(k:Int):=by omega
  have hkx:k<[p,q,r].length:=by simpa using hlt
  obtain ⟨pb,po,cs,he,hpS,_,⟨rfl,_⟩,hcell⟩:=HV3.out.elem (gE hkx)
  simp only[Option.some.injEq,Addr.mk.injEq] at he
  obtain ⟨rfl,rfl,_⟩:=he
  have y0:=zAA HB.out.1 (hcell 0 _ rfl) hpS
  simp only[rStr,Nat.add_zero,Nat.mul_one,Nat.zero_add] at y0
  have Hat:=cH (zNO ([p,q,r][k]) wr (Hv.out.below hBw) (Hsz.out k hkx))
  have Hfl:=cH (HpF.out k hkx)
  have HBw:=cH hBw
  have Hrr:=cH hrr
  have hzr:w.heap.size<wr.heap.size:=(aS.1 hrr).1
  have hlo:=HX.out
  generalize hpt:[p,q,r][k]=pt at *
  have Hpt:=cH hpt
  clear hcell hrr hBw hpt hlo
  go_wp2_with fail
  refine Hat.out.mono ?_
  rintro e w5 ⟨hres,hb5⟩
  have HB5:=cH (bot HBw.out hb5)
  have hr5:=(hb5.block _ hzr).trans Hrr.out
  have HR5:Hid (w5.heap[B5]?=some (.cells #[.int .i64 (X 0),.int .i64 (X 1),.int .i64 (X 2)] 217 (0,0))):=(hb5.block _ (aS.1 HR.out).1).trans HR.out
  have HBB:Hid (Below B5 w3 w5∧w3.heap.size≤w5.heap.size):=⟨HB.out.1.trans (hb5.mono (by have:=(aS.1 HR.out).1;omega)),by have:=hb5.size;have:=HB.out.2;omega⟩
  clear hb5 y0 Hat HR HB
  rcases hres with ⟨x,rfl,hx1,hx2⟩|⟨x,et,ep,rfl,hno⟩
  ·have Hx:=cH (show Lib.atoiAll pt.data.toList=.ok x∧I64 x from ⟨hx1,hx2⟩)
   have Hit:=cH (fun W hW=>zEO x hx2 W hW)
   clear hx1 hx2
   obtain ⟨ix,hix⟩:∃ ix,ix=itoaB x:=⟨_,rfl⟩
   rw[←hix] at Hit
   have Hix:=cH hix
   clear hix
   go_wp2_with fail
   refine (Hit.out _ (Hv.out.below HB5.out).tab).mono ?_
   rintro e w6 ⟨rfl,hb6⟩
   have hz5:w.heap.size<w5.heap.size:=(aS.1 hr5).1
   have hzB:B5<w5.heap.size:=(aS.1 HR5.out).1
   have HB6:=cH (bot HB5.out hb6)
   have hr6:=(hb6.block _ hz5).trans hr5
   have hR6:=(hb6.block _ hzB).trans HR5.out
   have HBB6:Hid (Below B5 w3 w6∧w3.heap.size≤w6.heap.size):=⟨HBB.out.1.trans (hb6.mono (by omega)),by have:=hb6.size;have:=HBB.out.2;omega⟩
   clear hb6 hr5 HR5 HBB HB5 Hit
   by_cases hixp:ix=pt
   ·have hbe:(ix.toList != pt.toList)=false:=by rw[hixp];simp
    have hbe2:(ix.toList==pt.toList)=true:=by rw[hixp];simp
    have HP:Hid (zDD pt x):=⟨Hx.out.1,Hix.out.symm.trans hixp,Hx.out.2⟩
    have hfz:w6.frozen? ⟨B5,k,none⟩=false:=by simp[World.frozen?,hR6]
    have hck:w6.cell? ⟨B5,k,none⟩=some (.int .i64 (X k)):=by
     obtain ⟨⟨c0,c1,c2⟩,_⟩:=row3 hR6
     have:k=0∨k=1∨k=2:=by omega
     rcases this with rfl|rfl|rfl
     ·exact c0
     ·exact c1
     ·exact c2
    have hR7:(w6.setCell ⟨B5,k,none⟩ (.int .i64 x)).heap[B5]?=some (.cells #[.int .i64 (if 0=k then x else X 0),.int .i64 (if 1=k then x else X 1),.int .i64 (if 2=k then x else X 2)] 217 (0,0)):=by
     have:=zAU (o:=k) hR6 (.int .i64 x)
     rw[zPb hlt x] at this
     exact this
    have HR7:=cH hR7
    have HR6:=cH hR6
    clear hixp hR6 hR7 Hix Hx
    go_wp2_with fail
    go_roundw
    case rel=>exact ⟨k+1,fun j=>if j=k then x else X j,by omega,by simp,fun j hj hjk=>by
     by_cases e:j=k
     ·subst e
      have:=Hpt.out
      simp only[if_true]
      rw[this]
      exact HP.out
     ·simp only[if_neg e]
      exact HX.out j hj (by omega),HR7.out,HBB6.out.1.setCell (nR _) _,by
       have h1:=HBB6.out.2
       have h2:(w6.setCell ⟨B5,k,none⟩ (.int .i64 x)).heap.size=w6.heap.size:=by simp[World.setCell]
       rw[h2];exact h1⟩
    case measure=>simp only[intOf];omega
   ·have hne:ix.toList≠pt.toList:=fun e=>hixp (zBF (by rw[Go.ByteArray.toList_eq,Go.ByteArray.toList_eq] at e;exact e))
    have hbe:(ix.toList != pt.toList)=true:=by simpa using hne
    have hbe2:(ix.toList==pt.toList)=false:=by simpa using hne
    clear hne
    have Hno:Hid (zAS s=none):=Hfl.out fun y hy=>by
     have e:=Hx.out.1.symm.trans hy.1
     cases e
     exact hixp (Hix.out.trans hy.2.1)
    obtain ⟨⟨d0,d1,d2⟩,g0,g1,g2⟩:=row3 hr6
    have Hr6:=cH hr6
    clear hr6 hixp Hix Hx hR6
    go_wp2_with fail
    refine zGv rfl rfl rfl rfl (zEI Hr6.out _ _ _) Tryz.underlying55 rfl (by kernel_rfl) ⟨?_,?_⟩
    ·rw[Hno.out];rfl
    ·exact ((HB6.out.setCell (nR _) _).setCell (nR _) _).setCell (nR _) _
  ·have Hno:Hid (zAS s=none):=Hfl.out fun x hx=>hno x hx.1
   obtain ⟨⟨d0,d1,d2⟩,g0,g1,g2⟩:=row3 hr5
   have Hr5:=cH hr5
   clear hno hr5
   go_wp2_with fail
   refine zGv rfl rfl rfl rfl (zEI Hr5.out _ _ _) Tryz.underlying55 rfl (by kernel_rfl) ⟨?_,?_⟩
   ·rw[Hno.out];rfl
   ·exact ((HB5.out.setCell (nR _) _).setCell (nR _) _).setCell (nR _) _
theorem zDR (s:ByteArray) (w:World) (hv:Vok w) (hs:s.size≤1000000) :
 Calls Tryz.prog 97 #[.string s] w fun e w'=>e=.returned (.tuple #[verV ((zAS s).getD ⟨0,0,0⟩),.bool (zAS s).isSome])∧Below w.heap.size w w':=zFJ s w hv (by omega)
def zEi:List UInt8:=[60,62,61,94,126]
def bareB (s:ByteArray):ByteArray:=⟨(Lib.trimLeftS s.data.toList zEi).toArray⟩
def signB (s:ByteArray):ByteArray:=s.extract 0 (s.size - (bareB s).size)
def zCZ (g:List UInt8) (v:Ver):Option Rk:=
 if g=[]∨g=[61] then some (v.rank,v.rank)
 else if g=[60] then some (0,v.rank - 1)
 else if g=[60,61] then some (0,v.rank)
 else if g=[62] then some (v.rank+1,lastR)
 else if g=[62,61] then some (v.rank,lastR)
 else if g=[126] then some (v.rank,v.rank - v.patch+999)
 else if g=[94] then (if 0<v.major then some (v.rank,v.rank - v.patch+999+(999 - v.minor) * 1000) else if 0<v.minor then some (v.rank,v.rank - v.patch+999) else some (v.rank,v.rank))
 else none
noncomputable def wordF (s:ByteArray):Option Rk:=
 if s=⟨#[42]⟩ then some (0,lastR) else match zAS (bareB s) with
  | none=>none
  | some v=>zCZ (signB s).data.toList v
theorem zIJ (s:ByteArray):(bareB s).size≤s.size:=by
 rw[zAJ s]
 have:(Lib.trimLeftS s.data.toList zEi).length≤s.data.toList.length:=(List.dropWhile_sublist _).length_le
 rw[zAJ (bareB s)]
 exact this
theorem zDs {P:Program} {fn:Func} {R:Ending→World→Prop} {ty:TypeId} {d:TypeDesc} {p q:Tmp} {a:Act} {W:World} {g:Nat} {x y bv:Value} {t:TypeId} (hf:fn.results=#[.cell p ty,.tmp q]) (hd:a.defers=[]) (h2:a.tmps.getD p undef=.pointer (some ⟨g,0,none⟩)) (h3:a.tmps.getD q undef=bv)
  (hg:W.heap[g]?=some (.cells #[x,y] t (0,0))) (hu:P.underlying ty=some d) (hdd:(match d with|.struct _|.array _ _=>true|_=>false)=true) (hi:(P.info? ty).map (·.size)=some 2)
  (h:R (.returned (.tuple #[.agg #[x,y],bv])) W):bodyPost P fn R Exit.ret a W:=
 bodyPost_ret (zCH hf a.tmps W g t #[x,y] (0,0) d h2 hg hu hdd hi) hd (by rw[h3];exact h)
theorem row2 {W:World} {b:Nat} {x y:Value} {t:TypeId} (h:W.heap[b]?=some (.cells #[x,y] t (0,0))):(W.cell? ⟨b,0,none⟩=some x∧W.cell? ⟨b,1,none⟩=some y)∧W.frozen? ⟨b,0,none⟩=false∧W.frozen? ⟨b,1,none⟩=false:=by
 refine ⟨⟨cO _ _ 0 _ _ _ h,cO _ _ 1 _ _ _ h⟩,?_,?_⟩<;>simp[World.frozen?,h]
theorem zBY {W:World} {b:Nat} {x y:Value} {t:TypeId} (h:W.heap[b]?=some (.cells #[x,y] t (0,0))) (u v:Value):((W.setCell ⟨b,0,none⟩ u).setCell ⟨b,1,none⟩ v).heap[b]?=some (.cells #[u,v] t (0,0)):=by
 exact zAU (o:=1) (zAU (o:=0) h u) v
theorem zH3 (s:ByteArray) (w:World) :
  Calls Tryz.prog 122 #[.string s,.string ⟨#[60,62,61,94,126]⟩] w fun e w'=>e=.returned (.string (bareB s))∧Below w.heap.size w w':=
 Any.strings_TrimLeft_laid Tryz.laysTrimLeft (by kernel_rfl) s ⟨#[60,62,61,94,126]⟩ w (by decide) (ascii_of_all (by decide))
def Cmp (g:List UInt8) (r:Nat):Prop:=
 (g==[])=(r==0)∧(g==[61])=(r==1)∧(g==[60])=(r==2)∧(g==[60,61])=(r==3)∧(g==[62])=(r==4)∧(g==[62,61])=(r==5)∧(g==[126])=(r==6)∧(g==[94])=(r==7)
theorem sign_cases (g:List UInt8) (v:Ver) :
  (Cmp g 0∧zCZ g v=some (v.rank,v.rank))∨(Cmp g 1∧zCZ g v=some (v.rank,v.rank))∨(Cmp g 2∧zCZ g v=some (0,v.rank - 1))∨(Cmp g 3∧zCZ g v=some (0,v.rank))∨(Cmp g 4∧zCZ g v=some (v.rank+1,lastR)) ∨
  (Cmp g 5∧zCZ g v=some (v.rank,lastR))∨(Cmp g 6∧zCZ g v=some (v.rank,v.rank - v.patch+999)) ∨
  (Cmp g 7∧zCZ g v=(if 0<v.major then some (v.rank,v.rank - v.patch+999+(999 - v.minor) * 1000) else if 0<v.minor then some (v.rank,v.rank - v.patch+999) else some (v.rank,v.rank)))∨(Cmp g 8∧zCZ g v=none):=by
 by_cases h0:g=[]
 ·subst h0;exact .inl ⟨by unfold Cmp;decide,rfl⟩
 refine .inr ?_
 by_cases h1:g=[61]
 ·subst h1;exact .inl ⟨by unfold Cmp;decide,rfl⟩
 refine .inr ?_
 by_cases h2:g=[60]
 ·subst h2;exact .inl ⟨by unfold Cmp;decide,rfl⟩
 refine .inr ?_
 by_cases h3:g=[60,61]
 ·subst h3;exact .inl ⟨by unfold Cmp;decide,rfl⟩
 refine .inr ?_
 by_cases h4:g=[62]
 ·subst h4;exact .inl ⟨by unfold Cmp;decide,rfl⟩
 refine .inr ?_
 by_cases h5:g=[62,61]
 ·subst h5;exact .inl ⟨by unfold Cmp;decide,rfl⟩
 refine .inr ?_
 by_cases h6:g=[126]
 ·subst h6;exact .inl ⟨by unfold Cmp;decide,rfl⟩
 refine .inr ?_
 by_cases h7:g=[94]
 ·subst h7;exact .inl ⟨by unfold Cmp;decide,rfl⟩
 refine .inr ⟨⟨?_,?_,?_,?_,?_,?_,?_,?_⟩,?_⟩
 all_goals first|(show _=false;rw[beq_eq_false_iff_ne];assumption)|skip
 unfold zCZ
 simp[h0,h1,h2,h3,h4,h5,h6,h7]
def rkV (x:Rk):Value:=.agg #[.int .i64 x.1,.int .i64 x.2]
theorem zRg (s:ByteArray) (w:World) (hv:Vok w) (hs:s.size≤1000000) :
  Calls Tryz.prog 158 #[.string s] w fun e w'=>e=.returned (.tuple #[rkV ((wordF s).getD (0,0)),.bool (wordF s).isSome])∧Below w.heap.size w w':=by
 have Hv:=cH hv
 have Ht:Hid (∀ W,Calls Tryz.prog 122 #[.string s,.string ⟨#[60,62,61,94,126]⟩] W fun e w'=>e=.returned (.string (bareB s))∧Below W.heap.size W w'):=fun W=>zH3 s W
 have Hp:Hid (∀ W,Vok W→Calls Tryz.prog 97 #[.string (bareB s)] W fun e w'=>e=.returned (.tuple #[verV ((zAS (bareB s)).getD ⟨0,0,0⟩),.bool (zAS (bareB s)).isSome])∧Below W.heap.size W w'):=fun W hW=>zDR _ W hW (nT (zIJ s) hs)
 have hbz:=zIJ s
 have hus:∃ u:Ver,u=(zAS (bareB s)).getD ⟨0,0,0⟩∧u.ok=true:=by
  cases h:zAS (bareB s) with
  | none=>exact ⟨_,rfl,rfl⟩
  | some v=>exact ⟨_,rfl,(zGc h).1⟩
 obtain ⟨u,hu,huok⟩:=hus
 have Hr:Hid (∀ W,Calls Tryz.prog 217 #[.agg #[.int .i64 u.major,.int .i64 u.minor,.int .i64 u.patch]] W fun e w'=>e=.returned (.tuple #[.int .i64 u.rank,.bool true])∧Below W.heap.size W w'):=fun W=>by
  have:=zCO u.major u.minor u.patch W
  rw[show verB u.major u.minor u.patch=true from huok] at this
  exact this
 rw[←hu] at Hp
 have HwN:Hid (s≠⟨#[42]⟩→zAS (bareB s)=none→wordF s=none):=fun h1 h2=>by unfold wordF;rw[if_neg h1,h2]
 have HwS:Hid (s≠⟨#[42]⟩→(zAS (bareB s)).isSome=true→wordF s=zCZ (signB s).data.toList u):=fun h1 h2=>by
  unfold wordF;rw[if_neg h1]
  obtain ⟨v,hv⟩:=Option.isSome_iff_exists.1 h2
  rw[hv]
  rw[hv] at hu
  rw[hu];rfl
 have HwA:Hid (s=⟨#[42]⟩→wordF s=some (0,lastR)):=fun h=>by unfold wordF;rw[if_pos h]
 obtain ⟨⟨a0,a1⟩,⟨b0,b1⟩,c0,c1⟩:=zA0.1 (show verB u.major u.minor u.patch=true from huok)
 have hrk:0≤u.rank∧u.rank≤999999999:=by rw[u.rank_ok huok];exact zDf huok
 have Hsg:=cH (sign_cases (signB s).data.toList u)
 have hgs:s.extract 0 (s.size - (bareB s).size)=signB s:=rfl
 have Hgs:=cH hgs
 clear hv hu huok hgs
 have hnil:(zAS (bareB s)).isSome=false→zAS (bareB s)=none:=fun h=>by simpa using h
 have Hnil:=cH hnil
 clear hnil
 generalize (zAS (bareB s)).isSome=ok at *
 generalize bareB s=bs at *
 obtain ⟨M,m,p⟩:=u
 simp only at a0 a1 b0 b1 c0 c1 hrk Hsg Hr Hp HwS
 obtain ⟨n,hn⟩:∃ n,n=Ver.rank ⟨M,m,p⟩:=⟨_,rfl⟩
 rw[←hn] at hrk Hsg Hr
 clear hn
 unfold verV at Hp
 simp only at Hp
 by_cases hst:s=⟨#[42]⟩
 ·have hb:(s.toList==[42])=true:=by rw[hst,Go.ByteArray.toList_eq];rfl
  have Hw:=cH (HwA.out hst)
  clear HwN HwS HwA hst Hsg
  go_enter Tryz.func158,Tryz.ntmps158
  go_wp2_with fail
  refine zDs rfl rfl rfl rfl (heap_alloc_new w _) Tryz.underlying211 rfl (by kernel_rfl) ⟨?_,?_⟩
  ·rw[Hw.out];rfl
  ·exact bal (bR _ _) _
 ·have hb:(s.toList==[42])=false:=by
   rw[beq_eq_false_iff_ne];intro e;exact hst (zBF (by rw[Go.ByteArray.toList_eq] at e;exact e))
  have HwN':=cH (HwN.out hst)
  have HwS':=cH (HwS.out hst)
  have hlen:IntKind.i64.wrap ((s.size:Int) - (bs.size:Int))=((s.size - bs.size:Nat):Int):=by rw[IntWalk.i64_in _ ⟨by omega,by omega⟩];omega
  have hle1:s.size - bs.size≤s.size:=by omega
  clear HwN HwS HwA hst
  go_enter Tryz.func158,Tryz.ntmps158
  go_wp2_with fail
  obtain ⟨w1,hw1⟩:∃ w1,w1=w.alloc (.cells #[.int .i64 0,.int .i64 0] 211):=⟨_,rfl⟩
  have HB1:Hid (Below w.heap.size w w1):=by unfold Hid;rw[hw1];exact bal (bR _ _) _
  have hr1:w1.heap[w.heap.size]?=some (.cells #[.int .i64 0,.int .i64 0] 211 (0,0)):=by rw[hw1];exact heap_alloc_new w _
  rw[←hw1]
  clear hw1
  refine (Ht.out _).mono ?_
  rintro e w2 ⟨rfl,hb2⟩
  have HB2:=cH (bot HB1.out hb2)
  have hz1:w.heap.size<w1.heap.size:=(aS.1 hr1).1
  have hr2:=(hb2.block _ hz1).trans hr1
  clear hb2 hr1 hz1 HB1
  go_wp2_with fail
  refine (Hp.out _ (Hv.out.below HB2.out)).mono ?_
  rintro e w3 ⟨rfl,hb3⟩
  have HB3:=cH (bot HB2.out hb3)
  have hz2:w.heap.size<w2.heap.size:=(aS.1 hr2).1
  have hr3:=(hb3.block _ hz2).trans hr2
  clear hb3 hr2 hz2 HB2
  go_wp2_with fail
  refine (Hr.out _).mono ?_
  rintro e w4 ⟨rfl,hb4⟩
  have HB4:=cH (bot HB3.out (bnew hb4))
  have hz3:w.heap.size<w3.heap.size:=(aS.1 hr3).1
  have hr4:w4.heap[w.heap.size]?=some (.cells #[.int .i64 0,.int .i64 0] 211 (0,0)):=((bnew hb4).block _ hz3).trans hr3
  have hn4:w4.heap[w3.heap.size]?=some (.cells #[.int .i64 M,.int .i64 m,.int .i64 p] 55 (0,0)):=(hb4.block _ (by simp)).trans (heap_alloc_new _ _)
  obtain ⟨⟨v0,v1,v2⟩,_⟩:=row3 hn4
  obtain ⟨⟨d0,d1⟩,f0,f1⟩:=row2 hr4
  have Hr4:=cH hr4
  clear hb4 hr3 hr4 hn4 hz3 HB3 Ht Hp Hr
  have e1:IntKind.i64.wrap (n - p)=n - p:=IntWalk.i64_in _ ⟨by omega,by omega⟩
  have e2:IntKind.i64.wrap (n - p+999)=n - p+999:=IntWalk.i64_in _ ⟨by omega,by omega⟩
  have e3:IntKind.i64.wrap (999 - m)=999 - m:=IntWalk.i64_in _ ⟨by omega,by omega⟩
  have e4:IntKind.i64.wrap ((999 - m) * 1000)=(999 - m) * 1000:=IntWalk.i64_in _ ⟨by omega,by omega⟩
  have e5:IntKind.i64.wrap (n - p+999+(999 - m) * 1000)=n - p+999+(999 - m) * 1000:=IntWalk.i64_in _ ⟨by omega,by omega⟩
  have e6:IntKind.i64.wrap (n - 1)=n - 1:=IntWalk.i64_in _ ⟨by omega,by omega⟩
  have e7:IntKind.i64.wrap (n+1)=n+1:=IntWalk.i64_in _ ⟨by omega,by omega⟩
  cases ok with
  | false=>
    have Hw:=cH (HwN'.out (Hnil.out rfl))
    clear HwN' HwS' Hnil Hsg Hgs
    go_wp2_with fail
    refine zDs rfl rfl rfl rfl (zBY Hr4.out _ _) Tryz.underlying211 rfl (by kernel_rfl) ⟨?_,?_⟩
    ·rw[Hw.out];rfl
    ·exact (HB4.out.setCell (nR _) _).setCell (nR _) _
  | true=>
    have Hw:=cH (HwS'.out rfl)
    have hgs:=Hgs.out
    clear HwN' HwS' Hnil
    have htl:∀ l:List UInt8,((signB s).toList==l)=((signB s).data.toList==l):=fun l=>by rw[Go.ByteArray.toList_eq]
    rcases Hsg.out with ⟨hc,hr⟩|⟨hc,hr⟩|⟨hc,hr⟩|⟨hc,hr⟩|⟨hc,hr⟩|⟨hc,hr⟩|⟨hc,hr⟩|⟨hc,hr⟩|⟨hc,hr⟩
    rotate_left 7
    ·have hr':=hr
     rw[hr] at Hw
     clear hr hr'
     unfold Cmp at hc
     simp only[←htl] at hc
     simp only[Nat.reduceBEq] at hc
     obtain ⟨g0,g1,g2,g3,g4,g5,g6,g7⟩:=hc
     generalize signB s=sg at *
     clear htl Hsg Hgs
     by_cases hM:0<M
     ·rw[if_pos hM] at Hw
      go_wp2_with fail
      refine zDs rfl rfl rfl rfl (zBY Hr4.out _ _) Tryz.underlying211 rfl (by kernel_rfl) ⟨?_,?_⟩
      ·rw[Hw.out];rfl
      ·exact (HB4.out.setCell (nR _) _).setCell (nR _) _
     ·rw[if_neg hM] at Hw
      by_cases hm:0<m
      ·rw[if_pos hm] at Hw
       go_wp2_with fail
       refine zDs rfl rfl rfl rfl (zBY Hr4.out _ _) Tryz.underlying211 rfl (by kernel_rfl) ⟨?_,?_⟩
       ·rw[Hw.out];rfl
       ·exact (HB4.out.setCell (nR _) _).setCell (nR _) _
      ·rw[if_neg hm] at Hw
       go_wp2_with fail
       refine zDs rfl rfl rfl rfl (zBY Hr4.out _ _) Tryz.underlying211 rfl (by kernel_rfl) ⟨?_,?_⟩
       ·rw[Hw.out];rfl
       ·exact (HB4.out.setCell (nR _) _).setCell (nR _) _
    all_goals
     rw[hr] at Hw
     unfold Cmp at hc
     simp only[←htl] at hc
     simp only[Nat.reduceBEq] at hc
     obtain ⟨g0,g1,g2,g3,g4,g5,g6,g7⟩:=hc
     generalize signB s=sg at *
     clear hr htl Hsg Hgs
     go_wp2_with fail
     refine zDs rfl rfl rfl rfl (zBY Hr4.out _ _) Tryz.underlying211 rfl (by kernel_rfl) ⟨?_,?_⟩
     ·rw[Hw.out];rfl
     ·exact (HB4.out.setCell (nR _) _).setCell (nR _) _
attribute [local go_sem] Oper.semAt_some
def barsB:ByteArray:=⟨#[124,124]⟩
def zCr:ByteArray:=⟨#[32]⟩
noncomputable def stepW (st:Option (Rk×Bool)) (s:ByteArray):Option (Rk×Bool):=match st with
 | none=>none
 | some (o,b)=>if s=⟨#[]⟩ then some (o,b) else match wordF s with
   | none=>none
   | some x=>some ((max o.1 x.1,min o.2 x.2),true)
noncomputable def innF (l:List ByteArray):Option (Rk×Bool):=l.foldl stepW (some ((0,lastR),false))
noncomputable def stepA (st:Option (List Rk)) (a:ByteArray):Option (List Rk):=match st with
 | none=>none
 | some all=>match innF (spl a zCr) with
   | none=>none
   | some (o,b)=>if b=false then none else if o.1≤o.2 then some (all++[o]) else some all
noncomputable def altsF (l:List ByteArray):Option (List Rk):=l.foldl stepA (some [])
noncomputable def zFT (t:ByteArray):Option (List Rk):=if 4096<t.size then none else altsF (spl t barsB)
noncomputable def zBM (t:ByteArray):List Spn×Int:=match zFT t with
 | none=>([],21)
 | some l=>fitR (canon (Has l))
theorem zFU {α β:Type} {f:Option α→β→Option α} (hf:∀ x,f none x=none):∀ l:List β,l.foldl f none=none:=by
 intro l
 induction l with
 | nil=>rfl
 | cons x l ih=>rw[List.foldl_cons,hf];exact ih
theorem zHe {α β:Type} {f:Option α→β→Option α} (hf:∀ x,f none x=none) {s:Option α} {l:List β} {k:Nat} (h:(l.take k).foldl f s=none):l.foldl f s=none:=by
 conv=>lhs;rw[←List.take_append_drop k l]
 rw[List.foldl_append,h];exact zFU hf _
theorem zLO {α β:Type} {f:α→β→α} {s:α} {l:List β} {k:Nat} (h:k<l.length):(l.take (k+1)).foldl f s=f ((l.take k).foldl f s) l[k]:=by
 rw[List.take_succ_eq_append_getElem h,List.foldl_append];rfl
theorem zIs (s:ByteArray):stepW none s=none:=rfl
theorem zEW (s:ByteArray):stepA none s=none:=rfl
theorem zF7 {s:ByteArray} {x:Rk} (h:wordF s=some x):(0≤x.1∧x.1≤1000000000)∧-1≤x.2∧x.2≤lastR:=by
 unfold wordF at h
 split at h
 ·cases h;unfold lastR;exact ⟨⟨by decide,by decide⟩,by decide,by decide⟩
 ·split at h
  ·cases h
  ·rename_i v hv
   obtain ⟨hok,_⟩:=zGc hv
   have hr:v.rank=rankI v.major v.minor v.patch:=v.rank_ok hok
   obtain ⟨⟨a0,a1⟩,⟨b0,b1⟩,c0,c1⟩:=zA0.1 (show verB v.major v.minor v.patch=true from hok)
   unfold rankI at hr
   unfold lastR
   rcases sign_cases (signB s).data.toList v with ⟨_,hs⟩|⟨_,hs⟩|⟨_,hs⟩|⟨_,hs⟩|⟨_,hs⟩|⟨_,hs⟩|⟨_,hs⟩|⟨_,hs⟩|⟨_,hs⟩<;>rw[hs] at h
   rotate_left 7
   ·split at h
    ·cases h;constructor<;>constructor<;>(simp only;omega)
    ·split at h<;>(cases h;constructor<;>constructor<;>(simp only;omega))
   ·cases h
   all_goals (cases h;constructor<;>constructor<;>(simp only[lastR];omega))
theorem zOt (sep:ByteArray):∀ (k:Nat) (s:ByteArray),(Lib.splitB sep 0 k s).length≤k+1:=by
 intro k
 induction k with
 | zero=>intro s;rw[Lib.splitB_zero];simp
 | succ k ih=>
   intro s
   rcases Lib.indexB_cases s sep with hi|⟨i,hi,hir⟩
   ·rw[Lib.splitB_miss _ _ _ _ hi];simp
   ·rw[Lib.splitB_hit _ _ _ _ _ hi,List.length_cons];have:=ih (s.extract (i+sep.size) s.size);omega
theorem zGj:∀ (l:List ByteArray) {o:Rk} {b:Bool},innF l=some (o,b)→(0≤o.1∧o.1≤1000000000)∧-1≤o.2∧o.2≤lastR:=by
 intro l
 suffices H:∀ (l:List ByteArray) (o0:Rk) (b0:Bool),((0≤o0.1∧o0.1≤1000000000)∧-1≤o0.2∧o0.2≤lastR)→∀ (o:Rk) (b:Bool),l.foldl stepW (some (o0,b0))=some (o,b)→(0≤o.1∧o.1≤1000000000)∧-1≤o.2∧o.2≤lastR from
  fun o b h=>H l (0,lastR) false (by unfold lastR;decide) o b h
 intro l
 induction l with
 | nil=>intro o0 b0 h0 o b h;cases h;exact h0
 | cons x l ih=>
   intro o0 b0 h0 o b h
   rw[List.foldl_cons] at h
   by_cases hx:x=⟨#[]⟩
   ·rw[show stepW (some (o0,b0)) x=some (o0,b0) by unfold stepW;simp only[if_pos hx]] at h
    exact ih o0 b0 h0 o b h
   ·cases hw:wordF x with
    | none=>
      rw[show stepW (some (o0,b0)) x=none by unfold stepW;simp only[if_neg hx,hw],zFU zIs] at h
      cases h
    | some y=>
      rw[show stepW (some (o0,b0)) x=some ((max o0.1 y.1,min o0.2 y.2),true) by unfold stepW;simp only[if_neg hx,hw]] at h
      refine ih _ _ ?_ o b h
      have:=zF7 hw
      simp only
      omega
theorem zJ8 (l:List ByteArray) {all:List Rk} (h:altsF l=some all):In0 all∧all.length≤l.length:=by
 suffices H:∀ (l:List ByteArray) (a0:List Rk),In0 a0→∀ all,l.foldl stepA (some a0)=some all→In0 all∧all.length≤a0.length+l.length by
  have:=H l [] (fun x hx=>by simp at hx) all h
  simpa using this
 intro l
 induction l with
 | nil=>intro a0 h0 all h;cases h;exact ⟨h0,by simp⟩
 | cons x l ih=>
   intro a0 h0 all h
   rw[List.foldl_cons] at h
   unfold stepA at h
   simp only at h
   change l.foldl stepA _=_ at h
   cases hi:innF (spl x zCr) with
   | none=>simp only[hi] at h;rw[zFU zEW] at h;cases h
   | some q=>
     obtain ⟨o,b⟩:=q
     simp only[hi] at h
     have hb:=zGj _ hi
     split at h
     ·rw[zFU zEW] at h;cases h
     ·split at h
      ·rename_i hle
       obtain ⟨q1,q2⟩:=ih _ (fun y hy=>by
        rcases List.mem_append.1 hy with hy|hy
        ·exact h0 y hy
        ·simp at hy;subst hy;exact ⟨hb.1.1,hle,hb.2.2⟩) all h
       refine ⟨q1,?_⟩
       rw[List.length_append] at q2
       simp only[List.length_cons,List.length_nil] at q2 ⊢
       omega
      ·obtain ⟨q1,q2⟩:=ih _ h0 all h
       exact ⟨q1,by simp only[List.length_cons];omega⟩
