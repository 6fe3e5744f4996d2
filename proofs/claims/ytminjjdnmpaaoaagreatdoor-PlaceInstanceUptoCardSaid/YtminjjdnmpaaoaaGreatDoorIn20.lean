/- Is a version in a range; may a manifest be: what of the ranges and of the manifests the placer wants. (Printed by extract.py.) -/
import Derived.Test.YtminjjdnmpaaoaaGreatDoorIn19
import Derived.Test.YtminjjdnmpaaoaaGreatDoorIn08
import Derived.Test.YtminjjdnmpaaoaaGreatDoorIn17
import Derived.Lib.Split
import Derived.Lib.SplitLaws
import Derived.Lib.PathFns
import Derived.Lib.IndexMore
import Derived.Lib.UnsafeStr
import Derived.Lib.AtoiAllCases
import Derived.RangeFuncNested
import Derived.RangeFuncBound
import Derived.RangeFuncCalls
import Derived.RangeFuncLeaves
import Derived.OwnWalkIn
import Derived.Shelf.Abstract
import Derived.Shelf.RegionOpen
import Derived.TacticsInMore
import Derived.LoopNIn
import Derived.LoopIn
import Derived.Deep.CutRange
import Derived.Deep.RegionLaw
import Derived.WalkKit
import Derived.WalkSpells
import Derived.IntWalk
import Derived.Lib.Hide
import Derived.ScopeJumps
import Derived.WalkMore
import Derived.Test.YtminjjdnmpaaoaaGreatDoorIn18
import Derived.Test.YtminjjdnmpaaoaaGreatDoorAl
set_option linter.all false
set_option maxHeartbeats 6400000
set_option maxRecDepth 100000
namespace Go.Proofs.YtminjjdnmpaaoaaGreatDoor
open Go.Rows Go.RowKit Go.Shelf Go.Sort
def verV (v:Ver):Value:=.agg #[.int .i64 v.major,.int .i64 v.minor,.int .i64 v.patch]
theorem row3 {W:World} {b:Nat} {x y z:Value} {t:TypeId} (h:W.heap[b]?=some (.cells #[x,y,z] t (0,0))):(W.cell? ⟨b,0,none⟩=some x∧W.cell? ⟨b,1,none⟩=some y∧W.cell? ⟨b,2,none⟩=some z)∧W.frozen? ⟨b,0,none⟩=false∧W.frozen? ⟨b,1,none⟩=false∧W.frozen? ⟨b,2,none⟩=false:=by
 refine ⟨⟨cO _ _ 0 _ _ _ h,cO _ _ 1 _ _ _ h,cO _ _ 2 _ _ _ h⟩,?_,?_,?_⟩<;>simp[World.frozen?,h]
structure Turn (X:Nat→Prop) (W W':World):Prop where
 os:W'.os=W.os
 tape:W'.tape=W.tape
 output:W'.output=W.output
 size:W.heap.size≤W'.heap.size
 block:∀ k,k<W.heap.size→¬X k→W'.heap[k]?=W.heap[k]?
theorem Turn.refl (X:Nat→Prop) (W:World):Turn X W W:=⟨rfl,rfl,rfl,nR _,fun _ _ _=>rfl⟩
theorem Turn.trans {X:Nat→Prop} {A B C:World} (h:Turn X A B) (k:Turn X B C):Turn X A C:=
 ⟨k.os.trans h.os,k.tape.trans h.tape,k.output.trans h.output,nT h.size k.size,fun i hi hx=>(k.block i (lL hi h.size) hx).trans (h.block i hi hx)⟩
theorem Turn.mono {X Y:Nat→Prop} {A B:World} (h:Turn X A B) (hxy:∀ k,k<A.heap.size→X k→Y k):Turn Y A B:=⟨h.os,h.tape,h.output,h.size,fun i hi hy=>h.block i hi fun hx=>hy (hxy i hi hx)⟩
theorem Turn.below {X:Nat→Prop} {A B:World} {n:Nat} (h:Turn X A B) (hn:n≤A.heap.size) (hx:∀ k,X k→n≤k):Below n A B:=⟨h.os,h.tape,h.output,h.size,fun i hi=>h.block i (by omega) fun hxi=>by have:=hx i hxi;omega⟩
theorem Turn.grown {X:Nat→Prop} {A B:World} {r:Option Nat} (h:A.grownBy B r) (hr:∀ k,r=some k→X k):Turn X A B:=⟨h.os,h.tape,h.output,h.size,fun i hi hx=>h.block i hi fun e=>hx (hr i e.symm)⟩
theorem Turn.alloc {X:Nat→Prop} (W:World) (o:Obj):Turn X W (W.alloc o):=Turn.grown (r:=none) (World.grownBy_alloc W o none) fun k e=>by cases e
theorem Turn.at {X:Nat→Prop} {A B:World} (h:Turn X A B) {b:Nat} {o:Obj} (hb:A.heap[b]?=some o) (hx:¬X b):B.heap[b]?=some o:=(h.block b (aS.1 hb).1 hx).trans hb
theorem Own.cells {α:Type} {r:Rp α} {A:World} {base:Nat} {e:TypeId} {v:Value} {l:List α} {S:Nat→Prop} (h:Own r A base e v l S) {g:Nat} (hg:v.ownBlock=some g):base≤g∧¬∃ o,A.heap[g]?=some o∧o.isCells=false:=by
 obtain ⟨h0,xs,h1,h2⟩:=h
 rcases h1.2 with ⟨rfl,_⟩|⟨g',cap,cur,rfl,h2,h3,h4⟩
 ·simp[Value.ownBlock] at hg
 ·obtain rfl:g'=g:=by simpa [Value.ownBlock] using hg
  refine ⟨h2,?_⟩
  rintro ⟨o,ho,hc⟩
  rw[h3] at ho;cases ho;cases hc
noncomputable def inSB (l:List Spn) (v:Ver):Bool:=zAp l&&(v.ok&&hasB (rks l) v.rank)
theorem zE2 (A:Option Addr) (n c:Nat) (l:List Spn) (v:Ver) (w:World) (S:Nat→Prop) (hl:SlV rSpn w S l (.slice A n c)) :
  Calls Tryz.prog 145 #[.slice A n c,verV v] w fun e w'=>e=.returned (.bool (inSB l v))∧Below w.heap.size w w':=by
 have HX:=cH (hl.more (S':=fun b=>b<w.heap.size) fun b _ h=>h)
 have H1:Hid (∀ W,Below w.heap.size w W→Calls Tryz.prog 139 #[.slice A n c] W fun e w'=>e=.returned (.bool (zAp l))∧Below W.heap.size W w'):=fun W hW=>zCQ A n c l W _ (HX.out.belowSize hW)
 have H2:=cH (fun W=>zBJ v.major v.minor v.patch W)
 have H3:=cH (fun W=>zA9 v.major v.minor v.patch W)
 have H4:Hid (∀ W,Below w.heap.size w W→Calls Tryz.prog 165 #[.slice A n c,.int .i64 (rankR v.major v.minor v.patch)] W fun e w'=>e=.returned (.bool (hasB (rks l) (rankR v.major v.minor v.patch)))∧Below W.heap.size W w'):=
  fun W hW=>zM2 A n c l _ W _ (HX.out.belowSize hW)
 have HR:Hid (inSB l v=(zAp l&&(verB v.major v.minor v.patch&&hasB (rks l) (rankR v.major v.minor v.patch)))):=rfl
 unfold verV
 generalize inSB l v=R at *
 generalize zAp l=p at *
 generalize verB v.major v.minor v.patch=q at *
 generalize rankR v.major v.minor v.patch=N at *
 generalize hasB (rks l) N=r at *
 obtain ⟨v1,v2,v3⟩:=v
 simp only at H2 H3 ⊢
 clear hl HX
 go_enter Tryz.func145,Tryz.ntmps145
 go_wp2_with fail
 obtain ⟨w0,hw0⟩:∃ w0,w0=w.alloc (.cells #[.int .i64 v1,.int .i64 v2,.int .i64 v3] 50):=⟨_,rfl⟩
 have hb0:Below w.heap.size w w0:=by rw[hw0];exact bal (bR _ _) _
 have hr0:w0.heap[w.heap.size]?=some (.cells #[.int .i64 v1,.int .i64 v2,.int .i64 v3] 50 (0,0)):=by rw[hw0];exact heap_alloc_new _ _
 rw[←hw0]
 clear hw0
 refine (H1.out _ hb0).mono ?_
 rintro e w1 ⟨rfl,hb1⟩
 have hlt0:w.heap.size<w0.heap.size:=(aS.1 hr0).1
 have hr1:=(hb1.block _ hlt0).trans hr0
 have HB1:=cH (bot hb0 hb1)
 obtain ⟨⟨c0,c1,c2⟩,_⟩:=row3 hr1
 have Hr1:=cH hr1
 clear hb0 hb1 hr0 hr1 H1
 cases p with
 | false=>
   have He:Hid (R=false):=by unfold Hid;rw[HR.out];rfl
   go_wp2_with fail
   go_ret
   exact ⟨zAB He.out.symm,HB1.out⟩
 | true=>
 go_wp2_with fail
 refine (H2.out _).mono ?_
 rintro e w2 ⟨rfl,hb2⟩
 have hlt1:w.heap.size<w1.heap.size:=(aS.1 Hr1.out).1
 have hr2:=(hb2.block _ hlt1).trans Hr1.out
 have HB2:=cH (bot HB1.out hb2)
 obtain ⟨⟨d0,d1,d2⟩,_⟩:=row3 hr2
 have hr2H:=cH hr2
 clear hb2 hr2 c0 c1 c2 H2
 cases q with
 | false=>
   have He:Hid (R=false):=by unfold Hid;rw[HR.out];rfl
   go_wp2_with fail
   go_ret
   exact ⟨zAB He.out.symm,HB2.out⟩
 | true=>
 have He:Hid (R=r):=by unfold Hid;rw[HR.out];rfl
 go_wp2_with fail
 refine (H3.out _).mono ?_
 rintro e w3 ⟨rfl,hb3⟩
 have HB3:=cH (bot HB2.out hb3)
 have H4':=cH (H4.out w3 HB3.out)
 clear H4 H3 hb3
 cases r <;>
 ·go_wp2_with fail
  refine H4'.out.mono ?_
  rintro e w4 ⟨rfl,hb4⟩
  go_wp2_with fail
  go_ret
  exact ⟨zAB He.out.symm,bot HB3.out hb4⟩
def devW:ByteArray:=⟨#[100,101,118]⟩
def pinsW:ByteArray:=⟨#[112,105,110,115]⟩
def zIY:ByteArray:=⟨#[112,114,111,106,101,99,116]⟩
def zCp (m:Mani):ByteArray:=zIY++nlB++zAG zBm m.deps++zAG devW m.dev++zAG zB1 m.opts++zAG pinsW m.over
noncomputable def maniB (m:Mani):Bool:=
 listB m.deps&&(listB m.dev&&(listB m.opts&&(listB m.over&&(zBL (zAH [m.deps,m.dev,m.opts])&&decide ((zCp m).size≤4096)))))
def Live (w:World) (b:Nat):Prop:=∃ cs t,w.heap[b]?=some (.cells cs t (0,0))
def Fresh (B:Nat) (w:World) (b:Nat):Prop:=B≤b∧Live w b
theorem zIN {w:World} {b:Nat} (h:Live w b):b<w.heap.size:=by
 obtain ⟨cs,t,h⟩:=h
 exact (aS.1 h).1
theorem zGs {w w':World} {b:Nat} (h:Live w b) (hk:w'.heap[b]?=w.heap[b]?):Live w' b:=by unfold Live;rw[hk];exact h
def zCn (n B:Nat) (w:World) (v:Nat→Value) (l:Nat→List Dep) (S:Nat→Prop):Prop:=
 (∀ j,j<n→Own rDep w B 68 (v j) (l j) S)∧(∀ b,S b→Fresh B w b)∧(∀ i j g,i<n→j<n→i≠j→(v i).ownBlock=some g→(v j).ownBlock≠some g)
section
variable {n B:Nat} {w w':World} {v:Nat→Value} {l:Nat→List Dep} {S:Nat→Prop}
theorem zCn.keep (h:zCn n B w v l S) (hb:Below w.heap.size w w'):zCn n B w' v l S:=
 ⟨fun j hj=>(h.1 j hj).keep hb,fun b hs=>⟨(h.2.1 b hs).1,zGs (h.2.1 b hs).2 (hb.block b (zIN (h.2.1 b hs).2))⟩,h.2.2⟩
end
section
variable {n B:Nat} {w w':World} {v:Nat→Value} {l:Nat→List Dep} {S:Nat→Prop}
theorem zCn.at (h:zCn n B w v l S) {b:Nat} (hb:b<B) (hg:w.grownBy w' (some b)):zCn n B w' v l S:=by
 refine ⟨fun j hj=>(h.1 j hj).grown hg ?_ ?_,fun c hs=>⟨(h.2.1 c hs).1,zGs (h.2.1 c hs).2 (hg.block c (zIN (h.2.1 c hs).2) ?_)⟩,h.2.2⟩
 ·cases hv:(v j).ownBlock with
  | none=>exact .inl rfl
  | some g=>exact .inr fun e=>by have:=((h.1 j hj).lt g hv).1;simp only[Option.some.injEq] at e;omega
 ·intro c hs e
  cases e
  have:=(h.2.1 b hs).1;omega
 ·intro e
  cases e
  have:=(h.2.1 b hs).1;omega
end
section
variable {n B:Nat} {w w':World} {v:Nat→Value} {l:Nat→List Dep} {S:Nat→Prop}
theorem zCn.more (h:zCn n B w v l S) (hb:Below w.heap.size w w') (hB:B≤w.heap.size):zCn n B w' v l (fun b=>S b∨Fresh w.heap.size w' b):=by
 have hk:=h.keep hb
 refine ⟨fun j hj=>(hk.1 j hj).more ?_ (fun b hs=>.inl hs),?_,h.2.2⟩
 ·rintro b (hs|hs)
  ·exact (hk.1 j hj).1 b hs
  ·exact ⟨zIN hs.2,fun e=>by have:=((h.1 j hj).lt b e).2;have:=hs.1;omega⟩
 ·rintro b (hs|hs)
  ·exact hk.2.1 b hs
  ·exact ⟨nT hB hs.1,hs.2⟩
end
def zKd (hd:List Value) (n:Nat) (v:Nat→Value):Array Value:=(hd++(List.range n).map v).toArray
theorem zKK (hd:List Value) {n:Nat} (v:Nat→Value) {j:Nat} (h:j<n):(zKd hd n v)[hd.length+j]?=some (v j):=by
 unfold zKd
 rw[List.getElem?_toArray,List.getElem?_append_right (by omega),Nat.add_sub_cancel_left,List.getElem?_map,List.getElem?_range h]
 rfl
def zCR (P:Nat) (hd:List Value) (t:TypeId) (n:Nat) (w:World) (v:Nat→Value):Prop:=w.heap[P]?=some (.cells (zKd hd n v) t (0,0))
section
variable {P n:Nat} {hd:List Value} {t:TypeId} {w w':World} {v:Nat→Value}
theorem zCR.lt (h:zCR P hd t n w v):P<w.heap.size:=(aS.1 h).1
end
section
variable {P n:Nat} {hd:List Value} {t:TypeId} {w w':World} {v:Nat→Value}
theorem zCR.cell (h:zCR P hd t n w v) {j:Nat} (hj:j<n):w.cell? ⟨P,hd.length+j,none⟩=some (v j):=by
 rw[cO w P _ _ t _ h,zKK hd v hj]
end
section
variable {P n:Nat} {hd:List Value} {t:TypeId} {w w':World} {v:Nat→Value}
theorem zCR.keep (h:zCR P hd t n w v) (hb:Below w.heap.size w w'):zCR P hd t n w' v:=(hb.block P h.lt).trans h
end
section
variable {P n:Nat} {hd:List Value} {t:TypeId} {w w':World} {v:Nat→Value}
theorem zCR.grown (h:zCR P hd t n w v) {row:Option Nat} (hg:w.grownBy w' row) (hne:some P≠row):zCR P hd t n w' v:=(hg.block P h.lt hne).trans h
end
theorem SlV.at {α:Type} {r:Rp α} {w:World} {S:Nat→Prop} {l:List α} {A:Option Addr} {n c:Nat} (h:SlV r w S l (.slice A n c)) (h0:0<l.length):∃ b o,A=some ⟨b,o,none⟩∧S b∧b<w.heap.size:=by
 obtain ⟨b,o,cs,h1,h2,h3,_⟩:=h.elem (gE h0)
 exact ⟨b,o,h1,h2,h3⟩
theorem SlV.row {α:Type} {r:Rp α} {w:World} {S:Nat→Prop} {l:List (List α)} {b o n c i:Nat} {x:List α} (h:SlV (zAh r) w S l (.slice (some ⟨b,o,none⟩) n c)) (hx:l[i]?=some x):∃ A c',w.cell? ⟨b,o+i,none⟩=some (.slice A x.length c')∧SlV r w S x (.slice A x.length c'):=by
 obtain ⟨b',o',cs,h1,_,_,hs,hcell⟩:=h.elem hx
 injection h1 with h1
 injection h1 with hb ho _
 subst hb ho
 obtain ⟨A,c',rfl,hs'⟩:=hs
 have:=hcell 0 _ rfl
 simp only[zAh,Nat.add_zero,Nat.mul_one] at this
 exact ⟨A,c',this,A,c',rfl,hs'⟩
def zDu (n B:Nat) (w:World) (v:Nat→Value) (l:Nat→List Dep) (S:Nat→Prop):Prop:=
 (∀ j,j<n→Own rDep w B 68 (v j) (l j) S)∧(∀ b,S b→B≤b)∧(∀ i j g,i<n→j<n→i≠j→(v i).ownBlock=some g→(v j).ownBlock≠some g)
section
variable {n B:Nat} {w w':World} {v:Nat→Value} {l:Nat→List Dep} {S:Nat→Prop}
theorem zDu.keep (h:zDu n B w v l S) (hb:Below w.heap.size w w'):zDu n B w' v l S:=
 ⟨fun j hj=>(h.1 j hj).keep hb,h.2.1,h.2.2⟩
end
section
variable {n B:Nat} {w w':World} {v:Nat→Value} {l:Nat→List Dep} {S:Nat→Prop}
theorem zDu.at (h:zDu n B w v l S) {b:Nat} (hb:b<B) (hg:w.grownBy w' (some b)):zDu n B w' v l S:=by
 refine ⟨fun j hj=>(h.1 j hj).grown hg ?_ ?_,h.2.1,h.2.2⟩
 ·cases hv:(v j).ownBlock with
  | none=>exact .inl rfl
  | some g=>exact .inr fun e=>by have:=((h.1 j hj).lt g hv).1;simp only[Option.some.injEq] at e;omega
 ·intro c hs e
  cases e
  have:=h.2.1 b hs;omega
end
section
variable {n B:Nat} {w w':World} {v:Nat→Value} {l:Nat→List Dep} {S:Nat→Prop}
theorem zDu.more (h:zDu n B w v l S) (hb:Below w.heap.size w w') (hB:B≤w.heap.size):zDu n B w' v l (fun b=>S b∨(w.heap.size≤b∧b<w'.heap.size)):=by
 have hk:=h.keep hb
 refine ⟨fun j hj=>(hk.1 j hj).more ?_ (fun b hs=>.inl hs),?_,h.2.2⟩
 ·rintro b (hs|hs)
  ·exact (hk.1 j hj).1 b hs
  ·exact ⟨hs.2,fun e=>by have:=((h.1 j hj).lt b e).2;have:=hs.1;omega⟩
 ·rintro b (hs|hs)
  ·exact h.2.1 b hs
  ·exact nT hB hs.1
end
def l3 (a b c:List Dep):Nat→List Dep
 | 0=>a
 | 1=>b
 | _=>c
def ManiV (w:World) (S:Nat→Prop) (m:Mani) (v:Value):Prop:=
 ∃ A0 n0 c0 A1 n1 c1 A2 n2 c2 A3 n3 c3,v=.agg #[.slice A0 n0 c0,.slice A1 n1 c1,.slice A2 n2 c2,.slice A3 n3 c3]∧SlV rDep w S m.deps (.slice A0 n0 c0)∧SlV rDep w S m.dev (.slice A1 n1 c1)∧SlV rDep w S m.opts (.slice A2 n2 c2)∧SlV rDep w S m.over (.slice A3 n3 c3)
theorem ManiV.keep {w w':World} {S:Nat→Prop} {m:Mani} {v:Value} (h:ManiV w S m v) (hb:Below w.heap.size w w'):ManiV w' S m v:=by
 obtain ⟨A0,n0,c0,A1,n1,c1,A2,n2,c2,A3,n3,c3,h0,h1,h2,h3,h4⟩:=h
 exact ⟨A0,n0,c0,A1,n1,c1,A2,n2,c2,A3,n3,c3,h0,h1.belowSize hb,h2.belowSize hb,h3.belowSize hb,h4.belowSize hb⟩
theorem row4 {W:World} {b:Nat} {x0 x1 x2 x3:Value} {t:TypeId} (h:W.heap[b]?=some (.cells #[x0,x1,x2,x3] t (0,0))) :
  (W.cell? ⟨b,0,none⟩=some x0∧W.cell? ⟨b,1,none⟩=some x1∧W.cell? ⟨b,2,none⟩=some x2∧W.cell? ⟨b,3,none⟩=some x3)∧W.frozen? ⟨b,0,none⟩=false∧W.frozen? ⟨b,1,none⟩=false∧W.frozen? ⟨b,2,none⟩=false∧W.frozen? ⟨b,3,none⟩=false:=by
 refine ⟨⟨cO _ _ 0 _ _ _ h,cO _ _ 1 _ _ _ h,cO _ _ 2 _ _ _ h,cO _ _ 3 _ _ _ h⟩,?_,?_,?_,?_⟩<;>simp[World.frozen?,h]
theorem zHh {m:Mani} (h0:listB m.deps=true) (h1:listB m.dev=true) (h2:listB m.opts=true) (h3:listB m.over=true):(zAG zBm m.deps).size≤33600∧(zAG devW m.dev).size≤33600∧(zAG zB1 m.opts).size≤33600∧(zAG pinsW m.over).size≤33600:=by
 obtain ⟨a0,b0⟩:=zAJ h0
 obtain ⟨a1,b1⟩:=zAJ h1
 obtain ⟨a2,b2⟩:=zAJ h2
 obtain ⟨a3,b3⟩:=zAJ h3
 have z0:=zBC (word:=zBm) (by decide) b0
 have z1:=zBC (word:=devW) (by decide) b1
 have z2:=zBC (word:=zB1) (by decide) b2
 have z3:=zBC (word:=pinsW) (by decide) b3
 omega
def projB:ByteArray:=⟨#[112,114,111,106,101,99,116,10]⟩
theorem zGS (m:Mani):zCp m=projB++zAG zBm m.deps++zAG devW m.dev++zAG zB1 m.opts++zAG pinsW m.over:=by
 unfold zCp
 rw[show zIY++nlB=projB by decide +kernel]
theorem zFS (m:Mani) (u:Value) (w:World) (S:Nat→Prop) (h0:listB m.deps=true) (h1:listB m.dev=true) (h2:listB m.opts=true) (h3:listB m.over=true) (hm:ManiV w S m u) :
  Calls Tryz.prog 110 #[u] w fun e w'=>e=.returned (.string (zCp m))∧Below w.heap.size w w':=by
 obtain ⟨Aa0,na0,ca0,Aa1,na1,ca1,Aa2,na2,ca2,Aa3,na3,ca3,rfl,ha0,ha1,ha2,ha3⟩:=hm
 obtain ⟨z0,z1,z2,z3⟩:=zHh h0 h1 h2 h3
 have H0:Hid (∀ W,Below w.heap.size w W→Calls Tryz.prog 142 #[.string ⟨#[110,101,101,100,115]⟩,.slice Aa0 na0 ca0] W fun e w'=>e=.returned (.string (zAG zBm m.deps))∧Below W.heap.size W w'):=fun W hW=>zBF zBm (by decide) _ _ _ m.deps W S (zAJ h0).1 (zAJ h0).2 (ha0.belowSize hW)
 have H1:Hid (∀ W,Below w.heap.size w W→Calls Tryz.prog 142 #[.string ⟨#[100,101,118]⟩,.slice Aa1 na1 ca1] W fun e w'=>e=.returned (.string (zAG devW m.dev))∧Below W.heap.size W w'):=fun W hW=>zBF devW (by decide) _ _ _ m.dev W S (zAJ h1).1 (zAJ h1).2 (ha1.belowSize hW)
 have H2:Hid (∀ W,Below w.heap.size w W→Calls Tryz.prog 142 #[.string ⟨#[108,105,107,101,115]⟩,.slice Aa2 na2 ca2] W fun e w'=>e=.returned (.string (zAG zB1 m.opts))∧Below W.heap.size W w'):=fun W hW=>zBF zB1 (by decide) _ _ _ m.opts W S (zAJ h2).1 (zAJ h2).2 (ha2.belowSize hW)
 have H3:Hid (∀ W,Below w.heap.size w W→Calls Tryz.prog 142 #[.string ⟨#[112,105,110,115]⟩,.slice Aa3 na3 ca3] W fun e w'=>e=.returned (.string (zAG pinsW m.over))∧Below W.heap.size W w'):=fun W hW=>zBF pinsW (by decide) _ _ _ m.over W S (zAJ h3).1 (zAJ h3).2 (ha3.belowSize hW)
 rw[zGS]
 have zp:projB.size=8:=rfl
 generalize zAG zBm m.deps=l0 at *
 generalize zAG devW m.dev=l1 at *
 generalize zAG zB1 m.opts=l2 at *
 generalize zAG pinsW m.over=l3 at *
 have E1:∀ W:World,(Op.stringOp .add ⟨#[112,114,111,106,101,99,116,10]⟩ l0).run Tryz.prog W=.ok (.string (projB++l0)) W:=fun W=>run_string_add_sum W projB l0 (by omega)
 have E2:∀ W:World,(Op.stringOp .add (projB++l0) l1).run Tryz.prog W=.ok (.string (projB++l0++l1)) W:=fun W=>run_string_add_sum W _ l1 (by simp only[ByteArray.size_append];omega)
 have E3:∀ W:World,(Op.stringOp .add (projB++l0++l1) l2).run Tryz.prog W=.ok (.string (projB++l0++l1++l2)) W:=fun W=>run_string_add_sum W _ l2 (by simp only[ByteArray.size_append];omega)
 have E4:∀ W:World,(Op.stringOp .add (projB++l0++l1++l2) l3).run Tryz.prog W=.ok (.string (projB++l0++l1++l2++l3)) W:=fun W=>run_string_add_sum W _ l3 (by simp only[ByteArray.size_append];omega)
 generalize projB++l0++l1++l2++l3=s4 at *
 generalize projB++l0++l1++l2=s3 at *
 generalize projB++l0++l1=s2 at *
 generalize projB++l0=s1 at *
 clear ha0 ha1 ha2 ha3 h0 h1 h2 h3 z0 z1 z2 z3 zp
 go_enter Tryz.func110,Tryz.ntmps110
 go_upto_region 1 with (fail)
 obtain ⟨w1,hw⟩:∃ W0,W0=w.alloc (.cells #[.slice Aa0 na0 ca0,.slice Aa1 na1 ca1,.slice Aa2 na2 ca2,.slice Aa3 na3 ca3] 28):=⟨_,rfl⟩
 have hra:w1.heap[w.heap.size]?=some (.cells #[.slice Aa0 na0 ca0,.slice Aa1 na1 ca1,.slice Aa2 na2 ca2,.slice Aa3 na3 ca3] 28 (0,0)):=by rw[hw];exact heap_alloc_new w _
 have hba:Below w.heap.size w w1:=by rw[hw];exact bal (bR _ _) _
 have hzz:w.heap.size+1=w1.heap.size:=by rw[hw];simp
 rw[←hw]
 try rw[hzz]
 clear hw hzz
 have C0:=cH (qcall (fun W hW=>H0.out W (bot hba hW)))
 have C1:=cH (qcall (fun W hW=>H1.out W (bot hba hW)))
 have C2:=cH (qcall (fun W hW=>H2.out W (bot hba hW)))
 have C3:=cH (qcall (fun W hW=>H3.out W (bot hba hW)))
 obtain ⟨⟨a0,a1,a2,a3⟩,_⟩:=row4 hra
 have HB1:=cH hba
 clear hra hba H0 H1 H2 H3
 have r_a0:=cR a0
 have r_a1:=cR a1
 have r_a2:=cR a2
 have r_a3:=cR a3
 go_wp2_with fail
 refine wQ ?_
 repeat (go_big_quiet_step (first|(with_reducible exact C0.out _ _)|(with_reducible exact C1.out _ _)|(with_reducible exact C2.out _ _)|(with_reducible exact C3.out _ _)))
 refine wpQuiet_nil fun w2 B2=>?_
 go_wp2_with fail
 go_ret
 exact ⟨rfl,bot HB1.out B2⟩
def KeptT (b:Nat) (w w':World):Prop:=∀ k cs t fr,w.heap[k]?=some (.cells cs t fr)→t≠5→k≠b→w'.heap[k]?=some (.cells cs t fr)
theorem KeptT.refl (b:Nat) (w:World):KeptT b w w:=fun _ _ _ _ h _ _=>h
theorem KeptT.trans {b:Nat} {w w' w'':World} (h:KeptT b w w') (k:KeptT b w' w''):KeptT b w w'':=fun i cs t fr hi ht hb=>k i cs t fr (h i cs t fr hi ht hb) ht hb
theorem KeptT.row {b base n:Nat} {w w':World} {v:Value} {xs:List Value} (h:w.ownsRow base 5 1 v n xs) (hg:w.grownBy w' v.ownBlock):KeptT b w w':=fun i cs t fr hi ht _=>by
 refine (hg.block i (aS.1 hi).1 (fun e=>?_)).trans hi
 rcases h.2 with ⟨rfl,_⟩|⟨g,cap,cur,rfl,_,hgb,_⟩
 ·cases e
 ·simp only[Value.ownBlock,Option.some.injEq] at e
  subst e
  rw[hgb] at hi
  simp only[Option.some.injEq,Obj.cells.injEq] at hi
  exact ht hi.2.1.symm
theorem zFp (m:Mani) (u:Value) (w:World) (S:Nat→Prop) (hm:ManiV w S m u) :
  Calls Tryz.prog 65 #[u] w fun e w'=>e=.returned (.bool (maniB m))∧Below w.heap.size w w':=by
 obtain ⟨A0,n0,c0,A1,n1,c1,A2,n2,c2,A3,n3,c3,rfl,h0,h1,h2,h3⟩:=id hm
 have H0:Hid (∀ W,Below w.heap.size w W→Calls Tryz.prog 105 #[.slice A0 n0 c0] W fun e w'=>e=.returned (.bool (listB m.deps))∧Below W.heap.size W w'):=fun W hW=>zBU _ _ _ m.deps W S (h0.belowSize hW)
 have H1:Hid (∀ W,Below w.heap.size w W→Calls Tryz.prog 105 #[.slice A1 n1 c1] W fun e w'=>e=.returned (.bool (listB m.dev))∧Below W.heap.size W w'):=fun W hW=>zBU _ _ _ m.dev W S (h1.belowSize hW)
 have H2:Hid (∀ W,Below w.heap.size w W→Calls Tryz.prog 105 #[.slice A2 n2 c2] W fun e w'=>e=.returned (.bool (listB m.opts))∧Below W.heap.size W w'):=fun W hW=>zBU _ _ _ m.opts W S (h2.belowSize hW)
 have H3:Hid (∀ W,Below w.heap.size w W→Calls Tryz.prog 105 #[.slice A3 n3 c3] W fun e w'=>e=.returned (.bool (listB m.over))∧Below W.heap.size W w'):=fun W hW=>zBU _ _ _ m.over W S (h3.belowSize hW)
 have G0:Hid (∀ W,Below w.heap.size w W→Calls Tryz.prog 106 #[.slice A0 n0 c0,.slice A1 n1 c1] W fun e w'=>e=.returned (.bool (disjB m.deps m.dev))∧Below W.heap.size W w'):=fun W hW=>zBZ _ _ _ _ _ _ m.deps m.dev W S S (h0.belowSize hW) (h1.belowSize hW)
 have G1:Hid (∀ W,Below w.heap.size w W→Calls Tryz.prog 106 #[.slice A0 n0 c0,.slice A2 n2 c2] W fun e w'=>e=.returned (.bool (disjB m.deps m.opts))∧Below W.heap.size W w'):=fun W hW=>zBZ _ _ _ _ _ _ m.deps m.opts W S S (h0.belowSize hW) (h2.belowSize hW)
 have G2:Hid (∀ W,Below w.heap.size w W→Calls Tryz.prog 106 #[.slice A1 n1 c1,.slice A2 n2 c2] W fun e w'=>e=.returned (.bool (disjB m.dev m.opts))∧Below W.heap.size W w'):=fun W hW=>zBZ _ _ _ _ _ _ m.dev m.opts W S S (h1.belowSize hW) (h2.belowSize hW)
 have HT:Hid (listB m.deps=true→listB m.dev=true→listB m.opts=true→listB m.over=true→∀ W,Below w.heap.size w W→Calls Tryz.prog 110 #[.agg #[.slice A0 n0 c0,.slice A1 n1 c1,.slice A2 n2 c2,.slice A3 n3 c3]] W fun e w'=>e=.returned (.string (zCp m))∧Below W.heap.size W w'):=fun a b c d W hW=>zFS m _ W S a b c d (hm.keep hW)
 have HR:Hid (maniB m=(listB m.deps&&(listB m.dev&&(listB m.opts&&(listB m.over&&(zBL (zAH [m.deps,m.dev,m.opts])&&decide ((zCp m).size≤4096))))))):=rfl
 have Hap:Hid (listB m.deps=true→listB m.dev=true→listB m.opts=true→zBL (zAH [m.deps,m.dev,m.opts])=(disjB m.deps m.dev&&disjB m.deps m.opts&&disjB m.dev m.opts)):=fun a b c=>zMf a b c
 generalize maniB m=R at *
 generalize zBL (zAH [m.deps,m.dev,m.opts])=nd at *
 generalize zCp m=tx at *
 generalize listB m.deps=v0 at *
 generalize listB m.dev=v1 at *
 generalize listB m.opts=v2 at *
 generalize listB m.over=v3 at *
 generalize disjB m.deps m.dev=g0 at *
 generalize disjB m.deps m.opts=g1 at *
 generalize disjB m.dev m.opts=g2 at *
 clear h0 h1 h2 h3 hm
 go_enter Tryz.func65,Tryz.ntmps65
 go_upto_region 1 with (fail)
 obtain ⟨w1,hw⟩:∃ W0,W0=w.alloc (.cells #[.slice A0 n0 c0,.slice A1 n1 c1,.slice A2 n2 c2,.slice A3 n3 c3] 28):=⟨_,rfl⟩
 have hr1:w1.heap[w.heap.size]?=some (.cells #[.slice A0 n0 c0,.slice A1 n1 c1,.slice A2 n2 c2,.slice A3 n3 c3] 28 (0,0)):=by rw[hw];exact heap_alloc_new w _
 have HB1:Hid (Below w.heap.size w w1):=by unfold Hid;rw[hw];exact bal (bR _ _) _
 rw[←hw]
 clear hw
 have Hr1:=cH hr1
 clear hr1
 obtain ⟨⟨a0,a1,a2,a3⟩,_⟩:=row4 Hr1.out
 go_wp2_with fail
 refine (H0.out w1 HB1.out).mono ?_
 rintro e w2 ⟨rfl,hb⟩
 have HB2:=cH (bot HB1.out hb)
 have Hr2:=cH ((hb.block _ (aS.1 Hr1.out).1).trans Hr1.out)
 clear hb a0 a1 a2 a3 HB1 Hr1
 clear H0
 cases v0 with
 | false=>
   have hr:R=false:=by rw[HR.out];simp
   subst hr
   clear HR Hap HT
   go_wp2_with fail
   go_ret
   exact ⟨rfl,HB2.out⟩
 | true=>
 obtain ⟨⟨a0,a1,a2,a3⟩,_⟩:=row4 Hr2.out
 go_wp2_with fail
 refine (H1.out w2 HB2.out).mono ?_
 rintro e w3 ⟨rfl,hb⟩
 have HB3:=cH (bot HB2.out hb)
 have Hr3:=cH ((hb.block _ (aS.1 Hr2.out).1).trans Hr2.out)
 clear hb a0 a1 a2 a3 HB2 Hr2
 clear H1
 cases v1 with
 | false=>
   have hr:R=false:=by rw[HR.out];simp
   subst hr
   clear HR Hap HT
   go_wp2_with fail
   go_ret
   exact ⟨rfl,HB3.out⟩
 | true=>
 obtain ⟨⟨a0,a1,a2,a3⟩,_⟩:=row4 Hr3.out
 go_wp2_with fail
 refine (H2.out w3 HB3.out).mono ?_
 rintro e w4 ⟨rfl,hb⟩
 have HB4:=cH (bot HB3.out hb)
 have Hr4:=cH ((hb.block _ (aS.1 Hr3.out).1).trans Hr3.out)
 clear hb a0 a1 a2 a3 HB3 Hr3
 clear H2
 cases v2 with
 | false=>
   have hr:R=false:=by rw[HR.out];simp
   subst hr
   clear HR Hap HT
   go_wp2_with fail
   go_ret
   exact ⟨rfl,HB4.out⟩
 | true=>
 obtain ⟨⟨a0,a1,a2,a3⟩,_⟩:=row4 Hr4.out
 go_wp2_with fail
 refine (H3.out w4 HB4.out).mono ?_
 rintro e w5 ⟨rfl,hb⟩
 have HB5:=cH (bot HB4.out hb)
 have Hr5:=cH ((hb.block _ (aS.1 Hr4.out).1).trans Hr4.out)
 clear hb a0 a1 a2 a3 HB4 Hr4
 clear H3
 cases v3 with
 | false=>
   have hr:R=false:=by rw[HR.out];simp
   subst hr
   clear HR Hap HT
   go_wp2_with fail
   go_ret
   exact ⟨rfl,HB5.out⟩
 | true=>
 have hnd:=Hap.out (by first|rfl|trivial) (by first|rfl|trivial) (by first|rfl|trivial)
 have HT':=cH (HT.out (by first|rfl|trivial) (by first|rfl|trivial) (by first|rfl|trivial) (by first|rfl|trivial))
 subst hnd
 clear Hap HT
 obtain ⟨⟨a0,a1,a2,a3⟩,_⟩:=row4 Hr5.out
 go_wp2_with fail
 refine (G0.out w5 HB5.out).mono ?_
 rintro e w6 ⟨rfl,hb⟩
 have HB6:=cH (bot HB5.out hb)
 have Hr6:=cH ((hb.block _ (aS.1 Hr5.out).1).trans Hr5.out)
 clear hb a0 a1 a2 a3 HB5 Hr5
 clear G0
 cases g0 with
 | false=>
   have hr:R=false:=by rw[HR.out];simp
   subst hr
   clear HR HT'
   go_wp2_with fail
   go_ret
   exact ⟨rfl,HB6.out⟩
 | true=>
 obtain ⟨⟨a0,a1,a2,a3⟩,_⟩:=row4 Hr6.out
 go_wp2_with fail
 refine (G1.out w6 HB6.out).mono ?_
 rintro e w7 ⟨rfl,hb⟩
 have HB7:=cH (bot HB6.out hb)
 have Hr7:=cH ((hb.block _ (aS.1 Hr6.out).1).trans Hr6.out)
 clear hb a0 a1 a2 a3 HB6 Hr6
 clear G1
 cases g1 with
 | false=>
   have hr:R=false:=by rw[HR.out];simp
   subst hr
   clear HR HT'
   go_wp2_with fail
   go_ret
   exact ⟨rfl,HB7.out⟩
 | true=>
 obtain ⟨⟨a0,a1,a2,a3⟩,_⟩:=row4 Hr7.out
 go_wp2_with fail
 refine (G2.out w7 HB7.out).mono ?_
 rintro e w8 ⟨rfl,hb⟩
 have HB8:=cH (bot HB7.out hb)
 have Hr8:=cH ((hb.block _ (aS.1 Hr7.out).1).trans Hr7.out)
 clear hb a0 a1 a2 a3 HB7 Hr7
 clear G2
 cases g2 with
 | false=>
   have hr:R=false:=by rw[HR.out];simp
   subst hr
   clear HR HT'
   go_wp2_with fail
   go_ret
   exact ⟨rfl,HB8.out⟩
 | true=>
 obtain ⟨⟨a0,a1,a2,a3⟩,_⟩:=row4 Hr8.out
 go_wp2_with fail
 refine (HT'.out w8 HB8.out).mono ?_
 rintro e w9 ⟨rfl,hb⟩
 have HB9:=cH (bot HB8.out hb)
 have Hr9:=cH ((hb.block _ (aS.1 Hr8.out).1).trans Hr8.out)
 clear hb a0 a1 a2 a3 HB8 Hr8
 by_cases hz:tx.size≤4096
 ·have hI:(tx.size:Int)≤4096:=by omega
  have hr:R=true:=by rw[HR.out,decide_eq_true hz];rfl
  subst hr
  clear HR
  go_wp2_with fail
  go_ret
  exact ⟨rfl,HB9.out⟩
 ·have hI:¬(tx.size:Int)≤4096:=by omega
  have hD:decide ((tx.size:Int)≤4096)=false:=decide_eq_false hI
  have hr:R=false:=by rw[HR.out,decide_eq_false hz];simp
  subst hr
  clear HR
  go_wp2_with fail
  go_ret
  exact ⟨rfl,HB9.out⟩
end Go.Proofs.YtminjjdnmpaaoaaGreatDoor
namespace Go.Proofs.YtminjjdnmpaaoaaGreatDoor
open Go
noncomputable def candC (L:List Pack) (s:ByteArray) (l:List Spn):List Ver:=(versC L s).filter (inSB l)
noncomputable def askP (env:List Pin):List Dep→List Pin→List Pin→Option (List Pin×List Pin)
 | [],out,next=>some (out,next)
 | d::ds,out,next=>match zAQ env d.name with
   | none=>none
   | some v=>if inSB d.range v=true then askP env ds (withP out ⟨d.name,v⟩) (if pinIs out d.name=true then next else next++[⟨d.name,v⟩]) else none
noncomputable def ctxGo (L:List Pack) (m:Mani) (env:List Pin):Nat→List Pin→List Pin→Option (List Pin)
 | _,[],out=>some out
 | 0,_::_,_=>none
 | f+1,p::rest,out=>match getC L p.name p.ver with
   | none=>none
   | some x=>match askP env (zBa m x.peers) out rest with
     | none=>none
     | some (out',rest')=>ctxGo L m env f rest' out'
noncomputable def ctxP (L:List Pack) (m:Mani) (env:List Pin) (p:Pin):Option (List Pin):=ctxGo L m env (env.length+1) [p] []
noncomputable def ctxsP (L:List Pack) (m:Mani) (env:List Pin):List Pin→Option (List (List Pin))
 | []=>some []
 | p::l=>match ctxP L m env p with
   | none=>none
   | some x=>match ctxsP L m env l with
     | none=>none
     | some xs=>some (x::xs)
noncomputable def zA2 (lim:Nat):List Pin→List (List Pin)→List Node→List Edge→Option (List Node×List Edge)
 | p::l,c::cs,out,es=>
   if placeN out p c=out.length then
    if out.length=lim then none
    else zA2 lim l cs (out++[⟨p.name,p.ver,c,[]⟩]) (es++[⟨p.name,(out.length:Int)⟩])
   else zA2 lim l cs out (es++[⟨p.name,(placeN out p c:Int)⟩])
 | _,_,out,es=>some (out,es)
def zAv (nodes:List Node) (i:Nat) (es:List Edge):List Node:=nodes.modify i fun n=>{ n with edges:=es}
structure SIn where
 L:List Pack
 m:Mani
 dev:Bool
 dec:Nat
 lim:Nat
inductive SOut where
 | no (tried:Nat)
 | bad (err:Int) (tried:Nat)
 | ok (tried:Nat) (found:List Node)
inductive Task where
 | settle (nodes:List Node) (at_:Nat)
 | choose (nodes:List Node) (at_:Nat) (l:List Want) (env:List Pin)
 | bind (nodes:List Node) (at_:Nat) (env:List Pin)
noncomputable def zBb (q:SIn) (nodes:List Node) (at_:Nat):List Want:=
 if at_=0 then zBM q.m q.dev else match nodes[at_]? with
 | none=>[]
 | some n=>match getC q.L n.name n.ver with
   | none=>[]
   | some x=>ofW q.m x
def ctxAt (nodes:List Node) (at_:Nat):List Pin:=match nodes[at_]? with
 | none=>[]
 | some n=>n.ctx
noncomputable def optsS (q:SIn) (nodes:List Node) (at_:Nat) (w:Want):List Ver:=match zAQ (ctxAt nodes at_) w.name with
 | some v=>if inSB w.range v=true then [v] else []
 | none=>candC q.L w.name w.range
def maysS (nodes:List Node) (at_:Nat) (w:Want):Bool:=match zAQ (ctxAt nodes at_) w.name with
 | some _=>false
 | none=>decide (w.kind=2)
def withO (env:List Pin) (s:ByteArray):Option Ver→List Pin
 | none=>env
 | some v=>withP env ⟨s,v⟩
def tryGo (dec:Nat) (k:List Pin→Nat→SOut) (env:List Pin) (s:ByteArray):List (Option Ver)→Nat→SOut
 | [],t=>.no t
 | o::os,t=>if t=dec then .bad 31 t else match k (withO env s o) (t+1) with
   | .no t'=>tryGo dec k env s os t'
   | r=>r
noncomputable def goS (q:SIn):Nat→Task→Nat→SOut
 | 0,_,t=>.bad 0 t
 | f+1,.settle nodes at_,t=>if at_=nodes.length then .ok t nodes else goS q f (.choose nodes at_ (zBb q nodes at_) (ctxAt nodes at_)) t
 | f+1,.choose nodes at_ [] env,t=>goS q f (.bind nodes at_ env) t
 | f+1,.choose nodes at_ (w::l) env,t=>
   tryGo q.dec (fun env' t'=>goS q f (.choose nodes at_ l env') t') env w.name ((optsS q nodes at_ w).map some++if maysS nodes at_ w=true then [none] else []) t
 | f+1,.bind nodes at_ env,t=>match ctxsP q.L q.m env env with
   | none=>.no t
   | some cs=>match zA2 q.lim env cs nodes [] with
     | none=>.bad 32 t
     | some (out,es)=>goS q f (.settle (zAv out at_ es) (at_+1)) t
def rootN:Node:=⟨⟨#[]⟩,⟨0,0,0⟩,[],[]⟩
def leftK (q:SIn) (t:Nat):Task→Nat
 | .settle _ at_=>(q.dec - t)+3 * (q.lim+1 - at_)+2
 | .choose _ at_ _ _=>(q.dec - t)+3 * (q.lim+1 - at_)+1
 | .bind _ at_ _=>(q.dec - t)+3 * (q.lim+1 - at_)
noncomputable def solS (q:SIn):Option (List Node):=
 if maniB q.m=false then none else match goS q (q.dec+3 * q.lim+6) (.settle [rootN] 0) 0 with
 | .ok _ ns=>some ns
 | _=>none
noncomputable def zB6 (L:List Pack) (ns:List Node):List Pack:=match ns with
 | []=>[]
 | _::l=>zAC::l.map fun n=>(getC L n.name n.ver).getD zAC
end Go.Proofs.YtminjjdnmpaaoaaGreatDoor
namespace Go.Proofs.YtminjjdnmpaaoaaGreatDoor
open Go.Rows Go.RowKit Go.Shelf Go.Sort
theorem zEc:Elt Tryz.prog 50 3 24:=Elt.mk' (z:=.agg #[.int .i64 0,.int .i64 0,.int .i64 0]) (by kernel_rfl) rfl (by decide)
theorem zJQ {L:List Pack} {k:Nat} {x:Pack} (hx:L[k]?=some x) (s:ByteArray):versC (L.take (k+1)) s=versC (L.take k) s++if x.name=s then [x.ver] else []:=by
 unfold versC
 rw[List.take_add_one,hx,List.filter_append,List.map_append]
 congr 1
 show List.map _ (List.filter _ [x])=_
 by_cases h:x.name=s
 ·simp[h]
 ·simp[h]
theorem zE5 (L:List Pack) (s:ByteArray):(versC L s).length≤L.length:=by
 unfold versC
 rw[List.length_map]
 exact List.length_filter_le _ _
theorem zKB {α:Type} (p:α→Bool) {l:List α} {k:Nat} {x:α} (hx:l[k]?=some x):(l.take (k+1)).filter p=(l.take k).filter p++if p x=true then [x] else []:=by
 rw[List.take_add_one,hx,List.filter_append]
 congr 1
 show List.filter p [x]=_
 by_cases h:p x=true
 ·simp[h]
 ·simp[h]
theorem zHG (cB:Nat) (A:Option Addr) (n c:Nat) (L:List Pack) (s:ByteArray) (w:World) (S:Nat→Prop) (hc:w.cell? ⟨cB,0,none⟩=some (.slice A n c)) (hl:SlV rPack w S L (.slice A n c)) (hlz:L.length≤1048576) :
  Calls Tryz.prog 166 #[.pointer (some ⟨cB,0,none⟩),.string s] w fun e w'=>∃ B m,e=.returned (.slice B (versC L s).length m)∧SlV rVer w' (fun b=>w.heap.size≤b) (versC L s) (.slice B (versC L s).length m)∧Below w.heap.size w w':=by
 have hn:=hl.n_eq
 have hcB:cB<w.heap.size:=zAU hc
 have HL:=cH hl
 have Hz0:Hid (L.length=n):=hn.symm
 have hnz:n≤1048576:=by omega
 have HEnd:Hid (versC (L.take n) s=versC L s):=by unfold Hid;rw[hn,List.take_length]
 have HC:Hid (∀ W,Below w.heap.size w W→W.cell? ⟨cB,0,none⟩=some (.slice A n c)):=fun W hW=>zAA hW hc hcB
 obtain ⟨R,hR⟩:∃ R,R=versC L s:=⟨_,rfl⟩
 rw[←hR] at HEnd ⊢
 clear hl hn hR hlz hc
 go_enter Tryz.func166,Tryz.ntmps166
 go_wp2_with fail
 go_loopw [5,6] (fun ov iv wr=>∃ k:Nat,k≤n∧iv=.int .i64 k∧Hid (Own rVer wr w.heap.size 50 ov (versC (L.take k) s) (fun _=>False))∧Hid (Below w.heap.size w wr)) (fun _ iv _=>n - (intOf iv).toNat)
 case atStart=>exact ⟨0,nZ _,rfl,Own.nil_ _ _ _ _ (fun b hb=>hb.elim),bR _ _⟩
 case round=>
  obtain ⟨k,hk,rfl,Hown,hB⟩:=hrel
  have hk0:(0:Int)≤(k:Int):=by omega
  have z0:=HC.out wr hB.out
  by_cases hlt:k<n
  case neg=>
   have hI:¬(k:Int)<(n:Int):=by omega
   have hkn:k=n:=by omega
   have h1:=Hown.out.slv
   rw[hkn,HEnd.out] at h1
   obtain ⟨B,m,hv,_,_⟩:=h1.val
   have HS:=cH h1
   clear h1 Hown hkn
   subst hv
   go_wp2_with fail
   go_ret
   exact ⟨B,m,rfl,HS.out.more fun b hb _=>by rcases hb with hb|hb;exact hb.elim;exact hb,hB.out⟩
  have hkI:(k:Int)<(n:Int):=by omega
  obtain ⟨x,hx⟩:∃ x,L[k]?=some x:=⟨_,gE (by have:=Hz0.out;omega)⟩
  obtain ⟨b,o,A1,B1,C1,a1,b1,c1,hA,hb,_,hpv,hi,n0,n1,n2,n3,_,_,_⟩:=zEt HL.out hx
  have n0:=zAA hB.out n0 hb
  have n1:=zAA hB.out n1 hb
  have n2:=zAA hB.out n2 hb
  have n3:=zAA hB.out n3 hb
  have Hstep:=cH (zJQ hx s)
  have Hlen:Hid ((versC (L.take k) s).length≤k):=by
   have:=zE5 (L.take k) s
   rw[List.length_take] at this
   exact nT this (Nat.min_le_left _ _)
  have Hi:=cH hi
  clear hpv hx hi
  subst hA
  obtain ⟨xn,⟨x1,x2,x3⟩,xd,xp,xo⟩:=x
  simp only at n0 n1 n2 n3 Hstep Hi
  generalize versC (L.take k) s=done at *
  by_cases hnm:xn=s
  ·have hb0:=zAn hnm
   have Hst:Hid (versC (L.take (k+1)) s=done++[⟨x1,x2,x3⟩]):=by unfold Hid;rw[Hstep.out,if_pos hnm]
   clear Hstep hnm
   have hwz:w.heap.size≤wr.heap.size:=hB.out.size
   go_wp2_with (at_builtin;refine zAK (by rfl) _ _ _ (by rfl) zEc Tryz.underlying205 (by rfl) (Hown.out.alloc _) ⟨wr.heap.size,0,none⟩ 1 [.int .i64 x1,.int .i64 x2,.int .i64 x3] ⟨x1,x2,x3⟩ (by rfl) ⟨rfl,Hi.out.1,Hi.out.2.1,Hi.out.2.2⟩ (zAm wr #[.int .i64 x1,.int .i64 x2,.int .i64 x3] _) (by have:=Hlen.out;unfold maxLen;omega) (by have:=Hlen.out;omega) (by simp;omega) (wr.heap.size+1) (by simp) ?_)
   intro g9 cap9 w9 hown9 hgrow9 hat9 hlt9
   have HB9:=cH (zA3 (bal hB.out _) hgrow9 (Hown.out.alloc _) (nR _))
   have HO9:=cH hown9
   clear hown9 hgrow9 hat9 Hown n0 n1 n2 n3 z0
   go_wp2_with fail
   go_roundw
   case rel=>exact ⟨k+1,by omega,by go_num,by rw[Hst.out];exact HO9,HB9⟩
   case measure=>simp[intOf];omega
  ·have hb0:=zAa hnm
   have Hst:Hid (versC (L.take (k+1)) s=done):=by unfold Hid;rw[Hstep.out,if_neg hnm,List.append_nil]
   clear Hstep hnm
   go_wp2_with fail
   go_roundw
   case rel=>exact ⟨k+1,by omega,by go_num,by rw[Hst.out];exact Hown,hB⟩
   case measure=>simp[intOf];omega
theorem zHH (s:ByteArray) (v1 v2 v3:Int) (w:World) :
  Calls Tryz.prog 167 #[.slice none 0 0,.string s,.agg #[.int .i64 v1,.int .i64 v2,.int .i64 v3]] w fun e w'=>e=.returned (.bool false)∧Below w.heap.size w w':=by
 go_enter Tryz.func167,Tryz.ntmps167
 go_wp2_with fail
 go_loopw [7] (fun iv wr=>iv=.int .i64 0∧Hid (Below w.heap.size w wr)) (fun _ _=>0)
 case atStart=>exact ⟨rfl,bal (bR _ _) _⟩
 case round=>
  obtain ⟨rfl,hB⟩:=hrel
  go_wp2_with fail
  go_ret
  exact ⟨rfl,hB.out⟩
theorem zJ4 (cB:Nat) (A:Option Addr) (n c:Nat) (L:List Pack) (s:ByteArray) (lA:Option Addr) (ln lc:Nat) (l:List Spn) (w:World) (S T:Nat→Prop) (hc:w.cell? ⟨cB,0,none⟩=some (.slice A n c)) (hl:SlV rPack w S L (.slice A n c)) (hlz:L.length≤1048576) (hsp:SlV rSpn w T l (.slice lA ln lc)) :
  Calls Tryz.prog 146 #[.pointer (some ⟨cB,0,none⟩),.string s,.slice lA ln lc,.slice none 0 0] w fun e w'=>∃ B m,e=.returned (.slice B (candC L s l).length m)∧SlV rVer w' (fun b=>w.heap.size≤b) (candC L s l) (.slice B (candC L s l).length m)∧Below w.heap.size w w':=by
 have HV:=cH (zHG cB A n c L s w S hc hl hlz)
 have HIn:Hid (∀ (v1 v2 v3:Int) W,Below w.heap.size w W→Calls Tryz.prog 145 #[.slice lA ln lc,.agg #[.int .i64 v1,.int .i64 v2,.int .i64 v3]] W fun e w'=>e=.returned (.bool (inSB l ⟨v1,v2,v3⟩))∧Below W.heap.size W w'):=fun v1 v2 v3 W hW=>zE2 lA ln lc l ⟨v1,v2,v3⟩ W T (hsp.belowSize hW)
 have hvz:=zE5 L s
 have HR:Hid (candC L s l=(versC L s).filter (inSB l)):=rfl
 obtain ⟨R,hR⟩:∃ R,R=candC L s l:=⟨_,rfl⟩
 rw[←hR] at HR ⊢
 generalize versC L s=vs at *
 obtain ⟨N,hN⟩:∃ N,N=vs.length:=⟨_,rfl⟩
 have HEnd:Hid ((vs.take N).filter (inSB l)=R):=by unfold Hid;rw[hN,List.take_length];exact HR.out.symm
 have Hz0:Hid (vs.length=N):=hN.symm
 have hNz:N≤1048576:=by omega
 rw[←hN] at HV
 clear hc hl hlz hsp hvz HR hR hN
 go_enter Tryz.func146,Tryz.ntmps146
 go_wp2_with fail
 refine HV.out.mono ?_
 rintro e w1 ⟨VA,vm,rfl,hvs,hb1⟩
 have HVS:=cH hvs
 have HB1:=cH hb1
 clear hvs hb1 HV
 go_wp2_with fail
 go_loopw [9,10,12] (fun fv ov iv wr=>∃ k:Nat,k≤N∧fv=.slice none 0 0∧iv=.int .i64 k∧Hid (Own rVer wr w1.heap.size 50 ov ((vs.take k).filter (inSB l)) (fun _=>False))∧Hid (Below w1.heap.size w1 wr)) (fun _ _ iv _=>N - (intOf iv).toNat)
 case atStart=>exact ⟨0,nZ _,rfl,rfl,Own.nil_ _ _ _ _ (fun b hb=>hb.elim),bR _ _⟩
 case round=>
  obtain ⟨k,hk,rfl,rfl,Hown,hB⟩:=hrel
  have hk0:(0:Int)≤(k:Int):=by omega
  have HBw:=cH (bot HB1.out hB.out)
  by_cases hlt:k<N
  case neg=>
   have hI:¬(k:Int)<(N:Int):=by omega
   have hkn:k=N:=by omega
   have h1:=Hown.out.slv
   rw[hkn,HEnd.out] at h1
   obtain ⟨B,m,hv,_,_⟩:=h1.val
   have HS:=cH h1
   have Hrz:Hid (R.length≤N):=by
    unfold Hid
    rw[←HEnd.out]
    refine nT (List.length_filter_le _ _) ?_
    rw[List.length_take]
    exact Nat.min_le_left _ _
   clear h1 Hown hkn
   subst hv
   go_wp2_with (at_builtin;refine zAS (by rfl) _ _ _ (by rfl) zEc Tryz.underlying205 (by rfl) (Own.nil_ rVer wr wr.heap.size 50 (S:=fun _=>False) (fun b h=>h.elim)) (fun b=>(False∨w1.heap.size≤b)) R _ _ _ (by rfl) HS.out (by intro b hb he;simp[Value.ownBlock] at he) (by have:=Hrz.out;simp[maxLen];omega) (by have:=Hrz.out;simp;omega) (by simp) ?_)
   intro v9 w9 hown9 hgrow9 hat9
   have HB9:Hid (Below w.heap.size w w9):=bot HBw.out ((bR _ _).grown hgrow9 (nR _) (fun k hk=>by simp[Value.ownBlock] at hk))
   have h9:=hown9.slv
   obtain ⟨B9,m9,hv9,_,_⟩:=h9.val
   have HS9:=cH h9
   clear h9 hown9 hgrow9 hat9 HS
   subst hv9
   go_wp2_with fail
   go_ret
   have hwz:=HBw.out.size
   have hw1:=HB1.out.size
   exact ⟨B9,m9,rfl,HS9.out.more fun b hb _=>by (rcases hb with hb|hb<;>omega),HB9.out⟩
  have hkI:(k:Int)<(N:Int):=by omega
  obtain ⟨x,hx⟩:∃ x,vs[k]?=some x:=⟨_,gE (by have:=Hz0.out;omega)⟩
  obtain ⟨b,o,cs,hA,_,hb1,⟨rfl,i1,i2,i3⟩,hcell⟩:=HVS.out.elem hx
  have Hn:Hid (∀ W,Below w1.heap.size w1 W→W.cell? ⟨b,o+k * 3,none⟩=some (.int .i64 x.major)∧W.cell? ⟨b,o+k * 3+1,none⟩=some (.int .i64 x.minor)∧W.cell? ⟨b,o+k * 3+2,none⟩=some (.int .i64 x.patch)):=fun W hW=>
   ⟨zAA hW (hcell 0 _ rfl) hb1,zAA hW (hcell 1 _ rfl) hb1,zAA hW (hcell 2 _ rfl) hb1⟩
  have Hstep:=cH (zKB (inSB l) hx)
  have Hlen:Hid (((vs.take k).filter (inSB l)).length≤k):=by
   refine nT (List.length_filter_le _ _) ?_
   rw[List.length_take]
   exact Nat.min_le_left _ _
  have Hi:Hid (I64 x.major∧I64 x.minor∧I64 x.patch):=⟨i1,i2,i3⟩
  clear hcell hx i1 i2 i3
  subst hA
  obtain ⟨x1,x2,x3⟩:=x
  simp only at Hn Hstep Hi
  obtain ⟨n1,n2,n3⟩:=Hn.out wr hB.out
  have HIk:=cH (HIn.out x1 x2 x3 wr HBw.out)
  generalize (vs.take k).filter (inSB l)=done at *
  generalize inSB l ⟨x1,x2,x3⟩=ib at *
  go_wp2_with fail
  refine HIk.out.mono ?_
  rintro e w2 ⟨rfl,hb2⟩
  have HB2:=cH (bot hB.out hb2)
  have HO2:=cH (Hown.out.keep hb2)
  clear hb2 HIk Hown n1 n2 n3
  obtain ⟨n1,n2,n3⟩:=Hn.out w2 HB2.out
  cases ib with
  | false=>
    have Hst:Hid ((vs.take (k+1)).filter (inSB l)=done):=by unfold Hid;rw[Hstep.out,if_neg (by decide),List.append_nil]
    clear Hstep
    go_wp2_with fail
    go_roundw
    case rel=>exact ⟨k+1,by omega,rfl,by go_num,by rw[Hst.out];exact HO2,HB2⟩
    case measure=>simp[intOf];omega
  | true=>
    have Hst:Hid ((vs.take (k+1)).filter (inSB l)=done++[⟨x1,x2,x3⟩]):=by unfold Hid;rw[Hstep.out,if_pos rfl]
    clear Hstep
    go_wp2_with fail
    refine (zHH s x1 x2 x3 w2).mono ?_
    rintro e w3 ⟨rfl,hb3⟩
    have HB3:=cH (bot HB2.out hb3)
    have HO3:=cH (HO2.out.keep hb3)
    clear hb3 HO2 HB2 n1 n2 n3
    obtain ⟨n1,n2,n3⟩:=Hn.out w3 HB3.out
    have hwz:w1.heap.size≤w3.heap.size:=HB3.out.size
    go_wp2_with (at_builtin;refine zAK (by rfl) _ _ _ (by rfl) zEc Tryz.underlying205 (by rfl) (HO3.out.alloc _) ⟨w3.heap.size,0,none⟩ 1 [.int .i64 x1,.int .i64 x2,.int .i64 x3] ⟨x1,x2,x3⟩ (by rfl) ⟨rfl,Hi.out.1,Hi.out.2.1,Hi.out.2.2⟩ (zAm w3 #[.int .i64 x1,.int .i64 x2,.int .i64 x3] _) (by have:=Hlen.out;unfold maxLen;omega) (by have:=Hlen.out;omega) (by simp;omega) (w3.heap.size+1) (by simp) ?_)
    intro g9 cap9 w9 hown9 hgrow9 hat9 hlt9
    have HB9:=cH (zA3 (bal HB3.out _) hgrow9 (HO3.out.alloc _) (nR _))
    have HO9:=cH hown9
    clear hown9 hgrow9 hat9 HO3 n1 n2 n3
    go_wp2_with fail
    go_roundw
    case rel=>exact ⟨k+1,by omega,rfl,by go_num,by rw[Hst.out];exact HO9,HB9⟩
    case measure=>simp[intOf];omega
