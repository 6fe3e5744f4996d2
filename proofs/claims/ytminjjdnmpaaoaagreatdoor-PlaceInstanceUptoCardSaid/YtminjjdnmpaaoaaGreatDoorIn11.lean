/- The program's placer: a lookup settled; a directory in another one; what a directory would turn. -/
import Derived.Test.YtminjjdnmpaaoaaGreatDoorIn10
import Derived.Test.YtminjjdnmpaaoaaGreatDoorIn09
import Derived.Test.YtminjjdnmpaaoaaGreatDoorIn03
import Derived.Deep.CutRange
import Derived.Test.YtminjjdnmpaaoaaGreatDoorIn06
import Derived.Test.YtminjjdnmpaaoaaGreatDoorAl
set_option linter.all false
set_option maxHeartbeats 3200000
set_option maxRecDepth 100000
namespace Go.Proofs.YtminjjdnmpaaoaaGreatDoor
open Go.Rows Go.RowKit Go.Shelf Go.Sort
theorem zBc (W:World) (b o:Nat) (v:Value):W.grownBy (W.setCell ⟨b,o,none⟩ v) (some b):=⟨rfl,rfl,rfl,by simp,fun i _ hk=>heap_setCell_other W ⟨b,o,none⟩ i _ (fun e=>hk (by simp[e]))⟩
theorem zAR {W:World} {b o:Nat} {cs:Array Value} {t:TypeId} (h:W.heap[b]?=some (.cells cs t (0,0))) (v:Value):(W.setCell ⟨b,o,none⟩ v).heap[b]?=some (.cells (cs.setIfInBounds o v) t (0,0)):=by
 obtain ⟨hlt,hk⟩:=aS.1 h
 show (W.heap.modify b _)[b]?=_
 rw[Array.getElem?_eq_getElem (by rw[Array.size_modify];exact hlt),Array.getElem_modify_self,hk]
 rfl
theorem zNE:Elt Tryz.prog 148 3 32:=Elt.mk' (z:=.agg #[.int .i64 0,.string ⟨#[]⟩,.int .i64 0]) (by kernel_rfl) rfl (by decide)
theorem zLu:Elt Tryz.prog 54 9 144:=Elt.mk' (z:=.agg #[.slice none 0 0,.string ⟨#[]⟩,.int .i64 0,.int .i64 0,.int .i64 0,.slice none 0 0,.slice none 0 0,.slice none 0 0,.int .i64 0]) (by kernel_rfl) rfl (by decide)
theorem zAd {W:World} {b o:Nat} {cs:Array Value} {t:TypeId} (h:W.heap[b]?=some (.cells cs t (0,0))):W.frozen? ⟨b,o,none⟩=false:=by simp[World.frozen?,h]
def plRow (C:PlCtx) (vT vS:Value):Array Value:=#[.slice C.gA C.gn C.gc,.slice C.pA C.pn C.pc,.int .i64 C.dec,.int .i64 C.nod,.int .i64 C.q.dirs,.int .i64 C.q.path,C.ov,vT,vS]
structure PlP (C:PlCtx) (w:World) (st:PlSt) (A:Option Addr) (c:Nat) (A':Option Addr) (c':Nat) (S:Nat→Prop):Prop where
 row:w.heap[C.P]?=some (.cells (plRow C (.slice A st.1.length c) (.slice A' st.2.length c')) 78 (0,0))
 T:Own rDir w C.w0.heap.size 54 (.slice A st.1.length c) st.1 S
 S':Own rStl w C.w0.heap.size 148 (.slice A' st.2.length c') st.2 (fun _=>False)
 apart:∀ b,S b→b≠C.P∧(Value.slice A' st.2.length c').ownBlock≠some b
 tp:(Value.slice A st.1.length c).ownBlock≠some C.P
 sp:(Value.slice A' st.2.length c').ownBlock≠some C.P
 ts:∀ k,(Value.slice A st.1.length c).ownBlock=some k→(Value.slice A' st.2.length c').ownBlock≠some k
 base:Below C.w0.heap.size C.w0 w
 new:∀ b,S b→C.w0.heap.size≤b
theorem PlWd.parts {C:PlCtx} {w:World} {st:PlSt} (h:PlWd C w st):∃ A c A' c' S,PlP C w st A c A' c' S:=by
 obtain ⟨A,c,A',c',S,h1,h2,h3,h4,h5,h6,h7,h8⟩:=h
 exact ⟨A,c,A',c',S,h1,h2,h3,h4,h5,h6,h7,h8.1,h8.2⟩
theorem PlP.all {C:PlCtx} {w:World} {st:PlSt} {A:Option Addr} {c:Nat} {A':Option Addr} {c':Nat} {S:Nat→Prop} (h:PlP C w st A c A' c' S):PlWd C w st:=⟨A,c,A',c',S,h.row,h.T,h.S',h.apart,h.tp,h.sp,h.ts,h.base,h.new⟩
theorem PlP.hP {C:PlCtx} {w:World} {st:PlSt} {A:Option Addr} {c:Nat} {A':Option Addr} {c':Nat} {S:Nat→Prop} (h:PlP C w st A c A' c' S):C.P<w.heap.size:=(aS.1 h.row).1
theorem PlP.keep {C:PlCtx} {w w':World} {st:PlSt} {A:Option Addr} {c:Nat} {A':Option Addr} {c':Nat} {S:Nat→Prop} (h:PlP C w st A c A' c' S) (hb:Below w.heap.size w w'):PlP C w' st A c A' c' S:=
 ⟨(hb.block _ h.hP).trans h.row,h.T.keep hb,h.S'.keep hb,h.apart,h.tp,h.sp,h.ts,bot h.base hb,h.new⟩
def PlS (C:PlCtx) (w:World) (st:PlSt) (S:Nat→Prop):Prop:=∃ A c A' c',PlP C w st A c A' c' S
theorem PlS.all {C:PlCtx} {w:World} {st:PlSt} {S:Nat→Prop} (h:PlS C w st S):PlWd C w st:=by
 obtain ⟨A,c,A',c',h⟩:=h
 exact h.all
theorem PlWd.s {C:PlCtx} {w:World} {st:PlSt} (h:PlWd C w st):∃ S,PlS C w st S:=by
 obtain ⟨A,c,A',c',S,h⟩:=h.parts
 exact ⟨S,A,c,A',c',h⟩
theorem PlS.keep {C:PlCtx} {w w':World} {st:PlSt} {S:Nat→Prop} (h:PlS C w st S) (hb:Below w.heap.size w w'):PlS C w' st S:=by
 obtain ⟨A,c,A',c',h⟩:=h
 exact ⟨A,c,A',c',h.keep hb⟩
theorem PlP.push_stl {C:PlCtx} (hC:C.Ok) {w w9:World} {st:PlSt} {A:Option Addr} {c:Nat} {A':Option Addr} {c':Nat} {S:Nat→Prop} (h:PlP C w st A c A' c' S) {x:Stl} {g cap:Nat}
  (hown:Own rStl w9 C.w0.heap.size 148 (.slice (some ⟨g,0,none⟩) (st.2.length+1) cap) (st.2++[x]) (fun _=>False)) (hgrow:w.grownBy w9 (Value.slice A' st.2.length c').ownBlock) (hat:(Value.slice A' st.2.length c').ownBlock=some g∨w.heap.size≤g) :
  w9.heap[C.P]?=some (.cells (plRow C (.slice A st.1.length c) (.slice A' st.2.length c')) 78 (0,0))∧PlS C (w9.setCell ⟨C.P,8,none⟩ (.slice (some ⟨g,0,none⟩) (st.2.length+1) cap)) (st.1,st.2++[x]) S:=by
 have hP:=h.hP
 have hP9:w9.heap[C.P]?=some (.cells (plRow C (.slice A st.1.length c) (.slice A' st.2.length c')) 78 (0,0)):=by
  rw[hgrow.block C.P hP (fun e=>h.sp e.symm)];exact h.row
 refine ⟨hP9,?_⟩
 have hgP:g≠C.P:=fun e=>by
  rcases hat with h2|h2
  ·rw[e] at h2;exact h.sp h2
  ·omega
 have hl9:(st.2++[x]).length=st.2.length+1:=by rw[List.length_append];rfl
 have hT9:Own rDir w9 C.w0.heap.size 54 (.slice A st.1.length c) st.1 S:=by
  refine h.T.grown hgrow ?_ fun b hb e=>(h.apart b hb).2 e.symm
  cases hk:(Value.slice A st.1.length c).ownBlock with
  | none=>exact .inl rfl
  | some k=>exact .inr fun e=>h.ts k hk e.symm
 have hT10:Own rDir (w9.setCell ⟨C.P,8,none⟩ (.slice (some ⟨g,0,none⟩) (st.2.length+1) cap)) C.w0.heap.size 54 (.slice A st.1.length c) st.1 S:=
  hT9.grown (zBc _ _ _ _) (.inr h.tp) fun b hb e=>(h.apart b hb).1 (Option.some.inj e)
 have hS10:Own rStl (w9.setCell ⟨C.P,8,none⟩ (.slice (some ⟨g,0,none⟩) (st.2.length+1) cap)) C.w0.heap.size 148 (.slice (some ⟨g,0,none⟩) (st.2.length+1) cap) (st.2++[x]) (fun _=>False):=
  hown.grown (zBc _ _ _ _) (.inr fun e=>hgP (Option.some.inj e)) fun b hb=>hb.elim
 have hB9:Below C.w0.heap.size C.w0 w9:=h.base.grown hgrow h.base.size fun k hk=>(h.S'.lt k hk).1
 refine ⟨A,c,some ⟨g,0,none⟩,cap,?_,hT10,by rw[hl9];exact hS10,fun b hb=>⟨(h.apart b hb).1,fun e=>?_⟩,h.tp,fun e=>hgP (Option.some.inj e),fun k hk e=>?_,hB9.setCell (p:=⟨C.P,8,none⟩) hC.le _,h.new⟩
 ·rw[hl9]
  exact zAR hP9 _
 ·have e2:g=b:=Option.some.inj e
  rcases hat with h2|h2
  ·rw[e2] at h2;exact (h.apart b hb).2 h2
  ·have:=(h.T.1 b hb).1;omega
 ·have e2:g=k:=Option.some.inj e
  rcases hat with h2|h2
  ·rw[e2] at h2;exact h.ts k hk h2
  ·have:=(h.T.lt k hk).2;omega
theorem PlP.push_dir {C:PlCtx} (hC:C.Ok) {w w1 w9:World} {st:PlSt} {A:Option Addr} {c:Nat} {A':Option Addr} {c':Nat} {S:Nat→Prop} (h:PlP C w st A c A' c' S) (hw1:Below w.heap.size w w1) {d:Dir} {g cap:Nat}
  (hown:Own rDir w9 C.w0.heap.size 54 (.slice (some ⟨g,0,none⟩) (st.1.length+1) cap) (st.1++[d]) (fun b=>S b∨(w.heap.size≤b∧b<w1.heap.size))) (hgrow:w1.grownBy w9 (Value.slice A st.1.length c).ownBlock) (hat:(Value.slice A st.1.length c).ownBlock=some g∨w1.heap.size≤g) :
  w9.heap[C.P]?=some (.cells (plRow C (.slice A st.1.length c) (.slice A' st.2.length c')) 78 (0,0))∧PlWd C (w9.setCell ⟨C.P,7,none⟩ (.slice (some ⟨g,0,none⟩) (st.1.length+1) cap)) (st.1++[d],st.2):=by
 have hk:=h.keep hw1
 have hP:=hk.hP
 have hP0:=h.hP
 have hP9:w9.heap[C.P]?=some (.cells (plRow C (.slice A st.1.length c) (.slice A' st.2.length c')) 78 (0,0)):=by
  rw[hgrow.block C.P hP (fun e=>h.tp e.symm)];exact hk.row
 refine ⟨hP9,?_⟩
 have hws:=hw1.size
 have hgP:g≠C.P:=fun e=>by
  rcases hat with h2|h2
  ·rw[e] at h2;exact h.tp h2
  ·omega
 have hl9:(st.1++[d]).length=st.1.length+1:=by rw[List.length_append];rfl
 have hS9:Own rStl w9 C.w0.heap.size 148 (.slice A' st.2.length c') st.2 (fun _=>False):=by
  refine hk.S'.grown hgrow ?_ fun b hb=>hb.elim
  cases hk2:(Value.slice A' st.2.length c').ownBlock with
  | none=>exact .inl rfl
  | some k=>exact .inr fun e=>h.ts k e.symm hk2
 have hS10:Own rStl (w9.setCell ⟨C.P,7,none⟩ (.slice (some ⟨g,0,none⟩) (st.1.length+1) cap)) C.w0.heap.size 148 (.slice A' st.2.length c') st.2 (fun _=>False):=
  hS9.grown (zBc _ _ _ _) (.inr h.sp) fun b hb=>hb.elim
 have hT10:Own rDir (w9.setCell ⟨C.P,7,none⟩ (.slice (some ⟨g,0,none⟩) (st.1.length+1) cap)) C.w0.heap.size 54 (.slice (some ⟨g,0,none⟩) (st.1.length+1) cap) (st.1++[d]) (fun b=>S b∨(w.heap.size≤b∧b<w1.heap.size)):=
  hown.grown (zBc _ _ _ _) (.inr fun e=>hgP (Option.some.inj e)) fun b hb e=>by
   have e2:b=C.P:=Option.some.inj e
   rcases hb with hb|hb
   ·exact (h.apart b hb).1 e2
   ·omega
 have hB9:Below C.w0.heap.size C.w0 w9:=hk.base.grown hgrow hk.base.size fun k hk2=>(h.T.lt k hk2).1
 refine ⟨some ⟨g,0,none⟩,cap,A',c',_,?_,by rw[hl9];exact hT10,hS10,fun b hb=>?_,fun e=>hgP (Option.some.inj e),h.sp,fun k hk2 e=>?_,hB9.setCell (p:=⟨C.P,7,none⟩) hC.le _,fun b hb=>by
  rcases hb with hb|hb
  ·exact h.new b hb
  ·exact nT h.base.size hb.1⟩
 ·rw[hl9]
  exact zAR hP9 _
 ·rcases hb with hb|hb
  ·exact h.apart b hb
  ·refine ⟨by omega,fun e=>?_⟩
   have:=(h.S'.lt b e).2
   omega
 ·have e2:g=k:=Option.some.inj hk2
  rcases hat with h2|h2
  ·rw[e2] at h2;exact h.ts k h2 e
  ·have:=(h.S'.lt k e).2;omega
def NotPl (C:PlCtx) (w:World) (b:Nat):Prop:=b≠C.P∧(∀ v,w.cell? ⟨C.P,7,none⟩=some v→v.ownBlock≠some b)∧(∀ v,w.cell? ⟨C.P,8,none⟩=some v→v.ownBlock≠some b)
def PlFr (C:PlCtx) (w w':World):Prop:=w.heap.size≤w'.heap.size∧∀ b,b<w.heap.size→NotPl C w b→w'.heap[b]?=w.heap[b]?∧NotPl C w' b
theorem PlFr.trans {C:PlCtx} {w w' w'':World} (h:PlFr C w w') (h':PlFr C w' w''):PlFr C w w'':=
 ⟨nT h.1 h'.1,fun b hb hn=>by
   obtain ⟨h1,h2⟩:=h.2 b hb hn
   obtain ⟨h3,h4⟩:=h'.2 b (lL hb h.1) h2
   exact ⟨h3.trans h1,h4⟩⟩
theorem PlFr.below {C:PlCtx} {w w':World} (hP:C.P<w.heap.size) (hb:Below w.heap.size w w'):PlFr C w w':=
 ⟨hb.size,fun b hb' hn=>⟨hb.block _ hb',hn.1,fun v hv=>hn.2.1 v (by rw[←zAN (hb.block _ hP) 7 none];exact hv),fun v hv=>hn.2.2 v (by rw[←zAN (hb.block _ hP) 8 none];exact hv)⟩⟩
theorem PlP.fr7 {C:PlCtx} {w w9:World} {st:PlSt} {A:Option Addr} {c:Nat} {A':Option Addr} {c':Nat} {S:Nat→Prop} (h:PlP C w st A c A' c' S) {g n cap:Nat} (hgrow:w.grownBy w9 (Value.slice A st.1.length c).ownBlock) (hat:(Value.slice A st.1.length c).ownBlock=some g∨w.heap.size≤g)
  (hP9:w9.heap[C.P]?=some (.cells (plRow C (.slice A st.1.length c) (.slice A' st.2.length c')) 78 (0,0))):PlFr C w (w9.setCell ⟨C.P,7,none⟩ (.slice (some ⟨g,0,none⟩) n cap)):=by
 refine ⟨by rw[show (w9.setCell ⟨C.P,7,none⟩ (.slice (some ⟨g,0,none⟩) n cap)).heap.size=w9.heap.size from by simp];exact hgrow.size,fun b hb hn=>?_⟩
 have o7:=hn.2.1 _ (cO _ _ 7 _ _ _ h.row)
 have o8:=hn.2.2 _ (cO _ _ 8 _ _ _ h.row)
 have hrow:=zAR hP9 (o:=7) (.slice (some ⟨g,0,none⟩) n cap)
 refine ⟨(heap_setCell_other w9 ⟨C.P,7,none⟩ b _ hn.1).trans (hgrow.block b hb fun e=>o7 e.symm),hn.1,fun v hv=>?_,fun v hv=>?_⟩
 ·rw[cO _ _ 7 _ _ _ hrow] at hv
  cases hv
  intro e
  have e2:g=b:=Option.some.inj e
  rcases hat with h2|h2
  ·rw[e2] at h2;exact o7 h2
  ·omega
 ·rw[cO _ _ 8 _ _ _ hrow] at hv
  cases hv
  exact o8
theorem PlP.fr8 {C:PlCtx} {w w9:World} {st:PlSt} {A:Option Addr} {c:Nat} {A':Option Addr} {c':Nat} {S:Nat→Prop} (h:PlP C w st A c A' c' S) {g n cap:Nat} (hgrow:w.grownBy w9 (Value.slice A' st.2.length c').ownBlock) (hat:(Value.slice A' st.2.length c').ownBlock=some g∨w.heap.size≤g)
  (hP9:w9.heap[C.P]?=some (.cells (plRow C (.slice A st.1.length c) (.slice A' st.2.length c')) 78 (0,0))):PlFr C w (w9.setCell ⟨C.P,8,none⟩ (.slice (some ⟨g,0,none⟩) n cap)):=by
 refine ⟨by rw[show (w9.setCell ⟨C.P,8,none⟩ (.slice (some ⟨g,0,none⟩) n cap)).heap.size=w9.heap.size from by simp];exact hgrow.size,fun b hb hn=>?_⟩
 have o7:=hn.2.1 _ (cO _ _ 7 _ _ _ h.row)
 have o8:=hn.2.2 _ (cO _ _ 8 _ _ _ h.row)
 have hrow:=zAR hP9 (o:=8) (.slice (some ⟨g,0,none⟩) n cap)
 refine ⟨(heap_setCell_other w9 ⟨C.P,8,none⟩ b _ hn.1).trans (hgrow.block b hb fun e=>o8 e.symm),hn.1,fun v hv=>?_,fun v hv=>?_⟩
 ·rw[cO _ _ 7 _ _ _ hrow] at hv
  cases hv
  exact o7
 ·rw[cO _ _ 8 _ _ _ hrow] at hv
  cases hv
  intro e
  have e2:g=b:=Option.some.inj e
  rcases hat with h2|h2
  ·rw[e2] at h2;exact o8 h2
  ·omega
theorem zFB (C:PlCtx) (hC:C.Ok) (w:World) (st:PlSt) (S:Nat→Prop) (hw:PlS C w st S) (i j:Nat) (hi:i≤1000000) (hj:j≤1000000) (s:ByteArray) (hs:s.size≤maxLen) (hlen:st.2.length≤1000000) :
  Calls Tryz.prog 49 #[.pointer (some ⟨C.P,0,none⟩),.int .i64 (i:Int),.string s,.int .i64 (j:Int)] w fun e w'=>e=.returned (.tuple #[])∧PlS C w' (st.1,st.2++[⟨i,s,j⟩]) S∧PlFr C w w':=by
 obtain ⟨A,c,A',c',hp⟩:=hw
 have x8:w.cell? ⟨C.P,8,none⟩=some (.slice A' st.2.length c'):=cO _ _ 8 _ _ _ hp.row
 obtain ⟨w1,hw1⟩:∃ w1,w1=w.alloc (.cells #[.int .i64 (i:Int),.string s,.int .i64 (j:Int)] 148):=⟨_,rfl⟩
 have hp1:PlP C w1 st A c A' c' S:=hp.keep (by rw[hw1];exact bal (bR _ _) _)
 have hnews:=zAm w #[.int .i64 (i:Int),.string s,.int .i64 (j:Int)] 148
 have hs1:w1.heap.size=w.heap.size+1:=by rw[hw1];simp
 have H1:=cH hp1
 have HC:=cH hC
 have hb0:C.w0.heap.size≤w1.heap.size:=hp1.base.size
 rw[←hw1] at hnews
 have Hs1:=cH hs1
 have Hnews:=cH hnews
 have HPz:=cH hp.hP
 have HBl:=cH (show Below w.heap.size w w1 by rw[hw1];exact bal (bR _ _) _)
 obtain ⟨n,hn⟩:∃ n,n=st.2.length:=⟨_,rfl⟩
 have Hn:=cH hn
 have hnz:n≤1000000:=by omega
 rw[←hn] at x8
 clear hn hp hp1 hs1 hnews
 go_enter Tryz.func49,Tryz.ntmps49
 go_wp2_with (at_builtin;rw[←hw1];refine zAK (by rfl) _ _ _ (by rfl) zNE Tryz.underlying76 (by rw[Hn.out];rfl) H1.out.S' ⟨w.heap.size,0,none⟩ 1 [.int .i64 (i:Int),.string s,.int .i64 (j:Int)] ⟨i,s,j⟩ (by rfl) ⟨rfl,hs,hi,hj⟩ Hnews.out (by rw[←Hn.out];unfold maxLen;omega) (by rw[←Hn.out];omega) hb0 (w.heap.size+1) Hs1.out ?_)
 intro g9 cap9 w9 hown9 hgrow9 hat9 hlt9
 rw[←hw1] at hgrow9
 obtain ⟨hP9,hend⟩:=H1.out.push_stl HC.out hown9 hgrow9 (by rcases hat9 with h|h;exact .inl h;exact .inr (by rw[Hs1.out,h];exact nR _))
 have HFr:=cH ((PlFr.below HPz.out HBl.out).trans (H1.out.fr8 (n:=st.2.length+1) (cap:=cap9) hgrow9 (by rcases hat9 with h|h;exact .inl h;exact .inr (by rw[Hs1.out,h];exact nR _)) hP9))
 have y8:w9.cell? ⟨C.P,8,none⟩=some (.slice A' st.2.length c'):=cO _ _ 8 _ _ _ hP9
 have f8:w9.frozen? ⟨C.P,8,none⟩=false:=zAd hP9
 have Hend:=cH hend
 clear hown9 hgrow9 hP9 x8 hend hw1 hat9
 go_wp2_with fail
 go_end0
 exact ⟨rfl,Hend.out,HFr.out⟩
theorem zJo (C:PlCtx) (hC:C.Ok) (w:World) (st:PlSt) (hw:PlWd C w st) (i j:Nat) (hi:i≤1000000) (hj:j≤1000000) (s:ByteArray) (hs:s.size≤maxLen) (hlen:st.2.length≤1000000) :
  Calls Tryz.prog 49 #[.pointer (some ⟨C.P,0,none⟩),.int .i64 (i:Int),.string s,.int .i64 (j:Int)] w fun e w'=>e=.returned (.tuple #[])∧PlWd C w' (st.1,st.2++[⟨i,s,j⟩])∧PlFr C w w':=by
 obtain ⟨S,hS⟩:=hw.s
 refine (zFB C hC w st S hS i j hi hj s hs hlen).mono ?_
 rintro e w' ⟨h1,h2,h3⟩
 exact ⟨h1,h2.all,h3⟩
structure DlCtx where
 w0:World
 P:Nat
 gA:Option Addr
 gn:Nat
 gc:Nat
 pA:Option Addr
 pn:Nat
 pc:Nat
 dec:Int
 nod:Int
 oA:Option Addr
 on:Nat
 oc:Nat
 like:Bool
 ol:List Dir
 q:PlIn
structure DlCtx.Ok (C:DlCtx):Prop where
 tab:Tab C.w0
 g:SlV rNode C.w0 (fun b=>b<C.w0.heap.size) C.q.g (.slice C.gA C.gn C.gc)
 p:SlV rPack C.w0 (fun b=>b<C.w0.heap.size) C.q.ps (.slice C.pA C.pn C.pc)
 o:SlV rDir C.w0 (fun b=>b<C.w0.heap.size) C.ol (.slice C.oA C.on C.oc)
 old:C.q.old=if C.like=true then some C.ol else none
 oz:∀ d∈C.ol,d.path.length * 32≤140737488355328
 le:C.w0.heap.size≤C.P
 dirs:I64 C.q.dirs
 path:I64 C.q.path
 gz:C.q.g.length≤1048576
 pz:C.q.ps.length≤1048576
def dlRow (C:DlCtx) (vT vS:Value):Array Value:=#[.slice C.gA C.gn C.gc,.slice C.pA C.pn C.pc,.int .i64 C.dec,.int .i64 C.nod,.int .i64 C.q.dirs,.int .i64 C.q.path,.slice C.oA C.on C.oc,.bool C.like,vT,vS]
structure DlP (C:DlCtx) (w:World) (st:PlSt) (A:Option Addr) (c:Nat) (A':Option Addr) (c':Nat) (S:Nat→Prop):Prop where
 row:w.heap[C.P]?=some (.cells (dlRow C (.slice A st.1.length c) (.slice A' st.2.length c')) 87 (0,0))
 T:Own rDir w C.w0.heap.size 54 (.slice A st.1.length c) st.1 S
 S':Own rStl w C.w0.heap.size 130 (.slice A' st.2.length c') st.2 (fun _=>False)
 apart:∀ b,S b→b≠C.P∧(Value.slice A' st.2.length c').ownBlock≠some b
 tp:(Value.slice A st.1.length c).ownBlock≠some C.P
 sp:(Value.slice A' st.2.length c').ownBlock≠some C.P
 ts:∀ k,(Value.slice A st.1.length c).ownBlock=some k→(Value.slice A' st.2.length c').ownBlock≠some k
 base:Below C.w0.heap.size C.w0 w
 old:∀ b,b<C.w0.heap.size→S b
def DlWd (C:DlCtx) (w:World) (st:PlSt):Prop:=∃ A c A' c' S,DlP C w st A c A' c' S
theorem DlWd.parts {C:DlCtx} {w:World} {st:PlSt} (h:DlWd C w st):∃ A c A' c' S,DlP C w st A c A' c' S:=h
theorem DlP.all {C:DlCtx} {w:World} {st:PlSt} {A:Option Addr} {c:Nat} {A':Option Addr} {c':Nat} {S:Nat→Prop} (h:DlP C w st A c A' c' S):DlWd C w st:=⟨A,c,A',c',S,h⟩
theorem DlWd.base {C:DlCtx} {w:World} {st:PlSt} (h:DlWd C w st):Below C.w0.heap.size C.w0 w:=by
 obtain ⟨A,c,A',c',S,h⟩:=h
 exact h.base
theorem DlP.hP {C:DlCtx} {w:World} {st:PlSt} {A:Option Addr} {c:Nat} {A':Option Addr} {c':Nat} {S:Nat→Prop} (h:DlP C w st A c A' c' S):C.P<w.heap.size:=(aS.1 h.row).1
theorem DlP.keep {C:DlCtx} {w w':World} {st:PlSt} {A:Option Addr} {c:Nat} {A':Option Addr} {c':Nat} {S:Nat→Prop} (h:DlP C w st A c A' c' S) (hb:Below w.heap.size w w'):DlP C w' st A c A' c' S:=
 ⟨(hb.block _ h.hP).trans h.row,h.T.keep hb,h.S'.keep hb,h.apart,h.tp,h.sp,h.ts,bot h.base hb,h.old⟩
def DlS (C:DlCtx) (w:World) (st:PlSt) (S:Nat→Prop):Prop:=∃ A c A' c',DlP C w st A c A' c' S
theorem DlS.all {C:DlCtx} {w:World} {st:PlSt} {S:Nat→Prop} (h:DlS C w st S):DlWd C w st:=by
 obtain ⟨A,c,A',c',h⟩:=h
 exact h.all
theorem DlWd.s {C:DlCtx} {w:World} {st:PlSt} (h:DlWd C w st):∃ S,DlS C w st S:=by
 obtain ⟨A,c,A',c',S,h⟩:=h.parts
 exact ⟨S,A,c,A',c',h⟩
theorem DlS.keep {C:DlCtx} {w w':World} {st:PlSt} {S:Nat→Prop} (h:DlS C w st S) (hb:Below w.heap.size w w'):DlS C w' st S:=by
 obtain ⟨A,c,A',c',h⟩:=h
 exact ⟨A,c,A',c',h.keep hb⟩
theorem DlP.push_stl {C:DlCtx} (hC:C.Ok) {w w9:World} {st:PlSt} {A:Option Addr} {c:Nat} {A':Option Addr} {c':Nat} {S:Nat→Prop} (h:DlP C w st A c A' c' S) {x:Stl} {g cap:Nat}
  (hown:Own rStl w9 C.w0.heap.size 130 (.slice (some ⟨g,0,none⟩) (st.2.length+1) cap) (st.2++[x]) (fun _=>False)) (hgrow:w.grownBy w9 (Value.slice A' st.2.length c').ownBlock) (hat:(Value.slice A' st.2.length c').ownBlock=some g∨w.heap.size≤g) :
  w9.heap[C.P]?=some (.cells (dlRow C (.slice A st.1.length c) (.slice A' st.2.length c')) 87 (0,0))∧DlS C (w9.setCell ⟨C.P,9,none⟩ (.slice (some ⟨g,0,none⟩) (st.2.length+1) cap)) (st.1,st.2++[x]) S:=by
 have hP:=h.hP
 have hP9:w9.heap[C.P]?=some (.cells (dlRow C (.slice A st.1.length c) (.slice A' st.2.length c')) 87 (0,0)):=by
  rw[hgrow.block C.P hP (fun e=>h.sp e.symm)];exact h.row
 refine ⟨hP9,?_⟩
 have hgP:g≠C.P:=fun e=>by
  rcases hat with h2|h2
  ·rw[e] at h2;exact h.sp h2
  ·omega
 have hl9:(st.2++[x]).length=st.2.length+1:=by rw[List.length_append];rfl
 have hT9:Own rDir w9 C.w0.heap.size 54 (.slice A st.1.length c) st.1 S:=by
  refine h.T.grown hgrow ?_ fun b hb e=>(h.apart b hb).2 e.symm
  cases hk:(Value.slice A st.1.length c).ownBlock with
  | none=>exact .inl rfl
  | some k=>exact .inr fun e=>h.ts k hk e.symm
 have hT10:Own rDir (w9.setCell ⟨C.P,9,none⟩ (.slice (some ⟨g,0,none⟩) (st.2.length+1) cap)) C.w0.heap.size 54 (.slice A st.1.length c) st.1 S:=
  hT9.grown (zBc _ _ _ _) (.inr h.tp) fun b hb e=>(h.apart b hb).1 (Option.some.inj e)
 have hS10:Own rStl (w9.setCell ⟨C.P,9,none⟩ (.slice (some ⟨g,0,none⟩) (st.2.length+1) cap)) C.w0.heap.size 130 (.slice (some ⟨g,0,none⟩) (st.2.length+1) cap) (st.2++[x]) (fun _=>False):=
  hown.grown (zBc _ _ _ _) (.inr fun e=>hgP (Option.some.inj e)) fun b hb=>hb.elim
 have hB9:Below C.w0.heap.size C.w0 w9:=h.base.grown hgrow h.base.size fun k hk=>(h.S'.lt k hk).1
 refine ⟨A,c,some ⟨g,0,none⟩,cap,?_,hT10,by rw[hl9];exact hS10,fun b hb=>⟨(h.apart b hb).1,fun e=>?_⟩,h.tp,fun e=>hgP (Option.some.inj e),fun k hk e=>?_,hB9.setCell (p:=⟨C.P,9,none⟩) hC.le _,h.old⟩
 ·rw[hl9]
  exact zAR hP9 _
 ·have e2:g=b:=Option.some.inj e
  rcases hat with h2|h2
  ·rw[e2] at h2;exact (h.apart b hb).2 h2
  ·have:=(h.T.1 b hb).1;omega
 ·have e2:g=k:=Option.some.inj e
  rcases hat with h2|h2
  ·rw[e2] at h2;exact h.ts k hk h2
  ·have:=(h.T.lt k hk).2;omega
theorem DlP.push_dir {C:DlCtx} (hC:C.Ok) {w w1 w9:World} {st:PlSt} {A:Option Addr} {c:Nat} {A':Option Addr} {c':Nat} {S:Nat→Prop} (h:DlP C w st A c A' c' S) (hw1:Below w.heap.size w w1) {d:Dir} {g cap:Nat}
  (hown:Own rDir w9 C.w0.heap.size 54 (.slice (some ⟨g,0,none⟩) (st.1.length+1) cap) (st.1++[d]) (fun b=>S b∨(w.heap.size≤b∧b<w1.heap.size))) (hgrow:w1.grownBy w9 (Value.slice A st.1.length c).ownBlock) (hat:(Value.slice A st.1.length c).ownBlock=some g∨w1.heap.size≤g) :
  w9.heap[C.P]?=some (.cells (dlRow C (.slice A st.1.length c) (.slice A' st.2.length c')) 87 (0,0))∧DlWd C (w9.setCell ⟨C.P,8,none⟩ (.slice (some ⟨g,0,none⟩) (st.1.length+1) cap)) (st.1++[d],st.2):=by
 have hk:=h.keep hw1
 have hP:=hk.hP
 have hP0:=h.hP
 have hP9:w9.heap[C.P]?=some (.cells (dlRow C (.slice A st.1.length c) (.slice A' st.2.length c')) 87 (0,0)):=by
  rw[hgrow.block C.P hP (fun e=>h.tp e.symm)];exact hk.row
 refine ⟨hP9,?_⟩
 have hws:=hw1.size
 have hgP:g≠C.P:=fun e=>by
  rcases hat with h2|h2
  ·rw[e] at h2;exact h.tp h2
  ·omega
 have hl9:(st.1++[d]).length=st.1.length+1:=by rw[List.length_append];rfl
 have hS9:Own rStl w9 C.w0.heap.size 130 (.slice A' st.2.length c') st.2 (fun _=>False):=by
  refine hk.S'.grown hgrow ?_ fun b hb=>hb.elim
  cases hk2:(Value.slice A' st.2.length c').ownBlock with
  | none=>exact .inl rfl
  | some k=>exact .inr fun e=>h.ts k e.symm hk2
 have hS10:Own rStl (w9.setCell ⟨C.P,8,none⟩ (.slice (some ⟨g,0,none⟩) (st.1.length+1) cap)) C.w0.heap.size 130 (.slice A' st.2.length c') st.2 (fun _=>False):=
  hS9.grown (zBc _ _ _ _) (.inr h.sp) fun b hb=>hb.elim
 have hT10:Own rDir (w9.setCell ⟨C.P,8,none⟩ (.slice (some ⟨g,0,none⟩) (st.1.length+1) cap)) C.w0.heap.size 54 (.slice (some ⟨g,0,none⟩) (st.1.length+1) cap) (st.1++[d]) (fun b=>S b∨(w.heap.size≤b∧b<w1.heap.size)):=
  hown.grown (zBc _ _ _ _) (.inr fun e=>hgP (Option.some.inj e)) fun b hb e=>by
   have e2:b=C.P:=Option.some.inj e
   rcases hb with hb|hb
   ·exact (h.apart b hb).1 e2
   ·omega
 have hB9:Below C.w0.heap.size C.w0 w9:=hk.base.grown hgrow hk.base.size fun k hk2=>(h.T.lt k hk2).1
 refine ⟨some ⟨g,0,none⟩,cap,A',c',_,?_,by rw[hl9];exact hT10,hS10,fun b hb=>?_,fun e=>hgP (Option.some.inj e),h.sp,fun k hk2 e=>?_,hB9.setCell (p:=⟨C.P,8,none⟩) hC.le _,fun b hb=>by exact Or.inl (h.old b hb)⟩
 ·rw[hl9]
  exact zAR hP9 _
 ·rcases hb with hb|hb
  ·exact h.apart b hb
  ·refine ⟨by omega,fun e=>?_⟩
   have:=(h.S'.lt b e).2
   omega
 ·have e2:g=k:=Option.some.inj hk2
  rcases hat with h2|h2
  ·rw[e2] at h2;exact h.ts k h2 e
  ·have:=(h.S'.lt k e).2;omega
def NotDl (C:DlCtx) (w:World) (b:Nat):Prop:=b≠C.P∧(∀ v,w.cell? ⟨C.P,8,none⟩=some v→v.ownBlock≠some b)∧(∀ v,w.cell? ⟨C.P,9,none⟩=some v→v.ownBlock≠some b)
def DlFr (C:DlCtx) (w w':World):Prop:=w.heap.size≤w'.heap.size∧∀ b,b<w.heap.size→NotDl C w b→w'.heap[b]?=w.heap[b]?∧NotDl C w' b
theorem DlFr.trans {C:DlCtx} {w w' w'':World} (h:DlFr C w w') (h':DlFr C w' w''):DlFr C w w'':=
 ⟨nT h.1 h'.1,fun b hb hn=>by
   obtain ⟨h1,h2⟩:=h.2 b hb hn
   obtain ⟨h3,h4⟩:=h'.2 b (lL hb h.1) h2
   exact ⟨h3.trans h1,h4⟩⟩
theorem DlFr.below {C:DlCtx} {w w':World} (hP:C.P<w.heap.size) (hb:Below w.heap.size w w'):DlFr C w w':=
 ⟨hb.size,fun b hb' hn=>⟨hb.block _ hb',hn.1,fun v hv=>hn.2.1 v (by rw[←zAN (hb.block _ hP) 8 none];exact hv),fun v hv=>hn.2.2 v (by rw[←zAN (hb.block _ hP) 9 none];exact hv)⟩⟩
theorem DlWd.keep {C:DlCtx} {w w':World} {st:PlSt} (h:DlWd C w st) (hb:Below w.heap.size w w'):DlWd C w' st:=by
 obtain ⟨A,c,A',c',S,h⟩:=h
 exact ⟨A,c,A',c',S,h.keep hb⟩
structure DlRd (C:DlCtx) (w:World) (st:PlSt) (A:Option Addr) (c:Nat) (A':Option Addr) (c':Nat):Prop where
 c0:w.cell? ⟨C.P,0,none⟩=some (.slice C.gA C.gn C.gc)
 c1:w.cell? ⟨C.P,1,none⟩=some (.slice C.pA C.pn C.pc)
 c4:w.cell? ⟨C.P,4,none⟩=some (.int .i64 C.q.dirs)
 c5:w.cell? ⟨C.P,5,none⟩=some (.int .i64 C.q.path)
 c6:w.cell? ⟨C.P,6,none⟩=some (.slice C.oA C.on C.oc)
 c7:w.cell? ⟨C.P,7,none⟩=some (.bool C.like)
 c8:w.cell? ⟨C.P,8,none⟩=some (.slice A st.1.length c)
 c9:w.cell? ⟨C.P,9,none⟩=some (.slice A' st.2.length c')
 dirs:SlV rDir w (fun _=>True) st.1 (.slice A st.1.length c)
 stls:SlV rStl w (fun _=>True) st.2 (.slice A' st.2.length c')
 hP:C.P<w.heap.size
theorem DlP.rd {C:DlCtx} {w:World} {st:PlSt} {A:Option Addr} {c:Nat} {A':Option Addr} {c':Nat} {S:Nat→Prop} (h:DlP C w st A c A' c' S):DlRd C w st A c A' c':=
 have h1:w.heap[C.P]?=some (.cells #[.slice C.gA C.gn C.gc,.slice C.pA C.pn C.pc,.int .i64 C.dec,.int .i64 C.nod,.int .i64 C.q.dirs,.int .i64 C.q.path,.slice C.oA C.on C.oc,.bool C.like,.slice A st.1.length c,.slice A' st.2.length c'] 87 (0,0)):=h.row
 ⟨cO _ _ 0 _ _ _ h1,cO _ _ 1 _ _ _ h1,cO _ _ 4 _ _ _ h1,cO _ _ 5 _ _ _ h1,cO _ _ 6 _ _ _ h1,cO _ _ 7 _ _ _ h1,cO _ _ 8 _ _ _ h1,cO _ _ 9 _ _ _ h1,h.T.slv.more fun _ _ _=>trivial,h.S'.slv.more fun _ _ _=>trivial,h.hP⟩
theorem DlWd.read {C:DlCtx} {w:World} {st:PlSt} (h:DlWd C w st):∃ A c A' c',DlRd C w st A c A' c':=by
 obtain ⟨A,c,A',c',S,h⟩:=h
 exact ⟨A,c,A',c',h.rd⟩
theorem DlRd.keep {C:DlCtx} {w w':World} {st:PlSt} {A:Option Addr} {c:Nat} {A':Option Addr} {c':Nat} (h:DlRd C w st A c A' c') (hb:Below w.heap.size w w'):DlRd C w' st A c A' c':=
 ⟨zAA hb h.c0 h.hP,zAA hb h.c1 h.hP,zAA hb h.c4 h.hP,zAA hb h.c5 h.hP,zAA hb h.c6 h.hP,zAA hb h.c7 h.hP,zAA hb h.c8 h.hP,zAA hb h.c9 h.hP,h.dirs.belowSize hb,h.stls.belowSize hb,lL h.hP hb.size⟩
theorem DlRd.dir {C:DlCtx} {w:World} {st:PlSt} {A:Option Addr} {c:Nat} {A':Option Addr} {c':Nat} (h:DlRd C w st A c A' c') {i:Nat} {d:Dir} (hi:st.1[i]?=some d) :
  ∃ (b o:Nat) (pA:Option Addr) (pc:Nat),A=some ⟨b,o,none⟩∧b<w.heap.size∧w.cell? ⟨b,o+i * 9,none⟩=some (.slice pA d.path.length pc)∧w.cell? ⟨b,o+i * 9+8,none⟩=some (.int .i64 d.node)∧SlV rStr w (fun _=>True) d.path (.slice pA d.path.length pc)∧d.path.length≤pc∧pc≤maxLen:=by
 obtain ⟨b,o,cs,hA,_,hb,hh,hcell⟩:=h.dirs.elem hi
 obtain ⟨s0,s1,s2,s3,rfl,hp,_,_,_,_,_,_,_,_⟩:=hh
 obtain ⟨pA,pc,rfl,h1,h2⟩:=hp.val
 have c0:=hcell 0 _ rfl
 have c8:=hcell 8 _ rfl
 simp only[rDir,Nat.add_zero] at c0 c8
 exact ⟨b,o,pA,pc,hA,hb,c0,c8,hp,h1,h2⟩
theorem DlRd.len {C:DlCtx} {w:World} {st:PlSt} {A:Option Addr} {c:Nat} {A':Option Addr} {c':Nat} (h:DlRd C w st A c A' c'):st.1.length≤9223372036854775807∧st.2.length≤9223372036854775807:=by
 have h1:=h.dirs.cap_le
 have h2:=h.stls.cap_le
 obtain ⟨_,_,e1,h3,_⟩:=h.dirs.val
 obtain ⟨_,_,e2,h4,_⟩:=h.stls.val
 simp only[Value.slice.injEq] at e1 e2
 unfold maxLen at h1 h2
 omega
theorem DlRd.node {C:DlCtx} {w:World} {st:PlSt} {A:Option Addr} {c:Nat} {A':Option Addr} {c':Nat} (h:DlRd C w st A c A' c') (hC:C.Ok) (hb:Below C.w0.heap.size C.w0 w) {i:Nat} {n:Node} (hi:C.q.g[i]?=some n) :
  ∃ (b o:Nat) (xA:Option Addr) (xc:Nat) (eA:Option Addr) (ec:Nat),C.gA=some ⟨b,o,none⟩∧b<C.w0.heap.size∧i<C.gn∧w.cell? ⟨b,o+i * 6,none⟩=some (.string n.name)∧w.cell? ⟨b,o+i * 6+1,none⟩=some (.int .i64 n.ver.major)∧w.cell? ⟨b,o+i * 6+2,none⟩=some (.int .i64 n.ver.minor)∧w.cell? ⟨b,o+i * 6+3,none⟩=some (.int .i64 n.ver.patch) ∧
    w.cell? ⟨b,o+i * 6+4,none⟩=some (.slice xA n.ctx.length xc)∧w.cell? ⟨b,o+i * 6+5,none⟩=some (.slice eA n.edges.length ec)∧SlV rPin w (fun b=>b<C.w0.heap.size) n.ctx (.slice xA n.ctx.length xc)∧SlV rEdge w (fun b=>b<C.w0.heap.size) n.edges (.slice eA n.edges.length ec)∧n.name.size≤maxLen:=by
 have hg:=hC.g.belowSize hb
 have hn:=hg.n_eq
 obtain ⟨b,o,cs,hA,hS,hbl,hh,hcell⟩:=hg.elem hi
 obtain ⟨s0,s1,rfl,hnm,_,_,_,hx,he⟩:=hh
 obtain ⟨xA,xc,rfl,_,_⟩:=hx.val
 obtain ⟨eA,ec,rfl,_,_⟩:=he.val
 have c0:=hcell 0 _ rfl
 have c1:=hcell 1 _ rfl
 have c2:=hcell 2 _ rfl
 have c3:=hcell 3 _ rfl
 have c4:=hcell 4 _ rfl
 have c5:=hcell 5 _ rfl
 simp only[rNode,Nat.add_zero] at c0 c1 c2 c3 c4 c5
 exact ⟨b,o,xA,xc,eA,ec,hA,hS,by rw[hn];exact (gS.1 hi).1,c0,c1,c2,c3,c4,c5,hx,he,hnm⟩
theorem DlRd.pack {C:DlCtx} {w:World} {st:PlSt} {A:Option Addr} {c:Nat} {A':Option Addr} {c':Nat} (h:DlRd C w st A c A' c') (hC:C.Ok) (hb:Below C.w0.heap.size C.w0 w) {i:Nat} {x:Pack} (hi:C.q.ps[i]?=some x) :
  ∃ (b o:Nat) (dA:Option Addr) (dc:Nat) (eA:Option Addr) (ec:Nat) (fA:Option Addr) (fc:Nat),C.pA=some ⟨b,o,none⟩∧b<C.w0.heap.size∧i<C.pn∧w.cell? ⟨b,o+i * 7,none⟩=some (.string x.name)∧w.cell? ⟨b,o+i * 7+1,none⟩=some (.int .i64 x.ver.major)∧w.cell? ⟨b,o+i * 7+2,none⟩=some (.int .i64 x.ver.minor)∧w.cell? ⟨b,o+i * 7+3,none⟩=some (.int .i64 x.ver.patch) ∧
    w.cell? ⟨b,o+i * 7+4,none⟩=some (.slice dA x.deps.length dc)∧w.cell? ⟨b,o+i * 7+5,none⟩=some (.slice eA x.peers.length ec)∧w.cell? ⟨b,o+i * 7+6,none⟩=some (.slice fA x.opts.length fc) ∧
    PackV w (fun b=>b<C.w0.heap.size) x (.agg #[.string x.name,.int .i64 x.ver.major,.int .i64 x.ver.minor,.int .i64 x.ver.patch,.slice dA x.deps.length dc,.slice eA x.peers.length ec,.slice fA x.opts.length fc])∧I64 x.ver.major∧I64 x.ver.minor∧I64 x.ver.patch:=by
 have hg:=hC.p.belowSize hb
 have hn:=hg.n_eq
 obtain ⟨b,o,cs,hA,hS,hbl,hh,hcell⟩:=hg.elem hi
 obtain ⟨s0,s1,s2,rfl,hnm,i1,i2,i3,h1,h2,h3⟩:=hh
 obtain ⟨dA,dc,rfl,_,_⟩:=h1.val
 obtain ⟨eA,ec,rfl,_,_⟩:=h2.val
 obtain ⟨fA,fc,rfl,_,_⟩:=h3.val
 have c0:=hcell 0 _ rfl
 have c1:=hcell 1 _ rfl
 have c2:=hcell 2 _ rfl
 have c3:=hcell 3 _ rfl
 have c4:=hcell 4 _ rfl
 have c5:=hcell 5 _ rfl
 have c6:=hcell 6 _ rfl
 simp only[rPack,Nat.add_zero] at c0 c1 c2 c3 c4 c5 c6
 exact ⟨b,o,dA,dc,eA,ec,fA,fc,hA,hS,by rw[hn];exact (gS.1 hi).1,c0,c1,c2,c3,c4,c5,c6,⟨_,_,_,_,_,_,_,_,_,rfl,hnm,h1,h2,h3⟩,i1,i2,i3⟩
theorem DlP.notDl {C:DlCtx} {w:World} {st:PlSt} {A:Option Addr} {c:Nat} {A':Option Addr} {c':Nat} {S:Nat→Prop} (h:DlP C w st A c A' c' S) {b:Nat} (h1:b≠C.P) (h2:(Value.slice A st.1.length c).ownBlock≠some b) (h3:(Value.slice A' st.2.length c').ownBlock≠some b):NotDl C w b:=
 ⟨h1,fun v hv=>by rw[cO _ _ 8 _ _ _ h.row] at hv;cases hv;exact h2,fun v hv=>by rw[cO _ _ 9 _ _ _ h.row] at hv;cases hv;exact h3⟩
theorem DlP.notNew {C:DlCtx} {w w':World} {st:PlSt} {A:Option Addr} {c:Nat} {A':Option Addr} {c':Nat} {S:Nat→Prop} (h:DlP C w st A c A' c' S) (hb:Below w.heap.size w w') {b:Nat} (h1:w.heap.size≤b):NotDl C w' b:=
 (h.keep hb).notDl (by have:=h.hP;omega) (fun e=>by have:=(h.T.lt _ e).2;omega) (fun e=>by have:=(h.S'.lt _ e).2;omega)
theorem NotDl.grown {C:DlCtx} {w w':World} {row:Option Nat} {b:Nat} (hn:NotDl C w b) (hP:C.P<w.heap.size) (hg:w.grownBy w' row) (hr:row≠some C.P):NotDl C w' b:=
 ⟨hn.1,fun v hv=>hn.2.1 v (by rw[←zAN (hg.block C.P hP (fun e=>hr e.symm)) 8 none];exact hv),fun v hv=>hn.2.2 v (by rw[←zAN (hg.block C.P hP (fun e=>hr e.symm)) 9 none];exact hv)⟩
theorem DlFr.refl (C:DlCtx) (w:World):DlFr C w w:=⟨nR _,fun b _ hn=>⟨rfl,hn⟩⟩
theorem PlRd.dir {C:PlCtx} {w:World} {st:PlSt} {A:Option Addr} {c:Nat} {A':Option Addr} {c':Nat} (h:PlRd C w st A c A' c') {i:Nat} {d:Dir} (hi:st.1[i]?=some d) :
  ∃ (b o:Nat) (pA:Option Addr) (pc:Nat),A=some ⟨b,o,none⟩∧b<w.heap.size∧w.cell? ⟨b,o+i * 9,none⟩=some (.slice pA d.path.length pc)∧w.cell? ⟨b,o+i * 9+8,none⟩=some (.int .i64 d.node)∧SlV rStr w (fun _=>True) d.path (.slice pA d.path.length pc)∧d.path.length≤pc∧pc≤maxLen:=by
 obtain ⟨b,o,cs,hA,_,hb,hh,hcell⟩:=h.dirs.elem hi
 obtain ⟨s0,s1,s2,s3,rfl,hp,_,_,_,_,_,_,_,_⟩:=hh
 obtain ⟨pA,pc,rfl,h1,h2⟩:=hp.val
 have c0:=hcell 0 _ rfl
 have c8:=hcell 8 _ rfl
 simp only[rDir,Nat.add_zero] at c0 c8
 exact ⟨b,o,pA,pc,hA,hb,c0,c8,hp,h1,h2⟩
theorem PlRd.len {C:PlCtx} {w:World} {st:PlSt} {A:Option Addr} {c:Nat} {A':Option Addr} {c':Nat} (h:PlRd C w st A c A' c'):st.1.length≤9223372036854775807∧st.2.length≤9223372036854775807:=by
 have h1:=h.dirs.cap_le
 have h2:=h.stls.cap_le
 obtain ⟨_,_,e1,h3,_⟩:=h.dirs.val
 obtain ⟨_,_,e2,h4,_⟩:=h.stls.val
 simp only[Value.slice.injEq] at e1 e2
 unfold maxLen at h1 h2
 omega
theorem zJ1 (C:PlCtx) (w:World) (st:PlSt) (hw:PlWd C w st) (a h:Nat) (ha:a<st.1.length) (hh:h<st.1.length) :
  Calls Tryz.prog 157 #[.pointer (some ⟨C.P,0,none⟩),.int .i64 (a:Int),.int .i64 (h:Int)] w fun e w'=>e=.returned (.bool (zB4 (zAk st.1 a) (zAk st.1 h)))∧Below w.heap.size w w':=by
 obtain ⟨A,c,A',c',hr⟩:=hw.read
 have hlen:=hr.len.1
 have x7:=hr.c7
 obtain ⟨b,o,pA,pc,hA,hb,y0,_,hp,hpl,hpm⟩:=hr.dir (zAV ha)
 obtain ⟨b2,o2,qA,qc,hA2,_,z0,_,hq,hql,hqm⟩:=hr.dir (zAV hh)
 rw[hA] at hA2
 injection hA2 with hA2
 injection hA2 with hb2 ho2 _
 subst hb2 ho2 hA
 have hPz:=hr.hP
 unfold maxLen at hpm hqm
 show Calls _ _ _ _ fun e w'=>e=.returned (.bool (zB4 (dirAt st.1 a).path (dirAt st.1 h).path))∧_
 generalize (dirAt st.1 a).path=pa at *
 generalize (dirAt st.1 h).path=ph at *
 have HR:Hid (zB4 pa ph=(decide (ph.length≤pa.length)&&eqB (pa.take ph.length) ph)):=rfl
 generalize zB4 pa ph=R at *
 obtain ⟨n,hn⟩:∃ n,n=st.1.length:=⟨_,rfl⟩
 obtain ⟨la,hla⟩:∃ n,n=pa.length:=⟨_,rfl⟩
 obtain ⟨lh,hlh⟩:∃ n,n=ph.length:=⟨_,rfl⟩
 rw[←hn] at x7 ha hh hlen
 rw[←hla] at y0 hp HR hpl
 rw[←hlh] at z0 hq HR hql
 have HP:=cH hp
 have HQ:=cH hq
 have Hla:=cH hla
 have Hlh:=cH hlh
 clear hr hw hn hp hq hla hlh
 generalize C.P=PB at *
 have ha0:(0:Int)≤(a:Int):=by omega
 have hh0:(0:Int)≤(h:Int):=by omega
 have han:(a:Int)<(n:Int):=by omega
 have hhn:(h:Int)<(n:Int):=by omega
 go_enter Tryz.func157,Tryz.ntmps157
 have r_x7:=cR x7
 have r_y0:=cR y0
 have r_z0:=cR z0
 go_wp2_with fail
 refine wQ ?_
 repeat (go_big_quiet_step (first|fail))
 refine wpQuiet_nil fun w1 B1=>?_
 clear r_x7 r_y0 r_z0 x7 y0 z0
 have HB1:=cH B1
 clear B1
 by_cases hle:lh≤la
 ·have hI:(lh:Int)≤(la:Int):=by omega
  have hlh0:(0:Int)≤(lh:Int):=by omega
  have hlc:lh≤pc:=by omega
  have hw2:IntKind.i64.wrap (lh:Int)=(lh:Int):=IntWalk.i64_in _ ⟨by omega,by omega⟩
  have He:Hid (R=eqB (pa.take lh) ph):=by unfold Hid;rw[HR.out,decide_eq_true hle,Bool.true_and]
  have HE:Hid (∀ W,Below w.heap.size w W→Calls Tryz.prog 40 #[.slice pA lh pc,.slice qA lh qc] W fun e w'=>e=.returned (.bool (eqB (pa.take lh) ph))∧Below W.heap.size W w'):=fun W hW=>
   zGB pA qA lh lh pc qc (pa.take lh) ph W _ _ (SlV.take (HP.out.belowSize hW) (by rw[←Hla.out];exact hle)) (HQ.out.belowSize hW)
  generalize eqB (pa.take lh) ph=v at *
  clear HR HP HQ
  go_wp2_with fail
  refine (HE.out w1 HB1.out).mono ?_
  rintro e w2 ⟨rfl,hb2⟩
  have HB2:=cH (bot HB1.out hb2)
  clear hb2 HE
  go_wp2_with fail
  go_ret
  exact ⟨zAB He.out.symm,HB2.out⟩
 ·have hI:¬(lh:Int)≤(la:Int):=by omega
  have He:Hid (R=false):=by unfold Hid;rw[HR.out,decide_eq_false hle,Bool.false_and]
  clear HR HP HQ
  go_wp2_with fail
  go_ret
  exact ⟨zAB He.out.symm,HB1.out⟩
theorem zM7 {q:Stl→Bool} {l:List Stl} {k:Nat} {x:Stl} (h:l[k]?=some x):(l.drop k).any q=(q x||(l.drop (k+1)).any q):=by
 obtain ⟨hk,e⟩:=gS.1 h
 rw[dC hk,e,List.any_cons]
theorem zKj (C:PlCtx) (hC:C.Ok) (w:World) (st:PlSt) (hw:PlWd C w st) (h:Nat) (hh:h<st.1.length) (s:ByteArray) (hst:∀ x∈st.2,x.frm<st.1.length∧x.dst<st.1.length) :
  Calls Tryz.prog 130 #[.pointer (some ⟨C.P,0,none⟩),.int .i64 (h:Int),.string s] w fun e w'=>e=.returned (.bool (zBn st.1 st.2 h s))∧Below w.heap.size w w':=by
 have HW:=cH hw
 obtain ⟨A,c,A',c',hr⟩:=hw.read
 have hlen:=hr.len
 have HRd:=cH hr
 have x7:=hr.c7
 have x8:=hr.c8
 obtain ⟨b,o,pA,pc,hA,hb,y0,_,hp,hpl,hpm⟩:=hr.dir (zAV hh)
 subst hA
 unfold maxLen at hpm
 have HU:Hid (∀ W (a:Nat),Below w.heap.size w W→a<st.1.length→Calls Tryz.prog 157 #[.pointer (some ⟨C.P,0,none⟩),.int .i64 (a:Int),.int .i64 (h:Int)] W fun e w'=>e=.returned (.bool (zB4 (zAk st.1 a) (zAk st.1 h)))∧Below W.heap.size W w'):=fun W a hW ha=>zJ1 C W st (hw.keep hC hW) a h ha hh
 have HD:Hid (∀ W (a:Nat),Below w.heap.size w W→a<st.1.length→∃ pA pc,W.cell? ⟨C.P,7,none⟩=some (.slice (some ⟨b,o,none⟩) st.1.length c)∧W.cell? ⟨b,o+a * 9,none⟩=some (.slice pA (zAk st.1 a).length pc)):=fun W a hW ha=>by
  have h1:=hr.keep hW
  obtain ⟨b',o',pA,pc,hA',_,y,_⟩:=h1.dir (zAV ha)
  injection hA' with hA'
  injection hA' with hb' ho' _
  subst hb' ho'
  exact ⟨pA,pc,h1.c7,y⟩
 have HS:Hid (∀ W,Below w.heap.size w W→SlV rStl W (fun _=>True) st.2 (.slice A' st.2.length c')):=fun W hW=>hr.stls.belowSize hW
 have HST:=cH hst
 have HR:Hid (zBn st.1 st.2 h s=(st.2.drop 0).any (zBR st.1 h s)):=rfl
 have H1:Hid (∀ x:Stl,zBR st.1 h s x=(decide (x.label=s)&&(zB4 (zAk st.1 x.frm) (zAk st.1 h)&&decide ((zAk st.1 x.dst).length≤(zAk st.1 h).length)))):=fun x=>rfl
 obtain ⟨lh,hlh⟩:∃ n,n=(zAk st.1 h).length:=⟨_,rfl⟩
 have y0':w.cell? ⟨b,o+h * 9,none⟩=some (.slice pA lh pc):=by rw[hlh];exact y0
 have hlhz:lh≤pc:=by rw[hlh];exact hpl
 clear y0 hpl
 rw[←hlh] at H1
 clear hlh hp hst hr hw
 obtain ⟨n,hn⟩:∃ n,n=st.1.length:=⟨_,rfl⟩
 obtain ⟨m,hm⟩:∃ m,m=st.2.length:=⟨_,rfl⟩
 rw[←hn] at x7 hh HU HD HST hlen
 rw[←hm] at x8 HS hlen
 have Hm:=cH hm
 have hP0:=HRd.out.hP
 clear HRd hn hm HW hC
 generalize zBn st.1 st.2 h s=R at *
 generalize C.P=PB at *
 have hh0:(0:Int)≤(h:Int):=by omega
 have hhn:(h:Int)<(n:Int):=by omega
 obtain ⟨hl1,hl2⟩:=hlen
 go_enter Tryz.func130,Tryz.ntmps130
 go_wp2_with fail
 go_loopw [25] (fun t wr=>∃ k:Nat,k≤m∧t=.int .i64 k∧Hid (R=(st.2.drop k).any (zBR st.1 h s))∧Hid (Below w.heap.size w wr)) (fun t _=>m - (intOf t).toNat)
 case atStart=>exact ⟨0,nZ _,rfl,HR,bR _ _⟩
 case round=>
  clear HR x7 x8 y0'
  obtain ⟨k,hk,rfl,heq,hbel⟩:=hrel
  have hk0:(0:Int)≤(k:Int):=by omega
  by_cases hlt:k<m
  case neg=>
   have He:Hid (R=false):=by unfold Hid;rw[heq.out,dN (by have:=Hm.out;omega)];rfl
   have hI:¬(k:Int)<(m:Int):=by omega
   clear heq
   go_wp2_with fail
   go_ret
   exact ⟨zAB He.out.symm,hbel.out⟩
  have hkn:(k:Int)<(m:Int):=by omega
  obtain ⟨x,hx⟩:∃ x,st.2[k]?=some x:=⟨_,gE (by have:=Hm.out;omega)⟩
  obtain ⟨e1,e2⟩:=HST.out x (mG hx)
  obtain ⟨b',o',cs,hA,_,hb1,⟨rfl,hlz,hf,hd⟩,hcell⟩:=(HS.out wr hbel.out).elem hx
  subst hA
  have c0:=hcell 0 _ rfl
  have c1:=hcell 1 _ rfl
  have c2:=hcell 2 _ rfl
  simp only[rStl,Nat.add_zero] at c0 c1 c2
  have Hst2:Hid (R=((decide (x.label=s)&&(zB4 (zAk st.1 x.frm) (zAk st.1 h)&&decide ((zAk st.1 x.dst).length≤lh)))||(st.2.drop (k+1)).any (zBR st.1 h s))):=by unfold Hid;rw[heq.out,zM7 hx,H1.out]
  have HU1:Hid (∀ W,Below w.heap.size w W→Calls Tryz.prog 157 #[.pointer (some ⟨PB,0,none⟩),.int .i64 (x.frm:Int),.int .i64 (h:Int)] W fun e w'=>e=.returned (.bool (zB4 (zAk st.1 x.frm) (zAk st.1 h)))∧Below W.heap.size W w'):=fun W hW=>HU.out W x.frm hW e1
  clear hcell hlz heq
  obtain ⟨xf,xl,xd⟩:=x
  simp only at c0 c1 c2 hf hd Hst2 HU1 e1 e2
  go_upto_region 5 with (fail)
  obtain ⟨w4,hw4⟩:∃ w4,w4=wr.alloc (.cells #[.int .i64 (xf:Int),.string xl,.int .i64 (xd:Int)] 148):=⟨_,rfl⟩
  have hq4:w4.heap[wr.heap.size]?=some (.cells #[.int .i64 (xf:Int),.string xl,.int .i64 (xd:Int)] 148 (0,0)):=by rw[hw4];exact zAD _ _
  have HB4:Hid (Below w.heap.size w w4):=by unfold Hid;rw[hw4];exact bal hbel.out _
  rw[←hw4]
  obtain ⟨QB,hQB⟩:∃ QB,QB=wr.heap.size:=⟨_,rfl⟩
  rw[←hQB] at hq4 ⊢
  have d0:=cO _ _ 0 _ _ _ hq4
  have d1:=cO _ _ 1 _ _ _ hq4
  have d2:=cO _ _ 2 _ _ _ hq4
  obtain ⟨dA,dc,z7,z0⟩:=HD.out w4 xd HB4.out e2
  have HU2:=cH (qcall (w:=w4) (fun W hW=>HU1.out W (bot HB4.out hW)))
  have Hbf:Hid (∀ W,Below w4.heap.size w4 W→Below w.heap.size w W):=fun W hW=>bot HB4.out hW
  have hd0:(0:Int)≤(xd:Int):=by omega
  have hdn:(xd:Int)<(n:Int):=by omega
  clear hw4 hQB hq4 c0 c1 c2 HU1 hbel
  generalize zB4 (zAk st.1 xf) (zAk st.1 h)=u at *
  generalize (zAk st.1 xd).length=ld at *
  have r_d0:=cR d0
  have r_d1:=cR d1
  have r_d2:=cR d2
  have r_z7:=cR z7
  have r_z0:=cR z0
  by_cases h2:xl=s
  case neg=>
   have hb2:=zAa h2
   have He:Hid (R=(st.2.drop (k+1)).any (zBR st.1 h s)):=by unfold Hid;rw[Hst2.out,decide_eq_false h2];rfl
   clear h2 Hst2
   go_wp2_with fail
   refine wQ ?_
   repeat (go_big_quiet_step (first|(with_reducible exact HU2.out _ _)))
   refine wpQuiet_nil fun w5 B5=>?_
   have HB5:=cH (Hbf.out _ B5)
   go_wp2_with fail
   go_roundw
   case rel=>exact ⟨k+1,by omega,by go_num,He,HB5⟩
   case measure=>simp[intOf];omega
  have hb2:=zAn h2
  rw[decide_eq_true h2,Bool.true_and] at Hst2
  clear h2
  cases u with
  | false=>
    have He:Hid (R=(st.2.drop (k+1)).any (zBR st.1 h s)):=by unfold Hid;rw[Hst2.out];rfl
    clear Hst2
    go_wp2_with fail
    refine wQ ?_
    repeat (go_big_quiet_step (first|(with_reducible exact HU2.out _ _)))
    refine wpQuiet_nil fun w5 B5=>?_
    have HB5:=cH (Hbf.out _ B5)
    go_wp2_with fail
    go_roundw
    case rel=>exact ⟨k+1,by omega,by go_num,He,HB5⟩
    case measure=>simp[intOf];omega
  | true=>
  by_cases h3:ld≤lh
  ·have hI:(ld:Int)≤(lh:Int):=by omega
   have hId:decide ((ld:Int)≤(lh:Int))=true:=decide_eq_true hI
   have He:Hid (R=true):=by unfold Hid;rw[Hst2.out,decide_eq_true h3];rfl
   clear Hst2
   go_wp2_with fail
   refine wQ ?_
   repeat (go_big_quiet_step (first|(with_reducible exact HU2.out _ _)))
   refine wpQuiet_nil fun w5 B5=>?_
   have HB5:=cH (Hbf.out _ B5)
   go_wp2_with fail
   go_ret
   exact ⟨zAB He.out.symm,HB5.out⟩
  ·have hI:¬(ld:Int)≤(lh:Int):=by omega
   have hId:decide ((ld:Int)≤(lh:Int))=false:=decide_eq_false hI
   have He:Hid (R=(st.2.drop (k+1)).any (zBR st.1 h s)):=by unfold Hid;rw[Hst2.out,decide_eq_false h3];rfl
   clear Hst2
   go_wp2_with fail
   refine wQ ?_
   repeat (go_big_quiet_step (first|(with_reducible exact HU2.out _ _)))
   refine wpQuiet_nil fun w5 B5=>?_
   have HB5:=cH (Hbf.out _ B5)
   go_wp2_with fail
   go_roundw
   case rel=>exact ⟨k+1,by omega,by go_num,He,HB5⟩
   case measure=>simp[intOf];omega
theorem PlRd.node {C:PlCtx} {w:World} {st:PlSt} {A:Option Addr} {c:Nat} {A':Option Addr} {c':Nat} (h:PlRd C w st A c A' c') (hC:C.Ok) (hb:Below C.w0.heap.size C.w0 w) {i:Nat} {n:Node} (hi:C.q.g[i]?=some n) :
  ∃ (b o:Nat) (xA:Option Addr) (xc:Nat) (eA:Option Addr) (ec:Nat),C.gA=some ⟨b,o,none⟩∧b<C.w0.heap.size∧i<C.gn∧w.cell? ⟨b,o+i * 6,none⟩=some (.string n.name)∧w.cell? ⟨b,o+i * 6+1,none⟩=some (.int .i64 n.ver.major)∧w.cell? ⟨b,o+i * 6+2,none⟩=some (.int .i64 n.ver.minor)∧w.cell? ⟨b,o+i * 6+3,none⟩=some (.int .i64 n.ver.patch) ∧
    w.cell? ⟨b,o+i * 6+4,none⟩=some (.slice xA n.ctx.length xc)∧w.cell? ⟨b,o+i * 6+5,none⟩=some (.slice eA n.edges.length ec)∧SlV rPin w (fun b=>b<C.w0.heap.size) n.ctx (.slice xA n.ctx.length xc)∧SlV rEdge w (fun b=>b<C.w0.heap.size) n.edges (.slice eA n.edges.length ec)∧n.name.size≤maxLen:=by
 have hg:=hC.g.belowSize hb
 have hn:=hg.n_eq
 obtain ⟨b,o,cs,hA,hS,hbl,hh,hcell⟩:=hg.elem hi
 obtain ⟨s0,s1,rfl,hnm,_,_,_,hx,he⟩:=hh
 obtain ⟨xA,xc,rfl,_,_⟩:=hx.val
 obtain ⟨eA,ec,rfl,_,_⟩:=he.val
 have c0:=hcell 0 _ rfl
 have c1:=hcell 1 _ rfl
 have c2:=hcell 2 _ rfl
 have c3:=hcell 3 _ rfl
 have c4:=hcell 4 _ rfl
 have c5:=hcell 5 _ rfl
 simp only[rNode,Nat.add_zero] at c0 c1 c2 c3 c4 c5
 exact ⟨b,o,xA,xc,eA,ec,hA,hS,by rw[hn];exact (gS.1 hi).1,c0,c1,c2,c3,c4,c5,hx,he,hnm⟩
theorem zMy {q:Pin→Bool} {l:List Pin} {k:Nat} {x:Pin} (h:l[k]?=some x):(l.drop k).all q=(q x&&(l.drop (k+1)).all q):=by
 obtain ⟨hk,e⟩:=gS.1 h
 rw[dC hk,e,List.all_cons]
theorem zBp {α:Type} {r:Rp α} {w:World} {S:Nat→Prop} {l:List α} {A:Option Addr} {n c:Nat} (h:SlV r w S l (.slice A n c)):n≤9223372036854775807:=by
 have h1:=h.cap_le
 obtain ⟨_,_,e1,h3,_⟩:=h.val
 simp only[Value.slice.injEq] at e1
 unfold maxLen at h1
 omega
theorem zJS (C:PlCtx) (hC:C.Ok) (w:World) (st:PlSt) (hw:PlWd C w st) (a f:Nat) (ha:a<st.1.length) (hf:f≤1000000) {n:Node} {j:Nat} (hj:(dirAt st.1 a).node=(j:Int)) (hn:C.q.g[j]?=some n) (hlen:∀ d∈st.1,d.path.length * 32≤140737488355328) :
  Calls Tryz.prog 79 #[.pointer (some ⟨C.P,0,none⟩),.int .i64 (a:Int),.int .i64 (f:Int)] w fun e w'=>e=.returned (.bool (seesB C.q.g st.1 st.2 a f))∧Below w.heap.size w w':=by
 obtain ⟨A,c,A',c',hr⟩:=hw.read
 have hlen1:=hr.len.1
 have x0:=hr.c0
 have x7:=hr.c7
 obtain ⟨b,o,pA,pc,hA,hb,_,y8,_,_,_⟩:=hr.dir (zAV ha)
 obtain ⟨gb,go,xA,xc,eA,ec,hgA,hgb,hjn,_,_,_,_,g4,_,hx,_,_⟩:=hr.node hC hw.base hn
 rw[hj] at y8
 subst hA
 have hgcap:=zBp (hC.g)
 have hxl:=zBp hx
 have hnlt:C.gn≤9223372036854775807:=hgcap
 rw[hgA] at x0
 have hHP:=hr.hP
 have HF:Hid (∀ W (s:ByteArray),Below w.heap.size w W→Calls Tryz.prog 128 #[.pointer (some ⟨C.P,0,none⟩),.int .i64 (f:Int),.string s] W fun e w'=>e=.returned (.int .i64 (zBA st.2 f s))∧Below W.heap.size W w'):=fun W s hW=>zKi C W st (hw.keep hC hW) f hf s
 have HL:Hid (∀ W (s:ByteArray),s.size≤maxLen→Below w.heap.size w W→Calls Tryz.prog 17 #[.agg #[.slice (some ⟨b,o,none⟩) st.1.length c],.int .i64 (a:Int),.string s] W fun e w'=>e=.returned (.int .i64 (lookI st.1 (a:Int) s))∧Below W.heap.size W w'):=fun W s hs hW=>zEh _ _ _ st.1 s W _ (a:Int) hs hlen (hr.dirs.belowSize hW)
 have HX7:Hid (∀ W,Below w.heap.size w W→W.cell? ⟨C.P,7,none⟩=some (.slice (some ⟨b,o,none⟩) st.1.length c)):=fun W hW=>zAA hW x7 hHP
 have HR:Hid (seesB C.q.g st.1 st.2 a f=(n.ctx.drop 0).all (zDm st.1 st.2 a f)):=by
  unfold Hid seesB
  rw[hj,Int.toNat_natCast,hn]
  rfl
 have H1:Hid (∀ q:Pin,zDm st.1 st.2 a f q=(decide (0≤zBA st.2 f q.name)&&decide (lookI st.1 (a:Int) q.name=zBA st.2 f q.name))):=fun q=>rfl
 have HX:=cH (hx.more (S':=fun _=>True) fun _ _ _=>trivial)
 obtain ⟨m,hm⟩:∃ m,m=n.ctx.length:=⟨_,rfl⟩
 rw[←hm] at g4 HX hxl
 have Hm:=cH hm
 obtain ⟨N,hN⟩:∃ N,N=st.1.length:=⟨_,rfl⟩
 rw[←hN] at x7 HX7 HL ha hlen1
 clear hm hN hr hw hx hC hgA hn hj hlen
 generalize seesB C.q.g st.1 st.2 a f=R at *
 generalize C.P=PB at *
 generalize C.gn=gn at *
 generalize C.gc=gc at *
 generalize n.ctx=ctx at *
 have ha0:(0:Int)≤(a:Int):=by omega
 have han:(a:Int)<(N:Int):=by omega
 have hj0:(0:Int)≤(j:Int):=by omega
 have hjI:(j:Int)<(gn:Int):=by omega
 go_enter Tryz.func79,Tryz.ntmps79
 have r_x0:=cR x0
 have r_x7:=cR x7
 have r_y8:=cR y8
 have r_g4:=cR g4
 go_wp2_with fail
 refine wQ ?_
 repeat (go_big_quiet_step (first|fail))
 refine wpQuiet_nil fun w1 B1=>?_
 have HB1:=cH B1
 clear r_x0 r_x7 r_y8 r_g4 x0 x7 y8 g4 B1
 go_wp2_with fail
 go_loopw [28] (fun t wr=>∃ k:Nat,k≤m∧t=.int .i64 k∧Hid (R=(ctx.drop k).all (zDm st.1 st.2 a f))∧Hid (Below w.heap.size w wr)) (fun t _=>m - (intOf t).toNat)
 case atStart=>exact ⟨0,nZ _,rfl,HR,HB1⟩
 case round=>
  clear HR HB1
  obtain ⟨k,hk,rfl,heq,hbel⟩:=hrel
  have hk0:(0:Int)≤(k:Int):=by omega
  by_cases hlt:k<m
  case neg=>
   have He:Hid (R=true):=by unfold Hid;rw[heq.out,dN (by have:=Hm.out;omega)];rfl
   have hI:¬(k:Int)<(m:Int):=by omega
   clear heq
   go_wp2_with fail
   go_ret
   exact ⟨zAB He.out.symm,hbel.out⟩
  have hkn:(k:Int)<(m:Int):=by omega
  obtain ⟨x,hx⟩:∃ x,ctx[k]?=some x:=⟨_,gE (by have:=Hm.out;omega)⟩
  obtain ⟨b',o',cs,hA,_,hb1,⟨rfl,hlz,_⟩,hcell⟩:=(HX.out.belowSize hbel.out).elem hx
  subst hA
  have c0:=hcell 0 _ rfl
  have c1:=hcell 1 _ rfl
  have c2:=hcell 2 _ rfl
  have c3:=hcell 3 _ rfl
  simp only[rPin,Nat.add_zero] at c0 c1 c2 c3
  have Hst2:Hid (R=((decide (0≤zBA st.2 f x.name)&&decide (lookI st.1 (a:Int) x.name=zBA st.2 f x.name))&&(ctx.drop (k+1)).all (zDm st.1 st.2 a f))):=by unfold Hid;rw[heq.out,zMy hx,H1.out]
  have HF1:Hid (∀ W,Below w.heap.size w W→Calls Tryz.prog 128 #[.pointer (some ⟨PB,0,none⟩),.int .i64 (f:Int),.string x.name] W fun e w'=>e=.returned (.int .i64 (zBA st.2 f x.name))∧Below W.heap.size W w'):=fun W hW=>HF.out W x.name hW
  have HL1:Hid (∀ W,Below w.heap.size w W→Calls Tryz.prog 17 #[.agg #[.slice (some ⟨b,o,none⟩) N c],.int .i64 (a:Int),.string x.name] W fun e w'=>e=.returned (.int .i64 (lookI st.1 (a:Int) x.name))∧Below W.heap.size W w'):=fun W hW=>HL.out W x.name hlz hW
  clear hcell hlz heq
  generalize x.name=nm at *
  generalize x.ver.major=v1 at *
  generalize x.ver.minor=v2 at *
  generalize x.ver.patch=v3 at *
  generalize zBA st.2 f nm=fo at *
  generalize lookI st.1 (a:Int) nm=lk at *
  go_upto_region 4 with (fail)
  obtain ⟨w4,hw4⟩:∃ w4,w4=wr.alloc (.cells #[.string nm,.int .i64 v1,.int .i64 v2,.int .i64 v3] 63):=⟨_,rfl⟩
  have hq4:w4.heap[wr.heap.size]?=some (.cells #[.string nm,.int .i64 v1,.int .i64 v2,.int .i64 v3] 63 (0,0)):=by rw[hw4];exact zAD _ _
  have HB4:Hid (Below w.heap.size w w4):=by unfold Hid;rw[hw4];exact bal hbel.out _
  rw[←hw4]
  obtain ⟨QB,hQB⟩:∃ QB,QB=wr.heap.size:=⟨_,rfl⟩
  rw[←hQB] at hq4 ⊢
  have d0:=cO _ _ 0 _ _ _ hq4
  have hqz:=zAU d0
  clear hw4 hQB hq4 c0 c1 c2 c3 hbel
  go_wp2_with fail
  refine (HF1.out w4 HB4.out).mono ?_
  rintro e w5 ⟨rfl,hb5⟩
  have HB5:=cH (bot HB4.out hb5)
  have e0:=zAA hb5 d0 hqz
  have x7:=HX7.out w5 HB5.out
  have HL2:=cH (qcall (w:=w5) (fun W hW=>HL1.out W (bot HB5.out hW)))
  have Hbf:Hid (∀ W,Below w5.heap.size w5 W→Below w.heap.size w W):=fun W hW=>bot HB5.out hW
  clear hb5 HF1 HL1 d0 HB4 HB5
  have r_e0:=cR e0
  have r_x7:=cR x7
  by_cases h1:0≤fo
  case neg=>
   have hI:fo<0:=by omega
   have hId:decide (fo<0)=true:=decide_eq_true hI
   have He:Hid (R=false):=by unfold Hid;rw[Hst2.out,decide_eq_false h1];rfl
   clear Hst2 h1
   go_wp2_with fail
   refine wQ ?_
   repeat (go_big_quiet_step (first|(with_reducible exact HL2.out _ _)))
   refine wpQuiet_nil fun w6 B6=>?_
   have HB6:=cH (Hbf.out _ B6)
   go_wp2_with fail
   go_ret
   exact ⟨zAB He.out.symm,HB6.out⟩
  have hI:¬fo<0:=by omega
  have hId:decide (fo<0)=false:=decide_eq_false hI
  rw[decide_eq_true h1,Bool.true_and] at Hst2
  by_cases h2:lk=fo
  ·have hbn:(lk != fo)=false:=by simp[h2]
   have He:Hid (R=(ctx.drop (k+1)).all (zDm st.1 st.2 a f)):=by unfold Hid;rw[Hst2.out,decide_eq_true h2];rfl
   clear Hst2 h2 h1
   go_wp2_with fail
   refine wQ ?_
   repeat (go_big_quiet_step (first|(with_reducible exact HL2.out _ _)))
   refine wpQuiet_nil fun w6 B6=>?_
   have HB6:=cH (Hbf.out _ B6)
   go_wp2_with fail
   go_roundw
   case rel=>exact ⟨k+1,by omega,by go_num,He,HB6⟩
   case measure=>simp[intOf];omega
  ·have hbn:(lk != fo)=true:=by simp[h2]
   have He:Hid (R=false):=by unfold Hid;rw[Hst2.out,decide_eq_false h2];rfl
   clear Hst2 h2 h1
   go_wp2_with fail
   refine wQ ?_
   repeat (go_big_quiet_step (first|(with_reducible exact HL2.out _ _)))
   refine wpQuiet_nil fun w6 B6=>?_
   have HB6:=cH (Hbf.out _ B6)
   go_wp2_with fail
   go_ret
   exact ⟨zAB He.out.symm,HB6.out⟩
