/- The program's placer: the directories put in order by their paths' texts (slices.SortFunc): walked. -/
import Derived.Test.YtminjjdnmpaaoaaGreatDoorBd11
import Derived.Test.YtminjjdnmpaaoaaGreatDoorBd16
import Derived.Test.YtminjjdnmpaaoaaGreatDoorBd01
import Derived.Test.YtminjjdnmpaaoaaGreatDoorBd02
import Derived.Test.YtminjjdnmpaaoaaGreatDoorBd15
import Derived.Test.YtminjjdnmpaaoaaGreatDoorBd12
import Derived.Test.YtminjjdnmpaaoaaGreatDoorBd04
import Derived.Test.YtminjjdnmpaaoaaGreatDoorBd10
import Derived.Deep.CutRange
import Derived.Deep.RegionLaw
import Derived.Deep.RegionHeld3
import Derived.Test.YtminjjdnmpaaoaaGreatDoorBd03
import Derived.Test.YtminjjdnmpaaoaaGreatDoorBd09
import Derived.Test.YtminjjdnmpaaoaaGreatDoorBd13
import Derived.Test.YtminjjdnmpaaoaaGreatDoorAl
set_option linter.all false
set_option maxHeartbeats 6400000
set_option maxRecDepth 100000
namespace Go.Proofs.YtminjjdnmpaaoaaGreatDoor
open Go.Rows Go.RowKit Go.Shelf Go.Sort
theorem zGr:∀ a b:List UInt8,(Lib.compareBytes a b<0↔a<b)∧(Lib.compareBytes a b=0↔a=b)
 | [],[]=>by simp[Lib.compareBytes]
 | [],_::_=>by simp[Lib.compareBytes]
 | _::_,[]=>by simp[Lib.compareBytes]
 | x::a,y::b=>by
   have ih:=zGr a b
   rw[Lib.compareBytes,List.cons_lt_cons_iff,List.cons.injEq]
   by_cases h1:x<y
   ·have hne:x≠y:=fun e=>by subst e;exact UInt8.lt_irrefl x h1
    simp[h1,hne]
   ·by_cases h2:y<x
    ·have hne:x≠y:=fun e=>by subst e;exact UInt8.lt_irrefl x h2
     simp[h1,h2,hne]
    ·have he:x=y:=UInt8.le_antisymm (UInt8.not_lt.1 h2) (UInt8.not_lt.1 h1)
     simp[h1,h2,he,ih.1,ih.2]
abbrev RdT (w:World) (S:Nat→Prop):={ p:Dir×List Value // rDir.holds w S p.1 p.2∧p.1.path.length * 32≤140737488355328}
def zeroCells:List Value:=[.slice none 0 0,.string ⟨#[]⟩,.int .i64 0,.int .i64 0,.int .i64 0,.slice none 0 0,.slice none 0 0,.slice none 0 0,.int .i64 0]
theorem zD1 (w:World) (S:Nat→Prop):rDir.holds w S dirZ0 zeroCells:=
 have h0:I64 0:=⟨by decide,by decide⟩
 ⟨_,_,_,_,rfl,SlV.nil_ _ _ _,by decide,h0,h0,h0,SlV.nil_ _ _ _,SlV.nil_ _ _ _,SlV.nil_ _ _ _,h0⟩
instance {w:World} {S:Nat→Prop}:Inhabited (RdT w S):=⟨⟨(dirZ0,zeroCells),zD1 w S,by decide⟩⟩
section
variable {w:World} {S:Nat→Prop}
def encRt (x:RdT w S):List Value:=x.1.2
def cfRt (x y:RdT w S):Int:=Lib.compareBytes (textB x.1.1.path).data.toList (textB y.1.1.path).data.toList
theorem ltRt (x y:RdT w S):ltOf cfRt x y=decide ((textB x.1.1.path).data.toList<(textB y.1.1.path).data.toList):=by
 unfold ltOf cfRt
 exact decide_eq_decide.2 (zGr _ _).1
theorem swoRt:SWO (ltOf (cfRt (w:=w) (S:=S))) where
 irrefl x:=by rw[ltRt];simp
 trans x y z h1 h2:=by rw[ltRt] at *;simp at *;exact List.lt_trans h1 h2
 ntrans x y z h1 h2:=by
  rw[ltRt] at *
  simp only[decide_eq_false_iff_not] at *
  exact List.not_lt.2 (List.le_trans (List.not_lt.1 h2) (List.not_lt.1 h1))
end
theorem zNf {W W':World} (h:Below W.heap.size W W') (hd:W.drawn≤W'.drawn):∃ q os',W'=grow (W.drewN q) os':=by
 obtain ⟨p,hp⟩:=regrown_of_below h
 have e:W'.drawn=p.d:=by rw[hp];rfl
 refine ⟨p.d - W.drawn,p.os,?_⟩
 rw[hp]
 congr 1
 unfold redrawn World.drewN
 congr 1
 omega
theorem zEl (w:World) (g o m:Nat) (dk:Array Value) (os:Array Obj) {k:Nat} (hk:k<w.heap.size) (hne:k≠g):(sortWorld id w g o m dk os).heap[k]?=w.heap[k]?:=by
 unfold sortWorld
 have hs:(putRow id (Sort.ahead w m) g o dk).heap.size=w.heap.size:=size_putRow id (Sort.ahead w m) g o dk
 rw[heap_grow_old _ _ (by rw[hs];exact hk)]
 unfold putRow mapBlock
 simp only[Array.getElem?_modify]
 rw[if_neg (fun e=>hne e.symm)]
 rfl
theorem zCk (w:World) (g o m:Nat) (dk:Array Value) (os:Array Obj):w.grownBy (sortWorld id w g o m dk os) (some g):=by
 refine ⟨rfl,rfl,rfl,?_,fun k hk hne=>zEl w g o m dk os hk (fun e=>hne (by rw[e]))⟩
 unfold sortWorld
 rw[size_grow,size_putRow]
 show w.heap.size≤w.heap.size+os.size
 omega
theorem zI3 (w:World) (oa ob:Obj):((w.alloc oa).alloc ob).heap[w.heap.size]?=some oa∧((w.alloc oa).alloc ob).heap[w.heap.size+1]?=some ob:=by
 have hsz:w.heap.size+1=(w.alloc oa).heap.size:=by simp
 refine ⟨(Below.heap_alloc (w.alloc oa) ob w.heap.size (by rw[←hsz];exact Nat.lt_succ_self _)).trans (zAD w oa),?_⟩
 rw[hsz];exact zAD (w.alloc oa) ob
theorem zNH (x y:Dir) (cs ds:List Value) (W:World) (S:Nat→Prop) (hx:rDir.holds W S x cs) (hy:rDir.holds W S y ds) (hxl:x.path.length * 32≤140737488355328) (hyl:y.path.length * 32≤140737488355328) :
  Calls Tryz.prog 25 #[.agg cs.toArray,.agg ds.toArray] W fun e w'=>e=.returned (.int .i64 (Lib.compareBytes (textB x.path).data.toList (textB y.path).data.toList))∧Below W.heap.size W w':=by
 obtain ⟨s0,s1,s2,s3,rfl,hp,_,_,_,_,_,_,_,_⟩:=hx
 obtain ⟨u0,u1,u2,u3,rfl,hq,_,_,_,_,_,_,_,_⟩:=hy
 obtain ⟨pA,pc,rfl,_,_⟩:=hp.val
 obtain ⟨qA,qc,rfl,_,_⟩:=hq.val
 have HT1:Hid (∀ V,Below W.heap.size W V→Calls Tryz.prog 19 #[.slice pA x.path.length pc] V fun e w'=>e=.returned (.string (textB x.path))∧Below V.heap.size V w'):=fun V hV=>zB3 _ _ _ x.path V (fun b=>b<V.heap.size) (fun b h=>h) hxl ((hp.belowSize hV).more fun b h h'=>h')
 have HT2:Hid (∀ V,Below W.heap.size W V→Calls Tryz.prog 19 #[.slice qA y.path.length qc] V fun e w'=>e=.returned (.string (textB y.path))∧Below V.heap.size V w'):=fun V hV=>zB3 _ _ _ y.path V (fun b=>b<V.heap.size) (fun b h=>h) hyl ((hq.belowSize hV).more fun b h h'=>h')
 have HCm:Hid (∀ V,Calls Tryz.prog 26 #[.string (textB x.path),.string (textB y.path)] V fun e w'=>e=.returned (.int .i64 (Lib.compareBytes (textB x.path).data.toList (textB y.path).data.toList))∧Below V.heap.size V w'):=fun V=>(Tryz.strings_Compare _ _ V).mono fun e w' ⟨h1,h2⟩=>⟨h1,by rw[h2];exact bR _ _⟩
 clear hp hq hxl hyl
 generalize Lib.compareBytes (textB x.path).data.toList (textB y.path).data.toList=R at *
 generalize textB x.path=tx at *
 generalize textB y.path=ty at *
 generalize x.path.length=lx at *
 generalize y.path.length=ly at *
 go_enter Tryz.func25,Tryz.ntmps25
 go_upto_region 1 with (fail)
 obtain ⟨w1,hw1⟩:∃ w1,w1=(W.alloc (.cells #[.slice pA lx pc,.string x.pack.name,.int .i64 x.pack.ver.major,.int .i64 x.pack.ver.minor,.int .i64 x.pack.ver.patch,s1,s2,s3,.int .i64 x.node] 54)).alloc (.cells #[.slice qA ly qc,.string y.pack.name,.int .i64 y.pack.ver.major,.int .i64 y.pack.ver.minor,.int .i64 y.pack.ver.patch,u1,u2,u3,.int .i64 y.node] 54):=⟨_,rfl⟩
 have hB1:Below W.heap.size W w1:=by rw[hw1];exact bal (bal (bR _ _) _) _
 have hq1:=(zI3 W (.cells #[.slice pA lx pc,.string x.pack.name,.int .i64 x.pack.ver.major,.int .i64 x.pack.ver.minor,.int .i64 x.pack.ver.patch,s1,s2,s3,.int .i64 x.node] 54) (.cells #[.slice qA ly qc,.string y.pack.name,.int .i64 y.pack.ver.major,.int .i64 y.pack.ver.minor,.int .i64 y.pack.ver.patch,u1,u2,u3,.int .i64 y.node] 54))
 rw[←hw1] at hq1 ⊢
 have c0:=cO _ _ 0 _ _ _ hq1.1
 have d0:=cO _ _ 0 _ _ _ hq1.2
 have HB1:=cH hB1
 have HQ1:=cH (qcall (w:=w1) (fun V hV=>HT1.out V (bot HB1.out hV)))
 have HQ2:=cH (qcall (w:=w1) (fun V hV=>HT2.out V (bot HB1.out hV)))
 have HQ3:=cH (qcall (w:=w1) (fun V _=>HCm.out V))
 clear hw1 hB1 hq1
 have r_c0:=cR c0
 have r_d0:=cR d0
 go_wp2_with fail
 refine wQ ?_
 repeat (go_big_quiet_step (first|(with_reducible exact HQ1.out _ _)|(with_reducible exact HQ2.out _ _)|(with_reducible exact HQ3.out _ _)))
 refine wpQuiet_nil fun w2 B2=>?_
 go_wp2_with fail
 go_ret
 exact ⟨rfl,bot HB1.out B2⟩
theorem zJZ {w:World} {base:Nat} {g cap:Nat} {l:List Dir} {S:Nat→Prop} (h:Own rDir w base 54 (.slice (some ⟨g,0,none⟩) l.length cap) l S) (hlen:∀ d∈l,d.path.length * 32≤140737488355328):∃ L:List (RdT w S),L.length=l.length∧L.map (fun x=>x.1.1)=l∧HoldsK encRt 9 w g 0 L.toArray:=by
 obtain ⟨h0,xs,h1,h2⟩:=h
 have key:∀ i (hi:i<l.length),∃ x:RdT w S,x.1.1=l[i]∧∀ (j:Nat) (u:Value),x.1.2[j]?=some u→w.cell? ⟨g,i * 9+j,none⟩=some u:=fun i hi=>by
  obtain ⟨cs,hc,hcell⟩:=h2.get i l[i] (gE hi)
  refine ⟨⟨(l[i],cs),hc,hlen _ (List.getElem_mem hi)⟩,rfl,fun j u hu=>?_⟩
  have h3:=h1.cells (g:=g) rfl _ u (hcell j u hu)
  rw[zEj,Nat.zero_add] at h3
  exact h3
 have hfr:∀ o,w.frozen? ⟨g,o,none⟩=false:=fun o=>by
  rcases h1.2 with ⟨q,_⟩|⟨g',cap',cur,q,_,hg,_⟩
  ·cases q
  ·simp only[Value.slice.injEq,Option.some.injEq,Addr.mk.injEq] at q
   obtain ⟨⟨rfl,_⟩,_⟩:=q
   simp[World.frozen?,hg]
 obtain ⟨f,hf⟩:∃ f:Nat→RdT w S,∀ i (hi:i<l.length),(f i).1.1=l[i]∧∀ (j:Nat) (u:Value),(f i).1.2[j]?=some u→w.cell? ⟨g,i * 9+j,none⟩=some u:=by
  refine ⟨fun i=>if hi:i<l.length then (key i hi).choose else default,fun i hi=>?_⟩
  simp only[dif_pos hi]
  exact (key i hi).choose_spec
 refine ⟨(List.range l.length).map f,by simp,?_,?_⟩
 ·apply List.ext_getElem
  ·simp
  ·intro i h1 h2
   simp only[List.length_map,List.length_range] at h1
   simp only[List.getElem_map,List.getElem_range]
   exact (hf i h1).1
 ·intro t ht
  rw[size_flatK,List.size_toArray,List.length_map,List.length_range] at ht
  have hi:t / 9<l.length:=by omega
  have hiL:t / 9<((List.range l.length).map f).toArray.size:=by simpa using hi
  rw[get_flatK _ _ _ _ (by rw[List.size_toArray,List.length_map,List.length_range];exact ht),getElem!_pos _ (t / 9) hiL]
  have hx:((List.range l.length).map f).toArray[t / 9]=f (t / 9):=by simp
  rw[hx]
  obtain ⟨_,hq⟩:=hf (t / 9) hi
  have hl9:(f (t / 9)).1.2.length=9:=rDir.len (f (t / 9)).2.1
  have hm:t % 9<(f (t / 9)).1.2.length:=by rw[hl9];omega
  refine ⟨?_,hfr _⟩
  have:=hq (t % 9) _ (gE hm)
  rw[show 0+t=t / 9 * 9+t % 9 from by omega,this]
  show some _=some ((f (t / 9)).1.2)[t % 9]!
  rw[getElem!_pos (f (t / 9)).1.2 (t % 9) hm]
theorem zJX {w W:World} {g cap:Nat} {S T:Nat→Prop} {L:List (RdT w S)} (h:HoldsK encRt 9 W g 0 L.toArray) (hT:T g) (hlt:g<W.heap.size) (hc:L.length≤cap) (hm:cap≤maxLen) (hS:∀ b,S b→b<w.heap.size→T b∧W.heap[b]?=w.heap[b]?):SlV rDir W T (L.map fun x=>x.1.1) (.slice (some ⟨g,0,none⟩) L.length cap):=by
 refine ⟨some ⟨g,0,none⟩,cap,by rw[List.length_map],by rw[List.length_map];exact hc,hm,(fun e=>by cases e),fun _=>⟨g,0,rfl,hT,hlt,fun i x hx=>?_⟩⟩
 rw[List.getElem?_map] at hx
 obtain ⟨y,hy,rfl⟩:=Option.map_eq_some_iff.1 hx
 obtain ⟨hi,hy⟩:=gS.1 hy
 refine ⟨y.1.2,rDir.mono y.2.1 hS,fun j u hu=>?_⟩
 have hl9:y.1.2.length=9:=rDir.len y.2.1
 have hj:j<9:=by have:=(gS.1 hu).1;omega
 have:=(h.cell (i:=i) (c:=j) (by rw[List.size_toArray];exact hi) hj).1
 simp only[rDir] at this ⊢
 rw[this,getElem!_pos L.toArray i (by rw[List.size_toArray];exact hi)]
 have hl:L.toArray[i]'(by rw[List.size_toArray];exact hi)=y:=by rw[←hy];rfl
 rw[hl]
 show some (y.1.2)[j]! = some u
 rw[getElem!_pos y.1.2 j (by omega),←hu,gE]
theorem zH5:zDF Tryz.prog 25:=zCI Tryz.func25 (by kernel_rfl) rfl
theorem zIJ (v:Value) (l:List Dir) (w:World) (base:Nat) (S:Nat→Prop) (hown:Own rDir w base 54 v l S) (hm:l.length≤1000000) (hpos:0<l.length) (hlen:∀ d∈l,d.path.length * 32≤140737488355328) (hn:(l.map fun d=>textB d.path).Nodup) :
  Calls Tryz.prog 24 #[v,.func (.func 25) #[] #[]] w fun e w'=>e=.returned (.tuple #[])∧SlV rDir w' (fun b=>S b∨v.ownBlock=some b) (sortD l) v∧w.grownBy w' v.ownBlock:=by
 obtain ⟨A,cap,rfl,hcap,hmx⟩:=hown.slv.val
 obtain ⟨g,o,cs,he,_,hlt,_,_⟩:=hown.slv.elem (gE hpos)
 have hform:∃ cap',(Value.slice A l.length cap)=.slice (some ⟨g,0,none⟩) l.length cap':=by
  obtain ⟨_,xs,⟨_,q⟩,_⟩:=hown
  rcases q with ⟨_,q⟩|⟨g',cap',cur,q,hbg,_⟩
  ·omega
  ·simp only[Value.slice.injEq] at q
   rw[he] at q
   simp only[Option.some.injEq,Addr.mk.injEq] at q
   obtain ⟨⟨rfl,rfl,_⟩,_,rfl⟩:=q
   exact ⟨cap,by rw[he]⟩
 obtain ⟨cap',hv⟩:=hform
 rw[hv] at hown ⊢
 have hcap2:l.length≤cap'∧cap'≤maxLen:=by
  simp only[Value.slice.injEq] at hv
  omega
 have hSg:∀ b,S b→b≠g:=fun b hb e=>(hown.1 b hb).2 (by rw[e];rfl)
 obtain ⟨L,hLl,hLn,hH⟩:=zJZ hown hlen
 rw[←hLl] at hcap2 hm ⊢
 have hcmp:CmpLays Tryz.prog 25 #[] (encRt (w:=w) (S:=S)) 9 cfRt g 0 L.toArray.size w:=fun m os dk hs x y=>by
  have hgr:w.grownBy (sortWorldK encRt 9 w g 0 m dk os) (some g):=zCk w g 0 m (flatK encRt 9 dk) os
  have hx:rDir.holds (sortWorldK encRt 9 w g 0 m dk os) S x.1.1 x.1.2:=Rp.keep x.2.1 fun b hb hl=>hgr.block b hl (fun e=>hSg b hb (Option.some.inj e))
  have hy:rDir.holds (sortWorldK encRt 9 w g 0 m dk os) S y.1.1 y.1.2:=Rp.keep y.2.1 fun b hb hl=>hgr.block b hl (fun e=>hSg b hb (Option.some.inj e))
  refine (Calls.drawn (zNH x.1.1 y.1.1 x.1.2 y.1.2 _ S hx hy x.2.2 y.2.2)).mono ?_
  rintro e w' ⟨h1,h2,h3⟩
  exact ⟨h1,zNf h2 h3⟩
 have hcon:=AnyQ.slices_SortFunc Tryz.sortDir 9 Tryz.isAgg54 Tryz.sizeOf54 (encRt (w:=w) (S:=S)) (fun x=>rDir.len x.2.1) (fun x u hu=>rDir.one x.2.1 u hu) cfRt swoRt 25 #[] g 0 cap' L.toArray w zH5
  hcmp hH hlt (by rw[List.size_toArray];omega)
 rw[List.size_toArray] at hcon
 refine hcon.mono ?_
 rintro e w' ⟨rfl,d',n,os,hp,hs,rfl⟩
 obtain ⟨hp1',_,hp3⟩:=hp
 have hp1:d'.size=L.length:=hp1'.trans (List.size_toArray ..)
 clear hp1'
 have hd:d'.toList.length=L.length:=by rw[Array.length_toList,hp1]
 have hperm:d'.toList.Perm L:=by
  have h1:(d'.extract 0 L.length).toList=d'.toList:=by rw[←hp1,Array.extract_size]
  have h2:(L.toArray.extract 0 L.length).toList=L:=by
   have:=Array.extract_size (xs:=L.toArray)
   rw[List.size_toArray] at this
   rw[this]
  rw[h1,h2] at hp3
  exact hp3
 have hH':HoldsK encRt 9 (sortWorldK encRt 9 w g 0 n d' os) g 0 d'.toList.toArray:=by
  rw[Array.toArray_toList]
  exact holdsK_grow encRt 9 _ os g 0 d' (by show g<(putRow id (Sort.ahead w n) g 0 _).heap.size;rw[size_putRow];exact hlt) (holdsK_putRowK encRt 9 (Sort.ahead w n) g 0 L.toArray d' (holdsK_ahead encRt 9 w n g 0 _ hH) (by rw[hp1,List.size_toArray]))
 have hgr:w.grownBy (sortWorldK encRt 9 w g 0 n d' os) (some g):=zCk w g 0 n (flatK encRt 9 d') os
 have hfin:d'.toList.map (fun x=>x.1.1)=sortD l:=by
  refine zHT hn ?_ ?_
  ·rw[←hLn];exact hperm.map _
  ·rw[List.pairwise_map]
   refine List.pairwise_iff_getElem.2 fun i j hi hj hij=>?_
   have:=hs i j (nZ _) hij (by omega)
   rw[ltRt,getElem!_pos d' j (by simpa using hj),getElem!_pos d' i (by simpa using hi)] at this
   unfold upD
   rw[zCD]
   simpa using this
 refine ⟨rfl,?_,hgr⟩
 have:=zJX (T:=fun b=>S b∨(Value.slice (some ⟨g,0,none⟩) L.length cap').ownBlock=some b) (cap:=cap') hH' (.inr rfl) (lL hlt hgr.size) (by rw[hd];exact hcap2.1) hcap2.2 (fun b hb hl=>⟨.inl hb,hgr.block b hl (fun e=>hSg b hb (Option.some.inj e))⟩)
 rw[hd,hfin] at this
 exact this
theorem zCW {P:Program} {fn:Func} {R:Ending→World→Prop} {ty:TypeId} {d:TypeDesc} {p q:Tmp} {a:Act} {W:World} {g:Nat} {x bv:Value} {t:TypeId} (hf:fn.results=#[.cell p ty,.tmp q]) (hd:a.defers=[]) (h2:a.tmps.getD p undef=.pointer (some ⟨g,0,none⟩)) (h3:a.tmps.getD q undef=bv)
  (hg:W.heap[g]?=some (.cells #[x] t (0,0))) (hu:P.underlying ty=some d) (hdd:(match d with|.struct _|.array _ _=>true|_=>false)=true) (hi:(P.info? ty).map (·.size)=some 1)
  (h:R (.returned (.tuple #[.agg #[x],bv])) W):bodyPost P fn R Exit.ret a W:=
 bodyPost_ret (zBo hf a.tmps W g t #[x] (0,0) d h2 hg hu hdd hi) hd (by rw[h3];exact h)
theorem zB6 {W:World} {b:Nat} {x:Value} {t:TypeId} (h:W.heap[b]?=some (.cells #[x] t (0,0))) (v:Value):(W.setCell ⟨b,0,none⟩ v).heap[b]?=some (.cells #[v] t (0,0)):=zAV (o:=0) h v
theorem zCc {q:PlIn} {f k:Nat} {st:PlSt} (h:k<st.1.length):dirsP q (f+1) k st=match dirP q k st with
 | .error c=>.error c
 | .ok st'=>dirsP q f (k+1) st':=by rw[dirsP,if_pos h];rfl
theorem zF0 {q:PlIn} {f k:Nat} {st:PlSt} (h:¬k<st.1.length):dirsP q f k st=.ok st:=by
 cases f with
 | zero=>rfl
 | succ f=>rw[dirsP,if_neg h]
theorem zBx {q:PlIn} {c:Int} (h:zAq q=.error c):zBC q=([],c):=by unfold zBC;rw[h]
theorem zEw {q:PlIn} {st:PlSt} (h:zAq q=.ok st):zBC q=(sortD st.1,0):=by unfold zBC;rw[h]
theorem OldV.wide {w:World} {S:Nat→Prop} {ov:Value} {old:Option (List Dir)} (h:OldV w S ov old):OldV w (fun b=>b<w.heap.size) ov old:=by
 rcases h with h|⟨b,o,A,n,c,l,h1,h2,h3,h4,h5,h6,h7⟩
 ·exact .inl h
 ·exact .inr ⟨b,o,A,n,c,l,h1,h2,h3,h3,h5,h6.more fun b _ h=>h,h7⟩
theorem PlS.made (C:PlCtx) {w:World} {DB:Nat} (hD:C.w0.heap.size≤DB) (hDP:DB≠C.P) (hd:w.heap[DB]?=some (.cells zeroCells.toArray 54 (0,0)))
  (hP:w.heap[C.P]?=some (.cells (plRow C (.slice (some ⟨DB,0,none⟩) 1 1) (.slice none 0 0)) 78 (0,0))) (hb:Below C.w0.heap.size C.w0 w):PlS C w ([dirZ0],[]) (fun _=>False):=by
 refine ⟨some ⟨DB,0,none⟩,1,none,0,hP,⟨fun b hb=>hb.elim,zeroCells,⟨rfl,.inr ⟨DB,1,zeroCells.toArray,rfl,hD,hd,nR _,by decide,rfl,rfl⟩⟩,zeroCells,[],rfl,zD1 _ _,rfl⟩,Own.nil_ rStl w _ _ (fun b hb=>hb.elim),fun b hb=>hb.elim,fun e=>hDP (Option.some.inj e),(fun e=>by cases e),(fun k _ e=>by cases e),hb,fun b hb=>hb.elim⟩
theorem zET (gA:Option Addr) (gn gc:Nat) (pA:Option Addr) (pn pc:Nat) (dec nod:Int) (ov:Value) (q:PlIn) (w:World) (S:Nat→Prop) (ht:Tab w) (hg:SlV rNode w S q.g (.slice gA gn gc)) (hp:SlV rPack w S q.ps (.slice pA pn pc)) (ho:OldV w S ov q.old)
  (hdi:I64 q.dirs) (hpi:I64 q.path) (hgz:q.g.length≤1048576) (hpz:q.ps.length≤1048576) (hsm:∀ x∈q.ps,zBc x) :
  Calls Tryz.prog 11 #[.agg #[.slice gA gn gc],.slice pA pn pc,.agg #[.int .i64 dec,.int .i64 nod,.int .i64 q.dirs,.int .i64 q.path],ov] w fun e w'=>
   ∃ rv,e=.returned (.tuple #[.agg #[rv],.int .i64 (zBC q).2])∧SlV rDir w' (fun b=>w.heap.size≤b) (zBC q).1 rv∧Below w.heap.size w w':=by
 obtain ⟨op,rfl⟩:∃ p,ov=.pointer p:=by
  rcases ho with ⟨_,h⟩|⟨b,o,_,_,_,_,_,h,_⟩
  ·exact ⟨_,h⟩
  ·exact ⟨_,h⟩
 obtain ⟨dd,hdd⟩:∃ d,d=q.dirs:=⟨_,rfl⟩
 obtain ⟨dp,hdp⟩:∃ d,d=q.path:=⟨_,rfl⟩
 rw[←hdd,←hdp]
 have Hdd:=cH hdd
 have Hdp:=cH hdp
 have HE1:Hid (q.dirs<1∨256<q.dirs∨q.path<1∨1024<q.path→zBC q=([],1)):=fun h=>zBx (by unfold zAq;rw[if_pos h])
 have HE2:Hid (¬(q.dirs<1∨256<q.dirs∨q.path<1∨1024<q.path)→zCG q.old=true→zBC q=([],42)):=fun h h2=>zBx (by unfold zAq;rw[if_neg h,if_pos h2])
 have HE3:Hid (¬(q.dirs<1∨256<q.dirs∨q.path<1∨1024<q.path)→zCG q.old=false→mayPl q.g q.ps=false→zBC q=([],33)):=fun h h2 h3=>zBx (by unfold zAq;rw[if_neg h,if_neg (by rw[h2];decide),if_pos h3])
 have HE4:Hid (¬(q.dirs<1∨256<q.dirs∨q.path<1∨1024<q.path)→zCG q.old=false→mayPl q.g q.ps=true→zAq q=dirsP q 258 0 ([dirZ0],[])):=fun h h2 h3=>by unfold zAq;rw[if_neg h,if_neg (by rw[h2];decide),if_neg (by rw[h3];decide)]
 have Ht:=cH ht
 have Hg:=cH (hg.more (S':=fun b=>b<w.heap.size) fun b _ h=>h)
 have Hp:=cH (hp.more (S':=fun b=>b<w.heap.size) fun b _ h=>h)
 have Ho:=cH ho
 have Hi:Hid (I64 q.dirs∧I64 q.path∧q.g.length≤1048576∧q.ps.length≤1048576∧∀ x∈q.ps,zBc x):=⟨hdi,hpi,hgz,hpz,hsm⟩
 have HNl:=fun (W:World)=>cH (SlV.nil_ rDir W (fun b=>w.heap.size≤b))
 clear ht hg hp ho hdi hpi hgz hpz hsm hdd hdp
 generalize hR:zBC q=R at *
 have HR:=cH hR
 clear hR
 go_enter Tryz.func11,Tryz.ntmps11
 go_upto_region 1 with (fail)
 obtain ⟨w3,hw3⟩:∃ w3,w3=((w.alloc (.cells #[.slice gA gn gc] 24)).alloc (.cells #[.int .i64 dec,.int .i64 nod,.int .i64 dd,.int .i64 dp] 30)).alloc (.cells #[.slice none 0 0] 33):=⟨_,rfl⟩
 have hz1:(w.alloc (.cells #[.slice gA gn gc] 24)).heap.size=w.heap.size+1:=by simp
 have hz2:((w.alloc (.cells #[.slice gA gn gc] 24)).alloc (.cells #[.int .i64 dec,.int .i64 nod,.int .i64 dd,.int .i64 dp] 30)).heap.size=w.heap.size+2:=by simp
 have hB3:Below w.heap.size w w3:=by rw[hw3];exact bal (bal (bal (bR _ _) _) _) _
 have hq1:w3.heap[w.heap.size]?=some (.cells #[.slice gA gn gc] 24 (0,0)):=by
  rw[hw3];exact (Below.heap_alloc _ _ _ (by rw[hz2];omega)).trans ((Below.heap_alloc _ _ _ (by rw[hz1];omega)).trans (zAD _ _))
 have hq2:w3.heap[w.heap.size+1]?=some (.cells #[.int .i64 dec,.int .i64 nod,.int .i64 dd,.int .i64 dp] 30 (0,0)):=by
  rw[hw3,←hz1];exact (Below.heap_alloc _ _ _ (by simp)).trans (zAD _ _)
 have hq3:w3.heap[w.heap.size+2]?=some (.cells #[.slice none 0 0] 33 (0,0)):=by
  rw[hw3,←hz2];exact zAD _ _
 rw[←hw3]
 have HB3:=cH hB3
 obtain ⟨GB,hGB⟩:∃ k,k=w.heap.size:=⟨_,rfl⟩
 obtain ⟨LB,hLB⟩:∃ k,k=w.heap.size+1:=⟨_,rfl⟩
 obtain ⟨TB,hTB⟩:∃ k,k=w.heap.size+2:=⟨_,rfl⟩
 rw[←hGB] at hq1
 rw[←hLB] at hq2
 rw[←hTB] at hq3
 have HTB:Hid (w.heap.size≤TB):=by unfold Hid;omega
 have hlt1:GB<w3.heap.size:=(aS.1 hq1).1
 have hlt2:LB<w3.heap.size:=(aS.1 hq2).1
 have hlt3:TB<w3.heap.size:=(aS.1 hq3).1
 have HQ:Hid (∀ W,Below w3.heap.size w3 W→W.heap[GB]?=some (.cells #[.slice gA gn gc] 24 (0,0))∧W.heap[LB]?=some (.cells #[.int .i64 dec,.int .i64 nod,.int .i64 dd,.int .i64 dp] 30 (0,0))∧W.heap[TB]?=some (.cells #[.slice none 0 0] 33 (0,0))):=fun W hW=>⟨(hW.block _ hlt1).trans hq1,(hW.block _ hlt2).trans hq2,(hW.block _ hlt3).trans hq3⟩
 have HEr:Hid (∀ W,Below w3.heap.size w3 W→W.heap[TB]?=some (.cells #[.slice none 0 0] 33 (0,0))∧W.frozen? ⟨TB,0,none⟩=false∧W.cell? ⟨TB,0,none⟩=some (.slice none 0 0)∧Below w.heap.size w (W.setCell ⟨TB,0,none⟩ (.slice none 0 0))):=fun W hW=>by
  have h:=(hW.block _ hlt3).trans hq3
  exact ⟨h,zAe h,cO _ _ 0 _ _ _ h,(bot HB3.out hW).setCell (p:=⟨TB,0,none⟩) HTB.out _⟩
 rw[←hTB,←hLB,←hGB]
 clear hw3 hz1 hz2 hB3 hGB hLB hTB
 have l2:=cO _ _ 2 _ _ _ hq2
 have l3:=cO _ _ 3 _ _ _ hq2
 obtain ⟨t0,tf,tc,tb⟩:=HEr.out w3 (bR _ _)
 have Ht0:=cH t0
 have Htb:=cH tb
 clear hq1 hq2 hq3 t0 tb
 by_cases h1:dd<1
 case pos=>
  have Hr:=cH (HE1.out (.inl (by rw[←Hdd.out];exact h1)))
  clear HE1 HE2 HE3 HE4
  go_wp2_with fail
  refine zCW rfl rfl rfl rfl (zB6 Ht0.out _) Tryz.underlying33 rfl (by kernel_rfl) ⟨.slice none 0 0,?_,?_,Htb.out⟩
  ·rw[Hr.out];rfl
  ·rw[Hr.out];exact (HNl _).out
 by_cases h2:256<dd
 case pos=>
  have Hr:=cH (HE1.out (.inr (.inl (by rw[←Hdd.out];exact h2))))
  clear HE1 HE2 HE3 HE4
  go_wp2_with fail
  refine zCW rfl rfl rfl rfl (zB6 Ht0.out _) Tryz.underlying33 rfl (by kernel_rfl) ⟨.slice none 0 0,?_,?_,Htb.out⟩
  ·rw[Hr.out];rfl
  ·rw[Hr.out];exact (HNl _).out
 by_cases h3:dp<1
 case pos=>
  have Hr:=cH (HE1.out (.inr (.inr (.inl (by rw[←Hdp.out];exact h3)))))
  clear HE1 HE2 HE3 HE4
  go_wp2_with fail
  refine zCW rfl rfl rfl rfl (zB6 Ht0.out _) Tryz.underlying33 rfl (by kernel_rfl) ⟨.slice none 0 0,?_,?_,Htb.out⟩
  ·rw[Hr.out];rfl
  ·rw[Hr.out];exact (HNl _).out
 by_cases h4:1024<dp
 case pos=>
  have Hr:=cH (HE1.out (.inr (.inr (.inr (by rw[←Hdp.out];exact h4)))))
  clear HE1 HE2 HE3 HE4
  go_wp2_with fail
  refine zCW rfl rfl rfl rfl (zB6 Ht0.out _) Tryz.underlying33 rfl (by kernel_rfl) ⟨.slice none 0 0,?_,?_,Htb.out⟩
  ·rw[Hr.out];rfl
  ·rw[Hr.out];exact (HNl _).out
 have Hlim:Hid (¬(q.dirs<1∨256<q.dirs∨q.path<1∨1024<q.path)):=by unfold Hid;rw[←Hdd.out,←Hdp.out];omega
 have hdz:dd≤256:=by omega
 have hpz:dp≤1024:=by omega
 clear HE1
 go_upto_region 3 with (fail)
 go_cut [33] from 34 to 42 (fun bv wx=>bv=.bool (zCG q.old)∧Hid (Below w3.heap.size w3 wx))
 case first=>
  clear HE2 HE3 HE4 HEr Ht0 Htb l2 l3 tf tc
  rcases Ho.out with ⟨hn,hov⟩|⟨b,o,A,n,c,l,hl,hov,hb,hS,hcell,hsl,hlen⟩
  ·cases hov
   have hbo:zCG q.old=false:=by rw[hn];rfl
   have Hbo:=cH hbo
   clear hn hbo
   go_wp2_with fail
   go_meet
   exact ⟨by rw[Hbo.out],bR _ _⟩
  ·cases hov
   have x0:=zAA HB3.out hcell hb
   have HCh:=cH (zLN A n c l w3 S (zAU Ht.out HB3.out) hlen (hsl.belowSize HB3.out))
   have hbo:zCG q.old=decide (zCd l≠0):=by rw[hl];rfl
   have Hbo:=cH hbo
   clear hl hbo hcell hsl hlen hb hS
   generalize zCd l=ce at *
   by_cases hc:ce=0
   ·subst hc
    go_wp2_with fail
    refine HCh.out.mono ?_
    rintro e w5 ⟨rfl,B5⟩
    go_wp2_with fail
    go_meet
    exact ⟨by rw[Hbo.out];rfl,B5⟩
   ·have hcb:(ce != 0)=true:=by show (!(ce==0))=true;rw[beq_eq_false_iff_ne.2 hc];rfl
    have Hcd:=cH (Hbo.out.trans (decide_eq_true hc))
    clear hc
    go_wp2_with fail
    refine HCh.out.mono ?_
    rintro e w5 ⟨rfl,B5⟩
    go_wp2_with fail
    go_meet
    exact ⟨by rw[Hcd.out],B5⟩
 case rest=>
 obtain ⟨hbv,HB4⟩:=hcut
 have HC4:Hid (Below w3.heap.size w3 wc):=HB4
 generalize wc=w4 at *
 clear l2 l3 tf tc Ht0 Htb
 cases hbo:zCG q.old with
 | true=>
   rw[hbo] at hbv
   subst hbv
   obtain ⟨t0,tf,tc,tb⟩:=HEr.out w4 HC4.out
   have Ht0:=cH t0
   have Htb:=cH tb
   have Hr:=cH (HE2.out Hlim.out hbo)
   clear HE2 HE3 HE4 t0 tb hbo
   go_wp2_with fail
   refine zCW rfl rfl rfl rfl (zB6 Ht0.out _) Tryz.underlying33 rfl (by kernel_rfl) ⟨.slice none 0 0,?_,?_,Htb.out⟩
   ·rw[Hr.out];rfl
   ·rw[Hr.out];exact (HNl _).out
 | false=>
 rw[hbo] at hbv
 subst hbv
 have HE3':=cH (HE3.out Hlim.out hbo)
 have HE4':=cH (HE4.out Hlim.out hbo)
 have HBw4:Hid (Below w.heap.size w w4):=bot HB3.out HC4.out
 obtain ⟨gq,lq,tq⟩:=HQ.out w4 HC4.out
 have g0:=cO _ _ 0 _ _ _ gq
 have l0:=cO _ _ 0 _ _ _ lq
 have l1:=cO _ _ 1 _ _ _ lq
 have l2:=cO _ _ 2 _ _ _ lq
 have l3:=cO _ _ 3 _ _ _ lq
 have Htq:=cH tq
 clear HE2 HE3 HE4 hbo gq lq tq HQ HEr HC4 HB4
 go_upto_region 6 with (fail)
 obtain ⟨w5,hw5⟩:∃ w5,w5=(w4.alloc (.cells #[.slice none 0 0,.string ⟨#[]⟩,.int .i64 0,.int .i64 0,.int .i64 0,.slice none 0 0,.slice none 0 0,.slice none 0 0,.int .i64 0] 54)).alloc (.cells #[.slice gA gn gc,.slice pA pn pc,.int .i64 dec,.int .i64 nod,.int .i64 dd,.int .i64 dp,.pointer op,.slice (some ⟨w4.heap.size,0,none⟩) 1 1,.slice none 0 0] 78):=⟨_,rfl⟩
 have hB5:Below w4.heap.size w4 w5:=by rw[hw5];exact bal (bal (bR _ _) _) _
 have hq5:=zI3 w4 (.cells #[.slice none 0 0,.string ⟨#[]⟩,.int .i64 0,.int .i64 0,.int .i64 0,.slice none 0 0,.slice none 0 0,.slice none 0 0,.int .i64 0] 54) (.cells #[.slice gA gn gc,.slice pA pn pc,.int .i64 dec,.int .i64 nod,.int .i64 dd,.int .i64 dp,.pointer op,.slice (some ⟨w4.heap.size,0,none⟩) 1 1,.slice none 0 0] 78)
 rw[←hw5] at hq5 ⊢
 obtain ⟨C,hC⟩:∃ C:PlCtx,C=⟨w4,w4.heap.size+1,gA,gn,gc,pA,pn,pc,dec,nod,.pointer op,q⟩:=⟨_,rfl⟩
 have hCok:C.Ok:=by
  rw[hC]
  exact ⟨zAU Ht.out HBw4.out,(Hg.out.belowSize HBw4.out).more fun b _ h=>h,(Hp.out.belowSize HBw4.out).more fun b _ h=>h,(Ho.out.keep HBw4.out).wide,Nat.le_succ _,Hi.out.1,Hi.out.2.1,Hi.out.2.2.1,Hi.out.2.2.2.1⟩
 have hPs:PlS C w5 ([dirZ0],[]) (fun _=>False):=by
  refine PlS.made C (DB:=w4.heap.size) (by rw[hC];exact nR _) (by rw[hC];exact (Nat.ne_of_lt (Nat.lt_succ_self _))) hq5.1 ?_ (by rw[hC];exact hB5)
  rw[hC]
  show w5.heap[w4.heap.size+1]?=_
  rw[hq5.2,Hdd.out,Hdp.out]
  rfl
 have hCP:w4.heap.size+1=C.P:=by rw[hC]
 have hCw:C.w0=w4:=by rw[hC]
 have hCq:C.q=q:=by rw[hC]
 have HCok:=cH hCok
 have HPs:=cH hPs
 have HCw:=cH hCw
 have HCq:=cH hCq
 have HB5:=cH hB5
 rw[hCP]
 clear hw5 hB5 hq5 hC hCok hPs hCP hCw hCq g0 l0 l1 l2 l3
 have HMy:Hid (Calls Tryz.prog 22 #[.pointer (some ⟨C.P,0,none⟩)] w5 fun e w'=>e=.returned (.bool (mayPl C.q.g C.q.ps))∧Below w5.heap.size w5 w'):=zM9 C HCok.out w5 _ HPs.out.all
 rw[HCq.out] at HMy
 have HTq:Hid (∀ W,Below C.w0.heap.size C.w0 W→W.heap[TB]?=some (.cells #[.slice none 0 0] 33 (0,0))∧W.frozen? ⟨TB,0,none⟩=false∧W.cell? ⟨TB,0,none⟩=some (.slice none 0 0)∧∀ v,Below w.heap.size w (W.setCell ⟨TB,0,none⟩ v)):=fun W hW=>by
  rw[HCw.out] at hW
  have h:=(hW.block _ (aS.1 Htq.out).1).trans Htq.out
  exact ⟨h,zAe h,cO _ _ 0 _ _ _ h,fun v=>(bot HBw4.out hW).setCell (p:=⟨TB,0,none⟩) HTB.out _⟩
 cases hmy:mayPl q.g q.ps with
 | false=>
   have Hr:=cH (HE3'.out hmy)
   rw[hmy] at HMy
   clear HE3' HE4' hmy
   go_wp2_with fail
   refine HMy.out.mono ?_
   rintro e w6 ⟨rfl,B6⟩
   obtain ⟨t0,tf,tc,tb⟩:=HTq.out w6 (bot HPs.out.all.base B6)
   have Ht0:=cH t0
   have Htb:=cH tb
   clear t0 tb
   go_wp2_with fail
   refine zCW rfl rfl rfl rfl (zB6 Ht0.out _) Tryz.underlying33 rfl (by kernel_rfl) ⟨.slice none 0 0,?_,?_,Htb.out _⟩
   ·rw[Hr.out];rfl
   ·rw[Hr.out];exact (HNl _).out
 | true=>
 have HE:=cH (HE4'.out hmy)
 have HMp:=cH hmy
 rw[hmy] at HMy
 clear HE3' HE4' hmy
 go_wp2_with fail
 refine HMy.out.mono ?_
 rintro e w6 ⟨rfl,B6⟩
 have HPs6:=cH (HPs.out.keep B6).all
 clear HPs HMy B6
 go_wp2_with fail
 go_loopw [11] (fun t wr=>∃ (k:Nat) (stk:PlSt),k≤257∧t=.int .i64 k∧Hid (PlWd C wr stk∧PlInv C.q k [] stk∧stk.2.length≤k * 128∧dirsP q (258 - k) k stk=zAq q)) (fun t _=>258 - (intOf t).toNat)
 case atStart=>exact ⟨0,([dirZ0],[]),by decide,rfl,HPs6.out,PlInv.start _,nZ _,HE.out.symm⟩
 case round=>
  clear HPs6 HE
  obtain ⟨k,stk,hk,rfl,hh⟩:=hrel
  have HPw:=cH hh.1
  have HIn:=cH hh.2.1
  have HLn:=cH hh.2.2.1
  have HGo:=cH hh.2.2.2
  have hlen257:=hh.2.1.len
  clear hh
  obtain ⟨A,c,A',c',S',hpp⟩:=HPw.out.parts
  have x7:=hpp.rd.c7
  have HPp:=cH hpp
  have hk0:(0:Int)≤(k:Int):=by omega
  obtain ⟨N,hN⟩:∃ N,N=stk.1.length:=⟨_,rfl⟩
  rw[←hN] at x7 hlen257
  have HN:=cH hN
  clear hN hpp
  by_cases hlt:k<N
  case neg=>
   have hI:¬(k:Int)<(N:Int):=by omega
   have Hr:Hid (R=(sortD stk.1,0)):=by
    unfold Hid
    rw[←HR.out]
    exact zEw (by rw[←HGo.out,zF0 (by rw[←HN.out];exact hlt)])
   have hpos:0<stk.1.length:=HIn.out.pos
   have HSo:=cH (zIJ _ stk.1 wr _ S' HPp.out.T (by rw[←HN.out];omega) hpos (fun d hd=>by
    have:=nT (zEd (HIn.out.names d hd).1) (HIn.out.names d hd).2
    omega) (zEm HIn.out))
   rw[←HN.out] at HSo
   have HT:=cH HPp.out.tp
   have HL:=cH HPp.out.T.lt
   have HNw:=cH HPp.out.new
   have HBs:=cH HPp.out.base
   have hHP:=HPp.out.hP
   rw[←HN.out] at HT HL
   clear HGo HPw hlt
   go_wp2_with fail
   refine HSo.out.mono ?_
   rintro e w7 ⟨rfl,hs7,hg7⟩
   have hb7:Below C.w0.heap.size C.w0 w7:=HBs.out.grown hg7 HBs.out.size fun b hb=>(HL.out b hb).1
   obtain ⟨t0,tf,tc,tb⟩:=HTq.out w7 hb7
   have z7:w7.cell? ⟨C.P,7,none⟩=some (.slice A N c):=(zAM (hg7.block C.P hHP (fun e=>HT.out e.symm)) 7 none).trans x7
   have hTBw:TB<C.w0.heap.size:=by rw[HCw.out];exact (aS.1 Htq.out).1
   have HSl:Hid (SlV rDir (w7.setCell ⟨TB,0,none⟩ (.slice A N c)) (fun b=>w.heap.size≤b) (sortD stk.1) (.slice A N c)):=by
    refine SlV.more (S:=fun b=>S' b∨(Value.slice A N c).ownBlock=some b) (SlV.keep hs7 fun b hb hl=>heap_setCell_other w7 ⟨TB,0,none⟩ b _ (fun e=>?_)) (fun b hb _=>?_)
    ·have e2:b=TB:=e
     rcases hb with hb|hb
     ·have:=HNw.out b hb;omega
     ·have:=(HL.out b hb).1;omega
    ·have h1:w.heap.size≤C.w0.heap.size:=by rw[HCw.out];exact HBw4.out.size
     rcases hb with hb|hb
     ·exact nT h1 (HNw.out b hb)
     ·exact nT h1 (HL.out b hb).1
   have Ht0:=cH t0
   have Htb:=cH (tb (.slice A N c))
   clear t0 tb hs7 hg7 hb7 x7 HSo
   go_wp2_with fail
   refine zCW rfl rfl rfl rfl (zB6 Ht0.out _) Tryz.underlying33 rfl (by kernel_rfl) ⟨.slice A N c,?_,?_,Htb.out⟩
   ·rw[Hr.out];rfl
   ·rw[Hr.out];exact HSl.out
  have hkn:(k:Int)<(N:Int):=by omega
  obtain ⟨f,hf⟩:∃ f,258 - k=f+1:=⟨257 - k,by omega⟩
  have HSt:Hid (zAq q=match dirP q k stk with|.error c=>.error c|.ok st'=>dirsP q f (k+1) st'):=by
   unfold Hid;rw[←HGo.out,hf,zCc (by rw[←HN.out];exact hlt)]
  have hfe:f=258 - (k+1):=by omega
  subst hfe
  have HDr:=cH (zGR C HCok.out wr stk HPw.out (at_:=k) HIn.out (by rw[HCq.out];exact HMp.out) (by rw[HCq.out,←Hdp.out];exact hpz) (by rw[HCq.out,←Hdd.out];exact hdz) (by rw[←HN.out];exact hlt) (by rw[HCq.out];exact Hi.out.2.2.2.2) HLn.out)
  rw[HCq.out] at HDr
  clear HGo HPw HIn HLn HPp hf
  go_wp2_with fail
  refine HDr.out.mono ?_
  rintro e w7 (⟨c,h1,rfl,hc,hb7,_⟩|⟨st',h1,rfl,hP7,_,hl7,hi7⟩)
  ·have Hr:Hid (R=([],c)):=by
    unfold Hid
    rw[←HR.out]
    exact zBx (by rw[HSt.out,h1])
   obtain ⟨t0,tf,tc,tb⟩:=HTq.out w7 hb7
   have Ht0:=cH t0
   have Htb:=cH tb
   clear t0 tb hb7 h1 HSt HDr x7
   rcases hc with rfl|rfl|rfl
   all_goals
    go_wp2_with fail
    refine zCW rfl rfl rfl rfl (zB6 Ht0.out _) Tryz.underlying33 rfl (by kernel_rfl) ⟨.slice none 0 0,?_,?_,Htb.out _⟩
    ·rw[Hr.out];rfl
    ·rw[Hr.out];exact (HNl _).out
  ·have HS2:Hid (dirsP q (258 - (k+1)) (k+1) st'=zAq q):=by unfold Hid;rw[HSt.out,h1]
   have HP7:=cH hP7
   have Hl7:=cH hl7
   rw[←HCq.out] at hi7
   have Hi7:=cH hi7
   clear h1 hP7 hl7 hi7 HSt HDr x7
   go_wp2_with fail
   go_roundw
   case rel=>exact ⟨k+1,st',by omega,by go_num,HP7.out,Hi7.out,Hl7.out,HS2.out⟩
   case measure=>simp[intOf];omega
set_option maxRecDepth 100000
structure DocK (q:PlIn) (at_:Nat) (n:Node) (d:Dir) (R:Except Int PlSt) (kind:Nat) (stk:PlSt):Prop where
 go:zAS q at_ n ([1,2,3].drop (kind - 1)) stk=R
 inv:∃ done,PlInv q at_ done stk∧zBS q n kind 0 done
 here:stk.1[at_]?=some d
 len:stk.2.length≤at_ * 384+(kind - 1) * 128
structure DocG (q:PlIn) (at_:Nat) (n:Node) (d:Dir) (R:Except Int PlSt) (kind k:Nat) (stk:PlSt):Prop where
 go:(match zAO q at_ n kind (n.edges.drop k) stk with|.error c=>.error c|.ok st'=>zAS q at_ n ([1,2,3].drop kind) st')=R
 inv:∃ done,PlInv q at_ done stk∧zBS q n kind k done
 here:stk.1[at_]?=some d
 len:stk.2.length≤at_ * 384+(kind - 1) * 128+k
section
variable {q:PlIn} {at_:Nat} {n:Node} {d:Dir} {R:Except Int PlSt} {kind k:Nat} {stk:PlSt}
theorem DocK.start (h:PlInv q at_ [] stk) (hd:stk.1[at_]?=some d) {j:Nat} (hj:d.node=(j:Int)) (hn:q.g[j]?=some n) (hl:stk.2.length≤at_ * 384):DocK q at_ n d (dirP q at_ stk) 1 stk:=by
 refine ⟨?_,⟨[],h,fun s hs=>by cases hs⟩,hd,by omega⟩
 unfold dirP
 rw[zBl hd,hj,Int.toNat_natCast]
 have:zAg q j=n:=by unfold zAg;rw[List.getD_eq_getElem?_getD,hn];rfl
 rw[this];rfl
theorem DocK.enter (h:DocK q at_ n d R kind stk) (h1:1≤kind) (h3:kind≤3):DocG q at_ n d R kind 0 stk:=by
 refine ⟨?_,h.inv,h.here,h.len⟩
 have e:([1,2,3]:List Nat).drop (kind - 1)=kind::([1,2,3]:List Nat).drop kind:=by
  match kind,h1,h3 with
  | 1,_,_=>rfl
  | 2,_,_=>rfl
  | 3,_,_=>rfl
 have h4:=h.go
 rw[e,zAS] at h4
 rw[List.drop_zero]
 exact h4
theorem DocG.skip (h:DocG q at_ n d R kind k stk) {e:Edge} (he:n.edges[k]?=some e) (hk:kindP q n e≠kind):DocG q at_ n d R kind (k+1) stk:=by
 obtain ⟨done,i1,i2⟩:=h.inv
 have h4:=h.go
 rw[zBK q at_ n kind he,if_neg hk] at h4
 exact ⟨h4,⟨done,i1,i2.more (Nat.le_succ k)⟩,h.here,by have:=h.len;omega⟩
theorem DocG.err (h:DocG q at_ n d R kind k stk) {e:Edge} (he:n.edges[k]?=some e) (hk:kindP q n e=kind) {c:Int} (hs:stepE q at_ kind e stk=.error c):R=.error c:=by
 have h4:=h.go
 rw[zBK q at_ n kind he,if_pos hk,hs] at h4
 exact h4.symm
theorem DocG.ok (h:DocG q at_ n d R kind k stk) (hm:mayPl q.g q.ps=true) (hq:q.path≤1024) (hqd:q.dirs≤256) {j:Nat} (hn:q.g[j]?=some n) {e:Edge} (he:n.edges[k]?=some e) (hk:kindP q n e=kind) {st':PlSt} (hs:stepE q at_ kind e stk=.ok st'):DocG q at_ n d R kind (k+1) st':=by
 obtain ⟨done,i1,i2⟩:=h.inv
 have h4:=h.go
 rw[zBK q at_ n kind he,if_pos hk,hs] at h4
 obtain ⟨g1,⟨l,g2⟩,g3⟩:=zC7 i1 hm hq hqd h.here hn (mG he) (i2.not (zA1 hm hn) he hk) hs
 refine ⟨h4,⟨_,g1,i2.step he hk⟩,?_,by have:=h.len;omega⟩
 rw[g2,List.getElem?_append_left (gS.1 h.here).1]
 exact h.here
theorem DocG.done_ (h:DocG q at_ n d R kind n.edges.length stk) (h1:1≤kind) (hl:n.edges.length≤128):DocK q at_ n d R (kind+1) stk:=by
 obtain ⟨done,i1,i2⟩:=h.inv
 have h4:=h.go
 rw[List.drop_length,zAO] at h4
 refine ⟨h4,⟨done,i1,i2.turn⟩,h.here,?_⟩
 have:=h.len
 have e:(kind+1 - 1) * 128=(kind - 1) * 128+128:=by omega
 omega
theorem DocK.last (h:DocK q at_ n d R 4 stk):R=.ok stk∧PlInv q (at_+1) [] stk∧stk.2.length≤(at_+1) * 384:=by
 obtain ⟨done,i1,_⟩:=h.inv
 have h4:=h.go
 refine ⟨h4.symm,i1.next,?_⟩
 have:=h.len
 omega
end
theorem DlS.made (C:DlCtx) (hC:C.Ok) {w:World} {DB:Nat} (hD:C.w0.heap.size≤DB) (hDP:DB≠C.P) (hd:w.heap[DB]?=some (.cells zeroCells.toArray 54 (0,0)))
  (hP:w.heap[C.P]?=some (.cells (dlRow C (.slice (some ⟨DB,0,none⟩) 1 1) (.slice none 0 0)) 87 (0,0))) (hb:Below C.w0.heap.size C.w0 w):DlWd C w ([dirZ0],[]):=by
 have hle:=hC.le
 have hsz:=hb.size
 refine ⟨some ⟨DB,0,none⟩,1,none,0,fun b=>b<C.w0.heap.size,hP,⟨fun b hb2=>⟨lL hb2 hsz,fun e=>?_⟩,zeroCells,⟨rfl,.inr ⟨DB,1,zeroCells.toArray,rfl,hD,hd,nR _,by decide,rfl,rfl⟩⟩,zeroCells,[],rfl,zD1 _ _,rfl⟩,Own.nil_ rStl w _ _ (fun b hb=>hb.elim),fun b hb2=>⟨by omega,fun e=>by cases e⟩,fun e=>hDP (Option.some.inj e),(fun e=>by cases e),(fun k _ e=>by cases e),hb,fun b hb2=>hb2⟩
 have e2:DB=b:=Option.some.inj e
 omega
end Go.Proofs.YtminjjdnmpaaoaaGreatDoor
namespace Go.Proofs.YtminjjdnmpaaoaaGreatDoor
open Go
theorem zD6 {α:Type} [DecidableEq α] (x y:α):eqB x y=decide (x=y):=by
 by_cases h:x=y
 ·rw[zAj h,decide_eq_true h]
 ·rw[zAY h,decide_eq_false h]
deriving instance DecidableEq for Ver,Spn,Dep,Pack,Pin,Edge,Node,Dir
def sA:ByteArray:=⟨#[97]⟩
def sB:ByteArray:=⟨#[98]⟩
def packL (s:ByteArray) (v:Int):Pack:=⟨s,⟨v,0,0⟩,[],[],[]⟩
def gL:List Node:=[⟨⟨#[]⟩,⟨0,0,0⟩,[],[⟨sA,1⟩,⟨sB,2⟩]⟩,⟨sA,⟨1,0,0⟩,[],[⟨sB,3⟩]⟩,⟨sB,⟨1,0,0⟩,[],[]⟩,⟨sB,⟨2,0,0⟩,[],[]⟩]
def psL:List Pack:=[zAC,packL sA 1,packL sB 1,packL sB 2]
def qL:PlIn:=⟨gL,psL,9,99,none⟩
def tL:List Dir:=[dirZ0,⟨[sA],packL sA 1,1⟩,⟨[sB],packL sB 1,2⟩,⟨[sA,sB],packL sB 2,3⟩]
theorem zDA (t:List Dir) (p:List ByteArray):findI t p=zCf (fun d=>decide (d.path=p)) t:=by
 unfold findI;simp only[zD6]
theorem zG1:nameB ⟨#[97]⟩=true:=by decide
theorem zHY:nameB ⟨#[98]⟩=true:=by decide
theorem zIq:(textB [⟨#[97]⟩]).size=10:=by decide
theorem zI6:(textB [⟨#[98]⟩]).size=10:=by decide
theorem zGI:(textB [⟨#[97]⟩,⟨#[98]⟩]).size=20:=by decide
theorem zJl:dirP qL 0 ([dirZ0],[])=.ok ([dirZ0,⟨[sA],packL sA 1,1⟩,⟨[sB],packL sB 1,2⟩],[⟨0,sA,1⟩,⟨0,sB,2⟩]):=by
 simp[dirP,zAS,zAO,kindP,stepE,zAm,homeP,spotI,zAw,putP,lookI,zAl,zDA,zCf,zAp,qL,gL,psL,zAg,zAh,dirAt,zAa,dirZ0,pickI,zBs,zBY,zB9,zD6,zCN,sA,sB,packL,zG1,zHY,zIq,zI6,zGI]
theorem zJb:dirP qL 1 ([dirZ0,⟨[sA],packL sA 1,1⟩,⟨[sB],packL sB 1,2⟩],[⟨0,sA,1⟩,⟨0,sB,2⟩])=.ok (tL,[⟨0,sA,1⟩,⟨0,sB,2⟩,⟨1,sB,3⟩]):=by
 simp[dirP,zAS,zAO,kindP,stepE,zAm,homeP,spotI,zAw,putP,lookI,zAl,zDA,zCf,zAp,qL,gL,psL,zAg,zAh,dirAt,zAa,dirZ0,pickI,zBs,zBY,zB9,zD6,zCN,sA,sB,packL,tL,zG1,zHY,zIq,zI6,zGI]
def setL:List Stl:=[⟨0,sA,1⟩,⟨0,sB,2⟩,⟨1,sB,3⟩]
theorem zJa:dirP qL 2 (tL,setL)=.ok (tL,setL):=by
 simp[dirP,zAS,zAO,kindP,stepE,zAm,homeP,spotI,zAw,putP,lookI,zAl,zDA,zCf,zAp,qL,gL,psL,zAg,zAh,dirAt,zAa,dirZ0,pickI,zBs,zBY,zB9,zD6,zCN,sA,sB,packL,tL,zG1,zHY,zIq,zI6,zGI,setL]
theorem zJQ:dirP qL 3 (tL,setL)=.ok (tL,setL):=by
 simp[dirP,zAS,zAO,kindP,stepE,zAm,homeP,spotI,zAw,putP,lookI,zAl,zDA,zCf,zAp,qL,gL,psL,zAg,zAh,dirAt,zAa,dirZ0,pickI,zBs,zBY,zB9,zD6,zCN,sA,sB,packL,tL,zG1,zHY,zIq,zI6,zGI,setL]
theorem zJm:zBP []=true:=zDf List.nodup_nil
theorem zJG:packB (packL sA 1)=true∧packB (packL sB 1)=true∧packB (packL sB 2)=true:=by
 have h0:∀ (s:ByteArray) (v:Int),zBP (zAH [(packL s v).deps,(packL s v).peers,(packL s v).opts])=true:=fun s v=>zJm
 refine ⟨?_,?_,?_⟩
 all_goals
  unfold packB
  rw[h0]
  decide +kernel
theorem zMd:behind none ⟨#[97]⟩=true:=by decide +kernel
theorem zMc:behind none ⟨#[98]⟩=true:=by decide +kernel
theorem zLS:behind (some ⟨#[97]⟩) ⟨#[98]⟩=true:=by decide +kernel
theorem zLc:mayPl gL psL=true:=by
 obtain ⟨h1,h2,h3⟩:=zJG
 simp only[sA,sB,packL] at h1 h2 h3
 simp[mayPl,gL,psL,zB2,formP,headP,zER,zEP,h1,h2,h3,zD6,edgeP,pinP,sA,sB,packL,zeroV,zAC,zAP,zAZ,zAE,zG1,zHY,zMd,zMc,zLS]
theorem zHp:zAq qL=.ok (tL,setL):=by
 have h:zAq qL=dirsP qL 258 0 ([dirZ0],[]):=by
  unfold zAq
  rw[if_neg (by decide),if_neg (by decide),if_neg (by show ¬mayPl gL psL=false;rw[zLc];decide)]
 rw[h]
 rw[zCc (f:=257) (by decide),zJl]
 show dirsP qL 257 1 _=_
 rw[zCc (f:=256) (by decide),zJb]
 show dirsP qL 256 2 (tL,setL)=_
 rw[zCc (f:=255) (by decide),zJa]
 show dirsP qL 255 3 (tL,setL)=_
 rw[zCc (f:=254) (by decide),zJQ]
 show dirsP qL 254 4 (tL,setL)=_
 rw[zF0 (by decide)]
theorem zDI:sortD tL=[dirZ0,⟨[sA],packL sA 1,1⟩,⟨[sA,sB],packL sB 2,3⟩,⟨[sB],packL sB 1,2⟩]:=by
 decide +kernel
theorem zJp:findI (sortD tL) [sA,sB]=2:=by
 rw[zDI,zDA]
 decide +kernel
end Go.Proofs.YtminjjdnmpaaoaaGreatDoor
namespace Go.Proofs.YtminjjdnmpaaoaaGreatDoor
open Go.Rows Go.RowKit Go.Shelf Go.Sort
def oV (v:Int):Obj:=.cells #[.int .i64 v,.int .i64 0,.int .i64 0] 50
def oE2:Obj:=.cells #[.string ⟨#[97]⟩,.int .i64 1,.string ⟨#[98]⟩,.int .i64 2] 61
def oE1:Obj:=.cells #[.string ⟨#[98]⟩,.int .i64 3] 61
def oN (b:Nat):Obj:=.cells #[.string ⟨#[]⟩,.int .i64 0,.int .i64 0,.int .i64 0,.slice none 0 0,.slice (some ⟨b+1+1,0,none⟩) 2 2,.string ⟨#[97]⟩,.int .i64 1,.int .i64 0,.int .i64 0,.slice none 0 0,.slice (some ⟨b+1+1+1,0,none⟩) 1 1,.string ⟨#[98]⟩,.int .i64 1,.int .i64 0,.int .i64 0,.slice none 0 0,.slice none 0 0,.string ⟨#[98]⟩,.int .i64 2,.int .i64 0,.int .i64 0,.slice none 0 0,.slice none 0 0] 58
def oG (b:Nat):Obj:=.cells #[.slice (some ⟨b+1+1+1+1,0,none⟩) 4 4] 24
def oP:Obj:=.cells #[.string ⟨#[]⟩,.int .i64 0,.int .i64 0,.int .i64 0,.slice none 0 0,.slice none 0 0,.slice none 0 0,.string ⟨#[97]⟩,.int .i64 1,.int .i64 0,.int .i64 0,.slice none 0 0,.slice none 0 0,.slice none 0 0,.string ⟨#[98]⟩,.int .i64 1,.int .i64 0,.int .i64 0,.slice none 0 0,.slice none 0 0,.slice none 0 0,.string ⟨#[98]⟩,.int .i64 2,.int .i64 0,.int .i64 0,.slice none 0 0,.slice none 0 0,.slice none 0 0] 52
def wL (w:World):World:=((((((w.alloc (oV 1)).alloc (oV 2)).alloc oE2).alloc oE1).alloc (oN w.heap.size)).alloc (oG w.heap.size)).alloc oP
theorem zIz (w:World):Below w.heap.size w (wL w):=bal (bal (bal (bal (bal (bal (bal (bR _ _) _) _) _) _) _) _) _
theorem zIH (w:World):(wL w).heap[w.heap.size+1+1]?=some oE2∧(wL w).heap[w.heap.size+1+1+1]?=some oE1∧(wL w).heap[w.heap.size+1+1+1+1]?=some (oN w.heap.size)∧(wL w).heap[w.heap.size+1+1+1+1+1]?=some (oG w.heap.size)∧(wL w).heap[w.heap.size+1+1+1+1+1+1]?=some oP:=by
 have hs:∀ (W:World) (o:Obj),(W.alloc o).heap=W.heap.push o:=fun W o=>rfl
 unfold wL
 simp only[hs,Array.getElem?_push,Array.size_push]
 refine ⟨?_,?_,?_,?_,?_⟩<;>simp<;>omega
theorem zLw (w:World):SlV rNode (wL w) (fun _=>True) gL (.slice (some ⟨w.heap.size+1+1+1+1,0,none⟩) 4 4):=by
 obtain ⟨h2,h3,h4,_,_⟩:=zIH w
 have e2:SlV rEdge (wL w) (fun _=>True) [⟨sA,1⟩,⟨sB,2⟩] (.slice (some ⟨w.heap.size+1+1,0,none⟩) 2 2):=
  SlV.of_block (r:=rEdge) (S:=fun _=>True) (l:=[⟨sA,1⟩,⟨sB,2⟩]) h2 (⟨[.string ⟨#[97]⟩,.int .i64 1],_,rfl,⟨rfl,by decide,by unfold I64;decide⟩,[.string ⟨#[98]⟩,.int .i64 2],_,rfl,⟨rfl,by decide,by unfold I64;decide⟩,rfl⟩) trivial rfl (by decide) (by decide)
 have e1:SlV rEdge (wL w) (fun _=>True) [⟨sB,3⟩] (.slice (some ⟨w.heap.size+1+1+1,0,none⟩) 1 1):=
  SlV.of_block (r:=rEdge) (S:=fun _=>True) (l:=[⟨sB,3⟩]) h3 (⟨[.string ⟨#[98]⟩,.int .i64 3],_,rfl,⟨rfl,by decide,by unfold I64;decide⟩,rfl⟩) trivial rfl (by decide) (by decide)
 exact SlV.of_block (r:=rNode) (S:=fun _=>True) (l:=gL) h4 (⟨[.string ⟨#[]⟩,.int .i64 0,.int .i64 0,.int .i64 0,.slice none 0 0,.slice (some ⟨w.heap.size+1+1,0,none⟩) 2 2],_,rfl,⟨_,_,rfl,by decide,by unfold I64;decide,by unfold I64;decide,by unfold I64;decide,SlV.nil_ _ _ _,e2⟩,[.string ⟨#[97]⟩,.int .i64 1,.int .i64 0,.int .i64 0,.slice none 0 0,.slice (some ⟨w.heap.size+1+1+1,0,none⟩) 1 1],_,rfl,⟨_,_,rfl,by decide,by unfold I64;decide,by unfold I64;decide,by unfold I64;decide,SlV.nil_ _ _ _,e1⟩,[.string ⟨#[98]⟩,.int .i64 1,.int .i64 0,.int .i64 0,.slice none 0 0,.slice none 0 0],_,rfl,⟨_,_,rfl,by decide,by unfold I64;decide,by unfold I64;decide,by unfold I64;decide,SlV.nil_ _ _ _,SlV.nil_ _ _ _⟩,[.string ⟨#[98]⟩,.int .i64 2,.int .i64 0,.int .i64 0,.slice none 0 0,.slice none 0 0],_,rfl,⟨_,_,rfl,by decide,by unfold I64;decide,by unfold I64;decide,by unfold I64;decide,SlV.nil_ _ _ _,SlV.nil_ _ _ _⟩,rfl⟩) trivial rfl (by decide) (by decide)
theorem zL7 (w:World):SlV rPack (wL w) (fun _=>True) psL (.slice (some ⟨w.heap.size+1+1+1+1+1+1,0,none⟩) 4 4):=by
 obtain ⟨_,_,_,_,h5⟩:=zIH w
 exact SlV.of_block (r:=rPack) (S:=fun _=>True) (l:=psL) h5 (⟨[.string ⟨#[]⟩,.int .i64 0,.int .i64 0,.int .i64 0,.slice none 0 0,.slice none 0 0,.slice none 0 0],_,rfl,⟨_,_,_,rfl,by decide,by unfold I64;decide,by unfold I64;decide,by unfold I64;decide,SlV.nil_ _ _ _,SlV.nil_ _ _ _,SlV.nil_ _ _ _⟩,[.string ⟨#[97]⟩,.int .i64 1,.int .i64 0,.int .i64 0,.slice none 0 0,.slice none 0 0,.slice none 0 0],_,rfl,⟨_,_,_,rfl,by decide,by unfold I64;decide,by unfold I64;decide,by unfold I64;decide,SlV.nil_ _ _ _,SlV.nil_ _ _ _,SlV.nil_ _ _ _⟩,[.string ⟨#[98]⟩,.int .i64 1,.int .i64 0,.int .i64 0,.slice none 0 0,.slice none 0 0,.slice none 0 0],_,rfl,⟨_,_,_,rfl,by decide,by unfold I64;decide,by unfold I64;decide,by unfold I64;decide,SlV.nil_ _ _ _,SlV.nil_ _ _ _,SlV.nil_ _ _ _⟩,[.string ⟨#[98]⟩,.int .i64 2,.int .i64 0,.int .i64 0,.slice none 0 0,.slice none 0 0,.slice none 0 0],_,rfl,⟨_,_,_,rfl,by decide,by unfold I64;decide,by unfold I64;decide,by unfold I64;decide,SlV.nil_ _ _ _,SlV.nil_ _ _ _,SlV.nil_ _ _ _⟩,rfl⟩) trivial rfl (by decide) (by decide)
theorem zK0 (w:World) (ht:Tab w) :
  Calls Tryz.prog 15 #[] w fun e w'=>e=.returned (.bool true)∧Below w.heap.size w w':=by
 have HB:=cH (zIz w)
 have g0:(wL w).cell? ⟨w.heap.size+1+1+1+1+1,0,none⟩=some (.slice (some ⟨w.heap.size+1+1+1+1,0,none⟩) 4 4):=cO _ _ 0 _ _ _ (zIH w).2.2.2.1
 have HR:Hid (Calls Tryz.prog 11 #[.agg #[.slice (some ⟨w.heap.size+1+1+1+1,0,none⟩) 4 4],.slice (some ⟨w.heap.size+1+1+1+1+1+1,0,none⟩) 4 4,.agg #[.int .i64 0,.int .i64 0,.int .i64 9,.int .i64 99],.pointer none] (wL w) fun e w'=>
   ∃ vA vc,e=.returned (.tuple #[.agg #[.slice vA 4 vc],.int .i64 0])∧SlV rDir w' (fun b=>(wL w).heap.size≤b) (sortD tL) (.slice vA 4 vc)∧Below (wL w).heap.size (wL w) w'):=by
  refine (zET _ 4 4 _ 4 4 0 0 (.pointer none) qL (wL w) (fun _=>True) (zAU ht (zIz w)) (zLw w) (zL7 w) (.inl ⟨rfl,rfl⟩) (by unfold I64 qL;decide) (by unfold I64 qL;decide) (by decide) (by decide) (fun x hx=>by
   have:x.deps=[]∧x.peers=[]∧x.opts=[]:=by
    simp only[qL,psL,List.mem_cons,List.mem_nil_iff,or_false] at hx
    rcases hx with rfl|rfl|rfl|rfl<;>exact ⟨rfl,rfl,rfl⟩
   unfold zBc
   rw[this.1,this.2.1,this.2.2]
   unfold zD8
   simp)).mono ?_
  rintro e w' ⟨rv,rfl,h2,h3⟩
  have e1:zBC qL=(sortD tL,0):=zEw zHp
  rw[e1] at h2 ⊢
  obtain ⟨vA,vc,rfl,_,_⟩:=h2.val
  have e2:(sortD tL).length=4:=by rw[zDI];rfl
  rw[e2] at h2 ⊢
  exact ⟨vA,vc,rfl,h2,h3⟩
 go_enter Tryz.func15,Tryz.ntmps15
 go_upto_region 5 with (fail)
 change Code.wp _ _ _ _ (wL w)
 generalize wL w=w7 at *
 go_wp2_with fail
 refine HR.out.mono ?_
 rintro e w8 ⟨vA,vc,rfl,h8,b8⟩
 have H8:=cH h8
 have HB8:=cH (bot HB.out b8)
 clear h8 b8 HR g0
 have hi2:(sortD tL)[2]?=some ⟨[sA,sB],packL sB 2,3⟩:=by rw[zDI];rfl
 have hi3:(sortD tL)[3]?=some ⟨[sB],packL sB 1,2⟩:=by rw[zDI];rfl
 obtain ⟨b,o,cs,hA,_,hb,hh,hcell⟩:=H8.out.elem hi2
 obtain ⟨s0,s1,s2,s3,rfl,_⟩:=hh
 have n2:=hcell 8 _ rfl
 obtain ⟨b',o',cs',hA',_,hb',hh',hcell'⟩:=H8.out.elem hi3
 obtain ⟨s0',s1',s2',s3',rfl,_⟩:=hh'
 have n3:=hcell' 8 _ rfl
 rw[hA] at hA'
 injection hA' with hA'
 injection hA' with e1 e2 _
 subst e1 e2
 simp only[rDir] at n2 n3
 subst hA
 clear hcell hcell' hi2 hi3
 go_upto_region 6 with (fail)
 obtain ⟨w9,hw9⟩:∃ w9,w9=w8.alloc (.cells #[.slice (some ⟨b,o,none⟩) 4 vc] 33):=⟨_,rfl⟩
 have HB9:Hid (Below w8.heap.size w8 w9):=by unfold Hid;rw[hw9];exact bal (bR _ _) _
 have hq9:w9.heap[w8.heap.size]?=some (.cells #[.slice (some ⟨b,o,none⟩) 4 vc] 33 (0,0)):=by rw[hw9];exact zAD _ _
 rw[←hw9]
 have c0:=cO _ _ 0 _ _ _ hq9
 have hz9:=(aS.1 hq9).1
 have m2:=zAA HB9.out n2 hb
 have m3:=zAA HB9.out n3 hb
 clear hw9 hq9 n2 n3
 have Hf:Hid (Calls Tryz.prog 18 #[.agg #[.slice (some ⟨b,o,none⟩) 4 vc],.slice (some ⟨w9.heap.size,0,none⟩) 2 2] (w9.alloc (.cells #[.string ⟨#[97]⟩,.string ⟨#[98]⟩] 9)) fun e w'=>e=.returned (.int .i64 2)∧Below (w9.alloc (.cells #[.string ⟨#[97]⟩,.string ⟨#[98]⟩] 9)).heap.size (w9.alloc (.cells #[.string ⟨#[97]⟩,.string ⟨#[98]⟩] 9)) w'):=by
  have h:=zDJ _ _ 4 vc 2 2 (sortD tL) [sA,sB] (w9.alloc (.cells #[.string ⟨#[97]⟩,.string ⟨#[98]⟩] 9)) _ (fun _=>True) (H8.out.belowSize (bal HB9.out _)) (SlV.of_block (r:=rStr) (S:=fun _=>True) (l:=[sA,sB]) (zAD w9 _) (⟨[.string ⟨#[97]⟩],_,rfl,⟨rfl,by decide⟩,[.string ⟨#[98]⟩],_,rfl,⟨rfl,by decide⟩,rfl⟩) trivial rfl (by decide) (by decide))
  rw[zJp] at h
  exact h
 go_wp2_with fail
 refine Hf.out.mono ?_
 rintro e w10 ⟨rfl,b10⟩
 have HB10:=cH (bot (bal HB9.out _) b10)
 have HBz:=cH (bot (bal (bR w9.heap.size w9) _) b10)
 have p2:=zAA (bot (bal (bR w9.heap.size w9) _) b10) m2 (lL hb HB9.out.size)
 have p3:=zAA (bot (bal (bR w9.heap.size w9) _) b10) m3 (lL hb HB9.out.size)
 have q0:=zAA (bot (bal (bR w9.heap.size w9) _) b10) c0 hz9
 clear b10 Hf
 go_wp2_with fail
 go_ret
 exact ⟨rfl,bot HB8.out HB10.out⟩
theorem lookDown_spec (t:List Dir) (p:List ByteArray) (s:ByteArray):∀ q,(zAl t p s q=-1∧∀ k,k<q→findI t (p.take k++[s])<0) ∨
  ∃ k,k<q∧zAl t p s q=findI t (p.take k++[s])∧0≤findI t (p.take k++[s])∧∀ j,k<j→j<q→findI t (p.take j++[s])<0:=by
 intro q
 induction q with
 | zero=>exact .inl ⟨rfl,fun k h=>absurd h (Nat.not_lt_zero _)⟩
 | succ q ih=>
   unfold zAl
   by_cases h:0≤findI t (p.take q++[s])
   ·rw[decide_eq_true h]
    exact .inr ⟨q,Nat.lt_succ_self _,rfl,h,fun j h1 h2=>by omega⟩
   ·rw[decide_eq_false h]
    rcases ih with ⟨h1,h2⟩|⟨k,h1,h2,h3,h4⟩
    ·refine .inl ⟨h1,fun k hk=>?_⟩
     by_cases hkq:k=q
     ·subst hkq;omega
     ·exact h2 k (by omega)
    ·refine .inr ⟨k,by omega,h2,h3,fun j hj1 hj2=>?_⟩
     by_cases hjq:j=q
     ·subst hjq;omega
     ·exact h4 j hj1 (by omega)
theorem zLs {t:List Dir} {i:Nat} (hi:i<t.length) (s:ByteArray):lookI t (i:Int) s=bif nameB s then zAl t t[i].path s (t[i].path.length+1) else -1:=by
 unfold lookI
 rw[dif_pos (by omega)]
 simp only[Int.toNat_natCast]
