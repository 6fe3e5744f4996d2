/- Manifests: Same of the program's and of the document's, the document's text, May and Print: walked. (Printed by gen_mani.py.) -/
import Derived.Test.YthbnmehbhpakaaaGreatDoorBk13
import Derived.Test.YthbnmehbhpakaaaGreatDoorBk16
import Derived.Test.YthbnmehbhpakaaaGreatDoorBk17
import Derived.Deep.RegionLaw
import Derived.Test.YthbnmehbhpakaaaGreatDoorBk06
import Derived.Test.YthbnmehbhpakaaaGreatDoorBk18
import Derived.Test.YthbnmehbhpakaaaGreatDoorBk03
import Derived.Test.YthbnmehbhpakaaaGreatDoorAl
set_option linter.all false
set_option maxHeartbeats 8000000
set_option maxRecDepth 100000
namespace Go.Proofs.YthbnmehbhpakaaaGreatDoor
open Go.Rows Go.RowKit Go.Shelf Go.Sort
def ManiV (w:World) (S:Nat→Prop) (m:Mani) (v:Value):Prop:=
 ∃ A0 n0 c0 A1 n1 c1 A2 n2 c2 A3 n3 c3,v=.agg #[.slice A0 n0 c0,.slice A1 n1 c1,.slice A2 n2 c2,.slice A3 n3 c3]∧SlV rDep w S m.deps (.slice A0 n0 c0)∧SlV rDep w S m.dev (.slice A1 n1 c1)∧SlV rDep w S m.opts (.slice A2 n2 c2)∧SlV rDep w S m.over (.slice A3 n3 c3)
theorem ManiV.keep {w w':World} {S:Nat→Prop} {m:Mani} {v:Value} (h:ManiV w S m v) (hb:Below w.heap.size w w'):ManiV w' S m v:=by
 obtain ⟨A0,n0,c0,A1,n1,c1,A2,n2,c2,A3,n3,c3,h0,h1,h2,h3,h4⟩:=h
 exact ⟨A0,n0,c0,A1,n1,c1,A2,n2,c2,A3,n3,c3,h0,h1.belowSize hb,h2.belowSize hb,h3.belowSize hb,h4.belowSize hb⟩
theorem row4 {W:World} {b:Nat} {x0 x1 x2 x3:Value} {t:TypeId} (h:W.heap[b]?=some (.cells #[x0,x1,x2,x3] t (0,0))) :
  (W.cell? ⟨b,0,none⟩=some x0∧W.cell? ⟨b,1,none⟩=some x1∧W.cell? ⟨b,2,none⟩=some x2∧W.cell? ⟨b,3,none⟩=some x3)∧W.frozen? ⟨b,0,none⟩=false∧W.frozen? ⟨b,1,none⟩=false∧W.frozen? ⟨b,2,none⟩=false∧W.frozen? ⟨b,3,none⟩=false:=by
 refine ⟨⟨cO _ _ 0 _ _ _ h,cO _ _ 1 _ _ _ h,cO _ _ 2 _ _ _ h,cO _ _ 3 _ _ _ h⟩,?_,?_,?_,?_⟩<;>simp[World.frozen?,h]
theorem zSc {x y:Mani}:x=y↔x.deps=y.deps∧x.dev=y.dev∧x.opts=y.opts∧x.over=y.over:=by
 obtain ⟨a,b,c,d⟩:=x
 obtain ⟨a',b',c',d'⟩:=y
 simp only[Mani.mk.injEq]
theorem zM0:(⟨#[]⟩:ByteArray).size≤maxLen:=by decide
def zEF (m:Mani):Pack:=⟨⟨#[]⟩,⟨0,0,0⟩,m.deps,m.dev,m.opts⟩
def zD5 (m:Mani):Pack:=⟨⟨#[]⟩,⟨0,0,0⟩,m.over,[],[]⟩
theorem zOI {x y:Mani}:eqB x y=(eqB (zEF x) (zEF y)&&eqB (zD5 x) (zD5 y)):=by
 by_cases h:x=y
 ·subst h;rw[zAF rfl,zAF rfl,zAF rfl];rfl
 ·rw[zAD h]
  by_cases h1:zEF x=zEF y
  ·have h2:zD5 x≠zD5 y:=fun e=>h (zSc.2 (by
    simp only[zEF,zD5,Pack.mk.injEq,true_and,and_true] at h1 e
    exact ⟨h1.1,h1.2.1,h1.2.2,e⟩))
   rw[zAD h2,Bool.and_false]
  ·rw[zAD h1];rfl
theorem zKz (x y:Mani) (u v:Value) (w:World) (S T:Nat→Prop) (hx:ManiV w S x u) (hy:ManiV w T y v) :
  Calls Tryz.prog 72 #[u,v] w fun e w'=>e=.returned (.bool (eqB x y))∧Below w.heap.size w w':=by
 obtain ⟨Aa0,na0,ca0,Aa1,na1,ca1,Aa2,na2,ca2,Aa3,na3,ca3,rfl,ha0,ha1,ha2,ha3⟩:=hx
 obtain ⟨Ab0,nb0,cb0,Ab1,nb1,cb1,Ab2,nb2,cb2,Ab3,nb3,cb3,rfl,hb0,hb1,hb2,hb3⟩:=hy
 have H0:Hid (∀ W,Below w.heap.size w W→Calls Tryz.prog 132 #[.agg #[.string ⟨#[]⟩,.int .i64 0,.int .i64 0,.int .i64 0,.slice Aa0 na0 ca0,.slice Aa1 na1 ca1,.slice Aa2 na2 ca2],.agg #[.string ⟨#[]⟩,.int .i64 0,.int .i64 0,.int .i64 0,.slice Ab0 nb0 cb0,.slice Ab1 nb1 cb1,.slice Ab2 nb2 cb2]] W fun e w'=>e=.returned (.bool (eqB (zEF x) (zEF y)))∧Below W.heap.size W w'):=fun W hW=>zD4 (zEF x) (zEF y) _ _ W S T ⟨_,_,_,_,_,_,_,_,_,rfl,zM0,(ha0.belowSize hW),(ha1.belowSize hW),(ha2.belowSize hW)⟩ ⟨_,_,_,_,_,_,_,_,_,rfl,zM0,(hb0.belowSize hW),(hb1.belowSize hW),(hb2.belowSize hW)⟩
 have H1:Hid (∀ W,Below w.heap.size w W→Calls Tryz.prog 132 #[.agg #[.string ⟨#[]⟩,.int .i64 0,.int .i64 0,.int .i64 0,.slice Aa3 na3 ca3,.slice none 0 0,.slice none 0 0],.agg #[.string ⟨#[]⟩,.int .i64 0,.int .i64 0,.int .i64 0,.slice Ab3 nb3 cb3,.slice none 0 0,.slice none 0 0]] W fun e w'=>e=.returned (.bool (eqB (zD5 x) (zD5 y)))∧Below W.heap.size W w'):=fun W hW=>zD4 (zD5 x) (zD5 y) _ _ W S T ⟨_,_,_,_,_,_,_,_,_,rfl,zM0,(ha3.belowSize hW),SlV.nil_ _ _ _,SlV.nil_ _ _ _⟩ ⟨_,_,_,_,_,_,_,_,_,rfl,zM0,(hb3.belowSize hW),SlV.nil_ _ _ _,SlV.nil_ _ _ _⟩
 rw[zOI]
 generalize eqB (zEF x) (zEF y)=r0 at *
 generalize eqB (zD5 x) (zD5 y)=r1 at *
 clear ha0 ha1 ha2 ha3 hb0 hb1 hb2 hb3
 go_enter Tryz.func72,Tryz.ntmps72
 go_upto_region 1 with (fail)
 obtain ⟨w1,hw⟩:∃ W0,W0=w.alloc (.cells #[.slice Aa0 na0 ca0,.slice Aa1 na1 ca1,.slice Aa2 na2 ca2,.slice Aa3 na3 ca3] 24):=⟨_,rfl⟩
 have hra:w1.heap[w.heap.size]?=some (.cells #[.slice Aa0 na0 ca0,.slice Aa1 na1 ca1,.slice Aa2 na2 ca2,.slice Aa3 na3 ca3] 24 (0,0)):=by rw[hw];exact heap_alloc_new w _
 have hba:Below w.heap.size w w1:=by rw[hw];exact bal (bR _ _) _
 have hzz:w.heap.size+1=w1.heap.size:=by rw[hw];simp
 rw[←hw]
 try rw[hzz]
 clear hw hzz
 obtain ⟨w2,hw⟩:∃ W0,W0=w1.alloc (.cells #[.slice Ab0 nb0 cb0,.slice Ab1 nb1 cb1,.slice Ab2 nb2 cb2,.slice Ab3 nb3 cb3] 24):=⟨_,rfl⟩
 have hrb:w2.heap[w1.heap.size]?=some (.cells #[.slice Ab0 nb0 cb0,.slice Ab1 nb1 cb1,.slice Ab2 nb2 cb2,.slice Ab3 nb3 cb3] 24 (0,0)):=by rw[hw];exact heap_alloc_new w1 _
 have hbb:Below w1.heap.size w1 w2:=by rw[hw];exact bal (bR _ _) _
 have hzz:w1.heap.size+1=w2.heap.size:=by rw[hw];simp
 rw[←hw]
 try rw[hzz]
 clear hw hzz
 have HB2:=cH (bot hba hbb)
 have hza:w.heap.size<w2.heap.size:=lL (aS.1 hra).1 hbb.size
 have hra:=(hbb.block _ (aS.1 hra).1).trans hra
 clear hba hbb
 have Hra2:=cH hra
 have Hrb2:=cH hrb
 clear hra hrb hza
 obtain ⟨⟨a0,a1,a2,a3⟩,_⟩:=row4 Hra2.out
 obtain ⟨⟨b0,b1,b2,b3⟩,_⟩:=row4 Hrb2.out
 go_wp2_with fail
 refine (H0.out w2 HB2.out).mono ?_
 rintro e w3 ⟨rfl,hb⟩
 clear a0 a1 a2 a3 b0 b1 b2 b3
 have HB3:=cH (bot HB2.out hb)
 have Hra3:=cH ((hb.block _ (aS.1 Hra2.out).1).trans Hra2.out)
 have Hrb3:=cH ((hb.block _ (aS.1 Hrb2.out).1).trans Hrb2.out)
 clear hb HB2 Hra2 Hrb2 H0
 cases r0 with
 | false=>
   go_wp2_with fail
   go_ret
   exact ⟨rfl,HB3.out⟩
 | true=>
   obtain ⟨⟨a0,a1,a2,a3⟩,_⟩:=row4 Hra3.out
   obtain ⟨⟨b0,b1,b2,b3⟩,_⟩:=row4 Hrb3.out
   go_wp2_with fail
   refine (H1.out w3 HB3.out).mono ?_
   rintro e w4 ⟨rfl,hb⟩
   clear a0 a1 a2 a3 b0 b1 b2 b3
   have HB4:=cH (bot HB3.out hb)
   have Hra4:=cH ((hb.block _ (aS.1 Hra3.out).1).trans Hra3.out)
   have Hrb4:=cH ((hb.block _ (aS.1 Hrb3.out).1).trans Hrb3.out)
   clear hb HB3 Hra3 Hrb3 H1
   cases r1
   all_goals
    go_wp2_with fail
    go_ret
    exact ⟨rfl,HB4.out⟩
def projB:ByteArray:=⟨#[112,114,111,106,101,99,116,10]⟩
theorem zJI (m:Mani):zAR m=projB++zAN zBR m.deps++zAN devW m.dev++zAN zBi m.opts++zAN pinsW m.over:=by
 unfold zAR
 rw[show zA5++nlB=projB by decide +kernel]
def KeptT (b:Nat) (w w':World):Prop:=∀ k cs t fr,w.heap[k]?=some (.cells cs t fr)→t≠5→k≠b→w'.heap[k]?=some (.cells cs t fr)
theorem KeptT.refl (b:Nat) (w:World):KeptT b w w:=fun _ _ _ _ h _ _=>h
theorem KeptT.trans {b:Nat} {w w' w'':World} (h:KeptT b w w') (k:KeptT b w' w''):KeptT b w w'':=fun i cs t fr hi ht hb=>k i cs t fr (h i cs t fr hi ht hb) ht hb
theorem KeptT.of_below {b:Nat} {w w':World} (h:Below w.heap.size w w'):KeptT b w w':=fun i cs t fr hi _ _=>(h.block i (aS.1 hi).1).trans hi
theorem KeptT.set (b o:Nat) (w:World) (v:Value):KeptT b w (w.setCell ⟨b,o,none⟩ v):=fun i cs t fr hi _ hb=>(Below.heap_setCell _ _ _ i hb).trans hi
theorem KeptT.row {b base n:Nat} {w w':World} {v:Value} {xs:List Value} (h:w.ownsRow base 5 1 v n xs) (hg:w.grownBy w' v.ownBlock):KeptT b w w':=fun i cs t fr hi ht _=>by
 refine (hg.block i (aS.1 hi).1 (fun e=>?_)).trans hi
 rcases h.2 with ⟨rfl,_⟩|⟨g,cap,cur,rfl,_,hgb,_⟩
 ·cases e
 ·simp only[Value.ownBlock,Option.some.injEq] at e
  subst e
  rw[hgb] at hi
  simp only[Option.some.injEq,Obj.cells.injEq] at hi
  exact ht hi.2.1.symm
theorem zIG (B b:Nat) (bs:List Value) (w:World) (h:IsB B b bs w) :
  Calls Tryz.prog 124 #[.pointer (some ⟨b,0,none⟩)] w fun e w'=>e=.returned (.tuple #[])∧(Lib.BuilderAt 122 5 B b (.pointer (some ⟨b,0,none⟩)) bs w'∧Below B w w'∧KeptT b w w'):=by
 rcases h with h|h
 ·refine (zEK b w h.cell0 h.shape h.frozen0).mono ?_
  rintro e w' ⟨rfl,rfl⟩
  exact ⟨rfl,h.used _,(bR B w).setCell (p:=⟨b,0,none⟩) h.1 _,KeptT.set b 0 w _⟩
 ·refine (zEg b w h.cell0).mono ?_
  rintro e w' ⟨rfl,rfl⟩
  exact ⟨rfl,h,bR B _,KeptT.refl _ _⟩
theorem zAx (B b:Nat) (bs:List Value) (s:ByteArray) (w:World) (h:IsB B b bs w) (hlen:bs.length+s.size≤140737488355328) (hBw:B≤w.heap.size) :
  Calls Tryz.prog 62 #[.pointer (some ⟨b,0,none⟩),.string s] w fun e w'=>e=.returned (.tuple #[.int .i64 s.size,.nilIface])∧(IsB B b (bs++Lib.strCells s) w'∧Below B w w'∧KeptT b w w'):=by
 obtain ⟨i0,hi,hz0,hz1,hz2⟩:=info_parts Tryz.Builder_Extra_169.infoByte
 go_enter Tryz.func62,Tryz.ntmps62
 go_wp2_with (go_at_call 124;refine (zIG B b bs _ h).mono ?_)
 rintro e w1 ⟨rfl,h1,hb1,hk1⟩
 obtain ⟨hB,v,hbk,hown,hne⟩:=h1
 have Hk1:=cH hk1
 clear hk1
 have c0:w1.cell? ⟨b,0,none⟩=some (.pointer (some ⟨b,0,none⟩)):=by rw[Lib.cell_of_heap hbk];rfl
 have c1:w1.cell? ⟨b,1,none⟩=some v:=by rw[Lib.cell_of_heap hbk];rfl
 go_wp2_with (at_builtin;refine Lib.wpList_append_own_string _ rfl _ _ 120 9 rfl B 5 i0 Tryz.underlying120 Tryz.underlying9 hi hz0 hz1 hz2 _ _ _ rfl hown s rfl ?c3 ?c4 ?c5 ?_)
 case c3=>unfold maxLen;omega
 case c4=>omega
 case c5=>have:=hb1.size;omega
 intro v' w2 hown' hgrow _
 have hlt:b<w1.heap.size:=by
  rcases Nat.lt_or_ge b w1.heap.size with h'|h'
  ·exact h'
  ·simp[Array.getElem?_eq_none h'] at hbk
 have hb2:w2.heap[b]?=some (.cells #[.pointer (some ⟨b,0,none⟩),v] 122 (0,0)):=by
  rw[hgrow.block b hlt (fun e=>hne e.symm)]
  exact hbk
 have d0:w2.cell? ⟨b,0,none⟩=some (.pointer (some ⟨b,0,none⟩)):=by rw[Lib.cell_of_heap hb2];rfl
 have d1:w2.cell? ⟨b,1,none⟩=some v:=by rw[Lib.cell_of_heap hb2];rfl
 have f1:w2.frozen? ⟨b,1,none⟩=false:=Lib.frozen_of_heap hb2 1
 have Hk2:Hid (KeptT b w w2):=Hk1.out.trans (KeptT.row hown hgrow)
 obtain ⟨ao,n',cap,rfl⟩:∃ ao n' cap,v'=.slice ao n' cap:=by
  rcases hown'.2 with ⟨hv,_⟩|⟨g,cap,cur,hv,_⟩
  ·exact ⟨_,_,_,hv⟩
  ·exact ⟨_,_,_,hv⟩
 go_wp2
 go_ret2
 refine ⟨rfl,.inr ?_,?_,Hk2.out.trans (KeptT.set b 1 _ _)⟩
 ·exact Lib.BuilderAt.put (T:=122) (e:=5) hB hb2 (bs':=bs++Lib.strCells s) (by simpa [Lib.strCells_length] using hown') Tryz.Builder_Extra_169.neB5
 ·exact (hb1.grown hgrow (by have:=hb1.size;omega) (fun k hk=>(hown.lt k hk).1)).setCell (p:=⟨b,1,none⟩) hB _
def pw:Nat→ByteArray
 | 0=>zBR
 | 1=>devW
 | 2=>zBi
 | _=>pinsW
def pl (m:Mani):Nat→List Dep
 | 0=>m.deps
 | 1=>m.dev
 | 2=>m.opts
 | _=>m.over
def txtK (m:Mani):Nat→ByteArray
 | 0=>projB
 | k+1=>txtK m k++zAN (pw k) (pl m k)
theorem zRQ (m:Mani):txtK m 4=zAR m:=by rw[zJI];rfl
theorem zQo (k:Nat):(pw k).size≤10:=by
 match k with
 | 0=>decide
 | 1=>decide
 | 2=>decide
 | _+3=>show pinsW.size≤10;decide
def zDC (M:Nat):Array Value:=#[.string zBR,.pointer (some ⟨M,0,none⟩),.string devW,.pointer (some ⟨M,1,none⟩),.string zBi,.pointer (some ⟨M,2,none⟩),.string pinsW,.pointer (some ⟨M,3,none⟩)]
theorem zEE {M k:Nat} (h:k<4):(zDC M)[k * 2]?=some (.string (pw k))∧(zDC M)[k * 2+1]?=some (.pointer (some ⟨M,k,none⟩)):=by
 have:k=0∨k=1∨k=2∨k=3:=by omega
 rcases this with rfl|rfl|rfl|rfl<;>exact ⟨rfl,rfl⟩
theorem zLF (M:Nat) (w:World) :
  Calls Tryz.prog 92 #[.pointer (some ⟨M,0,none⟩)] w fun e w'=>e=.returned (.slice (some ⟨w.heap.size,0,none⟩) 4 4)∧Below w.heap.size w w'∧w'.heap[w.heap.size]?=some (.cells (zDC M) 154 (0,0)):=by
 go_enter Tryz.func92,Tryz.ntmps92
 go_wp2_with fail
 go_region_held3 (fun _=>True) (first|go_keep|trivial) (fail)
 all_goals
  go_wp2_with fail
  go_ret
  exact ⟨rfl,(bal (bR _ _) _).drew,heap_alloc_new w _⟩
theorem zQv {m:Mani} {w:World} {S:Nat→Prop} {A0 A1 A2 A3:Option Addr} {n0 n1 n2 n3 c0 c1 c2 c3:Nat} (h0:SlV rDep w S m.deps (.slice A0 n0 c0)) (h1:SlV rDep w S m.dev (.slice A1 n1 c1)) (h2:SlV rDep w S m.opts (.slice A2 n2 c2)) (h3:SlV rDep w S m.over (.slice A3 n3 c3)) {k:Nat} (hk:k<4) :
  ∃ A c,(#[Value.slice A0 n0 c0,.slice A1 n1 c1,.slice A2 n2 c2,.slice A3 n3 c3]:Array Value)[k]?=some (.slice A (pl m k).length c)∧SlV rDep w S (pl m k) (.slice A (pl m k).length c):=by
 have e0:=h0.n_eq
 have e1:=h1.n_eq
 have e2:=h2.n_eq
 have e3:=h3.n_eq
 have:k=0∨k=1∨k=2∨k=3:=by omega
 rcases this with rfl|rfl|rfl|rfl
 ·exact ⟨A0,c0,by rw[←show n0=(pl m 0).length from e0];rfl,by rw[←show n0=(pl m 0).length from e0];exact h0⟩
 ·exact ⟨A1,c1,by rw[←show n1=(pl m 1).length from e1];rfl,by rw[←show n1=(pl m 1).length from e1];exact h1⟩
 ·exact ⟨A2,c2,by rw[←show n2=(pl m 2).length from e2];rfl,by rw[←show n2=(pl m 2).length from e2];exact h2⟩
 ·exact ⟨A3,c3,by rw[←show n3=(pl m 3).length from e3];rfl,by rw[←show n3=(pl m 3).length from e3];exact h3⟩
theorem zPv {m:Mani} (h:∀ k,k<4→listB (pl m k)=true):∀ k,k≤4→(txtK m k).size≤8+33600 * k:=by
 intro k
 induction k with
 | zero=>intro _;exact nR _
 | succ k ih=>
   intro hk
   have h1:=ih (by omega)
   obtain ⟨a,b⟩:=zBb (h k (by omega))
   have h2:=zDN (word:=pw k) (zQo k) b
   show (txtK m k++zAN (pw k) (pl m k)).size≤_
   rw[ByteArray.size_append]
   omega
theorem zHp (m:Mani) (u:Value) (w:World) (S:Nat→Prop) (ht:Tab w) (g0:listB m.deps=true) (g1:listB m.dev=true) (g2:listB m.opts=true) (g3:listB m.over=true) (hm:ManiV w S m u) :
  Calls Tryz.prog 68 #[u] w fun e w'=>e=.returned (.string (zAR m))∧Below w.heap.size w w':=by
 obtain ⟨A0,n0,c0,A1,n1,c1,A2,n2,c2,A3,n3,c3,rfl,h0,h1,h2,h3⟩:=hm
 have Hpart:Hid (∀ k,k<4→∃ A c,(#[Value.slice A0 n0 c0,.slice A1 n1 c1,.slice A2 n2 c2,.slice A3 n3 c3]:Array Value)[k]?=some (.slice A (pl m k).length c)∧SlV rDep w S (pl m k) (.slice A (pl m k).length c)):=fun k hk=>zQv h0 h1 h2 h3 hk
 have Hgood:Hid (∀ k,k<4→listB (pl m k)=true):=fun k hk=>by
  have:k=0∨k=1∨k=2∨k=3:=by omega
  rcases this with rfl|rfl|rfl|rfl
  ·exact g0
  ·exact g1
  ·exact g2
  ·exact g3
 have Hsz:=cH (zPv Hgood.out)
 have Ht:=cH ht
 rw[←zRQ]
 clear h0 h1 h2 h3 g0 g1 g2 g3 ht
 go_enter Tryz.func68,Tryz.ntmps68
 go_upto_region 2 with (fail)
 obtain ⟨w1,hw1⟩:∃ w1,w1=w.alloc (.cells #[.slice A0 n0 c0,.slice A1 n1 c1,.slice A2 n2 c2,.slice A3 n3 c3] 24):=⟨_,rfl⟩
 have hr1:w1.heap[w.heap.size]?=some (.cells #[.slice A0 n0 c0,.slice A1 n1 c1,.slice A2 n2 c2,.slice A3 n3 c3] 24 (0,0)):=by rw[hw1];exact heap_alloc_new w _
 have HB1:Hid (Below w.heap.size w w1):=by unfold Hid;rw[hw1];exact bal (bR _ _) _
 have hsz:w.heap.size+1=w1.heap.size:=by rw[hw1];simp
 rw[←hw1]
 try rw[hsz]
 clear hw1
 have HIs:Hid (IsB w1.heap.size w1.heap.size (Lib.strCells ⟨#[]⟩) (w1.alloc (.cells #[.pointer none,.slice none 0 0] 122))):=Lib.fresh_isBuilder _ _ _
 obtain ⟨w2,hw2⟩:∃ w2,w2=w1.alloc (.cells #[.pointer none,.slice none 0 0] 122):=⟨_,rfl⟩
 have HB2:Hid (Below w1.heap.size w1 w2):=by unfold Hid;rw[hw2];exact bal (bR _ _) _
 rw[←hw2] at HIs
 rw[←hw2]
 have hz12:w1.heap.size<w2.heap.size:=by rw[hw2];simp
 clear hw2
 have Hr1:=cH hr1
 have hz1:w.heap.size<w1.heap.size:=by omega
 clear hr1 hsz
 go_wp2_with fail
 refine (zAx _ _ _ projB _ HIs.out (by simp[Lib.strCells];decide) HB2.out.size).mono ?_
 rintro e w3 ⟨rfl,hI3,hb3,_⟩
 have HI3:Hid (IsB w1.heap.size w1.heap.size (Lib.strCells (txtK m 0)) w3):=hI3
 have HB3:=cH (HB2.out.trans hb3)
 have hz3:w1.heap.size<w3.heap.size:=lL hz12 hb3.size
 clear hI3 hb3 HIs HB2 hz12
 go_wp2_with fail
 refine (zLF w.heap.size w3).mono ?_
 rintro e w4 ⟨rfl,hb4,hp4⟩
 have HI4:=cH (HI3.out.keep hb4)
 have HB4:=cH (HB3.out.trans (hb4.mono HB3.out.size))
 obtain ⟨PB,hPB⟩:∃ PB,PB=w3.heap.size:=⟨_,rfl⟩
 rw[←hPB] at hp4 hz3 ⊢
 have Hp4:=cH hp4
 clear hp4 hb4 HI3 HB3 hPB
 go_wp2_with fail
 go_loopw [11] (fun i wr=>∃ k:Nat,k≤4∧i=.int .i64 k∧Hid (IsB w1.heap.size w1.heap.size (Lib.strCells (txtK m k)) wr)∧Hid (wr.heap[PB]?=some (.cells (zDC w.heap.size) 154 (0,0)))∧Hid (Below w1.heap.size w1 wr)) (fun i _=>4 - (intOf i).toNat)
 case atStart=>exact ⟨0,by decide,rfl,HI4,Hp4,HB4⟩
 case round=>
  clear HI4 Hp4 HB4
  obtain ⟨k,hk,rfl,HI,HPB,HB⟩:=hrel
  have HBw:=cH (bot HB1.out (HB.out.mono (nR _)))
  have hk0:(0:Int)≤(k:Int):=by omega
  by_cases hlt:k<4
  case neg=>
   obtain rfl:k=4:=by omega
   have HI':Hid (IsB w1.heap.size w1.heap.size (Lib.byteCells (txtK m 4).data.toList) wr):=by unfold Hid;rw[←Lib.strCells_eq];exact HI.out
   clear HI
   obtain ⟨R,hR⟩:∃ R,txtK m 4=R:=⟨_,rfl⟩
   rw[hR] at HI'
   have HRR:=cH hR
   clear hR
   go_wp2_with fail
   refine (Tryz.Builder_String_any _ _ _ _ HI'.out HB.out.size).mono ?_
   rintro e w6 ⟨rfl,hb6⟩
   go_wp2_with fail
   go_ret
   exact ⟨by rw[HRR.out];rfl,bot HB1.out (HB.out.trans hb6)⟩
  have hkI:(k:Int)<4:=by omega
  obtain ⟨q0,q1⟩:=zEE (M:=w.heap.size) hlt
  have p0:=(cO _ _ (k * 2) _ _ _ HPB.out).trans q0
  have p1:=(cO _ _ (k * 2+1) _ _ _ HPB.out).trans q1
  have hPl:PB<wr.heap.size:=(aS.1 HPB.out).1
  obtain ⟨A,c,hcell,hsl⟩:=Hpart.out k hlt
  have hg:=Hgood.out k hlt
  obtain ⟨h16,hsm⟩:=zBb hg
  have Hsm:=cH hsm
  have hz:=Hsz.out k (by omega)
  have Hz:=cH hz
  have hsl':=hsl.more (S':=fun b=>b<w.heap.size) fun b _ h=>h
  have hccn:=hsl.cap_le
  have hwz:=zQo k
  have Hwz:=cH hwz
  have HR:Hid (txtK m (k+1)=txtK m k++zAN (pw k) (pl m k)):=rfl
  have m0:wr.cell? ⟨w.heap.size,k,none⟩=some (.slice A (pl m k).length c):=zAA HB.out ((cO _ _ k _ _ _ Hr1.out).trans hcell) hz1
  generalize hl:pl m k=l at *
  generalize pw k=word at *
  generalize txtK m k=T0 at *
  obtain ⟨n,hn⟩:∃ n,n=l.length:=⟨_,rfl⟩
  rw[←hn] at m0 hsl' h16 hccn
  have Hn:=cH hn
  have Hsl:=cH hsl'
  unfold maxLen at hccn
  clear hsm hz hwz hcell hsl hsl' hn hl q0 q1 hg
  go_upto_region 6 with (fail)
  obtain ⟨w5,hw5⟩:∃ w5,w5=wr.alloc (.cells #[.string word,.pointer (some ⟨w.heap.size,k,none⟩)] 154):=⟨_,rfl⟩
  have hr5:w5.heap[wr.heap.size]?=some (.cells #[.string word,.pointer (some ⟨w.heap.size,k,none⟩)] 154 (0,0)):=by rw[hw5];exact heap_alloc_new wr _
  have hb5:Below wr.heap.size wr w5:=by rw[hw5];exact bal (bR _ _) _
  rw[←hw5]
  have HI5:=cH (HI.out.keep hb5)
  have HPB5:=cH ((hb5.block _ hPl).trans HPB.out)
  have HB5:=cH (HB.out.trans (hb5.mono HB.out.size))
  have m5:=zAA hb5 m0 (zAE m0)
  obtain ⟨QB,hQB⟩:∃ QB,QB=wr.heap.size:=⟨_,rfl⟩
  rw[←hQB] at hr5 hPl ⊢
  have hQ1:w1.heap.size≠QB:=by omega
  have hP1:PB≠w1.heap.size:=by omega
  obtain ⟨⟨a0,a1⟩,_⟩:=row2 hr5
  have HQ5:=cH hr5
  clear hw5 hr5 hb5 hQB HI HPB HB HBw p0 p1 m0
  go_wp2_with fail
  clear a0 a1 m5
  go_loopw [20] (fun i wi=>∃ q:Nat,q≤n∧i=.int .i64 q∧Hid (IsB w1.heap.size w1.heap.size (Lib.strCells (T0++zAN word (l.take q))) wi)∧Hid (wi.heap[PB]?=some (.cells (zDC w.heap.size) 154 (0,0)))∧Hid (wi.heap[QB]?=some (.cells #[.string word,.pointer (some ⟨w.heap.size,k,none⟩)] 154 (0,0)))∧Hid (Below w1.heap.size w1 wi)) (fun i _=>n - (intOf i).toNat)
  case atStart=>exact ⟨0,nZ _,rfl,by have:=HI5.out;unfold Hid;rw[zAf];simpa [zAN,Lib.strCells] using this,HPB5,HQ5,HB5⟩
  case round=>
   clear HI5 HPB5 HQ5 HB5
   obtain ⟨q,hq,rfl,HI,HPB,HQ,HB⟩:=hrel
   have hq0:(0:Int)≤(q:Int):=by omega
   by_cases hql:q<n
   case neg=>
    obtain rfl:q=n:=by omega
    have hqI:¬(q:Int)<(q:Int):=by omega
    have HI':Hid (IsB w1.heap.size w1.heap.size (Lib.strCells (txtK m (k+1))) wr):=by
     have:=HI.out
     rw[List.take_of_length_le (by have:=Hn.out;omega),←HR.out] at this
     exact this
    clear HI HR
    go_wp2_with fail
    go_roundw
    case rel=>exact ⟨k+1,by omega,by go_num,HI',HPB,HB⟩
    case measure=>simp[intOf];omega
   have hqI:(q:Int)<(n:Int):=by omega
   have hqx:q<l.length:=by have:=Hn.out;omega
   have HBwr:=cH (bot HB1.out (HB.out.mono (nR _)))
   obtain ⟨bb,o,cs,rfl,_,hb1,⟨s0,rfl,hnm,hr0⟩,hcell⟩:=(Hsl.out.belowSize HBwr.out).elem (gE hqx)
   obtain ⟨pA,pc,rfl,_,_⟩:=hr0.val
   have e0:=hcell 0 _ rfl
   have e1:=hcell 1 _ rfl
   simp only[rDep,Nat.add_zero] at e0 e1
   have Htk:=cH (zHi word hqx)
   have hzl:(zAN word (l.take q)).size≤33600:=by
    have h1:=zDN (word:=word) (l:=l.take q) Hwz.out (fun d hd=>Hsm.out d (List.mem_of_mem_take hd))
    have h2:(l.take q).length≤16:=by simp;omega
    omega
   have hz4:=Hsm.out l[q] (List.getElem_mem hqx)
   have hz2:=zC6 l[q].range
   have hword:=Hwz.out
   have Ht5:Hid (Tab wr):=zAG Ht.out HBwr.out
   have Hc:Hid (∀ o:Obj,∀ d os,Calls Tryz.prog 128 #[.slice pA l[q].range.length pc] (grow (redrawn (wr.alloc o) d) os) fun e w''=>e=.returned (.string (zAO l[q].range))∧∃ p:Regrown,w''=grow (redrawn (wr.alloc o) p.d) p.os):=
    fun o=>qcall (w:=wr.alloc o) (fun W hW=>zFf pA _ pc l[q].range W _ (zAG (zAG Ht5.out (bal (bR _ _) o)) hW) ((hr0.alloc o).belowSize hW))
   have Hln:Hid (lineD word l[q]=word++zAH++l[q].name++zAH++zAO l[q].range++nlB):=rfl
   have Hlen:Hid ((Lib.strCells (T0++zAN word (l.take q))).length≤1000000):=by unfold Hid;rw[Lib.strCells_length,ByteArray.size_append];have:=Hz.out;omega
   clear hcell hr0 hzl
   generalize lineD word l[q]=line at *
   generalize l[q].name=x at *
   generalize zAO l[q].range=tx at *
   generalize l[q].range.length=rl at *
   have z1:zAH.size=1:=rfl
   have z2:nlB.size=1:=rfl
   have Z1:∀ W:World,(Op.stringOp .add word ⟨#[32]⟩).run Tryz.prog W=.ok (.string (word++zAH)) W:=fun W=>run_string_add_sum W _ zAH (by omega)
   have Z2:∀ W:World,(Op.stringOp .add (word++zAH) x).run Tryz.prog W=.ok (.string (word++zAH++x)) W:=fun W=>run_string_add_sum W _ _ (by simp only[ByteArray.size_append];omega)
   have Z3:∀ W:World,(Op.stringOp .add (word++zAH++x) ⟨#[32]⟩).run Tryz.prog W=.ok (.string (word++zAH++x++zAH)) W:=fun W=>run_string_add_sum W _ zAH (by simp only[ByteArray.size_append];omega)
   have Z4:∀ W:World,(Op.stringOp .add (word++zAH++x++zAH) tx).run Tryz.prog W=.ok (.string (word++zAH++x++zAH++tx)) W:=fun W=>run_string_add_sum W _ _ (by simp only[ByteArray.size_append];omega)
   have Z5:∀ W:World,(Op.stringOp .add (word++zAH++x++zAH++tx) ⟨#[10]⟩).run Tryz.prog W=.ok (.string line) W:=fun W=>by rw[Hln.out];exact run_string_add_sum W _ nlB (by simp only[ByteArray.size_append];omega)
   have Hlz:Hid (line.size≤2100):=by unfold Hid;rw[Hln.out];simp only[ByteArray.size_append];omega
   clear z1 z2 hz4 hz2 Hln hword
   go_upto_region 9 with (fail)
   obtain ⟨w6,hw6⟩:∃ w6,w6=wr.alloc (.cells #[.string x,.slice pA rl pc] 158):=⟨_,rfl⟩
   have hr6:w6.heap[wr.heap.size]?=some (.cells #[.string x,.slice pA rl pc] 158 (0,0)):=by rw[hw6];exact heap_alloc_new wr _
   have hb6:Below wr.heap.size wr w6:=by rw[hw6];exact bal (bR _ _) _
   have Hc6:=cH (fun d os=>Hc.out (.cells #[.string x,.slice pA rl pc] 158) d os)
   rw[←hw6] at Hc6
   rw[←hw6]
   obtain ⟨⟨a0,a1⟩,_⟩:=row2 hr6
   have hQl:QB<wr.heap.size:=(aS.1 HQ.out).1
   have hPl:PB<wr.heap.size:=(aS.1 HPB.out).1
   have HI6:=cH (HI.out.keep hb6)
   have HPB6:=cH ((hb6.block _ hPl).trans HPB.out)
   have HQ6:=cH ((hb6.block _ hQl).trans HQ.out)
   have HB6:=cH (HB.out.trans (hb6.mono HB.out.size))
   obtain ⟨⟨b0,b1⟩,_⟩:=row2 HQ6.out
   have hQ6:QB<w6.heap.size:=lL hQl hb6.size
   have hP6:PB<w6.heap.size:=lL hPl hb6.size
   clear hw6 hr6 hb6 HI HPB HQ HB HBwr Hc e0 e1 hQl hPl
   have r_a0:=cR a0
   have r_a1:=cR a1
   have r_b0:=cR b0
   refine zAk 12 (by kernel_rfl) (by kernel_rfl) ?_
   simp only[List.take_succ_cons,List.take_zero,List.drop_succ_cons,List.drop_zero]
   repeat (go_big_quiet_step (first|(with_reducible exact Hc6.out _ _)))
   refine wpQuiet_nil fun w7 B7=>?_
   have HI7:=cH (HI6.out.keep B7)
   have HPB7:=cH ((B7.block _ hP6).trans HPB6.out)
   have HQ7:=cH ((B7.block _ hQ6).trans HQ6.out)
   have HB7:=cH (HB6.out.trans (B7.mono HB6.out.size))
   have Hlen7:Hid ((Lib.strCells (T0++zAN word (l.take q))).length+line.size≤140737488355328):=by unfold Hid;have:=Hlen.out;have:=Hlz.out;omega
   clear Z1 Z2 Z3 Z4 Z5 B7 Hc6 r_a0 r_a1 r_b0 a0 a1 b0 b1 HI6 HPB6 HQ6 HB6
   go_wp2_with fail
   refine (zAx _ _ _ line _ HI7.out Hlen7.out HB7.out.size).mono ?_
   rintro e w8 ⟨rfl,hI8,hb8,hk8⟩
   have HI8:Hid (IsB w1.heap.size w1.heap.size (Lib.strCells (T0++zAN word (l.take (q+1)))) w8):=by
    unfold Hid
    rw[Htk.out,←ByteArray.append_assoc,zAf]
    exact hI8
   have HPB8:=cH (hk8 _ _ _ _ HPB7.out (by decide) hP1)
   have HQ8:=cH (hk8 _ _ _ _ HQ7.out (by decide) (Ne.symm hQ1))
   have HB8:=cH (HB7.out.trans hb8)
   clear hI8 hb8 hk8 HI7 HPB7 HQ7 HB7
   go_wp2_with fail
   go_roundw
   case rel=>exact ⟨q+1,by omega,by go_num,HI8,HPB8,HQ8,HB8⟩
   case measure=>simp[intOf];omega
theorem zRP (l:List Dep):mayQ l [] []=listB l:=by
 unfold mayQ
 rw[show listB []=true from rfl,Bool.true_and,Bool.true_and]
 cases h:listB l with
 | false=>rfl
 | true=>rw[zDa (by have:=zLv h;simpa [zAM,zAQ] using this)];rfl
theorem zPk (m:Mani):maniB m=(mayQ m.deps m.dev m.opts&&(mayQ m.over [] []&&decide ((zAR m).size≤4096))):=by
 rw[zRP]
 unfold maniB mayQ
 cases listB m.deps<;>cases listB m.dev<;>cases listB m.opts<;>cases listB m.over<;>cases zCQ (zAM [m.deps,m.dev,m.opts])<;>rfl
theorem zEL {a b c:List Dep} (h:mayQ a b c=true):listB a=true∧listB b=true∧listB c=true:=by
 unfold mayQ at h
 simp only[Bool.and_eq_true] at h
 exact ⟨h.1,h.2.1,h.2.2.1⟩
theorem zDT {m:Mani} (h:maniB m=true):listB m.deps=true∧listB m.dev=true∧listB m.opts=true∧listB m.over=true:=by
 unfold maniB at h
 simp only[Bool.and_eq_true] at h
 exact ⟨h.1,h.2.1,h.2.2.1,h.2.2.2.1⟩
theorem zHg (m:Mani) (u:Value) (w:World) (S:Nat→Prop) (ht:Tab w) (hm:ManiV w S m u) :
  Calls Tryz.prog 67 #[u] w fun e w'=>e=.returned (.bool (maniB m))∧Below w.heap.size w w':=by
 obtain ⟨A0,n0,c0,A1,n1,c1,A2,n2,c2,A3,n3,c3,rfl,h0,h1,h2,h3⟩:=id hm
 have H1:=cH (fun W (hW:Below w.heap.size w W)=>zId A0 A1 A2 n0 n1 n2 c0 c1 c2 m.deps m.dev m.opts W S S S (h0.belowSize hW) (h1.belowSize hW) (h2.belowSize hW))
 have H2:=cH (fun W (hW:Below w.heap.size w W)=>zId A3 none none n3 0 0 c3 0 0 m.over [] [] W S S S (h3.belowSize hW) (SlV.nil_ _ _ _) (SlV.nil_ _ _ _))
 have HT:Hid (mayQ m.deps m.dev m.opts=true→mayQ m.over [] []=true→∀ W,Below w.heap.size w W→Calls Tryz.prog 68 #[.agg #[.slice A0 n0 c0,.slice A1 n1 c1,.slice A2 n2 c2,.slice A3 n3 c3]] W fun e w'=>e=.returned (.string (zAR m))∧Below W.heap.size W w'):=fun a b W hW=>zHp m _ W S (zAG ht hW) (zEL a).1 (zEL a).2.1 (zEL a).2.2 (zEL b).1 (hm.keep hW)
 have HR:Hid (maniB m=(mayQ m.deps m.dev m.opts&&(mayQ m.over [] []&&decide ((zAR m).size≤4096)))):=zPk m
 generalize maniB m=R at *
 generalize mayQ m.deps m.dev m.opts=r1 at *
 generalize mayQ m.over [] []=r2 at *
 generalize zAR m=tx at *
 clear h0 h1 h2 h3 hm ht
 go_enter Tryz.func67,Tryz.ntmps67
 go_upto_region 1 with (fail)
 obtain ⟨w1,hw⟩:∃ W0,W0=w.alloc (.cells #[.slice A0 n0 c0,.slice A1 n1 c1,.slice A2 n2 c2,.slice A3 n3 c3] 24):=⟨_,rfl⟩
 have hr1:w1.heap[w.heap.size]?=some (.cells #[.slice A0 n0 c0,.slice A1 n1 c1,.slice A2 n2 c2,.slice A3 n3 c3] 24 (0,0)):=by rw[hw];exact heap_alloc_new w _
 have HB1:Hid (Below w.heap.size w w1):=by unfold Hid;rw[hw];exact bal (bR _ _) _
 rw[←hw]
 clear hw
 have Hr1:=cH hr1
 clear hr1
 obtain ⟨⟨a0,a1,a2,a3⟩,_⟩:=row4 Hr1.out
 go_wp2_with fail
 refine (H1.out w1 HB1.out).mono ?_
 rintro e w2 ⟨rfl,hb⟩
 have HB2:=cH (bot HB1.out hb)
 have Hr2:=cH ((hb.block _ (aS.1 Hr1.out).1).trans Hr1.out)
 clear hb a0 a1 a2 a3 HB1 Hr1
 clear H1
 cases r1 with
 | false=>
   have hr:R=false:=by rw[HR.out];simp
   subst hr
   clear HR HT
   go_wp2_with fail
   go_ret
   exact ⟨rfl,HB2.out⟩
 | true=>
 obtain ⟨⟨a0,a1,a2,a3⟩,_⟩:=row4 Hr2.out
 go_wp2_with fail
 refine (H2.out w2 HB2.out).mono ?_
 rintro e w3 ⟨rfl,hb⟩
 have HB3:=cH (bot HB2.out hb)
 have Hr3:=cH ((hb.block _ (aS.1 Hr2.out).1).trans Hr2.out)
 clear hb a0 a1 a2 a3 HB2 Hr2
 clear H2
 cases r2 with
 | false=>
   have hr:R=false:=by rw[HR.out];simp
   subst hr
   clear HR HT
   go_wp2_with fail
   go_ret
   exact ⟨rfl,HB3.out⟩
 | true=>
 have HT':=cH (HT.out (by first|rfl|trivial) (by first|rfl|trivial))
 clear HT
 obtain ⟨⟨a0,a1,a2,a3⟩,_⟩:=row4 Hr3.out
 go_wp2_with fail
 refine (HT'.out w3 HB3.out).mono ?_
 rintro e w4 ⟨rfl,hb⟩
 have HB4:=cH (bot HB3.out hb)
 have Hr4:=cH ((hb.block _ (aS.1 Hr3.out).1).trans Hr3.out)
 clear hb a0 a1 a2 a3 HB3 Hr3
 by_cases hz:tx.size≤4096
 ·have hI:(tx.size:Int)≤4096:=by omega
  have hr:R=true:=by rw[HR.out,decide_eq_true hz];rfl
  subst hr
  clear HR
  go_wp2_with fail
  go_ret
  exact ⟨rfl,HB4.out⟩
 ·have hI:¬(tx.size:Int)≤4096:=by omega
  have hD:decide ((tx.size:Int)≤4096)=false:=decide_eq_false hI
  have hr:R=false:=by rw[HR.out,decide_eq_false hz];simp
  subst hr
  clear HR
  go_wp2_with fail
  go_ret
  exact ⟨rfl,HB4.out⟩
noncomputable def maniP (m:Mani):ByteArray×Int:=if maniB m=true then (zAR m,0) else (⟨#[]⟩,25)
theorem zJq (m:Mani) (u:Value) (w:World) (S:Nat→Prop) (ht:Tab w) (hm:ManiV w S m u) :
  Calls Tryz.prog 21 #[u] w fun e w'=>e=.returned (.tuple #[.string (maniP m).1,.int .i64 (maniP m).2])∧Below w.heap.size w w':=by
 obtain ⟨A0,n0,c0,A1,n1,c1,A2,n2,c2,A3,n3,c3,rfl,h0,h1,h2,h3⟩:=id hm
 have HM:=cH (fun W (hW:Below w.heap.size w W)=>zHg m _ W S (zAG ht hW) (hm.keep hW))
 have HT:=cH (fun (hB:maniB m=true) W (hW:Below w.heap.size w W)=>zHp m _ W S (zAG ht hW) (zDT hB).1 (zDT hB).2.1 (zDT hB).2.2.1 (zDT hB).2.2.2 (hm.keep hW))
 obtain ⟨R,hR⟩:∃ R,R=maniP m:=⟨_,rfl⟩
 have Hno:Hid (maniB m=false→R=(⟨#[]⟩,25)):=fun h=>by rw[hR];unfold maniP;rw[if_neg (by rw[h];decide)]
 have Hyes:Hid (maniB m=true→R=(zAR m,0)):=fun h=>by rw[hR];unfold maniP;rw[if_pos h]
 rw[←hR]
 clear hR h0 h1 h2 h3 hm ht
 generalize maniB m=b at *
 generalize zAR m=s at *
 go_enter Tryz.func21,Tryz.ntmps21
 go_upto_region 1 with (fail)
 obtain ⟨w1,hw⟩:∃ W0,W0=w.alloc (.cells #[.slice A0 n0 c0,.slice A1 n1 c1,.slice A2 n2 c2,.slice A3 n3 c3] 24):=⟨_,rfl⟩
 have hr1:w1.heap[w.heap.size]?=some (.cells #[.slice A0 n0 c0,.slice A1 n1 c1,.slice A2 n2 c2,.slice A3 n3 c3] 24 (0,0)):=by rw[hw];exact heap_alloc_new w _
 have HB1:Hid (Below w.heap.size w w1):=by unfold Hid;rw[hw];exact bal (bR _ _) _
 rw[←hw]
 clear hw
 have Hr1:=cH hr1
 clear hr1
 obtain ⟨⟨a0,a1,a2,a3⟩,_⟩:=row4 Hr1.out
 go_wp2_with fail
 refine (HM.out w1 HB1.out).mono ?_
 rintro e w2 ⟨rfl,hb⟩
 have HB2:=cH (bot HB1.out hb)
 have Hr2:=cH ((hb.block _ (aS.1 Hr1.out).1).trans Hr1.out)
 clear hb a0 a1 a2 a3 HB1 Hr1
 clear HM
 cases b with
 | false=>
   have hq:=Hno.out (by first|rfl|trivial)
   subst hq
   clear Hno Hyes HT
   go_wp2_with fail
   go_ret2
   exact ⟨rfl,HB2.out⟩
 | true=>
 have hq:=Hyes.out (by first|rfl|trivial)
 subst hq
 have HT':=cH (HT.out (by first|rfl|trivial))
 clear Hno Hyes HT
 obtain ⟨⟨a0,a1,a2,a3⟩,_⟩:=row4 Hr2.out
 go_wp2_with fail
 refine (HT'.out w2 HB2.out).mono ?_
 rintro e w3 ⟨rfl,hb⟩
 have HB3:=cH (bot HB2.out hb)
 have Hr3:=cH ((hb.block _ (aS.1 Hr2.out).1).trans Hr2.out)
 clear hb a0 a1 a2 a3 HB2 Hr2
 go_wp2_with fail
 go_ret2
 exact ⟨rfl,HB3.out⟩
