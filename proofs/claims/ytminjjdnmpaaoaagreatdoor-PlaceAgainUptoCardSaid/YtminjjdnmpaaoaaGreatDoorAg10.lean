/- A row of ints of the call's own, told by its cells: it is read, written at its places, appended to, and its head moves on. -/
import Derived.Test.YtminjjdnmpaaoaaGreatDoorAg02
import Derived.Laws.OwnMore
import Derived.Deep.AppendSrc
import Derived.Deep.Upon
import Derived.Test.YtminjjdnmpaaoaaGreatDoorAg09
import Derived.Test.YtminjjdnmpaaoaaGreatDoorAg08
import Derived.Test.YtminjjdnmpaaoaaGreatDoorAg04
import Derived.Test.YtminjjdnmpaaoaaGreatDoorAg07
import Derived.Test.YtminjjdnmpaaoaaGreatDoorAg05
import Derived.Deep.RegionHeld3
import Derived.Lib.Hide
import Derived.Test.YtminjjdnmpaaoaaGreatDoorAl
set_option linter.all false
set_option maxHeartbeats 3200000
set_option maxRecDepth 100000
namespace Go.Proofs.YtminjjdnmpaaoaaGreatDoor
open Go.RowKit
theorem zCE {w:World} {a:Addr} {v u:Value} (h:w.cell? a=some u):(w.setCell a v).cell? a=some v:=by
 apply World.cell?_setCell_same (h:=h)
theorem zCX {w:World} {g o o':Nat} {v:Value} (h:o≠o'):(w.setCell ⟨g,o,none⟩ v).cell? ⟨g,o',none⟩=w.cell? ⟨g,o',none⟩:=by
 apply World.cell?_setCell_other
 intro e
 simp only[Addr.mk.injEq] at e
 exact h e.2.1
structure IRow (w:World) (base g k cap:Nat) (l:List Int):Prop where
 lo:base≤g
 le:l.length≤cap
 max:cap≤maxLen
 lt:g<w.heap.size
 at_:∀ (j:Nat) (x:Int),l[j]?=some x→w.cell? ⟨g,k+j,none⟩=some (.int .i64 x)
 there:∀ j,j<cap→(w.cell? ⟨g,k+j,none⟩).isSome=true∧w.frozen? ⟨g,k+j,none⟩=false
section
variable {w w':World} {base g k cap:Nat} {l:List Int}
theorem IRow.keepBlock (h:IRow w base g k cap l) (hs:w.heap.size≤w'.heap.size) (hb:w'.heap[g]?=w.heap[g]?):IRow w' base g k cap l:=
 ⟨h.lo,h.le,h.max,lL h.lt hs,fun j x hj=>(zAO hb _ _).trans (h.at_ j x hj),fun j hj=>⟨by rw[zAO hb];exact (h.there j hj).1,(zIi hb _ _).trans (h.there j hj).2⟩⟩
theorem IRow.keep (h:IRow w base g k cap l) (hb:Below w.heap.size w w'):IRow w' base g k cap l:=h.keepBlock hb.size (hb.block g h.lt)
theorem IRow.alloc (h:IRow w base g k cap l) (o:Obj):IRow (w.alloc o) base g k cap l:=h.keep ((bR _ _).alloc (nR _) o)
theorem IRow.drew (h:IRow w base g k cap l):IRow w.drew base g k cap l:=h.keepBlock (nR _) rfl
theorem IRow.grown (h:IRow w base g k cap l) {row:Option Nat} (hg:w.grownBy w' row) (hne:some g≠row):IRow w' base g k cap l:=h.keepBlock hg.size (hg.block g h.lt hne)
theorem IRow.get (h:IRow w base g k cap l) {j:Nat} (hj:j<l.length):w.cell? ⟨g,k+j,none⟩=some (.int .i64 l[j]):=h.at_ j _ (gE hj)
theorem IRow.frozen (h:IRow w base g k cap l) {j:Nat} (hj:j<cap):w.frozen? ⟨g,k+j,none⟩=false:=(h.there j hj).2
theorem IRow.tail {x:Int} (h:IRow w base g k cap (x::l)):IRow w base g (k+1) (cap - 1) l:=by
 have h1:=h.le
 have h2:=h.max
 rw[List.length_cons] at h1
 exact ⟨h.lo,by omega,by omega,h.lt,fun j y hj=>by rw[show k+1+j=k+(j+1) by omega];exact h.at_ (j+1) y (by simpa using hj),
  fun j hj=>by rw[show k+1+j=k+(j+1) by omega];exact h.there (j+1) (by omega)⟩
theorem IRow.set (h:IRow w base g k cap l) {j:Nat} (hj:j<l.length) (x:Int) :
  IRow (w.setCell ⟨g,k+j,none⟩ (.int .i64 x)) base g k cap (l.set j x)∧w.grownBy (w.setCell ⟨g,k+j,none⟩ (.int .i64 x)) (some g):=by
 have hle:=h.le
 refine ⟨⟨h.lo,by simpa using h.le,h.max,by simpa using h.lt,fun i y hi=>?_,fun i hi=>?_⟩,⟨rfl,rfl,rfl,by simp,fun b _ hk=>heap_setCell_other w ⟨g,k+j,none⟩ b _ (fun e=>hk (by simp[e]))⟩⟩
 ·by_cases hij:i=j
  ·subst hij
   rw[List.getElem?_set_self hj] at hi
   injection hi with hi
   subst hi
   exact zCE (h.get hj)
  ·rw[List.getElem?_set_ne (Ne.symm hij)] at hi
   rw[zCX (by omega)]
   exact h.at_ i y hi
 ·have hf:=(h.there i hi)
  refine ⟨?_,(World.frozen?_setCell _ _ _ _).trans hf.2⟩
  by_cases hij:i=j
  ·subst hij
   rw[zCE (h.get hj)];rfl
  ·rw[zCX (by omega)]
   exact hf.1
theorem IRow.of_owns {e:TypeId} (h:w.ownsRow base e 1 (.slice (some ⟨g,0,none⟩) l.length cap) l.length (l.map (Value.int .i64))):IRow w base g 0 cap l:=by
 have hlt:=h.lt g rfl
 have hfz:=fun j=>World.ownsRow.frozenAt h j
 rcases h.2 with ⟨h',_⟩|⟨g',cap',cur,h',hb,hg,hnc,hcm,hcs,htake⟩
 ·simp at h'
 ·simp only[Value.slice.injEq,Option.some.injEq,Addr.mk.injEq,and_true,true_and] at h'
  obtain ⟨rfl,rfl⟩:=h'
  refine ⟨hlt.1,hnc,hcm,hlt.2,fun j x hj=>?_,fun j hj=>⟨?_,by rw[Nat.zero_add];exact hfz j⟩⟩
  ·have hjl:j<l.length:=(gS.1 hj).1
   rw[Nat.zero_add,World.ownsRow.cellAt h j (by omega),List.getElem?_map,hj]
   rfl
  ·rw[Nat.zero_add,cO w g j cur e (0,0) hg,Array.getElem?_eq_getElem (by omega)]
   rfl
theorem IRow.slv (h:IRow w base g k cap l) (hi:∀ x∈l,I64 x):SlV rInt w (fun b=>base≤b) l (.slice (some ⟨g,k,none⟩) l.length cap):=
 ⟨some ⟨g,k,none⟩,cap,rfl,h.le,h.max,(fun e=>by cases e),fun _=>⟨g,k,rfl,h.lo,h.lt,fun i x hx=>⟨[.int .i64 x],⟨rfl,hi x (mG hx)⟩,fun j u hu=>by
   cases j with
   | zero=>simp at hu;subst hu;simpa [rInt] using h.at_ i x hx
   | succ j=>simp at hu⟩⟩⟩
theorem IRow.lit (w:World) (base:Nat) (e:TypeId) (x:Int) (hb:base≤w.heap.size):IRow (w.alloc (.cells #[.int .i64 x] e)) base w.heap.size 0 1 [x]:=
 IRow.of_owns (e:=e) (World.ownsRow_lit w #[.int .i64 x] 1 hb (by simp[maxLen]) rfl)
theorem IRow.push {P:Program} {t ty e:TypeId} {bytes:Nat} (E:Elt P e 1 bytes) (ht:P.underlying t=some (.slice e)) (h:IRow w base g k cap l)
  (ad:Addr) (c:Nat) (y:Int) (hy:w.cell? ad=some (.int .i64 y)) (h63:l.length+1≤maxLen) (hbytes:(l.length+1) * bytes≤140737488355328) (hbase:base≤w.heap.size) :
  ∃ g' k' cap' w',(Builtin.append_ #[t,t] ty #[.slice (some ⟨g,k,none⟩) l.length cap,.slice (some ad) 1 c]).run P w=.ok (.slice (some ⟨g',k',none⟩) (l.length+1) cap') w' ∧
    IRow w' base g' k' cap' (l++[y])∧w.grownBy w' (some g)∧(g'=g∨g'=w.heap.size):=by
 obtain ⟨i,z,hi,hz,hsz,hby,hzs,hpos⟩:=E
 have hadd0:ad.add 0=ad:=by unfold Addr.add;split<;>simp_all
 have hs:Src P i.size t (.slice (some ad) 1 c) 1 [Value.int .i64 y] w:=Src.ofSlice (P:=P) w ht ad 1 c [Value.int .i64 y] (by rw[hsz];rfl) (fun j u hu=>by
  cases j with
  | zero=>simp at hu;subst hu;rw[hadd0];exact hy
  | succ j=>simp at hu) (by simp[Value.oneCell'])
 have hle:=h.le
 have hmx:=h.max
 by_cases hroom:l.length+1≤cap
 ·have hth:=h.there l.length (by omega)
  have hrun:=run_append_room_src (P:=P) w t t ty e i ht hi g k l.length cap _ 1 _ hs hroom
   (fun j hj=>by have:j=0:=by simpa using hj
                 subst this;rw[hsz,Nat.mul_one,Nat.add_zero];exact hth.1)
   (fun j hj=>by have:j=0:=by simpa using hj
                 subst this;rw[hsz,Nat.mul_one,Nat.add_zero];exact hth.2)
  rw[hsz,Nat.mul_one] at hrun
  obtain ⟨u0,hu0⟩:=Option.isSome_iff_exists.1 hth.1
  refine ⟨g,k,cap,_,hrun,⟨h.lo,by simpa using hroom,hmx,by simpa [World.setCells] using h.lt,fun j x hj=>?_,fun j hj=>?_⟩,⟨rfl,rfl,rfl,by simp[World.setCells],fun b _ hk=>heap_setCell_other w ⟨g,k+l.length,none⟩ b _ (fun e=>hk (by simp[e]))⟩,.inl rfl⟩
  ·simp only[World.setCells]
   by_cases hjl:j<l.length
   ·rw[List.getElem?_append_left hjl] at hj
    rw[zCX (by omega)]
    exact h.at_ j x hj
   ·have hjj:=(gS.1 hj).1
    simp at hjj
    have:j=l.length:=by omega
    subst this
    simp at hj
    subst hj
    exact zCE hu0
  ·simp only[World.setCells]
   refine ⟨?_,(World.frozen?_setCell _ _ _ _).trans (h.there j hj).2⟩
   by_cases hjl:j=l.length
   ·subst hjl;rw[zCE hu0];rfl
   ·rw[zCX (by omega)];exact (h.there j hj).1
 ·have holds:∀ j u,(l.map (Value.int .i64))[j]?=some u→w.drew.cell? ((⟨g,k,none⟩:Addr).add j)=some u:=fun j u hu=>by
   rw[List.getElem?_map] at hu
   rcases hx:l[j]? with _|x
   ·rw[hx] at hu;cases hu
   ·rw[hx] at hu
    injection hu with hu
    subst hu
    rw[Addr.add_lit]
    exact h.at_ j x hx
  have hfc:=run_firstCells_some (P:=P) w.drew i.size l.length ⟨g,k,none⟩ l.length cap (l.map (Value.int .i64)) (by rw[hsz];simp) holds
  have hby':=hby
  have hrun:=run_append_grow_src (P:=P) w t t ty e i z ht hi hz (some ⟨g,k,none⟩) l.length cap (l.map (Value.int .i64)) hfc _ 1 _ hs (by omega) (by unfold maxLen at h63;omega) (growslice_fits (by omega) (by rw[hby];exact hbytes))
  have hge:=grownCap_ge w (l.length+1) cap e
  have hcm:=grownCap_le_maxLen w (l.length+1) cap e h63
  obtain ⟨C,hC⟩:∃ C,C=(l.map (Value.int .i64)++[Value.int .i64 y]).toArray++Builtin.zeroCells z.cells (grownCap w (l.length+1) cap e - (l.length+1)):=⟨_,rfl⟩
  have e1:∀ j,(w.drew.alloc (.cells C e)).cell? ⟨w.heap.size,0+j,none⟩=C[j]?:=fun j=>by rw[Nat.zero_add];exact World.cell?_alloc_new w.drew _ _ j
  rw[←hC] at hrun
  refine ⟨w.heap.size,0,_,_,hrun,⟨hbase,by simpa using hge,hcm,by simp,fun j x hj=>?_,fun j hj=>⟨?_,by rw[Nat.zero_add];exact World.frozen?_alloc_new w.drew _ _ j⟩⟩,⟨rfl,rfl,rfl,by simp,fun b hb _=>Below.heap_alloc w.drew _ b hb⟩,.inr rfl⟩
  ·have hjj:=(gS.1 hj).1
   simp only[List.length_append,List.length_singleton] at hjj
   rw[e1,hC,Array.getElem?_append_left (by simp;omega),List.getElem?_toArray]
   have:(l.map (Value.int .i64)++[Value.int .i64 y])=(l++[y]).map (Value.int .i64):=by simp
   rw[this,List.getElem?_map,hj]
   rfl
  ·rw[e1,Array.getElem?_eq_getElem (by
    rw[hC,Array.size_append,List.size_toArray,size_zeroCells,hzs]
    simp only[List.length_append,List.length_map,List.length_singleton,Nat.mul_one]
    omega)]
   rfl
end
section
variable {P:Program} {ops:Array Oper} {o:Oper} {a:Act} {K:Act→World→Prop} {Q:Exit→Act→World→Prop} {bytes:Nat} {w:World} {base g k cap:Nat} {l:List Int}
end
end Go.Proofs.YtminjjdnmpaaoaaGreatDoor
namespace Go.Proofs.YtminjjdnmpaaoaaGreatDoor
theorem zFC {b:UInt8} (h:nameC b=true):(b != 47)=true:=by
 have H:∀ b:UInt8,(!nameC b||(b != 47))=true:=zEv (by decide +kernel)
 have:=H b
 rw[h] at this;simpa using this
theorem zE3 {l:List UInt8} (h:nameL l=true):∀ b∈l,(b != 47)=true:=by
 cases l with
 | nil=>intro b hb;cases hb
 | cons c t=>
   simp only[nameL,Bool.and_eq_true] at h
   intro b hb
   rcases List.mem_cons.1 hb with rfl|hb
   ·exact zFC (by unfold nameC;rw[h.1.1];rfl)
   ·exact zFC (List.all_eq_true.1 h.1.2 b hb)
theorem zFI:∀ (t:List ByteArray),zAq t=[]∨∃ r,zAq t=47::r:=by
 intro t
 cases t with
 | nil=>exact .inl rfl
 | cons s t=>exact .inr ⟨_,rfl⟩
theorem zDb {l r:List UInt8} (h:∀ b∈l,(b != 47)=true) (hr:r=[]∨∃ q,r=47::q):(l++r).takeWhile (· != 47)=l:=by
 induction l with
 | nil=>
   rcases hr with rfl|⟨q,rfl⟩
   ·rfl
   ·rfl
 | cons c l ih=>
   rw[List.cons_append,List.takeWhile_cons,if_pos (h c (by simp)),ih fun b hb=>h b (by simp[hb])]
theorem zJr:∀ {a b:List ByteArray},a.all nameB=true→b.all nameB=true→zAq a=zAq b→a=b:=by
 intro a
 induction a with
 | nil=>
   intro b _ _ h
   cases b with
   | nil=>rfl
   | cons s t=>cases h
 | cons s t ih=>
   intro b ha hb h
   cases b with
   | nil=>cases h
   | cons u v=>
     rw[List.all_cons,Bool.and_eq_true] at ha hb
     rw[zAq,zAq,List.append_assoc,List.append_assoc] at h
     have h1:=List.append_cancel_left h
     have e1:=zDb (zE3 ha.1) (zFI t)
     have e2:=zDb (zE3 hb.1) (zFI v)
     rw[h1,e2] at e1
     rw[e1] at h1
     have h2:=List.append_cancel_left h1
     have hs:s=u:=ByteArray.ext (Array.ext' e1.symm)
     rw[hs,ih ha.2 hb.2 h2]
end Go.Proofs.YtminjjdnmpaaoaaGreatDoor
namespace Go.Proofs.YtminjjdnmpaaoaaGreatDoor
open Go
def zAS:Option ByteArray→List ByteArray→Bool
 | _,[]=>true
 | p,s::l=>(nameB s&&behind p s)&&zAS (some s) l
def zB9 (l:List ByteArray):Nat→Option ByteArray
 | 0=>none
 | k+1=>l[k]?
theorem zEY {l:List ByteArray} {k:Nat} {s:ByteArray} (h:l[k]?=some s):zAS (zB9 l k) (l.drop k)=((nameB s&&behind (zB9 l k) s)&&zAS (zB9 l (k+1)) (l.drop (k+1))):=by
 obtain ⟨hk,e⟩:=gS.1 h
 rw[dC hk,e,zAS]
 show _=((nameB s&&behind (zB9 l k) s)&&zAS l[k]? (l.drop (k+1)))
 rw[h]
theorem zER {l:List ByteArray} {k:Nat} {p:Option ByteArray} (h:l.length≤k):zAS p (l.drop k)=true:=by
 rw[dN h];rfl
theorem zCv:∀ {l:List ByteArray} {p:Option ByteArray},zAS p l=true→∀ s∈l,nameB s=true
 | [],_,_,s,hs=>by cases hs
 | x::l,p,h,s,hs=>by
   rw[zAS,Bool.and_eq_true,Bool.and_eq_true] at h
   rcases List.mem_cons.1 hs with rfl|hs
   ·exact h.1.1
   ·exact zCv h.2 s hs
def zAb (l:List Pin):List ByteArray:=l.map (·.name)
def zAE (l:List Edge):List ByteArray:=l.map (·.label)
def zeroV (v:Ver):Bool:=decide (v.major=0)&&(decide (v.minor=0)&&decide (v.patch=0))
end Go.Proofs.YtminjjdnmpaaoaaGreatDoor
namespace Go.Proofs.YtminjjdnmpaaoaaGreatDoor
open Go.Rows Go.RowKit Go.Shelf Go.Sort
def edgeB (m:Nat) (e:Edge):Bool:=decide (1≤e.to)&&decide (e.to<(m:Int))
theorem zJK (A:Option Addr) (n c:Nat) (l:List ByteArray) (s:ByteArray) (w:World) (S:Nat→Prop) (hs:s.size≤maxLen) (hlen:l.length * 32≤140737488355328) (hl:SlV rStr w S l (.slice A n c)) :
  Calls Tryz.prog 37 #[.slice A n c,.string s] w fun e w'=>∃ v,e=.returned v∧SlV rStr w' (fun _=>True) (l++[s]) v∧Below w.heap.size w w':=by
 have hm:maxLen=9223372036854775807:=rfl
 have hnx:=hl.n_eq
 have hn63:n≤9223372036854775807:=by omega
 obtain ⟨i,z,hi,hz,hsz,hby,hzs,hpos⟩:=zA8
 have hHS:=cH hs;clear hs
 have hnb:n≤4398046511104:=by omega
 have Hnx:=cH hnx;clear hnx
 go_enter Tryz.func37,Tryz.ntmps37
 go_wp2_with (at_make;refine wpList_make_own w (by rfl) _ _ _ (by rfl) w.heap.size 9 i z 1 Tryz.underlying48 hi hz hsz _ _ _ (n+1) (by rfl) (by rfl) (by omega) (by rw[hby];have:=Hnx.out;omega) (by have:=Hnx.out;omega) (nR _) ?_)
 intro w1 hown1 hgrow
 have HB1:Hid (Below w.heap.size w w1):=(bR _ _).grown hgrow (nR _) (fun k hk=>by cases hk)
 have Hown1:Hid (Own rStr w1 w.heap.size 9 (.slice (some ⟨w.heap.size,0,none⟩) 0 (n+1)) [] (fun _=>False)):=⟨fun b hb=>hb.elim,[],hown1,rfl⟩
 have Hl1:Hid (SlV rStr w1 (fun b=>b<w.heap.size) l (.slice A n c)):=(hl.more (S':=fun b=>b<w.heap.size) fun b h1 h2=>h2).belowSize HB1.out
 have hw1:=HB1.out.size
 clear hown1 hgrow hl
 go_wp2_with (at_builtin;refine zAX (by rfl) _ _ _ (by rfl) zA8 Tryz.underlying48 (by rfl) Hown1.out (fun b=>b<w.heap.size) l _ _ _ (by rfl) Hl1.out (by intro b hb he;simp[Value.ownBlock] at he;omega) (by simp[maxLen];omega) (by simp;omega) hw1 ?_)
 intro v2 w2 hown2 hgrow2 hat2
 have HB2:Hid (Below w.heap.size w w2):=zA7 HB1.out hgrow2 Hown1.out (nR _)
 have Hown2:Hid (Own rStr w2 w.heap.size 9 v2 l (fun b=>b<w.heap.size∧b<w1.heap.size)):=hown2
 have hw2:=HB2.out.size
 have Hlen:Hid (l.length=n):=Hnx.out.symm
 clear hown2 hgrow2 hat2 Hown1 Hl1 hlen
 go_wp2_with (at_builtin;refine zAM (by rfl) _ _ _ (by rfl) zA8 Tryz.underlying48 (by rfl) (Hown2.out.alloc _) ⟨w2.heap.size,0,none⟩ 1 [.string s] s (by rfl) ⟨rfl,hHS.out⟩ (zAo w2 #[.string s] _) (by rw[Hlen.out];unfold maxLen;omega) (by rw[Hlen.out];omega) (by simp;omega) (w2.heap.size+1) (by simp) ?_)
 intro g9 cap9 w9 hown9 hgrow9 hat9 hlt9
 have HB9:=cH (zA7 (bal HB2.out _) hgrow9 (Hown2.out.alloc _) (nR _))
 have Hown9:=cH hown9
 clear hown9 hgrow9
 go_wp2_with fail
 go_ret
 exact ⟨_,rfl,Hown9.out.slv.more (fun b _ _=>trivial),HB9.out⟩
noncomputable def zAl (t:List Dir) (p:List ByteArray) (s:ByteArray):Nat→Int
 | 0=>-1
 | q+1=>bif decide (0≤findI t (p.take q++[s])) then findI t (p.take q++[s]) else zAl t p s q
noncomputable def lookI (t:List Dir) (i:Int) (s:ByteArray):Int:=
 if h:0≤i∧i.toNat<t.length then (bif nameB s then zAl t (t[i.toNat]'h.2).path s ((t[i.toNat]'h.2).path.length+1) else -1) else -1
theorem keepL {w0 W W':World} {a:Nat} {v:Value} (hb:Below W.heap.size W W') (hc:W.cell? ⟨a,0,none⟩=some v) (hB:Below w0.heap.size w0 W) (hz:a<w0.heap.size):W'.cell? ⟨a,0,none⟩=some v∧Below w0.heap.size w0 W':=
 ⟨zAA hb hc (lL hz hB.size),bot hB hb⟩
theorem zGe (A:Option Addr) (n c:Nat) (xs:List Dir) (s:ByteArray) (w:World) (S:Nat→Prop) (i:Int) (hs:s.size≤maxLen) (hlen:∀ d∈xs,d.path.length * 32≤140737488355328) (hx:SlV rDir w S xs (.slice A n c)) :
  Calls Tryz.prog 17 #[.agg #[.slice A n c],.int .i64 i,.string s] w fun e w'=>e=.returned (.int .i64 (lookI xs i s))∧Below w.heap.size w w':=by
 have hnx:=hx.n_eq
 have hcx:=hx.cap_le
 unfold maxLen at hcx
 by_cases h0:i<0
 ·have hd:decide (i<0)=true:=decide_eq_true h0
  have He:Hid (lookI xs i s=-1):=by unfold Hid lookI;rw[dif_neg (by omega)]
  clear hx hnx hcx hlen
  generalize lookI xs i s=R at *
  go_enter Tryz.func17,Tryz.ntmps17
  go_wp2_with fail
  go_ret
  exact ⟨zAx He.out.symm,bal (bR _ _) _⟩
 have hd:decide (i<0)=false:=decide_eq_false h0
 by_cases h1:(n:Int)≤i
 ·have hd1:decide ((n:Int)≤i)=true:=decide_eq_true h1
  have He:Hid (lookI xs i s=-1):=by unfold Hid lookI;rw[dif_neg (by omega)]
  clear hx hnx hcx hlen
  generalize lookI xs i s=R at *
  go_enter Tryz.func17,Tryz.ntmps17
  go_wp2_with fail
  go_ret
  exact ⟨zAx He.out.symm,bal (bR _ _) _⟩
 have hd1:decide ((n:Int)≤i)=false:=decide_eq_false h1
 obtain ⟨k,rfl⟩:∃ k:Nat,i=(k:Int):=⟨i.toNat,by omega⟩
 have hk:k<xs.length:=by omega
 have Hnm:=cH (fun W=>zBl s hs W)
 have HR:Hid (lookI xs (k:Int) s=bif nameB s then zAl xs xs[k].path s (xs[k].path.length+1) else -1):=by
  unfold Hid lookI;rw[dif_pos (by omega)];simp only[Int.toNat_natCast]
 generalize lookI xs (k:Int) s=R at *
 have hkn:(k:Int)<(n:Int):=by omega
 have hk0:(0:Int)≤(k:Int):=by omega
 cases hnb:nameB s
 ·have He:Hid (R=-1):=by unfold Hid;rw[HR.out,hnb];rfl
  rw[hnb] at Hnm
  clear hx hnx hcx hlen hnb HR
  go_enter Tryz.func17,Tryz.ntmps17
  go_wp2_with fail
  refine (Hnm.out _).mono ?_
  rintro e w1 ⟨rfl,B1⟩
  go_wp2_with fail
  go_ret
  exact ⟨zAx He.out.symm,bnew B1⟩
 rw[hnb] at Hnm
 have HR1:Hid (R=zAl xs xs[k].path s (xs[k].path.length+1)):=by unfold Hid;rw[HR.out,hnb];rfl
 clear HR hnb
 have hlk:=hlen xs[k] (List.getElem_mem hk)
 have HX:=cH hx
 have HS:=cH hs
 obtain ⟨b,o,cs,rfl,_,hb1,hh,hcell⟩:=hx.elem (gE hk)
 obtain ⟨s0,s1,s2,s3,rfl,hp,_,_,_,_,_,_,_,_⟩:=hh
 obtain ⟨pA,pc,rfl,hpl,hpm⟩:=hp.val
 unfold maxLen at hpm
 have c0:=hcell 0 _ rfl
 simp only[rDir,Nat.add_zero] at c0
 have HP:=cH hp
 clear hcell hp hx hs hlen hcx hnx
 generalize xs[k].path=path at *
 generalize hl0:path.length=l0 at *
 have Hl0:=cH hl0;clear hl0
 go_enter Tryz.func17,Tryz.ntmps17
 go_wp2_with fail
 obtain ⟨w0,hw0⟩:∃ w0,w0=w.alloc (.cells #[.slice (some ⟨b,o,none⟩) n c] 33):=⟨_,rfl⟩
 have hz:w.heap.size<w0.heap.size:=by rw[hw0];simp[go_sem]
 have hb0:Below w.heap.size w w0:=by rw[hw0];exact bal (bR _ _) _
 have a0:w0.cell? ⟨w.heap.size,0,none⟩=some (.slice (some ⟨b,o,none⟩) n c):=by rw[hw0];simp[go_sem]
 rw[←hw0]
 have HB0:=cH hb0;clear hb0 hw0
 refine (Hnm.out w0).mono ?_
 rintro e w1 ⟨rfl,B1⟩
 have Q1:=cH B1;clear B1 Hnm
 have e0:=zAA (bot HB0.out Q1.out) c0 hb1
 have e1:=zAA Q1.out a0 hz
 go_wp2_with fail
 clear e0 e1
 go_loopw [8] (fun i wr=>((i=.int .i64 (-1)∧Hid (R=-1))∨∃ q:Nat,q≤l0∧i=.int .i64 q∧Hid (R=zAl xs path s (q+1)))∧Below w0.heap.size w0 wr) (fun i _=>(intOf i+1).toNat)
 case atStart=>exact ⟨.inr ⟨l0,nR _,rfl,HR1⟩,Q1.out⟩
 case round=>
  obtain ⟨hor,hbel⟩:=hrel
  have b0:=zAA hbel a0 hz
  have hbel':=bot HB0.out hbel
  rcases hor with ⟨rfl,He⟩|⟨q,hq,rfl,HRq⟩
  ·go_wp2_with fail
   go_ret
   exact ⟨zAx He.out.symm,hbel'⟩
  ·have hq0:(0:Int)≤(q:Int):=by omega
   have hqc:q≤pc:=by omega
   have hw2:IntKind.i64.wrap (q:Int)=(q:Int):=IntWalk.i64_in _ ⟨by omega,by omega⟩
   go_wp2_with fail
   have Hj:Hid (∀ W,Below w0.heap.size w0 W→Calls Tryz.prog 37 #[.slice pA q pc,.string s] W fun e w'=>∃ v,e=.returned v∧SlV rStr w' (fun _=>True) (path.take q++[s]) v∧Below W.heap.size W w'):=fun W hW=>
    zJK pA q pc (path.take q) s W _ HS.out (by rw[List.length_take];omega) (SlV.take (HP.out.belowSize (bot HB0.out hW)) (by rw[Hl0.out];exact hq))
   have Hf:Hid (∀ W vA m vc,Below w0.heap.size w0 W→SlV rStr W (fun _=>True) (path.take q++[s]) (.slice vA m vc)→Calls Tryz.prog 18 #[.agg #[.slice (some ⟨b,o,none⟩) n c],.slice vA m vc] W fun e w'=>e=.returned (.int .i64 (findI xs (path.take q++[s])))∧Below W.heap.size W w'):=fun W vA m vc hW hv=>
    zDV _ _ _ _ _ _ xs _ W _ _ (HX.out.belowSize (bot HB0.out hW)) hv
   have Hst:Hid (zAl xs path s (q+1)=bif decide (0≤findI xs (path.take q++[s])) then findI xs (path.take q++[s]) else zAl xs path s q):=rfl
   generalize findI xs (path.take q++[s])=f at *
   generalize path.take q++[s]=jp at *
   generalize zAl xs path s (q+1)=LD at *
   go_region_held3 (fun w'=>w'.cell? ⟨w.heap.size,0,none⟩=some (.slice (some ⟨b,o,none⟩) n c)∧Below w0.heap.size w0 w')
    (first
      | exact ⟨b0,hbel.drew⟩
      | (go_split_ands;exact keepL (by assumption) (by assumption) (by assumption) hz))
    (first
      | (go_at_call 37;go_split_ands;with_reducible refine (Hj.out _ (by assumption)).mono ?_;rintro e w2 ⟨v,rfl,hv,hb2⟩;obtain ⟨vA,vc,rfl,_,_⟩:=hv.val)
      | (go_at_call 18;go_split_ands;with_reducible refine (Hf.out _ _ _ _ (by assumption) (by assumption)).mono ?_;rintro e w3 ⟨rfl,hb3⟩))
   all_goals
    have HBw:Hid (Below w0.heap.size w0 w3):=by (go_split_ands;assumption)
    have HRr:Hid (R=bif decide (0≤f) then f else zAl xs path s q):=HRq.out.trans Hst.out
    by_cases hf:0≤f
    ·have He:Hid (R=f):=by unfold Hid;rw[HRr.out,decide_eq_true hf];rfl
     go_wp2_with fail
     go_ret
     exact ⟨zAx He.out.symm,bot HB0.out HBw.out⟩
    ·have hfk:decide (0≤f)=false:=decide_eq_false hf
     have He:Hid (R=zAl xs path s q):=by unfold Hid;rw[HRr.out,hfk];rfl
     have hwm:IntKind.i64.wrap ((q:Int) - 1)=(q:Int) - 1:=IntWalk.i64_in _ ⟨by omega,by omega⟩
     clear hf HRr
     go_wp2_with fail
     go_roundw
     case rel=>
      refine ⟨?_,HBw.out⟩
      by_cases hq00:q=0
      ·exact .inl ⟨by simp[hq00],by unfold Hid;rw[He.out,hq00];rfl⟩
      ·obtain ⟨q',rfl⟩:∃ q',q=q'+1:=⟨q - 1,by omega⟩
       exact .inr ⟨q',by omega,by congr 1;omega,He⟩
     case measure=>simp[intOf]
theorem zFT (t:List Dir) (p:List ByteArray):-1≤findI t p∧findI t p<(t.length:Int):=by
 unfold findI
 rcases firstI_lt (fun d=>eqB d.path p) t with h|⟨j,h,hj,_⟩
 ·rw[h.1];omega
 ·rw[h];omega
theorem zFn (t:List Dir) (p:List ByteArray) (s:ByteArray):∀ q,-1≤zAl t p s q∧zAl t p s q<(t.length:Int):=by
 intro q
 induction q with
 | zero=>unfold zAl;omega
 | succ q ih=>
   unfold zAl
   cases decide (0≤findI t (p.take q++[s]))
   ·exact ih
   ·exact zFT _ _
theorem zC0 (t:List Dir) (i:Int) (s:ByteArray):-1≤lookI t i s∧lookI t i s<(t.length:Int):=by
 unfold lookI
 split
 ·cases nameB s
  ·show (-1:Int)≤-1∧(-1:Int)<t.length;omega
  ·exact zFn _ _ _ _
 ·omega
noncomputable def zMy (t:List Dir) (g:List Node) (q:Nat) (e:Nat):Bool:=
 match t[q]?,g[e]? with
 | some d,some x=>decide (d.pack.name=x.name)&&eqB d.pack.ver x.ver
 | _,_=>false
abbrev MSt:=List Int×List Nat
noncomputable def zID (t:List Dir) (g:List Node) (a:Nat) (s:MSt) (e:Edge):Option MSt:=
 if 0≤lookI t a e.label∧zMy t g (lookI t a e.label).toNat e.to.toNat=true then
  (if s.1[(lookI t a e.label).toNat]?=some (-1) then some (s.1.set (lookI t a e.label).toNat e.to,s.2++[(lookI t a e.label).toNat])
   else if s.1[(lookI t a e.label).toNat]?=some e.to then some s else none)
 else none
noncomputable def zEq (t:List Dir) (g:List Node) (a:Nat):List Edge→MSt→Option MSt
 | [],s=>some s
 | e::es,s=>match zID t g a s e with
   | none=>none
   | some s'=>zEq t g a es s'
noncomputable def map0 (n:Nat):MSt:=(0::List.replicate (n - 1) (-1),[0])
def freeN (m:List Int):Nat:=m.count (-1)
structure MInv (n:Nat) (gl:Nat) (s:MSt):Prop where
 len:s.1.length=n
 rng:∀ x∈s.1,-1≤x∧x<(gl:Int)
 rest:∀ r∈s.2,∃ x,s.1[r]?=some x∧0≤x
theorem zFz:∀ (m:List Int) (q:Nat) (v:Int),m[q]?=some (-1)→v≠-1→freeN (m.set q v)+1=freeN m:=by
 intro m
 induction m with
 | nil=>intro q v h _;simp at h
 | cons x m ih=>
   intro q v h hv
   cases q with
   | zero=>
     simp at h
     subst h
     unfold freeN
     rw[List.set_cons_zero,List.count_cons_self,List.count_cons_of_ne hv]
   | succ q=>
     simp at h
     have:=ih q v h hv
     unfold freeN at this ⊢
     rw[List.set_cons_succ,List.count_cons,List.count_cons]
     omega
theorem MInv.edge {n:Nat} {t:List Dir} {g:List Node} {a:Nat} {s s':MSt} {e:Edge} (h:MInv n g.length s) (he:edgeB g.length e=true) (hm:zID t g a s e=some s') :
  MInv n g.length s'∧freeN s'.1+s'.2.length=freeN s.1+s.2.length∧(∀ (r:Nat) (x:Int),s.1[r]?=some x→0≤x→s'.1[r]?=some x):=by
 unfold edgeB at he
 simp only[Bool.and_eq_true,decide_eq_true_eq] at he
 unfold zID at hm
 split at hm
 ·split at hm
  ·rename_i hc hf
   injection hm with hm
   subst hm
   have hkeep:∀ (r:Nat) (x:Int),s.1[r]?=some x→0≤x→(s.1.set (lookI t a e.label).toNat e.to)[r]?=some x:=fun r x hr hx=>by
    rw[List.getElem?_set_ne (by rintro rfl;rw[hf] at hr;injection hr with hr;omega)];exact hr
   refine ⟨⟨by simpa using h.len,fun x hx=>?_,fun r hr=>?_⟩,?_,hkeep⟩
   ·rcases List.mem_or_eq_of_mem_set hx with hx|rfl
    ·exact h.rng x hx
    ·omega
   ·rw[List.mem_append] at hr
    rcases hr with hr|hr
    ·obtain ⟨x,h1,h2⟩:=h.rest r hr
     exact ⟨x,hkeep r x h1 h2,h2⟩
    ·simp at hr
     subst hr
     refine ⟨e.to,?_,by omega⟩
     rw[List.getElem?_set_self (gS.1 hf).1]
   ·have:=zFz s.1 _ e.to hf (by omega)
    show freeN (s.1.set _ e.to)+(s.2++[_]).length=_
    rw[List.length_append,List.length_singleton]
    omega
  ·split at hm
   ·injection hm with hm
    subst hm
    exact ⟨h,rfl,fun _ _ h _=>h⟩
   ·cases hm
 ·cases hm
theorem MInv.edges {n:Nat} {t:List Dir} {g:List Node} {a:Nat}:∀ {es:List Edge} {s s':MSt},MInv n g.length s→es.all (edgeB g.length)=true→zEq t g a es s=some s' →
  MInv n g.length s'∧freeN s'.1+s'.2.length=freeN s.1+s.2.length∧(∀ (r:Nat) (x:Int),s.1[r]?=some x→0≤x→s'.1[r]?=some x):=by
 intro es
 induction es with
 | nil=>intro s s' h _ hm;rw[zEq] at hm;injection hm with hm;subst hm;exact ⟨h,rfl,fun _ _ h _=>h⟩
 | cons e es ih=>
   intro s s' h ha hm
   rw[List.all_cons,Bool.and_eq_true] at ha
   rw[zEq] at hm
   split at hm
   ·cases hm
   ·rename_i s1 hs1
    obtain ⟨h1,h2,h3⟩:=h.edge ha.1 hs1
    obtain ⟨h4,h5,h6⟩:=ih h1 ha.2 hm
    exact ⟨h4,by omega,fun r x hr hx=>h6 r x (h3 r x hr hx) hx⟩
theorem MInv.start {n gl:Nat} (hn:0<n) (hg:0<gl):MInv n gl (map0 n)∧freeN (map0 n).1+(map0 n).2.length=n:=by
 refine ⟨⟨by simp[map0];omega,fun x hx=>?_,fun r hr=>?_⟩,?_⟩
 ·simp[map0] at hx
  rcases hx with rfl|⟨_,rfl⟩<;>omega
 ·simp[map0] at hr
  subst hr
  exact ⟨0,rfl,Int.le_refl _⟩
 ·simp[map0,freeN]
  omega
theorem zGU (q:Dir→Bool):∀ (t:List Dir) (k j:Nat),zAp q t k=(j:Int)→∃ i,∃ h:i<t.length,j=k+i∧q t[i]=true:=by
 intro t
 induction t with
 | nil=>intro k j h;rw[zAp] at h;omega
 | cons d t ih=>
   intro k j h
   rw[zAp] at h
   cases hq:q d
   ·rw[hq] at h
    obtain ⟨i,hi,e,hqi⟩:=ih (k+1) j h
    exact ⟨i+1,by simpa using hi,by omega,by simpa using hqi⟩
   ·rw[hq] at h
    refine ⟨0,by simp,?_,by simpa using hq⟩
    have:(k:Int)=(j:Int):=h
    omega
theorem zFf {t:List Dir} {p:List ByteArray} {j:Nat} (h:findI t p=(j:Int)):∃ hj:j<t.length,t[j].path=p:=by
 unfold findI zCn at h
 obtain ⟨i,hi,e,hq⟩:=zGU _ t 0 j h
 obtain rfl:i=j:=by omega
 refine ⟨hi,?_⟩
 by_cases e:t[i].path=p
 ·exact e
 ·rw[zAF e] at hq;cases hq
theorem zED {t:List Dir} {p:List ByteArray} (h:findI t p<0) {d:Dir} (hd:d∈t):d.path≠p:=by
 intro e
 unfold findI at h
 rcases firstI_lt (fun d=>eqB d.path p) t with h'|⟨j,h',_⟩
 ·have:=List.any_eq_false.1 h'.2 d hd
  rw[zAI e] at this
  exact this rfl
 ·omega
end Go.Proofs.YtminjjdnmpaaoaaGreatDoor
namespace Go.Proofs.YtminjjdnmpaaoaaGreatDoor
open Go
noncomputable def zEa (n:Node) (x:Pack):Bool:=(n.name.toList==[])&&(zeroV n.ver&&(decide (n.ctx.length=0)&&eqB x zAC))
noncomputable def zDs (n:Node) (x:Pack):Bool:=packB x&&(decide (x.name=n.name)&&eqB x.ver n.ver)
noncomputable def headP (i:Nat) (n:Node) (x:Pack):Bool:=if i=0 then zEa n x else zDs n x
noncomputable def edgeP (g:List Node) (e:Edge):Bool:=decide (1≤e.to)&&(decide (e.to<(g.length:Int))&&match g[e.to.toNat]? with|some y=>decide (y.name=e.label)|none=>false)
def zA5:List Edge→ByteArray→Option Nat
 | [],_=>none
 | e::l,s=>if e.label=s then some 0 else (zA5 l s).map (·+1)
noncomputable def pinP (g:List Node) (es:List Edge) (q:Pin):Bool:=match zA5 es q.name with
 | none=>false
 | some k=>match es[k]? with
   | none=>false
   | some e=>match g[e.to.toNat]? with
     | none=>false
     | some y=>eqB y.ver q.ver
noncomputable def formP (g:List Node) (i:Nat) (n:Node) (x:Pack):Bool:=
 headP i n x&&((zAS none (zAb n.ctx)&&zAS none (zAE n.edges))&&(n.edges.all (edgeP g)&&n.ctx.all (pinP g n.edges)))
noncomputable def zB5 (g:List Node):Nat→List Node→List Pack→Bool
 | i,n::l,x::m=>formP g i n x&&zB5 g (i+1) l m
 | _,[],[]=>true
 | _,_,_=>false
noncomputable def mayPl (g:List Node) (ps:List Pack):Bool:=decide (1≤g.length)&&(decide (g.length≤128)&&(decide (ps.length=g.length)&&zB5 g 0 g ps))
theorem zG5 (g:List Node):∀ {l:List Node} {m:List Pack} {i:Nat},zB5 g i l m=true→∀ (j:Nat) (n:Node),l[j]?=some n→∃ x,m[j]?=some x∧formP g (i+j) n x=true
 | [],_,_,_,j,n,h=>by cases h
 | a::l,[],i,hf,j,n,h=>by simp[zB5] at hf
 | a::l,b::m,i,hf,0,n,h=>by
   rw[zB5,Bool.and_eq_true] at hf
   cases h
   exact ⟨b,rfl,hf.1⟩
 | a::l,b::m,i,hf,j+1,n,h=>by
   rw[zB5,Bool.and_eq_true] at hf
   obtain ⟨x,hx,hx2⟩:=zG5 g hf.2 j n h
   exact ⟨x,hx,by rwa [show i+(j+1)=i+1+j from by omega]⟩
theorem zH7 (g:List Node) {l:List Node} {m:List Pack} {k:Nat} {n:Node} {x:Pack} (hl:l[k]?=some n) (hm:m[k]?=some x):zB5 g k (l.drop k) (m.drop k)=(formP g k n x&&zB5 g (k+1) (l.drop (k+1)) (m.drop (k+1))):=by
 obtain ⟨h1,e1⟩:=gS.1 hl
 obtain ⟨h2,e2⟩:=gS.1 hm
 rw[dC h1,dC h2,e1,e2,zB5]
theorem zIf (g:List Node) {l:List Node} {m:List Pack} {k:Nat} (h1:l.length≤k) (h2:m.length≤k):zB5 g k (l.drop k) (m.drop k)=true:=by
 rw[dN h1,dN h2]
 rfl
structure Stl where
 frm:Nat
 label:ByteArray
 dst:Nat
abbrev PlSt:=List Dir×List Stl
def dirZ0:Dir:=⟨[],⟨⟨#[]⟩,⟨0,0,0⟩,[],[],[]⟩,0⟩
def dirAt (T:List Dir) (i:Nat):Dir:=T.getD i dirZ0
def zAm (T:List Dir) (i:Nat):List ByteArray:=(dirAt T i).path
noncomputable def zCB (path above:List ByteArray):Bool:=decide (above.length≤path.length)&&eqB (path.take above.length) above
def zBE (S:List Stl) (i:Nat) (s:ByteArray):Int:=match S with
 | []=>-1
 | x::l=>if x.frm=i∧x.label=s then (x.dst:Int) else zBE l i s
noncomputable def zBX (T:List Dir) (home:Nat) (s:ByteArray) (x:Stl):Bool:=decide (x.label=s)&&(zCB (zAm T x.frm) (zAm T home)&&decide ((zAm T x.dst).length≤(zAm T home).length))
noncomputable def zBq (T:List Dir) (S:List Stl) (home:Nat) (s:ByteArray):Bool:=S.any (zBX T home s)
noncomputable def zCC (old:Option (List Dir)) (inside:List ByteArray) (x:Pack):Bool:=match old with
 | none=>false
 | some o=>decide (0≤findI o inside)&&eqB (dirAt o (findI o inside).toNat).pack x
noncomputable def zDl (T:List Dir) (S:List Stl) (at_ from_:Nat) (q:Pin):Bool:=decide (0≤zBE S from_ q.name)&&decide (lookI T (at_:Int) q.name=zBE S from_ q.name)
noncomputable def seesB (g:List Node) (T:List Dir) (S:List Stl) (at_ from_:Nat):Bool:=match g[(dirAt T at_).node.toNat]? with
 | none=>false
 | some n=>n.ctx.all (zDl T S at_ from_)
noncomputable def zAw (T:List Dir) (S:List Stl) (old:Option (List Dir)) (path:List ByteArray) (s:ByteArray) (x:Pack):Nat→Int×Int→Int×Int
 | 0,st=>st
 | k+1,(best,liked)=>
   if 0≤findI T (path.take k++[s]) then (best,liked)
   else if zBq T S (findI T (path.take k)).toNat s=true then zAw T S old path s x k (best,liked)
   else zAw T S old path s x k (findI T (path.take k),if zCC old (path.take k++[s]) x=true then findI T (path.take k) else liked)
def pickI (r:Int×Int):Int:=if 0≤r.2 then r.2 else r.1
noncomputable def spotI (T:List Dir) (S:List Stl) (old:Option (List Dir)) (path:List ByteArray) (s:ByteArray) (x:Pack):Int:=pickI (zAw T S old path s x (path.length+1) (-1,-1))
structure PlIn where
 g:List Node
 ps:List Pack
 dirs:Int
 path:Int
 old:Option (List Dir)
def zAj (q:PlIn) (i:Nat):Pack:=q.ps.getD i ⟨⟨#[]⟩,⟨0,0,0⟩,[],[],[]⟩
def zAh (q:PlIn) (i:Nat):Node:=q.g.getD i ⟨⟨#[]⟩,⟨0,0,0⟩,[],[]⟩
noncomputable def putP (q:PlIn) (T:List Dir) (home node:Nat):Except Int (List Dir):=
 if q.path<((textB (zAm T home++[(zAj q node).name])).size:Int) then .error 40
 else if q.dirs≤(T.length:Int) - 1 then .error 41
 else .ok (T++[⟨zAm T home++[(zAj q node).name],zAj q node,(node:Int)⟩])
noncomputable def kindP (q:PlIn) (n:Node) (e:Edge):Nat:=if (n.ctx.any fun x=>decide (x.name=e.label))=true then 1 else if (zAh q e.to.toNat).ctx.length=0 then 2 else 3
noncomputable def zAs (q:PlIn) (st:PlSt) (at_:Nat) (kind:Nat) (e:Edge):Bool:=
 decide (0≤lookI st.1 (at_:Int) e.label)&&(decide ((dirAt st.1 (lookI st.1 (at_:Int) e.label).toNat).node=e.to)&&(decide (kind≠3)||seesB q.g st.1 st.2 (lookI st.1 (at_:Int) e.label).toNat at_))
noncomputable def homeP (q:PlIn) (st:PlSt) (at_:Nat) (kind:Nat) (e:Edge):Int:=
 if kind=2 then spotI st.1 st.2 q.old (zAm st.1 at_) e.label (zAj q e.to.toNat) else (at_:Int)
noncomputable def stepE (q:PlIn) (at_:Nat) (kind:Nat) (e:Edge) (st:PlSt):Except Int PlSt:=
 if zAs q st at_ kind e=true then .ok (st.1,st.2++[⟨at_,e.label,(lookI st.1 (at_:Int) e.label).toNat⟩])
 else if kind=1 then .error 33
 else match putP q st.1 (homeP q st at_ kind e).toNat e.to.toNat with
  | .error c=>.error c
  | .ok T=>.ok (T,st.2++[⟨at_,e.label,st.1.length⟩])
noncomputable def zAP (q:PlIn) (at_:Nat) (n:Node) (kind:Nat):List Edge→PlSt→Except Int PlSt
 | [],st=>.ok st
 | e::l,st=>if kindP q n e=kind then (match stepE q at_ kind e st with
    | .error c=>.error c
    | .ok st'=>zAP q at_ n kind l st') else zAP q at_ n kind l st
noncomputable def zAU (q:PlIn) (at_:Nat) (n:Node):List Nat→PlSt→Except Int PlSt
 | [],st=>.ok st
 | k::l,st=>match zAP q at_ n k n.edges st with
   | .error c=>.error c
   | .ok st'=>zAU q at_ n l st'
noncomputable def dirP (q:PlIn) (at_:Nat) (st:PlSt):Except Int PlSt:=zAU q at_ (zAh q (dirAt st.1 at_).node.toNat) [1,2,3] st
noncomputable def dirsP (q:PlIn):Nat→Nat→PlSt→Except Int PlSt
 | 0,_,st=>.ok st
 | f+1,at_,st=>if at_<st.1.length then (match dirP q at_ st with
    | .error c=>.error c
    | .ok st'=>dirsP q f (at_+1) st') else .ok st
noncomputable def zCf:Option (List Dir)→Bool
 | none=>false
 | some o=>decide (zCD o≠0)
noncomputable def zA4 (q:PlIn):Except Int PlSt:=
 if q.dirs<1∨256<q.dirs∨q.path<1∨1024<q.path then .error 1
 else if zCf q.old=true then .error 42
 else if mayPl q.g q.ps=false then .error 33
 else dirsP q 258 0 ([dirZ0],[])
