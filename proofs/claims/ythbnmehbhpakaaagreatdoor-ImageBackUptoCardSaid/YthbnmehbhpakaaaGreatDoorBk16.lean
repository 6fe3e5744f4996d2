/- The library's search for a text in a list (slices.Index); bounds of a text's lines; a list of lines, one line more. -/
import Derived.Test.YthbnmehbhpakaaaGreatDoorBk13
import Derived.Test.YthbnmehbhpakaaaGreatDoorBk01
import Derived.Test.YthbnmehbhpakaaaGreatDoorBk03
import Derived.WalkKit
import Derived.WalkSpells
import Derived.IntWalk
import Derived.Lib.Hide
import Derived.Test.YthbnmehbhpakaaaGreatDoorBk10
import Derived.Test.YthbnmehbhpakaaaGreatDoorBkC
import Derived.Test.YthbnmehbhpakaaaGreatDoorBk11
import Derived.Test.YthbnmehbhpakaaaGreatDoorBk09
import Derived.Test.YthbnmehbhpakaaaGreatDoorBk06
import Derived.Test.YthbnmehbhpakaaaGreatDoorBk12
import Derived.Test.YthbnmehbhpakaaaGreatDoorAl
set_option linter.all false
set_option maxHeartbeats 4000000
set_option maxRecDepth 100000
namespace Go.Proofs.YthbnmehbhpakaaaGreatDoor
open Go.Rows Go.RowKit Go.Shelf Go.Sort
def idxI (l:List ByteArray) (x:ByteArray):Int:=match idxGo l x with
 | none=>-1
 | some k=>(k:Int)
theorem zKd {l:List ByteArray} {x:ByteArray} {k:Nat} (hk:k<l.length) (h:l[k]=x):idxGo (l.drop k) x=some 0:=by
 rw[dC hk]
 unfold idxGo
 rw[if_pos (by rw[h])]
theorem zIr {l:List ByteArray} {x:ByteArray} {k:Nat} (hk:k<l.length) (h:l[k]≠x):idxGo (l.drop k) x=(idxGo (l.drop (k+1)) x).map (·+1):=by
 rw[dC hk]
 conv=>lhs;unfold idxGo
 rw[if_neg (fun e=>h (zAt e))]
theorem zMm:∀ {l:List ByteArray} {x:ByteArray} {k:Nat},idxGo l x=some k→k<l.length:=by
 intro l
 induction l with
 | nil=>intro x k h;cases h
 | cons y l ih=>
   intro x k h
   unfold idxGo at h
   split at h
   ·cases h;simp
   ·cases hg:idxGo l x with
    | none=>rw[hg] at h;cases h
    | some j=>
      rw[hg] at h
      simp only[Option.map_some,Option.some.injEq] at h
      have:=ih hg
      simp;omega
theorem zLe (A:Option Addr) (n c:Nat) (l:List ByteArray) (x:ByteArray) (w:World) (S:Nat→Prop) (hl:SlV rStr w S l (.slice A n c)) :
  Calls Tryz.prog 164 #[.slice A n c,.string x] w fun e w'=>e=.returned (.int .i64 (idxI l x))∧Below w.heap.size w w':=by
 have hnx:=hl.n_eq
 have hcc:=hl.cap_le
 unfold maxLen at hcc
 have hn63:n≤9223372036854775807:=by omega
 have Hnx:=cH hnx;clear hnx hcc
 obtain ⟨R,hR⟩:∃ R,R=idxI l x:=⟨_,rfl⟩
 have HR0:Hid (∀ k,idxGo l x=(idxGo (l.drop k) x).map (·+k)→∀ q,idxGo (l.drop k) x=q→R=match q with|none=>(-1:Int)|some j=>((j+k:Nat):Int)):=by
  intro k h q hq
  rw[hR]
  unfold idxI
  rw[h,hq]
  cases q<;>rfl
 rw[←hR]
 clear hR
 go_enter Tryz.func164,Tryz.ntmps164
 go_wp2_with fail
 go_loop [8] (fun i=>∃ k:Nat,k≤n∧i=.int .i64 k∧Hid (idxGo l x=(idxGo (l.drop k) x).map (·+k))) (fun i=>n - (intOf i).toNat)
 case atStart=>exact ⟨0,nZ _,rfl,by unfold Hid;simp⟩
 case round=>
  obtain ⟨k,hk,rfl,hidx⟩:=hrel
  by_cases hlt:k<n
  ·have hkx:k<l.length:=by have:=Hnx.out;omega
   obtain ⟨b,o,cs,rfl,hSb,hb1,hsp,hcell⟩:=hl.elem (gE hkx)
   obtain ⟨rfl,hsz⟩:=hsp
   have hc0:=hcell 0 _ rfl
   simp only[rStr,Nat.mul_one,Nat.add_zero] at hc0
   have hkn:(k:Int)<(n:Int):=by omega
   have hk0:(0:Int)≤(k:Int):=by omega
   have Hhit:=cH (fun h=>zKd (x:=x) hkx h)
   have Hmiss:=cH (fun h=>zIr (x:=x) hkx h)
   have Hr:=cH (fun q hq=>HR0.out k hidx.out q hq)
   clear hcell hsz HR0
   generalize l[k]=s at *
   by_cases he:s=x
   ·have hr:=Hr.out (some 0) (Hhit.out he)
    simp only[Nat.zero_add] at hr
    have hbe:=zBe he.symm
    subst hr
    have He:=cH he
    clear Hr Hhit Hmiss he hidx hl
    go_wp2_with fail
    go_ret
    exact ⟨rfl,bR _ _⟩
   ·have hbe:=zBD (Ne.symm he)
    have hnx:=Hmiss.out he
    have Hnext:Hid (idxGo l x=(idxGo (l.drop (k+1)) x).map (·+(k+1))):=by
     unfold Hid
     rw[hidx.out,hnx,Option.map_map]
     congr 1
     funext j
     simp;omega
    clear Hr Hhit Hmiss hnx he hidx hl
    go_wp2_with fail
    go_round
    case rel=>exact ⟨k+1,by omega,by go_num,Hnext⟩
    case measure=>simp[intOf];omega
  ·have hr:=HR0.out k hidx.out none (by rw[dN (by have:=Hnx.out;omega)];rfl)
   simp only at hr
   subst hr
   have hlt':¬(k:Int)<(n:Int):=by omega
   clear HR0 hidx hl
   go_wp2_with fail
   go_ret
   exact ⟨rfl,bR _ _⟩
theorem zOx:∀ (L:List (List UInt8)) (r:List (List (List UInt8))),zEj L=some r→r.length≤L.length∧∀ ws∈r,∃ l∈L,lineF l=some ws:=by
 intro L
 induction L with
 | nil=>intro r h;cases h
 | cons l L ih=>
   intro r h
   cases L with
   | nil=>
     unfold zEj at h
     split at h
     ·cases h;exact ⟨by simp,fun ws hw=>by cases hw⟩
     ·cases h
   | cons k L=>
     rw[zCz (by simp)] at h
     cases hf:lineF l with
     | none=>rw[hf] at h;cases h
     | some w=>
       rw[hf] at h
       simp only at h
       cases hg:zEj (k::L) with
       | none=>rw[hg] at h;cases h
       | some q=>
         rw[hg] at h
         simp only[Option.map_some,Option.some.injEq] at h
         subst h
         obtain ⟨h1,h2⟩:=ih q hg
         refine ⟨by simp at h1 ⊢;omega,fun ws hw=>?_⟩
         rcases List.mem_cons.1 hw with rfl|hw
         ·exact ⟨l,by simp,hf⟩
         ·obtain ⟨l',hl',e⟩:=h2 ws hw
          exact ⟨l',by simp[hl'],e⟩
theorem zKX (b:UInt8):∀ (s acc:List UInt8),∀ x∈splL b acc s,x.length≤acc.length+s.length:=by
 intro s
 induction s with
 | nil=>intro acc x hx;rw[splL] at hx;obtain rfl:=List.mem_singleton.1 hx;simp
 | cons c s ih=>
   intro acc x hx
   by_cases h:c=b
   ·subst h
    rw[zBO] at hx
    rcases List.mem_cons.1 hx with rfl|hx
    ·simp
    ·have:=ih [] x hx;simp at this ⊢;omega
   ·rw[zAu h] at hx
    have:=ih _ x hx;simp at this ⊢;omega
theorem zE3 {most:Nat} {t:ByteArray}:(scanQ most t).1.length≤most+1∧∀ ws∈(scanQ most t).1,ws≠[]∧ws.length≤most+1∧(joinS ws).size≤most:=by
 unfold scanQ
 split
 ·exact ⟨by simp,fun ws h=>by cases h⟩
 ·rename_i hz
  unfold zEC zCB
  cases hg:zEj (splL 10 [] t.data.toList) with
  | none=>exact ⟨by simp,fun ws h=>by cases h⟩
  | some r=>
    simp only[Option.map_some]
    obtain ⟨h1,h2⟩:=zOx _ _ hg
    have h3:=zMq 10 t.data.toList []
    have hsz:t.data.toList.length≤most:=by rw[←zAJ];omega
    refine ⟨by rw[List.length_map];omega,fun ws hw=>?_⟩
    obtain ⟨q,hq,rfl⟩:=List.mem_map.1 hw
    obtain ⟨l,hl,hf⟩:=h2 q hq
    unfold lineF at hf
    split at hf
    ·cases hf
     have h4:=zKX 10 t.data.toList [] l hl
     have h5:=zMq 32 l []
     simp only[List.length_nil,Nat.zero_add] at h4
     refine ⟨fun e=>?_,by rw[List.length_map];omega,?_⟩
     ·exact zGb 32 [] l (List.map_eq_nil_iff.1 e)
     ·have:=zGo (mkB l)
      rw[zGX] at this
      rw[this,zAJ,zGX]
      omega
    ·cases hf
def rm (n:Nat) (l:Nat→List Dep):List (List Dep):=(List.range n).map l
theorem zQa {n:Nat} (l:Nat→List Dep) {k:Nat} (h:k<n):(rm n l).getD k []=l k:=by
 unfold rm
 rw[List.getD_eq_getElem?_getD,List.getElem?_map,List.getElem?_range h];rfl
theorem zIR {order:List ByteArray} {n a:Nat} {l:Nat→List Dep} {w:List ByteArray} {ws:List (List ByteArray)} (h:idxGo (order.drop a) (w.headD ⟨#[]⟩)=none):listsE order (w::ws) (a,rm n l)=.error 22:=by
 rw[listsE]
 unfold zDF
 simp only[h]
theorem zKM {order:List ByteArray} {n a k:Nat} {l:Nat→List Dep} {w:List ByteArray} {ws:List (List ByteArray)} {e:Int} (h:idxGo (order.drop a) (w.headD ⟨#[]⟩)=some k) (hk:a+k<n) (hd:depE (zAY (l (a+k))) w=.error e):listsE order (w::ws) (a,rm n l)=.error e:=by
 rw[listsE]
 unfold zDF
 simp only[h,zQa l hk,hd]
theorem zTN {n k:Nat} (l:Nat→List Dep) (h:k<n) (x:List Dep):(rm n l).set k x=rm n (fun j=>if j=k then x else l j):=by
 unfold rm
 apply List.ext_getElem?
 intro i
 rw[List.getElem?_set,List.getElem?_map,List.getElem?_map,List.length_map,List.length_range]
 by_cases e:k=i
 ·subst e
  rw[if_pos rfl,if_pos h,List.getElem?_range h,Option.map_some,if_pos rfl]
 ·rw[if_neg e]
  by_cases hi:i<n
  ·rw[List.getElem?_range hi,Option.map_some,Option.map_some,if_neg (Ne.symm e)]
  ·rw[List.getElem?_eq_none (by simpa using hi)];rfl
theorem zMv {order:List ByteArray} {n a k:Nat} {l:Nat→List Dep} {w:List ByteArray} {ws:List (List ByteArray)} {d:Dep} (h:idxGo (order.drop a) (w.headD ⟨#[]⟩)=some k) (hk:a+k<n) (hd:depE (zAY (l (a+k))) w=.ok d) :
  listsE order (w::ws) (a,rm n l)=listsE order ws (a+k,rm n (fun j=>if j=a+k then l (a+k)++[d] else l j)):=by
 rw[listsE]
 unfold zDF
 simp only[h,zQa l hk,hd,zTN l hk]
theorem zQ0 {prev:Option ByteArray} {w:List ByteArray} {d:Dep} (h:depE prev w=.ok d):nameB d.name=true:=by
 unfold depE at h
 split at h
 ·split at h
  ·rename_i hc
   split at h
   ·cases h
    simp only[Bool.and_eq_true] at hc
    exact hc.1
   ·cases h
  ·cases h
 ·cases h
def Live (w:World) (b:Nat):Prop:=∃ cs t,w.heap[b]?=some (.cells cs t (0,0))
def Fresh (B:Nat) (w:World) (b:Nat):Prop:=B≤b∧Live w b
theorem zJR {w:World} {b:Nat} (h:Live w b):b<w.heap.size:=by
 obtain ⟨cs,t,h⟩:=h
 exact (aS.1 h).1
theorem zG9 {w w':World} {b:Nat} (h:Live w b) (hk:w'.heap[b]?=w.heap[b]?):Live w' b:=by unfold Live;rw[hk];exact h
theorem zNn {α:Type} {r:Rp α} {w w':World} {B B0:Nat} {l:List α} {v:Value} (h:SlV r w (Fresh B w) l v) (hB:B0≤B) (hk:∀ b,B≤b→b<w.heap.size→w'.heap[b]?=w.heap[b]?):SlV r w' (Fresh B0 w') l v:=
 (zAL r).mono h fun b hb hl=>⟨⟨nT hB hb.1,by unfold Live;rw[hk b hb.1 hl];exact hb.2⟩,hk b hb.1 hl⟩
theorem Own.slvF {α:Type} {r:Rp α} {w:World} {base:Nat} {e:TypeId} {v:Value} {l:List α} {S:Nat→Prop} (h:Own r w base e v l S) (hS:∀ b,S b→Fresh base w b):SlV r w (Fresh base w) l v:=by
 obtain ⟨h0,xs,h1,h2⟩:=h
 have h1':=h1
 rcases h1.2 with ⟨rfl,hn⟩|⟨g,cap,cur,rfl,hb,hg,hnc,hcm,hsz,htake⟩
 ·have:l=[]:=List.eq_nil_of_length_eq_zero hn
  subst this
  exact SlV.nil_ _ _ _
 ·refine ⟨some ⟨g,0,none⟩,cap,rfl,hnc,hcm,(fun h=>by cases h),fun _=>⟨g,0,rfl,⟨hb,cur,e,hg⟩,(aS.1 hg).1,fun i x hx=>?_⟩⟩
  obtain ⟨cs,hc,hcell⟩:=h2.get i x hx
  refine ⟨cs,r.mono hc fun b hb _=>⟨hS b hb,rfl⟩,fun j u hu=>?_⟩
  have h3:=h1'.cells (g:=g) rfl _ u (hcell j u hu)
  have hadd:∀ k,(⟨g,0,none⟩:Addr).add k=⟨g,k,none⟩:=fun k=>by unfold Addr.add;split<;>simp_all
  rw[hadd] at h3
  rw[Nat.zero_add]
  exact h3
def upd {α:Type} (f:Nat→α) (k:Nat) (x:α) (j:Nat):α:=if j=k then x else f j
theorem zLE {α:Type} (f:Nat→α) (k:Nat) (x:α):upd f k x k=x:=if_pos rfl
theorem zIM {α:Type} (f:Nat→α) {k j:Nat} (x:α) (h:j≠k):upd f k x j=f j:=if_neg h
def zAd (n B:Nat) (w:World) (v:Nat→Value) (l:Nat→List Dep) (S:Nat→Prop):Prop:=
 (∀ j,j<n→Own rDep w B 158 (v j) (l j) S)∧(∀ b,S b→Fresh B w b)∧(∀ i j g,i<n→j<n→i≠j→(v i).ownBlock=some g→(v j).ownBlock≠some g)
section
variable {n B:Nat} {w w':World} {v:Nat→Value} {l:Nat→List Dep} {S:Nat→Prop}
theorem zAd.nil (n B:Nat) (w:World):zAd n B w (fun _=>.slice none 0 0) (fun _=>[]) (fun _=>False):=
 ⟨fun _ _=>Own.nil_ _ _ _ _ (fun b hb=>hb.elim),fun b hb=>hb.elim,fun _ _ _ _ _ _ h=>by cases h⟩
theorem zAd.keep (h:zAd n B w v l S) (hb:Below w.heap.size w w'):zAd n B w' v l S:=
 ⟨fun j hj=>(h.1 j hj).keep hb,fun b hs=>⟨(h.2.1 b hs).1,zG9 (h.2.1 b hs).2 (hb.block b (zJR (h.2.1 b hs).2))⟩,h.2.2⟩
theorem zAd.at (h:zAd n B w v l S) {b:Nat} (hb:b<B) (hg:w.grownBy w' (some b)):zAd n B w' v l S:=by
 refine ⟨fun j hj=>(h.1 j hj).grown hg ?_ ?_,fun c hs=>⟨(h.2.1 c hs).1,zG9 (h.2.1 c hs).2 (hg.block c (zJR (h.2.1 c hs).2) ?_)⟩,h.2.2⟩
 ·cases hv:(v j).ownBlock with
  | none=>exact .inl rfl
  | some g=>exact .inr fun e=>by have:=((h.1 j hj).lt g hv).1;simp only[Option.some.injEq] at e;omega
 ·intro c hs e
  cases e
  have:=(h.2.1 b hs).1;omega
 ·intro e
  cases e
  have:=(h.2.1 b hs).1;omega
theorem zAd.more (h:zAd n B w v l S) (hb:Below w.heap.size w w') (hB:B≤w.heap.size):zAd n B w' v l (fun b=>S b∨Fresh w.heap.size w' b):=by
 have hk:=h.keep hb
 refine ⟨fun j hj=>(hk.1 j hj).more ?_ (fun b hs=>.inl hs),?_,h.2.2⟩
 ·rintro b (hs|hs)
  ·exact (hk.1 j hj).1 b hs
  ·exact ⟨zJR hs.2,fun e=>by have:=((h.1 j hj).lt b e).2;have:=hs.1;omega⟩
 ·rintro b (hs|hs)
  ·exact hk.2.1 b hs
  ·exact ⟨nT hB hs.1,hs.2⟩
theorem zAd.push {o:Obj} {k g m cap:Nat} {d:Dep} (h:zAd n B w v l S) (hk:k<n) (hown:Own rDep w' B 158 (.slice (some ⟨g,0,none⟩) m cap) (l k++[d]) S)
  (hg:(w.alloc o).grownBy w' (v k).ownBlock) (hat:(v k).ownBlock=some g∨g=w.heap.size+1):zAd n B w' (upd v k (.slice (some ⟨g,0,none⟩) m cap)) (upd l k (l k++[d])) S:=by
 have hS:∀ b,S b→some b≠(v k).ownBlock:=fun b hb=>Ne.symm ((h.1 k hk).1 b hb).2
 have hv:∀ j,j<n→j≠k→(v j).ownBlock≠some g:=fun j hj hne e=>by
  rcases hat with hat|hat
  ·exact h.2.2 j k g hj hk hne e hat
  ·have:=((h.1 j hj).lt g e).2;omega
 refine ⟨fun j hj=>?_,fun b hs=>?_,fun i j q hi hj hne hq=>?_⟩
 ·by_cases e:j=k
  ·subst e;rw[zLE,zLE];exact hown
  ·rw[zIM _ _ e,zIM _ _ e]
   refine ((h.1 j hj).alloc o).grown hg ?_ hS
   cases hvj:(v j).ownBlock with
   | none=>exact .inl rfl
   | some q=>exact .inr fun e'=>h.2.2 j k q hj hk e hvj e'.symm
 ·have hl:=zJR (h.2.1 b hs).2
  refine ⟨(h.2.1 b hs).1,zG9 (h.2.1 b hs).2 ?_⟩
  rw[hg.block b (by simp;omega) (hS b hs)]
  exact Below.heap_alloc w o b hl
 ·by_cases ei:i=k
  ·subst ei
   rw[zLE] at hq
   simp only[Value.ownBlock,Option.some.injEq] at hq
   subst hq
   rw[zIM _ _ (Ne.symm hne)]
   exact hv j hj (Ne.symm hne)
  ·rw[zIM _ _ ei] at hq
   by_cases ej:j=k
   ·subst ej
    rw[zLE]
    intro e
    simp only[Value.ownBlock,Option.some.injEq] at e
    subst e
    exact hv i hi ei hq
   ·rw[zIM _ _ ej]
    exact h.2.2 i j q hi hj hne hq
end
def zCT (hd:List Value) (n:Nat) (v:Nat→Value):Array Value:=(hd++(List.range n).map v).toArray
theorem zQ3 (hd:List Value) {n:Nat} (v:Nat→Value) {j:Nat} (h:j<n):(zCT hd n v)[hd.length+j]?=some (v j):=by
 unfold zCT
 rw[List.getElem?_toArray,List.getElem?_append_right (by omega),Nat.add_sub_cancel_left,List.getElem?_map,List.getElem?_range h]
 rfl
theorem zNp (hd:List Value) {n:Nat} (v:Nat→Value) {k:Nat} (h:k<n) (x:Value):(zCT hd n v).setIfInBounds (hd.length+k) x=zCT hd n (upd v k x):=by
 apply Array.ext'
 unfold zCT
 rw[Array.toList_setIfInBounds]
 show (hd++(List.range n).map v).set (hd.length+k) x=hd++(List.range n).map (upd v k x)
 rw[List.set_append,if_neg (by omega),Nat.add_sub_cancel_left]
 congr 1
 apply List.ext_getElem?
 intro i
 rw[List.getElem?_set,List.getElem?_map,List.getElem?_map,List.length_map,List.length_range]
 by_cases e:k=i
 ·subst e
  rw[if_pos rfl,if_pos h,List.getElem?_range h,Option.map_some,zLE]
 ·rw[if_neg e]
  by_cases hi:i<n
  ·rw[List.getElem?_range hi,Option.map_some,Option.map_some,zIM _ _ (Ne.symm e)]
  ·rw[List.getElem?_eq_none (by simpa using hi)];rfl
def zAs (P:Nat) (hd:List Value) (t:TypeId) (n:Nat) (w:World) (v:Nat→Value):Prop:=w.heap[P]?=some (.cells (zCT hd n v) t (0,0))
section
variable {P n:Nat} {hd:List Value} {t:TypeId} {w w':World} {v:Nat→Value}
theorem zAs.lt (h:zAs P hd t n w v):P<w.heap.size:=(aS.1 h).1
theorem zAs.cell (h:zAs P hd t n w v) {j:Nat} (hj:j<n):w.cell? ⟨P,hd.length+j,none⟩=some (v j):=by
 rw[cO w P _ _ t _ h,zQ3 hd v hj]
theorem zAs.free (h:zAs P hd t n w v) (o:Nat):w.frozen? ⟨P,o,none⟩=false:=by
 have h':w.heap[P]?=some (.cells (zCT hd n v) t (0,0)):=h
 simp[World.frozen?,h']
theorem zAs.keep (h:zAs P hd t n w v) (hb:Below w.heap.size w w'):zAs P hd t n w' v:=(hb.block P h.lt).trans h
theorem zAs.grown (h:zAs P hd t n w v) {row:Option Nat} (hg:w.grownBy w' row) (hne:some P≠row):zAs P hd t n w' v:=(hg.block P h.lt hne).trans h
theorem zAs.set (h:zAs P hd t n w v) {k:Nat} (hk:k<n) (x:Value):zAs P hd t n (w.setCell ⟨P,hd.length+k,none⟩ x) (upd v k x):=by
 have:=zAU (o:=hd.length+k) h x
 rw[zNp hd v hk] at this
 exact this
end
theorem zAs.head {P n:Nat} {hd:List Value} {t:TypeId} {w:World} {v:Nat→Value} (h:zAs P hd t n w v) {i:Nat} (hi:i<hd.length) (x:Value):zAs P (hd.set i x) t n (w.setCell ⟨P,i,none⟩ x) v:=by
 have h1:=zAU (o:=i) h x
 have e:(zCT hd n v).setIfInBounds i x=zCT (hd.set i x) n v:=by
  apply Array.ext'
  unfold zCT
  rw[Array.toList_setIfInBounds]
  show (hd++(List.range n).map v).set i x=hd.set i x++(List.range n).map v
  rw[List.set_append,if_pos hi]
 rw[e] at h1
 exact h1
theorem zAr (w:World) (b o:Nat) (u:Value):w.grownBy (w.setCell ⟨b,o,none⟩ u) (some b):=
 ⟨rfl,rfl,rfl,by simp,fun k _ hk=>Below.heap_setCell _ _ _ k (fun e=>hk (by rw[e]))⟩
theorem SlV.cut {α:Type} {r:Rp α} {w:World} {S:Nat→Prop} {l:List α} {A:Option Addr} {n c:Nat} (h:SlV r w S l (.slice A n c)) (k:Nat) (hk:k≤n) :
  SlV r w S (l.drop k) (.slice (if c=k then A else A.map (·.add (k * r.size))) (n - k) (c - k)):=by
 obtain ⟨A',c',h1,h2,h3,h4,h5⟩:=h
 simp only[List.cons.injEq,Value.slice.injEq,and_true] at h1
 obtain ⟨rfl,rfl,rfl⟩:=h1
 refine ⟨_,_,by rw[List.length_drop],by rw[List.length_drop];omega,by omega,fun he=>?_,fun hn=>?_⟩
 ·split at he
  ·have:=h4 he;omega
  ·rw[Option.map_eq_none_iff] at he
   have:=h4 he;omega
 ·rw[List.length_drop] at hn
  obtain ⟨b,o,rfl,hS,hb,hr⟩:=h5 (by omega)
  rw[if_neg (by omega)]
  refine ⟨b,o+k * r.size,by rw[Option.map_some,zCN],hS,hb,fun i x hx=>?_⟩
  rw[List.getElem?_drop] at hx
  obtain ⟨cs,g1,g2⟩:=hr _ x hx
  refine ⟨cs,g1,fun j u hu=>?_⟩
  have:=g2 j u hu
  rw[Nat.add_mul] at this
  rw[show o+k * r.size+i * r.size+j=o+(k * r.size+i * r.size)+j from by omega]
  exact this
theorem zDc {P:Program} {t e:TypeId} {z:Nat} (ht:P.underlying t=some (.slice (P.elem t))) (he:P.elem t=e) (hs:∀ w,(sizeOf e).run P w=.ok z w) (A:Option Addr) (n c k:Nat) (h:k≤n) (w:World) :
  (Instr.slice t (.slice A n c) (some (.int .i64 (k:Int))) none none).run P w=.ok (.slice (if c=k then A else A.map (·.add (k * z))) (n - k) (c - k)) w:=by
 subst he
 rw[run_slice_l w t A n c ht .i64 (k:Int) (by omega) (by omega),hs]
 simp[Result.andThen,sliced]
theorem zJF {P:Program} {t e:TypeId} (ht:P.underlying t=some (.slice (P.elem t))) (he:P.elem t=e) (hs:∀ w,(sizeOf e).run P w=.ok 1 w) (g n k:Nat) (h:k<n) (w:World) :
  (Instr.slice t (.slice (some ⟨g,0,none⟩) n n) (some (.int .i64 (k:Int))) none none).run P w=.ok (.slice (some ⟨g,k,none⟩) (n - k) (n - k)) w:=by
 rw[zDc ht he hs _ _ _ _ (by omega),if_neg (by omega),Option.map_some,zCN,Nat.mul_one,Nat.zero_add]
theorem zPx {t:ByteArray} {L:List (List ByteArray)} {en:Int} (h:scanQ 4096 t=(L,en)) (h0:en≠0):packQ t=(packZ,en):=by
 unfold packQ packE
 rw[h,if_pos h0]
theorem zOd {t:ByteArray} {L:List (List ByteArray)} (h:scanQ 4096 t=(L,0)) (h0:∀ a b c r,L≠[a,b,c]::r):packQ t=(packZ,22):=by
 unfold packQ packE
 rw[h,if_neg (by simp)]
 match L,h0 with
 | [],_=>rfl
 | []::_,_=>rfl
 | [_]::_,_=>rfl
 | [_,_]::_,_=>rfl
 | [a,b,c]::r,h0=>exact absurd rfl (h0 a b c r)
 | (_::_::_::_::_)::_,_=>rfl
theorem zOE {t a nm vs:ByteArray} {rest:List (List ByteArray)} (h:scanQ 4096 t=([a,nm,vs]::rest,0)) :
  (a≠packageW→packQ t=(packZ,22))∧(a=packageW→(nameB nm=false→packQ t=(packZ,23))∧(nameB nm=true→(zAS vs=none→packQ t=(packZ,20))∧(∀ v,zAS vs=some v →
    (∀ e,listsE zAy rest (0,rm 3 fun _=>[])=.error e→packQ t=(packZ,e)) ∧
    (∀ l,listsE zAy rest (0,rm 3 fun _=>[])=.ok (rm 3 l)→(packB ⟨nm,v,l 0,l 1,l 2⟩=false→packQ t=(packZ,24))∧(packB ⟨nm,v,l 0,l 1,l 2⟩=true→packQ t=(⟨nm,v,l 0,l 1,l 2⟩,0)))))):=by
 have hr:rm 3 (fun _=>[])=[[],[],[]]:=rfl
 unfold packQ packE
 rw[h,if_neg (by simp)]
 simp only
 refine ⟨fun ha=>?_,fun ha=>⟨fun hn=>?_,fun hn=>⟨fun hv=>?_,fun v hv=>⟨fun e he=>?_,fun l hl=>⟨fun hb=>?_,fun hb=>?_⟩⟩⟩⟩⟩
 ·rw[if_pos (fun e=>ha (zAt e))]
 all_goals rw[if_neg (by rw[ha];simp)]
 ·rw[if_pos hn]
 all_goals rw[if_neg (by rw[hn];decide),hv]
 all_goals simp only
 ·rw[hr] at he;rw[he]
 all_goals
  rw[hr] at hl
  rw[hl,show rm 3 l=[l 0,l 1,l 2] from rfl]
  simp only
 ·rw[if_neg (by rw[hb];decide)]
 ·rw[if_pos hb]
def PackO (w:World) (B:Nat) (p:Pack) (u:Value):Prop:=
 ∃ (v:Nat→Value) (l:Nat→List Dep) (S:Nat→Prop),u=.agg (zCT [.string p.name,.int .i64 p.ver.major,.int .i64 p.ver.minor,.int .i64 p.ver.patch] 3 v)∧p.name.size≤maxLen∧zAd 3 B w v l S∧l 0=p.deps∧l 1=p.peers∧l 2=p.opts
theorem PackO.zero (w:World) (B:Nat):PackO w B packZ (.agg #[.string ⟨#[]⟩,.int .i64 0,.int .i64 0,.int .i64 0,.slice none 0 0,.slice none 0 0,.slice none 0 0]):=
 ⟨_,_,_,rfl,by decide,zAd.nil 3 B w,rfl,rfl,rfl⟩
theorem PackO.packV {w:World} {B:Nat} {p:Pack} {u:Value} (h:PackO w B p u):PackV w (Fresh B w) p u:=by
 obtain ⟨v,l,S,rfl,hz,⟨h1,h2,h3⟩,e0,e1,e2⟩:=h
 have g0:=(h1 0 (by decide)).slvF h2
 have g1:=(h1 1 (by decide)).slvF h2
 have g2:=(h1 2 (by decide)).slvF h2
 obtain ⟨A0,c0,q0,_,_⟩:=g0.val
 obtain ⟨A1,c1,q1,_,_⟩:=g1.val
 obtain ⟨A2,c2,q2,_,_⟩:=g2.val
 rw[q0,e0] at g0
 rw[q1,e1] at g1
 rw[q2,e2] at g2
 refine ⟨A0,_,c0,A1,_,c1,A2,_,c2,?_,hz,g0,g1,g2⟩
 show Value.agg #[_,_,_,_,v 0,v 1,v 2]=_
 rw[q0,q1,q2,e0,e1,e2]
theorem PackO.keep {w w':World} {B:Nat} {p:Pack} {u:Value} (h:PackO w B p u) (hb:Below w.heap.size w w'):PackO w' B p u:=by
 obtain ⟨v,l,S,h1,h2,h3,h4⟩:=h
 exact ⟨v,l,S,h1,h2,h3.keep hb,h4⟩
theorem zAd.lower {n B B':Nat} {w:World} {v:Nat→Value} {l:Nat→List Dep} {S:Nat→Prop} (h:zAd n B w v l S) (hB:B'≤B):zAd n B' w v l S:=
 ⟨fun j hj=>(h.1 j hj).lower hB,fun b hb=>⟨nT hB (h.2.1 b hb).1,(h.2.1 b hb).2⟩,h.2.2⟩
theorem PackO.lower {w:World} {B B':Nat} {p:Pack} {u:Value} (h:PackO w B p u) (hB:B'≤B):PackO w B' p u:=by
 obtain ⟨v,l,S,h1,h2,h3,h4⟩:=h
 exact ⟨v,l,S,h1,h2,h3.lower hB,h4⟩
theorem zAC {P:Program} {fn:Func} {R:Ending→World→Prop} {ty:TypeId} {d:TypeDesc} {p q:Tmp} {a:Act} {W:World} {g:Nat} {cs:Array Value} {bv:Value} {t:TypeId} (hf:fn.results=#[.cell p ty,.tmp q]) (hd:a.defers=[]) (h2:a.tmps.getD p undef=.pointer (some ⟨g,0,none⟩)) (h3:a.tmps.getD q undef=bv)
  (hg:W.heap[g]?=some (.cells cs t (0,0))) (hu:P.underlying ty=some d) (hdd:(match d with|.struct _|.array _ _=>true|_=>false)=true) (hi:(P.info? ty).map (·.size)=some cs.size)
  (h:R (.returned (.tuple #[.agg cs,bv])) W):bodyPost P fn R Exit.ret a W:=
 bodyPost_ret (zCH hf a.tmps W g t cs (0,0) d h2 hg hu hdd hi) hd (by rw[h3];exact h)
theorem row7 {W:World} {b:Nat} {x0 x1 x2 x3 x4 x5 x6:Value} {t:TypeId} (h:W.heap[b]?=some (.cells #[x0,x1,x2,x3,x4,x5,x6] t (0,0))) :
  (W.cell? ⟨b,0,none⟩=some x0∧W.cell? ⟨b,1,none⟩=some x1∧W.cell? ⟨b,2,none⟩=some x2∧W.cell? ⟨b,3,none⟩=some x3∧W.cell? ⟨b,4,none⟩=some x4∧W.cell? ⟨b,5,none⟩=some x5∧W.cell? ⟨b,6,none⟩=some x6) ∧
  W.frozen? ⟨b,0,none⟩=false∧W.frozen? ⟨b,1,none⟩=false∧W.frozen? ⟨b,2,none⟩=false∧W.frozen? ⟨b,3,none⟩=false∧W.frozen? ⟨b,4,none⟩=false∧W.frozen? ⟨b,5,none⟩=false∧W.frozen? ⟨b,6,none⟩=false:=by
 refine ⟨⟨cO _ _ 0 _ _ _ h,cO _ _ 1 _ _ _ h,cO _ _ 2 _ _ _ h,cO _ _ 3 _ _ _ h,cO _ _ 4 _ _ _ h,cO _ _ 5 _ _ _ h,cO _ _ 6 _ _ _ h⟩,?_,?_,?_,?_,?_,?_,?_⟩<;>simp[World.frozen?,h]
theorem zAa {W:World} {b:Nat} {x0 x1 x2 x3 x4 x5 x6:Value} {t:TypeId} (h:W.heap[b]?=some (.cells #[x0,x1,x2,x3,x4,x5,x6] t (0,0))) (a0 a1 a2 a3 a4 a5 a6:Value) :
  (((((((W.setCell ⟨b,0,none⟩ a0).setCell ⟨b,1,none⟩ a1).setCell ⟨b,2,none⟩ a2).setCell ⟨b,3,none⟩ a3).setCell ⟨b,4,none⟩ a4).setCell ⟨b,5,none⟩ a5).setCell ⟨b,6,none⟩ a6).heap[b]?=some (.cells #[a0,a1,a2,a3,a4,a5,a6] t (0,0)):=by
 have h0:=zAU (o:=0) h a0
 rw[show (#[x0,x1,x2,x3,x4,x5,x6]:Array Value).setIfInBounds 0 a0=#[a0,x1,x2,x3,x4,x5,x6] from rfl] at h0
 have h1:=zAU (o:=1) h0 a1
 rw[show (#[a0,x1,x2,x3,x4,x5,x6]:Array Value).setIfInBounds 1 a1=#[a0,a1,x2,x3,x4,x5,x6] from rfl] at h1
 have h2:=zAU (o:=2) h1 a2
 rw[show (#[a0,a1,x2,x3,x4,x5,x6]:Array Value).setIfInBounds 2 a2=#[a0,a1,a2,x3,x4,x5,x6] from rfl] at h2
 have h3:=zAU (o:=3) h2 a3
 rw[show (#[a0,a1,a2,x3,x4,x5,x6]:Array Value).setIfInBounds 3 a3=#[a0,a1,a2,a3,x4,x5,x6] from rfl] at h3
 have h4:=zAU (o:=4) h3 a4
 rw[show (#[a0,a1,a2,a3,x4,x5,x6]:Array Value).setIfInBounds 4 a4=#[a0,a1,a2,a3,a4,x5,x6] from rfl] at h4
 have h5:=zAU (o:=5) h4 a5
 rw[show (#[a0,a1,a2,a3,a4,x5,x6]:Array Value).setIfInBounds 5 a5=#[a0,a1,a2,a3,a4,a5,x6] from rfl] at h5
 have h6:=zAU (o:=6) h5 a6
 rw[show (#[a0,a1,a2,a3,a4,a5,x6]:Array Value).setIfInBounds 6 a6=#[a0,a1,a2,a3,a4,a5,a6] from rfl] at h6
 exact h6
theorem zAV {W0 W:World} {B b:Nat} (h:Below B W0 W) (hb:B≤b) (a0 a1 a2 a3 a4 a5 a6:Value) :
  Below B W0 (((((((W.setCell ⟨b,0,none⟩ a0).setCell ⟨b,1,none⟩ a1).setCell ⟨b,2,none⟩ a2).setCell ⟨b,3,none⟩ a3).setCell ⟨b,4,none⟩ a4).setCell ⟨b,5,none⟩ a5).setCell ⟨b,6,none⟩ a6):=
 ((((((h.setCell hb a0).setCell hb a1).setCell hb a2).setCell hb a3).setCell hb a4).setCell hb a5).setCell hb a6
theorem SlV.at {α:Type} {r:Rp α} {w:World} {S:Nat→Prop} {l:List α} {A:Option Addr} {n c:Nat} (h:SlV r w S l (.slice A n c)) (h0:0<l.length):∃ b o,A=some ⟨b,o,none⟩∧S b∧b<w.heap.size:=by
 obtain ⟨b,o,cs,h1,h2,h3,_⟩:=h.elem (gE h0)
 exact ⟨b,o,h1,h2,h3⟩
theorem SlV.str {w:World} {S:Nat→Prop} {l:List ByteArray} {b o n c i:Nat} {x:ByteArray} (h:SlV rStr w S l (.slice (some ⟨b,o,none⟩) n c)) (hx:l[i]?=some x):w.cell? ⟨b,o+i,none⟩=some (.string x)∧x.size≤maxLen:=by
 obtain ⟨b',o',cs,h1,_,_,⟨rfl,hz⟩,hcell⟩:=h.elem hx
 injection h1 with h1
 injection h1 with hb ho _
 subst hb ho
 have:=hcell 0 _ rfl
 simp only[rStr,Nat.add_zero,Nat.mul_one] at this
 exact ⟨this,hz⟩
theorem SlV.row {α:Type} {r:Rp α} {w:World} {S:Nat→Prop} {l:List (List α)} {b o n c i:Nat} {x:List α} (h:SlV (zAL r) w S l (.slice (some ⟨b,o,none⟩) n c)) (hx:l[i]?=some x):∃ A c',w.cell? ⟨b,o+i,none⟩=some (.slice A x.length c')∧SlV r w S x (.slice A x.length c'):=by
 obtain ⟨b',o',cs,h1,_,_,hs,hcell⟩:=h.elem hx
 injection h1 with h1
 injection h1 with hb ho _
 subst hb ho
 obtain ⟨A,c',rfl,hs'⟩:=hs
 have:=hcell 0 _ rfl
 simp only[zAL,Nat.add_zero,Nat.mul_one] at this
 exact ⟨A,c',this,A,c',rfl,hs'⟩
theorem zRv {prev:Option ByteArray} {w:List ByteArray} {k:Int} (h:depE prev w=.error k):k≠0:=by
 unfold depE at h
 split at h
 ·split at h
  ·split at h
   ·cases h
   ·cases h;decide
  ·cases h;decide
 ·cases h;decide
theorem zNK {order:List ByteArray} {rest:List (List ByteArray)} {k:Nat} {st:Nat×List (List Dep)} {ws:List ByteArray} (h:rest[k]?=some ws):listsE order (rest.drop k) st=listsE order (ws::rest.drop (k+1)) st:=by
 obtain ⟨hk,e⟩:=gS.1 h
 rw[dC hk,e]
theorem zK8 {l:List ByteArray} {x:ByteArray} (h:idxGo l x=none):idxI l x=-1:=by unfold idxI;rw[h]
theorem zJ7 {l:List ByteArray} {x:ByteArray} {q:Nat} (h:idxGo l x=some q):idxI l x=(q:Int):=by unfold idxI;rw[h]
theorem zLj:Elt Tryz.prog 158 2 40:=Elt.mk' (z:=.agg #[.string ⟨#[]⟩,.slice none 0 0]) (by kernel_rfl) rfl (by decide)
theorem zAd.set7 {n B:Nat} {w:World} {v:Nat→Value} {l:Nat→List Dep} {S:Nat→Prop} (h:zAd n B w v l S) {b:Nat} (hb:b<B) (a0 a1 a2 a3 a4 a5 a6:Value) :
  zAd n B (((((((w.setCell ⟨b,0,none⟩ a0).setCell ⟨b,1,none⟩ a1).setCell ⟨b,2,none⟩ a2).setCell ⟨b,3,none⟩ a3).setCell ⟨b,4,none⟩ a4).setCell ⟨b,5,none⟩ a5).setCell ⟨b,6,none⟩ a6) v l S:=
 ((((((h.at hb (zAr _ _ _ _)).at hb (zAr _ _ _ _)).at hb (zAr _ _ _ _)).at hb (zAr _ _ _ _)).at hb (zAr _ _ _ _)).at hb (zAr _ _ _ _)).at hb (zAr _ _ _ _)
theorem zIV {n P k g m cap:Nat} {hd:List Value} {t:TypeId} {w8 wc w9:World} {v:Nat→Value} {l:Nat→List Dep} {S:Nat→Prop} {o:Obj} {d:Dep} (hP:P<w8.heap.size) (hIn:zAd n w8.heap.size wc v l S) (hAt:zAs P hd t n wc v) (hT:Turn (fun j=>j=P) w8 wc) (hk:k<n)
  (hown:Own rDep w9 w8.heap.size 158 (.slice (some ⟨g,0,none⟩) m cap) (l k++[d]) S) (hg:(wc.drew.alloc o).grownBy w9 (v k).ownBlock) (hat:(v k).ownBlock=some g∨g=wc.heap.size+1) :
  zAd n w8.heap.size (w9.setCell ⟨P,hd.length+k,none⟩ (.slice (some ⟨g,0,none⟩) m cap)) (upd v k (.slice (some ⟨g,0,none⟩) m cap)) (upd l k (l k++[d])) S ∧
  zAs P hd t n (w9.setCell ⟨P,hd.length+k,none⟩ (.slice (some ⟨g,0,none⟩) m cap)) (upd v k (.slice (some ⟨g,0,none⟩) m cap)) ∧
  Turn (fun j=>j=P) w8 (w9.setCell ⟨P,hd.length+k,none⟩ (.slice (some ⟨g,0,none⟩) m cap)):=by
 have hbd:Below wc.heap.size wc wc.drew:=(bR _ _).drew
 have hrow:∀ q,(v k).ownBlock=some q→w8.heap.size≤q:=fun q hq=>((hIn.1 k hk).lt q hq).1
 have hne:some P≠(v k).ownBlock:=fun e=>by have:=hrow P e.symm;omega
 refine ⟨((hIn.keep hbd).push hk hown hg hat).at hP (zAr _ _ _ _),(((hAt.keep hbd).keep ((bR _ _).alloc (nR _) o)).grown hg hne).set hk _,?_⟩
 have h1:Turn (fun j=>j=P) w8 (wc.drew.alloc o):=(hT.trans (Turn.of_below hbd)).trans (Turn.alloc _ _)
 have h2:Turn (fun j=>j=P) w8 w9:=h1.trans2 (Turn.grown (X:=fun q=>some q=(v k).ownBlock) hg (fun q hq=>hq.symm)) (fun q hq e=>by have:=hrow q e.symm;omega)
 exact h2.trans (Turn.grown (zAr _ _ _ _) (fun q hq=>by cases hq;rfl))
def cutL (s:List UInt8) (b k:Nat):List UInt8:=(s.take k).drop b
theorem zCy (s:List UInt8) (k:Nat):cutL s k k=[]:=by unfold cutL;rw[dN];rw[List.length_take];omega
theorem zJy {s:ByteArray} {b k:Nat} (hk:k≤s.size):s.extract b k=mkB (cutL s.data.toList b k):=by
 apply zBF
 rw[zGX]
 unfold cutL
 rw[show (s.extract b k).data.toList=(s.data.toList.take k).drop b from by
  simp[ByteArray.data_extract,Array.toList_extract,List.extract_eq_take_drop,List.drop_take]]
theorem zFD {s:ByteArray} {b k:Nat} (hb:b≤k) (hk:k<s.size):cutL s.data.toList b (k+1)=cutL s.data.toList b k++[s[k]]:=by
 have h':k<s.data.toList.length:=by rw[←zAJ];exact hk
 unfold cutL
 rw[List.take_succ_eq_append_getElem h',List.drop_append_of_le_length (by rw[List.length_take];omega)]
 have e:s.data.toList[k]=s[k]:=by
  have:=zF1 s k hk
  rw[dC h'] at this
  exact (List.cons.inj this).1
 rw[e]
theorem zRm:Elt Tryz.prog 53 1 24:=Elt.mk' (z:=.slice none 0 0) (by kernel_rfl) rfl (by decide)
def zDq (l:List (List (List UInt8))):List (List ByteArray):=l.map fun w=>w.map mkB
def DepR (prev:Option ByteArray) (ws:List ByteArray) (w:World) (e:Ending) (w':World):Prop:=
 Below w.heap.size w w'∧((∃ k,depE prev ws=.error k∧e=.returned (.tuple #[.agg #[.string ⟨#[]⟩,.slice none 0 0],.int .i64 k])) ∨
  (∃ d v,depE prev ws=.ok d∧e=.returned (.tuple #[.agg #[.string d.name,v],.int .i64 0])∧SlV rSpn w' (Fresh w.heap.size w') d.range v))
theorem zIp {prev:Option ByteArray} {ws:List ByteArray} (h:ws.length<3):depE prev ws=.error 22:=by
 match ws,h with
 | [],_=>rfl
 | [_],_=>rfl
 | [_,_],_=>rfl
theorem zHO (prev:Option ByteArray) (a nm r:ByteArray) (rest:List ByteArray):depE prev (a::nm::r::rest)=if (nameB nm&&behind prev nm)=true then (if (zBM (joinS (r::rest))).2=0∧(zBM (joinS (r::rest))).1≠[] then .ok ⟨nm,(zBM (joinS (r::rest))).1⟩ else .error 21) else .error 23:=rfl
theorem zJe {prev:Option ByteArray} {a nm r:ByteArray} {rest:List ByteArray} (h:(nameB nm&&behind prev nm)=false):depE prev (a::nm::r::rest)=.error 23:=by
 rw[zHO,if_neg (by rw[h];decide)]
theorem zQk {prev:Option ByteArray} {a nm r:ByteArray} {rest:List ByteArray} (h:(nameB nm&&behind prev nm)=true) (h2:(zBM (joinS (r::rest))).2≠0∨(zBM (joinS (r::rest))).1=[]):depE prev (a::nm::r::rest)=.error 21:=by
 rw[zHO,if_pos h,if_neg (by rintro ⟨q1,q2⟩;rcases h2 with h2|h2<;>contradiction)]
theorem zQS {prev:Option ByteArray} {a nm r:ByteArray} {rest:List ByteArray} (h:(nameB nm&&behind prev nm)=true) (h2:(zBM (joinS (r::rest))).2=0) (h3:(zBM (joinS (r::rest))).1≠[]):depE prev (a::nm::r::rest)=.ok ⟨nm,(zBM (joinS (r::rest))).1⟩:=by
 rw[zHO,if_pos h,if_pos ⟨h2,h3⟩]
theorem zBv (a:ByteArray) (l:List ByteArray):(joinS l).size≤(joinS (a::l)).size:=by
 rw[zAJ,zAJ]
 unfold joinS
 cases l with
 | nil=>simp[mkB,Lib.join]
 | cons b l=>
   show (Lib.join _ _).length≤(Lib.join _ _).length
   rw[List.map_cons (a:=a),List.map_cons,Lib.join_cons a.data.toList]
   simp only[Lib.joinTail,List.length_append,List.map_cons,List.flatten_cons,Lib.join_cons]
   omega
theorem zMi {l:List Dep} {k:Nat} (h:l.length=k+1):zAY l=some (l[k]'(by omega)).name:=by
 unfold zAY
 rw[List.getLast?_eq_getElem?,show l.length - 1=k from by omega,gE (by omega)]
 rfl
theorem zSd (ws:List ByteArray) (ds:List Dep) (A:Option Addr) (n c:Nat) (A2:Option Addr) (n2 c2:Nat) (w:World) (S T:Nat→Prop) (hv:Vok w) (hx:SlV rStr w S ws (.slice A n c)) (hy:SlV rDep w T ds (.slice A2 n2 c2)) (hz:(joinS ws).size≤1000000) (hn:ws.length≤1000000) :
  Calls Tryz.prog 165 #[.slice A n c,.slice A2 n2 c2] w (DepR (zAY ds) ws w):=by
 have hnx:=hx.n_eq
 have hnx2:=hy.n_eq
 have hcc:=hx.cap_le
 have hcc2:=hy.cap_le
 unfold maxLen at hcc hcc2
 by_cases h3:n<3
 ·have Hd:Hid (depE (zAY ds) ws=.error 22):=zIp (by omega)
  have hI:(n:Int)<3:=by omega
  clear hx hy hnx hnx2
  go_enter Tryz.func165,Tryz.ntmps165
  go_wp2_with fail
  refine zDs rfl rfl rfl rfl (heap_alloc_new w _) Tryz.underlying158 rfl (by kernel_rfl) ⟨bal (bR _ _) _,.inl ⟨_,Hd.out,rfl⟩⟩
 ·obtain ⟨a,nm,r,rest,rfl⟩:∃ a nm r rest,ws=a::nm::r::rest:=by
   match ws,hnx with
   | [],h=>simp at h;omega
   | [_],h=>simp at h;omega
   | [_,_],h=>simp at h;omega
   | a::nm::r::rest,_=>exact ⟨a,nm,r,rest,rfl⟩
  have hlen:n=rest.length+3:=by rw[hnx];rfl
  obtain ⟨bk,ok,cs,rfl,hSb,hbl,⟨rfl,hnz⟩,hcell⟩:=hx.elem (i:=1) (x:=nm) rfl
  have e1:=hcell 0 _ rfl
  simp only[rStr,Nat.add_zero,Nat.mul_one] at e1
  clear hcell
  have hjc:∀ (j:Nat) x,(r::rest)[j]?=some x→w.cell? ⟨bk,(ok+2)+j,none⟩=some (.string x):=fun j x hx'=>by
   obtain ⟨b,o,cs,hA,_,_,⟨rfl,_⟩,hcell⟩:=hx.elem (i:=j+2) (x:=x) hx'
   injection hA with hA
   injection hA with hb ho _
   subst hb ho
   have:=hcell 0 _ rfl
   simp only[rStr,Nat.add_zero,Nat.mul_one] at this
   rw[show ok+2+j=ok+(j+2) from by omega]
   exact this
  have hjz:(joinS (r::rest)).size≤1000000:=nT (nT (zBv nm _) (zBv a _)) hz
  have hrl:(r::rest).length=n - 2:=by rw[hlen];simp
  have HJ:Hid (∀ W,Below w.heap.size w W→Calls Tryz.prog 96 #[.slice (some ⟨bk,ok+2,none⟩) (n - 2) (c - 2),.string ⟨#[32]⟩] W fun e w'=>e=.returned (.string (joinS (r::rest)))∧Below W.heap.size W w'):=fun W hW=>by
   have:=Tryz.strings_Join bk (ok+2) (c - 2) (r::rest) ⟨#[32]⟩ W (fun j x hx'=>zAA hW (hjc j x hx') hbl) (lL hbl hW.size) (by rw[hrl];omega) (by rw[hrl];omega) (by
    have h1:=hjz
    rw[zAJ] at h1
    exact nT h1 (by decide))
   rw[hrl] at this
   exact this
  obtain ⟨pl,pe,hpq⟩:∃ pl pe,zBM (joinS (r::rest))=(pl,pe):=⟨_,_,rfl⟩
  have HP:Hid (∀ W,Below w.heap.size w W→Calls Tryz.prog 95 #[.string (joinS (r::rest))] W fun e w'=>∃ v,e=.returned (.tuple #[v,.int .i64 pe])∧Own rSpn w' W.heap.size 227 v pl (fun _=>False)∧Below W.heap.size W w'):=fun W hW=>by
   have:=zEm (joinS (r::rest)) W (hv.below hW) (by omega)
   rw[hpq] at this
   exact this
  have hcase:(nameB nm=false∧depE (zAY ds) (a::nm::r::rest)=.error 23)∨(nameB nm=true∧n2=0∧behind (zAY ds) nm=true) ∨
    (nameB nm=true∧∃ q:Nat,∃ bd od pn,n2=q+1∧A2=some ⟨bd,od,none⟩∧bd<w.heap.size∧w.cell? ⟨bd,od+q * 2,none⟩=some (.string pn)∧behind (zAY ds) nm=Op.bytesLess pn.toList nm.toList):=by
   cases h1:nameB nm
   ·exact .inl ⟨rfl,zJe (by rw[h1];rfl)⟩
   ·by_cases h2:n2=0
    ·refine .inr (.inl ⟨rfl,h2,?_⟩)
     rw[List.eq_nil_of_length_eq_zero (by omega:ds.length=0)];rfl
    ·refine .inr (.inr ⟨rfl,n2 - 1,?_⟩)
     obtain ⟨b',o',cs',hA',_,hbl',⟨s1,rfl,hnm',_⟩,hcell'⟩:=hy.elem (i:=n2 - 1) (gE (by omega))
     have e0:=hcell' 0 _ rfl
     simp only[rDep,Nat.add_zero] at e0
     exact ⟨b',o',_,by omega,hA',hbl',e0,by rw[zMi (k:=n2 - 1) (by omega)];rfl⟩
  have Hbad:=cH (fun h=>zJe (prev:=zAY ds) (a:=a) (nm:=nm) (r:=r) (rest:=rest) h)
  have Hno:Hid ((nameB nm&&behind (zAY ds) nm)=true→(pe≠0∨pl=[])→depE (zAY ds) (a::nm::r::rest)=.error 21):=fun h h2=>zQk h (by rw[hpq];exact h2)
  have Hok:Hid ((nameB nm&&behind (zAY ds) nm)=true→pe=0→pl≠[]→depE (zAY ds) (a::nm::r::rest)=.ok ⟨nm,pl⟩):=fun h h2 h3=>by
   have:=zQS (prev:=zAY ds) (a:=a) (nm:=nm) (r:=r) (rest:=rest) h (by rw[hpq];exact h2) (by rw[hpq];exact h3)
   rw[hpq] at this
   exact this
  clear hpq
  generalize joinS (r::rest)=JS at *
  obtain ⟨DE,hDE⟩:∃ DE,depE (zAY ds) (a::nm::r::rest)=DE:=⟨_,rfl⟩
  rw[hDE] at Hbad Hno Hok hcase
  have HDE:=cH hDE
  have HN:Hid (∀ W,Calls Tryz.prog 61 #[.string nm] W fun e w'=>e=.returned (.bool (nameB nm))∧Below W.heap.size W w'):=fun W=>zA2 nm hnz W
  have hn3:3≤n:=by omega
  have hc3:3≤c:=by have:=hcc.1;simp only[List.length_cons] at this;omega
  have hsl:∀ W,(Instr.slice 53 (.slice (some ⟨bk,ok,none⟩) n c) (some (.int .i64 2)) none none).run Tryz.prog W=.ok (.slice (some ⟨bk,ok+2,none⟩) (n - 2) (c - 2)) W:=fun W=>by
   have:=zDc (P:=Tryz.prog) (t:=53) (e:=9) (z:=1) Tryz.underlying53 (by kernel_rfl) (fun _=>by kernel_rfl) (some ⟨bk,ok,none⟩) n c 2 (by omega) W
   rw[if_neg (by omega),Option.map_some,zCN] at this
   exact this
  clear hcc
  have hn9:n≤1000000:=by rw[hnx];exact hn
  have hn29:n2≤9223372036854775807:=by omega
  clear hx hy hjc hrl hz hlen hn hjz hnx hnx2 hDE
  have hI:¬(n:Int)<3:=by omega
  have hn1:(1:Int)<(n:Int):=by omega
  go_enter Tryz.func165,Tryz.ntmps165
  go_wp2_with fail
  obtain ⟨w1,hw1⟩:∃ w1,w1=w.alloc (.cells #[.string ⟨#[]⟩,.slice none 0 0] 158):=⟨_,rfl⟩
  have hr1:w1.heap[w.heap.size]?=some (.cells #[.string ⟨#[]⟩,.slice none 0 0] 158 (0,0)):=by rw[hw1];exact heap_alloc_new w _
  have HB1:Hid (Below w.heap.size w w1):=by unfold Hid;rw[hw1];exact bal (bR _ _) _
  have hz1:w.heap.size<w1.heap.size:=(aS.1 hr1).1
  rw[←hw1]
  clear hw1
  have c1:=zAA HB1.out e1 hbl
  have HNq:=cH (qcall (w:=w1) (fun W _=>HN.out W))
  rcases hcase with ⟨h1,hd⟩|⟨h1,rfl,hbh⟩|⟨h1,q,bd,od,pn,rfl,rfl,hbd,hpc,hbh⟩
  ·rw[h1] at HNq
   have Hd:=cH hd;clear hd
   have Hr1:=cH hr1;clear hr1
   have Hz1:=cH hz1;clear hz1
   clear e1 HN h1 HJ HP Hbad Hno Hok hv
   have r_c1:=cR c1
   go_wp2_with fail
   refine wQ ?_
   repeat (go_big_quiet_step (first|(with_reducible exact HNq.out _ _)))
   refine wpQuiet_nil fun w2 B2=>?_
   have hr2:=(B2.block _ Hz1.out).trans Hr1.out
   obtain ⟨⟨d0,d1⟩,f0,f1⟩:=row2 hr2
   have Hr2:=cH hr2
   have HB2:=cH (bot HB1.out B2)
   clear hr2 B2 Hr1 HB1
   go_wp2_with fail
   refine zDs rfl rfl rfl rfl (zBY Hr2.out _ _) Tryz.underlying158 rfl (by kernel_rfl) ⟨?_,.inl ⟨_,HDE.out.trans Hd.out,rfl⟩⟩
   exact (HB2.out.setCell (nR _) _).setCell (nR _) _
  rotate_left
  focus
   have hlw:IntKind.i64.wrap (((q+1:Nat):Int) - 1)=(q:Int):=(IntWalk.i64_in _ ⟨by omega,by omega⟩).trans (by omega)
   have hlw2:IntKind.i64.wrap ((q:Int)+1 - 1)=(q:Int):=(IntWalk.i64_in _ ⟨by omega,by omega⟩).trans (by omega)
   have hq0:(0:Int)≤(q:Int):=by omega
   have hq1:(0:Int)<(q:Int)+1:=by omega
   have hq3:(q:Int)<(q:Int)+1:=by omega
   have c2:=zAA HB1.out hpc hbd
   rw[h1] at HNq
   have hb':=hbh
   cases hls:Op.bytesLess pn.toList nm.toList
   ·have hd:=Hbad.out (by rw[h1,hbh,hls];rfl)
    have Hd:=cH hd;clear hd
    have Hr1:=cH hr1;clear hr1
    have Hz1:=cH hz1;clear hz1
    clear e1 HN h1 HJ HP Hbad Hno Hok hv hb' hbh hpc
    have r_c1:=cR c1
    have r_c2:=cR c2
    go_wp2_with fail
    refine wQ ?_
    repeat (go_big_quiet_step (first|(with_reducible exact HNq.out _ _)))
    refine wpQuiet_nil fun w2 B2=>?_
    have hr2:=(B2.block _ Hz1.out).trans Hr1.out
    obtain ⟨⟨d0,d1⟩,f0,f1⟩:=row2 hr2
    have Hr2:=cH hr2
    have HB2:=cH (bot HB1.out B2)
    clear hr2 B2 Hr1 HB1
    go_wp2_with fail
    refine zDs rfl rfl rfl rfl (zBY Hr2.out _ _) Tryz.underlying158 rfl (by kernel_rfl) ⟨?_,.inl ⟨_,HDE.out.trans Hd.out,rfl⟩⟩
    exact (HB2.out.setCell (nR _) _).setCell (nR _) _
   focus
    have hg:(nameB nm&&behind (zAY ds) nm)=true:=by rw[h1,hbh,hls];rfl
    have Hno':=cH (Hno.out hg)
    have Hok':=cH (Hok.out hg)
    have Hr1:=cH hr1;clear hr1
    have Hz1:=cH hz1;clear hz1
    clear HN h1 Hbad hb' hbh hpc Hno Hok hg
    have r_c1:=cR c1
    have r_c2:=cR c2
    go_wp2_with fail
    refine wQ ?_
    repeat (go_big_quiet_step (first|(with_reducible exact HNq.out _ _)))
    refine wpQuiet_nil fun w2 B2=>?_
    clear r_c1 r_c2 c1 c2 hlw hlw2 hq0 hq1 hq3
  rotate_left
  focus
   have hg:(nameB nm&&behind (zAY ds) nm)=true:=by rw[h1,hbh];rfl
   rw[h1] at HNq
   have Hno':=cH (Hno.out hg)
   have Hok':=cH (Hok.out hg)
   have Hr1:=cH hr1;clear hr1
   have Hz1:=cH hz1;clear hz1
   clear HN h1 Hbad hbh Hno Hok hg
   have r_c1:=cR c1
   go_wp2_with fail
   refine wQ ?_
   repeat (go_big_quiet_step (first|(with_reducible exact HNq.out _ _)))
   refine wpQuiet_nil fun w2 B2=>?_
   clear r_c1 c1
  all_goals
   have hr2:=(B2.block _ Hz1.out).trans Hr1.out
   have HB2:=cH (bot HB1.out B2)
   have hz2:=lL Hz1.out B2.size
   have Hr2:=cH hr2
   have Hz2:=cH hz2
   clear B2 Hr1 HB1 Hz1 hr2 hz2 HNq
   go_wp2_with fail
   refine (HJ.out w2 HB2.out).mono ?_
   rintro e w3 ⟨rfl,hb3⟩
   have HB3:=cH (bot HB2.out hb3)
   have Hr3:=cH ((hb3.block _ Hz2.out).trans Hr2.out)
   have Hz3:=cH (lL Hz2.out hb3.size)
   clear hb3 HB2 Hr2 Hz2 HJ
   go_wp2_with fail
   refine (HP.out w3 HB3.out).mono ?_
   rintro e w4 ⟨v4,rfl,ho4,hb4⟩
   have HB4:=cH (bot HB3.out hb4)
   have hr4:=(hb4.block _ Hz3.out).trans Hr3.out
   obtain ⟨⟨d0,d1⟩,f0,f1⟩:=row2 hr4
   have Hr4:=cH hr4
   have hs4:=ho4.slvF (fun b hb=>hb.elim)
   obtain ⟨A4,c4,rfl,hcl4,hcm4⟩:=hs4.val
   have Hs4:=cH hs4
   have e4:=zAA HB4.out e1 hbl
   clear hb4 ho4 hs4 HB3 Hr3 HP hr4 e1
   unfold maxLen at hcm4
   by_cases hpe:pe=0
   case neg=>
    have hd:=Hno'.out (.inl hpe)
    subst hd
    have hbe:(pe != 0)=true:=by simpa using hpe
    clear hpe Hno' Hok' Hs4 Hz3
    go_wp2_with fail
    refine zDs rfl rfl rfl rfl (zBY Hr4.out _ _) Tryz.underlying158 rfl (by kernel_rfl) ⟨?_,.inl ⟨_,HDE.out,rfl⟩⟩
    exact (HB4.out.setCell (nR _) _).setCell (nR _) _
   by_cases hpl:pl=[]
   ·have hd:=Hno'.out (.inr hpl)
    subst hd hpe hpl
    clear Hno' Hok' Hs4 Hz3
    go_wp2_with fail
    refine zDs rfl rfl rfl rfl (zBY Hr4.out _ _) Tryz.underlying158 rfl (by kernel_rfl) ⟨?_,.inl ⟨_,HDE.out,rfl⟩⟩
    exact (HB4.out.setCell (nR _) _).setCell (nR _) _
   ·have hd:=Hok'.out hpe hpl
    subst hd hpe
    have hnl:0<pl.length:=List.length_pos_iff.2 hpl
    obtain ⟨m4,hm4⟩:∃ m,m=pl.length:=⟨_,rfl⟩
    rw[←hm4] at Hs4 hcl4 hnl ⊢
    have hml:((m4:Int)==0)=false:=by rw[beq_eq_false_iff_ne];omega
    clear hpl Hno' Hok' hm4 hnl
    go_wp2_with fail
    refine zDs rfl rfl rfl rfl (zBY Hr4.out _ _) Tryz.underlying158 rfl (by kernel_rfl) ⟨?_,.inr ⟨⟨nm,pl⟩,_,HDE.out,rfl,?_⟩⟩
    ·exact (HB4.out.setCell (nR _) _).setCell (nR _) _
    ·refine zNn Hs4.out (Nat.le_of_lt Hz3.out) fun b hb hl=>?_
     have hne:b≠w.heap.size:=by have:=Hz3.out;omega
     exact (Below.heap_setCell _ _ _ b hne).trans (Below.heap_setCell _ _ _ b hne)
