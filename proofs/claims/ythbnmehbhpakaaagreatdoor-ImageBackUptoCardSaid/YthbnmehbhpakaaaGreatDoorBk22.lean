/- What stands at a path, told by membership: lists of files whose paths are apart (plain). -/
import Derived.Test.YthbnmehbhpakaaaGreatDoorBk21
import Derived.Lib.BufferMore
import Derived.Test.YthbnmehbhpakaaaGreatDoorBk14
import Derived.Test.YthbnmehbhpakaaaGreatDoorBk10
import Derived.Test.YthbnmehbhpakaaaGreatDoorBk15
import Derived.Test.YthbnmehbhpakaaaGreatDoorBk19
import Derived.Test.YthbnmehbhpakaaaGreatDoorBk16
import Derived.Test.YthbnmehbhpakaaaGreatDoorBk06
import Derived.Test.YthbnmehbhpakaaaGreatDoorAl
set_option linter.all false
set_option maxHeartbeats 8000000
set_option maxRecDepth 100000
namespace Go.Proofs.YthbnmehbhpakaaaGreatDoor
open Go.Rows Go.RowKit Go.Shelf
def zAm (l:List File):List ByteArray:=l.map (·.path)
theorem zF8 (f:File) (t:List File) (p:ByteArray):zAK (f::t) p=if f.path=p then some f else zAK t p:=by
 unfold zAK
 rw[findF]
 by_cases h:f.path=p
 ·rw[if_pos h,if_pos h];rfl
 ·rw[if_neg h,if_neg h]
  cases findF t p with
  | none=>rfl
  | some k=>simp
theorem zAw:∀ {l:List File} {p:ByteArray} {f:File},(zAm l).Nodup→(zAK l p=some f↔f∈l∧f.path=p)
 | [],p,f,_=>by
   constructor
   ·intro h;cases h
   ·rintro ⟨h,_⟩;cases h
 | g::t,p,f,hn=>by
   rw[zF8]
   have hn':g.path∉zAm t∧(zAm t).Nodup:=List.nodup_cons.1 hn
   by_cases h:g.path=p
   ·rw[if_pos h]
    constructor
    ·intro e;cases e;exact ⟨by simp,h⟩
    ·rintro ⟨hm,hp⟩
     rcases List.mem_cons.1 hm with e|e
     ·rw[e]
     ·exact absurd (List.mem_map.2 ⟨f,e,hp.trans h.symm⟩) hn'.1
   ·rw[if_neg h,zAw hn'.2]
    constructor
    ·rintro ⟨hm,hp⟩;exact ⟨List.mem_cons_of_mem _ hm,hp⟩
    ·rintro ⟨hm,hp⟩
     rcases List.mem_cons.1 hm with e|e
     ·rw[e] at hp;exact absurd hp h
     ·exact ⟨e,hp⟩
theorem zK5 {l L:List File} (hn:(zAm l).Nodup) (hp:List.Perm L l) (p:ByteArray):zAK L p=zAK l p:=by
 have hN:(zAm L).Nodup:=by
  have h:=hp.map File.path
  exact h.nodup_iff.2 hn
 cases h:zAK l p with
 | some f=>
   have:=(zAw hn).1 h
   exact (zAw hN).2 ⟨hp.mem_iff.2 this.1,this.2⟩
 | none=>
   cases h':zAK L p with
   | none=>rfl
   | some f=>
     have:=(zAw hN).1 h'
     rw[(zAw hn).2 ⟨hp.mem_iff.1 this.1,this.2⟩] at h
     cases h
theorem zNo {l L:List File} (hn:(zAm l).Nodup) (hp:List.Perm L l) (p:ByteArray):kindF L p=kindF l p:=by
 by_cases h:p=zA4
 ·rw[zEZ h,zEZ h]
 ·rw[zGT h,zGT h,zK5 hn hp]
def okF (pre:List File) (f:File):Bool:=!(zAK pre f.path).isSome&&zAZ f.path&&!(f.dir&&!(f.data.toList==[]))
def goodL:List File→List File→Bool
 | _,[]=>true
 | pre,f::t=>okF pre f&&goodL (pre++[f]) t
def zGK (l:List File):Bool:=l.all fun f=>decide (kindF l (upS f.path)=2)
def loadB (l:List File):Bool:=goodL [] l&&zGK l
theorem zNa {l:List File} {k:Nat} {x:File} (hx:l[k]?=some x):goodL (l.take k) (l.drop k)=(okF (l.take k) x&&goodL (l.take (k+1)) (l.drop (k+1))):=by
 obtain ⟨hk,e⟩:=gS.1 hx
 rw[dC hk,e,goodL,List.take_add_one,hx]
 rfl
theorem zOA {l:List File} {k:Nat} (hk:l.length≤k):goodL (l.take k) (l.drop k)=true:=by
 rw[dN hk];rfl
theorem zRe {pre:List File} {f:File} (h:zAZ f.path=false):okF pre f=false:=by
 unfold okF;rw[h];cases (zAK pre f.path).isSome<;>rfl
theorem zPs {pre:List File} {f:File} (h:(zAK pre f.path).isSome=true):okF pre f=false:=by
 unfold okF;rw[h];rfl
theorem zM8 {pre:List File} {f:File} (h:(zAK pre f.path).isSome=false) (h2:zAZ f.path=true) (h3:f.dir=false):okF pre f=true:=by
 unfold okF;rw[h,h2,h3];rfl
theorem zP7 {pre:List File} {f:File} (h:(zAK pre f.path).isSome=false) (h2:zAZ f.path=true) (h3:f.dir=true) (h4:(f.data.toList==[])=true):okF pre f=true:=by
 unfold okF;rw[h,h2,h3,h4];rfl
theorem zRu {pre:List File} {f:File} (h3:f.dir=true) (h4:(f.data.toList==[])=false):okF pre f=false:=by
 unfold okF;rw[h3,h4];cases (zAK pre f.path).isSome<;>cases zAZ f.path<;>rfl
theorem zCU {l:List File} {p:ByteArray}:(zAK l p).isSome=false↔p∉zAm l:=by
 induction l with
 | nil=>simp[zAK,findF,zAm]
 | cons f t ih=>
   rw[zF8]
   show _↔p∉f.path::zAm t
   by_cases h:f.path=p
   ·rw[if_pos h]
    simp[h]
   ·rw[if_neg h,ih]
    simp[List.mem_cons,fun e:p=f.path=>h e.symm,Ne.symm h]
theorem zHI {l:List File} {p:ByteArray} (h:(zAK l p).isSome=false):findF l p=none:=by
 cases hf:findF l p with
 | none=>rfl
 | some k=>
   obtain ⟨x,hx,_⟩:=zEU hf
   unfold zAK at h
   rw[hf] at h
   simp[hx] at h
theorem zNU {l:List File} (h:∀ p∈zAm l,kindF l (upS p)=2):zGK l=true:=
 List.all_eq_true.2 fun f hf=>decide_eq_true (h f.path (List.mem_map.2 ⟨f,hf,rfl⟩))
theorem zQm {l:List File} {p:ByteArray} (hp:p∈zAm l) (h:kindF l (upS p)≠2):zGK l=false:=by
 obtain ⟨f,hf,rfl⟩:=List.mem_map.1 hp
 refine List.all_eq_false.2 ⟨f,hf,?_⟩
 simp[h]
theorem zSj (s:ByteArray):(upS s).size≤s.size+1:=by
 unfold upS
 split
 ·show 1≤_;omega
 ·rw[ByteArray.size_extract];omega
end Go.Proofs.YthbnmehbhpakaaaGreatDoor
namespace Go.Proofs.YthbnmehbhpakaaaGreatDoor
open Go.Rows Go.RowKit Go.Shelf Go.Maps
theorem zLh (w:World):Calls Tryz.prog 57 #[] w fun e w'=>e=.returned (.pointer (some ⟨w.heap.size+1,0,none⟩))∧w'=(w.alloc (.map #[] 0)).alloc (.cells #[.map (some w.heap.size),.slice none 0 0,.int .i64 (-1)] 115):=by
 have hmm:=@run_makeMap Tryz.prog
 go_enter Tryz.func57,Tryz.ntmps57
 go_wp2_with fail
 go_ret
 exact ⟨rfl,rfl⟩
end Go.Proofs.YthbnmehbhpakaaaGreatDoor
namespace Go.Proofs.YthbnmehbhpakaaaGreatDoor
open Go.Rows Go.RowKit Go.Shelf
theorem zFe:Elt Tryz.prog 45 3 40:=Elt.mk' (z:=.agg #[.string ByteArray.empty,.bool false,.string ByteArray.empty]) (by kernel_rfl) rfl (by decide)
end Go.Proofs.YthbnmehbhpakaaaGreatDoor
namespace Go.Proofs.YthbnmehbhpakaaaGreatDoor
open Go.Rows Go.RowKit Go.Shelf Go.Sort
theorem zKR:∀ a b:List UInt8,(Lib.compareBytes a b<0↔a<b)∧(Lib.compareBytes a b=0↔a=b)
 | [],[]=>by simp[Lib.compareBytes]
 | [],_::_=>by simp[Lib.compareBytes]
 | _::_,[]=>by simp[Lib.compareBytes]
 | x::a,y::b=>by
   have ih:=zKR a b
   rw[Lib.compareBytes,List.cons_lt_cons_iff,List.cons.injEq]
   by_cases h1:x<y
   ·have hne:x≠y:=fun e=>by subst e;exact UInt8.lt_irrefl x h1
    simp[h1,hne]
   ·by_cases h2:y<x
    ·have hne:x≠y:=fun e=>by subst e;exact UInt8.lt_irrefl x h2
     simp[h1,h2,hne]
    ·have he:x=y:=UInt8.le_antisymm (UInt8.not_lt.1 h2) (UInt8.not_lt.1 h1)
     simp[h1,h2,he,ih.1,ih.2]
abbrev Rf:={ x:File // x.path.size≤maxLen∧x.data.size≤maxLen}
instance:Inhabited Rf:=⟨⟨⟨⟨#[]⟩,false,⟨#[]⟩⟩,by decide,by decide⟩⟩
def encRf (x:Rf):List Value:=[.string x.1.path,.bool x.1.dir,.string x.1.data]
def cfRf (x y:Rf):Int:=Lib.compareBytes x.1.path.data.toList y.1.path.data.toList
theorem ltRf (x y:Rf):ltOf cfRf x y=decide (x.1.path.data.toList<y.1.path.data.toList):=by
 unfold ltOf cfRf
 exact decide_eq_decide.2 (zKR _ _).1
theorem swoRf:SWO (ltOf cfRf) where
 irrefl x:=by rw[ltRf];simp
 trans x y z h1 h2:=by rw[ltRf] at *;simp at *;exact List.lt_trans h1 h2
 ntrans x y z h1 h2:=by
  rw[ltRf] at *
  simp only[decide_eq_false_iff_not] at *
  exact List.not_lt.2 (List.le_trans (List.not_lt.1 h2) (List.not_lt.1 h1))
theorem zQE (a b:ByteArray) (p q:Bool) (s t:ByteArray) (W:World):Calls Tryz.prog 29 #[.agg #[.string a,.bool p,.string s],.agg #[.string b,.bool q,.string t]] W fun e w'=>e=.returned (.int .i64 (Lib.compareBytes a.data.toList b.data.toList))∧∃ o o',w'=(W.alloc o).alloc o':=by
 go_enter Tryz.func29,Tryz.ntmps29
 go_wp2_with fail
 refine (Tryz.strings_Compare a b _).mono ?_
 rintro e w' ⟨rfl,rfl⟩
 go_wp2_with fail
 go_ret
 exact ⟨rfl,_,_,rfl⟩
theorem zNv (x y:Rf) (W:World):Calls Tryz.prog 29 #[.agg #[.string x.1.path,.bool x.1.dir,.string x.1.data],.agg #[.string y.1.path,.bool y.1.dir,.string y.1.data]] W fun e w'=>e=.returned (.int .i64 (cfRf x y))∧∃ q os',w'=grow (W.drewN q) os':=
 (zQE _ _ _ _ _ _ W).mono (by
   rintro e w' ⟨h,o,o',rfl⟩
   exact ⟨h,0,_,by rw[alloc_eq_grow,alloc_eq_grow,grow_grow];rfl⟩)
theorem zN3 {w:World} {base:Nat} {g cap:Nat} {l:List File} {S:Nat→Prop} (h:Own rFile w base 45 (.slice (some ⟨g,0,none⟩) l.length cap) l S):∃ L:List Rf,L.length=l.length∧L.map (fun x=>x.1)=l∧HoldsK encRf 3 w g 0 L.toArray:=by
 have key:∀ i (hi:i<l.length),∃ x:Rf,x.1=l[i]∧w.cell? ⟨g,i * 3,none⟩=some (.string x.1.path)∧w.cell? ⟨g,i * 3+1,none⟩=some (.bool x.1.dir)∧w.cell? ⟨g,i * 3+2,none⟩=some (.string x.1.data):=fun i hi=>by
  obtain ⟨b,o,cs,he,_,_,⟨rfl,hz1,hz2⟩,hcell⟩:=h.slv.elem (i:=i) (x:=l[i]) (gE hi)
  simp only[Option.some.injEq,Addr.mk.injEq] at he
  obtain ⟨rfl,rfl,_⟩:=he
  have c0:=hcell 0 _ rfl
  have c1:=hcell 1 _ rfl
  have c2:=hcell 2 _ rfl
  simp only[rFile,Nat.zero_add,Nat.add_zero] at c0 c1 c2
  exact ⟨⟨l[i],hz1,hz2⟩,rfl,c0,c1,c2⟩
 have hfr:∀ o,w.frozen? ⟨g,o,none⟩=false:=fun o=>by
  obtain ⟨_,xs,⟨_,q⟩,_⟩:=h
  rcases q with ⟨q,_⟩|⟨g',cap',cur,q,_,hg,_⟩
  ·cases q
  ·simp only[Value.slice.injEq,Option.some.injEq,Addr.mk.injEq] at q
   obtain ⟨⟨rfl,_⟩,_⟩:=q
   simp[World.frozen?,hg]
 obtain ⟨f,hf⟩:∃ f:Nat→Rf,∀ i (hi:i<l.length),(f i).1=l[i]∧w.cell? ⟨g,i * 3,none⟩=some (.string (f i).1.path)∧w.cell? ⟨g,i * 3+1,none⟩=some (.bool (f i).1.dir)∧w.cell? ⟨g,i * 3+2,none⟩=some (.string (f i).1.data):=by
  refine ⟨fun i=>if hi:i<l.length then (key i hi).choose else default,fun i hi=>?_⟩
  simp only[dif_pos hi]
  exact (key i hi).choose_spec
 refine ⟨(List.range l.length).map f,by simp,?_,?_⟩
 ·apply List.ext_getElem
  ·simp
  ·intro i h1 h2
   simp only[List.length_map,List.length_range] at h1
   simp only[List.getElem_map,List.getElem_range]
   exact (hf i h1).1
 ·intro t ht
  rw[size_flatK,List.size_toArray,List.length_map,List.length_range] at ht
  have hi:t / 3<l.length:=by omega
  have hiL:t / 3<((List.range l.length).map f).toArray.size:=by simpa using hi
  rw[get_flatK _ _ _ _ (by rw[List.size_toArray,List.length_map,List.length_range];exact ht),getElem!_pos _ (t / 3) hiL]
  have hx:((List.range l.length).map f).toArray[t / 3]=f (t / 3):=by simp
  rw[hx]
  obtain ⟨_,q0,q1,q2⟩:=hf (t / 3) hi
  refine ⟨?_,hfr _⟩
  have h2:t % 3=0∨t % 3=1∨t % 3=2:=by omega
  rcases h2 with h2|h2|h2
  ·rw[h2,show 0+t=t / 3 * 3 from by omega];exact q0
  ·rw[h2,show 0+t=t / 3 * 3+1 from by omega];exact q1
  ·rw[h2,show 0+t=t / 3 * 3+2 from by omega];exact q2
theorem zNX {w:World} {g cap:Nat} {L:List Rf} {S:Nat→Prop} (h:HoldsK encRf 3 w g 0 L.toArray) (hS:S g) (hlt:g<w.heap.size) (hc:L.length≤cap) (hm:cap≤maxLen):SlV rFile w S (L.map fun x=>x.1) (.slice (some ⟨g,0,none⟩) L.length cap):=by
 refine ⟨some ⟨g,0,none⟩,cap,by rw[List.length_map],by rw[List.length_map];exact hc,hm,(fun e=>by cases e),fun _=>⟨g,0,rfl,hS,hlt,fun i x hx=>?_⟩⟩
 rw[List.getElem?_map] at hx
 obtain ⟨y,hy,rfl⟩:=Option.map_eq_some_iff.1 hx
 obtain ⟨hi,hy⟩:=gS.1 hy
 refine ⟨[.string y.1.path,.bool y.1.dir,.string y.1.data],⟨rfl,y.2.1,y.2.2⟩,fun j u hu=>?_⟩
 have hj:j<3:=by have:=(gS.1 hu).1;simpa using this
 have:=(h.cell (i:=i) (c:=j) (by rw[List.size_toArray];exact hi) hj).1
 simp only[rFile] at this ⊢
 rw[this,getElem!_pos L.toArray i (by rw[List.size_toArray];exact hi)]
 have hl:L.toArray[i]'(by rw[List.size_toArray];exact hi)=y:=by rw[←hy];rfl
 rw[hl,←hu]
 have h2:j=0∨j=1∨j=2:=by omega
 rcases h2 with rfl|rfl|rfl<;>rfl
theorem zGD (v:Value) (l:List File) (w:World) (base:Nat) (hown:Own rFile w base 45 v l (fun _=>False)) (hm:l.length≤1000000) (hpos:0<l.length) (hn:(l.map (·.path)).Nodup) :
  Calls Tryz.prog 28 #[v,.func (.func 29) #[] #[]] w fun e w'=>e=.returned (.tuple #[])∧SlV rFile w' (fun b=>base≤b) (sortS l) v∧(base≤w.heap.size→Below base w w'):=by
 obtain ⟨A,cap,rfl,hcap,hmx⟩:=hown.slv.val
 obtain ⟨g,o,cs,he,_,hlt,_,_⟩:=hown.slv.elem (gE hpos)
 have hform:∃ cap',(Value.slice A l.length cap)=.slice (some ⟨g,0,none⟩) l.length cap'∧base≤g:=by
  obtain ⟨_,xs,⟨_,q⟩,_⟩:=hown
  rcases q with ⟨_,q⟩|⟨g',cap',cur,q,hbg,_⟩
  ·omega
  ·simp only[Value.slice.injEq] at q
   rw[he] at q
   simp only[Option.some.injEq,Addr.mk.injEq] at q
   obtain ⟨⟨rfl,rfl,_⟩,_,rfl⟩:=q
   exact ⟨cap,by rw[he],hbg⟩
 obtain ⟨cap',hv,hbg⟩:=hform
 rw[hv] at hown ⊢
 have hcap2:l.length≤cap'∧cap'≤maxLen:=by
  simp only[Value.slice.injEq] at hv
  omega
 obtain ⟨L,hLl,hLn,hH⟩:=zN3 hown
 rw[←hLl] at hcap2 hm ⊢
 have hcon:=AnyQ.slices_SortFunc Tryz.sortFile 3 Tryz.isAgg45 Tryz.sizeOf45 encRf (fun _=>rfl) (fun x u hu=>by simp[encRf] at hu;rcases hu with rfl|rfl|rfl<;>rfl) cfRf swoRf 29 #[] g 0 cap' L.toArray w (zA9 Tryz.func29 (by kernel_rfl) rfl)
  (fun _ _ _ _ x y=>zNv x y _) hH hlt (by rw[List.size_toArray];omega)
 rw[List.size_toArray] at hcon
 refine hcon.mono ?_
 rintro e w' ⟨rfl,d',n,os,hp,hs,rfl⟩
 obtain ⟨hp1',_,hp3⟩:=hp
 have hp1:d'.size=L.length:=hp1'.trans (List.size_toArray ..)
 clear hp1'
 have hd:d'.toList.length=L.length:=by rw[Array.length_toList,hp1]
 have hperm:d'.toList.Perm L:=by
  have h1:(d'.extract 0 L.length).toList=d'.toList:=by rw[←hp1,Array.extract_size]
  have h2:(L.toArray.extract 0 L.length).toList=L:=by
   have:=Array.extract_size (xs:=L.toArray)
   rw[List.size_toArray] at this
   rw[this]
  rw[h1,h2] at hp3
  exact hp3
 have hH':HoldsK encRf 3 (sortWorldK encRf 3 w g 0 n d' os) g 0 d'.toList.toArray:=by
  rw[Array.toArray_toList]
  exact holdsK_grow encRf 3 _ os g 0 d' (by show g<(putRow id (Sort.ahead w n) g 0 _).heap.size;rw[size_putRow];exact hlt) (holdsK_putRowK encRf 3 (Sort.ahead w n) g 0 L.toArray d' (holdsK_ahead encRf 3 w n g 0 _ hH) (by rw[hp1,List.size_toArray]))
 have hgr:w.grownBy (sortWorldK encRf 3 w g 0 n d' os) (some g):=zCX w g 0 n (flatK encRf 3 d') os
 have hfin:d'.toList.map (fun x=>x.1)=sortS l:=by
  refine zGa hn ?_ ?_
  ·rw[←hLn];exact hperm.map _
  ·rw[List.pairwise_map]
   refine List.pairwise_iff_getElem.2 fun i j hi hj hij=>?_
   have:=hs i j (nZ _) hij (by omega)
   rw[ltRf,getElem!_pos d' j (by simpa using hj),getElem!_pos d' i (by simpa using hi)] at this
   unfold upF
   rw[zCg]
   simpa using this
 refine ⟨rfl,?_,fun hbw=>(bR _ _).grown hgr hbw (fun k hk=>by cases hk;exact hbg)⟩
 have:=zNX (S:=fun b=>base≤b) (cap:=cap') hH' hbg (lL hlt hgr.size) (by rw[hd];exact hcap2.1) hcap2.2
 rw[hd,hfin] at this
 exact this
theorem cat4 (a b c d e:ByteArray) (h:a.size+b.size+c.size+d.size+e.size≤maxLen):(∀ W:World,(Op.stringOp .add a b).run Tryz.prog W=.ok (.string (a++b)) W)∧(∀ W:World,(Op.stringOp .add (a++b) c).run Tryz.prog W=.ok (.string (a++b++c)) W) ∧
  (∀ W:World,(Op.stringOp .add (a++b++c) d).run Tryz.prog W=.ok (.string (a++b++c++d)) W)∧(∀ W:World,(Op.stringOp .add (a++b++c++d) e).run Tryz.prog W=.ok (.string (a++b++c++d++e)) W):=by
 unfold maxLen at h
 refine ⟨fun W=>run_string_add_sum W _ _ ?_,fun W=>run_string_add_sum W _ _ ?_,fun W=>run_string_add_sum W _ _ ?_,fun W=>run_string_add_sum W _ _ ?_⟩
 all_goals first|omega|(simp only[ByteArray.size_append];omega)
theorem zI6 (A:Option Addr) (n c:Nat) (l:List Node) (w:World) (S:Nat→Prop) (ht:Tab w) (hl:SlV rNode w S l (.slice A n c)) (hz:zMl l) :
  Calls Tryz.prog 22 #[.agg #[.slice A n c]] w fun e w'=>e=.returned (.tuple #[.string (lockP l).1,.int .i64 (lockP l).2])∧Below w.heap.size w w':=by
 have hn:=hl.n_eq
 have hcn:=hl.cap_le
 unfold maxLen at hcn
 have HL:=cH hl
 have Hn:=cH hn
 have Hz:=cH hz
 have Ht:=cH ht
 have hnz:n≤1048576:=by have:=hz.1;omega
 have HM:Hid (∀ W,Below w.heap.size w W→Calls Tryz.prog 69 #[.agg #[.slice A n c]] W fun e w'=>e=.returned (.bool (lockB l))∧Below W.heap.size W w'):=fun W hW=>zHP A n c l W S (hl.belowSize hW) hz
 have HNo:Hid (lockB l=false→lockP l=(⟨#[]⟩,33)):=fun h=>by unfold lockP;rw[if_neg (by rw[h];decide)]
 have HYes:Hid (lockB l=true→lockP l=(zAo l,0)):=fun h=>by unfold lockP;rw[if_pos h]
 have HZ:Hid (lockB l=true→n≤128∧∀ x∈l,NodeZ x):=fun h=>by have:=zEr h;exact ⟨by omega,this.2⟩
 have HT:Hid (zAo l=lockW++zBQ 0 l):=rfl
 clear hl hn hz ht
 generalize lockP l=R at *
 obtain ⟨w0,hw0⟩:∃ w0,w0=w.alloc (.cells #[.slice A n c] 27):=⟨_,rfl⟩
 have HB0:Hid (Below w.heap.size w w0):=by unfold Hid;rw[hw0];exact bal (bR _ _) _
 have HQ0:Hid (w0.heap[w.heap.size]?=some (.cells #[.slice A n c] 27 (0,0))):=by unfold Hid;rw[hw0];exact zAT _ _
 have hq0:w.heap.size<w0.heap.size:=(aS.1 HQ0.out).1
 go_enter Tryz.func22,Tryz.ntmps22
 go_wp2_with fail
 rw[←hw0]
 refine (HM.out w0 HB0.out).mono ?_
 rintro e w1 ⟨rfl,hb1⟩
 have HB1:=cH (bot HB0.out hb1)
 have hq1:w.heap.size<w1.heap.size:=lL hq0 hb1.size
 have HQ1:Hid (w1.heap[w.heap.size]?=some (.cells #[.slice A n c] 27 (0,0))):=(hb1.block _ hq0).trans HQ0.out
 clear hb1 hw0 HM HQ0 HB0 hq0
 cases hlb:lockB l with
 | false=>
   have hR:=HNo.out hlb
   subst hR
   clear HNo HYes
   go_wp2_with fail
   go_ret2
   exact ⟨rfl,HB1.out⟩
 | true=>
 have hR:=HYes.out hlb
 subst hR
 obtain ⟨hn128,hzz⟩:=HZ.out hlb
 have HZZ:=cH hzz
 clear HNo HYes HZ hzz hlb
 obtain ⟨TX,hTX⟩:∃ TX,TX=zAo l:=⟨_,rfl⟩
 rw[←hTX] at HT
 have HTX:=cH hTX
 clear hTX
 go_upto_region 4 with (fail)
 have HIs:Hid (IsB w1.heap.size w1.heap.size (Lib.strCells ⟨#[]⟩) (w1.alloc (.cells #[.pointer none,.slice none 0 0] 122))):=Lib.fresh_isBuilder _ _ _
 obtain ⟨w2,hw2⟩:∃ w2,w2=w1.alloc (.cells #[.pointer none,.slice none 0 0] 122):=⟨_,rfl⟩
 have HB2:Hid (Below w1.heap.size w1 w2):=by unfold Hid;rw[hw2];exact bal (bR _ _) _
 rw[←hw2] at HIs
 rw[←hw2]
 have hz12:w1.heap.size<w2.heap.size:=by rw[hw2];simp
 clear hw2
 go_wp2_with fail
 refine (zAx _ _ _ lockW _ HIs.out (by simp[Lib.strCells];decide) HB2.out.size).mono ?_
 rintro e w3 ⟨rfl,hI3,hb3,_⟩
 have HI3:Hid (IsB w1.heap.size w1.heap.size (Lib.strCells (lockW++zBQ 0 (l.take 0))) w3):=by
  unfold Hid
  rw[show lockW++zBQ 0 (l.take 0)=lockW from zBh lockW]
  exact hI3
 have HB3:=cH (HB2.out.trans hb3)
 have hz3:w1.heap.size<w3.heap.size:=lL hz12 hb3.size
 have p0:w3.cell? ⟨w.heap.size,0,none⟩=some (.slice A n c):=zAA HB3.out (cO _ _ 0 _ _ _ HQ1.out) hq1
 clear hI3 hb3 HIs HB2 hz12
 go_wp2_with fail
 clear p0
 go_loopw [18] (fun i wr=>∃ k:Nat,k≤n∧i=.int .i64 k∧Hid (IsB w1.heap.size w1.heap.size (Lib.strCells (lockW++zBQ 0 (l.take k))) wr)∧Hid (Below w1.heap.size w1 wr)∧w1.heap.size<wr.heap.size) (fun i _=>n - (intOf i).toNat)
 case atStart=>exact ⟨0,nZ _,rfl,HI3,HB3,hz3⟩
 case round=>
  clear HI3 HB3 hz3
  obtain ⟨k,hk,rfl,HI,HB,hzr⟩:=hrel
  have hk0:(0:Int)≤(k:Int):=by omega
  by_cases hlt:k<n
  case neg=>
   obtain rfl:k=n:=by omega
   have hI:¬(k:Int)<(k:Int):=by omega
   have HI':Hid (IsB w1.heap.size w1.heap.size (Lib.byteCells TX.data.toList) wr):=by
    unfold Hid
    rw[←Lib.strCells_eq,HT.out]
    have:=HI.out
    rwa [List.take_of_length_le (by rw[←Hn.out];exact nR _)] at this
   clear HI
   go_wp2_with fail
   refine (Tryz.Builder_String_any _ _ _ _ HI'.out HB.out.size).mono ?_
   rintro e w6 ⟨rfl,hb6⟩
   go_wp2_with fail
   go_ret2
   exact ⟨by rw[←HTX.out];rfl,bot HB1.out (HB.out.trans hb6)⟩
  have hkI:(k:Int)<(n:Int):=by omega
  have hkl:k<l.length:=by rw[←Hn.out];exact hlt
  obtain ⟨x,hx⟩:∃ x,l[k]?=some x:=⟨_,gE hkl⟩
  obtain ⟨z1,z2,z3,z4,z5⟩:=HZZ.out x (mG hx)
  have HBw:=cH (bot HB1.out (HB.out.mono (nR _)))
  obtain ⟨b,o,pA,pn,pc,eA,en,ec,rfl,hb,hnm,hp,he,hpn,hen,c0,c1,c2,c3,c4,c5⟩:=zK9 HL.out hx
  have c0:=zAA HBw.out c0 hb
  have c1:=zAA HBw.out c1 hb
  have c2:=zAA HBw.out c2 hb
  have c3:=zAA HBw.out c3 hb
  have c4:=zAA HBw.out c4 hb
  have c5:=zAA HBw.out c5 hb
  have Htk:=cH (zL1 hx)
  have hzn:(zBQ 0 (l.take k)).size≤10280 * 128:=by
   have h1:=zKh (l:=l.take k) (fun y hy=>HZZ.out y (List.mem_of_mem_take hy)) 0
   rw[List.length_take] at h1
   omega
  have HT0:Hid (lockW++zBQ 0 (l.take (k+1))=lockW++zBQ 0 (l.take k)++nodeL k x++withs x.ctx++tos x.edges):=by
   unfold Hid
   rw[Htk.out]
   unfold nodeT
   apply ByteArray.ext
   simp[ByteArray.data_append]
  have hT0z:(lockW++zBQ 0 (l.take k)).size≤10280 * 128+5:=by rw[ByteArray.size_append];have:lockW.size=5:=rfl;omega
  have hvt:(verT x.ver).size≤11:=zBN _ _ _
  have HVP:Hid (∀ W,Below w.heap.size w W→Calls Tryz.prog 70 #[.agg #[.int .i64 x.ver.major,.int .i64 x.ver.minor,.int .i64 x.ver.patch]] W fun e w'=>e=.returned (.string (verT x.ver))∧Below W.heap.size W w'):=fun W hW=>zBy _ _ _ W (zAG Ht.out hW)
  have HCtx:Hid (∀ (q:Nat) (y:Pin),x.ctx[q]?=some y→y.name.size≤16):=fun q y hy=>z4 y (mG hy)
  have HEdg:Hid (∀ (q:Nat) (y:Edge),x.edges[q]?=some y→y.label.size≤16∧0≤y.to∧y.to≤999):=fun q y hy=>z5 y (mG hy)
  have HCz:Hid (∀ q,(withs (x.ctx.take q)).size≤5120):=fun q=>by
   have h1:=zNV (l:=x.ctx.take q) (fun y hy=>z4 y (List.mem_of_mem_take hy))
   rw[List.length_take] at h1
   omega
  have HEz:Hid (∀ q,(tos (x.edges.take q)).size≤5120):=fun q=>by
   have h1:=zSD (l:=x.edges.take q) (fun y hy=>z5 y (List.mem_of_mem_take hy))
   rw[List.length_take] at h1
   omega
  have hnlz:=zM6 (i:=k) z1
  have HNL:Hid (nodeL k x=if k=0 then rootW else nodeW++x.name++zAH++verT x.ver++nlB):=rfl
  have hpcn:=hp.cap_le
  have hecn:=he.cap_le
  unfold maxLen at hpcn hecn
  have HP:=cH hp
  have HE:=cH he
  have HPn:=cH hpn
  have HEn:=cH hen
  have HZn:=cH hnlz
  have HZt:=cH hT0z
  have hpn2:pn≤128:=by omega
  have hen2:en≤128:=by omega
  clear hx hp he hpn hen hzn Htk z2 z3 z4 z5 hnlz hT0z
  obtain ⟨T0,hT0⟩:∃ T0,T0=lockW++zBQ 0 (l.take k):=⟨_,rfl⟩
  rw[←hT0] at HT0 HZt HI
  clear hT0
  have HNode:Hid (∀ W,Below w.heap.size w W→SlV rPin W S x.ctx (.slice pA pn pc)∧SlV rEdge W S x.edges (.slice eA en ec)):=fun W hW=>⟨HP.out.belowSize hW,HE.out.belowSize hW⟩
  generalize x.name=nm at *
  generalize hv1:x.ver.major=v1 at *
  generalize hv2:x.ver.minor=v2 at *
  generalize hv3:x.ver.patch=v3 at *
  generalize verT x.ver=vt at *
  generalize nodeL k x=nl at *
  generalize x.ctx=ctx at *
  generalize x.edges=eds at *
  clear hv1 hv2 hv3 HP HE
  go_upto_region 8 with (fail)
  obtain ⟨w4,hw4⟩:∃ w4,w4=wr.alloc (.cells #[.string nm,.int .i64 v1,.int .i64 v2,.int .i64 v3,.slice pA pn pc,.slice eA en ec] 63):=⟨_,rfl⟩
  have hq4:w4.heap[wr.heap.size]?=some (.cells #[.string nm,.int .i64 v1,.int .i64 v2,.int .i64 v3,.slice pA pn pc,.slice eA en ec] 63 (0,0)):=by rw[hw4];exact zAT _ _
  have hb4:Below wr.heap.size wr w4:=by rw[hw4];exact bal (bR _ _) _
  rw[←hw4]
  obtain ⟨QB,hQB⟩:∃ QB,QB=wr.heap.size:=⟨_,rfl⟩
  have HX4:Hid (w4.heap[QB]?=some (.cells #[.string nm,.int .i64 v1,.int .i64 v2,.int .i64 v3,.slice pA pn pc,.slice eA en ec] 63 (0,0))):=by unfold Hid;rw[hQB];exact hq4
  rw[←hQB]
  have hne:QB≠w1.heap.size:=by omega
  have hQW:w1.heap.size<QB:=by omega
  have HI4:=cH (HI.out.keep hb4)
  have HB4:=cH (HB.out.trans (hb4.mono HB.out.size))
  have hq5:QB<w4.heap.size:=(aS.1 HX4.out).1
  clear hw4 hq4 hb4 HI HB HBw c0 c1 c2 c3 c4 c5 hQB
  refine dite (k=0) (fun hk00=>?_) (fun hk00=>?_)
  focus
   have hkb:((k:Int)==0)=true:=by simp[hk00]
   have HNl2:Hid (nl=rootW):=by unfold Hid;rw[HNL.out,if_pos hk00]
   clear hk00 HNL
   go_wp2_with fail
   refine (zAx _ _ _ rootW _ HI4.out (by rw[Lib.strCells_length];have:=HZt.out;have:rootW.size=5:=rfl;omega) HB4.out.size).mono ?_
   rintro e w8 ⟨rfl,hI8,hb8,hk8⟩
   rw[←HNl2.out] at hI8
   have HI8:Hid (IsB w1.heap.size w1.heap.size (Lib.strCells (T0++nl)) w8):=by unfold Hid;rw[zAf];exact hI8
   have HX8:=cH (hk8 _ _ _ _ HX4.out (by decide) hne)
   have HB8:=cH (HB4.out.trans hb8)
   clear hI8 hb8 hk8 HNl2
  rotate_left
  focus
   have hkb:((k:Int)==0)=false:=by simp;omega
   have HNl2:Hid (nl=nodeW++nm++zAH++vt++nlB):=by unfold Hid;rw[HNL.out,if_neg hk00]
   obtain ⟨Z1',Z2',Z3',Z4'⟩:=cat4 nodeW nm zAH vt nlB (by have h1:nodeW.size=5:=rfl;have h2:zAH.size=1:=rfl;have h3:nlB.size=1:=rfl;unfold maxLen;omega)
   have Z1:∀ W:World,(Op.stringOp .add ⟨#[110,111,100,101,32]⟩ nm).run Tryz.prog W=.ok (.string (nodeW++nm)) W:=Z1'
   have Z2:∀ W:World,(Op.stringOp .add (nodeW++nm) ⟨#[32]⟩).run Tryz.prog W=.ok (.string (nodeW++nm++zAH)) W:=Z2'
   have Z4:∀ W:World,(Op.stringOp .add (nodeW++nm++zAH++vt) ⟨#[10]⟩).run Tryz.prog W=.ok (.string nl) W:=by rw[HNl2.out];exact Z4'
   have Hc:=cH (qcall (w:=w4) (fun W hW=>HVP.out W (bot HB1.out ((HB4.out.trans (hW.mono HB4.out.size)).mono (nR _)))))
   have x0:=cO _ _ 0 _ _ _ HX4.out
   have x1:=cO _ _ 1 _ _ _ HX4.out
   have x2:=cO _ _ 2 _ _ _ HX4.out
   have x3:=cO _ _ 3 _ _ _ HX4.out
   have x0:w4.cell? ⟨QB,0,none⟩=some (.string nm):=x0
   have x1:w4.cell? ⟨QB,1,none⟩=some (.int .i64 v1):=x1
   have x2:w4.cell? ⟨QB,2,none⟩=some (.int .i64 v2):=x2
   have x3:w4.cell? ⟨QB,3,none⟩=some (.int .i64 v3):=x3
   clear hk00 HNL HNl2 Z1' Z2' Z4'
   have r_x0:=cR x0
   have r_x1:=cR x1
   have r_x2:=cR x2
   have r_x3:=cR x3
   go_wp2_with fail
   refine zAk 9 (by kernel_rfl) (by kernel_rfl) ?_
   simp only[List.take_succ_cons,List.take_zero,List.drop_succ_cons,List.drop_zero]
   repeat (go_big_quiet_step (first|(with_reducible exact Hc.out _ _)))
   refine wpQuiet_nil fun w7 B7=>?_
   have HI7:=cH (HI4.out.keep B7)
   have HX7:=cH ((B7.block _ hq5).trans HX4.out)
   have HB7:=cH (HB4.out.trans (B7.mono HB4.out.size))
   clear Z1 Z2 Z3' Z4 B7 Hc r_x0 r_x1 r_x2 r_x3 x0 x1 x2 x3
   go_wp2_with fail
   refine (zAx _ _ _ nl _ HI7.out (by rw[Lib.strCells_length];have:=HZt.out;have:=HZn.out;omega) HB7.out.size).mono ?_
   rintro e w8 ⟨rfl,hI8,hb8,hk8⟩
   have HI8:Hid (IsB w1.heap.size w1.heap.size (Lib.strCells (T0++nl)) w8):=by unfold Hid;rw[zAf];exact hI8
   have HX8:=cH (hk8 _ _ _ _ HX7.out (by decide) hne)
   have HB8:=cH (HB7.out.trans hb8)
   clear hI8 hb8 hk8 HI7 HX7 HB7
  all_goals
   have x4:w8.cell? ⟨QB,4,none⟩=some (.slice pA pn pc):=cO _ _ 4 _ _ _ HX8.out
   have HCzA:Hid ((withs ctx).size≤5120):=by
    have:=HCz.out pn
    rwa [List.take_of_length_le (by rw[←HPn.out];exact nR _)] at this
   clear HI4 HX4 HB4 hq5
   go_wp2_with fail
   clear x4
   go_loopw [39] (fun i wi=>∃ q:Nat,q≤pn∧i=.int .i64 q∧Hid (IsB w1.heap.size w1.heap.size (Lib.strCells (T0++nl++withs (ctx.take q))) wi)∧Hid (wi.heap[QB]?=some (.cells #[.string nm,.int .i64 v1,.int .i64 v2,.int .i64 v3,.slice pA pn pc,.slice eA en ec] 63 (0,0)))∧Hid (Below w1.heap.size w1 wi)) (fun i _=>pn - (intOf i).toNat)
   case atStart=>exact ⟨0,nZ _,rfl,by unfold Hid;rw[show T0++nl++withs (ctx.take 0)=T0++nl from zBh _];exact HI8.out,HX8,HB8⟩
   case round=>
    clear HI8 HX8 HB8
    obtain ⟨q,hq,rfl,HI,HX,HB⟩:=hrel
    have hq0:(0:Int)≤(q:Int):=by omega
    have HBw:=cH (bot HB1.out (HB.out.mono (nR _)))
    have hqb:QB<wr.heap.size:=(aS.1 HX.out).1
    by_cases hqt:q<pn
    case neg=>
     obtain rfl:pn=q:=by omega
     have hI:¬(pn:Int)<(pn:Int):=by omega
     have HI9:Hid (IsB w1.heap.size w1.heap.size (Lib.strCells (T0++nl++withs ctx)) wr):=by
      have:=HI.out
      rw[List.take_of_length_le (by rw[←HPn.out];exact nR _)] at this
      exact this
     have HX9:=HX
     have HB9:=HB
     have x5:wr.cell? ⟨QB,5,none⟩=some (.slice eA en ec):=cO _ _ 5 _ _ _ HX.out
     clear HI HBw
     obtain ⟨wo,rfl⟩:∃ wo:World,wo=wr:=⟨_,rfl⟩
     go_wp2_with fail
     clear x5 hqb
     go_loopw [57] (fun i wi=>∃ j:Nat,j≤en∧i=.int .i64 j∧Hid (IsB w1.heap.size w1.heap.size (Lib.strCells (T0++nl++withs ctx++tos (eds.take j))) wi)∧Hid (wi.heap[QB]?=some (.cells #[.string nm,.int .i64 v1,.int .i64 v2,.int .i64 v3,.slice pA pn pc,.slice eA en ec] 63 (0,0)))∧Hid (Below w1.heap.size w1 wi)) (fun i _=>en - (intOf i).toNat)
     case atStart=>exact ⟨0,nZ _,rfl,by unfold Hid;rw[show T0++nl++withs ctx++tos (eds.take 0)=T0++nl++withs ctx from zBh _];exact HI9.out,HX9,HB9⟩
     case round=>
      clear HI9 HX9 HB9
      obtain ⟨j,hj,rfl,HI,HX,HB⟩:=hrel
      have hj0:(0:Int)≤(j:Int):=by omega
      have HBw:=cH (bot HB1.out (HB.out.mono (nR _)))
      have hqb:QB<wr.heap.size:=(aS.1 HX.out).1
      by_cases hjt:j<en
      case neg=>
       obtain rfl:en=j:=by omega
       have hI:¬(en:Int)<(en:Int):=by omega
       have HIe:Hid (IsB w1.heap.size w1.heap.size (Lib.strCells (lockW++zBQ 0 (l.take (k+1)))) wr):=by
        have:=HI.out
        rw[List.take_of_length_le (by rw[←HEn.out];exact nR _),←HT0.out] at this
        exact this
       have hzz:w1.heap.size<wr.heap.size:=by omega
       clear HI HT0
       go_wp2_with fail
       go_roundw
       case rel=>exact ⟨k+1,by omega,by go_num,HIe,HB,hzz⟩
       case measure=>simp[intOf];omega
      have hjI:(j:Int)<(en:Int):=by omega
      have hjl:j<eds.length:=by rw[←HEn.out];exact hjt
      obtain ⟨y,hy⟩:∃ y,eds[j]?=some y:=⟨_,gE hjl⟩
      obtain ⟨hyz,hy0,hy9⟩:=HEdg.out j y hy
      have Htk:=cH (zRV hy)
      have hvz:=zHR hy0 hy9
      have Hln:Hid (toL y=toW++y.label++zAH++itoaB y.to++nlB):=rfl
      have hlz:=zSE hyz hy0 hy9
      obtain ⟨b2,o2,cs2,hA2,_,_,⟨hcs2,_⟩,hcell2⟩:=(HNode.out wr HBw.out).2.elem hy
      have e0:=hcell2 0 _ (by rw[hcs2];rfl)
      have e1:=hcell2 1 _ (by rw[hcs2];rfl)
      simp only[rEdge,Nat.add_zero] at e0 e1
      have HVq:Hid (∀ W,Below w.heap.size w W→Calls Tryz.prog 71 #[.int .i64 y.to] W fun e w'=>e=.returned (.string (itoaB y.to))∧Below W.heap.size W w'):=fun W hW=>zEO _ (by unfold I64;omega) W (zAG Ht.out hW)
      subst hA2
      clear hcell2 hcs2 hy
      generalize toL y=line at *
      generalize y.label=ym at *
      generalize itoaB y.to=yv at *
      generalize y.to=yt at *
      obtain ⟨Z1',Z2',Z3',Z4'⟩:=cat4 toW ym zAH yv nlB (by have h1:toW.size=3:=rfl;have h2:zAH.size=1:=rfl;have h3:nlB.size=1:=rfl;unfold maxLen;omega)
      have Z1:∀ W:World,(Op.stringOp .add ⟨#[116,111,32]⟩ ym).run Tryz.prog W=.ok (.string (toW++ym)) W:=Z1'
      have Z2:∀ W:World,(Op.stringOp .add (toW++ym) ⟨#[32]⟩).run Tryz.prog W=.ok (.string (toW++ym++zAH)) W:=Z2'
      have Z4:∀ W:World,(Op.stringOp .add (toW++ym++zAH++yv) ⟨#[10]⟩).run Tryz.prog W=.ok (.string line) W:=by rw[Hln.out];exact Z4'
      clear Z1' Z2' Z4' Hln hyz hvz
      have HLz:=cH hlz
      clear hlz
      go_upto_region 19 with (fail)
      obtain ⟨w5,hw5⟩:∃ w5,w5=wr.alloc (.cells #[.string ym,.int .i64 yt] 65):=⟨_,rfl⟩
      have hr5:w5.heap[wr.heap.size]?=some (.cells #[.string ym,.int .i64 yt] 65 (0,0)):=by rw[hw5];exact zAT _ _
      have hb5:Below wr.heap.size wr w5:=by rw[hw5];exact bal (bR _ _) _
      rw[←hw5]
      have HI5:=cH (HI.out.keep hb5)
      have HX5:=cH ((hb5.block _ hqb).trans HX.out)
      have HB5:=cH (HB.out.trans (hb5.mono HB.out.size))
      have Hc:=cH (qcall (w:=w5) (fun W hW=>HVq.out W (bot HBw.out (bot hb5 hW))))
      have hqb5:QB<w5.heap.size:=lL hqb hb5.size
      have f0:w5.cell? ⟨wr.heap.size,0,none⟩=some (.string ym):=cO _ _ 0 _ _ _ hr5
      have f1:w5.cell? ⟨wr.heap.size,1,none⟩=some (.int .i64 yt):=cO _ _ 1 _ _ _ hr5
      clear hw5 hr5 hb5 HI HX HB HBw hqb HVq e0 e1
      have r_f0:=cR f0
      have r_f1:=cR f1
      go_wp2_with fail
      refine zAk 9 (by kernel_rfl) (by kernel_rfl) ?_
      simp only[List.take_succ_cons,List.take_zero,List.drop_succ_cons,List.drop_zero]
      repeat (go_big_quiet_step (first|(with_reducible exact Hc.out _ _)))
      refine wpQuiet_nil fun w7 B7=>?_
      have HI7:=cH (HI5.out.keep B7)
      have HX7:=cH ((B7.block _ hqb5).trans HX5.out)
      have HB7:=cH (HB5.out.trans (B7.mono HB5.out.size))
      clear Z1 Z2 Z3' Z4 B7 Hc r_f0 r_f1 f0 f1 HI5 HX5 HB5
      go_wp2_with fail
      refine (zAx _ _ _ line _ HI7.out (by rw[Lib.strCells_length];simp only[ByteArray.size_append];have:=HZt.out;have:=HZn.out;have:=HCzA.out;have:=HLz.out;have:=HEz.out j;omega) HB7.out.size).mono ?_
      rintro e w6 ⟨rfl,hI6,hb6,hk6⟩
      have HI6:Hid (IsB w1.heap.size w1.heap.size (Lib.strCells (T0++nl++withs ctx++tos (eds.take (j+1)))) w6):=by
       unfold Hid
       rw[Htk.out,←ByteArray.append_assoc,zAf]
       exact hI6
      have HX6:=cH (hk6 _ _ _ _ HX7.out (by decide) hne)
      have HB6:=cH (HB7.out.trans hb6)
      clear hI6 hb6 hk6 HI7 HX7 HB7
      go_wp2_with fail
      go_roundw
      case rel=>exact ⟨j+1,by omega,by go_num,HI6,HX6,HB6⟩
      case measure=>simp[intOf];omega
    have hqI:(q:Int)<(pn:Int):=by omega
    have hql:q<ctx.length:=by rw[←HPn.out];exact hqt
    obtain ⟨y,hy⟩:∃ y,ctx[q]?=some y:=⟨_,gE hql⟩
    have hyz:=HCtx.out q y hy
    have Htk:=cH (zNW hy)
    have hvz:(verT y.ver).size≤11:=zBN _ _ _
    have Hln:Hid (withL y=withW++y.name++zAH++verT y.ver++nlB):=rfl
    have hlz:=zM4 hyz
    obtain ⟨b2,o2,cs2,hA2,_,_,⟨hcs2,_⟩,hcell2⟩:=(HNode.out wr HBw.out).1.elem hy
    have e0:=hcell2 0 _ (by rw[hcs2];rfl)
    have e1:=hcell2 1 _ (by rw[hcs2];rfl)
    have e2:=hcell2 2 _ (by rw[hcs2];rfl)
    have e3:=hcell2 3 _ (by rw[hcs2];rfl)
    simp only[rPin,Nat.add_zero] at e0 e1 e2 e3
    have HVq:Hid (∀ W,Below w.heap.size w W→Calls Tryz.prog 70 #[.agg #[.int .i64 y.ver.major,.int .i64 y.ver.minor,.int .i64 y.ver.patch]] W fun e w'=>e=.returned (.string (verT y.ver))∧Below W.heap.size W w'):=fun W hW=>zBy _ _ _ W (zAG Ht.out hW)
    subst hA2
    clear hcell2 hcs2 hy
    generalize withL y=line at *
    generalize y.name=ym at *
    generalize y.ver.major=y1 at *
    generalize y.ver.minor=y2 at *
    generalize y.ver.patch=y3 at *
    generalize verT y.ver=yv at *
    obtain ⟨Z1',Z2',Z3',Z4'⟩:=cat4 withW ym zAH yv nlB (by have h1:withW.size=5:=rfl;have h2:zAH.size=1:=rfl;have h3:nlB.size=1:=rfl;unfold maxLen;omega)
    have Z1:∀ W:World,(Op.stringOp .add ⟨#[119,105,116,104,32]⟩ ym).run Tryz.prog W=.ok (.string (withW++ym)) W:=Z1'
    have Z2:∀ W:World,(Op.stringOp .add (withW++ym) ⟨#[32]⟩).run Tryz.prog W=.ok (.string (withW++ym++zAH)) W:=Z2'
    have Z4:∀ W:World,(Op.stringOp .add (withW++ym++zAH++yv) ⟨#[10]⟩).run Tryz.prog W=.ok (.string line) W:=by rw[Hln.out];exact Z4'
    clear Z1' Z2' Z4' Hln hyz hvz
    have HLz:=cH hlz
    clear hlz
    go_upto_region 14 with (fail)
    obtain ⟨w5,hw5⟩:∃ w5,w5=wr.alloc (.cells #[.string ym,.int .i64 y1,.int .i64 y2,.int .i64 y3] 107):=⟨_,rfl⟩
    have hr5:w5.heap[wr.heap.size]?=some (.cells #[.string ym,.int .i64 y1,.int .i64 y2,.int .i64 y3] 107 (0,0)):=by rw[hw5];exact zAT _ _
    have hb5:Below wr.heap.size wr w5:=by rw[hw5];exact bal (bR _ _) _
    rw[←hw5]
    have HI5:=cH (HI.out.keep hb5)
    have HX5:=cH ((hb5.block _ hqb).trans HX.out)
    have HB5:=cH (HB.out.trans (hb5.mono HB.out.size))
    have Hc:=cH (qcall (w:=w5) (fun W hW=>HVq.out W (bot HBw.out (bot hb5 hW))))
    have hqb5:QB<w5.heap.size:=lL hqb hb5.size
    have f0:w5.cell? ⟨wr.heap.size,0,none⟩=some (.string ym):=cO _ _ 0 _ _ _ hr5
    have f1:w5.cell? ⟨wr.heap.size,1,none⟩=some (.int .i64 y1):=cO _ _ 1 _ _ _ hr5
    have f2:w5.cell? ⟨wr.heap.size,2,none⟩=some (.int .i64 y2):=cO _ _ 2 _ _ _ hr5
    have f3:w5.cell? ⟨wr.heap.size,3,none⟩=some (.int .i64 y3):=cO _ _ 3 _ _ _ hr5
    clear hw5 hr5 hb5 HI HX HB HBw hqb HVq e0 e1 e2 e3
    have r_f0:=cR f0
    have r_f1:=cR f1
    have r_f2:=cR f2
    have r_f3:=cR f3
    go_wp2_with fail
    refine zAk 9 (by kernel_rfl) (by kernel_rfl) ?_
    simp only[List.take_succ_cons,List.take_zero,List.drop_succ_cons,List.drop_zero]
    repeat (go_big_quiet_step (first|(with_reducible exact Hc.out _ _)))
    refine wpQuiet_nil fun w7 B7=>?_
    have HI7:=cH (HI5.out.keep B7)
    have HX7:=cH ((B7.block _ hqb5).trans HX5.out)
    have HB7:=cH (HB5.out.trans (B7.mono HB5.out.size))
    clear Z1 Z2 Z3' Z4 B7 Hc r_f0 r_f1 r_f2 r_f3 f0 f1 f2 f3 HI5 HX5 HB5
    go_wp2_with fail
    refine (zAx _ _ _ line _ HI7.out (by rw[Lib.strCells_length];simp only[ByteArray.size_append];have:=HZt.out;have:=HZn.out;have:=HCzA.out;have:=HLz.out;have:=HCz.out q;omega) HB7.out.size).mono ?_
    rintro e w6 ⟨rfl,hI6,hb6,hk6⟩
    have HI6:Hid (IsB w1.heap.size w1.heap.size (Lib.strCells (T0++nl++withs (ctx.take (q+1)))) w6):=by
     unfold Hid
     rw[Htk.out,←ByteArray.append_assoc,zAf]
     exact hI6
    have HX6:=cH (hk6 _ _ _ _ HX7.out (by decide) hne)
    have HB6:=cH (HB7.out.trans hb6)
    clear hI6 hb6 hk6 HI7 HX7 HB7
    go_wp2_with fail
    go_roundw
    case rel=>exact ⟨q+1,by omega,by go_num,HI6,HX6,HB6⟩
    case measure=>simp[intOf];omega
noncomputable def packP (p:Pack):ByteArray×Int:=if packB p=true then (zAW p,0) else (⟨#[]⟩,24)
theorem zDZ {p:Pack} (h:packB p=true):p.name.size≤16∧listB p.deps=true∧listB p.peers=true∧listB p.opts=true:=by
 unfold packB at h
 simp only[Bool.and_eq_true,decide_eq_true_eq] at h
 obtain ⟨hn,hv,hd,hp,ho,_,_⟩:=h
 exact ⟨zCG hn,hd,hp,ho⟩
theorem zJD (p:Pack) (u:Value) (w:World) (S:Nat→Prop) (ht:Tab w) (hv:PackV w S p u) :
  Calls Tryz.prog 25 #[u] w fun e w'=>e=.returned (.tuple #[.string (packP p).1,.int .i64 (packP p).2])∧Below w.heap.size w w':=by
 have HM:=cH (fun W (hW:Below w.heap.size w W)=>zEv p u W S (zAG ht hW) (hv.keep hW))
 have HT:=cH (fun (hB:packB p=true) W (hW:Below w.heap.size w W)=>zGF p u W S (zAG ht hW) (zDZ hB).1 (zDZ hB).2.1 (zDZ hB).2.2.1 (zDZ hB).2.2.2 (hv.keep hW))
 obtain ⟨A1,n1,c1,A2,n2,c2,A3,n3,c3,rfl,_,_,_,_⟩:=hv
 obtain ⟨R,hR⟩:∃ R,R=packP p:=⟨_,rfl⟩
 have Hno:Hid (packB p=false→R=(⟨#[]⟩,24)):=fun h=>by rw[hR];unfold packP;rw[if_neg (by rw[h];decide)]
 have Hyes:Hid (packB p=true→R=(zAW p,0)):=fun h=>by rw[hR];unfold packP;rw[if_pos h]
 rw[←hR]
 clear hR ht
 generalize packB p=b at *
 generalize zAW p=s at *
 generalize p.name=nm at *
 generalize p.ver.major=x1 at *
 generalize p.ver.minor=x2 at *
 generalize p.ver.patch=x3 at *
 go_enter Tryz.func25,Tryz.ntmps25
 go_wp2_with fail
 obtain ⟨w0,hw0⟩:∃ w0,w0=w.alloc (.cells #[.string nm,.int .i64 x1,.int .i64 x2,.int .i64 x3,.slice A1 n1 c1,.slice A2 n2 c2,.slice A3 n3 c3] 57):=⟨_,rfl⟩
 have hr0:w0.heap[w.heap.size]?=some (.cells #[.string nm,.int .i64 x1,.int .i64 x2,.int .i64 x3,.slice A1 n1 c1,.slice A2 n2 c2,.slice A3 n3 c3] 57 (0,0)):=by rw[hw0];exact heap_alloc_new w _
 have HB0:Hid (Below w.heap.size w w0):=by unfold Hid;rw[hw0];exact bal (bR _ _) _
 have hz0:w.heap.size<w0.heap.size:=(aS.1 hr0).1
 rw[←hw0]
 clear hw0
 refine (HM.out w0 HB0.out).mono ?_
 rintro e w1 ⟨rfl,hb1⟩
 have HB1:=cH (bot HB0.out hb1)
 obtain ⟨⟨a0,a1,a2,a3,a4,a5,a6⟩,_⟩:=row7 ((hb1.block _ hz0).trans hr0)
 clear hb1 HB0 hr0 hz0 HM
 cases b with
 | false=>
   have hq:=Hno.out rfl
   subst hq
   clear Hno Hyes HT
   go_wp2_with fail
   go_ret2
   exact ⟨rfl,HB1.out⟩
 | true=>
   have hq:=Hyes.out rfl
   subst hq
   have HT':=cH (HT.out rfl)
   clear Hno Hyes HT
   go_wp2_with fail
   refine (HT'.out w1 HB1.out).mono ?_
   rintro e w2 ⟨rfl,hb2⟩
   go_wp2_with fail
   go_ret2
   exact ⟨rfl,bot HB1.out hb2⟩
