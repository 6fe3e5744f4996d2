/- Dependencies put in order by their names (slices.SortFunc), and asked whether they are (slices.IsSortedFunc): walked. -/
import Derived.Test.YthbnmehbhpakaaaGreatDoorBk10
import Derived.Test.YthbnmehbhpakaaaGreatDoorBk03
import Derived.Test.YthbnmehbhpakaaaGreatDoorBk05
import Derived.Test.YthbnmehbhpakaaaGreatDoorBk16
import Derived.Test.YthbnmehbhpakaaaGreatDoorBk06
import Derived.Test.YthbnmehbhpakaaaGreatDoorBk09
import Derived.Test.YthbnmehbhpakaaaGreatDoorBk12
import Derived.Test.YthbnmehbhpakaaaGreatDoorBk11
import Derived.Test.YthbnmehbhpakaaaGreatDoorBk04
import Derived.Test.YthbnmehbhpakaaaGreatDoorBk13
import Derived.ScopeJumps
import Derived.Test.YthbnmehbhpakaaaGreatDoorAl
set_option linter.all false
set_option maxHeartbeats 8000000
set_option maxRecDepth 100000
namespace Go.Proofs.YthbnmehbhpakaaaGreatDoor
open Go.Rows Go.RowKit Go.Shelf Go.Sort
theorem zHV:∀ a b:List UInt8,(Lib.compareBytes a b<0↔a<b)∧(Lib.compareBytes a b=0↔a=b)
 | [],[]=>by simp[Lib.compareBytes]
 | [],_::_=>by simp[Lib.compareBytes]
 | _::_,[]=>by simp[Lib.compareBytes]
 | x::a,y::b=>by
   have ih:=zHV a b
   rw[Lib.compareBytes,List.cons_lt_cons_iff,List.cons.injEq]
   by_cases h1:x<y
   ·have hne:x≠y:=fun e=>by subst e;exact UInt8.lt_irrefl x h1
    simp[h1,hne]
   ·by_cases h2:y<x
    ·have hne:x≠y:=fun e=>by subst e;exact UInt8.lt_irrefl x h2
     simp[h1,h2,hne]
    ·have he:x=y:=UInt8.le_antisymm (UInt8.not_lt.1 h2) (UInt8.not_lt.1 h1)
     simp[h1,h2,he,ih.1,ih.2]
abbrev Rd:={ x:ByteArray×Option Addr×Nat×Nat // x.1.size≤maxLen}
instance:Inhabited Rd:=⟨⟨(⟨#[]⟩,none,0,0),by decide⟩⟩
def encRd (x:Rd):List Value:=[.string x.1.1,.slice x.1.2.1 x.1.2.2.1 x.1.2.2.2]
def cfRd (x y:Rd):Int:=Lib.compareBytes x.1.1.data.toList y.1.1.data.toList
theorem ltRd (x y:Rd):ltOf cfRd x y=decide (x.1.1.data.toList<y.1.1.data.toList):=by
 unfold ltOf cfRd
 exact decide_eq_decide.2 (zHV _ _).1
theorem swoRd:SWO (ltOf cfRd) where
 irrefl x:=by rw[ltRd];simp
 trans x y z h1 h2:=by rw[ltRd] at *;simp at *;exact List.lt_trans h1 h2
 ntrans x y z h1 h2:=by
  rw[ltRd] at *
  simp only[decide_eq_false_iff_not] at *
  exact List.not_lt.2 (List.le_trans (List.not_lt.1 h2) (List.not_lt.1 h1))
theorem zPj (a b:ByteArray) (A B:Option Addr) (n m c d:Nat) (W:World):Calls Tryz.prog 186 #[.agg #[.string a,.slice A n c],.agg #[.string b,.slice B m d]] W fun e w'=>e=.returned (.int .i64 (Lib.compareBytes a.data.toList b.data.toList))∧∃ o o',w'=(W.alloc o).alloc o':=by
 go_enter Tryz.func186,Tryz.ntmps186
 go_wp2_with fail
 refine (Tryz.strings_Compare a b _).mono ?_
 rintro e w' ⟨rfl,rfl⟩
 go_wp2_with fail
 go_ret
 exact ⟨rfl,_,_,rfl⟩
theorem zRb (x y:Rd) (W:World):Calls Tryz.prog 186 #[.agg #[.string x.1.1,.slice x.1.2.1 x.1.2.2.1 x.1.2.2.2],.agg #[.string y.1.1,.slice y.1.2.1 y.1.2.2.1 y.1.2.2.2]] W fun e w'=>e=.returned (.int .i64 (cfRd x y))∧∃ q os',w'=grow (W.drewN q) os':=
 (zPj _ _ _ _ _ _ _ _ W).mono (by
   rintro e w' ⟨h,o,o',rfl⟩
   exact ⟨h,0,_,by rw[alloc_eq_grow,alloc_eq_grow,grow_grow];rfl⟩)
theorem zNY (a b:ByteArray) (A B:Option Addr) (n m c d:Nat) (W:World):Calls Tryz.prog 186 #[.agg #[.string a,.slice A n c],.agg #[.string b,.slice B m d]] W fun e w'=>e=.returned (.int .i64 (Lib.compareBytes a.data.toList b.data.toList))∧Below W.heap.size W w':=
 (zPj a b A B n m c d W).mono fun e w' ⟨h,o,o',hw⟩=>⟨h,by rw[hw];exact bal (bal (bR _ _) _) _⟩
theorem zLu:zEk Tryz.prog 186:=zA9 Tryz.func186 (by kernel_rfl) rfl
def rNm:Rp ByteArray where
 size:=2
 holds:=fun w S x cs=>(∃ A n c,cs=[.string x,.slice A n c])∧x.size≤maxLen
 len:=fun ⟨⟨_,_,_,h⟩,_⟩=>by rw[h];rfl
 one:=fun ⟨⟨_,_,_,h⟩,_⟩=>by rw[h];simp[Value.oneCell']
 mono:=fun h _=>h
theorem zNZ {w:World} {base:Nat} {g cap:Nat} {l:List Dep} {S:Nat→Prop} (h:Own rDep w base 158 (.slice (some ⟨g,0,none⟩) l.length cap) l S):∃ L:List Rd,L.length=l.length∧L.map (fun x=>x.1.1)=zAQ l∧HoldsK encRd 2 w g 0 L.toArray:=by
 have key:∀ i (hi:i<l.length),∃ x:Rd,x.1.1=l[i].name∧w.cell? ⟨g,i * 2,none⟩=some (.string x.1.1)∧w.cell? ⟨g,i * 2+1,none⟩=some (.slice x.1.2.1 x.1.2.2.1 x.1.2.2.2):=fun i hi=>by
  obtain ⟨b,o,cs,he,_,_,⟨s0,rfl,hz,hs⟩,hcell⟩:=h.slv.elem (i:=i) (x:=l[i]) (gE hi)
  simp only[Option.some.injEq,Addr.mk.injEq] at he
  obtain ⟨rfl,rfl,_⟩:=he
  obtain ⟨A,c,rfl,_,_⟩:=hs.val
  have c0:=hcell 0 _ rfl
  have c1:=hcell 1 _ rfl
  simp only[rDep,Nat.zero_add,Nat.add_zero] at c0 c1
  exact ⟨⟨(l[i].name,A,_,c),hz⟩,rfl,c0,c1⟩
 have hfr:∀ o,w.frozen? ⟨g,o,none⟩=false:=fun o=>by
  obtain ⟨_,xs,⟨_,q⟩,_⟩:=h
  rcases q with ⟨q,_⟩|⟨g',cap',cur,q,_,hg,_⟩
  ·cases q
  ·simp only[Value.slice.injEq,Option.some.injEq,Addr.mk.injEq] at q
   obtain ⟨⟨rfl,_⟩,_⟩:=q
   simp[World.frozen?,hg]
 obtain ⟨f,hf⟩:∃ f:Nat→Rd,∀ i (hi:i<l.length),(f i).1.1=l[i].name∧w.cell? ⟨g,i * 2,none⟩=some (.string (f i).1.1)∧w.cell? ⟨g,i * 2+1,none⟩=some (.slice (f i).1.2.1 (f i).1.2.2.1 (f i).1.2.2.2):=by
  refine ⟨fun i=>if hi:i<l.length then (key i hi).choose else default,fun i hi=>?_⟩
  simp only[dif_pos hi]
  exact (key i hi).choose_spec
 refine ⟨(List.range l.length).map f,by simp,?_,?_⟩
 ·apply List.ext_getElem
  ·simp[zAQ]
  ·intro i h1 h2
   simp only[List.length_map,List.length_range] at h1
   simp only[List.getElem_map,List.getElem_range,zAQ]
   exact (hf i h1).1
 ·intro t ht
  rw[size_flatK,List.size_toArray,List.length_map,List.length_range] at ht
  have hi:t / 2<l.length:=by omega
  have hiL:t / 2<((List.range l.length).map f).toArray.size:=by simpa using hi
  rw[get_flatK _ _ _ _ (by rw[List.size_toArray,List.length_map,List.length_range];exact ht),getElem!_pos _ (t / 2) hiL]
  have hx:((List.range l.length).map f).toArray[t / 2]=f (t / 2):=by simp
  rw[hx]
  obtain ⟨_,q0,q1⟩:=hf (t / 2) hi
  refine ⟨?_,hfr _⟩
  have h2:t % 2=0∨t % 2=1:=by omega
  rcases h2 with h2|h2
  ·rw[h2,show 0+t=t / 2 * 2 from by omega];exact q0
  ·rw[h2,show 0+t=t / 2 * 2+1 from by omega];exact q1
theorem zOL {w:World} {g cap:Nat} {L:List Rd} {S:Nat→Prop} (h:HoldsK encRd 2 w g 0 L.toArray) (hS:S g) (hlt:g<w.heap.size) (hc:L.length≤cap) (hm:cap≤maxLen):SlV rNm w S (L.map fun x=>x.1.1) (.slice (some ⟨g,0,none⟩) L.length cap):=by
 refine ⟨some ⟨g,0,none⟩,cap,by rw[List.length_map],by rw[List.length_map];exact hc,hm,(fun e=>by cases e),fun _=>⟨g,0,rfl,hS,hlt,fun i x hx=>?_⟩⟩
 rw[List.getElem?_map] at hx
 obtain ⟨y,hy,rfl⟩:=Option.map_eq_some_iff.1 hx
 obtain ⟨hi,hy⟩:=gS.1 hy
 refine ⟨[.string y.1.1,.slice y.1.2.1 y.1.2.2.1 y.1.2.2.2],⟨⟨_,_,_,rfl⟩,y.2⟩,fun j u hu=>?_⟩
 have hj:j<2:=by have:=(gS.1 hu).1;simpa using this
 have:=(h.cell (i:=i) (c:=j) (by rw[List.size_toArray];exact hi) hj).1
 simp only[rNm] at this ⊢
 rw[this,getElem!_pos L.toArray i (by rw[List.size_toArray];exact hi)]
 have hl:L.toArray[i]'(by rw[List.size_toArray];exact hi)=y:=by rw[←hy];rfl
 rw[hl,←hu]
 have h2:j=0∨j=1:=by omega
 rcases h2 with rfl|rfl<;>rfl
theorem zLi (v:Value) (l:List Dep) (w:World) (base:Nat) (S:Nat→Prop) (hown:Own rDep w base 158 v l S) (hm:l.length≤1000000) :
  Calls Tryz.prog 189 #[v,.func (.func 186) #[] #[]] w fun e w'=>e=.returned (.tuple #[])∧∃ l':List ByteArray,l'.Perm (zAQ l)∧l'.Pairwise (fun x y=>¬y.data.toList<x.data.toList)∧SlV rNm w' (fun b=>base≤b) l' v∧(base≤w.heap.size→Below base w w'):=by
 by_cases hne:l=[]
 ·subst hne
  obtain ⟨A,c,rfl,h1,h2⟩:=hown.slv.val
  refine (AnyF.slices_SortFunc_none { Tryz.sortDep with} A c (.func (.func 186) #[] #[]) w).mono ?_
  rintro e w' ⟨rfl,rfl⟩
  have hnone:A=none→c=0:=fun e=>by subst e;exact hown.slv.none_.2
  exact ⟨rfl,[],.refl _,List.Pairwise.nil,⟨A,c,rfl,nZ _,h2,hnone,fun h=>absurd h (by simp)⟩,fun _=>bR _ _⟩
 have hpos:0<l.length:=List.length_pos_iff.2 hne
 obtain ⟨A,cap,rfl,hcap,hmx⟩:=hown.slv.val
 obtain ⟨g,o,cs,he,_,hlt,_,_⟩:=hown.slv.elem (gE hpos)
 have hform:∃ cap',(Value.slice A l.length cap)=.slice (some ⟨g,0,none⟩) l.length cap'∧base≤g:=by
  obtain ⟨_,xs,⟨_,q⟩,_⟩:=hown
  rcases q with ⟨_,q⟩|⟨g',cap',cur,q,hbg,_⟩
  ·omega
  ·simp only[Value.slice.injEq] at q
   rw[he] at q
   simp only[Option.some.injEq,Addr.mk.injEq] at q
   obtain ⟨⟨rfl,rfl,_⟩,_,rfl⟩:=q
   exact ⟨cap,by rw[he],hbg⟩
 obtain ⟨cap',hv,hbg⟩:=hform
 rw[hv] at hown ⊢
 have hcap2:l.length≤cap'∧cap'≤maxLen:=by
  simp only[Value.slice.injEq] at hv
  omega
 obtain ⟨L,hLl,hLn,hH⟩:=zNZ hown
 rw[←hLl] at hcap2 hm ⊢
 rw[←hLn]
 have hcon:=AnyQ.slices_SortFunc Tryz.sortDep 2 Tryz.isAgg158 Tryz.sizeOf158 encRd (fun _=>rfl) (fun x u hu=>by simp[encRd] at hu;rcases hu with rfl|rfl<;>rfl) cfRd swoRd 186 #[] g 0 cap' L.toArray w (zA9 Tryz.func186 (by kernel_rfl) rfl)
  (fun _ _ _ _ x y=>zRb x y _) hH hlt (by rw[List.size_toArray];omega)
 rw[List.size_toArray] at hcon
 refine hcon.mono ?_
 rintro e w' ⟨rfl,d',n,os,hp,hs,rfl⟩
 obtain ⟨hp1',_,hp3⟩:=hp
 have hp1:d'.size=L.length:=hp1'.trans (List.size_toArray ..)
 clear hp1'
 have hd:d'.toList.length=L.length:=by rw[Array.length_toList,hp1]
 have hperm:d'.toList.Perm L:=by
  have h1:(d'.extract 0 L.length).toList=d'.toList:=by rw[←hp1,Array.extract_size]
  have h2:(L.toArray.extract 0 L.length).toList=L:=by
   have:=Array.extract_size (xs:=L.toArray)
   rw[List.size_toArray] at this
   rw[this]
  rw[h1,h2] at hp3
  exact hp3
 have hH':HoldsK encRd 2 (sortWorldK encRd 2 w g 0 n d' os) g 0 d'.toList.toArray:=by
  rw[Array.toArray_toList]
  exact holdsK_grow encRd 2 _ os g 0 d' (by show g<(putRow id (Sort.ahead w n) g 0 _).heap.size;rw[size_putRow];exact hlt) (holdsK_putRowK encRd 2 (Sort.ahead w n) g 0 L.toArray d' (holdsK_ahead encRd 2 w n g 0 _ hH) (by rw[hp1,List.size_toArray]))
 have hgr:w.grownBy (sortWorldK encRd 2 w g 0 n d' os) (some g):=zCX w g 0 n (flatK encRd 2 d') os
 refine ⟨rfl,d'.toList.map (fun x=>x.1.1),hperm.map _,?_,?_,fun hbw=>(bR _ _).grown hgr hbw (fun k hk=>by cases hk;exact hbg)⟩
 ·rw[List.pairwise_map]
  refine List.pairwise_iff_getElem.2 fun i j hi hj hij=>?_
  have:=hs i j (nZ _) hij (by omega)
  rw[ltRd,getElem!_pos d' j (by simpa using hj),getElem!_pos d' i (by simpa using hi)] at this
  simpa using this
 ·have:=zOL (S:=fun b=>base≤b) (cap:=cap') hH' hbg (lL hlt hgr.size) (by rw[hd];exact hcap2.1) hcap2.2
  rw[hd] at this
  exact this
def upB (l:List Dep):Bool:=decide (∀ i:Fin l.length,∀ j:Fin l.length,j.1=i.1+1→¬l[j].name.data.toList<l[i].name.data.toList)
theorem zJo {l:List Dep}:upB l=true↔∀ i (h:i+1<l.length),¬(l[i+1]).name.data.toList<(l[i]'(by omega)).name.data.toList:=by
 unfold upB
 rw[decide_eq_true_eq]
 constructor
 ·intro h i hi;exact h ⟨i,by omega⟩ ⟨i+1,hi⟩ rfl
 ·rintro h ⟨i,hi⟩ ⟨j,hj⟩ e
  simp only at e
  subst e
  exact h i hj
theorem zKu (A:Option Addr) (n c:Nat) (l:List Dep) (w:World) (S:Nat→Prop) (hl:SlV rDep w S l (.slice A n c)) :
  Calls Tryz.prog 187 #[.slice A n c,.func (.func 186) #[] #[]] w fun e w'=>e=.returned (.bool (upB l))∧Below w.heap.size w w':=by
 have hnx:=hl.n_eq
 have hcx:=hl.cap_le
 unfold maxLen at hcx
 have hn63:n≤9223372036854775807:=by omega
 have hl':=hl.more (S':=fun b=>b<w.heap.size) fun b _ h=>h
 have HL:=cH hl'
 have Hn:=cH hnx
 have Hyes:Hid ((∀ i (h:i+1<l.length),¬(l[i+1]).name.data.toList<(l[i]'(by omega)).name.data.toList)→upB l=true):=fun h=>zJo.2 h
 have Hno:Hid (∀ i (h:i+1<l.length),(l[i+1]).name.data.toList<(l[i]'(by omega)).name.data.toList→upB l=false):=fun i h hlt=>by
  rw[←Bool.not_eq_true]
  exact fun e=>zJo.1 e i h hlt
 clear hl hl' hnx hcx
 generalize upB l=r at *
 have hent:=fun args W=>zLu args W
 by_cases hn0:n=0
 ·have hr:=Hyes.out (fun i h=>by have:=Hn.out;omega)
  subst hr hn0
  clear Hyes Hno HL
  go_enter Tryz.func187,Tryz.ntmps187
  go_wp2_with fail
  go_loopw [5] (fun i wr=>i=.int .i64 (-1)∧Hid (Below w.heap.size w wr)) (fun _ _=>0)
  case atStart=>exact ⟨rfl,bR _ _⟩
  case round=>
   obtain ⟨rfl,HB⟩:=hrel
   go_wp2_with fail
   go_ret
   exact ⟨rfl,HB.out⟩
 ·obtain ⟨n',rfl⟩:∃ n',n=n'+1:=⟨n - 1,by omega⟩
  have hw1:IntKind.i64.wrap (((n'+1:Nat):Int) - 1)=(n':Int):=by rw[IntWalk.i64_in _ ⟨by omega,by omega⟩];omega
  have hw2:IntKind.i64.wrap ((n':Int)+1 - 1)=(n':Int):=by rw[IntWalk.i64_in _ ⟨by omega,by omega⟩];omega
  go_enter Tryz.func187,Tryz.ntmps187
  go_wp2_with fail
  clear hw1 hw2
  go_loopw [5] (fun i wr=>∃ k:Nat,k≤n'∧i=.int .i64 k∧Hid (∀ i (h:i+1<l.length),k≤i→¬(l[i+1]).name.data.toList<(l[i]'(by omega)).name.data.toList)∧Hid (Below w.heap.size w wr)) (fun i _=>(intOf i).toNat)
  case atStart=>exact ⟨n',nR _,rfl,fun i h hi=>by have:=Hn.out;omega,bR _ _⟩
  case round=>
   obtain ⟨k,hk,rfl,Hs,HB⟩:=hrel
   by_cases hk0:k=0
   ·subst hk0
    have hr:=Hyes.out (fun i h=>Hs.out i h (nZ _))
    subst hr
    clear Hyes Hno Hs
    go_wp2_with fail
    go_ret
    exact ⟨rfl,HB.out⟩
   ·obtain ⟨q,rfl⟩:∃ q,k=q+1:=⟨k - 1,by omega⟩
    have hw1:IntKind.i64.wrap (((q+1:Nat):Int) - 1)=(q:Int):=by rw[IntWalk.i64_in _ ⟨by omega,by omega⟩];omega
    have hw2:IntKind.i64.wrap ((q:Int)+1 - 1)=(q:Int):=by rw[IntWalk.i64_in _ ⟨by omega,by omega⟩];omega
    have hq1:q+1<l.length:=by have:=Hn.out;omega
    have hlw:=HL.out.below HB.out (fun b h=>h)
    obtain ⟨b,o,rfl,_,hb⟩:=hlw.at (by omega)
    obtain ⟨b',o',cs',he',_,hb1,⟨s0,rfl,_,hr0⟩,hcell⟩:=hlw.elem (gE hq1)
    obtain ⟨b'',o'',cs'',he'',_,hb2,⟨s1,rfl,_,hr1⟩,hcell'⟩:=hlw.elem (gE (show q<l.length by omega))
    injection he' with he'
    injection he' with e1 e2 _
    subst e1 e2
    injection he'' with he''
    injection he'' with e1 e2 _
    subst e1 e2
    obtain ⟨pA,pc,rfl,_,_⟩:=hr0.val
    obtain ⟨qA,qc,rfl,_,_⟩:=hr1.val
    have c0:=hcell 0 _ rfl
    have c1:=hcell 1 _ rfl
    have d0:=hcell' 0 _ rfl
    have d1:=hcell' 1 _ rfl
    simp only[rDep,Nat.add_zero] at c0 c1 d0 d1
    have Hc:=cH (qcall (w:=wr) (fun W hW=>zNY l[q+1].name l[q].name pA qA l[q+1].range.length l[q].range.length pc qc W))
    have Hlt:Hid ((l[q+1]).name.data.toList<(l[q]).name.data.toList→r=false):=fun h=>Hno.out q hq1 h
    have Hge:Hid (¬(l[q+1]).name.data.toList<(l[q]).name.data.toList→∀ i (h:i+1<l.length),q≤i→¬(l[i+1]).name.data.toList<(l[i]'(by omega)).name.data.toList):=fun h i hi hqi=>by
     by_cases e:q=i
     ·subst e;exact h
     ·exact Hs.out i hi (by omega)
    have hcmp:=(zHV l[q+1].name.data.toList l[q].name.data.toList).1
    have hq0:(0:Int)<((q+1:Nat):Int):=by omega
    have hqi:(0:Int)≤(q:Int):=by omega
    have hqn:((q+1:Nat):Int)<((n'+1:Nat):Int):=by omega
    have hqn2:(q:Int)<((n'+1:Nat):Int):=by omega
    generalize Lib.compareBytes l[q+1].name.data.toList l[q].name.data.toList=cv at *
    generalize l[q+1].name=nx at *
    generalize l[q].name=ny at *
    generalize l[q+1].range.length=lx at *
    generalize l[q].range.length=ly at *
    by_cases hcv:cv<0
    ·have hr:=Hlt.out (hcmp.1 hcv)
     subst hr
     clear hcmp Hlt Hge Hyes Hno Hs hr0 hr1 hcell hcell' hlw
     go_wp2_with fail
     have r_c0:=cR c0
     have r_c1:=cR c1
     have r_d0:=cR d0
     have r_d1:=cR d1
     go_wp2_with fail
     refine wQ ?_
     repeat (go_big_quiet_step (first|(with_reducible exact Hc.out _ _)))
     refine wpQuiet_nil fun wq Bq=>?_
     have HBq:=cH (bot HB.out Bq)
     clear Bq r_c0 r_c1 r_d0 r_d1
     go_wp2_with fail
     go_ret
     exact ⟨rfl,HBq.out⟩
    ·have Hs':=cH (Hge.out (fun h=>hcv (hcmp.2 h)))
     clear hcmp Hlt Hge Hs hr0 hr1 hcell hcell' hlw
     go_wp2_with fail
     have r_c0:=cR c0
     have r_c1:=cR c1
     have r_d0:=cR d0
     have r_d1:=cR d1
     go_wp2_with fail
     refine wQ ?_
     repeat (go_big_quiet_step (first|(with_reducible exact Hc.out _ _)))
     refine wpQuiet_nil fun wq Bq=>?_
     have HBq:=cH (bot HB.out Bq)
     clear Bq r_c0 r_c1 r_d0 r_d1
     go_wp2_with fail
     go_roundw
     case rel=>exact ⟨q,by omega,rfl,Hs',HBq⟩
     case measure=>simp[intOf]
theorem zK2 {l:List ByteArray} (hn:l.Nodup) {i j:Nat} (hi:i<l.length) (hj:j<l.length) (e:l[i]=l[j]):i=j:=by
 rw[List.nodup_iff_pairwise_ne,List.pairwise_iff_getElem] at hn
 refine Classical.byContradiction fun hne=>?_
 rcases Nat.lt_or_gt_of_ne hne with h|h
 ·exact hn i j hi hj h e
 ·exact hn j i hj hi h e.symm
def okD (d:Dep):Bool:=nameB d.name&&(zAp d.range&&decide (d.range.length≠0))
def softB (l:List Dep):Bool:=decide (l.length≤16)&&(upB l&&l.all okD)
theorem zQp:∀ a b:List UInt8,¬a<b→¬b<a→a=b
 | [],[],_,_=>rfl
 | [],_::_,h,_=>absurd (by simp) h
 | _::_,[],_,h=>absurd (by simp) h
 | x::a,y::b,h1,h2=>by
   rw[List.cons_lt_cons_iff] at h1 h2
   have n1:¬x<y:=fun h=>h1 (.inl h)
   have n2:¬y<x:=fun h=>h2 (.inl h)
   have he:x=y:=UInt8.le_antisymm (UInt8.not_lt.1 n2) (UInt8.not_lt.1 n1)
   subst he
   rw[zQp a b (fun h=>h1 (.inr ⟨rfl,h⟩)) (fun h=>h2 (.inr ⟨rfl,h⟩))]
theorem zPp:∀ {l:List Dep} {p:Option ByteArray},zBL p l=true→(∀ d∈l,okD d=true)∧(∀ i (h:i+1<l.length),lessB (l[i]'(by omega)).name l[i+1].name=true)∧(∀ (h:0<l.length),behind p l[0].name=true):=by
 intro l
 induction l with
 | nil=>intro p _;exact ⟨fun d hd=>(by cases hd),fun i h=>absurd h (by simp),fun h=>absurd h (by simp)⟩
 | cons d l ih=>
   intro p h
   unfold zBL at h
   simp only[Bool.and_eq_true] at h
   obtain ⟨⟨h1,h2,h3,h4⟩,h5⟩:=h
   obtain ⟨g1,g2,g3⟩:=ih h5
   refine ⟨fun x hx=>?_,fun i hi=>?_,fun _=>h4⟩
   ·rcases List.mem_cons.1 hx with rfl|hx
    ·unfold okD;rw[h1,h2,h3];rfl
    ·exact g1 x hx
   ·cases i with
    | zero=>exact g3 (by simpa using hi)
    | succ i=>exact g2 i (by simpa using hi)
theorem zQu:∀ {l:List Dep} {p:Option ByteArray},(∀ d∈l,okD d=true)→(∀ i (h:i+1<l.length),lessB (l[i]'(by omega)).name l[i+1].name=true)→(∀ (h:0<l.length),behind p l[0].name=true)→zBL p l=true:=by
 intro l
 induction l with
 | nil=>intro p _ _ _;rfl
 | cons d l ih=>
   intro p h1 h2 h3
   have hd:=h1 d (by simp)
   unfold okD at hd
   simp only[Bool.and_eq_true] at hd
   unfold zBL
   simp only[Bool.and_eq_true]
   refine ⟨⟨hd.1,hd.2.1,hd.2.2,h3 (by simp)⟩,ih (fun x hx=>h1 x (by simp[hx])) (fun i hi=>?_) (fun h=>?_)⟩
   ·exact h2 (i+1) (by simpa using hi)
   ·exact h2 0 (by simpa using h)
theorem zBc {l:List Dep}:softB l=true↔l.length≤16∧upB l=true∧∀ d∈l,okD d=true:=by
 unfold softB
 simp only[Bool.and_eq_true,decide_eq_true_eq,List.all_eq_true]
theorem zRq {l:List Dep} (h:listB l=true):softB l=true:=by
 have h':=h
 unfold listB at h
 rw[Bool.and_eq_true,decide_eq_true_eq] at h
 obtain ⟨g1,g2,_⟩:=zPp h.1
 refine zBc.2 ⟨h.2,zJo.2 fun i hi hlt=>?_,g1⟩
 have:=g2 i hi
 rw[zCg,decide_eq_true_eq] at this
 exact List.lt_irrefl _ (List.lt_trans this hlt)
theorem zFl {l:List Dep} (h:softB l=true) (hn:(zAQ l).Nodup):listB l=true:=by
 obtain ⟨h1,h2,h3⟩:=zBc.1 h
 unfold listB
 rw[Bool.and_eq_true,decide_eq_true_eq]
 refine ⟨zQu h3 (fun i hi=>?_) (fun _=>rfl),h1⟩
 rw[zCg,decide_eq_true_eq]
 have hup:=zJo.1 h2 i hi
 refine Classical.byContradiction fun hnl=>?_
 have he:=zAt (zQp _ _ hnl hup)
 have hi1:i<(zAQ l).length:=by unfold zAQ;rw[List.length_map];omega
 have hi2:i+1<(zAQ l).length:=by unfold zAQ;rw[List.length_map];omega
 have:=zK2 hn hi1 hi2 (by simp only[zAQ,List.getElem_map];exact he)
 omega
noncomputable def mayQ (a b c:List Dep):Bool:=listB a&&(listB b&&(listB c&&zCQ (zAM [a,b,c])))
theorem zL5 {a b c:List Dep} (h:(zAM [a,b,c]).Nodup):(zAQ a).Nodup∧(zAQ b).Nodup∧(zAQ c).Nodup:=by
 unfold zAM at h
 simp only[List.map_cons,List.map_nil,List.flatten_cons,List.flatten_nil,List.append_nil,List.nodup_append] at h
 exact ⟨h.1,h.2.1.1,h.2.1.2.1⟩
theorem zRO {a b c:List Dep} (ha:softB a=true) (hb:softB b=true) (hc:softB c=true) (h:(zAM [a,b,c]).Nodup):mayQ a b c=true:=by
 obtain ⟨n1,n2,n3⟩:=zL5 h
 unfold mayQ
 rw[zFl ha n1,zFl hb n2,zFl hc n3,zDa h]
 rfl
theorem zRh {a b c:List Dep} (h:¬(zAM [a,b,c]).Nodup):mayQ a b c=false:=by
 unfold mayQ
 rw[zF4 h]
 simp
def l3 (a b c:List Dep):Nat→List Dep
 | 0=>a
 | 1=>b
 | _=>c
theorem zQy {a b c:List Dep} {j:Nat} (hj:j<3) (h:softB (l3 a b c j)=false):mayQ a b c=false:=by
 have hl:listB (l3 a b c j)=false:=by
  rw[←Bool.not_eq_true]
  intro e
  rw[zRq e] at h
  cases h
 unfold mayQ
 have:j=0∨j=1∨j=2:=by omega
 rcases this with rfl|rfl|rfl
 ·rw[show listB a=false from hl];rfl
 ·rw[show listB b=false from hl];simp
 ·rw[show listB c=false from hl];simp
def catL (f:Nat→List Dep):Nat→List Dep
 | 0=>[]
 | k+1=>catL f k++f k
theorem zMt {f:Nat→List Dep}:∀ {k:Nat},(∀ j,j<k→(f j).length≤16)→(catL f k).length≤16 * k:=by
 intro k
 induction k with
 | zero=>intro _;simp[catL]
 | succ k ih=>
   intro h
   have h1:=ih (fun j hj=>h j (by omega))
   have h2:=h k (by omega)
   simp only[catL,List.length_append]
   omega
theorem zNj (a b c:List Dep):zAQ (catL (l3 a b c) 3)=zAM [a,b,c]:=by
 simp[catL,l3,zAQ,zAM,List.map_append]
theorem zLH {l:List ByteArray} (hs:l.Pairwise (fun x y=>¬y.data.toList<x.data.toList)) (ha:∀ i (h:i+1<l.length),l[i+1]≠l[i]'(by omega)):l.Nodup:=by
 rw[List.nodup_iff_pairwise_ne,List.pairwise_iff_getElem]
 intro i j hi hj hij e
 have hg:=List.pairwise_iff_getElem.1 hs
 have h1:¬(l[i+1]'(by omega)).data.toList<l[i].data.toList:=hg i (i+1) hi (by omega) (by omega)
 have h2:¬l[i].data.toList<(l[i+1]'(by omega)).data.toList:=by
  by_cases h:i+1=j
  ·subst h;rw[e];exact List.lt_irrefl _
  ·have:=hg (i+1) j (by omega) hj (by omega)
   rw[←e] at this
   exact this
 exact ha i (by omega) (zAt (zQp _ _ h1 h2))
theorem zN4 {l:List ByteArray} {i:Nat} (h:i+1<l.length) (e:l[i+1]=l[i]'(by omega)):¬l.Nodup:=fun hn=>by
 have:=zK2 hn h (by omega:i<l.length) e
 omega
theorem zId (A0 A1 A2:Option Addr) (n0 n1 n2 c0 c1 c2:Nat) (a b c:List Dep) (w:World) (S0 S1 S2:Nat→Prop) (h0:SlV rDep w S0 a (.slice A0 n0 c0)) (h1:SlV rDep w S1 b (.slice A1 n1 c1)) (h2:SlV rDep w S2 c (.slice A2 n2 c2)) :
  Calls Tryz.prog 127 #[.slice A0 n0 c0,.slice A1 n1 c1,.slice A2 n2 c2] w fun e w'=>e=.returned (.bool (mayQ a b c))∧Below w.heap.size w w':=by
 obtain ⟨v,hv⟩:∃ v:Nat→Value,v=fun|0=>.slice A0 n0 c0|1=>.slice A1 n1 c1|_=>.slice A2 n2 c2:=⟨_,rfl⟩
 have hls:∀ j,j<3→SlV rDep w (fun b=>b<w.heap.size) (l3 a b c j) (v j):=fun j hj=>by
  have:j=0∨j=1∨j=2:=by omega
  rcases this with rfl|rfl|rfl
  ·rw[hv];exact h0.more fun b _ h=>h
  ·rw[hv];exact h1.more fun b _ h=>h
  ·rw[hv];exact h2.more fun b _ h=>h
 have HLs:=cH hls
 have Hyes:=cH (fun x y z t=>zRO (a:=a) (b:=b) (c:=c) x y z t)
 have Hdup:=cH (fun h=>zRh (a:=a) (b:=b) (c:=c) h)
 have Hhard:=cH (fun j (hj:j<3) h=>zQy (a:=a) (b:=b) (c:=c) (j:=j) hj h)
 have Hcat:Hid (zAQ (catL (l3 a b c) 3)=zAM [a,b,c]):=zNj a b c
 have Hs0:Hid (∀ k:Nat,(∀ j,j<3→softB (l3 a b c j)=true)→softB a=true∧softB b=true∧softB c=true):=fun _ h=>⟨h 0 (by decide),h 1 (by decide),h 2 (by decide)⟩
 have hcells:zCT [] 3 v=#[.slice A0 n0 c0,.slice A1 n1 c1,.slice A2 n2 c2]:=by rw[hv];rfl
 clear h0 h1 h2 hls
 generalize mayQ a b c=r at *
 generalize l3 a b c=f at *
 go_enter Tryz.func127,Tryz.ntmps127
 go_upto_region 4 with (fail)
 obtain ⟨w1,hw1⟩:∃ w1,w1=w.alloc (.cells #[.slice A0 n0 c0,.slice A1 n1 c1,.slice A2 n2 c2] 22):=⟨_,rfl⟩
 have HPa:Hid (zAs w.heap.size [] 22 3 w1 v):=by unfold Hid zAs;rw[hw1,hcells];exact heap_alloc_new w _
 have HB1:Hid (Below w.heap.size w w1):=by unfold Hid;rw[hw1];exact bal (bR _ _) _
 have hz1:w.heap.size<w1.heap.size:=HPa.out.lt
 rw[←hw1]
 clear hw1 hcells hv
 go_loopw [8,19] (fun x i wr=>∃ (k:Nat) (S:Nat→Prop),k≤3∧i=.int .i64 k∧Hid (∀ j,j<k→softB (f j)=true)∧Hid (Own rDep wr w1.heap.size 158 x (catL f k) S)∧Hid (∀ b,S b→b<w1.heap.size)∧Hid (Below w1.heap.size w1 wr)) (fun _ i _=>3 - (intOf i).toNat)
 case atStart=>exact ⟨0,fun _=>False,by decide,rfl,fun j hj=>absurd hj (by omega),Own.nil_ _ _ _ _ (fun b hb=>hb.elim),fun b hb=>hb.elim,bR _ _⟩
 case round=>
  obtain ⟨k,S,hk,rfl,Hsoft,Hown,HS,HB⟩:=hrel
  have HBw:=cH (bot HB1.out HB.out)
  have hzr:=HB.out.size
  have hk0:(0:Int)≤(k:Int):=by omega
  by_cases hlt:k<3
  case neg=>
   obtain rfl:k=3:=by omega
   have hI3:¬(3:Int)<3:=by omega
   have hcl:(catL f 3).length≤48:=zMt (fun j hj=>(zBc.1 (Hsoft.out j hj)).1)
   have Hsort:=cH (zLi u8 (catL f 3) wr w1.heap.size S Hown.out (by omega))
   rw[Hcat.out] at Hsort
   obtain ⟨hs1,hs2,hs3⟩:=Hs0.out 0 Hsoft.out
   have Hyes':=cH (Hyes.out hs1 hs2 hs3)
   have hcn:(zAM [a,b,c]).length≤48:=by rw[←Hcat.out];unfold zAQ;rw[List.length_map];exact hcl
   have Hcn:=cH hcn
   clear hs1 hs2 hs3 Hyes Hs0 Hhard hcl hcn Hsoft Hown HS
   go_wp2_with fail
   refine Hsort.out.mono ?_
   rintro e w2 ⟨rfl,l',hperm,hsrt,hs',hbb⟩
   have HB2:Hid (Below w.heap.size w w2):=HBw.out.trans ((hbb hzr).mono (Nat.le_of_lt hz1))
   have hnd:l'.Nodup↔(zAM [a,b,c]).Nodup:=hperm.nodup_iff
   have hll:l'.length≤48:=by rw[hperm.length_eq];exact Hcn.out
   have Hno:Hid (∀ i (h:i+1<l'.length),l'[i+1]=l'[i]'(by omega)→r=false):=fun i h e=>Hdup.out (fun hn=>zN4 h e (hnd.2 hn))
   have Hyes2:Hid ((∀ i (h:i+1<l'.length),l'[i+1]≠l'[i]'(by omega))→r=true):=fun h=>Hyes'.out (hnd.1 (zLH hsrt h))
   obtain ⟨A,cc,rfl,hc1,hc2⟩:=hs'.val
   obtain ⟨m,hm⟩:∃ m,m=l'.length:=⟨_,rfl⟩
   rw[←hm] at hs' hc1 hll ⊢
   have Hs':=cH (hs'.more (S':=fun b=>b<w2.heap.size) fun b _ h=>h)
   have Hm:=cH hm
   unfold maxLen at hc2
   clear hperm hsrt hs' hbb hnd hm Hdup Hyes' Hsort HBw HB Hcat Hcn hzr
   go_wp2_with fail
   go_loopw [13] (fun t wi=>∃ k:Nat,1≤k∧(k≤m∨k=1)∧t=.int .i64 k∧Hid (∀ i (h:i+1<l'.length),i+1<k→l'[i+1]≠l'[i]'(by omega))∧Hid (Below w2.heap.size w2 wi)) (fun t _=>m - (intOf t).toNat)
   case atStart=>exact ⟨1,nR _,.inr rfl,rfl,fun i h hi=>absurd hi (by omega),bR _ _⟩
   case round=>
    obtain ⟨k,hk1,hkm,rfl,Hne,HBi⟩:=hrel
    have HBf:=cH (bot HB2.out HBi.out)
    by_cases hlt:k<m
    case neg=>
     have hlI:¬(k:Int)<(m:Int):=by omega
     have hr:=Hyes2.out (fun i h=>Hne.out i h (by have:=Hm.out;omega))
     subst hr
     clear Hyes2 Hno Hne
     go_wp2_with fail
     go_ret
     exact ⟨rfl,HBf.out⟩
    obtain ⟨q,rfl⟩:∃ q,k=q+1:=⟨k - 1,by omega⟩
    have hq1:q+1<l'.length:=by have:=Hm.out;omega
    have hlw:=Hs'.out.belowSize HBi.out
    obtain ⟨b1,o1,cs,rfl,_,hbl,⟨⟨A',n',c',rfl⟩,_⟩,hcell⟩:=hlw.elem (gE hq1)
    obtain ⟨b2,o2,cs2,he2,_,_,⟨⟨A'',n'',c'',rfl⟩,_⟩,hcell2⟩:=hlw.elem (gE (show q<l'.length by omega))
    injection he2 with he2
    injection he2 with e1 e2 _
    subst e1 e2
    have x0:=hcell 0 _ rfl
    have x1:=hcell2 0 _ rfl
    simp only[rNm,Nat.add_zero] at x0 x1
    have Hn:=cH (fun e=>Hno.out q hq1 e)
    have Hy:Hid (l'[q+1]≠l'[q]→∀ i (h:i+1<l'.length),i+1<q+1+1→l'[i+1]≠l'[i]'(by omega)):=fun h i hi hiq=>by
     by_cases e:i=q
     ·subst e;exact h
     ·exact Hne.out i hi (by omega)
    have hw1:IntKind.i64.wrap (((q+1:Nat):Int) - 1)=(q:Int):=by rw[IntWalk.i64_in _ ⟨by omega,by omega⟩];omega
    have hw2:IntKind.i64.wrap ((q:Int)+1 - 1)=(q:Int):=by rw[IntWalk.i64_in _ ⟨by omega,by omega⟩];omega
    have hq0:(0:Int)≤(q:Int):=by omega
    have hqm:(q:Int)<(m:Int):=by omega
    have hqm1:((q+1:Nat):Int)<(m:Int):=by omega
    have hq01:(0:Int)≤((q+1:Nat):Int):=by omega
    clear hcell hcell2 hlw Hno Hne
    generalize l'[q+1]=nx at *
    generalize l'[q]=ny at *
    by_cases he:nx=ny
    ·have hr:=Hn.out he
     have hbe:=zBe he
     subst hr
     clear Hn Hy Hyes2 he
     go_wp2_with fail
     have r_x0:=cR x0
     have r_x1:=cR x1
     go_wp2_with fail
     refine wQ ?_
     repeat (go_big_quiet_step (first|fail))
     refine wpQuiet_nil fun wq Bq=>?_
     have HBq:=cH (bot HBf.out Bq)
     clear Bq r_x0 r_x1
     go_wp2_with fail
     go_ret
     exact ⟨rfl,HBq.out⟩
    ·have Hy':=cH (Hy.out he)
     have hbe:=zBD he
     clear Hn Hy he
     go_wp2_with fail
     have r_x0:=cR x0
     have r_x1:=cR x1
     go_wp2_with fail
     refine wQ ?_
     repeat (go_big_quiet_step (first|fail))
     refine wpQuiet_nil fun wq Bq=>?_
     have HBq:=cH (bot HBi.out Bq)
     clear Bq r_x0 r_x1
     go_wp2_with fail
     go_roundw
     case rel=>exact ⟨q+1+1,by omega,.inl (by omega),by go_num,Hy',HBq⟩
     case measure=>simp[intOf];omega
  have hkI:(k:Int)<3:=by omega
  have hls:=HLs.out k hlt
  obtain ⟨Ak,ck,hvk,hck1,hck2⟩:=hls.val
  have hp:=(HPa.out.keep HB.out).cell hlt
  rw[hvk] at hls hp
  simp only[List.length_nil,Nat.zero_add] at hp
  obtain ⟨nk,hnk⟩:∃ nk,nk=(f k).length:=⟨_,rfl⟩
  rw[←hnk] at hp hls hck1
  have Hnk:=cH hnk
  have Hlk:=cH hls
  have hhard:=Hhard.out k hlt
  have Hhk:=cH hhard
  unfold maxLen at hck2
  clear hhard hls hvk hnk
  by_cases h16:nk≤16
  case neg=>
   have hr:=Hhk.out (by
    rw[←Bool.not_eq_true]
    intro e
    have:=(zBc.1 e).1
    have:=Hnk.out
    omega)
   subst hr
   have h16I:(16:Int)<(nk:Int):=by omega
   clear Hhk Hyes Hdup Hhard Hsoft
   go_wp2_with fail
   go_ret
   exact ⟨rfl,HBw.out⟩
  have h16I:¬(16:Int)<(nk:Int):=by omega
  have Hsd:=cH (zKu Ak nk ck (f k) wr _ (Hlk.out.belowSize HBw.out))
  cases hup:upB (f k) with
  | false=>
    have hr:=Hhk.out (by
     rw[←Bool.not_eq_true]
     intro e
     have:=(zBc.1 e).2.1
     rw[hup] at this
     cases this)
    subst hr
    rw[hup] at Hsd
    clear Hhk Hyes Hdup Hhard Hsoft hup
    go_wp2_with fail
    refine Hsd.out.mono ?_
    rintro e w2 ⟨rfl,hb2⟩
    go_wp2_with fail
    go_ret
    exact ⟨rfl,bot HBw.out hb2⟩
  | true=>
  rw[hup] at Hsd
  have Hup:=cH hup
  clear hup
  go_wp2_with fail
  refine Hsd.out.mono ?_
  rintro e w2 ⟨rfl,hb2⟩
  have HB2:=cH (bot HB.out hb2)
  have HBw2:=cH (bot HBw.out hb2)
  have Hown2:=cH (Hown.out.keep hb2)
  clear hb2 HB HBw Hown hzr hp Hsd
  have hzr:=HB2.out.size
  obtain ⟨wo,hwo⟩:∃ wo:World,wo=w2:=⟨_,rfl⟩
  subst hwo
  go_wp2_with fail
  go_loopw [34] (fun t wi=>∃ q:Nat,q≤nk∧t=.int .i64 q∧Hid (∀ i (h:i<(f k).length),i<q→okD (f k)[i]=true)∧Hid (Below wo.heap.size wo wi)) (fun t _=>nk - (intOf t).toNat)
  case atStart=>exact ⟨0,nZ _,rfl,fun i h hi=>absurd hi (by omega),bR _ _⟩
  case round=>
   obtain ⟨q,hq,rfl,Hok,HBi⟩:=hrel
   have HBwi:=cH (bot HBw2.out HBi.out)
   have hq0:(0:Int)≤(q:Int):=by omega
   by_cases hql:q<nk
   case neg=>
    obtain rfl:q=nk:=by omega
    have hqI:¬(q:Int)<(q:Int):=by omega
    have hsk:softB (f k)=true:=zBc.2 ⟨by have:=Hnk.out;omega,Hup.out,fun d hd=>by
     obtain ⟨i,hi,rfl⟩:=List.mem_iff_getElem.1 hd
     exact Hok.out i hi (by have:=Hnk.out;omega)⟩
    have Hsk:=cH hsk
    have Hown3:=cH (Hown2.out.keep HBi.out)
    have HB3:=cH (bot HB2.out HBi.out)
    have Hl3:=cH ((Hlk.out.belowSize HBwi.out).more (S':=fun b=>b<w1.heap.size) fun b hb _=>Nat.lt_trans hb hz1)
    have hcl:(catL f k).length≤16 * k:=zMt (fun j hj=>(zBc.1 (Hsoft.out j hj)).1)
    have Hcl:=cH hcl
    have hz3:=HB3.out.size
    have hlo:=fun g hg=>(Hown3.out.lt g hg).1
    have Hlo:=cH hlo
    clear hsk hcl hlo Hok HBi HBwi Hown2 HB2 HBw2
    go_wp2_with (at_builtin;refine zCd (by rfl) _ _ _ (by rfl) zLj Tryz.underlying22 (by rfl) Hown3.out (fun b=>b<w1.heap.size) (f k) _ _ _ (by rfl) Hl3.out (by intro b hb he;have:=Hlo.out b he;omega) (by rw[←Hnk.out];have:=Hcl.out;unfold maxLen;omega) (by rw[←Hnk.out];have:=Hcl.out;omega) hz3 ?_)
    intro v4 w4 hown4 hgrow4 hat4
    have HB4:Hid (Below w1.heap.size w1 w4):=HB3.out.grown hgrow4 hz3 (fun g hg=>Hlo.out g hg)
    have Hown4:=cH hown4
    clear hown4 hgrow4 hat4 Hown3 HB3 Hl3 Hcl Hlo
    go_wp2_with fail
    go_roundw
    case rel=>
     refine ⟨k+1,_,by omega,by go_num,fun j hj=>?_,Hown4,fun b hb=>?_,HB4⟩
     ·by_cases e:j=k
      ·subst e;exact Hsk.out
      ·exact Hsoft.out j (by omega)
     ·rcases hb with hb|hb
      ·exact HS.out b hb
      ·exact hb.1
    case measure=>simp[intOf];omega
   have hqI:(q:Int)<(nk:Int):=by omega
   have hqx:q<(f k).length:=by have:=Hnk.out;omega
   have hlw:=Hlk.out.belowSize HBwi.out
   obtain ⟨bd,od,cs,rfl,_,hbl,⟨s0,rfl,hnz,hsr⟩,hcell⟩:=hlw.elem (gE hqx)
   obtain ⟨Ar,cr,rfl,_,hcr⟩:=hsr.val
   have e0:=hcell 0 _ rfl
   have e1:=hcell 1 _ rfl
   simp only[rDep,Nat.add_zero] at e0 e1
   have Hbad:Hid (okD (f k)[q]=false→r=false):=fun h=>Hhk.out (by
    rw[←Bool.not_eq_true]
    intro e
    rw[(zBc.1 e).2.2 _ (List.getElem_mem hqx)] at h
    cases h)
   have Hgood:Hid (okD (f k)[q]=true→∀ i (h:i<(f k).length),i<q+1→okD (f k)[i]=true):=fun h i hi hiq=>by
    by_cases e:i=q
    ·subst e;exact h
    ·exact Hok.out i hi (by omega)
   have HokD:Hid (okD (f k)[q]=(nameB (f k)[q].name&&(zAp (f k)[q].range&&decide ((f k)[q].range.length≠0)))):=rfl
   have HN:Hid (∀ W,Calls Tryz.prog 61 #[.string (f k)[q].name] W fun e w'=>e=.returned (.bool (nameB (f k)[q].name))∧Below W.heap.size W w'):=fun W=>zA2 _ hnz W
   have HM:Hid (∀ W,Below wr.heap.size wr W→Calls Tryz.prog 188 #[.slice Ar (f k)[q].range.length cr] W fun e w'=>e=.returned (.bool (zAp (f k)[q].range))∧Below W.heap.size W w'):=fun W hW=>zEy _ _ _ _ W _ (hsr.belowSize hW)
   unfold maxLen at hcr
   clear hcell hlw
   generalize okD (f k)[q]=og at *
   generalize nameB (f k)[q].name=g1 at *
   generalize (f k)[q].name=dn at *
   generalize zAp (f k)[q].range=g2 at *
   generalize hnr:(f k)[q].range.length=nr at *
   have hqbd:bd<wr.heap.size:=hbl
   have hne:bd≠wr.heap.size:=by omega
   have Hsr:=cH hsr
   clear hsr hnr
   go_upto_region 11 with (fail)
   obtain ⟨w5,hw5⟩:∃ w5,w5=wr.alloc (.cells #[.string dn,.slice Ar nr cr] 158):=⟨_,rfl⟩
   have hr5:w5.heap[wr.heap.size]?=some (.cells #[.string dn,.slice Ar nr cr] 158 (0,0)):=by rw[hw5];exact heap_alloc_new wr _
   have hb5:Below wr.heap.size wr w5:=by rw[hw5];exact bal (bR _ _) _
   have hz5:wr.heap.size<w5.heap.size:=(aS.1 hr5).1
   rw[←hw5]
   obtain ⟨⟨a0,a1⟩,_⟩:=row2 hr5
   have Hr5:=cH hr5
   have HB5:=cH (bot HBi.out hb5)
   have HBw5:=cH (bot HBwi.out hb5)
   have Hb5:=cH hb5
   clear hw5 hr5 hb5 e0 e1
   go_wp2_with fail
   refine (HN.out w5).mono ?_
   rintro e w6 ⟨rfl,hb6⟩
   obtain ⟨⟨d0,d1⟩,_⟩:=row2 ((hb6.block _ hz5).trans Hr5.out)
   have HB6:=cH (bot HB5.out hb6)
   have HBw6:=cH (bot HBw5.out hb6)
   have Hb6:=cH (bot Hb5.out hb6)
   have hr6:=(hb6.block _ hz5).trans Hr5.out
   have hz6:wr.heap.size<w6.heap.size:=lL hz5 hb6.size
   clear hb6 HB5 HBw5 Hb5 Hr5 a0 a1 HN
   cases g1 with
   | false=>
     have hr:=Hbad.out (by rw[HokD.out];rfl)
     subst hr
     clear Hbad Hgood HokD HM Hhk Hyes Hdup Hhard
     go_wp2_with fail
     go_ret
     exact ⟨rfl,HBw6.out⟩
   | true=>
   go_wp2_with fail
   refine (HM.out w6 Hb6.out).mono ?_
   rintro e w7 ⟨rfl,hb7⟩
   obtain ⟨⟨a0,a1⟩,_⟩:=row2 ((hb7.block _ hz6).trans hr6)
   have HB7:=cH (bot HB6.out hb7)
   have HBw7:=cH (bot HBw6.out hb7)
   clear hb7 HB6 HBw6 Hb6 d0 d1 HM hr6
   cases g2 with
   | false=>
     have hr:=Hbad.out (by rw[HokD.out];rfl)
     subst hr
     clear Hbad Hgood HokD Hhk Hyes Hdup Hhard
     go_wp2_with fail
     go_ret
     exact ⟨rfl,HBw7.out⟩
   | true=>
   by_cases hn0:nr=0
   ·have hr:=Hbad.out (by rw[HokD.out,hn0];rfl)
    subst hr hn0
    clear Hbad Hgood HokD Hhk Hyes Hdup Hhard
    go_wp2_with fail
    go_ret
    exact ⟨rfl,HBw7.out⟩
   ·have hg:=Hgood.out (by rw[HokD.out];simp[hn0])
    have Hg:=cH hg
    have hnI:((nr:Int)==0)=false:=by rw[beq_eq_false_iff_ne];omega
    clear Hbad Hgood HokD hg hn0 Hok
    go_wp2_with fail
    go_roundw
    case rel=>exact ⟨q+1,by omega,by go_num,Hg,HB7⟩
    case measure=>simp[intOf];omega
def cut (s:List UInt8) (b k:Nat):List UInt8:=(s.take k).drop b
end Go.Proofs.YthbnmehbhpakaaaGreatDoor
namespace Go.Proofs.YthbnmehbhpakaaaGreatDoor
open Go
def zF0 (J:Nat→Act→World→Prop) (Q:Exit→Act→World→Prop):Exit→Act→World→Prop
 | .goto l,a,w=>J l a w
 | e,a,w=>Q e a w
theorem zHm {P:Program} {a:Act} {w:World} {Q:Exit→Act→World→Prop} {c:Code} (J:Nat→Act→World→Prop) (μ:Nat→Act→World→Nat)
  (first:c.wp P (zF0 J Q) a w)
  (pass:∀ l a w,J l a w→∃ rest,findLabel c l=some rest∧rest.wp P (zF0 (fun l' a' w'=>J l' a' w'∧μ l' a' w'<μ l a w) Q) a w):(Code.scope c).wp P Q a w:=by
 intro b k cs
 have key:∀ n l a w,μ l a w=n→J l a w→∃ rest,gotoIn l (.inScope c::k)=some (.code rest::.inScope c::k)∧∃ e a' w',Q e a' w'∧Arrives P (lone (b.at a (.code rest::.inScope c::k)) cs w) b k cs e a' w':=by
  intro n
  induction n using Nat.strongRecOn with
  | _ n ih=>
    intro l a w hn hJ
    obtain ⟨rest,hf,hp⟩:=pass l a w hJ
    have hg:gotoIn l (.inScope c::k)=some (.code rest::.inScope c::k):=by simp[gotoIn,hf]
    refine ⟨rest,hg,?_⟩
    obtain ⟨e,a₁,w₁,hq,harr⟩:=hp b (.inScope c::k) cs
    cases e with
    | normal=>exact ⟨.normal,a₁,w₁,hq,Steps.trans harr (.one step_inScope)⟩
    | exit id=>exact ⟨.exit id,a₁,w₁,hq,fun k' hk=>harr k' (by simp[exitTo,hk])⟩
    | goto l'=>
      obtain ⟨hJ',hlt⟩:=hq
      obtain ⟨rest₂,hg₂,e₂,a₂,w₂,hq₂,harr₂⟩:=ih _ (by omega) l' a₁ w₁ rfl hJ'
      exact ⟨e₂,a₂,w₂,hq₂,.of_steps (harr _ hg₂) harr₂⟩
    | ret=>exact ⟨_,a₁,w₁,hq,harr⟩
    | panic ch=>exact ⟨_,a₁,w₁,hq,harr⟩
    | outgrown=>exact ⟨_,a₁,w₁,hq,harr⟩
 obtain ⟨e,a₁,w₁,hq,harr⟩:=first b (.inScope c::k) cs
 cases e with
 | normal=>exact ⟨.normal,a₁,w₁,hq,.head step_scope (Steps.trans harr (.one step_inScope))⟩
 | exit id=>exact ⟨.exit id,a₁,w₁,hq,fun k' hk=>.head step_scope (harr k' (by simp[exitTo,hk]))⟩
 | goto l'=>
   obtain ⟨rest₂,hg₂,e₂,a₂,w₂,hq₂,harr₂⟩:=key _ l' a₁ w₁ rfl hq
   exact ⟨e₂,a₂,w₂,hq₂,.of_steps (.head step_scope (harr _ hg₂)) harr₂⟩
 | ret=>exact ⟨_,a₁,w₁,hq,.of_steps (.one step_scope) harr⟩
 | panic ch=>exact ⟨_,a₁,w₁,hq,.of_steps (.one step_scope) harr⟩
 | outgrown=>exact ⟨_,a₁,w₁,hq,.of_steps (.one step_scope) harr⟩
