/- Paths held against one another; the place of a directory. -/
import Derived.Test.YthbnmehbhpakaaaGreatDoorBk03
import Derived.Test.YthbnmehbhpakaaaGreatDoorBk02
import Derived.Test.YthbnmehbhpakaaaGreatDoorBk01
import Derived.Laws.OwnMore
import Derived.Deep.AppendSrc
import Derived.Deep.Upon
import Derived.Shelf.Strings.Builder1
import Derived.Shelf.Strings.Builder2
import Derived.Shelf.Strings.OnBuilder
import Derived.Shelf.Strings.Trim
import Derived.Shelf.Small.Utf8
import Derived.Shelf.Small.Bits
import Derived.Shelf.Small.Strs
import Derived.Shelf.Small.Wraps
import Derived.Shelf.Strings.BuilderF
import Derived.Shelf.Strings.BuilderK
import Derived.Shelf.Utf8.RuneCount
import Derived.Shelf.Strings.Builder2Cap
import Derived.Shelf.Strconv.Atoi
import Derived.Shelf.Strconv.Itoa0
import Derived.Shelf.Strconv.Itoa1
import Derived.Shelf.LaysM
import Derived.Shelf.Strconv.Itoa2
import Derived.Shelf.Strconv.Itoa3
import Derived.Shelf.Strconv.AtoiErrFast
import Derived.Shelf.Strconv.ParseIntEmpty
import Derived.Shelf.Strconv.AtoiFail
import Derived.Shelf.Strconv.Clone
import Derived.Shelf.Strconv.SyntaxError
import Derived.Shelf.LaysC
import Derived.Shelf.Strconv.ToError
import Derived.Shelf.Strconv.Lower
import Derived.Shelf.Strconv.ParseUint10
import Derived.Shelf.Strconv.ParseUint10Empty
import Derived.Shelf.Strconv.ParseUint10Any
import Derived.Shelf.Strconv.ParseInt10
import Derived.Shelf.Strconv.AtoiLong
import Derived.Shelf.Strconv.AtoiInnerAll
import Derived.Shelf.Strconv.RangeError
import Derived.Shelf.Strconv.ToErrorRange
import Derived.Shelf.Strconv.AtoiAll
import Derived.Shelf.Strings.Search1
import Derived.Shelf.Strings.Search2
import Derived.Shelf.Strings.Search3
import Derived.Shelf.Strings.Count
import Derived.Shelf.Strings.Shaped
import Derived.Shelf.Strings.LastIndex
import Derived.Shelf.Strings.Prefix
import Derived.Shelf.Strings.Split
import Derived.Shelf.Strings.SplitShaped
import Derived.Shelf.Unicode.Decode
import Derived.Shelf.Strings.Runes
import Derived.Shelf.Strings.RuneCount
import Derived.Shelf.Strings.AsciiSet
import Derived.Shelf.Strings.Explode
import Derived.Shelf.Unicode.DecodeSlow
import Derived.Shelf.Unicode.DecodeAny
import Derived.Shelf.Unicode.DecodeLast
import Derived.Shelf.Slices.Equal
import Derived.Ground.Names2Prog
import Derived.Shelf.Slices.SearchI
import Derived.Shelf.Slices.Empties2
import Derived.Ground.SlsfProg
import Derived.Shelf.SlSortCmp.Insertion
import Derived.Shelf.SlSortCmp.SiftDown1
import Derived.Shelf.SlSortCmp.HeapSort1
import Derived.Shelf.SlSortCmp.Insertion1
import Derived.Shelf.SlSortCmp.Median1
import Derived.Shelf.SlSortCmp.Pivot1
import Derived.Shelf.SlSortCmp.ReverseRange1
import Derived.Shelf.SlSortCmp.PartialInsertion1
import Derived.Shelf.SlSortCmp.PartitionEqual1
import Derived.Shelf.SlSortCmp.Partition1
import Derived.Shelf.SlSortCmp.Pdq1
import Derived.Shelf.SlSortCmp.Whole1
import Derived.Shelf.SlSortCmp.NoneTotal
import Derived.Test.YthbnmehbhpakaaaGreatDoorProg
import Derived.Lib.SlTrimSet
import Derived.Test.YthbnmehbhpakaaaGreatDoorRows
import Derived.WalkKit
import Derived.WalkSpells
import Derived.WalkLawsBesides
import Derived.IntWalk
import Derived.Lib.Hide
import Derived.Test.YthbnmehbhpakaaaGreatDoorAl
set_option linter.all false
set_option maxHeartbeats 1600000
set_option maxRecDepth 100000
namespace Go.Proofs.YthbnmehbhpakaaaGreatDoor
open Go.Rows Go.RowKit Go.Shelf Go.Sort
def zBJ (q:Dir→Bool):List Dir→Nat→Int
 | [],_=>-1
 | d::l,k=>bif q d then (k:Int) else zBJ q l (k+1)
def zGJ (q:Dir→Bool) (t:List Dir):Int:=zBJ q t 0
theorem zNq (q:Dir→Bool) {t:List Dir} {k:Nat} (h:k<t.length):zBJ q (t.drop k) k=bif q t[k] then (k:Int) else zBJ q (t.drop (k+1)) (k+1):=by
 rw[dC h,zBJ]
theorem firstGo_le (q:Dir→Bool):∀ (t:List Dir) (k:Nat),(zBJ q t k=-1∧t.any q=false)∨∃ j:Nat,zBJ q t k=(j:Int)∧k≤j∧j<k+t.length∧t.any q=true:=by
 intro t
 induction t with
 | nil=>intro k;exact .inl ⟨rfl,rfl⟩
 | cons d l ih=>
   intro k
   rw[zBJ,List.any_cons]
   cases q d
   ·rcases ih (k+1) with h|⟨j,h,hj,hl,ha⟩
    ·exact .inl h
    ·exact .inr ⟨j,h,by omega,by rw[List.length_cons];omega,by rw[ha];rfl⟩
   ·exact .inr ⟨k,rfl,nR _,by rw[List.length_cons];omega,rfl⟩
theorem firstI_lt (q:Dir→Bool) (t:List Dir):(zGJ q t=-1∧t.any q=false)∨∃ j:Nat,zGJ q t=(j:Int)∧j<t.length∧t.any q=true:=by
 rcases firstGo_le q t 0 with h|⟨j,h,_,hj,ha⟩
 ·exact .inl h
 ·exact .inr ⟨j,h,by omega,ha⟩
noncomputable def findI (t:List Dir) (p:List ByteArray):Int:=zGJ (fun d=>eqB d.path p) t
theorem zIj (A B:Option Addr) (n m c d:Nat) (xs ys:List ByteArray) (w:World) (S T:Nat→Prop) (hx:SlV rStr w S xs (.slice A n c)) (hy:SlV rStr w T ys (.slice B m d)) :
  Calls Tryz.prog 75 #[.slice A n c,.slice B m d] w fun e w'=>e=.returned (.bool (eqB xs ys))∧Below w.heap.size w w':=by
 have hnx:=hx.n_eq
 have hny:=hy.n_eq
 have hcx:=hx.cap_le
 have hcy:=hy.cap_le
 unfold maxLen at hcx hcy
 by_cases hnm:n=m
 ·by_cases h0:n=0
  ·subst h0;subst hnm
   have e1:xs=[]:=List.eq_nil_of_length_eq_zero hnx.symm
   have e2:ys=[]:=List.eq_nil_of_length_eq_zero hny.symm
   refine (Tryz.slices_Equal_string_empty A B c 0 d w (by omega)).mono ?_
   rintro e w' ⟨rfl,rfl⟩
   exact ⟨by rw[zAF (e1.trans e2.symm)];rfl,bR _ _⟩
  ·have hx0:0<xs.length:=by omega
   have hy0:0<ys.length:=by omega
   obtain ⟨b,o,cs,rfl,_,_,_,_⟩:=hx.elem (gE hx0)
   obtain ⟨b',o',cs',rfl,_,_,_,_⟩:=hy.elem (gE hy0)
   refine (Tryz.slices_Equal_string b o n c b' o' m d xs ys w (by omega) (by omega) (by omega) (by omega) (fun j hj=>?_) (fun j hj=>?_)).mono ?_
   ·obtain ⟨b2,o2,cs2,e,_,_,⟨rfl,_⟩,hcell⟩:=hx.elem (gE hj)
    have:=hcell 0 _ rfl
    simp only[Option.some.injEq,Addr.mk.injEq] at e
    obtain ⟨rfl,rfl,_⟩:=e
    simp only[rStr,Nat.add_zero,Nat.mul_one] at this
    rw[this,List.getD_eq_getElem?_getD,gE hj];rfl
   ·obtain ⟨b2,o2,cs2,e,_,_,⟨rfl,_⟩,hcell⟩:=hy.elem (gE hj)
    have:=hcell 0 _ rfl
    simp only[Option.some.injEq,Addr.mk.injEq] at e
    obtain ⟨rfl,rfl,_⟩:=e
    simp only[rStr,Nat.add_zero,Nat.mul_one] at this
    rw[this,List.getD_eq_getElem?_getD,gE hj];rfl
   ·rintro e w' ⟨rfl,q,rfl⟩
    refine ⟨?_,⟨rfl,rfl,rfl,nR _,fun _ _=>rfl⟩⟩
    rw[hnx,hny,List.take_length,List.take_length]
    by_cases e:xs=ys
    ·rw[zAF e,decide_eq_true e]
    ·rw[zAD e,decide_eq_false e]
 ·refine (Tryz.slices_Equal_string_lens A B n c m d w hnm).mono ?_
  rintro e w' ⟨rfl,rfl⟩
  exact ⟨by rw[zAD (by rintro rfl;omega)],bR _ _⟩
theorem zMb (A B:Option Addr) (n m c d:Nat) (xs ys:List ByteArray) (w:World) (S T:Nat→Prop) (hx:SlV rStr w S xs (.slice A n c)) (hy:SlV rStr w T ys (.slice B m d)) :
  Calls Tryz.prog 54 #[.slice A n c,.slice B m d] w fun e w'=>e=.returned (.bool (eqB xs ys))∧Below w.heap.size w w':=by
 have hnx:=hx.n_eq
 have hny:=hy.n_eq
 have hcx:=hx.cap_le
 have hcy:=hy.cap_le
 unfold maxLen at hcx hcy
 by_cases hnm:n=m
 ·have hb:((n:Int) != (m:Int))=false:=by simp[hnm]
  have hn63:n≤9223372036854775807:=by omega
  have hx':=hx.more (S':=fun b=>b<w.heap.size) fun b _ h=>h
  have hy':=hy.more (S':=fun b=>b<w.heap.size) fun b _ h=>h
  have Hpos:Hid (xs=ys→eqB xs ys=true):=fun h=>zAF h
  have Hneg:Hid (xs≠ys→eqB xs ys=false):=fun h=>zAD h
  have Hnm:=cH hnm;clear hnm
  have Hnx:=cH hnx;clear hnx
  have Hny:=cH hny;clear hny
  clear hcx hcy hx hy
  generalize eqB xs ys=r at *
  go_enter Tryz.func54,Tryz.ntmps54
  go_wp2_with fail
  go_loopw [5] (fun i wr=>∃ k:Nat,k≤n∧i=.int .i64 k∧Hid (xs.take k=ys.take k)∧Below w.heap.size w wr) (fun i _=>n - (intOf i).toNat)
  case atStart=>exact ⟨0,nZ _,rfl,by simp[Hid],bR _ _⟩
  case round=>
   obtain ⟨k,hk,rfl,heq,hbel⟩:=hrel
   by_cases hlt:k<n
   ·have hkx:k<xs.length:=by have:=Hnx.out;omega
    have hky:k<ys.length:=by have:=Hny.out;have:=Hnm.out;omega
    have hkm:k<m:=by have:=Hnm.out;omega
    have hxw:=hx'.below hbel (fun b h=>h)
    have hyw:=hy'.below hbel (fun b h=>h)
    obtain ⟨b,o,cs,rfl,_,hb1,⟨rfl,_⟩,hcell⟩:=hxw.elem (gE hkx)
    obtain ⟨b',o',cs',rfl,_,hb2,⟨rfl,_⟩,hcell'⟩:=hyw.elem (gE hky)
    have c0:=hcell 0 _ rfl
    have d0:=hcell' 0 _ rfl
    simp only[rStr,Nat.add_zero,Nat.mul_one] at c0 d0
    clear hcell hcell' hxw hyw
    have Hne:=cH (fun h=>ne_at hkx hky h)
    have Hen:=cH (fun h=>zB9 heq.out hkx hky h)
    have Hq2:Hid (xs[k]≠ys[k]→r=false):=fun h=>Hneg.out (Hne.out h)
    clear Hne
    have hk0:(0:Int)≤(k:Int):=by omega
    have hkn:(k:Int)<(n:Int):=by omega
    have hkm':(k:Int)<(m:Int):=by omega
    generalize xs[k]=n1 at *
    generalize ys[k]=n2 at *
    have r_c0:=cR c0
    have r_d0:=cR d0
    by_cases hn:n1=n2
    ·have hbn:=zBe hn
     have He:=cH (Hen.out hn)
     clear Hen Hq2 hn
     go_wp2_with fail
     refine wQ ?_
     repeat (go_big_quiet_step (first|fail))
     refine wpQuiet_nil fun w1 B1=>?_
     go_wp2_with fail
     go_roundw
     case rel=>exact ⟨k+1,by omega,by go_num,He,bot hbel B1⟩
     case measure=>simp[intOf];omega
    ·have hbn:=zBD hn
     have He:=cH (Hq2.out hn)
     clear Hen Hq2 hn
     go_wp2_with fail
     refine wQ ?_
     repeat (go_big_quiet_step (first|fail))
     refine wpQuiet_nil fun w1 B1=>?_
     go_wp2_with fail
     go_ret
     exact ⟨zAB He.out.symm,bot hbel B1⟩
   ·have He:Hid (r=true):=Hpos.out (zBH heq.out (by have:=Hnx.out;omega) (by have:=Hny.out;have:=Hnm.out;omega))
    go_wp2_with fail
    go_ret
    exact ⟨zAB He.out.symm,hbel⟩
 ·have hb:((n:Int) != (m:Int))=true:=by simp;omega
  have He:Hid (eqB xs ys=false):=zAD (by rintro rfl;omega)
  clear hnx hny hcx hcy hx hy hnm
  generalize eqB xs ys=r at *
  go_enter Tryz.func54,Tryz.ntmps54
  go_wp2_with fail
  go_ret
  exact ⟨zAB He.out.symm,bR _ _⟩
theorem zJV (g:FuncId) (cap:Value) (hE:zEk Tryz.prog g) (q:Dir→Bool) (A:Option Addr) (n c:Nat) (xs:List Dir) (w:World) (S:Nat→Prop) (hx:SlV rDir w S xs (.slice A n c))
  (hq:∀ W d cs,Below w.heap.size w W→d∈xs→rDir.holds W (fun b=>b<w.heap.size) d cs→Calls Tryz.prog g #[.agg cs.toArray,cap] W fun e w'=>e=.returned (.bool (q d))∧Below W.heap.size W w') :
  Calls Tryz.prog 125 #[.slice A n c,.func (.func g) #[] #[cap]] w fun e w'=>e=.returned (.int .i64 (zGJ q xs))∧Below w.heap.size w w':=by
 have hnx:=hx.n_eq
 have hcx:=hx.cap_le
 unfold maxLen at hcx
 have hn63:n≤9223372036854775807:=by omega
 have hx':=hx.more (S':=fun b=>b<w.heap.size) fun b _ h=>h
 have Hend:Hid (zGJ q xs=zBJ q (xs.drop 0) 0):=rfl
 have Hq:=cH hq;clear hq
 have Hnx:=cH hnx;clear hnx
 clear hcx hx
 generalize zGJ q xs=r at *
 go_enter Tryz.func125,Tryz.ntmps125
 go_wp2_with fail
 go_loopw [8] (fun i wr=>∃ k:Nat,k≤n∧i=.int .i64 k∧Hid (r=zBJ q (xs.drop k) k)∧Below w.heap.size w wr) (fun i _=>n - (intOf i).toNat)
 case atStart=>exact ⟨0,nZ _,rfl,Hend,bR _ _⟩
 case round=>
  obtain ⟨k,hk,rfl,heq,hbel⟩:=hrel
  by_cases hlt:k<n
  ·have hkx:k<xs.length:=by have:=Hnx.out;omega
   have hxw:=hx'.below hbel (fun b h=>h)
   obtain ⟨b,o,cs,rfl,_,hb1,hh,hcell⟩:=hxw.elem (gE hkx)
   have Hcall:=cH (Hq.out wr xs[k] cs hbel (List.getElem_mem hkx) hh)
   have Hat:=cH (zNq q hkx)
   obtain ⟨s0,s1,s2,s3,rfl,hp0,_,_,_,_,hp1,hp2,hp3,_⟩:=hh
   obtain ⟨pA,pc,rfl,_,_⟩:=hp0.val
   obtain ⟨pB,pd,rfl,_,_⟩:=hp1.val
   obtain ⟨pC,pe,rfl,_,_⟩:=hp2.val
   obtain ⟨pD,pf,rfl,_,_⟩:=hp3.val
   have c0:=hcell 0 _ rfl
   have c1:=hcell 1 _ rfl
   have c2:=hcell 2 _ rfl
   have c3:=hcell 3 _ rfl
   have c4:=hcell 4 _ rfl
   have c5:=hcell 5 _ rfl
   have c6:=hcell 6 _ rfl
   have c7:=hcell 7 _ rfl
   have c8:=hcell 8 _ rfl
   simp only[rDir,Nat.add_zero] at c0 c1 c2 c3 c4 c5 c6 c7 c8
   clear hcell hxw hp0 hp1 hp2 hp3
   have hk0:(0:Int)≤(k:Int):=by omega
   have hkn:(k:Int)<(n:Int):=by omega
   have hent:=fun args W=>hE args W
   generalize q xs[k]=v at *
   generalize xs[k].path.length=l0 at *
   generalize xs[k].pack.deps.length=l1 at *
   generalize xs[k].pack.peers.length=l2 at *
   generalize xs[k].pack.opts.length=l3 at *
   generalize xs[k].pack.name=nm at *
   generalize xs[k].pack.ver.major=y1 at *
   generalize xs[k].pack.ver.minor=y2 at *
   generalize xs[k].pack.ver.patch=y3 at *
   generalize xs[k].node=nd at *
   cases v
   ·have He:Hid (r=zBJ q (xs.drop (k+1)) (k+1)):=by unfold Hid;rw[heq.out,Hat.out];rfl
    clear Hat heq
    go_wp2_with fail
    refine (Hcall.out).mono ?_
    rintro e w1 ⟨rfl,B1⟩
    go_wp2_with fail
    go_roundw
    case rel=>exact ⟨k+1,by omega,by go_num,He,bot hbel B1⟩
    case measure=>simp[intOf];omega
   ·have He:Hid (r=(k:Int)):=by unfold Hid;rw[heq.out,Hat.out];rfl
    clear Hat heq
    go_wp2_with fail
    refine (Hcall.out).mono ?_
    rintro e w1 ⟨rfl,B1⟩
    go_wp2_with fail
    go_ret
    exact ⟨zBZ He.out.symm,bot hbel B1⟩
  ·have He:Hid (r=-1):=by unfold Hid;rw[heq.out,dN (by have:=Hnx.out;omega)];rfl
   go_wp2_with fail
   go_ret
   exact ⟨zBZ He.out.symm,hbel⟩
theorem zJ4:zEk Tryz.prog 126:=zA9 Tryz.func126 (by kernel_rfl) rfl
theorem zQX (d:Dir) (cs:List Value) (pb:Nat) (B:Option Addr) (m e:Nat) (ys:List ByteArray) (w:World) (S T:Nat→Prop) (hd:rDir.holds w S d cs) (hc:w.cell? ⟨pb,0,none⟩=some (.slice B m e)) (hy:SlV rStr w T ys (.slice B m e)) :
  Calls Tryz.prog 126 #[.agg cs.toArray,.pointer (some ⟨pb,0,none⟩)] w fun e w'=>e=.returned (.bool (eqB d.path ys))∧Below w.heap.size w w':=by
 obtain ⟨s0,s1,s2,s3,rfl,hp0,_,_,_,_,hp1,hp2,hp3,_⟩:=hd
 obtain ⟨pA,pc,rfl,_,_⟩:=hp0.val
 obtain ⟨pB,pd,rfl,_,_⟩:=hp1.val
 obtain ⟨pC,pe,rfl,_,_⟩:=hp2.val
 obtain ⟨pD,pf,rfl,_,_⟩:=hp3.val
 have hlt:pb<w.heap.size:=World.block_lt_of_cell? w _ hc
 have Hc:Hid (∀ o:Obj,Calls Tryz.prog 75 #[.slice pA d.path.length pc,.slice B m e] (w.alloc o) fun e w'=>e=.returned (.bool (eqB d.path ys))∧Below (w.alloc o).heap.size (w.alloc o) w'):=fun o=>zIj _ _ _ _ _ _ _ _ _ _ _ (hp0.alloc o) (hy.alloc o)
 have hc':∀ o:Obj,(w.alloc o).cell? ⟨pb,0,none⟩=some (.slice B m e):=fun o=>zAA (bal (bR _ _) o) hc hlt
 clear hp0 hp1 hp2 hp3 hy hc
 generalize eqB d.path ys=r at *
 generalize d.path.length=l0 at *
 generalize d.pack.deps.length=l1 at *
 generalize d.pack.peers.length=l2 at *
 generalize d.pack.opts.length=l3 at *
 generalize d.pack.name=nm at *
 generalize d.pack.ver.major=y1 at *
 generalize d.pack.ver.minor=y2 at *
 generalize d.pack.ver.patch=y3 at *
 generalize d.node=nd at *
 go_enter Tryz.func126,Tryz.ntmps126
 go_wp2_with fail
 refine (Hc.out _).mono ?_
 rintro e w1 ⟨rfl,B1⟩
 go_wp2_with fail
 go_ret
 exact ⟨rfl,bnew B1⟩
theorem zJr (A B:Option Addr) (n c m d:Nat) (xs:List Dir) (ys:List ByteArray) (w:World) (S T:Nat→Prop) (hx:SlV rDir w S xs (.slice A n c)) (hy:SlV rStr w T ys (.slice B m d)) :
  Calls Tryz.prog 64 #[.agg #[.slice A n c],.slice B m d] w fun e w'=>e=.returned (.int .i64 (findI xs ys))∧Below w.heap.size w w':=by
 have Hc:Hid (∀ o t,Calls Tryz.prog 125 #[.slice A n c,.func (.func 126) #[] #[.pointer (some ⟨w.heap.size+1,0,none⟩)]] ((w.alloc o).alloc (.cells #[.slice B m d] t)) fun e w'=>e=.returned (.int .i64 (findI xs ys))∧Below ((w.alloc o).alloc (.cells #[.slice B m d] t)).heap.size ((w.alloc o).alloc (.cells #[.slice B m d] t)) w'):=fun o t=>by
  refine zJV _ _ zJ4 _ A n c xs _ S ((hx.alloc o).alloc _) (fun W dd cs hW _ hd=>zQX dd cs _ B m d ys W _ T hd ?_ ?_)
  ·exact zAA hW (by simp[go_sem]) (by simp[go_sem])
  ·exact ((hy.alloc o).alloc _).belowSize hW
 clear hx hy
 generalize findI xs ys=r at *
 go_enter Tryz.func64,Tryz.ntmps64
 go_wp2_with fail
 refine (Hc.out _ _).mono ?_
 rintro e w1 ⟨rfl,B1⟩
 go_wp2_with fail
 go_ret
 exact ⟨rfl,bnew (bnew B1)⟩
theorem SlV.take {α:Type} {r:Rp α} {w:World} {S:Nat→Prop} {l:List α} {A:Option Addr} {n c k:Nat} (h:SlV r w S l (.slice A n c)) (hk:k≤l.length):SlV r w S (l.take k) (.slice A k c):=by
 obtain ⟨A',c',h1,h2,h3,h4,h5⟩:=h
 simp only[List.cons.injEq,Value.slice.injEq,and_true] at h1
 obtain ⟨rfl,_,rfl⟩:=h1
 have hl:(l.take k).length=k:=by rw[List.length_take];omega
 refine ⟨A,c,by rw[hl],by omega,h3,h4,fun hn=>?_⟩
 obtain ⟨b,o,hA,hS,hb,hr⟩:=h5 (by omega)
 refine ⟨b,o,hA,hS,hb,fun i x hx=>hr i x ?_⟩
 rw[List.getElem?_take] at hx
 split at hx
 ·exact hx
 ·cases hx
noncomputable def zC5 (t:List Dir) (p:List ByteArray):Int:=findI t (p.take (p.length - 1))
end Go.Proofs.YthbnmehbhpakaaaGreatDoor
namespace Go.Proofs.YthbnmehbhpakaaaGreatDoor
open Go.RowKit
theorem zCe {w:World} {a:Addr} {v u:Value} (h:w.cell? a=some u):(w.setCell a v).cell? a=some v:=by
 apply World.cell?_setCell_same (h:=h)
theorem zC2 {w:World} {g o o':Nat} {v:Value} (h:o≠o'):(w.setCell ⟨g,o,none⟩ v).cell? ⟨g,o',none⟩=w.cell? ⟨g,o',none⟩:=by
 apply World.cell?_setCell_other
 intro e
 simp only[Addr.mk.injEq] at e
 exact h e.2.1
structure IRow (w:World) (base g k cap:Nat) (l:List Int):Prop where
 lo:base≤g
 le:l.length≤cap
 max:cap≤maxLen
 lt:g<w.heap.size
 at_:∀ (j:Nat) (x:Int),l[j]?=some x→w.cell? ⟨g,k+j,none⟩=some (.int .i64 x)
 there:∀ j,j<cap→(w.cell? ⟨g,k+j,none⟩).isSome=true∧w.frozen? ⟨g,k+j,none⟩=false
section
variable {w w':World} {base g k cap:Nat} {l:List Int}
theorem IRow.keepBlock (h:IRow w base g k cap l) (hs:w.heap.size≤w'.heap.size) (hb:w'.heap[g]?=w.heap[g]?):IRow w' base g k cap l:=
 ⟨h.lo,h.le,h.max,lL h.lt hs,fun j x hj=>(zAI hb _ _).trans (h.at_ j x hj),fun j hj=>⟨by rw[zAI hb];exact (h.there j hj).1,(zBr hb _ _).trans (h.there j hj).2⟩⟩
theorem IRow.keep (h:IRow w base g k cap l) (hb:Below w.heap.size w w'):IRow w' base g k cap l:=h.keepBlock hb.size (hb.block g h.lt)
theorem IRow.alloc (h:IRow w base g k cap l) (o:Obj):IRow (w.alloc o) base g k cap l:=h.keep ((bR _ _).alloc (nR _) o)
theorem IRow.drew (h:IRow w base g k cap l):IRow w.drew base g k cap l:=h.keepBlock (nR _) rfl
theorem IRow.grown (h:IRow w base g k cap l) {row:Option Nat} (hg:w.grownBy w' row) (hne:some g≠row):IRow w' base g k cap l:=h.keepBlock hg.size (hg.block g h.lt hne)
theorem IRow.get (h:IRow w base g k cap l) {j:Nat} (hj:j<l.length):w.cell? ⟨g,k+j,none⟩=some (.int .i64 l[j]):=h.at_ j _ (gE hj)
theorem IRow.frozen (h:IRow w base g k cap l) {j:Nat} (hj:j<cap):w.frozen? ⟨g,k+j,none⟩=false:=(h.there j hj).2
theorem IRow.tail {x:Int} (h:IRow w base g k cap (x::l)):IRow w base g (k+1) (cap - 1) l:=by
 have h1:=h.le
 have h2:=h.max
 rw[List.length_cons] at h1
 exact ⟨h.lo,by omega,by omega,h.lt,fun j y hj=>by rw[show k+1+j=k+(j+1) by omega];exact h.at_ (j+1) y (by simpa using hj),
  fun j hj=>by rw[show k+1+j=k+(j+1) by omega];exact h.there (j+1) (by omega)⟩
theorem IRow.set (h:IRow w base g k cap l) {j:Nat} (hj:j<l.length) (x:Int) :
  IRow (w.setCell ⟨g,k+j,none⟩ (.int .i64 x)) base g k cap (l.set j x)∧w.grownBy (w.setCell ⟨g,k+j,none⟩ (.int .i64 x)) (some g):=by
 have hle:=h.le
 refine ⟨⟨h.lo,by simpa using h.le,h.max,by simpa using h.lt,fun i y hi=>?_,fun i hi=>?_⟩,⟨rfl,rfl,rfl,by simp,fun b _ hk=>heap_setCell_other w ⟨g,k+j,none⟩ b _ (fun e=>hk (by simp[e]))⟩⟩
 ·by_cases hij:i=j
  ·subst hij
   rw[List.getElem?_set_self hj] at hi
   injection hi with hi
   subst hi
   exact zCe (h.get hj)
  ·rw[List.getElem?_set_ne (Ne.symm hij)] at hi
   rw[zC2 (by omega)]
   exact h.at_ i y hi
 ·have hf:=(h.there i hi)
  refine ⟨?_,(World.frozen?_setCell _ _ _ _).trans hf.2⟩
  by_cases hij:i=j
  ·subst hij
   rw[zCe (h.get hj)];rfl
  ·rw[zC2 (by omega)]
   exact hf.1
theorem IRow.of_owns {e:TypeId} (h:w.ownsRow base e 1 (.slice (some ⟨g,0,none⟩) l.length cap) l.length (l.map (Value.int .i64))):IRow w base g 0 cap l:=by
 have hlt:=h.lt g rfl
 have hfz:=fun j=>World.ownsRow.frozenAt h j
 rcases h.2 with ⟨h',_⟩|⟨g',cap',cur,h',hb,hg,hnc,hcm,hcs,htake⟩
 ·simp at h'
 ·simp only[Value.slice.injEq,Option.some.injEq,Addr.mk.injEq,and_true,true_and] at h'
  obtain ⟨rfl,rfl⟩:=h'
  refine ⟨hlt.1,hnc,hcm,hlt.2,fun j x hj=>?_,fun j hj=>⟨?_,by rw[Nat.zero_add];exact hfz j⟩⟩
  ·have hjl:j<l.length:=(gS.1 hj).1
   rw[Nat.zero_add,World.ownsRow.cellAt h j (by omega),List.getElem?_map,hj]
   rfl
  ·rw[Nat.zero_add,cO w g j cur e (0,0) hg,Array.getElem?_eq_getElem (by omega)]
   rfl
theorem IRow.slv (h:IRow w base g k cap l) (hi:∀ x∈l,I64 x):SlV rInt w (fun b=>base≤b) l (.slice (some ⟨g,k,none⟩) l.length cap):=
 ⟨some ⟨g,k,none⟩,cap,rfl,h.le,h.max,(fun e=>by cases e),fun _=>⟨g,k,rfl,h.lo,h.lt,fun i x hx=>⟨[.int .i64 x],⟨rfl,hi x (mG hx)⟩,fun j u hu=>by
   cases j with
   | zero=>simp at hu;subst hu;simpa [rInt] using h.at_ i x hx
   | succ j=>simp at hu⟩⟩⟩
theorem IRow.lit (w:World) (base:Nat) (e:TypeId) (x:Int) (hb:base≤w.heap.size):IRow (w.alloc (.cells #[.int .i64 x] e)) base w.heap.size 0 1 [x]:=
 IRow.of_owns (e:=e) (World.ownsRow_lit w #[.int .i64 x] 1 hb (by simp[maxLen]) rfl)
theorem IRow.push {P:Program} {t ty e:TypeId} {bytes:Nat} (E:Elt P e 1 bytes) (ht:P.underlying t=some (.slice e)) (h:IRow w base g k cap l)
  (ad:Addr) (c:Nat) (y:Int) (hy:w.cell? ad=some (.int .i64 y)) (h63:l.length+1≤maxLen) (hbytes:(l.length+1) * bytes≤140737488355328) (hbase:base≤w.heap.size) :
  ∃ g' k' cap' w',(Builtin.append_ #[t,t] ty #[.slice (some ⟨g,k,none⟩) l.length cap,.slice (some ad) 1 c]).run P w=.ok (.slice (some ⟨g',k',none⟩) (l.length+1) cap') w' ∧
    IRow w' base g' k' cap' (l++[y])∧w.grownBy w' (some g)∧(g'=g∨g'=w.heap.size):=by
 obtain ⟨i,z,hi,hz,hsz,hby,hzs,hpos⟩:=E
 have hadd0:ad.add 0=ad:=by unfold Addr.add;split<;>simp_all
 have hs:Src P i.size t (.slice (some ad) 1 c) 1 [Value.int .i64 y] w:=Src.ofSlice (P:=P) w ht ad 1 c [Value.int .i64 y] (by rw[hsz];rfl) (fun j u hu=>by
  cases j with
  | zero=>simp at hu;subst hu;rw[hadd0];exact hy
  | succ j=>simp at hu) (by simp[Value.oneCell'])
 have hle:=h.le
 have hmx:=h.max
 by_cases hroom:l.length+1≤cap
 ·have hth:=h.there l.length (by omega)
  have hrun:=run_append_room_src (P:=P) w t t ty e i ht hi g k l.length cap _ 1 _ hs hroom
   (fun j hj=>by have:j=0:=by simpa using hj
                 subst this;rw[hsz,Nat.mul_one,Nat.add_zero];exact hth.1)
   (fun j hj=>by have:j=0:=by simpa using hj
                 subst this;rw[hsz,Nat.mul_one,Nat.add_zero];exact hth.2)
  rw[hsz,Nat.mul_one] at hrun
  obtain ⟨u0,hu0⟩:=Option.isSome_iff_exists.1 hth.1
  refine ⟨g,k,cap,_,hrun,⟨h.lo,by simpa using hroom,hmx,by simpa [World.setCells] using h.lt,fun j x hj=>?_,fun j hj=>?_⟩,⟨rfl,rfl,rfl,by simp[World.setCells],fun b _ hk=>heap_setCell_other w ⟨g,k+l.length,none⟩ b _ (fun e=>hk (by simp[e]))⟩,.inl rfl⟩
  ·simp only[World.setCells]
   by_cases hjl:j<l.length
   ·rw[List.getElem?_append_left hjl] at hj
    rw[zC2 (by omega)]
    exact h.at_ j x hj
   ·have hjj:=(gS.1 hj).1
    simp at hjj
    have:j=l.length:=by omega
    subst this
    simp at hj
    subst hj
    exact zCe hu0
  ·simp only[World.setCells]
   refine ⟨?_,(World.frozen?_setCell _ _ _ _).trans (h.there j hj).2⟩
   by_cases hjl:j=l.length
   ·subst hjl;rw[zCe hu0];rfl
   ·rw[zC2 (by omega)];exact (h.there j hj).1
 ·have holds:∀ j u,(l.map (Value.int .i64))[j]?=some u→w.drew.cell? ((⟨g,k,none⟩:Addr).add j)=some u:=fun j u hu=>by
   rw[List.getElem?_map] at hu
   rcases hx:l[j]? with _|x
   ·rw[hx] at hu;cases hu
   ·rw[hx] at hu
    injection hu with hu
    subst hu
    rw[Addr.add_lit]
    exact h.at_ j x hx
  have hfc:=run_firstCells_some (P:=P) w.drew i.size l.length ⟨g,k,none⟩ l.length cap (l.map (Value.int .i64)) (by rw[hsz];simp) holds
  have hby':=hby
  have hrun:=run_append_grow_src (P:=P) w t t ty e i z ht hi hz (some ⟨g,k,none⟩) l.length cap (l.map (Value.int .i64)) hfc _ 1 _ hs (by omega) (by unfold maxLen at h63;omega) (growslice_fits (by omega) (by rw[hby];exact hbytes))
  have hge:=grownCap_ge w (l.length+1) cap e
  have hcm:=grownCap_le_maxLen w (l.length+1) cap e h63
  obtain ⟨C,hC⟩:∃ C,C=(l.map (Value.int .i64)++[Value.int .i64 y]).toArray++Builtin.zeroCells z.cells (grownCap w (l.length+1) cap e - (l.length+1)):=⟨_,rfl⟩
  have e1:∀ j,(w.drew.alloc (.cells C e)).cell? ⟨w.heap.size,0+j,none⟩=C[j]?:=fun j=>by rw[Nat.zero_add];exact World.cell?_alloc_new w.drew _ _ j
  rw[←hC] at hrun
  refine ⟨w.heap.size,0,_,_,hrun,⟨hbase,by simpa using hge,hcm,by simp,fun j x hj=>?_,fun j hj=>⟨?_,by rw[Nat.zero_add];exact World.frozen?_alloc_new w.drew _ _ j⟩⟩,⟨rfl,rfl,rfl,by simp,fun b hb _=>Below.heap_alloc w.drew _ b hb⟩,.inr rfl⟩
  ·have hjj:=(gS.1 hj).1
   simp only[List.length_append,List.length_singleton] at hjj
   rw[e1,hC,Array.getElem?_append_left (by simp;omega),List.getElem?_toArray]
   have:(l.map (Value.int .i64)++[Value.int .i64 y])=(l++[y]).map (Value.int .i64):=by simp
   rw[this,List.getElem?_map,hj]
   rfl
  ·rw[e1,Array.getElem?_eq_getElem (by
    rw[hC,Array.size_append,List.size_toArray,size_zeroCells,hzs]
    simp only[List.length_append,List.length_map,List.length_singleton,Nat.mul_one]
    omega)]
   rfl
end
section
variable {P:Program} {ops:Array Oper} {o:Oper} {a:Act} {K:Act→World→Prop} {Q:Exit→Act→World→Prop} {bytes:Nat} {w:World} {base g k cap:Nat} {l:List Int}
theorem zRr (hgd:o.guard=none) (s x:Operand) (t e:TypeId) (ho:o.op=.call { callee:=.builtin .append,args:=#[s,x],argTypes:=#[t,t]})
  (E:Elt P e 1 bytes) (ht:P.underlying t=some (.slice e)) (n:Nat) (hn:n=l.length) (hs:a.eval s=.slice (some ⟨g,k,none⟩) n cap) (h:IRow w base g k cap l)
  (ad:Addr) (c:Nat) (y:Int) (hx:a.eval x=.slice (some ad) 1 c) (hy:w.cell? ad=some (.int .i64 y))
  (h63:l.length+1≤maxLen) (hbytes:(l.length+1) * bytes≤140737488355328) (hbase:base≤w.heap.size) (H:Nat) (hH:w.heap.size=H)
  (hK:∀ g' k' cap' w',IRow w' base g' k' cap' (l++[y])→w.grownBy w' (some g)→(g'=g∨g'=H)→K (a.put o.dst (.slice (some ⟨g',k',none⟩) (n+1) cap')) w') :
  o.wp P a w K Q:=by
 subst hn
 subst hH
 obtain ⟨g',k',cap',w',hr,h2,h3,h4⟩:=IRow.push (P:=P) (ty:=o.type) E ht h ad c y hy h63 hbytes hbase
 unfold Oper.wp execOp
 simp only[ho,resolve,invoke,builtin,Sem.run_bind,Sem.run_pure,Result.andThen_ok,List.map_toArray,List.map_cons,List.map_nil,hs,hx,hr]
 exact hK g' k' cap' w' h2 h3 h4
theorem zLG {rest:List Oper} (hgd:o.guard=none) (s x:Operand) (t e:TypeId) (ho:o.op=.call { callee:=.builtin .append,args:=#[s,x],argTypes:=#[t,t]})
  (E:Elt P e 1 bytes) (ht:P.underlying t=some (.slice e)) (n:Nat) (hn:n=l.length) (hs:a.eval s=.slice (some ⟨g,k,none⟩) n cap) (h:IRow w base g k cap l)
  (ad:Addr) (c:Nat) (y:Int) (hx:a.eval x=.slice (some ad) 1 c) (hy:w.cell? ad=some (.int .i64 y))
  (h63:l.length+1≤maxLen) (hbytes:(l.length+1) * bytes≤140737488355328) (hbase:base≤w.heap.size) (H:Nat) (hH:w.heap.size=H)
  (hK:∀ g' k' cap' w',IRow w' base g' k' cap' (l++[y])→w.grownBy w' (some g)→(g'=g∨g'=H)→wpList P ops Q rest (a.put o.dst (.slice (some ⟨g',k',none⟩) (n+1) cap')) w') :
  wpList P ops Q (o::rest) a w:=
 wpList_plain hgd fun _ hK'=>zRr hgd s x t e ho E ht n hn hs h ad c y hx hy h63 hbytes hbase H hH fun g' k' cap' w' h1 h2 h3=>hK' _ _ (hK g' k' cap' w' h1 h2 h3)
end
end Go.Proofs.YthbnmehbhpakaaaGreatDoor
namespace Go.Proofs
open Go.Shelf
def Tryz.laysC172_ren:Go.Shelf.Ren:=⟨fun|172=>162|244=>223|245=>224|247=>262|279=>263|280=>264|281=>265|282=>266|287=>297|316=>298|171=>71|205=>299|321=>326|322=>327|243=>131|246=>195|283=>245|284=>246|285=>247|286=>248|129=>148|317=>289|318=>290|319=>291|320=>292|337=>316|338=>317|n=>n,fun|9=>9|3=>3|75=>124|76=>125|4=>4|5=>5|167=>295|37=>120|0=>0|85=>296|2=>2|168=>298|53=>202|175=>321|46=>143|210=>324|127=>180|145=>347|143=>345|21=>21|171=>279|173=>281|212=>316|51=>200|20=>20|213=>317|232=>352|233=>353|80=>127|n=>n,fun|15=>2|16=>3|17=>1|18=>6|19=>7|n=>n⟩
theorem Tryz.laysC172:Go.Proofs.LaysC.n172 Tryz.prog Tryz.laysC172_ren:={
 mixed:=by kernel_rfl
 f129:=Tryz.func148.trans (congrArg some (by kernel_rfl))
 f171:=Tryz.func71.trans (congrArg some (by kernel_rfl))
 f172:=Tryz.func162.trans (congrArg some (by kernel_rfl))
 f205:=Tryz.func299.trans (congrArg some (by kernel_rfl))
 f243:=Tryz.func131.trans (congrArg some (by kernel_rfl))
 f244:=Tryz.func223.trans (congrArg some (by kernel_rfl))
 f245:=Tryz.func224.trans (congrArg some (by kernel_rfl))
 f246:=Tryz.func195.trans (congrArg some (by kernel_rfl))
 f247:=Tryz.func262.trans (congrArg some (by kernel_rfl))
 f279:=Tryz.func263.trans (congrArg some (by kernel_rfl))
 f280:=Tryz.func264.trans (congrArg some (by kernel_rfl))
 f281:=Tryz.func265.trans (congrArg some (by kernel_rfl))
 f282:=Tryz.func266.trans (congrArg some (by kernel_rfl))
 f283:=Tryz.func245.trans (congrArg some (by kernel_rfl))
 f284:=Tryz.func246.trans (congrArg some (by kernel_rfl))
 f285:=Tryz.func247.trans (congrArg some (by kernel_rfl))
 f286:=Tryz.func248.trans (congrArg some (by kernel_rfl))
 f287:=Tryz.func297.trans (congrArg some (by kernel_rfl))
 f316:=Tryz.func298.trans (congrArg some (by kernel_rfl))
 f317:=Tryz.func289.trans (congrArg some (by kernel_rfl))
 f318:=Tryz.func290.trans (congrArg some (by kernel_rfl))
 f319:=Tryz.func291.trans (congrArg some (by kernel_rfl))
 f320:=Tryz.func292.trans (congrArg some (by kernel_rfl))
 f321:=Tryz.func326.trans (congrArg some (by kernel_rfl))
 f322:=Tryz.func327.trans (congrArg some (by kernel_rfl))
 f337:=Tryz.func316.trans (congrArg some (by kernel_rfl))
 f338:=Tryz.func317.trans (congrArg some (by kernel_rfl))
 t0:=Tryz.underlying0
 a0:=Tryz.isAgg0
 z0:=Tryz.sizeOf0
 v0:=Tryz.zeroValue0
 t2:=Tryz.underlying2
 a2:=Tryz.isAgg2
 z2:=Tryz.sizeOf2
 v2:=Tryz.zeroValue2
 t3:=Tryz.underlying3
 a3:=Tryz.isAgg3
 z3:=Tryz.sizeOf3
 v3:=Tryz.zeroValue3
 t4:=Tryz.underlying4
 a4:=Tryz.isAgg4
 z4:=Tryz.sizeOf4
 v4:=Tryz.zeroValue4
 t5:=Tryz.underlying5
 a5:=Tryz.isAgg5
 z5:=Tryz.sizeOf5
 v5:=Tryz.zeroValue5
 t9:=Tryz.underlying9
 a9:=Tryz.isAgg9
 z9:=Tryz.sizeOf9
 v9:=Tryz.zeroValue9
 t20:=Tryz.underlying20
 a20:=Tryz.isAgg20
 z20:=Tryz.sizeOf20
 v20:=Tryz.zeroValue20
 t21:=Tryz.underlying21
 a21:=Tryz.isAgg21
 z21:=Tryz.sizeOf21
 v21:=Tryz.zeroValue21
 t37:=Tryz.underlying120
 a37:=Tryz.isAgg120
 z37:=Tryz.sizeOf120
 v37:=Tryz.zeroValue120
 t46:=Tryz.underlying143
 a46:=Tryz.isAgg143
 z46:=Tryz.sizeOf143
 v46:=Tryz.zeroValue143
 t51:=Tryz.underlying200
 a51:=Tryz.isAgg200
 z51:=Tryz.sizeOf200
 v51:=Tryz.zeroValue200
 t53:=Tryz.underlying202
 a53:=Tryz.isAgg202
 z53:=Tryz.sizeOf202
 v53:=Tryz.zeroValue202
 t75:=Tryz.underlying124
 a75:=Tryz.isAgg124
 z75:=Tryz.sizeOf124
 v75:=Tryz.zeroValue124
 t76:=Tryz.underlying125
 a76:=Tryz.isAgg125
 z76:=Tryz.sizeOf125
 v76:=Tryz.zeroValue125
 t85:=Tryz.underlying296
 a85:=Tryz.isAgg296
 z85:=Tryz.sizeOf296
 v85:=Tryz.zeroValue296
 t127:=Tryz.underlying180
 a127:=Tryz.isAgg180
 z127:=Tryz.sizeOf180
 v127:=Tryz.zeroValue180
 t143:=Tryz.underlying345
 a143:=Tryz.isAgg345
 z143:=Tryz.sizeOf345
 v143:=Tryz.zeroValue345
 t145:=Tryz.underlying347
 a145:=Tryz.isAgg347
 z145:=Tryz.sizeOf347
 v145:=Tryz.zeroValue347
 t167:=Tryz.underlying295
 a167:=Tryz.isAgg295
 z167:=Tryz.sizeOf295
 v167:=Tryz.zeroValue295
 t168:=Tryz.underlying298
 a168:=Tryz.isAgg298
 z168:=Tryz.sizeOf298
 v168:=Tryz.zeroValue298
 t171:=Tryz.underlying279
 a171:=Tryz.isAgg279
 z171:=Tryz.sizeOf279
 v171:=Tryz.zeroValue279
 t173:=Tryz.underlying281
 a173:=Tryz.isAgg281
 z173:=Tryz.sizeOf281
 v173:=Tryz.zeroValue281
 t175:=Tryz.underlying321
 a175:=Tryz.isAgg321
 z175:=Tryz.sizeOf321
 v175:=Tryz.zeroValue321
 t210:=Tryz.underlying324
 a210:=Tryz.isAgg324
 z210:=Tryz.sizeOf324
 v210:=Tryz.zeroValue324
 t212:=Tryz.underlying316
 a212:=Tryz.isAgg316
 z212:=Tryz.sizeOf316
 v212:=Tryz.zeroValue316
 t213:=Tryz.underlying317
 a213:=Tryz.isAgg317
 z213:=Tryz.sizeOf317
 t232:=Tryz.underlying352
 a232:=Tryz.isAgg352
 z232:=Tryz.sizeOf352
 v232:=Tryz.zeroValue352
 t233:=Tryz.underlying353
 a233:=Tryz.isAgg353
 z233:=Tryz.sizeOf353
 v233:=Tryz.zeroValue353
 g15:=by kernel_rfl
 g16:=by kernel_rfl
 g17:=by kernel_rfl
 g18:=by kernel_rfl
 g19:=by kernel_rfl
 t80:=Tryz.underlying127
 a80:=Tryz.isAgg127
 z80:=Tryz.sizeOf127
 v80:=Tryz.zeroValue127
 i0:=by kernel_rfl
 i2:=by kernel_rfl
 i3:=by kernel_rfl
 i4:=by kernel_rfl
 i5:=by kernel_rfl
 i9:=by kernel_rfl
 i20:=by kernel_rfl
 i21:=by kernel_rfl
 i37:=by kernel_rfl
 i46:=by kernel_rfl
 i51:=by kernel_rfl
 i53:=by kernel_rfl
 i75:=by kernel_rfl
 i76:=by kernel_rfl
 i80:=by kernel_rfl
 i85:=by kernel_rfl
 i127:=by kernel_rfl
 i143:=by kernel_rfl
 i145:=by kernel_rfl
 i167:=by kernel_rfl
 i168:=by kernel_rfl
 i171:=by kernel_rfl
 i173:=by kernel_rfl
 i175:=by kernel_rfl
 i210:=by kernel_rfl
 i212:=by kernel_rfl
 i232:=by kernel_rfl
 i233:=by kernel_rfl
 m15:=by kernel_rfl
 m16:=by kernel_rfl
 m17:=by kernel_rfl
 m18:=by kernel_rfl
 m19:=by kernel_rfl
 c0:=by kernel_rfl
 c2:=by kernel_rfl
 c3:=by kernel_rfl
 c4:=by kernel_rfl
 c5:=by kernel_rfl
 c9:=by kernel_rfl
 c20:=by kernel_rfl
 c21:=by kernel_rfl
 c37:=by kernel_rfl
 c46:=by kernel_rfl
 c51:=by kernel_rfl
 c53:=by kernel_rfl
 c75:=by kernel_rfl
 c76:=by kernel_rfl
 c80:=by kernel_rfl
 c85:=by kernel_rfl
 c127:=by kernel_rfl
 c143:=by kernel_rfl
 c145:=by kernel_rfl
 c167:=by kernel_rfl
 c168:=by kernel_rfl
 c171:=by kernel_rfl
 c173:=by kernel_rfl
 c175:=by kernel_rfl
 c210:=by kernel_rfl
 c212:=by kernel_rfl
 c213:=by kernel_rfl
 c232:=by kernel_rfl
 c233:=by kernel_rfl}
open Go.RowKit in
theorem Tryz.strconv_Atoi_ok (s:ByteArray) (hmax:s.size≤9223372036854775806) (v:Int) (h:Lib.atoiAll s.data.toList=.ok v) (w:World) :
 Calls Tryz.prog 162 #[.string s] w fun e w'=>e=.returned (.tuple #[.int .i64 v,.nilIface])∧(w'=w∨∃ t,w'=Lib.bytesWorld w 5 t):=Any.strconv_Atoi_ok Tryz.laysC172 s hmax v h w
open Go.RowKit in
theorem Tryz.strconv_Atoi_syntax (s:ByteArray) (hlim:s.size≤281474976710656) (h:Lib.atoiAll s.data.toList=.«syntax») (ev:Value) (w:World) (hv:w.cell? ⟨2,0,none⟩=some ev) (hev:ev=.nilIface∨∃ te pe,ev=.iface te pe) :
 Calls Tryz.prog 162 #[.string s] w fun e w'=>∃ N,e=.returned (.tuple #[.int .i64 (0),.iface 298 (.pointer (some ⟨N,0,none⟩))])∧w.heap.size≤N∧w'.heap[N]?=some (.cells #[.string ⟨#[65,116,111,105]⟩,.string s,ev] 324 (0,0))∧Below w.heap.size w w':=Any.strconv_Atoi_syntax Tryz.laysC172 s hlim h ev w hv hev
open Go.RowKit in
theorem Tryz.strconv_Atoi_range (s:ByteArray) (hlim:s.size≤281474976710656) (h:Lib.atoiAll s.data.toList=.range) (ev:Value) (w:World) (hv:w.cell? ⟨3,0,none⟩=some ev) (hev:ev=.nilIface∨∃ te pe,ev=.iface te pe) :
 Calls Tryz.prog 162 #[.string s] w fun e w'=>∃ N,e=.returned (.tuple #[.int .i64 (Lib.atoiSat s.data.toList),.iface 298 (.pointer (some ⟨N,0,none⟩))])∧w.heap.size≤N∧w'.heap[N]?=some (.cells #[.string ⟨#[65,116,111,105]⟩,.string s,ev] 324 (0,0))∧Below w.heap.size w w':=Any.strconv_Atoi_range Tryz.laysC172 s hlim h ev w hv hev
def Tryz.laysSlF06_f77_ren:Go.Shelf.Ren:=⟨fun|6=>77|15=>83|14=>136|28=>147|29=>148|20=>197|21=>198|22=>199|23=>200|24=>201|25=>202|26=>203|27=>204|46=>252|47=>207|48=>208|49=>253|50=>254|57=>293|n=>n,fun|22=>75|24=>3|25=>140|3=>3|39=>143|0=>0|53=>200|55=>202|4=>4|46=>194|45=>193|50=>165|5=>5|9=>9|66=>252|70=>256|76=>287|77=>288|n=>n,fun|n=>n⟩
theorem Tryz.laysSlF06_f77:Go.Proofs.SlLaysF0.n6 Tryz.prog Tryz.laysSlF06_f77_ren:={
 mixed:=by kernel_rfl
 f6:=⟨Tryz.f77.name,by decide,Tryz.func77.trans (congrArg some (by kernel_rfl))⟩
 f14:=⟨Tryz.f136.name,by decide,Tryz.func136.trans (congrArg some (by kernel_rfl))⟩
 f15:=Tryz.func83.trans (congrArg some (by kernel_rfl))
 f20:=⟨Tryz.f197.name,by decide,Tryz.func197.trans (congrArg some (by kernel_rfl))⟩
 f21:=⟨Tryz.f198.name,by decide,Tryz.func198.trans (congrArg some (by kernel_rfl))⟩
 f22:=⟨Tryz.f199.name,by decide,Tryz.func199.trans (congrArg some (by kernel_rfl))⟩
 f23:=⟨Tryz.f200.name,by decide,Tryz.func200.trans (congrArg some (by kernel_rfl))⟩
 f24:=⟨Tryz.f201.name,by decide,Tryz.func201.trans (congrArg some (by kernel_rfl))⟩
 f25:=⟨Tryz.f202.name,by decide,Tryz.func202.trans (congrArg some (by kernel_rfl))⟩
 f26:=⟨Tryz.f203.name,by decide,Tryz.func203.trans (congrArg some (by kernel_rfl))⟩
 f27:=⟨Tryz.f204.name,by decide,Tryz.func204.trans (congrArg some (by kernel_rfl))⟩
 f28:=Tryz.func147.trans (congrArg some (by kernel_rfl))
 f29:=Tryz.func148.trans (congrArg some (by kernel_rfl))
 f46:=⟨Tryz.f252.name,by decide,Tryz.func252.trans (congrArg some (by kernel_rfl))⟩
 f47:=Tryz.func207.trans (congrArg some (by kernel_rfl))
 f48:=Tryz.func208.trans (congrArg some (by kernel_rfl))
 f49:=⟨Tryz.f253.name,by decide,Tryz.func253.trans (congrArg some (by kernel_rfl))⟩
 f50:=⟨Tryz.f254.name,by decide,Tryz.func254.trans (congrArg some (by kernel_rfl))⟩
 f57:=⟨Tryz.f293.name,by decide,Tryz.func293.trans (congrArg some (by kernel_rfl))⟩
 t0:=Tryz.underlying0
 a0:=Tryz.isAgg0
 z0:=Tryz.sizeOf0
 v0:=Tryz.zeroValue0
 t3:=Tryz.underlying3
 a3:=Tryz.isAgg3
 z3:=Tryz.sizeOf3
 v3:=Tryz.zeroValue3
 t4:=Tryz.underlying4
 a4:=Tryz.isAgg4
 z4:=Tryz.sizeOf4
 v4:=Tryz.zeroValue4
 t5:=Tryz.underlying5
 a5:=Tryz.isAgg5
 z5:=Tryz.sizeOf5
 v5:=Tryz.zeroValue5
 t9:=Tryz.underlying9
 a9:=Tryz.isAgg9
 z9:=Tryz.sizeOf9
 v9:=Tryz.zeroValue9
 t22:=Tryz.underlying75
 a22:=Tryz.isAgg75
 z22:=Tryz.sizeOf75
 v22:=Tryz.zeroValue75
 t25:=Tryz.underlying140
 a25:=Tryz.isAgg140
 z25:=Tryz.sizeOf140
 v25:=Tryz.zeroValue140
 t39:=Tryz.underlying143
 a39:=Tryz.isAgg143
 z39:=Tryz.sizeOf143
 v39:=Tryz.zeroValue143
 t45:=Tryz.underlying193
 a45:=Tryz.isAgg193
 z45:=Tryz.sizeOf193
 v45:=Tryz.zeroValue193
 t46:=Tryz.underlying194
 a46:=Tryz.isAgg194
 z46:=Tryz.sizeOf194
 v46:=Tryz.zeroValue194
 t50:=Tryz.underlying165
 a50:=Tryz.isAgg165
 z50:=Tryz.sizeOf165
 v50:=Tryz.zeroValue165
 t53:=Tryz.underlying200
 a53:=Tryz.isAgg200
 z53:=Tryz.sizeOf200
 v53:=Tryz.zeroValue200
 t55:=Tryz.underlying202
 a55:=Tryz.isAgg202
 z55:=Tryz.sizeOf202
 v55:=Tryz.zeroValue202
 t66:=Tryz.underlying252
 a66:=Tryz.isAgg252
 z66:=Tryz.sizeOf252
 v66:=Tryz.zeroValue252
 t70:=Tryz.underlying256
 a70:=Tryz.isAgg256
 z70:=Tryz.sizeOf256
 v70:=Tryz.zeroValue256
 t76:=Tryz.underlying287
 a76:=Tryz.isAgg287
 z76:=Tryz.sizeOf287
 v76:=Tryz.zeroValue287
 t77:=Tryz.underlying288
 a77:=Tryz.isAgg288
 z77:=Tryz.sizeOf288
 v77:=Tryz.zeroValue288}
open Go.RowKit Go.Lib Go.Sort in
theorem Tryz.slices_SortFunc_none {α:Type} [Inhabited α] (p:Option Addr) (cap:Nat) (fv:Value) (w:World) :
 Calls Tryz.prog 77 #[.slice p 0 cap,fv] w fun e w'=>e=.returned (.tuple #[])∧w'=w:=AnyF.slices_SortFunc_none Tryz.laysSlF06_f77 p cap fv w
open Go.RowKit Go.Lib Go.Sort in
theorem Tryz.slices_SortFunc_total {α:Type} [Inhabited α] (enc:α→Value) (h1:OneCell enc) (cf:α→α→Int) (hO:SWO (ltOf cf)) (g:Nat) (cb:Array Value) (blk off cap:Nat) (d:Array α) (w:World) (eg:∀ args w,(callFunc g args).run Tryz.prog w=.ok (.enter g args) w) (hcmp:CmpLays1 Tryz.prog g cb enc cf blk off d.size w) (hH:Holds enc w blk off d) (hblk:blk<w.heap.size) (hsz:d.size<4611686018427387904) (hT:∀ x y,(ltOf cf) x y=false→(ltOf cf) y x=false→x=y) :
 Calls Tryz.prog 77 #[.slice (some ⟨blk,off,none⟩) d.size cap,.func (.func g) #[] cb] w fun e w'=>
  e=.returned (.tuple #[])∧∃ n os,w'=sortWorld enc w blk off n (d.toList.mergeSort fun x y=>!(ltOf cf) y x).toArray os:=Any.slices_SortFunc_total Tryz.laysSlF6_f77 enc h1 cf hO g cb blk off cap d w eg hcmp hH hblk hsz hT
end Go.Proofs
namespace Go.Proofs.YthbnmehbhpakaaaGreatDoor
def zBt (b:UInt8):Bool:=decide (97≤b.toNat)&&decide (b.toNat≤122)
def zMo (b:UInt8):Bool:=(decide (48≤b.toNat)&&decide (b.toNat≤57))||decide (b.toNat=45)
def nameC (b:UInt8):Bool:=zBt b||zMo b
def nameL:List UInt8→Bool
 | []=>false
 | c::t=>zBt c&&t.all nameC&&decide (t.length+1≤16)
def zCD:List UInt8:=[97,98,99,100,101,102,103,104,105,106,107,108,109,110,111,112,113,114,115,116,117,118,119,120,121,122]
def zBp:List UInt8:=[97,98,99,100,101,102,103,104,105,106,107,108,109,110,111,112,113,114,115,116,117,118,119,120,121,122,48,49,50,51,52,53,54,55,56,57,45]
theorem zGs {p:UInt8→Bool} (h:∀ n:Fin 256,p (UInt8.ofNat n.val)=true) (b:UInt8):p b=true:=by
 have:=h ⟨b.toNat,b.toNat_lt⟩
 simpa using this
theorem zGt (b:UInt8):zCD.contains b=zBt b:=by
 have h:∀ b:UInt8,(zCD.contains b==zBt b)=true:=zGs (by decide +kernel)
 simpa using h b
theorem zKV (b:UInt8):zBp.contains b=nameC b:=by
 have h:∀ b:UInt8,(zBp.contains b==nameC b)=true:=zGs (by decide +kernel)
 simpa using h b
theorem zDb {p:UInt8→Bool}:∀ {l:List UInt8},l.dropWhile p=[]↔l.all p=true:=by
 intro l
 induction l with
 | nil=>simp
 | cons x l ih=>
   by_cases h:p x=true
   ·rw[List.dropWhile_cons_of_pos h,List.all_cons,h,Bool.true_and];exact ih
   ·rw[List.dropWhile_cons_of_neg h];simp[h]
theorem zPt (l cs:List UInt8):Lib.trimS l cs=[]↔l.all (cs.contains ·)=true:=by
 unfold Lib.trimS Lib.trimLeftS Lib.trimRightS
 rw[zDb]
 constructor
 ·intro h
  by_cases hn:(l.reverse.dropWhile (cs.contains ·))=[]
  ·have:=zDb.1 hn
   simpa using this
  ·exfalso
   obtain ⟨x,t,hx⟩:=List.exists_cons_of_ne_nil hn
   have h1:cs.contains x=true:=by
    have:=List.all_eq_true.1 h x (by rw[hx];simp)
    exact this
   have h2:∀ (l:List UInt8),l.dropWhile (cs.contains ·)=x::t→cs.contains x=false:=by
    intro l
    induction l with
    | nil=>intro h;simp at h
    | cons y l ih=>
      intro h
      by_cases hy:cs.contains y=true
      ·rw[List.dropWhile_cons_of_pos hy] at h;exact ih h
      ·rw[List.dropWhile_cons_of_neg hy] at h
       injection h with h3 h4
       subst h3
       simpa using hy
   rw[h2 _ hx] at h1
   cases h1
 ·intro h
  have:l.reverse.dropWhile (cs.contains ·)=[]:=zDb.2 (by simpa using h)
  rw[this];rfl
theorem zO1 (l:List UInt8) (h0:l≠[]) (h16:l.length≤16) :
  (Lib.trimLeftS l zCD=l→nameL l=false)∧(Lib.trimLeftS l zCD≠l→nameL l=(Lib.trimS (Lib.trimLeftS l zCD) zBp).isEmpty):=by
 cases l with
 | nil=>exact absurd rfl h0
 | cons c t=>
   by_cases hc:zBt c=true
   ·have hd:Lib.trimLeftS (c::t) zCD=t.dropWhile zBt:=by
     unfold Lib.trimLeftS
     have:(fun x=>zCD.contains x)=zBt:=funext zGt
     rw[this,List.dropWhile_cons_of_pos hc]
    have hlen:(t.dropWhile zBt).length≤t.length:=(List.dropWhile_sublist _).length_le
    refine ⟨fun h=>?_,fun _=>?_⟩
    ·rw[hd] at h
     have:=congrArg List.length h
     simp at this
     omega
    ·rw[hd]
     have e1:(Lib.trimS (t.dropWhile zBt) zBp).isEmpty=(t.dropWhile zBt).all nameC:=by
      have hs:(fun x=>zBp.contains x)=nameC:=funext zKV
      have h3:=zPt (t.dropWhile zBt) zBp
      rw[hs] at h3
      by_cases hq:(t.dropWhile zBt).all nameC=true
      ·rw[hq,h3.2 hq];rfl
      ·have hne:Lib.trimS (t.dropWhile zBt) zBp≠[]:=fun e=>hq (h3.1 e)
       rw[Bool.eq_false_iff.2 hq]
       cases hh:Lib.trimS (t.dropWhile zBt) zBp with
       | nil=>exact absurd hh hne
       | cons _ _=>rfl
     have e2:∀ t:List UInt8,(t.dropWhile zBt).all nameC=t.all nameC:=by
      intro t
      induction t with
      | nil=>rfl
      | cons x t ih=>
        by_cases hx:zBt x=true
        ·rw[List.dropWhile_cons_of_pos hx,ih,List.all_cons];simp[nameC,hx]
        ·rw[List.dropWhile_cons_of_neg hx]
     rw[e1,e2]
     have:t.length+1≤16:=by simpa using h16
     simp[nameL,hc,this]
   ·have hd:Lib.trimLeftS (c::t) zCD=c::t:=by
     unfold Lib.trimLeftS
     have:(fun x=>zCD.contains x)=zBt:=funext zGt
     rw[this,List.dropWhile_cons_of_neg hc]
    exact ⟨fun _=>by simp[nameL,hc],fun h=>absurd hd h⟩
theorem zHf {l:List UInt8} (h:16<l.length):nameL l=false:=by
 cases l with
 | nil=>simp at h
 | cons c t=>have:¬t.length+1≤16:=by simp at h;omega
             simp[nameL,this]
end Go.Proofs.YthbnmehbhpakaaaGreatDoor
namespace Go.Proofs.YthbnmehbhpakaaaGreatDoor
open Go.RowKit
def nameB (s:ByteArray):Bool:=nameL s.data.toList
theorem zIB (s:ByteArray) (w:World) :
  Calls Tryz.prog 122 #[.string s,.string ⟨zCD.toArray⟩] w fun e w'=>e=.returned (.string ⟨(Lib.trimLeftS s.data.toList zCD).toArray⟩)∧Below w.heap.size w w':=
 Any.strings_TrimLeft_laid Tryz.laysTrimLeft (by kernel_rfl) s ⟨zCD.toArray⟩ w (by decide) (ascii_of_all (by decide))
theorem zN5 (s:ByteArray) (hs:s.size≤9223372036854775807) (w:World) :
  Calls Tryz.prog 123 #[.string s,.string ⟨zBp.toArray⟩] w fun e w'=>e=.returned (.string ⟨(Lib.trimS s.data.toList zBp).toArray⟩)∧Below w.heap.size w w':=
 Any.strings_Trim_laid Tryz.laysTrim (by kernel_rfl) s ⟨zBp.toArray⟩ w hs (by decide) (ascii_of_all (by decide))
theorem zCo (s:ByteArray):s.toList=s.data.toList:=Go.ByteArray.toList_eq s
theorem zAJ (s:ByteArray):s.size=s.data.toList.length:=by
 rw[show s.size=s.data.size from rfl,Array.length_toList]
theorem zA2 (s:ByteArray) (hs:s.size≤maxLen) (w:World) :
  Calls Tryz.prog 61 #[.string s] w fun e w'=>e=.returned (.bool (nameB s))∧Below w.heap.size w w':=by
 have hs63:s.size≤9223372036854775807:=by unfold maxLen at hs;omega
 have hsz:=zAJ s
 have hL:=zIB s w
 by_cases h0:s.data.toList=[]
 ·have h0':s.toList.isEmpty=true:=by rw[zCo,h0];rfl
  have h0'':s.toList=[]:=by rw[zCo,h0]
  have Hn:Hid (nameB s=false):=by unfold Hid nameB;rw[h0];rfl
  have HL:=cH hL
  have Hd:=cH h0
  clear hL h0 hsz
  go_enter Tryz.func61,Tryz.ntmps61
  go_wp2_with fail
  refine HL.out.mono ?_
  rintro e w1 ⟨rfl,hb⟩
  go_wp2
  go_ret
  exact ⟨zAB (by rw[Hn.out]),hb⟩
 ·have h0':s.toList.isEmpty=false:=by rw[zCo];cases hh:s.data.toList with
   | nil=>exact absurd hh h0
   | cons _ _=>rfl
  have h0'':¬s.toList=[]:=by rw[zCo];exact h0
  by_cases h16:s.size≤16
  ·have ht:=zO1 s.data.toList h0 (by omega)
   by_cases hT:Lib.trimLeftS s.data.toList zCD=s.data.toList
   ·have Hn:Hid (nameB s=false):=ht.1 hT
    rw[hT] at hL
    have hself:(⟨s.data.toList.toArray⟩:ByteArray)=s:=by cases s;simp
    rw[hself] at hL
    have HL:=cH hL
    clear hL h0 hsz ht hT hself
    go_enter Tryz.func61,Tryz.ntmps61
    go_wp2_with fail
    refine HL.out.mono ?_
    rintro e w1 ⟨rfl,hb⟩
    go_wp2
    go_ret
    exact ⟨zAB (by rw[Hn.out]),hb⟩
   ·have hTr:=ht.2 hT
    have hrl:(Lib.trimLeftS s.data.toList zCD).length≤s.data.toList.length:=(List.dropWhile_sublist _).length_le
    have hne:(Lib.trimLeftS s.data.toList zCD==s.toList)=false:=by rw[zCo];simpa using hT
    have HC:=cH (fun W=>zN5 ⟨(Lib.trimLeftS s.data.toList zCD).toArray⟩ (by rw[zAJ];simp;omega) W)
    have Hn:Hid (nameB s=(Lib.trimS (Lib.trimLeftS s.data.toList zCD) zBp).isEmpty):=hTr
    generalize Lib.trimLeftS s.data.toList zCD=r at *
    have HL:=cH hL
    have HT:=cH hT
    clear hL h0 hsz ht hT hTr hrl
    have HC':Hid (∀ W,Calls Tryz.prog 123 #[.string ⟨r.toArray⟩,.string ⟨zBp.toArray⟩] W fun e w'=>e=.returned (.string ⟨(Lib.trimS r zBp).toArray⟩)∧Below W.heap.size W w'):=fun W=>HC.out W
    clear HC
    generalize Lib.trimS r zBp=q at *
    go_enter Tryz.func61,Tryz.ntmps61
    go_wp2_with fail
    refine HL.out.mono ?_
    rintro e w1 ⟨rfl,hb⟩
    go_wp2_with fail
    refine (HC'.out w1).mono ?_
    rintro e w2 ⟨rfl,hb2⟩
    go_wp2
    go_ret
    exact ⟨zAB (by rw[Hn.out]),hb.trans (hb2.mono hb.size)⟩
  ·have Hn:Hid (nameB s=false):=zHf (by omega)
   have h16':16<s.size:=by omega
   have HL:=cH hL
   clear hL h0 hsz
   go_enter Tryz.func61,Tryz.ntmps61
   go_wp2_with fail
   refine HL.out.mono ?_
   rintro e w1 ⟨rfl,hb⟩
   go_wp2
   go_ret
   exact ⟨zAB (by rw[Hn.out]),hb⟩
def zIK:Nat→List UInt8→Bool
 | _,[]=>true
 | k,c::t=>(zBt c||(decide (k≠0)&&zMo c))&&zIK (k+1) t
theorem zIW:∀ (l:List UInt8) (k:Nat),k≠0→zIK k l=l.all nameC:=by
 intro l
 induction l with
 | nil=>intro k _;rfl
 | cons c t ih=>intro k hk;rw[zIK,ih (k+1) (by omega),List.all_cons];simp[hk,nameC]
theorem zMg (l:List UInt8) (h:l≠[]):nameL l=(zIK 0 l&&decide (l.length≤16)):=by
 cases l with
 | nil=>exact absurd rfl h
 | cons c t=>rw[zIK,zIW t 1 (by decide)];simp[nameL]
theorem zF1 (s:ByteArray) (k:Nat) (h:k<s.size):s.data.toList.drop k=s[k]::s.data.toList.drop (k+1):=by
 have h':k<s.data.toList.length:=by rw[←zAJ];exact h
 rw[dC h']
 rfl
