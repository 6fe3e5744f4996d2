/- Paths held against one another; the place of a directory. -/
import Derived.Test.YtminjjdnmpaaoaaGreatDoorSv03
import Derived.Test.YtminjjdnmpaaoaaGreatDoorSv01
import Derived.Test.YtminjjdnmpaaoaaGreatDoorSv02
import Derived.Lib.SlTrimSet
import Derived.Test.YtminjjdnmpaaoaaGreatDoorRows
import Derived.WalkKit
import Derived.WalkSpells
import Derived.WalkLawsBesides
import Derived.IntWalk
import Derived.Lib.Hide
import Derived.Test.YtminjjdnmpaaoaaGreatDoorAl
set_option linter.all false
set_option maxHeartbeats 1600000
set_option maxRecDepth 100000
namespace Go.Proofs.YtminjjdnmpaaoaaGreatDoor
open Go.Rows Go.RowKit Go.Shelf Go.Sort
def zA2 (q:Dir→Bool):List Dir→Nat→Int
 | [],_=>-1
 | d::l,k=>bif q d then (k:Int) else zA2 q l (k+1)
def zC0 (q:Dir→Bool) (t:List Dir):Int:=zA2 q t 0
theorem zFm (q:Dir→Bool) {t:List Dir} {k:Nat} (h:k<t.length):zA2 q (t.drop k) k=bif q t[k] then (k:Int) else zA2 q (t.drop (k+1)) (k+1):=by
 rw[dC h,zA2]
theorem firstGo_le (q:Dir→Bool):∀ (t:List Dir) (k:Nat),(zA2 q t k=-1∧t.any q=false)∨∃ j:Nat,zA2 q t k=(j:Int)∧k≤j∧j<k+t.length∧t.any q=true:=by
 intro t
 induction t with
 | nil=>intro k;exact .inl ⟨rfl,rfl⟩
 | cons d l ih=>
   intro k
   rw[zA2,List.any_cons]
   cases q d
   ·rcases ih (k+1) with h|⟨j,h,hj,hl,ha⟩
    ·exact .inl h
    ·exact .inr ⟨j,h,by omega,by rw[List.length_cons];omega,by rw[ha];rfl⟩
   ·exact .inr ⟨k,rfl,nR _,by rw[List.length_cons];omega,rfl⟩
theorem firstI_lt (q:Dir→Bool) (t:List Dir):(zC0 q t=-1∧t.any q=false)∨∃ j:Nat,zC0 q t=(j:Int)∧j<t.length∧t.any q=true:=by
 rcases firstGo_le q t 0 with h|⟨j,h,_,hj,ha⟩
 ·exact .inl h
 ·exact .inr ⟨j,h,by omega,ha⟩
noncomputable def findI (t:List Dir) (p:List ByteArray):Int:=zC0 (fun d=>eqB d.path p) t
theorem zF5 (A B:Option Addr) (n m c d:Nat) (xs ys:List ByteArray) (w:World) (S T:Nat→Prop) (hx:SlV rStr w S xs (.slice A n c)) (hy:SlV rStr w T ys (.slice B m d)) :
  Calls Tryz.prog 40 #[.slice A n c,.slice B m d] w fun e w'=>e=.returned (.bool (eqB xs ys))∧Below w.heap.size w w':=by
 have hnx:=hx.n_eq
 have hny:=hy.n_eq
 have hcx:=hx.cap_le
 have hcy:=hy.cap_le
 unfold maxLen at hcx hcy
 by_cases hnm:n=m
 ·by_cases h0:n=0
  ·subst h0;subst hnm
   have e1:xs=[]:=List.eq_nil_of_length_eq_zero hnx.symm
   have e2:ys=[]:=List.eq_nil_of_length_eq_zero hny.symm
   refine (Tryz.slices_Equal_string_empty A B c 0 d w (by omega)).mono ?_
   rintro e w' ⟨rfl,rfl⟩
   exact ⟨by rw[zAP (e1.trans e2.symm)];rfl,bR _ _⟩
  ·have hx0:0<xs.length:=by omega
   have hy0:0<ys.length:=by omega
   obtain ⟨b,o,cs,rfl,_,_,_,_⟩:=hx.elem (gE hx0)
   obtain ⟨b',o',cs',rfl,_,_,_,_⟩:=hy.elem (gE hy0)
   refine (Tryz.slices_Equal_string b o n c b' o' m d xs ys w (by omega) (by omega) (by omega) (by omega) (fun j hj=>?_) (fun j hj=>?_)).mono ?_
   ·obtain ⟨b2,o2,cs2,e,_,_,⟨rfl,_⟩,hcell⟩:=hx.elem (gE hj)
    have:=hcell 0 _ rfl
    simp only[Option.some.injEq,Addr.mk.injEq] at e
    obtain ⟨rfl,rfl,_⟩:=e
    simp only[rStr,Nat.add_zero,Nat.mul_one] at this
    rw[this,List.getD_eq_getElem?_getD,gE hj];rfl
   ·obtain ⟨b2,o2,cs2,e,_,_,⟨rfl,_⟩,hcell⟩:=hy.elem (gE hj)
    have:=hcell 0 _ rfl
    simp only[Option.some.injEq,Addr.mk.injEq] at e
    obtain ⟨rfl,rfl,_⟩:=e
    simp only[rStr,Nat.add_zero,Nat.mul_one] at this
    rw[this,List.getD_eq_getElem?_getD,gE hj];rfl
   ·rintro e w' ⟨rfl,q,rfl⟩
    refine ⟨?_,⟨rfl,rfl,rfl,nR _,fun _ _=>rfl⟩⟩
    rw[hnx,hny,List.take_length,List.take_length]
    by_cases e:xs=ys
    ·rw[zAP e,decide_eq_true e]
    ·rw[zAH e,decide_eq_false e]
 ·refine (Tryz.slices_Equal_string_lens A B n c m d w hnm).mono ?_
  rintro e w' ⟨rfl,rfl⟩
  exact ⟨by rw[zAH (by rintro rfl;omega)],bR _ _⟩
theorem zDY (A B:Option Addr) (n m c d:Nat) (xs ys:List ByteArray) (w:World) (S T:Nat→Prop) (hx:SlV rStr w S xs (.slice A n c)) (hy:SlV rStr w T ys (.slice B m d)) :
  Calls Tryz.prog 31 #[.slice A n c,.slice B m d] w fun e w'=>e=.returned (.bool (eqB xs ys))∧Below w.heap.size w w':=by
 have hnx:=hx.n_eq
 have hny:=hy.n_eq
 have hcx:=hx.cap_le
 have hcy:=hy.cap_le
 unfold maxLen at hcx hcy
 by_cases hnm:n=m
 ·have hb:((n:Int) != (m:Int))=false:=by simp[hnm]
  have hn63:n≤9223372036854775807:=by omega
  have hx':=hx.more (S':=fun b=>b<w.heap.size) fun b _ h=>h
  have hy':=hy.more (S':=fun b=>b<w.heap.size) fun b _ h=>h
  have Hpos:Hid (xs=ys→eqB xs ys=true):=fun h=>zAP h
  have Hneg:Hid (xs≠ys→eqB xs ys=false):=fun h=>zAH h
  have Hnm:=cH hnm;clear hnm
  have Hnx:=cH hnx;clear hnx
  have Hny:=cH hny;clear hny
  clear hcx hcy hx hy
  generalize eqB xs ys=r at *
  go_enter Tryz.func31,Tryz.ntmps31
  go_wp2_with fail
  go_loopw [5] (fun i wr=>∃ k:Nat,k≤n∧i=.int .i64 k∧Hid (xs.take k=ys.take k)∧Below w.heap.size w wr) (fun i _=>n - (intOf i).toNat)
  case atStart=>exact ⟨0,nZ _,rfl,by simp[Hid],bR _ _⟩
  case round=>
   obtain ⟨k,hk,rfl,heq,hbel⟩:=hrel
   by_cases hlt:k<n
   ·have hkx:k<xs.length:=by have:=Hnx.out;omega
    have hky:k<ys.length:=by have:=Hny.out;have:=Hnm.out;omega
    have hkm:k<m:=by have:=Hnm.out;omega
    have hxw:=hx'.below hbel (fun b h=>h)
    have hyw:=hy'.below hbel (fun b h=>h)
    obtain ⟨b,o,cs,rfl,_,hb1,⟨rfl,_⟩,hcell⟩:=hxw.elem (gE hkx)
    obtain ⟨b',o',cs',rfl,_,hb2,⟨rfl,_⟩,hcell'⟩:=hyw.elem (gE hky)
    have c0:=hcell 0 _ rfl
    have d0:=hcell' 0 _ rfl
    simp only[rStr,Nat.add_zero,Nat.mul_one] at c0 d0
    clear hcell hcell' hxw hyw
    have Hne:=cH (fun h=>ne_at hkx hky h)
    have Hen:=cH (fun h=>zCa heq.out hkx hky h)
    have Hq2:Hid (xs[k]≠ys[k]→r=false):=fun h=>Hneg.out (Hne.out h)
    clear Hne
    have hk0:(0:Int)≤(k:Int):=by omega
    have hkn:(k:Int)<(n:Int):=by omega
    have hkm':(k:Int)<(m:Int):=by omega
    generalize xs[k]=n1 at *
    generalize ys[k]=n2 at *
    have r_c0:=cR c0
    have r_d0:=cR d0
    by_cases hn:n1=n2
    ·have hbn:=zAT hn
     have He:=cH (Hen.out hn)
     clear Hen Hq2 hn
     go_wp2_with fail
     refine wQ ?_
     repeat (go_big_quiet_step (first|fail))
     refine wpQuiet_nil fun w1 B1=>?_
     go_wp2_with fail
     go_roundw
     case rel=>exact ⟨k+1,by omega,by go_num,He,bot hbel B1⟩
     case measure=>simp[intOf];omega
    ·have hbn:=zAL hn
     have He:=cH (Hq2.out hn)
     clear Hen Hq2 hn
     go_wp2_with fail
     refine wQ ?_
     repeat (go_big_quiet_step (first|fail))
     refine wpQuiet_nil fun w1 B1=>?_
     go_wp2_with fail
     go_ret
     exact ⟨zAB He.out.symm,bot hbel B1⟩
   ·have He:Hid (r=true):=Hpos.out (zBv heq.out (by have:=Hnx.out;omega) (by have:=Hny.out;have:=Hnm.out;omega))
    go_wp2_with fail
    go_ret
    exact ⟨zAB He.out.symm,hbel⟩
 ·have hb:((n:Int) != (m:Int))=true:=by simp;omega
  have He:Hid (eqB xs ys=false):=zAH (by rintro rfl;omega)
  clear hnx hny hcx hcy hx hy hnm
  generalize eqB xs ys=r at *
  go_enter Tryz.func31,Tryz.ntmps31
  go_wp2_with fail
  go_ret
  exact ⟨zAB He.out.symm,bR _ _⟩
theorem zGW (g:FuncId) (cap:Value) (hE:zC2 Tryz.prog g) (q:Dir→Bool) (A:Option Addr) (n c:Nat) (xs:List Dir) (w:World) (S:Nat→Prop) (hx:SlV rDir w S xs (.slice A n c))
  (hq:∀ W d cs,Below w.heap.size w W→d∈xs→rDir.holds W (fun b=>b<w.heap.size) d cs→Calls Tryz.prog g #[.agg cs.toArray,cap] W fun e w'=>e=.returned (.bool (q d))∧Below W.heap.size W w') :
  Calls Tryz.prog 38 #[.slice A n c,.func (.func g) #[] #[cap]] w fun e w'=>e=.returned (.int .i64 (zC0 q xs))∧Below w.heap.size w w':=by
 have hnx:=hx.n_eq
 have hcx:=hx.cap_le
 unfold maxLen at hcx
 have hn63:n≤9223372036854775807:=by omega
 have hx':=hx.more (S':=fun b=>b<w.heap.size) fun b _ h=>h
 have Hend:Hid (zC0 q xs=zA2 q (xs.drop 0) 0):=rfl
 have Hq:=cH hq;clear hq
 have Hnx:=cH hnx;clear hnx
 clear hcx hx
 generalize zC0 q xs=r at *
 go_enter Tryz.func38,Tryz.ntmps38
 go_wp2_with fail
 go_loopw [8] (fun i wr=>∃ k:Nat,k≤n∧i=.int .i64 k∧Hid (r=zA2 q (xs.drop k) k)∧Below w.heap.size w wr) (fun i _=>n - (intOf i).toNat)
 case atStart=>exact ⟨0,nZ _,rfl,Hend,bR _ _⟩
 case round=>
  obtain ⟨k,hk,rfl,heq,hbel⟩:=hrel
  by_cases hlt:k<n
  ·have hkx:k<xs.length:=by have:=Hnx.out;omega
   have hxw:=hx'.below hbel (fun b h=>h)
   obtain ⟨b,o,cs,rfl,_,hb1,hh,hcell⟩:=hxw.elem (gE hkx)
   have Hcall:=cH (Hq.out wr xs[k] cs hbel (List.getElem_mem hkx) hh)
   have Hat:=cH (zFm q hkx)
   obtain ⟨s0,s1,s2,s3,rfl,hp0,_,_,_,_,hp1,hp2,hp3,_⟩:=hh
   obtain ⟨pA,pc,rfl,_,_⟩:=hp0.val
   obtain ⟨pB,pd,rfl,_,_⟩:=hp1.val
   obtain ⟨pC,pe,rfl,_,_⟩:=hp2.val
   obtain ⟨pD,pf,rfl,_,_⟩:=hp3.val
   have c0:=hcell 0 _ rfl
   have c1:=hcell 1 _ rfl
   have c2:=hcell 2 _ rfl
   have c3:=hcell 3 _ rfl
   have c4:=hcell 4 _ rfl
   have c5:=hcell 5 _ rfl
   have c6:=hcell 6 _ rfl
   have c7:=hcell 7 _ rfl
   have c8:=hcell 8 _ rfl
   simp only[rDir,Nat.add_zero] at c0 c1 c2 c3 c4 c5 c6 c7 c8
   clear hcell hxw hp0 hp1 hp2 hp3
   have hk0:(0:Int)≤(k:Int):=by omega
   have hkn:(k:Int)<(n:Int):=by omega
   have hent:=fun args W=>hE args W
   generalize q xs[k]=v at *
   generalize xs[k].path.length=l0 at *
   generalize xs[k].pack.deps.length=l1 at *
   generalize xs[k].pack.peers.length=l2 at *
   generalize xs[k].pack.opts.length=l3 at *
   generalize xs[k].pack.name=nm at *
   generalize xs[k].pack.ver.major=y1 at *
   generalize xs[k].pack.ver.minor=y2 at *
   generalize xs[k].pack.ver.patch=y3 at *
   generalize xs[k].node=nd at *
   cases v
   ·have He:Hid (r=zA2 q (xs.drop (k+1)) (k+1)):=by unfold Hid;rw[heq.out,Hat.out];rfl
    clear Hat heq
    go_wp2_with fail
    refine (Hcall.out).mono ?_
    rintro e w1 ⟨rfl,B1⟩
    go_wp2_with fail
    go_roundw
    case rel=>exact ⟨k+1,by omega,by go_num,He,bot hbel B1⟩
    case measure=>simp[intOf];omega
   ·have He:Hid (r=(k:Int)):=by unfold Hid;rw[heq.out,Hat.out];rfl
    clear Hat heq
    go_wp2_with fail
    refine (Hcall.out).mono ?_
    rintro e w1 ⟨rfl,B1⟩
    go_wp2_with fail
    go_ret
    exact ⟨zAS He.out.symm,bot hbel B1⟩
  ·have He:Hid (r=-1):=by unfold Hid;rw[heq.out,dN (by have:=Hnx.out;omega)];rfl
   go_wp2_with fail
   go_ret
   exact ⟨zAS He.out.symm,hbel⟩
theorem zHL:zC2 Tryz.prog 39:=zCG Tryz.func39 (by kernel_rfl) rfl
theorem zJ5 (d:Dir) (cs:List Value) (pb:Nat) (B:Option Addr) (m e:Nat) (ys:List ByteArray) (w:World) (S T:Nat→Prop) (hd:rDir.holds w S d cs) (hc:w.cell? ⟨pb,0,none⟩=some (.slice B m e)) (hy:SlV rStr w T ys (.slice B m e)) :
  Calls Tryz.prog 39 #[.agg cs.toArray,.pointer (some ⟨pb,0,none⟩)] w fun e w'=>e=.returned (.bool (eqB d.path ys))∧Below w.heap.size w w':=by
 obtain ⟨s0,s1,s2,s3,rfl,hp0,_,_,_,_,hp1,hp2,hp3,_⟩:=hd
 obtain ⟨pA,pc,rfl,_,_⟩:=hp0.val
 obtain ⟨pB,pd,rfl,_,_⟩:=hp1.val
 obtain ⟨pC,pe,rfl,_,_⟩:=hp2.val
 obtain ⟨pD,pf,rfl,_,_⟩:=hp3.val
 have hlt:pb<w.heap.size:=World.block_lt_of_cell? w _ hc
 have Hc:Hid (∀ o:Obj,Calls Tryz.prog 40 #[.slice pA d.path.length pc,.slice B m e] (w.alloc o) fun e w'=>e=.returned (.bool (eqB d.path ys))∧Below (w.alloc o).heap.size (w.alloc o) w'):=fun o=>zF5 _ _ _ _ _ _ _ _ _ _ _ (hp0.alloc o) (hy.alloc o)
 have hc':∀ o:Obj,(w.alloc o).cell? ⟨pb,0,none⟩=some (.slice B m e):=fun o=>zAA (bal (bR _ _) o) hc hlt
 clear hp0 hp1 hp2 hp3 hy hc
 generalize eqB d.path ys=r at *
 generalize d.path.length=l0 at *
 generalize d.pack.deps.length=l1 at *
 generalize d.pack.peers.length=l2 at *
 generalize d.pack.opts.length=l3 at *
 generalize d.pack.name=nm at *
 generalize d.pack.ver.major=y1 at *
 generalize d.pack.ver.minor=y2 at *
 generalize d.pack.ver.patch=y3 at *
 generalize d.node=nd at *
 go_enter Tryz.func39,Tryz.ntmps39
 go_wp2_with fail
 refine (Hc.out _).mono ?_
 rintro e w1 ⟨rfl,B1⟩
 go_wp2_with fail
 go_ret
 exact ⟨rfl,bnew B1⟩
theorem zDG (A B:Option Addr) (n c m d:Nat) (xs:List Dir) (ys:List ByteArray) (w:World) (S T:Nat→Prop) (hx:SlV rDir w S xs (.slice A n c)) (hy:SlV rStr w T ys (.slice B m d)) :
  Calls Tryz.prog 18 #[.agg #[.slice A n c],.slice B m d] w fun e w'=>e=.returned (.int .i64 (findI xs ys))∧Below w.heap.size w w':=by
 have Hc:Hid (∀ o t,Calls Tryz.prog 38 #[.slice A n c,.func (.func 39) #[] #[.pointer (some ⟨w.heap.size+1,0,none⟩)]] ((w.alloc o).alloc (.cells #[.slice B m d] t)) fun e w'=>e=.returned (.int .i64 (findI xs ys))∧Below ((w.alloc o).alloc (.cells #[.slice B m d] t)).heap.size ((w.alloc o).alloc (.cells #[.slice B m d] t)) w'):=fun o t=>by
  refine zGW _ _ zHL _ A n c xs _ S ((hx.alloc o).alloc _) (fun W dd cs hW _ hd=>zJ5 dd cs _ B m d ys W _ T hd ?_ ?_)
  ·exact zAA hW (by simp[go_sem]) (by simp[go_sem])
  ·exact ((hy.alloc o).alloc _).belowSize hW
 clear hx hy
 generalize findI xs ys=r at *
 go_enter Tryz.func18,Tryz.ntmps18
 go_wp2_with fail
 refine (Hc.out _ _).mono ?_
 rintro e w1 ⟨rfl,B1⟩
 go_wp2_with fail
 go_ret
 exact ⟨rfl,bnew (bnew B1)⟩
theorem SlV.take {α:Type} {r:Rp α} {w:World} {S:Nat→Prop} {l:List α} {A:Option Addr} {n c k:Nat} (h:SlV r w S l (.slice A n c)) (hk:k≤l.length):SlV r w S (l.take k) (.slice A k c):=by
 obtain ⟨A',c',h1,h2,h3,h4,h5⟩:=h
 simp only[List.cons.injEq,Value.slice.injEq,and_true] at h1
 obtain ⟨rfl,_,rfl⟩:=h1
 have hl:(l.take k).length=k:=by rw[List.length_take];omega
 refine ⟨A,c,by rw[hl],by omega,h3,h4,fun hn=>?_⟩
 obtain ⟨b,o,hA,hS,hb,hr⟩:=h5 (by omega)
 refine ⟨b,o,hA,hS,hb,fun i x hx=>hr i x ?_⟩
 rw[List.getElem?_take] at hx
 split at hx
 ·exact hx
 ·cases hx
theorem zCF (A B:Option Addr) (n c m d:Nat) (xs:List Dir) (ys:List ByteArray) (w:World) (S T:Nat→Prop) (hx:SlV rDir w S xs (.slice A n c)) (hy:SlV rStr w T ys (.slice B m d)) :
  Calls Tryz.prog 93 #[.agg #[.slice A n c],.slice B m d] w fun e w'=>e=.returned (.int .i64 (findI xs ys))∧Below w.heap.size w w':=by
 have hnx:=hx.n_eq
 have hcx:=hx.cap_le
 unfold maxLen at hcx
 have hn63:n≤9223372036854775807:=by omega
 have hx':=hx.more (S':=fun b=>b<w.heap.size) fun b _ h=>h
 have hy':=hy.more (S':=fun b=>b<w.heap.size) fun b _ h=>h
 have Hend:Hid (findI xs ys=zA2 (fun d=>eqB d.path ys) (xs.drop 0) 0):=rfl
 have Hnx:=cH hnx;clear hnx
 clear hcx hx hy
 generalize findI xs ys=r at *
 go_enter Tryz.func93,Tryz.ntmps93
 go_wp2_with fail
 obtain ⟨w0,hw0⟩:∃ w0,w0=w.alloc (.cells #[.slice A n c] 33):=⟨_,rfl⟩
 have hz:w.heap.size<w0.heap.size:=by rw[hw0];simp[go_sem]
 have hb0:Below w.heap.size w w0:=by rw[hw0];exact bal (bR _ _) _
 have a0:w0.cell? ⟨w.heap.size,0,none⟩=some (.slice A n c):=by rw[hw0];simp[go_sem]
 rw[←hw0]
 clear hw0
 have HB0:=cH hb0;clear hb0
 go_loopw [5] (fun i wr=>∃ k:Nat,k≤n∧i=.int .i64 k∧Hid (r=zA2 (fun d=>eqB d.path ys) (xs.drop k) k)∧Below w0.heap.size w0 wr) (fun i _=>n - (intOf i).toNat)
 case atStart=>exact ⟨0,nZ _,rfl,Hend,bR _ _⟩
 case round=>
  obtain ⟨k,hk,rfl,heq,hbel⟩:=hrel
  have b0:=zAA hbel a0 hz
  have hbel':=bot HB0.out hbel
  by_cases hlt:k<n
  ·have hkx:k<xs.length:=by have:=Hnx.out;omega
   have hxw:=hx'.below hbel' (fun b h=>h)
   obtain ⟨b,o,cs,rfl,_,hb1,hh,hcell⟩:=hxw.elem (gE hkx)
   have Hat:=cH (zFm (fun d=>eqB d.path ys) hkx)
   obtain ⟨s0,s1,s2,s3,rfl,hp0,_,_,_,_,hp1,hp2,hp3,_⟩:=hh
   obtain ⟨pA,pc,rfl,_,_⟩:=hp0.val
   have c0:=hcell 0 _ rfl
   simp only[rDir,Nat.add_zero] at c0
   have Hcall:=cH (zDY _ _ _ _ _ _ xs[k].path ys wr _ _ hp0 (hy'.below hbel' (fun b h=>h)))
   clear hcell hxw hp0 hp1 hp2 hp3
   have hk0:(0:Int)≤(k:Int):=by omega
   have hkn:(k:Int)<(n:Int):=by omega
   generalize eqB xs[k].path ys=v at *
   generalize xs[k].path.length=l0 at *
   cases v
   ·have He:Hid (r=zA2 (fun d=>eqB d.path ys) (xs.drop (k+1)) (k+1)):=by unfold Hid;rw[heq.out,Hat.out];rfl
    clear Hat heq
    go_wp2_with fail
    refine (Hcall.out).mono ?_
    rintro e w1 ⟨rfl,B1⟩
    go_wp2_with fail
    go_roundw
    case rel=>exact ⟨k+1,by omega,by go_num,He,bot hbel B1⟩
    case measure=>simp[intOf];omega
   ·have He:Hid (r=(k:Int)):=by unfold Hid;rw[heq.out,Hat.out];rfl
    clear Hat heq
    go_wp2_with fail
    refine (Hcall.out).mono ?_
    rintro e w1 ⟨rfl,B1⟩
    go_wp2_with fail
    go_ret
    exact ⟨zAS He.out.symm,bot hbel' B1⟩
  ·have He:Hid (r=-1):=by unfold Hid;rw[heq.out,dN (by have:=Hnx.out;omega)];rfl
   go_wp2_with fail
   go_ret
   exact ⟨zAS He.out.symm,hbel'⟩
noncomputable def zBx (t:List Dir) (p:List ByteArray):Int:=findI t (p.take (p.length - 1))
theorem zG5 (A:Option Addr) (n c:Nat) (xs:List Dir) (w:World) (S:Nat→Prop) (k:Nat) (hk:k<xs.length) (hne:xs[k].path≠[]) (hx:SlV rDir w S xs (.slice A n c)) :
  Calls Tryz.prog 94 #[.agg #[.slice A n c],.int .i64 k] w fun e w'=>e=.returned (.int .i64 (zBx xs xs[k].path))∧Below w.heap.size w w':=by
 have hnx:=hx.n_eq
 have hcx:=hx.cap_le
 unfold maxLen at hcx
 have hn63:n≤9223372036854775807:=by omega
 have hx0:=hx
 obtain ⟨b,o,cs,rfl,_,hb1,hh,hcell⟩:=hx.elem (gE hk)
 obtain ⟨s0,s1,s2,s3,rfl,hp0,_,_,_,_,hp1,hp2,hp3,_⟩:=hh
 obtain ⟨pA,pc,rfl,hpl,hpm⟩:=hp0.val
 unfold maxLen at hpm
 have c0:=hcell 0 _ rfl
 simp only[rDir,Nat.add_zero] at c0
 obtain ⟨q,hq⟩:∃ q,xs[k].path.length=q+1:=⟨xs[k].path.length - 1,by have:xs[k].path.length≠0:=fun h=>hne (List.eq_nil_of_length_eq_zero h);omega⟩
 have Hcall:Hid (∀ o',∀ d os,Calls Tryz.prog 93 #[.agg #[.slice (some ⟨b,o,none⟩) n c],.slice pA q pc] (grow (redrawn (w.alloc o') d) os) fun e w''=>e=.returned (.int .i64 (zBx xs xs[k].path))∧∃ p:Regrown,w''=grow (redrawn (w.alloc o') p.d) p.os):=fun o'=>by
  have e:zBx xs xs[k].path=findI xs (xs[k].path.take q):=by unfold zBx;rw[hq];rfl
  rw[e]
  exact qcall (w:=w.alloc o') (fun W hW=>zCF _ _ _ _ _ _ xs (xs[k].path.take q) W _ _ ((hx0.alloc o').belowSize hW) (((hp0.take (by omega)).alloc o').belowSize hW))
 clear hcell hx hp0 hp1 hp2 hp3 hx0
 generalize zBx xs xs[k].path=r at *
 rw[hq] at c0
 have hkn:(k:Int)<(n:Int):=by omega
 have hk0:(0:Int)≤(k:Int):=by omega
 have hnk:¬(n:Int)≤(k:Int):=by omega
 have hk9:¬(k:Int)<0:=by omega
 have hq0:((q+1:Nat):Int)≠0:=by omega
 have hqb:(((q+1:Nat):Int)==0)=false:=by simp;omega
 have hw1:IntKind.i64.wrap ((q:Int)+1 - 1)=(q:Int):=(IntWalk.i64_in _ ⟨by omega,by omega⟩).trans (by omega)
 have hw2:IntKind.i64.wrap (q:Int)=(q:Int):=IntWalk.i64_in _ ⟨by omega,by omega⟩
 have hqc:q≤pc:=by omega
 clear hne hpl hpm hq hcx hnx
 go_enter Tryz.func94,Tryz.ntmps94
 go_wp2_with fail
 have a0:(w.alloc (.cells #[.slice (some ⟨b,o,none⟩) n c] 33)).cell? ⟨w.heap.size,0,none⟩=some (.slice (some ⟨b,o,none⟩) n c):=by simp[go_sem]
 have r_a0:=cR a0
 refine wQ ?_
 repeat (go_big_quiet_step (first|(with_reducible exact Hcall.out _ _ _)))
 refine wpQuiet_nil fun w1 B1=>?_
 go_wp2_with fail
 go_ret
 exact ⟨rfl,bnew B1⟩
end Go.Proofs.YtminjjdnmpaaoaaGreatDoor
namespace Go.Proofs.YtminjjdnmpaaoaaGreatDoor
def zBU (b:UInt8):Bool:=decide (97≤b.toNat)&&decide (b.toNat≤122)
def zG2 (b:UInt8):Bool:=(decide (48≤b.toNat)&&decide (b.toNat≤57))||decide (b.toNat=45)
def nameC (b:UInt8):Bool:=zBU b||zG2 b
def nameL:List UInt8→Bool
 | []=>false
 | c::t=>zBU c&&t.all nameC&&decide (t.length+1≤16)
def zBq:List UInt8:=[97,98,99,100,101,102,103,104,105,106,107,108,109,110,111,112,113,114,115,116,117,118,119,120,121,122]
def zBZ:List UInt8:=[97,98,99,100,101,102,103,104,105,106,107,108,109,110,111,112,113,114,115,116,117,118,119,120,121,122,48,49,50,51,52,53,54,55,56,57,45]
theorem zE5 {p:UInt8→Bool} (h:∀ n:Fin 256,p (UInt8.ofNat n.val)=true) (b:UInt8):p b=true:=by
 have:=h ⟨b.toNat,b.toNat_lt⟩
 simpa using this
theorem zFP (b:UInt8):zBq.contains b=zBU b:=by
 have h:∀ b:UInt8,(zBq.contains b==zBU b)=true:=zE5 (by decide +kernel)
 simpa using h b
theorem zHQ (b:UInt8):zBZ.contains b=nameC b:=by
 have h:∀ b:UInt8,(zBZ.contains b==nameC b)=true:=zE5 (by decide +kernel)
 simpa using h b
theorem zCw {p:UInt8→Bool}:∀ {l:List UInt8},l.dropWhile p=[]↔l.all p=true:=by
 intro l
 induction l with
 | nil=>simp
 | cons x l ih=>
   by_cases h:p x=true
   ·rw[List.dropWhile_cons_of_pos h,List.all_cons,h,Bool.true_and];exact ih
   ·rw[List.dropWhile_cons_of_neg h];simp[h]
theorem zKN (l cs:List UInt8):Lib.trimS l cs=[]↔l.all (cs.contains ·)=true:=by
 unfold Lib.trimS Lib.trimLeftS Lib.trimRightS
 rw[zCw]
 constructor
 ·intro h
  by_cases hn:(l.reverse.dropWhile (cs.contains ·))=[]
  ·have:=zCw.1 hn
   simpa using this
  ·exfalso
   obtain ⟨x,t,hx⟩:=List.exists_cons_of_ne_nil hn
   have h1:cs.contains x=true:=by
    have:=List.all_eq_true.1 h x (by rw[hx];simp)
    exact this
   have h2:∀ (l:List UInt8),l.dropWhile (cs.contains ·)=x::t→cs.contains x=false:=by
    intro l
    induction l with
    | nil=>intro h;simp at h
    | cons y l ih=>
      intro h
      by_cases hy:cs.contains y=true
      ·rw[List.dropWhile_cons_of_pos hy] at h;exact ih h
      ·rw[List.dropWhile_cons_of_neg hy] at h
       injection h with h3 h4
       subst h3
       simpa using hy
   rw[h2 _ hx] at h1
   cases h1
 ·intro h
  have:l.reverse.dropWhile (cs.contains ·)=[]:=zCw.2 (by simpa using h)
  rw[this];rfl
theorem zJe (l:List UInt8) (h0:l≠[]) (h16:l.length≤16) :
  (Lib.trimLeftS l zBq=l→nameL l=false)∧(Lib.trimLeftS l zBq≠l→nameL l=(Lib.trimS (Lib.trimLeftS l zBq) zBZ).isEmpty):=by
 cases l with
 | nil=>exact absurd rfl h0
 | cons c t=>
   by_cases hc:zBU c=true
   ·have hd:Lib.trimLeftS (c::t) zBq=t.dropWhile zBU:=by
     unfold Lib.trimLeftS
     have:(fun x=>zBq.contains x)=zBU:=funext zFP
     rw[this,List.dropWhile_cons_of_pos hc]
    have hlen:(t.dropWhile zBU).length≤t.length:=(List.dropWhile_sublist _).length_le
    refine ⟨fun h=>?_,fun _=>?_⟩
    ·rw[hd] at h
     have:=congrArg List.length h
     simp at this
     omega
    ·rw[hd]
     have e1:(Lib.trimS (t.dropWhile zBU) zBZ).isEmpty=(t.dropWhile zBU).all nameC:=by
      have hs:(fun x=>zBZ.contains x)=nameC:=funext zHQ
      have h3:=zKN (t.dropWhile zBU) zBZ
      rw[hs] at h3
      by_cases hq:(t.dropWhile zBU).all nameC=true
      ·rw[hq,h3.2 hq];rfl
      ·have hne:Lib.trimS (t.dropWhile zBU) zBZ≠[]:=fun e=>hq (h3.1 e)
       rw[Bool.eq_false_iff.2 hq]
       cases hh:Lib.trimS (t.dropWhile zBU) zBZ with
       | nil=>exact absurd hh hne
       | cons _ _=>rfl
     have e2:∀ t:List UInt8,(t.dropWhile zBU).all nameC=t.all nameC:=by
      intro t
      induction t with
      | nil=>rfl
      | cons x t ih=>
        by_cases hx:zBU x=true
        ·rw[List.dropWhile_cons_of_pos hx,ih,List.all_cons];simp[nameC,hx]
        ·rw[List.dropWhile_cons_of_neg hx]
     rw[e1,e2]
     have:t.length+1≤16:=by simpa using h16
     simp[nameL,hc,this]
   ·have hd:Lib.trimLeftS (c::t) zBq=c::t:=by
     unfold Lib.trimLeftS
     have:(fun x=>zBq.contains x)=zBU:=funext zFP
     rw[this,List.dropWhile_cons_of_neg hc]
    exact ⟨fun _=>by simp[nameL,hc],fun h=>absurd hd h⟩
theorem zEc {l:List UInt8} (h:16<l.length):nameL l=false:=by
 cases l with
 | nil=>simp at h
 | cons c t=>have:¬t.length+1≤16:=by simp at h;omega
             simp[nameL,this]
end Go.Proofs.YtminjjdnmpaaoaaGreatDoor
namespace Go.Proofs.YtminjjdnmpaaoaaGreatDoor
open Go.RowKit
def nameB (s:ByteArray):Bool:=nameL s.data.toList
theorem zFg (s:ByteArray) (w:World) :
  Calls Tryz.prog 67 #[.string s,.string ⟨zBq.toArray⟩] w fun e w'=>e=.returned (.string ⟨(Lib.trimLeftS s.data.toList zBq).toArray⟩)∧Below w.heap.size w w':=
 Any.strings_TrimLeft_laid Tryz.laysTrimLeft (by kernel_rfl) s ⟨zBq.toArray⟩ w (by decide) (ascii_of_all (by decide))
theorem zJR (s:ByteArray) (hs:s.size≤9223372036854775807) (w:World) :
  Calls Tryz.prog 68 #[.string s,.string ⟨zBZ.toArray⟩] w fun e w'=>e=.returned (.string ⟨(Lib.trimS s.data.toList zBZ).toArray⟩)∧Below w.heap.size w w':=
 Any.strings_Trim_laid Tryz.laysTrim (by kernel_rfl) s ⟨zBZ.toArray⟩ w hs (by decide) (ascii_of_all (by decide))
theorem zBY (s:ByteArray):s.toList=s.data.toList:=Go.ByteArray.toList_eq s
theorem zBE (s:ByteArray):s.size=s.data.toList.length:=by
 rw[show s.size=s.data.size from rfl,Array.length_toList]
theorem zBg (s:ByteArray) (hs:s.size≤maxLen) (w:World) :
  Calls Tryz.prog 36 #[.string s] w fun e w'=>e=.returned (.bool (nameB s))∧Below w.heap.size w w':=by
 have hs63:s.size≤9223372036854775807:=by unfold maxLen at hs;omega
 have hsz:=zBE s
 have hL:=zFg s w
 by_cases h0:s.data.toList=[]
 ·have h0':s.toList.isEmpty=true:=by rw[zBY,h0];rfl
  have h0'':s.toList=[]:=by rw[zBY,h0]
  have Hn:Hid (nameB s=false):=by unfold Hid nameB;rw[h0];rfl
  have HL:=cH hL
  have Hd:=cH h0
  clear hL h0 hsz
  go_enter Tryz.func36,Tryz.ntmps36
  go_wp2_with fail
  refine HL.out.mono ?_
  rintro e w1 ⟨rfl,hb⟩
  go_wp2
  go_ret
  exact ⟨zAB (by rw[Hn.out]),hb⟩
 ·have h0':s.toList.isEmpty=false:=by rw[zBY];cases hh:s.data.toList with
   | nil=>exact absurd hh h0
   | cons _ _=>rfl
  have h0'':¬s.toList=[]:=by rw[zBY];exact h0
  by_cases h16:s.size≤16
  ·have ht:=zJe s.data.toList h0 (by omega)
   by_cases hT:Lib.trimLeftS s.data.toList zBq=s.data.toList
   ·have Hn:Hid (nameB s=false):=ht.1 hT
    rw[hT] at hL
    have hself:(⟨s.data.toList.toArray⟩:ByteArray)=s:=by cases s;simp
    rw[hself] at hL
    have HL:=cH hL
    clear hL h0 hsz ht hT hself
    go_enter Tryz.func36,Tryz.ntmps36
    go_wp2_with fail
    refine HL.out.mono ?_
    rintro e w1 ⟨rfl,hb⟩
    go_wp2
    go_ret
    exact ⟨zAB (by rw[Hn.out]),hb⟩
   ·have hTr:=ht.2 hT
    have hrl:(Lib.trimLeftS s.data.toList zBq).length≤s.data.toList.length:=(List.dropWhile_sublist _).length_le
    have hne:(Lib.trimLeftS s.data.toList zBq==s.toList)=false:=by rw[zBY];simpa using hT
    have HC:=cH (fun W=>zJR ⟨(Lib.trimLeftS s.data.toList zBq).toArray⟩ (by rw[zBE];simp;omega) W)
    have Hn:Hid (nameB s=(Lib.trimS (Lib.trimLeftS s.data.toList zBq) zBZ).isEmpty):=hTr
    generalize Lib.trimLeftS s.data.toList zBq=r at *
    have HL:=cH hL
    have HT:=cH hT
    clear hL h0 hsz ht hT hTr hrl
    have HC':Hid (∀ W,Calls Tryz.prog 68 #[.string ⟨r.toArray⟩,.string ⟨zBZ.toArray⟩] W fun e w'=>e=.returned (.string ⟨(Lib.trimS r zBZ).toArray⟩)∧Below W.heap.size W w'):=fun W=>HC.out W
    clear HC
    generalize Lib.trimS r zBZ=q at *
    go_enter Tryz.func36,Tryz.ntmps36
    go_wp2_with fail
    refine HL.out.mono ?_
    rintro e w1 ⟨rfl,hb⟩
    go_wp2_with fail
    refine (HC'.out w1).mono ?_
    rintro e w2 ⟨rfl,hb2⟩
    go_wp2
    go_ret
    exact ⟨zAB (by rw[Hn.out]),hb.trans (hb2.mono hb.size)⟩
  ·have Hn:Hid (nameB s=false):=zEc (by omega)
   have h16':16<s.size:=by omega
   have HL:=cH hL
   clear hL h0 hsz
   go_enter Tryz.func36,Tryz.ntmps36
   go_wp2_with fail
   refine HL.out.mono ?_
   rintro e w1 ⟨rfl,hb⟩
   go_wp2
   go_ret
   exact ⟨zAB (by rw[Hn.out]),hb⟩
def zB0:Nat→List UInt8→Bool
 | _,[]=>true
 | k,c::t=>(zBU c||(decide (k≠0)&&zG2 c))&&zB0 (k+1) t
theorem zJX:∀ (l:List UInt8) (k:Nat),k≠0→zB0 k l=l.all nameC:=by
 intro l
 induction l with
 | nil=>intro k _;rfl
 | cons c t ih=>intro k hk;rw[zB0,ih (k+1) (by omega),List.all_cons];simp[hk,nameC]
theorem zIO (l:List UInt8) (h:l≠[]):nameL l=(zB0 0 l&&decide (l.length≤16)):=by
 cases l with
 | nil=>exact absurd rfl h
 | cons c t=>rw[zB0,zJX t 1 (by decide)];simp[nameL]
theorem zMw (s:ByteArray) (k:Nat) (h:k<s.size):s.data.toList.drop k=s[k]::s.data.toList.drop (k+1):=by
 have h':k<s.data.toList.length:=by rw[←zBE];exact h
 rw[dC h']
 rfl
theorem zBr (s:ByteArray) (hs:s.size≤maxLen) (w:World) :
  Calls Tryz.prog 97 #[.string s] w fun e w'=>e=.returned (.bool (nameB s))∧w=w':=by
 unfold maxLen at hs
 have hnil:s.size=0→nameB s=false:=fun h=>by
  have:s.data.toList=[]:=List.eq_nil_of_length_eq_zero (by rw[←zBE];exact h)
  unfold nameB;rw[this];rfl
 have hgo:s.size≠0→nameB s=(zB0 0 s.data.toList&&decide (s.size≤16)):=fun h=>by
  unfold nameB;rw[zIO _ (by intro e;apply h;rw[zBE,e];rfl),←zBE]
 have Hnil:=cH hnil;clear hnil
 have Hgo:=cH hgo;clear hgo
 go_enter Tryz.func97,Tryz.ntmps97
 go_wp2
 go_loop [3] (fun i=>∃ k:Nat,k≤s.size∧i=.int .i64 k∧Hid (zB0 0 s.data.toList=zB0 k (s.data.toList.drop k))) (fun i=>s.size - (intOf i).toNat)
 case atStart=>exact ⟨0,nZ _,rfl,rfl⟩
 case round=>
  obtain ⟨k,hk,rfl,hrl⟩:=hrel
  by_cases hlt:k<s.size
  ·have hb:=zMw s k hlt
   have hst:zB0 k (s.data.toList.drop k)=((zBU s[k]||(decide (k≠0)&&zG2 s[k]))&&zB0 (k+1) (s.data.toList.drop (k+1))):=by rw[hb,zB0]
   have Hst:=cH (hrl.out.trans hst)
   have hno:(zBU s[k]||(decide (k≠0)&&zG2 s[k]))=false→nameB s=false:=fun h=>by
    rw[Hgo.out (by omega),Hst.out,h];rfl
   have Hno:=cH hno
   clear hb hst hno hrl
   have hlow:Hid (zBU s[k]=(decide (97≤s[k].toNat)&&decide (s[k].toNat≤122))):=rfl
   have hoth:Hid (zG2 s[k]=((decide (48≤s[k].toNat)&&decide (s[k].toNat≤57))||decide (s[k].toNat=45))):=rfl
   by_cases q1:97≤(s[k].toNat:Int)∧(s[k].toNat:Int)≤122
   ·obtain ⟨q2,q3⟩:=q1
    have hok:Hid (zB0 0 s.data.toList=zB0 (k+1) (s.data.toList.drop (k+1))):=by
     unfold Hid;rw[Hst.out,hlow.out];simp;omega
    go_wp2_with fail
    go_round
    case rel=>exact ⟨k+1,by omega,by go_num,hok⟩
    case measure=>simp[intOf];omega
   ·have hcl:((s[k].toNat:Int)<45∧((s[k].toNat:Int)==45)=false)∨((s[k].toNat:Int)=45∧((s[k].toNat:Int)==45)=true)∨((45:Int)<s[k].toNat∧(s[k].toNat:Int)<48∧((s[k].toNat:Int)==45)=false) ∨
      ((48:Int)≤s[k].toNat∧(s[k].toNat:Int)≤57)∨((57:Int)<s[k].toNat∧(s[k].toNat:Int)<97∧((s[k].toNat:Int)==45)=false)∨((122:Int)<s[k].toNat∧((s[k].toNat:Int)==45)=false):=by
     by_cases e45:(s[k].toNat:Int)=45
     ·exact .inr (.inl ⟨e45,by simp[e45]⟩)
     ·have e45':((s[k].toNat:Int)==45)=false:=by simpa using e45
      have h5:(s[k].toNat:Int)<45∨((45:Int)<s[k].toNat∧(s[k].toNat:Int)<48)∨((48:Int)≤s[k].toNat∧(s[k].toNat:Int)≤57)∨((57:Int)<s[k].toNat∧(s[k].toNat:Int)<97)∨(122:Int)<s[k].toNat:=by omega
      rcases h5 with h|h|h|h|h
      ·exact .inl ⟨h,e45'⟩
      ·exact .inr (.inr (.inl ⟨h.1,h.2,e45'⟩))
      ·exact .inr (.inr (.inr (.inl h)))
      ·exact .inr (.inr (.inr (.inr (.inl ⟨h.1,h.2,e45'⟩))))
      ·exact .inr (.inr (.inr (.inr (.inr ⟨h,e45'⟩))))
    have hkk:(k=0∧((k:Int)==0)=true)∨(k≠0∧((k:Int)==0)=false):=by
     by_cases e0:k=0
     ·exact .inl ⟨e0,by simp[e0]⟩
     ·exact .inr ⟨e0,by simp[e0]⟩
    have hbad:Hid (((s[k].toNat:Int)<45∨((45:Int)<s[k].toNat∧(s[k].toNat:Int)<48)∨((57:Int)<s[k].toNat)∨k=0)→nameB s=false):=fun h=>Hno.out (by
     rw[hlow.out,hoth.out]
     simp
     omega)
    have hgood:Hid (k≠0→((s[k].toNat:Int)=45∨((48:Int)≤s[k].toNat∧(s[k].toNat:Int)≤57))→zB0 0 s.data.toList=zB0 (k+1) (s.data.toList.drop (k+1))):=fun h h'=>by
     rw[Hst.out,hlow.out,hoth.out]
     simp
     omega
    have Q1:=cH q1
    clear q1
    rcases hcl with ⟨c1,c2⟩|⟨c1,c2⟩|⟨c1,c2,c3⟩|⟨c1,c2⟩|⟨c1,c2,c3⟩|⟨c1,c2⟩
    ·rcases hkk with ⟨hk0,hk1⟩|⟨hk0,hk1⟩
     ·have HB:=cH (hbad.out (by omega))
      clear hbad hgood Hno hk0
      go_wp2_with fail
      all_goals first
       | (go_ret
          exact ⟨zAB HB.out.symm,rfl⟩)
       | (exfalso
          rename_i hx
          rcases hx with hx|hx<;>simp at hx<;>omega)
       | (exfalso
          rename_i hx
          simp at hx
          omega)
     ·have HB:=cH (hbad.out (by omega))
      clear hbad hgood Hno hk0
      go_wp2_with fail
      all_goals first
       | (go_ret
          exact ⟨zAB HB.out.symm,rfl⟩)
       | (exfalso
          rename_i hx
          rcases hx with hx|hx<;>simp at hx<;>omega)
       | (exfalso
          rename_i hx
          simp at hx
          omega)
    ·rcases hkk with ⟨hk0,hk1⟩|⟨hk0,hk1⟩
     ·have HB:=cH (hbad.out (by omega))
      clear hbad hgood Hno hk0
      go_wp2_with fail
      all_goals first
       | (go_ret
          exact ⟨zAB HB.out.symm,rfl⟩)
       | (exfalso
          rename_i hx
          rcases hx with hx|hx<;>simp at hx<;>omega)
       | (exfalso
          rename_i hx
          simp at hx
          omega)
     ·have HG:=cH (hgood.out hk0 (by omega))
      clear hbad hgood Hno hk0
      go_wp2_with fail
      all_goals first
       | (go_round
          case rel=>exact ⟨k+1,by omega,by go_num,HG⟩
          case measure=>simp[intOf];omega)
       | (exfalso
          rename_i hx
          rcases hx with hx|hx<;>simp at hx<;>omega)
       | (exfalso
          rename_i hx
          simp at hx
          omega)
    ·rcases hkk with ⟨hk0,hk1⟩|⟨hk0,hk1⟩
     ·have HB:=cH (hbad.out (by omega))
      clear hbad hgood Hno hk0
      go_wp2_with fail
      all_goals first
       | (go_ret
          exact ⟨zAB HB.out.symm,rfl⟩)
       | (exfalso
          rename_i hx
          rcases hx with hx|hx<;>simp at hx<;>omega)
       | (exfalso
          rename_i hx
          simp at hx
          omega)
     ·have HB:=cH (hbad.out (by omega))
      clear hbad hgood Hno hk0
      go_wp2_with fail
      all_goals first
       | (go_ret
          exact ⟨zAB HB.out.symm,rfl⟩)
       | (exfalso
          rename_i hx
          rcases hx with hx|hx<;>simp at hx<;>omega)
       | (exfalso
          rename_i hx
          simp at hx
          omega)
    ·rcases hkk with ⟨hk0,hk1⟩|⟨hk0,hk1⟩
     ·have HB:=cH (hbad.out (by omega))
      clear hbad hgood Hno hk0
      go_wp2_with fail
      all_goals first
       | (go_ret
          exact ⟨zAB HB.out.symm,rfl⟩)
       | (exfalso
          rename_i hx
          rcases hx with hx|hx<;>simp at hx<;>omega)
       | (exfalso
          rename_i hx
          simp at hx
          omega)
     ·have HG:=cH (hgood.out hk0 (by omega))
      clear hbad hgood Hno hk0
      go_wp2_with fail
      all_goals first
       | (go_round
          case rel=>exact ⟨k+1,by omega,by go_num,HG⟩
          case measure=>simp[intOf];omega)
       | (exfalso
          rename_i hx
          rcases hx with hx|hx<;>simp at hx<;>omega)
       | (exfalso
          rename_i hx
          simp at hx
          omega)
    ·rcases hkk with ⟨hk0,hk1⟩|⟨hk0,hk1⟩
     ·have HB:=cH (hbad.out (by omega))
      clear hbad hgood Hno hk0
      go_wp2_with fail
      all_goals first
       | (go_ret
          exact ⟨zAB HB.out.symm,rfl⟩)
       | (exfalso
          rename_i hx
          rcases hx with hx|hx<;>simp at hx<;>omega)
       | (exfalso
          rename_i hx
          simp at hx
          omega)
     ·have HB:=cH (hbad.out (by omega))
      clear hbad hgood Hno hk0
      go_wp2_with fail
      all_goals first
       | (go_ret
          exact ⟨zAB HB.out.symm,rfl⟩)
       | (exfalso
          rename_i hx
          rcases hx with hx|hx<;>simp at hx<;>omega)
       | (exfalso
          rename_i hx
          simp at hx
          omega)
    ·rcases hkk with ⟨hk0,hk1⟩|⟨hk0,hk1⟩
     ·have HB:=cH (hbad.out (by omega))
      clear hbad hgood Hno hk0
      go_wp2_with fail
      all_goals first
       | (go_ret
          exact ⟨zAB HB.out.symm,rfl⟩)
       | (exfalso
          rename_i hx
          rcases hx with hx|hx<;>simp at hx<;>omega)
       | (exfalso
          rename_i hx
          simp at hx
          omega)
     ·have HB:=cH (hbad.out (by omega))
      clear hbad hgood Hno hk0
      go_wp2_with fail
      all_goals first
       | (go_ret
          exact ⟨zAB HB.out.symm,rfl⟩)
       | (exfalso
          rename_i hx
          rcases hx with hx|hx<;>simp at hx<;>omega)
       | (exfalso
          rename_i hx
          simp at hx
          omega)
  ·have hkn:k=s.size:=by omega
   by_cases h0:s.size=0
   ·have e1:s.toList=[]:=by rw[zBY];exact List.eq_nil_of_length_eq_zero (by rw[←zBE];exact h0)
    have e2:s.toList.isEmpty=true:=by rw[e1];rfl
    have HN:=cH (Hnil.out h0)
    clear h0 hkn
    go_wp2_with fail
    go_ret
    exact ⟨zAB HN.out.symm,rfl⟩
   ·have e1:¬s.toList=[]:=by
     rw[zBY];intro e;apply h0;rw[zBE,e];rfl
    have e2:s.toList.isEmpty=false:=by
     cases hh:s.toList with
     | nil=>exact absurd hh e1
     | cons _ _=>rfl
    have HN:Hid (nameB s=decide (s.size≤16)):=by
     unfold Hid
     rw[Hgo.out h0,hrl.out,dN (by rw[←zBE];omega),zB0,Bool.true_and]
    clear h0 hkn
    go_wp2_with fail
    go_ret
    exact ⟨zAB (by rw[HN.out];exact decide_eq_decide.2 (by omega)),rfl⟩
