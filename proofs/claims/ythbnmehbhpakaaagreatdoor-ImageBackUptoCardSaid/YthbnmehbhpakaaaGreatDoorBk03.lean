/-
  Spans, dependencies and packages held against one another: both sides answer whether they are one.
-/
import Derived.Test.YthbnmehbhpakaaaGreatDoorBk02
import Derived.Test.YthbnmehbhpakaaaGreatDoorAl
set_option linter.all false
set_option maxHeartbeats 1600000
set_option maxRecDepth 100000
namespace Go.Proofs.YthbnmehbhpakaaaGreatDoor
open Go.Rows Go.RowKit Go.Shelf Go.Sort
noncomputable def eqB {α:Type} (x y:α):Bool:=@decide (x=y) (Classical.propDecidable _)
theorem zAF {α:Type} {x y:α} (h:x=y):eqB x y=true:=by unfold eqB;exact @decide_eq_true _ (Classical.propDecidable _) h
theorem zAD {α:Type} {x y:α} (h:x≠y):eqB x y=false:=by unfold eqB;exact @decide_eq_false _ (Classical.propDecidable _) h
theorem zFE {α:Type} {x y:α} (h:eqB x y=true):x=y:=by
 by_cases e:x=y
 ·exact e
 ·rw[zAD e] at h;cases h
theorem zC9 {α:Type} {x y:α}:eqB x y=true↔x=y:=⟨zFE,zAF⟩
theorem zE0 (dd:Nat) (w:World) (a b c d e f:Int):(Op.equalIn (dd+2) 55 (.agg #[.int .i64 a,.int .i64 b,.int .i64 c]) (.agg #[.int .i64 d,.int .i64 e,.int .i64 f])).run Tryz.prog w=.ok (decide (a=d∧b=e∧c=f)) w:=by
 have hu':=Tryz.underlying55
 have hu:Tryz.prog.underlying 55=some (.struct (Tryz.prog.fieldsOf 55)):=by kernel_rfl
 have hs:Tryz.prog.stoodInHeld 55=false:=by kernel_rfl
 have h3:∀ w,(isAgg 3).run Tryz.prog w=.ok false w:=fun _=>by kernel_rfl
 rw[show dd+2=(dd+1)+1 from rfl,run_equalIn_agg _ _ _ _ _ hu hs]
 have he:∀ (x y:Int) (w:World),(Op.equalIn (dd+1) 3 (.int .i64 x) (.int .i64 y)).run Tryz.prog w=.ok (x==y) w:=fun x y w=>by
  rw[run_equalIn_int (k':=.i64) (h:=Tryz.underlying3)]
 generalize dd+1=D at *
 by_cases h1:a=d
 ·by_cases h2:b=e
  ·by_cases h4:c=f
   ·simp[Program.fieldsOf,hu',Op.eqFields,part,h3,he,h1,h2,h4]
   ·simp[Program.fieldsOf,hu',Op.eqFields,part,h3,he,h1,h2,h4]
  ·simp[Program.fieldsOf,hu',Op.eqFields,part,h3,he,h1,h2]
 ·simp[Program.fieldsOf,hu',Op.eqFields,part,h3,he,h1]
theorem zPA (w:World) (a b c d e f:Int):(binOp .eql 55 (.agg #[.int .i64 a,.int .i64 b,.int .i64 c]) (.agg #[.int .i64 d,.int .i64 e,.int .i64 f])).run Tryz.prog w=.ok (.bool (decide (a=d∧b=e∧c=f))) w:=by
 rw[run_eql_struct,show (10000:Nat)=9998+2 from rfl,zE0];rfl
theorem zSq (w:World) (a b c d e f:Int):(binOp .neq 55 (.agg #[.int .i64 a,.int .i64 b,.int .i64 c]) (.agg #[.int .i64 d,.int .i64 e,.int .i64 f])).run Tryz.prog w=.ok (.bool (!decide (a=d∧b=e∧c=f))) w:=by
 rw[run_neq_struct,show (10000:Nat)=9998+2 from rfl,zE0];rfl
theorem zPn (w:World) (a1 a2 a3 a4 a5 a6 b1 b2 b3 b4 b5 b6:Int) :
  (binOp .neq 227 (.agg #[.int .i64 a1,.int .i64 a2,.int .i64 a3,.int .i64 a4,.int .i64 a5,.int .i64 a6]) (.agg #[.int .i64 b1,.int .i64 b2,.int .i64 b3,.int .i64 b4,.int .i64 b5,.int .i64 b6])).run Tryz.prog w =
    .ok (.bool (!decide ((a1=b1∧a2=b2∧a3=b3)∧a4=b4∧a5=b5∧a6=b6))) w:=by
 have hu':=Tryz.underlying227
 have hu:Tryz.prog.underlying 227=some (.struct (Tryz.prog.fieldsOf 227)):=by kernel_rfl
 have hs:Tryz.prog.stoodInHeld 227=false:=by kernel_rfl
 have h3:∀ w,(isAgg 55).run Tryz.prog w=.ok true w:=fun _=>by kernel_rfl
 have h4:∀ w,(sizeOf 55).run Tryz.prog w=.ok 3 w:=fun _=>by kernel_rfl
 rw[run_neq_struct,show (10000:Nat)=9999+1 from rfl,run_equalIn_agg _ _ _ _ _ hu hs]
 have he:∀ (a b c d e f:Int) (w:World),(Op.equalIn 9999 55 (.agg #[.int .i64 a,.int .i64 b,.int .i64 c]) (.agg #[.int .i64 d,.int .i64 e,.int .i64 f])).run Tryz.prog w=.ok (decide (a=d∧b=e∧c=f)) w:=fun a b c d e f w=>by
  rw[show (9999:Nat)=9997+2 from rfl,zE0]
 generalize 9999=D at *
 by_cases g1:a1=b1∧a2=b2∧a3=b3
 ·by_cases g2:a4=b4∧a5=b5∧a6=b6
  ·simp[Program.fieldsOf,hu',Op.eqFields,part,h3,h4,he,g1,g2]
  ·simp[Program.fieldsOf,hu',Op.eqFields,part,h3,h4,he,g1,g2]
 ·simp[Program.fieldsOf,hu',Op.eqFields,part,h3,h4,he,g1]
theorem zM9 {x y:Spn}:((x.lo.major=y.lo.major∧x.lo.minor=y.lo.minor∧x.lo.patch=y.lo.patch)∧x.hi.major=y.hi.major∧x.hi.minor=y.hi.minor∧x.hi.patch=y.hi.patch)↔x=y:=by
 obtain ⟨⟨a,b,c⟩,⟨d,e,f⟩⟩:=x
 obtain ⟨⟨a',b',c'⟩,⟨d',e',f'⟩⟩:=y
 simp only[Spn.mk.injEq,Ver.mk.injEq]
theorem zMD (A B:Option Addr) (n m c d:Nat) (xs ys:List Spn) (w:World) (S T:Nat→Prop) (hx:SlV rSpn w S xs (.slice A n c)) (hy:SlV rSpn w T ys (.slice B m d)) :
  Calls Tryz.prog 251 #[.slice A n c,.slice B m d] w fun e w'=>e=.returned (.bool (eqB xs ys))∧Below w.heap.size w w':=by
 have hnx:=hx.n_eq
 have hny:=hy.n_eq
 have hcx:=hx.cap_le
 have hcy:=hy.cap_le
 unfold maxLen at hcx hcy
 by_cases hnm:n=m
 ·have hb:((n:Int) != (m:Int))=false:=by simp[hnm]
  have hn63:n≤9223372036854775807:=by omega
  have hx':=hx.more (S':=fun b=>b<w.heap.size) fun b _ h=>h
  have hy':=hy.more (S':=fun b=>b<w.heap.size) fun b _ h=>h
  have Hpos:Hid (xs=ys→eqB xs ys=true):=fun h=>zAF h
  have Hneg:Hid (xs≠ys→eqB xs ys=false):=fun h=>zAD h
  have Hnm:=cH hnm;clear hnm
  have Hnx:=cH hnx;clear hnx
  have Hny:=cH hny;clear hny
  clear hcx hcy hx hy
  generalize eqB xs ys=r at *
  go_enter Tryz.func251,Tryz.ntmps251
  go_wp2_with fail
  go_loopw [13] (fun i wr=>∃ k:Nat,k≤n∧i=.int .i64 k∧Hid (xs.take k=ys.take k)∧Below w.heap.size w wr) (fun i _=>n - (intOf i).toNat)
  case atStart=>exact ⟨0,nZ _,rfl,by simp[Hid],bR _ _⟩
  case round=>
   obtain ⟨k,hk,rfl,heq,hbel⟩:=hrel
   by_cases hlt:k<n
   ·have hkx:k<xs.length:=by have:=Hnx.out;omega
    have hky:k<ys.length:=by have:=Hny.out;have:=Hnm.out;omega
    have hkm:k<m:=by have:=Hnm.out;omega
    have hxw:=hx'.below hbel (fun b h=>h)
    have hyw:=hy'.below hbel (fun b h=>h)
    obtain ⟨b,o,cs,rfl,_,hb1,⟨rfl,_,_,_,_,_,_⟩,hcell⟩:=hxw.elem (gE hkx)
    obtain ⟨b',o',cs',rfl,_,hb2,⟨rfl,_,_,_,_,_,_⟩,hcell'⟩:=hyw.elem (gE hky)
    have c0:=hcell 0 _ rfl
    have c1:=hcell 1 _ rfl
    have c2:=hcell 2 _ rfl
    have c3:=hcell 3 _ rfl
    have c4:=hcell 4 _ rfl
    have c5:=hcell 5 _ rfl
    have d0:=hcell' 0 _ rfl
    have d1:=hcell' 1 _ rfl
    have d2:=hcell' 2 _ rfl
    have d3:=hcell' 3 _ rfl
    have d4:=hcell' 4 _ rfl
    have d5:=hcell' 5 _ rfl
    simp only[rSpn,Nat.add_zero] at c0 c1 c2 c3 c4 c5 d0 d1 d2 d3 d4 d5
    clear hcell hcell' hxw hyw
    have Hne:=cH (fun h=>ne_at hkx hky h)
    have Hen:=cH (fun h=>zB9 heq.out hkx hky h)
    have hop:∀ W,(binOp .neq 227 (.agg #[.int .i64 xs[k].lo.major,.int .i64 xs[k].lo.minor,.int .i64 xs[k].lo.patch,.int .i64 xs[k].hi.major,.int .i64 xs[k].hi.minor,.int .i64 xs[k].hi.patch]) (.agg #[.int .i64 ys[k].lo.major,.int .i64 ys[k].lo.minor,.int .i64 ys[k].lo.patch,.int .i64 ys[k].hi.major,.int .i64 ys[k].hi.minor,.int .i64 ys[k].hi.patch])).run Tryz.prog W=.ok (.bool (!eqB xs[k] ys[k])) W:=fun W=>by
     rw[zPn]
     by_cases e:xs[k]=ys[k]
     ·rw[zAF e,decide_eq_true (zM9.2 e)]
     ·rw[zAD e,decide_eq_false (fun h=>e (zM9.1 h))]
    have Hq:Hid (eqB xs[k] ys[k]=true∧xs[k]=ys[k]∨eqB xs[k] ys[k]=false∧xs[k]≠ys[k]):=by
     by_cases e:xs[k]=ys[k]
     ·exact .inl ⟨zAF e,e⟩
     ·exact .inr ⟨zAD e,e⟩
    have Hq1:Hid (eqB xs[k] ys[k]=true→xs.take (k+1)=ys.take (k+1)):=fun h=>Hen.out (zC9.1 h)
    have Hq2:Hid (eqB xs[k] ys[k]=false→r=false):=fun h=>Hneg.out (Hne.out (fun e=>by rw[zAF e] at h;cases h))
    clear Hq Hne Hen
    have hk0:(0:Int)≤(k:Int):=by omega
    have hkn:(k:Int)<(n:Int):=by omega
    have hkm':(k:Int)<(m:Int):=by omega
    generalize eqB xs[k] ys[k]=q at *
    generalize xs[k].lo.major=x1 at *
    generalize xs[k].lo.minor=x2 at *
    generalize xs[k].lo.patch=x3 at *
    generalize xs[k].hi.major=x4 at *
    generalize xs[k].hi.minor=x5 at *
    generalize xs[k].hi.patch=x6 at *
    generalize ys[k].lo.major=y1 at *
    generalize ys[k].lo.minor=y2 at *
    generalize ys[k].lo.patch=y3 at *
    generalize ys[k].hi.major=y4 at *
    generalize ys[k].hi.minor=y5 at *
    generalize ys[k].hi.patch=y6 at *
    have r_c0:=cR c0
    have r_c1:=cR c1
    have r_c2:=cR c2
    have r_c3:=cR c3
    have r_c4:=cR c4
    have r_c5:=cR c5
    have r_d0:=cR d0
    have r_d1:=cR d1
    have r_d2:=cR d2
    have r_d3:=cR d3
    have r_d4:=cR d4
    have r_d5:=cR d5
    cases q
    ·have He:=cH (Hq2.out rfl)
     clear Hq1 Hq2
     go_wp2_with fail
     refine wQ ?_
     repeat (go_big_quiet_step (first|fail))
     refine wpQuiet_nil fun w1 B1=>?_
     go_wp2_with fail
     go_ret
     exact ⟨zAB He.out.symm,bot hbel B1⟩
    ·have He:=cH (Hq1.out rfl)
     clear Hq1 Hq2
     go_wp2_with fail
     refine wQ ?_
     repeat (go_big_quiet_step (first|fail))
     refine wpQuiet_nil fun w1 B1=>?_
     go_wp2_with fail
     go_roundw
     case rel=>exact ⟨k+1,by omega,by go_num,He,bot hbel B1⟩
     case measure=>simp[intOf];omega
   ·have He:Hid (r=true):=Hpos.out (zBH heq.out (by have:=Hnx.out;omega) (by have:=Hny.out;have:=Hnm.out;omega))
    go_wp2_with fail
    go_ret
    exact ⟨zAB He.out.symm,hbel⟩
 ·have hb:((n:Int) != (m:Int))=true:=by simp;omega
  have He:Hid (eqB xs ys=false):=zAD (by rintro rfl;omega)
  clear hnx hny hcx hcy hx hy hnm
  generalize eqB xs ys=r at *
  go_enter Tryz.func251,Tryz.ntmps251
  go_wp2_with fail
  go_ret
  exact ⟨zAB He.out.symm,bR _ _⟩
theorem zH1 (A B:Option Addr) (n m c d:Nat) (xs ys:List Spn) (w:World) (S T:Nat→Prop) (hx:SlV rSpn w S xs (.slice A n c)) (hy:SlV rSpn w T ys (.slice B m d)) :
  Calls Tryz.prog 117 #[.slice A n c,.slice B m d] w fun e w'=>e=.returned (.bool (eqB xs ys))∧Below w.heap.size w w':=by
 have hnx:=hx.n_eq
 have hny:=hy.n_eq
 have hcx:=hx.cap_le
 have hcy:=hy.cap_le
 unfold maxLen at hcx hcy
 by_cases hnm:n=m
 ·have hb:((n:Int) != (m:Int))=false:=by simp[hnm]
  have hn63:n≤9223372036854775807:=by omega
  have hx':=hx.more (S':=fun b=>b<w.heap.size) fun b _ h=>h
  have hy':=hy.more (S':=fun b=>b<w.heap.size) fun b _ h=>h
  have Hpos:Hid (xs=ys→eqB xs ys=true):=fun h=>zAF h
  have Hneg:Hid (xs≠ys→eqB xs ys=false):=fun h=>zAD h
  have Hnm:=cH hnm;clear hnm
  have Hnx:=cH hnx;clear hnx
  have Hny:=cH hny;clear hny
  clear hcx hcy hx hy
  generalize eqB xs ys=r at *
  go_enter Tryz.func117,Tryz.ntmps117
  go_wp2_with fail
  go_loopw [5] (fun i wr=>∃ k:Nat,k≤n∧i=.int .i64 k∧Hid (xs.take k=ys.take k)∧Below w.heap.size w wr) (fun i _=>n - (intOf i).toNat)
  case atStart=>exact ⟨0,nZ _,rfl,by simp[Hid],bR _ _⟩
  case round=>
   obtain ⟨k,hk,rfl,heq,hbel⟩:=hrel
   by_cases hlt:k<n
   ·have hkx:k<xs.length:=by have:=Hnx.out;omega
    have hky:k<ys.length:=by have:=Hny.out;have:=Hnm.out;omega
    have hkm:k<m:=by have:=Hnm.out;omega
    have hxw:=hx'.below hbel (fun b h=>h)
    have hyw:=hy'.below hbel (fun b h=>h)
    obtain ⟨b,o,cs,rfl,_,hb1,⟨rfl,_,_,_,_,_,_⟩,hcell⟩:=hxw.elem (gE hkx)
    obtain ⟨b',o',cs',rfl,_,hb2,⟨rfl,_,_,_,_,_,_⟩,hcell'⟩:=hyw.elem (gE hky)
    have c0:=hcell 0 _ rfl
    have c1:=hcell 1 _ rfl
    have c2:=hcell 2 _ rfl
    have c3:=hcell 3 _ rfl
    have c4:=hcell 4 _ rfl
    have c5:=hcell 5 _ rfl
    have d0:=hcell' 0 _ rfl
    have d1:=hcell' 1 _ rfl
    have d2:=hcell' 2 _ rfl
    have d3:=hcell' 3 _ rfl
    have d4:=hcell' 4 _ rfl
    have d5:=hcell' 5 _ rfl
    simp only[rSpn,Nat.add_zero] at c0 c1 c2 c3 c4 c5 d0 d1 d2 d3 d4 d5
    clear hcell hcell' hxw hyw
    have Hne:=cH (fun h=>ne_at hkx hky h)
    have Hen:=cH (fun h=>zB9 heq.out hkx hky h)
    have hop:∀ W,(binOp .neq 227 (.agg #[.int .i64 xs[k].lo.major,.int .i64 xs[k].lo.minor,.int .i64 xs[k].lo.patch,.int .i64 xs[k].hi.major,.int .i64 xs[k].hi.minor,.int .i64 xs[k].hi.patch]) (.agg #[.int .i64 ys[k].lo.major,.int .i64 ys[k].lo.minor,.int .i64 ys[k].lo.patch,.int .i64 ys[k].hi.major,.int .i64 ys[k].hi.minor,.int .i64 ys[k].hi.patch])).run Tryz.prog W=.ok (.bool (!eqB xs[k] ys[k])) W:=fun W=>by
     rw[zPn]
     by_cases e:xs[k]=ys[k]
     ·rw[zAF e,decide_eq_true (zM9.2 e)]
     ·rw[zAD e,decide_eq_false (fun h=>e (zM9.1 h))]
    have Hq:Hid (eqB xs[k] ys[k]=true∧xs[k]=ys[k]∨eqB xs[k] ys[k]=false∧xs[k]≠ys[k]):=by
     by_cases e:xs[k]=ys[k]
     ·exact .inl ⟨zAF e,e⟩
     ·exact .inr ⟨zAD e,e⟩
    have Hq1:Hid (eqB xs[k] ys[k]=true→xs.take (k+1)=ys.take (k+1)):=fun h=>Hen.out (zC9.1 h)
    have Hq2:Hid (eqB xs[k] ys[k]=false→r=false):=fun h=>Hneg.out (Hne.out (fun e=>by rw[zAF e] at h;cases h))
    clear Hq Hne Hen
    have hk0:(0:Int)≤(k:Int):=by omega
    have hkn:(k:Int)<(n:Int):=by omega
    have hkm':(k:Int)<(m:Int):=by omega
    generalize eqB xs[k] ys[k]=q at *
    generalize xs[k].lo.major=x1 at *
    generalize xs[k].lo.minor=x2 at *
    generalize xs[k].lo.patch=x3 at *
    generalize xs[k].hi.major=x4 at *
    generalize xs[k].hi.minor=x5 at *
    generalize xs[k].hi.patch=x6 at *
    generalize ys[k].lo.major=y1 at *
    generalize ys[k].lo.minor=y2 at *
    generalize ys[k].lo.patch=y3 at *
    generalize ys[k].hi.major=y4 at *
    generalize ys[k].hi.minor=y5 at *
    generalize ys[k].hi.patch=y6 at *
    have r_c0:=cR c0
    have r_c1:=cR c1
    have r_c2:=cR c2
    have r_c3:=cR c3
    have r_c4:=cR c4
    have r_c5:=cR c5
    have r_d0:=cR d0
    have r_d1:=cR d1
    have r_d2:=cR d2
    have r_d3:=cR d3
    have r_d4:=cR d4
    have r_d5:=cR d5
    cases q
    ·have He:=cH (Hq2.out rfl)
     clear Hq1 Hq2
     go_wp2_with fail
     refine wQ ?_
     repeat (go_big_quiet_step (first|fail))
     refine wpQuiet_nil fun w1 B1=>?_
     go_wp2_with fail
     go_ret
     exact ⟨zAB He.out.symm,bot hbel B1⟩
    ·have He:=cH (Hq1.out rfl)
     clear Hq1 Hq2
     go_wp2_with fail
     refine wQ ?_
     repeat (go_big_quiet_step (first|fail))
     refine wpQuiet_nil fun w1 B1=>?_
     go_wp2_with fail
     go_roundw
     case rel=>exact ⟨k+1,by omega,by go_num,He,bot hbel B1⟩
     case measure=>simp[intOf];omega
   ·have He:Hid (r=true):=Hpos.out (zBH heq.out (by have:=Hnx.out;omega) (by have:=Hny.out;have:=Hnm.out;omega))
    go_wp2_with fail
    go_ret
    exact ⟨zAB He.out.symm,hbel⟩
 ·have hb:((n:Int) != (m:Int))=true:=by simp;omega
  have He:Hid (eqB xs ys=false):=zAD (by rintro rfl;omega)
  clear hnx hny hcx hcy hx hy hnm
  generalize eqB xs ys=r at *
  go_enter Tryz.func117,Tryz.ntmps117
  go_wp2_with fail
  go_ret
  exact ⟨zAB He.out.symm,bR _ _⟩
theorem zBe {a b:ByteArray} (h:a=b):(a.toList==b.toList)=true:=by subst h;simp
theorem zBD {a b:ByteArray} (h:a≠b):(a.toList==b.toList)=false:=by rw[zPc];simp[h]
theorem zIL {x y:Dep}:x=y↔x.name=y.name∧x.range=y.range:=by
 obtain ⟨a,b⟩:=x
 obtain ⟨c,d⟩:=y
 simp only[Dep.mk.injEq]
theorem zPP (A B:Option Addr) (n m c d:Nat) (x y:Dep) (w:World) (S T:Nat→Prop) (hx:SlV rSpn w S x.range (.slice A n c)) (hy:SlV rSpn w T y.range (.slice B m d)) :
  Calls Tryz.prog 250 #[.agg #[.string x.name,.slice A n c],.agg #[.string y.name,.slice B m d]] w fun e w'=>e=.returned (.bool (eqB x y))∧Below w.heap.size w w':=by
 have Hc:Hid (∀ o o',Calls Tryz.prog 251 #[.slice A n c,.slice B m d] ((w.alloc o).alloc o') fun e w'=>e=.returned (.bool (eqB x.range y.range))∧Below ((w.alloc o).alloc o').heap.size ((w.alloc o).alloc o') w'):=
  fun o o'=>zMD A B n m c d x.range y.range _ S T ((hx.alloc o).alloc o') ((hy.alloc o).alloc o')
 clear hx hy
 by_cases h:x.name=y.name
 ·have hb:=zBe h
  have Hr:Hid (eqB x y=eqB x.range y.range):=by
   unfold Hid
   by_cases e:x.range=y.range
   ·rw[zAF e,zAF (zIL.2 ⟨h,e⟩)]
   ·rw[zAD e,zAD (fun e'=>e (zIL.1 e').2)]
  clear h
  generalize eqB x y=r at *
  generalize eqB x.range y.range=r' at *
  generalize x.name=nx at *
  generalize y.name=ny at *
  go_enter Tryz.func250,Tryz.ntmps250
  go_wp2_with fail
  refine (Hc.out _ _).mono ?_
  rintro e w1 ⟨rfl,hb1⟩
  go_wp2_with fail
  go_ret
  exact ⟨zAB (by rw[Hr.out]),bot (bal (bal (bR _ _) _) _) hb1⟩
 ·have hb:=zBD h
  have Hr:Hid (eqB x y=false):=zAD (fun e'=>h (zIL.1 e').1)
  clear h
  generalize eqB x y=r at *
  generalize x.name=nx at *
  generalize y.name=ny at *
  go_enter Tryz.func250,Tryz.ntmps250
  go_wp2_with fail
  go_ret
  exact ⟨zAB Hr.out.symm,bal (bal (bR _ _) _) _⟩
theorem zKO:zEk Tryz.prog 250:=zA9 Tryz.func250 (by kernel_rfl) rfl
theorem zLQ (A B:Option Addr) (n m c d:Nat) (xs ys:List Dep) (w:World) (S T:Nat→Prop) (hx:SlV rDep w S xs (.slice A n c)) (hy:SlV rDep w T ys (.slice B m d)) :
  Calls Tryz.prog 249 #[.slice A n c,.slice B m d,.func (.func 250) #[] #[]] w fun e w'=>e=.returned (.bool (eqB xs ys))∧Below w.heap.size w w':=by
 have hnx:=hx.n_eq
 have hny:=hy.n_eq
 have hcx:=hx.cap_le
 have hcy:=hy.cap_le
 unfold maxLen at hcx hcy
 by_cases hnm:n=m
 ·have hb:((n:Int) != (m:Int))=false:=by simp[hnm]
  have hn63:n≤9223372036854775807:=by omega
  have hx':=hx.more (S':=fun b=>b<w.heap.size) fun b _ h=>h
  have hy':=hy.more (S':=fun b=>b<w.heap.size) fun b _ h=>h
  have Hpos:Hid (xs=ys→eqB xs ys=true):=fun h=>zAF h
  have Hneg:Hid (xs≠ys→eqB xs ys=false):=fun h=>zAD h
  have Hnm:=cH hnm;clear hnm
  have Hnx:=cH hnx;clear hnx
  have Hny:=cH hny;clear hny
  clear hcx hcy hx hy
  generalize eqB xs ys=r at *
  go_enter Tryz.func249,Tryz.ntmps249
  go_wp2_with fail
  go_loopw [17] (fun i wr=>∃ k:Nat,k≤n∧i=.int .i64 k∧Hid (xs.take k=ys.take k)∧Below w.heap.size w wr) (fun i _=>n - (intOf i).toNat)
  case atStart=>exact ⟨0,nZ _,rfl,by simp[Hid],bR _ _⟩
  case round=>
   obtain ⟨k,hk,rfl,heq,hbel⟩:=hrel
   by_cases hlt:k<n
   ·have hkx:k<xs.length:=by have:=Hnx.out;omega
    have hky:k<ys.length:=by have:=Hny.out;have:=Hnm.out;omega
    have hkm:k<m:=by have:=Hnm.out;omega
    have hxw:=hx'.below hbel (fun b h=>h)
    have hyw:=hy'.below hbel (fun b h=>h)
    obtain ⟨b,o,cs,rfl,_,hb1,⟨s0,rfl,_,hr0⟩,hcell⟩:=hxw.elem (gE hkx)
    obtain ⟨b',o',cs',rfl,_,hb2,⟨s1,rfl,_,hr1⟩,hcell'⟩:=hyw.elem (gE hky)
    obtain ⟨pA,pc,rfl,_,_⟩:=hr0.val
    obtain ⟨qA,qc,rfl,_,_⟩:=hr1.val
    have c0:=hcell 0 _ rfl
    have c1:=hcell 1 _ rfl
    have d0:=hcell' 0 _ rfl
    have d1:=hcell' 1 _ rfl
    simp only[rDep,Nat.add_zero] at c0 c1 d0 d1
    clear hcell hcell' hxw hyw
    have Hne:=cH (fun h=>ne_at hkx hky h)
    have Hen:=cH (fun h=>zB9 heq.out hkx hky h)
    have Hcall:Hid (∀ o o',Calls Tryz.prog 250 #[.agg #[.string xs[k].name,.slice pA xs[k].range.length pc],.agg #[.string ys[k].name,.slice qA ys[k].range.length qc]] ((wr.alloc o).alloc o') fun e w'=>e=.returned (.bool (eqB xs[k] ys[k]))∧Below ((wr.alloc o).alloc o').heap.size ((wr.alloc o).alloc o') w'):=
     fun o o'=>zPP _ _ _ _ _ _ xs[k] ys[k] _ _ _ ((hr0.alloc o).alloc o') ((hr1.alloc o).alloc o')
    have Hq1:Hid (eqB xs[k] ys[k]=true→xs.take (k+1)=ys.take (k+1)):=fun h=>Hen.out (zC9.1 h)
    have Hq2:Hid (eqB xs[k] ys[k]=false→r=false):=fun h=>Hneg.out (Hne.out (fun e=>by rw[zAF e] at h;cases h))
    clear Hne Hen hr0 hr1
    have hk0:(0:Int)≤(k:Int):=by omega
    have hkn:(k:Int)<(n:Int):=by omega
    have hkm':(k:Int)<(m:Int):=by omega
    have hent:=fun args W=>zKO args W
    have hne1:b≠wr.heap.size:=by omega
    have hne2:b'≠wr.heap.size:=by omega
    generalize eqB xs[k] ys[k]=q at *
    generalize xs[k].range.length=l1 at *
    generalize ys[k].range.length=l2 at *
    generalize xs[k].name=n1 at *
    generalize ys[k].name=n2 at *
    cases q
    ·have He:=cH (Hq2.out rfl)
     clear Hq1 Hq2
     go_wp2_with fail
     refine (Hcall.out _ _).mono ?_
     rintro e w1 ⟨rfl,hb3⟩
     go_wp2_with fail
     go_ret
     exact ⟨zAB He.out.symm,bot (bal (bal hbel _) _) hb3⟩
    ·have He:=cH (Hq1.out rfl)
     clear Hq1 Hq2
     go_wp2_with fail
     refine (Hcall.out _ _).mono ?_
     rintro e w1 ⟨rfl,hb3⟩
     have B1:=bot (bal (bal hbel _) _) hb3
     go_wp2_with fail
     go_roundw
     case rel=>exact ⟨k+1,by omega,by go_num,He,B1⟩
     case measure=>simp[intOf];omega
   ·have He:Hid (r=true):=Hpos.out (zBH heq.out (by have:=Hnx.out;omega) (by have:=Hny.out;have:=Hnm.out;omega))
    go_wp2_with fail
    go_ret
    exact ⟨zAB He.out.symm,hbel⟩
 ·have hb:((n:Int) != (m:Int))=true:=by simp;omega
  have He:Hid (eqB xs ys=false):=zAD (by rintro rfl;omega)
  clear hnx hny hcx hcy hx hy hnm
  generalize eqB xs ys=r at *
  go_enter Tryz.func249,Tryz.ntmps249
  go_wp2_with fail
  go_ret
  exact ⟨zAB He.out.symm,bR _ _⟩
theorem zEB (A B:Option Addr) (n m c d:Nat) (xs ys:List Dep) (w:World) (S T:Nat→Prop) (hx:SlV rDep w S xs (.slice A n c)) (hy:SlV rDep w T ys (.slice B m d)) :
  Calls Tryz.prog 196 #[.slice A n c,.slice B m d] w fun e w'=>e=.returned (.bool (eqB xs ys))∧Below w.heap.size w w':=by
 have Hc:=cH (zLQ A B n m c d xs ys w S T hx hy)
 clear hx hy
 generalize eqB xs ys=r at *
 go_enter Tryz.func196,Tryz.ntmps196
 go_wp2_with fail
 refine (Hc.out).mono ?_
 rintro e w1 ⟨rfl,hb1⟩
 go_wp2_with fail
 go_ret
 exact ⟨rfl,hb1⟩
theorem zEo (A B:Option Addr) (n m c d:Nat) (xs ys:List Dep) (w:World) (S T:Nat→Prop) (hx:SlV rDep w S xs (.slice A n c)) (hy:SlV rDep w T ys (.slice B m d)) :
  Calls Tryz.prog 56 #[.slice A n c,.slice B m d] w fun e w'=>e=.returned (.bool (eqB xs ys))∧Below w.heap.size w w':=by
 have hnx:=hx.n_eq
 have hny:=hy.n_eq
 have hcx:=hx.cap_le
 have hcy:=hy.cap_le
 unfold maxLen at hcx hcy
 by_cases hnm:n=m
 ·have hb:((n:Int) != (m:Int))=false:=by simp[hnm]
  have hn63:n≤9223372036854775807:=by omega
  have hx':=hx.more (S':=fun b=>b<w.heap.size) fun b _ h=>h
  have hy':=hy.more (S':=fun b=>b<w.heap.size) fun b _ h=>h
  have Hpos:Hid (xs=ys→eqB xs ys=true):=fun h=>zAF h
  have Hneg:Hid (xs≠ys→eqB xs ys=false):=fun h=>zAD h
  have Hnm:=cH hnm;clear hnm
  have Hnx:=cH hnx;clear hnx
  have Hny:=cH hny;clear hny
  clear hcx hcy hx hy
  generalize eqB xs ys=r at *
  go_enter Tryz.func56,Tryz.ntmps56
  go_wp2_with fail
  go_loopw [5] (fun i wr=>∃ k:Nat,k≤n∧i=.int .i64 k∧Hid (xs.take k=ys.take k)∧Below w.heap.size w wr) (fun i _=>n - (intOf i).toNat)
  case atStart=>exact ⟨0,nZ _,rfl,by simp[Hid],bR _ _⟩
  case round=>
   obtain ⟨k,hk,rfl,heq,hbel⟩:=hrel
   by_cases hlt:k<n
   ·have hkx:k<xs.length:=by have:=Hnx.out;omega
    have hky:k<ys.length:=by have:=Hny.out;have:=Hnm.out;omega
    have hkm:k<m:=by have:=Hnm.out;omega
    have hxw:=hx'.below hbel (fun b h=>h)
    have hyw:=hy'.below hbel (fun b h=>h)
    obtain ⟨b,o,cs,rfl,_,hb1,⟨s0,rfl,_,hr0⟩,hcell⟩:=hxw.elem (gE hkx)
    obtain ⟨b',o',cs',rfl,_,hb2,⟨s1,rfl,_,hr1⟩,hcell'⟩:=hyw.elem (gE hky)
    obtain ⟨pA,pc,rfl,_,_⟩:=hr0.val
    obtain ⟨qA,qc,rfl,_,_⟩:=hr1.val
    have c0:=hcell 0 _ rfl
    have c1:=hcell 1 _ rfl
    have d0:=hcell' 0 _ rfl
    have d1:=hcell' 1 _ rfl
    simp only[rDep,Nat.add_zero] at c0 c1 d0 d1
    clear hcell hcell' hxw hyw
    have Hne:=cH (fun h=>ne_at hkx hky h)
    have Hen:=cH (fun h=>zB9 heq.out hkx hky h)
    have Hcall:=cH (qcall (w:=wr) (fun W hW=>zH1 _ _ _ _ _ _ xs[k].range ys[k].range W _ _ (hr0.belowSize hW) (hr1.belowSize hW)))
    have Hq1:Hid (xs[k].name=ys[k].name→eqB xs[k].range ys[k].range=true→xs.take (k+1)=ys.take (k+1)):=fun h1 h=>Hen.out (zIL.2 ⟨h1,zFE h⟩)
    have Hq2:Hid ((xs[k].name≠ys[k].name∨eqB xs[k].range ys[k].range=false)→r=false):=fun h=>Hneg.out (Hne.out (fun e=>by
     rcases h with h|h
     ·exact h (zIL.1 e).1
     ·rw[zAF (zIL.1 e).2] at h;cases h))
    clear Hne Hen hr0 hr1
    have hk0:(0:Int)≤(k:Int):=by omega
    have hkn:(k:Int)<(n:Int):=by omega
    have hkm':(k:Int)<(m:Int):=by omega
    generalize eqB xs[k].range ys[k].range=q at *
    generalize xs[k].range.length=l1 at *
    generalize ys[k].range.length=l2 at *
    generalize xs[k].name=n1 at *
    generalize ys[k].name=n2 at *
    have r_c0:=cR c0
    have r_c1:=cR c1
    have r_d0:=cR d0
    have r_d1:=cR d1
    by_cases hn:n1=n2
    ·have hbn:=zBe hn
     have Hn:=cH hn
     clear hn
     cases q
     ·have He:=cH (Hq2.out (.inr rfl))
      clear Hq1 Hq2
      go_wp2_with fail
      refine wQ ?_
      repeat (go_big_quiet_step (first|(with_reducible exact Hcall.out _ _)))
      refine wpQuiet_nil fun w1 B1=>?_
      go_wp2_with fail
      go_ret
      exact ⟨zAB He.out.symm,bot hbel B1⟩
     ·have He:=cH (Hq1.out Hn.out rfl)
      clear Hq1 Hq2
      go_wp2_with fail
      refine wQ ?_
      repeat (go_big_quiet_step (first|(with_reducible exact Hcall.out _ _)))
      refine wpQuiet_nil fun w1 B1=>?_
      go_wp2_with fail
      go_roundw
      case rel=>exact ⟨k+1,by omega,by go_num,He,bot hbel B1⟩
      case measure=>simp[intOf];omega
    ·have hbn:=zBD hn
     have He:=cH (Hq2.out (.inl hn))
     clear Hq1 Hq2 hn
     go_wp2_with fail
     refine wQ ?_
     repeat (go_big_quiet_step (first|(with_reducible exact Hcall.out _ _)))
     refine wpQuiet_nil fun w1 B1=>?_
     go_wp2_with fail
     go_ret
     exact ⟨zAB He.out.symm,bot hbel B1⟩
   ·have He:Hid (r=true):=Hpos.out (zBH heq.out (by have:=Hnx.out;omega) (by have:=Hny.out;have:=Hnm.out;omega))
    go_wp2_with fail
    go_ret
    exact ⟨zAB He.out.symm,hbel⟩
 ·have hb:((n:Int) != (m:Int))=true:=by simp;omega
  have He:Hid (eqB xs ys=false):=zAD (by rintro rfl;omega)
  clear hnx hny hcx hcy hx hy hnm
  generalize eqB xs ys=r at *
  go_enter Tryz.func56,Tryz.ntmps56
  go_wp2_with fail
  go_ret
  exact ⟨zAB He.out.symm,bR _ _⟩
theorem zCW {x y:Pack}:x=y↔x.name=y.name∧(x.ver.major=y.ver.major∧x.ver.minor=y.ver.minor∧x.ver.patch=y.ver.patch)∧x.deps=y.deps∧x.peers=y.peers∧x.opts=y.opts:=by
 obtain ⟨a,⟨b,c,d⟩,e,f,g⟩:=x
 obtain ⟨a',⟨b',c',d'⟩,e',f',g'⟩:=y
 simp only[Pack.mk.injEq,Ver.mk.injEq]
def PackV (w:World) (S:Nat→Prop) (p:Pack) (v:Value):Prop:=
 ∃ A n c A' n' c' A'' n'' c'',v=.agg #[.string p.name,.int .i64 p.ver.major,.int .i64 p.ver.minor,.int .i64 p.ver.patch,.slice A n c,.slice A' n' c',.slice A'' n'' c''] ∧
   p.name.size≤maxLen∧SlV rDep w S p.deps (.slice A n c)∧SlV rDep w S p.peers (.slice A' n' c')∧SlV rDep w S p.opts (.slice A'' n'' c'')
theorem PackV.keep {w w':World} {S:Nat→Prop} {p:Pack} {v:Value} (h:PackV w S p v) (hb:Below w.heap.size w w'):PackV w' S p v:=by
 obtain ⟨A,n,c,A',n',c',A'',n'',c'',h1,h2,h3,h4,h5⟩:=h
 exact ⟨A,n,c,A',n',c',A'',n'',c'',h1,h2,h3.belowSize hb,h4.belowSize hb,h5.belowSize hb⟩
theorem zD4 (p q:Pack) (v u:Value) (w:World) (S T:Nat→Prop) (hp:PackV w S p v) (hq:PackV w T q u) :
  Calls Tryz.prog 132 #[v,u] w fun e w'=>e=.returned (.bool (eqB p q))∧Below w.heap.size w w':=by
 obtain ⟨A1,n1,c1,A2,n2,c2,A3,n3,c3,rfl,_,h1,h2,h3⟩:=hp
 obtain ⟨B1,m1,d1,B2,m2,d2,B3,m3,d3,rfl,_,g1,g2,g3⟩:=hq
 have Hd1:Hid (∀ W,Below w.heap.size w W→Calls Tryz.prog 196 #[.slice A1 n1 c1,.slice B1 m1 d1] W fun e w'=>e=.returned (.bool (eqB p.deps q.deps))∧Below W.heap.size W w'):=fun W hW=>zEB A1 B1 n1 m1 c1 d1 p.deps q.deps W S T (h1.belowSize hW) (g1.belowSize hW)
 have Hd2:Hid (∀ W,Below w.heap.size w W→Calls Tryz.prog 196 #[.slice A2 n2 c2,.slice B2 m2 d2] W fun e w'=>e=.returned (.bool (eqB p.peers q.peers))∧Below W.heap.size W w'):=fun W hW=>zEB A2 B2 n2 m2 c2 d2 p.peers q.peers W S T (h2.belowSize hW) (g2.belowSize hW)
 have Hd3:Hid (∀ W,Below w.heap.size w W→Calls Tryz.prog 196 #[.slice A3 n3 c3,.slice B3 m3 d3] W fun e w'=>e=.returned (.bool (eqB p.opts q.opts))∧Below W.heap.size W w'):=fun W hW=>zEB A3 B3 n3 m3 c3 d3 p.opts q.opts W S T (h3.belowSize hW) (g3.belowSize hW)
 have heq:=fun W=>zPA W p.ver.major p.ver.minor p.ver.patch q.ver.major q.ver.minor q.ver.patch
 have Hn:Hid (p.name≠q.name→eqB p q=false):=fun h=>zAD fun e=>h (zCW.1 e).1
 have Hv:Hid (¬(p.ver.major=q.ver.major∧p.ver.minor=q.ver.minor∧p.ver.patch=q.ver.patch)→eqB p q=false):=fun h=>zAD fun e=>h (zCW.1 e).2.1
 have Hx1:Hid (eqB p.deps q.deps=false→eqB p q=false):=fun h=>zAD fun e=>by rw[zAF (zCW.1 e).2.2.1] at h;cases h
 have Hx2:Hid (eqB p.peers q.peers=false→eqB p q=false):=fun h=>zAD fun e=>by rw[zAF (zCW.1 e).2.2.2.1] at h;cases h
 have Hx3:Hid (eqB p.opts q.opts=false→eqB p q=false):=fun h=>zAD fun e=>by rw[zAF (zCW.1 e).2.2.2.2] at h;cases h
 have Hyes:Hid (p.name=q.name→(p.ver.major=q.ver.major∧p.ver.minor=q.ver.minor∧p.ver.patch=q.ver.patch)→eqB p.deps q.deps=true→eqB p.peers q.peers=true→eqB p.opts q.opts=true→eqB p q=true):=
  fun a b c d e=>zAF (zCW.2 ⟨a,b,zFE c,zFE d,zFE e⟩)
 clear h1 h2 h3 g1 g2 g3
 generalize eqB p q=r at *
 generalize eqB p.deps q.deps=r1 at *
 generalize eqB p.peers q.peers=r2 at *
 generalize eqB p.opts q.opts=r3 at *
 generalize p.name=pn at *
 generalize q.name=qn at *
 generalize p.ver.major=x1 at *
 generalize p.ver.minor=x2 at *
 generalize p.ver.patch=x3 at *
 generalize q.ver.major=y1 at *
 generalize q.ver.minor=y2 at *
 generalize q.ver.patch=y3 at *
 have Hb0:Hid (∀ o o',Below w.heap.size w ((w.alloc o).alloc o')):=fun o o'=>bal (bal (bR _ _) _) _
 by_cases h0:pn=qn
 ·have hbn:=zBe h0
  have H0:=cH h0;clear h0
  by_cases h1:x1=y1∧x2=y2∧x3=y3
  ·have hev:∀ W,(binOp .eql 55 (.agg #[.int .i64 x1,.int .i64 x2,.int .i64 x3]) (.agg #[.int .i64 y1,.int .i64 y2,.int .i64 y3])).run Tryz.prog W=.ok (.bool true) W:=fun W=>by rw[heq,decide_eq_true h1]
   clear heq
   have H1:=cH h1;clear h1
   cases r1
   ·have He:=cH (Hx1.out rfl)
    clear Hn Hv Hx1 Hx2 Hx3 Hyes
    go_enter Tryz.func132,Tryz.ntmps132
    go_wp2_with fail
    refine (Hd1.out _ (Hb0.out _ _)).mono ?_
    rintro e w1 ⟨rfl,hb1⟩
    go_wp2_with fail
    go_ret
    exact ⟨zAB He.out.symm,bot (Hb0.out _ _) hb1⟩
   ·cases r2
    ·have He:=cH (Hx2.out rfl)
     clear Hn Hv Hx1 Hx2 Hx3 Hyes
     go_enter Tryz.func132,Tryz.ntmps132
     go_wp2_with fail
     refine (Hd1.out _ (Hb0.out _ _)).mono ?_
     rintro e w1 ⟨rfl,hb1⟩
     have B1':=bot (Hb0.out _ _) hb1
     have e5:=hb1.cell (p:=⟨w.heap.size,5,none⟩) (by simp;omega)
     have e6:=hb1.cell (p:=⟨w.heap.size,6,none⟩) (by simp;omega)
     have f5:=hb1.cell (p:=⟨w.heap.size+1,5,none⟩) (by simp)
     have f6:=hb1.cell (p:=⟨w.heap.size+1,6,none⟩) (by simp)
     simp[go_sem] at e5 e6 f5 f6
     have hz1:w.heap.size+1<w1.heap.size:=by have:=hb1.size;simp at this;omega
     clear hb1
     go_wp2_with fail
     refine (Hd2.out _ B1').mono ?_
     rintro e w2 ⟨rfl,hb2⟩
     go_wp2_with fail
     go_ret
     exact ⟨zAB He.out.symm,bot B1' hb2⟩
    ·cases r3
     ·have He:=cH (Hx3.out rfl)
      clear Hn Hv Hx1 Hx2 Hx3 Hyes
      go_enter Tryz.func132,Tryz.ntmps132
      go_wp2_with fail
      refine (Hd1.out _ (Hb0.out _ _)).mono ?_
      rintro e w1 ⟨rfl,hb1⟩
      have B1':=bot (Hb0.out _ _) hb1
      have e5:=hb1.cell (p:=⟨w.heap.size,5,none⟩) (by simp;omega)
      have e6:=hb1.cell (p:=⟨w.heap.size,6,none⟩) (by simp;omega)
      have f5:=hb1.cell (p:=⟨w.heap.size+1,5,none⟩) (by simp)
      have f6:=hb1.cell (p:=⟨w.heap.size+1,6,none⟩) (by simp)
      simp[go_sem] at e5 e6 f5 f6
      have hz1:w.heap.size+1<w1.heap.size:=by have:=hb1.size;simp at this;omega
      clear hb1
      go_wp2_with fail
      refine (Hd2.out _ B1').mono ?_
      rintro e w2 ⟨rfl,hb2⟩
      have g6:=zAA hb2 e6 (by omega)
      have k6:=zAA hb2 f6 (by omega)
      have B2':=bot B1' hb2
      clear hb2 e5 e6 f5 f6
      go_wp2_with fail
      refine (Hd3.out _ B2').mono ?_
      rintro e w3 ⟨rfl,hb3⟩
      go_wp2_with fail
      go_ret
      exact ⟨zAB He.out.symm,bot B2' hb3⟩
     ·have He:=cH (Hyes.out H0.out H1.out rfl rfl rfl)
      clear Hn Hv Hx1 Hx2 Hx3 Hyes
      go_enter Tryz.func132,Tryz.ntmps132
      go_wp2_with fail
      refine (Hd1.out _ (Hb0.out _ _)).mono ?_
      rintro e w1 ⟨rfl,hb1⟩
      have B1':=bot (Hb0.out _ _) hb1
      have e5:=hb1.cell (p:=⟨w.heap.size,5,none⟩) (by simp;omega)
      have e6:=hb1.cell (p:=⟨w.heap.size,6,none⟩) (by simp;omega)
      have f5:=hb1.cell (p:=⟨w.heap.size+1,5,none⟩) (by simp)
      have f6:=hb1.cell (p:=⟨w.heap.size+1,6,none⟩) (by simp)
      simp[go_sem] at e5 e6 f5 f6
      have hz1:w.heap.size+1<w1.heap.size:=by have:=hb1.size;simp at this;omega
      clear hb1
      go_wp2_with fail
      refine (Hd2.out _ B1').mono ?_
      rintro e w2 ⟨rfl,hb2⟩
      have g6:=zAA hb2 e6 (by omega)
      have k6:=zAA hb2 f6 (by omega)
      have B2':=bot B1' hb2
      clear hb2 e5 e6 f5 f6
      go_wp2_with fail
      refine (Hd3.out _ B2').mono ?_
      rintro e w3 ⟨rfl,hb3⟩
      go_wp2_with fail
      go_ret
      exact ⟨zAB He.out.symm,bot B2' hb3⟩
  ·have hev:∀ W,(binOp .eql 55 (.agg #[.int .i64 x1,.int .i64 x2,.int .i64 x3]) (.agg #[.int .i64 y1,.int .i64 y2,.int .i64 y3])).run Tryz.prog W=.ok (.bool false) W:=fun W=>by rw[heq,decide_eq_false h1]
   have He:=cH (Hv.out h1)
   clear heq Hn Hv Hx1 Hx2 Hx3 Hyes h1
   go_enter Tryz.func132,Tryz.ntmps132
   go_wp2_with fail
   go_ret
   exact ⟨zAB He.out.symm,Hb0.out _ _⟩
 ·have hbn:=zBD h0
  have He:=cH (Hn.out h0)
  clear heq Hn Hv Hx1 Hx2 Hx3 Hyes h0
  go_enter Tryz.func132,Tryz.ntmps132
  go_wp2_with fail
  go_ret
  exact ⟨zAB He.out.symm,Hb0.out _ _⟩
theorem zLc (p q:Pack) (v u:Value) (w:World) (S T:Nat→Prop) (hp:PackV w S p v) (hq:PackV w T q u) :
  Calls Tryz.prog 55 #[v,u] w fun e w'=>e=.returned (.bool (eqB p q))∧Below w.heap.size w w':=by
 obtain ⟨A1,n1,c1,A2,n2,c2,A3,n3,c3,rfl,_,h1,h2,h3⟩:=hp
 obtain ⟨B1,m1,d1,B2,m2,d2,B3,m3,d3,rfl,_,g1,g2,g3⟩:=hq
 have Hd1:Hid (∀ W,Below w.heap.size w W→Calls Tryz.prog 56 #[.slice A1 n1 c1,.slice B1 m1 d1] W fun e w'=>e=.returned (.bool (eqB p.deps q.deps))∧Below W.heap.size W w'):=fun W hW=>zEo A1 B1 n1 m1 c1 d1 p.deps q.deps W S T (h1.belowSize hW) (g1.belowSize hW)
 have Hd2:Hid (∀ W,Below w.heap.size w W→Calls Tryz.prog 56 #[.slice A2 n2 c2,.slice B2 m2 d2] W fun e w'=>e=.returned (.bool (eqB p.peers q.peers))∧Below W.heap.size W w'):=fun W hW=>zEo A2 B2 n2 m2 c2 d2 p.peers q.peers W S T (h2.belowSize hW) (g2.belowSize hW)
 have Hd3:Hid (∀ W,Below w.heap.size w W→Calls Tryz.prog 56 #[.slice A3 n3 c3,.slice B3 m3 d3] W fun e w'=>e=.returned (.bool (eqB p.opts q.opts))∧Below W.heap.size W w'):=fun W hW=>zEo A3 B3 n3 m3 c3 d3 p.opts q.opts W S T (h3.belowSize hW) (g3.belowSize hW)
 have heq:=fun W=>zPA W p.ver.major p.ver.minor p.ver.patch q.ver.major q.ver.minor q.ver.patch
 have Hn:Hid (p.name≠q.name→eqB p q=false):=fun h=>zAD fun e=>h (zCW.1 e).1
 have Hv:Hid (¬(p.ver.major=q.ver.major∧p.ver.minor=q.ver.minor∧p.ver.patch=q.ver.patch)→eqB p q=false):=fun h=>zAD fun e=>h (zCW.1 e).2.1
 have Hx1:Hid (eqB p.deps q.deps=false→eqB p q=false):=fun h=>zAD fun e=>by rw[zAF (zCW.1 e).2.2.1] at h;cases h
 have Hx2:Hid (eqB p.peers q.peers=false→eqB p q=false):=fun h=>zAD fun e=>by rw[zAF (zCW.1 e).2.2.2.1] at h;cases h
 have Hx3:Hid (eqB p.opts q.opts=false→eqB p q=false):=fun h=>zAD fun e=>by rw[zAF (zCW.1 e).2.2.2.2] at h;cases h
 have Hyes:Hid (p.name=q.name→(p.ver.major=q.ver.major∧p.ver.minor=q.ver.minor∧p.ver.patch=q.ver.patch)→eqB p.deps q.deps=true→eqB p.peers q.peers=true→eqB p.opts q.opts=true→eqB p q=true):=
  fun a b c d e=>zAF (zCW.2 ⟨a,b,zFE c,zFE d,zFE e⟩)
 clear h1 h2 h3 g1 g2 g3
 generalize eqB p q=r at *
 generalize eqB p.deps q.deps=r1 at *
 generalize eqB p.peers q.peers=r2 at *
 generalize eqB p.opts q.opts=r3 at *
 generalize p.name=pn at *
 generalize q.name=qn at *
 generalize p.ver.major=x1 at *
 generalize p.ver.minor=x2 at *
 generalize p.ver.patch=x3 at *
 generalize q.ver.major=y1 at *
 generalize q.ver.minor=y2 at *
 generalize q.ver.patch=y3 at *
 have Hb0:Hid (∀ o o',Below w.heap.size w ((w.alloc o).alloc o')):=fun o o'=>bal (bal (bR _ _) _) _
 by_cases h0:pn=qn
 ·have hbn:=zBe h0
  have H0:=cH h0;clear h0
  by_cases h1:x1=y1∧x2=y2∧x3=y3
  ·have hev:∀ W,(binOp .eql 55 (.agg #[.int .i64 x1,.int .i64 x2,.int .i64 x3]) (.agg #[.int .i64 y1,.int .i64 y2,.int .i64 y3])).run Tryz.prog W=.ok (.bool true) W:=fun W=>by rw[heq,decide_eq_true h1]
   clear heq
   have H1:=cH h1;clear h1
   cases r1
   ·have He:=cH (Hx1.out rfl)
    clear Hn Hv Hx1 Hx2 Hx3 Hyes
    go_enter Tryz.func55,Tryz.ntmps55
    go_wp2_with fail
    refine (Hd1.out _ (Hb0.out _ _)).mono ?_
    rintro e w1 ⟨rfl,hb1⟩
    go_wp2_with fail
    go_ret
    exact ⟨zAB He.out.symm,bot (Hb0.out _ _) hb1⟩
   ·cases r2
    ·have He:=cH (Hx2.out rfl)
     clear Hn Hv Hx1 Hx2 Hx3 Hyes
     go_enter Tryz.func55,Tryz.ntmps55
     go_wp2_with fail
     refine (Hd1.out _ (Hb0.out _ _)).mono ?_
     rintro e w1 ⟨rfl,hb1⟩
     have B1':=bot (Hb0.out _ _) hb1
     have e5:=hb1.cell (p:=⟨w.heap.size,5,none⟩) (by simp;omega)
     have e6:=hb1.cell (p:=⟨w.heap.size,6,none⟩) (by simp;omega)
     have f5:=hb1.cell (p:=⟨w.heap.size+1,5,none⟩) (by simp)
     have f6:=hb1.cell (p:=⟨w.heap.size+1,6,none⟩) (by simp)
     simp[go_sem] at e5 e6 f5 f6
     have hz1:w.heap.size+1<w1.heap.size:=by have:=hb1.size;simp at this;omega
     clear hb1
     go_wp2_with fail
     refine (Hd2.out _ B1').mono ?_
     rintro e w2 ⟨rfl,hb2⟩
     go_wp2_with fail
     go_ret
     exact ⟨zAB He.out.symm,bot B1' hb2⟩
    ·cases r3
     ·have He:=cH (Hx3.out rfl)
      clear Hn Hv Hx1 Hx2 Hx3 Hyes
      go_enter Tryz.func55,Tryz.ntmps55
      go_wp2_with fail
      refine (Hd1.out _ (Hb0.out _ _)).mono ?_
      rintro e w1 ⟨rfl,hb1⟩
      have B1':=bot (Hb0.out _ _) hb1
      have e5:=hb1.cell (p:=⟨w.heap.size,5,none⟩) (by simp;omega)
      have e6:=hb1.cell (p:=⟨w.heap.size,6,none⟩) (by simp;omega)
      have f5:=hb1.cell (p:=⟨w.heap.size+1,5,none⟩) (by simp)
      have f6:=hb1.cell (p:=⟨w.heap.size+1,6,none⟩) (by simp)
      simp[go_sem] at e5 e6 f5 f6
      have hz1:w.heap.size+1<w1.heap.size:=by have:=hb1.size;simp at this;omega
      clear hb1
      go_wp2_with fail
      refine (Hd2.out _ B1').mono ?_
      rintro e w2 ⟨rfl,hb2⟩
      have g6:=zAA hb2 e6 (by omega)
      have k6:=zAA hb2 f6 (by omega)
      have B2':=bot B1' hb2
      clear hb2 e5 e6 f5 f6
      go_wp2_with fail
      refine (Hd3.out _ B2').mono ?_
      rintro e w3 ⟨rfl,hb3⟩
      go_wp2_with fail
      go_ret
      exact ⟨zAB He.out.symm,bot B2' hb3⟩
     ·have He:=cH (Hyes.out H0.out H1.out rfl rfl rfl)
      clear Hn Hv Hx1 Hx2 Hx3 Hyes
      go_enter Tryz.func55,Tryz.ntmps55
      go_wp2_with fail
      refine (Hd1.out _ (Hb0.out _ _)).mono ?_
      rintro e w1 ⟨rfl,hb1⟩
      have B1':=bot (Hb0.out _ _) hb1
      have e5:=hb1.cell (p:=⟨w.heap.size,5,none⟩) (by simp;omega)
      have e6:=hb1.cell (p:=⟨w.heap.size,6,none⟩) (by simp;omega)
      have f5:=hb1.cell (p:=⟨w.heap.size+1,5,none⟩) (by simp)
      have f6:=hb1.cell (p:=⟨w.heap.size+1,6,none⟩) (by simp)
      simp[go_sem] at e5 e6 f5 f6
      have hz1:w.heap.size+1<w1.heap.size:=by have:=hb1.size;simp at this;omega
      clear hb1
      go_wp2_with fail
      refine (Hd2.out _ B1').mono ?_
      rintro e w2 ⟨rfl,hb2⟩
      have g6:=zAA hb2 e6 (by omega)
      have k6:=zAA hb2 f6 (by omega)
      have B2':=bot B1' hb2
      clear hb2 e5 e6 f5 f6
      go_wp2_with fail
      refine (Hd3.out _ B2').mono ?_
      rintro e w3 ⟨rfl,hb3⟩
      go_wp2_with fail
      go_ret
      exact ⟨zAB He.out.symm,bot B2' hb3⟩
  ·have hev:∀ W,(binOp .eql 55 (.agg #[.int .i64 x1,.int .i64 x2,.int .i64 x3]) (.agg #[.int .i64 y1,.int .i64 y2,.int .i64 y3])).run Tryz.prog W=.ok (.bool false) W:=fun W=>by rw[heq,decide_eq_false h1]
   have He:=cH (Hv.out h1)
   clear heq Hn Hv Hx1 Hx2 Hx3 Hyes h1
   go_enter Tryz.func55,Tryz.ntmps55
   go_wp2_with fail
   go_ret
   exact ⟨zAB He.out.symm,Hb0.out _ _⟩
 ·have hbn:=zBD h0
  have He:=cH (Hn.out h0)
  clear heq Hn Hv Hx1 Hx2 Hx3 Hyes h0
  go_enter Tryz.func55,Tryz.ntmps55
  go_wp2_with fail
  go_ret
  exact ⟨zAB He.out.symm,Hb0.out _ _⟩
