/- Spans, dependencies and packages held against one another: both sides answer whether they are one. -/
import Derived.Test.YtminjjdnmpaaoaaGreatDoorIn02
import Derived.Test.YtminjjdnmpaaoaaGreatDoorIn01
import Derived.Test.YtminjjdnmpaaoaaGreatDoorAl
set_option linter.all false
set_option maxHeartbeats 1600000
set_option maxRecDepth 100000
namespace Go.Proofs.YtminjjdnmpaaoaaGreatDoor
open Go.Rows Go.RowKit Go.Shelf Go.Sort
noncomputable def eqB {α:Type} (x y:α):Bool:=@decide (x=y) (Classical.propDecidable _)
theorem zAg {α:Type} {x y:α} (h:x=y):eqB x y=true:=by unfold eqB;exact @decide_eq_true _ (Classical.propDecidable _) h
theorem zAY {α:Type} {x y:α} (h:x≠y):eqB x y=false:=by unfold eqB;exact @decide_eq_false _ (Classical.propDecidable _) h
theorem zIc {α:Type} {x y:α} (h:eqB x y=true):x=y:=by
 by_cases e:x=y
 ·exact e
 ·rw[zAY e] at h;cases h
theorem zC6 {α:Type} {x y:α}:eqB x y=true↔x=y:=⟨zIc,zAg⟩
theorem zFF (dd:Nat) (w:World) (a b c d e f:Int):(Op.equalIn (dd+2) 50 (.agg #[.int .i64 a,.int .i64 b,.int .i64 c]) (.agg #[.int .i64 d,.int .i64 e,.int .i64 f])).run Tryz.prog w=.ok (decide (a=d∧b=e∧c=f)) w:=by
 have hu':=Tryz.underlying50
 have hu:Tryz.prog.underlying 50=some (.struct (Tryz.prog.fieldsOf 50)):=by kernel_rfl
 have hs:Tryz.prog.stoodInHeld 50=false:=by kernel_rfl
 have h3:∀ w,(isAgg 3).run Tryz.prog w=.ok false w:=fun _=>by kernel_rfl
 rw[show dd+2=(dd+1)+1 from rfl,run_equalIn_agg _ _ _ _ _ hu hs]
 have he:∀ (x y:Int) (w:World),(Op.equalIn (dd+1) 3 (.int .i64 x) (.int .i64 y)).run Tryz.prog w=.ok (x==y) w:=fun x y w=>by
  rw[run_equalIn_int (k':=.i64) (h:=Tryz.underlying3)]
 generalize dd+1=D at *
 by_cases h1:a=d
 ·by_cases h2:b=e
  ·by_cases h4:c=f
   ·simp[Program.fieldsOf,hu',Op.eqFields,part,h3,he,h1,h2,h4]
   ·simp[Program.fieldsOf,hu',Op.eqFields,part,h3,he,h1,h2,h4]
  ·simp[Program.fieldsOf,hu',Op.eqFields,part,h3,he,h1,h2]
 ·simp[Program.fieldsOf,hu',Op.eqFields,part,h3,he,h1]
theorem zMv (w:World) (a b c d e f:Int):(binOp .eql 50 (.agg #[.int .i64 a,.int .i64 b,.int .i64 c]) (.agg #[.int .i64 d,.int .i64 e,.int .i64 f])).run Tryz.prog w=.ok (.bool (decide (a=d∧b=e∧c=f))) w:=by
 rw[run_eql_struct,show (10000:Nat)=9998+2 from rfl,zFF];rfl
theorem zMn (w:World) (a1 a2 a3 a4 a5 a6 b1 b2 b3 b4 b5 b6:Int) :
  (binOp .neq 70 (.agg #[.int .i64 a1,.int .i64 a2,.int .i64 a3,.int .i64 a4,.int .i64 a5,.int .i64 a6]) (.agg #[.int .i64 b1,.int .i64 b2,.int .i64 b3,.int .i64 b4,.int .i64 b5,.int .i64 b6])).run Tryz.prog w =
    .ok (.bool (!decide ((a1=b1∧a2=b2∧a3=b3)∧a4=b4∧a5=b5∧a6=b6))) w:=by
 have hu':=Tryz.underlying70
 have hu:Tryz.prog.underlying 70=some (.struct (Tryz.prog.fieldsOf 70)):=by kernel_rfl
 have hs:Tryz.prog.stoodInHeld 70=false:=by kernel_rfl
 have h3:∀ w,(isAgg 50).run Tryz.prog w=.ok true w:=fun _=>by kernel_rfl
 have h4:∀ w,(sizeOf 50).run Tryz.prog w=.ok 3 w:=fun _=>by kernel_rfl
 rw[run_neq_struct,show (10000:Nat)=9999+1 from rfl,run_equalIn_agg _ _ _ _ _ hu hs]
 have he:∀ (a b c d e f:Int) (w:World),(Op.equalIn 9999 50 (.agg #[.int .i64 a,.int .i64 b,.int .i64 c]) (.agg #[.int .i64 d,.int .i64 e,.int .i64 f])).run Tryz.prog w=.ok (decide (a=d∧b=e∧c=f)) w:=fun a b c d e f w=>by
  rw[show (9999:Nat)=9997+2 from rfl,zFF]
 generalize 9999=D at *
 by_cases g1:a1=b1∧a2=b2∧a3=b3
 ·by_cases g2:a4=b4∧a5=b5∧a6=b6
  ·simp[Program.fieldsOf,hu',Op.eqFields,part,h3,h4,he,g1,g2]
  ·simp[Program.fieldsOf,hu',Op.eqFields,part,h3,h4,he,g1,g2]
 ·simp[Program.fieldsOf,hu',Op.eqFields,part,h3,h4,he,g1]
theorem zMd {x y:Spn}:((x.lo.major=y.lo.major∧x.lo.minor=y.lo.minor∧x.lo.patch=y.lo.patch)∧x.hi.major=y.hi.major∧x.hi.minor=y.hi.minor∧x.hi.patch=y.hi.patch)↔x=y:=by
 obtain ⟨⟨a,b,c⟩,⟨d,e,f⟩⟩:=x
 obtain ⟨⟨a',b',c'⟩,⟨d',e',f'⟩⟩:=y
 simp only[Spn.mk.injEq,Ver.mk.injEq]
theorem zHY (A B:Option Addr) (n m c d:Nat) (xs ys:List Spn) (w:World) (S T:Nat→Prop) (hx:SlV rSpn w S xs (.slice A n c)) (hy:SlV rSpn w T ys (.slice B m d)) :
  Calls Tryz.prog 123 #[.slice A n c,.slice B m d] w fun e w'=>e=.returned (.bool (eqB xs ys))∧Below w.heap.size w w':=by
 have hnx:=hx.n_eq
 have hny:=hy.n_eq
 have hcx:=hx.cap_le
 have hcy:=hy.cap_le
 unfold maxLen at hcx hcy
 by_cases hnm:n=m
 ·have hb:((n:Int) != (m:Int))=false:=by simp[hnm]
  have hn63:n≤9223372036854775807:=by omega
  have hx':=hx.more (S':=fun b=>b<w.heap.size) fun b _ h=>h
  have hy':=hy.more (S':=fun b=>b<w.heap.size) fun b _ h=>h
  have Hpos:Hid (xs=ys→eqB xs ys=true):=fun h=>zAg h
  have Hneg:Hid (xs≠ys→eqB xs ys=false):=fun h=>zAY h
  have Hnm:=cH hnm;clear hnm
  have Hnx:=cH hnx;clear hnx
  have Hny:=cH hny;clear hny
  clear hcx hcy hx hy
  generalize eqB xs ys=r at *
  go_enter Tryz.func123,Tryz.ntmps123
  go_wp2_with fail
  go_loopw [13] (fun i wr=>∃ k:Nat,k≤n∧i=.int .i64 k∧Hid (xs.take k=ys.take k)∧Below w.heap.size w wr) (fun i _=>n - (intOf i).toNat)
  case atStart=>exact ⟨0,nZ _,rfl,by simp[Hid],bR _ _⟩
  case round=>
   obtain ⟨k,hk,rfl,heq,hbel⟩:=hrel
   by_cases hlt:k<n
   ·have hkx:k<xs.length:=by have:=Hnx.out;omega
    have hky:k<ys.length:=by have:=Hny.out;have:=Hnm.out;omega
    have hkm:k<m:=by have:=Hnm.out;omega
    have hxw:=hx'.below hbel (fun b h=>h)
    have hyw:=hy'.below hbel (fun b h=>h)
    obtain ⟨b,o,cs,rfl,_,hb1,⟨rfl,_,_,_,_,_,_⟩,hcell⟩:=hxw.elem (gE hkx)
    obtain ⟨b',o',cs',rfl,_,hb2,⟨rfl,_,_,_,_,_,_⟩,hcell'⟩:=hyw.elem (gE hky)
    have c0:=hcell 0 _ rfl
    have c1:=hcell 1 _ rfl
    have c2:=hcell 2 _ rfl
    have c3:=hcell 3 _ rfl
    have c4:=hcell 4 _ rfl
    have c5:=hcell 5 _ rfl
    have d0:=hcell' 0 _ rfl
    have d1:=hcell' 1 _ rfl
    have d2:=hcell' 2 _ rfl
    have d3:=hcell' 3 _ rfl
    have d4:=hcell' 4 _ rfl
    have d5:=hcell' 5 _ rfl
    simp only[rSpn,Nat.add_zero] at c0 c1 c2 c3 c4 c5 d0 d1 d2 d3 d4 d5
    clear hcell hcell' hxw hyw
    have Hne:=cH (fun h=>ne_at hkx hky h)
    have Hen:=cH (fun h=>zG1 heq.out hkx hky h)
    have hop:∀ W,(binOp .neq 70 (.agg #[.int .i64 xs[k].lo.major,.int .i64 xs[k].lo.minor,.int .i64 xs[k].lo.patch,.int .i64 xs[k].hi.major,.int .i64 xs[k].hi.minor,.int .i64 xs[k].hi.patch]) (.agg #[.int .i64 ys[k].lo.major,.int .i64 ys[k].lo.minor,.int .i64 ys[k].lo.patch,.int .i64 ys[k].hi.major,.int .i64 ys[k].hi.minor,.int .i64 ys[k].hi.patch])).run Tryz.prog W=.ok (.bool (!eqB xs[k] ys[k])) W:=fun W=>by
     rw[zMn]
     by_cases e:xs[k]=ys[k]
     ·rw[zAg e,decide_eq_true (zMd.2 e)]
     ·rw[zAY e,decide_eq_false (fun h=>e (zMd.1 h))]
    have Hq:Hid (eqB xs[k] ys[k]=true∧xs[k]=ys[k]∨eqB xs[k] ys[k]=false∧xs[k]≠ys[k]):=by
     by_cases e:xs[k]=ys[k]
     ·exact .inl ⟨zAg e,e⟩
     ·exact .inr ⟨zAY e,e⟩
    have Hq1:Hid (eqB xs[k] ys[k]=true→xs.take (k+1)=ys.take (k+1)):=fun h=>Hen.out (zC6.1 h)
    have Hq2:Hid (eqB xs[k] ys[k]=false→r=false):=fun h=>Hneg.out (Hne.out (fun e=>by rw[zAg e] at h;cases h))
    clear Hq Hne Hen
    have hk0:(0:Int)≤(k:Int):=by omega
    have hkn:(k:Int)<(n:Int):=by omega
    have hkm':(k:Int)<(m:Int):=by omega
    generalize eqB xs[k] ys[k]=q at *
    generalize xs[k].lo.major=x1 at *
    generalize xs[k].lo.minor=x2 at *
    generalize xs[k].lo.patch=x3 at *
    generalize xs[k].hi.major=x4 at *
    generalize xs[k].hi.minor=x5 at *
    generalize xs[k].hi.patch=x6 at *
    generalize ys[k].lo.major=y1 at *
    generalize ys[k].lo.minor=y2 at *
    generalize ys[k].lo.patch=y3 at *
    generalize ys[k].hi.major=y4 at *
    generalize ys[k].hi.minor=y5 at *
    generalize ys[k].hi.patch=y6 at *
    have r_c0:=cR c0
    have r_c1:=cR c1
    have r_c2:=cR c2
    have r_c3:=cR c3
    have r_c4:=cR c4
    have r_c5:=cR c5
    have r_d0:=cR d0
    have r_d1:=cR d1
    have r_d2:=cR d2
    have r_d3:=cR d3
    have r_d4:=cR d4
    have r_d5:=cR d5
    cases q
    ·have He:=cH (Hq2.out rfl)
     clear Hq1 Hq2
     go_wp2_with fail
     refine wQ ?_
     repeat (go_big_quiet_step (first|fail))
     refine wpQuiet_nil fun w1 B1=>?_
     go_wp2_with fail
     go_ret
     exact ⟨zAB He.out.symm,bot hbel B1⟩
    ·have He:=cH (Hq1.out rfl)
     clear Hq1 Hq2
     go_wp2_with fail
     refine wQ ?_
     repeat (go_big_quiet_step (first|fail))
     refine wpQuiet_nil fun w1 B1=>?_
     go_wp2_with fail
     go_roundw
     case rel=>exact ⟨k+1,by omega,by go_num,He,bot hbel B1⟩
     case measure=>simp[intOf];omega
   ·have He:Hid (r=true):=Hpos.out (zEn heq.out (by have:=Hnx.out;omega) (by have:=Hny.out;have:=Hnm.out;omega))
    go_wp2_with fail
    go_ret
    exact ⟨zAB He.out.symm,hbel⟩
 ·have hb:((n:Int) != (m:Int))=true:=by simp;omega
  have He:Hid (eqB xs ys=false):=zAY (by rintro rfl;omega)
  clear hnx hny hcx hcy hx hy hnm
  generalize eqB xs ys=r at *
  go_enter Tryz.func123,Tryz.ntmps123
  go_wp2_with fail
  go_ret
  exact ⟨zAB He.out.symm,bR _ _⟩
theorem zAn {a b:ByteArray} (h:a=b):(a.toList==b.toList)=true:=by subst h;simp
theorem zAa {a b:ByteArray} (h:a≠b):(a.toList==b.toList)=false:=by rw[zKc];simp[h]
theorem zLQ {x y:Dep}:x=y↔x.name=y.name∧x.range=y.range:=by
 obtain ⟨a,b⟩:=x
 obtain ⟨c,d⟩:=y
 simp only[Dep.mk.injEq]
theorem zK2 (A B:Option Addr) (n m c d:Nat) (x y:Dep) (w:World) (S T:Nat→Prop) (hx:SlV rSpn w S x.range (.slice A n c)) (hy:SlV rSpn w T y.range (.slice B m d)) :
  Calls Tryz.prog 122 #[.agg #[.string x.name,.slice A n c],.agg #[.string y.name,.slice B m d]] w fun e w'=>e=.returned (.bool (eqB x y))∧Below w.heap.size w w':=by
 have Hc:Hid (∀ o o',Calls Tryz.prog 123 #[.slice A n c,.slice B m d] ((w.alloc o).alloc o') fun e w'=>e=.returned (.bool (eqB x.range y.range))∧Below ((w.alloc o).alloc o').heap.size ((w.alloc o).alloc o') w'):=
  fun o o'=>zHY A B n m c d x.range y.range _ S T ((hx.alloc o).alloc o') ((hy.alloc o).alloc o')
 clear hx hy
 by_cases h:x.name=y.name
 ·have hb:=zAn h
  have Hr:Hid (eqB x y=eqB x.range y.range):=by
   unfold Hid
   by_cases e:x.range=y.range
   ·rw[zAg e,zAg (zLQ.2 ⟨h,e⟩)]
   ·rw[zAY e,zAY (fun e'=>e (zLQ.1 e').2)]
  clear h
  generalize eqB x y=r at *
  generalize eqB x.range y.range=r' at *
  generalize x.name=nx at *
  generalize y.name=ny at *
  go_enter Tryz.func122,Tryz.ntmps122
  go_wp2_with fail
  refine (Hc.out _ _).mono ?_
  rintro e w1 ⟨rfl,hb1⟩
  go_wp2_with fail
  go_ret
  exact ⟨zAB (by rw[Hr.out]),bot (bal (bal (bR _ _) _) _) hb1⟩
 ·have hb:=zAa h
  have Hr:Hid (eqB x y=false):=zAY (fun e'=>h (zLQ.1 e').1)
  clear h
  generalize eqB x y=r at *
  generalize x.name=nx at *
  generalize y.name=ny at *
  go_enter Tryz.func122,Tryz.ntmps122
  go_wp2_with fail
  go_ret
  exact ⟨zAB Hr.out.symm,bal (bal (bR _ _) _) _⟩
theorem zGq:zDE Tryz.prog 122:=zCB Tryz.func122 (by kernel_rfl) rfl
theorem zHL (A B:Option Addr) (n m c d:Nat) (xs ys:List Dep) (w:World) (S T:Nat→Prop) (hx:SlV rDep w S xs (.slice A n c)) (hy:SlV rDep w T ys (.slice B m d)) :
  Calls Tryz.prog 121 #[.slice A n c,.slice B m d,.func (.func 122) #[] #[]] w fun e w'=>e=.returned (.bool (eqB xs ys))∧Below w.heap.size w w':=by
 have hnx:=hx.n_eq
 have hny:=hy.n_eq
 have hcx:=hx.cap_le
 have hcy:=hy.cap_le
 unfold maxLen at hcx hcy
 by_cases hnm:n=m
 ·have hb:((n:Int) != (m:Int))=false:=by simp[hnm]
  have hn63:n≤9223372036854775807:=by omega
  have hx':=hx.more (S':=fun b=>b<w.heap.size) fun b _ h=>h
  have hy':=hy.more (S':=fun b=>b<w.heap.size) fun b _ h=>h
  have Hpos:Hid (xs=ys→eqB xs ys=true):=fun h=>zAg h
  have Hneg:Hid (xs≠ys→eqB xs ys=false):=fun h=>zAY h
  have Hnm:=cH hnm;clear hnm
  have Hnx:=cH hnx;clear hnx
  have Hny:=cH hny;clear hny
  clear hcx hcy hx hy
  generalize eqB xs ys=r at *
  go_enter Tryz.func121,Tryz.ntmps121
  go_wp2_with fail
  go_loopw [17] (fun i wr=>∃ k:Nat,k≤n∧i=.int .i64 k∧Hid (xs.take k=ys.take k)∧Below w.heap.size w wr) (fun i _=>n - (intOf i).toNat)
  case atStart=>exact ⟨0,nZ _,rfl,by simp[Hid],bR _ _⟩
  case round=>
   obtain ⟨k,hk,rfl,heq,hbel⟩:=hrel
   by_cases hlt:k<n
   ·have hkx:k<xs.length:=by have:=Hnx.out;omega
    have hky:k<ys.length:=by have:=Hny.out;have:=Hnm.out;omega
    have hkm:k<m:=by have:=Hnm.out;omega
    have hxw:=hx'.below hbel (fun b h=>h)
    have hyw:=hy'.below hbel (fun b h=>h)
    obtain ⟨b,o,cs,rfl,_,hb1,⟨s0,rfl,_,hr0⟩,hcell⟩:=hxw.elem (gE hkx)
    obtain ⟨b',o',cs',rfl,_,hb2,⟨s1,rfl,_,hr1⟩,hcell'⟩:=hyw.elem (gE hky)
    obtain ⟨pA,pc,rfl,_,_⟩:=hr0.val
    obtain ⟨qA,qc,rfl,_,_⟩:=hr1.val
    have c0:=hcell 0 _ rfl
    have c1:=hcell 1 _ rfl
    have d0:=hcell' 0 _ rfl
    have d1:=hcell' 1 _ rfl
    simp only[rDep,Nat.add_zero] at c0 c1 d0 d1
    clear hcell hcell' hxw hyw
    have Hne:=cH (fun h=>ne_at hkx hky h)
    have Hen:=cH (fun h=>zG1 heq.out hkx hky h)
    have Hcall:Hid (∀ o o',Calls Tryz.prog 122 #[.agg #[.string xs[k].name,.slice pA xs[k].range.length pc],.agg #[.string ys[k].name,.slice qA ys[k].range.length qc]] ((wr.alloc o).alloc o') fun e w'=>e=.returned (.bool (eqB xs[k] ys[k]))∧Below ((wr.alloc o).alloc o').heap.size ((wr.alloc o).alloc o') w'):=
     fun o o'=>zK2 _ _ _ _ _ _ xs[k] ys[k] _ _ _ ((hr0.alloc o).alloc o') ((hr1.alloc o).alloc o')
    have Hq1:Hid (eqB xs[k] ys[k]=true→xs.take (k+1)=ys.take (k+1)):=fun h=>Hen.out (zC6.1 h)
    have Hq2:Hid (eqB xs[k] ys[k]=false→r=false):=fun h=>Hneg.out (Hne.out (fun e=>by rw[zAg e] at h;cases h))
    clear Hne Hen hr0 hr1
    have hk0:(0:Int)≤(k:Int):=by omega
    have hkn:(k:Int)<(n:Int):=by omega
    have hkm':(k:Int)<(m:Int):=by omega
    have hent:=fun args W=>zGq args W
    have hne1:b≠wr.heap.size:=by omega
    have hne2:b'≠wr.heap.size:=by omega
    generalize eqB xs[k] ys[k]=q at *
    generalize xs[k].range.length=l1 at *
    generalize ys[k].range.length=l2 at *
    generalize xs[k].name=n1 at *
    generalize ys[k].name=n2 at *
    cases q
    ·have He:=cH (Hq2.out rfl)
     clear Hq1 Hq2
     go_wp2_with fail
     refine (Hcall.out _ _).mono ?_
     rintro e w1 ⟨rfl,hb3⟩
     go_wp2_with fail
     go_ret
     exact ⟨zAB He.out.symm,bot (bal (bal hbel _) _) hb3⟩
    ·have He:=cH (Hq1.out rfl)
     clear Hq1 Hq2
     go_wp2_with fail
     refine (Hcall.out _ _).mono ?_
     rintro e w1 ⟨rfl,hb3⟩
     have B1:=bot (bal (bal hbel _) _) hb3
     go_wp2_with fail
     go_roundw
     case rel=>exact ⟨k+1,by omega,by go_num,He,B1⟩
     case measure=>simp[intOf];omega
   ·have He:Hid (r=true):=Hpos.out (zEn heq.out (by have:=Hnx.out;omega) (by have:=Hny.out;have:=Hnm.out;omega))
    go_wp2_with fail
    go_ret
    exact ⟨zAB He.out.symm,hbel⟩
 ·have hb:((n:Int) != (m:Int))=true:=by simp;omega
  have He:Hid (eqB xs ys=false):=zAY (by rintro rfl;omega)
  clear hnx hny hcx hcy hx hy hnm
  generalize eqB xs ys=r at *
  go_enter Tryz.func121,Tryz.ntmps121
  go_wp2_with fail
  go_ret
  exact ⟨zAB He.out.symm,bR _ _⟩
theorem zDB (A B:Option Addr) (n m c d:Nat) (xs ys:List Dep) (w:World) (S T:Nat→Prop) (hx:SlV rDep w S xs (.slice A n c)) (hy:SlV rDep w T ys (.slice B m d)) :
  Calls Tryz.prog 70 #[.slice A n c,.slice B m d] w fun e w'=>e=.returned (.bool (eqB xs ys))∧Below w.heap.size w w':=by
 have Hc:=cH (zHL A B n m c d xs ys w S T hx hy)
 clear hx hy
 generalize eqB xs ys=r at *
 go_enter Tryz.func70,Tryz.ntmps70
 go_wp2_with fail
 refine (Hc.out).mono ?_
 rintro e w1 ⟨rfl,hb1⟩
 go_wp2_with fail
 go_ret
 exact ⟨rfl,hb1⟩
theorem zD7 {x y:Pack}:x=y↔x.name=y.name∧(x.ver.major=y.ver.major∧x.ver.minor=y.ver.minor∧x.ver.patch=y.ver.patch)∧x.deps=y.deps∧x.peers=y.peers∧x.opts=y.opts:=by
 obtain ⟨a,⟨b,c,d⟩,e,f,g⟩:=x
 obtain ⟨a',⟨b',c',d'⟩,e',f',g'⟩:=y
 simp only[Pack.mk.injEq,Ver.mk.injEq]
def PackV (w:World) (S:Nat→Prop) (p:Pack) (v:Value):Prop:=
 ∃ A n c A' n' c' A'' n'' c'',v=.agg #[.string p.name,.int .i64 p.ver.major,.int .i64 p.ver.minor,.int .i64 p.ver.patch,.slice A n c,.slice A' n' c',.slice A'' n'' c''] ∧
   p.name.size≤maxLen∧SlV rDep w S p.deps (.slice A n c)∧SlV rDep w S p.peers (.slice A' n' c')∧SlV rDep w S p.opts (.slice A'' n'' c'')
theorem PackV.keep {w w':World} {S:Nat→Prop} {p:Pack} {v:Value} (h:PackV w S p v) (hb:Below w.heap.size w w'):PackV w' S p v:=by
 obtain ⟨A,n,c,A',n',c',A'',n'',c'',h1,h2,h3,h4,h5⟩:=h
 exact ⟨A,n,c,A',n',c',A'',n'',c'',h1,h2,h3.belowSize hb,h4.belowSize hb,h5.belowSize hb⟩
theorem zC5 (p q:Pack) (v u:Value) (w:World) (S T:Nat→Prop) (hp:PackV w S p v) (hq:PackV w T q u) :
  Calls Tryz.prog 44 #[v,u] w fun e w'=>e=.returned (.bool (eqB p q))∧Below w.heap.size w w':=by
 obtain ⟨A1,n1,c1,A2,n2,c2,A3,n3,c3,rfl,_,h1,h2,h3⟩:=hp
 obtain ⟨B1,m1,d1,B2,m2,d2,B3,m3,d3,rfl,_,g1,g2,g3⟩:=hq
 have Hd1:Hid (∀ W,Below w.heap.size w W→Calls Tryz.prog 70 #[.slice A1 n1 c1,.slice B1 m1 d1] W fun e w'=>e=.returned (.bool (eqB p.deps q.deps))∧Below W.heap.size W w'):=fun W hW=>zDB A1 B1 n1 m1 c1 d1 p.deps q.deps W S T (h1.belowSize hW) (g1.belowSize hW)
 have Hd2:Hid (∀ W,Below w.heap.size w W→Calls Tryz.prog 70 #[.slice A2 n2 c2,.slice B2 m2 d2] W fun e w'=>e=.returned (.bool (eqB p.peers q.peers))∧Below W.heap.size W w'):=fun W hW=>zDB A2 B2 n2 m2 c2 d2 p.peers q.peers W S T (h2.belowSize hW) (g2.belowSize hW)
 have Hd3:Hid (∀ W,Below w.heap.size w W→Calls Tryz.prog 70 #[.slice A3 n3 c3,.slice B3 m3 d3] W fun e w'=>e=.returned (.bool (eqB p.opts q.opts))∧Below W.heap.size W w'):=fun W hW=>zDB A3 B3 n3 m3 c3 d3 p.opts q.opts W S T (h3.belowSize hW) (g3.belowSize hW)
 have heq:=fun W=>zMv W p.ver.major p.ver.minor p.ver.patch q.ver.major q.ver.minor q.ver.patch
 have Hn:Hid (p.name≠q.name→eqB p q=false):=fun h=>zAY fun e=>h (zD7.1 e).1
 have Hv:Hid (¬(p.ver.major=q.ver.major∧p.ver.minor=q.ver.minor∧p.ver.patch=q.ver.patch)→eqB p q=false):=fun h=>zAY fun e=>h (zD7.1 e).2.1
 have Hx1:Hid (eqB p.deps q.deps=false→eqB p q=false):=fun h=>zAY fun e=>by rw[zAg (zD7.1 e).2.2.1] at h;cases h
 have Hx2:Hid (eqB p.peers q.peers=false→eqB p q=false):=fun h=>zAY fun e=>by rw[zAg (zD7.1 e).2.2.2.1] at h;cases h
 have Hx3:Hid (eqB p.opts q.opts=false→eqB p q=false):=fun h=>zAY fun e=>by rw[zAg (zD7.1 e).2.2.2.2] at h;cases h
 have Hyes:Hid (p.name=q.name→(p.ver.major=q.ver.major∧p.ver.minor=q.ver.minor∧p.ver.patch=q.ver.patch)→eqB p.deps q.deps=true→eqB p.peers q.peers=true→eqB p.opts q.opts=true→eqB p q=true):=
  fun a b c d e=>zAg (zD7.2 ⟨a,b,zIc c,zIc d,zIc e⟩)
 clear h1 h2 h3 g1 g2 g3
 generalize eqB p q=r at *
 generalize eqB p.deps q.deps=r1 at *
 generalize eqB p.peers q.peers=r2 at *
 generalize eqB p.opts q.opts=r3 at *
 generalize p.name=pn at *
 generalize q.name=qn at *
 generalize p.ver.major=x1 at *
 generalize p.ver.minor=x2 at *
 generalize p.ver.patch=x3 at *
 generalize q.ver.major=y1 at *
 generalize q.ver.minor=y2 at *
 generalize q.ver.patch=y3 at *
 have Hb0:Hid (∀ o o',Below w.heap.size w ((w.alloc o).alloc o')):=fun o o'=>bal (bal (bR _ _) _) _
 by_cases h0:pn=qn
 ·have hbn:=zAn h0
  have H0:=cH h0;clear h0
  by_cases h1:x1=y1∧x2=y2∧x3=y3
  ·have hev:∀ W,(binOp .eql 50 (.agg #[.int .i64 x1,.int .i64 x2,.int .i64 x3]) (.agg #[.int .i64 y1,.int .i64 y2,.int .i64 y3])).run Tryz.prog W=.ok (.bool true) W:=fun W=>by rw[heq,decide_eq_true h1]
   clear heq
   have H1:=cH h1;clear h1
   cases r1
   ·have He:=cH (Hx1.out rfl)
    clear Hn Hv Hx1 Hx2 Hx3 Hyes
    go_enter Tryz.func44,Tryz.ntmps44
    go_wp2_with fail
    refine (Hd1.out _ (Hb0.out _ _)).mono ?_
    rintro e w1 ⟨rfl,hb1⟩
    go_wp2_with fail
    go_ret
    exact ⟨zAB He.out.symm,bot (Hb0.out _ _) hb1⟩
   ·cases r2
    ·have He:=cH (Hx2.out rfl)
     clear Hn Hv Hx1 Hx2 Hx3 Hyes
     go_enter Tryz.func44,Tryz.ntmps44
     go_wp2_with fail
     refine (Hd1.out _ (Hb0.out _ _)).mono ?_
     rintro e w1 ⟨rfl,hb1⟩
     have B1':=bot (Hb0.out _ _) hb1
     have e5:=hb1.cell (p:=⟨w.heap.size,5,none⟩) (by simp;omega)
     have e6:=hb1.cell (p:=⟨w.heap.size,6,none⟩) (by simp;omega)
     have f5:=hb1.cell (p:=⟨w.heap.size+1,5,none⟩) (by simp)
     have f6:=hb1.cell (p:=⟨w.heap.size+1,6,none⟩) (by simp)
     simp[go_sem] at e5 e6 f5 f6
     have hz1:w.heap.size+1<w1.heap.size:=by have:=hb1.size;simp at this;omega
     clear hb1
     go_wp2_with fail
     refine (Hd2.out _ B1').mono ?_
     rintro e w2 ⟨rfl,hb2⟩
     go_wp2_with fail
     go_ret
     exact ⟨zAB He.out.symm,bot B1' hb2⟩
    ·cases r3
     ·have He:=cH (Hx3.out rfl)
      clear Hn Hv Hx1 Hx2 Hx3 Hyes
      go_enter Tryz.func44,Tryz.ntmps44
      go_wp2_with fail
      refine (Hd1.out _ (Hb0.out _ _)).mono ?_
      rintro e w1 ⟨rfl,hb1⟩
      have B1':=bot (Hb0.out _ _) hb1
      have e5:=hb1.cell (p:=⟨w.heap.size,5,none⟩) (by simp;omega)
      have e6:=hb1.cell (p:=⟨w.heap.size,6,none⟩) (by simp;omega)
      have f5:=hb1.cell (p:=⟨w.heap.size+1,5,none⟩) (by simp)
      have f6:=hb1.cell (p:=⟨w.heap.size+1,6,none⟩) (by simp)
      simp[go_sem] at e5 e6 f5 f6
      have hz1:w.heap.size+1<w1.heap.size:=by have:=hb1.size;simp at this;omega
      clear hb1
      go_wp2_with fail
      refine (Hd2.out _ B1').mono ?_
      rintro e w2 ⟨rfl,hb2⟩
      have g6:=zAA hb2 e6 (by omega)
      have k6:=zAA hb2 f6 (by omega)
      have B2':=bot B1' hb2
      clear hb2 e5 e6 f5 f6
      go_wp2_with fail
      refine (Hd3.out _ B2').mono ?_
      rintro e w3 ⟨rfl,hb3⟩
      go_wp2_with fail
      go_ret
      exact ⟨zAB He.out.symm,bot B2' hb3⟩
     ·have He:=cH (Hyes.out H0.out H1.out rfl rfl rfl)
      clear Hn Hv Hx1 Hx2 Hx3 Hyes
      go_enter Tryz.func44,Tryz.ntmps44
      go_wp2_with fail
      refine (Hd1.out _ (Hb0.out _ _)).mono ?_
      rintro e w1 ⟨rfl,hb1⟩
      have B1':=bot (Hb0.out _ _) hb1
      have e5:=hb1.cell (p:=⟨w.heap.size,5,none⟩) (by simp;omega)
      have e6:=hb1.cell (p:=⟨w.heap.size,6,none⟩) (by simp;omega)
      have f5:=hb1.cell (p:=⟨w.heap.size+1,5,none⟩) (by simp)
      have f6:=hb1.cell (p:=⟨w.heap.size+1,6,none⟩) (by simp)
      simp[go_sem] at e5 e6 f5 f6
      have hz1:w.heap.size+1<w1.heap.size:=by have:=hb1.size;simp at this;omega
      clear hb1
      go_wp2_with fail
      refine (Hd2.out _ B1').mono ?_
      rintro e w2 ⟨rfl,hb2⟩
      have g6:=zAA hb2 e6 (by omega)
      have k6:=zAA hb2 f6 (by omega)
      have B2':=bot B1' hb2
      clear hb2 e5 e6 f5 f6
      go_wp2_with fail
      refine (Hd3.out _ B2').mono ?_
      rintro e w3 ⟨rfl,hb3⟩
      go_wp2_with fail
      go_ret
      exact ⟨zAB He.out.symm,bot B2' hb3⟩
  ·have hev:∀ W,(binOp .eql 50 (.agg #[.int .i64 x1,.int .i64 x2,.int .i64 x3]) (.agg #[.int .i64 y1,.int .i64 y2,.int .i64 y3])).run Tryz.prog W=.ok (.bool false) W:=fun W=>by rw[heq,decide_eq_false h1]
   have He:=cH (Hv.out h1)
   clear heq Hn Hv Hx1 Hx2 Hx3 Hyes h1
   go_enter Tryz.func44,Tryz.ntmps44
   go_wp2_with fail
   go_ret
   exact ⟨zAB He.out.symm,Hb0.out _ _⟩
 ·have hbn:=zAa h0
  have He:=cH (Hn.out h0)
  clear heq Hn Hv Hx1 Hx2 Hx3 Hyes h0
  go_enter Tryz.func44,Tryz.ntmps44
  go_wp2_with fail
  go_ret
  exact ⟨zAB He.out.symm,Hb0.out _ _⟩
def zAl (q:Dir→Bool):List Dir→Nat→Int
 | [],_=>-1
 | d::l,k=>bif q d then (k:Int) else zAl q l (k+1)
def zCe (q:Dir→Bool) (t:List Dir):Int:=zAl q t 0
theorem zJG (q:Dir→Bool) {t:List Dir} {k:Nat} (h:k<t.length):zAl q (t.drop k) k=bif q t[k] then (k:Int) else zAl q (t.drop (k+1)) (k+1):=by
 rw[dC h,zAl]
theorem firstGo_le (q:Dir→Bool):∀ (t:List Dir) (k:Nat),(zAl q t k=-1∧t.any q=false)∨∃ j:Nat,zAl q t k=(j:Int)∧k≤j∧j<k+t.length∧t.any q=true:=by
 intro t
 induction t with
 | nil=>intro k;exact .inl ⟨rfl,rfl⟩
 | cons d l ih=>
   intro k
   rw[zAl,List.any_cons]
   cases q d
   ·rcases ih (k+1) with h|⟨j,h,hj,hl,ha⟩
    ·exact .inl h
    ·exact .inr ⟨j,h,by omega,by rw[List.length_cons];omega,by rw[ha];rfl⟩
   ·exact .inr ⟨k,rfl,nR _,by rw[List.length_cons];omega,rfl⟩
theorem firstI_lt (q:Dir→Bool) (t:List Dir):(zCe q t=-1∧t.any q=false)∨∃ j:Nat,zCe q t=(j:Int)∧j<t.length∧t.any q=true:=by
 rcases firstGo_le q t 0 with h|⟨j,h,_,hj,ha⟩
 ·exact .inl h
 ·exact .inr ⟨j,h,by omega,ha⟩
noncomputable def findI (t:List Dir) (p:List ByteArray):Int:=zCe (fun d=>eqB d.path p) t
theorem zGB (A B:Option Addr) (n m c d:Nat) (xs ys:List ByteArray) (w:World) (S T:Nat→Prop) (hx:SlV rStr w S xs (.slice A n c)) (hy:SlV rStr w T ys (.slice B m d)) :
  Calls Tryz.prog 40 #[.slice A n c,.slice B m d] w fun e w'=>e=.returned (.bool (eqB xs ys))∧Below w.heap.size w w':=by
 have hnx:=hx.n_eq
 have hny:=hy.n_eq
 have hcx:=hx.cap_le
 have hcy:=hy.cap_le
 unfold maxLen at hcx hcy
 by_cases hnm:n=m
 ·by_cases h0:n=0
  ·subst h0;subst hnm
   have e1:xs=[]:=List.eq_nil_of_length_eq_zero hnx.symm
   have e2:ys=[]:=List.eq_nil_of_length_eq_zero hny.symm
   refine (Tryz.slices_Equal_string_empty A B c 0 d w (by omega)).mono ?_
   rintro e w' ⟨rfl,rfl⟩
   exact ⟨by rw[zAg (e1.trans e2.symm)];rfl,bR _ _⟩
  ·have hx0:0<xs.length:=by omega
   have hy0:0<ys.length:=by omega
   obtain ⟨b,o,cs,rfl,_,_,_,_⟩:=hx.elem (gE hx0)
   obtain ⟨b',o',cs',rfl,_,_,_,_⟩:=hy.elem (gE hy0)
   refine (Tryz.slices_Equal_string b o n c b' o' m d xs ys w (by omega) (by omega) (by omega) (by omega) (fun j hj=>?_) (fun j hj=>?_)).mono ?_
   ·obtain ⟨b2,o2,cs2,e,_,_,⟨rfl,_⟩,hcell⟩:=hx.elem (gE hj)
    have:=hcell 0 _ rfl
    simp only[Option.some.injEq,Addr.mk.injEq] at e
    obtain ⟨rfl,rfl,_⟩:=e
    simp only[rStr,Nat.add_zero,Nat.mul_one] at this
    rw[this,List.getD_eq_getElem?_getD,gE hj];rfl
   ·obtain ⟨b2,o2,cs2,e,_,_,⟨rfl,_⟩,hcell⟩:=hy.elem (gE hj)
    have:=hcell 0 _ rfl
    simp only[Option.some.injEq,Addr.mk.injEq] at e
    obtain ⟨rfl,rfl,_⟩:=e
    simp only[rStr,Nat.add_zero,Nat.mul_one] at this
    rw[this,List.getD_eq_getElem?_getD,gE hj];rfl
   ·rintro e w' ⟨rfl,q,rfl⟩
    refine ⟨?_,⟨rfl,rfl,rfl,nR _,fun _ _=>rfl⟩⟩
    rw[hnx,hny,List.take_length,List.take_length]
    by_cases e:xs=ys
    ·rw[zAg e,decide_eq_true e]
    ·rw[zAY e,decide_eq_false e]
 ·refine (Tryz.slices_Equal_string_lens A B n c m d w hnm).mono ?_
  rintro e w' ⟨rfl,rfl⟩
  exact ⟨by rw[zAY (by rintro rfl;omega)],bR _ _⟩
theorem zGW (g:FuncId) (cap:Value) (hE:zDE Tryz.prog g) (q:Dir→Bool) (A:Option Addr) (n c:Nat) (xs:List Dir) (w:World) (S:Nat→Prop) (hx:SlV rDir w S xs (.slice A n c))
  (hq:∀ W d cs,Below w.heap.size w W→d∈xs→rDir.holds W (fun b=>b<w.heap.size) d cs→Calls Tryz.prog g #[.agg cs.toArray,cap] W fun e w'=>e=.returned (.bool (q d))∧Below W.heap.size W w') :
  Calls Tryz.prog 38 #[.slice A n c,.func (.func g) #[] #[cap]] w fun e w'=>e=.returned (.int .i64 (zCe q xs))∧Below w.heap.size w w':=by
 have hnx:=hx.n_eq
 have hcx:=hx.cap_le
 unfold maxLen at hcx
 have hn63:n≤9223372036854775807:=by omega
 have hx':=hx.more (S':=fun b=>b<w.heap.size) fun b _ h=>h
 have Hend:Hid (zCe q xs=zAl q (xs.drop 0) 0):=rfl
 have Hq:=cH hq;clear hq
 have Hnx:=cH hnx;clear hnx
 clear hcx hx
 generalize zCe q xs=r at *
 go_enter Tryz.func38,Tryz.ntmps38
 go_wp2_with fail
 go_loopw [8] (fun i wr=>∃ k:Nat,k≤n∧i=.int .i64 k∧Hid (r=zAl q (xs.drop k) k)∧Below w.heap.size w wr) (fun i _=>n - (intOf i).toNat)
 case atStart=>exact ⟨0,nZ _,rfl,Hend,bR _ _⟩
 case round=>
  obtain ⟨k,hk,rfl,heq,hbel⟩:=hrel
  by_cases hlt:k<n
  ·have hkx:k<xs.length:=by have:=Hnx.out;omega
   have hxw:=hx'.below hbel (fun b h=>h)
   obtain ⟨b,o,cs,rfl,_,hb1,hh,hcell⟩:=hxw.elem (gE hkx)
   have Hcall:=cH (Hq.out wr xs[k] cs hbel (List.getElem_mem hkx) hh)
   have Hat:=cH (zJG q hkx)
   obtain ⟨s0,s1,s2,s3,rfl,hp0,_,_,_,_,hp1,hp2,hp3,_⟩:=hh
   obtain ⟨pA,pc,rfl,_,_⟩:=hp0.val
   obtain ⟨pB,pd,rfl,_,_⟩:=hp1.val
   obtain ⟨pC,pe,rfl,_,_⟩:=hp2.val
   obtain ⟨pD,pf,rfl,_,_⟩:=hp3.val
   have c0:=hcell 0 _ rfl
   have c1:=hcell 1 _ rfl
   have c2:=hcell 2 _ rfl
   have c3:=hcell 3 _ rfl
   have c4:=hcell 4 _ rfl
   have c5:=hcell 5 _ rfl
   have c6:=hcell 6 _ rfl
   have c7:=hcell 7 _ rfl
   have c8:=hcell 8 _ rfl
   simp only[rDir,Nat.add_zero] at c0 c1 c2 c3 c4 c5 c6 c7 c8
   clear hcell hxw hp0 hp1 hp2 hp3
   have hk0:(0:Int)≤(k:Int):=by omega
   have hkn:(k:Int)<(n:Int):=by omega
   have hent:=fun args W=>hE args W
   generalize q xs[k]=v at *
   generalize xs[k].path.length=l0 at *
   generalize xs[k].pack.deps.length=l1 at *
   generalize xs[k].pack.peers.length=l2 at *
   generalize xs[k].pack.opts.length=l3 at *
   generalize xs[k].pack.name=nm at *
   generalize xs[k].pack.ver.major=y1 at *
   generalize xs[k].pack.ver.minor=y2 at *
   generalize xs[k].pack.ver.patch=y3 at *
   generalize xs[k].node=nd at *
   cases v
   ·have He:Hid (r=zAl q (xs.drop (k+1)) (k+1)):=by unfold Hid;rw[heq.out,Hat.out];rfl
    clear Hat heq
    go_wp2_with fail
    refine (Hcall.out).mono ?_
    rintro e w1 ⟨rfl,B1⟩
    go_wp2_with fail
    go_roundw
    case rel=>exact ⟨k+1,by omega,by go_num,He,bot hbel B1⟩
    case measure=>simp[intOf];omega
   ·have He:Hid (r=(k:Int)):=by unfold Hid;rw[heq.out,Hat.out];rfl
    clear Hat heq
    go_wp2_with fail
    refine (Hcall.out).mono ?_
    rintro e w1 ⟨rfl,B1⟩
    go_wp2_with fail
    go_ret
    exact ⟨zAu He.out.symm,bot hbel B1⟩
  ·have He:Hid (r=-1):=by unfold Hid;rw[heq.out,dN (by have:=Hnx.out;omega)];rfl
   go_wp2_with fail
   go_ret
   exact ⟨zAu He.out.symm,hbel⟩
theorem zGr:zDE Tryz.prog 39:=zCB Tryz.func39 (by kernel_rfl) rfl
theorem zKC (d:Dir) (cs:List Value) (pb:Nat) (B:Option Addr) (m e:Nat) (ys:List ByteArray) (w:World) (S T:Nat→Prop) (hd:rDir.holds w S d cs) (hc:w.cell? ⟨pb,0,none⟩=some (.slice B m e)) (hy:SlV rStr w T ys (.slice B m e)) :
  Calls Tryz.prog 39 #[.agg cs.toArray,.pointer (some ⟨pb,0,none⟩)] w fun e w'=>e=.returned (.bool (eqB d.path ys))∧Below w.heap.size w w':=by
 obtain ⟨s0,s1,s2,s3,rfl,hp0,_,_,_,_,hp1,hp2,hp3,_⟩:=hd
 obtain ⟨pA,pc,rfl,_,_⟩:=hp0.val
 obtain ⟨pB,pd,rfl,_,_⟩:=hp1.val
 obtain ⟨pC,pe,rfl,_,_⟩:=hp2.val
 obtain ⟨pD,pf,rfl,_,_⟩:=hp3.val
 have hlt:pb<w.heap.size:=World.block_lt_of_cell? w _ hc
 have Hc:Hid (∀ o:Obj,Calls Tryz.prog 40 #[.slice pA d.path.length pc,.slice B m e] (w.alloc o) fun e w'=>e=.returned (.bool (eqB d.path ys))∧Below (w.alloc o).heap.size (w.alloc o) w'):=fun o=>zGB _ _ _ _ _ _ _ _ _ _ _ (hp0.alloc o) (hy.alloc o)
 have hc':∀ o:Obj,(w.alloc o).cell? ⟨pb,0,none⟩=some (.slice B m e):=fun o=>zAA (bal (bR _ _) o) hc hlt
 clear hp0 hp1 hp2 hp3 hy hc
 generalize eqB d.path ys=r at *
 generalize d.path.length=l0 at *
 generalize d.pack.deps.length=l1 at *
 generalize d.pack.peers.length=l2 at *
 generalize d.pack.opts.length=l3 at *
 generalize d.pack.name=nm at *
 generalize d.pack.ver.major=y1 at *
 generalize d.pack.ver.minor=y2 at *
 generalize d.pack.ver.patch=y3 at *
 generalize d.node=nd at *
 go_enter Tryz.func39,Tryz.ntmps39
 go_wp2_with fail
 refine (Hc.out _).mono ?_
 rintro e w1 ⟨rfl,B1⟩
 go_wp2_with fail
 go_ret
 exact ⟨rfl,bnew B1⟩
theorem zDR (A B:Option Addr) (n c m d:Nat) (xs:List Dir) (ys:List ByteArray) (w:World) (S T:Nat→Prop) (hx:SlV rDir w S xs (.slice A n c)) (hy:SlV rStr w T ys (.slice B m d)) :
  Calls Tryz.prog 18 #[.agg #[.slice A n c],.slice B m d] w fun e w'=>e=.returned (.int .i64 (findI xs ys))∧Below w.heap.size w w':=by
 have Hc:Hid (∀ o t,Calls Tryz.prog 38 #[.slice A n c,.func (.func 39) #[] #[.pointer (some ⟨w.heap.size+1,0,none⟩)]] ((w.alloc o).alloc (.cells #[.slice B m d] t)) fun e w'=>e=.returned (.int .i64 (findI xs ys))∧Below ((w.alloc o).alloc (.cells #[.slice B m d] t)).heap.size ((w.alloc o).alloc (.cells #[.slice B m d] t)) w'):=fun o t=>by
  refine zGW _ _ zGr _ A n c xs _ S ((hx.alloc o).alloc _) (fun W dd cs hW _ hd=>zKC dd cs _ B m d ys W _ T hd ?_ ?_)
  ·exact zAA hW (by simp[go_sem]) (by simp[go_sem])
  ·exact ((hy.alloc o).alloc _).belowSize hW
 clear hx hy
 generalize findI xs ys=r at *
 go_enter Tryz.func18,Tryz.ntmps18
 go_wp2_with fail
 refine (Hc.out _ _).mono ?_
 rintro e w1 ⟨rfl,B1⟩
 go_wp2_with fail
 go_ret
 exact ⟨rfl,bnew (bnew B1)⟩
theorem SlV.take {α:Type} {r:Rp α} {w:World} {S:Nat→Prop} {l:List α} {A:Option Addr} {n c k:Nat} (h:SlV r w S l (.slice A n c)) (hk:k≤l.length):SlV r w S (l.take k) (.slice A k c):=by
 obtain ⟨A',c',h1,h2,h3,h4,h5⟩:=h
 simp only[List.cons.injEq,Value.slice.injEq,and_true] at h1
 obtain ⟨rfl,_,rfl⟩:=h1
 have hl:(l.take k).length=k:=by rw[List.length_take];omega
 refine ⟨A,c,by rw[hl],by omega,h3,h4,fun hn=>?_⟩
 obtain ⟨b,o,hA,hS,hb,hr⟩:=h5 (by omega)
 refine ⟨b,o,hA,hS,hb,fun i x hx=>hr i x ?_⟩
 rw[List.getElem?_take] at hx
 split at hx
 ·exact hx
 ·cases hx
noncomputable def zEU (t:List Dir) (p:List ByteArray):Int:=findI t (p.take (p.length - 1))
