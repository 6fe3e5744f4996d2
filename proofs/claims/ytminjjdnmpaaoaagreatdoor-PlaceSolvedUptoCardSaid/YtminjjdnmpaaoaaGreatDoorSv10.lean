/- tree.Check: may a tree be? -/
import Derived.Test.YtminjjdnmpaaoaaGreatDoorSv09
import Derived.Test.YtminjjdnmpaaoaaGreatDoorSv07
import Derived.Test.YtminjjdnmpaaoaaGreatDoorSv05
import Derived.Test.YtminjjdnmpaaoaaGreatDoorSv04
import Derived.Deep.RegionHeld3
import Derived.Test.YtminjjdnmpaaoaaGreatDoorSv02
import Derived.Test.YtminjjdnmpaaoaaGreatDoorSv08
import Derived.Test.YtminjjdnmpaaoaaGreatDoorAl
set_option linter.all false
set_option maxHeartbeats 3200000
set_option maxRecDepth 100000
namespace Go.Proofs.YtminjjdnmpaaoaaGreatDoor
open Go.Rows Go.RowKit Go.Shelf Go.Sort
def zAC:Pack:=⟨⟨#[]⟩,⟨0,0,0⟩,[],[],[]⟩
noncomputable def rootB (d:Dir):Bool:=decide (d.path.length=0)&&(eqB d.pack zAC&&decide (d.node=0))
noncomputable def okGo (t:List Dir):List Dir→Nat→Bool
 | [],_=>true
 | d::l,k=>(bif decide (k=0) then rootB d else zBw t d k)&&okGo t l (k+1)
noncomputable def zBA (t:List Dir):Int:=if t.length<1∨257<t.length then 42 else bif okGo t t 0 then 0 else 42
theorem zHv (t:List Dir) {l:List Dir} {k:Nat} (h:k<l.length):okGo t (l.drop k) k=((bif decide (k=0) then rootB l[k] else zBw t l[k] k)&&okGo t (l.drop (k+1)) (k+1)):=by
 rw[dC h,okGo]
theorem zF4 (w:World) (S:Nat→Prop):PackV w S zAC (.agg #[.string ⟨#[]⟩,.int .i64 0,.int .i64 0,.int .i64 0,.slice none 0 0,.slice none 0 0,.slice none 0 0]):=
 ⟨none,0,0,none,0,0,none,0,0,rfl,nZ _,SlV.nil_ _ _ _,SlV.nil_ _ _ _,SlV.nil_ _ _ _⟩
theorem zK1 (A:Option Addr) (n c:Nat) (xs:List Dir) (w:World) (S:Nat→Prop) (ht:Tab w) (hlen:∀ d∈xs,d.path.length * 32≤140737488355328) (hx:SlV rDir w S xs (.slice A n c)) :
  Calls Tryz.prog 21 #[.agg #[.slice A n c]] w fun e w'=>e=.returned (.int .i64 (zBA xs))∧Below w.heap.size w w':=by
 have hnx:=hx.n_eq
 have hcx:=hx.cap_le
 unfold maxLen at hcx
 have hn63:n≤9223372036854775807:=by omega
 have HX:=cH (hx.more (S':=fun b=>b<w.heap.size) fun b _ h=>h)
 have Hst:Hid (∀ (k:Nat) (hk:k<xs.length) W,Below w.heap.size w W→Calls Tryz.prog 45 #[.agg #[.slice A n c],.int .i64 k] W fun e w'=>e=.returned (.bool (zBw xs xs[k] k))∧Below W.heap.size W w'):=fun k hk W hW=>zJl A n c xs W _ k hk (zAY ht hW) hlen (hx.belowSize hW)
 by_cases hn1:n<1
 ·have hni:(n:Int)<1:=by omega
  have hnk:decide ((n:Int)<1)=true:=decide_eq_true hni
  have He:Hid (zBA xs=42):=by unfold Hid zBA;rw[if_pos (.inl (by omega))]
  clear hx hcx hnx Hst HX
  generalize zBA xs=R at *
  go_enter Tryz.func21,Tryz.ntmps21
  go_wp2_with fail
  go_ret
  exact ⟨zAS He.out.symm,bal (bR _ _) _⟩
 by_cases hn2:257<n
 ·have hni:¬(n:Int)<1:=by omega
  have hnk:decide ((n:Int)<1)=false:=decide_eq_false hni
  have hmi:(257:Int)<(n:Int):=by omega
  have hmk:decide ((257:Int)<(n:Int))=true:=decide_eq_true hmi
  have He:Hid (zBA xs=42):=by unfold Hid zBA;rw[if_pos (.inr (by omega))]
  clear hx hcx hnx Hst HX
  generalize zBA xs=R at *
  go_enter Tryz.func21,Tryz.ntmps21
  go_wp2_with fail
  go_ret
  exact ⟨zAS He.out.symm,bal (bR _ _) _⟩
 have hni:¬(n:Int)<1:=by omega
 have hnk:decide ((n:Int)<1)=false:=decide_eq_false hni
 have hmi:¬(257:Int)<(n:Int):=by omega
 have hmk:decide ((257:Int)<(n:Int))=false:=decide_eq_false hmi
 have HR:Hid (zBA xs=bif okGo xs (xs.drop 0) 0 then 0 else 42):=by unfold Hid zBA;rw[if_neg (by omega)];rfl
 have Hnx:=cH hnx;clear hnx
 clear hx hcx hlen ht
 generalize zBA xs=R at *
 go_enter Tryz.func21,Tryz.ntmps21
 go_wp2_with fail
 obtain ⟨w0,hw0⟩:∃ w0,w0=w.alloc (.cells #[.slice A n c] 33):=⟨_,rfl⟩
 have hz:w.heap.size<w0.heap.size:=by rw[hw0];simp[go_sem]
 have hb0:Below w.heap.size w w0:=by rw[hw0];exact bal (bR _ _) _
 have a0:w0.cell? ⟨w.heap.size,0,none⟩=some (.slice A n c):=by rw[hw0];simp[go_sem]
 rw[←hw0]
 clear hw0
 have HB0:=cH hb0;clear hb0
 go_loopw [19] (fun i wr=>∃ k:Nat,k≤n∧i=.int .i64 k∧Hid (R=bif okGo xs (xs.drop k) k then 0 else 42)∧Below w0.heap.size w0 wr) (fun i _=>n - (intOf i).toNat)
 case atStart=>exact ⟨0,nZ _,rfl,HR,bR _ _⟩
 case round=>
  obtain ⟨k,hk,rfl,heq,hbel⟩:=hrel
  have b0:=zAA hbel a0 hz
  have hbel':=bot HB0.out hbel
  have hzr:w.heap.size<wr.heap.size:=lL hz hbel.size
  by_cases hlt:k<n
  ·have hkx:k<xs.length:=by have:=Hnx.out;omega
   have hxw:=HX.out.below hbel' (fun b h=>h)
   obtain ⟨b,oo,cs,rfl,_,hb1,hh,hcell⟩:=hxw.elem (gE hkx)
   obtain ⟨pA,pa,pB,pb,pC,pc,pD,pd,rfl,hp,hpk,hI⟩:=zB9 hh
   have c0:=hcell 0 _ rfl
   have c1:=hcell 1 _ rfl
   have c2:=hcell 2 _ rfl
   have c3:=hcell 3 _ rfl
   have c4:=hcell 4 _ rfl
   have c5:=hcell 5 _ rfl
   have c6:=hcell 6 _ rfl
   have c7:=hcell 7 _ rfl
   have c8:=hcell 8 _ rfl
   simp only[rDir,Nat.add_zero] at c0 c1 c2 c3 c4 c5 c6 c7 c8
   have Hat:=cH (zHv xs hkx)
   have Hs:Hid (∀ o:Obj,Calls Tryz.prog 45 #[.agg #[.slice (some ⟨b,oo,none⟩) n c],.int .i64 k] (wr.alloc o) fun e w'=>e=.returned (.bool (zBw xs xs[k] k))∧Below (wr.alloc o).heap.size (wr.alloc o) w'):=fun o=>Hst.out k hkx _ (bal hbel' o)
   have Hsm:Hid (∀ o:Obj,Calls Tryz.prog 44 #[.agg #[.string xs[k].pack.name,.int .i64 xs[k].pack.ver.major,.int .i64 xs[k].pack.ver.minor,.int .i64 xs[k].pack.ver.patch,.slice pB xs[k].pack.deps.length pb,.slice pC xs[k].pack.peers.length pc,.slice pD xs[k].pack.opts.length pd],.agg #[.string ⟨#[]⟩,.int .i64 0,.int .i64 0,.int .i64 0,.slice none 0 0,.slice none 0 0,.slice none 0 0]] (wr.alloc o) fun e w'=>e=.returned (.bool (eqB xs[k].pack zAC))∧Below (wr.alloc o).heap.size (wr.alloc o) w'):=fun o=>zC6 _ _ _ _ _ _ (fun _=>True) (hpk.keep (bal (bR _ _) o)) (zF4 _ _)
   have Hro:Hid (rootB xs[k]=(decide (xs[k].path.length=0)&&(eqB xs[k].pack zAC&&decide (xs[k].node=0)))):=rfl
   clear hcell hxw hp hpk hh hI
   have hk0:(0:Int)≤(k:Int):=by omega
   have hkn:(k:Int)<(n:Int):=by omega
   generalize zBw xs xs[k] k=sb at *
   generalize rootB xs[k]=rb at *
   generalize eqB xs[k].pack zAC=eb at *
   generalize xs[k].path.length=l0 at *
   generalize xs[k].pack.deps.length=l1 at *
   generalize xs[k].pack.peers.length=l2 at *
   generalize xs[k].pack.opts.length=l3 at *
   generalize xs[k].pack.name=nm at *
   generalize xs[k].pack.ver.major=y1 at *
   generalize xs[k].pack.ver.minor=y2 at *
   generalize xs[k].pack.ver.patch=y3 at *
   generalize xs[k].node=nd at *
   have Hno:Hid ((bif decide (k=0) then rb else sb)=false→R=42):=fun h=>by rw[heq.out,Hat.out,h];rfl
   have Hyes:Hid ((bif decide (k=0) then rb else sb)=true→R=bif okGo xs (xs.drop (k+1)) (k+1) then 0 else 42):=fun h=>by rw[heq.out,Hat.out,h];rfl
   clear Hat heq
   by_cases hkz:k=0
   ·have hkb:((k:Int)==0)=true:=by simp[hkz]
    have Hno':Hid (rb=false→R=42):=fun h=>Hno.out (by rw[decide_eq_true hkz];exact h)
    have Hyes':Hid (rb=true→R=bif okGo xs (xs.drop (k+1)) (k+1) then 0 else 42):=fun h=>Hyes.out (by rw[decide_eq_true hkz];exact h)
    clear Hno Hyes Hs hkz
    by_cases hl0:l0=0
    case neg=>
     have hzb:((l0:Int)==0)=false:=by simp[hl0]
     have He:Hid (R=42):=Hno'.out (by rw[Hro.out,decide_eq_false hl0];rfl)
     clear hl0 Hro
     go_wp2_with fail
     go_ret
     exact ⟨zAS He.out.symm,bal hbel' _⟩
    have hzb:((l0:Int)==0)=true:=by simp[hl0]
    have Hro2:Hid (rb=(eb&&decide (nd=0))):=by unfold Hid;rw[Hro.out,decide_eq_true hl0];rfl
    clear hl0 Hro
    go_wp2_with fail
    refine (Hsm.out _).mono ?_
    rintro e w1 ⟨rfl,B1⟩
    have B2:=bot (bal hbel' _) B1
    have g8:=zAA B1 (show (wr.alloc (.cells #[.slice pA l0 pa,.string nm,.int .i64 y1,.int .i64 y2,.int .i64 y3,.slice pB l1 pb,.slice pC l2 pc,.slice pD l3 pd,.int .i64 nd] 54)).cell? ⟨wr.heap.size,8,none⟩=some (.int .i64 nd) by simp[go_sem]) (by simp[go_sem])
    have B3:=bot (bal hbel _) B1
    clear B1
    cases eb
    ·have He:Hid (R=42):=Hno'.out (by rw[Hro2.out];rfl)
     go_wp2_with fail
     go_ret
     exact ⟨zAS He.out.symm,B2⟩
    by_cases hnd:nd=0
    ·have hdb:(nd==0)=true:=by simp[hnd]
     have He:=cH (Hyes'.out (by rw[Hro2.out,decide_eq_true hnd];rfl))
     clear hnd
     go_wp2_with fail
     go_roundw
     case rel=>exact ⟨k+1,by omega,by go_num,He,B3⟩
     case measure=>simp[intOf];omega
    ·have hdb:(nd==0)=false:=by simp[hnd]
     have He:Hid (R=42):=Hno'.out (by rw[Hro2.out,decide_eq_false hnd];rfl)
     clear hnd
     go_wp2_with fail
     go_ret
     exact ⟨zAS He.out.symm,B2⟩
   ·have hkb:((k:Int)==0)=false:=by simp[hkz]
    have Hno':Hid (sb=false→R=42):=fun h=>Hno.out (by rw[decide_eq_false hkz];exact h)
    have Hyes':Hid (sb=true→R=bif okGo xs (xs.drop (k+1)) (k+1) then 0 else 42):=fun h=>Hyes.out (by rw[decide_eq_false hkz];exact h)
    clear Hno Hyes Hsm Hro hkz
    have bo:∀ o:Obj,(wr.alloc o).cell? ⟨w.heap.size,0,none⟩=some (.slice (some ⟨b,oo,none⟩) n c):=fun o=>zAA (bal (bR _ _) o) b0 hzr
    go_wp2_with fail
    refine (Hs.out _).mono ?_
    rintro e w1 ⟨rfl,B1⟩
    have B2:=bot (bal hbel' _) B1
    have B3:=bot (bal hbel _) B1
    clear B1
    cases sb
    ·have He:Hid (R=42):=Hno'.out rfl
     go_wp2_with fail
     go_ret
     exact ⟨zAS He.out.symm,B2⟩
    ·have He:=cH (Hyes'.out rfl)
     go_wp2_with fail
     go_roundw
     case rel=>exact ⟨k+1,by omega,by go_num,He,B3⟩
     case measure=>simp[intOf];omega
  ·have He:Hid (R=0):=by unfold Hid;rw[heq.out,dN (by have:=Hnx.out;omega)];rfl
   go_wp2_with fail
   go_ret
   exact ⟨zAS He.out.symm,hbel'⟩
theorem zHW (A:Option Addr) (n c:Nat) (xs:List Dir) (w:World) (S:Nat→Prop) (hlen:∀ d∈xs,d.path.length * 32≤140737488355328) (hx:SlV rDir w S xs (.slice A n c)) :
  Calls Tryz.prog 27 #[.agg #[.slice A n c]] w fun e w'=>e=.returned (.int .i64 (zBA xs))∧Below w.heap.size w w':=by
 have hnx:=hx.n_eq
 have hcx:=hx.cap_le
 unfold maxLen at hcx
 have hn63:n≤9223372036854775807:=by omega
 have HX:=cH (hx.more (S':=fun b=>b<w.heap.size) fun b _ h=>h)
 have Hst:Hid (∀ (k:Nat) (hk:k<xs.length) W,Below w.heap.size w W→Calls Tryz.prog 54 #[.agg #[.slice A n c],.int .i64 k] W fun e w'=>e=.returned (.bool (zBw xs xs[k] k))∧Below W.heap.size W w'):=fun k hk W hW=>zGd A n c xs W _ k hk hlen (hx.belowSize hW)
 by_cases hn1:n<1
 ·have hni:(n:Int)<1:=by omega
  have hnk:decide ((n:Int)<1)=true:=decide_eq_true hni
  have He:Hid (zBA xs=42):=by unfold Hid zBA;rw[if_pos (.inl (by omega))]
  clear hx hcx hnx Hst HX
  generalize zBA xs=R at *
  go_enter Tryz.func27,Tryz.ntmps27
  go_wp2_with fail
  go_ret
  exact ⟨zAS He.out.symm,bal (bR _ _) _⟩
 by_cases hn2:257<n
 ·have hni:¬(n:Int)<1:=by omega
  have hnk:decide ((n:Int)<1)=false:=decide_eq_false hni
  have hmi:(257:Int)<(n:Int):=by omega
  have hmk:decide ((257:Int)<(n:Int))=true:=decide_eq_true hmi
  have He:Hid (zBA xs=42):=by unfold Hid zBA;rw[if_pos (.inr (by omega))]
  clear hx hcx hnx Hst HX
  generalize zBA xs=R at *
  go_enter Tryz.func27,Tryz.ntmps27
  go_wp2_with fail
  go_ret
  exact ⟨zAS He.out.symm,bal (bR _ _) _⟩
 have hni:¬(n:Int)<1:=by omega
 have hnk:decide ((n:Int)<1)=false:=decide_eq_false hni
 have hmi:¬(257:Int)<(n:Int):=by omega
 have hmk:decide ((257:Int)<(n:Int))=false:=decide_eq_false hmi
 have HR:Hid (zBA xs=bif okGo xs (xs.drop 0) 0 then 0 else 42):=by unfold Hid zBA;rw[if_neg (by omega)];rfl
 have Hnx:=cH hnx;clear hnx
 clear hx hcx hlen
 generalize zBA xs=R at *
 have h0x:0<xs.length:=by have:=Hnx.out;omega
 obtain ⟨b,oo,cs,rfl,_,hb1,hh,hcell⟩:=HX.out.elem (gE h0x)
 obtain ⟨pA,pa,pB,pb,pC,pc,pD,pd,rfl,hp,hpk,hI⟩:=zB9 hh
 have c0:=hcell 0 _ rfl
 have c1:=hcell 1 _ rfl
 have c2:=hcell 2 _ rfl
 have c3:=hcell 3 _ rfl
 have c4:=hcell 4 _ rfl
 have c5:=hcell 5 _ rfl
 have c6:=hcell 6 _ rfl
 have c7:=hcell 7 _ rfl
 have c8:=hcell 8 _ rfl
 simp only[rDir,Nat.zero_mul,Nat.add_zero] at c0 c1 c2 c3 c4 c5 c6 c7 c8
 have Hsm:Hid (∀ W,Below w.heap.size w W→Calls Tryz.prog 32 #[.agg #[.string xs[0].pack.name,.int .i64 xs[0].pack.ver.major,.int .i64 xs[0].pack.ver.minor,.int .i64 xs[0].pack.ver.patch,.slice pB xs[0].pack.deps.length pb,.slice pC xs[0].pack.peers.length pc,.slice pD xs[0].pack.opts.length pd],.agg #[.string ⟨#[]⟩,.int .i64 0,.int .i64 0,.int .i64 0,.slice none 0 0,.slice none 0 0,.slice none 0 0]] W fun e w'=>e=.returned (.bool (eqB xs[0].pack zAC))∧Below W.heap.size W w'):=fun W hW=>zCm _ _ _ _ _ _ (fun _=>True) (hpk.keep hW) (zF4 _ _)
 have Hro:Hid (rootB xs[0]=(decide (xs[0].path.length=0)&&(eqB xs[0].pack zAC&&decide (xs[0].node=0)))):=rfl
 have HR1:Hid (R=bif (rootB xs[0]&&okGo xs (xs.drop 1) 1) then 0 else 42):=by unfold Hid;rw[HR.out,zHv xs h0x];rfl
 clear HR hcell hp hpk hh hI
 generalize rootB xs[0]=rb at *
 generalize eqB xs[0].pack zAC=eb at *
 generalize xs[0].path.length=l0 at *
 generalize xs[0].pack.deps.length=l1 at *
 generalize xs[0].pack.peers.length=l2 at *
 generalize xs[0].pack.opts.length=l3 at *
 generalize xs[0].pack.name=nm at *
 generalize xs[0].pack.ver.major=y1 at *
 generalize xs[0].pack.ver.minor=y2 at *
 generalize xs[0].pack.ver.patch=y3 at *
 generalize xs[0].node=nd at *
 have hn0:(0:Int)<(n:Int):=by omega
 have hn0':0<n:=by omega
 have k0:∀ o:Obj,(w.alloc o).cell? ⟨b,oo,none⟩=some (.slice pA l0 pa):=fun o=>zAA (bal (bR _ _) o) c0 hb1
 have k1:∀ o:Obj,(w.alloc o).cell? ⟨b,oo+1,none⟩=some (.string nm):=fun o=>zAA (bal (bR _ _) o) c1 hb1
 have k2:∀ o:Obj,(w.alloc o).cell? ⟨b,oo+2,none⟩=some (.int .i64 y1):=fun o=>zAA (bal (bR _ _) o) c2 hb1
 have k3:∀ o:Obj,(w.alloc o).cell? ⟨b,oo+3,none⟩=some (.int .i64 y2):=fun o=>zAA (bal (bR _ _) o) c3 hb1
 have k4:∀ o:Obj,(w.alloc o).cell? ⟨b,oo+4,none⟩=some (.int .i64 y3):=fun o=>zAA (bal (bR _ _) o) c4 hb1
 have k5:∀ o:Obj,(w.alloc o).cell? ⟨b,oo+5,none⟩=some (.slice pB l1 pb):=fun o=>zAA (bal (bR _ _) o) c5 hb1
 have k6:∀ o:Obj,(w.alloc o).cell? ⟨b,oo+6,none⟩=some (.slice pC l2 pc):=fun o=>zAA (bal (bR _ _) o) c6 hb1
 have k7:∀ o:Obj,(w.alloc o).cell? ⟨b,oo+7,none⟩=some (.slice pD l3 pd):=fun o=>zAA (bal (bR _ _) o) c7 hb1
 go_enter Tryz.func27,Tryz.ntmps27
 go_wp2_with fail
 obtain ⟨w0,hw0⟩:∃ w0,w0=w.alloc (.cells #[.slice (some ⟨b,oo,none⟩) n c] 33):=⟨_,rfl⟩
 have hz:w.heap.size<w0.heap.size:=by rw[hw0];simp[go_sem]
 have hb0:Below w.heap.size w w0:=by rw[hw0];exact bal (bR _ _) _
 have a0:w0.cell? ⟨w.heap.size,0,none⟩=some (.slice (some ⟨b,oo,none⟩) n c):=by rw[hw0];simp[go_sem]
 rw[←hw0]
 clear hw0
 have HB0:=cH hb0;clear hb0
 have HS:Hid (∀ W,Below w0.heap.size w0 W→Below w.heap.size w W):=fun W hW=>bot HB0.out hW
 refine (Hsm.out w0 HB0.out).mono ?_
 rintro e w1 ⟨rfl,B1⟩
 have Q1:=cH B1;clear B1 Hsm k0 k1 k2 k3 k4 k5 k6 k7
 have d0:=zAA (HS.out _ Q1.out) c0 hb1
 have d8:=zAA (HS.out _ Q1.out) c8 hb1
 have b0:=zAA Q1.out a0 hz
 clear c0 c1 c2 c3 c4 c5 c6 c7 c8
 by_cases hl0:l0=0
 case neg=>
  have hzb:((l0:Int) != 0)=true:=by simp[hl0]
  have He:Hid (R=42):=by unfold Hid;rw[HR1.out,Hro.out,decide_eq_false hl0];rfl
  clear hl0 Hro HR1
  go_wp2_with fail
  go_ret
  exact ⟨zAS He.out.symm,HS.out _ Q1.out⟩
 have hzb:((l0:Int) != 0)=false:=by simp[hl0]
 have Hro2:Hid (rb=(eb&&decide (nd=0))):=by unfold Hid;rw[Hro.out,decide_eq_true hl0];rfl
 clear hl0 Hro
 cases eb
 ·have He:Hid (R=42):=by unfold Hid;rw[HR1.out,Hro2.out];rfl
  go_wp2_with fail
  go_ret
  exact ⟨zAS He.out.symm,HS.out _ Q1.out⟩
 by_cases hnd:nd=0
 case neg=>
  have hdb:(nd != 0)=true:=by simp[hnd]
  have He:Hid (R=42):=by unfold Hid;rw[HR1.out,Hro2.out,decide_eq_false hnd];rfl
  clear hnd
  go_wp2_with fail
  go_ret
  exact ⟨zAS He.out.symm,HS.out _ Q1.out⟩
 have hdb:(nd != 0)=false:=by simp[hnd]
 have HR2:Hid (R=bif okGo xs (xs.drop 1) 1 then 0 else 42):=by unfold Hid;rw[HR1.out,Hro2.out,decide_eq_true hnd];rfl
 clear HR1 Hro2 hnd
 go_wp2_with fail
 clear d0 d8 b0 hzb hdb
 go_loopw [4] (fun i wr=>∃ k:Nat,1≤k∧k≤n∧i=.int .i64 k∧Hid (R=bif okGo xs (xs.drop k) k then 0 else 42)∧Below w0.heap.size w0 wr) (fun i _=>n - (intOf i).toNat)
 case atStart=>exact ⟨1,nR _,by omega,rfl,HR2,Q1.out⟩
 case round=>
  obtain ⟨k,hk1,hk,rfl,heq,hbel⟩:=hrel
  have b0:=zAA hbel a0 hz
  have hbel':=bot HB0.out hbel
  by_cases hlt:k<n
  ·have hkx:k<xs.length:=by have:=Hnx.out;omega
   have Hat:=cH (zHv xs hkx)
   have Hs:=cH (Hst.out k hkx wr hbel')
   have hk0:(0:Int)≤(k:Int):=by omega
   have hkn:(k:Int)<(n:Int):=by omega
   generalize zBw xs xs[k] k=sb at *
   have hkz:¬k=0:=by omega
   have Hno':Hid (sb=false→R=42):=fun h=>by rw[heq.out,Hat.out,decide_eq_false hkz,h];rfl
   have Hyes':Hid (sb=true→R=bif okGo xs (xs.drop (k+1)) (k+1) then 0 else 42):=fun h=>by rw[heq.out,Hat.out,decide_eq_false hkz,h];rfl
   clear Hat heq hkz
   go_wp2_with fail
   refine Hs.out.mono ?_
   rintro e w2 ⟨rfl,B1⟩
   have B2:=bot hbel' B1
   have B3:=bot hbel B1
   clear B1
   cases sb
   ·have He:Hid (R=42):=Hno'.out rfl
    go_wp2_with fail
    go_ret
    exact ⟨zAS He.out.symm,B2⟩
   ·have He:=cH (Hyes'.out rfl)
    go_wp2_with fail
    go_roundw
    case rel=>exact ⟨k+1,by omega,by omega,by go_num,He,B3⟩
    case measure=>simp[intOf];omega
  ·have He:Hid (R=0):=by unfold Hid;rw[heq.out,dN (by have:=Hnx.out;omega)];rfl
   go_wp2_with fail
   go_ret
   exact ⟨zAS He.out.symm,hbel'⟩
theorem eqDir {d e:Dir} (h1:d.path=e.path) (h2:d.pack=e.pack) (h3:d.node=e.node):d=e:=by
 cases d;cases e;simp only at h1 h2 h3;rw[h1,h2,h3]
theorem zK4 (A B:Option Addr) (n c m e:Nat) (xs ys:List Dir) (w:World) (S T:Nat→Prop) (hx:SlV rDir w S xs (.slice A n c)) (hy:SlV rDir w T ys (.slice B m e)) :
  Calls Tryz.prog 14 #[.agg #[.slice A n c],.agg #[.slice B m e]] w fun e w'=>e=.returned (.bool (eqB xs ys))∧Below w.heap.size w w':=by
 have hnx:=hx.n_eq
 have hcx:=hx.cap_le
 have hny:=hy.n_eq
 have hcy:=hy.cap_le
 unfold maxLen at hcx hcy
 by_cases hnm:n=m
 case neg=>
  have hb:((n:Int) != (m:Int))=true:=by simp;omega
  have He:Hid (eqB xs ys=false):=zAH (by rintro rfl;omega)
  clear hnx hny hcx hcy hx hy hnm
  generalize eqB xs ys=r at *
  go_enter Tryz.func14,Tryz.ntmps14
  go_wp2_with fail
  go_ret
  exact ⟨zAB He.out.symm,bal (bal (bR _ _) _) _⟩
 have hb:((n:Int) != (m:Int))=false:=by simp[hnm]
 have hn63:n≤9223372036854775807:=by omega
 have HX:=cH (hx.more (S':=fun b=>b<w.heap.size) fun b _ h=>h)
 have HY:=cH (hy.more (S':=fun b=>b<w.heap.size) fun b _ h=>h)
 have Hpos:Hid (xs=ys→eqB xs ys=true):=fun h=>zAP h
 have Hneg:Hid (xs≠ys→eqB xs ys=false):=fun h=>zAH h
 have Hnx:=cH hnx;clear hnx
 have Hny:=cH hny;clear hny
 have Hnm:=cH hnm;clear hnm
 clear hx hy hcx hcy
 generalize eqB xs ys=R at *
 go_enter Tryz.func14,Tryz.ntmps14
 go_wp2_with fail
 obtain ⟨w0,hw0⟩:∃ w0,w0=(w.alloc (.cells #[.slice A n c] 33)).alloc (.cells #[.slice B m e] 33):=⟨_,rfl⟩
 have hz:w.heap.size<w0.heap.size:=by rw[hw0];simp[go_sem]
 have hz1:w.heap.size+1<w0.heap.size:=by rw[hw0];simp[go_sem]
 have hb0:Below w.heap.size w w0:=by rw[hw0];exact bal (bal (bR _ _) _) _
 have a0:w0.cell? ⟨w.heap.size,0,none⟩=some (.slice A n c):=by rw[hw0];simp[go_sem]
 have a1:w0.cell? ⟨w.heap.size+1,0,none⟩=some (.slice B m e):=by rw[hw0];simp[go_sem]
 rw[←hw0]
 clear hw0
 have HB0:=cH hb0;clear hb0
 go_loopw [5] (fun i wr=>∃ k:Nat,k≤n∧i=.int .i64 k∧Hid (xs.take k=ys.take k)∧Below w0.heap.size w0 wr) (fun i _=>n - (intOf i).toNat)
 case atStart=>exact ⟨0,nZ _,rfl,by simp[Hid],bR _ _⟩
 case round=>
  obtain ⟨k,hk,rfl,heq,hbel⟩:=hrel
  have b0:=zAA hbel a0 hz
  have b1:=zAA hbel a1 hz1
  have hbel':=bot HB0.out hbel
  by_cases hlt:k<n
  case neg=>
   have He:Hid (R=true):=Hpos.out (zBv heq.out (by have:=Hnx.out;omega) (by have:=Hny.out;have:=Hnm.out;omega))
   go_wp2_with fail
   go_ret
   exact ⟨zAB He.out.symm,hbel'⟩
  have hkx:k<xs.length:=by have:=Hnx.out;omega
  have hky:k<ys.length:=by have:=Hny.out;have:=Hnm.out;omega
  have hkm:k<m:=by have:=Hnm.out;omega
  obtain ⟨b,oo,cs,rfl,_,hb1,hh,hcell⟩:=(HX.out.below hbel' (fun b h=>h)).elem (gE hkx)
  obtain ⟨b',oo',cs',rfl,_,hb2,hh',hcell'⟩:=(HY.out.below hbel' (fun b h=>h)).elem (gE hky)
  obtain ⟨pA,pa,pB,pb,pC,pc,pD,pd,rfl,hp,hpk,hI⟩:=zB9 hh
  obtain ⟨qA,qa,qB,qb,qC,qc,qD,qd,rfl,hp',hpk',hI'⟩:=zB9 hh'
  have c0:=hcell 0 _ rfl
  have c1:=hcell 1 _ rfl
  have c2:=hcell 2 _ rfl
  have c3:=hcell 3 _ rfl
  have c4:=hcell 4 _ rfl
  have c5:=hcell 5 _ rfl
  have c6:=hcell 6 _ rfl
  have c7:=hcell 7 _ rfl
  have c8:=hcell 8 _ rfl
  have d0:=hcell' 0 _ rfl
  have d1:=hcell' 1 _ rfl
  have d2:=hcell' 2 _ rfl
  have d3:=hcell' 3 _ rfl
  have d4:=hcell' 4 _ rfl
  have d5:=hcell' 5 _ rfl
  have d6:=hcell' 6 _ rfl
  have d7:=hcell' 7 _ rfl
  have d8:=hcell' 8 _ rfl
  simp only[rDir,Nat.add_zero] at c0 c1 c2 c3 c4 c5 c6 c7 c8 d0 d1 d2 d3 d4 d5 d6 d7 d8
  have Hp:=cH (qcall (w:=wr) (fun W hW=>zDY _ _ _ _ _ _ xs[k].path ys[k].path W _ _ (hp.belowSize hW) (hp'.belowSize hW)))
  have Hs:Hid (∀ w1,Below wr.heap.size wr w1→∀ d os,Calls Tryz.prog 32 #[.agg #[.string xs[k].pack.name,.int .i64 xs[k].pack.ver.major,.int .i64 xs[k].pack.ver.minor,.int .i64 xs[k].pack.ver.patch,.slice pB xs[k].pack.deps.length pb,.slice pC xs[k].pack.peers.length pc,.slice pD xs[k].pack.opts.length pd],.agg #[.string ys[k].pack.name,.int .i64 ys[k].pack.ver.major,.int .i64 ys[k].pack.ver.minor,.int .i64 ys[k].pack.ver.patch,.slice qB ys[k].pack.deps.length qb,.slice qC ys[k].pack.peers.length qc,.slice qD ys[k].pack.opts.length qd]] (grow (redrawn w1 d) os) fun e w''=>e=.returned (.bool (eqB xs[k].pack ys[k].pack))∧∃ p:Regrown,w''=grow (redrawn w1 p.d) p.os):=
   fun w1 h1=>qcall (w:=w1) (fun W hW=>zCm _ _ _ _ W _ _ (hpk.keep (bot h1 hW)) (hpk'.keep (bot h1 hW)))
  have Hq1:Hid (eqB xs[k].path ys[k].path=true→eqB xs[k].pack ys[k].pack=true→xs[k].node=ys[k].node→xs.take (k+1)=ys.take (k+1)):=fun h1 h2 h3=>zCa heq.out hkx hky (eqDir (zCC.1 h1) (zCC.1 h2) h3)
  have Hno:Hid (xs[k]≠ys[k]→R=false):=fun h=>Hneg.out (ne_at hkx hky h)
  have Hq2:Hid (eqB xs[k].path ys[k].path=false→R=false):=fun h=>Hno.out fun e=>by rw[e,zAP rfl] at h;cases h
  have Hq3:Hid (eqB xs[k].pack ys[k].pack=false→R=false):=fun h=>Hno.out fun e=>by rw[e,zAP rfl] at h;cases h
  have Hq4:Hid (xs[k].node≠ys[k].node→R=false):=fun h=>Hno.out fun e=>h (by rw[e])
  clear hcell hcell' hp hp' hpk hpk' hh hh' hI hI' Hno
  have hk0:(0:Int)≤(k:Int):=by omega
  have hkn:(k:Int)<(n:Int):=by omega
  have hkm':(k:Int)<(m:Int):=by omega
  generalize eqB xs[k].path ys[k].path=vh at *
  generalize eqB xs[k].pack ys[k].pack=vs at *
  generalize xs[k].path.length=l0 at *
  generalize xs[k].pack.deps.length=l1 at *
  generalize xs[k].pack.peers.length=l2 at *
  generalize xs[k].pack.opts.length=l3 at *
  generalize xs[k].pack.name=nm at *
  generalize xs[k].pack.ver.major=y1 at *
  generalize xs[k].pack.ver.minor=y2 at *
  generalize xs[k].pack.ver.patch=y3 at *
  generalize xs[k].node=nx at *
  generalize ys[k].path.length=m0 at *
  generalize ys[k].pack.deps.length=m1 at *
  generalize ys[k].pack.peers.length=m2 at *
  generalize ys[k].pack.opts.length=m3 at *
  generalize ys[k].pack.name=nn at *
  generalize ys[k].pack.ver.major=z1 at *
  generalize ys[k].pack.ver.minor=z2 at *
  generalize ys[k].pack.ver.patch=z3 at *
  generalize ys[k].node=ny at *
  have r_b0:=cR b0
  have r_b1:=cR b1
  have r_c0:=cR c0
  have r_d0:=cR d0
  go_wp2_with fail
  refine wQ ?_
  repeat (go_big_quiet_step (first|(with_reducible exact Hp.out _ _)))
  refine wpQuiet_nil fun w1 B1=>?_
  clear r_b0 r_b1 r_c0 r_d0 c0 d0 Hp
  have hzr:w.heap.size<wr.heap.size:=lL hz hbel.size
  have hzr1:w.heap.size+1<wr.heap.size:=lL hz1 hbel.size
  have e0:=zAA B1 b0 hzr
  have e1:=zAA B1 b1 hzr1
  have f1:=zAA B1 c1 hb1
  have f2:=zAA B1 c2 hb1
  have f3:=zAA B1 c3 hb1
  have f4:=zAA B1 c4 hb1
  have f5:=zAA B1 c5 hb1
  have f6:=zAA B1 c6 hb1
  have f7:=zAA B1 c7 hb1
  have f8:=zAA B1 c8 hb1
  have g1:=zAA B1 d1 hb2
  have g2:=zAA B1 d2 hb2
  have g3:=zAA B1 d3 hb2
  have g4:=zAA B1 d4 hb2
  have g5:=zAA B1 d5 hb2
  have g6:=zAA B1 d6 hb2
  have g7:=zAA B1 d7 hb2
  have g8:=zAA B1 d8 hb2
  have Hs1:=cH (Hs.out w1 B1)
  have hzw:w.heap.size<w1.heap.size:=lL hzr B1.size
  have hzw1:w.heap.size+1<w1.heap.size:=lL hzr1 B1.size
  have hbw1:b<w1.heap.size:=lL hb1 B1.size
  have hbw2:b'<w1.heap.size:=lL hb2 B1.size
  clear b0 b1 c1 c2 c3 c4 c5 c6 c7 c8 d1 d2 d3 d4 d5 d6 d7 d8 Hs
  have r_e0:=cR e0
  have r_e1:=cR e1
  have r_f1:=cR f1
  have r_f2:=cR f2
  have r_f3:=cR f3
  have r_f4:=cR f4
  have r_f5:=cR f5
  have r_f6:=cR f6
  have r_f7:=cR f7
  have r_g1:=cR g1
  have r_g2:=cR g2
  have r_g3:=cR g3
  have r_g4:=cR g4
  have r_g5:=cR g5
  have r_g6:=cR g6
  have r_g7:=cR g7
  go_wp2_with fail
  refine wQ ?_
  repeat (go_big_quiet_step (first|(with_reducible exact Hs1.out _ _)))
  refine wpQuiet_nil fun w2 B2=>?_
  have B3:=bot (bot hbel B1) B2
  have h0:=zAA B2 e0 hzw
  have h1:=zAA B2 e1 hzw1
  have i8:=zAA B2 f8 hbw1
  have j8:=zAA B2 g8 hbw2
  clear r_e0 r_e1 r_f1 r_f2 r_f3 r_f4 r_f5 r_f6 r_f7 r_g1 r_g2 r_g3 r_g4 r_g5 r_g6 r_g7 Hs1 B1 B2 e0 e1 f1 f2 f3 f4 f5 f6 f7 f8 g1 g2 g3 g4 g5 g6 g7 g8
  have r_h0:=cR h0
  have r_h1:=cR h1
  have r_i8:=cR i8
  have r_j8:=cR j8
  cases vh with
  | false=>
    have He:=cH (Hq2.out rfl)
    clear Hq1 Hq2 Hq3 Hq4
    cases vs
    ·go_wp2_with fail
     refine wQ ?_
     repeat (go_big_quiet_step (first|fail))
     refine wpQuiet_nil fun w3 B4=>?_
     go_wp2_with fail
     go_ret
     exact ⟨zAB He.out.symm,bot HB0.out (bot B3 B4)⟩
    ·go_wp2_with fail
     refine wQ ?_
     repeat (go_big_quiet_step (first|fail))
     refine wpQuiet_nil fun w3 B4=>?_
     go_wp2_with fail
     go_ret
     exact ⟨zAB He.out.symm,bot HB0.out (bot B3 B4)⟩
  | true=>
  cases vs with
  | false=>
    have He:=cH (Hq3.out rfl)
    clear Hq1 Hq2 Hq3 Hq4
    go_wp2_with fail
    refine wQ ?_
    repeat (go_big_quiet_step (first|fail))
    refine wpQuiet_nil fun w3 B4=>?_
    go_wp2_with fail
    go_ret
    exact ⟨zAB He.out.symm,bot HB0.out (bot B3 B4)⟩
  | true=>
  by_cases hnn:nx=ny
  case neg=>
   have He:=cH (Hq4.out hnn)
   have hbn:(nx != ny)=true:=by simp[hnn]
   clear Hq1 Hq2 Hq3 Hq4 hnn
   go_wp2_with fail
   refine wQ ?_
   repeat (go_big_quiet_step (first|fail))
   refine wpQuiet_nil fun w3 B4=>?_
   go_wp2_with fail
   go_ret
   exact ⟨zAB He.out.symm,bot HB0.out (bot B3 B4)⟩
  have He:=cH (Hq1.out rfl rfl hnn)
  have hbn:(nx != ny)=false:=by simp[hnn]
  clear Hq1 Hq2 Hq3 Hq4 hnn
  go_wp2_with fail
  refine wQ ?_
  repeat (go_big_quiet_step (first|fail))
  refine wpQuiet_nil fun w3 B4=>?_
  go_wp2_with fail
  go_roundw
  case rel=>exact ⟨k+1,by omega,by go_num,He,bot B3 B4⟩
  case measure=>simp[intOf];omega
theorem zJi (A:Option Addr) (n c:Nat) (l:List ByteArray) (s:ByteArray) (w:World) (S:Nat→Prop) (hs:s.size≤maxLen) (hlen:l.length * 32≤140737488355328) (hl:SlV rStr w S l (.slice A n c)) :
  Calls Tryz.prog 37 #[.slice A n c,.string s] w fun e w'=>∃ v,e=.returned v∧SlV rStr w' (fun _=>True) (l++[s]) v∧Below w.heap.size w w':=by
 have hm:maxLen=9223372036854775807:=rfl
 have hnx:=hl.n_eq
 have hn63:n≤9223372036854775807:=by omega
 obtain ⟨i,z,hi,hz,hsz,hby,hzs,hpos⟩:=zAp
 have hHS:=cH hs;clear hs
 have hnb:n≤4398046511104:=by omega
 have Hnx:=cH hnx;clear hnx
 go_enter Tryz.func37,Tryz.ntmps37
 go_wp2_with (at_make;refine wpList_make_own w (by rfl) _ _ _ (by rfl) w.heap.size 9 i z 1 Tryz.underlying48 hi hz hsz _ _ _ (n+1) (by rfl) (by rfl) (by omega) (by rw[hby];have:=Hnx.out;omega) (by have:=Hnx.out;omega) (nR _) ?_)
 intro w1 hown1 hgrow
 have HB1:Hid (Below w.heap.size w w1):=(bR _ _).grown hgrow (nR _) (fun k hk=>by cases hk)
 have Hown1:Hid (Own rStr w1 w.heap.size 9 (.slice (some ⟨w.heap.size,0,none⟩) 0 (n+1)) [] (fun _=>False)):=⟨fun b hb=>hb.elim,[],hown1,rfl⟩
 have Hl1:Hid (SlV rStr w1 (fun b=>b<w.heap.size) l (.slice A n c)):=(hl.more (S':=fun b=>b<w.heap.size) fun b h1 h2=>h2).belowSize HB1.out
 have hw1:=HB1.out.size
 clear hown1 hgrow hl
 go_wp2_with (at_builtin;refine zAN (by rfl) _ _ _ (by rfl) zAp Tryz.underlying48 (by rfl) Hown1.out (fun b=>b<w.heap.size) l _ _ _ (by rfl) Hl1.out (by intro b hb he;simp[Value.ownBlock] at he;omega) (by simp[maxLen];omega) (by simp;omega) hw1 ?_)
 intro v2 w2 hown2 hgrow2 hat2
 have HB2:Hid (Below w.heap.size w w2):=zAw HB1.out hgrow2 Hown1.out (nR _)
 have Hown2:Hid (Own rStr w2 w.heap.size 9 v2 l (fun b=>b<w.heap.size∧b<w1.heap.size)):=hown2
 have hw2:=HB2.out.size
 have Hlen:Hid (l.length=n):=Hnx.out.symm
 clear hown2 hgrow2 hat2 Hown1 Hl1 hlen
 go_wp2_with (at_builtin;refine zAM (by rfl) _ _ _ (by rfl) zAp Tryz.underlying48 (by rfl) (Hown2.out.alloc _) ⟨w2.heap.size,0,none⟩ 1 [.string s] s (by rfl) ⟨rfl,hHS.out⟩ (zAd w2 #[.string s] _) (by rw[Hlen.out];unfold maxLen;omega) (by rw[Hlen.out];omega) (by simp;omega) (w2.heap.size+1) (by simp) ?_)
 intro g9 cap9 w9 hown9 hgrow9 hat9 hlt9
 have HB9:=cH (zAw (bal HB2.out _) hgrow9 (Hown2.out.alloc _) (nR _))
 have Hown9:=cH hown9
 clear hown9 hgrow9
 go_wp2_with fail
 go_ret
 exact ⟨_,rfl,Hown9.out.slv.more (fun b _ _=>trivial),HB9.out⟩
theorem zGQ (A:Option Addr) (n c:Nat) (l:List ByteArray) (s:ByteArray) (w:World) (S:Nat→Prop) (hs:s.size≤maxLen) (hlen:l.length * 32≤140737488355328) (hl:SlV rStr w S l (.slice A n c)) :
  Calls Tryz.prog 98 #[.slice A n c,.string s] w fun e w'=>∃ v,e=.returned v∧SlV rStr w' (fun _=>True) (l++[s]) v∧Below w.heap.size w w':=by
 have hm:maxLen=9223372036854775807:=rfl
 have HS:=cH hs;clear hs
 have HL:=cH hlen
 go_enter Tryz.func98,Tryz.ntmps98
 go_wp2_with (at_builtin;refine zAN (by rfl) _ _ _ (by rfl) zAp Tryz.underlying48 (by rfl) (Own.nil_ rStr w w.heap.size 9 (S:=fun _=>False) (fun b h=>h.elim)) (fun b=>b<w.heap.size) l _ _ _ (by rfl) (hl.more fun b h1 h2=>h2) (by intro b hb he;simp[Value.ownBlock] at he) (by simp[maxLen];omega) (by simp;omega) (by simp) ?_)
 intro v1 w1 hown1 hgrow hat
 have HB1:Hid (Below w.heap.size w w1):=(bR _ _).grown hgrow (nR _) (fun k hk=>by simp[Value.ownBlock] at hk)
 have Hown1:Hid (Own rStr w1 w.heap.size 9 v1 l (fun b=>b<w.heap.size)):=hown1
 have hw1:=HB1.out.size
 clear hown1 hgrow hat hl
 obtain ⟨k,hk⟩:∃ k:Nat,l.length=k:=⟨_,rfl⟩
 have Hlen:Hid (l.length=k):=hk
 rw[hk] at hlen
 clear hk
 go_wp2_with (at_builtin;refine zAM (by rfl) _ _ _ (by rfl) zAp Tryz.underlying48 (by rfl) (Hown1.out.alloc _) ⟨w1.heap.size,0,none⟩ 1 [.string s] s (by rfl) ⟨rfl,HS.out⟩ (zAd w1 #[.string s] _) (by rw[Hlen.out];unfold maxLen;omega) (by rw[Hlen.out];omega) (by simp;omega) (w1.heap.size+1) (by simp) ?_)
 intro g9 cap9 w9 hown9 hgrow9 hat9 hlt9
 have HB9:=cH (zAw (bal HB1.out _) hgrow9 (Hown1.out.alloc _) (nR _))
 have Hown9:=cH hown9
 clear hown9 hgrow9
 go_wp2_with fail
 go_ret
 exact ⟨_,rfl,Hown9.out.slv.more (fun b _ _=>trivial),HB9.out⟩
noncomputable def zAg (t:List Dir) (p:List ByteArray) (s:ByteArray):Nat→Int
 | 0=>-1
 | q+1=>bif decide (0≤findI t (p.take q++[s])) then findI t (p.take q++[s]) else zAg t p s q
noncomputable def lookI (t:List Dir) (i:Int) (s:ByteArray):Int:=
 if h:0≤i∧i.toNat<t.length then (bif nameB s then zAg t (t[i.toNat]'h.2).path s ((t[i.toNat]'h.2).path.length+1) else -1) else -1
theorem keepL {w0 W W':World} {a:Nat} {v:Value} (hb:Below W.heap.size W W') (hc:W.cell? ⟨a,0,none⟩=some v) (hB:Below w0.heap.size w0 W) (hz:a<w0.heap.size):W'.cell? ⟨a,0,none⟩=some v∧Below w0.heap.size w0 W':=
 ⟨zAA hb hc (lL hz hB.size),bot hB hb⟩
theorem zGg (A:Option Addr) (n c:Nat) (xs:List Dir) (s:ByteArray) (w:World) (S:Nat→Prop) (i:Int) (hs:s.size≤maxLen) (hlen:∀ d∈xs,d.path.length * 32≤140737488355328) (hx:SlV rDir w S xs (.slice A n c)) :
  Calls Tryz.prog 17 #[.agg #[.slice A n c],.int .i64 i,.string s] w fun e w'=>e=.returned (.int .i64 (lookI xs i s))∧Below w.heap.size w w':=by
 have hnx:=hx.n_eq
 have hcx:=hx.cap_le
 unfold maxLen at hcx
 by_cases h0:i<0
 ·have hd:decide (i<0)=true:=decide_eq_true h0
  have He:Hid (lookI xs i s=-1):=by unfold Hid lookI;rw[dif_neg (by omega)]
  clear hx hnx hcx hlen
  generalize lookI xs i s=R at *
  go_enter Tryz.func17,Tryz.ntmps17
  go_wp2_with fail
  go_ret
  exact ⟨zAS He.out.symm,bal (bR _ _) _⟩
 have hd:decide (i<0)=false:=decide_eq_false h0
 by_cases h1:(n:Int)≤i
 ·have hd1:decide ((n:Int)≤i)=true:=decide_eq_true h1
  have He:Hid (lookI xs i s=-1):=by unfold Hid lookI;rw[dif_neg (by omega)]
  clear hx hnx hcx hlen
  generalize lookI xs i s=R at *
  go_enter Tryz.func17,Tryz.ntmps17
  go_wp2_with fail
  go_ret
  exact ⟨zAS He.out.symm,bal (bR _ _) _⟩
 have hd1:decide ((n:Int)≤i)=false:=decide_eq_false h1
 obtain ⟨k,rfl⟩:∃ k:Nat,i=(k:Int):=⟨i.toNat,by omega⟩
 have hk:k<xs.length:=by omega
 have Hnm:=cH (fun W=>zBg s hs W)
 have HR:Hid (lookI xs (k:Int) s=bif nameB s then zAg xs xs[k].path s (xs[k].path.length+1) else -1):=by
  unfold Hid lookI;rw[dif_pos (by omega)];simp only[Int.toNat_natCast]
 generalize lookI xs (k:Int) s=R at *
 have hkn:(k:Int)<(n:Int):=by omega
 have hk0:(0:Int)≤(k:Int):=by omega
 cases hnb:nameB s
 ·have He:Hid (R=-1):=by unfold Hid;rw[HR.out,hnb];rfl
  rw[hnb] at Hnm
  clear hx hnx hcx hlen hnb HR
  go_enter Tryz.func17,Tryz.ntmps17
  go_wp2_with fail
  refine (Hnm.out _).mono ?_
  rintro e w1 ⟨rfl,B1⟩
  go_wp2_with fail
  go_ret
  exact ⟨zAS He.out.symm,bnew B1⟩
 rw[hnb] at Hnm
 have HR1:Hid (R=zAg xs xs[k].path s (xs[k].path.length+1)):=by unfold Hid;rw[HR.out,hnb];rfl
 clear HR hnb
 have hlk:=hlen xs[k] (List.getElem_mem hk)
 have HX:=cH hx
 have HS:=cH hs
 obtain ⟨b,o,cs,rfl,_,hb1,hh,hcell⟩:=hx.elem (gE hk)
 obtain ⟨s0,s1,s2,s3,rfl,hp,_,_,_,_,_,_,_,_⟩:=hh
 obtain ⟨pA,pc,rfl,hpl,hpm⟩:=hp.val
 unfold maxLen at hpm
 have c0:=hcell 0 _ rfl
 simp only[rDir,Nat.add_zero] at c0
 have HP:=cH hp
 clear hcell hp hx hs hlen hcx hnx
 generalize xs[k].path=path at *
 generalize hl0:path.length=l0 at *
 have Hl0:=cH hl0;clear hl0
 go_enter Tryz.func17,Tryz.ntmps17
 go_wp2_with fail
 obtain ⟨w0,hw0⟩:∃ w0,w0=w.alloc (.cells #[.slice (some ⟨b,o,none⟩) n c] 33):=⟨_,rfl⟩
 have hz:w.heap.size<w0.heap.size:=by rw[hw0];simp[go_sem]
 have hb0:Below w.heap.size w w0:=by rw[hw0];exact bal (bR _ _) _
 have a0:w0.cell? ⟨w.heap.size,0,none⟩=some (.slice (some ⟨b,o,none⟩) n c):=by rw[hw0];simp[go_sem]
 rw[←hw0]
 have HB0:=cH hb0;clear hb0 hw0
 refine (Hnm.out w0).mono ?_
 rintro e w1 ⟨rfl,B1⟩
 have Q1:=cH B1;clear B1 Hnm
 have e0:=zAA (bot HB0.out Q1.out) c0 hb1
 have e1:=zAA Q1.out a0 hz
 go_wp2_with fail
 clear e0 e1
 go_loopw [8] (fun i wr=>((i=.int .i64 (-1)∧Hid (R=-1))∨∃ q:Nat,q≤l0∧i=.int .i64 q∧Hid (R=zAg xs path s (q+1)))∧Below w0.heap.size w0 wr) (fun i _=>(intOf i+1).toNat)
 case atStart=>exact ⟨.inr ⟨l0,nR _,rfl,HR1⟩,Q1.out⟩
 case round=>
  obtain ⟨hor,hbel⟩:=hrel
  have b0:=zAA hbel a0 hz
  have hbel':=bot HB0.out hbel
  rcases hor with ⟨rfl,He⟩|⟨q,hq,rfl,HRq⟩
  ·go_wp2_with fail
   go_ret
   exact ⟨zAS He.out.symm,hbel'⟩
  ·have hq0:(0:Int)≤(q:Int):=by omega
   have hqc:q≤pc:=by omega
   have hw2:IntKind.i64.wrap (q:Int)=(q:Int):=IntWalk.i64_in _ ⟨by omega,by omega⟩
   go_wp2_with fail
   have Hj:Hid (∀ W,Below w0.heap.size w0 W→Calls Tryz.prog 37 #[.slice pA q pc,.string s] W fun e w'=>∃ v,e=.returned v∧SlV rStr w' (fun _=>True) (path.take q++[s]) v∧Below W.heap.size W w'):=fun W hW=>
    zJi pA q pc (path.take q) s W _ HS.out (by rw[List.length_take];omega) (SlV.take (HP.out.belowSize (bot HB0.out hW)) (by rw[Hl0.out];exact hq))
   have Hf:Hid (∀ W vA m vc,Below w0.heap.size w0 W→SlV rStr W (fun _=>True) (path.take q++[s]) (.slice vA m vc)→Calls Tryz.prog 18 #[.agg #[.slice (some ⟨b,o,none⟩) n c],.slice vA m vc] W fun e w'=>e=.returned (.int .i64 (findI xs (path.take q++[s])))∧Below W.heap.size W w'):=fun W vA m vc hW hv=>
    zDG _ _ _ _ _ _ xs _ W _ _ (HX.out.belowSize (bot HB0.out hW)) hv
   have Hst:Hid (zAg xs path s (q+1)=bif decide (0≤findI xs (path.take q++[s])) then findI xs (path.take q++[s]) else zAg xs path s q):=rfl
   generalize findI xs (path.take q++[s])=f at *
   generalize path.take q++[s]=jp at *
   generalize zAg xs path s (q+1)=LD at *
   go_region_held3 (fun w'=>w'.cell? ⟨w.heap.size,0,none⟩=some (.slice (some ⟨b,o,none⟩) n c)∧Below w0.heap.size w0 w')
    (first
      | exact ⟨b0,hbel.drew⟩
      | (go_split_ands;exact keepL (by assumption) (by assumption) (by assumption) hz))
    (first
      | (go_at_call 37;go_split_ands;with_reducible refine (Hj.out _ (by assumption)).mono ?_;rintro e w2 ⟨v,rfl,hv,hb2⟩;obtain ⟨vA,vc,rfl,_,_⟩:=hv.val)
      | (go_at_call 18;go_split_ands;with_reducible refine (Hf.out _ _ _ _ (by assumption) (by assumption)).mono ?_;rintro e w3 ⟨rfl,hb3⟩))
   all_goals
    have HBw:Hid (Below w0.heap.size w0 w3):=by (go_split_ands;assumption)
    have HRr:Hid (R=bif decide (0≤f) then f else zAg xs path s q):=HRq.out.trans Hst.out
    by_cases hf:0≤f
    ·have He:Hid (R=f):=by unfold Hid;rw[HRr.out,decide_eq_true hf];rfl
     go_wp2_with fail
     go_ret
     exact ⟨zAS He.out.symm,bot HB0.out HBw.out⟩
    ·have hfk:decide (0≤f)=false:=decide_eq_false hf
     have He:Hid (R=zAg xs path s q):=by unfold Hid;rw[HRr.out,hfk];rfl
     have hwm:IntKind.i64.wrap ((q:Int) - 1)=(q:Int) - 1:=IntWalk.i64_in _ ⟨by omega,by omega⟩
     clear hf HRr
     go_wp2_with fail
     go_roundw
     case rel=>
      refine ⟨?_,HBw.out⟩
      by_cases hq00:q=0
      ·exact .inl ⟨by simp[hq00],by unfold Hid;rw[He.out,hq00];rfl⟩
      ·obtain ⟨q',rfl⟩:∃ q',q=q'+1:=⟨q - 1,by omega⟩
       exact .inr ⟨q',by omega,by congr 1;omega,He⟩
     case measure=>simp[intOf]
theorem zFI (A:Option Addr) (n c:Nat) (xs:List Dir) (s:ByteArray) (w:World) (S:Nat→Prop) (i:Int) (hs:s.size≤maxLen) (hlen:∀ d∈xs,d.path.length * 32≤140737488355328) (hx:SlV rDir w S xs (.slice A n c)) :
  Calls Tryz.prog 57 #[.agg #[.slice A n c],.int .i64 i,.string s] w fun e w'=>e=.returned (.int .i64 (lookI xs i s))∧Below w.heap.size w w':=by
 have hnx:=hx.n_eq
 have hcx:=hx.cap_le
 unfold maxLen at hcx
 have Hnm:Hid (∀ W,Calls Tryz.prog 97 #[.string s] W fun e w'=>e=.returned (.bool (nameB s))∧Below W.heap.size W w'):=fun W=>(zBr s hs W).mono fun e w' h=>⟨h.1,h.2▸bR _ _⟩
 by_cases h0:i<0
 ·have hd:decide (i<0)=true:=decide_eq_true h0
  have He:Hid (lookI xs i s=-1):=by unfold Hid lookI;rw[dif_neg (by omega)]
  clear hx hnx hcx hlen
  generalize lookI xs i s=R at *
  generalize nameB s=nb at *
  clear hs
  go_enter Tryz.func57,Tryz.ntmps57
  go_wp2_with fail
  refine (Hnm.out _).mono ?_
  rintro e w1 ⟨rfl,B1⟩
  have b0:=zAA B1 (show (w.alloc (.cells #[.slice A n c] 33)).cell? ⟨w.heap.size,0,none⟩=some (.slice A n c) by simp[go_sem]) (by simp[go_sem])
  go_wp2_with fail
  go_ret
  exact ⟨zAS He.out.symm,bnew B1⟩
 have hd:decide (i<0)=false:=decide_eq_false h0
 by_cases h1:(n:Int)≤i
 ·have hd1:decide ((n:Int)≤i)=true:=decide_eq_true h1
  have He:Hid (lookI xs i s=-1):=by unfold Hid lookI;rw[dif_neg (by omega)]
  clear hx hnx hcx hlen
  generalize lookI xs i s=R at *
  generalize nameB s=nb at *
  clear hs
  go_enter Tryz.func57,Tryz.ntmps57
  go_wp2_with fail
  refine (Hnm.out _).mono ?_
  rintro e w1 ⟨rfl,B1⟩
  have b0:=zAA B1 (show (w.alloc (.cells #[.slice A n c] 33)).cell? ⟨w.heap.size,0,none⟩=some (.slice A n c) by simp[go_sem]) (by simp[go_sem])
  go_wp2_with fail
  go_ret
  exact ⟨zAS He.out.symm,bnew B1⟩
 have hd1:decide ((n:Int)≤i)=false:=decide_eq_false h1
 obtain ⟨k,rfl⟩:∃ k:Nat,i=(k:Int):=⟨i.toNat,by omega⟩
 have hk:k<xs.length:=by omega
 have HR:Hid (lookI xs (k:Int) s=bif nameB s then zAg xs xs[k].path s (xs[k].path.length+1) else -1):=by
  unfold Hid lookI;rw[dif_pos (by omega)];simp only[Int.toNat_natCast]
 generalize lookI xs (k:Int) s=R at *
 have hkn:(k:Int)<(n:Int):=by omega
 have hk0:(0:Int)≤(k:Int):=by omega
 have hd2:decide (n≤k)=false:=decide_eq_false (by omega)
 cases hnb:nameB s
 ·have He:Hid (R=-1):=by unfold Hid;rw[HR.out,hnb];rfl
  rw[hnb] at Hnm
  clear hx hnx hcx hlen hnb HR
  go_enter Tryz.func57,Tryz.ntmps57
  go_wp2_with fail
  refine (Hnm.out _).mono ?_
  rintro e w1 ⟨rfl,B1⟩
  have b0:=zAA B1 (show (w.alloc (.cells #[.slice A n c] 33)).cell? ⟨w.heap.size,0,none⟩=some (.slice A n c) by simp[go_sem]) (by simp[go_sem])
  go_wp2_with fail
  go_ret
  exact ⟨zAS He.out.symm,bnew B1⟩
 rw[hnb] at Hnm
 have HR1:Hid (R=zAg xs xs[k].path s (xs[k].path.length+1)):=by unfold Hid;rw[HR.out,hnb];rfl
 clear HR hnb
 have hlk:=hlen xs[k] (List.getElem_mem hk)
 have HX:=cH hx
 have HS:=cH hs
 obtain ⟨b,o,cs,rfl,_,hb1,hh,hcell⟩:=hx.elem (gE hk)
 obtain ⟨s0,s1,s2,s3,rfl,hp,_,_,_,_,_,_,_,_⟩:=hh
 obtain ⟨pA,pc,rfl,hpl,hpm⟩:=hp.val
 unfold maxLen at hpm
 have c0:=hcell 0 _ rfl
 simp only[rDir,Nat.add_zero] at c0
 have HP:=cH hp
 clear hcell hp hx hs hlen hcx hnx
 generalize xs[k].path=path at *
 generalize hl0:path.length=l0 at *
 have Hl0:=cH hl0;clear hl0
 go_enter Tryz.func57,Tryz.ntmps57
 go_wp2_with fail
 obtain ⟨w0,hw0⟩:∃ w0,w0=w.alloc (.cells #[.slice (some ⟨b,o,none⟩) n c] 33):=⟨_,rfl⟩
 have hz:w.heap.size<w0.heap.size:=by rw[hw0];simp[go_sem]
 have hb0:Below w.heap.size w w0:=by rw[hw0];exact bal (bR _ _) _
 have a0:w0.cell? ⟨w.heap.size,0,none⟩=some (.slice (some ⟨b,o,none⟩) n c):=by rw[hw0];simp[go_sem]
 rw[←hw0]
 have HB0:=cH hb0;clear hb0 hw0
 refine (Hnm.out w0).mono ?_
 rintro e w1 ⟨rfl,B1⟩
 have Q1:=cH B1;clear B1 Hnm
 have e0:=zAA (bot HB0.out Q1.out) c0 hb1
 have e1:=zAA Q1.out a0 hz
 go_wp2_with fail
 clear e0 e1
 go_loopw [9] (fun i wr=>((i=.int .i64 (-1)∧Hid (R=-1))∨∃ q:Nat,q≤l0∧i=.int .i64 q∧Hid (R=zAg xs path s (q+1)))∧Below w0.heap.size w0 wr) (fun i _=>(intOf i+1).toNat)
 case atStart=>exact ⟨.inr ⟨l0,nR _,rfl,HR1⟩,Q1.out⟩
 case round=>
  obtain ⟨hor,hbel⟩:=hrel
  have b0:=zAA hbel a0 hz
  have hbel':=bot HB0.out hbel
  rcases hor with ⟨rfl,He⟩|⟨q,hq,rfl,HRq⟩
  ·go_wp2_with fail
   go_ret
   exact ⟨zAS He.out.symm,hbel'⟩
  ·have hq0:(0:Int)≤(q:Int):=by omega
   have hqc:q≤pc:=by omega
   have hw2:IntKind.i64.wrap (q:Int)=(q:Int):=IntWalk.i64_in _ ⟨by omega,by omega⟩
   go_wp2_with fail
   have Hj:Hid (∀ W,Below w0.heap.size w0 W→Calls Tryz.prog 98 #[.slice pA q pc,.string s] W fun e w'=>∃ v,e=.returned v∧SlV rStr w' (fun _=>True) (path.take q++[s]) v∧Below W.heap.size W w'):=fun W hW=>
    zGQ pA q pc (path.take q) s W _ HS.out (by rw[List.length_take];omega) (SlV.take (HP.out.belowSize (bot HB0.out hW)) (by rw[Hl0.out];exact hq))
   have Hf:Hid (∀ W vA m vc,Below w0.heap.size w0 W→SlV rStr W (fun _=>True) (path.take q++[s]) (.slice vA m vc)→Calls Tryz.prog 93 #[.agg #[.slice (some ⟨b,o,none⟩) n c],.slice vA m vc] W fun e w'=>e=.returned (.int .i64 (findI xs (path.take q++[s])))∧Below W.heap.size W w'):=fun W vA m vc hW hv=>
    zCF _ _ _ _ _ _ xs _ W _ _ (HX.out.belowSize (bot HB0.out hW)) hv
   have Hst:Hid (zAg xs path s (q+1)=bif decide (0≤findI xs (path.take q++[s])) then findI xs (path.take q++[s]) else zAg xs path s q):=rfl
   generalize findI xs (path.take q++[s])=f at *
   generalize path.take q++[s]=jp at *
   generalize zAg xs path s (q+1)=LD at *
   go_region_held3 (fun w'=>w'.cell? ⟨w.heap.size,0,none⟩=some (.slice (some ⟨b,o,none⟩) n c)∧Below w0.heap.size w0 w')
    (first
      | exact ⟨b0,hbel.drew⟩
      | (go_split_ands;exact keepL (by assumption) (by assumption) (by assumption) hz))
    (first
      | (go_at_call 98;go_split_ands;with_reducible refine (Hj.out _ (by assumption)).mono ?_;rintro e w2 ⟨v,rfl,hv,hb2⟩;obtain ⟨vA,vc,rfl,_,_⟩:=hv.val)
      | (go_at_call 93;go_split_ands;with_reducible refine (Hf.out _ _ _ _ (by assumption) (by assumption)).mono ?_;rintro e w3 ⟨rfl,hb3⟩))
   all_goals
    have HBw:Hid (Below w0.heap.size w0 w3):=by (go_split_ands;assumption)
    have HRr:Hid (R=bif decide (0≤f) then f else zAg xs path s q):=HRq.out.trans Hst.out
    by_cases hf:0≤f
    ·have He:Hid (R=f):=by unfold Hid;rw[HRr.out,decide_eq_true hf];rfl
     go_wp2_with fail
     go_ret
     exact ⟨zAS He.out.symm,bot HB0.out HBw.out⟩
    ·have hfk:decide (0≤f)=false:=decide_eq_false hf
     have He:Hid (R=zAg xs path s q):=by unfold Hid;rw[HRr.out,hfk];rfl
     have hwm:IntKind.i64.wrap ((q:Int) - 1)=(q:Int) - 1:=IntWalk.i64_in _ ⟨by omega,by omega⟩
     clear hf HRr
     go_wp2_with fail
     go_roundw
     case rel=>
      refine ⟨?_,HBw.out⟩
      by_cases hq00:q=0
      ·exact .inl ⟨by simp[hq00],by unfold Hid;rw[He.out,hq00];rfl⟩
      ·obtain ⟨q',rfl⟩:∃ q',q=q'+1:=⟨q - 1,by omega⟩
       exact .inr ⟨q',by omega,by congr 1;omega,He⟩
     case measure=>simp[intOf]
end Go.Proofs.YtminjjdnmpaaoaaGreatDoor
namespace Go.Proofs.YtminjjdnmpaaoaaGreatDoor
open Go.Rows Go.RowKit
def FreeB (w:World) (b:Nat):Prop:=∃ cs t,w.heap[b]?=some (.cells cs t (0,0))
theorem FreeB.lt {w:World} {b:Nat} (h:FreeB w b):b<w.heap.size:=by
 obtain ⟨cs,t,h⟩:=h
 exact (aS.1 h).1
theorem FreeB.same {w w':World} {b:Nat} (h:FreeB w b) (e:w'.heap[b]?=w.heap[b]?):FreeB w' b:=by
 obtain ⟨cs,t,h⟩:=h
 exact ⟨cs,t,e.trans h⟩
theorem FreeB.keep {w w':World} {b:Nat} (h:FreeB w b) (hb:Below w.heap.size w w'):FreeB w' b:=h.same (hb.block b h.lt)
theorem FreeB.grown {w w':World} {b:Nat} {row:Option Nat} (h:FreeB w b) (hg:w.grownBy w' row) (hne:some b≠row):FreeB w' b:=h.same (hg.block b h.lt hne)
theorem FreeB.alloc {w:World} {b:Nat} (h:FreeB w b) (o:Obj):FreeB (w.alloc o) b:=h.same (Below.heap_alloc w o b h.lt)
theorem FreeB.set {w:World} {b:Nat} (h:FreeB w b) (g o:Nat) (v:Value):FreeB (w.setCell ⟨g,o,none⟩ v) b:=by
 by_cases e:b=g
 ·subst e
  obtain ⟨cs,t,h⟩:=h
  obtain ⟨hlt,hk⟩:=aS.1 h
  refine ⟨cs.setIfInBounds o v,t,?_⟩
  show (w.heap.modify b _)[b]?=_
  rw[Array.getElem?_eq_getElem (by rw[Array.size_modify];exact hlt),Array.getElem_modify_self,hk]
  rfl
 ·exact h.same (heap_setCell_other w ⟨g,o,none⟩ b v e)
theorem FreeB.frozen {w:World} {b:Nat} (h:FreeB w b) (o:Nat):w.frozen? ⟨b,o,none⟩=false:=by
 obtain ⟨cs,t,h⟩:=h
 simp[World.frozen?,h]
theorem FreeB.new (w:World) (cs:Array Value) (t:TypeId):FreeB (w.alloc (.cells cs t)) w.heap.size:=⟨cs,t,zAD w _⟩
section
variable {α:Type} {r:Rp α} {w:World} {S:Nat→Prop} {base:Nat} {e:TypeId} {v:Value} {l:List α}
theorem Own.free (h:Own r w base e v l S) {b:Nat} (hv:v.ownBlock=some b):FreeB w b:=by
 obtain ⟨h0,xs,h1,h2⟩:=h
 rcases h1.2 with ⟨rfl,hn⟩|⟨g,cap,cur,rfl,hb,hg,_⟩
 ·simp[Value.ownBlock] at hv
 ·have e:g=b:=by simpa [Value.ownBlock] using hv
  subst e
  exact ⟨cur,_,hg⟩
theorem Own.slvP (h:Own r w base e v l S):SlV r w (fun b=>S b∨v.ownBlock=some b) l v:=by
 obtain ⟨h0,xs,h1,h2⟩:=h
 have h1':=h1
 rcases h1.2 with ⟨rfl,hn⟩|⟨g,cap,cur,rfl,hb,hg,hnc,hcm,hsz,htake⟩
 ·have:l=[]:=List.eq_nil_of_length_eq_zero hn
  subst this
  exact SlV.nil_ _ _ _
 ·refine ⟨some ⟨g,0,none⟩,cap,rfl,hnc,hcm,(fun h=>by cases h),fun _=>⟨g,0,rfl,.inr rfl,(aS.1 hg).1,fun i x hx=>?_⟩⟩
  obtain ⟨cs,hc,hcell⟩:=h2.get i x hx
  refine ⟨cs,r.mono hc fun b hb _=>⟨.inl hb,rfl⟩,fun j u hu=>?_⟩
  have h3:=h1'.cells (g:=g) rfl _ u (hcell j u hu)
  rw[zD0,Nat.zero_add] at h3
  rw[Nat.zero_add]
  exact h3
theorem Own.moreFree (h:Own r w base e v l S) {B:Nat} (hB:∀ k,v.ownBlock=some k→k<B):Own r w base e v l (fun b=>S b∨((B≤b∧b<w.heap.size)∧FreeB w b)):=
 h.more (fun b hb=>by
  rcases hb with hb|hb
  ·exact h.1 b hb
  ·exact ⟨hb.1.2,fun e=>by have:=hB b e;omega⟩) fun b hb=>.inl hb
end
end Go.Proofs.YtminjjdnmpaaoaaGreatDoor
namespace Go.Proofs.YtminjjdnmpaaoaaGreatDoor
theorem zEh {b:UInt8} (h:nameC b=true):(b != 47)=true:=by
 have H:∀ b:UInt8,(!nameC b||(b != 47))=true:=zE5 (by decide +kernel)
 have:=H b
 rw[h] at this;simpa using this
theorem zEq {l:List UInt8} (h:nameL l=true):∀ b∈l,(b != 47)=true:=by
 cases l with
 | nil=>intro b hb;cases hb
 | cons c t=>
   simp only[nameL,Bool.and_eq_true] at h
   intro b hb
   rcases List.mem_cons.1 hb with rfl|hb
   ·exact zEh (by unfold nameC;rw[h.1.1];rfl)
   ·exact zEh (List.all_eq_true.1 h.1.2 b hb)
theorem zE1:∀ (t:List ByteArray),zAr t=[]∨∃ r,zAr t=47::r:=by
 intro t
 cases t with
 | nil=>exact .inl rfl
 | cons s t=>exact .inr ⟨_,rfl⟩
theorem zDQ {l r:List UInt8} (h:∀ b∈l,(b != 47)=true) (hr:r=[]∨∃ q,r=47::q):(l++r).takeWhile (· != 47)=l:=by
 induction l with
 | nil=>
   rcases hr with rfl|⟨q,rfl⟩
   ·rfl
   ·rfl
 | cons c l ih=>
   rw[List.cons_append,List.takeWhile_cons,if_pos (h c (by simp)),ih fun b hb=>h b (by simp[hb])]
theorem zJq:∀ {a b:List ByteArray},a.all nameB=true→b.all nameB=true→zAr a=zAr b→a=b:=by
 intro a
 induction a with
 | nil=>
   intro b _ _ h
   cases b with
   | nil=>rfl
   | cons s t=>cases h
 | cons s t ih=>
   intro b ha hb h
   cases b with
   | nil=>cases h
   | cons u v=>
     rw[List.all_cons,Bool.and_eq_true] at ha hb
     rw[zAr,zAr,List.append_assoc,List.append_assoc] at h
     have h1:=List.append_cancel_left h
     have e1:=zDQ (zEq ha.1) (zE1 t)
     have e2:=zDQ (zEq hb.1) (zE1 v)
     rw[h1,e2] at e1
     rw[e1] at h1
     have h2:=List.append_cancel_left h1
     have hs:s=u:=ByteArray.ext (Array.ext' e1.symm)
     rw[hs,ih ha.2 hb.2 h2]
end Go.Proofs.YtminjjdnmpaaoaaGreatDoor
namespace Go.Proofs.YtminjjdnmpaaoaaGreatDoor
open Go
def zAJ:Option ByteArray→List ByteArray→Bool
 | _,[]=>true
 | p,s::l=>(nameB s&&behind p s)&&zAJ (some s) l
def zA4 (l:List ByteArray):Nat→Option ByteArray
 | 0=>none
 | k+1=>l[k]?
theorem zCR {l:List ByteArray} {k:Nat} {s:ByteArray} (h:l[k]?=some s):zAJ (zA4 l k) (l.drop k)=((nameB s&&behind (zA4 l k) s)&&zAJ (zA4 l (k+1)) (l.drop (k+1))):=by
 obtain ⟨hk,e⟩:=gS.1 h
 rw[dC hk,e,zAJ]
 show _=((nameB s&&behind (zA4 l k) s)&&zAJ l[k]? (l.drop (k+1)))
 rw[h]
theorem zCP {l:List ByteArray} {k:Nat} {p:Option ByteArray} (h:l.length≤k):zAJ p (l.drop k)=true:=by
 rw[dN h];rfl
theorem zDr:∀ {l:List ByteArray} {p:Option ByteArray},zAJ p l=true→∀ s∈l,nameB s=true
 | [],_,_,s,hs=>by cases hs
 | x::l,p,h,s,hs=>by
   rw[zAJ,Bool.and_eq_true,Bool.and_eq_true] at h
   rcases List.mem_cons.1 hs with rfl|hs
   ·exact h.1.1
   ·exact zDr h.2 s hs
def zAG (l:List Pin):List ByteArray:=l.map (·.name)
def zAF (l:List Edge):List ByteArray:=l.map (·.label)
def zeroV (v:Ver):Bool:=decide (v.major=0)&&(decide (v.minor=0)&&decide (v.patch=0))
