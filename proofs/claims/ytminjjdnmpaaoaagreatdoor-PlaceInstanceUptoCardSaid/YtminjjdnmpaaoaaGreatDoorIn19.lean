/- The document's catalog: what stands ahead, a package of a name and a version: walked. -/
import Derived.Test.YtminjjdnmpaaoaaGreatDoorIn18
import Derived.Test.YtminjjdnmpaaoaaGreatDoorIn09
import Derived.Test.YtminjjdnmpaaoaaGreatDoorIn14
import Derived.Test.YtminjjdnmpaaoaaGreatDoorIn02
import Derived.Lib.Hide
import Derived.Test.YtminjjdnmpaaoaaGreatDoorIn04
import Derived.Deep.LoopGhost
import Derived.WalkMore
import Derived.Deep.RegionHeld3
import Derived.Test.YtminjjdnmpaaoaaGreatDoorAl
set_option linter.all false
set_option maxHeartbeats 6400000
set_option maxRecDepth 100000
namespace Go.Proofs.YtminjjdnmpaaoaaGreatDoor
open Go.Rows Go.RowKit Go.Shelf Go.Sort
theorem zFA (x1 x2 x3 y1 y2 y3:Int) (w:World) :
  Calls Tryz.prog 109 #[.agg #[.int .i64 x1,.int .i64 x2,.int .i64 x3],.agg #[.int .i64 y1,.int .i64 y2,.int .i64 y3]] w fun e w'=>e=.returned (.int .i64 (cmp3T x1 x2 x3 y1 y2 y3))∧Below w.heap.size w w':=by
 obtain ⟨R,hR⟩:∃ R,R=cmp3T x1 x2 x3 y1 y2 y3:=⟨_,rfl⟩
 rw[←hR]
 have F1:Hid (x1<y1→R=-1):=fun h=>by rw[hR];unfold cmp3T;rw[if_pos h]
 have F2:Hid (¬x1<y1→y1<x1→R=1):=fun h0 h=>by rw[hR];unfold cmp3T;rw[if_neg h0,if_pos h]
 have F3:Hid (x1=y1→x2<y2→R=-1):=fun h0 h=>by rw[hR];unfold cmp3T;rw[if_neg (by omega),if_neg (by omega),if_pos h]
 have F4:Hid (x1=y1→¬x2<y2→y2<x2→R=1):=fun h0 h1 h=>by rw[hR];unfold cmp3T;rw[if_neg (by omega),if_neg (by omega),if_neg h1,if_pos h]
 have F5:Hid (x1=y1→x2=y2→x3<y3→R=-1):=fun h0 h1 h=>by rw[hR];unfold cmp3T;rw[if_neg (by omega),if_neg (by omega),if_neg (by omega),if_neg (by omega),if_pos h]
 have F6:Hid (x1=y1→x2=y2→¬x3<y3→y3<x3→R=1):=fun h0 h1 h2 h=>by rw[hR];unfold cmp3T;rw[if_neg (by omega),if_neg (by omega),if_neg (by omega),if_neg (by omega),if_neg h2,if_pos h]
 have F7:Hid (x1=y1→x2=y2→x3=y3→R=0):=fun h0 h1 h2=>by rw[hR];unfold cmp3T;rw[if_neg (by omega),if_neg (by omega),if_neg (by omega),if_neg (by omega),if_neg (by omega),if_neg (by omega)]
 clear hR
 go_enter Tryz.func109,Tryz.ntmps109
 go_wp2_with fail
 obtain ⟨w1,hw1⟩:∃ w1,w1=(((w.alloc (.cells #[.int .i64 x1,.int .i64 x2,.int .i64 x3] 50)).alloc (.cells #[.int .i64 y1,.int .i64 y2,.int .i64 y3] 50)).alloc (.cells #[.int .i64 x1,.int .i64 x2,.int .i64 x3] 3)).alloc (.cells #[.int .i64 y1,.int .i64 y2,.int .i64 y3] 3):=⟨_,rfl⟩
 have HB1:Hid (Below w.heap.size w w1):=by unfold Hid;rw[hw1];exact bal (bal (bal (bal (bR _ _) _) _) _) _
 have hx:w1.heap[w.heap.size+2]?=some (.cells #[.int .i64 x1,.int .i64 x2,.int .i64 x3] 3 (0,0)):=by
  rw[hw1]
  have:=heap_alloc_new ((w.alloc (.cells #[.int .i64 x1,.int .i64 x2,.int .i64 x3] 50)).alloc (.cells #[.int .i64 y1,.int .i64 y2,.int .i64 y3] 50)) (.cells #[.int .i64 x1,.int .i64 x2,.int .i64 x3] 3)
  simp only[World.size_alloc] at this
  rw[Below.heap_alloc _ _ _ (by simp)]
  exact this
 have hy:w1.heap[w.heap.size+2+1]?=some (.cells #[.int .i64 y1,.int .i64 y2,.int .i64 y3] 3 (0,0)):=by
  rw[hw1]
  have:=heap_alloc_new (((w.alloc (.cells #[.int .i64 x1,.int .i64 x2,.int .i64 x3] 50)).alloc (.cells #[.int .i64 y1,.int .i64 y2,.int .i64 y3] 50)).alloc (.cells #[.int .i64 x1,.int .i64 x2,.int .i64 x3] 3)) (.cells #[.int .i64 y1,.int .i64 y2,.int .i64 y3] 3)
  simp only[World.size_alloc] at this
  exact this
 rw[←hw1]
 clear hw1
 have HX:=cH hx
 have HY:=cH hy
 obtain ⟨bx,hbx⟩:∃ bx,bx=w.heap.size+2:=⟨_,rfl⟩
 rw[←hbx] at HX HY
 rw[←hbx]
 obtain ⟨yb,hby⟩:∃ yb,yb=bx+1:=⟨_,rfl⟩
 rw[←hby] at HY
 rw[←hby]
 clear hbx hby hx hy
 go_loopw [7] (fun i wr=>∃ k:Nat,k≤3∧i=.int .i64 k∧Hid ((1≤k→x1=y1)∧(2≤k→x2=y2)∧(3≤k→x3=y3))∧Hid (Below w1.heap.size w1 wr)) (fun i _=>3 - (intOf i).toNat)
 case atStart=>exact ⟨0,nZ _,rfl,⟨fun h=>absurd h (by decide),fun h=>absurd h (by decide),fun h=>absurd h (by decide)⟩,bR _ _⟩
 case round=>
  obtain ⟨k,hk,rfl,Hq,HB⟩:=hrel
  have HBw:=cH (bot HB1.out HB.out)
  obtain ⟨⟨c0,c1,c2⟩,_⟩:=row3P ((HB.out.block _ (aS.1 HX.out).1).trans HX.out)
  obtain ⟨⟨d0,d1,d2⟩,_⟩:=row3P ((HB.out.block _ (aS.1 HY.out).1).trans HY.out)
  have hkk:k=0∨k=1∨k=2∨k=3:=by omega
  rcases hkk with rfl|rfl|rfl|rfl
  ·by_cases hl:x1<y1
   ·have He:Hid (R=-1):=F1.out hl
    clear F1 F2 F3 F4 F5 F6 F7 Hq
    have r_c0:=cR c0
    have r_d0:=cR d0
    go_wp2_with fail
    refine wQ ?_
    repeat (go_big_quiet_step (first|fail))
    refine wpQuiet_nil fun w3 B3=>?_
    go_wp2_with fail
    go_ret
    exact ⟨by rw[He.out];rfl,bot HBw.out B3⟩
   ·by_cases hg:y1<x1
    ·have He:Hid (R=1):=F2.out (by omega) hg
     clear F1 F2 F3 F4 F5 F6 F7 Hq
     have r_c0:=cR c0
     have r_d0:=cR d0
     go_wp2_with fail
     refine wQ ?_
     repeat (go_big_quiet_step (first|fail))
     refine wpQuiet_nil fun w3 B3=>?_
     have c0':=zAA B3 c0 (zAU c0)
     have d0':=zAA B3 d0 (zAU d0)
     have r_c0':=cR c0'
     have r_d0':=cR d0'
     go_wp2_with fail
     refine wQ ?_
     repeat (go_big_quiet_step (first|fail))
     refine wpQuiet_nil fun w4 B4=>?_
     go_wp2_with fail
     go_ret
     exact ⟨by rw[He.out];rfl,bot HBw.out (bot B3 B4)⟩
    ·have hee:x1=y1:=by omega
     have Hq2:Hid ((1≤1→x1=y1)∧(2≤1→x2=y2)∧(3≤1→x3=y3)):=⟨fun _=>hee,fun h=>absurd h (by decide),fun h=>absurd h (by decide)⟩
     clear Hq hee
     have r_c0:=cR c0
     have r_d0:=cR d0
     go_wp2_with fail
     refine wQ ?_
     repeat (go_big_quiet_step (first|fail))
     refine wpQuiet_nil fun w3 B3=>?_
     have c0':=zAA B3 c0 (zAU c0)
     have d0':=zAA B3 d0 (zAU d0)
     have r_c0':=cR c0'
     have r_d0':=cR d0'
     go_wp2_with fail
     refine wQ ?_
     repeat (go_big_quiet_step (first|fail))
     refine wpQuiet_nil fun w4 B4=>?_
     have HB4:=cH (bot HB.out (bot B3 B4))
     go_wp2_with fail
     go_roundw
     case rel=>exact ⟨1,by decide,rfl,Hq2,HB4⟩
     case measure=>simp[intOf]
  ·by_cases hl:x2<y2
   ·have He:Hid (R=-1):=F3.out (Hq.out.1 (by decide)) hl
    clear F1 F2 F3 F4 F5 F6 F7 Hq
    have r_c1:=cR c1
    have r_d1:=cR d1
    go_wp2_with fail
    refine wQ ?_
    repeat (go_big_quiet_step (first|fail))
    refine wpQuiet_nil fun w3 B3=>?_
    go_wp2_with fail
    go_ret
    exact ⟨by rw[He.out];rfl,bot HBw.out B3⟩
   ·by_cases hg:y2<x2
    ·have He:Hid (R=1):=F4.out (Hq.out.1 (by decide)) (by omega) hg
     clear F1 F2 F3 F4 F5 F6 F7 Hq
     have r_c1:=cR c1
     have r_d1:=cR d1
     go_wp2_with fail
     refine wQ ?_
     repeat (go_big_quiet_step (first|fail))
     refine wpQuiet_nil fun w3 B3=>?_
     have c1':=zAA B3 c1 (zAU c1)
     have d1':=zAA B3 d1 (zAU d1)
     have r_c1':=cR c1'
     have r_d1':=cR d1'
     go_wp2_with fail
     refine wQ ?_
     repeat (go_big_quiet_step (first|fail))
     refine wpQuiet_nil fun w4 B4=>?_
     go_wp2_with fail
     go_ret
     exact ⟨by rw[He.out];rfl,bot HBw.out (bot B3 B4)⟩
    ·have hee:x2=y2:=by omega
     have Hq2:Hid ((1≤2→x1=y1)∧(2≤2→x2=y2)∧(3≤2→x3=y3)):=⟨fun _=>Hq.out.1 (by decide),fun _=>hee,fun h=>absurd h (by decide)⟩
     clear Hq hee
     have r_c1:=cR c1
     have r_d1:=cR d1
     go_wp2_with fail
     refine wQ ?_
     repeat (go_big_quiet_step (first|fail))
     refine wpQuiet_nil fun w3 B3=>?_
     have c1':=zAA B3 c1 (zAU c1)
     have d1':=zAA B3 d1 (zAU d1)
     have r_c1':=cR c1'
     have r_d1':=cR d1'
     go_wp2_with fail
     refine wQ ?_
     repeat (go_big_quiet_step (first|fail))
     refine wpQuiet_nil fun w4 B4=>?_
     have HB4:=cH (bot HB.out (bot B3 B4))
     go_wp2_with fail
     go_roundw
     case rel=>exact ⟨2,by decide,rfl,Hq2,HB4⟩
     case measure=>simp[intOf]
  ·by_cases hl:x3<y3
   ·have He:Hid (R=-1):=F5.out (Hq.out.1 (by decide)) (Hq.out.2.1 (by decide)) hl
    clear F1 F2 F3 F4 F5 F6 F7 Hq
    have r_c2:=cR c2
    have r_d2:=cR d2
    go_wp2_with fail
    refine wQ ?_
    repeat (go_big_quiet_step (first|fail))
    refine wpQuiet_nil fun w3 B3=>?_
    go_wp2_with fail
    go_ret
    exact ⟨by rw[He.out];rfl,bot HBw.out B3⟩
   ·by_cases hg:y3<x3
    ·have He:Hid (R=1):=F6.out (Hq.out.1 (by decide)) (Hq.out.2.1 (by decide)) (by omega) hg
     clear F1 F2 F3 F4 F5 F6 F7 Hq
     have r_c2:=cR c2
     have r_d2:=cR d2
     go_wp2_with fail
     refine wQ ?_
     repeat (go_big_quiet_step (first|fail))
     refine wpQuiet_nil fun w3 B3=>?_
     have c2':=zAA B3 c2 (zAU c2)
     have d2':=zAA B3 d2 (zAU d2)
     have r_c2':=cR c2'
     have r_d2':=cR d2'
     go_wp2_with fail
     refine wQ ?_
     repeat (go_big_quiet_step (first|fail))
     refine wpQuiet_nil fun w4 B4=>?_
     go_wp2_with fail
     go_ret
     exact ⟨by rw[He.out];rfl,bot HBw.out (bot B3 B4)⟩
    ·have hee:x3=y3:=by omega
     have Hq2:Hid ((1≤3→x1=y1)∧(2≤3→x2=y2)∧(3≤3→x3=y3)):=⟨fun _=>Hq.out.1 (by decide),fun _=>Hq.out.2.1 (by decide),fun _=>hee⟩
     clear Hq hee
     have r_c2:=cR c2
     have r_d2:=cR d2
     go_wp2_with fail
     refine wQ ?_
     repeat (go_big_quiet_step (first|fail))
     refine wpQuiet_nil fun w3 B3=>?_
     have c2':=zAA B3 c2 (zAU c2)
     have d2':=zAA B3 d2 (zAU d2)
     have r_c2':=cR c2'
     have r_d2':=cR d2'
     go_wp2_with fail
     refine wQ ?_
     repeat (go_big_quiet_step (first|fail))
     refine wpQuiet_nil fun w4 B4=>?_
     have HB4:=cH (bot HB.out (bot B3 B4))
     go_wp2_with fail
     go_roundw
     case rel=>exact ⟨3,by decide,rfl,Hq2,HB4⟩
     case measure=>simp[intOf]
  ·have He:Hid (R=0):=F7.out (Hq.out.1 (by decide)) (Hq.out.2.1 (by decide)) (Hq.out.2.2 (by decide))
   clear F1 F2 F3 F4 F5 F6 F7 Hq
   go_wp2_with fail
   go_ret
   exact ⟨by rw[He.out];rfl,HBw.out⟩
theorem PackV.open_ {w:World} {S:Nat→Prop} {x:Pack} {u:Value} (h:PackV w S x u):∃ A B C a b c,u=.agg #[.string x.name,.int .i64 x.ver.major,.int .i64 x.ver.minor,.int .i64 x.ver.patch,.slice A x.deps.length a,.slice B x.peers.length b,.slice C x.opts.length c]∧x.name.size≤maxLen∧SlV rDep w S x.deps (.slice A x.deps.length a)∧SlV rDep w S x.peers (.slice B x.peers.length b)∧SlV rDep w S x.opts (.slice C x.opts.length c):=by
 obtain ⟨A,n,a,B,m,b,C,k,c,rfl,h1,h2,h3,h4⟩:=h
 have e2:=h2.n_eq
 have e3:=h3.n_eq
 have e4:=h4.n_eq
 subst e2 e3 e4
 exact ⟨A,B,C,a,b,c,rfl,h1,h2,h3,h4⟩
theorem zLI (x y:Pack) (u v:Value) (w:World) (S T:Nat→Prop) (hu:PackV w S x u) (hv:PackV w T y v) :
  Calls Tryz.prog 64 #[u,v] w fun e w'=>e=.returned (.bool (zCz x y))∧Below w.heap.size w w':=by
 obtain ⟨A1,B1,C1,a1,b1,c1,rfl,hx,_,_,_⟩:=hu.open_
 obtain ⟨A2,B2,C2,a2,b2,c2,rfl,hy,_,_,_⟩:=hv.open_
 have HR1:Hid (x.name≠y.name→zCz x y=lessB x.name y.name):=fun h=>by unfold zCz;rw[if_neg h]
 have HR2:Hid (x.name=y.name→zCz x y=decide (0<cmp3T x.ver.major x.ver.minor x.ver.patch y.ver.major y.ver.minor y.ver.patch)):=fun h=>by unfold zCz;rw[if_pos h];rfl
 have HLe:Hid (∀ W,Calls Tryz.prog 108 #[.string x.name,.string y.name] W fun e w'=>e=.returned (.bool (lessB x.name y.name))∧Below W.heap.size W w'):=fun W=>zCx _ _ hx hy W
 have HCm:Hid (∀ W,Calls Tryz.prog 109 #[.agg #[.int .i64 x.ver.major,.int .i64 x.ver.minor,.int .i64 x.ver.patch],.agg #[.int .i64 y.ver.major,.int .i64 y.ver.minor,.int .i64 y.ver.patch]] W fun e w'=>e=.returned (.int .i64 (cmp3T x.ver.major x.ver.minor x.ver.patch y.ver.major y.ver.minor y.ver.patch))∧Below W.heap.size W w'):=fun W=>zFA _ _ _ _ _ _ W
 clear hu hv hx hy
 generalize zCz x y=R at *
 generalize lessB x.name y.name=ls at *
 generalize cmp3T x.ver.major x.ver.minor x.ver.patch y.ver.major y.ver.minor y.ver.patch=cm at *
 obtain ⟨xn,⟨x1,x2,x3⟩,xd,xp,xo⟩:=x
 obtain ⟨yn,⟨y1,y2,y3⟩,yd,yp,yo⟩:=y
 simp only at HR1 HR2 HLe HCm ⊢
 generalize xd.length=l1 at *
 generalize xp.length=l2 at *
 generalize xo.length=l3 at *
 generalize yd.length=m1 at *
 generalize yp.length=m2 at *
 generalize yo.length=m3 at *
 obtain ⟨w0,hw0⟩:∃ w0,w0=(w.alloc (.cells #[.string xn,.int .i64 x1,.int .i64 x2,.int .i64 x3,.slice A1 l1 a1,.slice B1 l2 b1,.slice C1 l3 c1] 52)).alloc (.cells #[.string yn,.int .i64 y1,.int .i64 y2,.int .i64 y3,.slice A2 m1 a2,.slice B2 m2 b2,.slice C2 m3 c2] 52):=⟨_,rfl⟩
 have hw1:(w.alloc (.cells #[.string xn,.int .i64 x1,.int .i64 x2,.int .i64 x3,.slice A1 l1 a1,.slice B1 l2 b1,.slice C1 l3 c1] 52)).heap.size=w.heap.size+1:=by simp
 have HB0:Hid (Below w.heap.size w w0):=by unfold Hid;rw[hw0];exact bal (bal (bR _ _) _) _
 have hqX:w0.heap[w.heap.size]?=some (.cells #[.string xn,.int .i64 x1,.int .i64 x2,.int .i64 x3,.slice A1 l1 a1,.slice B1 l2 b1,.slice C1 l3 c1] 52 (0,0)):=by
  rw[hw0]
  exact ((bal (bR _ _) _).block _ (by rw[hw1];omega)).trans (zAD _ _)
 have hqY:w0.heap[w.heap.size+1]?=some (.cells #[.string yn,.int .i64 y1,.int .i64 y2,.int .i64 y3,.slice A2 m1 a2,.slice B2 m2 b2,.slice C2 m3 c2] 52 (0,0)):=by
  rw[hw0,←hw1]
  exact zAD _ _
 have p0:=cO _ _ 0 _ _ _ hqX
 have p1:=cO _ _ 1 _ _ _ hqX
 have p2:=cO _ _ 2 _ _ _ hqX
 have p3:=cO _ _ 3 _ _ _ hqX
 have q0:=cO _ _ 0 _ _ _ hqY
 have q1:=cO _ _ 1 _ _ _ hqY
 have q2:=cO _ _ 2 _ _ _ hqY
 have q3:=cO _ _ 3 _ _ _ hqY
 clear hqX hqY hw1
 go_enter Tryz.func64,Tryz.ntmps64
 by_cases hnm:xn=yn
 ·have hb:=zAn hnm
  have He:=cH (HR2.out hnm)
  clear HR1 HR2 hnm HLe
  go_upto_region 1 with (fail)
  rw[←hw0]
  clear hw0
  go_wp2_with fail
  refine (HCm.out w0).mono ?_
  rintro e w2 ⟨rfl,hb2⟩
  have HB2:=cH (bot HB0.out hb2)
  clear hb2 HCm
  go_wp2_with fail
  go_ret
  exact ⟨zAB He.out.symm,HB2.out⟩
 ·have hb:=zAa hnm
  have He:=cH (HR1.out hnm)
  clear HR1 HR2 hnm HCm
  go_upto_region 1 with (fail)
  rw[←hw0]
  clear hw0
  go_wp2_with fail
  refine (HLe.out w0).mono ?_
  rintro e w2 ⟨rfl,hb2⟩
  have HB2:=cH (bot HB0.out hb2)
  clear hb2 HLe
  go_wp2_with fail
  go_ret
  exact ⟨zAB He.out.symm,HB2.out⟩
theorem zEt {w:World} {S:Nat→Prop} {L:List Pack} {A:Option Addr} {n c k:Nat} {x:Pack} (hl:SlV rPack w S L (.slice A n c)) (hx:L[k]?=some x) :
  ∃ b o A1 B1 C1 a1 b1 c1,A=some ⟨b,o,none⟩∧b<w.heap.size∧S b∧PackV w S x (.agg #[.string x.name,.int .i64 x.ver.major,.int .i64 x.ver.minor,.int .i64 x.ver.patch,.slice A1 x.deps.length a1,.slice B1 x.peers.length b1,.slice C1 x.opts.length c1])∧(I64 x.ver.major∧I64 x.ver.minor∧I64 x.ver.patch) ∧
    w.cell? ⟨b,o+k * 7,none⟩=some (.string x.name)∧w.cell? ⟨b,o+k * 7+1,none⟩=some (.int .i64 x.ver.major)∧w.cell? ⟨b,o+k * 7+2,none⟩=some (.int .i64 x.ver.minor)∧w.cell? ⟨b,o+k * 7+3,none⟩=some (.int .i64 x.ver.patch) ∧
    w.cell? ⟨b,o+k * 7+4,none⟩=some (.slice A1 x.deps.length a1)∧w.cell? ⟨b,o+k * 7+5,none⟩=some (.slice B1 x.peers.length b1)∧w.cell? ⟨b,o+k * 7+6,none⟩=some (.slice C1 x.opts.length c1):=by
 obtain ⟨b,o,cs,hA,hS,hb,hh,hcell⟩:=hl.elem hx
 obtain ⟨s0,s1,s2,rfl,hnm,i1,i2,i3,h1,h2,h3⟩:=hh
 obtain ⟨A1,a1,rfl,_,_⟩:=h1.val
 obtain ⟨B1,b1,rfl,_,_⟩:=h2.val
 obtain ⟨C1,c1,rfl,_,_⟩:=h3.val
 have c0:=hcell 0 _ rfl
 have d1:=hcell 1 _ rfl
 have d2:=hcell 2 _ rfl
 have d3:=hcell 3 _ rfl
 have d4:=hcell 4 _ rfl
 have d5:=hcell 5 _ rfl
 have d6:=hcell 6 _ rfl
 simp only[rPack,Nat.add_zero] at c0 d1 d2 d3 d4 d5 d6
 exact ⟨b,o,A1,B1,C1,a1,b1,c1,hA,hb,hS,⟨_,_,_,_,_,_,_,_,_,rfl,hnm,h1,h2,h3⟩,⟨i1,i2,i3⟩,c0,d1,d2,d3,d4,d5,d6⟩
theorem zKJ {L:List Pack} {s:ByteArray} {v:Ver} {k:Nat} (h:L.length≤k):getC (L.drop k) s v=none:=by rw[dN h];rfl
theorem zKV {L:List Pack} {k:Nat} {x:Pack} (hx:L[k]?=some x) (s:ByteArray) (v:Ver):getC (L.drop k) s v=if isC s v x=true then some x else getC (L.drop (k+1)) s v:=by
 obtain ⟨h,e⟩:=gS.1 hx
 rw[dC h,e]
 unfold getC
 rw[List.find?_cons]
 cases isC s v x<;>rfl
theorem zNB (s:ByteArray) (v:Ver) (x:Pack):isC s v x=(decide (x.name=s)&&(decide (x.ver.major=v.major)&&(decide (x.ver.minor=v.minor)&&decide (x.ver.patch=v.patch)))):=by unfold isC;rw[zGZ]
theorem zHQ {P:Program} {fn:Func} {R:Ending→World→Prop} {ty:TypeId} {d:TypeDesc} {p q:Tmp} {a:Act} {W:World} {g:Nat} {x0 x1 x2 x3 x4 x5 x6 bv:Value} {t:TypeId} (hf:fn.results=#[.cell p ty,.tmp q]) (hd:a.defers=[]) (h2:a.tmps.getD p undef=.pointer (some ⟨g,0,none⟩)) (h3:a.tmps.getD q undef=bv)
  (hg:W.heap[g]?=some (.cells #[x0,x1,x2,x3,x4,x5,x6] t (0,0))) (hu:P.underlying ty=some d) (hdd:(match d with|.struct _|.array _ _=>true|_=>false)=true) (hi:(P.info? ty).map (·.size)=some 7)
  (h:R (.returned (.tuple #[.agg #[x0,x1,x2,x3,x4,x5,x6],bv])) W):bodyPost P fn R Exit.ret a W:=
 bodyPost_ret (zBi hf a.tmps W g t #[x0,x1,x2,x3,x4,x5,x6] (0,0) d h2 hg hu hdd hi) hd (by rw[h3];exact h)
theorem set7Q {W:World} {b:Nat} {x0 x1 x2 x3 x4 x5 x6:Value} {t:TypeId} (h:W.heap[b]?=some (.cells #[x0,x1,x2,x3,x4,x5,x6] t (0,0))) (a0 a1 a2 a3 a4 a5 a6:Value) :
  (((((((W.setCell ⟨b,0,none⟩ a0).setCell ⟨b,1,none⟩ a1).setCell ⟨b,2,none⟩ a2).setCell ⟨b,3,none⟩ a3).setCell ⟨b,4,none⟩ a4).setCell ⟨b,5,none⟩ a5).setCell ⟨b,6,none⟩ a6).heap[b]?=some (.cells #[a0,a1,a2,a3,a4,a5,a6] t (0,0)):=by
 have h0:(W.setCell ⟨b,0,none⟩ a0).heap[b]?=some (.cells #[a0,x1,x2,x3,x4,x5,x6] t (0,0)):=set1Q h a0
 have h1:((W.setCell ⟨b,0,none⟩ a0).setCell ⟨b,1,none⟩ a1).heap[b]?=some (.cells #[a0,a1,x2,x3,x4,x5,x6] t (0,0)):=set1Q h0 a1
 have h2:(((W.setCell ⟨b,0,none⟩ a0).setCell ⟨b,1,none⟩ a1).setCell ⟨b,2,none⟩ a2).heap[b]?=some (.cells #[a0,a1,a2,x3,x4,x5,x6] t (0,0)):=set1Q h1 a2
 have h3:((((W.setCell ⟨b,0,none⟩ a0).setCell ⟨b,1,none⟩ a1).setCell ⟨b,2,none⟩ a2).setCell ⟨b,3,none⟩ a3).heap[b]?=some (.cells #[a0,a1,a2,a3,x4,x5,x6] t (0,0)):=set1Q h2 a3
 have h4:(((((W.setCell ⟨b,0,none⟩ a0).setCell ⟨b,1,none⟩ a1).setCell ⟨b,2,none⟩ a2).setCell ⟨b,3,none⟩ a3).setCell ⟨b,4,none⟩ a4).heap[b]?=some (.cells #[a0,a1,a2,a3,a4,x5,x6] t (0,0)):=set1Q h3 a4
 have h5:((((((W.setCell ⟨b,0,none⟩ a0).setCell ⟨b,1,none⟩ a1).setCell ⟨b,2,none⟩ a2).setCell ⟨b,3,none⟩ a3).setCell ⟨b,4,none⟩ a4).setCell ⟨b,5,none⟩ a5).heap[b]?=some (.cells #[a0,a1,a2,a3,a4,a5,x6] t (0,0)):=set1Q h4 a5
 have h6:(((((((W.setCell ⟨b,0,none⟩ a0).setCell ⟨b,1,none⟩ a1).setCell ⟨b,2,none⟩ a2).setCell ⟨b,3,none⟩ a3).setCell ⟨b,4,none⟩ a4).setCell ⟨b,5,none⟩ a5).setCell ⟨b,6,none⟩ a6).heap[b]?=some (.cells #[a0,a1,a2,a3,a4,a5,a6] t (0,0)):=set1Q h5 a6
 exact h6
theorem zAc {B:Nat} {w W:World} (h:Below B w W) {b:Nat} (hb:B≤b) (a0 a1 a2 a3 a4 a5 a6:Value):Below B w (((((((W.setCell ⟨b,0,none⟩ a0).setCell ⟨b,1,none⟩ a1).setCell ⟨b,2,none⟩ a2).setCell ⟨b,3,none⟩ a3).setCell ⟨b,4,none⟩ a4).setCell ⟨b,5,none⟩ a5).setCell ⟨b,6,none⟩ a6):=((((((h.setCell hb _).setCell hb _).setCell hb _).setCell hb _).setCell hb _).setCell hb _).setCell hb _
theorem row7 {W:World} {b:Nat} {x0 x1 x2 x3 x4 x5 x6:Value} {t:TypeId} (h:W.heap[b]?=some (.cells #[x0,x1,x2,x3,x4,x5,x6] t (0,0))) :
  (W.cell? ⟨b,0,none⟩=some x0∧W.cell? ⟨b,1,none⟩=some x1∧W.cell? ⟨b,2,none⟩=some x2∧W.cell? ⟨b,3,none⟩=some x3∧W.cell? ⟨b,4,none⟩=some x4∧W.cell? ⟨b,5,none⟩=some x5∧W.cell? ⟨b,6,none⟩=some x6) ∧
  (W.frozen? ⟨b,0,none⟩=false∧W.frozen? ⟨b,1,none⟩=false∧W.frozen? ⟨b,2,none⟩=false∧W.frozen? ⟨b,3,none⟩=false∧W.frozen? ⟨b,4,none⟩=false∧W.frozen? ⟨b,5,none⟩=false∧W.frozen? ⟨b,6,none⟩=false):=by
 refine ⟨⟨cO _ _ 0 _ _ _ h,cO _ _ 1 _ _ _ h,cO _ _ 2 _ _ _ h,cO _ _ 3 _ _ _ h,cO _ _ 4 _ _ _ h,cO _ _ 5 _ _ _ h,cO _ _ 6 _ _ _ h⟩,?_,?_,?_,?_,?_,?_,?_⟩<;>simp[World.frozen?,h]
theorem zJd (w:World) (S:Nat→Prop):PackV w S zAC (.agg #[.string ⟨#[]⟩,.int .i64 0,.int .i64 0,.int .i64 0,.slice none 0 0,.slice none 0 0,.slice none 0 0]):=⟨none,0,0,none,0,0,none,0,0,rfl,by decide,SlV.nil_ _ _ _,SlV.nil_ _ _ _,SlV.nil_ _ _ _⟩
theorem zEf (cB:Nat) (A:Option Addr) (n c:Nat) (L:List Pack) (s:ByteArray) (v:Ver) (w:World) (S:Nat→Prop) (hc:w.cell? ⟨cB,0,none⟩=some (.slice A n c)) (hl:SlV rPack w S L (.slice A n c)) :
  Calls Tryz.prog 35 #[.pointer (some ⟨cB,0,none⟩),.string s,.agg #[.int .i64 v.major,.int .i64 v.minor,.int .i64 v.patch]] w fun e w'=>∃ u,e=.returned (.tuple #[u,.bool (getC L s v).isSome])∧PackV w' S ((getC L s v).getD zAC) u∧Below w.heap.size w w':=by
 have hn:=hl.n_eq
 have hcap:=hl.cap_le
 unfold maxLen at hcap
 have hcB:cB<w.heap.size:=zAU hc
 have HL:=cH hl
 have Hz0:Hid (L.length=n):=hn.symm
 have HR:Hid (getC L s v=getC (L.drop 0) s v):=rfl
 have hnz:n≤9223372036854775807:=by omega
 obtain ⟨R,hR⟩:∃ R,R=getC L s v:=⟨_,rfl⟩
 rw[←hR] at HR ⊢
 have HStep:Hid (∀ (k:Nat) (x:Pack),L[k]?=some x→getC (L.drop k) s v=if (decide (x.name=s)&&(decide (x.ver.major=v.major)&&(decide (x.ver.minor=v.minor)&&decide (x.ver.patch=v.patch))))=true then some x else getC (L.drop (k+1)) s v):=fun k x hx=>by rw[zKV hx,zNB]
 have HEnd:Hid (∀ k,n≤k→getC (L.drop k) s v=none):=fun k hk=>zKJ (by rw[←hn];exact hk)
 obtain ⟨v1,v2,v3⟩:=v
 simp only at HStep ⊢
 clear hl hn hR hcap
 obtain ⟨w0,hw0⟩:∃ w0,w0=(w.alloc (.cells #[.int .i64 v1,.int .i64 v2,.int .i64 v3] 50)).alloc (.cells #[.string ⟨#[]⟩,.int .i64 0,.int .i64 0,.int .i64 0,.slice none 0 0,.slice none 0 0,.slice none 0 0] 52):=⟨_,rfl⟩
 have hw1:(w.alloc (.cells #[.int .i64 v1,.int .i64 v2,.int .i64 v3] 50)).heap.size=w.heap.size+1:=by simp
 have HB0:Hid (Below w.heap.size w w0):=by unfold Hid;rw[hw0];exact bal (bal (bR _ _) _) _
 have hqX:w0.heap[w.heap.size]?=some (.cells #[.int .i64 v1,.int .i64 v2,.int .i64 v3] 50 (0,0)):=by
  rw[hw0]
  exact ((bal (bR _ _) _).block _ (by rw[hw1];omega)).trans (zAD _ _)
 have hqY:w0.heap[w.heap.size+1]?=some (.cells #[.string ⟨#[]⟩,.int .i64 0,.int .i64 0,.int .i64 0,.slice none 0 0,.slice none 0 0,.slice none 0 0] 52 (0,0)):=by
  rw[hw0,←hw1]
  exact zAD _ _
 obtain ⟨VB,hVB⟩:∃ k,k=w.heap.size:=⟨_,rfl⟩
 obtain ⟨PB,hPB⟩:∃ k,k=w.heap.size+1:=⟨_,rfl⟩
 rw[←hVB] at hqX
 rw[←hPB] at hqY
 have Hg:Hid (w.heap.size≤PB):=by unfold Hid;omega
 have HV:Hid (∀ W,Below w0.heap.size w0 W→W.cell? ⟨VB,0,none⟩=some (.int .i64 v1)∧W.cell? ⟨VB,1,none⟩=some (.int .i64 v2)∧W.cell? ⟨VB,2,none⟩=some (.int .i64 v3)):=fun W hW=>by
  have h:=(hW.block _ (aS.1 hqX).1).trans hqX
  exact ⟨cO _ _ 0 _ _ _ h,cO _ _ 1 _ _ _ h,cO _ _ 2 _ _ _ h⟩
 have HP:Hid (∀ W,Below w0.heap.size w0 W→W.heap[PB]?=some (.cells #[.string ⟨#[]⟩,.int .i64 0,.int .i64 0,.int .i64 0,.slice none 0 0,.slice none 0 0,.slice none 0 0] 52 (0,0))):=fun W hW=>(hW.block _ (aS.1 hqY).1).trans hqY
 have HC:Hid (∀ W,Below w.heap.size w W→W.cell? ⟨cB,0,none⟩=some (.slice A n c)):=fun W hW=>zAA hW hc hcB
 clear hqX hqY hw1 hc
 go_enter Tryz.func35,Tryz.ntmps35
 go_wp2_with fail
 rw[←hw0,←hPB,←hVB]
 clear hw0 hPB hVB
 go_loopw [8] (fun t wr=>∃ k:Nat,k≤n∧t=.int .i64 k∧Hid (R=getC (L.drop k) s ⟨v1,v2,v3⟩)∧Hid (Below w0.heap.size w0 wr)) (fun t _=>n - (intOf t).toNat)
 case atStart=>exact ⟨0,nZ _,rfl,HR,bR _ _⟩
 case round=>
  clear HR
  obtain ⟨k,hk,rfl,heq,hB⟩:=hrel
  have hk0:(0:Int)≤(k:Int):=by omega
  have HBw:=cH (bot HB0.out hB.out)
  have z0:=HC.out wr HBw.out
  by_cases hlt:k<n
  case neg=>
   have He:Hid (R=none):=by unfold Hid;rw[heq.out,HEnd.out k (by omega)]
   have hI:¬(k:Int)<(n:Int):=by omega
   have hrow:=HP.out wr hB.out
   obtain ⟨⟨d0,d1,d2,d3,d4,d5,d6⟩,e0,e1,e2,e3,e4,e5,e6⟩:=row7 hrow
   have Hrow:=cH hrow
   clear heq hrow
   go_wp2_with fail
   refine zHQ rfl rfl rfl rfl (set7Q Hrow.out _ _ _ _ _ _ _) Tryz.underlying52 rfl (by kernel_rfl) ⟨.agg #[.string ⟨#[]⟩,.int .i64 0,.int .i64 0,.int .i64 0,.slice none 0 0,.slice none 0 0,.slice none 0 0],?_,?_,zAc HBw.out Hg.out _ _ _ _ _ _ _⟩
   ·rw[He.out];rfl
   ·rw[He.out];exact zJd _ _
  have hkI:(k:Int)<(n:Int):=by omega
  obtain ⟨x,hx⟩:∃ x,L[k]?=some x:=⟨_,gE (by have:=Hz0.out;omega)⟩
  obtain ⟨b,o,A1,B1,C1,a1,b1,c1,hA,hb,_,hpv,_,n0,n1,n2,n3,n4,n5,n6⟩:=zEt HL.out hx
  have Hpv:=cH hpv
  have Hrest:Hid (∀ W,Below w.heap.size w W→W.cell? ⟨b,o+k * 7,none⟩=some (.string x.name)∧W.cell? ⟨b,o+k * 7+1,none⟩=some (.int .i64 x.ver.major)∧W.cell? ⟨b,o+k * 7+2,none⟩=some (.int .i64 x.ver.minor)∧W.cell? ⟨b,o+k * 7+3,none⟩=some (.int .i64 x.ver.patch)∧W.cell? ⟨b,o+k * 7+4,none⟩=some (.slice A1 x.deps.length a1)∧W.cell? ⟨b,o+k * 7+5,none⟩=some (.slice B1 x.peers.length b1)∧W.cell? ⟨b,o+k * 7+6,none⟩=some (.slice C1 x.opts.length c1)):=fun W hW=>⟨zAA hW n0 hb,zAA hW n1 hb,zAA hW n2 hb,zAA hW n3 hb,zAA hW n4 hb,zAA hW n5 hb,zAA hW n6 hb⟩
  have n0:=zAA HBw.out n0 hb
  have n1:=zAA HBw.out n1 hb
  have n2:=zAA HBw.out n2 hb
  have n3:=zAA HBw.out n3 hb
  have Hstep:=cH (heq.out.trans (HStep.out k x hx))
  obtain ⟨d0,d1,d2⟩:=HV.out wr hB.out
  have Hx:=cH hx
  clear hpv n4 n5 n6 heq hx
  subst hA
  obtain ⟨xn,⟨x1,x2,x3⟩,xd,xp,xo⟩:=x
  simp only at n0 n1 n2 n3 Hstep Hrest Hpv
  generalize xd.length=l1 at *
  generalize xp.length=l2 at *
  generalize xo.length=l3 at *
  by_cases hnm:xn=s
  rotate_left
  focus
   have hb0:=zAa hnm
   have He:Hid (R=getC (L.drop (k+1)) s ⟨v1,v2,v3⟩):=by unfold Hid;rw[Hstep.out,if_neg (by simp[hnm])]
   clear Hstep Hrest Hpv
   go_upto_region 4 with (fail)
   have r_z0:=cR z0
   have r_n0:=cR n0
   have r_n1:=cR n1
   have r_n2:=cR n2
   have r_n3:=cR n3
   have r_d0:=cR d0
   have r_d1:=cR d1
   have r_d2:=cR d2
   go_wp2_with fail
   refine wQ ?_
   repeat (go_big_quiet_step (first|fail))
   refine wpQuiet_nil fun w4 B4=>?_
   have HB4:=cH (bot hB.out B4)
   clear B4
   go_wp2_with fail
   go_roundw
   case rel=>exact ⟨k+1,by omega,by go_num,He,HB4⟩
   case measure=>simp[intOf];omega
  have hb0:=zAn hnm
  by_cases e1:x1=v1
  rotate_left
  focus
   have hb1:(x1==v1)=false:=beq_eq_false_iff_ne.2 e1
   have He:Hid (R=getC (L.drop (k+1)) s ⟨v1,v2,v3⟩):=by unfold Hid;rw[Hstep.out,if_neg (by simp[e1])]
   clear Hstep Hrest Hpv
   go_upto_region 4 with (fail)
   have r_z0:=cR z0
   have r_n0:=cR n0
   have r_n1:=cR n1
   have r_n2:=cR n2
   have r_n3:=cR n3
   have r_d0:=cR d0
   have r_d1:=cR d1
   have r_d2:=cR d2
   go_wp2_with fail
   refine wQ ?_
   repeat (go_big_quiet_step (first|fail))
   refine wpQuiet_nil fun w4 B4=>?_
   have HB4:=cH (bot hB.out B4)
   clear B4
   go_wp2_with fail
   go_roundw
   case rel=>exact ⟨k+1,by omega,by go_num,He,HB4⟩
   case measure=>simp[intOf];omega
  have hb1:(x1==v1)=true:=by simp[e1]
  by_cases e2:x2=v2
  rotate_left
  focus
   have hb2:(x2==v2)=false:=beq_eq_false_iff_ne.2 e2
   have He:Hid (R=getC (L.drop (k+1)) s ⟨v1,v2,v3⟩):=by unfold Hid;rw[Hstep.out,if_neg (by simp[e2])]
   clear Hstep Hrest Hpv
   go_upto_region 4 with (fail)
   have r_z0:=cR z0
   have r_n0:=cR n0
   have r_n1:=cR n1
   have r_n2:=cR n2
   have r_n3:=cR n3
   have r_d0:=cR d0
   have r_d1:=cR d1
   have r_d2:=cR d2
   go_wp2_with fail
   refine wQ ?_
   repeat (go_big_quiet_step (first|fail))
   refine wpQuiet_nil fun w4 B4=>?_
   have HB4:=cH (bot hB.out B4)
   clear B4
   go_wp2_with fail
   go_roundw
   case rel=>exact ⟨k+1,by omega,by go_num,He,HB4⟩
   case measure=>simp[intOf];omega
  have hb2:(x2==v2)=true:=by simp[e2]
  by_cases e3:x3=v3
  rotate_left
  focus
   have hb3:(x3==v3)=false:=beq_eq_false_iff_ne.2 e3
   have He:Hid (R=getC (L.drop (k+1)) s ⟨v1,v2,v3⟩):=by unfold Hid;rw[Hstep.out,if_neg (by simp[e3])]
   clear Hstep Hrest Hpv
   go_upto_region 4 with (fail)
   have r_z0:=cR z0
   have r_n0:=cR n0
   have r_n1:=cR n1
   have r_n2:=cR n2
   have r_n3:=cR n3
   have r_d0:=cR d0
   have r_d1:=cR d1
   have r_d2:=cR d2
   go_wp2_with fail
   refine wQ ?_
   repeat (go_big_quiet_step (first|fail))
   refine wpQuiet_nil fun w4 B4=>?_
   have HB4:=cH (bot hB.out B4)
   clear B4
   go_wp2_with fail
   go_roundw
   case rel=>exact ⟨k+1,by omega,by go_num,He,HB4⟩
   case measure=>simp[intOf];omega
  have hb3:(x3==v3)=true:=by simp[e3]
  have He:Hid (R=some ⟨xn,⟨x1,x2,x3⟩,xd,xp,xo⟩):=by unfold Hid;rw[Hstep.out,if_pos (by simp[hnm,e1,e2,e3])]
  clear Hstep hnm e1 e2 e3
  go_upto_region 4 with (fail)
  have r_z0:=cR z0
  have r_n0:=cR n0
  have r_n1:=cR n1
  have r_n2:=cR n2
  have r_n3:=cR n3
  have r_d0:=cR d0
  have r_d1:=cR d1
  have r_d2:=cR d2
  go_wp2_with fail
  refine wQ ?_
  repeat (go_big_quiet_step (first|fail))
  refine wpQuiet_nil fun w4 B4=>?_
  have HB4:=cH (bot hB.out B4)
  have HBw4:=cH (bot HBw.out B4)
  clear B4 r_z0 r_n0 r_n1 r_n2 r_n3 r_d0 r_d1 r_d2 z0 n0 n1 n2 n3 d0 d1 d2
  obtain ⟨n0,n1,n2,n3,n4,n5,n6⟩:=Hrest.out w4 HBw4.out
  have z0:=HC.out w4 HBw4.out
  have hrow:=HP.out w4 HB4.out
  obtain ⟨⟨d0,d1,d2,d3,d4,d5,d6⟩,e0,e1,e2,e3,e4,e5,e6⟩:=row7 hrow
  have Hrow:=cH hrow
  clear hrow Hrest
  go_wp2_with fail
  refine zHQ rfl rfl rfl rfl (set7Q Hrow.out _ _ _ _ _ _ _) Tryz.underlying52 rfl (by kernel_rfl) ⟨.agg #[.string xn,.int .i64 x1,.int .i64 x2,.int .i64 x3,.slice A1 l1 a1,.slice B1 l2 b1,.slice C1 l3 c1],?_,?_,zAc HBw4.out Hg.out _ _ _ _ _ _ _⟩
  ·rw[He.out];rfl
  ·rw[He.out];exact Hpv.out.keep (zAc HBw4.out Hg.out _ _ _ _ _ _ _)
end Go.Proofs.YtminjjdnmpaaoaaGreatDoor
namespace Go.Proofs.YtminjjdnmpaaoaaGreatDoor
abbrev Rk:=Int×Int
def Has (l:List Rk) (n:Int):Prop:=∃ x∈l,x.1≤n∧n≤x.2
theorem zKu (n:Int):¬Has [] n:=fun ⟨x,h,_⟩=>by simp at h
theorem zMS {x:Rk} {l:List Rk} {n:Int}:Has (x::l) n↔(x.1≤n∧n≤x.2)∨Has l n:=by
 unfold Has
 constructor
 ·rintro ⟨y,hy,h⟩
  rcases List.mem_cons.1 hy with rfl|hy
  ·exact .inl h
  ·exact .inr ⟨y,hy,h⟩
 ·rintro (h|⟨y,hy,h⟩)
  ·exact ⟨x,by simp,h⟩
  ·exact ⟨y,by simp[hy],h⟩
theorem zJx {l m:List Rk} {n:Int}:Has (l++m) n↔Has l n∨Has m n:=by
 unfold Has
 constructor
 ·rintro ⟨y,hy,h⟩
  rcases List.mem_append.1 hy with hy|hy
  ·exact .inl ⟨y,hy,h⟩
  ·exact .inr ⟨y,hy,h⟩
 ·rintro (⟨y,hy,h⟩|⟨y,hy,h⟩)
  ·exact ⟨y,by simp[hy],h⟩
  ·exact ⟨y,by simp[hy],h⟩
theorem zM9 {x:Rk} {n:Int}:Has [x] n↔x.1≤n∧n≤x.2:=by rw[zMS];simp[zKu]
def lastR:Int:=999999999
def zK5 (q:Int→Bool):List Int→Prop
 | []=>False
 | [m]=>m=lastR+1
 | m::m'::L=>m<m'∧(∀ n,m≤n→n<m'→q n=q m)∧zK5 q (m'::L)
theorem zK5.le {q:Int→Bool}:∀ {L:List Int} {m:Int},zK5 q (m::L)→m≤lastR+1:=by
 intro L
 induction L with
 | nil=>intro m h;have:m=lastR+1:=h;omega
 | cons m' L ih=>intro m h;have:=ih h.2.2;have:=h.1;omega
open Classical in
noncomputable def hasB (l:List Rk) (n:Int):Bool:=decide (Has l n)
open Classical in
theorem zMX {l:List Rk} {n:Int} (h:Has l n):hasB l n=true:=by unfold hasB;exact decide_eq_true h
open Classical in
theorem zNI {l:List Rk} {n:Int} (h:¬Has l n):hasB l n=false:=by unfold hasB;exact decide_eq_false h
end Go.Proofs.YtminjjdnmpaaoaaGreatDoor
namespace Go.Proofs.YtminjjdnmpaaoaaGreatDoor
open Go.Rows Go.RowKit Go.Shelf Go.Sort
def Small (l:List Rk):Prop:=∀ x∈l,x.1.natAbs≤4000000000∧x.2.natAbs≤4000000000
theorem Small.i64 {l:List Rk} (h:Small l) {x:Rk} (hx:x∈l):I64 x.1∧I64 x.2:=by have:=h x hx;unfold I64;omega
def rks (l:List Spn):List Rk:=l.map fun s=>(s.lo.rank,s.hi.rank)
theorem zHV (l:List Spn):(rks l).length=l.length:=List.length_map _
theorem zNL {l:List Spn} {k:Nat} (h:k<l.length):(rks l)[k]'(by rw[zHV];exact h)=(l[k].lo.rank,l[k].hi.rank):=by unfold rks;rw[List.getElem_map]
theorem zMB {l:List Rk} {k:Nat} (h:k<l.length) {n:Int}:Has (l.take (k+1)) n↔Has (l.take k) n∨(l[k].1≤n∧n≤l[k].2):=by
 rw[List.take_succ_eq_append_getElem h,zJx,zM9]
theorem zM2 (A:Option Addr) (n c:Nat) (l:List Spn) (N:Int) (w:World) (S:Nat→Prop) (hl:SlV rSpn w S l (.slice A n c)) :
  Calls Tryz.prog 165 #[.slice A n c,.int .i64 N] w fun e w'=>e=.returned (.bool (hasB (rks l) N))∧Below w.heap.size w w':=by
 have hnx:=hl.n_eq
 have hcx:=hl.cap_le
 unfold maxLen at hcx
 have hn63:n≤9223372036854775807:=by omega
 have HX:=cH (hl.more (S':=fun b=>b<w.heap.size) fun b _ hlt=>hlt)
 have Hnx:=cH hnx;clear hnx
 clear hl hcx
 go_enter Tryz.func165,Tryz.ntmps165
 go_wp2_with fail
 go_loopw [5] (fun i wr=>∃ (k:Nat),k≤n∧i=.int .i64 k∧Hid (¬Has ((rks l).take k) N)∧Below w.heap.size w wr) (fun i _=>n - (intOf i).toNat)
 case atStart=>exact ⟨0,nZ _,rfl,by unfold Hid;exact zKu N,bR _ _⟩
 case round=>
  obtain ⟨k,hk,rfl,Hno,hbel⟩:=hrel
  by_cases hlt:k<n
  case neg=>
   have hlt':¬(k:Int)<(n:Int):=by omega
   have hB:Hid (hasB (rks l) N=false):=by
    have:=Hno.out
    rw[List.take_of_length_le (by rw[zHV];have:=Hnx.out;omega)] at this
    exact zNI this
   go_wp2_with fail
   go_ret
   exact ⟨by rw[hB.out];rfl,hbel⟩
  have hkx:k<l.length:=by have:=Hnx.out;omega
  have hkI:(k:Int)<(n:Int):=by omega
  have hk0:(0:Int)≤(k:Int):=by omega
  obtain ⟨b,o,cs,rfl,hSb,_,⟨rfl,_,_,_,_,_,_⟩,hcell⟩:=HX.out.elem (gE hkx)
  have k0:=hcell 0 _ rfl
  have k1:=hcell 1 _ rfl
  have k2:=hcell 2 _ rfl
  have k3:=hcell 3 _ rfl
  have k4:=hcell 4 _ rfl
  have k5:=hcell 5 _ rfl
  simp only[rSpn,Nat.add_zero,Nat.mul_one] at k0 k1 k2 k3 k4 k5
  have Hst:=cH (zMB (l:=rks l) (n:=N) (by rw[zHV];exact hkx))
  rw[zNL hkx] at Hst
  have c0:=zAA hbel k0 hSb
  have c1:=zAA hbel k1 hSb
  have c2:=zAA hbel k2 hSb
  have HK3:=cH k3
  have HK4:=cH k4
  have HK5:=cH k5
  clear k0 k1 k2 k3 k4 k5 hcell
  have HhB:Hid (Has ((rks l).take (k+1)) N→hasB (rks l) N=true):=fun h=>zMX (by
   obtain ⟨x,hx,h⟩:=h
   exact ⟨x,List.mem_of_mem_take hx,h⟩)
  generalize l[k]=s at *
  obtain ⟨⟨x1,x2,x3⟩,⟨x4,x5,x6⟩⟩:=s
  simp only[Ver.rank] at c0 c1 c2 HK3 HK4 HK5 Hst
  have H1:=cH (fun W=>zA9 x1 x2 x3 W)
  have H2:=cH (fun W=>zA9 x4 x5 x6 W)
  generalize rankR x1 x2 x3=r1 at *
  generalize rankR x4 x5 x6=r2 at *
  go_wp2_with fail
  refine (H1.out _).mono ?_
  rintro e w1 ⟨rfl,hb1⟩
  have HB1:=cH (bot hbel hb1)
  clear hb1 c0 c1 c2 H1
  by_cases h1:r1≤N
  case neg=>
   have Hno2:Hid (¬Has ((rks l).take (k+1)) N):=fun h=>by
    rcases Hst.out.1 h with h|h
    ·exact Hno.out h
    ·exact h1 h.1
   go_wp2_with fail
   go_roundw
   case rel=>exact ⟨k+1,by omega,by go_num,Hno2,HB1.out⟩
   case measure=>simp[intOf];omega
  have c3:=zAA HB1.out HK3.out hSb
  have c4:=zAA HB1.out HK4.out hSb
  have c5:=zAA HB1.out HK5.out hSb
  go_wp2_with fail
  refine (H2.out _).mono ?_
  rintro e w2 ⟨rfl,hb2⟩
  have HB2:=cH (bot HB1.out hb2)
  clear hb2 c3 c4 c5 H2
  by_cases h2:N≤r2
  ·have Hyes:Hid (hasB (rks l) N=true):=HhB.out (Hst.out.2 (.inr ⟨h1,h2⟩))
   go_wp2_with fail
   go_ret
   exact ⟨by rw[Hyes.out];rfl,HB2.out⟩
  ·have Hno2:Hid (¬Has ((rks l).take (k+1)) N):=fun h=>by
    rcases Hst.out.1 h with h|h
    ·exact Hno.out h
    ·exact h2 h.2
   go_wp2_with fail
   go_roundw
   case rel=>exact ⟨k+1,by omega,by go_num,Hno2,HB2.out⟩
   case measure=>simp[intOf];omega
