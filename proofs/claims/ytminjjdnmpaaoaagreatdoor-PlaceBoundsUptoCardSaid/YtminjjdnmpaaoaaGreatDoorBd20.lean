/- The document's catalog: what stands ahead, a package of a name and a version: walked. -/
import Derived.Test.YtminjjdnmpaaoaaGreatDoorBd19
import Derived.Test.YtminjjdnmpaaoaaGreatDoorBd08
import Derived.Test.YtminjjdnmpaaoaaGreatDoorBd18
import Derived.Lib.Split
import Derived.Lib.SplitLaws
import Derived.Lib.PathFns
import Derived.Lib.IndexMore
import Derived.Lib.UnsafeStr
import Derived.Lib.AtoiAllCases
import Derived.RangeFuncNested
import Derived.RangeFuncBound
import Derived.RangeFuncCalls
import Derived.RangeFuncLeaves
import Derived.OwnWalkIn
import Derived.Shelf.Abstract
import Derived.Shelf.RegionOpen
import Derived.TacticsInMore
import Derived.LoopNIn
import Derived.LoopIn
import Derived.Deep.CutRange
import Derived.Deep.RegionLaw
import Derived.WalkKit
import Derived.WalkSpells
import Derived.IntWalk
import Derived.Lib.Hide
import Derived.ScopeJumps
import Derived.WalkMore
import Derived.Test.YtminjjdnmpaaoaaGreatDoorAl
set_option linter.all false
set_option maxHeartbeats 4000000
set_option maxRecDepth 100000
namespace Go.Proofs.YtminjjdnmpaaoaaGreatDoor
open Go.Rows Go.RowKit Go.Shelf Go.Sort
theorem zFT (x1 x2 x3 y1 y2 y3:Int) (w:World) :
  Calls Tryz.prog 109 #[.agg #[.int .i64 x1,.int .i64 x2,.int .i64 x3],.agg #[.int .i64 y1,.int .i64 y2,.int .i64 y3]] w fun e w'=>e=.returned (.int .i64 (cmp3T x1 x2 x3 y1 y2 y3))∧Below w.heap.size w w':=by
 obtain ⟨R,hR⟩:∃ R,R=cmp3T x1 x2 x3 y1 y2 y3:=⟨_,rfl⟩
 rw[←hR]
 have F1:Hid (x1<y1→R=-1):=fun h=>by rw[hR];unfold cmp3T;rw[if_pos h]
 have F2:Hid (¬x1<y1→y1<x1→R=1):=fun h0 h=>by rw[hR];unfold cmp3T;rw[if_neg h0,if_pos h]
 have F3:Hid (x1=y1→x2<y2→R=-1):=fun h0 h=>by rw[hR];unfold cmp3T;rw[if_neg (by omega),if_neg (by omega),if_pos h]
 have F4:Hid (x1=y1→¬x2<y2→y2<x2→R=1):=fun h0 h1 h=>by rw[hR];unfold cmp3T;rw[if_neg (by omega),if_neg (by omega),if_neg h1,if_pos h]
 have F5:Hid (x1=y1→x2=y2→x3<y3→R=-1):=fun h0 h1 h=>by rw[hR];unfold cmp3T;rw[if_neg (by omega),if_neg (by omega),if_neg (by omega),if_neg (by omega),if_pos h]
 have F6:Hid (x1=y1→x2=y2→¬x3<y3→y3<x3→R=1):=fun h0 h1 h2 h=>by rw[hR];unfold cmp3T;rw[if_neg (by omega),if_neg (by omega),if_neg (by omega),if_neg (by omega),if_neg h2,if_pos h]
 have F7:Hid (x1=y1→x2=y2→x3=y3→R=0):=fun h0 h1 h2=>by rw[hR];unfold cmp3T;rw[if_neg (by omega),if_neg (by omega),if_neg (by omega),if_neg (by omega),if_neg (by omega),if_neg (by omega)]
 clear hR
 go_enter Tryz.func109,Tryz.ntmps109
 go_wp2_with fail
 obtain ⟨w1,hw1⟩:∃ w1,w1=(((w.alloc (.cells #[.int .i64 x1,.int .i64 x2,.int .i64 x3] 50)).alloc (.cells #[.int .i64 y1,.int .i64 y2,.int .i64 y3] 50)).alloc (.cells #[.int .i64 x1,.int .i64 x2,.int .i64 x3] 3)).alloc (.cells #[.int .i64 y1,.int .i64 y2,.int .i64 y3] 3):=⟨_,rfl⟩
 have HB1:Hid (Below w.heap.size w w1):=by unfold Hid;rw[hw1];exact bal (bal (bal (bal (bR _ _) _) _) _) _
 have hx:w1.heap[w.heap.size+2]?=some (.cells #[.int .i64 x1,.int .i64 x2,.int .i64 x3] 3 (0,0)):=by
  rw[hw1]
  have:=heap_alloc_new ((w.alloc (.cells #[.int .i64 x1,.int .i64 x2,.int .i64 x3] 50)).alloc (.cells #[.int .i64 y1,.int .i64 y2,.int .i64 y3] 50)) (.cells #[.int .i64 x1,.int .i64 x2,.int .i64 x3] 3)
  simp only[World.size_alloc] at this
  rw[Below.heap_alloc _ _ _ (by simp)]
  exact this
 have hy:w1.heap[w.heap.size+2+1]?=some (.cells #[.int .i64 y1,.int .i64 y2,.int .i64 y3] 3 (0,0)):=by
  rw[hw1]
  have:=heap_alloc_new (((w.alloc (.cells #[.int .i64 x1,.int .i64 x2,.int .i64 x3] 50)).alloc (.cells #[.int .i64 y1,.int .i64 y2,.int .i64 y3] 50)).alloc (.cells #[.int .i64 x1,.int .i64 x2,.int .i64 x3] 3)) (.cells #[.int .i64 y1,.int .i64 y2,.int .i64 y3] 3)
  simp only[World.size_alloc] at this
  exact this
 rw[←hw1]
 clear hw1
 have HX:=cH hx
 have HY:=cH hy
 obtain ⟨bx,hbx⟩:∃ bx,bx=w.heap.size+2:=⟨_,rfl⟩
 rw[←hbx] at HX HY
 rw[←hbx]
 obtain ⟨yb,hby⟩:∃ yb,yb=bx+1:=⟨_,rfl⟩
 rw[←hby] at HY
 rw[←hby]
 clear hbx hby hx hy
 go_loopw [7] (fun i wr=>∃ k:Nat,k≤3∧i=.int .i64 k∧Hid ((1≤k→x1=y1)∧(2≤k→x2=y2)∧(3≤k→x3=y3))∧Hid (Below w1.heap.size w1 wr)) (fun i _=>3 - (intOf i).toNat)
 case atStart=>exact ⟨0,nZ _,rfl,⟨fun h=>absurd h (by decide),fun h=>absurd h (by decide),fun h=>absurd h (by decide)⟩,bR _ _⟩
 case round=>
  obtain ⟨k,hk,rfl,Hq,HB⟩:=hrel
  have HBw:=cH (bot HB1.out HB.out)
  obtain ⟨⟨c0,c1,c2⟩,_⟩:=row3P ((HB.out.block _ (aS.1 HX.out).1).trans HX.out)
  obtain ⟨⟨d0,d1,d2⟩,_⟩:=row3P ((HB.out.block _ (aS.1 HY.out).1).trans HY.out)
  have hkk:k=0∨k=1∨k=2∨k=3:=by omega
  rcases hkk with rfl|rfl|rfl|rfl
  ·by_cases hl:x1<y1
   ·have He:Hid (R=-1):=F1.out hl
    clear F1 F2 F3 F4 F5 F6 F7 Hq
    have r_c0:=cR c0
    have r_d0:=cR d0
    go_wp2_with fail
    refine wQ ?_
    repeat (go_big_quiet_step (first|fail))
    refine wpQuiet_nil fun w3 B3=>?_
    go_wp2_with fail
    go_ret
    exact ⟨by rw[He.out];rfl,bot HBw.out B3⟩
   ·by_cases hg:y1<x1
    ·have He:Hid (R=1):=F2.out (by omega) hg
     clear F1 F2 F3 F4 F5 F6 F7 Hq
     have r_c0:=cR c0
     have r_d0:=cR d0
     go_wp2_with fail
     refine wQ ?_
     repeat (go_big_quiet_step (first|fail))
     refine wpQuiet_nil fun w3 B3=>?_
     have c0':=zAA B3 c0 (zAc c0)
     have d0':=zAA B3 d0 (zAc d0)
     have r_c0':=cR c0'
     have r_d0':=cR d0'
     go_wp2_with fail
     refine wQ ?_
     repeat (go_big_quiet_step (first|fail))
     refine wpQuiet_nil fun w4 B4=>?_
     go_wp2_with fail
     go_ret
     exact ⟨by rw[He.out];rfl,bot HBw.out (bot B3 B4)⟩
    ·have hee:x1=y1:=by omega
     have Hq2:Hid ((1≤1→x1=y1)∧(2≤1→x2=y2)∧(3≤1→x3=y3)):=⟨fun _=>hee,fun h=>absurd h (by decide),fun h=>absurd h (by decide)⟩
     clear Hq hee
     have r_c0:=cR c0
     have r_d0:=cR d0
     go_wp2_with fail
     refine wQ ?_
     repeat (go_big_quiet_step (first|fail))
     refine wpQuiet_nil fun w3 B3=>?_
     have c0':=zAA B3 c0 (zAc c0)
     have d0':=zAA B3 d0 (zAc d0)
     have r_c0':=cR c0'
     have r_d0':=cR d0'
     go_wp2_with fail
     refine wQ ?_
     repeat (go_big_quiet_step (first|fail))
     refine wpQuiet_nil fun w4 B4=>?_
     have HB4:=cH (bot HB.out (bot B3 B4))
     go_wp2_with fail
     go_roundw
     case rel=>exact ⟨1,by decide,rfl,Hq2,HB4⟩
     case measure=>simp[intOf]
  ·by_cases hl:x2<y2
   ·have He:Hid (R=-1):=F3.out (Hq.out.1 (by decide)) hl
    clear F1 F2 F3 F4 F5 F6 F7 Hq
    have r_c1:=cR c1
    have r_d1:=cR d1
    go_wp2_with fail
    refine wQ ?_
    repeat (go_big_quiet_step (first|fail))
    refine wpQuiet_nil fun w3 B3=>?_
    go_wp2_with fail
    go_ret
    exact ⟨by rw[He.out];rfl,bot HBw.out B3⟩
   ·by_cases hg:y2<x2
    ·have He:Hid (R=1):=F4.out (Hq.out.1 (by decide)) (by omega) hg
     clear F1 F2 F3 F4 F5 F6 F7 Hq
     have r_c1:=cR c1
     have r_d1:=cR d1
     go_wp2_with fail
     refine wQ ?_
     repeat (go_big_quiet_step (first|fail))
     refine wpQuiet_nil fun w3 B3=>?_
     have c1':=zAA B3 c1 (zAc c1)
     have d1':=zAA B3 d1 (zAc d1)
     have r_c1':=cR c1'
     have r_d1':=cR d1'
     go_wp2_with fail
     refine wQ ?_
     repeat (go_big_quiet_step (first|fail))
     refine wpQuiet_nil fun w4 B4=>?_
     go_wp2_with fail
     go_ret
     exact ⟨by rw[He.out];rfl,bot HBw.out (bot B3 B4)⟩
    ·have hee:x2=y2:=by omega
     have Hq2:Hid ((1≤2→x1=y1)∧(2≤2→x2=y2)∧(3≤2→x3=y3)):=⟨fun _=>Hq.out.1 (by decide),fun _=>hee,fun h=>absurd h (by decide)⟩
     clear Hq hee
     have r_c1:=cR c1
     have r_d1:=cR d1
     go_wp2_with fail
     refine wQ ?_
     repeat (go_big_quiet_step (first|fail))
     refine wpQuiet_nil fun w3 B3=>?_
     have c1':=zAA B3 c1 (zAc c1)
     have d1':=zAA B3 d1 (zAc d1)
     have r_c1':=cR c1'
     have r_d1':=cR d1'
     go_wp2_with fail
     refine wQ ?_
     repeat (go_big_quiet_step (first|fail))
     refine wpQuiet_nil fun w4 B4=>?_
     have HB4:=cH (bot HB.out (bot B3 B4))
     go_wp2_with fail
     go_roundw
     case rel=>exact ⟨2,by decide,rfl,Hq2,HB4⟩
     case measure=>simp[intOf]
  ·by_cases hl:x3<y3
   ·have He:Hid (R=-1):=F5.out (Hq.out.1 (by decide)) (Hq.out.2.1 (by decide)) hl
    clear F1 F2 F3 F4 F5 F6 F7 Hq
    have r_c2:=cR c2
    have r_d2:=cR d2
    go_wp2_with fail
    refine wQ ?_
    repeat (go_big_quiet_step (first|fail))
    refine wpQuiet_nil fun w3 B3=>?_
    go_wp2_with fail
    go_ret
    exact ⟨by rw[He.out];rfl,bot HBw.out B3⟩
   ·by_cases hg:y3<x3
    ·have He:Hid (R=1):=F6.out (Hq.out.1 (by decide)) (Hq.out.2.1 (by decide)) (by omega) hg
     clear F1 F2 F3 F4 F5 F6 F7 Hq
     have r_c2:=cR c2
     have r_d2:=cR d2
     go_wp2_with fail
     refine wQ ?_
     repeat (go_big_quiet_step (first|fail))
     refine wpQuiet_nil fun w3 B3=>?_
     have c2':=zAA B3 c2 (zAc c2)
     have d2':=zAA B3 d2 (zAc d2)
     have r_c2':=cR c2'
     have r_d2':=cR d2'
     go_wp2_with fail
     refine wQ ?_
     repeat (go_big_quiet_step (first|fail))
     refine wpQuiet_nil fun w4 B4=>?_
     go_wp2_with fail
     go_ret
     exact ⟨by rw[He.out];rfl,bot HBw.out (bot B3 B4)⟩
    ·have hee:x3=y3:=by omega
     have Hq2:Hid ((1≤3→x1=y1)∧(2≤3→x2=y2)∧(3≤3→x3=y3)):=⟨fun _=>Hq.out.1 (by decide),fun _=>Hq.out.2.1 (by decide),fun _=>hee⟩
     clear Hq hee
     have r_c2:=cR c2
     have r_d2:=cR d2
     go_wp2_with fail
     refine wQ ?_
     repeat (go_big_quiet_step (first|fail))
     refine wpQuiet_nil fun w3 B3=>?_
     have c2':=zAA B3 c2 (zAc c2)
     have d2':=zAA B3 d2 (zAc d2)
     have r_c2':=cR c2'
     have r_d2':=cR d2'
     go_wp2_with fail
     refine wQ ?_
     repeat (go_big_quiet_step (first|fail))
     refine wpQuiet_nil fun w4 B4=>?_
     have HB4:=cH (bot HB.out (bot B3 B4))
     go_wp2_with fail
     go_roundw
     case rel=>exact ⟨3,by decide,rfl,Hq2,HB4⟩
     case measure=>simp[intOf]
  ·have He:Hid (R=0):=F7.out (Hq.out.1 (by decide)) (Hq.out.2.1 (by decide)) (Hq.out.2.2 (by decide))
   clear F1 F2 F3 F4 F5 F6 F7 Hq
   go_wp2_with fail
   go_ret
   exact ⟨by rw[He.out];rfl,HBw.out⟩
theorem PackV.open_ {w:World} {S:Nat→Prop} {x:Pack} {u:Value} (h:PackV w S x u):∃ A B C a b c,u=.agg #[.string x.name,.int .i64 x.ver.major,.int .i64 x.ver.minor,.int .i64 x.ver.patch,.slice A x.deps.length a,.slice B x.peers.length b,.slice C x.opts.length c]∧x.name.size≤maxLen∧SlV rDep w S x.deps (.slice A x.deps.length a)∧SlV rDep w S x.peers (.slice B x.peers.length b)∧SlV rDep w S x.opts (.slice C x.opts.length c):=by
 obtain ⟨A,n,a,B,m,b,C,k,c,rfl,h1,h2,h3,h4⟩:=h
 have e2:=h2.n_eq
 have e3:=h3.n_eq
 have e4:=h4.n_eq
 subst e2 e3 e4
 exact ⟨A,B,C,a,b,c,rfl,h1,h2,h3,h4⟩
theorem zLA (x y:Pack) (u v:Value) (w:World) (S T:Nat→Prop) (hu:PackV w S x u) (hv:PackV w T y v) :
  Calls Tryz.prog 64 #[u,v] w fun e w'=>e=.returned (.bool (zC2 x y))∧Below w.heap.size w w':=by
 obtain ⟨A1,B1,C1,a1,b1,c1,rfl,hx,_,_,_⟩:=hu.open_
 obtain ⟨A2,B2,C2,a2,b2,c2,rfl,hy,_,_,_⟩:=hv.open_
 have HR1:Hid (x.name≠y.name→zC2 x y=lessB x.name y.name):=fun h=>by unfold zC2;rw[if_neg h]
 have HR2:Hid (x.name=y.name→zC2 x y=decide (0<cmp3T x.ver.major x.ver.minor x.ver.patch y.ver.major y.ver.minor y.ver.patch)):=fun h=>by unfold zC2;rw[if_pos h];rfl
 have HLe:Hid (∀ W,Calls Tryz.prog 108 #[.string x.name,.string y.name] W fun e w'=>e=.returned (.bool (lessB x.name y.name))∧Below W.heap.size W w'):=fun W=>zCz _ _ hx hy W
 have HCm:Hid (∀ W,Calls Tryz.prog 109 #[.agg #[.int .i64 x.ver.major,.int .i64 x.ver.minor,.int .i64 x.ver.patch],.agg #[.int .i64 y.ver.major,.int .i64 y.ver.minor,.int .i64 y.ver.patch]] W fun e w'=>e=.returned (.int .i64 (cmp3T x.ver.major x.ver.minor x.ver.patch y.ver.major y.ver.minor y.ver.patch))∧Below W.heap.size W w'):=fun W=>zFT _ _ _ _ _ _ W
 clear hu hv hx hy
 generalize zC2 x y=R at *
 generalize lessB x.name y.name=ls at *
 generalize cmp3T x.ver.major x.ver.minor x.ver.patch y.ver.major y.ver.minor y.ver.patch=cm at *
 obtain ⟨xn,⟨x1,x2,x3⟩,xd,xp,xo⟩:=x
 obtain ⟨yn,⟨y1,y2,y3⟩,yd,yp,yo⟩:=y
 simp only at HR1 HR2 HLe HCm ⊢
 generalize xd.length=l1 at *
 generalize xp.length=l2 at *
 generalize xo.length=l3 at *
 generalize yd.length=m1 at *
 generalize yp.length=m2 at *
 generalize yo.length=m3 at *
 obtain ⟨w0,hw0⟩:∃ w0,w0=(w.alloc (.cells #[.string xn,.int .i64 x1,.int .i64 x2,.int .i64 x3,.slice A1 l1 a1,.slice B1 l2 b1,.slice C1 l3 c1] 52)).alloc (.cells #[.string yn,.int .i64 y1,.int .i64 y2,.int .i64 y3,.slice A2 m1 a2,.slice B2 m2 b2,.slice C2 m3 c2] 52):=⟨_,rfl⟩
 have hw1:(w.alloc (.cells #[.string xn,.int .i64 x1,.int .i64 x2,.int .i64 x3,.slice A1 l1 a1,.slice B1 l2 b1,.slice C1 l3 c1] 52)).heap.size=w.heap.size+1:=by simp
 have HB0:Hid (Below w.heap.size w w0):=by unfold Hid;rw[hw0];exact bal (bal (bR _ _) _) _
 have hqX:w0.heap[w.heap.size]?=some (.cells #[.string xn,.int .i64 x1,.int .i64 x2,.int .i64 x3,.slice A1 l1 a1,.slice B1 l2 b1,.slice C1 l3 c1] 52 (0,0)):=by
  rw[hw0]
  exact ((bal (bR _ _) _).block _ (by rw[hw1];omega)).trans (zAD _ _)
 have hqY:w0.heap[w.heap.size+1]?=some (.cells #[.string yn,.int .i64 y1,.int .i64 y2,.int .i64 y3,.slice A2 m1 a2,.slice B2 m2 b2,.slice C2 m3 c2] 52 (0,0)):=by
  rw[hw0,←hw1]
  exact zAD _ _
 have p0:=cO _ _ 0 _ _ _ hqX
 have p1:=cO _ _ 1 _ _ _ hqX
 have p2:=cO _ _ 2 _ _ _ hqX
 have p3:=cO _ _ 3 _ _ _ hqX
 have q0:=cO _ _ 0 _ _ _ hqY
 have q1:=cO _ _ 1 _ _ _ hqY
 have q2:=cO _ _ 2 _ _ _ hqY
 have q3:=cO _ _ 3 _ _ _ hqY
 clear hqX hqY hw1
 go_enter Tryz.func64,Tryz.ntmps64
 by_cases hnm:xn=yn
 ·have hb:=zAr hnm
  have He:=cH (HR2.out hnm)
  clear HR1 HR2 hnm HLe
  go_upto_region 1 with (fail)
  rw[←hw0]
  clear hw0
  go_wp2_with fail
  refine (HCm.out w0).mono ?_
  rintro e w2 ⟨rfl,hb2⟩
  have HB2:=cH (bot HB0.out hb2)
  clear hb2 HCm
  go_wp2_with fail
  go_ret
  exact ⟨zAB He.out.symm,HB2.out⟩
 ·have hb:=zAb hnm
  have He:=cH (HR1.out hnm)
  clear HR1 HR2 hnm HCm
  go_upto_region 1 with (fail)
  rw[←hw0]
  clear hw0
  go_wp2_with fail
  refine (HLe.out w0).mono ?_
  rintro e w2 ⟨rfl,hb2⟩
  have HB2:=cH (bot HB0.out hb2)
  clear hb2 HLe
  go_wp2_with fail
  go_ret
  exact ⟨zAB He.out.symm,HB2.out⟩
def verV (v:Ver):Value:=.agg #[.int .i64 v.major,.int .i64 v.minor,.int .i64 v.patch]
theorem row3 {W:World} {b:Nat} {x y z:Value} {t:TypeId} (h:W.heap[b]?=some (.cells #[x,y,z] t (0,0))):(W.cell? ⟨b,0,none⟩=some x∧W.cell? ⟨b,1,none⟩=some y∧W.cell? ⟨b,2,none⟩=some z)∧W.frozen? ⟨b,0,none⟩=false∧W.frozen? ⟨b,1,none⟩=false∧W.frozen? ⟨b,2,none⟩=false:=by
 refine ⟨⟨cO _ _ 0 _ _ _ h,cO _ _ 1 _ _ _ h,cO _ _ 2 _ _ _ h⟩,?_,?_,?_⟩<;>simp[World.frozen?,h]
structure Turn (X:Nat→Prop) (W W':World):Prop where
 os:W'.os=W.os
 tape:W'.tape=W.tape
 output:W'.output=W.output
 size:W.heap.size≤W'.heap.size
 block:∀ k,k<W.heap.size→¬X k→W'.heap[k]?=W.heap[k]?
theorem Turn.refl (X:Nat→Prop) (W:World):Turn X W W:=⟨rfl,rfl,rfl,nR _,fun _ _ _=>rfl⟩
theorem Turn.trans {X:Nat→Prop} {A B C:World} (h:Turn X A B) (k:Turn X B C):Turn X A C:=
 ⟨k.os.trans h.os,k.tape.trans h.tape,k.output.trans h.output,nT h.size k.size,fun i hi hx=>(k.block i (lL hi h.size) hx).trans (h.block i hi hx)⟩
theorem Turn.mono {X Y:Nat→Prop} {A B:World} (h:Turn X A B) (hxy:∀ k,k<A.heap.size→X k→Y k):Turn Y A B:=⟨h.os,h.tape,h.output,h.size,fun i hi hy=>h.block i hi fun hx=>hy (hxy i hi hx)⟩
theorem Turn.below {X:Nat→Prop} {A B:World} {n:Nat} (h:Turn X A B) (hn:n≤A.heap.size) (hx:∀ k,X k→n≤k):Below n A B:=⟨h.os,h.tape,h.output,h.size,fun i hi=>h.block i (by omega) fun hxi=>by have:=hx i hxi;omega⟩
theorem Turn.grown {X:Nat→Prop} {A B:World} {r:Option Nat} (h:A.grownBy B r) (hr:∀ k,r=some k→X k):Turn X A B:=⟨h.os,h.tape,h.output,h.size,fun i hi hx=>h.block i hi fun e=>hx (hr i e.symm)⟩
theorem Turn.alloc {X:Nat→Prop} (W:World) (o:Obj):Turn X W (W.alloc o):=Turn.grown (r:=none) (World.grownBy_alloc W o none) fun k e=>by cases e
theorem Turn.at {X:Nat→Prop} {A B:World} (h:Turn X A B) {b:Nat} {o:Obj} (hb:A.heap[b]?=some o) (hx:¬X b):B.heap[b]?=some o:=(h.block b (aS.1 hb).1 hx).trans hb
theorem Own.cells {α:Type} {r:Rp α} {A:World} {base:Nat} {e:TypeId} {v:Value} {l:List α} {S:Nat→Prop} (h:Own r A base e v l S) {g:Nat} (hg:v.ownBlock=some g):base≤g∧¬∃ o,A.heap[g]?=some o∧o.isCells=false:=by
 obtain ⟨h0,xs,h1,h2⟩:=h
 rcases h1.2 with ⟨rfl,_⟩|⟨g',cap,cur,rfl,h2,h3,h4⟩
 ·simp[Value.ownBlock] at hg
 ·obtain rfl:g'=g:=by simpa [Value.ownBlock] using hg
  refine ⟨h2,?_⟩
  rintro ⟨o,ho,hc⟩
  rw[h3] at ho;cases ho;cases hc
noncomputable def inSB (l:List Spn) (v:Ver):Bool:=zAt l&&(v.ok&&hasB (rks l) v.rank)
theorem zFA (A:Option Addr) (n c:Nat) (l:List Spn) (v:Ver) (w:World) (S:Nat→Prop) (hl:SlV rSpn w S l (.slice A n c)) :
  Calls Tryz.prog 145 #[.slice A n c,verV v] w fun e w'=>e=.returned (.bool (inSB l v))∧Below w.heap.size w w':=by
 have HX:=cH (hl.more (S':=fun b=>b<w.heap.size) fun b _ h=>h)
 have H1:Hid (∀ W,Below w.heap.size w W→Calls Tryz.prog 139 #[.slice A n c] W fun e w'=>e=.returned (.bool (zAt l))∧Below W.heap.size W w'):=fun W hW=>zCY A n c l W _ (HX.out.belowSize hW)
 have H2:=cH (fun W=>zBL v.major v.minor v.patch W)
 have H3:=cH (fun W=>zBA v.major v.minor v.patch W)
 have H4:Hid (∀ W,Below w.heap.size w W→Calls Tryz.prog 165 #[.slice A n c,.int .i64 (rankR v.major v.minor v.patch)] W fun e w'=>e=.returned (.bool (hasB (rks l) (rankR v.major v.minor v.patch)))∧Below W.heap.size W w'):=
  fun W hW=>zND A n c l _ W _ (HX.out.belowSize hW)
 have HR:Hid (inSB l v=(zAt l&&(verB v.major v.minor v.patch&&hasB (rks l) (rankR v.major v.minor v.patch)))):=rfl
 unfold verV
 generalize inSB l v=R at *
 generalize zAt l=p at *
 generalize verB v.major v.minor v.patch=q at *
 generalize rankR v.major v.minor v.patch=N at *
 generalize hasB (rks l) N=r at *
 obtain ⟨v1,v2,v3⟩:=v
 simp only at H2 H3 ⊢
 clear hl HX
 go_enter Tryz.func145,Tryz.ntmps145
 go_wp2_with fail
 obtain ⟨w0,hw0⟩:∃ w0,w0=w.alloc (.cells #[.int .i64 v1,.int .i64 v2,.int .i64 v3] 50):=⟨_,rfl⟩
 have hb0:Below w.heap.size w w0:=by rw[hw0];exact bal (bR _ _) _
 have hr0:w0.heap[w.heap.size]?=some (.cells #[.int .i64 v1,.int .i64 v2,.int .i64 v3] 50 (0,0)):=by rw[hw0];exact heap_alloc_new _ _
 rw[←hw0]
 clear hw0
 refine (H1.out _ hb0).mono ?_
 rintro e w1 ⟨rfl,hb1⟩
 have hlt0:w.heap.size<w0.heap.size:=(aS.1 hr0).1
 have hr1:=(hb1.block _ hlt0).trans hr0
 have HB1:=cH (bot hb0 hb1)
 obtain ⟨⟨c0,c1,c2⟩,_⟩:=row3 hr1
 have Hr1:=cH hr1
 clear hb0 hb1 hr0 hr1 H1
 cases p with
 | false=>
   have He:Hid (R=false):=by unfold Hid;rw[HR.out];rfl
   go_wp2_with fail
   go_ret
   exact ⟨zAB He.out.symm,HB1.out⟩
 | true=>
 go_wp2_with fail
 refine (H2.out _).mono ?_
 rintro e w2 ⟨rfl,hb2⟩
 have hlt1:w.heap.size<w1.heap.size:=(aS.1 Hr1.out).1
 have hr2:=(hb2.block _ hlt1).trans Hr1.out
 have HB2:=cH (bot HB1.out hb2)
 obtain ⟨⟨d0,d1,d2⟩,_⟩:=row3 hr2
 have hr2H:=cH hr2
 clear hb2 hr2 c0 c1 c2 H2
 cases q with
 | false=>
   have He:Hid (R=false):=by unfold Hid;rw[HR.out];rfl
   go_wp2_with fail
   go_ret
   exact ⟨zAB He.out.symm,HB2.out⟩
 | true=>
 have He:Hid (R=r):=by unfold Hid;rw[HR.out];rfl
 go_wp2_with fail
 refine (H3.out _).mono ?_
 rintro e w3 ⟨rfl,hb3⟩
 have HB3:=cH (bot HB2.out hb3)
 have H4':=cH (H4.out w3 HB3.out)
 clear H4 H3 hb3
 cases r <;>
 ·go_wp2_with fail
  refine H4'.out.mono ?_
  rintro e w4 ⟨rfl,hb4⟩
  go_wp2_with fail
  go_ret
  exact ⟨zAB He.out.symm,bot HB3.out hb4⟩
def devW:ByteArray:=⟨#[100,101,118]⟩
def pinsW:ByteArray:=⟨#[112,105,110,115]⟩
def zI2:ByteArray:=⟨#[112,114,111,106,101,99,116]⟩
def zCx (m:Mani):ByteArray:=zI2++nlB++zAG zBq m.deps++zAG devW m.dev++zAG zB4 m.opts++zAG pinsW m.over
noncomputable def maniB (m:Mani):Bool:=
 listB m.deps&&(listB m.dev&&(listB m.opts&&(listB m.over&&(zBP (zAH [m.deps,m.dev,m.opts])&&decide ((zCx m).size≤4096)))))
def Live (w:World) (b:Nat):Prop:=∃ cs t,w.heap[b]?=some (.cells cs t (0,0))
def Fresh (B:Nat) (w:World) (b:Nat):Prop:=B≤b∧Live w b
theorem zHl {w:World} {b:Nat} (h:Live w b):b<w.heap.size:=by
 obtain ⟨cs,t,h⟩:=h
 exact (aS.1 h).1
theorem zGz {w w':World} {b:Nat} (h:Live w b) (hk:w'.heap[b]?=w.heap[b]?):Live w' b:=by unfold Live;rw[hk];exact h
def zCs (n B:Nat) (w:World) (v:Nat→Value) (l:Nat→List Dep) (S:Nat→Prop):Prop:=
 (∀ j,j<n→Own rDep w B 68 (v j) (l j) S)∧(∀ b,S b→Fresh B w b)∧(∀ i j g,i<n→j<n→i≠j→(v i).ownBlock=some g→(v j).ownBlock≠some g)
section
variable {n B:Nat} {w w':World} {v:Nat→Value} {l:Nat→List Dep} {S:Nat→Prop}
theorem zCs.keep (h:zCs n B w v l S) (hb:Below w.heap.size w w'):zCs n B w' v l S:=
 ⟨fun j hj=>(h.1 j hj).keep hb,fun b hs=>⟨(h.2.1 b hs).1,zGz (h.2.1 b hs).2 (hb.block b (zHl (h.2.1 b hs).2))⟩,h.2.2⟩
end
section
variable {n B:Nat} {w w':World} {v:Nat→Value} {l:Nat→List Dep} {S:Nat→Prop}
theorem zCs.at (h:zCs n B w v l S) {b:Nat} (hb:b<B) (hg:w.grownBy w' (some b)):zCs n B w' v l S:=by
 refine ⟨fun j hj=>(h.1 j hj).grown hg ?_ ?_,fun c hs=>⟨(h.2.1 c hs).1,zGz (h.2.1 c hs).2 (hg.block c (zHl (h.2.1 c hs).2) ?_)⟩,h.2.2⟩
 ·cases hv:(v j).ownBlock with
  | none=>exact .inl rfl
  | some g=>exact .inr fun e=>by have:=((h.1 j hj).lt g hv).1;simp only[Option.some.injEq] at e;omega
 ·intro c hs e
  cases e
  have:=(h.2.1 b hs).1;omega
 ·intro e
  cases e
  have:=(h.2.1 b hs).1;omega
end
section
variable {n B:Nat} {w w':World} {v:Nat→Value} {l:Nat→List Dep} {S:Nat→Prop}
theorem zCs.more (h:zCs n B w v l S) (hb:Below w.heap.size w w') (hB:B≤w.heap.size):zCs n B w' v l (fun b=>S b∨Fresh w.heap.size w' b):=by
 have hk:=h.keep hb
 refine ⟨fun j hj=>(hk.1 j hj).more ?_ (fun b hs=>.inl hs),?_,h.2.2⟩
 ·rintro b (hs|hs)
  ·exact (hk.1 j hj).1 b hs
  ·exact ⟨zHl hs.2,fun e=>by have:=((h.1 j hj).lt b e).2;have:=hs.1;omega⟩
 ·rintro b (hs|hs)
  ·exact hk.2.1 b hs
  ·exact ⟨nT hB hs.1,hs.2⟩
end
def zKh (hd:List Value) (n:Nat) (v:Nat→Value):Array Value:=(hd++(List.range n).map v).toArray
theorem zK5 (hd:List Value) {n:Nat} (v:Nat→Value) {j:Nat} (h:j<n):(zKh hd n v)[hd.length+j]?=some (v j):=by
 unfold zKh
 rw[List.getElem?_toArray,List.getElem?_append_right (by omega),Nat.add_sub_cancel_left,List.getElem?_map,List.getElem?_range h]
 rfl
def zCa (P:Nat) (hd:List Value) (t:TypeId) (n:Nat) (w:World) (v:Nat→Value):Prop:=w.heap[P]?=some (.cells (zKh hd n v) t (0,0))
section
variable {P n:Nat} {hd:List Value} {t:TypeId} {w w':World} {v:Nat→Value}
theorem zCa.lt (h:zCa P hd t n w v):P<w.heap.size:=(aS.1 h).1
end
section
variable {P n:Nat} {hd:List Value} {t:TypeId} {w w':World} {v:Nat→Value}
theorem zCa.cell (h:zCa P hd t n w v) {j:Nat} (hj:j<n):w.cell? ⟨P,hd.length+j,none⟩=some (v j):=by
 rw[cO w P _ _ t _ h,zK5 hd v hj]
end
section
variable {P n:Nat} {hd:List Value} {t:TypeId} {w w':World} {v:Nat→Value}
theorem zCa.keep (h:zCa P hd t n w v) (hb:Below w.heap.size w w'):zCa P hd t n w' v:=(hb.block P h.lt).trans h
end
section
variable {P n:Nat} {hd:List Value} {t:TypeId} {w w':World} {v:Nat→Value}
theorem zCa.grown (h:zCa P hd t n w v) {row:Option Nat} (hg:w.grownBy w' row) (hne:some P≠row):zCa P hd t n w' v:=(hg.block P h.lt hne).trans h
end
theorem SlV.at {α:Type} {r:Rp α} {w:World} {S:Nat→Prop} {l:List α} {A:Option Addr} {n c:Nat} (h:SlV r w S l (.slice A n c)) (h0:0<l.length):∃ b o,A=some ⟨b,o,none⟩∧S b∧b<w.heap.size:=by
 obtain ⟨b,o,cs,h1,h2,h3,_⟩:=h.elem (gE h0)
 exact ⟨b,o,h1,h2,h3⟩
theorem SlV.row {α:Type} {r:Rp α} {w:World} {S:Nat→Prop} {l:List (List α)} {b o n c i:Nat} {x:List α} (h:SlV (zAk r) w S l (.slice (some ⟨b,o,none⟩) n c)) (hx:l[i]?=some x):∃ A c',w.cell? ⟨b,o+i,none⟩=some (.slice A x.length c')∧SlV r w S x (.slice A x.length c'):=by
 obtain ⟨b',o',cs,h1,_,_,hs,hcell⟩:=h.elem hx
 injection h1 with h1
 injection h1 with hb ho _
 subst hb ho
 obtain ⟨A,c',rfl,hs'⟩:=hs
 have:=hcell 0 _ rfl
 simp only[zAk,Nat.add_zero,Nat.mul_one] at this
 exact ⟨A,c',this,A,c',rfl,hs'⟩
def zDs (n B:Nat) (w:World) (v:Nat→Value) (l:Nat→List Dep) (S:Nat→Prop):Prop:=
 (∀ j,j<n→Own rDep w B 68 (v j) (l j) S)∧(∀ b,S b→B≤b)∧(∀ i j g,i<n→j<n→i≠j→(v i).ownBlock=some g→(v j).ownBlock≠some g)
section
variable {n B:Nat} {w w':World} {v:Nat→Value} {l:Nat→List Dep} {S:Nat→Prop}
theorem zDs.keep (h:zDs n B w v l S) (hb:Below w.heap.size w w'):zDs n B w' v l S:=
 ⟨fun j hj=>(h.1 j hj).keep hb,h.2.1,h.2.2⟩
end
section
variable {n B:Nat} {w w':World} {v:Nat→Value} {l:Nat→List Dep} {S:Nat→Prop}
theorem zDs.at (h:zDs n B w v l S) {b:Nat} (hb:b<B) (hg:w.grownBy w' (some b)):zDs n B w' v l S:=by
 refine ⟨fun j hj=>(h.1 j hj).grown hg ?_ ?_,h.2.1,h.2.2⟩
 ·cases hv:(v j).ownBlock with
  | none=>exact .inl rfl
  | some g=>exact .inr fun e=>by have:=((h.1 j hj).lt g hv).1;simp only[Option.some.injEq] at e;omega
 ·intro c hs e
  cases e
  have:=h.2.1 b hs;omega
end
section
variable {n B:Nat} {w w':World} {v:Nat→Value} {l:Nat→List Dep} {S:Nat→Prop}
theorem zDs.more (h:zDs n B w v l S) (hb:Below w.heap.size w w') (hB:B≤w.heap.size):zDs n B w' v l (fun b=>S b∨(w.heap.size≤b∧b<w'.heap.size)):=by
 have hk:=h.keep hb
 refine ⟨fun j hj=>(hk.1 j hj).more ?_ (fun b hs=>.inl hs),?_,h.2.2⟩
 ·rintro b (hs|hs)
  ·exact (hk.1 j hj).1 b hs
  ·exact ⟨hs.2,fun e=>by have:=((h.1 j hj).lt b e).2;have:=hs.1;omega⟩
 ·rintro b (hs|hs)
  ·exact h.2.1 b hs
  ·exact nT hB hs.1
end
def l3 (a b c:List Dep):Nat→List Dep
 | 0=>a
 | 1=>b
 | _=>c
def ManiV (w:World) (S:Nat→Prop) (m:Mani) (v:Value):Prop:=
 ∃ A0 n0 c0 A1 n1 c1 A2 n2 c2 A3 n3 c3,v=.agg #[.slice A0 n0 c0,.slice A1 n1 c1,.slice A2 n2 c2,.slice A3 n3 c3]∧SlV rDep w S m.deps (.slice A0 n0 c0)∧SlV rDep w S m.dev (.slice A1 n1 c1)∧SlV rDep w S m.opts (.slice A2 n2 c2)∧SlV rDep w S m.over (.slice A3 n3 c3)
theorem ManiV.keep {w w':World} {S:Nat→Prop} {m:Mani} {v:Value} (h:ManiV w S m v) (hb:Below w.heap.size w w'):ManiV w' S m v:=by
 obtain ⟨A0,n0,c0,A1,n1,c1,A2,n2,c2,A3,n3,c3,h0,h1,h2,h3,h4⟩:=h
 exact ⟨A0,n0,c0,A1,n1,c1,A2,n2,c2,A3,n3,c3,h0,h1.belowSize hb,h2.belowSize hb,h3.belowSize hb,h4.belowSize hb⟩
theorem row4 {W:World} {b:Nat} {x0 x1 x2 x3:Value} {t:TypeId} (h:W.heap[b]?=some (.cells #[x0,x1,x2,x3] t (0,0))) :
  (W.cell? ⟨b,0,none⟩=some x0∧W.cell? ⟨b,1,none⟩=some x1∧W.cell? ⟨b,2,none⟩=some x2∧W.cell? ⟨b,3,none⟩=some x3)∧W.frozen? ⟨b,0,none⟩=false∧W.frozen? ⟨b,1,none⟩=false∧W.frozen? ⟨b,2,none⟩=false∧W.frozen? ⟨b,3,none⟩=false:=by
 refine ⟨⟨cO _ _ 0 _ _ _ h,cO _ _ 1 _ _ _ h,cO _ _ 2 _ _ _ h,cO _ _ 3 _ _ _ h⟩,?_,?_,?_,?_⟩<;>simp[World.frozen?,h]
theorem zHy {m:Mani} (h0:listB m.deps=true) (h1:listB m.dev=true) (h2:listB m.opts=true) (h3:listB m.over=true):(zAG zBq m.deps).size≤33600∧(zAG devW m.dev).size≤33600∧(zAG zB4 m.opts).size≤33600∧(zAG pinsW m.over).size≤33600:=by
 obtain ⟨a0,b0⟩:=zAJ h0
 obtain ⟨a1,b1⟩:=zAJ h1
 obtain ⟨a2,b2⟩:=zAJ h2
 obtain ⟨a3,b3⟩:=zAJ h3
 have z0:=zBD (word:=zBq) (by decide) b0
 have z1:=zBD (word:=devW) (by decide) b1
 have z2:=zBD (word:=zB4) (by decide) b2
 have z3:=zBD (word:=pinsW) (by decide) b3
 omega
def projB:ByteArray:=⟨#[112,114,111,106,101,99,116,10]⟩
theorem zGK (m:Mani):zCx m=projB++zAG zBq m.deps++zAG devW m.dev++zAG zB4 m.opts++zAG pinsW m.over:=by
 unfold zCx
 rw[show zI2++nlB=projB by decide +kernel]
theorem zFO (m:Mani) (u:Value) (w:World) (S:Nat→Prop) (h0:listB m.deps=true) (h1:listB m.dev=true) (h2:listB m.opts=true) (h3:listB m.over=true) (hm:ManiV w S m u) :
  Calls Tryz.prog 110 #[u] w fun e w'=>e=.returned (.string (zCx m))∧Below w.heap.size w w':=by
 obtain ⟨Aa0,na0,ca0,Aa1,na1,ca1,Aa2,na2,ca2,Aa3,na3,ca3,rfl,ha0,ha1,ha2,ha3⟩:=hm
 obtain ⟨z0,z1,z2,z3⟩:=zHy h0 h1 h2 h3
 have H0:Hid (∀ W,Below w.heap.size w W→Calls Tryz.prog 142 #[.string ⟨#[110,101,101,100,115]⟩,.slice Aa0 na0 ca0] W fun e w'=>e=.returned (.string (zAG zBq m.deps))∧Below W.heap.size W w'):=fun W hW=>zBJ zBq (by decide) _ _ _ m.deps W S (zAJ h0).1 (zAJ h0).2 (ha0.belowSize hW)
 have H1:Hid (∀ W,Below w.heap.size w W→Calls Tryz.prog 142 #[.string ⟨#[100,101,118]⟩,.slice Aa1 na1 ca1] W fun e w'=>e=.returned (.string (zAG devW m.dev))∧Below W.heap.size W w'):=fun W hW=>zBJ devW (by decide) _ _ _ m.dev W S (zAJ h1).1 (zAJ h1).2 (ha1.belowSize hW)
 have H2:Hid (∀ W,Below w.heap.size w W→Calls Tryz.prog 142 #[.string ⟨#[108,105,107,101,115]⟩,.slice Aa2 na2 ca2] W fun e w'=>e=.returned (.string (zAG zB4 m.opts))∧Below W.heap.size W w'):=fun W hW=>zBJ zB4 (by decide) _ _ _ m.opts W S (zAJ h2).1 (zAJ h2).2 (ha2.belowSize hW)
 have H3:Hid (∀ W,Below w.heap.size w W→Calls Tryz.prog 142 #[.string ⟨#[112,105,110,115]⟩,.slice Aa3 na3 ca3] W fun e w'=>e=.returned (.string (zAG pinsW m.over))∧Below W.heap.size W w'):=fun W hW=>zBJ pinsW (by decide) _ _ _ m.over W S (zAJ h3).1 (zAJ h3).2 (ha3.belowSize hW)
 rw[zGK]
 have zp:projB.size=8:=rfl
 generalize zAG zBq m.deps=l0 at *
 generalize zAG devW m.dev=l1 at *
 generalize zAG zB4 m.opts=l2 at *
 generalize zAG pinsW m.over=l3 at *
 have E1:∀ W:World,(Op.stringOp .add ⟨#[112,114,111,106,101,99,116,10]⟩ l0).run Tryz.prog W=.ok (.string (projB++l0)) W:=fun W=>run_string_add_sum W projB l0 (by omega)
 have E2:∀ W:World,(Op.stringOp .add (projB++l0) l1).run Tryz.prog W=.ok (.string (projB++l0++l1)) W:=fun W=>run_string_add_sum W _ l1 (by simp only[ByteArray.size_append];omega)
 have E3:∀ W:World,(Op.stringOp .add (projB++l0++l1) l2).run Tryz.prog W=.ok (.string (projB++l0++l1++l2)) W:=fun W=>run_string_add_sum W _ l2 (by simp only[ByteArray.size_append];omega)
 have E4:∀ W:World,(Op.stringOp .add (projB++l0++l1++l2) l3).run Tryz.prog W=.ok (.string (projB++l0++l1++l2++l3)) W:=fun W=>run_string_add_sum W _ l3 (by simp only[ByteArray.size_append];omega)
 generalize projB++l0++l1++l2++l3=s4 at *
 generalize projB++l0++l1++l2=s3 at *
 generalize projB++l0++l1=s2 at *
 generalize projB++l0=s1 at *
 clear ha0 ha1 ha2 ha3 h0 h1 h2 h3 z0 z1 z2 z3 zp
 go_enter Tryz.func110,Tryz.ntmps110
 go_upto_region 1 with (fail)
 obtain ⟨w1,hw⟩:∃ W0,W0=w.alloc (.cells #[.slice Aa0 na0 ca0,.slice Aa1 na1 ca1,.slice Aa2 na2 ca2,.slice Aa3 na3 ca3] 28):=⟨_,rfl⟩
 have hra:w1.heap[w.heap.size]?=some (.cells #[.slice Aa0 na0 ca0,.slice Aa1 na1 ca1,.slice Aa2 na2 ca2,.slice Aa3 na3 ca3] 28 (0,0)):=by rw[hw];exact heap_alloc_new w _
 have hba:Below w.heap.size w w1:=by rw[hw];exact bal (bR _ _) _
 have hzz:w.heap.size+1=w1.heap.size:=by rw[hw];simp
 rw[←hw]
 try rw[hzz]
 clear hw hzz
 have C0:=cH (qcall (fun W hW=>H0.out W (bot hba hW)))
 have C1:=cH (qcall (fun W hW=>H1.out W (bot hba hW)))
 have C2:=cH (qcall (fun W hW=>H2.out W (bot hba hW)))
 have C3:=cH (qcall (fun W hW=>H3.out W (bot hba hW)))
 obtain ⟨⟨a0,a1,a2,a3⟩,_⟩:=row4 hra
 have HB1:=cH hba
 clear hra hba H0 H1 H2 H3
 have r_a0:=cR a0
 have r_a1:=cR a1
 have r_a2:=cR a2
 have r_a3:=cR a3
 go_wp2_with fail
 refine wQ ?_
 repeat (go_big_quiet_step (first|(with_reducible exact C0.out _ _)|(with_reducible exact C1.out _ _)|(with_reducible exact C2.out _ _)|(with_reducible exact C3.out _ _)))
 refine wpQuiet_nil fun w2 B2=>?_
 go_wp2_with fail
 go_ret
 exact ⟨rfl,bot HB1.out B2⟩
def KeptT (b:Nat) (w w':World):Prop:=∀ k cs t fr,w.heap[k]?=some (.cells cs t fr)→t≠5→k≠b→w'.heap[k]?=some (.cells cs t fr)
theorem KeptT.refl (b:Nat) (w:World):KeptT b w w:=fun _ _ _ _ h _ _=>h
theorem KeptT.trans {b:Nat} {w w' w'':World} (h:KeptT b w w') (k:KeptT b w' w''):KeptT b w w'':=fun i cs t fr hi ht hb=>k i cs t fr (h i cs t fr hi ht hb) ht hb
theorem KeptT.row {b base n:Nat} {w w':World} {v:Value} {xs:List Value} (h:w.ownsRow base 5 1 v n xs) (hg:w.grownBy w' v.ownBlock):KeptT b w w':=fun i cs t fr hi ht _=>by
 refine (hg.block i (aS.1 hi).1 (fun e=>?_)).trans hi
 rcases h.2 with ⟨rfl,_⟩|⟨g,cap,cur,rfl,_,hgb,_⟩
 ·cases e
 ·simp only[Value.ownBlock,Option.some.injEq] at e
  subst e
  rw[hgb] at hi
  simp only[Option.some.injEq,Obj.cells.injEq] at hi
  exact ht hi.2.1.symm
theorem zFs (m:Mani) (u:Value) (w:World) (S:Nat→Prop) (hm:ManiV w S m u) :
  Calls Tryz.prog 65 #[u] w fun e w'=>e=.returned (.bool (maniB m))∧Below w.heap.size w w':=by
 obtain ⟨A0,n0,c0,A1,n1,c1,A2,n2,c2,A3,n3,c3,rfl,h0,h1,h2,h3⟩:=id hm
 have H0:Hid (∀ W,Below w.heap.size w W→Calls Tryz.prog 105 #[.slice A0 n0 c0] W fun e w'=>e=.returned (.bool (listB m.deps))∧Below W.heap.size W w'):=fun W hW=>zBV _ _ _ m.deps W S (h0.belowSize hW)
 have H1:Hid (∀ W,Below w.heap.size w W→Calls Tryz.prog 105 #[.slice A1 n1 c1] W fun e w'=>e=.returned (.bool (listB m.dev))∧Below W.heap.size W w'):=fun W hW=>zBV _ _ _ m.dev W S (h1.belowSize hW)
 have H2:Hid (∀ W,Below w.heap.size w W→Calls Tryz.prog 105 #[.slice A2 n2 c2] W fun e w'=>e=.returned (.bool (listB m.opts))∧Below W.heap.size W w'):=fun W hW=>zBV _ _ _ m.opts W S (h2.belowSize hW)
 have H3:Hid (∀ W,Below w.heap.size w W→Calls Tryz.prog 105 #[.slice A3 n3 c3] W fun e w'=>e=.returned (.bool (listB m.over))∧Below W.heap.size W w'):=fun W hW=>zBV _ _ _ m.over W S (h3.belowSize hW)
 have G0:Hid (∀ W,Below w.heap.size w W→Calls Tryz.prog 106 #[.slice A0 n0 c0,.slice A1 n1 c1] W fun e w'=>e=.returned (.bool (disjB m.deps m.dev))∧Below W.heap.size W w'):=fun W hW=>zBd _ _ _ _ _ _ m.deps m.dev W S S (h0.belowSize hW) (h1.belowSize hW)
 have G1:Hid (∀ W,Below w.heap.size w W→Calls Tryz.prog 106 #[.slice A0 n0 c0,.slice A2 n2 c2] W fun e w'=>e=.returned (.bool (disjB m.deps m.opts))∧Below W.heap.size W w'):=fun W hW=>zBd _ _ _ _ _ _ m.deps m.opts W S S (h0.belowSize hW) (h2.belowSize hW)
 have G2:Hid (∀ W,Below w.heap.size w W→Calls Tryz.prog 106 #[.slice A1 n1 c1,.slice A2 n2 c2] W fun e w'=>e=.returned (.bool (disjB m.dev m.opts))∧Below W.heap.size W w'):=fun W hW=>zBd _ _ _ _ _ _ m.dev m.opts W S S (h1.belowSize hW) (h2.belowSize hW)
 have HT:Hid (listB m.deps=true→listB m.dev=true→listB m.opts=true→listB m.over=true→∀ W,Below w.heap.size w W→Calls Tryz.prog 110 #[.agg #[.slice A0 n0 c0,.slice A1 n1 c1,.slice A2 n2 c2,.slice A3 n3 c3]] W fun e w'=>e=.returned (.string (zCx m))∧Below W.heap.size W w'):=fun a b c d W hW=>zFO m _ W S a b c d (hm.keep hW)
 have HR:Hid (maniB m=(listB m.deps&&(listB m.dev&&(listB m.opts&&(listB m.over&&(zBP (zAH [m.deps,m.dev,m.opts])&&decide ((zCx m).size≤4096))))))):=rfl
 have Hap:Hid (listB m.deps=true→listB m.dev=true→listB m.opts=true→zBP (zAH [m.deps,m.dev,m.opts])=(disjB m.deps m.dev&&disjB m.deps m.opts&&disjB m.dev m.opts)):=fun a b c=>zMv a b c
 generalize maniB m=R at *
 generalize zBP (zAH [m.deps,m.dev,m.opts])=nd at *
 generalize zCx m=tx at *
 generalize listB m.deps=v0 at *
 generalize listB m.dev=v1 at *
 generalize listB m.opts=v2 at *
 generalize listB m.over=v3 at *
 generalize disjB m.deps m.dev=g0 at *
 generalize disjB m.deps m.opts=g1 at *
 generalize disjB m.dev m.opts=g2 at *
 clear h0 h1 h2 h3 hm
 go_enter Tryz.func65,Tryz.ntmps65
 go_upto_region 1 with (fail)
 obtain ⟨w1,hw⟩:∃ W0,W0=w.alloc (.cells #[.slice A0 n0 c0,.slice A1 n1 c1,.slice A2 n2 c2,.slice A3 n3 c3] 28):=⟨_,rfl⟩
 have hr1:w1.heap[w.heap.size]?=some (.cells #[.slice A0 n0 c0,.slice A1 n1 c1,.slice A2 n2 c2,.slice A3 n3 c3] 28 (0,0)):=by rw[hw];exact heap_alloc_new w _
 have HB1:Hid (Below w.heap.size w w1):=by unfold Hid;rw[hw];exact bal (bR _ _) _
 rw[←hw]
 clear hw
 have Hr1:=cH hr1
 clear hr1
 obtain ⟨⟨a0,a1,a2,a3⟩,_⟩:=row4 Hr1.out
 go_wp2_with fail
 refine (H0.out w1 HB1.out).mono ?_
 rintro e w2 ⟨rfl,hb⟩
 have HB2:=cH (bot HB1.out hb)
 have Hr2:=cH ((hb.block _ (aS.1 Hr1.out).1).trans Hr1.out)
 clear hb a0 a1 a2 a3 HB1 Hr1
 clear H0
 cases v0 with
 | false=>
   have hr:R=false:=by rw[HR.out];simp
   subst hr
   clear HR Hap HT
   go_wp2_with fail
   go_ret
   exact ⟨rfl,HB2.out⟩
 | true=>
 obtain ⟨⟨a0,a1,a2,a3⟩,_⟩:=row4 Hr2.out
 go_wp2_with fail
 refine (H1.out w2 HB2.out).mono ?_
 rintro e w3 ⟨rfl,hb⟩
 have HB3:=cH (bot HB2.out hb)
 have Hr3:=cH ((hb.block _ (aS.1 Hr2.out).1).trans Hr2.out)
 clear hb a0 a1 a2 a3 HB2 Hr2
 clear H1
 cases v1 with
 | false=>
   have hr:R=false:=by rw[HR.out];simp
   subst hr
   clear HR Hap HT
   go_wp2_with fail
   go_ret
   exact ⟨rfl,HB3.out⟩
 | true=>
 obtain ⟨⟨a0,a1,a2,a3⟩,_⟩:=row4 Hr3.out
 go_wp2_with fail
 refine (H2.out w3 HB3.out).mono ?_
 rintro e w4 ⟨rfl,hb⟩
 have HB4:=cH (bot HB3.out hb)
 have Hr4:=cH ((hb.block _ (aS.1 Hr3.out).1).trans Hr3.out)
 clear hb a0 a1 a2 a3 HB3 Hr3
 clear H2
 cases v2 with
 | false=>
   have hr:R=false:=by rw[HR.out];simp
   subst hr
   clear HR Hap HT
   go_wp2_with fail
   go_ret
   exact ⟨rfl,HB4.out⟩
 | true=>
 obtain ⟨⟨a0,a1,a2,a3⟩,_⟩:=row4 Hr4.out
 go_wp2_with fail
 refine (H3.out w4 HB4.out).mono ?_
 rintro e w5 ⟨rfl,hb⟩
 have HB5:=cH (bot HB4.out hb)
 have Hr5:=cH ((hb.block _ (aS.1 Hr4.out).1).trans Hr4.out)
 clear hb a0 a1 a2 a3 HB4 Hr4
 clear H3
 cases v3 with
 | false=>
   have hr:R=false:=by rw[HR.out];simp
   subst hr
   clear HR Hap HT
   go_wp2_with fail
   go_ret
   exact ⟨rfl,HB5.out⟩
 | true=>
 have hnd:=Hap.out (by first|rfl|trivial) (by first|rfl|trivial) (by first|rfl|trivial)
 have HT':=cH (HT.out (by first|rfl|trivial) (by first|rfl|trivial) (by first|rfl|trivial) (by first|rfl|trivial))
 subst hnd
 clear Hap HT
 obtain ⟨⟨a0,a1,a2,a3⟩,_⟩:=row4 Hr5.out
 go_wp2_with fail
 refine (G0.out w5 HB5.out).mono ?_
 rintro e w6 ⟨rfl,hb⟩
 have HB6:=cH (bot HB5.out hb)
 have Hr6:=cH ((hb.block _ (aS.1 Hr5.out).1).trans Hr5.out)
 clear hb a0 a1 a2 a3 HB5 Hr5
 clear G0
 cases g0 with
 | false=>
   have hr:R=false:=by rw[HR.out];simp
   subst hr
   clear HR HT'
   go_wp2_with fail
   go_ret
   exact ⟨rfl,HB6.out⟩
 | true=>
 obtain ⟨⟨a0,a1,a2,a3⟩,_⟩:=row4 Hr6.out
 go_wp2_with fail
 refine (G1.out w6 HB6.out).mono ?_
 rintro e w7 ⟨rfl,hb⟩
 have HB7:=cH (bot HB6.out hb)
 have Hr7:=cH ((hb.block _ (aS.1 Hr6.out).1).trans Hr6.out)
 clear hb a0 a1 a2 a3 HB6 Hr6
 clear G1
 cases g1 with
 | false=>
   have hr:R=false:=by rw[HR.out];simp
   subst hr
   clear HR HT'
   go_wp2_with fail
   go_ret
   exact ⟨rfl,HB7.out⟩
 | true=>
 obtain ⟨⟨a0,a1,a2,a3⟩,_⟩:=row4 Hr7.out
 go_wp2_with fail
 refine (G2.out w7 HB7.out).mono ?_
 rintro e w8 ⟨rfl,hb⟩
 have HB8:=cH (bot HB7.out hb)
 have Hr8:=cH ((hb.block _ (aS.1 Hr7.out).1).trans Hr7.out)
 clear hb a0 a1 a2 a3 HB7 Hr7
 clear G2
 cases g2 with
 | false=>
   have hr:R=false:=by rw[HR.out];simp
   subst hr
   clear HR HT'
   go_wp2_with fail
   go_ret
   exact ⟨rfl,HB8.out⟩
 | true=>
 obtain ⟨⟨a0,a1,a2,a3⟩,_⟩:=row4 Hr8.out
 go_wp2_with fail
 refine (HT'.out w8 HB8.out).mono ?_
 rintro e w9 ⟨rfl,hb⟩
 have HB9:=cH (bot HB8.out hb)
 have Hr9:=cH ((hb.block _ (aS.1 Hr8.out).1).trans Hr8.out)
 clear hb a0 a1 a2 a3 HB8 Hr8
 by_cases hz:tx.size≤4096
 ·have hI:(tx.size:Int)≤4096:=by omega
  have hr:R=true:=by rw[HR.out,decide_eq_true hz];rfl
  subst hr
  clear HR
  go_wp2_with fail
  go_ret
  exact ⟨rfl,HB9.out⟩
 ·have hI:¬(tx.size:Int)≤4096:=by omega
  have hD:decide ((tx.size:Int)≤4096)=false:=decide_eq_false hI
  have hr:R=false:=by rw[HR.out,decide_eq_false hz];simp
  subst hr
  clear HR
  go_wp2_with fail
  go_ret
  exact ⟨rfl,HB9.out⟩
end Go.Proofs.YtminjjdnmpaaoaaGreatDoor
namespace Go.Proofs.YtminjjdnmpaaoaaGreatDoor
open Go
noncomputable def candC (L:List Pack) (s:ByteArray) (l:List Spn):List Ver:=(versC L s).filter (inSB l)
noncomputable def askP (env:List Pin):List Dep→List Pin→List Pin→Option (List Pin×List Pin)
 | [],out,next=>some (out,next)
 | d::ds,out,next=>match zAR env d.name with
   | none=>none
   | some v=>if inSB d.range v=true then askP env ds (withP out ⟨d.name,v⟩) (if pinIs out d.name=true then next else next++[⟨d.name,v⟩]) else none
noncomputable def ctxGo (L:List Pack) (m:Mani) (env:List Pin):Nat→List Pin→List Pin→Option (List Pin)
 | _,[],out=>some out
 | 0,_::_,_=>none
 | f+1,p::rest,out=>match getC L p.name p.ver with
   | none=>none
   | some x=>match askP env (zBj m x.peers) out rest with
     | none=>none
     | some (out',rest')=>ctxGo L m env f rest' out'
noncomputable def ctxP (L:List Pack) (m:Mani) (env:List Pin) (p:Pin):Option (List Pin):=ctxGo L m env (env.length+1) [p] []
noncomputable def ctxsP (L:List Pack) (m:Mani) (env:List Pin):List Pin→Option (List (List Pin))
 | []=>some []
 | p::l=>match ctxP L m env p with
   | none=>none
   | some x=>match ctxsP L m env l with
     | none=>none
     | some xs=>some (x::xs)
noncomputable def zA4 (lim:Nat):List Pin→List (List Pin)→List Node→List Edge→Option (List Node×List Edge)
 | p::l,c::cs,out,es=>
   if placeN out p c=out.length then
    if out.length=lim then none
    else zA4 lim l cs (out++[⟨p.name,p.ver,c,[]⟩]) (es++[⟨p.name,(out.length:Int)⟩])
   else zA4 lim l cs out (es++[⟨p.name,(placeN out p c:Int)⟩])
 | _,_,out,es=>some (out,es)
def zAz (nodes:List Node) (i:Nat) (es:List Edge):List Node:=nodes.modify i fun n=>{ n with edges:=es}
structure SIn where
 L:List Pack
 m:Mani
 dev:Bool
 dec:Nat
 lim:Nat
inductive SOut where
 | no (tried:Nat)
 | bad (err:Int) (tried:Nat)
 | ok (tried:Nat) (found:List Node)
inductive Task where
 | settle (nodes:List Node) (at_:Nat)
 | choose (nodes:List Node) (at_:Nat) (l:List Want) (env:List Pin)
 | bind (nodes:List Node) (at_:Nat) (env:List Pin)
noncomputable def zBg (q:SIn) (nodes:List Node) (at_:Nat):List Want:=
 if at_=0 then zBQ q.m q.dev else match nodes[at_]? with
 | none=>[]
 | some n=>match getC q.L n.name n.ver with
   | none=>[]
   | some x=>ofW q.m x
def ctxAt (nodes:List Node) (at_:Nat):List Pin:=match nodes[at_]? with
 | none=>[]
 | some n=>n.ctx
noncomputable def optsS (q:SIn) (nodes:List Node) (at_:Nat) (w:Want):List Ver:=match zAR (ctxAt nodes at_) w.name with
 | some v=>if inSB w.range v=true then [v] else []
 | none=>candC q.L w.name w.range
def maysS (nodes:List Node) (at_:Nat) (w:Want):Bool:=match zAR (ctxAt nodes at_) w.name with
 | some _=>false
 | none=>decide (w.kind=2)
def withO (env:List Pin) (s:ByteArray):Option Ver→List Pin
 | none=>env
 | some v=>withP env ⟨s,v⟩
def tryGo (dec:Nat) (k:List Pin→Nat→SOut) (env:List Pin) (s:ByteArray):List (Option Ver)→Nat→SOut
 | [],t=>.no t
 | o::os,t=>if t=dec then .bad 31 t else match k (withO env s o) (t+1) with
   | .no t'=>tryGo dec k env s os t'
   | r=>r
noncomputable def goS (q:SIn):Nat→Task→Nat→SOut
 | 0,_,t=>.bad 0 t
 | f+1,.settle nodes at_,t=>if at_=nodes.length then .ok t nodes else goS q f (.choose nodes at_ (zBg q nodes at_) (ctxAt nodes at_)) t
 | f+1,.choose nodes at_ [] env,t=>goS q f (.bind nodes at_ env) t
 | f+1,.choose nodes at_ (w::l) env,t=>
   tryGo q.dec (fun env' t'=>goS q f (.choose nodes at_ l env') t') env w.name ((optsS q nodes at_ w).map some++if maysS nodes at_ w=true then [none] else []) t
 | f+1,.bind nodes at_ env,t=>match ctxsP q.L q.m env env with
   | none=>.no t
   | some cs=>match zA4 q.lim env cs nodes [] with
     | none=>.bad 32 t
     | some (out,es)=>goS q f (.settle (zAz out at_ es) (at_+1)) t
def rootN:Node:=⟨⟨#[]⟩,⟨0,0,0⟩,[],[]⟩
def leftK (q:SIn) (t:Nat):Task→Nat
 | .settle _ at_=>(q.dec - t)+3 * (q.lim+1 - at_)+2
 | .choose _ at_ _ _=>(q.dec - t)+3 * (q.lim+1 - at_)+1
 | .bind _ at_ _=>(q.dec - t)+3 * (q.lim+1 - at_)
noncomputable def solS (q:SIn):Option (List Node):=
 if maniB q.m=false then none else match goS q (q.dec+3 * q.lim+6) (.settle [rootN] 0) 0 with
 | .ok _ ns=>some ns
 | _=>none
noncomputable def zB7 (L:List Pack) (ns:List Node):List Pack:=match ns with
 | []=>[]
 | _::l=>zAC::l.map fun n=>(getC L n.name n.ver).getD zAC
def muC (env rest out:List Pin):Nat:=rest.length+(env.length - out.length)
theorem zEg {env:List Pin}:∀ {ds:List Dep} {out next out' next':List Pin},askP env ds out next=some (out',next')→SrtP out→zCM env out→SrtP out'∧zCM env out'∧muC env next' out'=muC env next out∧(∀ x∈out',x∈out∨x∈env)∧∀ x∈next',x∈next∨x∈env:=by
 intro ds
 induction ds with
 | nil=>intro out next out' next' h hs hn;unfold askP at h;cases h;exact ⟨hs,hn,rfl,fun x h=>.inl h,fun x h=>.inl h⟩
 | cons d ds ih=>
   intro out next out' next' h hs hn
   unfold askP at h
   split at h
   ·cases h
   ·rename_i v hv
    split at h
    ·have hn':zCM env (withP out ⟨d.name,v⟩):=fun x hx=>by
      rcases withP_mem hx with rfl|hx
      ·exact zFx hv
      ·exact hn x hx
     have hs':=zCT ⟨d.name,v⟩ hs
     obtain ⟨h1,h2,h3,h4,h5⟩:=ih h hs' hn'
     refine ⟨h1,h2,h3.trans ?_,fun x hx=>?_,fun x hx=>?_⟩
     ·have hle:=hs'.le hn'
      have hln:=zHD out ⟨d.name,v⟩
      unfold muC
      simp only at hln
      split
      ·rename_i hp;rw[if_pos hp] at hln;rw[hln]
      ·rename_i hp;rw[if_neg hp] at hln;rw[hln,List.length_append];simp only[List.length_cons,List.length_nil];omega
     ·rcases h4 x hx with hx|hx
      ·rcases withP_mem hx with rfl|hx
       ·exact .inr (zDG hv)
       ·exact .inl hx
      ·exact .inr hx
     ·rcases h5 x hx with hx|hx
      ·split at hx
       ·exact .inl hx
       ·rcases List.mem_append.1 hx with hx|hx
        ·exact .inl hx
        ·rw[List.mem_singleton.1 hx];exact .inr (zDG hv)
      ·exact .inr hx
    ·cases h
theorem zKn {L:List Pack} {m:Mani} {env:List Pin}:∀ {f:Nat} {rest out r:List Pin},ctxGo L m env f rest out=some r→SrtP out→zCM env out→SrtP r∧zCM env r∧∀ x∈r,x∈out∨x∈env:=by
 intro f
 induction f with
 | zero=>
   intro rest out r h hs hn
   cases rest with
   | nil=>unfold ctxGo at h;cases h;exact ⟨hs,hn,fun x h=>.inl h⟩
   | cons p rest=>unfold ctxGo at h;cases h
 | succ f ih=>
   intro rest out r h hs hn
   cases rest with
   | nil=>unfold ctxGo at h;cases h;exact ⟨hs,hn,fun x h=>.inl h⟩
   | cons p rest=>
     unfold ctxGo at h
     split at h
     ·cases h
     ·split at h
      ·cases h
      ·rename_i out' rest' ha
       obtain ⟨h1,h2,_,h4,_⟩:=zEg ha hs hn
       obtain ⟨g1,g2,g3⟩:=ih h h1 h2
       refine ⟨g1,g2,fun x hx=>?_⟩
       rcases g3 x hx with hx|hx
       ·exact h4 x hx
       ·exact .inr hx
theorem zIy {L:List Pack} {m:Mani} {env:List Pin} {p:Pin} {r:List Pin} (h:ctxP L m env p=some r):SrtP r∧r.length≤env.length∧∀ x∈r,x∈env:=by
 obtain ⟨h1,h2,h3⟩:=zKn h List.Pairwise.nil (fun x hx=>by cases hx)
 exact ⟨h1,h1.le h2,fun x hx=>(h3 x hx).resolve_left (by simp)⟩
theorem zEE {L:List Pack} {m:Mani} {env:List Pin}:∀ {f g:Nat} {rest out:List Pin},SrtP out→zCM env out→muC env rest out≤f→muC env rest out≤g→ctxGo L m env f rest out=ctxGo L m env g rest out:=by
 intro f
 induction f with
 | zero=>
   intro g rest out hs hn hf hg
   have:rest=[]:=by unfold muC at hf;exact List.eq_nil_of_length_eq_zero (by omega)
   subst this
   cases g<;>(unfold ctxGo;rfl)
 | succ f ih=>
   intro g rest out hs hn hf hg
   cases rest with
   | nil=>cases g<;>(unfold ctxGo;rfl)
   | cons p rest=>
     cases g with
     | zero=>unfold muC at hg;rw[List.length_cons] at hg;omega
     | succ g=>
       unfold ctxGo
       split
       ·rfl
       ·split
        ·rfl
        ·rename_i out' rest' ha
         obtain ⟨h1,h2,h3,_⟩:=zEg ha hs hn
         have e:muC env (p::rest) out=muC env rest out+1:=by unfold muC;rw[List.length_cons];omega
         exact ih h1 h2 (by omega) (by omega)
theorem zJN {L:List Pack} {m:Mani} {env:List Pin} {p:Pin} {rest out:List Pin} (hs:SrtP out) (hn:zCM env out) {f:Nat} (hf:muC env (p::rest) out≤f):ctxGo L m env f (p::rest) out=match getC L p.name p.ver with
  | none=>none
  | some x=>match askP env (zBj m x.peers) out rest with
    | none=>none
    | some (out',rest')=>ctxGo L m env f rest' out':=by
 cases f with
 | zero=>unfold muC at hf;rw[List.length_cons] at hf;omega
 | succ f=>
   rw[ctxGo]
   cases getC L p.name p.ver with
   | none=>rfl
   | some x=>
     simp only
     cases ha:askP env (zBj m x.peers) out rest with
     | none=>rfl
     | some r=>
       obtain ⟨out',rest'⟩:=r
       simp only
       obtain ⟨h1,h2,h3,_⟩:=zEg ha hs hn
       have e:muC env (p::rest) out=muC env rest out+1:=by unfold muC;rw[List.length_cons];omega
       exact zEE h1 h2 (by omega) (by omega)
theorem zJD {L:List Pack} {m:Mani} {env out:List Pin} {f:Nat}:ctxGo L m env f [] out=some out:=by
 cases f<;>(unfold ctxGo;rfl)
