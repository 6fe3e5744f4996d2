/- The document's Alike of trees: walked. -/
import Derived.Test.YthbnmehbhpakaaaGreatDoorBk08
import Derived.Test.YthbnmehbhpakaaaGreatDoorBk04
import Derived.Test.YthbnmehbhpakaaaGreatDoorBk01
import Derived.Laws.IdiomStrings
import Derived.Test.YthbnmehbhpakaaaGreatDoorBk02
import Derived.Lib.LastIndexByte
import Derived.Test.YthbnmehbhpakaaaGreatDoorBk13
import Derived.Lib.SplitLaws
import Derived.Test.YthbnmehbhpakaaaGreatDoorBk06
import Derived.Test.YthbnmehbhpakaaaGreatDoorBkC
import Derived.Test.YthbnmehbhpakaaaGreatDoorBk05
import Derived.Maps.OwnSet
import Derived.Test.YthbnmehbhpakaaaGreatDoorAl
set_option linter.all false
set_option maxHeartbeats 3200000
set_option maxRecDepth 100000
namespace Go.Proofs.YthbnmehbhpakaaaGreatDoor
open Go.Rows Go.RowKit Go.Shelf Go.Sort
theorem eqDir {d e:Dir} (h1:d.path=e.path) (h2:d.pack=e.pack) (h3:d.node=e.node):d=e:=by
 cases d;cases e;simp only at h1 h2 h3;rw[h1,h2,h3]
theorem zPq (A B:Option Addr) (n c m e:Nat) (xs ys:List Dir) (w:World) (S T:Nat→Prop) (hx:SlV rDir w S xs (.slice A n c)) (hy:SlV rDir w T ys (.slice B m e)) :
  Calls Tryz.prog 14 #[.agg #[.slice A n c],.agg #[.slice B m e]] w fun e w'=>e=.returned (.bool (eqB xs ys))∧Below w.heap.size w w':=by
 have hnx:=hx.n_eq
 have hcx:=hx.cap_le
 have hny:=hy.n_eq
 have hcy:=hy.cap_le
 unfold maxLen at hcx hcy
 by_cases hnm:n=m
 case neg=>
  have hb:((n:Int) != (m:Int))=true:=by simp;omega
  have He:Hid (eqB xs ys=false):=zAD (by rintro rfl;omega)
  clear hnx hny hcx hcy hx hy hnm
  generalize eqB xs ys=r at *
  go_enter Tryz.func14,Tryz.ntmps14
  go_wp2_with fail
  go_ret
  exact ⟨zAB He.out.symm,bal (bal (bR _ _) _) _⟩
 have hb:((n:Int) != (m:Int))=false:=by simp[hnm]
 have hn63:n≤9223372036854775807:=by omega
 have HX:=cH (hx.more (S':=fun b=>b<w.heap.size) fun b _ h=>h)
 have HY:=cH (hy.more (S':=fun b=>b<w.heap.size) fun b _ h=>h)
 have Hpos:Hid (xs=ys→eqB xs ys=true):=fun h=>zAF h
 have Hneg:Hid (xs≠ys→eqB xs ys=false):=fun h=>zAD h
 have Hnx:=cH hnx;clear hnx
 have Hny:=cH hny;clear hny
 have Hnm:=cH hnm;clear hnm
 clear hx hy hcx hcy
 generalize eqB xs ys=R at *
 go_enter Tryz.func14,Tryz.ntmps14
 go_wp2_with fail
 obtain ⟨w0,hw0⟩:∃ w0,w0=(w.alloc (.cells #[.slice A n c] 30)).alloc (.cells #[.slice B m e] 30):=⟨_,rfl⟩
 have hz:w.heap.size<w0.heap.size:=by rw[hw0];simp[go_sem]
 have hz1:w.heap.size+1<w0.heap.size:=by rw[hw0];simp[go_sem]
 have hb0:Below w.heap.size w w0:=by rw[hw0];exact bal (bal (bR _ _) _) _
 have a0:w0.cell? ⟨w.heap.size,0,none⟩=some (.slice A n c):=by rw[hw0];simp[go_sem]
 have a1:w0.cell? ⟨w.heap.size+1,0,none⟩=some (.slice B m e):=by rw[hw0];simp[go_sem]
 rw[←hw0]
 clear hw0
 have HB0:=cH hb0;clear hb0
 go_loopw [5] (fun i wr=>∃ k:Nat,k≤n∧i=.int .i64 k∧Hid (xs.take k=ys.take k)∧Below w0.heap.size w0 wr) (fun i _=>n - (intOf i).toNat)
 case atStart=>exact ⟨0,nZ _,rfl,by simp[Hid],bR _ _⟩
 case round=>
  obtain ⟨k,hk,rfl,heq,hbel⟩:=hrel
  have b0:=zAA hbel a0 hz
  have b1:=zAA hbel a1 hz1
  have hbel':=bot HB0.out hbel
  by_cases hlt:k<n
  case neg=>
   have He:Hid (R=true):=Hpos.out (zBH heq.out (by have:=Hnx.out;omega) (by have:=Hny.out;have:=Hnm.out;omega))
   go_wp2_with fail
   go_ret
   exact ⟨zAB He.out.symm,hbel'⟩
  have hkx:k<xs.length:=by have:=Hnx.out;omega
  have hky:k<ys.length:=by have:=Hny.out;have:=Hnm.out;omega
  have hkm:k<m:=by have:=Hnm.out;omega
  obtain ⟨b,oo,cs,rfl,_,hb1,hh,hcell⟩:=(HX.out.below hbel' (fun b h=>h)).elem (gE hkx)
  obtain ⟨b',oo',cs',rfl,_,hb2,hh',hcell'⟩:=(HY.out.below hbel' (fun b h=>h)).elem (gE hky)
  obtain ⟨pA,pa,pB,pb,pC,pc,pD,pd,rfl,hp,hpk,hI⟩:=zFc hh
  obtain ⟨qA,qa,qB,qb,qC,qc,qD,qd,rfl,hp',hpk',hI'⟩:=zFc hh'
  have c0:=hcell 0 _ rfl
  have c1:=hcell 1 _ rfl
  have c2:=hcell 2 _ rfl
  have c3:=hcell 3 _ rfl
  have c4:=hcell 4 _ rfl
  have c5:=hcell 5 _ rfl
  have c6:=hcell 6 _ rfl
  have c7:=hcell 7 _ rfl
  have c8:=hcell 8 _ rfl
  have d0:=hcell' 0 _ rfl
  have d1:=hcell' 1 _ rfl
  have d2:=hcell' 2 _ rfl
  have d3:=hcell' 3 _ rfl
  have d4:=hcell' 4 _ rfl
  have d5:=hcell' 5 _ rfl
  have d6:=hcell' 6 _ rfl
  have d7:=hcell' 7 _ rfl
  have d8:=hcell' 8 _ rfl
  simp only[rDir,Nat.add_zero] at c0 c1 c2 c3 c4 c5 c6 c7 c8 d0 d1 d2 d3 d4 d5 d6 d7 d8
  have Hp:=cH (qcall (w:=wr) (fun W hW=>zMb _ _ _ _ _ _ xs[k].path ys[k].path W _ _ (hp.belowSize hW) (hp'.belowSize hW)))
  have Hs:Hid (∀ w1,Below wr.heap.size wr w1→∀ d os,Calls Tryz.prog 55 #[.agg #[.string xs[k].pack.name,.int .i64 xs[k].pack.ver.major,.int .i64 xs[k].pack.ver.minor,.int .i64 xs[k].pack.ver.patch,.slice pB xs[k].pack.deps.length pb,.slice pC xs[k].pack.peers.length pc,.slice pD xs[k].pack.opts.length pd],.agg #[.string ys[k].pack.name,.int .i64 ys[k].pack.ver.major,.int .i64 ys[k].pack.ver.minor,.int .i64 ys[k].pack.ver.patch,.slice qB ys[k].pack.deps.length qb,.slice qC ys[k].pack.peers.length qc,.slice qD ys[k].pack.opts.length qd]] (grow (redrawn w1 d) os) fun e w''=>e=.returned (.bool (eqB xs[k].pack ys[k].pack))∧∃ p:Regrown,w''=grow (redrawn w1 p.d) p.os):=
   fun w1 h1=>qcall (w:=w1) (fun W hW=>zLc _ _ _ _ W _ _ (hpk.keep (bot h1 hW)) (hpk'.keep (bot h1 hW)))
  have Hq1:Hid (eqB xs[k].path ys[k].path=true→eqB xs[k].pack ys[k].pack=true→xs[k].node=ys[k].node→xs.take (k+1)=ys.take (k+1)):=fun h1 h2 h3=>zB9 heq.out hkx hky (eqDir (zC9.1 h1) (zC9.1 h2) h3)
  have Hno:Hid (xs[k]≠ys[k]→R=false):=fun h=>Hneg.out (ne_at hkx hky h)
  have Hq2:Hid (eqB xs[k].path ys[k].path=false→R=false):=fun h=>Hno.out fun e=>by rw[e,zAF rfl] at h;cases h
  have Hq3:Hid (eqB xs[k].pack ys[k].pack=false→R=false):=fun h=>Hno.out fun e=>by rw[e,zAF rfl] at h;cases h
  have Hq4:Hid (xs[k].node≠ys[k].node→R=false):=fun h=>Hno.out fun e=>h (by rw[e])
  clear hcell hcell' hp hp' hpk hpk' hh hh' hI hI' Hno
  have hk0:(0:Int)≤(k:Int):=by omega
  have hkn:(k:Int)<(n:Int):=by omega
  have hkm':(k:Int)<(m:Int):=by omega
  generalize eqB xs[k].path ys[k].path=vh at *
  generalize eqB xs[k].pack ys[k].pack=vs at *
  generalize xs[k].path.length=l0 at *
  generalize xs[k].pack.deps.length=l1 at *
  generalize xs[k].pack.peers.length=l2 at *
  generalize xs[k].pack.opts.length=l3 at *
  generalize xs[k].pack.name=nm at *
  generalize xs[k].pack.ver.major=y1 at *
  generalize xs[k].pack.ver.minor=y2 at *
  generalize xs[k].pack.ver.patch=y3 at *
  generalize xs[k].node=nx at *
  generalize ys[k].path.length=m0 at *
  generalize ys[k].pack.deps.length=m1 at *
  generalize ys[k].pack.peers.length=m2 at *
  generalize ys[k].pack.opts.length=m3 at *
  generalize ys[k].pack.name=nn at *
  generalize ys[k].pack.ver.major=z1 at *
  generalize ys[k].pack.ver.minor=z2 at *
  generalize ys[k].pack.ver.patch=z3 at *
  generalize ys[k].node=ny at *
  have r_b0:=cR b0
  have r_b1:=cR b1
  have r_c0:=cR c0
  have r_d0:=cR d0
  go_wp2_with fail
  refine wQ ?_
  repeat (go_big_quiet_step (first|(with_reducible exact Hp.out _ _)))
  refine wpQuiet_nil fun w1 B1=>?_
  clear r_b0 r_b1 r_c0 r_d0 c0 d0 Hp
  have hzr:w.heap.size<wr.heap.size:=lL hz hbel.size
  have hzr1:w.heap.size+1<wr.heap.size:=lL hz1 hbel.size
  have e0:=zAA B1 b0 hzr
  have e1:=zAA B1 b1 hzr1
  have f1:=zAA B1 c1 hb1
  have f2:=zAA B1 c2 hb1
  have f3:=zAA B1 c3 hb1
  have f4:=zAA B1 c4 hb1
  have f5:=zAA B1 c5 hb1
  have f6:=zAA B1 c6 hb1
  have f7:=zAA B1 c7 hb1
  have f8:=zAA B1 c8 hb1
  have g1:=zAA B1 d1 hb2
  have g2:=zAA B1 d2 hb2
  have g3:=zAA B1 d3 hb2
  have g4:=zAA B1 d4 hb2
  have g5:=zAA B1 d5 hb2
  have g6:=zAA B1 d6 hb2
  have g7:=zAA B1 d7 hb2
  have g8:=zAA B1 d8 hb2
  have Hs1:=cH (Hs.out w1 B1)
  have hzw:w.heap.size<w1.heap.size:=lL hzr B1.size
  have hzw1:w.heap.size+1<w1.heap.size:=lL hzr1 B1.size
  have hbw1:b<w1.heap.size:=lL hb1 B1.size
  have hbw2:b'<w1.heap.size:=lL hb2 B1.size
  clear b0 b1 c1 c2 c3 c4 c5 c6 c7 c8 d1 d2 d3 d4 d5 d6 d7 d8 Hs
  have r_e0:=cR e0
  have r_e1:=cR e1
  have r_f1:=cR f1
  have r_f2:=cR f2
  have r_f3:=cR f3
  have r_f4:=cR f4
  have r_f5:=cR f5
  have r_f6:=cR f6
  have r_f7:=cR f7
  have r_g1:=cR g1
  have r_g2:=cR g2
  have r_g3:=cR g3
  have r_g4:=cR g4
  have r_g5:=cR g5
  have r_g6:=cR g6
  have r_g7:=cR g7
  go_wp2_with fail
  refine wQ ?_
  repeat (go_big_quiet_step (first|(with_reducible exact Hs1.out _ _)))
  refine wpQuiet_nil fun w2 B2=>?_
  have B3:=bot (bot hbel B1) B2
  have h0:=zAA B2 e0 hzw
  have h1:=zAA B2 e1 hzw1
  have i8:=zAA B2 f8 hbw1
  have j8:=zAA B2 g8 hbw2
  clear r_e0 r_e1 r_f1 r_f2 r_f3 r_f4 r_f5 r_f6 r_f7 r_g1 r_g2 r_g3 r_g4 r_g5 r_g6 r_g7 Hs1 B1 B2 e0 e1 f1 f2 f3 f4 f5 f6 f7 f8 g1 g2 g3 g4 g5 g6 g7 g8
  have r_h0:=cR h0
  have r_h1:=cR h1
  have r_i8:=cR i8
  have r_j8:=cR j8
  cases vh with
  | false=>
    have He:=cH (Hq2.out rfl)
    clear Hq1 Hq2 Hq3 Hq4
    cases vs
    ·go_wp2_with fail
     refine wQ ?_
     repeat (go_big_quiet_step (first|fail))
     refine wpQuiet_nil fun w3 B4=>?_
     go_wp2_with fail
     go_ret
     exact ⟨zAB He.out.symm,bot HB0.out (bot B3 B4)⟩
    ·go_wp2_with fail
     refine wQ ?_
     repeat (go_big_quiet_step (first|fail))
     refine wpQuiet_nil fun w3 B4=>?_
     go_wp2_with fail
     go_ret
     exact ⟨zAB He.out.symm,bot HB0.out (bot B3 B4)⟩
  | true=>
  cases vs with
  | false=>
    have He:=cH (Hq3.out rfl)
    clear Hq1 Hq2 Hq3 Hq4
    go_wp2_with fail
    refine wQ ?_
    repeat (go_big_quiet_step (first|fail))
    refine wpQuiet_nil fun w3 B4=>?_
    go_wp2_with fail
    go_ret
    exact ⟨zAB He.out.symm,bot HB0.out (bot B3 B4)⟩
  | true=>
  by_cases hnn:nx=ny
  case neg=>
   have He:=cH (Hq4.out hnn)
   have hbn:(nx != ny)=true:=by simp[hnn]
   clear Hq1 Hq2 Hq3 Hq4 hnn
   go_wp2_with fail
   refine wQ ?_
   repeat (go_big_quiet_step (first|fail))
   refine wpQuiet_nil fun w3 B4=>?_
   go_wp2_with fail
   go_ret
   exact ⟨zAB He.out.symm,bot HB0.out (bot B3 B4)⟩
  have He:=cH (Hq1.out rfl rfl hnn)
  have hbn:(nx != ny)=false:=by simp[hnn]
  clear Hq1 Hq2 Hq3 Hq4 hnn
  go_wp2_with fail
  refine wQ ?_
  repeat (go_big_quiet_step (first|fail))
  refine wpQuiet_nil fun w3 B4=>?_
  go_wp2_with fail
  go_roundw
  case rel=>exact ⟨k+1,by omega,by go_num,He,bot B3 B4⟩
  case measure=>simp[intOf];omega
end Go.Proofs.YthbnmehbhpakaaaGreatDoor
namespace Go.Proofs.YthbnmehbhpakaaaGreatDoor
open Go.Rows Go.RowKit Go.Shelf
def zCa (b:UInt8):Bool:=zBt b||(decide (48≤b.toNat)&&decide (b.toNat≤57))||decide (b.toNat=46)||decide (b.toNat=45)
def zA3 (s:ByteArray):Bool:=decide (1≤s.size)&&decide (s.size≤24)&&!(s.toList==[46])&&!(s.toList==[46,46])&&s.data.toList.all zCa
theorem pieceC_cases (b:UInt8) :
  (zCa b=true∧((97≤(b.toNat:Int)∧(b.toNat:Int)≤122)∨(48≤(b.toNat:Int)∧(b.toNat:Int)≤57)∨((b.toNat:Int)=45∧((b.toNat:Int)==45)=true∧((b.toNat:Int)==46)=false)∨((b.toNat:Int)=46∧((b.toNat:Int)==45)=false∧((b.toNat:Int)==46)=true))) ∨
  (zCa b=false∧((b.toNat:Int)==45)=false∧((b.toNat:Int)==46)=false∧((b.toNat:Int)<48∨(57<(b.toNat:Int)∧(b.toNat:Int)<97)∨122<(b.toNat:Int))):=by
 have hp:zCa b=((((decide (97≤b.toNat)&&decide (b.toNat≤122))||(decide (48≤b.toNat)&&decide (b.toNat≤57)))||decide (b.toNat=46))||decide (b.toNat=45)):=rfl
 rw[hp]
 simp only[Bool.or_eq_true,Bool.and_eq_true,decide_eq_true_eq,Bool.or_eq_false_iff,Bool.and_eq_false_iff,decide_eq_false_iff_not,beq_iff_eq,beq_eq_false_iff_ne]
 omega
theorem zR6 (s:ByteArray) (w:World):∃ w1 cap,(convert 9 120 (.string s)).run Tryz.prog w=.ok (.slice (some ⟨w.heap.size,0,none⟩) s.size cap) w1∧Below w.heap.size w w1 ∧
  ∀ k (h:k<s.size),w1.cell? ⟨w.heap.size,k,none⟩=some (.int .u8 (s[k].toNat:Int)):=by
 refine ⟨_,_,run_bytes_of_string w 9 120 5 s Tryz.underlying9 Tryz.underlying120 Tryz.underlying5,?_,fun k h=>?_⟩
 ·exact bal (bR _ _).drew _
 ·have:=World.cell?_alloc_mark w.drew (bytesRow s (grownCap w s.size 0 5)) 5 ((bytesRow s (grownCap w s.size 0 5)).size,(bytesRow s (grownCap w s.size 0 5)).size+1) k
  exact this.trans (bytesRow_at s _ k h)
theorem zKN (s:ByteArray) (hs:s.size≤maxLen) (w:World) :
  Calls Tryz.prog 120 #[.string s] w fun e w'=>e=.returned (.bool (zA3 s))∧Below w.heap.size w w':=by
 unfold maxLen at hs
 by_cases h1:s.size<1
 ·have Hn:Hid (zA3 s=false):=by unfold Hid zA3;rw[decide_eq_false (by omega)];rfl
  have h1I:(s.size:Int)<1:=by omega
  clear h1
  go_enter Tryz.func120,Tryz.ntmps120
  go_wp2_with fail
  go_ret
  exact ⟨zAB Hn.out.symm,bR _ _⟩
 have h1I:¬(s.size:Int)<1:=by omega
 by_cases h2:24<s.size
 ·have Hn:Hid (zA3 s=false):=by unfold Hid zA3;rw[decide_eq_false (p:=s.size≤24) (by omega),Bool.and_false];rfl
  have h2I:(24:Int)<s.size:=by omega
  clear h1 h2
  go_enter Tryz.func120,Tryz.ntmps120
  go_wp2_with fail
  go_ret
  exact ⟨zAB Hn.out.symm,bR _ _⟩
 have h2I:¬(24:Int)<s.size:=by omega
 cases h3:s.toList==[46] with
 | true=>
   have Hn:Hid (zA3 s=false):=by unfold Hid zA3;rw[h3];simp
   clear h1 h2
   go_enter Tryz.func120,Tryz.ntmps120
   go_wp2_with fail
   go_ret
   exact ⟨zAB Hn.out.symm,bR _ _⟩
 | false=>
 cases h4:s.toList==[46,46] with
 | true=>
   have Hn:Hid (zA3 s=false):=by unfold Hid zA3;rw[h4];simp
   clear h1 h2
   go_enter Tryz.func120,Tryz.ntmps120
   go_wp2_with fail
   go_ret
   exact ⟨zAB Hn.out.symm,bR _ _⟩
 | false=>
 have Hp:Hid (zA3 s=s.data.toList.all zCa):=by
  unfold Hid zA3
  rw[h3,h4,decide_eq_true (p:=1≤s.size) (by omega),decide_eq_true (p:=s.size≤24) (by omega)]
  rfl
 clear h1 h2
 obtain ⟨w1,cap,hconv,hb1,hcell⟩:=zR6 s w
 have HB1:=cH hb1
 have HC:=cH hcell
 clear hb1 hcell
 go_enter Tryz.func120,Tryz.ntmps120
 go_wp2_with fail
 clear h3 h4 h1I h2I hconv
 go_loop [24] (fun i=>∃ k:Nat,k≤s.size∧i=.int .i64 k∧Hid (s.data.toList.all zCa=(s.data.toList.drop k).all zCa)) (fun i=>s.size - (intOf i).toNat)
 case atStart=>exact ⟨0,nZ _,rfl,rfl⟩
 case round=>
  obtain ⟨k,hk,rfl,hrl⟩:=hrel
  by_cases hlt:k<s.size
  ·have hkI:(k:Int)<(s.size:Int):=by omega
   have hck:=HC.out k hlt
   have hst:(s.data.toList.drop k).all zCa=(zCa s[k]&&(s.data.toList.drop (k+1)).all zCa):=by rw[zF1 s k hlt,List.all_cons]
   rcases pieceC_cases s[k] with ⟨hc,hcl⟩|⟨hc,c1,c2,hcl⟩
   ·have hok:Hid (s.data.toList.all zCa=(s.data.toList.drop (k+1)).all zCa):=by
     unfold Hid;rw[hrl.out,hst,hc];rfl
    clear hc hst hrl
    rcases hcl with ⟨q1,q2⟩|⟨q1,q2⟩|⟨q1,q2,q3⟩|⟨q1,q2,q3⟩
    all_goals
     go_wp2_with fail
     go_round
     case rel=>exact ⟨k+1,by omega,by go_num,hok⟩
     case measure=>simp[intOf];omega
   ·have hbad:Hid (zA3 s=false):=by
     unfold Hid;rw[Hp.out,hrl.out,hst,hc];rfl
    have e1:¬(s[k].toNat:Int)=45:=by simpa using c1
    have e2:¬(s[k].toNat:Int)=46:=by simpa using c2
    have d1:((s[k].toNat:Int) != 45)=true:=by simpa using c1
    have d2:((s[k].toNat:Int) != 46)=true:=by simpa using c2
    clear hc hst hrl Hp
    rcases hcl with q1|⟨q1,q2⟩|q1
    all_goals
     go_wp2_with fail
     all_goals first
      | (go_ret
         exact ⟨zAB hbad.out.symm,HB1.out⟩)
      | (exfalso
         rename_i hx
         rcases hx with hx|hx<;>simp at hx<;>omega)
      | (exfalso
         rename_i hx
         simp at hx
         omega)
      | (exfalso
         omega)
      | trace_state
  ·have hkI:¬(k:Int)<(s.size:Int):=by omega
   have hok:Hid (zA3 s=true):=by
    unfold Hid;rw[Hp.out,hrl.out,dN (by rw[←zAJ];omega)];rfl
   clear hrl Hp
   go_wp2_with fail
   go_ret
   exact ⟨zAB hok.out.symm,HB1.out⟩
def upS (s:ByteArray):ByteArray:=if Lib.lastIndexByte s 47≤0 then ⟨#[47]⟩ else s.extract 0 (Lib.lastIndexByte s 47).toNat
theorem zI7 {s:ByteArray} {j:Nat} (h:j<s.size):s.data[j]! = s[j]:=by
 rw[getElem!_pos s.data j h];rfl
theorem up_spec (s:ByteArray):(Lib.lastIndexByte s 47≤0∧upS s=⟨#[47]⟩∧∀ j:Nat,0<j→∀ h:j<s.size,(s[j].toNat:Int)≠47) ∨
  ∃ i:Nat,0<i∧Lib.lastIndexByte s 47=i∧upS s=s.extract 0 i∧∃ h:i<s.size,(s[i].toNat:Int)=47∧∀ j:Nat,i<j→∀ h:j<s.size,(s[j].toNat:Int)≠47:=by
 rcases Lib.lastIndexByte_spec s 47 with ⟨h1,h2⟩|⟨i,h1,h2,h3,h4⟩
 ·refine .inl ⟨by omega,by unfold upS;rw[if_pos (by omega)],fun j _ h=>?_⟩
  have:=h2 j h
  rwa [zI7 h] at this
 ·by_cases h0:i=0
  ·subst h0
   refine .inl ⟨by omega,by unfold upS;rw[if_pos (by omega)],fun j hj h=>?_⟩
   have:=h4 j hj h
   rwa [zI7 h] at this
  ·refine .inr ⟨i,by omega,h2,by unfold upS;rw[if_neg (by omega),h2];rfl,h1,by rw[←zI7 h1];exact h3,fun j hj h=>?_⟩
   have:=h4 j hj h
   rwa [zI7 h] at this
theorem zM7 {a b:ByteArray} (h:a=b):Ending.returned (.string a)=.returned (.string b):=by rw[h]
theorem zHv (s:ByteArray) (hs:s.size≤1073741824) (w:World) :
  Calls Tryz.prog 60 #[.string s] w fun e w'=>e=.returned (.string (upS s))∧w'=w:=by
 have HL:Hid (∀ W,Calls Tryz.prog 121 #[.string s,.int .u8 47] W fun e w'=>e=.returned (.int .i64 (Lib.lastIndexByte s 47))∧w'=W):=fun W=>Tryz.strings_LastIndexByte s 47 (by omega) W
 rcases up_spec s with ⟨h1,h2,_⟩|⟨i,h0,h1,h2,h3,_⟩
 ·have H2:=cH h2
  clear h2
  generalize Lib.lastIndexByte s 47=z at *
  go_enter Tryz.func60,Tryz.ntmps60
  go_wp2_with fail
  refine (HL.out _).mono ?_
  rintro e w1 ⟨rfl,rfl⟩
  go_wp2_with fail
  go_ret
  exact ⟨zM7 H2.out.symm,rfl⟩
 ·have H2:=cH h2
  rw[h1] at HL
  clear h2 h1
  have hiI:¬(i:Int)≤0:=by omega
  have hi0:(0:Int)≤(i:Int):=by omega
  have hi1:(i:Int)≤(s.size:Int):=by omega
  go_enter Tryz.func60,Tryz.ntmps60
  go_wp2_with fail
  refine (HL.out _).mono ?_
  rintro e w1 ⟨rfl,rfl⟩
  go_wp2_with fail
  go_ret
  exact ⟨zM7 H2.out.symm,rfl⟩
end Go.Proofs.YthbnmehbhpakaaaGreatDoor
namespace Go.Proofs.YthbnmehbhpakaaaGreatDoor
theorem zD2:stepB.data.toList=47::[109,111,100,117,108,101,115,47]:=by decide +kernel
theorem index_none {l:List UInt8} (h:∀ b∈l,(b != 47)=true):Lib.index l stepB.data.toList=-1:=by
 rw[zD2]
 induction l with
 | nil=>rfl
 | cons b l ih=>
   have hb:(47==b)=false:=by have:=h b (by simp);simp at this ⊢;exact fun e=>this e.symm
   unfold Lib.index
   rw[List.isPrefixOf,hb,Bool.false_and,ih fun c hc=>h c (by simp[hc])]
   rfl
theorem zRC {l r:List UInt8} (h:∀ b∈l,(b != 47)=true):Lib.index (l++(stepB.data.toList++r)) stepB.data.toList=(l.length:Int):=by
 induction l with
 | nil=>
   have hp:stepB.data.toList.isPrefixOf (stepB.data.toList++r)=true:=List.isPrefixOf_iff_prefix.2 (List.prefix_append _ _)
   rw[List.nil_append]
   generalize hs:stepB.data.toList=sl at *
   cases sl with
   | nil=>rw[zD2] at hs;cases hs
   | cons c sl=>
     rw[List.cons_append] at hp ⊢
     unfold Lib.index
     rw[hp]
     rfl
 | cons b l ih=>
   have hb:(47==b)=false:=by have:=h b (by simp);simp at this ⊢;exact fun e=>this e.symm
   have ih':=ih fun c hc=>h c (by simp[hc])
   have hp:stepB.data.toList.isPrefixOf (b::(l++(stepB.data.toList++r)))=false:=by
    conv=>lhs;arg 1;rw[zD2]
    rw[List.isPrefixOf,hb,Bool.false_and]
   rw[List.cons_append]
   unfold Lib.index
   rw[hp,ih']
   have hne:((l.length:Int)==-1)=false:=by simp
   rw[hne]
   simp
theorem zMU:∀ (t:List ByteArray) (a s:ByteArray),nameB a=true→t.all nameB=true→s.data.toList=a.data.toList++zAi t→Lib.splitB stepB 0 (Lib.countB s stepB) s=a::t:=by
 intro t
 induction t with
 | nil=>
   intro a s ha _ hs
   rw[zAi,List.append_nil] at hs
   have e:s=a:=ByteArray.ext (Array.ext' hs)
   subst e
   have hi:Lib.indexB s stepB=-1:=index_none (zCE ha)
   rw[Lib.countB_miss s stepB hi,Lib.splitB_zero]
 | cons b t ih=>
   intro a s ha hb hs
   rw[List.all_cons,Bool.and_eq_true] at hb
   rw[zAi,List.append_assoc] at hs
   have hi:Lib.indexB s stepB=(a.data.toList.length:Int):=by
    show Lib.index s.data.toList stepB.data.toList=_
    rw[hs]
    exact zRC (zCE ha)
   have hsz:stepB.size=9:=by decide +kernel
   rw[Lib.countB_hit s stepB a.data.toList.length (by rw[hsz];omega) hi,Nat.add_comm 1,Lib.splitB_hit stepB 0 _ s _ hi]
   have e1:s.extract 0 (a.data.toList.length+0)=a:=by
    apply ByteArray.ext
    apply Array.ext'
    rw[Lib.extract_from_zero,hs,Nat.add_zero,List.take_left]
   have e2:(s.extract (a.data.toList.length+stepB.size) s.size).data.toList=b.data.toList++zAi t:=by
    rw[Lib.extract_to_end,hs,hsz,←List.append_assoc,show a.data.toList.length+9=(a.data.toList++stepB.data.toList).length by rw[List.length_append,zD2];rfl,List.drop_left]
   rw[e1,ih b _ hb.1 hb.2 e2]
noncomputable def zB1 (s:ByteArray):List ByteArray×Bool:=if s=⟨#[47]⟩ then ([],true) else match zCR s with|none=>([],false)|some p=>(p,true)
theorem zJS {s:ByteArray} {p:List ByteArray} (h:zCR s=some p):stepB.data.toList.isPrefixOf s.data.toList=true:=by
 obtain ⟨h0,_,h2⟩:=zDj h
 cases p with
 | nil=>exact absurd rfl h0
 | cons a t=>
   rw[←h2,zAi,List.append_assoc]
   exact List.isPrefixOf_iff_prefix.2 (List.prefix_append _ _)
theorem zHC {s:ByteArray} (h:stepB.data.toList.isPrefixOf s.data.toList=false):zCR s=none:=by
 rcases hp:zCR s with _|p
 ·rfl
 ·rw[zJS hp] at h;cases h
theorem zKg {s r:ByteArray} (h:s.data.toList=stepB.data.toList++r.data.toList) :
  (textB (Lib.splitB stepB 0 (Lib.countB r stepB) r)=s→zCR s=some (Lib.splitB stepB 0 (Lib.countB r stepB) r))∧(textB (Lib.splitB stepB 0 (Lib.countB r stepB) r)≠s→zCR s=none):=by
 have hne:Lib.splitB stepB 0 (Lib.countB r stepB) r≠[]:=by
  have:=Lib.splitB_all stepB (by decide +kernel) 0 _ r rfl
  intro e
  rw[e] at this
  simp at this
 have hs0:s≠⟨#[]⟩:=by
  intro e
  rw[e,zD2] at h
  cases h
 constructor
 ·intro e
  unfold textB at e
  rw[if_neg hne] at e
  split at e
  ·rename_i hall
   exact zEs hne hall (by rw[←e])
  ·exact absurd e.symm hs0
 ·intro e
  rcases hp:zCR s with _|p
  ·rfl
  ·exfalso
   have ht:=zKa hp
   obtain ⟨h0,h1,h2⟩:=zDj hp
   cases p with
   | nil=>exact h0 rfl
   | cons a t=>
     rw[List.all_cons,Bool.and_eq_true] at h1
     rw[zAi,List.append_assoc,h] at h2
     have h3:=List.append_cancel_left h2
     rw[zMU t a r h1.1 h1.2 h3.symm] at e
     exact e ht
end Go.Proofs.YthbnmehbhpakaaaGreatDoor
namespace Go.Proofs.YthbnmehbhpakaaaGreatDoor
open Go.Rows Go.RowKit Go.Shelf Go.Sort
def MaxL (w:World):Prop:=∃ m,w.cell? ⟨0,0,none⟩=some (.int .i64 m)
theorem MaxL.below {w w':World} (h:MaxL w) (hb:Below w.heap.size w w'):MaxL w':=by
 obtain ⟨m,hm⟩:=h
 exact ⟨m,zAA hb hm (zAE hm)⟩
theorem zG1 (sep:ByteArray):∀ (k:Nat) (s:ByteArray),∀ x∈Lib.splitB sep 0 k s,x.size≤s.size:=by
 intro k
 induction k with
 | zero=>intro s x hx;simp[Lib.splitB] at hx;subst hx;exact nR _
 | succ k ih=>
   intro s x hx
   unfold Lib.splitB at hx
   split at hx
   ·simp at hx;subst hx;exact nR _
   ·rcases List.mem_cons.1 hx with rfl|hx
    ·rw[ByteArray.size_extract];omega
    ·have:=ih _ x hx
     rw[ByteArray.size_extract] at this
     omega
theorem zIY {w:World} {S:Nat→Prop}:∀ {l:List ByteArray},(∀ x∈l,x.size≤maxLen)→Elems rStr w S l (l.map Value.string):=by
 intro l
 induction l with
 | nil=>intro _;rfl
 | cons x l ih=>intro h;exact ⟨[.string x],_,rfl,⟨rfl,h x (by simp)⟩,ih fun y hy=>h y (by simp[hy])⟩
theorem zIm {s:ByteArray} (h:s=⟨#[47]⟩):(s.toList==[47])=true:=by
 rw[h,Go.ByteArray.toList_eq];rfl
theorem zHd {s:ByteArray} (h:s≠⟨#[47]⟩):(s.toList==[47])=false:=by
 have:s.toList≠[47]:=fun e=>h (ByteArray.ext (Array.ext' (by rw[Go.ByteArray.toList_eq] at e;exact e)))
 simpa using this
theorem zFZ {v:Value} {R:List ByteArray×Bool} {r:List ByteArray} {z:Bool} (h:R=(r,z)):Ending.returned (.tuple #[v,.bool z])=.returned (.tuple #[v,.bool R.2]):=by rw[h]
theorem zPg (s:ByteArray) (w:World) (hs:s.size≤67108864) (hm:MaxL w) :
  Calls Tryz.prog 66 #[.string s] w fun e w'=>(∃ v,e=.returned (.tuple #[v,.bool (zB1 s).2])∧SlV rStr w' (fun b=>w.heap.size≤b) (zB1 s).1 v)∧Below w.heap.size w w':=by
 by_cases h1:s=⟨#[47]⟩
 ·have hb:(s.toList==[47])=true:=zIm h1
  have He:Hid (zB1 s=([],true)):=by unfold Hid zB1;rw[if_pos h1]
  clear h1 hm hs
  generalize zB1 s=R at *
  go_enter Tryz.func66,Tryz.ntmps66
  go_wp2_with fail
  go_ret2
  refine ⟨⟨_,zFZ He.out,?_⟩,bR _ _⟩
  rw[He.out];exact SlV.nil_ _ _ _
 have hb:(s.toList==[47])=false:=zHd h1
 have HR:Hid (zB1 s=match zCR s with|none=>([],false)|some p=>(p,true)):=by unfold Hid zB1;rw[if_neg h1];first|done|(cases zCR s<;>rfl)
 have Hpre:Hid (∀ W,Calls Tryz.prog 118 #[.string s,.string ⟨#[47,109,111,100,117,108,101,115,47]⟩] W fun e w'=>e=.returned (.bool (stepB.data.toList.isPrefixOf s.data.toList))∧w'=W):=fun W=>Tryz.strings_HasPrefix s stepB W
 clear h1
 cases hp:stepB.data.toList.isPrefixOf s.data.toList
 ·have He:Hid (zB1 s=([],false)):=by unfold Hid;rw[HR.out,zHC hp]
  rw[hp] at Hpre
  clear hp HR hm hs
  generalize zB1 s=R at *
  go_enter Tryz.func66,Tryz.ntmps66
  go_wp2_with fail
  refine (Hpre.out _).mono ?_
  rintro e w1 ⟨rfl,rfl⟩
  go_wp2_with fail
  go_ret2
  refine ⟨⟨_,zFZ He.out,?_⟩,bR _ _⟩
  rw[He.out];exact SlV.nil_ _ _ _
 rw[hp] at Hpre
 obtain ⟨t,ht⟩:=List.isPrefixOf_iff_prefix.1 hp
 have hst:s.data.toList=stepB.data.toList++(s.extract 9 s.size).data.toList:=by
  rw[Lib.extract_to_end,←ht]
  rw[show (9:Nat)=stepB.data.toList.length by decide +kernel,List.drop_left]
 have h9:9≤s.size:=by
  rw[zAJ s,←ht,List.length_append,show stepB.data.toList.length=9 by decide +kernel]
  omega
 obtain ⟨q1,q2⟩:=zKg (s:=s) (r:=s.extract 9 s.size) hst
 have hrs:(s.extract 9 s.size).size≤s.size:=by rw[ByteArray.size_extract];omega
 have hsl:=zG1 stepB (Lib.countB (s.extract 9 s.size) stepB) (s.extract 9 s.size)
 have hln:=Lib.splitB_all stepB (by decide +kernel) 0 _ (s.extract 9 s.size) rfl
 have hcl:=Lib.countB_le stepB (by decide +kernel) _ (s.extract 9 s.size) (nR _)
 have h9I:(9:Int)≤(s.size:Int):=by omega
 obtain ⟨m,hm⟩:=hm
 have Hsp:Hid (Calls Tryz.prog 119 #[.string (s.extract 9 s.size),.string ⟨#[47,109,111,100,117,108,101,115,47]⟩] w fun e w'=>e=.returned (.slice (some ⟨w.heap.size,0,none⟩) (Lib.countB (s.extract 9 s.size) stepB+1) (Lib.countB (s.extract 9 s.size) stepB+1))∧w'=w.alloc (.cells ((Lib.splitB stepB 0 (Lib.countB (s.extract 9 s.size) stepB) (s.extract 9 s.size)).map Value.string).toArray 9)):=
  Tryz.strings_Split (s.extract 9 s.size) stepB m w (by omega) hm (by decide +kernel)
 have Hq1:=cH q1
 have Hq2:=cH q2
 have Hsl:=cH hsl
 have Hln:=cH hln
 clear hp ht hst q1 q2 hsl hln hm
 generalize hcc:Lib.countB (s.extract 9 s.size) stepB=cc at *
 generalize hpp:Lib.splitB stepB 0 cc (s.extract 9 s.size)=pp at *
 clear hcc hpp
 generalize zB1 s=R at *
 go_enter Tryz.func66,Tryz.ntmps66
 go_wp2_with fail
 refine (Hpre.out _).mono ?_
 rintro e w1 ⟨rfl,rfl⟩
 go_wp2_with fail
 refine Hsp.out.mono ?_
 rintro e w2 ⟨rfl,hw2⟩
 have HV:Hid (SlV rStr w2 (fun b=>w1.heap.size≤b∧b<w2.heap.size) pp (.slice (some ⟨w1.heap.size,0,none⟩) (cc+1) (cc+1))):=by
  unfold Hid
  rw[hw2]
  exact SlV.of_block (zAT _ _) (by rw[List.toList_toArray];exact zIY fun x hx=>by have:=Hsl.out x hx;unfold maxLen;omega) ⟨nR _,by rw[World.size_alloc];omega⟩ Hln.out.symm (by rw[Hln.out];exact nR _) (by unfold maxLen;omega)
 have HB:Hid (Below w1.heap.size w1 w2):=by unfold Hid;rw[hw2];exact bal (bR _ _) _
 clear hw2 Hsp
 have HB1:Hid (∀ w3,Below w2.heap.size w2 w3→Below w1.heap.size w1 w3):=fun w3 h=>bot HB.out h
 obtain ⟨g,hg⟩:∃ g,g=w1.heap.size:=⟨_,rfl⟩
 have Hg:Hid (w1.heap.size≤g):=Nat.le_of_eq hg.symm
 rw[←hg] at HV ⊢
 clear hg
 go_wp2_with fail
 refine (zBd _ _ _ pp w2 _ (fun b h=>h.2) (by rw[Hln.out];omega) HV.out).mono ?_
 rintro e w3 ⟨rfl,B3⟩
 have HV3:Hid (SlV rStr w3 (fun b=>g≤b) pp (.slice (some ⟨g,0,none⟩) (cc+1) (cc+1))):=(HV.out.belowSize B3).more fun _ h _=>h.1
 by_cases ht:textB pp=s
 ·have htb:=zBe ht
  have He:Hid (R=(pp,true)):=by unfold Hid;rw[HR.out,Hq1.out ht]
  clear ht
  go_wp2_with fail
  go_ret2
  refine ⟨⟨_,zFZ He.out,?_⟩,HB1.out _ B3⟩
  rw[He.out];exact HV3.out.more fun b h _=>nT Hg.out h
 ·have htb:=zBD ht
  have He:Hid (R=([],false)):=by unfold Hid;rw[HR.out,Hq2.out ht]
  clear ht
  go_wp2_with fail
  go_ret2
  refine ⟨⟨_,zFZ He.out,?_⟩,HB1.out _ B3⟩
  rw[He.out];exact SlV.nil_ _ _ _
end Go.Proofs.YthbnmehbhpakaaaGreatDoor
namespace Go.Proofs.YthbnmehbhpakaaaGreatDoor
open Go.Rows Go.RowKit Go.Shelf
def cutS:List UInt8→List UInt8→List (List UInt8)
 | acc,[]=>[acc]
 | acc,c::t=>if c=47 then acc::cutS [] t else cutS (acc++[c]) t
theorem zFQ:∀ (l acc:List UInt8),(∀ b∈l,b≠47)→cutS acc l=[acc++l]
 | [],acc,_=>by rw[cutS,List.append_nil]
 | c::t,acc,h=>by
   rw[cutS,if_neg (h c (by simp)),zFQ t _ (fun b hb=>h b (by simp[hb]))]
   simp
theorem zMf:∀ (l acc r:List UInt8),(∀ b∈l,b≠47)→cutS acc (l++47::r)=(acc++l)::cutS [] r
 | [],acc,r,_=>by rw[List.nil_append,cutS,if_pos rfl,List.append_nil]
 | c::t,acc,r,h=>by
   rw[List.cons_append,cutS,if_neg (h c (by simp)),zMf t _ r (fun b hb=>h b (by simp[hb]))]
   simp
theorem cut47:∀ l:List UInt8,(∀ b∈l,b≠47)∨∃ a r,l=a++47::r∧∀ b∈a,b≠47
 | []=>.inl fun b hb=>by cases hb
 | c::t=>by
   by_cases h:c=47
   ·subst h;exact .inr ⟨[],t,rfl,fun b hb=>by cases hb⟩
   ·rcases cut47 t with h1|⟨a,r,h1,h2⟩
    ·refine .inl fun b hb=>?_
     rcases List.mem_cons.1 hb with e|e
     ·rw[e];exact h
     ·exact h1 b e
    ·refine .inr ⟨c::a,r,by rw[h1];rfl,fun b hb=>?_⟩
     rcases List.mem_cons.1 hb with e|e
     ·rw[e];exact h
     ·exact h2 b e
theorem zEH:∀ l:List UInt8,(∀ b∈l,b≠47)→Lib.index l [47]=-1
 | [],_=>rfl
 | c::t,h=>by
   have hb:(47==c)=false:=by have:=h c (by simp);simpa using fun e=>this e.symm
   unfold Lib.index
   rw[List.isPrefixOf,hb,Bool.false_and,zEH t fun b hb=>h b (by simp[hb])]
   rfl
theorem zIg:∀ l r:List UInt8,(∀ b∈l,b≠47)→Lib.index (l++47::r) [47]=(l.length:Int)
 | [],r,_=>by
   rw[List.nil_append]
   unfold Lib.index
   rw[show [47].isPrefixOf (47::r)=true from by simp[List.isPrefixOf]]
   rfl
 | c::t,r,h=>by
   have hb:(47==c)=false:=by have:=h c (by simp);simpa using fun e=>this e.symm
   rw[List.cons_append]
   unfold Lib.index
   rw[List.isPrefixOf,hb,Bool.false_and,zIg t r fun b hb=>h b (by simp[hb])]
   have hne:((t.length:Int)==-1)=false:=by simp
   rw[hne]
   simp
def zA4:ByteArray:=⟨#[47]⟩
def mkS (l:List UInt8):ByteArray:=⟨l.toArray⟩
theorem zSV:∀ (n:Nat) (s:ByteArray),s.size≤n→Lib.splitB zA4 0 (Lib.countB s zA4) s=(cutS [] s.data.toList).map mkS:=by
 intro n
 induction n with
 | zero=>
   intro s hs
   have e:s.data.toList=[]:=List.eq_nil_of_length_eq_zero (by rw[←zAJ];omega)
   have hi:Lib.indexB s zA4=-1:=zEH _ (by rw[e];intro b hb;cases hb)
   rw[Lib.countB_miss s zA4 hi,Lib.splitB_zero,zFQ _ _ (by rw[e];intro b hb;cases hb)]
   exact congrArg (fun x=>[x]) (ByteArray.ext (Array.ext' (by simp[mkS])))
 | succ n ih=>
   intro s hs
   rcases cut47 s.data.toList with h|⟨a,r,h1,h2⟩
   ·have hi:Lib.indexB s zA4=-1:=zEH _ h
    rw[Lib.countB_miss s zA4 hi,Lib.splitB_zero,zFQ _ _ h]
    exact congrArg (fun x=>[x]) (ByteArray.ext (Array.ext' (by simp[mkS])))
   ·have hi:Lib.indexB s zA4=(a.length:Int):=by
     show Lib.index s.data.toList [47]=_
     rw[h1];exact zIg a r h2
    have hsz:zA4.size=1:=rfl
    have hss:s.size=a.length+(r.length+1):=by rw[zAJ,h1,List.length_append,List.length_cons]
    rw[Lib.countB_hit s zA4 a.length (by rw[hsz];omega) hi,Nat.add_comm 1,Lib.splitB_hit zA4 0 _ s _ hi]
    have e1:s.extract 0 (a.length+0)=mkS a:=by
     apply ByteArray.ext
     apply Array.ext'
     rw[Lib.extract_from_zero,h1,Nat.add_zero,List.take_left]
     simp[mkS]
    have e2:(s.extract (a.length+zA4.size) s.size).data.toList=r:=by
     rw[Lib.extract_to_end,h1,hsz,show a++47::r=(a++[47])++r by simp,show a.length+1=(a++[47]).length by simp,List.drop_left]
    have e3:=ih (s.extract (a.length+zA4.size) s.size) (by rw[ByteArray.size_extract,hsz];omega)
    rw[e1,e3,e2,h1,zMf a [] r h2]
    rfl
def zAZ (s:ByteArray):Bool:=decide (s.size≤4096)&&match s.data.toList with
 | []=>false
 | c::r=>decide (c=47)&&(cutS [] r).all fun l=>zA3 (mkS l)
theorem zJn (s:ByteArray) (hs:s.size≤67108864) (w:World) (hm:MaxL w) :
  Calls Tryz.prog 58 #[.string s] w fun e w'=>e=.returned (.bool (zAZ s))∧Below w.heap.size w w':=by
 by_cases h1:4096<s.size
 ·have Hn:Hid (zAZ s=false):=by unfold Hid zAZ;rw[decide_eq_false (by omega)];rfl
  have h1I:(4096:Int)<s.size:=by omega
  clear h1 hm
  go_enter Tryz.func58,Tryz.ntmps58
  go_wp2_with fail
  go_ret
  exact ⟨zAB Hn.out.symm,bR _ _⟩
 have h1I:¬(4096:Int)<s.size:=by omega
 have Hpre:Hid (∀ W,Calls Tryz.prog 118 #[.string s,.string ⟨#[47]⟩] W fun e w'=>e=.returned (.bool ([47].isPrefixOf s.data.toList))∧w'=W):=fun W=>Tryz.strings_HasPrefix s ⟨#[47]⟩ W
 cases hp:[47].isPrefixOf s.data.toList with
 | false=>
   have Hn:Hid (zAZ s=false):=by
    unfold Hid zAZ
    cases hd:s.data.toList with
    | nil=>simp
    | cons c r=>
      rw[hd,List.isPrefixOf] at hp
      have:decide (c=47)=false:=by
       simp at hp
       exact decide_eq_false fun e=>hp e.symm
      simp only[this];simp
   rw[hp] at Hpre
   clear h1 hm hp
   go_enter Tryz.func58,Tryz.ntmps58
   go_wp2_with fail
   refine (Hpre.out _).mono ?_
   rintro e w1 ⟨rfl,rfl⟩
   go_wp2_with fail
   go_ret
   exact ⟨zAB Hn.out.symm,bR _ _⟩
 | true=>
   obtain ⟨r,hr⟩:∃ r,s.data.toList=47::r:=by
    obtain ⟨t,ht⟩:=List.isPrefixOf_iff_prefix.1 hp
    exact ⟨t,ht.symm⟩
   have he:(s.extract 1 s.size).data.toList=r:=by rw[Lib.extract_to_end,hr];rfl
   have hs1:1≤s.size:=by rw[zAJ,hr];simp
   have hsp:=zSV _ (s.extract 1 s.size) (nR _)
   rw[he] at hsp
   have hln:=Lib.splitB_all zA4 (by decide +kernel) 0 _ (s.extract 1 s.size) rfl
   have hsl:=zG1 zA4 (Lib.countB (s.extract 1 s.size) zA4) (s.extract 1 s.size)
   have hcl:=Lib.countB_le zA4 (by decide +kernel) _ (s.extract 1 s.size) (nR _)
   have hrs:(s.extract 1 s.size).size≤s.size:=by rw[ByteArray.size_extract];omega
   have Hq:Hid (zAZ s=((cutS [] r).map mkS).all zA3):=by
    unfold Hid zAZ
    rw[hr,decide_eq_true (p:=s.size≤4096) (by omega),List.all_map]
    rfl
   obtain ⟨m,hm⟩:=hm
   have Hsp:Hid (∀ W,W.cell? ⟨0,0,none⟩=some (.int .i64 m)→Calls Tryz.prog 119 #[.string (s.extract 1 s.size),.string ⟨#[47]⟩] W fun e w'=>e=.returned (.slice (some ⟨W.heap.size,0,none⟩) (Lib.countB (s.extract 1 s.size) zA4+1) (Lib.countB (s.extract 1 s.size) zA4+1))∧w'=W.alloc (.cells ((Lib.splitB zA4 0 (Lib.countB (s.extract 1 s.size) zA4) (s.extract 1 s.size)).map Value.string).toArray 9)):=
    fun W hW=>Tryz.strings_Split (s.extract 1 s.size) zA4 m W (by omega) hW (by decide +kernel)
   rw[hsp] at hln hsl Hsp
   rw[hp] at Hpre
   have Hm:=cH hm
   have Hln:=cH hln
   have Hsl:=cH hsl
   have hs1I:(1:Int)≤(s.size:Int):=by omega
   clear hp hr he hsp hln hsl hm h1
   generalize hcc:Lib.countB (s.extract 1 s.size) zA4=cc at *
   generalize (cutS [] r).map mkS=pp at *
   clear hcc
   go_enter Tryz.func58,Tryz.ntmps58
   go_wp2_with fail
   refine (Hpre.out _).mono ?_
   rintro e w1 ⟨rfl,rfl⟩
   go_wp2_with fail
   refine (Hsp.out _ Hm.out).mono ?_
   rintro e w2 ⟨rfl,hw2⟩
   have HV:Hid (SlV rStr w2 (fun b=>b<w2.heap.size) pp (.slice (some ⟨w1.heap.size,0,none⟩) (cc+1) (cc+1))):=by
    unfold Hid
    rw[hw2]
    exact SlV.of_block (zAT _ _) (by rw[List.toList_toArray];exact zIY fun x hx=>by have:=Hsl.out x hx;unfold maxLen;omega) (by rw[World.size_alloc];omega) Hln.out.symm (by rw[Hln.out];exact nR _) (by unfold maxLen;omega)
   have HB:Hid (Below w1.heap.size w1 w2):=by unfold Hid;rw[hw2];exact bal (bR _ _) _
   clear hw2 Hsp
   obtain ⟨g,hg⟩:∃ g,g=w1.heap.size:=⟨_,rfl⟩
   obtain ⟨N,hN⟩:∃ N,N=cc+1:=⟨_,rfl⟩
   rw[←hg,←hN] at HV ⊢
   rw[←hN] at Hln
   clear hg Hpre
   have hN2:N≤67108870:=by omega
   clear hN
   have Hle:Hid (∀ x∈pp,x.size≤maxLen):=fun x hx=>by have:=Hsl.out x hx;unfold maxLen;omega
   have HP:Hid (∀ x,x∈pp→∀ W,Calls Tryz.prog 120 #[.string x] W fun e w'=>e=.returned (.bool (zA3 x))∧Below W.heap.size W w'):=fun x hx W=>zKN x (Hle.out x hx) W
   go_wp2_with fail
   clear h1I hs1I
   go_loopw [17] (fun i wr=>∃ k:Nat,k≤N∧i=.int .i64 k∧Hid (Below w2.heap.size w2 wr)∧Hid (pp.all zA3=(pp.drop k).all zA3)) (fun i _=>N - (intOf i).toNat)
   case atStart=>exact ⟨0,nZ _,rfl,bR _ _,rfl⟩
   case round=>
    obtain ⟨k,hk,rfl,HBw,hrl⟩:=hrel
    by_cases hlt:k<N
    ·have hkI:(k:Int)<(N:Int):=by omega
     have hkp:k<pp.length:=by rw[Hln.out];exact hlt
     have hx:=gE hkp
     have hxm:pp[k]∈pp:=List.getElem_mem hkp
     have hst:(pp.drop k).all zA3=(zA3 pp[k]&&(pp.drop (k+1)).all zA3):=by rw[dC hkp,List.all_cons]
     generalize pp[k]=x at *
     have HPx:=cH (HP.out x hxm)
     obtain ⟨b,o,cs,hA,_,_,hcs,hcell⟩:=(HV.out.belowSize HBw.out).elem hx
     simp only[Option.some.injEq,Addr.mk.injEq,and_true] at hA
     obtain ⟨rfl,rfl⟩:=hA
     have c0:=hcell 0 _ (by rw[hcs.1];rfl)
     rw[show 0+k * rStr.size+0=k from by show 0+k * 1+0=k;omega] at c0
     have Hst:=cH hst
     clear hcell hcs hx hxm hkp hst
     go_wp2_with fail
     refine (HPx.out _).mono ?_
     rintro e w3 ⟨rfl,hb3⟩
     have HB3:=cH (bot HBw.out hb3)
     cases hpc:zA3 x with
     | true=>
       have hok:Hid (pp.all zA3=(pp.drop (k+1)).all zA3):=by
        unfold Hid;rw[hrl.out,Hst.out,hpc];rfl
       clear hb3 c0 hrl Hst hpc HBw HPx
       go_wp2_with fail
       go_roundw
       case rel=>exact ⟨k+1,by omega,by go_num,HB3,hok⟩
       case measure=>simp[intOf];omega
     | false=>
       have hbad:Hid (zAZ s=false):=by
        unfold Hid;rw[Hq.out,hrl.out,Hst.out,hpc];rfl
       clear hb3 c0 hrl Hst hpc HBw HPx
       go_wp2_with fail
       go_ret
       exact ⟨zAB hbad.out.symm,bot HB.out HB3.out⟩
    ·have hkI:¬(k:Int)<(N:Int):=by omega
     have hok:Hid (zAZ s=true):=by
      unfold Hid;rw[Hq.out,hrl.out,dN (by rw[Hln.out];omega)];rfl
     clear hrl
     go_wp2_with fail
     go_ret
     exact ⟨zAB hok.out.symm,bot HB.out HBw.out⟩
def findF:List File→ByteArray→Option Nat
 | [],_=>none
 | f::t,p=>if f.path=p then some 0 else (findF t p).map (·+1)
theorem ret_i {a b:Int} (h:a=b):Ending.returned (.int .i64 a)=.returned (.int .i64 b):=by rw[h]
def kindF (l:List File) (p:ByteArray):Int:=if p=zA4 then 2 else match (findF l p).bind (l[·]?) with
 | none=>0
 | some f=>if f.dir=true then 2 else 1
theorem zEU:∀ {l:List File} {p:ByteArray} {k:Nat},findF l p=some k→∃ x,l[k]?=some x∧x.path=p
 | [],p,k,h=>by rw[findF] at h;cases h
 | f::t,p,k,h=>by
   rw[findF] at h
   by_cases e:f.path=p
   ·rw[if_pos e] at h
    cases h
    exact ⟨f,rfl,e⟩
   ·rw[if_neg e] at h
    cases hq:findF t p with
    | none=>rw[hq] at h;cases h
    | some q=>
      rw[hq] at h
      simp only[Option.map_some,Option.some.injEq] at h
      subst h
      obtain ⟨x,h1,h2⟩:=zEU hq
      exact ⟨x,h1,h2⟩
end Go.Proofs.YthbnmehbhpakaaaGreatDoor
namespace Go.Proofs.YthbnmehbhpakaaaGreatDoor
open Go.Rows Go.RowKit Go.Shelf Go.Maps
def zBo:Value→Option (DataW Unit×List MemPlace)
 | .agg cs=>match cs.toList with
   | [.bool d,.string s]=>some (.agg [.lit (.bool d),.lit (.string s.data.toList)],[])
   | _=>none
 | _=>none
def zMy (d:Bool) (s:ByteArray):DataW Unit:=.agg [.lit (.bool d),.lit (.string s.data.toList)]
theorem zGH (d:Bool) (s:ByteArray):zBo (.agg #[.bool d,.string s])=some (zMy d s,[]):=rfl
theorem zFL {v:Value} {d:Bool} {s:ByteArray} {ps:List MemPlace} (h:zBo v=some (zMy d s,ps)):v=.agg #[.bool d,.string s]:=by
 unfold zBo at h
 split at h
 ·rename_i cs
  split at h
  ·rename_i d' s' hc
   simp only[zMy,Option.some.injEq,Prod.mk.injEq,DataW.agg.injEq,List.cons.injEq,DataW.lit.injEq,Lit.bool.injEq,Lit.string.injEq,and_true] at h
   obtain ⟨⟨rfl,h2⟩,_⟩:=h
   rw[←zAt h2]
   congr 1
   exact Array.ext' hc
  ·cases h
 ·cases h
theorem zOa (w:World):(zeroValue 111).run Tryz.prog w=.ok (.agg #[.bool false,.string ⟨#[]⟩]) w:=by kernel_rfl
def zAK (l:List File) (p:ByteArray):Option File:=(findF l p).bind (l[·]?)
def dirAt (l:List File) (p:ByteArray):Bool:=match zAK l p with|none=>false|some f=>f.dir
def zIl (l:List File) (p:ByteArray):ByteArray:=match zAK l p with|none=>⟨#[]⟩|some f=>f.data
def zAq (w:World) (B:Nat) (l:List File):Prop:=
 ∃ (n:Nat) (D:DataW Unit),w.ownsMap Tryz.prog 9 zBo B n D∧n≤l.length∧IsMap D∧∀ p:ByteArray,Maps.has D (.string p.data.toList)=(zAK l p).isSome ∧
   ∀ zd,D.atKey (.string p.data.toList) zd=match zAK l p with|none=>zd|some f=>zMy f.dir f.data
theorem zAq.made (w:World):zAq (w.alloc (.map #[] 0)) w.heap.size []:=
 ⟨0,.map [],World.ownsMap_made _ _ _ _,nR _,isMap_empty,fun p=>⟨rfl,fun zd=>rfl⟩⟩
theorem zAq.kept {w w':World} {B:Nat} {l:List File} {row:Option Nat} (h:zAq w B l) (hg:w.grownBy w' row) (hne:some B≠row):zAq w' B l:=by
 obtain ⟨n,D,h1,h2⟩:=h
 exact ⟨n,D,h1.kept hg hne,h2⟩
theorem zAq.keep {w w':World} {B:Nat} {l:List File} (h:zAq w B l) (hb:Below w.heap.size w w'):zAq w' B l:=
 h.kept (row:=none) ⟨hb.os,hb.tape,hb.output,hb.size,fun k hk _=>hb.block k hk⟩ (by simp)
theorem zAq.look {W:World} {B:Nat} {l:List File} {p:ByteArray} (h:zAq W B l) (hp:p.size≤maxLen) :
  (Instr.lookup 113 (.map (some B)) (.string p) true).run Tryz.prog W=.ok (.tuple #[.agg #[.bool (dirAt l p),.string (zIl l p)],.bool (zAK l p).isSome]) W:=by
 obtain ⟨n,D,h1,h2,h3,h4⟩:=h
 have hkey:=Go.WideMaps.keyOf_string_mk (P:=Tryz.prog) Tryz.underlying9 hp
 obtain ⟨v,ps,r1,r2⟩:=h1.look_ok zB4 Tryz.underlying113 (zOa W) (zGH false ⟨#[]⟩) hkey
 obtain ⟨q1,q2⟩:=h4 p
 rw[q1] at r1
 rw[q2] at r2
 unfold dirAt zIl
 cases ht:zAK l p with
 | none=>
   rw[ht] at r1 r2
   rw[zFL r2] at r1
   exact r1
 | some f=>
   rw[ht] at r1 r2
   rw[zFL r2] at r1
   exact r1
theorem zKw (x:File) (p:ByteArray):∀ l:List File,findF (l++[x]) p=match findF l p with
  | some k=>some k
  | none=>if x.path=p then some l.length else none
 | []=>by
   show findF [x] p=_
   rw[findF]
   by_cases h:x.path=p
   ·rw[if_pos h];simp[findF,h]
   ·rw[if_neg h];simp[findF,h]
 | f::t=>by
   rw[List.cons_append,findF,findF]
   by_cases h:f.path=p
   ·rw[if_pos h,if_pos h]
   ·rw[if_neg h,if_neg h,zKw x p t]
    cases findF t p with
    | some k=>rfl
    | none=>
      by_cases e:x.path=p
      ·simp[e]
      ·simp[e]
theorem zGZ {l:List File} {x:File} {p:ByteArray} (h:findF l x.path=none):zAK (l++[x]) p=if x.path=p then some x else zAK l p:=by
 unfold zAK
 rw[zKw]
 by_cases e:x.path=p
 ·subst e
  rw[h,if_pos rfl,if_pos rfl]
  simp
 ·rw[if_neg e]
  cases hf:findF l p with
  | none=>simp[e]
  | some k=>
    obtain ⟨y,hy,_⟩:=zEU hf
    have hk:=(gS.1 hy).1
    simp only[Option.bind_some]
    rw[List.getElem?_append_left hk,if_neg e]
theorem zAq.put {W:World} {B:Nat} {l:List File} {x:File} (h:zAq W B l) (hp:x.path.size≤maxLen) (hl:l.length≤1000000000) (hno:findF l x.path=none) :
  ∃ w',(Instr.mapUpdate 113 (.map (some B)) (.string x.path) (.agg #[.bool x.dir,.string x.data])).run Tryz.prog W=.ok () w'∧zAq w' B (l++[x])∧W.grownBy w' (some B):=by
 obtain ⟨n,D,h1,h2,h3,h4⟩:=h
 have hkey:=Go.WideMaps.keyOf_string_mk (P:=Tryz.prog) Tryz.underlying9 hp
 obtain ⟨w',r1,r2,r3⟩:=h1.store zB4 Tryz.underlying113 (by unfold maxLen;omega) hkey (zGH x.dir x.data)
 refine ⟨w',r1,⟨n+1,_,r2,by simp;omega,h3.put _ _,fun p=>?_⟩,r3.grown⟩
 rw[zGZ hno]
 by_cases e:x.path=p
 ·subst e
  rw[if_pos rfl]
  exact ⟨has_put_same h3 (by trivial) _,fun zd=>atKey_put_same h3 (by trivial) _ _⟩
 ·rw[if_neg e]
  have hne:(Lit.string p.data.toList)≠.string x.path.data.toList:=fun he=>e (zAt (by simpa using he.symm))
  refine ⟨(has_put_other hne _).trans (h4 p).1,fun zd=>?_⟩
  rw[atKey_put_other hne]
  exact (h4 p).2 zd
theorem zEZ {l:List File} {p:ByteArray} (h:p=zA4):kindF l p=2:=by unfold kindF;rw[if_pos h]
theorem zGT {l:List File} {p:ByteArray} (h:p≠zA4):kindF l p=match zAK l p with|none=>0|some f=>if f.dir=true then 2 else 1:=by unfold kindF zAK;rw[if_neg h];first|done|(cases (findF l p).bind (fun x=>l[x]?)<;>rfl)
theorem zKQ (d B:Nat) (rv zv:Value) (l:List File) (p:ByteArray) (w:World) (hp:p.size≤maxLen)
  (hd:w.cell? ⟨d,0,none⟩=some (.map (some B))) (hl:zAq w B l) :
  Calls Tryz.prog 59 #[.pointer (some ⟨d,0,none⟩),.string p] w fun e w'=>e=.returned (.int .i64 (kindF l p))∧Below w.heap.size w w':=by
 have hlook:=hl.look hp
 by_cases hs:p=zA4
 ·have hb:(p.toList==[47])=true:=zIm hs
  have hr:=cH (zEZ (l:=l) hs)
  clear hs hl
  generalize dirAt l p=dd at *
  generalize zIl l p=da at *
  generalize (zAK l p).isSome=z at *
  go_enter Tryz.func59,Tryz.ntmps59
  go_wp2_with fail
  go_ret
  exact ⟨ret_i hr.out.symm,bal (bR _ _) _⟩
 have hb:(p.toList==[47])=false:=zHd hs
 have hr:=cH (zGT (l:=l) hs)
 clear hs hl
 cases ht:zAK l p with
 | none=>
   have hr':Hid (kindF l p=0):=by unfold Hid;rw[hr.out,ht]
   rw[ht] at hlook
   simp only[Option.isSome_none] at hlook
   clear hr ht
   generalize dirAt l p=dd at *
   generalize zIl l p=da at *
   go_enter Tryz.func59,Tryz.ntmps59
   go_wp2_with fail
   go_ret
   exact ⟨ret_i hr'.out.symm,bal (bR _ _) _⟩
 | some f=>
   have hdir:dirAt l p=f.dir:=by unfold dirAt;rw[ht]
   have hr':kindF l p=if f.dir=true then 2 else 1:=by rw[hr.out,ht]
   rw[ht,hdir] at hlook
   simp only[Option.isSome_some] at hlook
   clear hr ht hdir
   generalize zIl l p=da at *
   cases hf:f.dir with
   | true=>
     rw[hf] at hlook hr'
     have HR:=cH hr'
     clear hr' hf
     go_enter Tryz.func59,Tryz.ntmps59
     go_wp2_with fail
     go_ret
     exact ⟨ret_i HR.out.symm,bal (bR _ _) _⟩
   | false=>
     rw[hf] at hlook hr'
     have HR:=cH hr'
     clear hr' hf
     go_enter Tryz.func59,Tryz.ntmps59
     go_wp2_with fail
     go_ret
     exact ⟨ret_i HR.out.symm,bal (bR _ _) _⟩
