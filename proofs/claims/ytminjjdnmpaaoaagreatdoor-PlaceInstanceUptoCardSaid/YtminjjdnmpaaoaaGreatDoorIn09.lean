/- A path's text: the program's tree.Text (a Builder) and the document's Text (12). -/
import Derived.Test.YtminjjdnmpaaoaaGreatDoorRows
import Derived.Test.YtminjjdnmpaaoaaGreatDoorIn01
import Derived.Test.YtminjjdnmpaaoaaGreatDoorIn02
import Derived.Test.YtminjjdnmpaaoaaGreatDoorIn06
import Derived.Test.YtminjjdnmpaaoaaGreatDoorIn07
import Derived.Laws.Concat
import Derived.WalkKit
import Derived.WalkSpells
import Derived.WalkLawsBesides
import Derived.IntWalk
import Derived.Lib.Hide
import Derived.Test.YtminjjdnmpaaoaaGreatDoorIn03
import Derived.Test.YtminjjdnmpaaoaaGreatDoorIn08
import Derived.Laws.OwnMore
import Derived.Deep.AppendSrc
import Derived.Deep.Upon
import Derived.Test.YtminjjdnmpaaoaaGreatDoorAl
set_option linter.all false
set_option maxHeartbeats 3200000
set_option maxRecDepth 100000
namespace Go.Proofs.YtminjjdnmpaaoaaGreatDoor
open Go.Rows Go.RowKit Go.Shelf
def stepB:ByteArray:=⟨#[47,109,111,100,117,108,101,115,47]⟩
def zAx:List ByteArray→List UInt8
 | []=>[]
 | s::t=>(stepB.data.toList++s.data.toList)++zAx t
def textB (l:List ByteArray):ByteArray:=if l=[] then ⟨#[47]⟩ else if l.all nameB=true then ⟨(zAx l).toArray⟩ else ⟨#[]⟩
theorem zGX (a b:List ByteArray):zAx (a++b)=zAx a++zAx b:=by
 induction a with
 | nil=>rfl
 | cons s t ih=>rw[List.cons_append,zAx,ih,zAx];simp[List.append_assoc]
theorem zIR {l:List ByteArray} {k:Nat} (h:k<l.length):zAx (l.take (k+1))=zAx (l.take k)++stepB.data.toList++l[k].data.toList:=by
 rw[List.take_succ_eq_append_getElem h,zGX]
 simp[zAx,List.append_assoc]
theorem zL9 {α:Type} {p:α→Bool} {l:List α} {k:Nat} (h:k<l.length) (h0:(l.take k).all p=true) (h1:p l[k]=true):(l.take (k+1)).all p=true:=by
 rw[List.take_succ_eq_append_getElem h,List.all_append,h0]
 simp[h1]
theorem zNN {α:Type} {p:α→Bool} {l:List α} {k:Nat} (h:k<l.length) (h1:p l[k]=false):l.all p=false:=by
 rw[List.all_eq_false]
 exact ⟨l[k],List.getElem_mem h,by simp[h1]⟩
theorem zIw {s:ByteArray} (h:nameB s=true):s.size≤16:=by
 rcases Nat.lt_or_ge 16 s.size with h'|h'
 ·have:nameL s.data.toList=false:=zFW (by rw[←zBD];exact h')
  unfold nameB at h;rw[this] at h;cases h
 ·exact h'
theorem zI3:∀ {l:List ByteArray},l.all nameB=true→(zAx l).length≤25 * l.length:=by
 intro l
 induction l with
 | nil=>intro _;exact nR _
 | cons s t ih=>
   intro h
   rw[List.all_cons,Bool.and_eq_true] at h
   have h1:=zIw h.1
   have h2:=ih h.2
   rw[zBD] at h1
   have h3:stepB.data.toList.length=9:=by decide
   rw[zAx,List.length_append,List.length_append,List.length_cons]
   omega
theorem zCN (A:Option Addr) (n c:Nat) (l:List ByteArray) (w:World) (S:Nat→Prop) (hS:∀ b,S b→b<w.heap.size) (hmax:l.length * 32≤140737488355328)
  (hl:SlV rStr w S l (.slice A n c)) :
  Calls Tryz.prog 19 #[.slice A n c] w fun e w'=>e=.returned (.string (textB l))∧Below w.heap.size w w':=by
 have hnx:=hl.n_eq
 have Hnx:=cH hnx
 by_cases h0:l=[]
 ·have hn0:n=0:=by rw[hnx,h0];rfl
  have e0:textB l=⟨#[47]⟩:=if_pos h0
  have E0:=cH e0
  clear Hnx hnx h0 hl hmax hS e0
  subst hn0
  go_enter Tryz.func19,Tryz.ntmps19
  go_wp2_with fail
  go_ret
  exact ⟨zBu E0.out.symm,bR _ _⟩
 ·have hn0:n≠0:=by rw[hnx];exact fun h=>h0 (List.eq_nil_of_length_eq_zero h)
  have hyes:l.all nameB=true→textB l=⟨(zAx l).toArray⟩:=fun h=>by unfold textB;rw[if_neg h0,if_pos h]
  have hno:l.all nameB=false→textB l=⟨#[]⟩:=fun h=>by unfold textB;rw[if_neg h0,h];rfl
  have Hyes:=cH hyes;clear hyes
  have Hno:=cH hno;clear hno
  have hn63:n≤9223372036854775807:=by omega
  have hne:((n:Int)==0)=false:=by simp[hn0]
  have Hm:=cH hmax;clear hmax
  clear hnx h0
  go_enter Tryz.func19,Tryz.ntmps19
  go_wp2
  go_loopw [11] (fun i wr=>∃ k:Nat,k≤n∧i=.int .i64 k∧Hid (IsB w.heap.size w.heap.size (Lib.byteCells (zAx (l.take k))) wr)∧Below w.heap.size w wr∧Hid ((l.take k).all nameB=true)) (fun i _=>n - (intOf i).toNat)
  case atStart=>exact ⟨0,nZ _,rfl,Lib.fresh_isBuilder _ _ _,(bR _ _).alloc (nR _) _,rfl⟩
  case round=>
   obtain ⟨k,hk,rfl,hB,hbel,hall⟩:=hrel
   have hbw:=hbel.size
   have Hbw:=cH hbw
   by_cases hlt:k<n
   ·have hkx:k<l.length:=by have:=Hnx.out;omega
    have hlw:=hl.below hbel hS
    obtain ⟨b,o,cs,rfl,hSb,hb1,hsp,hcell⟩:=hlw.elem (gE hkx)
    obtain ⟨rfl,hsz⟩:=hsp
    have hc0:=hcell 0 _ rfl
    simp only[rStr,Nat.add_zero,Nat.mul_one] at hc0
    have hkn:(k:Int)<(n:Int):=by omega
    have htk:=zIR hkx
    have Htk:=cH htk;clear htk
    have Hall:=cH (fun h=>zL9 (p:=nameB) hkx hall.out h)
    have Hnot:=cH (fun h=>Hno.out (zNN (p:=nameB) hkx h))
    have hjl:=zI3 hall.out
    have hjl':(zAx (l.take k)).length≤25 * k:=by rw[List.length_take] at hjl;omega
    have Hjl:=cH hjl';clear hjl hjl'
    have hnl:nameB l[k]=true→l[k].size≤16:=fun hq=>zIw hq
    have Hnl:=cH hnl;clear hnl
    generalize hs:l[k]=s at *
    clear hcell hlw
    go_wp2_with fail
    refine (zBe s hsz _).mono ?_
    rintro e w1 ⟨rfl,hb1⟩
    have hbel1:=hbel.trans (hb1.mono hbw)
    have hbw1:=hbel1.size
    by_cases hq:nameB s=true
    ·have hk1:=Hall.out hq
     have Hk1:=cH hk1;clear hk1
     have hs16:=Hnl.out hq
     have hB1:=hB.out.keep hb1
     have HB1:=cH hB1;clear hB1 hB
     have Hbel1:=cH hbel1;clear hbel1 hbel hb1
     have hlen1:(Lib.byteCells (zAx (l.take k))).length+stepB.size≤140737488355328:=by
      have h9:stepB.size=9:=by decide
      have:=Hjl.out;have:=Hm.out;have:=Hnx.out
      rw[Lib.byteCells_length,h9];omega
     have Hlen1:=cH hlen1;clear hlen1
     clear Hall Hnot Hnl
     go_wp2_with fail
     refine (zBq _ _ _ stepB _ HB1.out Hlen1.out hbw1).mono ?_
     rintro e w2 ⟨rfl,hB2,hb2⟩
     have hB2':IsB w.heap.size w.heap.size (Lib.byteCells (zAx (l.take k)++stepB.data.toList)) w2:=.inr (by rw[Lib.byteCells_append];exact hB2)
     have HB2:=cH hB2';clear hB2 hB2' HB1
     have hbel2:=Hbel1.out.trans hb2
     have hbw2:=hbel2.size
     have Hbel2:=cH hbel2;clear hbel2 hb2
     have hlen2:(Lib.byteCells (zAx (l.take k)++stepB.data.toList)).length+s.size≤140737488355328:=by
      have h9:stepB.data.toList.length=9:=by decide
      have:=Hjl.out;have:=Hm.out;have:=Hnx.out
      rw[Lib.byteCells_length,List.length_append,h9];omega
     have Hlen2:=cH hlen2;clear hlen2
     go_wp2_with fail
     refine (zBq _ _ _ s _ HB2.out Hlen2.out hbw2).mono ?_
     rintro e w3 ⟨rfl,hB3,hb3⟩
     have hB3':IsB w.heap.size w.heap.size (Lib.byteCells (zAx (l.take (k+1)))) w3:=.inr (by rw[Htk.out,Lib.byteCells_append];exact hB3)
     have HB3:=cH hB3';clear hB3 hB3' HB2
     have Hbel3:=cH (Hbel2.out.trans hb3);clear hb3
     go_wp2_with fail
     go_round
     case rel=>exact ⟨k+1,by omega,by go_num,HB3,Hbel3.out,Hk1⟩
     case measure=>simp[intOf];omega
    ·have hq':nameB s=false:=by simpa using hq
     have He:=cH (Hnot.out hq')
     clear Hall Hnot Hnl hq
     go_wp2_with fail
     go_ret
     exact ⟨zBu He.out.symm,hbel1⟩
   ·have hkn:k=n:=by omega
    have htake:l.take k=l:=by have:=Hnx.out;rw[hkn,this];exact List.take_length
    have he:=Hyes.out (by rw[←htake];exact hall.out)
    have He:=cH he;clear he
    have hB':IsB w.heap.size w.heap.size (Lib.byteCells (zAx l)) wr:=by rw[←htake];exact hB.out
    have HB:=cH hB';clear hB' hB htake hall
    have Hbel:=cH hbel;clear hbel
    subst hkn
    go_wp2_with fail
    refine (Tryz.Builder_String_any _ _ _ _ HB.out hbw).mono ?_
    rintro e w1 ⟨rfl,hb1⟩
    go_wp2_with fail
    go_ret
    exact ⟨zBu He.out.symm,Hbel.out.trans hb1⟩
end Go.Proofs.YtminjjdnmpaaoaaGreatDoor
namespace Go.Proofs.YtminjjdnmpaaoaaGreatDoor
open Go.Rows Go.RowKit Go.Shelf Go.Sort
def lastN (p:List ByteArray):ByteArray:=p.getD (p.length - 1) ⟨#[]⟩
noncomputable def zC3 (t:List Dir) (d:Dir) (k:Nat):Bool:=
 decide (d.path.length≠0)&&(decide (textB d.path≠⟨#[]⟩)&&(decide ((textB d.path).size≤1024)&&(decide (1≤d.node)&&(decide (findI t d.path=(k:Int))&&(decide (0≤zEU t d.path)&&(decide (zEU t d.path<(k:Int))&&(packB d.pack&&decide (d.pack.name=lastN d.path))))))))
theorem zEu {w:World} {S:Nat→Prop} {d:Dir} {cs:List Value} (h:rDir.holds w S d cs):∃ A a B b C c D e,cs=[.slice A d.path.length a,.string d.pack.name,.int .i64 d.pack.ver.major,.int .i64 d.pack.ver.minor,.int .i64 d.pack.ver.patch,.slice B d.pack.deps.length b,.slice C d.pack.peers.length c,.slice D d.pack.opts.length e,.int .i64 d.node] ∧
  SlV rStr w S d.path (.slice A d.path.length a)∧PackV w S d.pack (.agg #[.string d.pack.name,.int .i64 d.pack.ver.major,.int .i64 d.pack.ver.minor,.int .i64 d.pack.ver.patch,.slice B d.pack.deps.length b,.slice C d.pack.peers.length c,.slice D d.pack.opts.length e])∧I64 d.node:=by
 obtain ⟨s0,s1,s2,s3,rfl,hp0,hn,_,_,_,hp1,hp2,hp3,hd⟩:=h
 obtain ⟨pA,pc,rfl,_,_⟩:=hp0.val
 obtain ⟨pB,pd,rfl,_,_⟩:=hp1.val
 obtain ⟨pC,pe,rfl,_,_⟩:=hp2.val
 obtain ⟨pD,pf,rfl,_,_⟩:=hp3.val
 exact ⟨_,_,_,_,_,_,_,_,rfl,hp0,⟨_,_,_,_,_,_,_,_,_,rfl,hn,hp1,hp2,hp3⟩,hd⟩
theorem zJM (A:Option Addr) (n c:Nat) (xs:List Dir) (w:World) (S:Nat→Prop) (k:Nat) (hk:k<xs.length) (ht:Tab w) (hlen:∀ d∈xs,d.path.length * 32≤140737488355328) (hx:SlV rDir w S xs (.slice A n c)) :
  Calls Tryz.prog 45 #[.agg #[.slice A n c],.int .i64 k] w fun e w'=>e=.returned (.bool (zC3 xs xs[k] k))∧Below w.heap.size w w':=by
 have hnx:=hx.n_eq
 have hcx:=hx.cap_le
 unfold maxLen at hcx
 have hn63:n≤9223372036854775807:=by omega
 have hx0:=hx
 obtain ⟨b,o,cs,rfl,_,hb1,hh,hcell⟩:=hx.elem (gE hk)
 obtain ⟨pA,pa,pB,pb,pC,pc,pD,pd,rfl,hp,hpk,hI⟩:=zEu hh
 have hpc:=hp.cap_le
 unfold maxLen at hpc
 have hlk:=hlen xs[k] (List.getElem_mem hk)
 have c0:=hcell 0 _ rfl
 have c1:=hcell 1 _ rfl
 have c2:=hcell 2 _ rfl
 have c3:=hcell 3 _ rfl
 have c4:=hcell 4 _ rfl
 have c5:=hcell 5 _ rfl
 have c6:=hcell 6 _ rfl
 have c7:=hcell 7 _ rfl
 have c8:=hcell 8 _ rfl
 simp only[rDir,Nat.add_zero] at c0 c1 c2 c3 c4 c5 c6 c7 c8
 have HR:Hid (zC3 xs xs[k] k=(decide (xs[k].path.length≠0)&&(decide (textB xs[k].path≠⟨#[]⟩)&&(decide ((textB xs[k].path).size≤1024)&&(decide (1≤xs[k].node)&&(decide (findI xs xs[k].path=(k:Int))&&(decide (0≤zEU xs xs[k].path)&&(decide (zEU xs xs[k].path<(k:Int))&&(packB xs[k].pack&&decide (xs[k].pack.name=lastN xs[k].path)))))))))):=rfl
 have Htx:Hid (∀ W,Below w.heap.size w W→Calls Tryz.prog 19 #[.slice pA xs[k].path.length pa] W fun e w'=>e=.returned (.string (textB xs[k].path))∧Below W.heap.size W w'):=fun W hW=>zCN _ _ _ _ W (fun b=>b<w.heap.size) (fun b h=>lL h hW.size) hlk ((hp.more (S':=fun b=>b<w.heap.size) fun b _ h=>h).belowSize hW)
 have Hfd:Hid (∀ W,Below w.heap.size w W→Calls Tryz.prog 18 #[.agg #[.slice (some ⟨b,o,none⟩) n c],.slice pA xs[k].path.length pa] W fun e w'=>e=.returned (.int .i64 (findI xs xs[k].path))∧Below W.heap.size W w'):=fun W hW=>zDR _ _ _ _ _ _ _ _ W _ _ (hx0.belowSize hW) (hp.belowSize hW)
 have Hab:Hid (∀ q,xs[k].path.length=q+1→∀ W,Below w.heap.size w W→Calls Tryz.prog 18 #[.agg #[.slice (some ⟨b,o,none⟩) n c],.slice pA q pa] W fun e w'=>e=.returned (.int .i64 (zEU xs xs[k].path))∧Below W.heap.size W w'):=fun q hq W hW=>by
  have e:zEU xs xs[k].path=findI xs (xs[k].path.take q):=by unfold zEU;rw[hq];rfl
  rw[e]
  exact zDR _ _ _ _ _ _ xs (xs[k].path.take q) W _ _ (hx0.belowSize hW) ((hp.take (by omega)).belowSize hW)
 have Hpk:Hid (∀ W,Below w.heap.size w W→Calls Tryz.prog 71 #[.agg #[.string xs[k].pack.name,.int .i64 xs[k].pack.ver.major,.int .i64 xs[k].pack.ver.minor,.int .i64 xs[k].pack.ver.patch,.slice pB xs[k].pack.deps.length pb,.slice pC xs[k].pack.peers.length pc,.slice pD xs[k].pack.opts.length pd]] W fun e w'=>e=.returned (.bool (packB xs[k].pack))∧Below W.heap.size W w'):=fun W hW=>zEv xs[k].pack _ W _ (zAT ht hW) (hpk.keep hW)
 have Hlast:Hid (∀ q,xs[k].path.length=q+1→∃ g u,pA=some ⟨g,u,none⟩∧g<w.heap.size∧w.cell? ⟨g,u+q,none⟩=some (.string (lastN xs[k].path))):=fun q hq=>by
  have hq':q<xs[k].path.length:=by omega
  obtain ⟨g,u,cs',rfl,_,hg,⟨rfl,_⟩,hc⟩:=hp.elem (gE hq')
  have:=hc 0 _ rfl
  simp only[rStr,Nat.add_zero,Nat.mul_one] at this
  refine ⟨g,u,rfl,hg,?_⟩
  rw[this];unfold lastN;rw[hq,List.getD_eq_getElem?_getD,show q+1 - 1=q from rfl,gE hq'];rfl
 clear hcell hp hpk hx hx0 hh hlk hlen
 have hI1:=hI.1
 have hI2:=hI.2
 clear hI
 generalize zC3 xs xs[k] k=R at *
 generalize textB xs[k].path=tx at *
 generalize findI xs xs[k].path=f at *
 generalize zEU xs xs[k].path=ab at *
 generalize packB xs[k].pack=pk at *
 generalize lastN xs[k].path=ls at *
 generalize xs[k].path.length=l0 at *
 generalize xs[k].pack.deps.length=l1 at *
 generalize xs[k].pack.peers.length=l2 at *
 generalize xs[k].pack.opts.length=l3 at *
 generalize xs[k].pack.name=nm at *
 generalize xs[k].pack.ver.major=y1 at *
 generalize xs[k].pack.ver.minor=y2 at *
 generalize xs[k].pack.ver.patch=y3 at *
 generalize xs[k].node=nd at *
 have hkn:(k:Int)<(n:Int):=by omega
 have hk0:(0:Int)≤(k:Int):=by omega
 clear hk hcx hnx ht
 go_enter Tryz.func45,Tryz.ntmps45
 go_wp2_with fail
 obtain ⟨w0,hw0⟩:∃ w0,w0=(w.alloc (.cells #[.slice (some ⟨b,o,none⟩) n c] 33)).alloc (.cells #[.slice pA l0 pa,.string nm,.int .i64 y1,.int .i64 y2,.int .i64 y3,.slice pB l1 pb,.slice pC l2 pc,.slice pD l3 pd,.int .i64 nd] 54):=⟨_,rfl⟩
 have hz:w.heap.size<w0.heap.size:=by rw[hw0];simp[go_sem]
 have hz1:w.heap.size+1<w0.heap.size:=by rw[hw0];simp[go_sem]
 have hb0:Below w.heap.size w w0:=by rw[hw0];exact bal (bal (bR _ _) _) _
 have a0:w0.cell? ⟨w.heap.size,0,none⟩=some (.slice (some ⟨b,o,none⟩) n c):=by rw[hw0];simp[go_sem]
 have e0:w0.cell? ⟨w.heap.size+1,0,none⟩=some (.slice pA l0 pa):=by rw[hw0];simp[go_sem]
 have e1:w0.cell? ⟨w.heap.size+1,1,none⟩=some (.string nm):=by rw[hw0];simp[go_sem]
 have e2:w0.cell? ⟨w.heap.size+1,2,none⟩=some (.int .i64 y1):=by rw[hw0];simp[go_sem]
 have e3:w0.cell? ⟨w.heap.size+1,3,none⟩=some (.int .i64 y2):=by rw[hw0];simp[go_sem]
 have e4:w0.cell? ⟨w.heap.size+1,4,none⟩=some (.int .i64 y3):=by rw[hw0];simp[go_sem]
 have e5:w0.cell? ⟨w.heap.size+1,5,none⟩=some (.slice pB l1 pb):=by rw[hw0];simp[go_sem]
 have e6:w0.cell? ⟨w.heap.size+1,6,none⟩=some (.slice pC l2 pc):=by rw[hw0];simp[go_sem]
 have e7:w0.cell? ⟨w.heap.size+1,7,none⟩=some (.slice pD l3 pd):=by rw[hw0];simp[go_sem]
 have e8:w0.cell? ⟨w.heap.size+1,8,none⟩=some (.int .i64 nd):=by rw[hw0];simp[go_sem]
 rw[←hw0]
 have HB0:=cH hb0;clear hb0 hw0 c0 c1 c2 c3 c4 c5 c6 c7 c8
 have HS:Hid (∀ W,Below w0.heap.size w0 W→Below w.heap.size w W):=fun W hW=>bot HB0.out hW
 refine (Htx.out w0 HB0.out).mono ?_
 rintro e w1 ⟨rfl,B1⟩
 have Q1:=cH B1;clear B1 Htx
 have f0:=zAA Q1.out e0 hz1
 have f8:=zAA Q1.out e8 hz1
 have g0:=zAA Q1.out a0 hz
 by_cases hl0:l0=0
 ·have hzb:((l0:Int)==0)=true:=by simp[hl0]
  have He:Hid (R=false):=by unfold Hid;rw[HR.out,hl0];rfl
  clear hl0
  go_wp2_with fail
  go_ret
  exact ⟨zAB He.out.symm,HS.out _ Q1.out⟩
 obtain ⟨q,rfl⟩:∃ q,l0=q+1:=⟨l0 - 1,by omega⟩
 clear hl0
 have hqb:(((q+1:Nat):Int)==0)=false:=by simp;omega
 have hqb':(((q:Int)+1)==0)=false:=by simp;omega
 obtain ⟨g,u,rfl,hg,hlc⟩:=Hlast.out q rfl
 by_cases htx:tx=⟨#[]⟩
 ·have htb:=zAn htx
  have htl:tx.toList=[]:=by rw[htx,Go.ByteArray.toList_eq]
  have htm:tx.toList.isEmpty=true:=by rw[htl];rfl
  have He:Hid (R=false):=by unfold Hid;rw[HR.out,htx];rfl
  clear htx
  go_wp2_with fail
  go_ret
  exact ⟨zAB He.out.symm,HS.out _ Q1.out⟩
 have htb:=zAa htx
 have htl:¬tx.toList=[]:=fun h=>htx (ByteArray.ext (Array.ext' (by rw[Go.ByteArray.toList_eq] at h;exact h)))
 have htm:tx.toList.isEmpty=false:=by cases e:tx.toList with|nil=>exact absurd e htl|cons=>rfl
 have Htn:=cH htx;clear htx
 by_cases hsz:tx.size≤1024
 case neg=>
  have hsi:(1024:Int)<(tx.size:Int):=by omega
  have hsj:¬(tx.size:Int)≤1024:=by omega
  have hsk:decide ((1024:Int)<(tx.size:Int))=true:=decide_eq_true hsi
  have He:Hid (R=false):=by unfold Hid;rw[HR.out,decide_eq_false hsz];simp
  clear hsz
  go_wp2_with fail
  go_ret
  exact ⟨zAB He.out.symm,HS.out _ Q1.out⟩
 have hsi:¬(1024:Int)<(tx.size:Int):=by omega
 have hsj:(tx.size:Int)≤1024:=by omega
 have hsk:decide ((1024:Int)<(tx.size:Int))=false:=decide_eq_false hsi
 by_cases hnd:1≤nd
 case neg=>
  have hni:nd<1:=by omega
  have hnk:decide (nd<1)=true:=decide_eq_true hni
  have He:Hid (R=false):=by unfold Hid;rw[HR.out,decide_eq_false hnd];simp
  clear hnd
  go_wp2_with fail
  go_ret
  exact ⟨zAB He.out.symm,HS.out _ Q1.out⟩
 have hni:¬nd<1:=by omega
 have hnk:decide (nd<1)=false:=decide_eq_false hni
 have HR2:Hid (R=(decide (f=(k:Int))&&(decide (0≤ab)&&(decide (ab<(k:Int))&&(pk&&decide (nm=ls)))))):=by
  unfold Hid;rw[HR.out,decide_eq_true Htn.out,decide_eq_true hsz,decide_eq_true hnd];simp
 clear HR hsz hnd Hlast Htn
 go_wp2_with fail
 refine (Hfd.out w1 (HS.out _ Q1.out)).mono ?_
 rintro e w2 ⟨rfl,B2⟩
 have Q2:=cH (bot Q1.out B2);clear B2 Hfd f0 f8 g0
 by_cases hf:f=(k:Int)
 case neg=>
  have hfb:(f != (k:Int))=true:=by simp[hf]
  have He:Hid (R=false):=by unfold Hid;rw[HR2.out,decide_eq_false hf];simp
  clear hf
  go_wp2_with fail
  go_ret
  exact ⟨zAB He.out.symm,HS.out _ Q2.out⟩
 have hfb:(f != (k:Int))=false:=by simp[hf]
 have HR3:Hid (R=(decide (0≤ab)&&(decide (ab<(k:Int))&&(pk&&decide (nm=ls))))):=by
  unfold Hid;rw[HR2.out,decide_eq_true hf];simp
 clear HR2 hf
 go_wp2_with fail
 have h0:=zAA Q2.out e0 hz1
 have h1:=zAA Q2.out a0 hz
 have hw1:IntKind.i64.wrap ((q:Int)+1 - 1)=(q:Int):=(IntWalk.i64_in _ ⟨by omega,by omega⟩).trans (by omega)
 have hw2:IntKind.i64.wrap (q:Int)=(q:Int):=IntWalk.i64_in _ ⟨by omega,by omega⟩
 have hqc:q≤pa:=by omega
 have Hc:=cH (qcall (w:=w2) (fun W hW=>Hab.out q rfl W (bot (HS.out _ Q2.out) hW)))
 clear Hab
 have r_h0:=cR h0
 have r_h1:=cR h1
 refine wQ ?_
 repeat (go_big_quiet_step (first|(with_reducible exact Hc.out _ _)))
 refine wpQuiet_nil fun w3 B3=>?_
 have Q3:=cH (bot Q2.out B3);clear B3 Hc r_h0 r_h1 h0 h1
 have i0:=zAA Q3.out e0 hz1
 have i1:=zAA Q3.out e1 hz1
 have i2:=zAA Q3.out e2 hz1
 have i3:=zAA Q3.out e3 hz1
 have i4:=zAA Q3.out e4 hz1
 have i5:=zAA Q3.out e5 hz1
 have i6:=zAA Q3.out e6 hz1
 have i7:=zAA Q3.out e7 hz1
 have i8:=zAA (HS.out _ Q3.out) hlc hg
 have Hc:=cH (qcall (w:=w3) (fun W hW=>Hpk.out W (bot (HS.out _ Q3.out) hW)))
 have hqn:(q:Int)<((q+1:Nat):Int):=by omega
 have hqn':(q:Int)<(q:Int)+1:=by omega
 have hq0:(0:Int)≤(q:Int):=by omega
 clear Hpk a0 e0 e1 e2 e3 e4 e5 e6 e7 e8
 have r_i0:=cR i0
 have r_i1:=cR i1
 have r_i2:=cR i2
 have r_i3:=cR i3
 have r_i4:=cR i4
 have r_i5:=cR i5
 have r_i6:=cR i6
 have r_i7:=cR i7
 have r_i8:=cR i8
 by_cases hab:0≤ab
 case neg=>
  have He:Hid (R=false):=by unfold Hid;rw[HR3.out,decide_eq_false hab];simp
  have hak:decide (0≤ab)=false:=decide_eq_false hab
  go_wp2_with fail
  refine wQ ?_
  repeat (go_big_quiet_step (first|(with_reducible exact Hc.out _ _)))
  refine wpQuiet_nil fun w4 B4=>?_
  go_wp2_with fail
  go_ret
  exact ⟨zAB He.out.symm,HS.out _ (bot Q3.out B4)⟩
 by_cases habk:ab<(k:Int)
 case neg=>
  have He:Hid (R=false):=by unfold Hid;rw[HR3.out,decide_eq_false habk];simp
  have hak:decide (ab<(k:Int))=false:=decide_eq_false habk
  go_wp2_with fail
  refine wQ ?_
  repeat (go_big_quiet_step (first|(with_reducible exact Hc.out _ _)))
  refine wpQuiet_nil fun w4 B4=>?_
  go_wp2_with fail
  go_ret
  exact ⟨zAB He.out.symm,HS.out _ (bot Q3.out B4)⟩
 have HR4:Hid (R=(pk&&decide (nm=ls))):=by
  unfold Hid;rw[HR3.out,decide_eq_true hab,decide_eq_true habk];simp
 clear HR3
 cases pk
 ·have He:Hid (R=false):=by unfold Hid;rw[HR4.out];rfl
  go_wp2_with fail
  refine wQ ?_
  repeat (go_big_quiet_step (first|(with_reducible exact Hc.out _ _)))
  refine wpQuiet_nil fun w4 B4=>?_
  go_wp2_with fail
  go_ret
  exact ⟨zAB He.out.symm,HS.out _ (bot Q3.out B4)⟩
 by_cases hnl:nm=ls
 ·have hnb:=zAn hnl
  have He:Hid (R=true):=by unfold Hid;rw[HR4.out,decide_eq_true hnl];rfl
  clear hnl
  go_wp2_with fail
  refine wQ ?_
  repeat (go_big_quiet_step (first|(with_reducible exact Hc.out _ _)))
  refine wpQuiet_nil fun w4 B4=>?_
  go_wp2_with fail
  go_ret
  exact ⟨zAB He.out.symm,HS.out _ (bot Q3.out B4)⟩
 ·have hnb:=zAa hnl
  have He:Hid (R=false):=by unfold Hid;rw[HR4.out,decide_eq_false hnl];rfl
  clear hnl
  go_wp2_with fail
  refine wQ ?_
  repeat (go_big_quiet_step (first|(with_reducible exact Hc.out _ _)))
  refine wpQuiet_nil fun w4 B4=>?_
  go_wp2_with fail
  go_ret
  exact ⟨zAB He.out.symm,HS.out _ (bot Q3.out B4)⟩
def zAC:Pack:=⟨⟨#[]⟩,⟨0,0,0⟩,[],[],[]⟩
noncomputable def rootB (d:Dir):Bool:=decide (d.path.length=0)&&(eqB d.pack zAC&&decide (d.node=0))
noncomputable def okGo (t:List Dir):List Dir→Nat→Bool
 | [],_=>true
 | d::l,k=>(bif decide (k=0) then rootB d else zC3 t d k)&&okGo t l (k+1)
noncomputable def zCf (t:List Dir):Int:=if t.length<1∨257<t.length then 42 else bif okGo t t 0 then 0 else 42
theorem zMq (t:List Dir) {l:List Dir} {k:Nat} (h:k<l.length):okGo t (l.drop k) k=((bif decide (k=0) then rootB l[k] else zC3 t l[k] k)&&okGo t (l.drop (k+1)) (k+1)):=by
 rw[dC h,okGo]
theorem zJq (w:World) (S:Nat→Prop):PackV w S zAC (.agg #[.string ⟨#[]⟩,.int .i64 0,.int .i64 0,.int .i64 0,.slice none 0 0,.slice none 0 0,.slice none 0 0]):=
 ⟨none,0,0,none,0,0,none,0,0,rfl,nZ _,SlV.nil_ _ _ _,SlV.nil_ _ _ _,SlV.nil_ _ _ _⟩
theorem zKF (A:Option Addr) (n c:Nat) (xs:List Dir) (w:World) (S:Nat→Prop) (ht:Tab w) (hlen:∀ d∈xs,d.path.length * 32≤140737488355328) (hx:SlV rDir w S xs (.slice A n c)) :
  Calls Tryz.prog 21 #[.agg #[.slice A n c]] w fun e w'=>e=.returned (.int .i64 (zCf xs))∧Below w.heap.size w w':=by
 have hnx:=hx.n_eq
 have hcx:=hx.cap_le
 unfold maxLen at hcx
 have hn63:n≤9223372036854775807:=by omega
 have HX:=cH (hx.more (S':=fun b=>b<w.heap.size) fun b _ h=>h)
 have Hst:Hid (∀ (k:Nat) (hk:k<xs.length) W,Below w.heap.size w W→Calls Tryz.prog 45 #[.agg #[.slice A n c],.int .i64 k] W fun e w'=>e=.returned (.bool (zC3 xs xs[k] k))∧Below W.heap.size W w'):=fun k hk W hW=>zJM A n c xs W _ k hk (zAT ht hW) hlen (hx.belowSize hW)
 by_cases hn1:n<1
 ·have hni:(n:Int)<1:=by omega
  have hnk:decide ((n:Int)<1)=true:=decide_eq_true hni
  have He:Hid (zCf xs=42):=by unfold Hid zCf;rw[if_pos (.inl (by omega))]
  clear hx hcx hnx Hst HX
  generalize zCf xs=R at *
  go_enter Tryz.func21,Tryz.ntmps21
  go_wp2_with fail
  go_ret
  exact ⟨zAu He.out.symm,bal (bR _ _) _⟩
 by_cases hn2:257<n
 ·have hni:¬(n:Int)<1:=by omega
  have hnk:decide ((n:Int)<1)=false:=decide_eq_false hni
  have hmi:(257:Int)<(n:Int):=by omega
  have hmk:decide ((257:Int)<(n:Int))=true:=decide_eq_true hmi
  have He:Hid (zCf xs=42):=by unfold Hid zCf;rw[if_pos (.inr (by omega))]
  clear hx hcx hnx Hst HX
  generalize zCf xs=R at *
  go_enter Tryz.func21,Tryz.ntmps21
  go_wp2_with fail
  go_ret
  exact ⟨zAu He.out.symm,bal (bR _ _) _⟩
 have hni:¬(n:Int)<1:=by omega
 have hnk:decide ((n:Int)<1)=false:=decide_eq_false hni
 have hmi:¬(257:Int)<(n:Int):=by omega
 have hmk:decide ((257:Int)<(n:Int))=false:=decide_eq_false hmi
 have HR:Hid (zCf xs=bif okGo xs (xs.drop 0) 0 then 0 else 42):=by unfold Hid zCf;rw[if_neg (by omega)];rfl
 have Hnx:=cH hnx;clear hnx
 clear hx hcx hlen ht
 generalize zCf xs=R at *
 go_enter Tryz.func21,Tryz.ntmps21
 go_wp2_with fail
 obtain ⟨w0,hw0⟩:∃ w0,w0=w.alloc (.cells #[.slice A n c] 33):=⟨_,rfl⟩
 have hz:w.heap.size<w0.heap.size:=by rw[hw0];simp[go_sem]
 have hb0:Below w.heap.size w w0:=by rw[hw0];exact bal (bR _ _) _
 have a0:w0.cell? ⟨w.heap.size,0,none⟩=some (.slice A n c):=by rw[hw0];simp[go_sem]
 rw[←hw0]
 clear hw0
 have HB0:=cH hb0;clear hb0
 go_loopw [19] (fun i wr=>∃ k:Nat,k≤n∧i=.int .i64 k∧Hid (R=bif okGo xs (xs.drop k) k then 0 else 42)∧Below w0.heap.size w0 wr) (fun i _=>n - (intOf i).toNat)
 case atStart=>exact ⟨0,nZ _,rfl,HR,bR _ _⟩
 case round=>
  obtain ⟨k,hk,rfl,heq,hbel⟩:=hrel
  have b0:=zAA hbel a0 hz
  have hbel':=bot HB0.out hbel
  have hzr:w.heap.size<wr.heap.size:=lL hz hbel.size
  by_cases hlt:k<n
  ·have hkx:k<xs.length:=by have:=Hnx.out;omega
   have hxw:=HX.out.below hbel' (fun b h=>h)
   obtain ⟨b,oo,cs,rfl,_,hb1,hh,hcell⟩:=hxw.elem (gE hkx)
   obtain ⟨pA,pa,pB,pb,pC,pc,pD,pd,rfl,hp,hpk,hI⟩:=zEu hh
   have c0:=hcell 0 _ rfl
   have c1:=hcell 1 _ rfl
   have c2:=hcell 2 _ rfl
   have c3:=hcell 3 _ rfl
   have c4:=hcell 4 _ rfl
   have c5:=hcell 5 _ rfl
   have c6:=hcell 6 _ rfl
   have c7:=hcell 7 _ rfl
   have c8:=hcell 8 _ rfl
   simp only[rDir,Nat.add_zero] at c0 c1 c2 c3 c4 c5 c6 c7 c8
   have Hat:=cH (zMq xs hkx)
   have Hs:Hid (∀ o:Obj,Calls Tryz.prog 45 #[.agg #[.slice (some ⟨b,oo,none⟩) n c],.int .i64 k] (wr.alloc o) fun e w'=>e=.returned (.bool (zC3 xs xs[k] k))∧Below (wr.alloc o).heap.size (wr.alloc o) w'):=fun o=>Hst.out k hkx _ (bal hbel' o)
   have Hsm:Hid (∀ o:Obj,Calls Tryz.prog 44 #[.agg #[.string xs[k].pack.name,.int .i64 xs[k].pack.ver.major,.int .i64 xs[k].pack.ver.minor,.int .i64 xs[k].pack.ver.patch,.slice pB xs[k].pack.deps.length pb,.slice pC xs[k].pack.peers.length pc,.slice pD xs[k].pack.opts.length pd],.agg #[.string ⟨#[]⟩,.int .i64 0,.int .i64 0,.int .i64 0,.slice none 0 0,.slice none 0 0,.slice none 0 0]] (wr.alloc o) fun e w'=>e=.returned (.bool (eqB xs[k].pack zAC))∧Below (wr.alloc o).heap.size (wr.alloc o) w'):=fun o=>zC5 _ _ _ _ _ _ (fun _=>True) (hpk.keep (bal (bR _ _) o)) (zJq _ _)
   have Hro:Hid (rootB xs[k]=(decide (xs[k].path.length=0)&&(eqB xs[k].pack zAC&&decide (xs[k].node=0)))):=rfl
   clear hcell hxw hp hpk hh hI
   have hk0:(0:Int)≤(k:Int):=by omega
   have hkn:(k:Int)<(n:Int):=by omega
   generalize zC3 xs xs[k] k=sb at *
   generalize rootB xs[k]=rb at *
   generalize eqB xs[k].pack zAC=eb at *
   generalize xs[k].path.length=l0 at *
   generalize xs[k].pack.deps.length=l1 at *
   generalize xs[k].pack.peers.length=l2 at *
   generalize xs[k].pack.opts.length=l3 at *
   generalize xs[k].pack.name=nm at *
   generalize xs[k].pack.ver.major=y1 at *
   generalize xs[k].pack.ver.minor=y2 at *
   generalize xs[k].pack.ver.patch=y3 at *
   generalize xs[k].node=nd at *
   have Hno:Hid ((bif decide (k=0) then rb else sb)=false→R=42):=fun h=>by rw[heq.out,Hat.out,h];rfl
   have Hyes:Hid ((bif decide (k=0) then rb else sb)=true→R=bif okGo xs (xs.drop (k+1)) (k+1) then 0 else 42):=fun h=>by rw[heq.out,Hat.out,h];rfl
   clear Hat heq
   by_cases hkz:k=0
   ·have hkb:((k:Int)==0)=true:=by simp[hkz]
    have Hno':Hid (rb=false→R=42):=fun h=>Hno.out (by rw[decide_eq_true hkz];exact h)
    have Hyes':Hid (rb=true→R=bif okGo xs (xs.drop (k+1)) (k+1) then 0 else 42):=fun h=>Hyes.out (by rw[decide_eq_true hkz];exact h)
    clear Hno Hyes Hs hkz
    by_cases hl0:l0=0
    case neg=>
     have hzb:((l0:Int)==0)=false:=by simp[hl0]
     have He:Hid (R=42):=Hno'.out (by rw[Hro.out,decide_eq_false hl0];rfl)
     clear hl0 Hro
     go_wp2_with fail
     go_ret
     exact ⟨zAu He.out.symm,bal hbel' _⟩
    have hzb:((l0:Int)==0)=true:=by simp[hl0]
    have Hro2:Hid (rb=(eb&&decide (nd=0))):=by unfold Hid;rw[Hro.out,decide_eq_true hl0];rfl
    clear hl0 Hro
    go_wp2_with fail
    refine (Hsm.out _).mono ?_
    rintro e w1 ⟨rfl,B1⟩
    have B2:=bot (bal hbel' _) B1
    have g8:=zAA B1 (show (wr.alloc (.cells #[.slice pA l0 pa,.string nm,.int .i64 y1,.int .i64 y2,.int .i64 y3,.slice pB l1 pb,.slice pC l2 pc,.slice pD l3 pd,.int .i64 nd] 54)).cell? ⟨wr.heap.size,8,none⟩=some (.int .i64 nd) by simp[go_sem]) (by simp[go_sem])
    have B3:=bot (bal hbel _) B1
    clear B1
    cases eb
    ·have He:Hid (R=42):=Hno'.out (by rw[Hro2.out];rfl)
     go_wp2_with fail
     go_ret
     exact ⟨zAu He.out.symm,B2⟩
    by_cases hnd:nd=0
    ·have hdb:(nd==0)=true:=by simp[hnd]
     have He:=cH (Hyes'.out (by rw[Hro2.out,decide_eq_true hnd];rfl))
     clear hnd
     go_wp2_with fail
     go_roundw
     case rel=>exact ⟨k+1,by omega,by go_num,He,B3⟩
     case measure=>simp[intOf];omega
    ·have hdb:(nd==0)=false:=by simp[hnd]
     have He:Hid (R=42):=Hno'.out (by rw[Hro2.out,decide_eq_false hnd];rfl)
     clear hnd
     go_wp2_with fail
     go_ret
     exact ⟨zAu He.out.symm,B2⟩
   ·have hkb:((k:Int)==0)=false:=by simp[hkz]
    have Hno':Hid (sb=false→R=42):=fun h=>Hno.out (by rw[decide_eq_false hkz];exact h)
    have Hyes':Hid (sb=true→R=bif okGo xs (xs.drop (k+1)) (k+1) then 0 else 42):=fun h=>Hyes.out (by rw[decide_eq_false hkz];exact h)
    clear Hno Hyes Hsm Hro hkz
    have bo:∀ o:Obj,(wr.alloc o).cell? ⟨w.heap.size,0,none⟩=some (.slice (some ⟨b,oo,none⟩) n c):=fun o=>zAA (bal (bR _ _) o) b0 hzr
    go_wp2_with fail
    refine (Hs.out _).mono ?_
    rintro e w1 ⟨rfl,B1⟩
    have B2:=bot (bal hbel' _) B1
    have B3:=bot (bal hbel _) B1
    clear B1
    cases sb
    ·have He:Hid (R=42):=Hno'.out rfl
     go_wp2_with fail
     go_ret
     exact ⟨zAu He.out.symm,B2⟩
    ·have He:=cH (Hyes'.out rfl)
     go_wp2_with fail
     go_roundw
     case rel=>exact ⟨k+1,by omega,by go_num,He,B3⟩
     case measure=>simp[intOf];omega
  ·have He:Hid (R=0):=by unfold Hid;rw[heq.out,dN (by have:=Hnx.out;omega)];rfl
   go_wp2_with fail
   go_ret
   exact ⟨zAu He.out.symm,hbel'⟩
end Go.Proofs.YtminjjdnmpaaoaaGreatDoor
namespace Go.Proofs.YtminjjdnmpaaoaaGreatDoor
open Go.RowKit
theorem zCA {w:World} {a:Addr} {v u:Value} (h:w.cell? a=some u):(w.setCell a v).cell? a=some v:=by
 apply World.cell?_setCell_same (h:=h)
theorem zCO {w:World} {g o o':Nat} {v:Value} (h:o≠o'):(w.setCell ⟨g,o,none⟩ v).cell? ⟨g,o',none⟩=w.cell? ⟨g,o',none⟩:=by
 apply World.cell?_setCell_other
 intro e
 simp only[Addr.mk.injEq] at e
 exact h e.2.1
structure IRow (w:World) (base g k cap:Nat) (l:List Int):Prop where
 lo:base≤g
 le:l.length≤cap
 max:cap≤maxLen
 lt:g<w.heap.size
 at_:∀ (j:Nat) (x:Int),l[j]?=some x→w.cell? ⟨g,k+j,none⟩=some (.int .i64 x)
 there:∀ j,j<cap→(w.cell? ⟨g,k+j,none⟩).isSome=true∧w.frozen? ⟨g,k+j,none⟩=false
section
variable {w w':World} {base g k cap:Nat} {l:List Int}
theorem IRow.keepBlock (h:IRow w base g k cap l) (hs:w.heap.size≤w'.heap.size) (hb:w'.heap[g]?=w.heap[g]?):IRow w' base g k cap l:=
 ⟨h.lo,h.le,h.max,lL h.lt hs,fun j x hj=>(zAN hb _ _).trans (h.at_ j x hj),fun j hj=>⟨by rw[zAN hb];exact (h.there j hj).1,(zFa hb _ _).trans (h.there j hj).2⟩⟩
theorem IRow.keep (h:IRow w base g k cap l) (hb:Below w.heap.size w w'):IRow w' base g k cap l:=h.keepBlock hb.size (hb.block g h.lt)
theorem IRow.alloc (h:IRow w base g k cap l) (o:Obj):IRow (w.alloc o) base g k cap l:=h.keep ((bR _ _).alloc (nR _) o)
theorem IRow.drew (h:IRow w base g k cap l):IRow w.drew base g k cap l:=h.keepBlock (nR _) rfl
theorem IRow.grown (h:IRow w base g k cap l) {row:Option Nat} (hg:w.grownBy w' row) (hne:some g≠row):IRow w' base g k cap l:=h.keepBlock hg.size (hg.block g h.lt hne)
theorem IRow.get (h:IRow w base g k cap l) {j:Nat} (hj:j<l.length):w.cell? ⟨g,k+j,none⟩=some (.int .i64 l[j]):=h.at_ j _ (gE hj)
theorem IRow.frozen (h:IRow w base g k cap l) {j:Nat} (hj:j<cap):w.frozen? ⟨g,k+j,none⟩=false:=(h.there j hj).2
theorem IRow.tail {x:Int} (h:IRow w base g k cap (x::l)):IRow w base g (k+1) (cap - 1) l:=by
 have h1:=h.le
 have h2:=h.max
 rw[List.length_cons] at h1
 exact ⟨h.lo,by omega,by omega,h.lt,fun j y hj=>by rw[show k+1+j=k+(j+1) by omega];exact h.at_ (j+1) y (by simpa using hj),
  fun j hj=>by rw[show k+1+j=k+(j+1) by omega];exact h.there (j+1) (by omega)⟩
theorem IRow.set (h:IRow w base g k cap l) {j:Nat} (hj:j<l.length) (x:Int) :
  IRow (w.setCell ⟨g,k+j,none⟩ (.int .i64 x)) base g k cap (l.set j x)∧w.grownBy (w.setCell ⟨g,k+j,none⟩ (.int .i64 x)) (some g):=by
 have hle:=h.le
 refine ⟨⟨h.lo,by simpa using h.le,h.max,by simpa using h.lt,fun i y hi=>?_,fun i hi=>?_⟩,⟨rfl,rfl,rfl,by simp,fun b _ hk=>heap_setCell_other w ⟨g,k+j,none⟩ b _ (fun e=>hk (by simp[e]))⟩⟩
 ·by_cases hij:i=j
  ·subst hij
   rw[List.getElem?_set_self hj] at hi
   injection hi with hi
   subst hi
   exact zCA (h.get hj)
  ·rw[List.getElem?_set_ne (Ne.symm hij)] at hi
   rw[zCO (by omega)]
   exact h.at_ i y hi
 ·have hf:=(h.there i hi)
  refine ⟨?_,(World.frozen?_setCell _ _ _ _).trans hf.2⟩
  by_cases hij:i=j
  ·subst hij
   rw[zCA (h.get hj)];rfl
  ·rw[zCO (by omega)]
   exact hf.1
theorem IRow.of_owns {e:TypeId} (h:w.ownsRow base e 1 (.slice (some ⟨g,0,none⟩) l.length cap) l.length (l.map (Value.int .i64))):IRow w base g 0 cap l:=by
 have hlt:=h.lt g rfl
 have hfz:=fun j=>World.ownsRow.frozenAt h j
 rcases h.2 with ⟨h',_⟩|⟨g',cap',cur,h',hb,hg,hnc,hcm,hcs,htake⟩
 ·simp at h'
 ·simp only[Value.slice.injEq,Option.some.injEq,Addr.mk.injEq,and_true,true_and] at h'
  obtain ⟨rfl,rfl⟩:=h'
  refine ⟨hlt.1,hnc,hcm,hlt.2,fun j x hj=>?_,fun j hj=>⟨?_,by rw[Nat.zero_add];exact hfz j⟩⟩
  ·have hjl:j<l.length:=(gS.1 hj).1
   rw[Nat.zero_add,World.ownsRow.cellAt h j (by omega),List.getElem?_map,hj]
   rfl
  ·rw[Nat.zero_add,cO w g j cur e (0,0) hg,Array.getElem?_eq_getElem (by omega)]
   rfl
theorem IRow.slv (h:IRow w base g k cap l) (hi:∀ x∈l,I64 x):SlV rInt w (fun b=>base≤b) l (.slice (some ⟨g,k,none⟩) l.length cap):=
 ⟨some ⟨g,k,none⟩,cap,rfl,h.le,h.max,(fun e=>by cases e),fun _=>⟨g,k,rfl,h.lo,h.lt,fun i x hx=>⟨[.int .i64 x],⟨rfl,hi x (mG hx)⟩,fun j u hu=>by
   cases j with
   | zero=>simp at hu;subst hu;simpa [rInt] using h.at_ i x hx
   | succ j=>simp at hu⟩⟩⟩
theorem IRow.lit (w:World) (base:Nat) (e:TypeId) (x:Int) (hb:base≤w.heap.size):IRow (w.alloc (.cells #[.int .i64 x] e)) base w.heap.size 0 1 [x]:=
 IRow.of_owns (e:=e) (World.ownsRow_lit w #[.int .i64 x] 1 hb (by simp[maxLen]) rfl)
theorem IRow.push {P:Program} {t ty e:TypeId} {bytes:Nat} (E:Elt P e 1 bytes) (ht:P.underlying t=some (.slice e)) (h:IRow w base g k cap l)
  (ad:Addr) (c:Nat) (y:Int) (hy:w.cell? ad=some (.int .i64 y)) (h63:l.length+1≤maxLen) (hbytes:(l.length+1) * bytes≤140737488355328) (hbase:base≤w.heap.size) :
  ∃ g' k' cap' w',(Builtin.append_ #[t,t] ty #[.slice (some ⟨g,k,none⟩) l.length cap,.slice (some ad) 1 c]).run P w=.ok (.slice (some ⟨g',k',none⟩) (l.length+1) cap') w' ∧
    IRow w' base g' k' cap' (l++[y])∧w.grownBy w' (some g)∧(g'=g∨g'=w.heap.size):=by
 obtain ⟨i,z,hi,hz,hsz,hby,hzs,hpos⟩:=E
 have hadd0:ad.add 0=ad:=by unfold Addr.add;split<;>simp_all
 have hs:Src P i.size t (.slice (some ad) 1 c) 1 [Value.int .i64 y] w:=Src.ofSlice (P:=P) w ht ad 1 c [Value.int .i64 y] (by rw[hsz];rfl) (fun j u hu=>by
  cases j with
  | zero=>simp at hu;subst hu;rw[hadd0];exact hy
  | succ j=>simp at hu) (by simp[Value.oneCell'])
 have hle:=h.le
 have hmx:=h.max
 by_cases hroom:l.length+1≤cap
 ·have hth:=h.there l.length (by omega)
  have hrun:=run_append_room_src (P:=P) w t t ty e i ht hi g k l.length cap _ 1 _ hs hroom
   (fun j hj=>by have:j=0:=by simpa using hj
                 subst this;rw[hsz,Nat.mul_one,Nat.add_zero];exact hth.1)
   (fun j hj=>by have:j=0:=by simpa using hj
                 subst this;rw[hsz,Nat.mul_one,Nat.add_zero];exact hth.2)
  rw[hsz,Nat.mul_one] at hrun
  obtain ⟨u0,hu0⟩:=Option.isSome_iff_exists.1 hth.1
  refine ⟨g,k,cap,_,hrun,⟨h.lo,by simpa using hroom,hmx,by simpa [World.setCells] using h.lt,fun j x hj=>?_,fun j hj=>?_⟩,⟨rfl,rfl,rfl,by simp[World.setCells],fun b _ hk=>heap_setCell_other w ⟨g,k+l.length,none⟩ b _ (fun e=>hk (by simp[e]))⟩,.inl rfl⟩
  ·simp only[World.setCells]
   by_cases hjl:j<l.length
   ·rw[List.getElem?_append_left hjl] at hj
    rw[zCO (by omega)]
    exact h.at_ j x hj
   ·have hjj:=(gS.1 hj).1
    simp at hjj
    have:j=l.length:=by omega
    subst this
    simp at hj
    subst hj
    exact zCA hu0
  ·simp only[World.setCells]
   refine ⟨?_,(World.frozen?_setCell _ _ _ _).trans (h.there j hj).2⟩
   by_cases hjl:j=l.length
   ·subst hjl;rw[zCA hu0];rfl
   ·rw[zCO (by omega)];exact (h.there j hj).1
 ·have holds:∀ j u,(l.map (Value.int .i64))[j]?=some u→w.drew.cell? ((⟨g,k,none⟩:Addr).add j)=some u:=fun j u hu=>by
   rw[List.getElem?_map] at hu
   rcases hx:l[j]? with _|x
   ·rw[hx] at hu;cases hu
   ·rw[hx] at hu
    injection hu with hu
    subst hu
    rw[Addr.add_lit]
    exact h.at_ j x hx
  have hfc:=run_firstCells_some (P:=P) w.drew i.size l.length ⟨g,k,none⟩ l.length cap (l.map (Value.int .i64)) (by rw[hsz];simp) holds
  have hby':=hby
  have hrun:=run_append_grow_src (P:=P) w t t ty e i z ht hi hz (some ⟨g,k,none⟩) l.length cap (l.map (Value.int .i64)) hfc _ 1 _ hs (by omega) (by unfold maxLen at h63;omega) (growslice_fits (by omega) (by rw[hby];exact hbytes))
  have hge:=grownCap_ge w (l.length+1) cap e
  have hcm:=grownCap_le_maxLen w (l.length+1) cap e h63
  obtain ⟨C,hC⟩:∃ C,C=(l.map (Value.int .i64)++[Value.int .i64 y]).toArray++Builtin.zeroCells z.cells (grownCap w (l.length+1) cap e - (l.length+1)):=⟨_,rfl⟩
  have e1:∀ j,(w.drew.alloc (.cells C e)).cell? ⟨w.heap.size,0+j,none⟩=C[j]?:=fun j=>by rw[Nat.zero_add];exact World.cell?_alloc_new w.drew _ _ j
  rw[←hC] at hrun
  refine ⟨w.heap.size,0,_,_,hrun,⟨hbase,by simpa using hge,hcm,by simp,fun j x hj=>?_,fun j hj=>⟨?_,by rw[Nat.zero_add];exact World.frozen?_alloc_new w.drew _ _ j⟩⟩,⟨rfl,rfl,rfl,by simp,fun b hb _=>Below.heap_alloc w.drew _ b hb⟩,.inr rfl⟩
  ·have hjj:=(gS.1 hj).1
   simp only[List.length_append,List.length_singleton] at hjj
   rw[e1,hC,Array.getElem?_append_left (by simp;omega),List.getElem?_toArray]
   have:(l.map (Value.int .i64)++[Value.int .i64 y])=(l++[y]).map (Value.int .i64):=by simp
   rw[this,List.getElem?_map,hj]
   rfl
  ·rw[e1,Array.getElem?_eq_getElem (by
    rw[hC,Array.size_append,List.size_toArray,size_zeroCells,hzs]
    simp only[List.length_append,List.length_map,List.length_singleton,Nat.mul_one]
    omega)]
   rfl
end
section
variable {P:Program} {ops:Array Oper} {o:Oper} {a:Act} {K:Act→World→Prop} {Q:Exit→Act→World→Prop} {bytes:Nat} {w:World} {base g k cap:Nat} {l:List Int}
end
end Go.Proofs.YtminjjdnmpaaoaaGreatDoor
namespace Go.Proofs.YtminjjdnmpaaoaaGreatDoor
theorem zFC {b:UInt8} (h:nameC b=true):(b != 47)=true:=by
 have H:∀ b:UInt8,(!nameC b||(b != 47))=true:=zE4 (by decide +kernel)
 have:=H b
 rw[h] at this;simpa using this
theorem zE1 {l:List UInt8} (h:nameL l=true):∀ b∈l,(b != 47)=true:=by
 cases l with
 | nil=>intro b hb;cases hb
 | cons c t=>
   simp only[nameL,Bool.and_eq_true] at h
   intro b hb
   rcases List.mem_cons.1 hb with rfl|hb
   ·exact zFC (by unfold nameC;rw[h.1.1];rfl)
   ·exact zFC (List.all_eq_true.1 h.1.2 b hb)
theorem zEx:∀ (t:List ByteArray),zAx t=[]∨∃ r,zAx t=47::r:=by
 intro t
 cases t with
 | nil=>exact .inl rfl
 | cons s t=>exact .inr ⟨_,rfl⟩
theorem zDW {l r:List UInt8} (h:∀ b∈l,(b != 47)=true) (hr:r=[]∨∃ q,r=47::q):(l++r).takeWhile (· != 47)=l:=by
 induction l with
 | nil=>
   rcases hr with rfl|⟨q,rfl⟩
   ·rfl
   ·rfl
 | cons c l ih=>
   rw[List.cons_append,List.takeWhile_cons,if_pos (h c (by simp)),ih fun b hb=>h b (by simp[hb])]
theorem zJZ:∀ {a b:List ByteArray},a.all nameB=true→b.all nameB=true→zAx a=zAx b→a=b:=by
 intro a
 induction a with
 | nil=>
   intro b _ _ h
   cases b with
   | nil=>rfl
   | cons s t=>cases h
 | cons s t ih=>
   intro b ha hb h
   cases b with
   | nil=>cases h
   | cons u v=>
     rw[List.all_cons,Bool.and_eq_true] at ha hb
     rw[zAx,zAx,List.append_assoc,List.append_assoc] at h
     have h1:=List.append_cancel_left h
     have e1:=zDW (zE1 ha.1) (zEx t)
     have e2:=zDW (zE1 hb.1) (zEx v)
     rw[h1,e2] at e1
     rw[e1] at h1
     have h2:=List.append_cancel_left h1
     have hs:s=u:=ByteArray.ext (Array.ext' e1.symm)
     rw[hs,ih ha.2 hb.2 h2]
end Go.Proofs.YtminjjdnmpaaoaaGreatDoor
namespace Go.Proofs.YtminjjdnmpaaoaaGreatDoor
open Go
def zAP:Option ByteArray→List ByteArray→Bool
 | _,[]=>true
 | p,s::l=>(nameB s&&behind p s)&&zAP (some s) l
def zB3 (l:List ByteArray):Nat→Option ByteArray
 | 0=>none
 | k+1=>l[k]?
theorem zES {l:List ByteArray} {k:Nat} {s:ByteArray} (h:l[k]?=some s):zAP (zB3 l k) (l.drop k)=((nameB s&&behind (zB3 l k) s)&&zAP (zB3 l (k+1)) (l.drop (k+1))):=by
 obtain ⟨hk,e⟩:=gS.1 h
 rw[dC hk,e,zAP]
 show _=((nameB s&&behind (zB3 l k) s)&&zAP l[k]? (l.drop (k+1)))
 rw[h]
theorem zET {l:List ByteArray} {k:Nat} {p:Option ByteArray} (h:l.length≤k):zAP p (l.drop k)=true:=by
 rw[dN h];rfl
theorem zCl:∀ {l:List ByteArray} {p:Option ByteArray},zAP p l=true→∀ s∈l,nameB s=true
 | [],_,_,s,hs=>by cases hs
 | x::l,p,h,s,hs=>by
   rw[zAP,Bool.and_eq_true,Bool.and_eq_true] at h
   rcases List.mem_cons.1 hs with rfl|hs
   ·exact h.1.1
   ·exact zCl h.2 s hs
def zAZ (l:List Pin):List ByteArray:=l.map (·.name)
def zAE (l:List Edge):List ByteArray:=l.map (·.label)
def zeroV (v:Ver):Bool:=decide (v.major=0)&&(decide (v.minor=0)&&decide (v.patch=0))
end Go.Proofs.YtminjjdnmpaaoaaGreatDoor
namespace Go.Proofs.YtminjjdnmpaaoaaGreatDoor
open Go.Rows Go.RowKit Go.Shelf Go.Sort
def edgeB (m:Nat) (e:Edge):Bool:=decide (1≤e.to)&&decide (e.to<(m:Int))
theorem zEy (t:List Dir) (p:List ByteArray):-1≤findI t p∧findI t p<(t.length:Int):=by
 unfold findI
 rcases firstI_lt (fun d=>eqB d.path p) t with h|⟨j,h,hj,_⟩
 ·rw[h.1];omega
 ·rw[h];omega
theorem zFl (t:List Dir) (p:List ByteArray) (s:ByteArray):∀ q,-1≤zAj t p s q∧zAj t p s q<(t.length:Int):=by
 intro q
 induction q with
 | zero=>unfold zAj;omega
 | succ q ih=>
   unfold zAj
   cases decide (0≤findI t (p.take q++[s]))
   ·exact ih
   ·exact zEy _ _
theorem zCt (t:List Dir) (i:Int) (s:ByteArray):-1≤lookI t i s∧lookI t i s<(t.length:Int):=by
 unfold lookI
 split
 ·cases nameB s
  ·show (-1:Int)≤-1∧(-1:Int)<t.length;omega
  ·exact zFl _ _ _ _
 ·omega
noncomputable def zMb (t:List Dir) (g:List Node) (q:Nat) (e:Nat):Bool:=
 match t[q]?,g[e]? with
 | some d,some x=>decide (d.pack.name=x.name)&&eqB d.pack.ver x.ver
 | _,_=>false
abbrev MSt:=List Int×List Nat
noncomputable def zIF (t:List Dir) (g:List Node) (a:Nat) (s:MSt) (e:Edge):Option MSt:=
 if 0≤lookI t a e.label∧zMb t g (lookI t a e.label).toNat e.to.toNat=true then
  (if s.1[(lookI t a e.label).toNat]?=some (-1) then some (s.1.set (lookI t a e.label).toNat e.to,s.2++[(lookI t a e.label).toNat])
   else if s.1[(lookI t a e.label).toNat]?=some e.to then some s else none)
 else none
noncomputable def zEg (t:List Dir) (g:List Node) (a:Nat):List Edge→MSt→Option MSt
 | [],s=>some s
 | e::es,s=>match zIF t g a s e with
   | none=>none
   | some s'=>zEg t g a es s'
noncomputable def map0 (n:Nat):MSt:=(0::List.replicate (n - 1) (-1),[0])
def freeN (m:List Int):Nat:=m.count (-1)
structure MInv (n:Nat) (gl:Nat) (s:MSt):Prop where
 len:s.1.length=n
 rng:∀ x∈s.1,-1≤x∧x<(gl:Int)
 rest:∀ r∈s.2,∃ x,s.1[r]?=some x∧0≤x
theorem zFj:∀ (m:List Int) (q:Nat) (v:Int),m[q]?=some (-1)→v≠-1→freeN (m.set q v)+1=freeN m:=by
 intro m
 induction m with
 | nil=>intro q v h _;simp at h
 | cons x m ih=>
   intro q v h hv
   cases q with
   | zero=>
     simp at h
     subst h
     unfold freeN
     rw[List.set_cons_zero,List.count_cons_self,List.count_cons_of_ne hv]
   | succ q=>
     simp at h
     have:=ih q v h hv
     unfold freeN at this ⊢
     rw[List.set_cons_succ,List.count_cons,List.count_cons]
     omega
theorem MInv.edge {n:Nat} {t:List Dir} {g:List Node} {a:Nat} {s s':MSt} {e:Edge} (h:MInv n g.length s) (he:edgeB g.length e=true) (hm:zIF t g a s e=some s') :
  MInv n g.length s'∧freeN s'.1+s'.2.length=freeN s.1+s.2.length∧(∀ (r:Nat) (x:Int),s.1[r]?=some x→0≤x→s'.1[r]?=some x):=by
 unfold edgeB at he
 simp only[Bool.and_eq_true,decide_eq_true_eq] at he
 unfold zIF at hm
 split at hm
 ·split at hm
  ·rename_i hc hf
   injection hm with hm
   subst hm
   have hkeep:∀ (r:Nat) (x:Int),s.1[r]?=some x→0≤x→(s.1.set (lookI t a e.label).toNat e.to)[r]?=some x:=fun r x hr hx=>by
    rw[List.getElem?_set_ne (by rintro rfl;rw[hf] at hr;injection hr with hr;omega)];exact hr
   refine ⟨⟨by simpa using h.len,fun x hx=>?_,fun r hr=>?_⟩,?_,hkeep⟩
   ·rcases List.mem_or_eq_of_mem_set hx with hx|rfl
    ·exact h.rng x hx
    ·omega
   ·rw[List.mem_append] at hr
    rcases hr with hr|hr
    ·obtain ⟨x,h1,h2⟩:=h.rest r hr
     exact ⟨x,hkeep r x h1 h2,h2⟩
    ·simp at hr
     subst hr
     refine ⟨e.to,?_,by omega⟩
     rw[List.getElem?_set_self (gS.1 hf).1]
   ·have:=zFj s.1 _ e.to hf (by omega)
    show freeN (s.1.set _ e.to)+(s.2++[_]).length=_
    rw[List.length_append,List.length_singleton]
    omega
  ·split at hm
   ·injection hm with hm
    subst hm
    exact ⟨h,rfl,fun _ _ h _=>h⟩
   ·cases hm
 ·cases hm
theorem MInv.edges {n:Nat} {t:List Dir} {g:List Node} {a:Nat}:∀ {es:List Edge} {s s':MSt},MInv n g.length s→es.all (edgeB g.length)=true→zEg t g a es s=some s' →
  MInv n g.length s'∧freeN s'.1+s'.2.length=freeN s.1+s.2.length∧(∀ (r:Nat) (x:Int),s.1[r]?=some x→0≤x→s'.1[r]?=some x):=by
 intro es
 induction es with
 | nil=>intro s s' h _ hm;rw[zEg] at hm;injection hm with hm;subst hm;exact ⟨h,rfl,fun _ _ h _=>h⟩
 | cons e es ih=>
   intro s s' h ha hm
   rw[List.all_cons,Bool.and_eq_true] at ha
   rw[zEg] at hm
   split at hm
   ·cases hm
   ·rename_i s1 hs1
    obtain ⟨h1,h2,h3⟩:=h.edge ha.1 hs1
    obtain ⟨h4,h5,h6⟩:=ih h1 ha.2 hm
    exact ⟨h4,by omega,fun r x hr hx=>h6 r x (h3 r x hr hx) hx⟩
theorem MInv.start {n gl:Nat} (hn:0<n) (hg:0<gl):MInv n gl (map0 n)∧freeN (map0 n).1+(map0 n).2.length=n:=by
 refine ⟨⟨by simp[map0];omega,fun x hx=>?_,fun r hr=>?_⟩,?_⟩
 ·simp[map0] at hx
  rcases hx with rfl|⟨_,rfl⟩<;>omega
 ·simp[map0] at hr
  subst hr
  exact ⟨0,rfl,Int.le_refl _⟩
 ·simp[map0,freeN]
  omega
theorem zGM (q:Dir→Bool):∀ (t:List Dir) (k j:Nat),zAl q t k=(j:Int)→∃ i,∃ h:i<t.length,j=k+i∧q t[i]=true:=by
 intro t
 induction t with
 | nil=>intro k j h;rw[zAl] at h;omega
 | cons d t ih=>
   intro k j h
   rw[zAl] at h
   cases hq:q d
   ·rw[hq] at h
    obtain ⟨i,hi,e,hqi⟩:=ih (k+1) j h
    exact ⟨i+1,by simpa using hi,by omega,by simpa using hqi⟩
   ·rw[hq] at h
    refine ⟨0,by simp,?_,by simpa using hq⟩
    have:(k:Int)=(j:Int):=h
    omega
theorem zE3 {t:List Dir} {p:List ByteArray} {j:Nat} (h:findI t p=(j:Int)):∃ hj:j<t.length,t[j].path=p:=by
 unfold findI zCe at h
 obtain ⟨i,hi,e,hq⟩:=zGM _ t 0 j h
 obtain rfl:i=j:=by omega
 refine ⟨hi,?_⟩
 by_cases e:t[i].path=p
 ·exact e
 ·rw[zAY e] at hq;cases hq
theorem zEH {t:List Dir} {p:List ByteArray} (h:findI t p<0) {d:Dir} (hd:d∈t):d.path≠p:=by
 intro e
 unfold findI at h
 rcases firstI_lt (fun d=>eqB d.path p) t with h'|⟨j,h',_⟩
 ·have:=List.any_eq_false.1 h'.2 d hd
  rw[zAg e] at this
  exact this rfl
 ·omega
