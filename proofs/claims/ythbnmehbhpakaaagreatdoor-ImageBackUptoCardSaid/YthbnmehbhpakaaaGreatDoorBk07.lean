/- A path's text: the program's tree.Text (a Builder) and the document's Text (12). -/
import Derived.Test.YthbnmehbhpakaaaGreatDoorRows
import Derived.Test.YthbnmehbhpakaaaGreatDoorBkA
import Derived.Test.YthbnmehbhpakaaaGreatDoorBk02
import Derived.Test.YthbnmehbhpakaaaGreatDoorBk04
import Derived.Test.YthbnmehbhpakaaaGreatDoorBk05
import Derived.Laws.Concat
import Derived.WalkKit
import Derived.WalkSpells
import Derived.WalkLawsBesides
import Derived.IntWalk
import Derived.Lib.Hide
import Derived.Test.YthbnmehbhpakaaaGreatDoorBk06
import Derived.Sort.LotA
import Derived.Sort.Walk0
import Derived.Deep.RegionHeld3
import Derived.Test.YthbnmehbhpakaaaGreatDoorAl
set_option linter.all false
set_option maxHeartbeats 3200000
set_option maxRecDepth 100000
namespace Go.Proofs.YthbnmehbhpakaaaGreatDoor
open Go.Rows Go.RowKit Go.Shelf
def stepB:ByteArray:=⟨#[47,109,111,100,117,108,101,115,47]⟩
def zAi:List ByteArray→List UInt8
 | []=>[]
 | s::t=>(stepB.data.toList++s.data.toList)++zAi t
def textB (l:List ByteArray):ByteArray:=if l=[] then ⟨#[47]⟩ else if l.all nameB=true then ⟨(zAi l).toArray⟩ else ⟨#[]⟩
theorem zJN (a b:List ByteArray):zAi (a++b)=zAi a++zAi b:=by
 induction a with
 | nil=>rfl
 | cons s t ih=>rw[List.cons_append,zAi,ih,zAi];simp[List.append_assoc]
theorem zLa {l:List ByteArray} {k:Nat} (h:k<l.length):zAi (l.take (k+1))=zAi (l.take k)++stepB.data.toList++l[k].data.toList:=by
 rw[List.take_succ_eq_append_getElem h,zJN]
 simp[zAi,List.append_assoc]
theorem zQ9 {α:Type} {p:α→Bool} {l:List α} {k:Nat} (h:k<l.length) (h0:(l.take k).all p=true) (h1:p l[k]=true):(l.take (k+1)).all p=true:=by
 rw[List.take_succ_eq_append_getElem h,List.all_append,h0]
 simp[h1]
theorem zTH {α:Type} {p:α→Bool} {l:List α} {k:Nat} (h:k<l.length) (h1:p l[k]=false):l.all p=false:=by
 rw[List.all_eq_false]
 exact ⟨l[k],List.getElem_mem h,by simp[h1]⟩
theorem zNL {s:ByteArray} (h:nameB s=true):s.size≤16:=by
 rcases Nat.lt_or_ge 16 s.size with h'|h'
 ·have:nameL s.data.toList=false:=zHf (by rw[←zAJ];exact h')
  unfold nameB at h;rw[this] at h;cases h
 ·exact h'
theorem zNf:∀ {l:List ByteArray},l.all nameB=true→(zAi l).length≤25 * l.length:=by
 intro l
 induction l with
 | nil=>intro _;exact nR _
 | cons s t ih=>
   intro h
   rw[List.all_cons,Bool.and_eq_true] at h
   have h1:=zNL h.1
   have h2:=ih h.2
   rw[zAJ] at h1
   have h3:stepB.data.toList.length=9:=by decide
   rw[zAi,List.length_append,List.length_append,List.length_cons]
   omega
theorem zBd (A:Option Addr) (n c:Nat) (l:List ByteArray) (w:World) (S:Nat→Prop) (hS:∀ b,S b→b<w.heap.size) (hmax:l.length * 32≤140737488355328)
  (hl:SlV rStr w S l (.slice A n c)) :
  Calls Tryz.prog 18 #[.slice A n c] w fun e w'=>e=.returned (.string (textB l))∧Below w.heap.size w w':=by
 have hnx:=hl.n_eq
 have Hnx:=cH hnx
 by_cases h0:l=[]
 ·have hn0:n=0:=by rw[hnx,h0];rfl
  have e0:textB l=⟨#[47]⟩:=if_pos h0
  have E0:=cH e0
  clear Hnx hnx h0 hl hmax hS e0
  subst hn0
  go_enter Tryz.func18,Tryz.ntmps18
  go_wp2_with fail
  go_ret
  exact ⟨zEp E0.out.symm,bR _ _⟩
 ·have hn0:n≠0:=by rw[hnx];exact fun h=>h0 (List.eq_nil_of_length_eq_zero h)
  have hyes:l.all nameB=true→textB l=⟨(zAi l).toArray⟩:=fun h=>by unfold textB;rw[if_neg h0,if_pos h]
  have hno:l.all nameB=false→textB l=⟨#[]⟩:=fun h=>by unfold textB;rw[if_neg h0,h];rfl
  have Hyes:=cH hyes;clear hyes
  have Hno:=cH hno;clear hno
  have hn63:n≤9223372036854775807:=by omega
  have hne:((n:Int)==0)=false:=by simp[hn0]
  have Hm:=cH hmax;clear hmax
  clear hnx h0
  go_enter Tryz.func18,Tryz.ntmps18
  go_wp2
  go_loopw [11] (fun i wr=>∃ k:Nat,k≤n∧i=.int .i64 k∧Hid (IsB w.heap.size w.heap.size (Lib.byteCells (zAi (l.take k))) wr)∧Below w.heap.size w wr∧Hid ((l.take k).all nameB=true)) (fun i _=>n - (intOf i).toNat)
  case atStart=>exact ⟨0,nZ _,rfl,Lib.fresh_isBuilder _ _ _,(bR _ _).alloc (nR _) _,rfl⟩
  case round=>
   obtain ⟨k,hk,rfl,hB,hbel,hall⟩:=hrel
   have hbw:=hbel.size
   have Hbw:=cH hbw
   by_cases hlt:k<n
   ·have hkx:k<l.length:=by have:=Hnx.out;omega
    have hlw:=hl.below hbel hS
    obtain ⟨b,o,cs,rfl,hSb,hb1,hsp,hcell⟩:=hlw.elem (gE hkx)
    obtain ⟨rfl,hsz⟩:=hsp
    have hc0:=hcell 0 _ rfl
    simp only[rStr,Nat.add_zero,Nat.mul_one] at hc0
    have hkn:(k:Int)<(n:Int):=by omega
    have htk:=zLa hkx
    have Htk:=cH htk;clear htk
    have Hall:=cH (fun h=>zQ9 (p:=nameB) hkx hall.out h)
    have Hnot:=cH (fun h=>Hno.out (zTH (p:=nameB) hkx h))
    have hjl:=zNf hall.out
    have hjl':(zAi (l.take k)).length≤25 * k:=by rw[List.length_take] at hjl;omega
    have Hjl:=cH hjl';clear hjl hjl'
    have hnl:nameB l[k]=true→l[k].size≤16:=fun hq=>zNL hq
    have Hnl:=cH hnl;clear hnl
    generalize hs:l[k]=s at *
    clear hcell hlw
    go_wp2_with fail
    refine (zA2 s hsz _).mono ?_
    rintro e w1 ⟨rfl,hb1⟩
    have hbel1:=hbel.trans (hb1.mono hbw)
    have hbw1:=hbel1.size
    by_cases hq:nameB s=true
    ·have hk1:=Hall.out hq
     have Hk1:=cH hk1;clear hk1
     have hs16:=Hnl.out hq
     have hB1:=hB.out.keep hb1
     have HB1:=cH hB1;clear hB1 hB
     have Hbel1:=cH hbel1;clear hbel1 hbel hb1
     have hlen1:(Lib.byteCells (zAi (l.take k))).length+stepB.size≤140737488355328:=by
      have h9:stepB.size=9:=by decide
      have:=Hjl.out;have:=Hm.out;have:=Hnx.out
      rw[Lib.byteCells_length,h9];omega
     have Hlen1:=cH hlen1;clear hlen1
     clear Hall Hnot Hnl
     go_wp2_with fail
     refine (zB3 _ _ _ stepB _ HB1.out Hlen1.out hbw1).mono ?_
     rintro e w2 ⟨rfl,hB2,hb2⟩
     have hB2':IsB w.heap.size w.heap.size (Lib.byteCells (zAi (l.take k)++stepB.data.toList)) w2:=.inr (by rw[Lib.byteCells_append];exact hB2)
     have HB2:=cH hB2';clear hB2 hB2' HB1
     have hbel2:=Hbel1.out.trans hb2
     have hbw2:=hbel2.size
     have Hbel2:=cH hbel2;clear hbel2 hb2
     have hlen2:(Lib.byteCells (zAi (l.take k)++stepB.data.toList)).length+s.size≤140737488355328:=by
      have h9:stepB.data.toList.length=9:=by decide
      have:=Hjl.out;have:=Hm.out;have:=Hnx.out
      rw[Lib.byteCells_length,List.length_append,h9];omega
     have Hlen2:=cH hlen2;clear hlen2
     go_wp2_with fail
     refine (zB3 _ _ _ s _ HB2.out Hlen2.out hbw2).mono ?_
     rintro e w3 ⟨rfl,hB3,hb3⟩
     have hB3':IsB w.heap.size w.heap.size (Lib.byteCells (zAi (l.take (k+1)))) w3:=.inr (by rw[Htk.out,Lib.byteCells_append];exact hB3)
     have HB3:=cH hB3';clear hB3 hB3' HB2
     have Hbel3:=cH (Hbel2.out.trans hb3);clear hb3
     go_wp2_with fail
     go_round
     case rel=>exact ⟨k+1,by omega,by go_num,HB3,Hbel3.out,Hk1⟩
     case measure=>simp[intOf];omega
    ·have hq':nameB s=false:=by simpa using hq
     have He:=cH (Hnot.out hq')
     clear Hall Hnot Hnl hq
     go_wp2_with fail
     go_ret
     exact ⟨zEp He.out.symm,hbel1⟩
   ·have hkn:k=n:=by omega
    have htake:l.take k=l:=by have:=Hnx.out;rw[hkn,this];exact List.take_length
    have he:=Hyes.out (by rw[←htake];exact hall.out)
    have He:=cH he;clear he
    have hB':IsB w.heap.size w.heap.size (Lib.byteCells (zAi l)) wr:=by rw[←htake];exact hB.out
    have HB:=cH hB';clear hB' hB htake hall
    have Hbel:=cH hbel;clear hbel
    subst hkn
    go_wp2_with fail
    refine (Tryz.Builder_String_any _ _ _ _ HB.out hbw).mono ?_
    rintro e w1 ⟨rfl,hb1⟩
    go_wp2_with fail
    go_ret
    exact ⟨zEp He.out.symm,Hbel.out.trans hb1⟩
end Go.Proofs.YthbnmehbhpakaaaGreatDoor
namespace Go.Proofs.YthbnmehbhpakaaaGreatDoor
open Go.Rows Go.RowKit Go.Shelf Go.Sort
def lastN (p:List ByteArray):ByteArray:=p.getD (p.length - 1) ⟨#[]⟩
noncomputable def zBk (t:List Dir) (d:Dir) (k:Nat):Bool:=
 decide (d.path.length≠0)&&(decide (textB d.path≠⟨#[]⟩)&&(decide ((textB d.path).size≤1024)&&(decide (1≤d.node)&&(decide (findI t d.path=(k:Int))&&(decide (0≤zC5 t d.path)&&(decide (zC5 t d.path<(k:Int))&&(packB d.pack&&decide (d.pack.name=lastN d.path))))))))
theorem zFc {w:World} {S:Nat→Prop} {d:Dir} {cs:List Value} (h:rDir.holds w S d cs):∃ A a B b C c D e,cs=[.slice A d.path.length a,.string d.pack.name,.int .i64 d.pack.ver.major,.int .i64 d.pack.ver.minor,.int .i64 d.pack.ver.patch,.slice B d.pack.deps.length b,.slice C d.pack.peers.length c,.slice D d.pack.opts.length e,.int .i64 d.node] ∧
  SlV rStr w S d.path (.slice A d.path.length a)∧PackV w S d.pack (.agg #[.string d.pack.name,.int .i64 d.pack.ver.major,.int .i64 d.pack.ver.minor,.int .i64 d.pack.ver.patch,.slice B d.pack.deps.length b,.slice C d.pack.peers.length c,.slice D d.pack.opts.length e])∧I64 d.node:=by
 obtain ⟨s0,s1,s2,s3,rfl,hp0,hn,_,_,_,hp1,hp2,hp3,hd⟩:=h
 obtain ⟨pA,pc,rfl,_,_⟩:=hp0.val
 obtain ⟨pB,pd,rfl,_,_⟩:=hp1.val
 obtain ⟨pC,pe,rfl,_,_⟩:=hp2.val
 obtain ⟨pD,pf,rfl,_,_⟩:=hp3.val
 exact ⟨_,_,_,_,_,_,_,_,rfl,hp0,⟨_,_,_,_,_,_,_,_,_,rfl,hn,hp1,hp2,hp3⟩,hd⟩
theorem zN8 (A:Option Addr) (n c:Nat) (xs:List Dir) (w:World) (S:Nat→Prop) (k:Nat) (hk:k<xs.length) (ht:Tab w) (hlen:∀ d∈xs,d.path.length * 32≤140737488355328) (hx:SlV rDir w S xs (.slice A n c)) :
  Calls Tryz.prog 167 #[.agg #[.slice A n c],.int .i64 k] w fun e w'=>e=.returned (.bool (zBk xs xs[k] k))∧Below w.heap.size w w':=by
 have hnx:=hx.n_eq
 have hcx:=hx.cap_le
 unfold maxLen at hcx
 have hn63:n≤9223372036854775807:=by omega
 have hx0:=hx
 obtain ⟨b,o,cs,rfl,_,hb1,hh,hcell⟩:=hx.elem (gE hk)
 obtain ⟨pA,pa,pB,pb,pC,pc,pD,pd,rfl,hp,hpk,hI⟩:=zFc hh
 have hpc:=hp.cap_le
 unfold maxLen at hpc
 have hlk:=hlen xs[k] (List.getElem_mem hk)
 have c0:=hcell 0 _ rfl
 have c1:=hcell 1 _ rfl
 have c2:=hcell 2 _ rfl
 have c3:=hcell 3 _ rfl
 have c4:=hcell 4 _ rfl
 have c5:=hcell 5 _ rfl
 have c6:=hcell 6 _ rfl
 have c7:=hcell 7 _ rfl
 have c8:=hcell 8 _ rfl
 simp only[rDir,Nat.add_zero] at c0 c1 c2 c3 c4 c5 c6 c7 c8
 have HR:Hid (zBk xs xs[k] k=(decide (xs[k].path.length≠0)&&(decide (textB xs[k].path≠⟨#[]⟩)&&(decide ((textB xs[k].path).size≤1024)&&(decide (1≤xs[k].node)&&(decide (findI xs xs[k].path=(k:Int))&&(decide (0≤zC5 xs xs[k].path)&&(decide (zC5 xs xs[k].path<(k:Int))&&(packB xs[k].pack&&decide (xs[k].pack.name=lastN xs[k].path)))))))))):=rfl
 have Htx:Hid (∀ W,Below w.heap.size w W→Calls Tryz.prog 18 #[.slice pA xs[k].path.length pa] W fun e w'=>e=.returned (.string (textB xs[k].path))∧Below W.heap.size W w'):=fun W hW=>zBd _ _ _ _ W (fun b=>b<w.heap.size) (fun b h=>lL h hW.size) hlk ((hp.more (S':=fun b=>b<w.heap.size) fun b _ h=>h).belowSize hW)
 have Hfd:Hid (∀ W,Below w.heap.size w W→Calls Tryz.prog 64 #[.agg #[.slice (some ⟨b,o,none⟩) n c],.slice pA xs[k].path.length pa] W fun e w'=>e=.returned (.int .i64 (findI xs xs[k].path))∧Below W.heap.size W w'):=fun W hW=>zJr _ _ _ _ _ _ _ _ W _ _ (hx0.belowSize hW) (hp.belowSize hW)
 have Hab:Hid (∀ q,xs[k].path.length=q+1→∀ W,Below w.heap.size w W→Calls Tryz.prog 64 #[.agg #[.slice (some ⟨b,o,none⟩) n c],.slice pA q pa] W fun e w'=>e=.returned (.int .i64 (zC5 xs xs[k].path))∧Below W.heap.size W w'):=fun q hq W hW=>by
  have e:zC5 xs xs[k].path=findI xs (xs[k].path.take q):=by unfold zC5;rw[hq];rfl
  rw[e]
  exact zJr _ _ _ _ _ _ xs (xs[k].path.take q) W _ _ (hx0.belowSize hW) ((hp.take (by omega)).belowSize hW)
 have Hpk:Hid (∀ W,Below w.heap.size w W→Calls Tryz.prog 73 #[.agg #[.string xs[k].pack.name,.int .i64 xs[k].pack.ver.major,.int .i64 xs[k].pack.ver.minor,.int .i64 xs[k].pack.ver.patch,.slice pB xs[k].pack.deps.length pb,.slice pC xs[k].pack.peers.length pc,.slice pD xs[k].pack.opts.length pd]] W fun e w'=>e=.returned (.bool (packB xs[k].pack))∧Below W.heap.size W w'):=fun W hW=>zEv xs[k].pack _ W _ (zAG ht hW) (hpk.keep hW)
 have Hlast:Hid (∀ q,xs[k].path.length=q+1→∃ g u,pA=some ⟨g,u,none⟩∧g<w.heap.size∧w.cell? ⟨g,u+q,none⟩=some (.string (lastN xs[k].path))):=fun q hq=>by
  have hq':q<xs[k].path.length:=by omega
  obtain ⟨g,u,cs',rfl,_,hg,⟨rfl,_⟩,hc⟩:=hp.elem (gE hq')
  have:=hc 0 _ rfl
  simp only[rStr,Nat.add_zero,Nat.mul_one] at this
  refine ⟨g,u,rfl,hg,?_⟩
  rw[this];unfold lastN;rw[hq,List.getD_eq_getElem?_getD,show q+1 - 1=q from rfl,gE hq'];rfl
 clear hcell hp hpk hx hx0 hh hlk hlen
 have hI1:=hI.1
 have hI2:=hI.2
 clear hI
 generalize zBk xs xs[k] k=R at *
 generalize textB xs[k].path=tx at *
 generalize findI xs xs[k].path=f at *
 generalize zC5 xs xs[k].path=ab at *
 generalize packB xs[k].pack=pk at *
 generalize lastN xs[k].path=ls at *
 generalize xs[k].path.length=l0 at *
 generalize xs[k].pack.deps.length=l1 at *
 generalize xs[k].pack.peers.length=l2 at *
 generalize xs[k].pack.opts.length=l3 at *
 generalize xs[k].pack.name=nm at *
 generalize xs[k].pack.ver.major=y1 at *
 generalize xs[k].pack.ver.minor=y2 at *
 generalize xs[k].pack.ver.patch=y3 at *
 generalize xs[k].node=nd at *
 have hkn:(k:Int)<(n:Int):=by omega
 have hk0:(0:Int)≤(k:Int):=by omega
 clear hk hcx hnx ht
 go_enter Tryz.func167,Tryz.ntmps167
 go_wp2_with fail
 obtain ⟨w0,hw0⟩:∃ w0,w0=(w.alloc (.cells #[.slice (some ⟨b,o,none⟩) n c] 30)).alloc (.cells #[.slice pA l0 pa,.string nm,.int .i64 y1,.int .i64 y2,.int .i64 y3,.slice pB l1 pb,.slice pC l2 pc,.slice pD l3 pd,.int .i64 nd] 59):=⟨_,rfl⟩
 have hz:w.heap.size<w0.heap.size:=by rw[hw0];simp[go_sem]
 have hz1:w.heap.size+1<w0.heap.size:=by rw[hw0];simp[go_sem]
 have hb0:Below w.heap.size w w0:=by rw[hw0];exact bal (bal (bR _ _) _) _
 have a0:w0.cell? ⟨w.heap.size,0,none⟩=some (.slice (some ⟨b,o,none⟩) n c):=by rw[hw0];simp[go_sem]
 have e0:w0.cell? ⟨w.heap.size+1,0,none⟩=some (.slice pA l0 pa):=by rw[hw0];simp[go_sem]
 have e1:w0.cell? ⟨w.heap.size+1,1,none⟩=some (.string nm):=by rw[hw0];simp[go_sem]
 have e2:w0.cell? ⟨w.heap.size+1,2,none⟩=some (.int .i64 y1):=by rw[hw0];simp[go_sem]
 have e3:w0.cell? ⟨w.heap.size+1,3,none⟩=some (.int .i64 y2):=by rw[hw0];simp[go_sem]
 have e4:w0.cell? ⟨w.heap.size+1,4,none⟩=some (.int .i64 y3):=by rw[hw0];simp[go_sem]
 have e5:w0.cell? ⟨w.heap.size+1,5,none⟩=some (.slice pB l1 pb):=by rw[hw0];simp[go_sem]
 have e6:w0.cell? ⟨w.heap.size+1,6,none⟩=some (.slice pC l2 pc):=by rw[hw0];simp[go_sem]
 have e7:w0.cell? ⟨w.heap.size+1,7,none⟩=some (.slice pD l3 pd):=by rw[hw0];simp[go_sem]
 have e8:w0.cell? ⟨w.heap.size+1,8,none⟩=some (.int .i64 nd):=by rw[hw0];simp[go_sem]
 rw[←hw0]
 have HB0:=cH hb0;clear hb0 hw0 c0 c1 c2 c3 c4 c5 c6 c7 c8
 have HS:Hid (∀ W,Below w0.heap.size w0 W→Below w.heap.size w W):=fun W hW=>bot HB0.out hW
 refine (Htx.out w0 HB0.out).mono ?_
 rintro e w1 ⟨rfl,B1⟩
 have Q1:=cH B1;clear B1 Htx
 have f0:=zAA Q1.out e0 hz1
 have f8:=zAA Q1.out e8 hz1
 have g0:=zAA Q1.out a0 hz
 by_cases hl0:l0=0
 ·have hzb:((l0:Int)==0)=true:=by simp[hl0]
  have He:Hid (R=false):=by unfold Hid;rw[HR.out,hl0];rfl
  clear hl0
  go_wp2_with fail
  go_ret
  exact ⟨zAB He.out.symm,HS.out _ Q1.out⟩
 obtain ⟨q,rfl⟩:∃ q,l0=q+1:=⟨l0 - 1,by omega⟩
 clear hl0
 have hqb:(((q+1:Nat):Int)==0)=false:=by simp;omega
 have hqb':(((q:Int)+1)==0)=false:=by simp;omega
 obtain ⟨g,u,rfl,hg,hlc⟩:=Hlast.out q rfl
 by_cases htx:tx=⟨#[]⟩
 ·have htb:=zBe htx
  have htl:tx.toList=[]:=by rw[htx,Go.ByteArray.toList_eq]
  have htm:tx.toList.isEmpty=true:=by rw[htl];rfl
  have He:Hid (R=false):=by unfold Hid;rw[HR.out,htx];rfl
  clear htx
  go_wp2_with fail
  go_ret
  exact ⟨zAB He.out.symm,HS.out _ Q1.out⟩
 have htb:=zBD htx
 have htl:¬tx.toList=[]:=fun h=>htx (ByteArray.ext (Array.ext' (by rw[Go.ByteArray.toList_eq] at h;exact h)))
 have htm:tx.toList.isEmpty=false:=by cases e:tx.toList with|nil=>exact absurd e htl|cons=>rfl
 have Htn:=cH htx;clear htx
 by_cases hsz:tx.size≤1024
 case neg=>
  have hsi:(1024:Int)<(tx.size:Int):=by omega
  have hsj:¬(tx.size:Int)≤1024:=by omega
  have hsk:decide ((1024:Int)<(tx.size:Int))=true:=decide_eq_true hsi
  have He:Hid (R=false):=by unfold Hid;rw[HR.out,decide_eq_false hsz];simp
  clear hsz
  go_wp2_with fail
  go_ret
  exact ⟨zAB He.out.symm,HS.out _ Q1.out⟩
 have hsi:¬(1024:Int)<(tx.size:Int):=by omega
 have hsj:(tx.size:Int)≤1024:=by omega
 have hsk:decide ((1024:Int)<(tx.size:Int))=false:=decide_eq_false hsi
 by_cases hnd:1≤nd
 case neg=>
  have hni:nd<1:=by omega
  have hnk:decide (nd<1)=true:=decide_eq_true hni
  have He:Hid (R=false):=by unfold Hid;rw[HR.out,decide_eq_false hnd];simp
  clear hnd
  go_wp2_with fail
  go_ret
  exact ⟨zAB He.out.symm,HS.out _ Q1.out⟩
 have hni:¬nd<1:=by omega
 have hnk:decide (nd<1)=false:=decide_eq_false hni
 have HR2:Hid (R=(decide (f=(k:Int))&&(decide (0≤ab)&&(decide (ab<(k:Int))&&(pk&&decide (nm=ls)))))):=by
  unfold Hid;rw[HR.out,decide_eq_true Htn.out,decide_eq_true hsz,decide_eq_true hnd];simp
 clear HR hsz hnd Hlast Htn
 go_wp2_with fail
 refine (Hfd.out w1 (HS.out _ Q1.out)).mono ?_
 rintro e w2 ⟨rfl,B2⟩
 have Q2:=cH (bot Q1.out B2);clear B2 Hfd f0 f8 g0
 by_cases hf:f=(k:Int)
 case neg=>
  have hfb:(f != (k:Int))=true:=by simp[hf]
  have He:Hid (R=false):=by unfold Hid;rw[HR2.out,decide_eq_false hf];simp
  clear hf
  go_wp2_with fail
  go_ret
  exact ⟨zAB He.out.symm,HS.out _ Q2.out⟩
 have hfb:(f != (k:Int))=false:=by simp[hf]
 have HR3:Hid (R=(decide (0≤ab)&&(decide (ab<(k:Int))&&(pk&&decide (nm=ls))))):=by
  unfold Hid;rw[HR2.out,decide_eq_true hf];simp
 clear HR2 hf
 go_wp2_with fail
 have h0:=zAA Q2.out e0 hz1
 have h1:=zAA Q2.out a0 hz
 have hw1:IntKind.i64.wrap ((q:Int)+1 - 1)=(q:Int):=(IntWalk.i64_in _ ⟨by omega,by omega⟩).trans (by omega)
 have hw2:IntKind.i64.wrap (q:Int)=(q:Int):=IntWalk.i64_in _ ⟨by omega,by omega⟩
 have hqc:q≤pa:=by omega
 have Hc:=cH (qcall (w:=w2) (fun W hW=>Hab.out q rfl W (bot (HS.out _ Q2.out) hW)))
 clear Hab
 have r_h0:=cR h0
 have r_h1:=cR h1
 refine wQ ?_
 repeat (go_big_quiet_step (first|(with_reducible exact Hc.out _ _)))
 refine wpQuiet_nil fun w3 B3=>?_
 have Q3:=cH (bot Q2.out B3);clear B3 Hc r_h0 r_h1 h0 h1
 have i0:=zAA Q3.out e0 hz1
 have i1:=zAA Q3.out e1 hz1
 have i2:=zAA Q3.out e2 hz1
 have i3:=zAA Q3.out e3 hz1
 have i4:=zAA Q3.out e4 hz1
 have i5:=zAA Q3.out e5 hz1
 have i6:=zAA Q3.out e6 hz1
 have i7:=zAA Q3.out e7 hz1
 have i8:=zAA (HS.out _ Q3.out) hlc hg
 have Hc:=cH (qcall (w:=w3) (fun W hW=>Hpk.out W (bot (HS.out _ Q3.out) hW)))
 have hqn:(q:Int)<((q+1:Nat):Int):=by omega
 have hqn':(q:Int)<(q:Int)+1:=by omega
 have hq0:(0:Int)≤(q:Int):=by omega
 clear Hpk a0 e0 e1 e2 e3 e4 e5 e6 e7 e8
 have r_i0:=cR i0
 have r_i1:=cR i1
 have r_i2:=cR i2
 have r_i3:=cR i3
 have r_i4:=cR i4
 have r_i5:=cR i5
 have r_i6:=cR i6
 have r_i7:=cR i7
 have r_i8:=cR i8
 by_cases hab:0≤ab
 case neg=>
  have He:Hid (R=false):=by unfold Hid;rw[HR3.out,decide_eq_false hab];simp
  have hak:decide (0≤ab)=false:=decide_eq_false hab
  go_wp2_with fail
  refine wQ ?_
  repeat (go_big_quiet_step (first|(with_reducible exact Hc.out _ _)))
  refine wpQuiet_nil fun w4 B4=>?_
  go_wp2_with fail
  go_ret
  exact ⟨zAB He.out.symm,HS.out _ (bot Q3.out B4)⟩
 by_cases habk:ab<(k:Int)
 case neg=>
  have He:Hid (R=false):=by unfold Hid;rw[HR3.out,decide_eq_false habk];simp
  have hak:decide (ab<(k:Int))=false:=decide_eq_false habk
  go_wp2_with fail
  refine wQ ?_
  repeat (go_big_quiet_step (first|(with_reducible exact Hc.out _ _)))
  refine wpQuiet_nil fun w4 B4=>?_
  go_wp2_with fail
  go_ret
  exact ⟨zAB He.out.symm,HS.out _ (bot Q3.out B4)⟩
 have HR4:Hid (R=(pk&&decide (nm=ls))):=by
  unfold Hid;rw[HR3.out,decide_eq_true hab,decide_eq_true habk];simp
 clear HR3
 cases pk
 ·have He:Hid (R=false):=by unfold Hid;rw[HR4.out];rfl
  go_wp2_with fail
  refine wQ ?_
  repeat (go_big_quiet_step (first|(with_reducible exact Hc.out _ _)))
  refine wpQuiet_nil fun w4 B4=>?_
  go_wp2_with fail
  go_ret
  exact ⟨zAB He.out.symm,HS.out _ (bot Q3.out B4)⟩
 by_cases hnl:nm=ls
 ·have hnb:=zBe hnl
  have He:Hid (R=true):=by unfold Hid;rw[HR4.out,decide_eq_true hnl];rfl
  clear hnl
  go_wp2_with fail
  refine wQ ?_
  repeat (go_big_quiet_step (first|(with_reducible exact Hc.out _ _)))
  refine wpQuiet_nil fun w4 B4=>?_
  go_wp2_with fail
  go_ret
  exact ⟨zAB He.out.symm,HS.out _ (bot Q3.out B4)⟩
 ·have hnb:=zBD hnl
  have He:Hid (R=false):=by unfold Hid;rw[HR4.out,decide_eq_false hnl];rfl
  clear hnl
  go_wp2_with fail
  refine wQ ?_
  repeat (go_big_quiet_step (first|(with_reducible exact Hc.out _ _)))
  refine wpQuiet_nil fun w4 B4=>?_
  go_wp2_with fail
  go_ret
  exact ⟨zAB He.out.symm,HS.out _ (bot Q3.out B4)⟩
theorem zNu {w:World} {S:Nat→Prop} {p:List ByteArray} {pA:Option Addr} {n pa q:Nat} (hp:SlV rStr w S p (.slice pA n pa)) (hq:p.length=q+1) :
  ∃ g u,pA=some ⟨g,u,none⟩∧g<w.heap.size∧w.cell? ⟨g,u+q,none⟩=some (.string (lastN p))∧(lastN p).size≤maxLen:=by
 have hq':q<p.length:=by omega
 obtain ⟨g,u,cs',rfl,_,hg,⟨rfl,hs⟩,hc⟩:=hp.elem (gE hq')
 have:=hc 0 _ rfl
 simp only[rStr,Nat.add_zero,Nat.mul_one] at this
 have e:lastN p=p[q]:=by unfold lastN;rw[hq,List.getD_eq_getElem?_getD,show q+1 - 1=q from rfl,gE hq'];rfl
 exact ⟨g,u,rfl,hg,by rw[e];exact this,by rw[e];exact hs⟩
theorem zQh:∀ a b:List UInt8,(Lib.compareBytes a b<0↔a<b)∧(Lib.compareBytes a b=0↔a=b)
 | [],[]=>by simp[Lib.compareBytes]
 | [],_::_=>by simp[Lib.compareBytes]
 | _::_,[]=>by simp[Lib.compareBytes]
 | x::a,y::b=>by
   have ih:=zQh a b
   rw[Lib.compareBytes,List.cons_lt_cons_iff,List.cons.injEq]
   by_cases h1:x<y
   ·have hne:x≠y:=fun e=>by subst e;exact UInt8.lt_irrefl x h1
    simp[h1,hne]
   ·by_cases h2:y<x
    ·have hne:x≠y:=fun e=>by subst e;exact UInt8.lt_irrefl x h2
     simp[h1,h2,hne]
    ·have he:x=y:=UInt8.le_antisymm (UInt8.not_lt.1 h2) (UInt8.not_lt.1 h1)
     simp[h1,h2,he,ih.1,ih.2]
def orI (x y:Int):Int:=if x≠0 then x else y
def cfN (nm:Nat→List UInt8) (x y:Nat):Int:=orI (Lib.compareBytes (nm x) (nm y)) (Lib.compareInt x y)
def ltN (nm:Nat→List UInt8) (x y:Nat):Bool:=decide (nm x<nm y)||(decide (nm x=nm y)&&decide (x<y))
theorem zTF (nm:Nat→List UInt8) (x y:Nat):decide (cfN nm x y<0)=ltN nm x y:=by
 have hs:=zQh (nm x) (nm y)
 unfold cfN orI ltN
 by_cases h0:Lib.compareBytes (nm x) (nm y)=0
 ·have he:=hs.2.1 h0
  rw[if_neg (by simpa using h0),he]
  have:¬nm y<nm y:=List.lt_irrefl _
  rw[decide_eq_false this,decide_eq_true (rfl:nm y=nm y),Bool.false_or,Bool.true_and]
  unfold Lib.compareInt
  by_cases hxy:x<y
  ·rw[if_pos (by omega),decide_eq_true hxy];rfl
  ·rw[if_neg (by omega),decide_eq_false hxy]
   split<;>rfl
 ·have hne:nm x≠nm y:=fun e=>h0 (hs.2.2 e)
  rw[if_pos h0,decide_eq_false hne,Bool.false_and,Bool.or_false]
  exact decide_eq_decide.2 hs.1
theorem zFi {nm:Nat→List UInt8} {x y:Nat}:ltN nm x y=true↔nm x<nm y∨(nm x=nm y∧x<y):=by unfold ltN;simp
theorem zFI {nm:Nat→List UInt8} {x y z:Nat} (h1:ltN nm x y=true) (h2:ltN nm y z=true):ltN nm x z=true:=by
 rw[zFi] at h1 h2 ⊢
 rcases h1 with h1|⟨h1,h1'⟩
 ·rcases h2 with h2|⟨h2,h2'⟩
  ·exact .inl (List.lt_trans h1 h2)
  ·rw[h2] at h1;exact .inl h1
 ·rcases h2 with h2|⟨h2,h2'⟩
  ·rw[←h1] at h2;exact .inl h2
  ·exact .inr ⟨h1.trans h2,by omega⟩
theorem zIX (nm:Nat→List UInt8) (x:Nat):ltN nm x x=false:=by
 cases h:ltN nm x x
 ·rfl
 ·rw[zFi] at h
  rcases h with h|⟨_,h⟩
  ·exact absurd h (List.lt_irrefl _)
  ·omega
theorem zKv {nm:Nat→List UInt8} {x y:Nat} (h:ltN nm x y=true):ltN nm y x=false:=by
 cases h':ltN nm y x
 ·rfl
 ·have:=zFI h h'
  rw[zIX] at this;cases this
theorem zHj {nm:Nat→List UInt8} {x y:Nat} (h1:ltN nm x y=false) (h2:ltN nm y x=false):x=y:=by
 have a1:¬(nm x<nm y∨(nm x=nm y∧x<y)):=fun h=>by rw[zFi.2 h] at h1;cases h1
 have a2:¬(nm y<nm x∨(nm y=nm x∧y<x)):=fun h=>by rw[zFi.2 h] at h2;cases h2
 have e:nm x=nm y:=List.le_antisymm (List.not_lt.1 fun h=>a2 (.inl h)) (List.not_lt.1 fun h=>a1 (.inl h))
 have b1:¬x<y:=fun h=>a1 (.inr ⟨e,h⟩)
 have b2:¬y<x:=fun h=>a2 (.inr ⟨e.symm,h⟩)
 omega
theorem zN9 {nm:Nat→List UInt8} {x y z:Nat} (h1:ltN nm x y=false) (h2:ltN nm y z=false):ltN nm x z=false:=by
 cases h:ltN nm x z
 ·rfl
 ·cases h3:ltN nm y x
  ·have e:=zHj h1 h3
   subst e
   rw[h] at h2;exact h2
  ·rw[zFI h3 h] at h2;exact h2
def insAt (nm:Nat→List UInt8) (l:List Nat) (i:Nat):List Nat:=l.takeWhile (fun j=>decide (nm j≤nm i))++i::l.dropWhile (fun j=>decide (nm j≤nm i))
def insR (nm:Nat→List UInt8) (q:Nat→Bool):Nat→List Nat
 | 0=>[]
 | k+1=>bif q k then insAt nm (insR nm q k) k else insR nm q k
theorem zOG (nm:Nat→List UInt8) (l:List Nat) (i:Nat):(insAt nm l i).Perm (l++[i]):=by
 unfold insAt
 have h:=List.takeWhile_append_dropWhile (p:=fun j=>decide (nm j≤nm i)) (l:=l)
 conv=>rhs;rw[←h]
 rw[List.append_assoc]
 exact List.Perm.append_left _ (List.perm_append_comm (l₁:=[i]))
theorem zHA (nm:Nat→List UInt8) (q:Nat→Bool):∀ k,(insR nm q k).Perm ((List.range k).filter q):=by
 intro k
 induction k with
 | zero=>exact List.Perm.refl _
 | succ k ih=>
   rw[insR,List.range_succ,List.filter_append]
   cases h:q k
   ·simp[h];exact ih
   ·have:[k].filter q=[k]:=by simp[h]
    rw[this]
    exact (zOG nm _ k).trans (List.Perm.append_right _ ih)
theorem zNJ {nm:Nat→List UInt8} {q:Nat→Bool} {k x:Nat} (h:x∈insR nm q k):x<k∧q x=true:=by
 have:=(zHA nm q k).mem_iff.1 h
 rw[List.mem_filter,List.mem_range] at this
 exact this
theorem zIH {p:Nat→Bool} {l:List Nat} {y:Nat} {t:List Nat} (h:l.dropWhile p=y::t):p y=false:=by
 induction l with
 | nil=>cases h
 | cons a l ih=>
   rw[List.dropWhile_cons] at h
   split at h
   ·exact ih h
   ·rename_i hn
    simp only[List.cons.injEq] at h
    rw[←h.1];simpa using hn
theorem zGS {p:Nat→Bool} {l:List Nat} {y:Nat} (h:y∈l.takeWhile p):p y=true:=by
 induction l with
 | nil=>cases h
 | cons a l ih=>
   rw[List.takeWhile_cons] at h
   split at h
   ·rcases List.mem_cons.1 h with rfl|h
    ·assumption
    ·exact ih h
   ·cases h
theorem zKr {nm:Nat→List UInt8} {l:List Nat} {i:Nat} (hl:l.Pairwise fun x y=>ltN nm x y=true) (hi:∀ x∈l,x<i):(insAt nm l i).Pairwise fun x y=>ltN nm x y=true:=by
 unfold insAt
 have h:=List.takeWhile_append_dropWhile (p:=fun j=>decide (nm j≤nm i)) (l:=l)
 generalize hA:l.takeWhile (fun j=>decide (nm j≤nm i))=A at *
 generalize hB:l.dropWhile (fun j=>decide (nm j≤nm i))=B at *
 rw[←h,List.pairwise_append] at hl
 obtain ⟨h1,h2,h3⟩:=hl
 have hAi:∀ a∈A,ltN nm a i=true:=fun a ha=>by
  have h4:=zGS (p:=fun j=>decide (nm j≤nm i)) (l:=l) (by rw[hA];exact ha)
  have h5:a<i:=hi a (by rw[←h];exact List.mem_append_left _ ha)
  have h6:nm a≤nm i:=by simpa using h4
  rw[zFi]
  rcases List.le_iff_lt_or_eq.1 h6 with h7|h7
  ·exact .inl h7
  ·exact .inr ⟨h7,h5⟩
 have hiB:∀ b∈B,ltN nm i b=true:=fun b hb=>by
  cases B with
  | nil=>cases hb
  | cons y t=>
    have h4:=zIH hB
    have h5:nm i<nm y:=by
     have:¬nm y≤nm i:=by simpa using h4
     exact List.not_le.1 this
    have h6:ltN nm i y=true:=zFi.2 (.inl h5)
    rcases List.mem_cons.1 hb with rfl|hb
    ·exact h6
    ·exact zFI h6 ((List.pairwise_cons.1 h2).1 b hb)
 rw[List.pairwise_append,List.pairwise_cons]
 refine ⟨h1,⟨hiB,h2⟩,fun a ha b hb=>?_⟩
 rcases List.mem_cons.1 hb with rfl|hb
 ·exact hAi a ha
 ·exact h3 a ha b hb
theorem zMI (nm:Nat→List UInt8) (q:Nat→Bool):∀ k,(insR nm q k).Pairwise fun x y=>ltN nm x y=true:=by
 intro k
 induction k with
 | zero=>exact List.Pairwise.nil
 | succ k ih=>
   rw[insR]
   cases h:q k
   ·exact ih
   ·exact zKr ih fun x hx=>(zNJ hx).1
theorem zON {nm:Nat→List UInt8} {l M:List Nat} (hp:M.Perm l) (hl:l.Pairwise fun x y=>ltN nm x y=true) (hM:M.Pairwise fun x y=>(!ltN nm y x)=true):M=l:=by
 refine List.Perm.eq_of_pairwise (le:=fun x y=>(!ltN nm y x)=true) ?_ hM (hl.imp fun h=>by rw[zKv h];rfl) hp
 intro a b _ _ h1 h2
 simp only[Bool.not_eq_true'] at h1 h2
 exact zHj h2 h1
def Cls (w w':World):Prop:=∃ (q:Nat) (os:Array Obj),w'=grow (w.drewN q) os
theorem Cls.refl (w:World):Cls w w:=⟨0,#[],by rw[grow_empty];rfl⟩
theorem Cls.drew {w w':World} (h:Cls w w'):Cls w w'.drew:=by
 obtain ⟨q,os,rfl⟩:=h
 exact ⟨q+1,os,by rw[drew_grow];rfl⟩
theorem Cls.alloc {w w':World} (h:Cls w w') (o:Obj):Cls w (w'.alloc o):=by
 obtain ⟨q,os,rfl⟩:=h
 exact ⟨q,os++#[o],by rw[alloc_eq_grow,grow_grow]⟩
theorem Cls.below {w w':World} (h:Cls w w'):Below w.heap.size w w':=by
 obtain ⟨q,os,rfl⟩:=h
 exact zGQ (d:=w.drawn+q) (bR _ _) (nR _) os
theorem zQN (b o c:Nat) (x y:Int) (w:World) (hx:w.cell? ⟨b,o,none⟩=some (.int .i64 x)) (hy:w.cell? ⟨b,o+1,none⟩=some (.int .i64 y)) :
  Calls Tryz.prog 79 #[.slice (some ⟨b,o,none⟩) 2 c] w fun e w'=>e=.returned (.int .i64 (orI x y))∧w'=w:=by
 by_cases h0:x=0
 ·subst h0
  have He:Hid (orI 0 y=y):=by unfold Hid orI;rw[if_neg (by simp)]
  generalize orI 0 y=R at *
  by_cases h1:y=0
  ·subst h1
   go_enter Tryz.func79,Tryz.ntmps79
   go_wp2_with fail
   go_loopw [8] (fun i wr=>∃ k:Nat,k≤2∧i=.int .i64 k∧wr=w) (fun i _=>2 - (intOf i).toNat)
   case atStart=>exact ⟨0,by omega,rfl,rfl⟩
   case round=>
    obtain ⟨k,hk,rfl,rfl⟩:=hrel
    rcases (by omega:k=0∨k=1∨k=2) with rfl|rfl|rfl
    ·go_wp2_with fail
     go_roundw
     case rel=>exact ⟨1,by omega,rfl,trivial⟩
     case measure=>simp[intOf]
    ·go_wp2_with fail
     go_roundw
     case rel=>exact ⟨2,by omega,rfl,trivial⟩
     case measure=>simp[intOf]
    ·go_wp2_with fail
     go_ret
     exact ⟨zBZ He.out.symm,rfl⟩
  ·have hb:(y != 0)=true:=by simpa using h1
   clear h1
   go_enter Tryz.func79,Tryz.ntmps79
   go_wp2_with fail
   go_loopw [8] (fun i wr=>∃ k:Nat,k≤1∧i=.int .i64 k∧wr=w) (fun i _=>2 - (intOf i).toNat)
   case atStart=>exact ⟨0,by omega,rfl,rfl⟩
   case round=>
    obtain ⟨k,hk,rfl,rfl⟩:=hrel
    rcases (by omega:k=0∨k=1) with rfl|rfl
    ·go_wp2_with fail
     go_roundw
     case rel=>exact ⟨1,by omega,rfl,trivial⟩
     case measure=>simp[intOf]
    ·go_wp2_with fail
     go_ret
     exact ⟨zBZ He.out.symm,rfl⟩
 ·have hb:(x != 0)=true:=by simpa using h0
  have He:Hid (orI x y=x):=by unfold Hid orI;rw[if_pos h0]
  generalize orI x y=R at *
  clear h0
  go_enter Tryz.func79,Tryz.ntmps79
  go_wp2_with fail
  go_loopw [8] (fun i wr=>i=.int .i64 0∧wr=w) (fun i _=>2 - (intOf i).toNat)
  case atStart=>exact ⟨rfl,rfl⟩
  case round=>
   obtain ⟨rfl,rfl⟩:=hrel
   go_wp2_with fail
   go_ret
   exact ⟨zBZ He.out.symm,rfl⟩
theorem zOm (i n c h pc hc b0 hB b o g u:Nat) (hA:Option Addr) (s:ByteArray) (w:World) (hi:i<n) (c0:w.cell? ⟨b0,0,none⟩=some (.slice (some ⟨b,o,none⟩) n c)) (c1:w.cell? ⟨b,o+i * 9,none⟩=some (.slice (some ⟨g,u,none⟩) (h+1) pc))
  (c2:w.cell? ⟨hB,0,none⟩=some (.slice hA h hc)) (c3:w.cell? ⟨g,u+h,none⟩=some (.string s)) (hh:h≤9223372036854775807) :
  Calls Tryz.prog 76 #[.int .i64 i,.pointer (some ⟨b0,0,none⟩),.pointer (some ⟨hB,0,none⟩)] w fun e w'=>e=.returned (.string s)∧w'=w.drew:=by
 have hiI:(i:Int)<(n:Int):=by omega
 have hi0:(0:Int)≤(i:Int):=by omega
 have hh0:(0:Int)≤(h:Int):=by omega
 have hhI:(h:Int)<(h:Int)+1:=by omega
 have hhJ:(h:Int)<((h+1:Nat):Int):=by omega
 go_enter Tryz.func76,Tryz.ntmps76
 go_wp2_with fail
 go_region_held3 (fun w'=>w'.cell? ⟨b0,0,none⟩=some (.slice (some ⟨b,o,none⟩) n c)∧w'.cell? ⟨b,o+i * 9,none⟩=some (.slice (some ⟨g,u,none⟩) (h+1) pc)∧w'.cell? ⟨hB,0,none⟩=some (.slice hA h hc)∧w'.cell? ⟨g,u+h,none⟩=some (.string s))
  (first|go_keep|exact ⟨by go_keep,by go_keep,by go_keep,by go_keep⟩)
  (fail)
 all_goals
  go_wp2_with fail
  go_ret
  exact ⟨rfl,rfl⟩
theorem zQO (i j b0 hB b9:Nat) (si sj:ByteArray) (w:World) (h0:w.cell? ⟨b9,0,none⟩=some (.func (.func 76) #[] #[.pointer (some ⟨b0,0,none⟩),.pointer (some ⟨hB,0,none⟩)]))
  (hi:∀ w',Cls w w'→Calls Tryz.prog 76 #[.int .i64 i,.pointer (some ⟨b0,0,none⟩),.pointer (some ⟨hB,0,none⟩)] w' fun e w''=>e=.returned (.string si)∧w''=w'.drew)
  (hj:∀ w',Cls w w'→Calls Tryz.prog 76 #[.int .i64 j,.pointer (some ⟨b0,0,none⟩),.pointer (some ⟨hB,0,none⟩)] w' fun e w''=>e=.returned (.string sj)∧w''=w'.drew) :
  Calls Tryz.prog 78 #[.int .i64 i,.int .i64 j,.pointer (some ⟨b9,0,none⟩)] w fun e w'=>e=.returned (.int .i64 (orI (Lib.compareBytes si.data.toList sj.data.toList) (Lib.compareInt i j)))∧Cls w w':=by
 have Hi:=cH hi;clear hi
 have Hj:=cH hj;clear hj
 have Hlt:b9<w.heap.size:=zAE h0
 go_enter Tryz.func78,Tryz.ntmps78
 go_wp2_with fail
 go_region_held3 (fun w'=>w'.cell? ⟨b9,0,none⟩=some (.func (.func 76) #[] #[.pointer (some ⟨b0,0,none⟩),.pointer (some ⟨hB,0,none⟩)])∧Cls w w')
  (first
    | exact ⟨by go_keep,(Cls.refl w).drew⟩
    | (go_split_ands;exact ⟨by go_keep,Cls.drew (by assumption)⟩)
    | (go_split_ands;exact ⟨by go_keep,Cls.alloc (by assumption) _⟩)
    | (go_split_ands;exact ⟨by go_keep,by assumption⟩)
    | (go_split_ands;exact ⟨by assumption,by assumption⟩)
    | exact ⟨by go_keep,(Cls.alloc (Cls.refl w) _).drew.drew.drew⟩)
  (first
    | (go_at_call 76;go_split_ands;(first|(with_reducible refine (Hi.out _ (by assumption)).mono ?_)|(with_reducible refine (Hj.out _ (by assumption)).mono ?_));rintro e w' ⟨rfl,rfl⟩)
    | (go_at_call 80;refine (Tryz.strings_Compare _ _ _).mono ?_;rintro e w' ⟨rfl,rfl⟩)
    | (go_at_call 81;refine (Tryz.cmp_Compare_int _ _ _).mono ?_;rintro e w' ⟨rfl,rfl⟩)
    | (go_at_call 79;refine (zQN _ 0 _ (Lib.compareBytes si.data.toList sj.data.toList) (Lib.compareInt i j) _ (by simp[go_sem]) (by simp[go_sem])).mono ?_;rintro e w' ⟨rfl,rfl⟩))
 all_goals
  go_wp2_with fail
  go_ret
  exact ⟨rfl,(Cls.alloc (Cls.refl w) _).drew.drew.drew⟩
theorem zFR {α:Type} [Inhabited α] (enc:α→Value) (w:World) (g o m:Nat) (dk:Array α) (os:Array Obj) {k:Nat} (hk:k<w.heap.size) (hne:k≠g):(sortWorld enc w g o m dk os).heap[k]?=w.heap[k]?:=by
 unfold sortWorld
 have hs:(putRow enc (Sort.ahead w m) g o dk).heap.size=w.heap.size:=size_putRow enc (Sort.ahead w m) g o dk
 rw[heap_grow_old _ _ (by rw[hs];exact hk)]
 unfold putRow mapBlock
 simp only[Array.getElem?_modify]
 rw[if_neg (fun e=>hne e.symm)]
 rfl
theorem zEJ {α:Type} [Inhabited α] (enc:α→Value) (w:World) (g o m:Nat) (dk:Array α) (os:Array Obj):w.grownBy (sortWorld enc w g o m dk os) (some g):=by
 refine ⟨rfl,rfl,rfl,?_,fun k hk hne=>zFR enc w g o m dk os hk (fun e=>hne (by rw[e]))⟩
 unfold sortWorld
 rw[size_grow,size_putRow]
 show w.heap.size≤w.heap.size+os.size
 omega
def nmL (xs:List Dir) (i:Nat):List UInt8:=match xs[i]? with|some d=>(lastN d.path).data.toList|none=>[]
theorem zSK {xs:List Dir} {i:Nat} (h:i<xs.length):nmL xs i=(lastN xs[i].path).data.toList:=by unfold nmL;rw[gE h]
def castL (l:List Nat):List Int:=l.map fun (r:Nat)=>(r:Int)
theorem zQj {l:List Nat} {j x:Nat} (h:l[j]?=some x):(castL l)[j]?=some (x:Int):=by unfold castL;rw[List.getElem?_map,h];rfl
theorem zMe (xs:List Dir) (h n c b0 hB b9 b o hc:Nat) (hA:Option Addr) (w0 w:World) (base g cap:Nat) (F R:List Nat) (hx:SlV rDir w0 (fun b=>b<w0.heap.size) xs (.slice (some ⟨b,o,none⟩) n c)) (hw:Below w0.heap.size w0 w) (hbase:w0.heap.size≤base)
  (c0:w.cell? ⟨b0,0,none⟩=some (.slice (some ⟨b,o,none⟩) n c)) (c1:w.cell? ⟨hB,0,none⟩=some (.slice hA h hc)) (c2:w.cell? ⟨b9,0,none⟩=some (.func (.func 76) #[] #[.pointer (some ⟨b0,0,none⟩),.pointer (some ⟨hB,0,none⟩)]))
  (n0:b0≠g) (n1:hB≠g) (n9:b9≠g) (hF:∀ x∈F,∃ hx:x<xs.length,xs[x].path.length=h+1) (hF0:0<F.length) (hrow:IRow w base g 0 cap (castL F)) (hR:R.Perm F) (hRs:R.Pairwise fun x y=>ltN (nmL xs) x y=true) (hh:h≤9223372036854775807) (hx63:xs.length≤9223372036854775807) (hF63:F.length<4611686018427387904) :
  Calls Tryz.prog 77 #[.slice (some ⟨g,0,none⟩) F.length cap,.func (.func 78) #[] #[.pointer (some ⟨b9,0,none⟩)]] w fun e w'=>
   e=.returned (.tuple #[])∧SlV rInt w' (fun b=>base≤b) (castL R) (.slice (some ⟨g,0,none⟩) F.length cap)∧w.grownBy w' (some g):=by
 let α:={x:Nat // ∃ hx:x<xs.length,xs[x].path.length=h+1}
 have hinh:Inhabited α:=⟨⟨F[0],hF _ (List.getElem_mem hF0)⟩⟩
 let enc:α→Value:=fun x=>.int .i64 (x.val:Int)
 let cf:α→α→Int:=fun x y=>cfN (nmL xs) x.val y.val
 have hlt:∀ x y:α,ltOf cf x y=ltN (nmL xs) x.val y.val:=fun x y=>zTF _ _ _
 have hO:SWO (ltOf cf):=⟨fun x=>by rw[hlt];exact zIX _ _,fun x y z h1 h2=>by rw[hlt] at *;exact zFI h1 h2,fun x y z h1 h2=>by rw[hlt] at *;exact zN9 h1 h2⟩
 have hT:∀ x y:α,ltOf cf x y=false→ltOf cf y x=false→x=y:=fun x y h1 h2=>by rw[hlt] at h1 h2;exact Subtype.ext (zHj h1 h2)
 let L:List α:=F.pmap Subtype.mk hF
 have hL:L.map Subtype.val=F:=by show (F.pmap Subtype.mk hF).map Subtype.val=F;rw[List.map_pmap];simp
 have hLl:L.length=F.length:=by show (F.pmap Subtype.mk hF).length=_;rw[List.length_pmap]
 have hd:L.toArray.size=F.length:=by rw[List.size_toArray,hLl]
 have hget:∀ j (hj:j<F.length),(L.toArray[j]!).val=F[j]:=fun j hj=>by
  rw[getElem!_pos L.toArray j (by rw[hd];exact hj)]
  show (L[j]'(by rw[hLl];exact hj)).val=F[j]
  show ((F.pmap Subtype.mk hF)[j]'(by rw[List.length_pmap];exact hj)).val=F[j]
  rw[List.getElem_pmap]
 have hHold:Holds enc w g 0 L.toArray:=fun j hj=>by
  rw[hd] at hj
  have h1:=hrow.at_ j (F[j]:Int) (zQj (gE hj))
  have h2:=hrow.there j (lL (by simpa [castL] using hj) hrow.le)
  refine ⟨?_,h2.2⟩
  rw[h1]
  show _=some (Value.int .i64 ((L.toArray[j]!).val:Int))
  rw[hget j hj]
 have hfar:∀ (m:Nat) (os:Array Obj) (dk:Array α) (w':World),Cls (sortWorld enc w g 0 m dk os) w'→∀ (b1 o1:Nat) (v:Value),b1≠g→w.cell? ⟨b1,o1,none⟩=some v→w'.cell? ⟨b1,o1,none⟩=some v:=fun m os dk w' hC b1 o1 v hne hc=>by
  have hb1:b1<w.heap.size:=zAE hc
  have h1:(sortWorld enc w g 0 m dk os).cell? ⟨b1,o1,none⟩=some v:=(zAI (zFR enc w g 0 m dk os hb1 hne) _ _).trans hc
  exact zAA hC.below h1 (zAE h1)
 have hgb:w0.heap.size≤g:=nT hbase hrow.lo
 have hn:n=xs.length:=hx.n_eq
 have hlast:∀ (x:α) (W:World),(∀ (b1 o1:Nat) (v:Value),b1≠g→w.cell? ⟨b1,o1,none⟩=some v→W.cell? ⟨b1,o1,none⟩=some v) →
   Calls Tryz.prog 76 #[.int .i64 (x.val:Int),.pointer (some ⟨b0,0,none⟩),.pointer (some ⟨hB,0,none⟩)] W fun e w''=>e=.returned (.string (lastN (xs[x.val]'x.property.1).path))∧w''=W.drew:=fun x W hW=>by
  obtain ⟨i,hi,hil⟩:=x
  obtain ⟨b',o',cs,hAe,_,hbb,hh',hcell⟩:=hx.elem (gE hi)
  obtain ⟨s0,s1,s2,s3,rfl,hp,_,_,_,_,_,_,_,_⟩:=hh'
  obtain ⟨pA,pc,rfl,_,_⟩:=hp.val
  simp only[Option.some.injEq,Addr.mk.injEq] at hAe
  obtain ⟨rfl,rfl,_⟩:=hAe
  obtain ⟨g',u,rfl,hg',hlc,_⟩:=zNu hp hil
  have d0:=zAA hw (hcell 0 _ rfl) hbb
  have d1:=zAA hw hlc hg'
  simp only[rDir,Nat.add_zero] at d0
  rw[hil] at d0
  exact zOm i n c h pc hc b0 hB b o g' u hA _ W (by rw[hn];exact hi) (hW _ _ _ n0 c0) (hW _ _ _ (by omega) d0) (hW _ _ _ n1 c1) (hW _ _ _ (by omega) d1) hh
 have hcmp:CmpLays1 Tryz.prog 78 #[.pointer (some ⟨b9,0,none⟩)] enc cf g 0 L.toArray.size w:=fun m os dk hs x y=>by
  have hz:=fun w' (hC:Cls (sortWorld enc w g 0 m dk os) w')=>hfar m os dk w' hC
  have:=zQO x.val y.val b0 hB b9 (lastN (xs[x.val]'x.property.1).path) (lastN (xs[y.val]'y.property.1).path) (sortWorld enc w g 0 m dk os) (hz _ (Cls.refl _) _ _ _ n9 c2) (fun w' hC=>hlast x w' (hz w' hC)) (fun w' hC=>hlast y w' (hz w' hC))
  refine this.mono fun e w' ⟨he,hC⟩=>⟨?_,hC⟩
  rw[he]
  show _=Ending.returned (Value.int .i64 (cfN (nmL xs) x.val y.val))
  unfold cfN
  rw[zSK x.property.1,zSK y.property.1]
 have hS:=Tryz.slices_SortFunc_total enc (fun x=>rfl) cf hO 78 #[.pointer (some ⟨b9,0,none⟩)] g 0 cap L.toArray w (zA9 Tryz.func78 (by kernel_rfl) rfl) hcmp hHold hrow.lt (by rw[hd];exact hF63) hT
 rw[hd] at hS
 refine hS.mono ?_
 rintro e w' ⟨rfl,m,os,rfl⟩
 have hM:((L.mergeSort fun x y=>!(ltOf cf) y x).map Subtype.val)=R:=by
  refine zON (nm:=nmL xs) ?_ hRs ?_
  ·exact (((List.mergeSort_perm L _).map Subtype.val).trans (by rw[hL])).trans hR.symm
  ·rw[List.pairwise_map]
   refine (List.pairwise_mergeSort (le:=fun x y=>!(ltOf cf) y x) ?_ ?_ L).imp fun {x y} hxy=>?_
   ·intro x y z h1 h2
    simp only[Bool.not_eq_true'] at h1 h2 ⊢
    exact hO.ntrans z y x h2 h1
   ·intro x y
    cases hyx:ltOf cf y x with
    | false=>simp
    | true=>rw[hlt] at *;simp[zKv hyx]
   ·rw[hlt] at hxy;exact hxy
 have hMl:(L.mergeSort fun x y=>!(ltOf cf) y x).length=F.length:=by rw[List.length_mergeSort,hLl]
 have hRl:(castL R).length=F.length:=by unfold castL;rw[List.length_map];exact hR.length_eq
 refine ⟨rfl,?_,zEJ _ _ _ _ _ _ _⟩
 have hH2:=holds_sortWorld enc w g 0 m L.toArray (L.mergeSort fun x y=>!(ltOf cf) y x).toArray os hrow.lt hHold (by rw[List.size_toArray,hMl,hd])
 have hg2:g<(sortWorld enc w g 0 m (L.mergeSort fun x y=>!(ltOf cf) y x).toArray os).heap.size:=lL hrow.lt (zEJ enc w g 0 m _ os).size
 have hcl:(castL F).length=F.length:=by unfold castL;rw[List.length_map]
 refine ⟨some ⟨g,0,none⟩,cap,by rw[hRl],by rw[hRl,←hcl];exact hrow.le,hrow.max,(fun e=>by cases e),fun _=>⟨g,0,rfl,hrow.lo,hg2,fun i x hx=>?_⟩⟩
 have hi:i<F.length:=by rw[←hRl];exact (gS.1 hx).1
 have h3:=(hH2 i (by rw[List.size_toArray,hMl];exact hi)).1
 rw[getElem!_pos _ i (by rw[List.size_toArray,hMl];exact hi)] at h3
 have hxv:x=(((L.mergeSort fun x y=>!(ltOf cf) y x)[i]'(by rw[hMl];exact hi)).val:Int):=by
  rw[←hM] at hx
  unfold castL at hx
  rw[List.getElem?_map,List.getElem?_map,gE (by rw[hMl];exact hi)] at hx
  simpa using hx.symm
 refine ⟨[.int .i64 x],⟨rfl,?_⟩,fun j u hu=>?_⟩
 ·have hv:=((L.mergeSort fun x y=>!(ltOf cf) y x)[i]'(by rw[hMl];exact hi)).property.1
  unfold I64;rw[hxv];omega
 ·cases j with
  | zero=>
    simp at hu;subst hu
    rw[hxv]
    simpa [rInt,enc] using h3
  | succ j=>simp at hu
