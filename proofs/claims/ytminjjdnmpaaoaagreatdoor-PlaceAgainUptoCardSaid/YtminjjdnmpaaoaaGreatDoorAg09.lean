/- A path's text: the program's tree.Text (a Builder) and the document's Text (12). -/
import Derived.Test.YtminjjdnmpaaoaaGreatDoorRows
import Derived.Test.YtminjjdnmpaaoaaGreatDoorAg01
import Derived.Test.YtminjjdnmpaaoaaGreatDoorAg02
import Derived.Test.YtminjjdnmpaaoaaGreatDoorAg04
import Derived.Test.YtminjjdnmpaaoaaGreatDoorAg06
import Derived.Laws.Concat
import Derived.WalkKit
import Derived.WalkSpells
import Derived.WalkLawsBesides
import Derived.IntWalk
import Derived.Lib.Hide
import Derived.Test.YtminjjdnmpaaoaaGreatDoorAg08
import Derived.Laws.OwnMore
import Derived.Test.YtminjjdnmpaaoaaGreatDoorAl
set_option linter.all false
set_option maxHeartbeats 3200000
set_option maxRecDepth 100000
namespace Go.Proofs.YtminjjdnmpaaoaaGreatDoor
open Go.Rows Go.RowKit Go.Shelf
def stepB:ByteArray:=⟨#[47,109,111,100,117,108,101,115,47]⟩
def zAq:List ByteArray→List UInt8
 | []=>[]
 | s::t=>(stepB.data.toList++s.data.toList)++zAq t
def textB (l:List ByteArray):ByteArray:=if l=[] then ⟨#[47]⟩ else if l.all nameB=true then ⟨(zAq l).toArray⟩ else ⟨#[]⟩
theorem zD4 (a b:List ByteArray):zAq (a++b)=zAq a++zAq b:=by
 induction a with
 | nil=>rfl
 | cons s t ih=>rw[List.cons_append,zAq,ih,zAq];simp[List.append_assoc]
theorem zHl {l:List ByteArray} {k:Nat} (h:k<l.length):zAq (l.take (k+1))=zAq (l.take k)++stepB.data.toList++l[k].data.toList:=by
 rw[List.take_succ_eq_append_getElem h,zD4]
 simp[zAq,List.append_assoc]
theorem zL9 {α:Type} {p:α→Bool} {l:List α} {k:Nat} (h:k<l.length) (h0:(l.take k).all p=true) (h1:p l[k]=true):(l.take (k+1)).all p=true:=by
 rw[List.take_succ_eq_append_getElem h,List.all_append,h0]
 simp[h1]
theorem zNe {α:Type} {p:α→Bool} {l:List α} {k:Nat} (h:k<l.length) (h1:p l[k]=false):l.all p=false:=by
 rw[List.all_eq_false]
 exact ⟨l[k],List.getElem_mem h,by simp[h1]⟩
theorem zI4 {s:ByteArray} (h:nameB s=true):s.size≤16:=by
 rcases Nat.lt_or_ge 16 s.size with h'|h'
 ·have:nameL s.data.toList=false:=zFA (by rw[←zBI];exact h')
  unfold nameB at h;rw[this] at h;cases h
 ·exact h'
theorem zKF:∀ {l:List ByteArray},l.all nameB=true→(zAq l).length≤25 * l.length:=by
 intro l
 induction l with
 | nil=>intro _;exact nR _
 | cons s t ih=>
   intro h
   rw[List.all_cons,Bool.and_eq_true] at h
   have h1:=zI4 h.1
   have h2:=ih h.2
   rw[zBI] at h1
   have h3:stepB.data.toList.length=9:=by decide
   rw[zAq,List.length_append,List.length_append,List.length_cons]
   omega
theorem zCV (A:Option Addr) (n c:Nat) (l:List ByteArray) (w:World) (S:Nat→Prop) (hS:∀ b,S b→b<w.heap.size) (hmax:l.length * 32≤140737488355328)
  (hl:SlV rStr w S l (.slice A n c)) :
  Calls Tryz.prog 19 #[.slice A n c] w fun e w'=>e=.returned (.string (textB l))∧Below w.heap.size w w':=by
 have hnx:=hl.n_eq
 have Hnx:=cH hnx
 by_cases h0:l=[]
 ·have hn0:n=0:=by rw[hnx,h0];rfl
  have e0:textB l=⟨#[47]⟩:=if_pos h0
  have E0:=cH e0
  clear Hnx hnx h0 hl hmax hS e0
  subst hn0
  go_enter Tryz.func19,Tryz.ntmps19
  go_wp2_with fail
  go_ret
  exact ⟨zBz E0.out.symm,bR _ _⟩
 ·have hn0:n≠0:=by rw[hnx];exact fun h=>h0 (List.eq_nil_of_length_eq_zero h)
  have hyes:l.all nameB=true→textB l=⟨(zAq l).toArray⟩:=fun h=>by unfold textB;rw[if_neg h0,if_pos h]
  have hno:l.all nameB=false→textB l=⟨#[]⟩:=fun h=>by unfold textB;rw[if_neg h0,h];rfl
  have Hyes:=cH hyes;clear hyes
  have Hno:=cH hno;clear hno
  have hn63:n≤9223372036854775807:=by omega
  have hne:((n:Int)==0)=false:=by simp[hn0]
  have Hm:=cH hmax;clear hmax
  clear hnx h0
  go_enter Tryz.func19,Tryz.ntmps19
  go_wp2
  go_loopw [11] (fun i wr=>∃ k:Nat,k≤n∧i=.int .i64 k∧Hid (IsB w.heap.size w.heap.size (Lib.byteCells (zAq (l.take k))) wr)∧Below w.heap.size w wr∧Hid ((l.take k).all nameB=true)) (fun i _=>n - (intOf i).toNat)
  case atStart=>exact ⟨0,nZ _,rfl,Lib.fresh_isBuilder _ _ _,(bR _ _).alloc (nR _) _,rfl⟩
  case round=>
   obtain ⟨k,hk,rfl,hB,hbel,hall⟩:=hrel
   have hbw:=hbel.size
   have Hbw:=cH hbw
   by_cases hlt:k<n
   ·have hkx:k<l.length:=by have:=Hnx.out;omega
    have hlw:=hl.below hbel hS
    obtain ⟨b,o,cs,rfl,hSb,hb1,hsp,hcell⟩:=hlw.elem (gE hkx)
    obtain ⟨rfl,hsz⟩:=hsp
    have hc0:=hcell 0 _ rfl
    simp only[rStr,Nat.add_zero,Nat.mul_one] at hc0
    have hkn:(k:Int)<(n:Int):=by omega
    have htk:=zHl hkx
    have Htk:=cH htk;clear htk
    have Hall:=cH (fun h=>zL9 (p:=nameB) hkx hall.out h)
    have Hnot:=cH (fun h=>Hno.out (zNe (p:=nameB) hkx h))
    have hjl:=zKF hall.out
    have hjl':(zAq (l.take k)).length≤25 * k:=by rw[List.length_take] at hjl;omega
    have Hjl:=cH hjl';clear hjl hjl'
    have hnl:nameB l[k]=true→l[k].size≤16:=fun hq=>zI4 hq
    have Hnl:=cH hnl;clear hnl
    generalize hs:l[k]=s at *
    clear hcell hlw
    go_wp2_with fail
    refine (zBl s hsz _).mono ?_
    rintro e w1 ⟨rfl,hb1⟩
    have hbel1:=hbel.trans (hb1.mono hbw)
    have hbw1:=hbel1.size
    by_cases hq:nameB s=true
    ·have hk1:=Hall.out hq
     have Hk1:=cH hk1;clear hk1
     have hs16:=Hnl.out hq
     have hB1:=hB.out.keep hb1
     have HB1:=cH hB1;clear hB1 hB
     have Hbel1:=cH hbel1;clear hbel1 hbel hb1
     have hlen1:(Lib.byteCells (zAq (l.take k))).length+stepB.size≤140737488355328:=by
      have h9:stepB.size=9:=by decide
      have:=Hjl.out;have:=Hm.out;have:=Hnx.out
      rw[Lib.byteCells_length,h9];omega
     have Hlen1:=cH hlen1;clear hlen1
     clear Hall Hnot Hnl
     go_wp2_with fail
     refine (zBv _ _ _ stepB _ HB1.out Hlen1.out hbw1).mono ?_
     rintro e w2 ⟨rfl,hB2,hb2⟩
     have hB2':IsB w.heap.size w.heap.size (Lib.byteCells (zAq (l.take k)++stepB.data.toList)) w2:=.inr (by rw[Lib.byteCells_append];exact hB2)
     have HB2:=cH hB2';clear hB2 hB2' HB1
     have hbel2:=Hbel1.out.trans hb2
     have hbw2:=hbel2.size
     have Hbel2:=cH hbel2;clear hbel2 hb2
     have hlen2:(Lib.byteCells (zAq (l.take k)++stepB.data.toList)).length+s.size≤140737488355328:=by
      have h9:stepB.data.toList.length=9:=by decide
      have:=Hjl.out;have:=Hm.out;have:=Hnx.out
      rw[Lib.byteCells_length,List.length_append,h9];omega
     have Hlen2:=cH hlen2;clear hlen2
     go_wp2_with fail
     refine (zBv _ _ _ s _ HB2.out Hlen2.out hbw2).mono ?_
     rintro e w3 ⟨rfl,hB3,hb3⟩
     have hB3':IsB w.heap.size w.heap.size (Lib.byteCells (zAq (l.take (k+1)))) w3:=.inr (by rw[Htk.out,Lib.byteCells_append];exact hB3)
     have HB3:=cH hB3';clear hB3 hB3' HB2
     have Hbel3:=cH (Hbel2.out.trans hb3);clear hb3
     go_wp2_with fail
     go_round
     case rel=>exact ⟨k+1,by omega,by go_num,HB3,Hbel3.out,Hk1⟩
     case measure=>simp[intOf];omega
    ·have hq':nameB s=false:=by simpa using hq
     have He:=cH (Hnot.out hq')
     clear Hall Hnot Hnl hq
     go_wp2_with fail
     go_ret
     exact ⟨zBz He.out.symm,hbel1⟩
   ·have hkn:k=n:=by omega
    have htake:l.take k=l:=by have:=Hnx.out;rw[hkn,this];exact List.take_length
    have he:=Hyes.out (by rw[←htake];exact hall.out)
    have He:=cH he;clear he
    have hB':IsB w.heap.size w.heap.size (Lib.byteCells (zAq l)) wr:=by rw[←htake];exact hB.out
    have HB:=cH hB';clear hB' hB htake hall
    have Hbel:=cH hbel;clear hbel
    subst hkn
    go_wp2_with fail
    refine (Tryz.Builder_String_any _ _ _ _ HB.out hbw).mono ?_
    rintro e w1 ⟨rfl,hb1⟩
    go_wp2_with fail
    go_ret
    exact ⟨zBz He.out.symm,Hbel.out.trans hb1⟩
end Go.Proofs.YtminjjdnmpaaoaaGreatDoor
namespace Go.Proofs.YtminjjdnmpaaoaaGreatDoor
open Go.Rows Go.RowKit Go.Shelf Go.Sort
def lastN (p:List ByteArray):ByteArray:=p.getD (p.length - 1) ⟨#[]⟩
noncomputable def zCZ (t:List Dir) (d:Dir) (k:Nat):Bool:=
 decide (d.path.length≠0)&&(decide (textB d.path≠⟨#[]⟩)&&(decide ((textB d.path).size≤1024)&&(decide (1≤d.node)&&(decide (findI t d.path=(k:Int))&&(decide (0≤zDG t d.path)&&(decide (zDG t d.path<(k:Int))&&(packB d.pack&&decide (d.pack.name=lastN d.path))))))))
theorem zC7 {w:World} {S:Nat→Prop} {d:Dir} {cs:List Value} (h:rDir.holds w S d cs):∃ A a B b C c D e,cs=[.slice A d.path.length a,.string d.pack.name,.int .i64 d.pack.ver.major,.int .i64 d.pack.ver.minor,.int .i64 d.pack.ver.patch,.slice B d.pack.deps.length b,.slice C d.pack.peers.length c,.slice D d.pack.opts.length e,.int .i64 d.node] ∧
  SlV rStr w S d.path (.slice A d.path.length a)∧PackV w S d.pack (.agg #[.string d.pack.name,.int .i64 d.pack.ver.major,.int .i64 d.pack.ver.minor,.int .i64 d.pack.ver.patch,.slice B d.pack.deps.length b,.slice C d.pack.peers.length c,.slice D d.pack.opts.length e])∧I64 d.node:=by
 obtain ⟨s0,s1,s2,s3,rfl,hp0,hn,_,_,_,hp1,hp2,hp3,hd⟩:=h
 obtain ⟨pA,pc,rfl,_,_⟩:=hp0.val
 obtain ⟨pB,pd,rfl,_,_⟩:=hp1.val
 obtain ⟨pC,pe,rfl,_,_⟩:=hp2.val
 obtain ⟨pD,pf,rfl,_,_⟩:=hp3.val
 exact ⟨_,_,_,_,_,_,_,_,rfl,hp0,⟨_,_,_,_,_,_,_,_,_,rfl,hn,hp1,hp2,hp3⟩,hd⟩
theorem zJm (A:Option Addr) (n c:Nat) (xs:List Dir) (w:World) (S:Nat→Prop) (k:Nat) (hk:k<xs.length) (ht:Tab w) (hlen:∀ d∈xs,d.path.length * 32≤140737488355328) (hx:SlV rDir w S xs (.slice A n c)) :
  Calls Tryz.prog 45 #[.agg #[.slice A n c],.int .i64 k] w fun e w'=>e=.returned (.bool (zCZ xs xs[k] k))∧Below w.heap.size w w':=by
 have hnx:=hx.n_eq
 have hcx:=hx.cap_le
 unfold maxLen at hcx
 have hn63:n≤9223372036854775807:=by omega
 have hx0:=hx
 obtain ⟨b,o,cs,rfl,_,hb1,hh,hcell⟩:=hx.elem (gE hk)
 obtain ⟨pA,pa,pB,pb,pC,pc,pD,pd,rfl,hp,hpk,hI⟩:=zC7 hh
 have hpc:=hp.cap_le
 unfold maxLen at hpc
 have hlk:=hlen xs[k] (List.getElem_mem hk)
 have c0:=hcell 0 _ rfl
 have c1:=hcell 1 _ rfl
 have c2:=hcell 2 _ rfl
 have c3:=hcell 3 _ rfl
 have c4:=hcell 4 _ rfl
 have c5:=hcell 5 _ rfl
 have c6:=hcell 6 _ rfl
 have c7:=hcell 7 _ rfl
 have c8:=hcell 8 _ rfl
 simp only[rDir,Nat.add_zero] at c0 c1 c2 c3 c4 c5 c6 c7 c8
 have HR:Hid (zCZ xs xs[k] k=(decide (xs[k].path.length≠0)&&(decide (textB xs[k].path≠⟨#[]⟩)&&(decide ((textB xs[k].path).size≤1024)&&(decide (1≤xs[k].node)&&(decide (findI xs xs[k].path=(k:Int))&&(decide (0≤zDG xs xs[k].path)&&(decide (zDG xs xs[k].path<(k:Int))&&(packB xs[k].pack&&decide (xs[k].pack.name=lastN xs[k].path)))))))))):=rfl
 have Htx:Hid (∀ W,Below w.heap.size w W→Calls Tryz.prog 19 #[.slice pA xs[k].path.length pa] W fun e w'=>e=.returned (.string (textB xs[k].path))∧Below W.heap.size W w'):=fun W hW=>zCV _ _ _ _ W (fun b=>b<w.heap.size) (fun b h=>lL h hW.size) hlk ((hp.more (S':=fun b=>b<w.heap.size) fun b _ h=>h).belowSize hW)
 have Hfd:Hid (∀ W,Below w.heap.size w W→Calls Tryz.prog 18 #[.agg #[.slice (some ⟨b,o,none⟩) n c],.slice pA xs[k].path.length pa] W fun e w'=>e=.returned (.int .i64 (findI xs xs[k].path))∧Below W.heap.size W w'):=fun W hW=>zDV _ _ _ _ _ _ _ _ W _ _ (hx0.belowSize hW) (hp.belowSize hW)
 have Hab:Hid (∀ q,xs[k].path.length=q+1→∀ W,Below w.heap.size w W→Calls Tryz.prog 18 #[.agg #[.slice (some ⟨b,o,none⟩) n c],.slice pA q pa] W fun e w'=>e=.returned (.int .i64 (zDG xs xs[k].path))∧Below W.heap.size W w'):=fun q hq W hW=>by
  have e:zDG xs xs[k].path=findI xs (xs[k].path.take q):=by unfold zDG;rw[hq];rfl
  rw[e]
  exact zDV _ _ _ _ _ _ xs (xs[k].path.take q) W _ _ (hx0.belowSize hW) ((hp.take (by omega)).belowSize hW)
 have Hpk:Hid (∀ W,Below w.heap.size w W→Calls Tryz.prog 71 #[.agg #[.string xs[k].pack.name,.int .i64 xs[k].pack.ver.major,.int .i64 xs[k].pack.ver.minor,.int .i64 xs[k].pack.ver.patch,.slice pB xs[k].pack.deps.length pb,.slice pC xs[k].pack.peers.length pc,.slice pD xs[k].pack.opts.length pd]] W fun e w'=>e=.returned (.bool (packB xs[k].pack))∧Below W.heap.size W w'):=fun W hW=>zFi xs[k].pack _ W _ (zAV ht hW) (hpk.keep hW)
 have Hlast:Hid (∀ q,xs[k].path.length=q+1→∃ g u,pA=some ⟨g,u,none⟩∧g<w.heap.size∧w.cell? ⟨g,u+q,none⟩=some (.string (lastN xs[k].path))):=fun q hq=>by
  have hq':q<xs[k].path.length:=by omega
  obtain ⟨g,u,cs',rfl,_,hg,⟨rfl,_⟩,hc⟩:=hp.elem (gE hq')
  have:=hc 0 _ rfl
  simp only[rStr,Nat.add_zero,Nat.mul_one] at this
  refine ⟨g,u,rfl,hg,?_⟩
  rw[this];unfold lastN;rw[hq,List.getD_eq_getElem?_getD,show q+1 - 1=q from rfl,gE hq'];rfl
 clear hcell hp hpk hx hx0 hh hlk hlen
 have hI1:=hI.1
 have hI2:=hI.2
 clear hI
 generalize zCZ xs xs[k] k=R at *
 generalize textB xs[k].path=tx at *
 generalize findI xs xs[k].path=f at *
 generalize zDG xs xs[k].path=ab at *
 generalize packB xs[k].pack=pk at *
 generalize lastN xs[k].path=ls at *
 generalize xs[k].path.length=l0 at *
 generalize xs[k].pack.deps.length=l1 at *
 generalize xs[k].pack.peers.length=l2 at *
 generalize xs[k].pack.opts.length=l3 at *
 generalize xs[k].pack.name=nm at *
 generalize xs[k].pack.ver.major=y1 at *
 generalize xs[k].pack.ver.minor=y2 at *
 generalize xs[k].pack.ver.patch=y3 at *
 generalize xs[k].node=nd at *
 have hkn:(k:Int)<(n:Int):=by omega
 have hk0:(0:Int)≤(k:Int):=by omega
 clear hk hcx hnx ht
 go_enter Tryz.func45,Tryz.ntmps45
 go_wp2_with fail
 obtain ⟨w0,hw0⟩:∃ w0,w0=(w.alloc (.cells #[.slice (some ⟨b,o,none⟩) n c] 33)).alloc (.cells #[.slice pA l0 pa,.string nm,.int .i64 y1,.int .i64 y2,.int .i64 y3,.slice pB l1 pb,.slice pC l2 pc,.slice pD l3 pd,.int .i64 nd] 54):=⟨_,rfl⟩
 have hz:w.heap.size<w0.heap.size:=by rw[hw0];simp[go_sem]
 have hz1:w.heap.size+1<w0.heap.size:=by rw[hw0];simp[go_sem]
 have hb0:Below w.heap.size w w0:=by rw[hw0];exact bal (bal (bR _ _) _) _
 have a0:w0.cell? ⟨w.heap.size,0,none⟩=some (.slice (some ⟨b,o,none⟩) n c):=by rw[hw0];simp[go_sem]
 have e0:w0.cell? ⟨w.heap.size+1,0,none⟩=some (.slice pA l0 pa):=by rw[hw0];simp[go_sem]
 have e1:w0.cell? ⟨w.heap.size+1,1,none⟩=some (.string nm):=by rw[hw0];simp[go_sem]
 have e2:w0.cell? ⟨w.heap.size+1,2,none⟩=some (.int .i64 y1):=by rw[hw0];simp[go_sem]
 have e3:w0.cell? ⟨w.heap.size+1,3,none⟩=some (.int .i64 y2):=by rw[hw0];simp[go_sem]
 have e4:w0.cell? ⟨w.heap.size+1,4,none⟩=some (.int .i64 y3):=by rw[hw0];simp[go_sem]
 have e5:w0.cell? ⟨w.heap.size+1,5,none⟩=some (.slice pB l1 pb):=by rw[hw0];simp[go_sem]
 have e6:w0.cell? ⟨w.heap.size+1,6,none⟩=some (.slice pC l2 pc):=by rw[hw0];simp[go_sem]
 have e7:w0.cell? ⟨w.heap.size+1,7,none⟩=some (.slice pD l3 pd):=by rw[hw0];simp[go_sem]
 have e8:w0.cell? ⟨w.heap.size+1,8,none⟩=some (.int .i64 nd):=by rw[hw0];simp[go_sem]
 rw[←hw0]
 have HB0:=cH hb0;clear hb0 hw0 c0 c1 c2 c3 c4 c5 c6 c7 c8
 have HS:Hid (∀ W,Below w0.heap.size w0 W→Below w.heap.size w W):=fun W hW=>bot HB0.out hW
 refine (Htx.out w0 HB0.out).mono ?_
 rintro e w1 ⟨rfl,B1⟩
 have Q1:=cH B1;clear B1 Htx
 have f0:=zAA Q1.out e0 hz1
 have f8:=zAA Q1.out e8 hz1
 have g0:=zAA Q1.out a0 hz
 by_cases hl0:l0=0
 ·have hzb:((l0:Int)==0)=true:=by simp[hl0]
  have He:Hid (R=false):=by unfold Hid;rw[HR.out,hl0];rfl
  clear hl0
  go_wp2_with fail
  go_ret
  exact ⟨zAB He.out.symm,HS.out _ Q1.out⟩
 obtain ⟨q,rfl⟩:∃ q,l0=q+1:=⟨l0 - 1,by omega⟩
 clear hl0
 have hqb:(((q+1:Nat):Int)==0)=false:=by simp;omega
 have hqb':(((q:Int)+1)==0)=false:=by simp;omega
 obtain ⟨g,u,rfl,hg,hlc⟩:=Hlast.out q rfl
 by_cases htx:tx=⟨#[]⟩
 ·have htb:=zAf htx
  have htl:tx.toList=[]:=by rw[htx,Go.ByteArray.toList_eq]
  have htm:tx.toList.isEmpty=true:=by rw[htl];rfl
  have He:Hid (R=false):=by unfold Hid;rw[HR.out,htx];rfl
  clear htx
  go_wp2_with fail
  go_ret
  exact ⟨zAB He.out.symm,HS.out _ Q1.out⟩
 have htb:=zAW htx
 have htl:¬tx.toList=[]:=fun h=>htx (ByteArray.ext (Array.ext' (by rw[Go.ByteArray.toList_eq] at h;exact h)))
 have htm:tx.toList.isEmpty=false:=by cases e:tx.toList with|nil=>exact absurd e htl|cons=>rfl
 have Htn:=cH htx;clear htx
 by_cases hsz:tx.size≤1024
 case neg=>
  have hsi:(1024:Int)<(tx.size:Int):=by omega
  have hsj:¬(tx.size:Int)≤1024:=by omega
  have hsk:decide ((1024:Int)<(tx.size:Int))=true:=decide_eq_true hsi
  have He:Hid (R=false):=by unfold Hid;rw[HR.out,decide_eq_false hsz];simp
  clear hsz
  go_wp2_with fail
  go_ret
  exact ⟨zAB He.out.symm,HS.out _ Q1.out⟩
 have hsi:¬(1024:Int)<(tx.size:Int):=by omega
 have hsj:(tx.size:Int)≤1024:=by omega
 have hsk:decide ((1024:Int)<(tx.size:Int))=false:=decide_eq_false hsi
 by_cases hnd:1≤nd
 case neg=>
  have hni:nd<1:=by omega
  have hnk:decide (nd<1)=true:=decide_eq_true hni
  have He:Hid (R=false):=by unfold Hid;rw[HR.out,decide_eq_false hnd];simp
  clear hnd
  go_wp2_with fail
  go_ret
  exact ⟨zAB He.out.symm,HS.out _ Q1.out⟩
 have hni:¬nd<1:=by omega
 have hnk:decide (nd<1)=false:=decide_eq_false hni
 have HR2:Hid (R=(decide (f=(k:Int))&&(decide (0≤ab)&&(decide (ab<(k:Int))&&(pk&&decide (nm=ls)))))):=by
  unfold Hid;rw[HR.out,decide_eq_true Htn.out,decide_eq_true hsz,decide_eq_true hnd];simp
 clear HR hsz hnd Hlast Htn
 go_wp2_with fail
 refine (Hfd.out w1 (HS.out _ Q1.out)).mono ?_
 rintro e w2 ⟨rfl,B2⟩
 have Q2:=cH (bot Q1.out B2);clear B2 Hfd f0 f8 g0
 by_cases hf:f=(k:Int)
 case neg=>
  have hfb:(f != (k:Int))=true:=by simp[hf]
  have He:Hid (R=false):=by unfold Hid;rw[HR2.out,decide_eq_false hf];simp
  clear hf
  go_wp2_with fail
  go_ret
  exact ⟨zAB He.out.symm,HS.out _ Q2.out⟩
 have hfb:(f != (k:Int))=false:=by simp[hf]
 have HR3:Hid (R=(decide (0≤ab)&&(decide (ab<(k:Int))&&(pk&&decide (nm=ls))))):=by
  unfold Hid;rw[HR2.out,decide_eq_true hf];simp
 clear HR2 hf
 go_wp2_with fail
 have h0:=zAA Q2.out e0 hz1
 have h1:=zAA Q2.out a0 hz
 have hw1:IntKind.i64.wrap ((q:Int)+1 - 1)=(q:Int):=(IntWalk.i64_in _ ⟨by omega,by omega⟩).trans (by omega)
 have hw2:IntKind.i64.wrap (q:Int)=(q:Int):=IntWalk.i64_in _ ⟨by omega,by omega⟩
 have hqc:q≤pa:=by omega
 have Hc:=cH (qcall (w:=w2) (fun W hW=>Hab.out q rfl W (bot (HS.out _ Q2.out) hW)))
 clear Hab
 have r_h0:=cR h0
 have r_h1:=cR h1
 refine wQ ?_
 repeat (go_big_quiet_step (first|(with_reducible exact Hc.out _ _)))
 refine wpQuiet_nil fun w3 B3=>?_
 have Q3:=cH (bot Q2.out B3);clear B3 Hc r_h0 r_h1 h0 h1
 have i0:=zAA Q3.out e0 hz1
 have i1:=zAA Q3.out e1 hz1
 have i2:=zAA Q3.out e2 hz1
 have i3:=zAA Q3.out e3 hz1
 have i4:=zAA Q3.out e4 hz1
 have i5:=zAA Q3.out e5 hz1
 have i6:=zAA Q3.out e6 hz1
 have i7:=zAA Q3.out e7 hz1
 have i8:=zAA (HS.out _ Q3.out) hlc hg
 have Hc:=cH (qcall (w:=w3) (fun W hW=>Hpk.out W (bot (HS.out _ Q3.out) hW)))
 have hqn:(q:Int)<((q+1:Nat):Int):=by omega
 have hqn':(q:Int)<(q:Int)+1:=by omega
 have hq0:(0:Int)≤(q:Int):=by omega
 clear Hpk a0 e0 e1 e2 e3 e4 e5 e6 e7 e8
 have r_i0:=cR i0
 have r_i1:=cR i1
 have r_i2:=cR i2
 have r_i3:=cR i3
 have r_i4:=cR i4
 have r_i5:=cR i5
 have r_i6:=cR i6
 have r_i7:=cR i7
 have r_i8:=cR i8
 by_cases hab:0≤ab
 case neg=>
  have He:Hid (R=false):=by unfold Hid;rw[HR3.out,decide_eq_false hab];simp
  have hak:decide (0≤ab)=false:=decide_eq_false hab
  go_wp2_with fail
  refine wQ ?_
  repeat (go_big_quiet_step (first|(with_reducible exact Hc.out _ _)))
  refine wpQuiet_nil fun w4 B4=>?_
  go_wp2_with fail
  go_ret
  exact ⟨zAB He.out.symm,HS.out _ (bot Q3.out B4)⟩
 by_cases habk:ab<(k:Int)
 case neg=>
  have He:Hid (R=false):=by unfold Hid;rw[HR3.out,decide_eq_false habk];simp
  have hak:decide (ab<(k:Int))=false:=decide_eq_false habk
  go_wp2_with fail
  refine wQ ?_
  repeat (go_big_quiet_step (first|(with_reducible exact Hc.out _ _)))
  refine wpQuiet_nil fun w4 B4=>?_
  go_wp2_with fail
  go_ret
  exact ⟨zAB He.out.symm,HS.out _ (bot Q3.out B4)⟩
 have HR4:Hid (R=(pk&&decide (nm=ls))):=by
  unfold Hid;rw[HR3.out,decide_eq_true hab,decide_eq_true habk];simp
 clear HR3
 cases pk
 ·have He:Hid (R=false):=by unfold Hid;rw[HR4.out];rfl
  go_wp2_with fail
  refine wQ ?_
  repeat (go_big_quiet_step (first|(with_reducible exact Hc.out _ _)))
  refine wpQuiet_nil fun w4 B4=>?_
  go_wp2_with fail
  go_ret
  exact ⟨zAB He.out.symm,HS.out _ (bot Q3.out B4)⟩
 by_cases hnl:nm=ls
 ·have hnb:=zAf hnl
  have He:Hid (R=true):=by unfold Hid;rw[HR4.out,decide_eq_true hnl];rfl
  clear hnl
  go_wp2_with fail
  refine wQ ?_
  repeat (go_big_quiet_step (first|(with_reducible exact Hc.out _ _)))
  refine wpQuiet_nil fun w4 B4=>?_
  go_wp2_with fail
  go_ret
  exact ⟨zAB He.out.symm,HS.out _ (bot Q3.out B4)⟩
 ·have hnb:=zAW hnl
  have He:Hid (R=false):=by unfold Hid;rw[HR4.out,decide_eq_false hnl];rfl
  clear hnl
  go_wp2_with fail
  refine wQ ?_
  repeat (go_big_quiet_step (first|(with_reducible exact Hc.out _ _)))
  refine wpQuiet_nil fun w4 B4=>?_
  go_wp2_with fail
  go_ret
  exact ⟨zAB He.out.symm,HS.out _ (bot Q3.out B4)⟩
def zAC:Pack:=⟨⟨#[]⟩,⟨0,0,0⟩,[],[],[]⟩
noncomputable def rootB (d:Dir):Bool:=decide (d.path.length=0)&&(eqB d.pack zAC&&decide (d.node=0))
noncomputable def okGo (t:List Dir):List Dir→Nat→Bool
 | [],_=>true
 | d::l,k=>(bif decide (k=0) then rootB d else zCZ t d k)&&okGo t l (k+1)
noncomputable def zCD (t:List Dir):Int:=if t.length<1∨257<t.length then 42 else bif okGo t t 0 then 0 else 42
theorem zNP (t:List Dir) {l:List Dir} {k:Nat} (h:k<l.length):okGo t (l.drop k) k=((bif decide (k=0) then rootB l[k] else zCZ t l[k] k)&&okGo t (l.drop (k+1)) (k+1)):=by
 rw[dC h,okGo]
theorem zJp (w:World) (S:Nat→Prop):PackV w S zAC (.agg #[.string ⟨#[]⟩,.int .i64 0,.int .i64 0,.int .i64 0,.slice none 0 0,.slice none 0 0,.slice none 0 0]):=
 ⟨none,0,0,none,0,0,none,0,0,rfl,nZ _,SlV.nil_ _ _ _,SlV.nil_ _ _ _,SlV.nil_ _ _ _⟩
theorem zK9 (A:Option Addr) (n c:Nat) (xs:List Dir) (w:World) (S:Nat→Prop) (ht:Tab w) (hlen:∀ d∈xs,d.path.length * 32≤140737488355328) (hx:SlV rDir w S xs (.slice A n c)) :
  Calls Tryz.prog 21 #[.agg #[.slice A n c]] w fun e w'=>e=.returned (.int .i64 (zCD xs))∧Below w.heap.size w w':=by
 have hnx:=hx.n_eq
 have hcx:=hx.cap_le
 unfold maxLen at hcx
 have hn63:n≤9223372036854775807:=by omega
 have HX:=cH (hx.more (S':=fun b=>b<w.heap.size) fun b _ h=>h)
 have Hst:Hid (∀ (k:Nat) (hk:k<xs.length) W,Below w.heap.size w W→Calls Tryz.prog 45 #[.agg #[.slice A n c],.int .i64 k] W fun e w'=>e=.returned (.bool (zCZ xs xs[k] k))∧Below W.heap.size W w'):=fun k hk W hW=>zJm A n c xs W _ k hk (zAV ht hW) hlen (hx.belowSize hW)
 by_cases hn1:n<1
 ·have hni:(n:Int)<1:=by omega
  have hnk:decide ((n:Int)<1)=true:=decide_eq_true hni
  have He:Hid (zCD xs=42):=by unfold Hid zCD;rw[if_pos (.inl (by omega))]
  clear hx hcx hnx Hst HX
  generalize zCD xs=R at *
  go_enter Tryz.func21,Tryz.ntmps21
  go_wp2_with fail
  go_ret
  exact ⟨zAx He.out.symm,bal (bR _ _) _⟩
 by_cases hn2:257<n
 ·have hni:¬(n:Int)<1:=by omega
  have hnk:decide ((n:Int)<1)=false:=decide_eq_false hni
  have hmi:(257:Int)<(n:Int):=by omega
  have hmk:decide ((257:Int)<(n:Int))=true:=decide_eq_true hmi
  have He:Hid (zCD xs=42):=by unfold Hid zCD;rw[if_pos (.inr (by omega))]
  clear hx hcx hnx Hst HX
  generalize zCD xs=R at *
  go_enter Tryz.func21,Tryz.ntmps21
  go_wp2_with fail
  go_ret
  exact ⟨zAx He.out.symm,bal (bR _ _) _⟩
 have hni:¬(n:Int)<1:=by omega
 have hnk:decide ((n:Int)<1)=false:=decide_eq_false hni
 have hmi:¬(257:Int)<(n:Int):=by omega
 have hmk:decide ((257:Int)<(n:Int))=false:=decide_eq_false hmi
 have HR:Hid (zCD xs=bif okGo xs (xs.drop 0) 0 then 0 else 42):=by unfold Hid zCD;rw[if_neg (by omega)];rfl
 have Hnx:=cH hnx;clear hnx
 clear hx hcx hlen ht
 generalize zCD xs=R at *
 go_enter Tryz.func21,Tryz.ntmps21
 go_wp2_with fail
 obtain ⟨w0,hw0⟩:∃ w0,w0=w.alloc (.cells #[.slice A n c] 33):=⟨_,rfl⟩
 have hz:w.heap.size<w0.heap.size:=by rw[hw0];simp[go_sem]
 have hb0:Below w.heap.size w w0:=by rw[hw0];exact bal (bR _ _) _
 have a0:w0.cell? ⟨w.heap.size,0,none⟩=some (.slice A n c):=by rw[hw0];simp[go_sem]
 rw[←hw0]
 clear hw0
 have HB0:=cH hb0;clear hb0
 go_loopw [19] (fun i wr=>∃ k:Nat,k≤n∧i=.int .i64 k∧Hid (R=bif okGo xs (xs.drop k) k then 0 else 42)∧Below w0.heap.size w0 wr) (fun i _=>n - (intOf i).toNat)
 case atStart=>exact ⟨0,nZ _,rfl,HR,bR _ _⟩
 case round=>
  obtain ⟨k,hk,rfl,heq,hbel⟩:=hrel
  have b0:=zAA hbel a0 hz
  have hbel':=bot HB0.out hbel
  have hzr:w.heap.size<wr.heap.size:=lL hz hbel.size
  by_cases hlt:k<n
  ·have hkx:k<xs.length:=by have:=Hnx.out;omega
   have hxw:=HX.out.below hbel' (fun b h=>h)
   obtain ⟨b,oo,cs,rfl,_,hb1,hh,hcell⟩:=hxw.elem (gE hkx)
   obtain ⟨pA,pa,pB,pb,pC,pc,pD,pd,rfl,hp,hpk,hI⟩:=zC7 hh
   have c0:=hcell 0 _ rfl
   have c1:=hcell 1 _ rfl
   have c2:=hcell 2 _ rfl
   have c3:=hcell 3 _ rfl
   have c4:=hcell 4 _ rfl
   have c5:=hcell 5 _ rfl
   have c6:=hcell 6 _ rfl
   have c7:=hcell 7 _ rfl
   have c8:=hcell 8 _ rfl
   simp only[rDir,Nat.add_zero] at c0 c1 c2 c3 c4 c5 c6 c7 c8
   have Hat:=cH (zNP xs hkx)
   have Hs:Hid (∀ o:Obj,Calls Tryz.prog 45 #[.agg #[.slice (some ⟨b,oo,none⟩) n c],.int .i64 k] (wr.alloc o) fun e w'=>e=.returned (.bool (zCZ xs xs[k] k))∧Below (wr.alloc o).heap.size (wr.alloc o) w'):=fun o=>Hst.out k hkx _ (bal hbel' o)
   have Hsm:Hid (∀ o:Obj,Calls Tryz.prog 44 #[.agg #[.string xs[k].pack.name,.int .i64 xs[k].pack.ver.major,.int .i64 xs[k].pack.ver.minor,.int .i64 xs[k].pack.ver.patch,.slice pB xs[k].pack.deps.length pb,.slice pC xs[k].pack.peers.length pc,.slice pD xs[k].pack.opts.length pd],.agg #[.string ⟨#[]⟩,.int .i64 0,.int .i64 0,.int .i64 0,.slice none 0 0,.slice none 0 0,.slice none 0 0]] (wr.alloc o) fun e w'=>e=.returned (.bool (eqB xs[k].pack zAC))∧Below (wr.alloc o).heap.size (wr.alloc o) w'):=fun o=>zC6 _ _ _ _ _ _ (fun _=>True) (hpk.keep (bal (bR _ _) o)) (zJp _ _)
   have Hro:Hid (rootB xs[k]=(decide (xs[k].path.length=0)&&(eqB xs[k].pack zAC&&decide (xs[k].node=0)))):=rfl
   clear hcell hxw hp hpk hh hI
   have hk0:(0:Int)≤(k:Int):=by omega
   have hkn:(k:Int)<(n:Int):=by omega
   generalize zCZ xs xs[k] k=sb at *
   generalize rootB xs[k]=rb at *
   generalize eqB xs[k].pack zAC=eb at *
   generalize xs[k].path.length=l0 at *
   generalize xs[k].pack.deps.length=l1 at *
   generalize xs[k].pack.peers.length=l2 at *
   generalize xs[k].pack.opts.length=l3 at *
   generalize xs[k].pack.name=nm at *
   generalize xs[k].pack.ver.major=y1 at *
   generalize xs[k].pack.ver.minor=y2 at *
   generalize xs[k].pack.ver.patch=y3 at *
   generalize xs[k].node=nd at *
   have Hno:Hid ((bif decide (k=0) then rb else sb)=false→R=42):=fun h=>by rw[heq.out,Hat.out,h];rfl
   have Hyes:Hid ((bif decide (k=0) then rb else sb)=true→R=bif okGo xs (xs.drop (k+1)) (k+1) then 0 else 42):=fun h=>by rw[heq.out,Hat.out,h];rfl
   clear Hat heq
   by_cases hkz:k=0
   ·have hkb:((k:Int)==0)=true:=by simp[hkz]
    have Hno':Hid (rb=false→R=42):=fun h=>Hno.out (by rw[decide_eq_true hkz];exact h)
    have Hyes':Hid (rb=true→R=bif okGo xs (xs.drop (k+1)) (k+1) then 0 else 42):=fun h=>Hyes.out (by rw[decide_eq_true hkz];exact h)
    clear Hno Hyes Hs hkz
    by_cases hl0:l0=0
    case neg=>
     have hzb:((l0:Int)==0)=false:=by simp[hl0]
     have He:Hid (R=42):=Hno'.out (by rw[Hro.out,decide_eq_false hl0];rfl)
     clear hl0 Hro
     go_wp2_with fail
     go_ret
     exact ⟨zAx He.out.symm,bal hbel' _⟩
    have hzb:((l0:Int)==0)=true:=by simp[hl0]
    have Hro2:Hid (rb=(eb&&decide (nd=0))):=by unfold Hid;rw[Hro.out,decide_eq_true hl0];rfl
    clear hl0 Hro
    go_wp2_with fail
    refine (Hsm.out _).mono ?_
    rintro e w1 ⟨rfl,B1⟩
    have B2:=bot (bal hbel' _) B1
    have g8:=zAA B1 (show (wr.alloc (.cells #[.slice pA l0 pa,.string nm,.int .i64 y1,.int .i64 y2,.int .i64 y3,.slice pB l1 pb,.slice pC l2 pc,.slice pD l3 pd,.int .i64 nd] 54)).cell? ⟨wr.heap.size,8,none⟩=some (.int .i64 nd) by simp[go_sem]) (by simp[go_sem])
    have B3:=bot (bal hbel _) B1
    clear B1
    cases eb
    ·have He:Hid (R=42):=Hno'.out (by rw[Hro2.out];rfl)
     go_wp2_with fail
     go_ret
     exact ⟨zAx He.out.symm,B2⟩
    by_cases hnd:nd=0
    ·have hdb:(nd==0)=true:=by simp[hnd]
     have He:=cH (Hyes'.out (by rw[Hro2.out,decide_eq_true hnd];rfl))
     clear hnd
     go_wp2_with fail
     go_roundw
     case rel=>exact ⟨k+1,by omega,by go_num,He,B3⟩
     case measure=>simp[intOf];omega
    ·have hdb:(nd==0)=false:=by simp[hnd]
     have He:Hid (R=42):=Hno'.out (by rw[Hro2.out,decide_eq_false hnd];rfl)
     clear hnd
     go_wp2_with fail
     go_ret
     exact ⟨zAx He.out.symm,B2⟩
   ·have hkb:((k:Int)==0)=false:=by simp[hkz]
    have Hno':Hid (sb=false→R=42):=fun h=>Hno.out (by rw[decide_eq_false hkz];exact h)
    have Hyes':Hid (sb=true→R=bif okGo xs (xs.drop (k+1)) (k+1) then 0 else 42):=fun h=>Hyes.out (by rw[decide_eq_false hkz];exact h)
    clear Hno Hyes Hsm Hro hkz
    have bo:∀ o:Obj,(wr.alloc o).cell? ⟨w.heap.size,0,none⟩=some (.slice (some ⟨b,oo,none⟩) n c):=fun o=>zAA (bal (bR _ _) o) b0 hzr
    go_wp2_with fail
    refine (Hs.out _).mono ?_
    rintro e w1 ⟨rfl,B1⟩
    have B2:=bot (bal hbel' _) B1
    have B3:=bot (bal hbel _) B1
    clear B1
    cases sb
    ·have He:Hid (R=42):=Hno'.out rfl
     go_wp2_with fail
     go_ret
     exact ⟨zAx He.out.symm,B2⟩
    ·have He:=cH (Hyes'.out rfl)
     go_wp2_with fail
     go_roundw
     case rel=>exact ⟨k+1,by omega,by go_num,He,B3⟩
     case measure=>simp[intOf];omega
  ·have He:Hid (R=0):=by unfold Hid;rw[heq.out,dN (by have:=Hnx.out;omega)];rfl
   go_wp2_with fail
   go_ret
   exact ⟨zAx He.out.symm,hbel'⟩
theorem eqDir {d e:Dir} (h1:d.path=e.path) (h2:d.pack=e.pack) (h3:d.node=e.node):d=e:=by
 cases d;cases e;simp only at h1 h2 h3;rw[h1,h2,h3]
theorem zKL (A B:Option Addr) (n c m e:Nat) (xs ys:List Dir) (w:World) (S T:Nat→Prop) (hx:SlV rDir w S xs (.slice A n c)) (hy:SlV rDir w T ys (.slice B m e)) :
  Calls Tryz.prog 14 #[.agg #[.slice A n c],.agg #[.slice B m e]] w fun e w'=>e=.returned (.bool (eqB xs ys))∧Below w.heap.size w w':=by
 have hnx:=hx.n_eq
 have hcx:=hx.cap_le
 have hny:=hy.n_eq
 have hcy:=hy.cap_le
 unfold maxLen at hcx hcy
 by_cases hnm:n=m
 case neg=>
  have hb:((n:Int) != (m:Int))=true:=by simp;omega
  have He:Hid (eqB xs ys=false):=zAF (by rintro rfl;omega)
  clear hnx hny hcx hcy hx hy hnm
  generalize eqB xs ys=r at *
  go_enter Tryz.func14,Tryz.ntmps14
  go_wp2_with fail
  go_ret
  exact ⟨zAB He.out.symm,bal (bal (bR _ _) _) _⟩
 have hb:((n:Int) != (m:Int))=false:=by simp[hnm]
 have hn63:n≤9223372036854775807:=by omega
 have HX:=cH (hx.more (S':=fun b=>b<w.heap.size) fun b _ h=>h)
 have HY:=cH (hy.more (S':=fun b=>b<w.heap.size) fun b _ h=>h)
 have Hpos:Hid (xs=ys→eqB xs ys=true):=fun h=>zAI h
 have Hneg:Hid (xs≠ys→eqB xs ys=false):=fun h=>zAF h
 have Hnx:=cH hnx;clear hnx
 have Hny:=cH hny;clear hny
 have Hnm:=cH hnm;clear hnm
 clear hx hy hcx hcy
 generalize eqB xs ys=R at *
 go_enter Tryz.func14,Tryz.ntmps14
 go_wp2_with fail
 obtain ⟨w0,hw0⟩:∃ w0,w0=(w.alloc (.cells #[.slice A n c] 33)).alloc (.cells #[.slice B m e] 33):=⟨_,rfl⟩
 have hz:w.heap.size<w0.heap.size:=by rw[hw0];simp[go_sem]
 have hz1:w.heap.size+1<w0.heap.size:=by rw[hw0];simp[go_sem]
 have hb0:Below w.heap.size w w0:=by rw[hw0];exact bal (bal (bR _ _) _) _
 have a0:w0.cell? ⟨w.heap.size,0,none⟩=some (.slice A n c):=by rw[hw0];simp[go_sem]
 have a1:w0.cell? ⟨w.heap.size+1,0,none⟩=some (.slice B m e):=by rw[hw0];simp[go_sem]
 rw[←hw0]
 clear hw0
 have HB0:=cH hb0;clear hb0
 go_loopw [5] (fun i wr=>∃ k:Nat,k≤n∧i=.int .i64 k∧Hid (xs.take k=ys.take k)∧Below w0.heap.size w0 wr) (fun i _=>n - (intOf i).toNat)
 case atStart=>exact ⟨0,nZ _,rfl,by simp[Hid],bR _ _⟩
 case round=>
  obtain ⟨k,hk,rfl,heq,hbel⟩:=hrel
  have b0:=zAA hbel a0 hz
  have b1:=zAA hbel a1 hz1
  have hbel':=bot HB0.out hbel
  by_cases hlt:k<n
  case neg=>
   have He:Hid (R=true):=Hpos.out (zBy heq.out (by have:=Hnx.out;omega) (by have:=Hny.out;have:=Hnm.out;omega))
   go_wp2_with fail
   go_ret
   exact ⟨zAB He.out.symm,hbel'⟩
  have hkx:k<xs.length:=by have:=Hnx.out;omega
  have hky:k<ys.length:=by have:=Hny.out;have:=Hnm.out;omega
  have hkm:k<m:=by have:=Hnm.out;omega
  obtain ⟨b,oo,cs,rfl,_,hb1,hh,hcell⟩:=(HX.out.below hbel' (fun b h=>h)).elem (gE hkx)
  obtain ⟨b',oo',cs',rfl,_,hb2,hh',hcell'⟩:=(HY.out.below hbel' (fun b h=>h)).elem (gE hky)
  obtain ⟨pA,pa,pB,pb,pC,pc,pD,pd,rfl,hp,hpk,hI⟩:=zC7 hh
  obtain ⟨qA,qa,qB,qb,qC,qc,qD,qd,rfl,hp',hpk',hI'⟩:=zC7 hh'
  have c0:=hcell 0 _ rfl
  have c1:=hcell 1 _ rfl
  have c2:=hcell 2 _ rfl
  have c3:=hcell 3 _ rfl
  have c4:=hcell 4 _ rfl
  have c5:=hcell 5 _ rfl
  have c6:=hcell 6 _ rfl
  have c7:=hcell 7 _ rfl
  have c8:=hcell 8 _ rfl
  have d0:=hcell' 0 _ rfl
  have d1:=hcell' 1 _ rfl
  have d2:=hcell' 2 _ rfl
  have d3:=hcell' 3 _ rfl
  have d4:=hcell' 4 _ rfl
  have d5:=hcell' 5 _ rfl
  have d6:=hcell' 6 _ rfl
  have d7:=hcell' 7 _ rfl
  have d8:=hcell' 8 _ rfl
  simp only[rDir,Nat.add_zero] at c0 c1 c2 c3 c4 c5 c6 c7 c8 d0 d1 d2 d3 d4 d5 d6 d7 d8
  have Hp:=cH (qcall (w:=wr) (fun W hW=>zIZ _ _ _ _ _ _ xs[k].path ys[k].path W _ _ (hp.belowSize hW) (hp'.belowSize hW)))
  have Hs:Hid (∀ w1,Below wr.heap.size wr w1→∀ d os,Calls Tryz.prog 32 #[.agg #[.string xs[k].pack.name,.int .i64 xs[k].pack.ver.major,.int .i64 xs[k].pack.ver.minor,.int .i64 xs[k].pack.ver.patch,.slice pB xs[k].pack.deps.length pb,.slice pC xs[k].pack.peers.length pc,.slice pD xs[k].pack.opts.length pd],.agg #[.string ys[k].pack.name,.int .i64 ys[k].pack.ver.major,.int .i64 ys[k].pack.ver.minor,.int .i64 ys[k].pack.ver.patch,.slice qB ys[k].pack.deps.length qb,.slice qC ys[k].pack.peers.length qc,.slice qD ys[k].pack.opts.length qd]] (grow (redrawn w1 d) os) fun e w''=>e=.returned (.bool (eqB xs[k].pack ys[k].pack))∧∃ p:Regrown,w''=grow (redrawn w1 p.d) p.os):=
   fun w1 h1=>qcall (w:=w1) (fun W hW=>zIG _ _ _ _ W _ _ (hpk.keep (bot h1 hW)) (hpk'.keep (bot h1 hW)))
  have Hq1:Hid (eqB xs[k].path ys[k].path=true→eqB xs[k].pack ys[k].pack=true→xs[k].node=ys[k].node→xs.take (k+1)=ys.take (k+1)):=fun h1 h2 h3=>zCe heq.out hkx hky (eqDir (zCL.1 h1) (zCL.1 h2) h3)
  have Hno:Hid (xs[k]≠ys[k]→R=false):=fun h=>Hneg.out (ne_at hkx hky h)
  have Hq2:Hid (eqB xs[k].path ys[k].path=false→R=false):=fun h=>Hno.out fun e=>by rw[e,zAI rfl] at h;cases h
  have Hq3:Hid (eqB xs[k].pack ys[k].pack=false→R=false):=fun h=>Hno.out fun e=>by rw[e,zAI rfl] at h;cases h
  have Hq4:Hid (xs[k].node≠ys[k].node→R=false):=fun h=>Hno.out fun e=>h (by rw[e])
  clear hcell hcell' hp hp' hpk hpk' hh hh' hI hI' Hno
  have hk0:(0:Int)≤(k:Int):=by omega
  have hkn:(k:Int)<(n:Int):=by omega
  have hkm':(k:Int)<(m:Int):=by omega
  generalize eqB xs[k].path ys[k].path=vh at *
  generalize eqB xs[k].pack ys[k].pack=vs at *
  generalize xs[k].path.length=l0 at *
  generalize xs[k].pack.deps.length=l1 at *
  generalize xs[k].pack.peers.length=l2 at *
  generalize xs[k].pack.opts.length=l3 at *
  generalize xs[k].pack.name=nm at *
  generalize xs[k].pack.ver.major=y1 at *
  generalize xs[k].pack.ver.minor=y2 at *
  generalize xs[k].pack.ver.patch=y3 at *
  generalize xs[k].node=nx at *
  generalize ys[k].path.length=m0 at *
  generalize ys[k].pack.deps.length=m1 at *
  generalize ys[k].pack.peers.length=m2 at *
  generalize ys[k].pack.opts.length=m3 at *
  generalize ys[k].pack.name=nn at *
  generalize ys[k].pack.ver.major=z1 at *
  generalize ys[k].pack.ver.minor=z2 at *
  generalize ys[k].pack.ver.patch=z3 at *
  generalize ys[k].node=ny at *
  have r_b0:=cR b0
  have r_b1:=cR b1
  have r_c0:=cR c0
  have r_d0:=cR d0
  go_wp2_with fail
  refine wQ ?_
  repeat (go_big_quiet_step (first|(with_reducible exact Hp.out _ _)))
  refine wpQuiet_nil fun w1 B1=>?_
  clear r_b0 r_b1 r_c0 r_d0 c0 d0 Hp
  have hzr:w.heap.size<wr.heap.size:=lL hz hbel.size
  have hzr1:w.heap.size+1<wr.heap.size:=lL hz1 hbel.size
  have e0:=zAA B1 b0 hzr
  have e1:=zAA B1 b1 hzr1
  have f1:=zAA B1 c1 hb1
  have f2:=zAA B1 c2 hb1
  have f3:=zAA B1 c3 hb1
  have f4:=zAA B1 c4 hb1
  have f5:=zAA B1 c5 hb1
  have f6:=zAA B1 c6 hb1
  have f7:=zAA B1 c7 hb1
  have f8:=zAA B1 c8 hb1
  have g1:=zAA B1 d1 hb2
  have g2:=zAA B1 d2 hb2
  have g3:=zAA B1 d3 hb2
  have g4:=zAA B1 d4 hb2
  have g5:=zAA B1 d5 hb2
  have g6:=zAA B1 d6 hb2
  have g7:=zAA B1 d7 hb2
  have g8:=zAA B1 d8 hb2
  have Hs1:=cH (Hs.out w1 B1)
  have hzw:w.heap.size<w1.heap.size:=lL hzr B1.size
  have hzw1:w.heap.size+1<w1.heap.size:=lL hzr1 B1.size
  have hbw1:b<w1.heap.size:=lL hb1 B1.size
  have hbw2:b'<w1.heap.size:=lL hb2 B1.size
  clear b0 b1 c1 c2 c3 c4 c5 c6 c7 c8 d1 d2 d3 d4 d5 d6 d7 d8 Hs
  have r_e0:=cR e0
  have r_e1:=cR e1
  have r_f1:=cR f1
  have r_f2:=cR f2
  have r_f3:=cR f3
  have r_f4:=cR f4
  have r_f5:=cR f5
  have r_f6:=cR f6
  have r_f7:=cR f7
  have r_g1:=cR g1
  have r_g2:=cR g2
  have r_g3:=cR g3
  have r_g4:=cR g4
  have r_g5:=cR g5
  have r_g6:=cR g6
  have r_g7:=cR g7
  go_wp2_with fail
  refine wQ ?_
  repeat (go_big_quiet_step (first|(with_reducible exact Hs1.out _ _)))
  refine wpQuiet_nil fun w2 B2=>?_
  have B3:=bot (bot hbel B1) B2
  have h0:=zAA B2 e0 hzw
  have h1:=zAA B2 e1 hzw1
  have i8:=zAA B2 f8 hbw1
  have j8:=zAA B2 g8 hbw2
  clear r_e0 r_e1 r_f1 r_f2 r_f3 r_f4 r_f5 r_f6 r_f7 r_g1 r_g2 r_g3 r_g4 r_g5 r_g6 r_g7 Hs1 B1 B2 e0 e1 f1 f2 f3 f4 f5 f6 f7 f8 g1 g2 g3 g4 g5 g6 g7 g8
  have r_h0:=cR h0
  have r_h1:=cR h1
  have r_i8:=cR i8
  have r_j8:=cR j8
  cases vh with
  | false=>
    have He:=cH (Hq2.out rfl)
    clear Hq1 Hq2 Hq3 Hq4
    cases vs
    ·go_wp2_with fail
     refine wQ ?_
     repeat (go_big_quiet_step (first|fail))
     refine wpQuiet_nil fun w3 B4=>?_
     go_wp2_with fail
     go_ret
     exact ⟨zAB He.out.symm,bot HB0.out (bot B3 B4)⟩
    ·go_wp2_with fail
     refine wQ ?_
     repeat (go_big_quiet_step (first|fail))
     refine wpQuiet_nil fun w3 B4=>?_
     go_wp2_with fail
     go_ret
     exact ⟨zAB He.out.symm,bot HB0.out (bot B3 B4)⟩
  | true=>
  cases vs with
  | false=>
    have He:=cH (Hq3.out rfl)
    clear Hq1 Hq2 Hq3 Hq4
    go_wp2_with fail
    refine wQ ?_
    repeat (go_big_quiet_step (first|fail))
    refine wpQuiet_nil fun w3 B4=>?_
    go_wp2_with fail
    go_ret
    exact ⟨zAB He.out.symm,bot HB0.out (bot B3 B4)⟩
  | true=>
  by_cases hnn:nx=ny
  case neg=>
   have He:=cH (Hq4.out hnn)
   have hbn:(nx != ny)=true:=by simp[hnn]
   clear Hq1 Hq2 Hq3 Hq4 hnn
   go_wp2_with fail
   refine wQ ?_
   repeat (go_big_quiet_step (first|fail))
   refine wpQuiet_nil fun w3 B4=>?_
   go_wp2_with fail
   go_ret
   exact ⟨zAB He.out.symm,bot HB0.out (bot B3 B4)⟩
  have He:=cH (Hq1.out rfl rfl hnn)
  have hbn:(nx != ny)=false:=by simp[hnn]
  clear Hq1 Hq2 Hq3 Hq4 hnn
  go_wp2_with fail
  refine wQ ?_
  repeat (go_big_quiet_step (first|fail))
  refine wpQuiet_nil fun w3 B4=>?_
  go_wp2_with fail
  go_roundw
  case rel=>exact ⟨k+1,by omega,by go_num,He,bot B3 B4⟩
  case measure=>simp[intOf];omega
end Go.Proofs.YtminjjdnmpaaoaaGreatDoor
namespace Go.Proofs.YtminjjdnmpaaoaaGreatDoor
open Go.RowKit Go.Sort
structure But (B:Nat) (w w':World):Prop where
 os:w'.os=w.os
 tape:w'.tape=w.tape
 output:w'.output=w.output
 size:w.heap.size≤w'.heap.size
 block:∀ k,k<w.heap.size→k≠B→w'.heap[k]?=w.heap[k]?
section
variable {B:Nat} {w w' w'':World}
theorem But.refl (B:Nat) (w:World):But B w w:=⟨rfl,rfl,rfl,nR _,fun _ _ _=>rfl⟩
theorem But.trans (h:But B w w') (k:But B w' w''):But B w w'':=
 ⟨k.os.trans h.os,k.tape.trans h.tape,k.output.trans h.output,nT h.size k.size,fun i hi hn=>(k.block i (lL hi h.size) hn).trans (h.block i hi hn)⟩
theorem But.of (h:Below w.heap.size w w'):But B w w':=⟨h.os,h.tape,h.output,h.size,fun k hk _=>h.block k hk⟩
theorem But.below {N:Nat} (h:But B w w') (hB:N≤B) (hN:N≤w.heap.size):Below N w w':=
 ⟨h.os,h.tape,h.output,h.size,fun k hk=>h.block k (lL hk hN) (Nat.ne_of_lt (lL hk hB))⟩
theorem But.then (h:But B w w') (k:Below w'.heap.size w' w''):But B w w'':=h.trans (But.of k)
theorem But.set (w:World) (B o:Nat) (v:Value):But B w (w.setCell ⟨B,o,none⟩ v):=
 ⟨rfl,rfl,rfl,by simp,fun k _ hk=>heap_setCell_other w ⟨B,o,none⟩ k v hk⟩
theorem But.cell (h:But B w w') {b o:Nat} {v:Value} (hc:w.cell? ⟨b,o,none⟩=some v) (hb:b≠B):w'.cell? ⟨b,o,none⟩=some v:=by
 rw[zAO (h.block b (zAd hc) hb) o none];exact hc
theorem But.slv {α:Type} {r:Rp α} {S:Nat→Prop} {l:List α} {v:Value} (h:But B w w') (hs:SlV r w S l v) (hS:∀ b,S b→b≠B):SlV r w' S l v:=SlV.keep hs fun b hb hl=>h.block b hl (hS b hb)
end
section
variable {α:Type} {r:Rp α} {w:World} {S:Nat→Prop}
theorem Elems.set {y:α} {j:Nat} {u:Value} (hj:j<r.size):∀ {l:List α} {xs:List Value} {i:Nat} (hi:i<l.length),Elems r w S l xs→(∀ cs,r.holds w S l[i] cs→r.holds w S y (cs.set j u))→Elems r w S (l.set i y) (xs.set (i * r.size+j) u):=by
 intro l
 induction l with
 | nil=>intro xs i hi;simp at hi
 | cons x l ih=>
   intro xs i hi h hy
   obtain ⟨cs,rest,h1,h2,h3⟩:=h
   have hl:=r.len h2
   subst h1
   cases i with
   | zero=>
     rw[List.set_cons_zero,Nat.zero_mul,Nat.zero_add,List.set_append_left _ _ (by rw[hl];exact hj)]
     exact ⟨cs.set j u,rest,rfl,hy cs h2,h3⟩
   | succ i=>
     rw[List.set_cons_succ,List.set_append_right _ _ (by rw[hl,Nat.succ_mul];omega),hl,show (i+1) * r.size+j - r.size=i * r.size+j from by rw[Nat.succ_mul];omega]
     exact ⟨cs,_,rfl,h2,ih (by simpa using hi) h3 (by simpa using hy)⟩
theorem Own.setE {base g n cap:Nat} {e:TypeId} {l:List α} (h:Own r w base e (.slice (some ⟨g,0,none⟩) n cap) l S) {i j:Nat} (hi:i<l.length) (hj:j<r.size) {y:α} {u:Value} (hy:∀ cs,r.holds w S l[i] cs→r.holds w S y (cs.set j u)) :
  Own r (w.setCell ⟨g,i * r.size+j,none⟩ u) base e (.slice (some ⟨g,0,none⟩) n cap) (l.set i y) S∧w.grownBy (w.setCell ⟨g,i * r.size+j,none⟩ u) (some g):=by
 obtain ⟨h0,xs,h1,h2⟩:=h
 have hn:n=l.length:=by
  rcases h1.2 with ⟨h',_⟩|⟨_,_,_,h',_⟩
  ·simp at h'
  ·simp at h';exact h'.2.1
 subst hn
 obtain ⟨g1,g2⟩:=h1.stored (i * r.size+j) u
 refine ⟨⟨fun b hb=>⟨lL (h0 b hb).1 g2.size,(h0 b hb).2⟩,xs.set (i * r.size+j) u,by rw[List.length_set];exact g1,(Elems.set hj hi h2 hy).mono fun b hb hl=>⟨hb,g2.block b hl (fun e=>(h0 b hb).2 (by rw[Value.ownBlock];exact e.symm))⟩⟩,g2⟩
end
theorem SlV.cutD {α:Type} {r:Rp α} {w:World} {S:Nat→Prop} {l:List α} {A:Option Addr} {n c:Nat} (h:SlV r w S l (.slice A n c)) (k:Nat) (hk:k≤n) :
  SlV r w S (l.drop k) (.slice (if c=k then A else A.map (·.add (k * r.size))) (n - k) (c - k)):=by
 obtain ⟨A',c',h1,h2,h3,h4,h5⟩:=h
 simp only[List.cons.injEq,Value.slice.injEq,and_true] at h1
 obtain ⟨rfl,rfl,rfl⟩:=h1
 refine ⟨_,_,by rw[List.length_drop],by rw[List.length_drop];omega,by omega,fun he=>?_,fun hn=>?_⟩
 ·split at he
  ·have:=h4 he;omega
  ·rw[Option.map_eq_none_iff] at he
   have:=h4 he;omega
 ·rw[List.length_drop] at hn
  obtain ⟨b,o,rfl,hS,hb,hr⟩:=h5 (by omega)
  rw[if_neg (by omega)]
  refine ⟨b,o+k * r.size,by rw[Option.map_some,zEr],hS,hb,fun i x hx=>?_⟩
  rw[List.getElem?_drop] at hx
  obtain ⟨cs,g1,g2⟩:=hr _ x hx
  refine ⟨cs,g1,fun j u hu=>?_⟩
  have:=g2 j u hu
  rw[Nat.add_mul] at this
  rw[show o+k * r.size+i * r.size+j=o+(k * r.size+i * r.size)+j from by omega]
  exact this
theorem zDC {P:Program} {t e:TypeId} {z:Nat} (ht:P.underlying t=some (.slice (P.elem t))) (he:P.elem t=e) (hs:∀ w,(sizeOf e).run P w=.ok z w) (A:Option Addr) (n c k:Nat) (h:k≤n) (w:World) :
  (Instr.slice t (.slice A n c) (some (.int .i64 (k:Int))) none none).run P w=.ok (.slice (if c=k then A else A.map (·.add (k * z))) (n - k) (c - k)) w:=by
 subst he
 rw[run_slice_l w t A n c ht .i64 (k:Int) (by omega) (by omega),hs]
 simp[Result.andThen,sliced]
theorem zBm {P:Program} {fn:Func} {p q:Tmp} {ty:TypeId} (h:fn.results=#[.cell p ty,.tmp q]) (tmps:Array Value) (w:World) (g:Nat) (t:TypeId) (cs:Array Value) (fr:Nat×Nat) (d:TypeDesc)
  (hp:tmps.getD p undef=.pointer (some ⟨g,0,none⟩)) (hg:w.heap[g]?=some (.cells cs t fr))
  (hu:P.underlying ty=some d) (hd:(match d with|.struct _|.array _ _=>true|_=>false)=true) (hi:(P.info? ty).map (·.size)=some cs.size) :
  (results fn tmps).run P w=.ok (.tuple #[.agg cs,tmps.getD q undef]) w:=by
 have hp':tmps[p]?.getD undef=.pointer (some ⟨g,0,none⟩):=by simpa using hp
 simp[results,h,hp',asAddr,run_loadVar_row w g t ty cs fr d hg hu hd hi]
theorem row3P {W:World} {b:Nat} {x y z:Value} {t:TypeId} (h:W.heap[b]?=some (.cells #[x,y,z] t (0,0))):(W.cell? ⟨b,0,none⟩=some x∧W.cell? ⟨b,1,none⟩=some y∧W.cell? ⟨b,2,none⟩=some z)∧W.frozen? ⟨b,0,none⟩=false∧W.frozen? ⟨b,1,none⟩=false∧W.frozen? ⟨b,2,none⟩=false:=by
 refine ⟨⟨cO _ _ 0 _ _ _ h,cO _ _ 1 _ _ _ h,cO _ _ 2 _ _ _ h⟩,?_,?_,?_⟩<;>simp[World.frozen?,h]
