/- A path's text: the program's tree.Text (a Builder) and the document's Text (12). -/
import Derived.Test.YtminjjdnmpaaoaaGreatDoorRows
import Derived.Test.YtminjjdnmpaaoaaGreatDoorSv01
import Derived.Test.YtminjjdnmpaaoaaGreatDoorSv02
import Derived.Test.YtminjjdnmpaaoaaGreatDoorSv04
import Derived.Test.YtminjjdnmpaaoaaGreatDoorSv06
import Derived.Laws.Concat
import Derived.WalkKit
import Derived.WalkSpells
import Derived.WalkLawsBesides
import Derived.IntWalk
import Derived.Lib.Hide
import Derived.Test.YtminjjdnmpaaoaaGreatDoorSv08
import Derived.Test.YtminjjdnmpaaoaaGreatDoorAl
set_option linter.all false
set_option maxHeartbeats 3200000
set_option maxRecDepth 100000
namespace Go.Proofs.YtminjjdnmpaaoaaGreatDoor
open Go.Rows Go.RowKit Go.Shelf
def stepB:ByteArray:=⟨#[47,109,111,100,117,108,101,115,47]⟩
def zAr:List ByteArray→List UInt8
 | []=>[]
 | s::t=>(stepB.data.toList++s.data.toList)++zAr t
def textB (l:List ByteArray):ByteArray:=if l=[] then ⟨#[47]⟩ else if l.all nameB=true then ⟨(zAr l).toArray⟩ else ⟨#[]⟩
theorem zGU (a b:List ByteArray):zAr (a++b)=zAr a++zAr b:=by
 induction a with
 | nil=>rfl
 | cons s t ih=>rw[List.cons_append,zAr,ih,zAr];simp[List.append_assoc]
theorem zEe {l:List ByteArray} {k:Nat} (h:k<l.length):zAr (l.take (k+1))=zAr (l.take k)++stepB.data.toList++l[k].data.toList:=by
 rw[List.take_succ_eq_append_getElem h,zGU]
 simp[zAr,List.append_assoc]
theorem zI5 {α:Type} {p:α→Bool} {l:List α} {k:Nat} (h:k<l.length) (h0:(l.take k).all p=true) (h1:p l[k]=true):(l.take (k+1)).all p=true:=by
 rw[List.take_succ_eq_append_getElem h,List.all_append,h0]
 simp[h1]
theorem zMP {α:Type} {p:α→Bool} {l:List α} {k:Nat} (h:k<l.length) (h1:p l[k]=false):l.all p=false:=by
 rw[List.all_eq_false]
 exact ⟨l[k],List.getElem_mem h,by simp[h1]⟩
theorem zGC {s:ByteArray} (h:nameB s=true):s.size≤16:=by
 rcases Nat.lt_or_ge 16 s.size with h'|h'
 ·have:nameL s.data.toList=false:=zEc (by rw[←zBE];exact h')
  unfold nameB at h;rw[this] at h;cases h
 ·exact h'
theorem zFo:∀ {l:List ByteArray},l.all nameB=true→(zAr l).length≤25 * l.length:=by
 intro l
 induction l with
 | nil=>intro _;exact nR _
 | cons s t ih=>
   intro h
   rw[List.all_cons,Bool.and_eq_true] at h
   have h1:=zGC h.1
   have h2:=ih h.2
   rw[zBE] at h1
   have h3:stepB.data.toList.length=9:=by decide
   rw[zAr,List.length_append,List.length_append,List.length_cons]
   omega
theorem zCS (A:Option Addr) (n c:Nat) (l:List ByteArray) (w:World) (S:Nat→Prop) (hS:∀ b,S b→b<w.heap.size) (hmax:l.length * 32≤140737488355328)
  (hl:SlV rStr w S l (.slice A n c)) :
  Calls Tryz.prog 19 #[.slice A n c] w fun e w'=>e=.returned (.string (textB l))∧Below w.heap.size w w':=by
 have hnx:=hl.n_eq
 have Hnx:=cH hnx
 by_cases h0:l=[]
 ·have hn0:n=0:=by rw[hnx,h0];rfl
  have e0:textB l=⟨#[47]⟩:=if_pos h0
  have E0:=cH e0
  clear Hnx hnx h0 hl hmax hS e0
  subst hn0
  go_enter Tryz.func19,Tryz.ntmps19
  go_wp2_with fail
  go_ret
  exact ⟨zBO E0.out.symm,bR _ _⟩
 ·have hn0:n≠0:=by rw[hnx];exact fun h=>h0 (List.eq_nil_of_length_eq_zero h)
  have hyes:l.all nameB=true→textB l=⟨(zAr l).toArray⟩:=fun h=>by unfold textB;rw[if_neg h0,if_pos h]
  have hno:l.all nameB=false→textB l=⟨#[]⟩:=fun h=>by unfold textB;rw[if_neg h0,h];rfl
  have Hyes:=cH hyes;clear hyes
  have Hno:=cH hno;clear hno
  have hn63:n≤9223372036854775807:=by omega
  have hne:((n:Int)==0)=false:=by simp[hn0]
  have Hm:=cH hmax;clear hmax
  clear hnx h0
  go_enter Tryz.func19,Tryz.ntmps19
  go_wp2
  go_loopw [11] (fun i wr=>∃ k:Nat,k≤n∧i=.int .i64 k∧Hid (IsB w.heap.size w.heap.size (Lib.byteCells (zAr (l.take k))) wr)∧Below w.heap.size w wr∧Hid ((l.take k).all nameB=true)) (fun i _=>n - (intOf i).toNat)
  case atStart=>exact ⟨0,nZ _,rfl,Lib.fresh_isBuilder _ _ _,(bR _ _).alloc (nR _) _,rfl⟩
  case round=>
   obtain ⟨k,hk,rfl,hB,hbel,hall⟩:=hrel
   have hbw:=hbel.size
   have Hbw:=cH hbw
   by_cases hlt:k<n
   ·have hkx:k<l.length:=by have:=Hnx.out;omega
    have hlw:=hl.below hbel hS
    obtain ⟨b,o,cs,rfl,hSb,hb1,hsp,hcell⟩:=hlw.elem (gE hkx)
    obtain ⟨rfl,hsz⟩:=hsp
    have hc0:=hcell 0 _ rfl
    simp only[rStr,Nat.add_zero,Nat.mul_one] at hc0
    have hkn:(k:Int)<(n:Int):=by omega
    have htk:=zEe hkx
    have Htk:=cH htk;clear htk
    have Hall:=cH (fun h=>zI5 (p:=nameB) hkx hall.out h)
    have Hnot:=cH (fun h=>Hno.out (zMP (p:=nameB) hkx h))
    have hjl:=zFo hall.out
    have hjl':(zAr (l.take k)).length≤25 * k:=by rw[List.length_take] at hjl;omega
    have Hjl:=cH hjl';clear hjl hjl'
    have hnl:nameB l[k]=true→l[k].size≤16:=fun hq=>zGC hq
    have Hnl:=cH hnl;clear hnl
    generalize hs:l[k]=s at *
    clear hcell hlw
    go_wp2_with fail
    refine (zBg s hsz _).mono ?_
    rintro e w1 ⟨rfl,hb1⟩
    have hbel1:=hbel.trans (hb1.mono hbw)
    have hbw1:=hbel1.size
    by_cases hq:nameB s=true
    ·have hk1:=Hall.out hq
     have Hk1:=cH hk1;clear hk1
     have hs16:=Hnl.out hq
     have hB1:=hB.out.keep hb1
     have HB1:=cH hB1;clear hB1 hB
     have Hbel1:=cH hbel1;clear hbel1 hbel hb1
     have hlen1:(Lib.byteCells (zAr (l.take k))).length+stepB.size≤140737488355328:=by
      have h9:stepB.size=9:=by decide
      have:=Hjl.out;have:=Hm.out;have:=Hnx.out
      rw[Lib.byteCells_length,h9];omega
     have Hlen1:=cH hlen1;clear hlen1
     clear Hall Hnot Hnl
     go_wp2_with fail
     refine (zBj _ _ _ stepB _ HB1.out Hlen1.out hbw1).mono ?_
     rintro e w2 ⟨rfl,hB2,hb2⟩
     have hB2':IsB w.heap.size w.heap.size (Lib.byteCells (zAr (l.take k)++stepB.data.toList)) w2:=.inr (by rw[Lib.byteCells_append];exact hB2)
     have HB2:=cH hB2';clear hB2 hB2' HB1
     have hbel2:=Hbel1.out.trans hb2
     have hbw2:=hbel2.size
     have Hbel2:=cH hbel2;clear hbel2 hb2
     have hlen2:(Lib.byteCells (zAr (l.take k)++stepB.data.toList)).length+s.size≤140737488355328:=by
      have h9:stepB.data.toList.length=9:=by decide
      have:=Hjl.out;have:=Hm.out;have:=Hnx.out
      rw[Lib.byteCells_length,List.length_append,h9];omega
     have Hlen2:=cH hlen2;clear hlen2
     go_wp2_with fail
     refine (zBj _ _ _ s _ HB2.out Hlen2.out hbw2).mono ?_
     rintro e w3 ⟨rfl,hB3,hb3⟩
     have hB3':IsB w.heap.size w.heap.size (Lib.byteCells (zAr (l.take (k+1)))) w3:=.inr (by rw[Htk.out,Lib.byteCells_append];exact hB3)
     have HB3:=cH hB3';clear hB3 hB3' HB2
     have Hbel3:=cH (Hbel2.out.trans hb3);clear hb3
     go_wp2_with fail
     go_round
     case rel=>exact ⟨k+1,by omega,by go_num,HB3,Hbel3.out,Hk1⟩
     case measure=>simp[intOf];omega
    ·have hq':nameB s=false:=by simpa using hq
     have He:=cH (Hnot.out hq')
     clear Hall Hnot Hnl hq
     go_wp2_with fail
     go_ret
     exact ⟨zBO He.out.symm,hbel1⟩
   ·have hkn:k=n:=by omega
    have htake:l.take k=l:=by have:=Hnx.out;rw[hkn,this];exact List.take_length
    have he:=Hyes.out (by rw[←htake];exact hall.out)
    have He:=cH he;clear he
    have hB':IsB w.heap.size w.heap.size (Lib.byteCells (zAr l)) wr:=by rw[←htake];exact hB.out
    have HB:=cH hB';clear hB' hB htake hall
    have Hbel:=cH hbel;clear hbel
    subst hkn
    go_wp2_with fail
    refine (Tryz.Builder_String_any _ _ _ _ HB.out hbw).mono ?_
    rintro e w1 ⟨rfl,hb1⟩
    go_wp2_with fail
    go_ret
    exact ⟨zBO He.out.symm,Hbel.out.trans hb1⟩
theorem zLh (a b:ByteArray):(a++b).size=a.size+b.size:=ByteArray.size_append
theorem zGH {l:List ByteArray} {k:Nat} (h:k<l.length):(⟨(zAr (l.take (k+1))).toArray⟩:ByteArray)=(⟨(zAr (l.take k)).toArray⟩:ByteArray)++stepB++l[k]:=by
 rw[zEe h]
 apply ByteArray.ext
 simp[ByteArray.data_append]
theorem zCH (A:Option Addr) (n c:Nat) (l:List ByteArray) (w:World) (S:Nat→Prop) (hmax:l.length * 32≤140737488355328)
  (hl:SlV rStr w S l (.slice A n c)) :
  Calls Tryz.prog 61 #[.slice A n c] w fun e w'=>e=.returned (.string (textB l))∧w=w':=by
 have hnx:=hl.n_eq
 have Hnx:=cH hnx
 by_cases h0:l=[]
 ·have hn0:n=0:=by rw[hnx,h0];rfl
  have e0:textB l=⟨#[47]⟩:=if_pos h0
  have E0:=cH e0
  clear Hnx hnx h0 hl hmax e0
  subst hn0
  go_enter Tryz.func61,Tryz.ntmps61
  go_wp2_with fail
  go_ret
  exact ⟨zBO E0.out.symm,rfl⟩
 ·have hn0:n≠0:=by rw[hnx];exact fun h=>h0 (List.eq_nil_of_length_eq_zero h)
  have hyes:l.all nameB=true→textB l=⟨(zAr l).toArray⟩:=fun h=>by unfold textB;rw[if_neg h0,if_pos h]
  have hno:l.all nameB=false→textB l=⟨#[]⟩:=fun h=>by unfold textB;rw[if_neg h0,h];rfl
  have Hyes:=cH hyes;clear hyes
  have Hno:=cH hno;clear hno
  have hn63:n≤9223372036854775807:=by omega
  have hne:((n:Int)==0)=false:=by simp[hn0]
  have Hm:=cH hmax;clear hmax
  clear hnx h0
  go_enter Tryz.func61,Tryz.ntmps61
  go_wp2
  go_loop [3,4] (fun o i=>∃ (k:Nat) (acc:ByteArray),k≤n∧o=.string acc∧i=.int .i64 k∧Hid (acc=⟨(zAr (l.take k)).toArray⟩)∧Hid ((l.take k).all nameB=true)) (fun _ i=>n - (intOf i).toNat)
  case atStart=>exact ⟨0,⟨#[]⟩,nZ _,rfl,rfl,rfl,rfl⟩
  case round=>
   obtain ⟨k,acc,hk,rfl,rfl,hacc,hall⟩:=hrel
   by_cases hlt:k<n
   ·have hkx:k<l.length:=by have:=Hnx.out;omega
    obtain ⟨b,o,cs,rfl,hSb,hb1,hsp,hcell⟩:=hl.elem (gE hkx)
    obtain ⟨rfl,hsz⟩:=hsp
    have hc0:=hcell 0 _ rfl
    simp only[rStr,Nat.add_zero,Nat.mul_one] at hc0
    have hkn:(k:Int)<(n:Int):=by omega
    have htk:=zGH hkx
    have Htk:=cH htk;clear htk
    have Hall:=cH (fun h=>zI5 (p:=nameB) hkx hall.out h)
    have Hnot:=cH (fun h=>Hno.out (zMP (p:=nameB) hkx h))
    have hjl:=zFo hall.out
    have hjl':acc.size≤25 * k:=by rw[List.length_take] at hjl;rw[hacc.out];simp[ByteArray.size];omega
    have Hjl:=cH hjl';clear hjl hjl'
    have hnl:nameB l[k]=true→l[k].size≤16:=fun hq=>zGC hq
    have Hnl:=cH hnl;clear hnl
    generalize hs:l[k]=s at *
    clear hcell
    go_wp2_with fail
    refine (zBr s hsz _).mono ?_
    rintro e w1 ⟨rfl,rfl⟩
    by_cases hq:nameB s=true
    ·have hk1:=Hall.out hq
     have Hk1:=cH hk1;clear hk1
     have hs16:=Hnl.out hq
     have h9:stepB.size=9:=by decide
     have hn1:¬(acc.size+stepB.size > 9223372036854775807):=by
      have:=Hjl.out;have:=Hm.out;have:=Hnx.out
      omega
     have hn2:¬((acc++stepB).size+s.size > 9223372036854775807):=by
      have:=Hjl.out;have:=Hm.out;have:=Hnx.out
      rw[zLh];omega
     have A1:∀ W:World,(Op.stringOp .add acc ⟨#[47,109,111,100,117,108,101,115,47]⟩).run Tryz.prog W=.ok (.string (acc++stepB)) W:=fun W=>run_string_add_sum W acc stepB (by omega)
     have A2:∀ W:World,(Op.stringOp .add (acc++stepB) s).run Tryz.prog W=.ok (.string (acc++stepB++s)) W:=fun W=>run_string_add_sum W _ _ (by omega)
     have hnew:Hid (acc++stepB++s=⟨(zAr (l.take (k+1))).toArray⟩):=by
      unfold Hid;rw[Htk.out,hacc.out]
     clear Hall Hnot Hnl h9 hn1 hn2
     go_wp2_with fail
     go_round
     case rel=>exact ⟨k+1,_,by omega,rfl,by go_num,hnew,Hk1⟩
     case measure=>simp[intOf];omega
    ·have hq':nameB s=false:=by simpa using hq
     have He:=cH (Hnot.out hq')
     clear Hall Hnot Hnl hq
     go_wp2_with fail
     go_ret
     exact ⟨zBO He.out.symm,rfl⟩
   ·have hkn:k=n:=by omega
    have htake:l.take k=l:=by have:=Hnx.out;rw[hkn,this];exact List.take_length
    have he:=Hyes.out (by rw[←htake];exact hall.out)
    have He:Hid (textB l=acc):=by unfold Hid;rw[he,hacc.out,htake]
    clear he htake hall
    subst hkn
    go_wp2_with fail
    go_ret
    exact ⟨zBO He.out.symm,rfl⟩
end Go.Proofs.YtminjjdnmpaaoaaGreatDoor
namespace Go.Proofs.YtminjjdnmpaaoaaGreatDoor
open Go.Rows Go.RowKit Go.Shelf Go.Sort
def lastN (p:List ByteArray):ByteArray:=p.getD (p.length - 1) ⟨#[]⟩
noncomputable def zBw (t:List Dir) (d:Dir) (k:Nat):Bool:=
 decide (d.path.length≠0)&&(decide (textB d.path≠⟨#[]⟩)&&(decide ((textB d.path).size≤1024)&&(decide (1≤d.node)&&(decide (findI t d.path=(k:Int))&&(decide (0≤zBx t d.path)&&(decide (zBx t d.path<(k:Int))&&(packB d.pack&&decide (d.pack.name=lastN d.path))))))))
theorem zB9 {w:World} {S:Nat→Prop} {d:Dir} {cs:List Value} (h:rDir.holds w S d cs):∃ A a B b C c D e,cs=[.slice A d.path.length a,.string d.pack.name,.int .i64 d.pack.ver.major,.int .i64 d.pack.ver.minor,.int .i64 d.pack.ver.patch,.slice B d.pack.deps.length b,.slice C d.pack.peers.length c,.slice D d.pack.opts.length e,.int .i64 d.node] ∧
  SlV rStr w S d.path (.slice A d.path.length a)∧PackV w S d.pack (.agg #[.string d.pack.name,.int .i64 d.pack.ver.major,.int .i64 d.pack.ver.minor,.int .i64 d.pack.ver.patch,.slice B d.pack.deps.length b,.slice C d.pack.peers.length c,.slice D d.pack.opts.length e])∧I64 d.node:=by
 obtain ⟨s0,s1,s2,s3,rfl,hp0,hn,_,_,_,hp1,hp2,hp3,hd⟩:=h
 obtain ⟨pA,pc,rfl,_,_⟩:=hp0.val
 obtain ⟨pB,pd,rfl,_,_⟩:=hp1.val
 obtain ⟨pC,pe,rfl,_,_⟩:=hp2.val
 obtain ⟨pD,pf,rfl,_,_⟩:=hp3.val
 exact ⟨_,_,_,_,_,_,_,_,rfl,hp0,⟨_,_,_,_,_,_,_,_,_,rfl,hn,hp1,hp2,hp3⟩,hd⟩
theorem zJl (A:Option Addr) (n c:Nat) (xs:List Dir) (w:World) (S:Nat→Prop) (k:Nat) (hk:k<xs.length) (ht:Tab w) (hlen:∀ d∈xs,d.path.length * 32≤140737488355328) (hx:SlV rDir w S xs (.slice A n c)) :
  Calls Tryz.prog 45 #[.agg #[.slice A n c],.int .i64 k] w fun e w'=>e=.returned (.bool (zBw xs xs[k] k))∧Below w.heap.size w w':=by
 have hnx:=hx.n_eq
 have hcx:=hx.cap_le
 unfold maxLen at hcx
 have hn63:n≤9223372036854775807:=by omega
 have hx0:=hx
 obtain ⟨b,o,cs,rfl,_,hb1,hh,hcell⟩:=hx.elem (gE hk)
 obtain ⟨pA,pa,pB,pb,pC,pc,pD,pd,rfl,hp,hpk,hI⟩:=zB9 hh
 have hpc:=hp.cap_le
 unfold maxLen at hpc
 have hlk:=hlen xs[k] (List.getElem_mem hk)
 have c0:=hcell 0 _ rfl
 have c1:=hcell 1 _ rfl
 have c2:=hcell 2 _ rfl
 have c3:=hcell 3 _ rfl
 have c4:=hcell 4 _ rfl
 have c5:=hcell 5 _ rfl
 have c6:=hcell 6 _ rfl
 have c7:=hcell 7 _ rfl
 have c8:=hcell 8 _ rfl
 simp only[rDir,Nat.add_zero] at c0 c1 c2 c3 c4 c5 c6 c7 c8
 have HR:Hid (zBw xs xs[k] k=(decide (xs[k].path.length≠0)&&(decide (textB xs[k].path≠⟨#[]⟩)&&(decide ((textB xs[k].path).size≤1024)&&(decide (1≤xs[k].node)&&(decide (findI xs xs[k].path=(k:Int))&&(decide (0≤zBx xs xs[k].path)&&(decide (zBx xs xs[k].path<(k:Int))&&(packB xs[k].pack&&decide (xs[k].pack.name=lastN xs[k].path)))))))))):=rfl
 have Htx:Hid (∀ W,Below w.heap.size w W→Calls Tryz.prog 19 #[.slice pA xs[k].path.length pa] W fun e w'=>e=.returned (.string (textB xs[k].path))∧Below W.heap.size W w'):=fun W hW=>zCS _ _ _ _ W (fun b=>b<w.heap.size) (fun b h=>lL h hW.size) hlk ((hp.more (S':=fun b=>b<w.heap.size) fun b _ h=>h).belowSize hW)
 have Hfd:Hid (∀ W,Below w.heap.size w W→Calls Tryz.prog 18 #[.agg #[.slice (some ⟨b,o,none⟩) n c],.slice pA xs[k].path.length pa] W fun e w'=>e=.returned (.int .i64 (findI xs xs[k].path))∧Below W.heap.size W w'):=fun W hW=>zDG _ _ _ _ _ _ _ _ W _ _ (hx0.belowSize hW) (hp.belowSize hW)
 have Hab:Hid (∀ q,xs[k].path.length=q+1→∀ W,Below w.heap.size w W→Calls Tryz.prog 18 #[.agg #[.slice (some ⟨b,o,none⟩) n c],.slice pA q pa] W fun e w'=>e=.returned (.int .i64 (zBx xs xs[k].path))∧Below W.heap.size W w'):=fun q hq W hW=>by
  have e:zBx xs xs[k].path=findI xs (xs[k].path.take q):=by unfold zBx;rw[hq];rfl
  rw[e]
  exact zDG _ _ _ _ _ _ xs (xs[k].path.take q) W _ _ (hx0.belowSize hW) ((hp.take (by omega)).belowSize hW)
 have Hpk:Hid (∀ W,Below w.heap.size w W→Calls Tryz.prog 71 #[.agg #[.string xs[k].pack.name,.int .i64 xs[k].pack.ver.major,.int .i64 xs[k].pack.ver.minor,.int .i64 xs[k].pack.ver.patch,.slice pB xs[k].pack.deps.length pb,.slice pC xs[k].pack.peers.length pc,.slice pD xs[k].pack.opts.length pd]] W fun e w'=>e=.returned (.bool (packB xs[k].pack))∧Below W.heap.size W w'):=fun W hW=>zE0 xs[k].pack _ W _ (zAY ht hW) (hpk.keep hW)
 have Hlast:Hid (∀ q,xs[k].path.length=q+1→∃ g u,pA=some ⟨g,u,none⟩∧g<w.heap.size∧w.cell? ⟨g,u+q,none⟩=some (.string (lastN xs[k].path))):=fun q hq=>by
  have hq':q<xs[k].path.length:=by omega
  obtain ⟨g,u,cs',rfl,_,hg,⟨rfl,_⟩,hc⟩:=hp.elem (gE hq')
  have:=hc 0 _ rfl
  simp only[rStr,Nat.add_zero,Nat.mul_one] at this
  refine ⟨g,u,rfl,hg,?_⟩
  rw[this];unfold lastN;rw[hq,List.getD_eq_getElem?_getD,show q+1 - 1=q from rfl,gE hq'];rfl
 clear hcell hp hpk hx hx0 hh hlk hlen
 have hI1:=hI.1
 have hI2:=hI.2
 clear hI
 generalize zBw xs xs[k] k=R at *
 generalize textB xs[k].path=tx at *
 generalize findI xs xs[k].path=f at *
 generalize zBx xs xs[k].path=ab at *
 generalize packB xs[k].pack=pk at *
 generalize lastN xs[k].path=ls at *
 generalize xs[k].path.length=l0 at *
 generalize xs[k].pack.deps.length=l1 at *
 generalize xs[k].pack.peers.length=l2 at *
 generalize xs[k].pack.opts.length=l3 at *
 generalize xs[k].pack.name=nm at *
 generalize xs[k].pack.ver.major=y1 at *
 generalize xs[k].pack.ver.minor=y2 at *
 generalize xs[k].pack.ver.patch=y3 at *
 generalize xs[k].node=nd at *
 have hkn:(k:Int)<(n:Int):=by omega
 have hk0:(0:Int)≤(k:Int):=by omega
 clear hk hcx hnx ht
 go_enter Tryz.func45,Tryz.ntmps45
 go_wp2_with fail
 obtain ⟨w0,hw0⟩:∃ w0,w0=(w.alloc (.cells #[.slice (some ⟨b,o,none⟩) n c] 33)).alloc (.cells #[.slice pA l0 pa,.string nm,.int .i64 y1,.int .i64 y2,.int .i64 y3,.slice pB l1 pb,.slice pC l2 pc,.slice pD l3 pd,.int .i64 nd] 54):=⟨_,rfl⟩
 have hz:w.heap.size<w0.heap.size:=by rw[hw0];simp[go_sem]
 have hz1:w.heap.size+1<w0.heap.size:=by rw[hw0];simp[go_sem]
 have hb0:Below w.heap.size w w0:=by rw[hw0];exact bal (bal (bR _ _) _) _
 have a0:w0.cell? ⟨w.heap.size,0,none⟩=some (.slice (some ⟨b,o,none⟩) n c):=by rw[hw0];simp[go_sem]
 have e0:w0.cell? ⟨w.heap.size+1,0,none⟩=some (.slice pA l0 pa):=by rw[hw0];simp[go_sem]
 have e1:w0.cell? ⟨w.heap.size+1,1,none⟩=some (.string nm):=by rw[hw0];simp[go_sem]
 have e2:w0.cell? ⟨w.heap.size+1,2,none⟩=some (.int .i64 y1):=by rw[hw0];simp[go_sem]
 have e3:w0.cell? ⟨w.heap.size+1,3,none⟩=some (.int .i64 y2):=by rw[hw0];simp[go_sem]
 have e4:w0.cell? ⟨w.heap.size+1,4,none⟩=some (.int .i64 y3):=by rw[hw0];simp[go_sem]
 have e5:w0.cell? ⟨w.heap.size+1,5,none⟩=some (.slice pB l1 pb):=by rw[hw0];simp[go_sem]
 have e6:w0.cell? ⟨w.heap.size+1,6,none⟩=some (.slice pC l2 pc):=by rw[hw0];simp[go_sem]
 have e7:w0.cell? ⟨w.heap.size+1,7,none⟩=some (.slice pD l3 pd):=by rw[hw0];simp[go_sem]
 have e8:w0.cell? ⟨w.heap.size+1,8,none⟩=some (.int .i64 nd):=by rw[hw0];simp[go_sem]
 rw[←hw0]
 have HB0:=cH hb0;clear hb0 hw0 c0 c1 c2 c3 c4 c5 c6 c7 c8
 have HS:Hid (∀ W,Below w0.heap.size w0 W→Below w.heap.size w W):=fun W hW=>bot HB0.out hW
 refine (Htx.out w0 HB0.out).mono ?_
 rintro e w1 ⟨rfl,B1⟩
 have Q1:=cH B1;clear B1 Htx
 have f0:=zAA Q1.out e0 hz1
 have f8:=zAA Q1.out e8 hz1
 have g0:=zAA Q1.out a0 hz
 by_cases hl0:l0=0
 ·have hzb:((l0:Int)==0)=true:=by simp[hl0]
  have He:Hid (R=false):=by unfold Hid;rw[HR.out,hl0];rfl
  clear hl0
  go_wp2_with fail
  go_ret
  exact ⟨zAB He.out.symm,HS.out _ Q1.out⟩
 obtain ⟨q,rfl⟩:∃ q,l0=q+1:=⟨l0 - 1,by omega⟩
 clear hl0
 have hqb:(((q+1:Nat):Int)==0)=false:=by simp;omega
 have hqb':(((q:Int)+1)==0)=false:=by simp;omega
 obtain ⟨g,u,rfl,hg,hlc⟩:=Hlast.out q rfl
 by_cases htx:tx=⟨#[]⟩
 ·have htb:=zAT htx
  have htl:tx.toList=[]:=by rw[htx,Go.ByteArray.toList_eq]
  have htm:tx.toList.isEmpty=true:=by rw[htl];rfl
  have He:Hid (R=false):=by unfold Hid;rw[HR.out,htx];rfl
  clear htx
  go_wp2_with fail
  go_ret
  exact ⟨zAB He.out.symm,HS.out _ Q1.out⟩
 have htb:=zAL htx
 have htl:¬tx.toList=[]:=fun h=>htx (ByteArray.ext (Array.ext' (by rw[Go.ByteArray.toList_eq] at h;exact h)))
 have htm:tx.toList.isEmpty=false:=by cases e:tx.toList with|nil=>exact absurd e htl|cons=>rfl
 have Htn:=cH htx;clear htx
 by_cases hsz:tx.size≤1024
 case neg=>
  have hsi:(1024:Int)<(tx.size:Int):=by omega
  have hsj:¬(tx.size:Int)≤1024:=by omega
  have hsk:decide ((1024:Int)<(tx.size:Int))=true:=decide_eq_true hsi
  have He:Hid (R=false):=by unfold Hid;rw[HR.out,decide_eq_false hsz];simp
  clear hsz
  go_wp2_with fail
  go_ret
  exact ⟨zAB He.out.symm,HS.out _ Q1.out⟩
 have hsi:¬(1024:Int)<(tx.size:Int):=by omega
 have hsj:(tx.size:Int)≤1024:=by omega
 have hsk:decide ((1024:Int)<(tx.size:Int))=false:=decide_eq_false hsi
 by_cases hnd:1≤nd
 case neg=>
  have hni:nd<1:=by omega
  have hnk:decide (nd<1)=true:=decide_eq_true hni
  have He:Hid (R=false):=by unfold Hid;rw[HR.out,decide_eq_false hnd];simp
  clear hnd
  go_wp2_with fail
  go_ret
  exact ⟨zAB He.out.symm,HS.out _ Q1.out⟩
 have hni:¬nd<1:=by omega
 have hnk:decide (nd<1)=false:=decide_eq_false hni
 have HR2:Hid (R=(decide (f=(k:Int))&&(decide (0≤ab)&&(decide (ab<(k:Int))&&(pk&&decide (nm=ls)))))):=by
  unfold Hid;rw[HR.out,decide_eq_true Htn.out,decide_eq_true hsz,decide_eq_true hnd];simp
 clear HR hsz hnd Hlast Htn
 go_wp2_with fail
 refine (Hfd.out w1 (HS.out _ Q1.out)).mono ?_
 rintro e w2 ⟨rfl,B2⟩
 have Q2:=cH (bot Q1.out B2);clear B2 Hfd f0 f8 g0
 by_cases hf:f=(k:Int)
 case neg=>
  have hfb:(f != (k:Int))=true:=by simp[hf]
  have He:Hid (R=false):=by unfold Hid;rw[HR2.out,decide_eq_false hf];simp
  clear hf
  go_wp2_with fail
  go_ret
  exact ⟨zAB He.out.symm,HS.out _ Q2.out⟩
 have hfb:(f != (k:Int))=false:=by simp[hf]
 have HR3:Hid (R=(decide (0≤ab)&&(decide (ab<(k:Int))&&(pk&&decide (nm=ls))))):=by
  unfold Hid;rw[HR2.out,decide_eq_true hf];simp
 clear HR2 hf
 go_wp2_with fail
 have h0:=zAA Q2.out e0 hz1
 have h1:=zAA Q2.out a0 hz
 have hw1:IntKind.i64.wrap ((q:Int)+1 - 1)=(q:Int):=(IntWalk.i64_in _ ⟨by omega,by omega⟩).trans (by omega)
 have hw2:IntKind.i64.wrap (q:Int)=(q:Int):=IntWalk.i64_in _ ⟨by omega,by omega⟩
 have hqc:q≤pa:=by omega
 have Hc:=cH (qcall (w:=w2) (fun W hW=>Hab.out q rfl W (bot (HS.out _ Q2.out) hW)))
 clear Hab
 have r_h0:=cR h0
 have r_h1:=cR h1
 refine wQ ?_
 repeat (go_big_quiet_step (first|(with_reducible exact Hc.out _ _)))
 refine wpQuiet_nil fun w3 B3=>?_
 have Q3:=cH (bot Q2.out B3);clear B3 Hc r_h0 r_h1 h0 h1
 have i0:=zAA Q3.out e0 hz1
 have i1:=zAA Q3.out e1 hz1
 have i2:=zAA Q3.out e2 hz1
 have i3:=zAA Q3.out e3 hz1
 have i4:=zAA Q3.out e4 hz1
 have i5:=zAA Q3.out e5 hz1
 have i6:=zAA Q3.out e6 hz1
 have i7:=zAA Q3.out e7 hz1
 have i8:=zAA (HS.out _ Q3.out) hlc hg
 have Hc:=cH (qcall (w:=w3) (fun W hW=>Hpk.out W (bot (HS.out _ Q3.out) hW)))
 have hqn:(q:Int)<((q+1:Nat):Int):=by omega
 have hqn':(q:Int)<(q:Int)+1:=by omega
 have hq0:(0:Int)≤(q:Int):=by omega
 clear Hpk a0 e0 e1 e2 e3 e4 e5 e6 e7 e8
 have r_i0:=cR i0
 have r_i1:=cR i1
 have r_i2:=cR i2
 have r_i3:=cR i3
 have r_i4:=cR i4
 have r_i5:=cR i5
 have r_i6:=cR i6
 have r_i7:=cR i7
 have r_i8:=cR i8
 by_cases hab:0≤ab
 case neg=>
  have He:Hid (R=false):=by unfold Hid;rw[HR3.out,decide_eq_false hab];simp
  have hak:decide (0≤ab)=false:=decide_eq_false hab
  go_wp2_with fail
  refine wQ ?_
  repeat (go_big_quiet_step (first|(with_reducible exact Hc.out _ _)))
  refine wpQuiet_nil fun w4 B4=>?_
  go_wp2_with fail
  go_ret
  exact ⟨zAB He.out.symm,HS.out _ (bot Q3.out B4)⟩
 by_cases habk:ab<(k:Int)
 case neg=>
  have He:Hid (R=false):=by unfold Hid;rw[HR3.out,decide_eq_false habk];simp
  have hak:decide (ab<(k:Int))=false:=decide_eq_false habk
  go_wp2_with fail
  refine wQ ?_
  repeat (go_big_quiet_step (first|(with_reducible exact Hc.out _ _)))
  refine wpQuiet_nil fun w4 B4=>?_
  go_wp2_with fail
  go_ret
  exact ⟨zAB He.out.symm,HS.out _ (bot Q3.out B4)⟩
 have HR4:Hid (R=(pk&&decide (nm=ls))):=by
  unfold Hid;rw[HR3.out,decide_eq_true hab,decide_eq_true habk];simp
 clear HR3
 cases pk
 ·have He:Hid (R=false):=by unfold Hid;rw[HR4.out];rfl
  go_wp2_with fail
  refine wQ ?_
  repeat (go_big_quiet_step (first|(with_reducible exact Hc.out _ _)))
  refine wpQuiet_nil fun w4 B4=>?_
  go_wp2_with fail
  go_ret
  exact ⟨zAB He.out.symm,HS.out _ (bot Q3.out B4)⟩
 by_cases hnl:nm=ls
 ·have hnb:=zAT hnl
  have He:Hid (R=true):=by unfold Hid;rw[HR4.out,decide_eq_true hnl];rfl
  clear hnl
  go_wp2_with fail
  refine wQ ?_
  repeat (go_big_quiet_step (first|(with_reducible exact Hc.out _ _)))
  refine wpQuiet_nil fun w4 B4=>?_
  go_wp2_with fail
  go_ret
  exact ⟨zAB He.out.symm,HS.out _ (bot Q3.out B4)⟩
 ·have hnb:=zAL hnl
  have He:Hid (R=false):=by unfold Hid;rw[HR4.out,decide_eq_false hnl];rfl
  clear hnl
  go_wp2_with fail
  refine wQ ?_
  repeat (go_big_quiet_step (first|(with_reducible exact Hc.out _ _)))
  refine wpQuiet_nil fun w4 B4=>?_
  go_wp2_with fail
  go_ret
  exact ⟨zAB He.out.symm,HS.out _ (bot Q3.out B4)⟩
theorem zGd (A:Option Addr) (n c:Nat) (xs:List Dir) (w:World) (S:Nat→Prop) (k:Nat) (hk:k<xs.length) (hlen:∀ d∈xs,d.path.length * 32≤140737488355328) (hx:SlV rDir w S xs (.slice A n c)) :
  Calls Tryz.prog 54 #[.agg #[.slice A n c],.int .i64 k] w fun e w'=>e=.returned (.bool (zBw xs xs[k] k))∧Below w.heap.size w w':=by
 have hnx:=hx.n_eq
 have hcx:=hx.cap_le
 unfold maxLen at hcx
 have hn63:n≤9223372036854775807:=by omega
 have hx0:=hx
 obtain ⟨b,o,cs,rfl,_,hb1,hh,hcell⟩:=hx.elem (gE hk)
 obtain ⟨pA,pa,pB,pb,pC,pc,pD,pd,rfl,hp,hpk,hI⟩:=zB9 hh
 have hpc:=hp.cap_le
 unfold maxLen at hpc
 have hlk:=hlen xs[k] (List.getElem_mem hk)
 have c0:=hcell 0 _ rfl
 have c1:=hcell 1 _ rfl
 have c2:=hcell 2 _ rfl
 have c3:=hcell 3 _ rfl
 have c4:=hcell 4 _ rfl
 have c5:=hcell 5 _ rfl
 have c6:=hcell 6 _ rfl
 have c7:=hcell 7 _ rfl
 have c8:=hcell 8 _ rfl
 simp only[rDir,Nat.add_zero] at c0 c1 c2 c3 c4 c5 c6 c7 c8
 have HR:Hid (zBw xs xs[k] k=(decide (xs[k].path.length≠0)&&(decide (textB xs[k].path≠⟨#[]⟩)&&(decide ((textB xs[k].path).size≤1024)&&(decide (1≤xs[k].node)&&(decide (findI xs xs[k].path=(k:Int))&&(decide (0≤zBx xs xs[k].path)&&(decide (zBx xs xs[k].path<(k:Int))&&(packB xs[k].pack&&decide (xs[k].pack.name=lastN xs[k].path)))))))))):=rfl
 have Htx:Hid (∀ W,Below w.heap.size w W→Calls Tryz.prog 61 #[.slice pA xs[k].path.length pa] W fun e w'=>e=.returned (.string (textB xs[k].path))∧Below W.heap.size W w'):=fun W hW=>(zCH _ _ _ _ W _ hlk (hp.belowSize hW)).mono fun e w' h=>⟨h.1,h.2▸bR _ _⟩
 have Hfd:Hid (∀ W,Below w.heap.size w W→Calls Tryz.prog 93 #[.agg #[.slice (some ⟨b,o,none⟩) n c],.slice pA xs[k].path.length pa] W fun e w'=>e=.returned (.int .i64 (findI xs xs[k].path))∧Below W.heap.size W w'):=fun W hW=>zCF _ _ _ _ _ _ _ _ W _ _ (hx0.belowSize hW) (hp.belowSize hW)
 have Hab:Hid (xs[k].path.length≠0→∀ W,Below w.heap.size w W→Calls Tryz.prog 94 #[.agg #[.slice (some ⟨b,o,none⟩) n c],.int .i64 k] W fun e w'=>e=.returned (.int .i64 (zBx xs xs[k].path))∧Below W.heap.size W w'):=fun hq W hW=>
  zG5 _ _ _ xs W _ k hk (fun h=>hq (by rw[h];rfl)) (hx0.belowSize hW)
 have Hpk:Hid (∀ W,Below w.heap.size w W→Calls Tryz.prog 63 #[.agg #[.string xs[k].pack.name,.int .i64 xs[k].pack.ver.major,.int .i64 xs[k].pack.ver.minor,.int .i64 xs[k].pack.ver.patch,.slice pB xs[k].pack.deps.length pb,.slice pC xs[k].pack.peers.length pc,.slice pD xs[k].pack.opts.length pd]] W fun e w'=>e=.returned (.bool (packB xs[k].pack))∧Below W.heap.size W w'):=fun W hW=>zCW xs[k].pack _ W _ (hpk.keep hW)
 have Hlast:Hid (∀ q,xs[k].path.length=q+1→∃ g u,pA=some ⟨g,u,none⟩∧g<w.heap.size∧w.cell? ⟨g,u+q,none⟩=some (.string (lastN xs[k].path))):=fun q hq=>by
  have hq':q<xs[k].path.length:=by omega
  obtain ⟨g,u,cs',rfl,_,hg,⟨rfl,_⟩,hc⟩:=hp.elem (gE hq')
  have:=hc 0 _ rfl
  simp only[rStr,Nat.add_zero,Nat.mul_one] at this
  refine ⟨g,u,rfl,hg,?_⟩
  rw[this];unfold lastN;rw[hq,List.getD_eq_getElem?_getD,show q+1 - 1=q from rfl,gE hq'];rfl
 clear hcell hp hpk hx hx0 hh hlk hlen
 have hI1:=hI.1
 have hI2:=hI.2
 clear hI
 generalize zBw xs xs[k] k=R at *
 generalize textB xs[k].path=tx at *
 generalize findI xs xs[k].path=f at *
 generalize zBx xs xs[k].path=ab at *
 generalize packB xs[k].pack=pk at *
 generalize lastN xs[k].path=ls at *
 generalize xs[k].path.length=l0 at *
 generalize xs[k].pack.deps.length=l1 at *
 generalize xs[k].pack.peers.length=l2 at *
 generalize xs[k].pack.opts.length=l3 at *
 generalize xs[k].pack.name=nm at *
 generalize xs[k].pack.ver.major=y1 at *
 generalize xs[k].pack.ver.minor=y2 at *
 generalize xs[k].pack.ver.patch=y3 at *
 generalize xs[k].node=nd at *
 have hkn:(k:Int)<(n:Int):=by omega
 have hk0:(0:Int)≤(k:Int):=by omega
 clear hcx hnx
 go_enter Tryz.func54,Tryz.ntmps54
 go_wp2_with fail
 obtain ⟨w0,hw0⟩:∃ w0,w0=(w.alloc (.cells #[.slice (some ⟨b,o,none⟩) n c] 33)).alloc (.cells #[.slice pA l0 pa,.string nm,.int .i64 y1,.int .i64 y2,.int .i64 y3,.slice pB l1 pb,.slice pC l2 pc,.slice pD l3 pd,.int .i64 nd] 54):=⟨_,rfl⟩
 have hz:w.heap.size<w0.heap.size:=by rw[hw0];simp[go_sem]
 have hz1:w.heap.size+1<w0.heap.size:=by rw[hw0];simp[go_sem]
 have hb0:Below w.heap.size w w0:=by rw[hw0];exact bal (bal (bR _ _) _) _
 have a0:w0.cell? ⟨w.heap.size,0,none⟩=some (.slice (some ⟨b,o,none⟩) n c):=by rw[hw0];simp[go_sem]
 have e0:w0.cell? ⟨w.heap.size+1,0,none⟩=some (.slice pA l0 pa):=by rw[hw0];simp[go_sem]
 have e1:w0.cell? ⟨w.heap.size+1,1,none⟩=some (.string nm):=by rw[hw0];simp[go_sem]
 have e2:w0.cell? ⟨w.heap.size+1,2,none⟩=some (.int .i64 y1):=by rw[hw0];simp[go_sem]
 have e3:w0.cell? ⟨w.heap.size+1,3,none⟩=some (.int .i64 y2):=by rw[hw0];simp[go_sem]
 have e4:w0.cell? ⟨w.heap.size+1,4,none⟩=some (.int .i64 y3):=by rw[hw0];simp[go_sem]
 have e5:w0.cell? ⟨w.heap.size+1,5,none⟩=some (.slice pB l1 pb):=by rw[hw0];simp[go_sem]
 have e6:w0.cell? ⟨w.heap.size+1,6,none⟩=some (.slice pC l2 pc):=by rw[hw0];simp[go_sem]
 have e7:w0.cell? ⟨w.heap.size+1,7,none⟩=some (.slice pD l3 pd):=by rw[hw0];simp[go_sem]
 have e8:w0.cell? ⟨w.heap.size+1,8,none⟩=some (.int .i64 nd):=by rw[hw0];simp[go_sem]
 rw[←hw0]
 have HB0:=cH hb0;clear hb0 hw0 c0 c1 c2 c3 c4 c5 c6 c7 c8
 have HS:Hid (∀ W,Below w0.heap.size w0 W→Below w.heap.size w W):=fun W hW=>bot HB0.out hW
 refine (Htx.out w0 HB0.out).mono ?_
 rintro e w1 ⟨rfl,B1⟩
 have Q1:=cH B1;clear B1 Htx
 have f0:=zAA Q1.out e0 hz1
 have f8:=zAA Q1.out e8 hz1
 have g0:=zAA Q1.out a0 hz
 by_cases hl0:l0=0
 ·have hzb:((l0:Int)==0)=true:=by simp[hl0]
  have He:Hid (R=false):=by unfold Hid;rw[HR.out,hl0];rfl
  clear hl0
  go_wp2_with fail
  go_ret
  exact ⟨zAB He.out.symm,HS.out _ Q1.out⟩
 obtain ⟨q,rfl⟩:∃ q,l0=q+1:=⟨l0 - 1,by omega⟩
 clear hl0
 have hqb:(((q+1:Nat):Int)==0)=false:=by simp;omega
 have hqb':(((q:Int)+1)==0)=false:=by simp;omega
 obtain ⟨g,u,rfl,hg,hlc⟩:=Hlast.out q rfl
 by_cases htx:tx=⟨#[]⟩
 ·have htb:=zAT htx
  have htl:tx.toList=[]:=by rw[htx,Go.ByteArray.toList_eq]
  have htm:tx.toList.isEmpty=true:=by rw[htl];rfl
  have He:Hid (R=false):=by unfold Hid;rw[HR.out,htx];rfl
  clear htx
  go_wp2_with fail
  go_ret
  exact ⟨zAB He.out.symm,HS.out _ Q1.out⟩
 have htb:=zAL htx
 have htl:¬tx.toList=[]:=fun h=>htx (ByteArray.ext (Array.ext' (by rw[Go.ByteArray.toList_eq] at h;exact h)))
 have htm:tx.toList.isEmpty=false:=by cases e:tx.toList with|nil=>exact absurd e htl|cons=>rfl
 have Htn:=cH htx;clear htx
 by_cases hsz:tx.size≤1024
 case neg=>
  have hsi:(1024:Int)<(tx.size:Int):=by omega
  have hsj:¬(tx.size:Int)≤1024:=by omega
  have hsk:decide ((1024:Int)<(tx.size:Int))=true:=decide_eq_true hsi
  have He:Hid (R=false):=by unfold Hid;rw[HR.out,decide_eq_false hsz];simp
  clear hsz
  go_wp2_with fail
  go_ret
  exact ⟨zAB He.out.symm,HS.out _ Q1.out⟩
 have hsi:¬(1024:Int)<(tx.size:Int):=by omega
 have hsj:(tx.size:Int)≤1024:=by omega
 have hsk:decide ((1024:Int)<(tx.size:Int))=false:=decide_eq_false hsi
 by_cases hnd:1≤nd
 case neg=>
  have hni:nd<1:=by omega
  have hnk:decide (nd<1)=true:=decide_eq_true hni
  have He:Hid (R=false):=by unfold Hid;rw[HR.out,decide_eq_false hnd];simp
  clear hnd
  go_wp2_with fail
  go_ret
  exact ⟨zAB He.out.symm,HS.out _ Q1.out⟩
 have hni:¬nd<1:=by omega
 have hnk:decide (nd<1)=false:=decide_eq_false hni
 have HR2:Hid (R=(decide (f=(k:Int))&&(decide (0≤ab)&&(decide (ab<(k:Int))&&(pk&&decide (nm=ls)))))):=by
  unfold Hid;rw[HR.out,decide_eq_true Htn.out,decide_eq_true hsz,decide_eq_true hnd];simp
 clear HR hsz hnd Hlast Htn
 go_wp2_with fail
 refine (Hfd.out w1 (HS.out _ Q1.out)).mono ?_
 rintro e w2 ⟨rfl,B2⟩
 have Q2:=cH (bot Q1.out B2);clear B2 Hfd f0 f8 g0
 by_cases hf:f=(k:Int)
 case neg=>
  have hfb:(f != (k:Int))=true:=by simp[hf]
  have He:Hid (R=false):=by unfold Hid;rw[HR2.out,decide_eq_false hf];simp
  clear hf
  go_wp2_with fail
  go_ret
  exact ⟨zAB He.out.symm,HS.out _ Q2.out⟩
 have hfb:(f != (k:Int))=false:=by simp[hf]
 have HR3:Hid (R=(decide (0≤ab)&&(decide (ab<(k:Int))&&(pk&&decide (nm=ls))))):=by
  unfold Hid;rw[HR2.out,decide_eq_true hf];simp
 clear HR2 hf
 have h1:=zAA Q2.out a0 hz
 go_wp2_with fail
 refine (Hab.out (Nat.succ_ne_zero q) w2 (HS.out _ Q2.out)).mono ?_
 rintro e w3 ⟨rfl,B3⟩
 have Q3:=cH (bot Q2.out B3);clear B3 h1 Hab
 have j1:=zAA Q3.out e1 hz1
 have j2:=zAA Q3.out e2 hz1
 have j3:=zAA Q3.out e3 hz1
 have j4:=zAA Q3.out e4 hz1
 have j5:=zAA Q3.out e5 hz1
 have j6:=zAA Q3.out e6 hz1
 have j7:=zAA Q3.out e7 hz1
 go_wp2_with fail
 refine (Hpk.out w3 (HS.out _ Q3.out)).mono ?_
 rintro e w31 ⟨rfl,B3⟩
 have Q31:=cH (bot Q3.out B3);clear B3 j1 j2 j3 j4 j5 j6 j7 Q3
 have Q3:=Q31;clear Q31
 have hw1:IntKind.i64.wrap ((q:Int)+1 - 1)=(q:Int):=(IntWalk.i64_in _ ⟨by omega,by omega⟩).trans (by omega)
 have hw2:IntKind.i64.wrap (q:Int)=(q:Int):=IntWalk.i64_in _ ⟨by omega,by omega⟩
 have hqc:q≤pa:=by omega
 have i0:=zAA Q3.out e0 hz1
 have i1:=zAA Q3.out e1 hz1
 have i2:=zAA Q3.out e2 hz1
 have i3:=zAA Q3.out e3 hz1
 have i4:=zAA Q3.out e4 hz1
 have i5:=zAA Q3.out e5 hz1
 have i6:=zAA Q3.out e6 hz1
 have i7:=zAA Q3.out e7 hz1
 have i8:=zAA (HS.out _ Q3.out) hlc hg
 have hqn:(q:Int)<((q+1:Nat):Int):=by omega
 have hqn':(q:Int)<(q:Int)+1:=by omega
 have hq0:(0:Int)≤(q:Int):=by omega
 clear Hpk a0 e0 e1 e2 e3 e4 e5 e6 e7 e8
 have r_i0:=cR i0
 have r_i1:=cR i1
 have r_i2:=cR i2
 have r_i3:=cR i3
 have r_i4:=cR i4
 have r_i5:=cR i5
 have r_i6:=cR i6
 have r_i7:=cR i7
 have r_i8:=cR i8
 by_cases hab:0≤ab
 case neg=>
  have He:Hid (R=false):=by unfold Hid;rw[HR3.out,decide_eq_false hab];simp
  have hak:decide (0≤ab)=false:=decide_eq_false hab
  go_wp2_with fail
  refine wQ ?_
  repeat (go_big_quiet_step (first|fail))
  refine wpQuiet_nil fun w4 B4=>?_
  go_wp2_with fail
  go_ret
  exact ⟨zAB He.out.symm,HS.out _ (bot Q3.out B4)⟩
 by_cases habk:ab<(k:Int)
 case neg=>
  have He:Hid (R=false):=by unfold Hid;rw[HR3.out,decide_eq_false habk];simp
  have hak:decide (ab<(k:Int))=false:=decide_eq_false habk
  go_wp2_with fail
  refine wQ ?_
  repeat (go_big_quiet_step (first|fail))
  refine wpQuiet_nil fun w4 B4=>?_
  go_wp2_with fail
  go_ret
  exact ⟨zAB He.out.symm,HS.out _ (bot Q3.out B4)⟩
 have HR4:Hid (R=(pk&&decide (nm=ls))):=by
  unfold Hid;rw[HR3.out,decide_eq_true hab,decide_eq_true habk];simp
 clear HR3
 cases pk
 ·have He:Hid (R=false):=by unfold Hid;rw[HR4.out];rfl
  go_wp2_with fail
  refine wQ ?_
  repeat (go_big_quiet_step (first|fail))
  refine wpQuiet_nil fun w4 B4=>?_
  go_wp2_with fail
  go_ret
  exact ⟨zAB He.out.symm,HS.out _ (bot Q3.out B4)⟩
 by_cases hnl:nm=ls
 ·have hnb:=zAT hnl
  have He:Hid (R=true):=by unfold Hid;rw[HR4.out,decide_eq_true hnl];rfl
  clear hnl
  go_wp2_with fail
  refine wQ ?_
  repeat (go_big_quiet_step (first|fail))
  refine wpQuiet_nil fun w4 B4=>?_
  go_wp2_with fail
  go_ret
  exact ⟨zAB He.out.symm,HS.out _ (bot Q3.out B4)⟩
 ·have hnb:=zAL hnl
  have He:Hid (R=false):=by unfold Hid;rw[HR4.out,decide_eq_false hnl];rfl
  clear hnl
  go_wp2_with fail
  refine wQ ?_
  repeat (go_big_quiet_step (first|fail))
  refine wpQuiet_nil fun w4 B4=>?_
  go_wp2_with fail
  go_ret
  exact ⟨zAB He.out.symm,HS.out _ (bot Q3.out B4)⟩
