/- The document's order of texts, byte by byte, walked. -/
import Derived.Test.YtminjjdnmpaaoaaGreatDoorRows
import Derived.Test.YtminjjdnmpaaoaaGreatDoorSv02
import Derived.WalkKit
import Derived.WalkSpells
import Derived.WalkLawsBesides
import Derived.IntWalk
import Derived.Lib.Hide
import Derived.Test.YtminjjdnmpaaoaaGreatDoorSv05
import Derived.Test.YtminjjdnmpaaoaaGreatDoorSv04
import Derived.Test.YtminjjdnmpaaoaaGreatDoorSv03
import Derived.Maps.Own
import Derived.Maps.OwnOps
import Derived.Maps.Views
import Derived.StringKeys
import Derived.Test.YtminjjdnmpaaoaaGreatDoorSv01
import Derived.Lib.Builder
import Derived.Lib.AppendStr
import Derived.Lib.Strings
import Derived.Lib.UnsafeStr
import Derived.Shelf.Strings.BuilderX
import Derived.Laws.Externs
import Derived.Test.YtminjjdnmpaaoaaGreatDoorAl
set_option linter.all false
set_option maxHeartbeats 2000000
set_option maxRecDepth 100000
namespace Go.Proofs.YtminjjdnmpaaoaaGreatDoor
open Go.RowKit Go.Sort
def lessB (a b:ByteArray):Bool:=Op.bytesLess a.toList b.toList
theorem zIX (s:ByteArray) {k:Nat} (h:k<s.size):s.toList.drop k=s[k]::s.toList.drop (k+1):=by
 rw[Go.ByteArray.toList_eq]
 have h':k<s.data.toList.length:=by rw[Array.length_toList];exact h
 rw[dC h']
 rfl
theorem zGR (s:ByteArray) {k:Nat} (h:s.size≤k):s.toList.drop k=[]:=by
 rw[Go.ByteArray.toList_eq]
 exact dN (by rw[Array.length_toList];exact h)
theorem zMk (x y:UInt8) (a b:List UInt8):Op.bytesLess (x::a) (y::b)=(decide (x<y)||(x==y&&Op.bytesLess a b)):=rfl
theorem zIw (a b:ByteArray) (ha:a.size≤maxLen) (hb:b.size≤maxLen) (w:World) :
  Calls Tryz.prog 140 #[.string a,.string b] w fun e w'=>e=.returned (.bool (lessB a b))∧Below w.heap.size w w':=by
 unfold maxLen at ha hb
 have Hs:Hid (lessB a b=Op.bytesLess a.toList b.toList):=rfl
 generalize lessB a b=r at *
 go_enter Tryz.func140,Tryz.ntmps140
 go_wp2_with fail
 go_loopw [5] (fun i wr=>∃ k:Nat,k≤a.size∧k≤b.size∧i=.int .i64 k∧Hid (r=Op.bytesLess (a.toList.drop k) (b.toList.drop k))∧Below w.heap.size w wr) (fun i _=>a.size - (intOf i).toNat)
 case atStart=>exact ⟨0,nZ _,nZ _,rfl,by rw[List.drop_zero,List.drop_zero];exact Hs,bR _ _⟩
 case round=>
  obtain ⟨k,hka,hkb,rfl,hr,hbel⟩:=hrel
  have hk0:(0:Int)≤(k:Int):=by omega
  by_cases h1:k<a.size
  ·by_cases h2:k<b.size
   ·have hia:(k:Int)<(a.size:Int):=by omega
    have hib:(k:Int)<(b.size:Int):=by omega
    have Hst:Hid (r=(decide (a[k]<b[k])||(a[k]==b[k]&&Op.bytesLess (a.toList.drop (k+1)) (b.toList.drop (k+1))))):=by
     unfold Hid;rw[hr.out,zIX a h1,zIX b h2,zMk]
    by_cases he:a[k]=b[k]
    ·have hne:(((a[k]).toNat:Int) != ((b[k]).toNat:Int))=false:=by rw[he];simp
     have hn:Hid (r=Op.bytesLess (a.toList.drop (k+1)) (b.toList.drop (k+1))):=by
      unfold Hid;rw[Hst.out,he];simp
     clear he hr
     go_wp2_with fail
     refine wQ ?_
     repeat (go_big_quiet_step (first|fail))
     refine wpQuiet_nil fun w1 B1=>?_
     go_wp2_with fail
     go_roundw
     case rel=>exact ⟨k+1,by omega,by omega,by go_num,hn,bot hbel B1⟩
     case measure=>simp[intOf];omega
    ·have hne':(a[k]).toNat≠(b[k]).toNat:=fun h=>he (UInt8.toNat_inj.1 h)
     have hne:(((a[k]).toNat:Int) != ((b[k]).toNat:Int))=true:=by simp;omega
     have hn:Hid (r=decide (((a[k]).toNat:Int)<((b[k]).toNat:Int))):=by
      unfold Hid;rw[Hst.out]
      have:(a[k]==b[k])=false:=by simpa using he
      rw[this,Bool.false_and,Bool.or_false]
      rw[Bool.eq_iff_iff];simp[UInt8.lt_iff_toNat_lt]
     clear he hne' hr Hst
     go_wp2_with fail
     refine wQ ?_
     repeat (go_big_quiet_step (first|fail))
     refine wpQuiet_nil fun w1 B1=>?_
     go_wp2_with fail
     refine wQ ?_
     repeat (go_big_quiet_step (first|fail))
     refine wpQuiet_nil fun w2 B2=>?_
     go_wp2_with fail
     go_ret
     exact ⟨zAB (by rw[hn.out];simp),bot hbel (bot B1 B2)⟩
   ·have hn:Hid (r=decide ((a.size:Int)<(b.size:Int))):=by
     unfold Hid;rw[hr.out,zGR b (by omega)]
     have:¬((a.size:Int)<(b.size:Int)):=by omega
     rw[decide_eq_false this]
     cases a.toList.drop k<;>rfl
    have hib:¬(k:Int)<(b.size:Int):=by omega
    have hia:(k:Int)<(a.size:Int):=by omega
    clear hr
    go_wp2_with fail
    go_ret
    exact ⟨zAB (by rw[hn.out];simp),hbel⟩
  ·have hn:Hid (r=decide ((a.size:Int)<(b.size:Int))):=by
    unfold Hid;rw[hr.out,zGR a (by omega)]
    by_cases h2:k<b.size
    ·rw[zIX b h2,decide_eq_true (show (a.size:Int)<(b.size:Int) by omega)];rfl
    ·rw[zGR b (by omega),decide_eq_false (show ¬(a.size:Int)<(b.size:Int) by omega)];rfl
   have hia:¬(k:Int)<(a.size:Int):=by omega
   clear hr
   go_wp2_with fail
   go_ret
   exact ⟨zAB (by rw[hn.out];simp),hbel⟩
end Go.Proofs.YtminjjdnmpaaoaaGreatDoor
namespace Go.Proofs.YtminjjdnmpaaoaaGreatDoor
open Go.Rows Go.RowKit Go.Shelf Go.Sort
def behind:Option ByteArray→ByteArray→Bool
 | none,_=>true
 | some a,b=>lessB a b
def zA8:Option ByteArray→List Dep→Bool
 | _,[]=>true
 | p,d::l=>(nameB d.name&&(zAu d.range&&(decide (d.range.length≠0)&&behind p d.name)))&&zA8 (some d.name) l
def listB (l:List Dep):Bool:=zA8 none l&&decide (l.length≤16)
def zAm (l:List Dep):Nat→Option ByteArray
 | 0=>none
 | q+1=>(l[q]?).map (·.name)
theorem zCl {l:List Dep} {q:Nat} (h:q<l.length):zAm l (q+1)=some l[q].name:=by simp[zAm,List.getElem?_eq_getElem h]
theorem zHT {l:List Dep} {k:Nat} (h:k<l.length):zA8 (zAm l k) (l.drop k) =
  ((nameB l[k].name&&(zAu l[k].range&&(decide (l[k].range.length≠0)&&behind (zAm l k) l[k].name)))&&zA8 (zAm l (k+1)) (l.drop (k+1))):=by
 rw[dC h,zCl h];rfl
theorem zGb (A:Option Addr) (n c:Nat) (l:List Dep) (w:World) (S:Nat→Prop) (hl:SlV rDep w S l (.slice A n c)) :
  Calls Tryz.prog 125 #[.slice A n c] w fun e w'=>e=.returned (.bool (listB l))∧Below w.heap.size w w':=by
 have hnx:=hl.n_eq
 have hcc:=hl.cap_le
 unfold maxLen at hcc
 have hn63:n≤9223372036854775807:=by omega
 have hl':=hl.more (S':=fun b=>b<w.heap.size) fun b _ hlt=>hlt
 have Hs:Hid (listB l=(zA8 none l&&decide (n≤16))):=by unfold Hid listB;rw[hnx]
 have Hnx:=cH hnx;clear hnx
 clear hl hcc
 generalize listB l=r at *
 go_enter Tryz.func125,Tryz.ntmps125
 go_wp2_with fail
 go_loopw [7] (fun i wr=>∃ (k:Nat),k≤n∧i=.int .i64 k∧Hid (zA8 none l=zA8 (zAm l k) (l.drop k))∧Below w.heap.size w wr) (fun i _=>n - (intOf i).toNat)
 case atStart=>exact ⟨0,nZ _,rfl,by simp[Hid,zAm],bR _ _⟩
 case round=>
  obtain ⟨k,hk,rfl,hgo,hbel⟩:=hrel
  have hbw:=hbel.size
  by_cases hlt:k<n
  ·have hkx:k<l.length:=by have:=Hnx.out;omega
   have hlw:=hl'.below hbel (fun b hb=>hb)
   have hlw2:=cH hlw
   obtain ⟨b,o,cs,rfl,hSb,hbl,⟨s0,rfl,hnm,hrg⟩,hcell⟩:=hlw.elem (gE hkx)
   obtain ⟨pA,pc,rfl,hpc1,hpc2⟩:=hrg.val
   have c0:=hcell 0 _ rfl
   have c1:=hcell 1 _ rfl
   simp only[rDep,Nat.add_zero] at c0 c1
   clear hcell hlw
   have Hgo:=cH (zHT hkx)
   have hk0:(0:Int)≤(k:Int):=by omega
   have hkn:(k:Int)<(n:Int):=by omega
   have Hc1:Hid (∀ o:Obj,∀ d os,Calls Tryz.prog 36 #[.string l[k].name] (grow (redrawn (wr.alloc o) d) os) fun e w''=>e=.returned (.bool (nameB l[k].name))∧∃ p:Regrown,w''=grow (redrawn (wr.alloc o) p.d) p.os):=fun o=>qcall (w:=wr.alloc o) (fun W hW=>zBg l[k].name hnm W)
   have Hc2:Hid (∀ o:Obj,∀ d os,Calls Tryz.prog 154 #[.slice pA l[k].range.length pc] (grow (redrawn (wr.alloc o) d) os) fun e w''=>e=.returned (.bool (zAu l[k].range))∧∃ p:Regrown,w''=grow (redrawn (wr.alloc o) p.d) p.os):=fun o=>qcall (w:=wr.alloc o) (fun W hW=>zE8 _ _ _ l[k].range W _ ((hrg.alloc o).belowSize hW))
   generalize hnam:l[k].name=nm at *
   generalize hrl:l[k].range.length=rl at *
   generalize hsp:zAu l[k].range=v2 at *
   generalize hv1:nameB nm=v1 at *
   have Hgo':Hid (zA8 (zAm l k) (l.drop k)=((v1&&(v2&&(decide (rl≠0)&&behind (zAm l k) nm)))&&zA8 (zAm l (k+1)) (l.drop (k+1)))):=by
    have:=Hgo.out;try simp only[hnam,hrl,hsp,hv1] at this
    exact this
   clear Hgo hrl hsp hv1 hrg
   have Hnam:=cH hnam;clear hnam
   have Hend:Hid ((v1&&(v2&&(decide (rl≠0)&&behind (zAm l k) nm)))=false→r=false):=fun h=>by rw[Hs.out,hgo.out,Hgo'.out,h];rfl
   have Hon:Hid ((v1&&(v2&&(decide (rl≠0)&&behind (zAm l k) nm)))=true→zA8 none l=zA8 (zAm l (k+1)) (l.drop (k+1))):=fun h=>by rw[hgo.out,Hgo'.out,h,Bool.true_and]
   clear hgo Hgo'
   cases v1
   ·have He:=cH (Hend.out (rfl))
    clear Hend Hon
    go_wp2_with fail
    have a0:(wr.alloc (.cells #[.string nm,.slice pA rl pc] 68)).cell? ⟨wr.heap.size,0,none⟩=some (.string nm):=by simp[go_sem]
    have a1:(wr.alloc (.cells #[.string nm,.slice pA rl pc] 68)).cell? ⟨wr.heap.size,1,none⟩=some (.slice pA rl pc):=by simp[go_sem]
    have r_a0:=cR a0
    have r_a1:=cR a1
    refine wQ ?_
    repeat (go_big_quiet_step (first|(with_reducible exact Hc1.out _ _ _)|(with_reducible exact Hc2.out _ _ _)))
    refine wpQuiet_nil fun w1 B1=>?_
    go_wp2_with fail
    go_ret
    exact ⟨zAB He.out.symm,bot (bal hbel _) B1⟩
   ·cases v2
    ·have He:=cH (Hend.out (rfl))
     clear Hend Hon
     go_wp2_with fail
     have a0:(wr.alloc (.cells #[.string nm,.slice pA rl pc] 68)).cell? ⟨wr.heap.size,0,none⟩=some (.string nm):=by simp[go_sem]
     have a1:(wr.alloc (.cells #[.string nm,.slice pA rl pc] 68)).cell? ⟨wr.heap.size,1,none⟩=some (.slice pA rl pc):=by simp[go_sem]
     have r_a0:=cR a0
     have r_a1:=cR a1
     refine wQ ?_
     repeat (go_big_quiet_step (first|(with_reducible exact Hc1.out _ _ _)|(with_reducible exact Hc2.out _ _ _)))
     refine wpQuiet_nil fun w1 B1=>?_
     go_wp2_with fail
     go_ret
     exact ⟨zAB He.out.symm,bot (bal hbel _) B1⟩
    ·by_cases hz:rl=0
     ·have hzb:((rl:Int)==0)=true:=by simp[hz]
      have Hz0:=cH hz;clear hz
      have He:=cH (Hend.out (by simp[Hz0.out]))
      clear Hend Hon
      go_wp2_with fail
      have a0:(wr.alloc (.cells #[.string nm,.slice pA rl pc] 68)).cell? ⟨wr.heap.size,0,none⟩=some (.string nm):=by simp[go_sem]
      have a1:(wr.alloc (.cells #[.string nm,.slice pA rl pc] 68)).cell? ⟨wr.heap.size,1,none⟩=some (.slice pA rl pc):=by simp[go_sem]
      have r_a0:=cR a0
      have r_a1:=cR a1
      refine wQ ?_
      repeat (go_big_quiet_step (first|(with_reducible exact Hc1.out _ _ _)|(with_reducible exact Hc2.out _ _ _)))
      refine wpQuiet_nil fun w1 B1=>?_
      go_wp2_with fail
      go_ret
      exact ⟨zAB He.out.symm,bot (bal hbel _) B1⟩
     ·have hzb:((rl:Int)==0)=false:=by simp[hz]
      have hzd:decide (rl≠0)=true:=by simp[hz]
      have Hz:=cH hzd;clear hz hzd
      by_cases hk00:k=0
      ·have hkz:decide (0<k)=false:=by simp[hk00]
       have He:=cH (Hon.out (by rw[Hz.out,hk00];rfl))
       clear hk00
       clear Hend Hon
       go_wp2_with fail
       have a0:(wr.alloc (.cells #[.string nm,.slice pA rl pc] 68)).cell? ⟨wr.heap.size,0,none⟩=some (.string nm):=by simp[go_sem]
       have a1:(wr.alloc (.cells #[.string nm,.slice pA rl pc] 68)).cell? ⟨wr.heap.size,1,none⟩=some (.slice pA rl pc):=by simp[go_sem]
       have r_a0:=cR a0
       have r_a1:=cR a1
       refine wQ ?_
       repeat (go_big_quiet_step (first|(with_reducible exact Hc1.out _ _ _)|(with_reducible exact Hc2.out _ _ _)))
       refine wpQuiet_nil fun w1 B1=>?_
       go_wp2_with fail
       go_roundw
       case rel=>exact ⟨k+1,by omega,by go_num,He,bot (bal hbel _) B1⟩
       case measure=>simp[intOf];omega
      ·obtain ⟨q,rfl⟩:∃ q,k=q+1:=⟨k - 1,by omega⟩
       clear hk00
       have hqx:q<l.length:=by omega
       obtain ⟨b',o',cs',hA',_,hbl',⟨s1,rfl,hnm',hrg'⟩,hcell'⟩:=hlw2.out.elem (gE hqx)
       injection hA' with hA'
       injection hA' with hb' ho' _
       subst hb' ho'
       have e0:=hcell' 0 _ rfl
       simp only[rDep,Nat.add_zero] at e0
       have Hpq:=cH (zCl hqx)
       clear hcell' hlw2 hrg'
       generalize l[q].name=pn at *
       have hw1:IntKind.i64.wrap ((q:Int)+1 - 1)=(q:Int):=(IntWalk.i64_in _ ⟨by omega,by omega⟩).trans (by omega)
       have hw2:IntKind.i64.wrap (q:Int)=(q:Int):=IntWalk.i64_in _ ⟨by omega,by omega⟩
       have hq0:(0:Int)≤(q:Int):=by omega
       have hqn:(q:Int)<(n:Int):=by omega
       have hq1:(0:Int)<(q:Int)+1:=by omega
       have hq2:(q:Int)+1<(n:Int):=by omega
       have hq3:(0:Int)≤(q:Int)+1:=by omega
       have a2:(wr.alloc (.cells #[.string nm,.slice pA rl pc] 68)).cell? ⟨b,o+q * 2,none⟩=some (.string pn):=(zAW (Below.heap_alloc wr _ b hbl) _ _).trans e0
       have r_a2:=cR a2
       clear e0
       cases hls:Op.bytesLess pn.toList nm.toList
       ·have He:=cH (Hend.out (by rw[Hz.out,Hpq.out];simp only[behind,lessB];rw[hls];rfl))
        clear Hend Hon
        go_wp2_with fail
        have a0:(wr.alloc (.cells #[.string nm,.slice pA rl pc] 68)).cell? ⟨wr.heap.size,0,none⟩=some (.string nm):=by simp[go_sem]
        have a1:(wr.alloc (.cells #[.string nm,.slice pA rl pc] 68)).cell? ⟨wr.heap.size,1,none⟩=some (.slice pA rl pc):=by simp[go_sem]
        have r_a0:=cR a0
        have r_a1:=cR a1
        refine wQ ?_
        repeat (go_big_quiet_step (first|(with_reducible exact Hc1.out _ _ _)|(with_reducible exact Hc2.out _ _ _)))
        refine wpQuiet_nil fun w1 B1=>?_
        go_wp2_with fail
        go_ret
        exact ⟨zAB He.out.symm,bot (bal hbel _) B1⟩
       ·have He:=cH (Hon.out (by rw[Hz.out,Hpq.out];simp only[behind,lessB];rw[hls];rfl))
        clear Hend Hon
        go_wp2_with fail
        have a0:(wr.alloc (.cells #[.string nm,.slice pA rl pc] 68)).cell? ⟨wr.heap.size,0,none⟩=some (.string nm):=by simp[go_sem]
        have a1:(wr.alloc (.cells #[.string nm,.slice pA rl pc] 68)).cell? ⟨wr.heap.size,1,none⟩=some (.slice pA rl pc):=by simp[go_sem]
        have r_a0:=cR a0
        have r_a1:=cR a1
        refine wQ ?_
        repeat (go_big_quiet_step (first|(with_reducible exact Hc1.out _ _ _)|(with_reducible exact Hc2.out _ _ _)))
        refine wpQuiet_nil fun w1 B1=>?_
        go_wp2_with fail
        go_roundw
        case rel=>exact ⟨q+1+1,by omega,by go_num,He,bot (bal hbel _) B1⟩
        case measure=>simp[intOf];omega
  ·have He:Hid (r=decide ((n:Int)≤16)):=by
    unfold Hid
    rw[Hs.out,hgo.out,dN (by have:=Hnx.out;omega)]
    rw[show zA8 (zAm l k) []=true from rfl,Bool.true_and]
    rw[Bool.eq_iff_iff];simp;omega
   clear hgo
   have hkn:¬(k:Int)<(n:Int):=by omega
   go_wp2_with fail
   go_ret
   exact ⟨zAB He.out.symm,hbel⟩
theorem zBa (A:Option Addr) (n c:Nat) (l:List Dep) (w:World) (S:Nat→Prop) (hl:SlV rDep w S l (.slice A n c)) :
  Calls Tryz.prog 105 #[.slice A n c] w fun e w'=>e=.returned (.bool (listB l))∧Below w.heap.size w w':=by
 have hnx:=hl.n_eq
 have hcc:=hl.cap_le
 unfold maxLen at hcc
 have hn63:n≤9223372036854775807:=by omega
 have hl':=hl.more (S':=fun b=>b<w.heap.size) fun b _ hlt=>hlt
 have Hs:Hid (listB l=(zA8 none l&&decide (n≤16))):=by unfold Hid listB;rw[hnx]
 have Hnx:=cH hnx;clear hnx
 clear hl hcc
 generalize listB l=r at *
 go_enter Tryz.func105,Tryz.ntmps105
 go_wp2_with fail
 go_loopw [3] (fun i wr=>∃ (k:Nat),k≤n∧i=.int .i64 k∧Hid (zA8 none l=zA8 (zAm l k) (l.drop k))∧Below w.heap.size w wr) (fun i _=>n - (intOf i).toNat)
 case atStart=>exact ⟨0,nZ _,rfl,by simp[Hid,zAm],bR _ _⟩
 case round=>
  obtain ⟨k,hk,rfl,hgo,hbel⟩:=hrel
  have hbw:=hbel.size
  by_cases hlt:k<n
  ·have hkx:k<l.length:=by have:=Hnx.out;omega
   have hlw:=hl'.below hbel (fun b hb=>hb)
   have hlw2:=cH hlw
   obtain ⟨b,o,cs,rfl,hSb,hbl,⟨s0,rfl,hnm,hrg⟩,hcell⟩:=hlw.elem (gE hkx)
   obtain ⟨pA,pc,rfl,hpc1,hpc2⟩:=hrg.val
   have c0:=hcell 0 _ rfl
   have c1:=hcell 1 _ rfl
   simp only[rDep,Nat.add_zero] at c0 c1
   clear hcell hlw
   have Hgo:=cH (zHT hkx)
   have hk0:(0:Int)≤(k:Int):=by omega
   have hkn:(k:Int)<(n:Int):=by omega
   have Hc1:Hid (∀ d os,Calls Tryz.prog 97 #[.string l[k].name] (grow (redrawn wr d) os) fun e w''=>e=.returned (.bool (nameB l[k].name))∧∃ p:Regrown,w''=grow (redrawn wr p.d) p.os):=qcall (w:=wr) (fun W hW=>(zBr l[k].name hnm W).mono fun e w' ⟨he,hw⟩=>⟨he,hw▸bR _ _⟩)
   have Hc2:Hid (∀ d os,Calls Tryz.prog 139 #[.slice pA l[k].range.length pc] (grow (redrawn wr d) os) fun e w''=>e=.returned (.bool (zAu l[k].range))∧∃ p:Regrown,w''=grow (redrawn wr p.d) p.os):=qcall (w:=wr) (fun W hW=>zCX _ _ _ l[k].range W _ (hrg.belowSize hW))
   generalize hnam:l[k].name=nm at *
   generalize hrl:l[k].range.length=rl at *
   generalize hsp:zAu l[k].range=v2 at *
   generalize hv1:nameB nm=v1 at *
   have Hgo':Hid (zA8 (zAm l k) (l.drop k)=((v1&&(v2&&(decide (rl≠0)&&behind (zAm l k) nm)))&&zA8 (zAm l (k+1)) (l.drop (k+1)))):=by
    have:=Hgo.out;try simp only[hnam,hrl,hsp,hv1] at this
    exact this
   clear Hgo hrl hsp hv1 hrg
   have Hnam:=cH hnam;clear hnam
   have Hend:Hid ((v1&&(v2&&(decide (rl≠0)&&behind (zAm l k) nm)))=false→r=false):=fun h=>by rw[Hs.out,hgo.out,Hgo'.out,h];rfl
   have Hon:Hid ((v1&&(v2&&(decide (rl≠0)&&behind (zAm l k) nm)))=true→zA8 none l=zA8 (zAm l (k+1)) (l.drop (k+1))):=fun h=>by rw[hgo.out,Hgo'.out,h,Bool.true_and]
   clear hgo Hgo'
   have r_c0:=cR c0
   have r_c1:=cR c1
   cases v1
   ·have He:=cH (Hend.out (rfl))
    clear Hend Hon
    have Hc3:Hid (∀ d os,Calls Tryz.prog 97 #[.string nm] (grow (redrawn wr d) os) fun e w''=>e=.returned (.bool false)∧∃ p:Regrown,w''=grow (redrawn wr p.d) p.os):=Hc1
    go_wp2_with fail
    refine wQ ?_
    repeat (go_big_quiet_step (first|(with_reducible exact Hc1.out _ _)|(with_reducible exact Hc2.out _ _)|(with_reducible exact Hc3.out _ _)))
    refine wpQuiet_nil fun w1 B1=>?_
    go_wp2_with fail
    go_ret
    exact ⟨zAB He.out.symm,bot (hbel) B1⟩
   ·cases v2
    ·have He:=cH (Hend.out (rfl))
     clear Hend Hon
     have Hc3:Hid (∀ d os,Calls Tryz.prog 97 #[.string nm] (grow (redrawn wr d) os) fun e w''=>e=.returned (.bool true)∧∃ p:Regrown,w''=grow (redrawn wr p.d) p.os):=Hc1
     go_wp2_with fail
     refine wQ ?_
     repeat (go_big_quiet_step (first|(with_reducible exact Hc1.out _ _)|(with_reducible exact Hc2.out _ _)|(with_reducible exact Hc3.out _ _)))
     refine wpQuiet_nil fun w1 B1=>?_
     go_wp2_with fail
     go_ret
     exact ⟨zAB He.out.symm,bot (hbel) B1⟩
    ·by_cases hz:rl=0
     ·have hzb:((rl:Int)==0)=true:=by simp[hz]
      have Hz0:=cH hz;clear hz
      have He:=cH (Hend.out (by simp[Hz0.out]))
      clear Hend Hon
      have Hc3:Hid (∀ d os,Calls Tryz.prog 97 #[.string nm] (grow (redrawn wr d) os) fun e w''=>e=.returned (.bool true)∧∃ p:Regrown,w''=grow (redrawn wr p.d) p.os):=Hc1
      go_wp2_with fail
      refine wQ ?_
      repeat (go_big_quiet_step (first|(with_reducible exact Hc1.out _ _)|(with_reducible exact Hc2.out _ _)|(with_reducible exact Hc3.out _ _)))
      refine wpQuiet_nil fun w1 B1=>?_
      go_wp2_with fail
      go_ret
      exact ⟨zAB He.out.symm,bot (hbel) B1⟩
     ·have hzb:((rl:Int)==0)=false:=by simp[hz]
      have hzd:decide (rl≠0)=true:=by simp[hz]
      have Hz:=cH hzd;clear hz hzd
      by_cases hk00:k=0
      ·have hkz:decide (0<k)=false:=by simp[hk00]
       have He:=cH (Hon.out (by rw[Hz.out,hk00];rfl))
       clear hk00
       clear Hend Hon
       have Hc3:Hid (∀ d os,Calls Tryz.prog 97 #[.string nm] (grow (redrawn wr d) os) fun e w''=>e=.returned (.bool true)∧∃ p:Regrown,w''=grow (redrawn wr p.d) p.os):=Hc1
       go_wp2_with fail
       refine wQ ?_
       repeat (go_big_quiet_step (first|(with_reducible exact Hc1.out _ _)|(with_reducible exact Hc2.out _ _)|(with_reducible exact Hc3.out _ _)))
       refine wpQuiet_nil fun w1 B1=>?_
       go_wp2_with fail
       go_roundw
       case rel=>exact ⟨k+1,by omega,by go_num,He,bot (hbel) B1⟩
       case measure=>simp[intOf];omega
      ·obtain ⟨q,rfl⟩:∃ q,k=q+1:=⟨k - 1,by omega⟩
       clear hk00
       have hqx:q<l.length:=by omega
       obtain ⟨b',o',cs',hA',_,hbl',⟨s1,rfl,hnm',hrg'⟩,hcell'⟩:=hlw2.out.elem (gE hqx)
       injection hA' with hA'
       injection hA' with hb' ho' _
       subst hb' ho'
       have e0:=hcell' 0 _ rfl
       simp only[rDep,Nat.add_zero] at e0
       have Hpq:=cH (zCl hqx)
       clear hcell' hlw2 hrg'
       generalize l[q].name=pn at *
       have hw1:IntKind.i64.wrap ((q:Int)+1 - 1)=(q:Int):=(IntWalk.i64_in _ ⟨by omega,by omega⟩).trans (by omega)
       have hw2:IntKind.i64.wrap (q:Int)=(q:Int):=IntWalk.i64_in _ ⟨by omega,by omega⟩
       have hq0:(0:Int)≤(q:Int):=by omega
       have hqn:(q:Int)<(n:Int):=by omega
       have hq1:(0:Int)<(q:Int)+1:=by omega
       have hq2:(q:Int)+1<(n:Int):=by omega
       have hq3:(0:Int)≤(q:Int)+1:=by omega
       have Hc3:=cH (qcall (w:=wr) (fun W hW=>zIw pn nm hnm' hnm W))
       have r_e0:=cR e0
       cases hls:lessB pn nm
       ·have He:=cH (Hend.out (by rw[Hz.out,Hpq.out];simp only[behind];rw[hls];rfl))
        clear Hend Hon
        rw[hls] at Hc3
        have Hls:=cH hls;clear hls
        go_wp2_with fail
        refine wQ ?_
        repeat (go_big_quiet_step (first|(with_reducible exact Hc1.out _ _)|(with_reducible exact Hc2.out _ _)|(with_reducible exact Hc3.out _ _)))
        refine wpQuiet_nil fun w1 B1=>?_
        go_wp2_with fail
        go_ret
        exact ⟨zAB He.out.symm,bot (hbel) B1⟩
       ·have He:=cH (Hon.out (by rw[Hz.out,Hpq.out];simp only[behind];rw[hls];rfl))
        clear Hend Hon
        rw[hls] at Hc3
        have Hls:=cH hls;clear hls
        go_wp2_with fail
        refine wQ ?_
        repeat (go_big_quiet_step (first|(with_reducible exact Hc1.out _ _)|(with_reducible exact Hc2.out _ _)|(with_reducible exact Hc3.out _ _)))
        refine wpQuiet_nil fun w1 B1=>?_
        go_wp2_with fail
        go_roundw
        case rel=>exact ⟨q+1+1,by omega,by go_num,He,bot (hbel) B1⟩
        case measure=>simp[intOf];omega
  ·have He:Hid (r=decide ((n:Int)≤16)):=by
    unfold Hid
    rw[Hs.out,hgo.out,dN (by have:=Hnx.out;omega)]
    rw[show zA8 (zAm l k) []=true from rfl,Bool.true_and]
    rw[Bool.eq_iff_iff];simp;omega
   clear hgo
   have hkn:¬(k:Int)<(n:Int):=by omega
   go_wp2_with fail
   go_ret
   exact ⟨zAB He.out.symm,hbel⟩
end Go.Proofs.YtminjjdnmpaaoaaGreatDoor
namespace Go.Proofs.YtminjjdnmpaaoaaGreatDoor
open Go.RowKit Go.Sort Go.Maps
noncomputable def zBM (l:List ByteArray):Bool:=@decide l.Nodup (Classical.propDecidable _)
theorem zDc {l:List ByteArray} (h:l.Nodup):zBM l=true:=by unfold zBM;exact @decide_eq_true _ (Classical.propDecidable _) h
theorem zCK {l:List ByteArray} (h:¬l.Nodup):zBM l=false:=by unfold zBM;exact @decide_eq_false _ (Classical.propDecidable _) h
noncomputable def cnt (x:ByteArray) (l:List ByteArray):Int:=@ite Int (x∈l) (Classical.propDecidable _) 1 0
theorem zHP {x:ByteArray} {l:List ByteArray} (h:x∈l):cnt x l=1:=by unfold cnt;exact @if_pos _ (Classical.propDecidable _) h _ _ _
theorem zD3 {x:ByteArray} {l:List ByteArray} (h:x∉l):cnt x l=0:=by unfold cnt;exact @if_neg _ (Classical.propDecidable _) h _ _ _
theorem zFu (x:ByteArray) (l:List ByteArray):0≤cnt x l∧cnt x l≤1:=by
 by_cases h:x∈l
 ·rw[zHP h];omega
 ·rw[zD3 h];omega
theorem zH3:Keyed Tryz.prog 9:=string_keyed Tryz.underlying9
theorem zI4 (w:World):(zeroValue 3).run Tryz.prog w=.ok (.int .i64 0) w:=by kernel_rfl
def MapC (w:World) (B:Nat) (l:List ByteArray):Prop:=
 ∃ (n:Nat) (D:DataW Unit),w.ownsMap Tryz.prog 9 (plainElem Tryz.prog 3) B n D∧n≤l.length∧IsMap D∧∀ s:ByteArray,D.atKey (.string s.data.toList) (.lit (.int .i64 0))=.lit (.int .i64 (cnt s l))
theorem MapC.made (w:World):MapC (w.alloc (.map #[] 0)) w.heap.size []:=
 ⟨0,.map [],World.ownsMap_made _ _ _ _,nR _,isMap_empty,fun s=>by rw[zD3 (by simp)];rfl⟩
theorem MapC.kept {w w':World} {B:Nat} {l:List ByteArray} {row:Option Nat} (h:MapC w B l) (hg:w.grownBy w' row) (hne:some B≠row):MapC w' B l:=by
 obtain ⟨n,D,h1,h2⟩:=h
 exact ⟨n,D,h1.kept hg hne,h2⟩
theorem MapC.keep {w w':World} {B:Nat} {l:List ByteArray} (h:MapC w B l) (hb:Below w.heap.size w w'):MapC w' B l:=
 h.kept (row:=none) ⟨hb.os,hb.tape,hb.output,hb.size,fun k hk _=>hb.block k hk⟩ (by simp)
theorem MapC.lt {w:World} {B:Nat} {l:List ByteArray} (h:MapC w B l):B<w.heap.size:=by
 obtain ⟨n,D,h1,_⟩:=h
 exact h1.lt
theorem zLT {a b:ByteArray} (h:a.data.toList=b.data.toList):a=b:=by
 apply ByteArray.ext
 exact Array.toList_inj.1 h
theorem zKF {W:World} {B:Nat} {l:List ByteArray} {x:ByteArray} (h:MapC W B l) (hx:x.size≤maxLen) (hl:l.length≤1000000000) :
  ∃ w',(Instr.lookup 219 (.map (some B)) (.string x) false).run Tryz.prog W=.ok (.int .i64 (cnt x l)) W ∧
    (Instr.mapUpdate 219 (.map (some B)) (.string x) (.int .i64 (cnt x l+1))).run Tryz.prog W=.ok () w'∧W.grownBy w' (some B) ∧
    (Instr.lookup 219 (.map (some B)) (.string x) false).run Tryz.prog w'=.ok (.int .i64 (cnt x l+1)) w'∧(x∉l→MapC w' B (l++[x])):=by
 obtain ⟨n,D,h1,h2,h3,h4⟩:=h
 have hkey:=Go.WideMaps.keyOf_string_mk (P:=Tryz.prog) Tryz.underlying9 hx
 obtain ⟨c,r1,r2,r3⟩:=h1.lookup_int zH3 Tryz.underlying219 Tryz.underlying3 (zI4 W) hkey
 have hc:c=cnt x l:=by rw[h4 x] at r2;simpa using r2.symm
 subst hc
 have hb:=zFu x l
 have hwf:(Lit.int .i64 (cnt x l+1)).wf=true:=WalkArith.wf_i64 (by omega)
 obtain ⟨w',r4,r5,r6⟩:=h1.update zH3 Tryz.underlying219 (by unfold maxLen;omega) hkey (plainElem_int (H:=Unit) Tryz.underlying3 hwf)
 obtain ⟨c',r7,r8,r9⟩:=r5.lookup_int zH3 Tryz.underlying219 Tryz.underlying3 (zI4 w') hkey
 rw[atKey_put_same h3 (by trivial)] at r8
 have hc':c'=cnt x l+1:=by simpa using r8.symm
 subst hc'
 refine ⟨w',r1,r4,r6,r7,fun hnot=>⟨n+1,_,r5,by simp;omega,h3.put _ _,fun s=>?_⟩⟩
 by_cases e:s=x
 ·subst e
  rw[atKey_put_same h3 (by trivial),zD3 hnot,zHP (by simp)]
  rfl
 ·rw[atKey_put_other (fun he=>e (zLT (by simpa using he))),h4 s]
  by_cases hs:s∈l
  ·rw[zHP hs,zHP (by simp[hs])]
  ·rw[zD3 hs,zD3 (by simp[hs,e])]
def zAI (l:List Dep):List ByteArray:=l.map (·.name)
def zAO (ls:List (List Dep)):List ByteArray:=(ls.map zAI).flatten
theorem zGD {ls:List (List Dep)} {k:Nat} (h:k<ls.length):zAO (ls.take (k+1))=zAO (ls.take k)++zAI ls[k]:=by
 unfold zAO
 rw[List.take_succ_eq_append_getElem h,List.map_append,List.flatten_append]
 simp only[List.map_cons,List.map_nil,List.flatten_cons,List.flatten_nil,List.append_nil]
theorem zC3 {l:List Dep} {k:Nat} (h:k<l.length):zAI (l.take (k+1))=zAI (l.take k)++[l[k].name]:=by
 unfold zAI
 rw[List.take_succ_eq_append_getElem h,List.map_append]
 rfl
theorem zFY {ls:List (List Dep)} {k q:Nat} (h:k<ls.length) (hq:q<ls[k].length):∃ r,zAO ls=zAO (ls.take k)++(zAI (ls[k].take (q+1))++r):=by
 refine ⟨zAI (ls[k].drop (q+1))++zAO (ls.drop (k+1)),?_⟩
 have e1:ls=ls.take k++(ls[k]::ls.drop (k+1)):=by rw[←dC h,List.take_append_drop]
 have e2:zAI ls[k]=zAI (ls[k].take (q+1))++zAI (ls[k].drop (q+1)):=by
  unfold zAI;rw[←List.map_append,List.take_append_drop]
 conv=>lhs;rw[e1]
 simp only[zAO,List.map_append,List.map_cons,List.flatten_append,List.flatten_cons]
 rw[e2];simp[List.append_assoc]
theorem zGo {l d:List ByteArray} {x:ByteArray} {r:List ByteArray} (h:l=d++([x]++r)) (hx:x∈d):¬l.Nodup:=by
 intro hn
 rw[h] at hn
 have:=(List.nodup_append.1 hn).2.2 x hx x (by simp)
 exact this rfl
theorem zJ4 (A:Option Addr) (n c:Nat) (ls:List (List Dep)) (w:World) (S:Nat→Prop) (hmax:(zAO ls).length≤1000000000) (hl:SlV (zAn rDep) w S ls (.slice A n c)) :
  Calls Tryz.prog 126 #[.slice A n c] w fun e w'=>e=.returned (.bool (zBM (zAO ls)))∧Below w.heap.size w w':=by
 have hnx:=hl.n_eq
 have hcc:=hl.cap_le
 unfold maxLen at hcc
 have hn63:n≤9223372036854775807:=by omega
 have hl':=hl.more (S':=fun b=>b<w.heap.size) fun b _ hlt=>hlt
 have Hpos:Hid ((zAO ls).Nodup→zBM (zAO ls)=true):=zDc
 have Hneg:Hid (¬(zAO ls).Nodup→zBM (zAO ls)=false):=zCK
 have Hnx:=cH hnx;clear hnx
 have Hmax:=cH hmax;clear hmax
 clear hl hcc
 generalize zBM (zAO ls)=r at *
 have hmm:=@run_makeMap Tryz.prog
 go_enter Tryz.func126,Tryz.ntmps126
 go_wp2_with fail
 clear hmm
 go_loopw [11] (fun i wr=>∃ (k:Nat),k≤n∧i=.int .i64 k∧Hid (MapC wr w.heap.size (zAO (ls.take k)))∧Hid ((zAO (ls.take k)).Nodup)∧Below w.heap.size w wr) (fun i _=>n - (intOf i).toNat)
 case atStart=>exact ⟨0,nZ _,rfl,MapC.made _,by simp[Hid,zAO],bal (bR _ _) _⟩
 case round=>
  obtain ⟨k,hk,rfl,hM,hnd,hbel⟩:=hrel
  by_cases hlt:k<n
  ·have hkx:k<ls.length:=by have:=Hnx.out;omega
   have hlw:=hl'.below hbel (fun b hb=>hb)
   obtain ⟨b,o,cs,rfl,hSb,hbl,hsp,hcell⟩:=hlw.elem (gE hkx)
   have hsp':=hsp
   obtain ⟨pA,pc,rfl,hpc1,hpc2,_⟩:=hsp
   have c0:=hcell 0 _ rfl
   simp only[zAn,Nat.add_zero,Nat.mul_one] at c0
   clear hcell hlw
   have Hs:Hid (SlV rDep wr (fun b=>b<w.heap.size) ls[k] (.slice pA ls[k].length pc)):=hsp'
   have Hsplit:=cH (fun q hq=>zFY (q:=q) hkx hq)
   have Htk:=cH (zGD hkx)
   have hkn:(k:Int)<(n:Int):=by omega
   have hm63:ls[k].length≤9223372036854775807:=by unfold maxLen at hpc2;omega
   clear hsp' hpc1 hpc2
   generalize hd:zAO (ls.take k)=done at *
   have Hd:=cH hd;clear hd
   generalize hll:ls[k]=l at *
   have Hll:=cH hll;clear hll
   have hm0:∃ m,m=l.length:=⟨_,rfl⟩
   obtain ⟨m,hm0⟩:=hm0
   rw[←hm0] at c0 hm63
   have Hm:=cH hm0;clear hm0
   have Hsw:Hid (∀ W,Below w.heap.size w W→SlV rDep W (fun b=>b<w.heap.size) l (.slice pA m pc)):=by
    intro W hW
    rw[Hm.out]
    exact Hs.out.keep (fun b hb _=>(hW.block b hb).trans (hbel.block b hb).symm)
   obtain ⟨wo,rfl⟩:∃ wo:World,wo=wr:=⟨_,rfl⟩
   go_wp2_with fail
   go_loopw [17] (fun j wq=>∃ q:Nat,q≤m∧j=.int .i64 q∧Hid (MapC wq w.heap.size (done++zAI (l.take q)))∧Hid ((done++zAI (l.take q)).Nodup)∧Below w.heap.size w wq) (fun j _=>m - (intOf j).toNat)
   case atStart=>exact ⟨0,nZ _,rfl,by simpa [zAI] using hM,by simpa [zAI] using hnd,hbel⟩
   case round=>
    obtain ⟨q,hq,rfl,hMq,hndq,hbelq⟩:=hrel
    have hbwq:=hbelq.size
    by_cases hlq:q<m
    ·have hqx:q<l.length:=by have:=Hm.out;omega
     obtain ⟨b',o',cs',hA',hSb',hbl',⟨s1,rfl,hnm',hrg'⟩,hcell'⟩:=(Hsw.out _ hbelq).elem (gE hqx)
     obtain ⟨rA,rc,rfl,_,_⟩:=hrg'.val
     subst hA'
     have e0:=hcell' 0 _ rfl
     have e1:=hcell' 1 _ rfl
     simp only[rDep,Nat.add_zero] at e0 e1
     have Htq:=cH (zC3 hqx)
     have Hspq:=cH (Hsplit.out q hqx)
     have hlt9:(done++zAI (l.take q)).length≤1000000000:=by
      obtain ⟨r0,hr0⟩:=Hspq.out
      have h1:=congrArg List.length hr0
      have h2:=Hmax.out
      rw[Htq.out] at h1
      simp only[List.length_append] at *
      omega
     clear hcell' hrg'
     generalize l[q].name=x at *
     generalize l[q].range.length=rl at *
     have hqm:(q:Int)<(m:Int):=by omega
     have hb9:b'≠wr.heap.size:=by omega
     obtain ⟨w2,s1,s2,s3,s4,s5⟩:=zKF ((hMq.out).keep ((bR _ _).alloc (nR _) (.cells #[.string x,.slice rA rl rc] 68))) hnm' hlt9
     have hM1:=hMq.out.lt
     have f0:w2.cell? ⟨wr.heap.size,0,none⟩=some (.string x):=by
      have h1:=s3.block wr.heap.size (by simp) (by simp;omega)
      exact (zAW h1 _ _).trans (by simp)
     have HB2:Hid (Below w.heap.size w w2):=(bal hbelq _).grown s3 (nT hbwq (by simp)) (fun g hg=>by injection hg with hg;omega)
     have S5:=cH s5
     have hcb:=zFu x (done++zAI (l.take q))
     clear s3 s5
     by_cases hin:x∈done++zAI (l.take q)
     ·have hnn:¬(zAO ls).Nodup:=by
       obtain ⟨r0,hr0⟩:=Hspq.out
       rw[Htq.out] at hr0
       exact zGo (d:=done++zAI (l.take q)) (r:=r0) (by rw[hr0];simp[List.append_assoc]) hin
      have He:=cH (Hneg.out hnn)
      rw[zHP hin] at s1 s2 s4
      rw[show (1:Int)+1=2 from rfl] at s2 s4
      clear hnn hin hcb Hspq Htq S5 hlt9
      go_wp2_with fail
      go_ret
      exact ⟨zAB He.out.symm,HB2.out⟩
     ·have Hn2:Hid (MapC w2 w.heap.size (done++zAI (l.take (q+1)))):=by
       unfold Hid;rw[Htq.out,←List.append_assoc];exact S5.out hin
      have Hn3:Hid ((done++zAI (l.take (q+1))).Nodup):=by
       unfold Hid;rw[Htq.out,←List.append_assoc]
       rw[List.nodup_append]
       exact ⟨hndq.out,by simp,fun a ha b hb=>by
        simp at hb;subst hb;intro e;exact hin (e▸ha)⟩
      rw[zD3 hin] at s1 s2 s4
      rw[show (0:Int)+1=1 from rfl] at s2 s4
      clear hin hcb Hspq Htq S5 hlt9
      go_wp2_with fail
      go_roundw
      case rel=>exact ⟨q+1,by omega,by go_num,Hn2,Hn3,HB2.out⟩
      case measure=>simp[intOf];omega
    ·have hqm:q=m:=by omega
     have htq:l.take q=l:=by have:=Hm.out;rw[hqm,this];exact List.take_length
     have Hn2:Hid (MapC wr w.heap.size (zAO (ls.take (k+1)))):=by unfold Hid;rw[Htk.out];have:=hMq.out;rwa [htq] at this
     have Hn3:Hid ((zAO (ls.take (k+1))).Nodup):=by unfold Hid;rw[Htk.out];have:=hndq.out;rwa [htq] at this
     clear htq
     go_wp2_with fail
     go_roundw
     case rel=>exact ⟨k+1,by omega,by go_num,Hn2,Hn3,hbelq⟩
     case measure=>simp[intOf];omega
  ·have hkl:k=ls.length:=by have:=Hnx.out;omega
   have hn2:=hnd.out
   rw[hkl,List.take_length] at hn2
   have He:=cH (Hpos.out hn2)
   clear hkl hn2
   go_wp2_with fail
   go_ret
   exact ⟨zAB He.out.symm,hbel⟩
end Go.Proofs.YtminjjdnmpaaoaaGreatDoor
namespace Go.Proofs.YtminjjdnmpaaoaaGreatDoor
open Go.Rows Go.RowKit Go.Shelf
abbrev IsB (B b:Nat) (bs:List Value) (w:World):Prop:=Lib.IsBuilder 107 5 B b bs w
theorem zDR {B b:Nat} {p:Value} {bs:List Value} {w w':World} (h:Lib.BuilderAt 107 5 B b p bs w) (hb:Below w.heap.size w w'):Lib.BuilderAt 107 5 B b p bs w':=by
 have hlt:=h.lt
 obtain ⟨hB,v,hbk,hown,hne⟩:=h
 exact ⟨hB,v,(hb.block b hlt).trans hbk,hown.kept (row:=none) ⟨hb.os,hb.tape,hb.output,hb.size,fun k hk _=>hb.block k hk⟩ (by cases hv:v.ownBlock<;>simp),hne⟩
theorem IsB.keep {B b:Nat} {bs:List Value} {w w':World} (h:IsB B b bs w) (hb:Below w.heap.size w w'):IsB B b bs w':=
 h.elim (fun k=>.inl (zDR k hb)) (fun k=>.inr (zDR k hb))
theorem zFX (b:Nat) (w:World) (h0:w.cell? ⟨b,0,none⟩=some (.pointer (some ⟨b,0,none⟩))) :
  Calls Tryz.prog 69 #[.pointer (some ⟨b,0,none⟩)] w fun e w'=>e=.returned (.tuple #[])∧w'=w:=by
 obtain ⟨j,hj,_⟩:=Option.map_eq_some_iff.1 Tryz.Builder_Extra_169.sizeBuilder
 go_enter Tryz.func69,Tryz.ntmps69
 go_wp2
 rw[Lib.run_neq_ptr_same w _ Tryz.underlying104 hj]
 go_wp2
 go_end0
 exact ⟨rfl,rfl⟩
theorem zFE (b:Nat) (w:World) (h0:w.cell? ⟨b,0,none⟩=some (.pointer none)) (hsh:w.shape? b=some (107,2)) (hfz:w.frozen? ⟨b,0,none⟩=false) :
  Calls Tryz.prog 69 #[.pointer (some ⟨b,0,none⟩)] w fun e w'=>e=.returned (.tuple #[])∧w'=w.setCell ⟨b,0,none⟩ (.pointer (some ⟨b,0,none⟩)):=by
 obtain ⟨j,hj,hjs⟩:=Option.map_eq_some_iff.1 Tryz.Builder_Extra_169.sizeBuilder
 go_enter Tryz.func69,Tryz.ntmps69
 go_wp2
 rw[Lib.run_to_unsafe w ⟨b,0,none⟩ Tryz.underlying104 Tryz.underlying185 hj (by rw[hjs];decide) hsh (Nat.zero_lt_succ 1)]
 simp only[Result.andThen]
 rw[Oper.upon_value]
 go_wp2
 rw[run_callFunc_extern Tryz.func120 (by kernel_rfl) (by kernel_rfl) (by kernel_rfl) (e:=Extern.AbiNoEscape.same) (by kernel_rfl)]
 rw[Lib.run_noEscape]
 simp only[Result.andThen]
 rw[Oper.upon_value]
 go_wp2
 rw[Lib.run_from_unsafe w ⟨b,0,none⟩ Tryz.underlying185 Tryz.underlying104 hj hsh Tryz.Builder_Extra_169.liesBuilder]
 simp only[Result.andThen]
 rw[Oper.upon_value]
 go_wp2
 go_end0
 exact ⟨rfl,rfl⟩
theorem zGK (B b:Nat) (bs:List Value) (w:World) (h:IsB B b bs w) :
  Calls Tryz.prog 69 #[.pointer (some ⟨b,0,none⟩)] w fun e w'=>e=.returned (.tuple #[])∧(Lib.BuilderAt 107 5 B b (.pointer (some ⟨b,0,none⟩)) bs w'∧Below B w w'):=by
 rcases h with h|h
 ·refine (zFE b w h.cell0 h.shape h.frozen0).mono ?_
  rintro e w' ⟨rfl,rfl⟩
  exact ⟨rfl,h.used _,(bR B w).setCell (p:=⟨b,0,none⟩) h.1 _⟩
 ·refine (zFX b w h.cell0).mono ?_
  rintro e w' ⟨rfl,rfl⟩
  exact ⟨rfl,h,bR B _⟩
theorem zBj (B b:Nat) (bs:List Value) (s:ByteArray) (w:World) (h:IsB B b bs w) (hlen:bs.length+s.size≤140737488355328) (hBw:B≤w.heap.size) :
  Calls Tryz.prog 41 #[.pointer (some ⟨b,0,none⟩),.string s] w fun e w'=>e=.returned (.tuple #[.int .i64 s.size,.nilIface])∧(Lib.BuilderAt 107 5 B b (.pointer (some ⟨b,0,none⟩)) (bs++Lib.strCells s) w'∧Below B w w'):=by
 obtain ⟨i0,hi,hz0,hz1,hz2⟩:=info_parts Tryz.Builder_Extra_169.infoByte
 go_enter Tryz.func41,Tryz.ntmps41
 go_wp2_with (go_at_call 69;refine (zGK B b bs _ h).mono ?_)
 rintro e w1 ⟨rfl,h1,hb1⟩
 obtain ⟨hB,v,hbk,hown,hne⟩:=h1
 have c0:w1.cell? ⟨b,0,none⟩=some (.pointer (some ⟨b,0,none⟩)):=by rw[Lib.cell_of_heap hbk];rfl
 have c1:w1.cell? ⟨b,1,none⟩=some v:=by rw[Lib.cell_of_heap hbk];rfl
 go_wp2_with (at_builtin;refine Lib.wpList_append_own_string _ rfl _ _ 105 9 rfl B 5 i0 Tryz.underlying105 Tryz.underlying9 hi hz0 hz1 hz2 _ _ _ rfl hown s rfl ?c3 ?c4 ?c5 ?_)
 case c3=>unfold maxLen;omega
 case c4=>omega
 case c5=>have:=hb1.size;omega
 intro v' w2 hown' hgrow _
 have hlt:b<w1.heap.size:=by
  rcases Nat.lt_or_ge b w1.heap.size with h'|h'
  ·exact h'
  ·simp[Array.getElem?_eq_none h'] at hbk
 have hb2:w2.heap[b]?=some (.cells #[.pointer (some ⟨b,0,none⟩),v] 107 (0,0)):=by
  rw[hgrow.block b hlt (fun e=>hne e.symm)]
  exact hbk
 have d0:w2.cell? ⟨b,0,none⟩=some (.pointer (some ⟨b,0,none⟩)):=by rw[Lib.cell_of_heap hb2];rfl
 have d1:w2.cell? ⟨b,1,none⟩=some v:=by rw[Lib.cell_of_heap hb2];rfl
 have f1:w2.frozen? ⟨b,1,none⟩=false:=Lib.frozen_of_heap hb2 1
 obtain ⟨ao,n',cap,rfl⟩:∃ ao n' cap,v'=.slice ao n' cap:=by
  rcases hown'.2 with ⟨hv,_⟩|⟨g,cap,cur,hv,_⟩
  ·exact ⟨_,_,_,hv⟩
  ·exact ⟨_,_,_,hv⟩
 go_wp2
 go_ret2
 refine ⟨rfl,?_,?_⟩
 ·exact Lib.BuilderAt.put (T:=107) (e:=5) hB hb2 (bs':=bs++Lib.strCells s) (by simpa [Lib.strCells_length] using hown') Tryz.Builder_Extra_169.neB5
 ·exact (hb1.grown hgrow (by have:=hb1.size;omega) (fun k hk=>(hown.lt k hk).1)).setCell (p:=⟨b,1,none⟩) hB _
