/- Packages in plain words: their texts, what may be; the two ways of asking that no name stands twice agree. -/
import Derived.Test.YtminjjdnmpaaoaaGreatDoorSv06
import Derived.Test.YtminjjdnmpaaoaaGreatDoorSv03
import Derived.Test.YtminjjdnmpaaoaaGreatDoorSv05
import Derived.Test.YtminjjdnmpaaoaaGreatDoorSv07
import Derived.Test.YtminjjdnmpaaoaaGreatDoorAl
set_option linter.all false
set_option maxHeartbeats 3200000
set_option maxRecDepth 100000
namespace Go.Proofs.YtminjjdnmpaaoaaGreatDoor
open Go
def nlB:ByteArray:=⟨#[10]⟩
def lineD (word:ByteArray) (d:Dep):ByteArray:=word++spaceB++d.name++spaceB++zAb d.range++nlB
def zAK (word:ByteArray):List Dep→ByteArray
 | []=>⟨#[]⟩
 | d::l=>lineD word d++zAK word l
def packW:ByteArray:=⟨#[112,97,99,107,97,103,101,32]⟩
def zBm:ByteArray:=⟨#[110,101,101,100,115]⟩
def zCV:ByteArray:=⟨#[98,101,115,105,100,101]⟩
def zBy:ByteArray:=⟨#[108,105,107,101,115]⟩
def zB2 (p:Pack):ByteArray:=packW++p.name++spaceB++zAU p.ver.major p.ver.minor p.ver.patch++nlB
def zBJ (p:Pack):ByteArray:=zB2 p++zAK zBm p.deps++zAK zCV p.peers++zAK zBy p.opts
theorem zGS (word:ByteArray) (a b:List Dep):zAK word (a++b)=zAK word a++zAK word b:=by
 induction a with
 | nil=>apply ByteArray.ext;simp[zAK,ByteArray.data_append]
 | cons d a ih=>rw[List.cons_append,zAK,ih,zAK];apply ByteArray.ext;simp[ByteArray.data_append]
theorem zFR (word:ByteArray) {l:List Dep} {k:Nat} (h:k<l.length):zAK word (l.take (k+1))=zAK word (l.take k)++lineD word l[k]:=by
 rw[List.take_succ_eq_append_getElem h,zGS]
 apply ByteArray.ext;simp[zAK,ByteArray.data_append]
theorem zLW {word:ByteArray} {d:Dep} (hw:word.size≤10) (hd:d.name.size≤16):(lineD word d).size≤2100:=by
 have:=zDB d.range
 have z1:spaceB.size=1:=rfl
 have z2:nlB.size=1:=rfl
 unfold lineD
 simp only[ByteArray.size_append]
 omega
theorem zBC {word:ByteArray} {l:List Dep} (hw:word.size≤10) (hd:∀ d∈l,d.name.size≤16):(zAK word l).size≤2100 * l.length:=by
 induction l with
 | nil=>exact nR _
 | cons d l ih=>
   have h1:=zLW hw (hd d (by simp))
   have h2:=ih (fun x hx=>hd x (by simp[hx]))
   rw[zAK,ByteArray.size_append,List.length_cons]
   omega
theorem zJp:∀ {l:List Dep} {p:Option ByteArray},zA8 p l=true→∀ d∈l,nameB d.name=true∧zAu d.range=true:=by
 intro l
 induction l with
 | nil=>intro p _ d hd;cases hd
 | cons x l ih=>
   intro p h d hd
   simp only[zA8,Bool.and_eq_true] at h
   rcases List.mem_cons.1 hd with rfl|hd
   ·exact ⟨h.1.1,h.1.2.1⟩
   ·exact ih h.2 d hd
theorem zD2 {s:ByteArray} (h:nameB s=true):s.size≤16:=by
 rcases Nat.lt_or_ge 16 s.size with h'|h'
 ·have:nameL s.data.toList=false:=zEc (by rw[Array.length_toList];exact h')
  unfold nameB at h;rw[this] at h;cases h
 ·exact h'
theorem zAR {l:List Dep} (h:listB l=true):l.length≤16∧∀ d∈l,d.name.size≤16:=by
 simp only[listB,Bool.and_eq_true,decide_eq_true_eq] at h
 exact ⟨h.2,fun d hd=>zD2 (zJp h.1 d hd).1⟩
theorem bl_lt:∀ (x y:List UInt8),Op.bytesLess x y=decide (x<y):=by
 intro x
 induction x with
 | nil=>intro y;cases y<;>simp[Op.bytesLess]
 | cons a x ih=>
   intro y
   cases y with
   | nil=>simp[Op.bytesLess]
   | cons b y=>
     rw[Op.bytesLess,ih y,Bool.eq_iff_iff]
     simp[List.cons_lt_cons_iff]
theorem zB3 (a b:ByteArray):lessB a b=decide (a.data.toList<b.data.toList):=by
 unfold lessB;rw[bl_lt,Go.ByteArray.toList_eq,Go.ByteArray.toList_eq]
theorem zCN (a:ByteArray):lessB a a=false:=by
 rw[zB3];simp
theorem zCv {a b c:ByteArray} (h1:lessB a b=true) (h2:lessB b c=true):lessB a c=true:=by
 rw[zB3,decide_eq_true_eq] at *
 exact List.lt_trans h1 h2
theorem zIC:∀ {l:List Dep} {a:ByteArray},zA8 (some a) l=true→∀ x∈zAI l,lessB a x=true:=by
 intro l
 induction l with
 | nil=>intro a _ x hx;cases hx
 | cons d l ih=>
   intro a h x hx
   simp only[zA8,Bool.and_eq_true,behind] at h
   rcases List.mem_cons.1 hx with rfl|hx
   ·exact h.1.2.2.2
   ·exact zCv h.1.2.2.2 (ih h.2 x hx)
theorem zGq:∀ {l:List Dep} {p:Option ByteArray},zA8 p l=true→(zAI l).Nodup:=by
 intro l
 induction l with
 | nil=>intro p _;exact List.nodup_nil
 | cons d l ih=>
   intro p h
   simp only[zA8,Bool.and_eq_true] at h
   refine List.nodup_cons.2 ⟨fun hm=>?_,ih h.2⟩
   have:=zIC h.2 _ hm
   rw[zCN] at this;cases this
theorem zDe {l:List Dep} (h:listB l=true):(zAI l).Nodup:=by
 simp only[listB,Bool.and_eq_true] at h
 exact zGq h.1
noncomputable def disjB (a b:List Dep):Bool:=@decide (∀ x∈zAI a,x∉zAI b) (Classical.propDecidable _)
theorem zDI {a b:List Dep} (h:∀ x∈zAI a,x∉zAI b):disjB a b=true:=by unfold disjB;exact @decide_eq_true _ (Classical.propDecidable _) h
theorem zCr {a b:List Dep} (h:¬∀ x∈zAI a,x∉zAI b):disjB a b=false:=by unfold disjB;exact @decide_eq_false _ (Classical.propDecidable _) h
theorem zMS {a b c:List Dep} (ha:listB a=true) (hb:listB b=true) (hc:listB c=true):zBM (zAO [a,b,c])=(disjB a b&&disjB a c&&disjB b c):=by
 have e:zAO [a,b,c]=zAI a++(zAI b++zAI c):=by simp[zAO]
 by_cases h1:∀ x∈zAI a,x∉zAI b
 ·by_cases h2:∀ x∈zAI a,x∉zAI c
  ·by_cases h3:∀ x∈zAI b,x∉zAI c
   ·rw[zDI h1,zDI h2,zDI h3]
    refine zDc ?_
    rw[e,List.nodup_append]
    refine ⟨zDe ha,?_,fun x hx y hy he=>?_⟩
    ·rw[List.nodup_append]
     exact ⟨zDe hb,zDe hc,fun x hx y hy he=>h3 x hx (he▸hy)⟩
    ·subst he
     rcases List.mem_append.1 hy with hy|hy
     ·exact h1 x hx hy
     ·exact h2 x hx hy
   ·rw[zCr h3,Bool.and_false]
    refine zCK fun hn=>h3 fun x hx hy=>?_
    rw[e,List.nodup_append] at hn
    exact (List.nodup_append.1 hn.2.1).2.2 x hx x hy rfl
  ·rw[zCr h2,Bool.and_false,Bool.false_and]
   refine zCK fun hn=>h2 fun x hx hy=>?_
   rw[e,List.nodup_append] at hn
   exact hn.2.2 x hx x (List.mem_append.2 (.inr hy)) rfl
 ·rw[zCr h1,Bool.false_and,Bool.false_and]
  refine zCK fun hn=>h1 fun x hx hy=>?_
  rw[e,List.nodup_append] at hn
  exact hn.2.2 x hx x (List.mem_append.2 (.inl hy)) rfl
noncomputable def packB (p:Pack):Bool:=
 nameB p.name&&(verB p.ver.major p.ver.minor p.ver.patch&&(listB p.deps&&(listB p.peers&&(listB p.opts&&(zBM (zAO [p.deps,p.peers,p.opts])&&decide ((zBJ p).size≤4096))))))
end Go.Proofs.YtminjjdnmpaaoaaGreatDoor
namespace Go.Proofs.YtminjjdnmpaaoaaGreatDoor
open Go.Rows Go.RowKit Go.Shelf Go.Sort
theorem zIp {l:List Dep} {k:Nat} (h:k<l.length):l[k].name∈zAI l:=List.mem_map.2 ⟨l[k],List.getElem_mem h,rfl⟩
theorem zBh (A B:Option Addr) (n m c d:Nat) (xs ys:List Dep) (w:World) (S T:Nat→Prop) (hx:SlV rDep w S xs (.slice A n c)) (hy:SlV rDep w T ys (.slice B m d)) :
  Calls Tryz.prog 106 #[.slice A n c,.slice B m d] w fun e w'=>e=.returned (.bool (disjB xs ys))∧Below w.heap.size w w':=by
 have hnx:=hx.n_eq
 have hny:=hy.n_eq
 have hcx:=hx.cap_le
 have hcy:=hy.cap_le
 unfold maxLen at hcx hcy
 have hn63:n≤9223372036854775807:=by omega
 have hm63:m≤9223372036854775807:=by omega
 have hx':=hx.more (S':=fun b=>b<w.heap.size) fun b _ h=>h
 have hy':=hy.more (S':=fun b=>b<w.heap.size) fun b _ h=>h
 have Hpos:Hid ((∀ x∈zAI xs,x∉zAI ys)→disjB xs ys=true):=zDI
 have Hneg:Hid ((¬∀ x∈zAI xs,x∉zAI ys)→disjB xs ys=false):=zCr
 have Hnx:=cH hnx;clear hnx
 have Hny:=cH hny;clear hny
 clear hcx hcy hx hy
 generalize disjB xs ys=r at *
 go_enter Tryz.func106,Tryz.ntmps106
 go_wp2_with fail
 go_loopw [5] (fun i wr=>∃ k:Nat,k≤n∧i=.int .i64 k∧Hid (∀ x∈zAI (xs.take k),x∉zAI ys)∧Below w.heap.size w wr) (fun i _=>n - (intOf i).toNat)
 case atStart=>exact ⟨0,nZ _,rfl,by simp[Hid,zAI],bR _ _⟩
 case round=>
  obtain ⟨k,hk,rfl,hdis,hbel⟩:=hrel
  by_cases hlt:k<n
  ·have hkx:k<xs.length:=by have:=Hnx.out;omega
   have Htk:=cH (zC3 hkx)
   have hmx:=cH (zIp hkx)
   have hk0:(0:Int)≤(k:Int):=by omega
   have hkn:(k:Int)<(n:Int):=by omega
   have Hxw:Hid (∀ W,Below w.heap.size w W→SlV rDep W (fun b=>b<w.heap.size) xs (.slice A n c)):=fun W hW=>hx'.below hW (fun b h=>h)
   obtain ⟨wo,rfl⟩:∃ wo:World,wo=wr:=⟨_,rfl⟩
   go_wp2_with fail
   go_loopw [6] (fun j wq=>∃ q:Nat,q≤m∧j=.int .i64 q∧Hid (xs[k].name∉zAI (ys.take q))∧Below w.heap.size w wq) (fun j _=>m - (intOf j).toNat)
   case atStart=>exact ⟨0,nZ _,rfl,by simp[Hid,zAI],hbel⟩
   case round=>
    obtain ⟨q,hq,rfl,hnot,hbelq⟩:=hrel
    by_cases hlq:q<m
    ·have hqy:q<ys.length:=by have:=Hny.out;omega
     obtain ⟨b,o,cs,rfl,_,hb1,⟨s0,rfl,_,hr0⟩,hcell⟩:=(Hxw.out _ hbelq).elem (gE hkx)
     obtain ⟨b',o',cs',rfl,_,hb2,⟨s1,rfl,_,hr1⟩,hcell'⟩:=(hy'.below hbelq (fun b h=>h)).elem (gE hqy)
     have c0:=hcell 0 _ rfl
     have d0:=hcell' 0 _ rfl
     simp only[rDep,Nat.add_zero] at c0 d0
     have Htq:=cH (zC3 hqy)
     have hmy:=cH (zIp hqy)
     have hq0:(0:Int)≤(q:Int):=by omega
     have hqm:(q:Int)<(m:Int):=by omega
     clear hcell hcell' hr0 hr1
     generalize xs[k].name=x at *
     generalize ys[q].name=y at *
     have r_c0:=cR c0
     have r_d0:=cR d0
     by_cases he:x=y
     ·have hb:=zAT he
      have He:Hid (r=false):=Hneg.out fun h=>h x hmx.out (he▸hmy.out)
      clear he
      go_wp2_with fail
      refine wQ ?_
      repeat (go_big_quiet_step (first|fail))
      refine wpQuiet_nil fun w1 B1=>?_
      go_wp2_with fail
      go_ret
      exact ⟨zAB He.out.symm,bot hbelq B1⟩
     ·have hb:=zAL he
      have hn2:Hid (x∉zAI (ys.take (q+1))):=by
       unfold Hid;rw[Htq.out];intro h
       rcases List.mem_append.1 h with h|h
       ·exact hnot.out h
       ·simp at h;exact he h
      clear he
      go_wp2_with fail
      refine wQ ?_
      repeat (go_big_quiet_step (first|fail))
      refine wpQuiet_nil fun w1 B1=>?_
      go_wp2_with fail
      go_roundw
      case rel=>exact ⟨q+1,by omega,by go_num,hn2,bot hbelq B1⟩
      case measure=>simp[intOf];omega
    ·have hqm:q=m:=by omega
     have hd2:Hid (∀ x∈zAI (xs.take (k+1)),x∉zAI ys):=by
      unfold Hid;rw[Htk.out];intro z hz
      rcases List.mem_append.1 hz with hz|hz
      ·exact hdis.out z hz
      ·simp at hz;subst hz
       have:=hnot.out
       rw[hqm] at this
       rwa [show m=ys.length from Hny.out,List.take_length] at this
     go_wp2_with fail
     go_roundw
     case rel=>exact ⟨k+1,by omega,by go_num,hd2,hbelq⟩
     case measure=>simp[intOf];omega
  ·have hkn:k=xs.length:=by have:=Hnx.out;omega
   have He:Hid (r=true):=Hpos.out (by have:=hdis.out;rwa [hkn,List.take_length] at this)
   clear hkn
   go_wp2_with fail
   go_ret
   exact ⟨zAB He.out.symm,hbel⟩
theorem zBH (word:ByteArray) (hword:word.size≤10) (A:Option Addr) (n c:Nat) (l:List Dep) (w:World) (S:Nat→Prop) (h16:l.length≤16) (hsm:∀ d∈l,d.name.size≤16) (hl:SlV rDep w S l (.slice A n c)) :
  Calls Tryz.prog 142 #[.string word,.slice A n c] w fun e w'=>e=.returned (.string (zAK word l))∧Below w.heap.size w w':=by
 have hnx:=hl.n_eq
 have hn63:n≤16:=by omega
 have hl':=hl.more (S':=fun b=>b<w.heap.size) fun b _ h=>h
 have Hsm:=cH hsm;clear hsm
 have Hend:Hid (zAK word l=zAK word (l.take l.length)):=by unfold Hid;rw[List.take_length]
 have Hnx:=cH hnx;clear hnx
 clear hl
 generalize hR:zAK word l=R at *
 clear hR
 go_enter Tryz.func142,Tryz.ntmps142
 go_wp2_with fail
 go_loopw [5,6] (fun t i wr=>∃ (k:Nat) (acc:ByteArray),k≤n∧t=.string acc∧i=.int .i64 k∧Hid (acc=zAK word (l.take k))∧Below w.heap.size w wr) (fun _ i _=>n - (intOf i).toNat)
 case atStart=>exact ⟨0,⟨#[]⟩,nZ _,rfl,rfl,rfl,bR _ _⟩
 case round=>
  obtain ⟨k,acc,hk,rfl,rfl,hacc,hbel⟩:=hrel
  by_cases hlt:k<n
  ·have hkx:k<l.length:=by have:=Hnx.out;omega
   obtain ⟨b,o,cs,rfl,_,hb1,⟨s0,rfl,_,hr0⟩,hcell⟩:=(hl'.below hbel (fun b h=>h)).elem (gE hkx)
   obtain ⟨pA,pc,rfl,_,_⟩:=hr0.val
   have c0:=hcell 0 _ rfl
   have c1:=hcell 1 _ rfl
   simp only[rDep,Nat.add_zero] at c0 c1
   have Htk:=cH (zFR word hkx)
   have hz0:acc.size≤33600:=by
    have h1:=zBC (word:=word) (l:=l.take k) hword (fun d hd=>Hsm.out d (List.mem_of_mem_take hd))
    have h2:(l.take k).length≤16:=by simp;omega
    rw[hacc.out];omega
   have hz1:=Hsm.out l[k] (List.getElem_mem hkx)
   have hz2:=zDB l[k].range
   have hk0:(0:Int)≤(k:Int):=by omega
   have hkn:(k:Int)<(n:Int):=by omega
   have Hc:=cH (qcall (w:=wr) (fun W hW=>zEN pA _ pc l[k].range W _ (hr0.belowSize hW)))
   have Hln:Hid (lineD word l[k]=word++spaceB++l[k].name++spaceB++zAb l[k].range++nlB):=rfl
   clear hcell hr0
   generalize lineD word l[k]=line at *
   generalize l[k].name=x at *
   generalize zAb l[k].range=t at *
   generalize l[k].range.length=rl at *
   have z1:spaceB.size=1:=rfl
   have z2:nlB.size=1:=rfl
   have A1:∀ W:World,(Op.stringOp .add acc word).run Tryz.prog W=.ok (.string (acc++word)) W:=fun W=>run_string_add_sum W _ _ (by omega)
   have A2:∀ W:World,(Op.stringOp .add (acc++word) ⟨#[32]⟩).run Tryz.prog W=.ok (.string (acc++word++spaceB)) W:=fun W=>run_string_add_sum W _ spaceB (by simp only[ByteArray.size_append];omega)
   have A3:∀ W:World,(Op.stringOp .add (acc++word++spaceB) x).run Tryz.prog W=.ok (.string (acc++word++spaceB++x)) W:=fun W=>run_string_add_sum W _ _ (by simp only[ByteArray.size_append];omega)
   have A4:∀ W:World,(Op.stringOp .add (acc++word++spaceB++x) ⟨#[32]⟩).run Tryz.prog W=.ok (.string (acc++word++spaceB++x++spaceB)) W:=fun W=>run_string_add_sum W _ spaceB (by simp only[ByteArray.size_append];omega)
   have A5:∀ W:World,(Op.stringOp .add (acc++word++spaceB++x++spaceB) t).run Tryz.prog W=.ok (.string (acc++word++spaceB++x++spaceB++t)) W:=fun W=>run_string_add_sum W _ _ (by simp only[ByteArray.size_append];omega)
   have A6:∀ W:World,(Op.stringOp .add (acc++word++spaceB++x++spaceB++t) ⟨#[10]⟩).run Tryz.prog W=.ok (.string (acc++word++spaceB++x++spaceB++t++nlB)) W:=fun W=>run_string_add_sum W _ nlB (by simp only[ByteArray.size_append];omega)
   have Hnew:Hid ((acc++word++spaceB++x++spaceB++t++nlB:ByteArray)=zAK word (l.take (k+1))):=by
    unfold Hid;rw[Htk.out,Hln.out,hacc.out]
    apply ByteArray.ext;simp[ByteArray.data_append]
   clear z1 z2 hz0 hz1 hz2 Hln Htk hacc
   have r_c0:=cR c0
   have r_c1:=cR c1
   go_wp2_with fail
   refine wQ ?_
   repeat (go_big_quiet_step (first|(with_reducible exact Hc.out _ _)))
   refine wpQuiet_nil fun w1 B1=>?_
   clear A1 A2 A3 A4 A5 A6
   generalize (acc++word++spaceB++x++spaceB++t++nlB:ByteArray)=acc' at *
   go_wp2_with fail
   go_roundw
   case rel=>exact ⟨k+1,acc',by omega,rfl,by go_num,Hnew,bot hbel B1⟩
   case measure=>simp[intOf];omega
  ·have He:Hid (R=acc):=by
    unfold Hid;rw[Hend.out,hacc.out,show k=l.length from by have:=Hnx.out;omega]
   clear hacc
   go_wp2_with fail
   go_ret
   exact ⟨zBO He.out.symm,hbel⟩
theorem zFG {p:Pack} (h:p.name.size≤16):(zB2 p).size≤100:=by
 have h1:=zBI p.ver.major p.ver.minor p.ver.patch
 have z1:spaceB.size=1:=rfl
 have z2:nlB.size=1:=rfl
 have z3:packW.size=8:=rfl
 unfold zB2
 simp only[ByteArray.size_append]
 omega
theorem zEm (p:Pack) (v:Value) (w:World) (S:Nat→Prop) (hnm:p.name.size≤16) (hd:listB p.deps=true) (hp:listB p.peers=true) (ho:listB p.opts=true) (hv:PackV w S p v) :
  Calls Tryz.prog 107 #[v] w fun e w'=>e=.returned (.string (zBJ p))∧Below w.heap.size w w':=by
 obtain ⟨A1,n1,c1,A2,n2,c2,A3,n3,c3,rfl,_,h1,h2,h3⟩:=hv
 obtain ⟨d1,d2⟩:=zAR hd
 obtain ⟨p1,p2⟩:=zAR hp
 obtain ⟨o1,o2⟩:=zAR ho
 have zd:=zBC (word:=zBm) (by decide) d2
 have zp:=zBC (word:=zCV) (by decide) p2
 have zo:=zBC (word:=zBy) (by decide) o2
 have zh:=zFG hnm
 have zv:=zBI p.ver.major p.ver.minor p.ver.patch
 have Hc0:Hid (∀ o:Obj,∀ d os,Calls Tryz.prog 141 #[.agg #[.int .i64 p.ver.major,.int .i64 p.ver.minor,.int .i64 p.ver.patch]] (grow (redrawn (w.alloc o) d) os) fun e w''=>e=.returned (.string (zAU p.ver.major p.ver.minor p.ver.patch))∧∃ p:Regrown,w''=grow (redrawn (w.alloc o) p.d) p.os):=
  fun o=>qcall (w:=w.alloc o) (fun W hW=>zB7 _ _ _ W)
 have Hc1:Hid (∀ o:Obj,∀ d os,Calls Tryz.prog 142 #[.string ⟨#[110,101,101,100,115]⟩,.slice A1 n1 c1] (grow (redrawn (w.alloc o) d) os) fun e w''=>e=.returned (.string (zAK zBm p.deps))∧∃ p:Regrown,w''=grow (redrawn (w.alloc o) p.d) p.os):=
  fun o=>qcall (w:=w.alloc o) (fun W hW=>zBH zBm (by decide) A1 n1 c1 p.deps W S d1 d2 ((h1.alloc o).belowSize hW))
 have Hc2:Hid (∀ o:Obj,∀ d os,Calls Tryz.prog 142 #[.string ⟨#[98,101,115,105,100,101]⟩,.slice A2 n2 c2] (grow (redrawn (w.alloc o) d) os) fun e w''=>e=.returned (.string (zAK zCV p.peers))∧∃ p:Regrown,w''=grow (redrawn (w.alloc o) p.d) p.os):=
  fun o=>qcall (w:=w.alloc o) (fun W hW=>zBH zCV (by decide) A2 n2 c2 p.peers W S p1 p2 ((h2.alloc o).belowSize hW))
 have Hc3:Hid (∀ o:Obj,∀ d os,Calls Tryz.prog 142 #[.string ⟨#[108,105,107,101,115]⟩,.slice A3 n3 c3] (grow (redrawn (w.alloc o) d) os) fun e w''=>e=.returned (.string (zAK zBy p.opts))∧∃ p:Regrown,w''=grow (redrawn (w.alloc o) p.d) p.os):=
  fun o=>qcall (w:=w.alloc o) (fun W hW=>zBH zBy (by decide) A3 n3 c3 p.opts W S o1 o2 ((h3.alloc o).belowSize hW))
 have Hph:Hid (zB2 p=packW++p.name++spaceB++zAU p.ver.major p.ver.minor p.ver.patch++nlB):=rfl
 have Hpt:Hid (zBJ p=zB2 p++zAK zBm p.deps++zAK zCV p.peers++zAK zBy p.opts):=rfl
 clear h1 h2 h3 d2 p2 o2 hd hp ho
 generalize zBJ p=R at *
 generalize zB2 p=ph at *
 generalize zAK zBm p.deps=t1 at *
 generalize zAK zCV p.peers=t2 at *
 generalize zAK zBy p.opts=t3 at *
 generalize zAU p.ver.major p.ver.minor p.ver.patch=tv at *
 generalize p.ver.major=x1 at *
 generalize p.ver.minor=x2 at *
 generalize p.ver.patch=x3 at *
 generalize p.name=x at *
 generalize p.deps.length=l1 at *
 generalize p.peers.length=l2 at *
 generalize p.opts.length=l3 at *
 have z1:spaceB.size=1:=rfl
 have z2:nlB.size=1:=rfl
 have z3:packW.size=8:=rfl
 have E1:∀ W:World,(Op.stringOp .add ⟨#[112,97,99,107,97,103,101,32]⟩ x).run Tryz.prog W=.ok (.string (packW++x)) W:=fun W=>run_string_add_sum W packW x (by omega)
 have E2:∀ W:World,(Op.stringOp .add (packW++x) ⟨#[32]⟩).run Tryz.prog W=.ok (.string (packW++x++spaceB)) W:=fun W=>run_string_add_sum W _ spaceB (by simp only[ByteArray.size_append];omega)
 have E3:∀ W:World,(Op.stringOp .add (packW++x++spaceB) tv).run Tryz.prog W=.ok (.string (packW++x++spaceB++tv)) W:=fun W=>run_string_add_sum W _ _ (by simp only[ByteArray.size_append];omega)
 have E4:∀ W:World,(Op.stringOp .add (packW++x++spaceB++tv) ⟨#[10]⟩).run Tryz.prog W=.ok (.string ph) W:=fun W=>by rw[Hph.out];exact run_string_add_sum W _ nlB (by simp only[ByteArray.size_append];omega)
 have E5:∀ W:World,(Op.stringOp .add ph t1).run Tryz.prog W=.ok (.string (ph++t1)) W:=fun W=>run_string_add_sum W _ _ (by omega)
 have E6:∀ W:World,(Op.stringOp .add (ph++t1) t2).run Tryz.prog W=.ok (.string (ph++t1++t2)) W:=fun W=>run_string_add_sum W _ _ (by simp only[ByteArray.size_append];omega)
 have E7:∀ W:World,(Op.stringOp .add (ph++t1++t2) t3).run Tryz.prog W=.ok (.string R) W:=fun W=>by rw[Hpt.out];exact run_string_add_sum W _ _ (by simp only[ByteArray.size_append];omega)
 clear z1 z2 z3 zd zp zo zh zv hnm
 go_enter Tryz.func107,Tryz.ntmps107
 go_wp2_with fail
 have a0:(w.alloc (.cells #[.string x,.int .i64 x1,.int .i64 x2,.int .i64 x3,.slice A1 n1 c1,.slice A2 n2 c2,.slice A3 n3 c3] 52)).cell? ⟨w.heap.size,0,none⟩=some (.string x):=by simp[go_sem]
 have a1:(w.alloc (.cells #[.string x,.int .i64 x1,.int .i64 x2,.int .i64 x3,.slice A1 n1 c1,.slice A2 n2 c2,.slice A3 n3 c3] 52)).cell? ⟨w.heap.size,1,none⟩=some (.int .i64 x1):=by simp[go_sem]
 have a2:(w.alloc (.cells #[.string x,.int .i64 x1,.int .i64 x2,.int .i64 x3,.slice A1 n1 c1,.slice A2 n2 c2,.slice A3 n3 c3] 52)).cell? ⟨w.heap.size,2,none⟩=some (.int .i64 x2):=by simp[go_sem]
 have a3:(w.alloc (.cells #[.string x,.int .i64 x1,.int .i64 x2,.int .i64 x3,.slice A1 n1 c1,.slice A2 n2 c2,.slice A3 n3 c3] 52)).cell? ⟨w.heap.size,3,none⟩=some (.int .i64 x3):=by simp[go_sem]
 have a4:(w.alloc (.cells #[.string x,.int .i64 x1,.int .i64 x2,.int .i64 x3,.slice A1 n1 c1,.slice A2 n2 c2,.slice A3 n3 c3] 52)).cell? ⟨w.heap.size,4,none⟩=some (.slice A1 n1 c1):=by simp[go_sem]
 have a5:(w.alloc (.cells #[.string x,.int .i64 x1,.int .i64 x2,.int .i64 x3,.slice A1 n1 c1,.slice A2 n2 c2,.slice A3 n3 c3] 52)).cell? ⟨w.heap.size,5,none⟩=some (.slice A2 n2 c2):=by simp[go_sem]
 have a6:(w.alloc (.cells #[.string x,.int .i64 x1,.int .i64 x2,.int .i64 x3,.slice A1 n1 c1,.slice A2 n2 c2,.slice A3 n3 c3] 52)).cell? ⟨w.heap.size,6,none⟩=some (.slice A3 n3 c3):=by simp[go_sem]
 have r_a0:=cR a0
 have r_a1:=cR a1
 have r_a2:=cR a2
 have r_a3:=cR a3
 have r_a4:=cR a4
 have r_a5:=cR a5
 have r_a6:=cR a6
 refine wQ ?_
 repeat (go_big_quiet_step (first|(with_reducible exact Hc0.out _ _ _)|(with_reducible exact Hc1.out _ _ _)|(with_reducible exact Hc2.out _ _ _)|(with_reducible exact Hc3.out _ _ _)))
 refine wpQuiet_nil fun w1 B1=>?_
 go_wp2_with fail
 go_ret
 exact ⟨rfl,bot (bal (bR _ _) _) B1⟩
theorem zBi (a b:ByteArray):Lib.strCells (a++b)=Lib.strCells a++Lib.strCells b:=by
 simp[Lib.strCells,ByteArray.data_append]
theorem zFQ (word:ByteArray) (hword:word.size≤10) (A:Option Addr) (n c:Nat) (l:List Dep) (w:World) (S:Nat→Prop) (B b:Nat) (bs:List Value)
  (h16:l.length≤16) (hsm:∀ d∈l,d.name.size≤16) (hT:∀ W,Below B w W→Tab W) (hl:SlV rDep w S l (.slice A n c)) (hS:∀ b,S b→b<B)
  (hB:IsB B b bs w) (hbs:bs.length≤1000000) (hBw:B≤w.heap.size) :
  Calls Tryz.prog 156 #[.pointer (some ⟨b,0,none⟩),.string word,.slice A n c] w fun e w'=>e=.returned (.tuple #[])∧IsB B b (bs++Lib.strCells (zAK word l)) w'∧Below B w w':=by
 have hnx:=hl.n_eq
 have hn63:n≤16:=by omega
 have Hsm:=cH hsm;clear hsm
 have HT:=cH hT;clear hT
 have HS:=cH hS;clear hS
 have HB:=cH hB;clear hB
 have Hend:Hid (zAK word l=zAK word (l.take l.length)):=by unfold Hid;rw[List.take_length]
 have Hnx:=cH hnx;clear hnx
 generalize hR:zAK word l=R at *
 clear hR
 go_enter Tryz.func156,Tryz.ntmps156
 go_wp2_with fail
 go_loopw [10] (fun i wr=>∃ (k:Nat),k≤n∧i=.int .i64 k∧Hid (IsB B b (bs++Lib.strCells (zAK word (l.take k))) wr)∧Below B w wr) (fun i _=>n - (intOf i).toNat)
 case atStart=>exact ⟨0,nZ _,rfl,by have:=HB.out;simpa [Hid,zAK,Lib.strCells] using this,bR _ _⟩
 case round=>
  obtain ⟨k,hk,rfl,hIB,hbel⟩:=hrel
  by_cases hlt:k<n
  ·have hkx:k<l.length:=by have:=Hnx.out;omega
   obtain ⟨bb,o,cs,rfl,_,hb1,⟨s0,rfl,hnm,hr0⟩,hcell⟩:=(hl.below hbel HS.out).elem (gE hkx)
   obtain ⟨pA,pc,rfl,_,_⟩:=hr0.val
   have c0:=hcell 0 _ rfl
   have c1:=hcell 1 _ rfl
   simp only[rDep,Nat.add_zero] at c0 c1
   have Htk:=cH (zFR word hkx)
   have hz0:(zAK word (l.take k)).size≤33600:=by
    have h1:=zBC (word:=word) (l:=l.take k) hword (fun d hd=>Hsm.out d (List.mem_of_mem_take hd))
    have h2:(l.take k).length≤16:=by simp;omega
    omega
   have hz1:=Hsm.out l[k] (List.getElem_mem hkx)
   have hz2:=zDB l[k].range
   have hk0:(0:Int)≤(k:Int):=by omega
   have hkn:(k:Int)<(n:Int):=by omega
   have hBr:B≤wr.heap.size:=nT hBw hbel.size
   have Ht:Hid (Tab wr):=HT.out _ hbel
   have Hc:Hid (∀ o:Obj,∀ d os,Calls Tryz.prog 174 #[.slice pA l[k].range.length pc] (grow (redrawn (wr.alloc o) d) os) fun e w''=>e=.returned (.string (zAb l[k].range))∧∃ p:Regrown,w''=grow (redrawn (wr.alloc o) p.d) p.os):=
    fun o=>qcall (w:=wr.alloc o) (fun W hW=>zGN pA _ pc l[k].range W _ (zAY (zAY Ht.out (bal (bR _ _) o)) hW) ((hr0.alloc o).belowSize hW))
   have Hln:Hid (lineD word l[k]=word++spaceB++l[k].name++spaceB++zAb l[k].range++nlB):=rfl
   have Hlen:Hid ((bs++Lib.strCells (zAK word (l.take k))).length≤1033600):=by unfold Hid;rw[List.length_append,Lib.strCells_length];omega
   clear hcell hr0 hz0
   generalize lineD word l[k]=line at *
   generalize l[k].name=x at *
   generalize zAb l[k].range=t at *
   generalize l[k].range.length=rl at *
   have z1:spaceB.size=1:=rfl
   have z2:nlB.size=1:=rfl
   have A1:∀ W:World,(Op.stringOp .add word ⟨#[32]⟩).run Tryz.prog W=.ok (.string (word++spaceB)) W:=fun W=>run_string_add_sum W _ spaceB (by omega)
   have A2:∀ W:World,(Op.stringOp .add (word++spaceB) x).run Tryz.prog W=.ok (.string (word++spaceB++x)) W:=fun W=>run_string_add_sum W _ _ (by simp only[ByteArray.size_append];omega)
   have A3:∀ W:World,(Op.stringOp .add (word++spaceB++x) ⟨#[32]⟩).run Tryz.prog W=.ok (.string (word++spaceB++x++spaceB)) W:=fun W=>run_string_add_sum W _ spaceB (by simp only[ByteArray.size_append];omega)
   have A4:∀ W:World,(Op.stringOp .add (word++spaceB++x++spaceB) t).run Tryz.prog W=.ok (.string (word++spaceB++x++spaceB++t)) W:=fun W=>run_string_add_sum W _ _ (by simp only[ByteArray.size_append];omega)
   have A5:∀ W:World,(Op.stringOp .add (word++spaceB++x++spaceB++t) ⟨#[10]⟩).run Tryz.prog W=.ok (.string line) W:=fun W=>by rw[Hln.out];exact run_string_add_sum W _ nlB (by simp only[ByteArray.size_append];omega)
   have Hlz:Hid (line.size≤2100):=by unfold Hid;rw[Hln.out];simp only[ByteArray.size_append];omega
   clear z1 z2 hz1 hz2 Hln
   go_wp2_with fail
   have a0:(wr.alloc (.cells #[.string x,.slice pA rl pc] 68)).cell? ⟨wr.heap.size,0,none⟩=some (.string x):=by simp[go_sem]
   have a1:(wr.alloc (.cells #[.string x,.slice pA rl pc] 68)).cell? ⟨wr.heap.size,1,none⟩=some (.slice pA rl pc):=by simp[go_sem]
   have r_a0:=cR a0
   have r_a1:=cR a1
   refine zCg 12 (by kernel_rfl) (by kernel_rfl) ?_
   simp only[List.take_succ_cons,List.take_zero,List.drop_succ_cons,List.drop_zero]
   repeat (go_big_quiet_step (first|(with_reducible exact Hc.out _ _ _)))
   refine wpQuiet_nil fun w1 B1=>?_
   have hbr1:Below wr.heap.size wr w1:=bnew B1
   have HB1:Hid (IsB B b (bs++Lib.strCells (zAK word (l.take k))) w1):=hIB.out.keep hbr1
   have hbel1:Below B w w1:=hbel.trans (hbr1.mono hBr)
   have Hbel1:=cH hbel1;clear hbel1
   have hBw1:B≤w1.heap.size:=nT hBr hbr1.size
   have HBw1:=cH hBw1;clear hBw1
   have Hlen1:Hid ((bs++Lib.strCells (zAK word (l.take k))).length+line.size≤140737488355328):=by unfold Hid;have:=Hlen.out;have:=Hlz.out;omega
   clear A1 A2 A3 A4 A5 hbr1 B1 Hc r_a0 r_a1 a0 a1 c0 c1
   go_wp2_with fail
   refine (zBj _ _ _ line _ HB1.out Hlen1.out HBw1.out).mono ?_
   rintro e w2 ⟨rfl,hB2,hb2⟩
   have HB2:Hid (IsB B b (bs++Lib.strCells (zAK word (l.take (k+1)))) w2):=by
    unfold Hid;rw[Htk.out,zBi,←List.append_assoc];exact .inr hB2
   have Hbel2:=cH (Hbel1.out.trans hb2);clear hb2 hB2
   go_wp2_with fail
   go_roundw
   case rel=>exact ⟨k+1,by omega,by go_num,HB2,Hbel2.out⟩
   case measure=>simp[intOf];omega
  ·have He:Hid (R=zAK word (l.take k)):=by
    unfold Hid;rw[Hend.out,show k=l.length from by have:=Hnx.out;omega]
   go_wp2_with fail
   go_end0
   refine ⟨rfl,?_,hbel⟩
   rw[He.out];exact hIB.out
theorem zHV (p:Pack) (v:Value) (w:World) (S:Nat→Prop) (ht:Tab w) (hnm:p.name.size≤16) (hd:listB p.deps=true) (hp:listB p.peers=true) (ho:listB p.opts=true) (hv:PackV w S p v) :
  Calls Tryz.prog 127 #[v] w fun e w'=>e=.returned (.string (zBJ p))∧Below w.heap.size w w':=by
 obtain ⟨A1,n1,c1,A2,n2,c2,A3,n3,c3,rfl,_,h1,h2,h3⟩:=hv
 obtain ⟨d1,d2⟩:=zAR hd
 obtain ⟨p1,p2⟩:=zAR hp
 obtain ⟨o1,o2⟩:=zAR ho
 have zd:=zBC (word:=zBm) (by decide) d2
 have zp:=zBC (word:=zCV) (by decide) p2
 have zo:=zBC (word:=zBy) (by decide) o2
 have zh:=zFG hnm
 have zv:=zBI p.ver.major p.ver.minor p.ver.patch
 have h1':=h1.more (S':=fun b=>b<w.heap.size) fun b _ h=>h
 have h2':=h2.more (S':=fun b=>b<w.heap.size) fun b _ h=>h
 have h3':=h3.more (S':=fun b=>b<w.heap.size) fun b _ h=>h
 clear h1 h2 h3
 have Hph:Hid (zB2 p=packW++p.name++spaceB++zAU p.ver.major p.ver.minor p.ver.patch++nlB):=rfl
 have Hpt:Hid (zBJ p=zB2 p++zAK zBm p.deps++zAK zCV p.peers++zAK zBy p.opts):=rfl
 generalize zBJ p=R at *
 generalize zB2 p=ph at *
 have z1:spaceB.size=1:=rfl
 have z2:nlB.size=1:=rfl
 have z3:packW.size=8:=rfl
 obtain ⟨name,⟨x1,x2,x3⟩,deps,peers,opts⟩:=p
 dsimp only at *
 have E1:∀ W:World,(Op.stringOp .add ⟨#[112,97,99,107,97,103,101,32]⟩ name).run Tryz.prog W=.ok (.string (packW++name)) W:=fun W=>run_string_add_sum W packW name (by omega)
 have E2:∀ W:World,(Op.stringOp .add (packW++name) ⟨#[32]⟩).run Tryz.prog W=.ok (.string (packW++name++spaceB)) W:=fun W=>run_string_add_sum W _ spaceB (by simp only[ByteArray.size_append];omega)
 have Hc0:Hid (∀ o o':Obj,∀ d os,Calls Tryz.prog 155 #[.agg #[.int .i64 x1,.int .i64 x2,.int .i64 x3]] (grow (redrawn ((w.alloc o).alloc o') d) os) fun e w''=>e=.returned (.string (zAU x1 x2 x3))∧∃ p:Regrown,w''=grow (redrawn ((w.alloc o).alloc o') p.d) p.os):=
  fun o o'=>qcall (w:=(w.alloc o).alloc o') (fun W hW=>zCo _ _ _ W (zAY (zAY ht (bal (bal (bR _ _) o) o')) hW))
 have Htx1:Hid (zAK zBm deps=zAK zBm deps):=rfl
 generalize hvt:zAU x1 x2 x3=tv at *
 clear hvt
 have E3:∀ W:World,(Op.stringOp .add (packW++name++spaceB) tv).run Tryz.prog W=.ok (.string (packW++name++spaceB++tv)) W:=fun W=>run_string_add_sum W _ _ (by simp only[ByteArray.size_append];omega)
 have E4:∀ W:World,(Op.stringOp .add (packW++name++spaceB++tv) ⟨#[10]⟩).run Tryz.prog W=.ok (.string ph) W:=fun W=>by rw[Hph.out];exact run_string_add_sum W _ nlB (by simp only[ByteArray.size_append];omega)
 have HL:Hid (ph.size≤100∧(zAK zBm deps).size≤33600∧(zAK zCV peers).size≤33600∧(zAK zBy opts).size≤33600):=⟨zh,by omega,by omega,by omega⟩
 have Hd1:=cH d1;have Hd2:=cH d2;have Hp1:=cH p1;have Hp2:=cH p2;have Ho1:=cH o1;have Ho2:=cH o2
 clear z1 z2 z3 zd zp zo zh zv hnm d1 d2 p1 p2 o1 o2 hd hp ho Htx1 Hph
 have Ht:=cH ht;clear ht
 have Hs1:=cH h1';have Hs2:=cH h2';have Hs3:=cH h3';clear h1' h2' h3'
 go_enter Tryz.func127,Tryz.ntmps127
 go_wp2_with fail
 obtain ⟨w0,hw0⟩:∃ w0,w0=w.alloc (.cells #[.string name,.int .i64 x1,.int .i64 x2,.int .i64 x3,.slice A1 n1 c1,.slice A2 n2 c2,.slice A3 n3 c3] 52):=⟨_,rfl⟩
 have hz:w.heap.size<w0.heap.size:=by rw[hw0];simp[go_sem]
 have hq:w.heap.size+1=w0.heap.size:=by rw[hw0];simp[go_sem]
 have hb0:Below w.heap.size w w0:=by rw[hw0];exact bal (bR _ _) _
 have a0:w0.cell? ⟨w.heap.size,0,none⟩=some (.string name):=by rw[hw0];simp[go_sem]
 have a1:w0.cell? ⟨w.heap.size,1,none⟩=some (.int .i64 x1):=by rw[hw0];simp[go_sem]
 have a2:w0.cell? ⟨w.heap.size,2,none⟩=some (.int .i64 x2):=by rw[hw0];simp[go_sem]
 have a3:w0.cell? ⟨w.heap.size,3,none⟩=some (.int .i64 x3):=by rw[hw0];simp[go_sem]
 have a4:w0.cell? ⟨w.heap.size,4,none⟩=some (.slice A1 n1 c1):=by rw[hw0];simp[go_sem]
 have a5:w0.cell? ⟨w.heap.size,5,none⟩=some (.slice A2 n2 c2):=by rw[hw0];simp[go_sem]
 have a6:w0.cell? ⟨w.heap.size,6,none⟩=some (.slice A3 n3 c3):=by rw[hw0];simp[go_sem]
 have Hc1:Hid (∀ o':Obj,∀ d os,Calls Tryz.prog 155 #[.agg #[.int .i64 x1,.int .i64 x2,.int .i64 x3]] (grow (redrawn (w0.alloc o') d) os) fun e w''=>e=.returned (.string tv)∧∃ p:Regrown,w''=grow (redrawn (w0.alloc o') p.d) p.os):=by
  unfold Hid;rw[hw0];exact Hc0.out _
 rw[←hw0]
 clear Hc0
 have Hb0:=cH hb0;clear hb0 hw0
 have HBf:Hid (IsB w0.heap.size w0.heap.size (Lib.strCells ⟨#[]⟩) (w0.alloc (.cells #[.pointer none,.slice none 0 0] 107))):=Lib.fresh_isBuilder _ _ _
 obtain ⟨wb,hwb⟩:∃ wb,wb=w0.alloc (.cells #[.pointer none,.slice none 0 0] 107):=⟨_,rfl⟩
 have Hbb:Hid (Below w0.heap.size w0 wb):=by unfold Hid;rw[hwb];exact bal (bR _ _) _
 have Hc2:Hid (∀ d os,Calls Tryz.prog 155 #[.agg #[.int .i64 x1,.int .i64 x2,.int .i64 x3]] (grow (redrawn wb d) os) fun e w''=>e=.returned (.string tv)∧∃ p:Regrown,w''=grow (redrawn wb p.d) p.os):=by
  unfold Hid;rw[hwb];exact Hc1.out _
 rw[←hwb] at HBf
 rw[←hwb]
 try rw[hq]
 clear Hc1 hwb
 have b0:=zAA Hbb.out a0 hz
 have b1:=zAA Hbb.out a1 hz
 have b2:=zAA Hbb.out a2 hz
 have b3:=zAA Hbb.out a3 hz
 have r_b0:=cR b0
 have r_b1:=cR b1
 have r_b2:=cR b2
 have r_b3:=cR b3
 refine zCg 9 (by kernel_rfl) (by kernel_rfl) ?_
 simp only[List.take_succ_cons,List.take_zero,List.drop_succ_cons,List.drop_zero]
 repeat (go_big_quiet_step (first|(with_reducible exact Hc2.out _ _)))
 refine wpQuiet_nil fun w1 B1=>?_
 have Hbb1:Hid (Below w0.heap.size w0 w1):=bot Hbb.out B1
 have HB1:Hid (IsB w0.heap.size w0.heap.size (Lib.strCells ⟨#[]⟩) w1):=HBf.out.keep B1
 clear r_b0 r_b1 r_b2 r_b3 b0 b1 b2 b3 B1 HBf Hbb Hc2 E1 E2 E3 E4
 have Hl1:Hid ((Lib.strCells ⟨#[]⟩).length+ph.size≤140737488355328):=by unfold Hid;have:=HL.out.1;simp[Lib.strCells];omega
 go_wp2_with fail
 refine (zBj _ _ _ ph _ HB1.out Hl1.out Hbb1.out.size).mono ?_
 rintro e w2 ⟨rfl,hB2,hb2⟩
 have HB2:Hid (IsB w0.heap.size w0.heap.size (Lib.strCells ph) w2):=.inr hB2
 have Hbb2:=cH (Hbb1.out.trans hb2)
 have HT:Hid (∀ W,Below w0.heap.size w0 W→Tab W):=fun W hW=>zAY Ht.out (bot Hb0.out hW)
 have HS:Hid (∀ W,Below w0.heap.size w0 W→Below w.heap.size w W):=fun W hW=>bot Hb0.out hW
 clear hB2 hb2 HB1 Hbb1 Hl1
 have d4:=zAA Hbb2.out a4 hz
 go_wp2_with fail
 refine (zFQ zBm (by decide) A1 n1 c1 deps w2 (fun b=>b<w.heap.size) w0.heap.size w0.heap.size (Lib.strCells ph) Hd1.out Hd2.out (fun W hW=>HT.out W (Hbb2.out.trans hW)) (Hs1.out.below (HS.out _ Hbb2.out) (fun b h=>h)) (fun b h=>Nat.lt_trans h hz) HB2.out (by rw[Lib.strCells_length];have:=HL.out.1;omega) Hbb2.out.size).mono ?_
 rintro e w3 ⟨rfl,hB3,hb3⟩
 have HB3:=cH hB3;have Hbb3:=cH (Hbb2.out.trans hb3)
 clear hB3 hb3 HB2 Hbb2 d4
 have d5:=zAA Hbb3.out a5 hz
 go_wp2_with fail
 refine (zFQ zCV (by decide) A2 n2 c2 peers w3 (fun b=>b<w.heap.size) w0.heap.size w0.heap.size _ Hp1.out Hp2.out (fun W hW=>HT.out W (Hbb3.out.trans hW)) (Hs2.out.below (HS.out _ Hbb3.out) (fun b h=>h)) (fun b h=>Nat.lt_trans h hz) HB3.out (by simp only[List.length_append,Lib.strCells_length];have:=HL.out;omega) Hbb3.out.size).mono ?_
 rintro e w4 ⟨rfl,hB4,hb4⟩
 have HB4:=cH hB4;have Hbb4:=cH (Hbb3.out.trans hb4)
 clear hB4 hb4 HB3 Hbb3 d5
 have d6:=zAA Hbb4.out a6 hz
 go_wp2_with fail
 refine (zFQ zBy (by decide) A3 n3 c3 opts w4 (fun b=>b<w.heap.size) w0.heap.size w0.heap.size _ Ho1.out Ho2.out (fun W hW=>HT.out W (Hbb4.out.trans hW)) (Hs3.out.below (HS.out _ Hbb4.out) (fun b h=>h)) (fun b h=>Nat.lt_trans h hz) HB4.out (by simp only[List.length_append,Lib.strCells_length];have:=HL.out;omega) Hbb4.out.size).mono ?_
 rintro e w5 ⟨rfl,hB5,hb5⟩
 have HB5:Hid (IsB w0.heap.size w0.heap.size (Lib.byteCells R.data.toList) w5):=by
  unfold Hid;rw[←Lib.strCells_eq,Hpt.out,zBi,zBi,zBi];exact hB5
 have Hbb5:=cH (Hbb4.out.trans hb5)
 clear hB5 hb5 HB4 Hbb4 d6
 go_wp2_with fail
 refine (Tryz.Builder_String_any _ _ _ _ HB5.out Hbb5.out.size).mono ?_
 rintro e w6 ⟨rfl,hb6⟩
 go_wp2_with fail
 go_ret
 exact ⟨rfl,HS.out _ (Hbb5.out.trans hb6)⟩
theorem zC1 {w:World} {S:Nat→Prop} {l:List Dep} {v:Value} (h:SlV rDep w S l v):(zAn rDep).holds w S l [v]:=h
theorem zIG {w:World} {a b c:List Dep} {u v x:Value} (t:TypeId) (h1:SlV rDep w (fun _=>True) a u) (h2:SlV rDep w (fun _=>True) b v) (h3:SlV rDep w (fun _=>True) c x) :
  SlV (zAn rDep) (w.alloc (.cells #[u,v,x] t)) (fun _=>True) [a,b,c] (.slice (some ⟨w.heap.size,0,none⟩) 3 3):=by
 have hE:Elems (zAn rDep) (w.alloc (.cells #[u,v,x] t)) (fun _=>True) [a,b,c] [u,v,x]:=⟨[u],[v,x],rfl,zC1 (h1.alloc _),[v],[x],rfl,zC1 (h2.alloc _),[x],[],rfl,zC1 (h3.alloc _),rfl⟩
 exact SlV.of_block (zAD w _) hE trivial rfl (nR 3) (by decide)
theorem zE0 (p:Pack) (v:Value) (w:World) (S:Nat→Prop) (ht:Tab w) (hv:PackV w S p v) :
  Calls Tryz.prog 71 #[v] w fun e w'=>e=.returned (.bool (packB p))∧Below w.heap.size w w':=by
 have hv':=hv
 obtain ⟨A1,n1,c1,A2,n2,c2,A3,n3,c3,rfl,hnm,h1,h2,h3⟩:=hv
 have h1':=h1.more (S':=fun _=>True) fun b _ h=>trivial
 have h2':=h2.more (S':=fun _=>True) fun b _ h=>trivial
 have h3':=h3.more (S':=fun _=>True) fun b _ h=>trivial
 have Hs1:=cH h1';have Hs2:=cH h2';have Hs3:=cH h3';clear h1 h2 h3 h1' h2' h3'
 have Hv:=cH hv';clear hv'
 have Ht:=cH ht;clear ht
 have HR:Hid (packB p=(nameB p.name&&(verB p.ver.major p.ver.minor p.ver.patch&&(listB p.deps&&(listB p.peers&&(listB p.opts&&(zBM (zAO [p.deps,p.peers,p.opts])&&decide ((zBJ p).size≤4096)))))))):=rfl
 have Htx:Hid (∀ W,Tab W→nameB p.name=true→listB p.deps=true→listB p.peers=true→listB p.opts=true→Below w.heap.size w W→Calls Tryz.prog 127 #[.agg #[.string p.name,.int .i64 p.ver.major,.int .i64 p.ver.minor,.int .i64 p.ver.patch,.slice A1 n1 c1,.slice A2 n2 c2,.slice A3 n3 c3]] W fun e w'=>e=.returned (.string (zBJ p))∧Below W.heap.size W w'):=
  fun W hT a b c d hW=>zHV p _ W S hT (zD2 a) b c d (Hv.out.keep hW)
 generalize packB p=R at *
 generalize zBJ p=T at *
 obtain ⟨name,⟨x1,x2,x3⟩,deps,peers,opts⟩:=p
 dsimp only at *
 clear Hv
 have Hap:Hid (∀ W,listB deps=true→listB peers=true→listB opts=true→∀ A n c S,SlV (zAn rDep) W S [deps,peers,opts] (.slice A n c)→Calls Tryz.prog 126 #[.slice A n c] W fun e w'=>e=.returned (.bool (zBM (zAO [deps,peers,opts])))∧Below W.heap.size W w'):=
  fun W a b c A n cc S h=>zJ4 A n cc _ W S (by have:=(zAR a).1;have:=(zAR b).1;have:=(zAR c).1;simp[zAO,zAI];omega) h
 generalize zBM (zAO [deps,peers,opts])=v6 at *
 have H1:Hid (∀ W,Calls Tryz.prog 36 #[.string name] W fun e w'=>e=.returned (.bool (nameB name))∧Below W.heap.size W w'):=fun W=>zBg name hnm W
 have H2:Hid (∀ W,Calls Tryz.prog 124 #[.agg #[.int .i64 x1,.int .i64 x2,.int .i64 x3]] W fun e w'=>e=.returned (.bool (verB x1 x2 x3))∧Below W.heap.size W w'):=fun W=>zDf _ _ _ W
 have H3:Hid (∀ W,Below w.heap.size w W→Calls Tryz.prog 125 #[.slice A1 n1 c1] W fun e w'=>e=.returned (.bool (listB deps))∧Below W.heap.size W w'):=fun W hW=>zGb _ _ _ deps W _ (Hs1.out.belowSize hW)
 have H4:Hid (∀ W,Below w.heap.size w W→Calls Tryz.prog 125 #[.slice A2 n2 c2] W fun e w'=>e=.returned (.bool (listB peers))∧Below W.heap.size W w'):=fun W hW=>zGb _ _ _ peers W _ (Hs2.out.belowSize hW)
 have H5:Hid (∀ W,Below w.heap.size w W→Calls Tryz.prog 125 #[.slice A3 n3 c3] W fun e w'=>e=.returned (.bool (listB opts))∧Below W.heap.size W w'):=fun W hW=>zGb _ _ _ opts W _ (Hs3.out.belowSize hW)
 generalize nameB name=v1 at *
 generalize verB x1 x2 x3=v2 at *
 generalize listB deps=v3 at *
 generalize listB peers=v4 at *
 generalize listB opts=v5 at *
 clear hnm
 go_enter Tryz.func71,Tryz.ntmps71
 go_wp2_with fail
 obtain ⟨w0,hw0⟩:∃ w0,w0=w.alloc (.cells #[.string name,.int .i64 x1,.int .i64 x2,.int .i64 x3,.slice A1 n1 c1,.slice A2 n2 c2,.slice A3 n3 c3] 52):=⟨_,rfl⟩
 have hz:w.heap.size<w0.heap.size:=by rw[hw0];simp[go_sem]
 have hb0:Below w.heap.size w w0:=by rw[hw0];exact bal (bR _ _) _
 have a0:w0.cell? ⟨w.heap.size,0,none⟩=some (.string name):=by rw[hw0];simp[go_sem]
 have a1:w0.cell? ⟨w.heap.size,1,none⟩=some (.int .i64 x1):=by rw[hw0];simp[go_sem]
 have a2:w0.cell? ⟨w.heap.size,2,none⟩=some (.int .i64 x2):=by rw[hw0];simp[go_sem]
 have a3:w0.cell? ⟨w.heap.size,3,none⟩=some (.int .i64 x3):=by rw[hw0];simp[go_sem]
 have a4:w0.cell? ⟨w.heap.size,4,none⟩=some (.slice A1 n1 c1):=by rw[hw0];simp[go_sem]
 have a5:w0.cell? ⟨w.heap.size,5,none⟩=some (.slice A2 n2 c2):=by rw[hw0];simp[go_sem]
 have a6:w0.cell? ⟨w.heap.size,6,none⟩=some (.slice A3 n3 c3):=by rw[hw0];simp[go_sem]
 rw[←hw0]
 have HB0:=cH hb0;clear hb0 hw0
 refine (H1.out w0).mono ?_
 rintro e w1 ⟨rfl,B1⟩
 have HS:Hid (∀ W,Below w0.heap.size w0 W→Below w.heap.size w W):=fun W hW=>bot HB0.out hW
 have Q1:=cH B1;clear B1
 cases v1
 ·have He:Hid (R=false):=HR.out
  go_wp2_with fail
  go_ret
  exact ⟨zAB He.out.symm,HS.out _ Q1.out⟩
 have b1:=zAA Q1.out a1 hz
 have b2:=zAA Q1.out a2 hz
 have b3:=zAA Q1.out a3 hz
 go_wp2_with fail
 refine (H2.out w1).mono ?_
 rintro e w2 ⟨rfl,B2⟩
 have Q2:=cH (bot Q1.out B2);clear B2 b1 b2 b3
 cases v2
 ·have He:Hid (R=false):=HR.out
  go_wp2_with fail
  go_ret
  exact ⟨zAB He.out.symm,HS.out _ Q2.out⟩
 have b1:=zAA Q2.out a4 hz
 go_wp2_with fail
 refine (H3.out w2 (HS.out _ Q2.out)).mono ?_
 rintro e w3 ⟨rfl,B3⟩
 have Q3:=cH (bot Q2.out B3);clear B3 b1
 cases v3
 ·have He:Hid (R=false):=HR.out
  go_wp2_with fail
  go_ret
  exact ⟨zAB He.out.symm,HS.out _ Q3.out⟩
 have b1:=zAA Q3.out a5 hz
 go_wp2_with fail
 refine (H4.out w3 (HS.out _ Q3.out)).mono ?_
 rintro e w4 ⟨rfl,B4⟩
 have Q4:=cH (bot Q3.out B4);clear B4 b1
 cases v4
 ·have He:Hid (R=false):=HR.out
  go_wp2_with fail
  go_ret
  exact ⟨zAB He.out.symm,HS.out _ Q4.out⟩
 have b1:=zAA Q4.out a6 hz
 go_wp2_with fail
 refine (H5.out w4 (HS.out _ Q4.out)).mono ?_
 rintro e w5 ⟨rfl,B5⟩
 have Q5:=cH (bot Q4.out B5);clear B5 b1
 cases v5
 ·have He:Hid (R=false):=HR.out
  go_wp2_with fail
  go_ret
  exact ⟨zAB He.out.symm,HS.out _ Q5.out⟩
 have b4:=zAA Q5.out a4 hz
 have b5:=zAA Q5.out a5 hz
 have b6:=zAA Q5.out a6 hz
 go_wp2_with fail
 refine (Hap.out _ trivial trivial trivial _ _ _ _ (zIG _ (Hs1.out.belowSize (HS.out _ Q5.out)) (Hs2.out.belowSize (HS.out _ Q5.out)) (Hs3.out.belowSize (HS.out _ Q5.out)))).mono ?_
 rintro e w6 ⟨rfl,B6⟩
 have Q6:=cH (bot Q5.out (bnew B6));clear B6 b4 b5 b6
 cases v6
 ·have He:Hid (R=false):=HR.out
  go_wp2_with fail
  go_ret
  exact ⟨zAB He.out.symm,HS.out _ Q6.out⟩
 have b0:=zAA Q6.out a0 hz
 have b1:=zAA Q6.out a1 hz
 have b2:=zAA Q6.out a2 hz
 have b3:=zAA Q6.out a3 hz
 have b4:=zAA Q6.out a4 hz
 have b5:=zAA Q6.out a5 hz
 have b6:=zAA Q6.out a6 hz
 go_wp2_with fail
 refine (Htx.out w6 (zAY Ht.out (HS.out _ Q6.out)) trivial trivial trivial trivial (HS.out _ Q6.out)).mono ?_
 rintro e w7 ⟨rfl,B7⟩
 have Q7:=cH (bot Q6.out B7);clear B7 b0 b1 b2 b3 b4 b5 b6
 by_cases hs:T.size≤4096
 ·have He:Hid (R=true):=by unfold Hid;rw[HR.out];simp[hs]
  have hsi:(T.size:Int)≤4096:=by omega
  clear hs
  go_wp2_with fail
  go_ret
  exact ⟨zAB (by rw[He.out]),HS.out _ Q7.out⟩
 ·have He:Hid (R=false):=by unfold Hid;rw[HR.out];simp[hs]
  have hsi:¬(T.size:Int)≤4096:=by omega
  clear hs
  go_wp2_with fail
  go_ret
  exact ⟨zAB (by rw[He.out];first|rfl|simp[hsi]),HS.out _ Q7.out⟩
theorem zCW (p:Pack) (v:Value) (w:World) (S:Nat→Prop) (hv:PackV w S p v) :
  Calls Tryz.prog 63 #[v] w fun e w'=>e=.returned (.bool (packB p))∧Below w.heap.size w w':=by
 have hv':=hv
 obtain ⟨A1,n1,c1,A2,n2,c2,A3,n3,c3,rfl,hnm,h1,h2,h3⟩:=hv
 have h1':=h1.more (S':=fun _=>True) fun b _ h=>trivial
 have h2':=h2.more (S':=fun _=>True) fun b _ h=>trivial
 have h3':=h3.more (S':=fun _=>True) fun b _ h=>trivial
 have Hs1:=cH h1';have Hs2:=cH h2';have Hs3:=cH h3';clear h1 h2 h3 h1' h2' h3'
 have Hv:=cH hv';clear hv'
 have HR:Hid (packB p=(nameB p.name&&(verB p.ver.major p.ver.minor p.ver.patch&&(listB p.deps&&(listB p.peers&&(listB p.opts&&(zBM (zAO [p.deps,p.peers,p.opts])&&decide ((zBJ p).size≤4096)))))))):=rfl
 have Htx:Hid (∀ W,nameB p.name=true→listB p.deps=true→listB p.peers=true→listB p.opts=true→Below w.heap.size w W→Calls Tryz.prog 107 #[.agg #[.string p.name,.int .i64 p.ver.major,.int .i64 p.ver.minor,.int .i64 p.ver.patch,.slice A1 n1 c1,.slice A2 n2 c2,.slice A3 n3 c3]] W fun e w'=>e=.returned (.string (zBJ p))∧Below W.heap.size W w'):=
  fun W a b c d hW=>zEm p _ W S (zD2 a) b c d (Hv.out.keep hW)
 generalize packB p=R at *
 generalize zBJ p=T at *
 obtain ⟨name,⟨x1,x2,x3⟩,deps,peers,opts⟩:=p
 dsimp only at *
 clear Hv
 have Hap:Hid (listB deps=true→listB peers=true→listB opts=true→zBM (zAO [deps,peers,opts])=(disjB deps peers&&disjB deps opts&&disjB peers opts)):=fun a b c=>zMS a b c
 have G1:Hid (∀ W,Below w.heap.size w W→Calls Tryz.prog 106 #[.slice A1 n1 c1,.slice A2 n2 c2] W fun e w'=>e=.returned (.bool (disjB deps peers))∧Below W.heap.size W w'):=fun W hW=>zBh _ _ _ _ _ _ deps peers W _ _ (Hs1.out.belowSize hW) (Hs2.out.belowSize hW)
 have G2:Hid (∀ W,Below w.heap.size w W→Calls Tryz.prog 106 #[.slice A1 n1 c1,.slice A3 n3 c3] W fun e w'=>e=.returned (.bool (disjB deps opts))∧Below W.heap.size W w'):=fun W hW=>zBh _ _ _ _ _ _ deps opts W _ _ (Hs1.out.belowSize hW) (Hs3.out.belowSize hW)
 have G3:Hid (∀ W,Below w.heap.size w W→Calls Tryz.prog 106 #[.slice A2 n2 c2,.slice A3 n3 c3] W fun e w'=>e=.returned (.bool (disjB peers opts))∧Below W.heap.size W w'):=fun W hW=>zBh _ _ _ _ _ _ peers opts W _ _ (Hs2.out.belowSize hW) (Hs3.out.belowSize hW)
 generalize disjB deps peers=g1 at *
 generalize disjB deps opts=g2 at *
 generalize disjB peers opts=g3 at *
 generalize zBM (zAO [deps,peers,opts])=v6 at *
 have H1:Hid (∀ W,Calls Tryz.prog 97 #[.string name] W fun e w'=>e=.returned (.bool (nameB name))∧Below W.heap.size W w'):=fun W=>(zBr name hnm W).mono fun e w' h=>⟨h.1,h.2▸bR _ _⟩
 have H2:Hid (∀ W,Calls Tryz.prog 104 #[.agg #[.int .i64 x1,.int .i64 x2,.int .i64 x3]] W fun e w'=>e=.returned (.bool (verB x1 x2 x3))∧Below W.heap.size W w'):=fun W=>zBL _ _ _ W
 have H3:Hid (∀ W,Below w.heap.size w W→Calls Tryz.prog 105 #[.slice A1 n1 c1] W fun e w'=>e=.returned (.bool (listB deps))∧Below W.heap.size W w'):=fun W hW=>zBa _ _ _ deps W _ (Hs1.out.belowSize hW)
 have H4:Hid (∀ W,Below w.heap.size w W→Calls Tryz.prog 105 #[.slice A2 n2 c2] W fun e w'=>e=.returned (.bool (listB peers))∧Below W.heap.size W w'):=fun W hW=>zBa _ _ _ peers W _ (Hs2.out.belowSize hW)
 have H5:Hid (∀ W,Below w.heap.size w W→Calls Tryz.prog 105 #[.slice A3 n3 c3] W fun e w'=>e=.returned (.bool (listB opts))∧Below W.heap.size W w'):=fun W hW=>zBa _ _ _ opts W _ (Hs3.out.belowSize hW)
 generalize nameB name=v1 at *
 generalize verB x1 x2 x3=v2 at *
 generalize listB deps=v3 at *
 generalize listB peers=v4 at *
 generalize listB opts=v5 at *
 clear hnm
 go_enter Tryz.func63,Tryz.ntmps63
 go_wp2_with fail
 obtain ⟨w0,hw0⟩:∃ w0,w0=w.alloc (.cells #[.string name,.int .i64 x1,.int .i64 x2,.int .i64 x3,.slice A1 n1 c1,.slice A2 n2 c2,.slice A3 n3 c3] 52):=⟨_,rfl⟩
 have hz:w.heap.size<w0.heap.size:=by rw[hw0];simp[go_sem]
 have hb0:Below w.heap.size w w0:=by rw[hw0];exact bal (bR _ _) _
 have a0:w0.cell? ⟨w.heap.size,0,none⟩=some (.string name):=by rw[hw0];simp[go_sem]
 have a1:w0.cell? ⟨w.heap.size,1,none⟩=some (.int .i64 x1):=by rw[hw0];simp[go_sem]
 have a2:w0.cell? ⟨w.heap.size,2,none⟩=some (.int .i64 x2):=by rw[hw0];simp[go_sem]
 have a3:w0.cell? ⟨w.heap.size,3,none⟩=some (.int .i64 x3):=by rw[hw0];simp[go_sem]
 have a4:w0.cell? ⟨w.heap.size,4,none⟩=some (.slice A1 n1 c1):=by rw[hw0];simp[go_sem]
 have a5:w0.cell? ⟨w.heap.size,5,none⟩=some (.slice A2 n2 c2):=by rw[hw0];simp[go_sem]
 have a6:w0.cell? ⟨w.heap.size,6,none⟩=some (.slice A3 n3 c3):=by rw[hw0];simp[go_sem]
 rw[←hw0]
 have HB0:=cH hb0;clear hb0 hw0
 refine (H1.out w0).mono ?_
 rintro e w1 ⟨rfl,B1⟩
 have HS:Hid (∀ W,Below w0.heap.size w0 W→Below w.heap.size w W):=fun W hW=>bot HB0.out hW
 have Q1:=cH B1;clear B1
 cases v1
 ·have He:Hid (R=false):=HR.out
  go_wp2_with fail
  go_ret
  exact ⟨zAB He.out.symm,HS.out _ Q1.out⟩
 have b1:=zAA Q1.out a1 hz
 have b2:=zAA Q1.out a2 hz
 have b3:=zAA Q1.out a3 hz
 go_wp2_with fail
 refine (H2.out w1).mono ?_
 rintro e w2 ⟨rfl,B2⟩
 have Q2:=cH (bot Q1.out B2);clear B2 b1 b2 b3
 cases v2
 ·have He:Hid (R=false):=HR.out
  go_wp2_with fail
  go_ret
  exact ⟨zAB He.out.symm,HS.out _ Q2.out⟩
 have b1:=zAA Q2.out a4 hz
 go_wp2_with fail
 refine (H3.out w2 (HS.out _ Q2.out)).mono ?_
 rintro e w3 ⟨rfl,B3⟩
 have Q3:=cH (bot Q2.out B3);clear B3 b1
 cases v3
 ·have He:Hid (R=false):=HR.out
  go_wp2_with fail
  go_ret
  exact ⟨zAB He.out.symm,HS.out _ Q3.out⟩
 have b1:=zAA Q3.out a5 hz
 go_wp2_with fail
 refine (H4.out w3 (HS.out _ Q3.out)).mono ?_
 rintro e w4 ⟨rfl,B4⟩
 have Q4:=cH (bot Q3.out B4);clear B4 b1
 cases v4
 ·have He:Hid (R=false):=HR.out
  go_wp2_with fail
  go_ret
  exact ⟨zAB He.out.symm,HS.out _ Q4.out⟩
 have b1:=zAA Q4.out a6 hz
 go_wp2_with fail
 refine (H5.out w4 (HS.out _ Q4.out)).mono ?_
 rintro e w5 ⟨rfl,B5⟩
 have Q5:=cH (bot Q4.out B5);clear B5 b1
 cases v5
 ·have He:Hid (R=false):=HR.out
  go_wp2_with fail
  go_ret
  exact ⟨zAB He.out.symm,HS.out _ Q5.out⟩
 have Hv6:Hid (v6=(g1&&g2&&g3)):=Hap.out (by trivial) (by trivial) (by trivial)
 clear Hap
 have b4:=zAA Q5.out a4 hz
 have b5:=zAA Q5.out a5 hz
 go_wp2_with fail
 refine (G1.out w5 (HS.out _ Q5.out)).mono ?_
 rintro e w6 ⟨rfl,B6⟩
 have Q6:=cH (bot Q5.out B6);clear B6 b4 b5
 cases g1
 ·have He:Hid (R=false):=by unfold Hid;rw[HR.out,Hv6.out];rfl
  go_wp2_with fail
  go_ret
  exact ⟨zAB He.out.symm,HS.out _ Q6.out⟩
 have b4:=zAA Q6.out a4 hz
 have b5:=zAA Q6.out a6 hz
 go_wp2_with fail
 refine (G2.out w6 (HS.out _ Q6.out)).mono ?_
 rintro e w61 ⟨rfl,B6⟩
 have Q61:=cH (bot Q6.out B6);clear B6 b4 b5
 cases g2
 ·have He:Hid (R=false):=by unfold Hid;rw[HR.out,Hv6.out];rfl
  go_wp2_with fail
  go_ret
  exact ⟨zAB He.out.symm,HS.out _ Q61.out⟩
 have b4:=zAA Q61.out a5 hz
 have b5:=zAA Q61.out a6 hz
 go_wp2_with fail
 refine (G3.out w61 (HS.out _ Q61.out)).mono ?_
 rintro e w62 ⟨rfl,B6⟩
 have Q62:=cH (bot Q61.out B6);clear B6 b4 b5
 cases g3
 ·have He:Hid (R=false):=by unfold Hid;rw[HR.out,Hv6.out];rfl
  go_wp2_with fail
  go_ret
  exact ⟨zAB He.out.symm,HS.out _ Q62.out⟩
 have Hv:Hid (v6=true):=Hv6.out
 clear Hv6
 have b0:=zAA Q62.out a0 hz
 have b1:=zAA Q62.out a1 hz
 have b2:=zAA Q62.out a2 hz
 have b3:=zAA Q62.out a3 hz
 have b4:=zAA Q62.out a4 hz
 have b5:=zAA Q62.out a5 hz
 have b6:=zAA Q62.out a6 hz
 go_wp2_with fail
 refine (Htx.out w62 trivial trivial trivial trivial (HS.out _ Q62.out)).mono ?_
 rintro e w7 ⟨rfl,B7⟩
 have Q7:=cH (bot Q62.out B7);clear B7 b0 b1 b2 b3 b4 b5 b6
 by_cases hs:T.size≤4096
 ·have He:Hid (R=true):=by unfold Hid;rw[HR.out,Hv.out];simp[hs]
  have hsi:(T.size:Int)≤4096:=by omega
  clear hs
  go_wp2_with fail
  go_ret
  exact ⟨zAB (by rw[He.out]),HS.out _ Q7.out⟩
 ·have He:Hid (R=false):=by unfold Hid;rw[HR.out,Hv.out];simp[hs]
  have hsi:¬(T.size:Int)≤4096:=by omega
  clear hs
  go_wp2_with fail
  go_ret
  exact ⟨zAB (by rw[He.out];first|rfl|simp[hsi]),HS.out _ Q7.out⟩
