/- Files copied, and held against others (slices.Clone, slices.Equal): walked. -/
import Derived.Test.YthbnmehbhpakaaaGreatDoorBk24
import Derived.Test.YthbnmehbhpakaaaGreatDoorBk14
import Derived.Test.YthbnmehbhpakaaaGreatDoorBk22
import Derived.Test.YthbnmehbhpakaaaGreatDoorBk21
import Derived.Test.YthbnmehbhpakaaaGreatDoorBk25
import Derived.Test.YthbnmehbhpakaaaGreatDoorBk13
import Derived.Lib.Strings
import Derived.Test.YthbnmehbhpakaaaGreatDoorAl
set_option linter.all false
set_option maxHeartbeats 2000000
set_option maxRecDepth 100000
namespace Go.Proofs.YthbnmehbhpakaaaGreatDoor
open Go.Rows Go.RowKit Go.Shelf Go.Sort
theorem zS5 {w:World} {base:Nat} {e:TypeId} {v:Value} {l:List File} {S:Nat→Prop} (h:Own rFile w base e v l S):Own rFile w base e v l (fun _=>False):=by
 obtain ⟨h0,xs,h1,h2⟩:=h
 exact ⟨fun b hb=>hb.elim,xs,h1,zGr h2⟩
theorem zJx (A:Option Addr) (n c:Nat) (l:List File) (w:World) (S:Nat→Prop) (hreach:l.length≤2000000) (hl:SlV rFile w S l (.slice A n c)) :
  Calls Tryz.prog 42 #[.slice A n c] w fun e w'=>∃ v,e=.returned v∧Own rFile w' w.heap.size 45 v l (fun _=>False)∧Below w.heap.size w w':=by
 have he:=fun W=>Lib.run_eql_slice_nil (P:=Tryz.prog) W 33 45 A n c 0 0 Tryz.underlying33
 rcases A with _|ad
 ·obtain ⟨rfl,rfl⟩:=hl.none_
  have hn0:n=0:=hl.n_eq
  subst hn0
  simp only[Option.isNone_none] at he
  go_enter Tryz.func42,Tryz.ntmps42
  go_wp2
  go_ret
  exact ⟨_,rfl,Own.nil_ _ _ _ _ (fun b hb=>hb.elim),bR _ _⟩
 ·simp only[Option.isNone_some] at he
  go_enter Tryz.func42,Tryz.ntmps42
  have hnx:=hl.n_eq
  have Hnx:=cH hnx;clear hnx
  go_wp2_with (at_builtin;(refine zCd (by rfl) _ _ _ (by rfl) zFe Tryz.underlying33 (by rfl) (Own.empty rFile w w.heap.size 45 (nR _)) (fun b=>S b∧b<w.heap.size) l _ _ _ (by rfl) ((hl.more fun b h1 h2=>⟨h1,h2⟩).alloc _) ?_ ?_ ?_ ?_ ?_);rotate_right;(intro v1 w1 hown1 hgrow hat))
  rotate_left
  ·intro b hb he
   simp[Value.ownBlock] at he
   omega
  ·simp[maxLen];omega
  ·simp;omega
  ·simp
  go_ret
  exact ⟨_,rfl,zS5 hown1,((bR _ _).alloc (nR _) _).grown hgrow (by simp) (fun k hk=>by simp[Value.ownBlock] at hk;omega)⟩
theorem zIC (A B:Option Addr) (n m c d:Nat) (xs ys:List File) (w:World) (S T:Nat→Prop) (hx:SlV rFile w S xs (.slice A n c)) (hy:SlV rFile w T ys (.slice B m d)) :
  Calls Tryz.prog 43 #[.slice A n c,.slice B m d] w fun e w'=>e=.returned (.bool (eqB xs ys))∧Below w.heap.size w w':=by
 have hnx:=hx.n_eq
 have hny:=hy.n_eq
 have hcx:=hx.cap_le
 unfold maxLen at hcx
 by_cases hnm:n=m
 case neg=>
  have hb:((n:Int) != (m:Int))=true:=by simp;omega
  have He:Hid (eqB xs ys=false):=zAD (by rintro rfl;omega)
  clear hnx hny hcx hx hy hnm
  generalize eqB xs ys=r at *
  go_enter Tryz.func43,Tryz.ntmps43
  go_wp2_with fail
  go_ret
  exact ⟨zAB He.out.symm,bR _ _⟩
 have hb:((n:Int) != (m:Int))=false:=by simp[hnm]
 have hn63:n≤9223372036854775807:=by omega
 have Hx:=cH (hx.more (S':=fun b=>b<w.heap.size) fun b _ h=>h)
 have Hy:=cH (hy.more (S':=fun b=>b<w.heap.size) fun b _ h=>h)
 have Hpos:Hid (xs=ys→eqB xs ys=true):=fun h=>zAF h
 have Hneg:Hid (xs≠ys→eqB xs ys=false):=fun h=>zAD h
 have Hnx:=cH hnx
 have Hny:=cH hny
 have Hnm:=cH hnm
 clear hcx hx hy hnx hny hnm
 generalize eqB xs ys=r at *
 go_enter Tryz.func43,Tryz.ntmps43
 go_wp2_with fail
 go_loopw [13] (fun i wr=>∃ k:Nat,k≤n∧i=.int .i64 k∧Hid (xs.take k=ys.take k)∧Hid (Below w.heap.size w wr)) (fun i _=>n - (intOf i).toNat)
 case atStart=>exact ⟨0,nZ _,rfl,by simp[Hid],bR _ _⟩
 case round=>
  obtain ⟨k,hk,rfl,Heq,HB⟩:=hrel
  by_cases hlt:k<n
  case neg=>
   have hr:=Hpos.out (zBH Heq.out (by have:=Hnx.out;omega) (by have:=Hny.out;have:=Hnm.out;omega))
   subst hr
   have hI:¬(k:Int)<(n:Int):=by omega
   clear Hpos Hneg Heq
   go_wp2_with fail
   go_ret
   exact ⟨rfl,HB.out⟩
  have hkx:k<xs.length:=by have:=Hnx.out;omega
  have hky:k<ys.length:=by have:=Hny.out;have:=Hnm.out;omega
  have hkm:(k:Int)<(m:Int):=by have:=Hnm.out;omega
  have hkn:(k:Int)<(n:Int):=by omega
  have hk0:(0:Int)≤(k:Int):=by omega
  have hxw:=Hx.out.below HB.out (fun b h=>h)
  have hyw:=Hy.out.below HB.out (fun b h=>h)
  obtain ⟨b,o,cs,rfl,_,hb1,⟨rfl,_,_⟩,hcell⟩:=hxw.elem (gE hkx)
  obtain ⟨b',o',cs',rfl,_,hb2,⟨rfl,_,_⟩,hcell'⟩:=hyw.elem (gE hky)
  have c0:=hcell 0 _ rfl
  have c1:=hcell 1 _ rfl
  have c2:=hcell 2 _ rfl
  have d0:=hcell' 0 _ rfl
  have d1:=hcell' 1 _ rfl
  have d2:=hcell' 2 _ rfl
  simp only[rFile,Nat.add_zero] at c0 c1 c2 d0 d1 d2
  have Hne:=cH (fun h=>ne_at hkx hky h)
  have Hen:=cH (fun h=>zB9 Heq.out hkx hky h)
  have hop:∀ W,(binOp .neq 45 (.agg #[.string xs[k].path,.bool xs[k].dir,.string xs[k].data]) (.agg #[.string ys[k].path,.bool ys[k].dir,.string ys[k].data])).run Tryz.prog W=.ok (.bool (!eqB xs[k] ys[k])) W:=fun W=>zNP W _ _ _ _ _ _
  have Hq1:Hid (eqB xs[k] ys[k]=true→xs.take (k+1)=ys.take (k+1)):=fun h=>Hen.out (zC9.1 h)
  have Hq2:Hid (eqB xs[k] ys[k]=false→r=false):=fun h=>Hneg.out (Hne.out (fun e=>by rw[zAF e] at h;cases h))
  clear hxw hyw hcell hcell' Hne Hen
  generalize eqB xs[k] ys[k]=q at *
  generalize xs[k].path=x1 at *
  generalize xs[k].dir=x2 at *
  generalize xs[k].data=x3 at *
  generalize ys[k].path=y1 at *
  generalize ys[k].dir=y2 at *
  generalize ys[k].data=y3 at *
  cases q
  ·have hr:=Hq2.out rfl
   subst hr
   clear Hq1 Hq2 Hpos Hneg
   go_wp2_with fail
   have r_c0:=cR c0
   have r_c1:=cR c1
   have r_c2:=cR c2
   have r_d0:=cR d0
   have r_d1:=cR d1
   have r_d2:=cR d2
   go_wp2_with fail
   refine wQ ?_
   repeat (go_big_quiet_step (first|fail))
   refine wpQuiet_nil fun wq Bq=>?_
   have HBq:=cH (bot HB.out Bq)
   clear Bq r_c0 r_d0
   go_wp2_with fail
   go_ret
   exact ⟨rfl,HBq.out⟩
  ·have Hn:=cH (Hq1.out rfl)
   clear Hq1 Hq2
   go_wp2_with fail
   have r_c0:=cR c0
   have r_c1:=cR c1
   have r_c2:=cR c2
   have r_d0:=cR d0
   have r_d1:=cR d1
   have r_d2:=cR d2
   go_wp2_with fail
   refine wQ ?_
   repeat (go_big_quiet_step (first|fail))
   refine wpQuiet_nil fun wq Bq=>?_
   have HBq:=cH (bot HB.out Bq)
   clear Bq r_c0 r_d0
   go_wp2_with fail
   go_roundw
   case rel=>exact ⟨k+1,by omega,by go_num,Hn,HBq⟩
   case measure=>simp[intOf];omega
end Go.Proofs.YthbnmehbhpakaaaGreatDoor
namespace Go.Proofs.YthbnmehbhpakaaaGreatDoor
open Go
theorem zCm {xs:List Dir}:∀ {l:List Dir} {i:Nat} {f:File},f∈zAX xs i l↔∃ j d,l[j]?=some d∧f∈zBm xs (i+j) d
 | [],i,f=>by
   constructor
   ·intro h;cases h
   ·rintro ⟨j,d,h,_⟩;simp at h
 | d::l,i,f=>by
   rw[zAX,List.mem_append,zCm]
   constructor
   ·rintro (h|⟨j,e,he,h⟩)
    ·exact ⟨0,d,rfl,h⟩
    ·exact ⟨j+1,e,he,by rwa [show i+(j+1)=i+1+j from by omega]⟩
   ·rintro ⟨j,e,he,h⟩
    cases j with
    | zero=>
      have he':d=e:=by simpa using he
      subst he'
      exact .inl h
    | succ j=>exact .inr ⟨j,e,he,by rwa [show i+1+j=i+(j+1) from by omega]⟩
def zTK (s:Proj) (f:File):Prop:=
 (∃ x,(x=manK∨x=lokK∨x=pruK)∧f.path=mkP [x]∧f.dir=false) ∨
 (∃ j d,s.dirs[j]?=some d∧((j≠0∧f.path=mkP (segs d.path)∧f.dir=true∧f.data=emB)∨(j≠0∧f.path=mkP (segs d.path++[pkgK])∧f.dir=false) ∨
   (zBC s.dirs j≠[]∧f.path=mkP (segs d.path++[modK])∧f.dir=true∧f.data=emB)))
theorem zSk:manF=mkP [manK]:=by apply ByteArray.ext;decide +kernel
theorem zSs:lokF=mkP [lokK]:=by apply ByteArray.ext;decide +kernel
theorem zPW:pruF=mkP [pruK]:=by apply ByteArray.ext;decide +kernel
theorem zGl:modF=mkP [modK]:=by apply ByteArray.ext;decide +kernel
theorem zMH:pkgF=mkP [pkgK]:=by apply ByteArray.ext;decide +kernel
theorem zER {p:List ByteArray} (h0:p≠[]) (h:p.all nameB=true) (x:List UInt8):textB p++mkP [x]=mkP (segs p++[x]):=by rw[zIP,zA8 h0 h]
theorem imgU_cases {s:Proj} (hd:∀ j d,s.dirs[j]?=some d→DirK j d) {f:File} (hf:f∈imgU s):zTK s f:=by
 unfold imgU at hf
 rcases List.mem_append.1 hf with hf|hf
 ·rcases List.mem_cons.1 hf with rfl|hf
  ·exact .inl ⟨manK,.inl rfl,zSk,rfl⟩
  ·rw[List.mem_singleton.1 hf]
   exact .inl ⟨lokK,.inr (.inl rfl),zSs,rfl⟩
 rcases List.mem_append.1 hf with hf|hf
 ·split at hf
  ·rw[List.mem_singleton.1 hf]
   exact .inl ⟨pruK,.inr (.inr rfl),zPW,rfl⟩
  ·cases hf
 obtain ⟨j,d,hj,h⟩:=zCm.1 hf
 rw[Nat.zero_add] at h
 have hK:=hd j d hj
 refine .inr ⟨j,d,hj,?_⟩
 unfold zBm at h
 rcases List.mem_append.1 h with h|h
 ·split at h
  ·cases h
  rename_i h0
  have hp:d.path≠[]:=fun e=>h0 (hK.2.2 e)
  rcases List.mem_cons.1 h with rfl|h
  ·exact .inl ⟨h0,zA8 hp hK.1,rfl,rfl⟩
  ·rw[List.mem_singleton.1 h]
   refine .inr (.inl ⟨h0,?_,rfl⟩)
   show textB d.path++pkgF=_
   rw[zMH,zER hp hK.1]
 ·split at h
  ·cases h
  rename_i h1
  rw[List.mem_singleton.1 h]
  refine .inr (.inr ⟨h1,?_,rfl,rfl⟩)
  show (if j=0 then modF else textB d.path++modF)=_
  split
  ·rename_i h0
   rw[hK.2.1 h0,zGl];rfl
  ·rename_i h0
   have hp:d.path≠[]:=fun e=>h0 (hK.2.2 e)
   rw[zGl,zER hp hK.1]
theorem zJH {s:Proj} (hd:∀ j d,s.dirs[j]?=some d→DirK j d) {j:Nat} {d:Dir} (hj:s.dirs[j]?=some d) (h0:j≠0) :
  (⟨mkP (segs d.path),true,emB⟩:File)∈imgU s∧(⟨mkP (segs d.path++[pkgK]),false,zAW d.pack⟩:File)∈imgU s:=by
 have hK:=hd j d hj
 have hp:d.path≠[]:=fun e=>h0 (hK.2.2 e)
 have hm:∀ f∈zBm s.dirs j d,f∈imgU s:=fun f hf=>by
  unfold imgU
  exact List.mem_append.2 (.inr (List.mem_append.2 (.inr (zCm.2 ⟨j,d,hj,by rw[Nat.zero_add];exact hf⟩))))
 rw[←zA8 hp hK.1,←zER hp hK.1,←zMH]
 refine ⟨hm _ ?_,hm _ ?_⟩<;>(unfold zBm;rw[if_neg h0];simp)
theorem zQ5 {s:Proj} (hd:∀ j d,s.dirs[j]?=some d→DirK j d) {j:Nat} {d:Dir} (hj:s.dirs[j]?=some d) (h1:zBC s.dirs j≠[]) :
  (⟨mkP (segs d.path++[modK]),true,emB⟩:File)∈imgU s:=by
 have hK:=hd j d hj
 unfold imgU
 refine List.mem_append.2 (.inr (List.mem_append.2 (.inr (zCm.2 ⟨j,d,hj,?_⟩))))
 rw[Nat.zero_add]
 unfold zBm
 refine List.mem_append.2 (.inr ?_)
 rw[if_neg h1,List.mem_singleton]
 congr 1
 split
 ·rename_i h0
  rw[hK.2.1 h0,zGl];rfl
 ·rename_i h0
  have hp:d.path≠[]:=fun e=>h0 (hK.2.2 e)
  rw[zGl,zER hp hK.1]
theorem zJQ {s:Proj} (hd:∀ j d,s.dirs[j]?=some d→DirK j d) {f:File} (hf:f∈imgU s) (hp:f.path=pruF):s.pruned=true:=by
 unfold imgU at hf
 rcases List.mem_append.1 hf with hf|hf
 ·rcases List.mem_cons.1 hf with rfl|hf
  ·exact absurd (congrArg ByteArray.size hp) (show ¬manF.size=pruF.size by decide)
  ·rw[List.mem_singleton.1 hf] at hp
   exact absurd (congrArg ByteArray.size hp) (show ¬lokF.size=pruF.size by decide)
 rcases List.mem_append.1 hf with hf|hf
 ·split at hf
  ·assumption
  ·cases hf
 obtain ⟨j,d,hj,h⟩:=zCm.1 hf
 rw[Nat.zero_add] at h
 have hK:=hd j d hj
 have hcl:=zCj hK.1
 have hz:=zCh d.path
 have hpc:noSl [pruK]:=fun s hs b hb=>by rw[List.mem_singleton.1 hs] at hb;revert b hb;decide
 have key:∀ k,noSl k→mkP k=pruF→k=[pruK]:=fun k hk e=>zJX hk hpc (e.trans zPW)
 have hcx:∀ x:List UInt8,(∀ b∈x,(b != 47)=true)→noSl (segs d.path++[x]):=fun x hx s hs=>by
  rcases List.mem_append.1 hs with hs|hs
  ·exact hcl s hs
  ·rw[List.mem_singleton.1 hs];exact hx
 have key2:∀ x:List UInt8,(∀ b∈x,(b != 47)=true)→mkP (segs d.path++[x])=pruF→x=pruK:=fun x hx e=>by
  have h1:=key _ (hcx x hx) e
  have h2:=congrArg List.length h1
  rw[List.length_append,List.length_singleton,List.length_singleton] at h2
  have h3:segs d.path=[]:=List.eq_nil_of_length_eq_zero (by omega)
  rw[h3] at h1
  simpa using h1
 unfold zBm at h
 rcases List.mem_append.1 h with h|h
 ·split at h
  ·cases h
  rename_i h0
  have hp0:d.path≠[]:=fun e=>h0 (hK.2.2 e)
  rcases List.mem_cons.1 h with rfl|h
  ·have h1:textB d.path=pruF:=hp
   rw[zA8 hp0 hK.1] at h1
   have h2:=congrArg List.length (key _ hcl h1)
   rw[List.length_singleton] at h2
   omega
  ·rw[List.mem_singleton.1 h] at hp
   have h1:textB d.path++pkgF=pruF:=hp
   rw[zMH,zER hp0 hK.1] at h1
   exact absurd (key2 pkgK (by decide) h1) (by decide)
 ·split at h
  ·cases h
  rw[List.mem_singleton.1 h] at hp
  have h1:(if j=0 then modF else textB d.path++modF)=pruF:=hp
  by_cases h0:j=0
  ·rw[if_pos h0] at h1
   exact absurd (congrArg ByteArray.size h1) (by decide)
  ·rw[if_neg h0] at h1
   have hp0:d.path≠[]:=fun e=>h0 (hK.2.2 e)
   rw[zGl,zER hp0 hK.1] at h1
   exact absurd (key2 modK (by decide) h1) (by decide)
theorem zM1 (k:List (List UInt8)):(mkP k).data.toList=sl k:=by simp[mkP]
theorem zDe (k:List (List UInt8)):(mkP k).size=(sl k).length:=by
 show (sl k).toArray.size=_
 simp
theorem zQx {k:List (List UInt8)} {j:Nat} (h:j<(mkP k).size):(mkP k)[j]=(sl k)[j]'(by rw[←zDe];exact h):=by
 have:(mkP k).data[j]'h=(mkP k).data.toList[j]'(by simpa using h):=by simp
 show (mkP k).data[j]'h=_
 rw[this]
 simp only[zM1]
theorem zPX:∀ (k:List (List UInt8)) (s:List UInt8),noSl (s::k)→cutS [] (s++sl k)=s::k
 | [],s,h=>by
   rw[sl,List.append_nil,zFQ _ _ fun b hb=>by simpa using h s (by simp) b hb]
   rfl
 | u::k,s,h=>by
   rw[sl,zMf _ _ _ fun b hb=>by simpa using h s (by simp) b hb,List.nil_append,zPX k u fun x hx=>h x (List.mem_cons_of_mem _ hx)]
theorem zC0 {k:List (List UInt8)} (h0:k≠[]) (hc:noSl k) (hp:∀ s∈k,zA3 (mkS s)=true) (hz:(mkP k).size≤4096):zAZ (mkP k)=true:=by
 obtain ⟨s,r,rfl⟩:∃ s r,k=s::r:=by
  cases k with
  | nil=>exact absurd rfl h0
  | cons s r=>exact ⟨s,r,rfl⟩
 unfold zAZ
 rw[decide_eq_true hz,zM1,sl]
 show (decide ((47:UInt8)=47)&&(cutS [] (s++sl r)).all fun l=>zA3 (mkS l))=true
 rw[zPX r s hc,List.all_eq_true.2 hp]
 rfl
theorem zOi {s:ByteArray} (h:nameB s=true):zA3 (mkS s.data.toList)=true:=by
 have e:mkS s.data.toList=s:=by
  unfold mkS
  apply ByteArray.ext
  simp
 rw[e]
 unfold nameB at h
 obtain ⟨l,hl⟩:∃ l,l=s.data.toList:=⟨_,rfl⟩
 have hz:s.size=l.length:=by rw[hl];show s.data.size=_;simp
 unfold zA3
 rw[Go.ByteArray.toList_eq,←hl,hz]
 rw[←hl] at h
 cases l with
 | nil=>cases h
 | cons c t=>
   simp only[nameL,Bool.and_eq_true,decide_eq_true_eq] at h
   obtain ⟨⟨h1,h2⟩,h3⟩:=h
   have hc:zCa c=true:=by unfold zCa;rw[h1];rfl
   have ht:t.all zCa=true:=List.all_eq_true.2 fun b hb=>by
    have:=List.all_eq_true.1 h2 b hb
    unfold nameC zMo at this
    unfold zCa
    simp only[Bool.or_eq_true] at this ⊢
    rcases this with h|h|h
    ·exact .inl (.inl (.inl h))
    ·exact .inl (.inl (.inr h))
    ·exact .inr h
   have hne:∀ r,(c::t==46::r)=false:=fun r=>by
    cases hb:(c::t==46::r) with
    | false=>rfl
    | true=>
      have:c::t=46::r:=by simpa using hb
      injection this with e1 _
      rw[e1] at h1
      revert h1;decide
   rw[hne,hne,List.all_cons,hc,ht,decide_eq_true (by simp),decide_eq_true (by simp only[List.length_cons];omega)]
   rfl
theorem zIq {p:List ByteArray} (h:p.all nameB=true):∀ s∈segs p,zA3 (mkS s)=true:=by
 induction p with
 | nil=>intro s hs;cases hs
 | cons x t ih=>
   rw[List.all_cons,Bool.and_eq_true] at h
   intro s hs
   rcases List.mem_cons.1 hs with rfl|hs
   ·decide +kernel
   ·rcases List.mem_cons.1 hs with rfl|hs
    ·exact zOi h.1
    ·exact ih h.2 s hs
theorem zPu (k:List (List UInt8)) (x:List UInt8) (hx:∀ b∈x,(b != 47)=true):upS (mkP (k++[x]))=if k=[] then ⟨#[47]⟩ else mkP k:=by
 have hsl:sl (k++[x])=sl k++47::x:=by rw[zFF,sl,sl,List.append_nil]
 have hz:(mkP (k++[x])).size=(sl k).length+1+x.length:=by rw[zDe,hsl,List.length_append,List.length_cons];omega
 have hn:(sl k).length<(mkP (k++[x])).size:=by omega
 have h47:((mkP (k++[x]))[(sl k).length].toNat:Int)=47:=by
  rw[zQx hn]
  simp only[hsl]
  rw[List.getElem_append_right (nR _)]
  simp
 have hno:∀ j,(sl k).length<j→∀ h:j<(mkP (k++[x])).size,((mkP (k++[x]))[j].toNat:Int)≠47:=fun j hj h e=>by
  rw[zQx h] at e
  simp only[hsl] at e
  rw[List.getElem_append_right (by omega)] at e
  obtain ⟨q,hq⟩:∃ q,j - (sl k).length=q+1:=⟨j - (sl k).length - 1,by omega⟩
  simp only[hq,List.getElem_cons_succ] at e
  have:=hx _ (List.getElem_mem (by omega:q<x.length))
  rw[bne_iff_ne] at this
  apply this
  apply UInt8.toNat_inj.1
  have h47':(47:UInt8).toNat=47:=rfl
  omega
 have hk0:k≠[]→0<(sl k).length:=fun h=>by
  cases k with
  | nil=>exact absurd rfl h
  | cons s t=>rw[sl,List.length_cons];omega
 rcases up_spec (mkP (k++[x])) with ⟨_,h2,h3⟩|⟨i,hi0,_,hu,hi,hi47,haf⟩
 ·have hk:k=[]:=by
   refine Classical.byContradiction fun hk=>?_
   exact h3 _ (hk0 hk) hn h47
  rw[if_pos hk,h2]
 ·have hin:i=(sl k).length:=by
   rcases Nat.lt_trichotomy i (sl k).length with h|h|h
   ·exact absurd h47 (haf _ h hn)
   ·exact h
   ·exact absurd hi47 (hno i h hi)
  have hk:k≠[]:=fun e=>by rw[hin,e] at hi0;simp[sl] at hi0
  rw[if_neg hk,hu,hin]
  apply ByteArray.ext
  apply Array.toList_inj.1
  rw[ByteArray.data_extract]
  simp[mkP,hsl]
theorem zMJ (a b:List ByteArray):segs (a++b)=segs a++segs b:=by
 induction a with
 | nil=>rfl
 | cons x a ih=>rw[List.cons_append,segs,ih,segs];rfl
theorem zSL {k:List (List UInt8)} {x:List UInt8} (hx:x≠[]):mkP (k++[x])≠zA4:=fun e=>by
 have h1:=congrArg ByteArray.size e
 rw[zDe,zFF,List.length_append] at h1
 have h2:zA4.size=1:=by decide
 have h3:(sl [x]).length=x.length+1:=by rw[sl,sl,List.append_nil,List.length_cons]
 have h4:0<x.length:=List.length_pos_iff.2 hx
 omega
theorem zKi {p:List ByteArray} (h0:p≠[]) (h:p.all nameB=true):∃ q n,p=q++[n]∧q.all nameB=true∧nameB n=true∧segs p=(segs q++[modK])++[n.data.toList]:=by
 refine ⟨p.dropLast,p.getLast h0,(List.dropLast_concat_getLast h0).symm,?_,List.all_eq_true.1 h _ (List.getLast_mem h0),?_⟩
 ·exact List.all_eq_true.2 fun x hx=>List.all_eq_true.1 h x ((List.dropLast_sublist p).subset hx)
 ·conv=>lhs;rw[←List.dropLast_concat_getLast h0]
  rw[zMJ]
  simp[segs]
theorem zNN {p:List ByteArray} (h0:p≠[]) (h:p.all nameB=true):textB p≠zA4:=by
 obtain ⟨q,n,_,_,hn,e⟩:=zKi h0 h
 rw[zA8 h0 h,e]
 exact zSL (fun e=>by unfold nameB at hn;rw[e] at hn;cases hn)
theorem zQH {l:List File} (hn:(zAm l).Nodup) {p:ByteArray} {f:File} (hp:p≠zA4) (hf:f∈l) (e:f.path=p):kindF l p=if f.dir=true then 2 else 1:=by
 rw[zGT hp,(zAw hn).2 ⟨hf,e⟩]
theorem zMr {p:List ByteArray} (h:p.all nameB=true) (x:List UInt8) (hx:∀ b∈x,(b != 47)=true):noSl (segs p++[x]):=fun s hs=>by
 rcases List.mem_append.1 hs with hs|hs
 ·exact zCj h s hs
 ·rw[List.mem_singleton.1 hs];exact hx
theorem zMx:∀ (l pre:List File),(zAm (pre++l)).Nodup→(∀ f∈l,zAZ f.path=true∧(f.dir=true→f.data=emB))→goodL pre l=true
 | [],_,_,_=>rfl
 | f::l,pre,hn,h=>by
   obtain ⟨h1,h2⟩:=h f (by simp)
   have hno:(zAK pre f.path).isSome=false:=by
    rw[zCU]
    unfold zAm at hn
    rw[List.map_append,List.nodup_append] at hn
    exact fun hm=>hn.2.2 _ hm _ (List.mem_map.2 ⟨f,by simp,rfl⟩) rfl
   rw[goodL,zMx l (pre++[f]) (by rw[List.append_assoc];exact hn) fun g hg=>h g (by simp[hg]),Bool.and_true]
   cases hfd:f.dir with
   | false=>exact zM8 hno h1 hfd
   | true=>exact zP7 hno h1 hfd (by rw[h2 hfd,Go.ByteArray.toList_eq];rfl)
theorem zRc {s:Proj} (h:mayI s=true) {j:Nat} {d:Dir} (hj:s.dirs[j]?=some d):(textB d.path).size≤1024:=by
 by_cases h0:j=0
 ·rw[((zB5 (zAv h)) j d hj).2.1 h0];decide
 ·exact (zEV (zAv h) hj (by omega)).2
theorem zKs {s:Proj} (h:mayI s=true) {f:File} (hf:f∈imgU s):zAZ f.path=true∧(f.dir=true→f.data=emB):=by
 have hd:=zB5 (zAv h)
 have hpc:∀ x:List UInt8,zA3 (mkS x)=true→∀ {p:List ByteArray},p.all nameB=true→∀ t∈segs p++[x],zA3 (mkS t)=true:=fun x hx p hp t ht=>by
  rcases List.mem_append.1 ht with ht|ht
  ·exact zIq hp t ht
  ·rw[List.mem_singleton.1 ht];exact hx
 have hsz:∀ {p:List ByteArray},p.all nameB=true→(textB p).size≤1024→∀ x:List UInt8,x.length≤20→(mkP (segs p++[x])).size≤4096:=fun {p} hp hz x hx=>by
  have e:(mkP (segs p++[x])).size=(mkP (segs p)).size+(x.length+1):=by
   rw[zDe,zDe,zFF,List.length_append]
   congr 1
   rw[sl,sl,List.append_nil,List.length_cons]
  by_cases h0:p=[]
  ·subst h0
   rw[e]
   have:(mkP (segs [])).size=0:=by rw[zDe];rfl
   omega
  ·rw[e,←zA8 h0 hp];omega
 rcases imgU_cases hd hf with ⟨x,hx,hpx,hdir⟩|⟨j,d,hj,hc⟩
 ·refine ⟨?_,fun e=>by rw[hdir] at e;cases e⟩
  rw[hpx]
  refine zC0 (by simp) (fun s hs=>by rw[List.mem_singleton.1 hs];rcases hx with rfl|rfl|rfl<;>decide) (fun s hs=>by rw[List.mem_singleton.1 hs];rcases hx with rfl|rfl|rfl<;>decide +kernel) ?_
  rw[zDe]
  rcases hx with rfl|rfl|rfl<;>decide
 ·have hK:=hd j d hj
  have ht:=zRc h hj
  rcases hc with ⟨h0,hp,_,hdt⟩|⟨h0,hp,hdir⟩|⟨_,hp,_,hdt⟩
  ·have hp0:d.path≠[]:=fun e=>h0 (hK.2.2 e)
   refine ⟨?_,fun _=>hdt⟩
   rw[hp]
   refine zC0 (fun e=>hp0 ?_) (zCj hK.1) (zIq hK.1) (by rw[←zA8 hp0 hK.1];omega)
   have:=zCh d.path
   rw[e,List.length_nil] at this
   exact List.eq_nil_of_length_eq_zero (by omega)
  ·refine ⟨?_,fun e=>by rw[hdir] at e;cases e⟩
   rw[hp]
   exact zC0 (by simp) (zMr hK.1 pkgK (by decide)) (hpc pkgK (by decide +kernel) hK.1) (hsz hK.1 ht pkgK (by decide))
  ·refine ⟨?_,fun _=>hdt⟩
   rw[hp]
   exact zC0 (by simp) (zMr hK.1 modK (by decide)) (hpc modK (by decide +kernel) hK.1) (hsz hK.1 ht modK (by decide))
theorem zQb {s:Proj} (h:mayI s=true) {f:File} (hf:f∈imgU s):kindF (imgU s) (upS f.path)=2:=by
 have hc:=zAv h
 have hd:=zB5 hc
 have hn:=zBw h
 have root:kindF (imgU s) ⟨#[47]⟩=2:=zEZ rfl
 have hom:∀ (j:Nat) (d:Dir) (x:List UInt8),s.dirs[j]?=some d→(∀ b∈x,(b != 47)=true)→kindF (imgU s) (upS (mkP (segs d.path++[x])))=2:=fun j d x hj hx=>by
  have hK:=hd j d hj
  rw[zPu _ _ hx]
  by_cases h0:j=0
  ·rw[hK.2.1 h0,if_pos (by rfl)];exact root
  ·have hp0:d.path≠[]:=fun e=>h0 (hK.2.2 e)
   have hs0:segs d.path≠[]:=fun e=>hp0 (by
    have:=zCh d.path
    rw[e,List.length_nil] at this
    exact List.eq_nil_of_length_eq_zero (by omega))
   rw[if_neg hs0]
   obtain ⟨g1,_⟩:=zJH hd hj h0
   rw[zQH hn (by rw[←zA8 hp0 hK.1];exact zNN hp0 hK.1) g1 rfl]
   rfl
 rcases imgU_cases hd hf with ⟨x,hx,hpx,_⟩|⟨j,d,hj,hcs⟩
 ·rw[hpx,show [x]=[]++[x] from rfl,zPu _ _ (by rcases hx with rfl|rfl|rfl<;>decide),if_pos rfl]
  exact root
 ·have hK:=hd j d hj
  rcases hcs with ⟨h0,hp,_,_⟩|⟨_,hp,_⟩|⟨_,hp,_,_⟩
  ·have hp0:d.path≠[]:=fun e=>h0 (hK.2.2 e)
   obtain ⟨hj',e'⟩:=gS.1 hj
   have hab:=zLY hc hj' (by omega)
   rw[e'] at hab
   obtain ⟨q,n,hq,hqn,hnn,hsg⟩:=zKi hp0 hK.1
   have hlen:d.path.length=q.length+1:=by rw[hq,List.length_append];rfl
   rw[zDi s.dirs hlen] at hab
   have htk:d.path.take q.length=q:=by rw[hq,List.take_left]
   rw[htk] at hab
   obtain ⟨i,hi⟩:∃ i:Nat,findI s.dirs q=(i:Int):=⟨(findI s.dirs q).toNat,by omega⟩
   obtain ⟨hil,hiq⟩:=zHU hi
   have hin:j∈zBC s.dirs i:=(zOV hc hil).2 ⟨hj',by omega,by rw[e',zDi s.dirs hlen,htk,hi]⟩
   have hm:=zQ5 hd (gE hil) (fun e=>by rw[e] at hin;cases hin)
   rw[hiq] at hm
   rw[hp,hsg,zPu _ _ (zCE hnn),if_neg (by simp),zQH hn (zSL (by decide)) hm rfl]
   rfl
  ·rw[hp];exact hom j d pkgK hj (by decide)
  ·rw[hp];exact hom j d modK hj (by decide)
theorem zMh {p:List ByteArray} (h:p.all nameB=true):zB1 (textB p)=(p,true):=by
 unfold zB1
 by_cases h0:p=[]
 ·subst h0;exact if_pos (show textB []=⟨#[47]⟩ from rfl)
 ·rw[if_neg (show ¬textB p=⟨#[47]⟩ from zNN h0 h)]
  have:zCR (textB p)=some p:=zEs h0 h (by
   unfold textB
   rw[if_neg h0,if_pos h])
  rw[this]
def bare (d:Dir):Dir:={ d with node:=0}
theorem zGA {q:Dir→Bool} (h:∀ d,q (bare d)=q d):∀ (l:List Dir) (k:Nat),zBJ q (l.map bare) k=zBJ q l k
 | [],k=>rfl
 | d::l,k=>by rw[List.map_cons,zBJ,zBJ,h,zGA h l]
theorem zFx (t:List Dir) (p:List ByteArray):findI (t.map bare) p=findI t p:=zGA (fun d=>rfl) t 0
theorem zFH (t:List Dir) (p:List ByteArray) (s:ByteArray):∀ q,zA6 (t.map bare) p s q=zA6 t p s q
 | 0=>rfl
 | q+1=>by rw[zA6,zA6,zFx,zFH t p s q]
theorem zOf (t:List Dir) (i:Int) (s:ByteArray):lookI (t.map bare) i s=lookI t i s:=by
 unfold lookI
 by_cases h:0≤i∧i.toNat<t.length
 ·rw[dif_pos h,dif_pos (by rw[List.length_map];exact h)]
  have e:((t.map bare)[i.toNat]'(by rw[List.length_map];exact h.2)).path=(t[i.toNat]'h.2).path:=by rw[List.getElem_map];rfl
  rw[e,zFH]
 ·rw[dif_neg h,dif_neg (by rw[List.length_map];exact h)]
theorem zMY (t:List Dir) (g:List Node) (q e:Nat):zE6 (t.map bare) g q e=zE6 t g q e:=by
 unfold zE6
 rw[List.getElem?_map]
 cases t[q]? with
 | none=>rfl
 | some d=>cases g[e]?<;>rfl
theorem zLS (t:List Dir) (g:List Node) (a:Nat) (s:MSt) (e:Edge):zB0 (t.map bare) g a s e=zB0 t g a s e:=by
 unfold zB0
 rw[zOf,zMY]
theorem zFK (t:List Dir) (g:List Node) (a:Nat):∀ (es:List Edge) (s:MSt),zAg (t.map bare) g a es s=zAg t g a es s
 | [],s=>rfl
 | e::es,s=>by
   rw[zAg,zAg,zLS]
   cases zB0 t g a s e with
   | none=>rfl
   | some s'=>exact zFK t g a es s'
theorem zDx (t:List Dir) (g:List Node):∀ (f:Nat) (s:MSt),zAc (t.map bare) g f s=zAc t g f s
 | 0,_=>by rw[zAc,zAc]
 | f+1,(m,[])=>by rw[zAc,zAc]
 | f+1,(m,a::rest)=>by
   rw[zAc,zAc,zFK]
   cases zAg t g a (zDB g (m.getD a 0)) (m,rest) with
   | none=>rfl
   | some s=>exact zDx t g f s
theorem zF5 {t u:List Dir} (h:t.map bare=u.map bare) (g:List Node) (f:Nat) (s:MSt):zAc t g f s=zAc u g f s:=by
 rw[←zDx t,h,zDx]
theorem zGE {t:List Dir} {m:List Int}:∀ {l:List Dir} {k:Nat},zBT t m k l=true→∀ j d,l[j]?=some d→zEN t m (k+j) d=true
 | [],_,_,j,d,h=>by cases h
 | x::l,k,h,0,d,hd=>by
   cases hd
   rw[zBT,Bool.and_eq_true] at h
   exact h.1
 | x::l,k,h,j+1,d,hd=>by
   rw[zBT,Bool.and_eq_true] at h
   have:=zGE h.2 j d hd
   rwa [show k+1+j=k+(j+1) from by omega] at this
theorem zKk {t:List Dir} {g:List Node} (h:(mapR t g).2=0):zAc t g (t.length+1) (map0 t.length)=(mapR t g).1:=by
 unfold mapR at h ⊢
 by_cases h1:zAe t≠0
 ·rw[if_pos h1] at h;cases h
 rw[if_neg h1] at h ⊢
 by_cases h2:zBI g=false
 ·rw[if_pos h2] at h;cases h
 rw[if_neg h2] at h ⊢
 cases hm:zAc t g (t.length+1) (map0 t.length) with
 | none=>rfl
 | some m=>rfl
theorem zE7 {s:Proj} (h:mayI s=true):∃ m,zAc s.dirs s.nodes (s.dirs.length+1) (map0 s.dirs.length)=some m ∧
  ∀ i d,s.dirs[i]?=some d→m.getD i 0=d.node∧(i=0∨lessB (textB (s.dirs.getD (i - 1) d).path) (textB d.path)=true):=by
 unfold mayI zCY at h
 simp only[Bool.and_eq_true,decide_eq_true_eq] at h
 obtain ⟨_,_,h1,h2⟩:=h
 obtain ⟨_,_,m,hm,_⟩:=zFp h1
 rw[hm,Option.getD_some] at h2
 refine ⟨m,(zKk h1).trans hm,fun i d hd=>?_⟩
 have:=zGE h2 i d hd
 rw[Nat.zero_add] at this
 unfold zEN at this
 simpa using this
def risF (x y:Dir):Prop:=lessB (textB x.path) (textB y.path)=true
theorem zOD {t:List Dir} (h:∀ i d,t[i]?=some d→i=0∨lessB (textB (t.getD (i - 1) d).path) (textB d.path)=true):t.Pairwise risF:=by
 have key:∀ (n i:Nat) (hi:i<t.length) (hj:i+(n+1)<t.length),risF t[i] t[i+(n+1)]:=by
  intro n
  induction n with
  | zero=>
    intro i hi hj
    rcases h (i+1) _ (gE hj) with e|e
    ·omega
    ·rw[Nat.add_sub_cancel,List.getD_eq_getElem?_getD,gE hi,Option.getD_some] at e
     exact e
  | succ n ih=>
    intro i hi hj
    have h1:=ih i hi (by omega)
    rcases h (i+(n+1)+1) _ (gE hj) with e|e
    ·omega
    ·rw[Nat.add_sub_cancel,List.getD_eq_getElem?_getD,gE (by omega),Option.getD_some] at e
     exact zCq h1 e
 refine List.pairwise_iff_getElem.2 fun i j hi hj hij=>?_
 obtain ⟨n,rfl⟩:∃ n,j=i+(n+1):=⟨j - i - 1,by omega⟩
 exact key n i hi hj
theorem zED {s:Proj} (h:mayI s=true):s.dirs.Pairwise risF:=by
 obtain ⟨m,_,h2⟩:=zE7 h
 exact zOD fun i d hd=>(h2 i d hd).2
theorem zS8 {x y:Dir} (h:risF x y):bare x≠bare y:=fun e=>by
 have e2:x.path=y.path:=show (bare x).path=(bare y).path by rw[e]
 unfold risF at h
 rw[e2,zBx] at h
 cases h
theorem zOM {t u:List Dir} (ht:t.Pairwise risF) (hu:u.Pairwise risF) (h1:∀ d∈t,∃ e∈u,bare d=bare e) (h2:∀ e∈u,∃ d∈t,bare e=bare d):t.map bare=u.map bare:=by
 have pt:(t.map bare).Pairwise risF:=List.pairwise_map.2 ht
 have pu:(u.map bare).Pairwise risF:=List.pairwise_map.2 hu
 have nd:∀ {l:List Dir},l.Pairwise risF→(l.map bare).Nodup:=fun h=>by
  rw[List.nodup_iff_pairwise_ne,List.pairwise_map]
  exact h.imp fun h=>zS8 h
 refine List.Perm.eq_of_pairwise (le:=risF) (fun x y _ _ hx hy=>?_) pt pu ((List.perm_ext_iff_of_nodup (nd ht) (nd hu)).2 fun x=>?_)
 ·have:=zCq hx hy
  rw[zBx] at this
  cases this
 ·rw[List.mem_map,List.mem_map]
  constructor
  ·rintro ⟨d,hd,rfl⟩
   obtain ⟨e,he,h⟩:=h1 d hd
   exact ⟨e,he,h.symm⟩
  ·rintro ⟨d,hd,rfl⟩
   obtain ⟨e,he,h⟩:=h2 d hd
   exact ⟨e,he,h.symm⟩
theorem zJO {t:List Dir} (h:zAe t=0) {d:Dir} (hd:t[0]?=some d):d=⟨[],zBz,0⟩:=by
 have h1:=zCv h
 match t,hd,h1 with
 | x::l,hd,h1=>
   have hxd:x=d:=Option.some.inj hd
   subst hxd
   rw[okGo,Bool.and_eq_true] at h1
   have h2:rootB x=true:=h1.1
   unfold rootB at h2
   simp only[Bool.and_eq_true,decide_eq_true_eq] at h2
   obtain ⟨a1,a2,a3⟩:=h2
   obtain ⟨p,k,n⟩:=x
   simp only at a1 a2 a3
   rw[List.eq_nil_of_length_eq_zero a1,zC9.1 a2,a3]
theorem zD6 {s:Proj} (h:mayI s=true):lockB s.nodes=true:=by
 unfold mayI at h
 simp only[Bool.and_eq_true] at h
 exact h.2.1
theorem zGY {s:Proj} (h:mayI s=true):maniB s.man=true:=by
 unfold mayI at h
 simp only[Bool.and_eq_true] at h
 exact h.1
theorem zRs {x:Node} (h:lockB [x]=true):x=node0:=by
 unfold lockB at h
 simp only[Bool.and_eq_true,decide_eq_true_eq] at h
 obtain ⟨h1,h2⟩:=zG3 h.2 0 x rfl
 have h3:=zMu (many:=1) (by decide) h1 h2
 obtain ⟨e1,e2,e3⟩:=h3.2.1 rfl
 have e4:x.edges=[]:=by
  cases he:x.edges with
  | nil=>rfl
  | cons y l=>
    unfold zC8 at h2
    simp only[Bool.and_eq_true] at h2
    have:=List.all_eq_true.1 h2.2 y (by rw[he];simp)
    simp only[List.length_singleton,Bool.and_eq_true,decide_eq_true_eq] at this
    omega
 obtain ⟨a,b,c,d⟩:=x
 simp only at e1 e2 e3 e4
 rw[e1,e2,e3,e4]
 rfl
theorem zHY {s:Proj} (h:mayI s=true) (he:zBn s=true):s=⟨man0,[node0],[⟨[],zBz,0⟩],false⟩:=by
 have hc:=zAv h
 have hl:=zD6 h
 unfold zBn at he
 simp only[Bool.and_eq_true,decide_eq_true_eq,Bool.not_eq_true'] at he
 obtain ⟨h1,h2,h3,h4⟩:=he
 obtain ⟨x,hx⟩:=List.length_eq_one_iff.1 h2
 obtain ⟨d,hd⟩:=List.length_eq_one_iff.1 h3
 rw[hx] at hl
 have h5:=zJO hc (d:=d) (by rw[hd];rfl)
 have h6:=zRs hl
 obtain ⟨a,b,c,p⟩:=s
 simp only at h1 hx hd h4
 rw[zC9.1 h1,hx,hd,h4,h5,h6]
theorem zQr (s:Proj):(⟨manF,false,zAR s.man⟩:File)∈imgU s:=by unfold imgU;simp
theorem zQQ (s:Proj):(⟨lokF,false,zAo s.nodes⟩:File)∈imgU s:=by unfold imgU;simp
theorem zP4 {s:Proj} (h:s.pruned=true):(⟨pruF,false,emB⟩:File)∈imgU s:=by unfold imgU;rw[if_pos h];simp
theorem zPS {a b:Proj} (ha:mayI a=true) (hb:mayI b=true) (h:∀ f,f∈imgU a→f∈imgU b):∀ d∈a.dirs,∃ e∈b.dirs,bare d=bare e:=by
 intro d hd
 obtain ⟨j,hj,rfl⟩:=List.getElem_of_mem hd
 have hca:=zAv ha
 have hcb:=zAv hb
 by_cases h0:j=0
 ·subst h0
  have hz:=(zC7 hcb).1
  refine ⟨b.dirs[0],List.getElem_mem _,?_⟩
  rw[zJO hca (gE hj),zJO hcb (gE hz)]
 ·have hja:=gE hj
  have hK:=zB5 hca j _ hja
  have hp0:a.dirs[j].path≠[]:=fun e=>h0 (hK.2.2 e)
  obtain ⟨_,h2⟩:=zJH (zB5 hca) hja h0
  have h3:=h _ h2
  have hcl:noSl (segs a.dirs[j].path++[pkgK]):=fun s hs=>by
   rcases List.mem_append.1 hs with hs|hs
   ·exact zCj hK.1 s hs
   ·rw[List.mem_singleton.1 hs];decide
  have hz:=zCh a.dirs[j].path
  rcases imgU_cases (zB5 hcb) h3 with ⟨x,hx,hp,_⟩|⟨i,e,hi,hc⟩
  ·exfalso
   have hxc:noSl [x]:=fun s hs=>by
    rw[List.mem_singleton.1 hs]
    rcases hx with rfl|rfl|rfl<;>decide
   have h4:=congrArg List.length (zJX hcl hxc hp)
   rw[List.length_append,List.length_singleton,List.length_singleton] at h4
   have:a.dirs[j].path.length=0:=by omega
   exact hp0 (List.eq_nil_of_length_eq_zero this)
  ·rcases hc with ⟨_,_,hdir,_⟩|⟨hi0,hp,_⟩|⟨_,_,hdir,_⟩
   ·cases hdir
   ·have hKe:=zB5 hcb i e hi
    have hcl2:noSl (segs e.path++[pkgK]):=fun s hs=>by
     rcases List.mem_append.1 hs with hs|hs
     ·exact zCj hKe.1 s hs
     ·rw[List.mem_singleton.1 hs];decide
    have h4:=zJX hcl hcl2 hp
    have h5:a.dirs[j].path=e.path:=zJb (List.append_cancel_right h4)
    obtain ⟨_,h6⟩:=zJH (zB5 hcb) hi hi0
    have h7:=zEM (zBw hb) h3 h6 (by show mkP _=mkP _;rw[h5])
    have h8:zAW a.dirs[j].pack=zAW e.pack:=congrArg File.data h7
    have p1:=(zEV hca hja (by omega)).1
    have p2:=(zEV hcb hi (by omega)).1
    have h9:=(zKE p1 p2).1 h8
    refine ⟨e,mG hi,?_⟩
    unfold bare
    rw[h5,h9]
   ·cases hdir
theorem zB7 {s:Proj} (h:mayI s=true) (he:¬zBn s=true):(imgF s).1=sortS (imgU s):=by unfold imgF;rw[if_pos h,if_neg he]
theorem zDJ {s:Proj} (h:mayI s=true) (he:zBn s=true):(imgF s).1=[]:=by unfold imgF;rw[if_pos h,if_pos he]
theorem zHo (s:Proj):sortS (imgU s)≠[]:=fun e=>by
 have h1:=(zBf (imgU s)).length_eq
 have h2:=(zJa s).1
 rw[e,List.length_nil] at h1
 omega
theorem zTC {a b:Proj} (ha:mayI a=true) (hb:mayI b=true) (h:(imgF a).1=(imgF b).1):a=b:=by
 by_cases ea:zBn a=true<;>by_cases eb:zBn b=true
 ·rw[zHY ha ea,zHY hb eb]
 ·rw[zDJ ha ea,zB7 hb eb] at h
  exact absurd h.symm (zHo b)
 ·rw[zB7 ha ea,zDJ hb eb] at h
  exact absurd h (zHo a)
 rw[zB7 ha ea,zB7 hb eb] at h
 have hm:∀ f,f∈imgU a↔f∈imgU b:=fun f=>by rw[←(zBf (imgU a)).mem_iff,h,(zBf (imgU b)).mem_iff]
 have e1:a.man=b.man:=by
  have:=zEM (zBw hb) ((hm _).1 (zQr a)) (zQr b) rfl
  exact (zK3 (zGY ha) (zGY hb)).1 (congrArg File.data this)
 have e2:a.nodes=b.nodes:=by
  have:=zEM (zBw hb) ((hm _).1 (zQQ a)) (zQQ b) rfl
  exact zKj (zD6 ha) (zD6 hb) (congrArg File.data this)
 have e3:a.pruned=b.pruned:=by
  have h1:a.pruned=true→b.pruned=true:=fun e=>zJQ (zB5 (zAv hb)) ((hm _).1 (zP4 e)) rfl
  have h2:b.pruned=true→a.pruned=true:=fun e=>zJQ (zB5 (zAv ha)) ((hm _).2 (zP4 e)) rfl
  cases h3:a.pruned<;>cases h4:b.pruned<;>simp_all
 have e4:a.dirs.map bare=b.dirs.map bare:=zOM (zED ha) (zED hb) (zPS ha hb fun f=>(hm f).1) (zPS hb ha fun f=>(hm f).2)
 have e5:a.dirs=b.dirs:=by
  obtain ⟨m,hm1,hn1⟩:=zE7 ha
  obtain ⟨n,hm2,hn2⟩:=zE7 hb
  have hl:a.dirs.length=b.dirs.length:=by have:=congrArg List.length e4;simpa using this
  rw[zF5 e4,e2,hl,hm2] at hm1
  obtain rfl:=Option.some.inj hm1
  refine List.ext_getElem hl fun i h1 h2=>?_
  have g1:=(hn1 i _ (gE h1)).1
  have g2:=(hn2 i _ (gE h2)).1
  have g3:bare a.dirs[i]=bare b.dirs[i]:=by
   have g:=congrArg (fun l:List Dir=>l[i]?) e4
   simp only[List.getElem?_map,List.getElem?_eq_getElem h1,List.getElem?_eq_getElem h2,Option.map_some,Option.some.injEq] at g
   exact g
  have g4:a.dirs[i].node=b.dirs[i].node:=g1.symm.trans g2
  have g5:a.dirs[i].path=b.dirs[i].path:=show (bare a.dirs[i]).path=(bare b.dirs[i]).path by rw[g3]
  have g6:a.dirs[i].pack=b.dirs[i].pack:=show (bare a.dirs[i]).pack=(bare b.dirs[i]).pack by rw[g3]
  generalize a.dirs[i]=x at *
  generalize b.dirs[i]=y at *
  obtain ⟨x1,x2,x3⟩:=x
  obtain ⟨y1,y2,y3⟩:=y
  simp only at g4 g5 g6
  rw[g4,g5,g6]
 obtain ⟨a1,a2,a3,a4⟩:=a
 obtain ⟨b1,b2,b3,b4⟩:=b
 simp only at e1 e2 e3 e5
 rw[e1,e2,e3,e5]
noncomputable def zDK (s:ByteArray):ByteArray:=⟨(Lib.trimSuffix s.data.toList pkgF.data.toList).toArray⟩
def isPkg (f:File):Bool:=Lib.hasSuffix f.path.data.toList pkgF.data.toList&&!f.dir
noncomputable def okPkg (f:File):Bool:=(zB1 (zDK f.path)).2&&(decide ((zB1 (zDK f.path)).1.length≠0)&&decide ((packQ f.data).2=0))
noncomputable def dirF (f:File):Dir:=⟨(zB1 (zDK f.path)).1,(packQ f.data).1,1⟩
noncomputable def dirsF (l:List File):List Dir:=(l.filter isPkg).map dirF
noncomputable def zA7 (l:List File):Bool:=l.all fun f=>!isPkg f||okPkg f
def oneD (d:Dir):Dir:={ d with node:=1}
def root0:Dir:=⟨[],zBz,0⟩
def oneT:List Dir→List Dir
 | []=>[]
 | d::l=>d::l.map oneD
theorem zMp (a p:List UInt8):Lib.hasSuffix (a++p) p=true:=by
 unfold Lib.hasSuffix
 rw[List.isSuffixOf_iff_suffix]
 exact List.suffix_append a p
theorem zPJ (a p:List UInt8):Lib.trimSuffix (a++p) p=a:=by
 unfold Lib.trimSuffix
 rw[if_pos (zMp a p)]
 simp
theorem zLB (t:ByteArray):zDK (t++pkgF)=t:=by
 unfold zDK
 have e:(t++pkgF).data.toList=t.data.toList++pkgF.data.toList:=by simp[ByteArray.data_append]
 rw[e,zPJ]
theorem zTD {p:List ByteArray} (h0:p≠[]) (hp:p.all nameB=true) {x:Pack} (hx:packB x=true) :
  isPkg ⟨textB p++pkgF,false,zAW x⟩=true∧okPkg ⟨textB p++pkgF,false,zAW x⟩=true∧dirF ⟨textB p++pkgF,false,zAW x⟩=⟨p,x,1⟩:=by
 have h1:packQ (zAW x)=(x,0):=by unfold packQ;rw[zGp hx]
 have h2:=zMh hp
 refine ⟨?_,?_,?_⟩
 ·unfold isPkg
  have e:(textB p++pkgF).data.toList=(textB p).data.toList++pkgF.data.toList:=by simp[ByteArray.data_append]
  show (Lib.hasSuffix (textB p++pkgF).data.toList pkgF.data.toList&&!false)=true
  rw[e,zMp]
  rfl
 ·unfold okPkg
  simp only
  rw[zLB,h2,h1]
  have:p.length≠0:=fun e=>h0 (List.eq_nil_of_length_eq_zero e)
  simp[this]
 ·unfold dirF
  simp only
  rw[zLB,h2,h1]
theorem zQt (a b:ByteArray):isPkg ⟨a,true,b⟩=false:=by
 unfold isPkg
 exact Bool.and_false _
theorem zQY (b:ByteArray):isPkg ⟨manF,false,b⟩=false:=by
 show (Lib.hasSuffix manF.data.toList pkgF.data.toList&&!false)=false
 decide
theorem zQB (b:ByteArray):isPkg ⟨lokF,false,b⟩=false:=by
 show (Lib.hasSuffix lokF.data.toList pkgF.data.toList&&!false)=false
 decide
theorem zQe (b:ByteArray):isPkg ⟨pruF,false,b⟩=false:=by
 show (Lib.hasSuffix pruF.data.toList pkgF.data.toList&&!false)=false
 decide
theorem zCc {f:File} (h:isPkg f=false) (l:List File):dirsF (f::l)=dirsF l∧zA7 (f::l)=zA7 l:=by
 unfold dirsF zA7
 rw[List.filter_cons,h,List.all_cons,h]
 exact ⟨rfl,rfl⟩
theorem zNF {f:File} (h:isPkg f=true) (h2:okPkg f=true) (l:List File):dirsF (f::l)=dirF f::dirsF l∧zA7 (f::l)=zA7 l:=by
 unfold dirsF zA7
 rw[List.filter_cons,h,List.all_cons,h,h2]
 exact ⟨rfl,rfl⟩
theorem zG6 {xs:List Dir} {i:Nat} {d:Dir} (hK:DirK i d) (hp:i≠0→packB d.pack=true) (l:List File) :
  dirsF (zBm xs i d++l)=(if i=0 then [] else [oneD d])++dirsF l∧zA7 (zBm xs i d++l)=zA7 l:=by
 have tail:∀ (g:ByteArray) (m:List File),dirsF ((if zBC xs i=[] then [] else [(⟨g,true,emB⟩:File)])++m)=dirsF m∧zA7 ((if zBC xs i=[] then [] else [(⟨g,true,emB⟩:File)])++m)=zA7 m:=fun g m=>by
  split
  ·exact ⟨rfl,rfl⟩
  ·exact zCc (zQt _ _) _
 unfold zBm
 by_cases h0:i=0
 ·simp only[if_pos h0,List.nil_append]
  exact tail _ _
 ·simp only[if_neg h0]
  have hne:d.path≠[]:=fun e=>h0 (hK.2.2 e)
  obtain ⟨p1,p2,p3⟩:=zTD hne hK.1 (hp h0)
  simp only[List.cons_append,List.nil_append]
  obtain ⟨a1,a2⟩:=zCc (zQt (textB d.path) emB) (⟨textB d.path++pkgF,false,zAW d.pack⟩::((if zBC xs i=[] then [] else [(⟨textB d.path++modF,true,emB⟩:File)])++l))
  obtain ⟨b1,b2⟩:=zNF p1 p2 ((if zBC xs i=[] then [] else [(⟨textB d.path++modF,true,emB⟩:File)])++l)
  obtain ⟨c1,c2⟩:=tail (textB d.path++modF) l
  rw[a1,a2,b1,b2,c1,c2,p3]
  exact ⟨rfl,rfl⟩
theorem zGB {xs:List Dir}:∀ {l:List Dir} {i:Nat},(∀ j d,l[j]?=some d→DirK (i+1+j) d∧packB d.pack=true)→dirsF (zAX xs (i+1) l)=l.map oneD∧zA7 (zAX xs (i+1) l)=true
 | [],i,_=>⟨rfl,rfl⟩
 | d::l,i,h=>by
   have h0:=h 0 d rfl
   obtain ⟨a1,a2⟩:=zG6 (xs:=xs) h0.1 (fun _=>h0.2) (zAX xs (i+1+1) l)
   obtain ⟨b1,b2⟩:=zGB (xs:=xs) (l:=l) (i:=i+1) fun j x hx=>by
    have:=h (j+1) x hx
    rwa [show i+1+(j+1)=i+1+1+j from by omega] at this
   rw[zAX,a1,a2,b1,b2,if_neg (by omega)]
   exact ⟨rfl,rfl⟩
theorem zM5 {s:Proj} (h:mayI s=true):dirsF (imgU s)=(s.dirs.drop 1).map oneD∧zA7 (imgU s)=true:=by
 have hc:=zAv h
 have hK:=zB5 hc
 have hl:=(zC7 hc).1
 have key:dirsF (zAX s.dirs 0 s.dirs)=(s.dirs.drop 1).map oneD∧zA7 (zAX s.dirs 0 s.dirs)=true:=by
  generalize hx:s.dirs=xs at *
  match xs,hx,hl with
  | d::l,hx,_=>
    obtain ⟨a1,a2⟩:=zG6 (xs:=d::l) (hK 0 d rfl) (fun e=>absurd rfl e) (zAX (d::l) (0+1) l)
    obtain ⟨b1,b2⟩:=zGB (xs:=d::l) (l:=l) (i:=0) fun j x hx=>by
     have h1:=hK (j+1) x hx
     have h2:=(zEV hc (j:=j+1) (d:=x) hx (by omega)).1
     exact ⟨by rwa [show j+1=0+1+j from by omega] at h1,h2⟩
    rw[zAX,a1,a2,b1,b2]
    exact ⟨rfl,rfl⟩
 unfold imgU
 simp only[List.cons_append,List.nil_append]
 rw[(zCc (zQY _) _).1,(zCc (zQY _) _).2,(zCc (zQB _) _).1,(zCc (zQB _) _).2]
 by_cases hp:s.pruned=true
 ·rw[if_pos hp]
  simp only[List.cons_append,List.nil_append]
  rw[(zCc (zQe _) _).1,(zCc (zQe _) _).2]
  exact key
 ·rw[if_neg hp]
  exact key
theorem zE5 {l m:List File} (h:l.Perm m):(dirsF l).Perm (dirsF m)∧zA7 l=zA7 m:=by
 refine ⟨(h.filter isPkg).map dirF,?_⟩
 unfold zA7
 rw[Bool.eq_iff_iff,List.all_eq_true,List.all_eq_true]
 exact ⟨fun g x hx=>g x (h.mem_iff.2 hx),fun g x hx=>g x (h.mem_iff.1 hx)⟩
def upT (x y:Dir):Prop:=lessB (textB y.path) (textB x.path)=false
theorem zD9 (t:List Dir):(oneT t).map bare=t.map bare:=by
 cases t with
 | nil=>rfl
 | cons d l=>
   show bare d::(l.map oneD).map bare=bare d::l.map bare
   rw[List.map_map]
   rfl
theorem zJP (t:List Dir):(oneT t).length=t.length:=by
 have:=congrArg List.length (zD9 t)
 simpa using this
theorem zOR (t:List Dir):(oneT t).map (·.path)=t.map (·.path):=by
 have:=congrArg (List.map Dir.path) (zD9 t)
 rw[List.map_map,List.map_map] at this
 exact this
theorem zNw {t:List Dir} (h:t.Pairwise risF):(oneT t).Pairwise risF:=by
 have h1:(t.map (·.path)).Pairwise fun p q=>lessB (textB p) (textB q)=true:=List.pairwise_map.2 h
 rw[←zOR] at h1
 have h2:(oneT t).Pairwise fun x y=>lessB (textB x.path) (textB y.path)=true:=List.pairwise_map.1 h1
 exact h2
theorem zSw {a b:ByteArray} (h1:lessB a b=false) (h2:lessB b a=false):a=b:=by
 rw[zCg,decide_eq_false_iff_not,List.not_lt] at h1 h2
 exact ByteArray.ext (Array.toList_inj.1 (List.le_antisymm h2 h1))
theorem zPE {s:Proj} (h:mayI s=true) {T:List Dir} {l:List File} (hl:l.Perm (imgU s)) (hT:T.Perm (root0::dirsF l)) (hU:T.Pairwise upT):T=oneT s.dirs:=by
 have hc:=zAv h
 have hlen:=(zC7 hc).1
 have hr:=zED h
 have hro:=zNw hr
 have e1:oneT s.dirs=root0::(s.dirs.drop 1).map oneD:=by
  generalize hx:s.dirs=xs at *
  match xs,hx,hlen with
  | d::r,hx,_=>
    show d::r.map oneD=_
    rw[zJO hc (d:=d) rfl]
    rfl
 have hp:T.Perm (oneT s.dirs):=by
  rw[e1]
  refine hT.trans (List.Perm.cons _ ?_)
  rw[←(zM5 h).1]
  exact (zE5 hl).1
 have hnT:(T.map fun d=>textB d.path).Nodup:=by
  refine (hp.map _).nodup_iff.2 ?_
  rw[List.nodup_iff_pairwise_ne,List.pairwise_map]
  refine hro.imp fun {a b} hab e=>?_
  unfold risF at hab
  rw[e,zBx] at hab
  cases hab
 have hTr:T.Pairwise risF:=by
  rw[List.nodup_iff_pairwise_ne,List.pairwise_map] at hnT
  refine (hU.and hnT).imp fun {a b} ⟨h1,h2⟩=>?_
  unfold risF
  cases hb:lessB (textB a.path) (textB b.path) with
  | true=>rfl
  | false=>exact absurd (zSw hb h1) h2
 refine List.Perm.eq_of_pairwise (le:=risF) (fun x y _ _ hx hy=>?_) hTr hro hp
 have:=zCq hx hy
 rw[zBx] at this
 cases this
theorem zQf {t u:List Dir} (h:t.map bare=u.map bare) (p:List ByteArray):findI t p=findI u p:=by rw[←zFx t,h,zFx]
theorem zOB {t u:List Dir} (h:t.map bare=u.map bare) {d:Dir} {k:Nat} (hs:zBk t d k=true):zBk u (oneD d) k=true:=by
 unfold zBk at hs ⊢
 simp only[Bool.and_eq_true,decide_eq_true_eq] at hs ⊢
 obtain ⟨a1,a2,a3,a4,a5,a6,a7,a8,a9⟩:=hs
 unfold zC5 at a6 a7 ⊢
 rw[zQf h] at a5 a6 a7
 exact ⟨a1,a2,a3,Int.le_refl 1,a5,a6,a7,a8,a9⟩
theorem zNS {t u:List Dir} (h:t.map bare=u.map bare):∀ {l:List Dir} {k:Nat},k≠0→okGo t l k=true→okGo u (l.map oneD) k=true
 | [],k,_,_=>rfl
 | d::l,k,hk,hg=>by
   rw[okGo,Bool.and_eq_true] at hg
   rw[List.map_cons,okGo,Bool.and_eq_true]
   refine ⟨?_,zNS h (by omega) hg.2⟩
   have h1:=hg.1
   rw[decide_eq_false hk] at h1 ⊢
   exact zOB h h1
theorem zPm {t:List Dir} (h:zAe t=0):zAe (oneT t)=0:=by
 have hl:=zC7 h
 have h1:=zCv h
 unfold zAe
 rw[zJP,if_neg (by omega)]
 have:okGo (oneT t) (oneT t) 0=true:=by
  match t,hl,h1 with
  | d::l,_,h1=>
    rw[okGo,Bool.and_eq_true] at h1
    show okGo (oneT (d::l)) (d::l.map oneD) 0=true
    rw[okGo,Bool.and_eq_true]
    exact ⟨h1.1,zNS (zD9 (d::l)).symm (by decide) h1.2⟩
 rw[this]
 rfl
theorem zQL {s:Proj} (h:mayI s=true):∃ m,mapR (oneT s.dirs) s.nodes=(some m,0)∧m.length=s.dirs.length∧∀ i d,s.dirs[i]?=some d→m.getD i 0=d.node:=by
 obtain ⟨m,hm,hn⟩:=zE7 h
 have h2:=h
 unfold mayI zCY at h2
 simp only[Bool.and_eq_true,decide_eq_true_eq] at h2
 obtain ⟨_,_,h1,_⟩:=h2
 obtain ⟨hc,hf,m',hm',hl⟩:=zFp h1
 have e:m=m':=by
  have:=(zKk h1).trans hm'
  rw[hm] at this
  exact Option.some.inj this
 subst e
 refine ⟨m,?_,hl,fun i d hd=>(hn i d hd).1⟩
 unfold mapR
 rw[if_neg (by rw[zPm hc];decide),if_neg (by rw[hf];decide),zJP,zF5 (zD9 s.dirs),hm]
def setN (m:List Int) (k:Nat) (T:List Dir):List Dir:=T.mapIdx fun i d=>if i<k then { d with node:=m.getD i 0} else d
theorem zPO (m:List Int) (T:List Dir):setN m 0 T=T:=by
 unfold setN
 apply List.ext_getElem?
 intro i
 rw[List.getElem?_mapIdx]
 cases T[i]?<;>rfl
theorem zDd (m:List Int) (k:Nat) (T:List Dir):(setN m k T).length=T.length:=List.length_mapIdx
theorem zFh {m:List Int} {k i:Nat} {T:List Dir} {d:Dir} (h:T[i]?=some d):(setN m k T)[i]?=some (if i<k then { d with node:=m.getD i 0} else d):=by
 unfold setN
 rw[List.getElem?_mapIdx,h]
 rfl
theorem zQG {m:List Int} {k:Nat} {T:List Dir} {d:Dir} (h:T[k]?=some d):setN m (k+1) T=(setN m k T).set k { d with node:=m.getD k 0}:=by
 apply List.ext_getElem?
 intro i
 by_cases hi:i=k
 ·subst hi
  have hlt:=(gS.1 h).1
  rw[zFh h,if_pos (by omega),List.getElem?_set_self (by rw[zDd];exact hlt)]
 ·rw[List.getElem?_set_ne (Ne.symm hi)]
  cases hd:T[i]? with
  | none=>
    have h1:=List.getElem?_eq_none_iff.1 hd
    rw[List.getElem?_eq_none (by rw[zDd];exact h1),List.getElem?_eq_none (by rw[zDd];exact h1)]
  | some x=>
    rw[zFh hd,zFh hd]
    by_cases hk:i<k
    ·rw[if_pos hk,if_pos (by omega)]
    ·rw[if_neg hk,if_neg (by omega)]
theorem zRE {s:Proj} (h:mayI s=true) {m:List Int} (hl:m.length=s.dirs.length) (hn:∀ i d,s.dirs[i]?=some d→m.getD i 0=d.node):setN m m.length (oneT s.dirs)=s.dirs:=by
 apply List.ext_getElem?
 intro i
 have hb:=congrArg (fun l=>l[i]?) (zD9 s.dirs)
 simp only[List.getElem?_map] at hb
 cases hd:s.dirs[i]? with
 | none=>
   have h1:=List.getElem?_eq_none_iff.1 hd
   rw[List.getElem?_eq_none (by rw[zDd,zJP];exact h1)]
 | some d=>
   rw[hd] at hb
   cases ho:(oneT s.dirs)[i]? with
   | none=>rw[ho] at hb;cases hb
   | some x=>
     rw[ho] at hb
     have e:=Option.some.inj hb
     have hlt:=(gS.1 hd).1
     rw[zFh ho,if_pos (by omega),hn i d hd]
     congr 1
     obtain ⟨a,b,c⟩:=x
     obtain ⟨a',b',c'⟩:=d
     unfold bare at e
     simp only[Dir.mk.injEq] at e
     simp only[Dir.mk.injEq]
     exact ⟨e.1,e.2.1,trivial⟩
