/- A project's files in plain words: which they are, that their paths are apart, and how they are put in order. -/
import Derived.Test.YthbnmehbhpakaaaGreatDoorBk08
import Derived.Test.YthbnmehbhpakaaaGreatDoorBk13
import Derived.KernelRfl
import Derived.Test.YthbnmehbhpakaaaGreatDoorBk04
import Derived.Test.YthbnmehbhpakaaaGreatDoorBk01
import Derived.Test.YthbnmehbhpakaaaGreatDoorBk06
import Derived.Test.YthbnmehbhpakaaaGreatDoorBk05
import Derived.Deep.RegionHeld3
import Derived.Test.YthbnmehbhpakaaaGreatDoorAl
set_option linter.all false
set_option maxHeartbeats 3200000
set_option maxRecDepth 100000
namespace Go.Proofs.YthbnmehbhpakaaaGreatDoor
open Go
def sl:List (List UInt8)→List UInt8
 | []=>[]
 | s::t=>47::(s++sl t)
def mkP (k:List (List UInt8)):ByteArray:=⟨(sl k).toArray⟩
def noSl (k:List (List UInt8)):Prop:=∀ s∈k,∀ b∈s,(b != 47)=true
theorem zFF (a b:List (List UInt8)):sl (a++b)=sl a++sl b:=by
 induction a with
 | nil=>rfl
 | cons s a ih=>rw[List.cons_append,sl,ih,sl,List.cons_append,List.append_assoc]
theorem zPy:∀ (t:List (List UInt8)),sl t=[]∨∃ r,sl t=47::r
 | []=>.inl rfl
 | s::t=>.inr ⟨_,rfl⟩
theorem zSC:∀ {a b:List (List UInt8)},noSl a→noSl b→sl a=sl b→a=b
 | [],[],_,_,_=>rfl
 | [],s::b,_,_,h=>by cases h
 | s::a,[],_,_,h=>by cases h
 | s::a,u::b,ha,hb,h=>by
   rw[sl,sl,List.cons.injEq] at h
   have h':=h.2
   have e1:=zCM (ha s (by simp)) (zPy a)
   have e2:=zCM (hb u (by simp)) (zPy b)
   rw[h',e2] at e1
   subst e1
   have e3:=List.append_cancel_left h'
   rw[zSC (fun x hx=>ha x (by simp[hx])) (fun x hx=>hb x (by simp[hx])) e3]
theorem zJX {a b:List (List UInt8)} (ha:noSl a) (hb:noSl b) (h:mkP a=mkP b):a=b:=by
 refine zSC ha hb ?_
 have:=congrArg (fun x:ByteArray=>x.data.toList) h
 simpa [mkP] using this
theorem zIP (a b:List (List UInt8)):mkP (a++b)=mkP a++mkP b:=by
 apply ByteArray.ext
 simp[mkP,zFF,ByteArray.data_append]
def modK:List UInt8:=[109,111,100,117,108,101,115]
def pkgK:List UInt8:=[112,97,99,107,97,103,101]
def manK:List UInt8:=[109,97,110,105,102,101,115,116]
def lokK:List UInt8:=[108,111,99,107]
def pruK:List UInt8:=[112,114,117,110,101,100]
def segs:List ByteArray→List (List UInt8)
 | []=>[]
 | s::t=>modK::s.data.toList::segs t
theorem zLr (p:List ByteArray):zAi p=sl (segs p):=by
 induction p with
 | nil=>rfl
 | cons s t ih=>
   rw[zAi,ih,segs,sl,sl]
   rw[show stepB.data.toList=47::(modK++[47]) from by decide +kernel]
   simp[List.append_assoc]
theorem zCj {p:List ByteArray} (h:p.all nameB=true):noSl (segs p):=by
 induction p with
 | nil=>intro s hs;cases hs
 | cons x t ih=>
   rw[List.all_cons,Bool.and_eq_true] at h
   intro s hs
   rcases List.mem_cons.1 hs with rfl|hs
   ·intro b hb;revert b hb;decide
   ·rcases List.mem_cons.1 hs with rfl|hs
    ·exact zCE h.1
    ·exact ih h.2 s hs
theorem zCh (p:List ByteArray):(segs p).length=2 * p.length:=by
 induction p with
 | nil=>rfl
 | cons x t ih=>rw[segs,List.length_cons,List.length_cons,ih,List.length_cons];omega
theorem zJb:∀ {a b:List ByteArray},segs a=segs b→a=b
 | [],[],_=>rfl
 | [],s::b,h=>by cases h
 | s::a,[],h=>by cases h
 | s::a,u::b,h=>by
   rw[segs,segs,List.cons.injEq,List.cons.injEq] at h
   have e:s=u:=ByteArray.ext (Array.toList_inj.1 h.2.1)
   rw[e,zJb h.2.2]
theorem zA8 {p:List ByteArray} (h0:p≠[]) (h:p.all nameB=true):textB p=mkP (segs p):=by
 unfold textB
 rw[if_neg h0,if_pos h,zLr]
 rfl
structure Proj where
 man:Mani
 nodes:List Node
 dirs:List Dir
 pruned:Bool
def manF:ByteArray:=⟨#[47,109,97,110,105,102,101,115,116]⟩
def lokF:ByteArray:=⟨#[47,108,111,99,107]⟩
def pruF:ByteArray:=⟨#[47,112,114,117,110,101,100]⟩
def modF:ByteArray:=⟨#[47,109,111,100,117,108,101,115]⟩
def pkgF:ByteArray:=⟨#[47,112,97,99,107,97,103,101]⟩
def emB:ByteArray:=⟨#[]⟩
noncomputable def zBm (xs:List Dir) (i:Nat) (d:Dir):List File:=
 (if i=0 then [] else [⟨textB d.path,true,emB⟩,⟨textB d.path++pkgF,false,zAW d.pack⟩])++(if zBC xs i=[] then [] else [⟨if i=0 then modF else textB d.path++modF,true,emB⟩])
noncomputable def zAX (xs:List Dir):Nat→List Dir→List File
 | _,[]=>[]
 | i,d::t=>zBm xs i d++zAX xs (i+1) t
noncomputable def imgU (s:Proj):List File:=[⟨manF,false,zAR s.man⟩,⟨lokF,false,zAo s.nodes⟩]++((if s.pruned=true then [⟨pruF,false,emB⟩] else [])++zAX s.dirs 0 s.dirs)
theorem zH8 (xs a b:List Dir):∀ i,zAX xs i (a++b)=zAX xs i a++zAX xs (i+a.length) b:=by
 induction a with
 | nil=>intro i;rfl
 | cons x a ih=>intro i;rw[List.cons_append,zAX,ih,zAX,List.append_assoc,List.length_cons,show i+1+a.length=i+(a.length+1) from by omega]
theorem zKI {xs l:List Dir} {k:Nat} {d:Dir} (h:l[k]?=some d):zAX xs 0 (l.take (k+1))=zAX xs 0 (l.take k)++zBm xs k d:=by
 have hk:=(gS.1 h).1
 rw[List.take_add_one,h,zH8,List.length_take,Nat.min_eq_left (by omega),Nat.zero_add]
 show _++(zBm xs k d++[])=_
 rw[List.append_nil]
noncomputable def zFd (xs:List Dir) (i:Nat) (d:Dir):List (List (List UInt8)):=
 (if i=0 then [] else [segs d.path,segs d.path++[pkgK]])++(if zBC xs i=[] then [] else [segs d.path++[modK]])
noncomputable def zCK (xs:List Dir):Nat→List Dir→List (List (List UInt8))
 | _,[]=>[]
 | i,d::t=>zFd xs i d++zCK xs (i+1) t
noncomputable def keyU (s:Proj):List (List (List UInt8)):=[[manK],[lokK]]++((if s.pruned=true then [[pruK]] else [])++zCK s.dirs 0 s.dirs)
def DirK (i:Nat) (d:Dir):Prop:=d.path.all nameB=true∧(i=0↔d.path=[])
theorem zKb {xs:List Dir} {i:Nat} {d:Dir} (h:DirK i d):(zBm xs i d).map (·.path)=(zFd xs i d).map mkP:=by
 unfold zBm zFd
 rw[List.map_append,List.map_append]
 by_cases h0:i=0
 ·rw[if_pos h0,if_pos h0,if_pos h0,h.2.1 h0]
  by_cases h1:zBC xs i=[]
  ·rw[if_pos h1,if_pos h1];rfl
  ·rw[if_neg h1,if_neg h1]
   show [modF]=[mkP ([]++[modK])]
   rw[show modF=mkP ([]++[modK]) from by apply ByteArray.ext;decide +kernel]
 ·have hp:d.path≠[]:=fun e=>h0 (h.2.2 e)
  have hx:∀ k:List UInt8,mkP (segs d.path++[k])=textB d.path++mkP [k]:=fun k=>by rw[zIP,zA8 hp h.1]
  rw[if_neg h0,if_neg h0,if_neg h0]
  have e1:mkP [pkgK]=pkgF:=by apply ByteArray.ext;decide +kernel
  have e2:mkP [modK]=modF:=by apply ByteArray.ext;decide +kernel
  by_cases h1:zBC xs i=[]
  ·rw[if_pos h1,if_pos h1]
   show [textB d.path,textB d.path++pkgF]++[]=[mkP (segs d.path),mkP (segs d.path++[pkgK])]++[]
   rw[hx,e1,zA8 hp h.1]
  ·rw[if_neg h1,if_neg h1]
   show [textB d.path,textB d.path++pkgF]++[textB d.path++modF]=[mkP (segs d.path),mkP (segs d.path++[pkgK])]++[mkP (segs d.path++[modK])]
   rw[hx,hx,e1,e2,zA8 hp h.1]
theorem zFV {xs:List Dir}:∀ {l:List Dir} {i:Nat},(∀ j d,l[j]?=some d→DirK (i+j) d)→(zAX xs i l).map (·.path)=(zCK xs i l).map mkP
 | [],_,_=>rfl
 | d::l,i,h=>by
   rw[zAX,zCK,List.map_append,List.map_append,zKb (show DirK i d from h 0 d rfl),zFV (l:=l) (i:=i+1) fun j e he=>by
    have:=h (j+1) e he
    rwa [show i+(j+1)=i+1+j from by omega] at this]
def homeK (k:List (List UInt8)):List (List UInt8):=if k.length % 2=0 then k else k.dropLast
theorem zHH {xs:List Dir} {i:Nat} {d:Dir} {k:List (List UInt8)} (h:k∈zFd xs i d):homeK k=segs d.path:=by
 have e:∀ x:List UInt8,homeK (segs d.path++[x])=segs d.path:=fun x=>by
  unfold homeK
  rw[if_neg (by rw[List.length_append,zCh,List.length_singleton];omega),List.dropLast_concat]
 unfold zFd at h
 rcases List.mem_append.1 h with h|h
 ·split at h
  ·cases h
  ·rcases List.mem_cons.1 h with rfl|h
   ·unfold homeK;rw[if_pos (by rw[zCh];omega)]
   ·rw[List.mem_singleton.1 h,e]
 ·split at h
  ·cases h
  ·rw[List.mem_singleton.1 h,e]
theorem zF3 {xs:List Dir}:∀ {l:List Dir} {i:Nat} {k:List (List UInt8)},k∈zCK xs i l→∃ d∈l,homeK k=segs d.path
 | [],_,k,h=>by cases h
 | d::l,i,k,h=>by
   rw[zCK] at h
   rcases List.mem_append.1 h with h|h
   ·exact ⟨d,by simp,zHH h⟩
   ·obtain ⟨e,he,h2⟩:=zF3 h
    exact ⟨e,by simp[he],h2⟩
theorem zLM (xs:List Dir) (i:Nat) (d:Dir):(zFd xs i d).Nodup:=by
 have hz:=zCh d.path
 have e1:∀ x:List UInt8,segs d.path≠segs d.path++[x]:=fun x e=>by
  have:=congrArg List.length e
  rw[List.length_append,List.length_singleton] at this
  omega
 have e2:segs d.path++[pkgK]≠segs d.path++[modK]:=fun e=>by
  have:=List.append_cancel_left e
  revert this;decide
 unfold zFd
 by_cases h0:i=0<;>by_cases h1:zBC xs i=[]
 ·rw[if_pos h0,if_pos h1];exact List.nodup_nil
 ·rw[if_pos h0,if_neg h1];simp
 ·rw[if_neg h0,if_pos h1];simp[e1]
 ·rw[if_neg h0,if_neg h1];simp[e1,e2]
theorem zFG {xs:List Dir}:∀ {l:List Dir} {i:Nat},(l.map (·.path)).Nodup→(zCK xs i l).Nodup
 | [],_,_=>List.nodup_nil
 | d::l,i,h=>by
   rw[List.map_cons,List.nodup_cons] at h
   rw[zCK,List.nodup_append]
   refine ⟨zLM xs i d,zFG h.2,fun a ha b hb e=>?_⟩
   subst e
   obtain ⟨f,hf,h2⟩:=zF3 hb
   rw[zHH ha] at h2
   exact h.1 (List.mem_map.2 ⟨f,hf,(zJb h2).symm⟩)
theorem zFM {xs:List Dir}:∀ {l:List Dir} {i:Nat},(∀ d∈l,d.path.all nameB=true)→∀ k∈zCK xs i l,noSl k
 | [],_,_,k,hk=>by cases hk
 | d::l,i,h,k,hk=>by
   have hd:=zCj (h d (by simp))
   have hx:∀ x:List UInt8,(∀ b∈x,(b != 47)=true)→noSl (segs d.path++[x]):=fun x hx s hs=>by
    rcases List.mem_append.1 hs with hs|hs
    ·exact hd s hs
    ·rw[List.mem_singleton.1 hs];exact hx
   rw[zCK] at hk
   rcases List.mem_append.1 hk with hk|hk
   ·unfold zFd at hk
    rcases List.mem_append.1 hk with hk|hk
    ·split at hk
     ·cases hk
     ·rcases List.mem_cons.1 hk with rfl|hk
      ·exact hd
      ·rw[List.mem_singleton.1 hk];exact hx _ (by decide)
    ·split at hk
     ·cases hk
     ·rw[List.mem_singleton.1 hk];exact hx _ (by decide)
   ·exact zFM (fun e he=>h e (by simp[he])) k hk
theorem zG7 {xs:List Dir}:∀ {l:List Dir} {i:Nat} {x:List UInt8},(∀ j d,l[j]?=some d→DirK (i+j) d)→[x]∈zCK xs i l→x=modK
 | [],_,x,_,h=>by cases h
 | d::l,i,x,hd,h=>by
   rw[zCK] at h
   rcases List.mem_append.1 h with h|h
   ·have hz:=zCh d.path
    have hs:∀ y:List UInt8,[x]=segs d.path++[y]→x=y:=fun y e=>by
     have h1:=congrArg List.length e
     rw[List.length_append,List.length_singleton,List.length_singleton] at h1
     have h2:segs d.path=[]:=List.eq_nil_of_length_eq_zero (by omega)
     rw[h2] at e
     simpa using e
    unfold zFd at h
    rcases List.mem_append.1 h with h|h
    ·split at h
     ·cases h
     ·rename_i h0
      rcases List.mem_cons.1 h with e|h
      ·have h1:=congrArg List.length e
       rw[List.length_singleton] at h1
       omega
      ·have e:=List.mem_singleton.1 h
       have h1:=congrArg List.length e
       rw[List.length_append,List.length_singleton,List.length_singleton] at h1
       have h2:d.path=[]:=List.eq_nil_of_length_eq_zero (by omega)
       have:=(hd 0 d rfl).2.2 h2
       omega
    ·split at h
     ·cases h
     ·exact hs _ (List.mem_singleton.1 h)
   ·exact zG7 (fun j e he=>by
     have:=hd (j+1) e he
     rwa [show i+(j+1)=i+1+j from by omega] at this) h
theorem zNk {s:Proj} (h:∀ j d,s.dirs[j]?=some d→DirK j d) (hn:(s.dirs.map (·.path)).Nodup):((imgU s).map (·.path)).Nodup:=by
 have hall:∀ d∈s.dirs,d.path.all nameB=true:=fun d hd=>by
  obtain ⟨j,hj,e⟩:=List.getElem_of_mem hd
  exact (h j d (by rw[gE hj,e])).1
 have hd:∀ j d,s.dirs[j]?=some d→DirK (0+j) d:=fun j d e=>by rw[Nat.zero_add];exact h j d e
 have e:(imgU s).map (·.path)=(keyU s).map mkP:=by
  unfold imgU keyU
  rw[List.map_append,List.map_append,List.map_append,List.map_append,zFV hd]
  have e1:mkP [manK]=manF:=by apply ByteArray.ext;decide +kernel
  have e2:mkP [lokK]=lokF:=by apply ByteArray.ext;decide +kernel
  have e3:mkP [pruK]=pruF:=by apply ByteArray.ext;decide +kernel
  show [manF,lokF]++_=[mkP [manK],mkP [lokK]]++_
  rw[e1,e2]
  congr 2
  split
  ·show [pruF]=[mkP [pruK]]
   rw[e3]
  ·rfl
 rw[e]
 have hclean:∀ k∈keyU s,noSl k:=fun k hk=>by
  have h1:∀ x:List UInt8,(∀ b∈x,(b != 47)=true)→noSl [x]:=fun x hx s hs=>by rw[List.mem_singleton.1 hs];exact hx
  unfold keyU at hk
  rcases List.mem_append.1 hk with hk|hk
  ·rcases List.mem_cons.1 hk with rfl|hk
   ·exact h1 _ (by decide)
   ·rw[List.mem_singleton.1 hk];exact h1 _ (by decide)
  ·rcases List.mem_append.1 hk with hk|hk
   ·split at hk
    ·rw[List.mem_singleton.1 hk];exact h1 _ (by decide)
    ·cases hk
   ·exact zFM hall k hk
 have hkn:(keyU s).Nodup:=by
  have o1:∀ x:List UInt8,x≠modK→[x]∉zCK s.dirs 0 s.dirs:=fun x hx hk=>hx (zG7 hd hk)
  have o2:=zFG (xs:=s.dirs) (i:=0) hn
  have q1:=o1 manK (by decide)
  have q2:=o1 lokK (by decide)
  have q3:=o1 pruK (by decide)
  unfold keyU
  have n1:[manK]≠[lokK]:=by decide
  have n2:[manK]≠[pruK]:=by decide
  have n3:[lokK]≠[pruK]:=by decide
  cases s.pruned
  ·rw[if_neg (by decide),List.nil_append]
   simp only[List.cons_append,List.nil_append,List.nodup_cons,List.mem_cons,not_or]
   exact ⟨⟨n1,q1⟩,q2,o2⟩
  ·rw[if_pos rfl]
   simp only[List.cons_append,List.nil_append,List.nodup_cons,List.mem_cons,not_or]
   exact ⟨⟨n1,n2,q1⟩,⟨n3,q2⟩,q3,o2⟩
 rw[List.nodup_iff_pairwise_ne,List.pairwise_map]
 refine hkn.imp_of_mem ?_
 intro a b ha hb hab e
 exact hab (zJX (hclean a ha) (hclean b hb) e)
def putS (l:List File) (f:File):List File:=l.takeWhile (fun g=>lessB g.path f.path)++f::l.dropWhile (fun g=>lessB g.path f.path)
def sortS (l:List File):List File:=l.foldl putS []
theorem zKP (l:List File) (f:File):(putS l f).Perm (l++[f]):=by
 unfold putS
 have e:=List.takeWhile_append_dropWhile (p:=fun g:File=>lessB g.path f.path) (l:=l)
 refine List.perm_middle.trans ?_
 rw[e]
 exact (List.perm_append_singleton f l).symm
theorem zRn (l:List File):∀ a,(l.foldl putS a).Perm (a++l):=by
 induction l with
 | nil=>intro a;rw[List.append_nil];exact List.Perm.refl _
 | cons f l ih=>
   intro a
   rw[List.foldl_cons]
   refine (ih (putS a f)).trans ?_
   refine ((zKP a f).append_right l).trans ?_
   rw[List.append_assoc]
   exact List.Perm.refl _
theorem zBf (l:List File):(sortS l).Perm l:=zRn l []
def upF (x y:File):Prop:=lessB y.path x.path=false
theorem zSZ {a b c:ByteArray} (h1:lessB b a=false) (h2:lessB c b=false):lessB c a=false:=by
 rw[zCg,decide_eq_false_iff_not] at *
 rw[List.not_lt] at *
 exact List.le_trans h1 h2
theorem zS6 {a b:ByteArray} (h:lessB a b=true):lessB b a=false:=by
 cases hb:lessB b a with
 | false=>rfl
 | true=>have:=zCq h hb;rw[zBx] at this;cases this
theorem zL2 {l:List File} {f:File} (h:l.Pairwise upF):(putS l f).Pairwise upF:=by
 induction l with
 | nil=>exact List.pairwise_singleton _ _
 | cons g l ih=>
   rw[List.pairwise_cons] at h
   unfold putS
   rw[List.takeWhile_cons,List.dropWhile_cons]
   cases hg:lessB g.path f.path with
   | true=>
     rw[if_pos rfl,if_pos rfl,List.cons_append,List.pairwise_cons]
     refine ⟨fun y hy=>?_,ih h.2⟩
     have hy':y∈putS l f:=hy
     rcases List.mem_append.1 ((zKP l f).mem_iff.1 hy') with hy|hy
     ·exact h.1 y hy
     ·rw[List.mem_singleton.1 hy];exact zS6 hg
   | false=>
     rw[if_neg (by decide),if_neg (by decide),List.nil_append,List.pairwise_cons]
     refine ⟨fun y hy=>?_,List.pairwise_cons.2 h⟩
     rcases List.mem_cons.1 hy with rfl|hy
     ·exact hg
     ·exact zSZ hg (h.1 y hy)
theorem zD8 (l:List File):(sortS l).Pairwise upF:=by
 unfold sortS
 have:∀ (l a:List File),a.Pairwise upF→(l.foldl putS a).Pairwise upF:=fun l=>by
  induction l with
  | nil=>intro a h;exact h
  | cons f l ih=>intro a h;exact ih _ (zL2 h)
 exact this l [] List.Pairwise.nil
theorem zEM {l:List File} (h:(l.map (·.path)).Nodup) {a b:File} (ha:a∈l) (hb:b∈l) (e:a.path=b.path):a=b:=by
 induction l with
 | nil=>cases ha
 | cons x l ih=>
   rw[List.map_cons,List.nodup_cons] at h
   rcases List.mem_cons.1 ha with ea|ha'<;>rcases List.mem_cons.1 hb with eb|hb'
   ·rw[ea,eb]
   ·exact absurd (List.mem_map.2 ⟨b,hb',by rw[←e,ea]⟩) h.1
   ·exact absurd (List.mem_map.2 ⟨a,ha',by rw[e,eb]⟩) h.1
   ·exact ih h.2 ha' hb'
theorem zGa {l M:List File} (hn:(l.map (·.path)).Nodup) (hp:M.Perm l) (hM:M.Pairwise upF):M=sortS l:=by
 refine List.Perm.eq_of_pairwise (le:=upF) ?_ hM (zD8 l) (hp.trans (zBf l).symm)
 intro a b ha hb h1 h2
 refine zEM hn (hp.mem_iff.1 ha) ((zBf l).mem_iff.1 hb) ?_
 unfold upF at h1 h2
 rw[zCg,decide_eq_false_iff_not,List.not_lt] at h1 h2
 exact ByteArray.ext (Array.toList_inj.1 (List.le_antisymm h1 h2))
end Go.Proofs.YthbnmehbhpakaaaGreatDoor
namespace Go.Proofs.YthbnmehbhpakaaaGreatDoor
open Go.ChangeShapes Go.WideShapes Go.ChangeAt Go.RowKit
def rProj:Rp Proj where
 size:=7
 holds:=fun w S x cs=>∃ s0 s1 s2 s3 s4 s5,cs=[s0,s1,s2,s3,s4,s5,.bool x.pruned]∧SlV rDep w S x.man.deps s0∧SlV rDep w S x.man.dev s1∧SlV rDep w S x.man.opts s2∧SlV rDep w S x.man.over s3∧SlV rNode w S x.nodes s4∧SlV rDir w S x.dirs s5
 len:=fun ⟨s0,s1,s2,s3,s4,s5,h,c0,c1,c2,c3,c4,c5⟩=>by rw[h];rfl
 one:=fun ⟨s0,s1,s2,s3,s4,s5,h,c0,c1,c2,c3,c4,c5⟩=>by obtain ⟨_,_,rfl,_⟩:=c0.val;obtain ⟨_,_,rfl,_⟩:=c1.val;obtain ⟨_,_,rfl,_⟩:=c2.val;obtain ⟨_,_,rfl,_⟩:=c3.val;obtain ⟨_,_,rfl,_⟩:=c4.val;obtain ⟨_,_,rfl,_⟩:=c5.val;rw[h];simp[Value.oneCell']
 mono:=fun ⟨s0,s1,s2,s3,s4,s5,h,c0,c1,c2,c3,c4,c5⟩ hk=>⟨s0,s1,s2,s3,s4,s5,h,(zAL rDep).mono c0 hk,(zAL rDep).mono c1 hk,(zAL rDep).mono c2 hk,(zAL rDep).mono c3 hk,(zAL rNode).mono c4 hk,(zAL rDir).mono c5 hk⟩
def zK6 (x:Proj):Nat:=1+zNQ x.man+(1+bkL zDv x.nodes)+(1+bkL bkDir x.dirs)+1
theorem zL4:zCC Tryz.prog 32 rProj zK6:=by
 intro H enc w base fuel cs x h
 obtain ⟨xs,n,rfl,rfl,hlen,hxl,hf⟩:=DataW.trod_struct Tryz.underlying32 h
 rw[show Tryz.prog.cellsOf 32=7 from by kernel_rfl] at hlen
 match cs,hlen with
 | [c0,c1,c2,c3,c4,c5,c6],_=>
   have k0:Tryz.prog.cellsOf 24=4:=by kernel_rfl
   have k1:Tryz.prog.cellsOf 27=1:=by kernel_rfl
   have k2:Tryz.prog.cellsOf 30=1:=by kernel_rfl
   have k3:Tryz.prog.cellsOf 4=1:=by kernel_rfl
   have f0:=hf 0 _ rfl
   have f1:=hf 1 _ rfl
   have f2:=hf 2 _ rfl
   have f3:=hf 3 _ rfl
   match xs,hxl with
   | [x0,x1,x2,x3],_=>
     simp[k0,k1,k2,k3] at f0 f1 f2 f3
     obtain ⟨y0,⟨v0,v1,v2,v3,h0,g0,g1,g2,g3⟩,b0⟩:=zL8 H enc w base n [c0,c1,c2,c3] x0 f0
     simp only[List.cons.injEq,and_true] at h0
     obtain ⟨rfl,rfl,rfl,rfl⟩:=h0
     obtain ⟨y1,⟨v4,h1,g4⟩,b1⟩:=zKY H enc w base n [c4] x1 f1
     simp only[List.cons.injEq,and_true] at h1
     subst h1
     obtain ⟨y2,⟨v5,h2,g5⟩,b2⟩:=zMS H enc w base n [c5] x2 f2
     simp only[List.cons.injEq,and_true] at h2
     subst h2
     obtain ⟨y3,h3,b3⟩:=zMC Tryz.underlying4 H enc w base n [c6] x3 f3
     have h3':[c6]=[Value.bool y3]:=h3
     simp only[List.cons.injEq,and_true] at h3'
     subst h3'
     refine ⟨⟨y0,y1.nodes,y2.dirs,y3⟩,⟨_,_,_,_,_,_,rfl,g0,g1,g2,g3,g4,g5⟩,?_⟩
     simp only[zK6,zLz,zPr,Rows.uptoBulk,Rows.uptoBulkAll,List.map_cons,List.map_nil] at *
     omega
def ProjV (w:World) (S:Nat→Prop) (x:Proj) (v:Value):Prop:=
 ∃ A0 n0 c0 A1 n1 c1 A2 n2 c2 A3 n3 c3 A4 n4 c4 A5 n5 c5,v=.agg #[.slice A0 n0 c0,.slice A1 n1 c1,.slice A2 n2 c2,.slice A3 n3 c3,.slice A4 n4 c4,.slice A5 n5 c5,.bool x.pruned] ∧
   SlV rDep w S x.man.deps (.slice A0 n0 c0)∧SlV rDep w S x.man.dev (.slice A1 n1 c1)∧SlV rDep w S x.man.opts (.slice A2 n2 c2)∧SlV rDep w S x.man.over (.slice A3 n3 c3)∧SlV rNode w S x.nodes (.slice A4 n4 c4)∧SlV rDir w S x.dirs (.slice A5 n5 c5)
theorem zRA {H:Type} {enc:TypeId×Value→H} {w:World} {v:Value} {d:DataW H} {ps:List MemPlace} {base:Nat} {r:Reach}
  (hv:Value.okWide Tryz.prog w r base 32 v) (h:DataW.Trod enc Tryz.prog w 0 (fun _=>true) true 32 v d ps) :
  ∃ x:Proj,ProjV w (fun b=>b<w.heap.size) x v∧zK6 x≤Rows.uptoBulk d:=by
 obtain ⟨y,hy,hbk⟩:=zOl zL4 h
 obtain ⟨cs,rfl,_⟩:=okWide_struct Tryz.underlying32 hv
 obtain ⟨s0,s1,s2,s3,s4,s5,hcs,g0,g1,g2,g3,g4,g5⟩:=hy
 obtain ⟨A0,c0,rfl,_,_⟩:=g0.val
 obtain ⟨A1,c1,rfl,_,_⟩:=g1.val
 obtain ⟨A2,c2,rfl,_,_⟩:=g2.val
 obtain ⟨A3,c3,rfl,_,_⟩:=g3.val
 obtain ⟨A4,c4,rfl,_,_⟩:=g4.val
 obtain ⟨A5,c5,rfl,_,_⟩:=g5.val
 have e:cs.toList=[.slice A0 y.man.deps.length c0,.slice A1 y.man.dev.length c1,.slice A2 y.man.opts.length c2,.slice A3 y.man.over.length c3,.slice A4 y.nodes.length c4,.slice A5 y.dirs.length c5,.bool y.pruned]:=hcs
 obtain rfl:cs=#[.slice A0 y.man.deps.length c0,.slice A1 y.man.dev.length c1,.slice A2 y.man.opts.length c2,.slice A3 y.man.over.length c3,.slice A4 y.nodes.length c4,.slice A5 y.dirs.length c5,.bool y.pruned]:=Array.ext' e
 exact ⟨y,⟨_,_,_,_,_,_,_,_,_,_,_,_,_,_,_,_,_,_,rfl,g0,g1,g2,g3,g4,g5⟩,hbk⟩
end Go.Proofs.YthbnmehbhpakaaaGreatDoor
namespace Go.Proofs.YthbnmehbhpakaaaGreatDoor
open Go.Rows Go.RowKit Go.Shelf Go.Sort
def edgeB (m:Nat) (e:Edge):Bool:=decide (1≤e.to)&&decide (e.to<(m:Int))
def nodeB (m:Nat) (x:Node):Bool:=x.edges.all (edgeB m)
def zBI (g:List Node):Bool:=g.all (nodeB g.length)&&decide (0<g.length)
theorem zPo {α:Type} {q:α→Bool} {l:List α} {k:Nat} (h:k<l.length):(l.drop k).all q=(q l[k]&&(l.drop (k+1)).all q):=by
 rw[dC h,List.all_cons]
theorem zOn (A:Option Addr) (n c:Nat) (g:List Node) (w:World) (S:Nat→Prop) (hx:SlV rNode w S g (.slice A n c)) :
  Calls Tryz.prog 104 #[.agg #[.slice A n c]] w fun e w'=>e=.returned (.bool (zBI g))∧Below w.heap.size w w':=by
 have hnx:=hx.n_eq
 have hcx:=hx.cap_le
 unfold maxLen at hcx
 have hn63:n≤9223372036854775807:=by omega
 have HX:=cH (hx.more (S':=fun b=>b<w.heap.size) fun b _ h=>h)
 have HR:Hid (zBI g=((g.drop 0).all (nodeB n)&&decide (0<n))):=by unfold Hid zBI;rw[hnx];rfl
 have Hnx:=cH hnx;clear hnx
 clear hx hcx
 generalize zBI g=R at *
 go_enter Tryz.func104,Tryz.ntmps104
 go_wp2_with fail
 obtain ⟨w0,hw0⟩:∃ w0,w0=w.alloc (.cells #[.slice A n c] 27):=⟨_,rfl⟩
 have hz:w.heap.size<w0.heap.size:=by rw[hw0];simp[go_sem]
 have hb0:Below w.heap.size w w0:=by rw[hw0];exact bal (bR _ _) _
 have a0:w0.cell? ⟨w.heap.size,0,none⟩=some (.slice A n c):=by rw[hw0];simp[go_sem]
 rw[←hw0]
 clear hw0
 have HB0:=cH hb0;clear hb0
 go_loopw [10] (fun i wr=>∃ k:Nat,k≤n∧i=.int .i64 k∧Hid (R=((g.drop k).all (nodeB n)&&decide (0<n)))∧Below w0.heap.size w0 wr) (fun i _=>n - (intOf i).toNat)
 case atStart=>exact ⟨0,nZ _,rfl,HR,bR _ _⟩
 case round=>
  obtain ⟨k,hk,rfl,heq,hbel⟩:=hrel
  have b0:=zAA hbel a0 hz
  have hbel':=bot HB0.out hbel
  by_cases hlt:k<n
  ·have hkx:k<g.length:=by have:=Hnx.out;omega
   obtain ⟨b,oo,cs,rfl,_,hb1,hh,hcell⟩:=(HX.out.below hbel' (fun b h=>h)).elem (gE hkx)
   have Hat:=cH (zPo (q:=nodeB n) hkx)
   have Hnd:Hid (nodeB n g[k]=(g[k].edges.drop 0).all (edgeB n)):=rfl
   obtain ⟨s0,s1,rfl,_,_,_,_,hp1,hp2⟩:=hh
   obtain ⟨pA,pa,rfl,_,_⟩:=hp1.val
   obtain ⟨qA,qa,rfl,hq1,hq2⟩:=hp2.val
   unfold maxLen at hq2
   have c0:=hcell 0 _ rfl
   have c1:=hcell 1 _ rfl
   have c2:=hcell 2 _ rfl
   have c3:=hcell 3 _ rfl
   have c4:=hcell 4 _ rfl
   have c5:=hcell 5 _ rfl
   simp only[rNode,Nat.add_zero] at c0 c1 c2 c3 c4 c5
   have HE:Hid (SlV rEdge wr (fun b=>b<wr.heap.size) g[k].edges (.slice qA g[k].edges.length qa)):=SlV.more hp2 (fun b _ h=>h)
   clear hcell hp1 hp2
   have hk0:(0:Int)≤(k:Int):=by omega
   have hkn:(k:Int)<(n:Int):=by omega
   have hn0:decide (0<n)=true:=decide_eq_true (by omega)
   generalize nodeB n g[k]=nb at *
   generalize g[k].ctx.length=l1 at *
   generalize g[k].name=nm at *
   generalize g[k].ver.major=y1 at *
   generalize g[k].ver.minor=y2 at *
   generalize g[k].ver.patch=y3 at *
   generalize g[k].edges=es at *
   generalize hl0:es.length=m at *
   have Hm:=cH hl0;clear hl0
   obtain ⟨wo,rfl⟩:∃ wo:World,wo=wr:=⟨_,rfl⟩
   go_wp2_with fail
   obtain ⟨w1,hw1⟩:∃ w1,w1=wo.alloc (.cells #[.string nm,.int .i64 y1,.int .i64 y2,.int .i64 y3,.slice pA l1 pa,.slice qA m qa] 63):=⟨_,rfl⟩
   have hb1':Below wo.heap.size wo w1:=by rw[hw1];exact bal (bR _ _) _
   rw[←hw1]
   clear hw1 c0 c1 c2 c3 c4 c5 b0
   go_loopw [17] (fun i wr=>∃ q:Nat,q≤m∧i=.int .i64 q∧Hid (nb=(es.drop q).all (edgeB n))∧Below wo.heap.size wo wr) (fun i _=>m - (intOf i).toNat)
   case atStart=>exact ⟨0,nZ _,rfl,Hnd,hb1'⟩
   case round=>
    clear hb1'
    obtain ⟨q,hq,rfl,hnb,hbr⟩:=hrel
    have hbt:=bot hbel hbr
    have hbt':=bot HB0.out hbt
    have b0:=zAA hbt a0 hz
    have hzr:w.heap.size<wr.heap.size:=lL hz hbt.size
    by_cases hlq:q<m
    ·have hqy:q<es.length:=by have:=Hm.out;omega
     obtain ⟨b',oo',cs',rfl,_,hb2,⟨rfl,_,hI1,hI2⟩,hcell'⟩:=(HE.out.below hbr (fun b h=>h)).elem (gE hqy)
     have d0:=hcell' 0 _ rfl
     have d1:=hcell' 1 _ rfl
     simp only[rEdge,Nat.add_zero] at d0 d1
     have Hae:=cH (zPo (q:=edgeB n) hqy)
     have Hed:Hid (edgeB n es[q]=(decide (1≤es[q].to)&&decide (es[q].to<(n:Int)))):=rfl
     have bo:∀ o:Obj,(wr.alloc o).cell? ⟨w.heap.size,0,none⟩=some (.slice (some ⟨b,oo,none⟩) n c):=fun o=>zAA (bal (bR _ _) o) b0 hzr
     clear hcell'
     have hq0:(0:Int)≤(q:Int):=by omega
     have hqm:(q:Int)<(m:Int):=by omega
     generalize edgeB n es[q]=eb at *
     generalize es[q].to=tq at *
     generalize es[q].label=lb at *
     by_cases h1:tq<1
     ·have hd:decide (tq<1)=true:=decide_eq_true h1
      have He:Hid (R=false):=by unfold Hid;rw[heq.out,Hat.out,hnb.out,Hae.out,Hed.out,decide_eq_false (by omega)];rfl
      go_wp2_with fail
      go_ret
      exact ⟨zAB He.out.symm,bal hbt' _⟩
     ·have hd:decide (tq<1)=false:=decide_eq_false h1
      by_cases h2:(n:Int)≤tq
      ·have hd2:decide ((n:Int)≤tq)=true:=decide_eq_true h2
       have He:Hid (R=false):=by unfold Hid;rw[heq.out,Hat.out,hnb.out,Hae.out,Hed.out,decide_eq_true (show 1≤tq by omega),decide_eq_false (show ¬tq<(n:Int) by omega)];rfl
       go_wp2_with fail
       go_ret
       exact ⟨zAB He.out.symm,bal hbt' _⟩
      ·have hd2:decide ((n:Int)≤tq)=false:=decide_eq_false h2
       have He:Hid (nb=(es.drop (q+1)).all (edgeB n)):=by unfold Hid;rw[hnb.out,Hae.out,Hed.out,decide_eq_true (show 1≤tq by omega),decide_eq_true (show tq<(n:Int) by omega)];rfl
       clear hnb Hae Hed
       go_wp2_with fail
       go_roundw
       case rel=>exact ⟨q+1,by omega,by go_num,He,bal hbr _⟩
       case measure=>simp[intOf];omega
    ·have Hnb:Hid (nb=true):=by unfold Hid;rw[hnb.out,dN (by have:=Hm.out;omega)];rfl
     have He:Hid (R=((g.drop (k+1)).all (nodeB n)&&decide (0<n))):=by unfold Hid;rw[heq.out,Hat.out,Hnb.out];rfl
     clear heq Hat hnb Hnb
     go_wp2_with fail
     go_roundw
     case rel=>exact ⟨k+1,by omega,by go_num,He,hbt⟩
     case measure=>simp[intOf];omega
  ·have He:Hid (R=decide (0<n)):=by unfold Hid;rw[heq.out,dN (by have:=Hnx.out;omega)];rfl
   go_wp2_with fail
   go_ret
   exact ⟨zAB (by rw[He.out]),hbel'⟩
theorem zNd (A:Option Addr) (n c:Nat) (l:List ByteArray) (s:ByteArray) (w:World) (S:Nat→Prop) (hs:s.size≤maxLen) (hlen:l.length * 32≤140737488355328) (hl:SlV rStr w S l (.slice A n c)) :
  Calls Tryz.prog 65 #[.slice A n c,.string s] w fun e w'=>∃ v,e=.returned v∧SlV rStr w' (fun _=>True) (l++[s]) v∧Below w.heap.size w w':=by
 have hm:maxLen=9223372036854775807:=rfl
 have hnx:=hl.n_eq
 have hn63:n≤9223372036854775807:=by omega
 obtain ⟨i,z,hi,hz,hsz,hby,hzs,hpos⟩:=zBg
 have hHS:=cH hs;clear hs
 have hnb:n≤4398046511104:=by omega
 have Hnx:=cH hnx;clear hnx
 go_enter Tryz.func65,Tryz.ntmps65
 go_wp2_with (at_make;refine wpList_make_own w (by rfl) _ _ _ (by rfl) w.heap.size 9 i z 1 Tryz.underlying53 hi hz hsz _ _ _ (n+1) (by rfl) (by rfl) (by omega) (by rw[hby];have:=Hnx.out;omega) (by have:=Hnx.out;omega) (nR _) ?_)
 intro w1 hown1 hgrow
 have HB1:Hid (Below w.heap.size w w1):=(bR _ _).grown hgrow (nR _) (fun k hk=>by cases hk)
 have Hown1:Hid (Own rStr w1 w.heap.size 9 (.slice (some ⟨w.heap.size,0,none⟩) 0 (n+1)) [] (fun _=>False)):=⟨fun b hb=>hb.elim,[],hown1,rfl⟩
 have Hl1:Hid (SlV rStr w1 (fun b=>b<w.heap.size) l (.slice A n c)):=(hl.more (S':=fun b=>b<w.heap.size) fun b h1 h2=>h2).belowSize HB1.out
 have hw1:=HB1.out.size
 clear hown1 hgrow hl
 go_wp2_with (at_builtin;refine zCd (by rfl) _ _ _ (by rfl) zBg Tryz.underlying53 (by rfl) Hown1.out (fun b=>b<w.heap.size) l _ _ _ (by rfl) Hl1.out (by intro b hb he;simp[Value.ownBlock] at he;omega) (by simp[maxLen];omega) (by simp;omega) hw1 ?_)
 intro v2 w2 hown2 hgrow2 hat2
 have HB2:Hid (Below w.heap.size w w2):=zC3 HB1.out hgrow2 Hown1.out (nR _)
 have Hown2:Hid (Own rStr w2 w.heap.size 9 v2 l (fun b=>b<w.heap.size∧b<w1.heap.size)):=hown2
 have hw2:=HB2.out.size
 have Hlen:Hid (l.length=n):=Hnx.out.symm
 clear hown2 hgrow2 hat2 Hown1 Hl1 hlen
 go_wp2_with (at_builtin;refine zAb (by rfl) _ _ _ (by rfl) zBg Tryz.underlying53 (by rfl) (Hown2.out.alloc _) ⟨w2.heap.size,0,none⟩ 1 [.string s] s (by rfl) ⟨rfl,hHS.out⟩ (zAz w2 #[.string s] _) (by rw[Hlen.out];unfold maxLen;omega) (by rw[Hlen.out];omega) (by simp;omega) (w2.heap.size+1) (by simp) ?_)
 intro g9 cap9 w9 hown9 hgrow9 hat9 hlt9
 have HB9:=cH (zC3 (bal HB2.out _) hgrow9 (Hown2.out.alloc _) (nR _))
 have Hown9:=cH hown9
 clear hown9 hgrow9
 go_wp2_with fail
 go_ret
 exact ⟨_,rfl,Hown9.out.slv.more (fun b _ _=>trivial),HB9.out⟩
noncomputable def zA6 (t:List Dir) (p:List ByteArray) (s:ByteArray):Nat→Int
 | 0=>-1
 | q+1=>bif decide (0≤findI t (p.take q++[s])) then findI t (p.take q++[s]) else zA6 t p s q
noncomputable def lookI (t:List Dir) (i:Int) (s:ByteArray):Int:=
 if h:0≤i∧i.toNat<t.length then (bif nameB s then zA6 t (t[i.toNat]'h.2).path s ((t[i.toNat]'h.2).path.length+1) else -1) else -1
theorem keepL {w0 W W':World} {a:Nat} {v:Value} (hb:Below W.heap.size W W') (hc:W.cell? ⟨a,0,none⟩=some v) (hB:Below w0.heap.size w0 W) (hz:a<w0.heap.size):W'.cell? ⟨a,0,none⟩=some v∧Below w0.heap.size w0 W':=
 ⟨zAA hb hc (lL hz hB.size),bot hB hb⟩
theorem zRz (A:Option Addr) (n c:Nat) (xs:List Dir) (s:ByteArray) (w:World) (S:Nat→Prop) (i:Int) (hs:s.size≤maxLen) (hlen:∀ d∈xs,d.path.length * 32≤140737488355328) (hx:SlV rDir w S xs (.slice A n c)) :
  Calls Tryz.prog 19 #[.agg #[.slice A n c],.int .i64 i,.string s] w fun e w'=>e=.returned (.int .i64 (lookI xs i s))∧Below w.heap.size w w':=by
 have hnx:=hx.n_eq
 have hcx:=hx.cap_le
 unfold maxLen at hcx
 by_cases h0:i<0
 ·have hd:decide (i<0)=true:=decide_eq_true h0
  have He:Hid (lookI xs i s=-1):=by unfold Hid lookI;rw[dif_neg (by omega)]
  clear hx hnx hcx hlen
  generalize lookI xs i s=R at *
  go_enter Tryz.func19,Tryz.ntmps19
  go_wp2_with fail
  go_ret
  exact ⟨zBZ He.out.symm,bal (bR _ _) _⟩
 have hd:decide (i<0)=false:=decide_eq_false h0
 by_cases h1:(n:Int)≤i
 ·have hd1:decide ((n:Int)≤i)=true:=decide_eq_true h1
  have He:Hid (lookI xs i s=-1):=by unfold Hid lookI;rw[dif_neg (by omega)]
  clear hx hnx hcx hlen
  generalize lookI xs i s=R at *
  go_enter Tryz.func19,Tryz.ntmps19
  go_wp2_with fail
  go_ret
  exact ⟨zBZ He.out.symm,bal (bR _ _) _⟩
 have hd1:decide ((n:Int)≤i)=false:=decide_eq_false h1
 obtain ⟨k,rfl⟩:∃ k:Nat,i=(k:Int):=⟨i.toNat,by omega⟩
 have hk:k<xs.length:=by omega
 have Hnm:=cH (fun W=>zA2 s hs W)
 have HR:Hid (lookI xs (k:Int) s=bif nameB s then zA6 xs xs[k].path s (xs[k].path.length+1) else -1):=by
  unfold Hid lookI;rw[dif_pos (by omega)];simp only[Int.toNat_natCast]
 generalize lookI xs (k:Int) s=R at *
 have hkn:(k:Int)<(n:Int):=by omega
 have hk0:(0:Int)≤(k:Int):=by omega
 cases hnb:nameB s
 ·have He:Hid (R=-1):=by unfold Hid;rw[HR.out,hnb];rfl
  rw[hnb] at Hnm
  clear hx hnx hcx hlen hnb HR
  go_enter Tryz.func19,Tryz.ntmps19
  go_wp2_with fail
  refine (Hnm.out _).mono ?_
  rintro e w1 ⟨rfl,B1⟩
  go_wp2_with fail
  go_ret
  exact ⟨zBZ He.out.symm,bnew B1⟩
 rw[hnb] at Hnm
 have HR1:Hid (R=zA6 xs xs[k].path s (xs[k].path.length+1)):=by unfold Hid;rw[HR.out,hnb];rfl
 clear HR hnb
 have hlk:=hlen xs[k] (List.getElem_mem hk)
 have HX:=cH hx
 have HS:=cH hs
 obtain ⟨b,o,cs,rfl,_,hb1,hh,hcell⟩:=hx.elem (gE hk)
 obtain ⟨s0,s1,s2,s3,rfl,hp,_,_,_,_,_,_,_,_⟩:=hh
 obtain ⟨pA,pc,rfl,hpl,hpm⟩:=hp.val
 unfold maxLen at hpm
 have c0:=hcell 0 _ rfl
 simp only[rDir,Nat.add_zero] at c0
 have HP:=cH hp
 clear hcell hp hx hs hlen hcx hnx
 generalize xs[k].path=path at *
 generalize hl0:path.length=l0 at *
 have Hl0:=cH hl0;clear hl0
 go_enter Tryz.func19,Tryz.ntmps19
 go_wp2_with fail
 obtain ⟨w0,hw0⟩:∃ w0,w0=w.alloc (.cells #[.slice (some ⟨b,o,none⟩) n c] 30):=⟨_,rfl⟩
 have hz:w.heap.size<w0.heap.size:=by rw[hw0];simp[go_sem]
 have hb0:Below w.heap.size w w0:=by rw[hw0];exact bal (bR _ _) _
 have a0:w0.cell? ⟨w.heap.size,0,none⟩=some (.slice (some ⟨b,o,none⟩) n c):=by rw[hw0];simp[go_sem]
 rw[←hw0]
 have HB0:=cH hb0;clear hb0 hw0
 refine (Hnm.out w0).mono ?_
 rintro e w1 ⟨rfl,B1⟩
 have Q1:=cH B1;clear B1 Hnm
 have e0:=zAA (bot HB0.out Q1.out) c0 hb1
 have e1:=zAA Q1.out a0 hz
 go_wp2_with fail
 clear e0 e1
 go_loopw [8] (fun i wr=>((i=.int .i64 (-1)∧Hid (R=-1))∨∃ q:Nat,q≤l0∧i=.int .i64 q∧Hid (R=zA6 xs path s (q+1)))∧Below w0.heap.size w0 wr) (fun i _=>(intOf i+1).toNat)
 case atStart=>exact ⟨.inr ⟨l0,nR _,rfl,HR1⟩,Q1.out⟩
 case round=>
  obtain ⟨hor,hbel⟩:=hrel
  have b0:=zAA hbel a0 hz
  have hbel':=bot HB0.out hbel
  rcases hor with ⟨rfl,He⟩|⟨q,hq,rfl,HRq⟩
  ·go_wp2_with fail
   go_ret
   exact ⟨zBZ He.out.symm,hbel'⟩
  ·have hq0:(0:Int)≤(q:Int):=by omega
   have hqc:q≤pc:=by omega
   have hw2:IntKind.i64.wrap (q:Int)=(q:Int):=IntWalk.i64_in _ ⟨by omega,by omega⟩
   go_wp2_with fail
   have Hj:Hid (∀ W,Below w0.heap.size w0 W→Calls Tryz.prog 65 #[.slice pA q pc,.string s] W fun e w'=>∃ v,e=.returned v∧SlV rStr w' (fun _=>True) (path.take q++[s]) v∧Below W.heap.size W w'):=fun W hW=>
    zNd pA q pc (path.take q) s W _ HS.out (by rw[List.length_take];omega) (SlV.take (HP.out.belowSize (bot HB0.out hW)) (by rw[Hl0.out];exact hq))
   have Hf:Hid (∀ W vA m vc,Below w0.heap.size w0 W→SlV rStr W (fun _=>True) (path.take q++[s]) (.slice vA m vc)→Calls Tryz.prog 64 #[.agg #[.slice (some ⟨b,o,none⟩) n c],.slice vA m vc] W fun e w'=>e=.returned (.int .i64 (findI xs (path.take q++[s])))∧Below W.heap.size W w'):=fun W vA m vc hW hv=>
    zJr _ _ _ _ _ _ xs _ W _ _ (HX.out.belowSize (bot HB0.out hW)) hv
   have Hst:Hid (zA6 xs path s (q+1)=bif decide (0≤findI xs (path.take q++[s])) then findI xs (path.take q++[s]) else zA6 xs path s q):=rfl
   generalize findI xs (path.take q++[s])=f at *
   generalize path.take q++[s]=jp at *
   generalize zA6 xs path s (q+1)=LD at *
   go_region_held3 (fun w'=>w'.cell? ⟨w.heap.size,0,none⟩=some (.slice (some ⟨b,o,none⟩) n c)∧Below w0.heap.size w0 w')
    (first
      | exact ⟨b0,hbel.drew⟩
      | (go_split_ands;exact keepL (by assumption) (by assumption) (by assumption) hz))
    (first
      | (go_at_call 65;go_split_ands;with_reducible refine (Hj.out _ (by assumption)).mono ?_;rintro e w2 ⟨v,rfl,hv,hb2⟩;obtain ⟨vA,vc,rfl,_,_⟩:=hv.val)
      | (go_at_call 64;go_split_ands;with_reducible refine (Hf.out _ _ _ _ (by assumption) (by assumption)).mono ?_;rintro e w3 ⟨rfl,hb3⟩))
   all_goals
    have HBw:Hid (Below w0.heap.size w0 w3):=by (go_split_ands;assumption)
    have HRr:Hid (R=bif decide (0≤f) then f else zA6 xs path s q):=HRq.out.trans Hst.out
    by_cases hf:0≤f
    ·have He:Hid (R=f):=by unfold Hid;rw[HRr.out,decide_eq_true hf];rfl
     go_wp2_with fail
     go_ret
     exact ⟨zBZ He.out.symm,bot HB0.out HBw.out⟩
    ·have hfk:decide (0≤f)=false:=decide_eq_false hf
     have He:Hid (R=zA6 xs path s q):=by unfold Hid;rw[HRr.out,hfk];rfl
     have hwm:IntKind.i64.wrap ((q:Int) - 1)=(q:Int) - 1:=IntWalk.i64_in _ ⟨by omega,by omega⟩
     clear hf HRr
     go_wp2_with fail
     go_roundw
     case rel=>
      refine ⟨?_,HBw.out⟩
      by_cases hq00:q=0
      ·exact .inl ⟨by simp[hq00],by unfold Hid;rw[He.out,hq00];rfl⟩
      ·obtain ⟨q',rfl⟩:∃ q',q=q'+1:=⟨q - 1,by omega⟩
       exact .inr ⟨q',by omega,by congr 1;omega,He⟩
     case measure=>simp[intOf]
theorem zMc (t:List Dir) (p:List ByteArray):-1≤findI t p∧findI t p<(t.length:Int):=by
 unfold findI
 rcases firstI_lt (fun d=>eqB d.path p) t with h|⟨j,h,hj,_⟩
 ·rw[h.1];omega
 ·rw[h];omega
theorem zHu (t:List Dir) (p:List ByteArray) (s:ByteArray):∀ q,-1≤zA6 t p s q∧zA6 t p s q<(t.length:Int):=by
 intro q
 induction q with
 | zero=>unfold zA6;omega
 | succ q ih=>
   unfold zA6
   cases decide (0≤findI t (p.take q++[s]))
   ·exact ih
   ·exact zMc _ _
theorem zMQ (t:List Dir) (i:Int) (s:ByteArray):-1≤lookI t i s∧lookI t i s<(t.length:Int):=by
 unfold lookI
 split
 ·cases nameB s
  ·show (-1:Int)≤-1∧(-1:Int)<t.length;omega
  ·exact zHu _ _ _ _
 ·omega
noncomputable def zE6 (t:List Dir) (g:List Node) (q:Nat) (e:Nat):Bool:=
 match t[q]?,g[e]? with
 | some d,some x=>decide (d.pack.name=x.name)&&eqB d.pack.ver x.ver
 | _,_=>false
theorem zQi {t:List Dir} {g:List Node} {q e:Nat} (h1:q<t.length) (h2:e<g.length):zE6 t g q e=(decide (t[q].pack.name=g[e].name)&&eqB t[q].pack.ver g[e].ver):=by
 unfold zE6;rw[gE h1,gE h2]
abbrev MSt:=List Int×List Nat
noncomputable def zB0 (t:List Dir) (g:List Node) (a:Nat) (s:MSt) (e:Edge):Option MSt:=
 if 0≤lookI t a e.label∧zE6 t g (lookI t a e.label).toNat e.to.toNat=true then
  (if s.1[(lookI t a e.label).toNat]?=some (-1) then some (s.1.set (lookI t a e.label).toNat e.to,s.2++[(lookI t a e.label).toNat])
   else if s.1[(lookI t a e.label).toNat]?=some e.to then some s else none)
 else none
noncomputable def zAg (t:List Dir) (g:List Node) (a:Nat):List Edge→MSt→Option MSt
 | [],s=>some s
 | e::es,s=>match zB0 t g a s e with
   | none=>none
   | some s'=>zAg t g a es s'
def zDB (g:List Node) (i:Int):List Edge:=match g[i.toNat]? with|some x=>x.edges|none=>[]
noncomputable def zAc (t:List Dir) (g:List Node):Nat→MSt→Option (List Int)
 | 0,_=>none
 | _+1,(m,[])=>some m
 | f+1,(m,a::rest)=>match zAg t g a (zDB g (m.getD a 0)) (m,rest) with
   | none=>none
   | some s=>zAc t g f s
noncomputable def zFv (t:List Dir) (g:List Node) (f:Nat):Option MSt→Option (List Int)
 | none=>none
 | some s=>zAc t g f s
theorem zGC (t:List Dir) (g:List Node) (f:Nat) (m:List Int) (a:Nat) (rest:List Nat):zAc t g (f+1) (m,a::rest)=zFv t g f (zAg t g a (zDB g (m.getD a 0)) (m,rest)):=by
 rw[zAc];cases zAg t g a (zDB g (m.getD a 0)) (m,rest)<;>rfl
theorem zLl (t:List Dir) (g:List Node) (a:Nat) {es:List Edge} {k:Nat} (h:k<es.length) (s:MSt):zAg t g a (es.drop k) s=match zB0 t g a s es[k] with|none=>none|some s'=>zAg t g a (es.drop (k+1)) s':=by
 rw[dC h,zAg]
noncomputable def map0 (n:Nat):MSt:=(0::List.replicate (n - 1) (-1),[0])
noncomputable def mapR (t:List Dir) (g:List Node):Option (List Int)×Int:=
 if zAe t≠0 then (none,42)
 else if zBI g=false then (none,33)
 else match zAc t g (t.length+1) (map0 t.length) with
  | none=>(none,42)
  | some m=>(some m,0)
def freeN (m:List Int):Nat:=m.count (-1)
structure MInv (n:Nat) (gl:Nat) (s:MSt):Prop where
 len:s.1.length=n
 rng:∀ x∈s.1,-1≤x∧x<(gl:Int)
 rest:∀ r∈s.2,∃ x,s.1[r]?=some x∧0≤x
theorem zH6:∀ (m:List Int) (q:Nat) (v:Int),m[q]?=some (-1)→v≠-1→freeN (m.set q v)+1=freeN m:=by
 intro m
 induction m with
 | nil=>intro q v h _;simp at h
 | cons x m ih=>
   intro q v h hv
   cases q with
   | zero=>
     simp at h
     subst h
     unfold freeN
     rw[List.set_cons_zero,List.count_cons_self,List.count_cons_of_ne hv]
   | succ q=>
     simp at h
     have:=ih q v h hv
     unfold freeN at this ⊢
     rw[List.set_cons_succ,List.count_cons,List.count_cons]
     omega
theorem MInv.edge {n:Nat} {t:List Dir} {g:List Node} {a:Nat} {s s':MSt} {e:Edge} (h:MInv n g.length s) (he:edgeB g.length e=true) (hm:zB0 t g a s e=some s') :
  MInv n g.length s'∧freeN s'.1+s'.2.length=freeN s.1+s.2.length∧(∀ (r:Nat) (x:Int),s.1[r]?=some x→0≤x→s'.1[r]?=some x):=by
 unfold edgeB at he
 simp only[Bool.and_eq_true,decide_eq_true_eq] at he
 unfold zB0 at hm
 split at hm
 ·split at hm
  ·rename_i hc hf
   injection hm with hm
   subst hm
   have hkeep:∀ (r:Nat) (x:Int),s.1[r]?=some x→0≤x→(s.1.set (lookI t a e.label).toNat e.to)[r]?=some x:=fun r x hr hx=>by
    rw[List.getElem?_set_ne (by rintro rfl;rw[hf] at hr;injection hr with hr;omega)];exact hr
   refine ⟨⟨by simpa using h.len,fun x hx=>?_,fun r hr=>?_⟩,?_,hkeep⟩
   ·rcases List.mem_or_eq_of_mem_set hx with hx|rfl
    ·exact h.rng x hx
    ·omega
   ·rw[List.mem_append] at hr
    rcases hr with hr|hr
    ·obtain ⟨x,h1,h2⟩:=h.rest r hr
     exact ⟨x,hkeep r x h1 h2,h2⟩
    ·simp at hr
     subst hr
     refine ⟨e.to,?_,by omega⟩
     rw[List.getElem?_set_self (gS.1 hf).1]
   ·have:=zH6 s.1 _ e.to hf (by omega)
    show freeN (s.1.set _ e.to)+(s.2++[_]).length=_
    rw[List.length_append,List.length_singleton]
    omega
  ·split at hm
   ·injection hm with hm
    subst hm
    exact ⟨h,rfl,fun _ _ h _=>h⟩
   ·cases hm
 ·cases hm
theorem MInv.edges {n:Nat} {t:List Dir} {g:List Node} {a:Nat}:∀ {es:List Edge} {s s':MSt},MInv n g.length s→es.all (edgeB g.length)=true→zAg t g a es s=some s' →
  MInv n g.length s'∧freeN s'.1+s'.2.length=freeN s.1+s.2.length∧(∀ (r:Nat) (x:Int),s.1[r]?=some x→0≤x→s'.1[r]?=some x):=by
 intro es
 induction es with
 | nil=>intro s s' h _ hm;rw[zAg] at hm;injection hm with hm;subst hm;exact ⟨h,rfl,fun _ _ h _=>h⟩
 | cons e es ih=>
   intro s s' h ha hm
   rw[List.all_cons,Bool.and_eq_true] at ha
   rw[zAg] at hm
   split at hm
   ·cases hm
   ·rename_i s1 hs1
    obtain ⟨h1,h2,h3⟩:=h.edge ha.1 hs1
    obtain ⟨h4,h5,h6⟩:=ih h1 ha.2 hm
    exact ⟨h4,by omega,fun r x hr hx=>h6 r x (h3 r x hr hx) hx⟩
theorem MInv.start {n gl:Nat} (hn:0<n) (hg:0<gl):MInv n gl (map0 n)∧freeN (map0 n).1+(map0 n).2.length=n:=by
 refine ⟨⟨by simp[map0];omega,fun x hx=>?_,fun r hr=>?_⟩,?_⟩
 ·simp[map0] at hx
  rcases hx with rfl|⟨_,rfl⟩<;>omega
 ·simp[map0] at hr
  subst hr
  exact ⟨0,rfl,Int.le_refl _⟩
 ·simp[map0,freeN]
  omega
theorem zDz {g:List Node} (h:zBI g=true):0<g.length∧∀ x∈g,x.edges.all (edgeB g.length)=true:=by
 unfold zBI at h
 simp only[Bool.and_eq_true,decide_eq_true_eq,List.all_eq_true] at h
 exact ⟨h.2,fun x hx=>h.1 x hx⟩
theorem zL0 {g:List Node} (h:zBI g=true) (i:Int):(zDB g i).all (edgeB g.length)=true:=by
 unfold zDB
 split
 ·rename_i x hx
  exact (zDz h).2 x (mG hx)
 ·rfl
end Go.Proofs.YthbnmehbhpakaaaGreatDoor
namespace Go.Proofs.YthbnmehbhpakaaaGreatDoor
open Go
theorem zGk {t:List Dir} {g:List Node} (hf:zBI g=true):∀ {f:Nat} {s:MSt} {m:List Int},MInv t.length g.length s→zAc t g f s=some m→m.length=t.length
 | 0,s,m,_,h=>by rw[zAc] at h;cases h
 | f+1,(m0,[]),m,hi,h=>by
   rw[zAc] at h
   cases h
   exact hi.len
 | f+1,(m0,a::rest),m,hi,h=>by
   rw[zAc] at h
   cases he:zAg t g a (zDB g (m0.getD a 0)) (m0,rest) with
   | none=>rw[he] at h;cases h
   | some s'=>
     rw[he] at h
     have hi':MInv t.length g.length (m0,rest):=⟨hi.len,hi.rng,fun r hr=>hi.rest r (by simp[hr])⟩
     exact zGk hf (MInv.edges hi' (zL0 hf _) he).1 h
theorem zFp {t:List Dir} {g:List Node} (h:(mapR t g).2=0):zAe t=0∧zBI g=true∧∃ m,(mapR t g).1=some m∧m.length=t.length:=by
 unfold mapR at h ⊢
 by_cases h1:zAe t≠0
 ·rw[if_pos h1] at h;cases h
 rw[if_neg h1] at h ⊢
 have h1':zAe t=0:=Classical.not_not.1 h1
 by_cases h2:zBI g=false
 ·rw[if_pos h2] at h;cases h
 rw[if_neg h2] at h ⊢
 rw[Bool.not_eq_false] at h2
 cases hm:zAc t g (t.length+1) (map0 t.length) with
 | none=>rw[hm] at h;cases h
 | some m=>
   refine ⟨h1',h2,m,rfl,zGk h2 (MInv.start ?_ (zDz h2).1).1 hm⟩
   have:=h1'
   unfold zAe at this
   split at this
   ·cases this
   ·omega
def zEN (t:List Dir) (m:List Int) (k:Nat) (d:Dir):Bool:=decide (m.getD k 0=d.node)&&(decide (k=0)||lessB (textB (t.getD (k - 1) d).path) (textB d.path))
def zBT (t:List Dir) (m:List Int):Nat→List Dir→Bool
 | _,[]=>true
 | k,d::l=>zEN t m k d&&zBT t m (k+1) l
theorem zJl {t:List Dir} {m:List Int} {k:Nat} {d:Dir} (h:t[k]?=some d):zBT t m k (t.drop k)=(zEN t m k d&&zBT t m (k+1) (t.drop (k+1))):=by
 obtain ⟨hk,e⟩:=gS.1 h
 rw[dC hk,e,zBT]
theorem zJc {t:List Dir} {m:List Int} {k:Nat} (h:t.length≤k):zBT t m k (t.drop k)=true:=by
 rw[dN h];rfl
noncomputable def zCY (s:Proj):Bool:=decide ((mapR s.dirs s.nodes).2=0)&&zBT s.dirs ((mapR s.dirs s.nodes).1.getD []) 0 s.dirs
def man0:Mani:=⟨[],[],[],[]⟩
noncomputable def zBn (s:Proj):Bool:=eqB s.man man0&&(decide (s.nodes.length=1)&&(decide (s.dirs.length=1)&&!s.pruned))
noncomputable def mayI (s:Proj):Bool:=maniB s.man&&(lockB s.nodes&&zCY s)
noncomputable def imgF (s:Proj):List File×Int:=if mayI s=true then (if zBn s=true then ([],0) else (sortS (imgU s),0)) else ([],43)
theorem zB5 {t:List Dir} (h:zAe t=0):∀ j d,t[j]?=some d→DirK j d:=fun j d hd=>by
 obtain ⟨hj,e⟩:=gS.1 hd
 by_cases h0:j=0
 ·subst h0
  have:=zJC h hj
  rw[e] at this
  exact ⟨by rw[this];rfl,by rw[this];simp⟩
 ·have h1:=zDk t t 0 (zCv h) j hj (by omega)
  rw[Nat.zero_add,e] at h1
  unfold zBk at h1
  simp only[Bool.and_eq_true,decide_eq_true_eq] at h1
  have hp:d.path≠[]:=fun e2=>h1.1 (by rw[e2];rfl)
  refine ⟨?_,fun e2=>absurd e2 h0,fun e2=>absurd e2 hp⟩
  have h2:=h1.2.1
  unfold textB at h2
  rw[if_neg hp] at h2
  split at h2
  ·assumption
  ·exact absurd rfl h2
theorem zEV {t:List Dir} (h:zAe t=0) {j:Nat} {d:Dir} (hd:t[j]?=some d) (h1:1≤j):packB d.pack=true∧(textB d.path).size≤1024:=by
 obtain ⟨hj,e⟩:=gS.1 hd
 have h2:=zDk t t 0 (zCv h) j hj (by omega)
 rw[Nat.zero_add,e] at h2
 unfold zBk at h2
 simp only[Bool.and_eq_true,decide_eq_true_eq] at h2
 exact ⟨h2.2.2.2.2.2.2.2.1,h2.2.2.1⟩
theorem zNr {t:List Dir} (h:zAe t=0):(t.map (·.path)).Nodup:=by
 rw[List.nodup_iff_pairwise_ne,List.pairwise_map]
 refine List.pairwise_iff_getElem.2 fun i j hi hj hij e=>?_
 have h1:=zFm h hi
 have h2:=zFm h hj
 rw[e,h2] at h1
 omega
theorem zC7 {t:List Dir} (h:zAe t=0):1≤t.length∧t.length≤257:=by
 unfold zAe at h
 split at h
 ·cases h
 ·omega
theorem zBw {s:Proj} (h:mayI s=true):((imgU s).map (·.path)).Nodup:=by
 unfold mayI zCY at h
 simp only[Bool.and_eq_true,decide_eq_true_eq] at h
 have:=(zFp h.2.2.1).1
 exact zNk (zB5 this) (zNr this)
theorem zAv {s:Proj} (h:mayI s=true):zAe s.dirs=0:=by
 unfold mayI zCY at h
 simp only[Bool.and_eq_true,decide_eq_true_eq] at h
 exact (zFp h.2.2.1).1
theorem zEw (xs:List Dir):∀ (l:List Dir) (i:Nat),(zAX xs i l).length≤3 * l.length
 | [],_=>nR _
 | d::l,i=>by
   have:=zEw xs l (i+1)
   rw[zAX,List.length_append,List.length_cons]
   have h2:(zBm xs i d).length≤3:=by
    unfold zBm
    rw[List.length_append]
    split<;>split<;>simp
   omega
theorem zJa (s:Proj):2≤(imgU s).length∧(imgU s).length≤3 * s.dirs.length+3:=by
 have:=zEw s.dirs s.dirs 0
 unfold imgU
 rw[List.length_append,List.length_append]
 split<;>simp<;>omega
