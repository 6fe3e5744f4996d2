/- Placing a graph, in plain words: directories put in order; the program's way through a directory's edges is the document's. -/
import Derived.Test.YtminjjdnmpaaoaaGreatDoorSv11
import Derived.Test.YtminjjdnmpaaoaaGreatDoorSv10
import Derived.Test.YtminjjdnmpaaoaaGreatDoorSv02
import Derived.Test.YtminjjdnmpaaoaaGreatDoorSv03
import Derived.WalkKit
import Derived.WalkSpells
import Derived.IntWalk
import Derived.Lib.Hide
import Derived.Laws.OwnMore
import Derived.Deep.AppendSrc
import Derived.Deep.Upon
import Derived.Test.YtminjjdnmpaaoaaGreatDoorSv04
import Derived.Deep.CutRange
import Derived.Test.YtminjjdnmpaaoaaGreatDoorAl
set_option linter.all false
set_option maxHeartbeats 3200000
set_option maxRecDepth 100000
namespace Go.Proofs.YtminjjdnmpaaoaaGreatDoor
open Go
def putD (l:List Dir) (d:Dir):List Dir:=l.takeWhile (fun g=>!lessB (textB d.path) (textB g.path))++d::l.dropWhile (fun g=>!lessB (textB d.path) (textB g.path))
def sortD (l:List Dir):List Dir:=l.foldl putD []
def upD (x y:Dir):Prop:=lessB (textB y.path) (textB x.path)=false
theorem zG0 (l:List Dir) (f:Dir):(putD l f).Perm (l++[f]):=by
 unfold putD
 have e:=List.takeWhile_append_dropWhile (p:=fun g:Dir=>!lessB (textB f.path) (textB g.path)) (l:=l)
 refine List.perm_middle.trans ?_
 rw[e]
 exact (List.perm_append_singleton f l).symm
theorem zLU (l:List Dir):∀ a,(l.foldl putD a).Perm (a++l):=by
 induction l with
 | nil=>intro a;rw[List.append_nil];exact List.Perm.refl _
 | cons f l ih=>
   intro a
   rw[List.foldl_cons]
   refine (ih (putD a f)).trans ?_
   refine ((zG0 a f).append_right l).trans ?_
   rw[List.append_assoc]
   exact List.Perm.refl _
theorem zDJ (l:List Dir):(sortD l).Perm l:=zLU l []
theorem zLn {a b c:ByteArray} (h1:lessB b a=false) (h2:lessB c b=false):lessB c a=false:=by
 rw[zB3,decide_eq_false_iff_not] at *
 rw[List.not_lt] at *
 exact List.le_trans h1 h2
theorem zI3 {a b:ByteArray} (h:lessB a b=true):lessB b a=false:=by
 cases hb:lessB b a with
 | false=>rfl
 | true=>have:=zCv h hb;rw[zCN] at this;cases this
theorem zIb {l:List Dir} {f:Dir} (h:l.Pairwise upD):(putD l f).Pairwise upD:=by
 induction l with
 | nil=>exact List.pairwise_singleton _ _
 | cons g l ih=>
   rw[List.pairwise_cons] at h
   unfold putD
   rw[List.takeWhile_cons,List.dropWhile_cons]
   cases hg:lessB (textB f.path) (textB g.path) with
   | false=>
     rw[if_pos (by rfl),if_pos (by rfl),List.cons_append,List.pairwise_cons]
     refine ⟨fun y hy=>?_,ih h.2⟩
     have hy':y∈putD l f:=hy
     rcases List.mem_append.1 ((zG0 l f).mem_iff.1 hy') with hy|hy
     ·exact h.1 y hy
     ·rw[List.mem_singleton.1 hy];exact hg
   | true=>
     rw[if_neg (by decide),if_neg (by decide),List.nil_append,List.pairwise_cons]
     refine ⟨fun y hy=>?_,List.pairwise_cons.2 h⟩
     rcases List.mem_cons.1 hy with rfl|hy
     ·exact zI3 hg
     ·exact zLn (zI3 hg) (h.1 y hy)
theorem zGr (l:List Dir):(sortD l).Pairwise upD:=by
 unfold sortD
 have:∀ (l a:List Dir),a.Pairwise upD→(l.foldl putD a).Pairwise upD:=fun l=>by
  induction l with
  | nil=>intro a h;exact h
  | cons f l ih=>intro a h;exact ih _ (zIb h)
 exact this l [] List.Pairwise.nil
theorem zHy {l:List Dir} (h:(l.map fun d=>textB d.path).Nodup) {a b:Dir} (ha:a∈l) (hb:b∈l) (e:textB a.path=textB b.path):a=b:=by
 induction l with
 | nil=>cases ha
 | cons x l ih=>
   rw[List.map_cons,List.nodup_cons] at h
   rcases List.mem_cons.1 ha with ea|ha'<;>rcases List.mem_cons.1 hb with eb|hb'
   ·rw[ea,eb]
   ·exact absurd (List.mem_map.2 ⟨b,hb',by rw[←e,ea]⟩) h.1
   ·exact absurd (List.mem_map.2 ⟨a,ha',by rw[e,eb]⟩) h.1
   ·exact ih h.2 ha' hb'
theorem zGt {l M:List Dir} (hn:(l.map fun d=>textB d.path).Nodup) (hp:M.Perm l) (hM:M.Pairwise upD):M=sortD l:=by
 refine List.Perm.eq_of_pairwise (le:=upD) ?_ hM (zGr l) (hp.trans (zDJ l).symm)
 intro a b ha hb h1 h2
 refine zHy hn (hp.mem_iff.1 ha) ((zDJ l).mem_iff.1 hb) ?_
 unfold upD at h1 h2
 rw[zB3,decide_eq_false_iff_not,List.not_lt] at h1 h2
 exact ByteArray.ext (Array.toList_inj.1 (List.le_antisymm h1 h2))
theorem zJM {p q:List ByteArray} (hp:p.all nameB=true) (hq:q.all nameB=true) (h:textB p=textB q):p=q:=by
 unfold textB at h
 rw[if_pos hp,if_pos hq] at h
 have e47:∀ l:List ByteArray,l≠[]→(⟨#[47]⟩:ByteArray)≠⟨(zAr l).toArray⟩:=fun l hl e=>by
  have h1:([47]:List UInt8)=zAr l:=by
   have:=congrArg (fun b:ByteArray=>b.data.toList) e
   simpa using this
  cases l with
  | nil=>exact hl rfl
  | cons x t=>
    rw[zAr] at h1
    have h2:=congrArg List.length h1
    have h3:stepB.data.toList.length=9:=by decide
    simp only[List.length_append,List.length_cons,List.length_nil] at h2
    omega
 by_cases h1:p=[]<;>by_cases h2:q=[]
 ·rw[h1,h2]
 ·rw[if_pos h1,if_neg h2] at h
  exact absurd h (e47 q h2)
 ·rw[if_neg h1,if_pos h2] at h
  exact absurd h.symm (e47 p h1)
 ·rw[if_neg h1,if_neg h2] at h
  refine zJq hp hq ?_
  have:=congrArg (fun b:ByteArray=>b.data.toList) h
  simpa using this
theorem zHj {q:PlIn} {at_:Nat} {done:List ByteArray} {st:PlSt} (h:PlInv q at_ done st):(st.1.map fun d=>textB d.path).Nodup:=by
 rw[List.nodup_iff_pairwise_ne,List.pairwise_map]
 refine List.pairwise_iff_getElem.2 fun i j hi hj hij e=>?_
 have e2:=zJM (h.names _ (List.getElem_mem hi)).1 (h.names _ (List.getElem_mem hj)).1 e
 have h1:=zB4 h.apart (gE hi)
 have h2:=zB4 h.apart (gE hj)
 rw[e2,h2] at h1
 omega
noncomputable def zAy (q:PlIn):List Dir×Int:=match zBN q with
 | .error c=>([],c)
 | .ok st=>(sortD st.1,0)
noncomputable def ownGo (q:PlIn) (at_:Nat) (n:Node):List Edge→PlSt→Except Int PlSt
 | [],st=>.ok st
 | e::l,st=>match stepE q at_ (kindP q n e) e st with
   | .error c=>.error c
   | .ok st'=>ownGo q at_ n l st'
noncomputable def zAV (q:PlIn) (n:Node) (kind:Nat) (l:List Edge):List Edge:=l.filter fun e=>decide (kindP q n e=kind)
theorem zDC (q:PlIn) (at_:Nat) (n:Node) (kind:Nat):∀ (l:List Edge) (st:PlSt),zBF q at_ n kind l st=ownGo q at_ n (zAV q n kind l) st
 | [],st=>rfl
 | e::l,st=>by
   rw[zBF]
   unfold zAV
   by_cases h:kindP q n e=kind
   ·rw[if_pos h,List.filter_cons_of_pos (by simp[h]),ownGo,h]
    cases stepE q at_ kind e st with
    | error c=>rfl
    | ok st'=>exact zDC q at_ n kind l st'
   ·rw[if_neg h,List.filter_cons_of_neg (by simp[h])]
    exact zDC q at_ n kind l st
theorem zEG (q:PlIn) (at_:Nat) (n:Node):∀ (a b:List Edge) (st:PlSt),ownGo q at_ n (a++b) st=match ownGo q at_ n a st with
  | .error c=>.error c
  | .ok st'=>ownGo q at_ n b st'
 | [],b,st=>rfl
 | e::a,b,st=>by
   rw[List.cons_append,ownGo,ownGo]
   cases stepE q at_ (kindP q n e) e st with
   | error c=>rfl
   | ok st'=>exact zEG q at_ n a b st'
theorem zIP (q:PlIn) (at_:Nat) (n:Node) (st:PlSt):zBs q at_ n [1,2,3] st=match zBF q at_ n 1 n.edges st with
  | .error c=>.error c
  | .ok st'=>ownGo q at_ n (zAV q n 2 n.edges++zAV q n 3 n.edges) st':=by
 rw[zBs]
 cases zBF q at_ n 1 n.edges st with
 | error c=>rfl
 | ok st1=>
   simp only
   rw[zBs,zDC,zEG]
   cases ownGo q at_ n (zAV q n 2 n.edges) st1 with
   | error c=>rfl
   | ok st2=>
     simp only
     rw[zBs,zDC]
     cases ownGo q at_ n (zAV q n 3 n.edges) st2<;>rfl
theorem zIu (q:PlIn) (at_:Nat) (n:Node) {l:List Edge} {k:Nat} {e:Edge} (h:l[k]?=some e) (st:PlSt):ownGo q at_ n (l.drop k) st=match stepE q at_ (kindP q n e) e st with
  | .error c=>.error c
  | .ok st'=>ownGo q at_ n (l.drop (k+1)) st':=by
 obtain ⟨hk,e'⟩:=gS.1 h
 rw[dC hk,e',ownGo]
theorem zCA {q:PlIn} {n:Node} {kind:Nat} {l:List Edge} {k:Nat} {e:Edge} (h:l[k]?=some e):zAV q n kind (l.take (k+1))=zAV q n kind (l.take k)++if kindP q n e=kind then [e] else []:=by
 unfold zAV
 rw[List.take_add_one,h,List.filter_append]
 congr 1
 by_cases hk:kindP q n e=kind
 ·rw[if_pos hk];simp[hk]
 ·rw[if_neg hk];simp[hk]
theorem zCq {α β:Type} {f:α→β}:∀ {l:List α},(l.map f).Nodup→∀ {a b:α},a∈l→b∈l→f a=f b→a=b
 | [],_,a,b,ha,_,_=>by cases ha
 | x::l,h,a,b,ha,hb,e=>by
   rw[List.map_cons,List.nodup_cons] at h
   rcases List.mem_cons.1 ha with ea|ha'<;>rcases List.mem_cons.1 hb with eb|hb'
   ·rw[ea,eb]
   ·exact absurd (List.mem_map.2 ⟨b,hb',by rw[←e,ea]⟩) h.1
   ·exact absurd (List.mem_map.2 ⟨a,ha',by rw[e,eb]⟩) h.1
   ·exact zCq h.2 ha' hb' e
theorem zDH {q:PlIn} {n:Node} {kind:Nat} {l:List Edge} {e:Edge} (h:e∈zAV q n kind l):e∈l∧kindP q n e=kind:=by
 unfold zAV at h
 rw[List.mem_filter,decide_eq_true_eq] at h
 exact h
noncomputable def restE (q:PlIn) (n:Node):List Edge:=zAV q n 2 n.edges++zAV q n 3 n.edges
theorem zEx {q:PlIn} {n:Node} {e:Edge} (h:e∈restE q n):e∈n.edges∧2≤kindP q n e:=by
 unfold restE at h
 rcases List.mem_append.1 h with h|h
 ·have:=zDH h;exact ⟨this.1,by omega⟩
 ·have:=zDH h;exact ⟨this.1,by omega⟩
theorem zH8 {q:PlIn} {n:Node} (hn:(zAF n.edges).Nodup):((restE q n).map (·.label)).Nodup:=by
 have sub:∀ k,((zAV q n k n.edges).map (·.label)).Nodup:=fun k=>((List.filter_sublist (l:=n.edges)).map _).nodup hn
 unfold restE
 rw[List.map_append,List.nodup_append]
 refine ⟨sub 2,sub 3,fun a ha b hb e=>?_⟩
 obtain ⟨x,hx,rfl⟩:=List.mem_map.1 ha
 obtain ⟨y,hy,rfl⟩:=List.mem_map.1 hb
 have h1:=zDH hx
 have h2:=zDH hy
 have:=zCq (f:=fun e:Edge=>e.label) hn h1.1 h2.1 e
 rw[this] at h1
 omega
theorem zJH {q:PlIn} {n:Node} {done:List ByteArray} (hn:(zAF n.edges).Nodup) (h:zCE q n 2 0 done):∀ e∈(restE q n).drop 0,e.label∉done:=fun e he hm=>by
 obtain ⟨h1,h2⟩:=zEx (show e∈restE q n from he)
 obtain ⟨j,e',g1,g2,g3⟩:=h _ hm
 have:=zCq (f:=fun e:Edge=>e.label) hn (mG g1) h1 g2
 rw[this] at g3
 omega
theorem zHM {q:PlIn} {n:Node} {done:List ByteArray} {k:Nat} {e:Edge} (hn:(zAF n.edges).Nodup) (h:∀ e∈(restE q n).drop k,e.label∉done) (he:(restE q n)[k]?=some e) :
  e∈n.edges∧e.label∉done∧∀ e'∈(restE q n).drop (k+1),e'.label∉done++[e.label]:=by
 obtain ⟨hk,e2⟩:=gS.1 he
 have hd:(restE q n).drop k=e::(restE q n).drop (k+1):=by rw[dC hk,e2]
 refine ⟨(zEx (mG he)).1,h e (by rw[hd];simp),fun e' he' hm=>?_⟩
 rcases List.mem_append.1 hm with hm|hm
 ·exact h e' (by rw[hd];simp[he']) hm
 ·have h1:=zH8 hn (q:=q)
  have h2:((restE q n).drop k |>.map (·.label)).Nodup:=((List.drop_sublist k _).map _).nodup h1
  rw[hd,List.map_cons,List.nodup_cons] at h2
  exact h2.1 (List.mem_map.2 ⟨e',he',List.mem_singleton.1 hm⟩)
end Go.Proofs.YtminjjdnmpaaoaaGreatDoor
namespace Go.Proofs.YtminjjdnmpaaoaaGreatDoor
open Go.Rows Go.RowKit Go.Shelf Go.Sort
def rStl:Rp Stl where
 size:=3
 holds:=fun w S x cs=>cs=[.int .i64 (x.frm:Int),.string x.label,.int .i64 (x.dst:Int)]∧x.label.size≤maxLen∧x.frm≤1000000∧x.dst≤1000000
 len:=fun ⟨h,_⟩=>by rw[h];rfl
 one:=fun ⟨h,_⟩=>by rw[h];simp[Value.oneCell']
 mono:=fun ⟨h,c0⟩ hk=>⟨h,c0⟩
structure PlCtx where
 w0:World
 P:Nat
 gA:Option Addr
 gn:Nat
 gc:Nat
 pA:Option Addr
 pn:Nat
 pc:Nat
 dec:Int
 nod:Int
 ov:Value
 q:PlIn
def OldV (w:World) (S:Nat→Prop) (ov:Value) (old:Option (List Dir)):Prop:=
 (old=none∧ov=.pointer none)∨∃ (b o:Nat) (A:Option Addr) (n c:Nat) (l:List Dir),old=some l∧ov=.pointer (some ⟨b,o,none⟩)∧b<w.heap.size∧S b∧w.cell? ⟨b,o,none⟩=some (.slice A n c)∧SlV rDir w S l (.slice A n c)∧(∀ d∈l,d.path.length * 32≤140737488355328)
theorem OldV.keep {w w':World} {S:Nat→Prop} {ov:Value} {old:Option (List Dir)} (h:OldV w S ov old) (hb:Below w.heap.size w w'):OldV w' S ov old:=by
 rcases h with h|⟨b,o,A,n,c,l,h1,h2,h3,h4,h5,h6,h7⟩
 ·exact .inl h
 ·exact .inr ⟨b,o,A,n,c,l,h1,h2,lL h3 hb.size,h4,zAA hb h5 h3,h6.belowSize hb,h7⟩
structure PlCtx.Ok (C:PlCtx):Prop where
 tab:Tab C.w0
 g:SlV rNode C.w0 (fun b=>b<C.w0.heap.size) C.q.g (.slice C.gA C.gn C.gc)
 p:SlV rPack C.w0 (fun b=>b<C.w0.heap.size) C.q.ps (.slice C.pA C.pn C.pc)
 o:OldV C.w0 (fun b=>b<C.w0.heap.size) C.ov C.q.old
 le:C.w0.heap.size≤C.P
 dirs:I64 C.q.dirs
 path:I64 C.q.path
 gz:C.q.g.length≤1048576
 pz:C.q.ps.length≤1048576
def PlWd (C:PlCtx) (w:World) (st:PlSt):Prop:=
 ∃ (A:Option Addr) (c:Nat) (A':Option Addr) (c':Nat) (S:Nat→Prop),
   w.heap[C.P]?=some (.cells #[.slice C.gA C.gn C.gc,.slice C.pA C.pn C.pc,.int .i64 C.dec,.int .i64 C.nod,.int .i64 C.q.dirs,.int .i64 C.q.path,C.ov,.slice A st.1.length c,.slice A' st.2.length c'] 78 (0,0)) ∧
   Own rDir w C.w0.heap.size 54 (.slice A st.1.length c) st.1 S∧Own rStl w C.w0.heap.size 148 (.slice A' st.2.length c') st.2 (fun _=>False) ∧
   (∀ b,S b→b≠C.P∧(Value.slice A' st.2.length c').ownBlock≠some b)∧(Value.slice A st.1.length c).ownBlock≠some C.P∧(Value.slice A' st.2.length c').ownBlock≠some C.P ∧
   (∀ k,(Value.slice A st.1.length c).ownBlock=some k→(Value.slice A' st.2.length c').ownBlock≠some k)∧Below C.w0.heap.size C.w0 w∧∀ b,S b→C.w0.heap.size≤b∧FreeB w b
theorem PlWd.keep {C:PlCtx} {w w':World} {st:PlSt} (hC:C.Ok) (h:PlWd C w st) (hb:Below w.heap.size w w'):PlWd C w' st:=by
 obtain ⟨A,c,A',c',S,h1,h2,h3,h4,h5,h6,h7,h8⟩:=h
 have hP:C.P<w.heap.size:=(aS.1 h1).1
 exact ⟨A,c,A',c',S,(hb.block _ hP).trans h1,h2.keep hb,h3.keep hb,h4,h5,h6,h7,bot h8.1 hb,fun b hS=>⟨(h8.2 b hS).1,(h8.2 b hS).2.keep hb⟩⟩
theorem PlWd.base {C:PlCtx} {w:World} {st:PlSt} (h:PlWd C w st):Below C.w0.heap.size C.w0 w:=by
 obtain ⟨A,c,A',c',S,h1,h2,h3,h4,h5,h6,h7,h8⟩:=h
 exact h8.1
theorem PlWd.packs {C:PlCtx} {w:World} {st:PlSt} (hC:C.Ok) (h:PlWd C w st):SlV rPack w (fun b=>b<C.w0.heap.size) C.q.ps (.slice C.pA C.pn C.pc):=hC.p.belowSize h.base
structure PlRd (C:PlCtx) (w:World) (st:PlSt) (A:Option Addr) (c:Nat) (A':Option Addr) (c':Nat):Prop where
 c0:w.cell? ⟨C.P,0,none⟩=some (.slice C.gA C.gn C.gc)
 c1:w.cell? ⟨C.P,1,none⟩=some (.slice C.pA C.pn C.pc)
 c2:w.cell? ⟨C.P,2,none⟩=some (.int .i64 C.dec)
 c3:w.cell? ⟨C.P,3,none⟩=some (.int .i64 C.nod)
 c4:w.cell? ⟨C.P,4,none⟩=some (.int .i64 C.q.dirs)
 c5:w.cell? ⟨C.P,5,none⟩=some (.int .i64 C.q.path)
 c6:w.cell? ⟨C.P,6,none⟩=some C.ov
 c7:w.cell? ⟨C.P,7,none⟩=some (.slice A st.1.length c)
 c8:w.cell? ⟨C.P,8,none⟩=some (.slice A' st.2.length c')
 dirs:SlV rDir w (fun _=>True) st.1 (.slice A st.1.length c)
 stls:SlV rStl w (fun _=>True) st.2 (.slice A' st.2.length c')
 hP:C.P<w.heap.size
theorem PlWd.read {C:PlCtx} {w:World} {st:PlSt} (h:PlWd C w st):∃ A c A' c',PlRd C w st A c A' c':=by
 obtain ⟨A,c,A',c',S,h1,h2,h3,h4,h5,h6,h7,h8⟩:=h
 exact ⟨A,c,A',c',cO _ _ 0 _ _ _ h1,cO _ _ 1 _ _ _ h1,cO _ _ 2 _ _ _ h1,cO _ _ 3 _ _ _ h1,cO _ _ 4 _ _ _ h1,cO _ _ 5 _ _ _ h1,cO _ _ 6 _ _ _ h1,cO _ _ 7 _ _ _ h1,cO _ _ 8 _ _ _ h1,h2.slv.more fun _ _ _=>trivial,h3.slv.more fun _ _ _=>trivial,(aS.1 h1).1⟩
theorem PlRd.keep {C:PlCtx} {w w':World} {st:PlSt} {A:Option Addr} {c:Nat} {A':Option Addr} {c':Nat} (h:PlRd C w st A c A' c') (hb:Below w.heap.size w w'):PlRd C w' st A c A' c':=
 ⟨zAA hb h.c0 h.hP,zAA hb h.c1 h.hP,zAA hb h.c2 h.hP,zAA hb h.c3 h.hP,zAA hb h.c4 h.hP,zAA hb h.c5 h.hP,zAA hb h.c6 h.hP,zAA hb h.c7 h.hP,zAA hb h.c8 h.hP,h.dirs.belowSize hb,h.stls.belowSize hb,lL h.hP hb.size⟩
theorem zEi {S:List Stl} {k:Nat} {x:Stl} (h:S[k]?=some x) (i:Nat) (s:ByteArray):zAq (S.drop k) i s=if x.frm=i∧x.label=s then (x.dst:Int) else zAq (S.drop (k+1)) i s:=by
 obtain ⟨hk,e⟩:=gS.1 h
 rw[dC hk,e,zAq]
theorem zKd (C:PlCtx) (w:World) (st:PlSt) (hw:PlWd C w st) (i:Nat) (hi:i≤1000000) (s:ByteArray) :
  Calls Tryz.prog 128 #[.pointer (some ⟨C.P,0,none⟩),.int .i64 (i:Int),.string s] w fun e w'=>e=.returned (.int .i64 (zAq st.2 i s))∧Below w.heap.size w w':=by
 obtain ⟨A,c,A',c',hr⟩:=hw.read
 have x8:=hr.c8
 have hst:=cH hr.stls
 have hcm:=hr.stls.cap_le
 unfold maxLen at hcm
 have HR:Hid (zAq st.2 i s=zAq (st.2.drop 0) i s):=by unfold Hid;rw[List.drop_zero]
 have Hend:Hid (∀ k,st.2.length≤k→zAq (st.2.drop k) i s=-1):=fun k hk=>by rw[dN hk];rfl
 have hcn:=hr.stls.n_eq
 clear hr hw
 obtain ⟨n,hn⟩:∃ n,n=st.2.length:=⟨_,rfl⟩
 rw[←hn] at x8 hst Hend hcm
 have hn63:n≤9223372036854775807:=by
  obtain ⟨_,_,h1,h2,h3⟩:=hst.out.val
  simp only[Value.slice.injEq] at h1
  omega
 have Hn:=cH hn
 clear hn hcn hcm
 generalize st.2=SS at *
 generalize zAq SS i s=R at *
 generalize C.P=PB at *
 go_enter Tryz.func128,Tryz.ntmps128
 go_wp2_with fail
 go_loopw [14] (fun t wr=>∃ k:Nat,k≤n∧t=.int .i64 k∧Hid (R=zAq (SS.drop k) i s)∧Hid (Below w.heap.size w wr)) (fun t _=>n - (intOf t).toNat)
 case atStart=>exact ⟨0,nZ _,rfl,HR,bR _ _⟩
 case round=>
  clear HR x8
  obtain ⟨k,hk,rfl,heq,hbel⟩:=hrel
  have hk0:(0:Int)≤(k:Int):=by omega
  by_cases hlt:k<n
  case neg=>
   have He:Hid (R=-1):=by unfold Hid;rw[heq.out,Hend.out k (by omega)]
   have hI:¬(k:Int)<(n:Int):=by omega
   clear heq Hend
   go_wp2_with fail
   go_ret
   exact ⟨zAS He.out.symm,hbel.out⟩
  have hkn:(k:Int)<(n:Int):=by omega
  obtain ⟨x,hx⟩:∃ x,SS[k]?=some x:=⟨_,gE (by have:=Hn.out;omega)⟩
  obtain ⟨b,o,cs,hA,_,hb1,⟨rfl,hlz,hf,hd⟩,hcell⟩:=(hst.out.belowSize hbel.out).elem hx
  subst hA
  have c0:=hcell 0 _ rfl
  have c1:=hcell 1 _ rfl
  have c2:=hcell 2 _ rfl
  simp only[rStl,Nat.add_zero] at c0 c1 c2
  have Hstep:=cH (zEi hx i s)
  clear hcell hlz
  obtain ⟨xf,xl,xd⟩:=x
  simp only at c0 c1 c2 hf hd Hstep
  have HBa:Hid (∀ o:Obj,Below w.heap.size w (wr.alloc o)):=fun o=>bal hbel.out o
  by_cases h1:xf=i
  ·have hb1:((xf:Int)==(i:Int))=true:=by simp[h1]
   by_cases h2:xl=s
   ·have hb2:=zAT h2
    have He:Hid (R=(xd:Int)):=by unfold Hid;rw[heq.out,Hstep.out,if_pos ⟨h1,h2⟩]
    clear heq Hstep h1 h2 Hend
    go_wp2_with fail
    go_ret
    exact ⟨zAS He.out.symm,HBa.out _⟩
   ·have hb2:=zAL h2
    have He:Hid (R=zAq (SS.drop (k+1)) i s):=by unfold Hid;rw[heq.out,Hstep.out,if_neg (fun h=>h2 h.2)]
    clear heq Hstep h1 h2
    go_wp2_with fail
    go_roundw
    case rel=>exact ⟨k+1,by omega,by go_num,He,HBa.out _⟩
    case measure=>simp[intOf];omega
  ·have hb1:((xf:Int)==(i:Int))=false:=by simp;omega
   have He:Hid (R=zAq (SS.drop (k+1)) i s):=by unfold Hid;rw[heq.out,Hstep.out,if_neg (fun h=>h1 h.1)]
   clear heq Hstep h1
   go_wp2_with fail
   go_roundw
   case rel=>exact ⟨k+1,by omega,by go_num,He,HBa.out _⟩
   case measure=>simp[intOf];omega
theorem zBe (W:World) (b o:Nat) (v:Value):W.grownBy (W.setCell ⟨b,o,none⟩ v) (some b):=⟨rfl,rfl,rfl,by simp,fun i _ hk=>heap_setCell_other W ⟨b,o,none⟩ i _ (fun e=>hk (by simp[e]))⟩
theorem zAX {W:World} {b o:Nat} {cs:Array Value} {t:TypeId} (h:W.heap[b]?=some (.cells cs t (0,0))) (v:Value):(W.setCell ⟨b,o,none⟩ v).heap[b]?=some (.cells (cs.setIfInBounds o v) t (0,0)):=by
 obtain ⟨hlt,hk⟩:=aS.1 h
 show (W.heap.modify b _)[b]?=_
 rw[Array.getElem?_eq_getElem (by rw[Array.size_modify];exact hlt),Array.getElem_modify_self,hk]
 rfl
theorem zMc:Elt Tryz.prog 148 3 32:=Elt.mk' (z:=.agg #[.int .i64 0,.string ⟨#[]⟩,.int .i64 0]) (by kernel_rfl) rfl (by decide)
theorem zDp:Elt Tryz.prog 54 9 144:=Elt.mk' (z:=.agg #[.slice none 0 0,.string ⟨#[]⟩,.int .i64 0,.int .i64 0,.int .i64 0,.slice none 0 0,.slice none 0 0,.slice none 0 0,.int .i64 0]) (by kernel_rfl) rfl (by decide)
theorem zAZ {W:World} {b o:Nat} {cs:Array Value} {t:TypeId} (h:W.heap[b]?=some (.cells cs t (0,0))):W.frozen? ⟨b,o,none⟩=false:=by simp[World.frozen?,h]
def plRow (C:PlCtx) (vT vS:Value):Array Value:=#[.slice C.gA C.gn C.gc,.slice C.pA C.pn C.pc,.int .i64 C.dec,.int .i64 C.nod,.int .i64 C.q.dirs,.int .i64 C.q.path,C.ov,vT,vS]
structure PlP (C:PlCtx) (w:World) (st:PlSt) (A:Option Addr) (c:Nat) (A':Option Addr) (c':Nat) (S:Nat→Prop):Prop where
 row:w.heap[C.P]?=some (.cells (plRow C (.slice A st.1.length c) (.slice A' st.2.length c')) 78 (0,0))
 T:Own rDir w C.w0.heap.size 54 (.slice A st.1.length c) st.1 S
 S':Own rStl w C.w0.heap.size 148 (.slice A' st.2.length c') st.2 (fun _=>False)
 apart:∀ b,S b→b≠C.P∧(Value.slice A' st.2.length c').ownBlock≠some b
 tp:(Value.slice A st.1.length c).ownBlock≠some C.P
 sp:(Value.slice A' st.2.length c').ownBlock≠some C.P
 ts:∀ k,(Value.slice A st.1.length c).ownBlock=some k→(Value.slice A' st.2.length c').ownBlock≠some k
 base:Below C.w0.heap.size C.w0 w
 new:∀ b,S b→C.w0.heap.size≤b∧FreeB w b
theorem PlWd.parts {C:PlCtx} {w:World} {st:PlSt} (h:PlWd C w st):∃ A c A' c' S,PlP C w st A c A' c' S:=by
 obtain ⟨A,c,A',c',S,h1,h2,h3,h4,h5,h6,h7,h8⟩:=h
 exact ⟨A,c,A',c',S,h1,h2,h3,h4,h5,h6,h7,h8.1,h8.2⟩
theorem PlP.all {C:PlCtx} {w:World} {st:PlSt} {A:Option Addr} {c:Nat} {A':Option Addr} {c':Nat} {S:Nat→Prop} (h:PlP C w st A c A' c' S):PlWd C w st:=⟨A,c,A',c',S,h.row,h.T,h.S',h.apart,h.tp,h.sp,h.ts,h.base,h.new⟩
theorem PlP.hP {C:PlCtx} {w:World} {st:PlSt} {A:Option Addr} {c:Nat} {A':Option Addr} {c':Nat} {S:Nat→Prop} (h:PlP C w st A c A' c' S):C.P<w.heap.size:=(aS.1 h.row).1
theorem PlP.keep {C:PlCtx} {w w':World} {st:PlSt} {A:Option Addr} {c:Nat} {A':Option Addr} {c':Nat} {S:Nat→Prop} (h:PlP C w st A c A' c' S) (hb:Below w.heap.size w w'):PlP C w' st A c A' c' S:=
 ⟨(hb.block _ h.hP).trans h.row,h.T.keep hb,h.S'.keep hb,h.apart,h.tp,h.sp,h.ts,bot h.base hb,fun b hS=>⟨(h.new b hS).1,(h.new b hS).2.keep hb⟩⟩
def PlS (C:PlCtx) (w:World) (st:PlSt) (S:Nat→Prop):Prop:=∃ A c A' c',PlP C w st A c A' c' S
theorem PlS.all {C:PlCtx} {w:World} {st:PlSt} {S:Nat→Prop} (h:PlS C w st S):PlWd C w st:=by
 obtain ⟨A,c,A',c',h⟩:=h
 exact h.all
theorem PlWd.s {C:PlCtx} {w:World} {st:PlSt} (h:PlWd C w st):∃ S,PlS C w st S:=by
 obtain ⟨A,c,A',c',S,h⟩:=h.parts
 exact ⟨S,A,c,A',c',h⟩
theorem PlS.keep {C:PlCtx} {w w':World} {st:PlSt} {S:Nat→Prop} (h:PlS C w st S) (hb:Below w.heap.size w w'):PlS C w' st S:=by
 obtain ⟨A,c,A',c',h⟩:=h
 exact ⟨A,c,A',c',h.keep hb⟩
theorem PlP.push_stl {C:PlCtx} (hC:C.Ok) {w w9:World} {st:PlSt} {A:Option Addr} {c:Nat} {A':Option Addr} {c':Nat} {S:Nat→Prop} (h:PlP C w st A c A' c' S) {x:Stl} {g cap:Nat}
  (hown:Own rStl w9 C.w0.heap.size 148 (.slice (some ⟨g,0,none⟩) (st.2.length+1) cap) (st.2++[x]) (fun _=>False)) (hgrow:w.grownBy w9 (Value.slice A' st.2.length c').ownBlock) (hat:(Value.slice A' st.2.length c').ownBlock=some g∨w.heap.size≤g) :
  w9.heap[C.P]?=some (.cells (plRow C (.slice A st.1.length c) (.slice A' st.2.length c')) 78 (0,0))∧PlS C (w9.setCell ⟨C.P,8,none⟩ (.slice (some ⟨g,0,none⟩) (st.2.length+1) cap)) (st.1,st.2++[x]) S:=by
 have hP:=h.hP
 have hP9:w9.heap[C.P]?=some (.cells (plRow C (.slice A st.1.length c) (.slice A' st.2.length c')) 78 (0,0)):=by
  rw[hgrow.block C.P hP (fun e=>h.sp e.symm)];exact h.row
 refine ⟨hP9,?_⟩
 have hgP:g≠C.P:=fun e=>by
  rcases hat with h2|h2
  ·rw[e] at h2;exact h.sp h2
  ·omega
 have hl9:(st.2++[x]).length=st.2.length+1:=by rw[List.length_append];rfl
 have hT9:Own rDir w9 C.w0.heap.size 54 (.slice A st.1.length c) st.1 S:=by
  refine h.T.grown hgrow ?_ fun b hb e=>(h.apart b hb).2 e.symm
  cases hk:(Value.slice A st.1.length c).ownBlock with
  | none=>exact .inl rfl
  | some k=>exact .inr fun e=>h.ts k hk e.symm
 have hT10:Own rDir (w9.setCell ⟨C.P,8,none⟩ (.slice (some ⟨g,0,none⟩) (st.2.length+1) cap)) C.w0.heap.size 54 (.slice A st.1.length c) st.1 S:=
  hT9.grown (zBe _ _ _ _) (.inr h.tp) fun b hb e=>(h.apart b hb).1 (Option.some.inj e)
 have hS10:Own rStl (w9.setCell ⟨C.P,8,none⟩ (.slice (some ⟨g,0,none⟩) (st.2.length+1) cap)) C.w0.heap.size 148 (.slice (some ⟨g,0,none⟩) (st.2.length+1) cap) (st.2++[x]) (fun _=>False):=
  hown.grown (zBe _ _ _ _) (.inr fun e=>hgP (Option.some.inj e)) fun b hb=>hb.elim
 have hB9:Below C.w0.heap.size C.w0 w9:=h.base.grown hgrow h.base.size fun k hk=>(h.S'.lt k hk).1
 refine ⟨A,c,some ⟨g,0,none⟩,cap,?_,hT10,by rw[hl9];exact hS10,fun b hb=>⟨(h.apart b hb).1,fun e=>?_⟩,h.tp,fun e=>hgP (Option.some.inj e),fun k hk e=>?_,hB9.setCell (p:=⟨C.P,8,none⟩) hC.le _,fun b hb=>⟨(h.new b hb).1,((h.new b hb).2.grown hgrow (fun e=>(h.apart b hb).2 e.symm)).set _ _ _⟩⟩
 ·rw[hl9]
  exact zAX hP9 _
 ·have e2:g=b:=Option.some.inj e
  rcases hat with h2|h2
  ·rw[e2] at h2;exact (h.apart b hb).2 h2
  ·have:=(h.T.1 b hb).1;omega
 ·have e2:g=k:=Option.some.inj e
  rcases hat with h2|h2
  ·rw[e2] at h2;exact h.ts k hk h2
  ·have:=(h.T.lt k hk).2;omega
theorem PlP.push_dir {C:PlCtx} (hC:C.Ok) {w w1 w9:World} {st:PlSt} {A:Option Addr} {c:Nat} {A':Option Addr} {c':Nat} {S:Nat→Prop} (h:PlP C w st A c A' c' S) (hw1:Below w.heap.size w w1) {d:Dir} {g cap:Nat}
  (hown:Own rDir w9 C.w0.heap.size 54 (.slice (some ⟨g,0,none⟩) (st.1.length+1) cap) (st.1++[d]) (fun b=>S b∨((w.heap.size≤b∧b<w1.heap.size)∧FreeB w1 b))) (hgrow:w1.grownBy w9 (Value.slice A st.1.length c).ownBlock) (hat:(Value.slice A st.1.length c).ownBlock=some g∨w1.heap.size≤g) :
  w9.heap[C.P]?=some (.cells (plRow C (.slice A st.1.length c) (.slice A' st.2.length c')) 78 (0,0))∧PlWd C (w9.setCell ⟨C.P,7,none⟩ (.slice (some ⟨g,0,none⟩) (st.1.length+1) cap)) (st.1++[d],st.2):=by
 have hk:=h.keep hw1
 have hP:=hk.hP
 have hP0:=h.hP
 have hP9:w9.heap[C.P]?=some (.cells (plRow C (.slice A st.1.length c) (.slice A' st.2.length c')) 78 (0,0)):=by
  rw[hgrow.block C.P hP (fun e=>h.tp e.symm)];exact hk.row
 refine ⟨hP9,?_⟩
 have hws:=hw1.size
 have hgP:g≠C.P:=fun e=>by
  rcases hat with h2|h2
  ·rw[e] at h2;exact h.tp h2
  ·omega
 have hl9:(st.1++[d]).length=st.1.length+1:=by rw[List.length_append];rfl
 have hS9:Own rStl w9 C.w0.heap.size 148 (.slice A' st.2.length c') st.2 (fun _=>False):=by
  refine hk.S'.grown hgrow ?_ fun b hb=>hb.elim
  cases hk2:(Value.slice A' st.2.length c').ownBlock with
  | none=>exact .inl rfl
  | some k=>exact .inr fun e=>h.ts k e.symm hk2
 have hS10:Own rStl (w9.setCell ⟨C.P,7,none⟩ (.slice (some ⟨g,0,none⟩) (st.1.length+1) cap)) C.w0.heap.size 148 (.slice A' st.2.length c') st.2 (fun _=>False):=
  hS9.grown (zBe _ _ _ _) (.inr h.sp) fun b hb=>hb.elim
 have hT10:Own rDir (w9.setCell ⟨C.P,7,none⟩ (.slice (some ⟨g,0,none⟩) (st.1.length+1) cap)) C.w0.heap.size 54 (.slice (some ⟨g,0,none⟩) (st.1.length+1) cap) (st.1++[d]) (fun b=>S b∨((w.heap.size≤b∧b<w1.heap.size)∧FreeB w1 b)):=
  hown.grown (zBe _ _ _ _) (.inr fun e=>hgP (Option.some.inj e)) fun b hb e=>by
   have e2:b=C.P:=Option.some.inj e
   rcases hb with hb|⟨hb,_⟩
   ·exact (h.apart b hb).1 e2
   ·omega
 have hB9:Below C.w0.heap.size C.w0 w9:=hk.base.grown hgrow hk.base.size fun k hk2=>(h.T.lt k hk2).1
 refine ⟨some ⟨g,0,none⟩,cap,A',c',_,?_,by rw[hl9];exact hT10,hS10,fun b hb=>?_,fun e=>hgP (Option.some.inj e),h.sp,fun k hk2 e=>?_,hB9.setCell (p:=⟨C.P,7,none⟩) hC.le _,fun b hb=>by
  rcases hb with hb|hb
  ·refine ⟨(h.new b hb).1,(((h.new b hb).2.keep hw1).grown hgrow fun e=>?_).set _ _ _⟩
   exact (h.T.1 b hb).2 e.symm
  ·refine ⟨nT h.base.size hb.1.1,(hb.2.grown hgrow fun e=>?_).set _ _ _⟩
   have:=(h.T.lt b e.symm).2
   omega⟩
 ·rw[hl9]
  exact zAX hP9 _
 ·rcases hb with hb|⟨hb,_⟩
  ·exact h.apart b hb
  ·refine ⟨by omega,fun e=>?_⟩
   have:=(h.S'.lt b e).2
   omega
 ·have e2:g=k:=Option.some.inj hk2
  rcases hat with h2|h2
  ·rw[e2] at h2;exact h.ts k h2 e
  ·have:=(h.S'.lt k e).2;omega
def NotPl (C:PlCtx) (w:World) (b:Nat):Prop:=b≠C.P∧(∀ v,w.cell? ⟨C.P,7,none⟩=some v→v.ownBlock≠some b)∧(∀ v,w.cell? ⟨C.P,8,none⟩=some v→v.ownBlock≠some b)
def PlFr (C:PlCtx) (w w':World):Prop:=w.heap.size≤w'.heap.size∧∀ b,b<w.heap.size→NotPl C w b→w'.heap[b]?=w.heap[b]?∧NotPl C w' b
theorem PlFr.trans {C:PlCtx} {w w' w'':World} (h:PlFr C w w') (h':PlFr C w' w''):PlFr C w w'':=
 ⟨nT h.1 h'.1,fun b hb hn=>by
   obtain ⟨h1,h2⟩:=h.2 b hb hn
   obtain ⟨h3,h4⟩:=h'.2 b (lL hb h.1) h2
   exact ⟨h3.trans h1,h4⟩⟩
theorem PlFr.below {C:PlCtx} {w w':World} (hP:C.P<w.heap.size) (hb:Below w.heap.size w w'):PlFr C w w':=
 ⟨hb.size,fun b hb' hn=>⟨hb.block _ hb',hn.1,fun v hv=>hn.2.1 v (by rw[←zAW (hb.block _ hP) 7 none];exact hv),fun v hv=>hn.2.2 v (by rw[←zAW (hb.block _ hP) 8 none];exact hv)⟩⟩
theorem PlP.fr7 {C:PlCtx} {w w9:World} {st:PlSt} {A:Option Addr} {c:Nat} {A':Option Addr} {c':Nat} {S:Nat→Prop} (h:PlP C w st A c A' c' S) {g n cap:Nat} (hgrow:w.grownBy w9 (Value.slice A st.1.length c).ownBlock) (hat:(Value.slice A st.1.length c).ownBlock=some g∨w.heap.size≤g)
  (hP9:w9.heap[C.P]?=some (.cells (plRow C (.slice A st.1.length c) (.slice A' st.2.length c')) 78 (0,0))):PlFr C w (w9.setCell ⟨C.P,7,none⟩ (.slice (some ⟨g,0,none⟩) n cap)):=by
 refine ⟨by rw[show (w9.setCell ⟨C.P,7,none⟩ (.slice (some ⟨g,0,none⟩) n cap)).heap.size=w9.heap.size from by simp];exact hgrow.size,fun b hb hn=>?_⟩
 have o7:=hn.2.1 _ (cO _ _ 7 _ _ _ h.row)
 have o8:=hn.2.2 _ (cO _ _ 8 _ _ _ h.row)
 have hrow:=zAX hP9 (o:=7) (.slice (some ⟨g,0,none⟩) n cap)
 refine ⟨(heap_setCell_other w9 ⟨C.P,7,none⟩ b _ hn.1).trans (hgrow.block b hb fun e=>o7 e.symm),hn.1,fun v hv=>?_,fun v hv=>?_⟩
 ·rw[cO _ _ 7 _ _ _ hrow] at hv
  cases hv
  intro e
  have e2:g=b:=Option.some.inj e
  rcases hat with h2|h2
  ·rw[e2] at h2;exact o7 h2
  ·omega
 ·rw[cO _ _ 8 _ _ _ hrow] at hv
  cases hv
  exact o8
theorem PlP.fr8 {C:PlCtx} {w w9:World} {st:PlSt} {A:Option Addr} {c:Nat} {A':Option Addr} {c':Nat} {S:Nat→Prop} (h:PlP C w st A c A' c' S) {g n cap:Nat} (hgrow:w.grownBy w9 (Value.slice A' st.2.length c').ownBlock) (hat:(Value.slice A' st.2.length c').ownBlock=some g∨w.heap.size≤g)
  (hP9:w9.heap[C.P]?=some (.cells (plRow C (.slice A st.1.length c) (.slice A' st.2.length c')) 78 (0,0))):PlFr C w (w9.setCell ⟨C.P,8,none⟩ (.slice (some ⟨g,0,none⟩) n cap)):=by
 refine ⟨by rw[show (w9.setCell ⟨C.P,8,none⟩ (.slice (some ⟨g,0,none⟩) n cap)).heap.size=w9.heap.size from by simp];exact hgrow.size,fun b hb hn=>?_⟩
 have o7:=hn.2.1 _ (cO _ _ 7 _ _ _ h.row)
 have o8:=hn.2.2 _ (cO _ _ 8 _ _ _ h.row)
 have hrow:=zAX hP9 (o:=8) (.slice (some ⟨g,0,none⟩) n cap)
 refine ⟨(heap_setCell_other w9 ⟨C.P,8,none⟩ b _ hn.1).trans (hgrow.block b hb fun e=>o8 e.symm),hn.1,fun v hv=>?_,fun v hv=>?_⟩
 ·rw[cO _ _ 7 _ _ _ hrow] at hv
  cases hv
  exact o7
 ·rw[cO _ _ 8 _ _ _ hrow] at hv
  cases hv
  intro e
  have e2:g=b:=Option.some.inj e
  rcases hat with h2|h2
  ·rw[e2] at h2;exact o8 h2
  ·omega
theorem zEs (C:PlCtx) (hC:C.Ok) (w:World) (st:PlSt) (S:Nat→Prop) (hw:PlS C w st S) (i j:Nat) (hi:i≤1000000) (hj:j≤1000000) (s:ByteArray) (hs:s.size≤maxLen) (hlen:st.2.length≤1000000) :
  Calls Tryz.prog 49 #[.pointer (some ⟨C.P,0,none⟩),.int .i64 (i:Int),.string s,.int .i64 (j:Int)] w fun e w'=>e=.returned (.tuple #[])∧PlS C w' (st.1,st.2++[⟨i,s,j⟩]) S∧PlFr C w w':=by
 obtain ⟨A,c,A',c',hp⟩:=hw
 have x8:w.cell? ⟨C.P,8,none⟩=some (.slice A' st.2.length c'):=cO _ _ 8 _ _ _ hp.row
 obtain ⟨w1,hw1⟩:∃ w1,w1=w.alloc (.cells #[.int .i64 (i:Int),.string s,.int .i64 (j:Int)] 148):=⟨_,rfl⟩
 have hp1:PlP C w1 st A c A' c' S:=hp.keep (by rw[hw1];exact bal (bR _ _) _)
 have hnews:=zAd w #[.int .i64 (i:Int),.string s,.int .i64 (j:Int)] 148
 have hs1:w1.heap.size=w.heap.size+1:=by rw[hw1];simp
 have H1:=cH hp1
 have HC:=cH hC
 have hb0:C.w0.heap.size≤w1.heap.size:=hp1.base.size
 rw[←hw1] at hnews
 have Hs1:=cH hs1
 have Hnews:=cH hnews
 have HPz:=cH hp.hP
 have HBl:=cH (show Below w.heap.size w w1 by rw[hw1];exact bal (bR _ _) _)
 obtain ⟨n,hn⟩:∃ n,n=st.2.length:=⟨_,rfl⟩
 have Hn:=cH hn
 have hnz:n≤1000000:=by omega
 rw[←hn] at x8
 clear hn hp hp1 hs1 hnews
 go_enter Tryz.func49,Tryz.ntmps49
 go_wp2_with (at_builtin;rw[←hw1];refine zAM (by rfl) _ _ _ (by rfl) zMc Tryz.underlying76 (by rw[Hn.out];rfl) H1.out.S' ⟨w.heap.size,0,none⟩ 1 [.int .i64 (i:Int),.string s,.int .i64 (j:Int)] ⟨i,s,j⟩ (by rfl) ⟨rfl,hs,hi,hj⟩ Hnews.out (by rw[←Hn.out];unfold maxLen;omega) (by rw[←Hn.out];omega) hb0 (w.heap.size+1) Hs1.out ?_)
 intro g9 cap9 w9 hown9 hgrow9 hat9 hlt9
 rw[←hw1] at hgrow9
 obtain ⟨hP9,hend⟩:=H1.out.push_stl HC.out hown9 hgrow9 (by rcases hat9 with h|h;exact .inl h;exact .inr (by rw[Hs1.out,h];exact nR _))
 have HFr:=cH ((PlFr.below HPz.out HBl.out).trans (H1.out.fr8 (n:=st.2.length+1) (cap:=cap9) hgrow9 (by rcases hat9 with h|h;exact .inl h;exact .inr (by rw[Hs1.out,h];exact nR _)) hP9))
 have y8:w9.cell? ⟨C.P,8,none⟩=some (.slice A' st.2.length c'):=cO _ _ 8 _ _ _ hP9
 have f8:w9.frozen? ⟨C.P,8,none⟩=false:=zAZ hP9
 have Hend:=cH hend
 clear hown9 hgrow9 hP9 x8 hend hw1 hat9
 go_wp2_with fail
 go_end0
 exact ⟨rfl,Hend.out,HFr.out⟩
theorem zJT (C:PlCtx) (hC:C.Ok) (w:World) (st:PlSt) (hw:PlWd C w st) (i j:Nat) (hi:i≤1000000) (hj:j≤1000000) (s:ByteArray) (hs:s.size≤maxLen) (hlen:st.2.length≤1000000) :
  Calls Tryz.prog 49 #[.pointer (some ⟨C.P,0,none⟩),.int .i64 (i:Int),.string s,.int .i64 (j:Int)] w fun e w'=>e=.returned (.tuple #[])∧PlWd C w' (st.1,st.2++[⟨i,s,j⟩])∧PlFr C w w':=by
 obtain ⟨S,hS⟩:=hw.s
 refine (zEs C hC w st S hS i j hi hj s hs hlen).mono ?_
 rintro e w' ⟨h1,h2,h3⟩
 exact ⟨h1,h2.all,h3⟩
theorem PlRd.dir {C:PlCtx} {w:World} {st:PlSt} {A:Option Addr} {c:Nat} {A':Option Addr} {c':Nat} (h:PlRd C w st A c A' c') {i:Nat} {d:Dir} (hi:st.1[i]?=some d) :
  ∃ (b o:Nat) (pA:Option Addr) (pc:Nat),A=some ⟨b,o,none⟩∧b<w.heap.size∧w.cell? ⟨b,o+i * 9,none⟩=some (.slice pA d.path.length pc)∧w.cell? ⟨b,o+i * 9+8,none⟩=some (.int .i64 d.node)∧SlV rStr w (fun _=>True) d.path (.slice pA d.path.length pc)∧d.path.length≤pc∧pc≤maxLen:=by
 obtain ⟨b,o,cs,hA,_,hb,hh,hcell⟩:=h.dirs.elem hi
 obtain ⟨s0,s1,s2,s3,rfl,hp,_,_,_,_,_,_,_,_⟩:=hh
 obtain ⟨pA,pc,rfl,h1,h2⟩:=hp.val
 have c0:=hcell 0 _ rfl
 have c8:=hcell 8 _ rfl
 simp only[rDir,Nat.add_zero] at c0 c8
 exact ⟨b,o,pA,pc,hA,hb,c0,c8,hp,h1,h2⟩
theorem PlRd.len {C:PlCtx} {w:World} {st:PlSt} {A:Option Addr} {c:Nat} {A':Option Addr} {c':Nat} (h:PlRd C w st A c A' c'):st.1.length≤9223372036854775807∧st.2.length≤9223372036854775807:=by
 have h1:=h.dirs.cap_le
 have h2:=h.stls.cap_le
 obtain ⟨_,_,e1,h3,_⟩:=h.dirs.val
 obtain ⟨_,_,e2,h4,_⟩:=h.stls.val
 simp only[Value.slice.injEq] at e1 e2
 unfold maxLen at h1 h2
 omega
theorem zKP (C:PlCtx) (w:World) (st:PlSt) (hw:PlWd C w st) (a h:Nat) (ha:a<st.1.length) (hh:h<st.1.length) :
  Calls Tryz.prog 157 #[.pointer (some ⟨C.P,0,none⟩),.int .i64 (a:Int),.int .i64 (h:Int)] w fun e w'=>e=.returned (.bool (zAl (zAE st.1 a) (zAE st.1 h)))∧Below w.heap.size w w':=by
 obtain ⟨A,c,A',c',hr⟩:=hw.read
 have hlen:=hr.len.1
 have x7:=hr.c7
 obtain ⟨b,o,pA,pc,hA,hb,y0,_,hp,hpl,hpm⟩:=hr.dir (zAa ha)
 obtain ⟨b2,o2,qA,qc,hA2,_,z0,_,hq,hql,hqm⟩:=hr.dir (zAa hh)
 rw[hA] at hA2
 injection hA2 with hA2
 injection hA2 with hb2 ho2 _
 subst hb2 ho2 hA
 have hPz:=hr.hP
 unfold maxLen at hpm hqm
 show Calls _ _ _ _ fun e w'=>e=.returned (.bool (zAl (dirAt st.1 a).path (dirAt st.1 h).path))∧_
 generalize (dirAt st.1 a).path=pa at *
 generalize (dirAt st.1 h).path=ph at *
 have HR:Hid (zAl pa ph=(decide (ph.length≤pa.length)&&eqB (pa.take ph.length) ph)):=rfl
 generalize zAl pa ph=R at *
 obtain ⟨n,hn⟩:∃ n,n=st.1.length:=⟨_,rfl⟩
 obtain ⟨la,hla⟩:∃ n,n=pa.length:=⟨_,rfl⟩
 obtain ⟨lh,hlh⟩:∃ n,n=ph.length:=⟨_,rfl⟩
 rw[←hn] at x7 ha hh hlen
 rw[←hla] at y0 hp HR hpl
 rw[←hlh] at z0 hq HR hql
 have HP:=cH hp
 have HQ:=cH hq
 have Hla:=cH hla
 have Hlh:=cH hlh
 clear hr hw hn hp hq hla hlh
 generalize C.P=PB at *
 have ha0:(0:Int)≤(a:Int):=by omega
 have hh0:(0:Int)≤(h:Int):=by omega
 have han:(a:Int)<(n:Int):=by omega
 have hhn:(h:Int)<(n:Int):=by omega
 go_enter Tryz.func157,Tryz.ntmps157
 have r_x7:=cR x7
 have r_y0:=cR y0
 have r_z0:=cR z0
 go_wp2_with fail
 refine wQ ?_
 repeat (go_big_quiet_step (first|fail))
 refine wpQuiet_nil fun w1 B1=>?_
 clear r_x7 r_y0 r_z0 x7 y0 z0
 have HB1:=cH B1
 clear B1
 by_cases hle:lh≤la
 ·have hI:(lh:Int)≤(la:Int):=by omega
  have hlh0:(0:Int)≤(lh:Int):=by omega
  have hlc:lh≤pc:=by omega
  have hw2:IntKind.i64.wrap (lh:Int)=(lh:Int):=IntWalk.i64_in _ ⟨by omega,by omega⟩
  have He:Hid (R=eqB (pa.take lh) ph):=by unfold Hid;rw[HR.out,decide_eq_true hle,Bool.true_and]
  have HE:Hid (∀ W,Below w.heap.size w W→Calls Tryz.prog 40 #[.slice pA lh pc,.slice qA lh qc] W fun e w'=>e=.returned (.bool (eqB (pa.take lh) ph))∧Below W.heap.size W w'):=fun W hW=>
   zF5 pA qA lh lh pc qc (pa.take lh) ph W _ _ (SlV.take (HP.out.belowSize hW) (by rw[←Hla.out];exact hle)) (HQ.out.belowSize hW)
  generalize eqB (pa.take lh) ph=v at *
  clear HR HP HQ
  go_wp2_with fail
  refine (HE.out w1 HB1.out).mono ?_
  rintro e w2 ⟨rfl,hb2⟩
  have HB2:=cH (bot HB1.out hb2)
  clear hb2 HE
  go_wp2_with fail
  go_ret
  exact ⟨zAB He.out.symm,HB2.out⟩
 ·have hI:¬(lh:Int)≤(la:Int):=by omega
  have He:Hid (R=false):=by unfold Hid;rw[HR.out,decide_eq_false hle,Bool.false_and]
  clear HR HP HQ
  go_wp2_with fail
  go_ret
  exact ⟨zAB He.out.symm,HB1.out⟩
theorem zKB {q:Stl→Bool} {l:List Stl} {k:Nat} {x:Stl} (h:l[k]?=some x):(l.drop k).any q=(q x||(l.drop (k+1)).any q):=by
 obtain ⟨hk,e⟩:=gS.1 h
 rw[dC hk,e,List.any_cons]
theorem zKQ (C:PlCtx) (hC:C.Ok) (w:World) (st:PlSt) (hw:PlWd C w st) (h:Nat) (hh:h<st.1.length) (s:ByteArray) (hst:∀ x∈st.2,x.frm<st.1.length∧x.dst<st.1.length) :
  Calls Tryz.prog 130 #[.pointer (some ⟨C.P,0,none⟩),.int .i64 (h:Int),.string s] w fun e w'=>e=.returned (.bool (zBQ st.1 st.2 h s))∧Below w.heap.size w w':=by
 have HW:=cH hw
 obtain ⟨A,c,A',c',hr⟩:=hw.read
 have hlen:=hr.len
 have HRd:=cH hr
 have x7:=hr.c7
 have x8:=hr.c8
 obtain ⟨b,o,pA,pc,hA,hb,y0,_,hp,hpl,hpm⟩:=hr.dir (zAa hh)
 subst hA
 unfold maxLen at hpm
 have HU:Hid (∀ W (a:Nat),Below w.heap.size w W→a<st.1.length→Calls Tryz.prog 157 #[.pointer (some ⟨C.P,0,none⟩),.int .i64 (a:Int),.int .i64 (h:Int)] W fun e w'=>e=.returned (.bool (zAl (zAE st.1 a) (zAE st.1 h)))∧Below W.heap.size W w'):=fun W a hW ha=>zKP C W st (hw.keep hC hW) a h ha hh
 have HD:Hid (∀ W (a:Nat),Below w.heap.size w W→a<st.1.length→∃ pA pc,W.cell? ⟨C.P,7,none⟩=some (.slice (some ⟨b,o,none⟩) st.1.length c)∧W.cell? ⟨b,o+a * 9,none⟩=some (.slice pA (zAE st.1 a).length pc)):=fun W a hW ha=>by
  have h1:=hr.keep hW
  obtain ⟨b',o',pA,pc,hA',_,y,_⟩:=h1.dir (zAa ha)
  injection hA' with hA'
  injection hA' with hb' ho' _
  subst hb' ho'
  exact ⟨pA,pc,h1.c7,y⟩
 have HS:Hid (∀ W,Below w.heap.size w W→SlV rStl W (fun _=>True) st.2 (.slice A' st.2.length c')):=fun W hW=>hr.stls.belowSize hW
 have HST:=cH hst
 have HR:Hid (zBQ st.1 st.2 h s=(st.2.drop 0).any (zA3 st.1 h s)):=rfl
 have H1:Hid (∀ x:Stl,zA3 st.1 h s x=(decide (x.label=s)&&(zAl (zAE st.1 x.frm) (zAE st.1 h)&&decide ((zAE st.1 x.dst).length≤(zAE st.1 h).length)))):=fun x=>rfl
 obtain ⟨lh,hlh⟩:∃ n,n=(zAE st.1 h).length:=⟨_,rfl⟩
 have y0':w.cell? ⟨b,o+h * 9,none⟩=some (.slice pA lh pc):=by rw[hlh];exact y0
 have hlhz:lh≤pc:=by rw[hlh];exact hpl
 clear y0 hpl
 rw[←hlh] at H1
 clear hlh hp hst hr hw
 obtain ⟨n,hn⟩:∃ n,n=st.1.length:=⟨_,rfl⟩
 obtain ⟨m,hm⟩:∃ m,m=st.2.length:=⟨_,rfl⟩
 rw[←hn] at x7 hh HU HD HST hlen
 rw[←hm] at x8 HS hlen
 have Hm:=cH hm
 have hP0:=HRd.out.hP
 clear HRd hn hm HW hC
 generalize zBQ st.1 st.2 h s=R at *
 generalize C.P=PB at *
 have hh0:(0:Int)≤(h:Int):=by omega
 have hhn:(h:Int)<(n:Int):=by omega
 obtain ⟨hl1,hl2⟩:=hlen
 go_enter Tryz.func130,Tryz.ntmps130
 go_wp2_with fail
 go_loopw [25] (fun t wr=>∃ k:Nat,k≤m∧t=.int .i64 k∧Hid (R=(st.2.drop k).any (zA3 st.1 h s))∧Hid (Below w.heap.size w wr)) (fun t _=>m - (intOf t).toNat)
 case atStart=>exact ⟨0,nZ _,rfl,HR,bR _ _⟩
 case round=>
  clear HR x7 x8 y0'
  obtain ⟨k,hk,rfl,heq,hbel⟩:=hrel
  have hk0:(0:Int)≤(k:Int):=by omega
  by_cases hlt:k<m
  case neg=>
   have He:Hid (R=false):=by unfold Hid;rw[heq.out,dN (by have:=Hm.out;omega)];rfl
   have hI:¬(k:Int)<(m:Int):=by omega
   clear heq
   go_wp2_with fail
   go_ret
   exact ⟨zAB He.out.symm,hbel.out⟩
  have hkn:(k:Int)<(m:Int):=by omega
  obtain ⟨x,hx⟩:∃ x,st.2[k]?=some x:=⟨_,gE (by have:=Hm.out;omega)⟩
  obtain ⟨e1,e2⟩:=HST.out x (mG hx)
  obtain ⟨b',o',cs,hA,_,hb1,⟨rfl,hlz,hf,hd⟩,hcell⟩:=(HS.out wr hbel.out).elem hx
  subst hA
  have c0:=hcell 0 _ rfl
  have c1:=hcell 1 _ rfl
  have c2:=hcell 2 _ rfl
  simp only[rStl,Nat.add_zero] at c0 c1 c2
  have Hst2:Hid (R=((decide (x.label=s)&&(zAl (zAE st.1 x.frm) (zAE st.1 h)&&decide ((zAE st.1 x.dst).length≤lh)))||(st.2.drop (k+1)).any (zA3 st.1 h s))):=by unfold Hid;rw[heq.out,zKB hx,H1.out]
  have HU1:Hid (∀ W,Below w.heap.size w W→Calls Tryz.prog 157 #[.pointer (some ⟨PB,0,none⟩),.int .i64 (x.frm:Int),.int .i64 (h:Int)] W fun e w'=>e=.returned (.bool (zAl (zAE st.1 x.frm) (zAE st.1 h)))∧Below W.heap.size W w'):=fun W hW=>HU.out W x.frm hW e1
  clear hcell hlz heq
  obtain ⟨xf,xl,xd⟩:=x
  simp only at c0 c1 c2 hf hd Hst2 HU1 e1 e2
  go_upto_region 5 with (fail)
  obtain ⟨w4,hw4⟩:∃ w4,w4=wr.alloc (.cells #[.int .i64 (xf:Int),.string xl,.int .i64 (xd:Int)] 148):=⟨_,rfl⟩
  have hq4:w4.heap[wr.heap.size]?=some (.cells #[.int .i64 (xf:Int),.string xl,.int .i64 (xd:Int)] 148 (0,0)):=by rw[hw4];exact zAD _ _
  have HB4:Hid (Below w.heap.size w w4):=by unfold Hid;rw[hw4];exact bal hbel.out _
  rw[←hw4]
  obtain ⟨QB,hQB⟩:∃ QB,QB=wr.heap.size:=⟨_,rfl⟩
  rw[←hQB] at hq4 ⊢
  have d0:=cO _ _ 0 _ _ _ hq4
  have d1:=cO _ _ 1 _ _ _ hq4
  have d2:=cO _ _ 2 _ _ _ hq4
  obtain ⟨dA,dc,z7,z0⟩:=HD.out w4 xd HB4.out e2
  have HU2:=cH (qcall (w:=w4) (fun W hW=>HU1.out W (bot HB4.out hW)))
  have Hbf:Hid (∀ W,Below w4.heap.size w4 W→Below w.heap.size w W):=fun W hW=>bot HB4.out hW
  have hd0:(0:Int)≤(xd:Int):=by omega
  have hdn:(xd:Int)<(n:Int):=by omega
  clear hw4 hQB hq4 c0 c1 c2 HU1 hbel
  generalize zAl (zAE st.1 xf) (zAE st.1 h)=u at *
  generalize (zAE st.1 xd).length=ld at *
  have r_d0:=cR d0
  have r_d1:=cR d1
  have r_d2:=cR d2
  have r_z7:=cR z7
  have r_z0:=cR z0
  by_cases h2:xl=s
  case neg=>
   have hb2:=zAL h2
   have He:Hid (R=(st.2.drop (k+1)).any (zA3 st.1 h s)):=by unfold Hid;rw[Hst2.out,decide_eq_false h2];rfl
   clear h2 Hst2
   go_wp2_with fail
   refine wQ ?_
   repeat (go_big_quiet_step (first|(with_reducible exact HU2.out _ _)))
   refine wpQuiet_nil fun w5 B5=>?_
   have HB5:=cH (Hbf.out _ B5)
   go_wp2_with fail
   go_roundw
   case rel=>exact ⟨k+1,by omega,by go_num,He,HB5⟩
   case measure=>simp[intOf];omega
  have hb2:=zAT h2
  rw[decide_eq_true h2,Bool.true_and] at Hst2
  clear h2
  cases u with
  | false=>
    have He:Hid (R=(st.2.drop (k+1)).any (zA3 st.1 h s)):=by unfold Hid;rw[Hst2.out];rfl
    clear Hst2
    go_wp2_with fail
    refine wQ ?_
    repeat (go_big_quiet_step (first|(with_reducible exact HU2.out _ _)))
    refine wpQuiet_nil fun w5 B5=>?_
    have HB5:=cH (Hbf.out _ B5)
    go_wp2_with fail
    go_roundw
    case rel=>exact ⟨k+1,by omega,by go_num,He,HB5⟩
    case measure=>simp[intOf];omega
  | true=>
  by_cases h3:ld≤lh
  ·have hI:(ld:Int)≤(lh:Int):=by omega
   have hId:decide ((ld:Int)≤(lh:Int))=true:=decide_eq_true hI
   have He:Hid (R=true):=by unfold Hid;rw[Hst2.out,decide_eq_true h3];rfl
   clear Hst2
   go_wp2_with fail
   refine wQ ?_
   repeat (go_big_quiet_step (first|(with_reducible exact HU2.out _ _)))
   refine wpQuiet_nil fun w5 B5=>?_
   have HB5:=cH (Hbf.out _ B5)
   go_wp2_with fail
   go_ret
   exact ⟨zAB He.out.symm,HB5.out⟩
  ·have hI:¬(ld:Int)≤(lh:Int):=by omega
   have hId:decide ((ld:Int)≤(lh:Int))=false:=decide_eq_false hI
   have He:Hid (R=(st.2.drop (k+1)).any (zA3 st.1 h s)):=by unfold Hid;rw[Hst2.out,decide_eq_false h3];rfl
   clear Hst2
   go_wp2_with fail
   refine wQ ?_
   repeat (go_big_quiet_step (first|(with_reducible exact HU2.out _ _)))
   refine wpQuiet_nil fun w5 B5=>?_
   have HB5:=cH (Hbf.out _ B5)
   go_wp2_with fail
   go_roundw
   case rel=>exact ⟨k+1,by omega,by go_num,He,HB5⟩
   case measure=>simp[intOf];omega
