/- Placing a graph, in plain words: directories put in order; the program's way through a directory's edges is the document's. -/
import Derived.Test.YtminjjdnmpaaoaaGreatDoorBd10
import Derived.Test.YtminjjdnmpaaoaaGreatDoorBd09
import Derived.Test.YtminjjdnmpaaoaaGreatDoorBd02
import Derived.Test.YtminjjdnmpaaoaaGreatDoorBd03
import Derived.WalkKit
import Derived.WalkSpells
import Derived.IntWalk
import Derived.Lib.Hide
import Derived.Test.YtminjjdnmpaaoaaGreatDoorAl
set_option linter.all false
set_option maxHeartbeats 3200000
set_option maxRecDepth 100000
namespace Go.Proofs.YtminjjdnmpaaoaaGreatDoor
open Go
def putD (l:List Dir) (d:Dir):List Dir:=l.takeWhile (fun g=>!lessB (textB d.path) (textB g.path))++d::l.dropWhile (fun g=>!lessB (textB d.path) (textB g.path))
def sortD (l:List Dir):List Dir:=l.foldl putD []
def upD (x y:Dir):Prop:=lessB (textB y.path) (textB x.path)=false
theorem zGp (l:List Dir) (f:Dir):(putD l f).Perm (l++[f]):=by
 unfold putD
 have e:=List.takeWhile_append_dropWhile (p:=fun g:Dir=>!lessB (textB f.path) (textB g.path)) (l:=l)
 refine List.perm_middle.trans ?_
 rw[e]
 exact (List.perm_append_singleton f l).symm
theorem zMO (l:List Dir):∀ a,(l.foldl putD a).Perm (a++l):=by
 induction l with
 | nil=>intro a;rw[List.append_nil];exact List.Perm.refl _
 | cons f l ih=>
   intro a
   rw[List.foldl_cons]
   refine (ih (putD a f)).trans ?_
   refine ((zGp a f).append_right l).trans ?_
   rw[List.append_assoc]
   exact List.Perm.refl _
theorem zBF (l:List Dir):(sortD l).Perm l:=zMO l []
theorem zMK {a b c:ByteArray} (h1:lessB b a=false) (h2:lessB c b=false):lessB c a=false:=by
 rw[zCD,decide_eq_false_iff_not] at *
 rw[List.not_lt] at *
 exact List.le_trans h1 h2
theorem zIf {a b:ByteArray} (h:lessB a b=true):lessB b a=false:=by
 cases hb:lessB b a with
 | false=>rfl
 | true=>have:=zCJ h hb;rw[zA9] at this;cases this
theorem zId {l:List Dir} {f:Dir} (h:l.Pairwise upD):(putD l f).Pairwise upD:=by
 induction l with
 | nil=>exact List.pairwise_singleton _ _
 | cons g l ih=>
   rw[List.pairwise_cons] at h
   unfold putD
   rw[List.takeWhile_cons,List.dropWhile_cons]
   cases hg:lessB (textB f.path) (textB g.path) with
   | false=>
     rw[if_pos (by rfl),if_pos (by rfl),List.cons_append,List.pairwise_cons]
     refine ⟨fun y hy=>?_,ih h.2⟩
     have hy':y∈putD l f:=hy
     rcases List.mem_append.1 ((zGp l f).mem_iff.1 hy') with hy|hy
     ·exact h.1 y hy
     ·rw[List.mem_singleton.1 hy];exact hg
   | true=>
     rw[if_neg (by decide),if_neg (by decide),List.nil_append,List.pairwise_cons]
     refine ⟨fun y hy=>?_,List.pairwise_cons.2 h⟩
     rcases List.mem_cons.1 hy with rfl|hy
     ·exact zIf hg
     ·exact zMK (zIf hg) (h.1 y hy)
theorem zEL (l:List Dir):(sortD l).Pairwise upD:=by
 unfold sortD
 have:∀ (l a:List Dir),a.Pairwise upD→(l.foldl putD a).Pairwise upD:=fun l=>by
  induction l with
  | nil=>intro a h;exact h
  | cons f l ih=>intro a h;exact ih _ (zId h)
 exact this l [] List.Pairwise.nil
theorem zH4 {l:List Dir} (h:(l.map fun d=>textB d.path).Nodup) {a b:Dir} (ha:a∈l) (hb:b∈l) (e:textB a.path=textB b.path):a=b:=by
 induction l with
 | nil=>cases ha
 | cons x l ih=>
   rw[List.map_cons,List.nodup_cons] at h
   rcases List.mem_cons.1 ha with ea|ha'<;>rcases List.mem_cons.1 hb with eb|hb'
   ·rw[ea,eb]
   ·exact absurd (List.mem_map.2 ⟨b,hb',by rw[←e,ea]⟩) h.1
   ·exact absurd (List.mem_map.2 ⟨a,ha',by rw[e,eb]⟩) h.1
   ·exact ih h.2 ha' hb'
theorem zHT {l M:List Dir} (hn:(l.map fun d=>textB d.path).Nodup) (hp:M.Perm l) (hM:M.Pairwise upD):M=sortD l:=by
 refine List.Perm.eq_of_pairwise (le:=upD) ?_ hM (zEL l) (hp.trans (zBF l).symm)
 intro a b ha hb h1 h2
 refine zH4 hn (hp.mem_iff.1 ha) ((zBF l).mem_iff.1 hb) ?_
 unfold upD at h1 h2
 rw[zCD,decide_eq_false_iff_not,List.not_lt] at h1 h2
 exact ByteArray.ext (Array.toList_inj.1 (List.le_antisymm h1 h2))
theorem zJT {p q:List ByteArray} (hp:p.all nameB=true) (hq:q.all nameB=true) (h:textB p=textB q):p=q:=by
 unfold textB at h
 rw[if_pos hp,if_pos hq] at h
 have e47:∀ l:List ByteArray,l≠[]→(⟨#[47]⟩:ByteArray)≠⟨(zAx l).toArray⟩:=fun l hl e=>by
  have h1:([47]:List UInt8)=zAx l:=by
   have:=congrArg (fun b:ByteArray=>b.data.toList) e
   simpa using this
  cases l with
  | nil=>exact hl rfl
  | cons x t=>
    rw[zAx] at h1
    have h2:=congrArg List.length h1
    have h3:stepB.data.toList.length=9:=by decide
    simp only[List.length_append,List.length_cons,List.length_nil] at h2
    omega
 by_cases h1:p=[]<;>by_cases h2:q=[]
 ·rw[h1,h2]
 ·rw[if_pos h1,if_neg h2] at h
  exact absurd h (e47 q h2)
 ·rw[if_neg h1,if_pos h2] at h
  exact absurd h.symm (e47 p h1)
 ·rw[if_neg h1,if_neg h2] at h
  refine zKD hp hq ?_
  have:=congrArg (fun b:ByteArray=>b.data.toList) h
  simpa using this
theorem zEm {q:PlIn} {at_:Nat} {done:List ByteArray} {st:PlSt} (h:PlInv q at_ done st):(st.1.map fun d=>textB d.path).Nodup:=by
 rw[List.nodup_iff_pairwise_ne,List.pairwise_map]
 refine List.pairwise_iff_getElem.2 fun i j hi hj hij e=>?_
 have e2:=zJT (h.names _ (List.getElem_mem hi)).1 (h.names _ (List.getElem_mem hj)).1 e
 have h1:=zBG h.apart (gE hi)
 have h2:=zBG h.apart (gE hj)
 rw[e2,h2] at h1
 omega
noncomputable def zBC (q:PlIn):List Dir×Int:=match zAq q with
 | .error c=>([],c)
 | .ok st=>(sortD st.1,0)
noncomputable def ownGo (q:PlIn) (at_:Nat) (n:Node):List Edge→PlSt→Except Int PlSt
 | [],st=>.ok st
 | e::l,st=>match stepE q at_ (kindP q n e) e st with
   | .error c=>.error c
   | .ok st'=>ownGo q at_ n l st'
noncomputable def zAN (q:PlIn) (n:Node) (kind:Nat) (l:List Edge):List Edge:=l.filter fun e=>decide (kindP q n e=kind)
theorem zDP (q:PlIn) (at_:Nat) (n:Node) (kind:Nat):∀ (l:List Edge) (st:PlSt),zAO q at_ n kind l st=ownGo q at_ n (zAN q n kind l) st
 | [],st=>rfl
 | e::l,st=>by
   rw[zAO]
   unfold zAN
   by_cases h:kindP q n e=kind
   ·rw[if_pos h,List.filter_cons_of_pos (by simp[h]),ownGo,h]
    cases stepE q at_ kind e st with
    | error c=>rfl
    | ok st'=>exact zDP q at_ n kind l st'
   ·rw[if_neg h,List.filter_cons_of_neg (by simp[h])]
    exact zDP q at_ n kind l st
theorem zEO (q:PlIn) (at_:Nat) (n:Node):∀ (a b:List Edge) (st:PlSt),ownGo q at_ n (a++b) st=match ownGo q at_ n a st with
  | .error c=>.error c
  | .ok st'=>ownGo q at_ n b st'
 | [],b,st=>rfl
 | e::a,b,st=>by
   rw[List.cons_append,ownGo,ownGo]
   cases stepE q at_ (kindP q n e) e st with
   | error c=>rfl
   | ok st'=>exact zEO q at_ n a b st'
theorem zHi (q:PlIn) (at_:Nat) (n:Node) (st:PlSt):zAS q at_ n [1,2,3] st=match zAO q at_ n 1 n.edges st with
  | .error c=>.error c
  | .ok st'=>ownGo q at_ n (zAN q n 2 n.edges++zAN q n 3 n.edges) st':=by
 rw[zAS]
 cases zAO q at_ n 1 n.edges st with
 | error c=>rfl
 | ok st1=>
   simp only
   rw[zAS,zDP,zEO]
   cases ownGo q at_ n (zAN q n 2 n.edges) st1 with
   | error c=>rfl
   | ok st2=>
     simp only
     rw[zAS,zDP]
     cases ownGo q at_ n (zAN q n 3 n.edges) st2<;>rfl
theorem zJB (q:PlIn) (at_:Nat) (n:Node) {l:List Edge} {k:Nat} {e:Edge} (h:l[k]?=some e) (st:PlSt):ownGo q at_ n (l.drop k) st=match stepE q at_ (kindP q n e) e st with
  | .error c=>.error c
  | .ok st'=>ownGo q at_ n (l.drop (k+1)) st':=by
 obtain ⟨hk,e'⟩:=gS.1 h
 rw[dC hk,e',ownGo]
theorem zCL {q:PlIn} {n:Node} {kind:Nat} {l:List Edge} {k:Nat} {e:Edge} (h:l[k]?=some e):zAN q n kind (l.take (k+1))=zAN q n kind (l.take k)++if kindP q n e=kind then [e] else []:=by
 unfold zAN
 rw[List.take_add_one,h,List.filter_append]
 congr 1
 by_cases hk:kindP q n e=kind
 ·rw[if_pos hk];simp[hk]
 ·rw[if_neg hk];simp[hk]
theorem zBp {α β:Type} {f:α→β}:∀ {l:List α},(l.map f).Nodup→∀ {a b:α},a∈l→b∈l→f a=f b→a=b
 | [],_,a,b,ha,_,_=>by cases ha
 | x::l,h,a,b,ha,hb,e=>by
   rw[List.map_cons,List.nodup_cons] at h
   rcases List.mem_cons.1 ha with ea|ha'<;>rcases List.mem_cons.1 hb with eb|hb'
   ·rw[ea,eb]
   ·exact absurd (List.mem_map.2 ⟨b,hb',by rw[←e,ea]⟩) h.1
   ·exact absurd (List.mem_map.2 ⟨a,ha',by rw[e,eb]⟩) h.1
   ·exact zBp h.2 ha' hb' e
theorem zDM {q:PlIn} {n:Node} {kind:Nat} {l:List Edge} {e:Edge} (h:e∈zAN q n kind l):e∈l∧kindP q n e=kind:=by
 unfold zAN at h
 rw[List.mem_filter,decide_eq_true_eq] at h
 exact h
noncomputable def restE (q:PlIn) (n:Node):List Edge:=zAN q n 2 n.edges++zAN q n 3 n.edges
theorem zE6 {q:PlIn} {n:Node} {e:Edge} (h:e∈restE q n):e∈n.edges∧2≤kindP q n e:=by
 unfold restE at h
 rcases List.mem_append.1 h with h|h
 ·have:=zDM h;exact ⟨this.1,by omega⟩
 ·have:=zDM h;exact ⟨this.1,by omega⟩
theorem zHr {q:PlIn} {n:Node} (hn:(zAE n.edges).Nodup):((restE q n).map (·.label)).Nodup:=by
 have sub:∀ k,((zAN q n k n.edges).map (·.label)).Nodup:=fun k=>((List.filter_sublist (l:=n.edges)).map _).nodup hn
 unfold restE
 rw[List.map_append,List.nodup_append]
 refine ⟨sub 2,sub 3,fun a ha b hb e=>?_⟩
 obtain ⟨x,hx,rfl⟩:=List.mem_map.1 ha
 obtain ⟨y,hy,rfl⟩:=List.mem_map.1 hb
 have h1:=zDM hx
 have h2:=zDM hy
 have:=zBp (f:=fun e:Edge=>e.label) hn h1.1 h2.1 e
 rw[this] at h1
 omega
theorem zJ2 {q:PlIn} {n:Node} {done:List ByteArray} (hn:(zAE n.edges).Nodup) (h:zBS q n 2 0 done):∀ e∈(restE q n).drop 0,e.label∉done:=fun e he hm=>by
 obtain ⟨h1,h2⟩:=zE6 (show e∈restE q n from he)
 obtain ⟨j,e',g1,g2,g3⟩:=h _ hm
 have:=zBp (f:=fun e:Edge=>e.label) hn (mG g1) h1 g2
 rw[this] at g3
 omega
theorem zHE {q:PlIn} {n:Node} {done:List ByteArray} {k:Nat} {e:Edge} (hn:(zAE n.edges).Nodup) (h:∀ e∈(restE q n).drop k,e.label∉done) (he:(restE q n)[k]?=some e) :
  e∈n.edges∧e.label∉done∧∀ e'∈(restE q n).drop (k+1),e'.label∉done++[e.label]:=by
 obtain ⟨hk,e2⟩:=gS.1 he
 have hd:(restE q n).drop k=e::(restE q n).drop (k+1):=by rw[dC hk,e2]
 refine ⟨(zE6 (mG he)).1,h e (by rw[hd];simp),fun e' he' hm=>?_⟩
 rcases List.mem_append.1 hm with hm|hm
 ·exact h e' (by rw[hd];simp[he']) hm
 ·have h1:=zHr hn (q:=q)
  have h2:((restE q n).drop k |>.map (·.label)).Nodup:=((List.drop_sublist k _).map _).nodup h1
  rw[hd,List.map_cons,List.nodup_cons] at h2
  exact h2.1 (List.mem_map.2 ⟨e',he',List.mem_singleton.1 hm⟩)
end Go.Proofs.YtminjjdnmpaaoaaGreatDoor
namespace Go.Proofs.YtminjjdnmpaaoaaGreatDoor
open Go.Rows Go.RowKit Go.Shelf Go.Sort
def rStl:Rp Stl where
 size:=3
 holds:=fun w S x cs=>cs=[.int .i64 (x.frm:Int),.string x.label,.int .i64 (x.dst:Int)]∧x.label.size≤maxLen∧x.frm≤1000000∧x.dst≤1000000
 len:=fun ⟨h,_⟩=>by rw[h];rfl
 one:=fun ⟨h,_⟩=>by rw[h];simp[Value.oneCell']
 mono:=fun ⟨h,c0⟩ hk=>⟨h,c0⟩
structure PlCtx where
 w0:World
 P:Nat
 gA:Option Addr
 gn:Nat
 gc:Nat
 pA:Option Addr
 pn:Nat
 pc:Nat
 dec:Int
 nod:Int
 ov:Value
 q:PlIn
def OldV (w:World) (S:Nat→Prop) (ov:Value) (old:Option (List Dir)):Prop:=
 (old=none∧ov=.pointer none)∨∃ (b o:Nat) (A:Option Addr) (n c:Nat) (l:List Dir),old=some l∧ov=.pointer (some ⟨b,o,none⟩)∧b<w.heap.size∧S b∧w.cell? ⟨b,o,none⟩=some (.slice A n c)∧SlV rDir w S l (.slice A n c)∧(∀ d∈l,d.path.length * 32≤140737488355328)
theorem OldV.keep {w w':World} {S:Nat→Prop} {ov:Value} {old:Option (List Dir)} (h:OldV w S ov old) (hb:Below w.heap.size w w'):OldV w' S ov old:=by
 rcases h with h|⟨b,o,A,n,c,l,h1,h2,h3,h4,h5,h6,h7⟩
 ·exact .inl h
 ·exact .inr ⟨b,o,A,n,c,l,h1,h2,lL h3 hb.size,h4,zAA hb h5 h3,h6.belowSize hb,h7⟩
structure PlCtx.Ok (C:PlCtx):Prop where
 tab:Tab C.w0
 g:SlV rNode C.w0 (fun b=>b<C.w0.heap.size) C.q.g (.slice C.gA C.gn C.gc)
 p:SlV rPack C.w0 (fun b=>b<C.w0.heap.size) C.q.ps (.slice C.pA C.pn C.pc)
 o:OldV C.w0 (fun b=>b<C.w0.heap.size) C.ov C.q.old
 le:C.w0.heap.size≤C.P
 dirs:I64 C.q.dirs
 path:I64 C.q.path
 gz:C.q.g.length≤1048576
 pz:C.q.ps.length≤1048576
def PlWd (C:PlCtx) (w:World) (st:PlSt):Prop:=
 ∃ (A:Option Addr) (c:Nat) (A':Option Addr) (c':Nat) (S:Nat→Prop),
   w.heap[C.P]?=some (.cells #[.slice C.gA C.gn C.gc,.slice C.pA C.pn C.pc,.int .i64 C.dec,.int .i64 C.nod,.int .i64 C.q.dirs,.int .i64 C.q.path,C.ov,.slice A st.1.length c,.slice A' st.2.length c'] 78 (0,0)) ∧
   Own rDir w C.w0.heap.size 54 (.slice A st.1.length c) st.1 S∧Own rStl w C.w0.heap.size 148 (.slice A' st.2.length c') st.2 (fun _=>False) ∧
   (∀ b,S b→b≠C.P∧(Value.slice A' st.2.length c').ownBlock≠some b)∧(Value.slice A st.1.length c).ownBlock≠some C.P∧(Value.slice A' st.2.length c').ownBlock≠some C.P ∧
   (∀ k,(Value.slice A st.1.length c).ownBlock=some k→(Value.slice A' st.2.length c').ownBlock≠some k)∧Below C.w0.heap.size C.w0 w∧∀ b,S b→C.w0.heap.size≤b
theorem PlWd.keep {C:PlCtx} {w w':World} {st:PlSt} (hC:C.Ok) (h:PlWd C w st) (hb:Below w.heap.size w w'):PlWd C w' st:=by
 obtain ⟨A,c,A',c',S,h1,h2,h3,h4,h5,h6,h7,h8⟩:=h
 have hP:C.P<w.heap.size:=(aS.1 h1).1
 exact ⟨A,c,A',c',S,(hb.block _ hP).trans h1,h2.keep hb,h3.keep hb,h4,h5,h6,h7,bot h8.1 hb,h8.2⟩
theorem PlWd.base {C:PlCtx} {w:World} {st:PlSt} (h:PlWd C w st):Below C.w0.heap.size C.w0 w:=by
 obtain ⟨A,c,A',c',S,h1,h2,h3,h4,h5,h6,h7,h8⟩:=h
 exact h8.1
theorem PlWd.graph {C:PlCtx} {w:World} {st:PlSt} (hC:C.Ok) (h:PlWd C w st):SlV rNode w (fun b=>b<C.w0.heap.size) C.q.g (.slice C.gA C.gn C.gc):=hC.g.belowSize h.base
theorem PlWd.packs {C:PlCtx} {w:World} {st:PlSt} (hC:C.Ok) (h:PlWd C w st):SlV rPack w (fun b=>b<C.w0.heap.size) C.q.ps (.slice C.pA C.pn C.pc):=hC.p.belowSize h.base
structure PlRd (C:PlCtx) (w:World) (st:PlSt) (A:Option Addr) (c:Nat) (A':Option Addr) (c':Nat):Prop where
 c0:w.cell? ⟨C.P,0,none⟩=some (.slice C.gA C.gn C.gc)
 c1:w.cell? ⟨C.P,1,none⟩=some (.slice C.pA C.pn C.pc)
 c2:w.cell? ⟨C.P,2,none⟩=some (.int .i64 C.dec)
 c3:w.cell? ⟨C.P,3,none⟩=some (.int .i64 C.nod)
 c4:w.cell? ⟨C.P,4,none⟩=some (.int .i64 C.q.dirs)
 c5:w.cell? ⟨C.P,5,none⟩=some (.int .i64 C.q.path)
 c6:w.cell? ⟨C.P,6,none⟩=some C.ov
 c7:w.cell? ⟨C.P,7,none⟩=some (.slice A st.1.length c)
 c8:w.cell? ⟨C.P,8,none⟩=some (.slice A' st.2.length c')
 dirs:SlV rDir w (fun _=>True) st.1 (.slice A st.1.length c)
 stls:SlV rStl w (fun _=>True) st.2 (.slice A' st.2.length c')
 hP:C.P<w.heap.size
theorem PlWd.read {C:PlCtx} {w:World} {st:PlSt} (h:PlWd C w st):∃ A c A' c',PlRd C w st A c A' c':=by
 obtain ⟨A,c,A',c',S,h1,h2,h3,h4,h5,h6,h7,h8⟩:=h
 exact ⟨A,c,A',c',cO _ _ 0 _ _ _ h1,cO _ _ 1 _ _ _ h1,cO _ _ 2 _ _ _ h1,cO _ _ 3 _ _ _ h1,cO _ _ 4 _ _ _ h1,cO _ _ 5 _ _ _ h1,cO _ _ 6 _ _ _ h1,cO _ _ 7 _ _ _ h1,cO _ _ 8 _ _ _ h1,h2.slv.more fun _ _ _=>trivial,h3.slv.more fun _ _ _=>trivial,(aS.1 h1).1⟩
theorem PlRd.keep {C:PlCtx} {w w':World} {st:PlSt} {A:Option Addr} {c:Nat} {A':Option Addr} {c':Nat} (h:PlRd C w st A c A' c') (hb:Below w.heap.size w w'):PlRd C w' st A c A' c':=
 ⟨zAA hb h.c0 h.hP,zAA hb h.c1 h.hP,zAA hb h.c2 h.hP,zAA hb h.c3 h.hP,zAA hb h.c4 h.hP,zAA hb h.c5 h.hP,zAA hb h.c6 h.hP,zAA hb h.c7 h.hP,zAA hb h.c8 h.hP,h.dirs.belowSize hb,h.stls.belowSize hb,lL h.hP hb.size⟩
theorem zHg {S:List Stl} {k:Nat} {x:Stl} (h:S[k]?=some x) (i:Nat) (s:ByteArray):zBB (S.drop k) i s=if x.frm=i∧x.label=s then (x.dst:Int) else zBB (S.drop (k+1)) i s:=by
 obtain ⟨hk,e⟩:=gS.1 h
 rw[dC hk,e,zBB]
theorem zK1 (C:PlCtx) (w:World) (st:PlSt) (hw:PlWd C w st) (i:Nat) (hi:i≤1000000) (s:ByteArray) :
  Calls Tryz.prog 128 #[.pointer (some ⟨C.P,0,none⟩),.int .i64 (i:Int),.string s] w fun e w'=>e=.returned (.int .i64 (zBB st.2 i s))∧Below w.heap.size w w':=by
 obtain ⟨A,c,A',c',hr⟩:=hw.read
 have x8:=hr.c8
 have hst:=cH hr.stls
 have hcm:=hr.stls.cap_le
 unfold maxLen at hcm
 have HR:Hid (zBB st.2 i s=zBB (st.2.drop 0) i s):=by unfold Hid;rw[List.drop_zero]
 have Hend:Hid (∀ k,st.2.length≤k→zBB (st.2.drop k) i s=-1):=fun k hk=>by rw[dN hk];rfl
 have hcn:=hr.stls.n_eq
 clear hr hw
 obtain ⟨n,hn⟩:∃ n,n=st.2.length:=⟨_,rfl⟩
 rw[←hn] at x8 hst Hend hcm
 have hn63:n≤9223372036854775807:=by
  obtain ⟨_,_,h1,h2,h3⟩:=hst.out.val
  simp only[Value.slice.injEq] at h1
  omega
 have Hn:=cH hn
 clear hn hcn hcm
 generalize st.2=SS at *
 generalize zBB SS i s=R at *
 generalize C.P=PB at *
 go_enter Tryz.func128,Tryz.ntmps128
 go_wp2_with fail
 go_loopw [14] (fun t wr=>∃ k:Nat,k≤n∧t=.int .i64 k∧Hid (R=zBB (SS.drop k) i s)∧Hid (Below w.heap.size w wr)) (fun t _=>n - (intOf t).toNat)
 case atStart=>exact ⟨0,nZ _,rfl,HR,bR _ _⟩
 case round=>
  clear HR x8
  obtain ⟨k,hk,rfl,heq,hbel⟩:=hrel
  have hk0:(0:Int)≤(k:Int):=by omega
  by_cases hlt:k<n
  case neg=>
   have He:Hid (R=-1):=by unfold Hid;rw[heq.out,Hend.out k (by omega)]
   have hI:¬(k:Int)<(n:Int):=by omega
   clear heq Hend
   go_wp2_with fail
   go_ret
   exact ⟨zAy He.out.symm,hbel.out⟩
  have hkn:(k:Int)<(n:Int):=by omega
  obtain ⟨x,hx⟩:∃ x,SS[k]?=some x:=⟨_,gE (by have:=Hn.out;omega)⟩
  obtain ⟨b,o,cs,hA,_,hb1,⟨rfl,hlz,hf,hd⟩,hcell⟩:=(hst.out.belowSize hbel.out).elem hx
  subst hA
  have c0:=hcell 0 _ rfl
  have c1:=hcell 1 _ rfl
  have c2:=hcell 2 _ rfl
  simp only[rStl,Nat.add_zero] at c0 c1 c2
  have Hstep:=cH (zHg hx i s)
  clear hcell hlz
  obtain ⟨xf,xl,xd⟩:=x
  simp only at c0 c1 c2 hf hd Hstep
  have HBa:Hid (∀ o:Obj,Below w.heap.size w (wr.alloc o)):=fun o=>bal hbel.out o
  by_cases h1:xf=i
  ·have hb1:((xf:Int)==(i:Int))=true:=by simp[h1]
   by_cases h2:xl=s
   ·have hb2:=zAr h2
    have He:Hid (R=(xd:Int)):=by unfold Hid;rw[heq.out,Hstep.out,if_pos ⟨h1,h2⟩]
    clear heq Hstep h1 h2 Hend
    go_wp2_with fail
    go_ret
    exact ⟨zAy He.out.symm,HBa.out _⟩
   ·have hb2:=zAb h2
    have He:Hid (R=zBB (SS.drop (k+1)) i s):=by unfold Hid;rw[heq.out,Hstep.out,if_neg (fun h=>h2 h.2)]
    clear heq Hstep h1 h2
    go_wp2_with fail
    go_roundw
    case rel=>exact ⟨k+1,by omega,by go_num,He,HBa.out _⟩
    case measure=>simp[intOf];omega
  ·have hb1:((xf:Int)==(i:Int))=false:=by simp;omega
   have He:Hid (R=zBB (SS.drop (k+1)) i s):=by unfold Hid;rw[heq.out,Hstep.out,if_neg (fun h=>h1 h.1)]
   clear heq Hstep h1
   go_wp2_with fail
   go_roundw
   case rel=>exact ⟨k+1,by omega,by go_num,He,HBa.out _⟩
   case measure=>simp[intOf];omega
theorem zBe (W:World) (b o:Nat) (v:Value):W.grownBy (W.setCell ⟨b,o,none⟩ v) (some b):=⟨rfl,rfl,rfl,by simp,fun i _ hk=>heap_setCell_other W ⟨b,o,none⟩ i _ (fun e=>hk (by simp[e]))⟩
theorem zAV {W:World} {b o:Nat} {cs:Array Value} {t:TypeId} (h:W.heap[b]?=some (.cells cs t (0,0))) (v:Value):(W.setCell ⟨b,o,none⟩ v).heap[b]?=some (.cells (cs.setIfInBounds o v) t (0,0)):=by
 obtain ⟨hlt,hk⟩:=aS.1 h
 show (W.heap.modify b _)[b]?=_
 rw[Array.getElem?_eq_getElem (by rw[Array.size_modify];exact hlt),Array.getElem_modify_self,hk]
 rfl
theorem zNA:Elt Tryz.prog 148 3 32:=Elt.mk' (z:=.agg #[.int .i64 0,.string ⟨#[]⟩,.int .i64 0]) (by kernel_rfl) rfl (by decide)
theorem zMj:Elt Tryz.prog 54 9 144:=Elt.mk' (z:=.agg #[.slice none 0 0,.string ⟨#[]⟩,.int .i64 0,.int .i64 0,.int .i64 0,.slice none 0 0,.slice none 0 0,.slice none 0 0,.int .i64 0]) (by kernel_rfl) rfl (by decide)
theorem zAe {W:World} {b o:Nat} {cs:Array Value} {t:TypeId} (h:W.heap[b]?=some (.cells cs t (0,0))):W.frozen? ⟨b,o,none⟩=false:=by simp[World.frozen?,h]
def plRow (C:PlCtx) (vT vS:Value):Array Value:=#[.slice C.gA C.gn C.gc,.slice C.pA C.pn C.pc,.int .i64 C.dec,.int .i64 C.nod,.int .i64 C.q.dirs,.int .i64 C.q.path,C.ov,vT,vS]
structure PlP (C:PlCtx) (w:World) (st:PlSt) (A:Option Addr) (c:Nat) (A':Option Addr) (c':Nat) (S:Nat→Prop):Prop where
 row:w.heap[C.P]?=some (.cells (plRow C (.slice A st.1.length c) (.slice A' st.2.length c')) 78 (0,0))
 T:Own rDir w C.w0.heap.size 54 (.slice A st.1.length c) st.1 S
 S':Own rStl w C.w0.heap.size 148 (.slice A' st.2.length c') st.2 (fun _=>False)
 apart:∀ b,S b→b≠C.P∧(Value.slice A' st.2.length c').ownBlock≠some b
 tp:(Value.slice A st.1.length c).ownBlock≠some C.P
 sp:(Value.slice A' st.2.length c').ownBlock≠some C.P
 ts:∀ k,(Value.slice A st.1.length c).ownBlock=some k→(Value.slice A' st.2.length c').ownBlock≠some k
 base:Below C.w0.heap.size C.w0 w
 new:∀ b,S b→C.w0.heap.size≤b
theorem PlWd.parts {C:PlCtx} {w:World} {st:PlSt} (h:PlWd C w st):∃ A c A' c' S,PlP C w st A c A' c' S:=by
 obtain ⟨A,c,A',c',S,h1,h2,h3,h4,h5,h6,h7,h8⟩:=h
 exact ⟨A,c,A',c',S,h1,h2,h3,h4,h5,h6,h7,h8.1,h8.2⟩
theorem PlP.all {C:PlCtx} {w:World} {st:PlSt} {A:Option Addr} {c:Nat} {A':Option Addr} {c':Nat} {S:Nat→Prop} (h:PlP C w st A c A' c' S):PlWd C w st:=⟨A,c,A',c',S,h.row,h.T,h.S',h.apart,h.tp,h.sp,h.ts,h.base,h.new⟩
theorem PlP.hP {C:PlCtx} {w:World} {st:PlSt} {A:Option Addr} {c:Nat} {A':Option Addr} {c':Nat} {S:Nat→Prop} (h:PlP C w st A c A' c' S):C.P<w.heap.size:=(aS.1 h.row).1
theorem PlP.keep {C:PlCtx} {w w':World} {st:PlSt} {A:Option Addr} {c:Nat} {A':Option Addr} {c':Nat} {S:Nat→Prop} (h:PlP C w st A c A' c' S) (hb:Below w.heap.size w w'):PlP C w' st A c A' c' S:=
 ⟨(hb.block _ h.hP).trans h.row,h.T.keep hb,h.S'.keep hb,h.apart,h.tp,h.sp,h.ts,bot h.base hb,h.new⟩
def PlS (C:PlCtx) (w:World) (st:PlSt) (S:Nat→Prop):Prop:=∃ A c A' c',PlP C w st A c A' c' S
theorem PlS.all {C:PlCtx} {w:World} {st:PlSt} {S:Nat→Prop} (h:PlS C w st S):PlWd C w st:=by
 obtain ⟨A,c,A',c',h⟩:=h
 exact h.all
theorem PlWd.s {C:PlCtx} {w:World} {st:PlSt} (h:PlWd C w st):∃ S,PlS C w st S:=by
 obtain ⟨A,c,A',c',S,h⟩:=h.parts
 exact ⟨S,A,c,A',c',h⟩
theorem PlS.keep {C:PlCtx} {w w':World} {st:PlSt} {S:Nat→Prop} (h:PlS C w st S) (hb:Below w.heap.size w w'):PlS C w' st S:=by
 obtain ⟨A,c,A',c',h⟩:=h
 exact ⟨A,c,A',c',h.keep hb⟩
theorem PlP.push_stl {C:PlCtx} (hC:C.Ok) {w w9:World} {st:PlSt} {A:Option Addr} {c:Nat} {A':Option Addr} {c':Nat} {S:Nat→Prop} (h:PlP C w st A c A' c' S) {x:Stl} {g cap:Nat}
  (hown:Own rStl w9 C.w0.heap.size 148 (.slice (some ⟨g,0,none⟩) (st.2.length+1) cap) (st.2++[x]) (fun _=>False)) (hgrow:w.grownBy w9 (Value.slice A' st.2.length c').ownBlock) (hat:(Value.slice A' st.2.length c').ownBlock=some g∨w.heap.size≤g) :
  w9.heap[C.P]?=some (.cells (plRow C (.slice A st.1.length c) (.slice A' st.2.length c')) 78 (0,0))∧PlS C (w9.setCell ⟨C.P,8,none⟩ (.slice (some ⟨g,0,none⟩) (st.2.length+1) cap)) (st.1,st.2++[x]) S:=by
 have hP:=h.hP
 have hP9:w9.heap[C.P]?=some (.cells (plRow C (.slice A st.1.length c) (.slice A' st.2.length c')) 78 (0,0)):=by
  rw[hgrow.block C.P hP (fun e=>h.sp e.symm)];exact h.row
 refine ⟨hP9,?_⟩
 have hgP:g≠C.P:=fun e=>by
  rcases hat with h2|h2
  ·rw[e] at h2;exact h.sp h2
  ·omega
 have hl9:(st.2++[x]).length=st.2.length+1:=by rw[List.length_append];rfl
 have hT9:Own rDir w9 C.w0.heap.size 54 (.slice A st.1.length c) st.1 S:=by
  refine h.T.grown hgrow ?_ fun b hb e=>(h.apart b hb).2 e.symm
  cases hk:(Value.slice A st.1.length c).ownBlock with
  | none=>exact .inl rfl
  | some k=>exact .inr fun e=>h.ts k hk e.symm
 have hT10:Own rDir (w9.setCell ⟨C.P,8,none⟩ (.slice (some ⟨g,0,none⟩) (st.2.length+1) cap)) C.w0.heap.size 54 (.slice A st.1.length c) st.1 S:=
  hT9.grown (zBe _ _ _ _) (.inr h.tp) fun b hb e=>(h.apart b hb).1 (Option.some.inj e)
 have hS10:Own rStl (w9.setCell ⟨C.P,8,none⟩ (.slice (some ⟨g,0,none⟩) (st.2.length+1) cap)) C.w0.heap.size 148 (.slice (some ⟨g,0,none⟩) (st.2.length+1) cap) (st.2++[x]) (fun _=>False):=
  hown.grown (zBe _ _ _ _) (.inr fun e=>hgP (Option.some.inj e)) fun b hb=>hb.elim
 have hB9:Below C.w0.heap.size C.w0 w9:=h.base.grown hgrow h.base.size fun k hk=>(h.S'.lt k hk).1
 refine ⟨A,c,some ⟨g,0,none⟩,cap,?_,hT10,by rw[hl9];exact hS10,fun b hb=>⟨(h.apart b hb).1,fun e=>?_⟩,h.tp,fun e=>hgP (Option.some.inj e),fun k hk e=>?_,hB9.setCell (p:=⟨C.P,8,none⟩) hC.le _,h.new⟩
 ·rw[hl9]
  exact zAV hP9 _
 ·have e2:g=b:=Option.some.inj e
  rcases hat with h2|h2
  ·rw[e2] at h2;exact (h.apart b hb).2 h2
  ·have:=(h.T.1 b hb).1;omega
 ·have e2:g=k:=Option.some.inj e
  rcases hat with h2|h2
  ·rw[e2] at h2;exact h.ts k hk h2
  ·have:=(h.T.lt k hk).2;omega
theorem PlP.push_dir {C:PlCtx} (hC:C.Ok) {w w1 w9:World} {st:PlSt} {A:Option Addr} {c:Nat} {A':Option Addr} {c':Nat} {S:Nat→Prop} (h:PlP C w st A c A' c' S) (hw1:Below w.heap.size w w1) {d:Dir} {g cap:Nat}
  (hown:Own rDir w9 C.w0.heap.size 54 (.slice (some ⟨g,0,none⟩) (st.1.length+1) cap) (st.1++[d]) (fun b=>S b∨(w.heap.size≤b∧b<w1.heap.size))) (hgrow:w1.grownBy w9 (Value.slice A st.1.length c).ownBlock) (hat:(Value.slice A st.1.length c).ownBlock=some g∨w1.heap.size≤g) :
  w9.heap[C.P]?=some (.cells (plRow C (.slice A st.1.length c) (.slice A' st.2.length c')) 78 (0,0))∧PlWd C (w9.setCell ⟨C.P,7,none⟩ (.slice (some ⟨g,0,none⟩) (st.1.length+1) cap)) (st.1++[d],st.2):=by
 have hk:=h.keep hw1
 have hP:=hk.hP
 have hP0:=h.hP
 have hP9:w9.heap[C.P]?=some (.cells (plRow C (.slice A st.1.length c) (.slice A' st.2.length c')) 78 (0,0)):=by
  rw[hgrow.block C.P hP (fun e=>h.tp e.symm)];exact hk.row
 refine ⟨hP9,?_⟩
 have hws:=hw1.size
 have hgP:g≠C.P:=fun e=>by
  rcases hat with h2|h2
  ·rw[e] at h2;exact h.tp h2
  ·omega
 have hl9:(st.1++[d]).length=st.1.length+1:=by rw[List.length_append];rfl
 have hS9:Own rStl w9 C.w0.heap.size 148 (.slice A' st.2.length c') st.2 (fun _=>False):=by
  refine hk.S'.grown hgrow ?_ fun b hb=>hb.elim
  cases hk2:(Value.slice A' st.2.length c').ownBlock with
  | none=>exact .inl rfl
  | some k=>exact .inr fun e=>h.ts k e.symm hk2
 have hS10:Own rStl (w9.setCell ⟨C.P,7,none⟩ (.slice (some ⟨g,0,none⟩) (st.1.length+1) cap)) C.w0.heap.size 148 (.slice A' st.2.length c') st.2 (fun _=>False):=
  hS9.grown (zBe _ _ _ _) (.inr h.sp) fun b hb=>hb.elim
 have hT10:Own rDir (w9.setCell ⟨C.P,7,none⟩ (.slice (some ⟨g,0,none⟩) (st.1.length+1) cap)) C.w0.heap.size 54 (.slice (some ⟨g,0,none⟩) (st.1.length+1) cap) (st.1++[d]) (fun b=>S b∨(w.heap.size≤b∧b<w1.heap.size)):=
  hown.grown (zBe _ _ _ _) (.inr fun e=>hgP (Option.some.inj e)) fun b hb e=>by
   have e2:b=C.P:=Option.some.inj e
   rcases hb with hb|hb
   ·exact (h.apart b hb).1 e2
   ·omega
 have hB9:Below C.w0.heap.size C.w0 w9:=hk.base.grown hgrow hk.base.size fun k hk2=>(h.T.lt k hk2).1
 refine ⟨some ⟨g,0,none⟩,cap,A',c',_,?_,by rw[hl9];exact hT10,hS10,fun b hb=>?_,fun e=>hgP (Option.some.inj e),h.sp,fun k hk2 e=>?_,hB9.setCell (p:=⟨C.P,7,none⟩) hC.le _,fun b hb=>by
  rcases hb with hb|hb
  ·exact h.new b hb
  ·exact nT h.base.size hb.1⟩
 ·rw[hl9]
  exact zAV hP9 _
 ·rcases hb with hb|hb
  ·exact h.apart b hb
  ·refine ⟨by omega,fun e=>?_⟩
   have:=(h.S'.lt b e).2
   omega
 ·have e2:g=k:=Option.some.inj hk2
  rcases hat with h2|h2
  ·rw[e2] at h2;exact h.ts k h2 e
  ·have:=(h.S'.lt k e).2;omega
def NotPl (C:PlCtx) (w:World) (b:Nat):Prop:=b≠C.P∧(∀ v,w.cell? ⟨C.P,7,none⟩=some v→v.ownBlock≠some b)∧(∀ v,w.cell? ⟨C.P,8,none⟩=some v→v.ownBlock≠some b)
def PlFr (C:PlCtx) (w w':World):Prop:=w.heap.size≤w'.heap.size∧∀ b,b<w.heap.size→NotPl C w b→w'.heap[b]?=w.heap[b]?∧NotPl C w' b
theorem PlFr.trans {C:PlCtx} {w w' w'':World} (h:PlFr C w w') (h':PlFr C w' w''):PlFr C w w'':=
 ⟨nT h.1 h'.1,fun b hb hn=>by
   obtain ⟨h1,h2⟩:=h.2 b hb hn
   obtain ⟨h3,h4⟩:=h'.2 b (lL hb h.1) h2
   exact ⟨h3.trans h1,h4⟩⟩
theorem PlFr.below {C:PlCtx} {w w':World} (hP:C.P<w.heap.size) (hb:Below w.heap.size w w'):PlFr C w w':=
 ⟨hb.size,fun b hb' hn=>⟨hb.block _ hb',hn.1,fun v hv=>hn.2.1 v (by rw[←zAM (hb.block _ hP) 7 none];exact hv),fun v hv=>hn.2.2 v (by rw[←zAM (hb.block _ hP) 8 none];exact hv)⟩⟩
theorem PlP.fr7 {C:PlCtx} {w w9:World} {st:PlSt} {A:Option Addr} {c:Nat} {A':Option Addr} {c':Nat} {S:Nat→Prop} (h:PlP C w st A c A' c' S) {g n cap:Nat} (hgrow:w.grownBy w9 (Value.slice A st.1.length c).ownBlock) (hat:(Value.slice A st.1.length c).ownBlock=some g∨w.heap.size≤g)
  (hP9:w9.heap[C.P]?=some (.cells (plRow C (.slice A st.1.length c) (.slice A' st.2.length c')) 78 (0,0))):PlFr C w (w9.setCell ⟨C.P,7,none⟩ (.slice (some ⟨g,0,none⟩) n cap)):=by
 refine ⟨by rw[show (w9.setCell ⟨C.P,7,none⟩ (.slice (some ⟨g,0,none⟩) n cap)).heap.size=w9.heap.size from by simp];exact hgrow.size,fun b hb hn=>?_⟩
 have o7:=hn.2.1 _ (cO _ _ 7 _ _ _ h.row)
 have o8:=hn.2.2 _ (cO _ _ 8 _ _ _ h.row)
 have hrow:=zAV hP9 (o:=7) (.slice (some ⟨g,0,none⟩) n cap)
 refine ⟨(heap_setCell_other w9 ⟨C.P,7,none⟩ b _ hn.1).trans (hgrow.block b hb fun e=>o7 e.symm),hn.1,fun v hv=>?_,fun v hv=>?_⟩
 ·rw[cO _ _ 7 _ _ _ hrow] at hv
  cases hv
  intro e
  have e2:g=b:=Option.some.inj e
  rcases hat with h2|h2
  ·rw[e2] at h2;exact o7 h2
  ·omega
 ·rw[cO _ _ 8 _ _ _ hrow] at hv
  cases hv
  exact o8
theorem PlP.fr8 {C:PlCtx} {w w9:World} {st:PlSt} {A:Option Addr} {c:Nat} {A':Option Addr} {c':Nat} {S:Nat→Prop} (h:PlP C w st A c A' c' S) {g n cap:Nat} (hgrow:w.grownBy w9 (Value.slice A' st.2.length c').ownBlock) (hat:(Value.slice A' st.2.length c').ownBlock=some g∨w.heap.size≤g)
  (hP9:w9.heap[C.P]?=some (.cells (plRow C (.slice A st.1.length c) (.slice A' st.2.length c')) 78 (0,0))):PlFr C w (w9.setCell ⟨C.P,8,none⟩ (.slice (some ⟨g,0,none⟩) n cap)):=by
 refine ⟨by rw[show (w9.setCell ⟨C.P,8,none⟩ (.slice (some ⟨g,0,none⟩) n cap)).heap.size=w9.heap.size from by simp];exact hgrow.size,fun b hb hn=>?_⟩
 have o7:=hn.2.1 _ (cO _ _ 7 _ _ _ h.row)
 have o8:=hn.2.2 _ (cO _ _ 8 _ _ _ h.row)
 have hrow:=zAV hP9 (o:=8) (.slice (some ⟨g,0,none⟩) n cap)
 refine ⟨(heap_setCell_other w9 ⟨C.P,8,none⟩ b _ hn.1).trans (hgrow.block b hb fun e=>o8 e.symm),hn.1,fun v hv=>?_,fun v hv=>?_⟩
 ·rw[cO _ _ 7 _ _ _ hrow] at hv
  cases hv
  exact o7
 ·rw[cO _ _ 8 _ _ _ hrow] at hv
  cases hv
  intro e
  have e2:g=b:=Option.some.inj e
  rcases hat with h2|h2
  ·rw[e2] at h2;exact o8 h2
  ·omega
theorem zFd (C:PlCtx) (hC:C.Ok) (w:World) (st:PlSt) (S:Nat→Prop) (hw:PlS C w st S) (i j:Nat) (hi:i≤1000000) (hj:j≤1000000) (s:ByteArray) (hs:s.size≤maxLen) (hlen:st.2.length≤1000000) :
  Calls Tryz.prog 49 #[.pointer (some ⟨C.P,0,none⟩),.int .i64 (i:Int),.string s,.int .i64 (j:Int)] w fun e w'=>e=.returned (.tuple #[])∧PlS C w' (st.1,st.2++[⟨i,s,j⟩]) S∧PlFr C w w':=by
 obtain ⟨A,c,A',c',hp⟩:=hw
 have x8:w.cell? ⟨C.P,8,none⟩=some (.slice A' st.2.length c'):=cO _ _ 8 _ _ _ hp.row
 obtain ⟨w1,hw1⟩:∃ w1,w1=w.alloc (.cells #[.int .i64 (i:Int),.string s,.int .i64 (j:Int)] 148):=⟨_,rfl⟩
 have hp1:PlP C w1 st A c A' c' S:=hp.keep (by rw[hw1];exact bal (bR _ _) _)
 have hnews:=zAo w #[.int .i64 (i:Int),.string s,.int .i64 (j:Int)] 148
 have hs1:w1.heap.size=w.heap.size+1:=by rw[hw1];simp
 have H1:=cH hp1
 have HC:=cH hC
 have hb0:C.w0.heap.size≤w1.heap.size:=hp1.base.size
 rw[←hw1] at hnews
 have Hs1:=cH hs1
 have Hnews:=cH hnews
 have HPz:=cH hp.hP
 have HBl:=cH (show Below w.heap.size w w1 by rw[hw1];exact bal (bR _ _) _)
 obtain ⟨n,hn⟩:∃ n,n=st.2.length:=⟨_,rfl⟩
 have Hn:=cH hn
 have hnz:n≤1000000:=by omega
 rw[←hn] at x8
 clear hn hp hp1 hs1 hnews
 go_enter Tryz.func49,Tryz.ntmps49
 go_wp2_with (at_builtin;rw[←hw1];refine zAK (by rfl) _ _ _ (by rfl) zNA Tryz.underlying76 (by rw[Hn.out];rfl) H1.out.S' ⟨w.heap.size,0,none⟩ 1 [.int .i64 (i:Int),.string s,.int .i64 (j:Int)] ⟨i,s,j⟩ (by rfl) ⟨rfl,hs,hi,hj⟩ Hnews.out (by rw[←Hn.out];unfold maxLen;omega) (by rw[←Hn.out];omega) hb0 (w.heap.size+1) Hs1.out ?_)
 intro g9 cap9 w9 hown9 hgrow9 hat9 hlt9
 rw[←hw1] at hgrow9
 obtain ⟨hP9,hend⟩:=H1.out.push_stl HC.out hown9 hgrow9 (by rcases hat9 with h|h;exact .inl h;exact .inr (by rw[Hs1.out,h];exact nR _))
 have HFr:=cH ((PlFr.below HPz.out HBl.out).trans (H1.out.fr8 (n:=st.2.length+1) (cap:=cap9) hgrow9 (by rcases hat9 with h|h;exact .inl h;exact .inr (by rw[Hs1.out,h];exact nR _)) hP9))
 have y8:w9.cell? ⟨C.P,8,none⟩=some (.slice A' st.2.length c'):=cO _ _ 8 _ _ _ hP9
 have f8:w9.frozen? ⟨C.P,8,none⟩=false:=zAe hP9
 have Hend:=cH hend
 clear hown9 hgrow9 hP9 x8 hend hw1 hat9
 go_wp2_with fail
 go_end0
 exact ⟨rfl,Hend.out,HFr.out⟩
theorem zKC (C:PlCtx) (hC:C.Ok) (w:World) (st:PlSt) (hw:PlWd C w st) (i j:Nat) (hi:i≤1000000) (hj:j≤1000000) (s:ByteArray) (hs:s.size≤maxLen) (hlen:st.2.length≤1000000) :
  Calls Tryz.prog 49 #[.pointer (some ⟨C.P,0,none⟩),.int .i64 (i:Int),.string s,.int .i64 (j:Int)] w fun e w'=>e=.returned (.tuple #[])∧PlWd C w' (st.1,st.2++[⟨i,s,j⟩])∧PlFr C w w':=by
 obtain ⟨S,hS⟩:=hw.s
 refine (zFd C hC w st S hS i j hi hj s hs hlen).mono ?_
 rintro e w' ⟨h1,h2,h3⟩
 exact ⟨h1,h2.all,h3⟩
structure DlCtx where
 w0:World
 P:Nat
 gA:Option Addr
 gn:Nat
 gc:Nat
 pA:Option Addr
 pn:Nat
 pc:Nat
 dec:Int
 nod:Int
 oA:Option Addr
 on:Nat
 oc:Nat
 like:Bool
 ol:List Dir
 q:PlIn
structure DlCtx.Ok (C:DlCtx):Prop where
 tab:Tab C.w0
 g:SlV rNode C.w0 (fun b=>b<C.w0.heap.size) C.q.g (.slice C.gA C.gn C.gc)
 p:SlV rPack C.w0 (fun b=>b<C.w0.heap.size) C.q.ps (.slice C.pA C.pn C.pc)
 o:SlV rDir C.w0 (fun b=>b<C.w0.heap.size) C.ol (.slice C.oA C.on C.oc)
 old:C.q.old=if C.like=true then some C.ol else none
 oz:∀ d∈C.ol,d.path.length * 32≤140737488355328
 le:C.w0.heap.size≤C.P
 dirs:I64 C.q.dirs
 path:I64 C.q.path
 gz:C.q.g.length≤1048576
 pz:C.q.ps.length≤1048576
def dlRow (C:DlCtx) (vT vS:Value):Array Value:=#[.slice C.gA C.gn C.gc,.slice C.pA C.pn C.pc,.int .i64 C.dec,.int .i64 C.nod,.int .i64 C.q.dirs,.int .i64 C.q.path,.slice C.oA C.on C.oc,.bool C.like,vT,vS]
structure DlP (C:DlCtx) (w:World) (st:PlSt) (A:Option Addr) (c:Nat) (A':Option Addr) (c':Nat) (S:Nat→Prop):Prop where
 row:w.heap[C.P]?=some (.cells (dlRow C (.slice A st.1.length c) (.slice A' st.2.length c')) 87 (0,0))
 T:Own rDir w C.w0.heap.size 54 (.slice A st.1.length c) st.1 S
 S':Own rStl w C.w0.heap.size 130 (.slice A' st.2.length c') st.2 (fun _=>False)
 apart:∀ b,S b→b≠C.P∧(Value.slice A' st.2.length c').ownBlock≠some b
 tp:(Value.slice A st.1.length c).ownBlock≠some C.P
 sp:(Value.slice A' st.2.length c').ownBlock≠some C.P
 ts:∀ k,(Value.slice A st.1.length c).ownBlock=some k→(Value.slice A' st.2.length c').ownBlock≠some k
 base:Below C.w0.heap.size C.w0 w
 old:∀ b,b<C.w0.heap.size→S b
def DlWd (C:DlCtx) (w:World) (st:PlSt):Prop:=∃ A c A' c' S,DlP C w st A c A' c' S
theorem DlWd.parts {C:DlCtx} {w:World} {st:PlSt} (h:DlWd C w st):∃ A c A' c' S,DlP C w st A c A' c' S:=h
theorem DlP.all {C:DlCtx} {w:World} {st:PlSt} {A:Option Addr} {c:Nat} {A':Option Addr} {c':Nat} {S:Nat→Prop} (h:DlP C w st A c A' c' S):DlWd C w st:=⟨A,c,A',c',S,h⟩
theorem DlWd.base {C:DlCtx} {w:World} {st:PlSt} (h:DlWd C w st):Below C.w0.heap.size C.w0 w:=by
 obtain ⟨A,c,A',c',S,h⟩:=h
 exact h.base
theorem DlP.hP {C:DlCtx} {w:World} {st:PlSt} {A:Option Addr} {c:Nat} {A':Option Addr} {c':Nat} {S:Nat→Prop} (h:DlP C w st A c A' c' S):C.P<w.heap.size:=(aS.1 h.row).1
theorem DlP.keep {C:DlCtx} {w w':World} {st:PlSt} {A:Option Addr} {c:Nat} {A':Option Addr} {c':Nat} {S:Nat→Prop} (h:DlP C w st A c A' c' S) (hb:Below w.heap.size w w'):DlP C w' st A c A' c' S:=
 ⟨(hb.block _ h.hP).trans h.row,h.T.keep hb,h.S'.keep hb,h.apart,h.tp,h.sp,h.ts,bot h.base hb,h.old⟩
def DlS (C:DlCtx) (w:World) (st:PlSt) (S:Nat→Prop):Prop:=∃ A c A' c',DlP C w st A c A' c' S
theorem DlS.all {C:DlCtx} {w:World} {st:PlSt} {S:Nat→Prop} (h:DlS C w st S):DlWd C w st:=by
 obtain ⟨A,c,A',c',h⟩:=h
 exact h.all
theorem DlWd.s {C:DlCtx} {w:World} {st:PlSt} (h:DlWd C w st):∃ S,DlS C w st S:=by
 obtain ⟨A,c,A',c',S,h⟩:=h.parts
 exact ⟨S,A,c,A',c',h⟩
theorem DlS.keep {C:DlCtx} {w w':World} {st:PlSt} {S:Nat→Prop} (h:DlS C w st S) (hb:Below w.heap.size w w'):DlS C w' st S:=by
 obtain ⟨A,c,A',c',h⟩:=h
 exact ⟨A,c,A',c',h.keep hb⟩
theorem DlP.push_stl {C:DlCtx} (hC:C.Ok) {w w9:World} {st:PlSt} {A:Option Addr} {c:Nat} {A':Option Addr} {c':Nat} {S:Nat→Prop} (h:DlP C w st A c A' c' S) {x:Stl} {g cap:Nat}
  (hown:Own rStl w9 C.w0.heap.size 130 (.slice (some ⟨g,0,none⟩) (st.2.length+1) cap) (st.2++[x]) (fun _=>False)) (hgrow:w.grownBy w9 (Value.slice A' st.2.length c').ownBlock) (hat:(Value.slice A' st.2.length c').ownBlock=some g∨w.heap.size≤g) :
  w9.heap[C.P]?=some (.cells (dlRow C (.slice A st.1.length c) (.slice A' st.2.length c')) 87 (0,0))∧DlS C (w9.setCell ⟨C.P,9,none⟩ (.slice (some ⟨g,0,none⟩) (st.2.length+1) cap)) (st.1,st.2++[x]) S:=by
 have hP:=h.hP
 have hP9:w9.heap[C.P]?=some (.cells (dlRow C (.slice A st.1.length c) (.slice A' st.2.length c')) 87 (0,0)):=by
  rw[hgrow.block C.P hP (fun e=>h.sp e.symm)];exact h.row
 refine ⟨hP9,?_⟩
 have hgP:g≠C.P:=fun e=>by
  rcases hat with h2|h2
  ·rw[e] at h2;exact h.sp h2
  ·omega
 have hl9:(st.2++[x]).length=st.2.length+1:=by rw[List.length_append];rfl
 have hT9:Own rDir w9 C.w0.heap.size 54 (.slice A st.1.length c) st.1 S:=by
  refine h.T.grown hgrow ?_ fun b hb e=>(h.apart b hb).2 e.symm
  cases hk:(Value.slice A st.1.length c).ownBlock with
  | none=>exact .inl rfl
  | some k=>exact .inr fun e=>h.ts k hk e.symm
 have hT10:Own rDir (w9.setCell ⟨C.P,9,none⟩ (.slice (some ⟨g,0,none⟩) (st.2.length+1) cap)) C.w0.heap.size 54 (.slice A st.1.length c) st.1 S:=
  hT9.grown (zBe _ _ _ _) (.inr h.tp) fun b hb e=>(h.apart b hb).1 (Option.some.inj e)
 have hS10:Own rStl (w9.setCell ⟨C.P,9,none⟩ (.slice (some ⟨g,0,none⟩) (st.2.length+1) cap)) C.w0.heap.size 130 (.slice (some ⟨g,0,none⟩) (st.2.length+1) cap) (st.2++[x]) (fun _=>False):=
  hown.grown (zBe _ _ _ _) (.inr fun e=>hgP (Option.some.inj e)) fun b hb=>hb.elim
 have hB9:Below C.w0.heap.size C.w0 w9:=h.base.grown hgrow h.base.size fun k hk=>(h.S'.lt k hk).1
 refine ⟨A,c,some ⟨g,0,none⟩,cap,?_,hT10,by rw[hl9];exact hS10,fun b hb=>⟨(h.apart b hb).1,fun e=>?_⟩,h.tp,fun e=>hgP (Option.some.inj e),fun k hk e=>?_,hB9.setCell (p:=⟨C.P,9,none⟩) hC.le _,h.old⟩
 ·rw[hl9]
  exact zAV hP9 _
 ·have e2:g=b:=Option.some.inj e
  rcases hat with h2|h2
  ·rw[e2] at h2;exact (h.apart b hb).2 h2
  ·have:=(h.T.1 b hb).1;omega
 ·have e2:g=k:=Option.some.inj e
  rcases hat with h2|h2
  ·rw[e2] at h2;exact h.ts k hk h2
  ·have:=(h.T.lt k hk).2;omega
theorem DlP.push_dir {C:DlCtx} (hC:C.Ok) {w w1 w9:World} {st:PlSt} {A:Option Addr} {c:Nat} {A':Option Addr} {c':Nat} {S:Nat→Prop} (h:DlP C w st A c A' c' S) (hw1:Below w.heap.size w w1) {d:Dir} {g cap:Nat}
  (hown:Own rDir w9 C.w0.heap.size 54 (.slice (some ⟨g,0,none⟩) (st.1.length+1) cap) (st.1++[d]) (fun b=>S b∨(w.heap.size≤b∧b<w1.heap.size))) (hgrow:w1.grownBy w9 (Value.slice A st.1.length c).ownBlock) (hat:(Value.slice A st.1.length c).ownBlock=some g∨w1.heap.size≤g) :
  w9.heap[C.P]?=some (.cells (dlRow C (.slice A st.1.length c) (.slice A' st.2.length c')) 87 (0,0))∧DlWd C (w9.setCell ⟨C.P,8,none⟩ (.slice (some ⟨g,0,none⟩) (st.1.length+1) cap)) (st.1++[d],st.2):=by
 have hk:=h.keep hw1
 have hP:=hk.hP
 have hP0:=h.hP
 have hP9:w9.heap[C.P]?=some (.cells (dlRow C (.slice A st.1.length c) (.slice A' st.2.length c')) 87 (0,0)):=by
  rw[hgrow.block C.P hP (fun e=>h.tp e.symm)];exact hk.row
 refine ⟨hP9,?_⟩
 have hws:=hw1.size
 have hgP:g≠C.P:=fun e=>by
  rcases hat with h2|h2
  ·rw[e] at h2;exact h.tp h2
  ·omega
 have hl9:(st.1++[d]).length=st.1.length+1:=by rw[List.length_append];rfl
 have hS9:Own rStl w9 C.w0.heap.size 130 (.slice A' st.2.length c') st.2 (fun _=>False):=by
  refine hk.S'.grown hgrow ?_ fun b hb=>hb.elim
  cases hk2:(Value.slice A' st.2.length c').ownBlock with
  | none=>exact .inl rfl
  | some k=>exact .inr fun e=>h.ts k e.symm hk2
 have hS10:Own rStl (w9.setCell ⟨C.P,8,none⟩ (.slice (some ⟨g,0,none⟩) (st.1.length+1) cap)) C.w0.heap.size 130 (.slice A' st.2.length c') st.2 (fun _=>False):=
  hS9.grown (zBe _ _ _ _) (.inr h.sp) fun b hb=>hb.elim
 have hT10:Own rDir (w9.setCell ⟨C.P,8,none⟩ (.slice (some ⟨g,0,none⟩) (st.1.length+1) cap)) C.w0.heap.size 54 (.slice (some ⟨g,0,none⟩) (st.1.length+1) cap) (st.1++[d]) (fun b=>S b∨(w.heap.size≤b∧b<w1.heap.size)):=
  hown.grown (zBe _ _ _ _) (.inr fun e=>hgP (Option.some.inj e)) fun b hb e=>by
   have e2:b=C.P:=Option.some.inj e
   rcases hb with hb|hb
   ·exact (h.apart b hb).1 e2
   ·omega
 have hB9:Below C.w0.heap.size C.w0 w9:=hk.base.grown hgrow hk.base.size fun k hk2=>(h.T.lt k hk2).1
 refine ⟨some ⟨g,0,none⟩,cap,A',c',_,?_,by rw[hl9];exact hT10,hS10,fun b hb=>?_,fun e=>hgP (Option.some.inj e),h.sp,fun k hk2 e=>?_,hB9.setCell (p:=⟨C.P,8,none⟩) hC.le _,fun b hb=>by exact Or.inl (h.old b hb)⟩
 ·rw[hl9]
  exact zAV hP9 _
 ·rcases hb with hb|hb
  ·exact h.apart b hb
  ·refine ⟨by omega,fun e=>?_⟩
   have:=(h.S'.lt b e).2
   omega
 ·have e2:g=k:=Option.some.inj hk2
  rcases hat with h2|h2
  ·rw[e2] at h2;exact h.ts k h2 e
  ·have:=(h.S'.lt k e).2;omega
def NotDl (C:DlCtx) (w:World) (b:Nat):Prop:=b≠C.P∧(∀ v,w.cell? ⟨C.P,8,none⟩=some v→v.ownBlock≠some b)∧(∀ v,w.cell? ⟨C.P,9,none⟩=some v→v.ownBlock≠some b)
def DlFr (C:DlCtx) (w w':World):Prop:=w.heap.size≤w'.heap.size∧∀ b,b<w.heap.size→NotDl C w b→w'.heap[b]?=w.heap[b]?∧NotDl C w' b
theorem DlFr.trans {C:DlCtx} {w w' w'':World} (h:DlFr C w w') (h':DlFr C w' w''):DlFr C w w'':=
 ⟨nT h.1 h'.1,fun b hb hn=>by
   obtain ⟨h1,h2⟩:=h.2 b hb hn
   obtain ⟨h3,h4⟩:=h'.2 b (lL hb h.1) h2
   exact ⟨h3.trans h1,h4⟩⟩
theorem DlFr.below {C:DlCtx} {w w':World} (hP:C.P<w.heap.size) (hb:Below w.heap.size w w'):DlFr C w w':=
 ⟨hb.size,fun b hb' hn=>⟨hb.block _ hb',hn.1,fun v hv=>hn.2.1 v (by rw[←zAM (hb.block _ hP) 8 none];exact hv),fun v hv=>hn.2.2 v (by rw[←zAM (hb.block _ hP) 9 none];exact hv)⟩⟩
theorem DlWd.keep {C:DlCtx} {w w':World} {st:PlSt} (h:DlWd C w st) (hb:Below w.heap.size w w'):DlWd C w' st:=by
 obtain ⟨A,c,A',c',S,h⟩:=h
 exact ⟨A,c,A',c',S,h.keep hb⟩
structure DlRd (C:DlCtx) (w:World) (st:PlSt) (A:Option Addr) (c:Nat) (A':Option Addr) (c':Nat):Prop where
 c0:w.cell? ⟨C.P,0,none⟩=some (.slice C.gA C.gn C.gc)
 c1:w.cell? ⟨C.P,1,none⟩=some (.slice C.pA C.pn C.pc)
 c4:w.cell? ⟨C.P,4,none⟩=some (.int .i64 C.q.dirs)
 c5:w.cell? ⟨C.P,5,none⟩=some (.int .i64 C.q.path)
 c6:w.cell? ⟨C.P,6,none⟩=some (.slice C.oA C.on C.oc)
 c7:w.cell? ⟨C.P,7,none⟩=some (.bool C.like)
 c8:w.cell? ⟨C.P,8,none⟩=some (.slice A st.1.length c)
 c9:w.cell? ⟨C.P,9,none⟩=some (.slice A' st.2.length c')
 dirs:SlV rDir w (fun _=>True) st.1 (.slice A st.1.length c)
 stls:SlV rStl w (fun _=>True) st.2 (.slice A' st.2.length c')
 hP:C.P<w.heap.size
theorem DlP.rd {C:DlCtx} {w:World} {st:PlSt} {A:Option Addr} {c:Nat} {A':Option Addr} {c':Nat} {S:Nat→Prop} (h:DlP C w st A c A' c' S):DlRd C w st A c A' c':=
 have h1:w.heap[C.P]?=some (.cells #[.slice C.gA C.gn C.gc,.slice C.pA C.pn C.pc,.int .i64 C.dec,.int .i64 C.nod,.int .i64 C.q.dirs,.int .i64 C.q.path,.slice C.oA C.on C.oc,.bool C.like,.slice A st.1.length c,.slice A' st.2.length c'] 87 (0,0)):=h.row
 ⟨cO _ _ 0 _ _ _ h1,cO _ _ 1 _ _ _ h1,cO _ _ 4 _ _ _ h1,cO _ _ 5 _ _ _ h1,cO _ _ 6 _ _ _ h1,cO _ _ 7 _ _ _ h1,cO _ _ 8 _ _ _ h1,cO _ _ 9 _ _ _ h1,h.T.slv.more fun _ _ _=>trivial,h.S'.slv.more fun _ _ _=>trivial,h.hP⟩
theorem DlWd.read {C:DlCtx} {w:World} {st:PlSt} (h:DlWd C w st):∃ A c A' c',DlRd C w st A c A' c':=by
 obtain ⟨A,c,A',c',S,h⟩:=h
 exact ⟨A,c,A',c',h.rd⟩
theorem DlRd.keep {C:DlCtx} {w w':World} {st:PlSt} {A:Option Addr} {c:Nat} {A':Option Addr} {c':Nat} (h:DlRd C w st A c A' c') (hb:Below w.heap.size w w'):DlRd C w' st A c A' c':=
 ⟨zAA hb h.c0 h.hP,zAA hb h.c1 h.hP,zAA hb h.c4 h.hP,zAA hb h.c5 h.hP,zAA hb h.c6 h.hP,zAA hb h.c7 h.hP,zAA hb h.c8 h.hP,zAA hb h.c9 h.hP,h.dirs.belowSize hb,h.stls.belowSize hb,lL h.hP hb.size⟩
theorem DlRd.dir {C:DlCtx} {w:World} {st:PlSt} {A:Option Addr} {c:Nat} {A':Option Addr} {c':Nat} (h:DlRd C w st A c A' c') {i:Nat} {d:Dir} (hi:st.1[i]?=some d) :
  ∃ (b o:Nat) (pA:Option Addr) (pc:Nat),A=some ⟨b,o,none⟩∧b<w.heap.size∧w.cell? ⟨b,o+i * 9,none⟩=some (.slice pA d.path.length pc)∧w.cell? ⟨b,o+i * 9+8,none⟩=some (.int .i64 d.node)∧SlV rStr w (fun _=>True) d.path (.slice pA d.path.length pc)∧d.path.length≤pc∧pc≤maxLen:=by
 obtain ⟨b,o,cs,hA,_,hb,hh,hcell⟩:=h.dirs.elem hi
 obtain ⟨s0,s1,s2,s3,rfl,hp,_,_,_,_,_,_,_,_⟩:=hh
 obtain ⟨pA,pc,rfl,h1,h2⟩:=hp.val
 have c0:=hcell 0 _ rfl
 have c8:=hcell 8 _ rfl
 simp only[rDir,Nat.add_zero] at c0 c8
 exact ⟨b,o,pA,pc,hA,hb,c0,c8,hp,h1,h2⟩
theorem DlRd.len {C:DlCtx} {w:World} {st:PlSt} {A:Option Addr} {c:Nat} {A':Option Addr} {c':Nat} (h:DlRd C w st A c A' c'):st.1.length≤9223372036854775807∧st.2.length≤9223372036854775807:=by
 have h1:=h.dirs.cap_le
 have h2:=h.stls.cap_le
 obtain ⟨_,_,e1,h3,_⟩:=h.dirs.val
 obtain ⟨_,_,e2,h4,_⟩:=h.stls.val
 simp only[Value.slice.injEq] at e1 e2
 unfold maxLen at h1 h2
 omega
theorem DlRd.node {C:DlCtx} {w:World} {st:PlSt} {A:Option Addr} {c:Nat} {A':Option Addr} {c':Nat} (h:DlRd C w st A c A' c') (hC:C.Ok) (hb:Below C.w0.heap.size C.w0 w) {i:Nat} {n:Node} (hi:C.q.g[i]?=some n) :
  ∃ (b o:Nat) (xA:Option Addr) (xc:Nat) (eA:Option Addr) (ec:Nat),C.gA=some ⟨b,o,none⟩∧b<C.w0.heap.size∧i<C.gn∧w.cell? ⟨b,o+i * 6,none⟩=some (.string n.name)∧w.cell? ⟨b,o+i * 6+1,none⟩=some (.int .i64 n.ver.major)∧w.cell? ⟨b,o+i * 6+2,none⟩=some (.int .i64 n.ver.minor)∧w.cell? ⟨b,o+i * 6+3,none⟩=some (.int .i64 n.ver.patch) ∧
    w.cell? ⟨b,o+i * 6+4,none⟩=some (.slice xA n.ctx.length xc)∧w.cell? ⟨b,o+i * 6+5,none⟩=some (.slice eA n.edges.length ec)∧SlV rPin w (fun b=>b<C.w0.heap.size) n.ctx (.slice xA n.ctx.length xc)∧SlV rEdge w (fun b=>b<C.w0.heap.size) n.edges (.slice eA n.edges.length ec)∧n.name.size≤maxLen:=by
 have hg:=hC.g.belowSize hb
 have hn:=hg.n_eq
 obtain ⟨b,o,cs,hA,hS,hbl,hh,hcell⟩:=hg.elem hi
 obtain ⟨s0,s1,rfl,hnm,_,_,_,hx,he⟩:=hh
 obtain ⟨xA,xc,rfl,_,_⟩:=hx.val
 obtain ⟨eA,ec,rfl,_,_⟩:=he.val
 have c0:=hcell 0 _ rfl
 have c1:=hcell 1 _ rfl
 have c2:=hcell 2 _ rfl
 have c3:=hcell 3 _ rfl
 have c4:=hcell 4 _ rfl
 have c5:=hcell 5 _ rfl
 simp only[rNode,Nat.add_zero] at c0 c1 c2 c3 c4 c5
 exact ⟨b,o,xA,xc,eA,ec,hA,hS,by rw[hn];exact (gS.1 hi).1,c0,c1,c2,c3,c4,c5,hx,he,hnm⟩
theorem DlRd.pack {C:DlCtx} {w:World} {st:PlSt} {A:Option Addr} {c:Nat} {A':Option Addr} {c':Nat} (h:DlRd C w st A c A' c') (hC:C.Ok) (hb:Below C.w0.heap.size C.w0 w) {i:Nat} {x:Pack} (hi:C.q.ps[i]?=some x) :
  ∃ (b o:Nat) (dA:Option Addr) (dc:Nat) (eA:Option Addr) (ec:Nat) (fA:Option Addr) (fc:Nat),C.pA=some ⟨b,o,none⟩∧b<C.w0.heap.size∧i<C.pn∧w.cell? ⟨b,o+i * 7,none⟩=some (.string x.name)∧w.cell? ⟨b,o+i * 7+1,none⟩=some (.int .i64 x.ver.major)∧w.cell? ⟨b,o+i * 7+2,none⟩=some (.int .i64 x.ver.minor)∧w.cell? ⟨b,o+i * 7+3,none⟩=some (.int .i64 x.ver.patch) ∧
    w.cell? ⟨b,o+i * 7+4,none⟩=some (.slice dA x.deps.length dc)∧w.cell? ⟨b,o+i * 7+5,none⟩=some (.slice eA x.peers.length ec)∧w.cell? ⟨b,o+i * 7+6,none⟩=some (.slice fA x.opts.length fc) ∧
    PackV w (fun b=>b<C.w0.heap.size) x (.agg #[.string x.name,.int .i64 x.ver.major,.int .i64 x.ver.minor,.int .i64 x.ver.patch,.slice dA x.deps.length dc,.slice eA x.peers.length ec,.slice fA x.opts.length fc])∧I64 x.ver.major∧I64 x.ver.minor∧I64 x.ver.patch:=by
 have hg:=hC.p.belowSize hb
 have hn:=hg.n_eq
 obtain ⟨b,o,cs,hA,hS,hbl,hh,hcell⟩:=hg.elem hi
 obtain ⟨s0,s1,s2,rfl,hnm,i1,i2,i3,h1,h2,h3⟩:=hh
 obtain ⟨dA,dc,rfl,_,_⟩:=h1.val
 obtain ⟨eA,ec,rfl,_,_⟩:=h2.val
 obtain ⟨fA,fc,rfl,_,_⟩:=h3.val
 have c0:=hcell 0 _ rfl
 have c1:=hcell 1 _ rfl
 have c2:=hcell 2 _ rfl
 have c3:=hcell 3 _ rfl
 have c4:=hcell 4 _ rfl
 have c5:=hcell 5 _ rfl
 have c6:=hcell 6 _ rfl
 simp only[rPack,Nat.add_zero] at c0 c1 c2 c3 c4 c5 c6
 exact ⟨b,o,dA,dc,eA,ec,fA,fc,hA,hS,by rw[hn];exact (gS.1 hi).1,c0,c1,c2,c3,c4,c5,c6,⟨_,_,_,_,_,_,_,_,_,rfl,hnm,h1,h2,h3⟩,i1,i2,i3⟩
theorem DlP.notDl {C:DlCtx} {w:World} {st:PlSt} {A:Option Addr} {c:Nat} {A':Option Addr} {c':Nat} {S:Nat→Prop} (h:DlP C w st A c A' c' S) {b:Nat} (h1:b≠C.P) (h2:(Value.slice A st.1.length c).ownBlock≠some b) (h3:(Value.slice A' st.2.length c').ownBlock≠some b):NotDl C w b:=
 ⟨h1,fun v hv=>by rw[cO _ _ 8 _ _ _ h.row] at hv;cases hv;exact h2,fun v hv=>by rw[cO _ _ 9 _ _ _ h.row] at hv;cases hv;exact h3⟩
theorem DlP.notNew {C:DlCtx} {w w':World} {st:PlSt} {A:Option Addr} {c:Nat} {A':Option Addr} {c':Nat} {S:Nat→Prop} (h:DlP C w st A c A' c' S) (hb:Below w.heap.size w w') {b:Nat} (h1:w.heap.size≤b):NotDl C w' b:=
 (h.keep hb).notDl (by have:=h.hP;omega) (fun e=>by have:=(h.T.lt _ e).2;omega) (fun e=>by have:=(h.S'.lt _ e).2;omega)
theorem NotDl.grown {C:DlCtx} {w w':World} {row:Option Nat} {b:Nat} (hn:NotDl C w b) (hP:C.P<w.heap.size) (hg:w.grownBy w' row) (hr:row≠some C.P):NotDl C w' b:=
 ⟨hn.1,fun v hv=>hn.2.1 v (by rw[←zAM (hg.block C.P hP (fun e=>hr e.symm)) 8 none];exact hv),fun v hv=>hn.2.2 v (by rw[←zAM (hg.block C.P hP (fun e=>hr e.symm)) 9 none];exact hv)⟩
theorem DlFr.refl (C:DlCtx) (w:World):DlFr C w w:=⟨nR _,fun b _ hn=>⟨rfl,hn⟩⟩
