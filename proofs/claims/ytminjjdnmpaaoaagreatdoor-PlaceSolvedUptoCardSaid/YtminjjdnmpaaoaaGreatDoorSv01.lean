/- Readings of cells as data, over any program: what is proved here is that a reading stays as long as the blocks that it meets stay. -/
import Derived.Below
import Derived.Calls
import Derived.Laws.AppendOwn
import Derived.Laws.OwnMore
import Derived.Deep.Draws
import Derived.ProofKit
import Derived.SizedLaws
import Derived.Deep.Slices
import Derived.OpenShut
import Derived.Test.YtminjjdnmpaaoaaGreatDoorRows
import Derived.KernelRfl
import Derived.Shelf.Strings.SlTrimAscii
import Derived.Shelf.Strings.Builder1
import Derived.Shelf.Strings.Builder2
import Derived.Shelf.Strings.OnBuilder
import Derived.Shelf.Strings.Trim
import Derived.Shelf.Small.Utf8
import Derived.Shelf.Small.Bits
import Derived.Shelf.Small.Strs
import Derived.Shelf.Strings.BuilderF
import Derived.Shelf.Strings.BuilderK
import Derived.Shelf.Strings.Builder2Cap
import Derived.Shelf.Strconv.Itoa0
import Derived.Shelf.Strconv.Itoa1
import Derived.Shelf.LaysM
import Derived.Shelf.Strconv.Itoa2
import Derived.Shelf.Strconv.Itoa3
import Derived.Shelf.Strings.Search1
import Derived.Shelf.Unicode.Decode
import Derived.Shelf.Strings.Runes
import Derived.Shelf.Strings.AsciiSet
import Derived.Shelf.Unicode.DecodeSlow
import Derived.Shelf.Unicode.DecodeAny
import Derived.Shelf.Unicode.DecodeLast
import Derived.Shelf.Slices.Equal
import Derived.Ground.Names2Prog
import Derived.Shelf.Slices.Clone
import Derived.Shelf.Slices.Empties2
import Derived.Ground.SlgnProg
import Derived.Shelf.SlicesE.Clone
import Derived.Test.YtminjjdnmpaaoaaGreatDoorProg
import Derived.LaidMore
import Derived.Stop.LaidErr
import Derived.Lib.LaidTab
import Derived.Lib.ItoaNum
import Derived.Lib.AppendIntMem
import Derived.Test.YtminjjdnmpaaoaaGreatDoorAl
set_option linter.all false
set_option maxRecDepth 100000
namespace Go.Proofs.YtminjjdnmpaaoaaGreatDoor
open Go.RowKit
structure Rp (α:Type) where
 size:Nat
 holds:World→(Nat→Prop)→α→List Value→Prop
 len:∀ {w S x cs},holds w S x cs→cs.length=size
 one:∀ {w S x cs},holds w S x cs→∀ u∈cs,u.oneCell'=true
 mono:∀ {w w' S S' x cs},holds w S x cs→(∀ b,S b→b<w.heap.size→S' b∧w'.heap[b]?=w.heap[b]?)→holds w' S' x cs
def I64 (n:Int):Prop:=-9223372036854775808≤n∧n≤9223372036854775807
def rInt:Rp Int where
 size:=1
 holds:=fun _ _ x cs=>cs=[.int .i64 x]∧I64 x
 len:=fun h=>by rw[h.1];rfl
 one:=fun h=>by rw[h.1];simp[Value.oneCell']
 mono:=fun h _=>h
def rBool:Rp Bool where
 size:=1
 holds:=fun _ _ x cs=>cs=[.bool x]
 len:=fun h=>by rw[h];rfl
 one:=fun h=>by rw[h];simp[Value.oneCell']
 mono:=fun h _=>h
def rStr:Rp ByteArray where
 size:=1
 holds:=fun _ _ x cs=>cs=[.string x]∧x.size≤maxLen
 len:=fun h=>by rw[h.1];rfl
 one:=fun h=>by rw[h.1];simp[Value.oneCell']
 mono:=fun h _=>h
theorem zAW {w w':World} {b:Nat} (h:w'.heap[b]?=w.heap[b]?) (o:Nat) (s:Option Nat):w'.cell? ⟨b,o,s⟩=w.cell? ⟨b,o,s⟩:=by
 simp[World.cell?,h]
theorem zIf {w w':World} {b:Nat} (h:w'.heap[b]?=w.heap[b]?) (o:Nat) (s:Option Nat):w'.frozen? ⟨b,o,s⟩=w.frozen? ⟨b,o,s⟩:=by
 simp[World.frozen?,h]
theorem zAf {w:World} {b o:Nat} {v:Value} (h:w.cell? ⟨b,o,none⟩=some v):b<w.heap.size:=World.block_lt_of_cell? w _ h
def Row {α:Type} (r:Rp α) (w:World) (S:Nat→Prop) (b o:Nat) (l:List α):Prop:=
 S b∧b<w.heap.size∧∀ (i:Nat) (x:α),l[i]?=some x→∃ cs,r.holds w S x cs∧∀ (j:Nat) (u:Value),cs[j]?=some u→w.cell? ⟨b,o+i * r.size+j,none⟩=some u
theorem Row.mono {α:Type} {r:Rp α} {w w':World} {S S':Nat→Prop} {b o:Nat} {l:List α} (h:Row r w S b o l)
  (hk:∀ b,S b→b<w.heap.size→S' b∧w'.heap[b]?=w.heap[b]?):Row r w' S' b o l:=by
 obtain ⟨h1,h2,h3⟩:=h
 have hb:=hk b h1 h2
 have hlt:b<w'.heap.size:=by
  have:w.heap[b]?=some w.heap[b]:=Array.getElem?_eq_getElem h2
  rw[this] at hb
  exact (aS.1 hb.2).1
 refine ⟨hb.1,hlt,fun i x hx=>?_⟩
 obtain ⟨cs,hc,hcell⟩:=h3 i x hx
 exact ⟨cs,r.mono hc hk,fun j u hu=>(zAW hb.2 _ _).trans (hcell j u hu)⟩
def zAn {α:Type} (r:Rp α):Rp (List α) where
 size:=1
 holds:=fun w S l cs=>∃ (A:Option Addr) (c:Nat),cs=[.slice A l.length c]∧l.length≤c∧c≤maxLen∧(A=none→c=0) ∧
  (0<l.length→∃ b o,A=some ⟨b,o,none⟩∧Row r w S b o l)
 len:=fun ⟨_,_,h,_⟩=>by rw[h];rfl
 one:=fun ⟨_,_,h,_⟩=>by rw[h];simp[Value.oneCell']
 mono:=fun ⟨A,c,h1,h2,h3,h4,h5⟩ hk=>⟨A,c,h1,h2,h3,h4,fun hn=>by
  obtain ⟨b,o,hA,hr⟩:=h5 hn
  exact ⟨b,o,hA,hr.mono hk⟩⟩
def SlV {α:Type} (r:Rp α) (w:World) (S:Nat→Prop) (l:List α) (v:Value):Prop:=(zAn r).holds w S l [v]
section
variable {α:Type} {r:Rp α} {w w':World} {S S':Nat→Prop} {l:List α} {A:Option Addr} {n c:Nat}
theorem SlV.nil_ (r:Rp α) (w:World) (S:Nat→Prop):SlV r w S [] (.slice none 0 0):=
 ⟨none,0,rfl,by simp,by simp[maxLen],fun _=>rfl,fun h=>absurd h (by simp)⟩
theorem SlV.val {v:Value} (h:SlV r w S l v):∃ A c,v=.slice A l.length c∧l.length≤c∧c≤maxLen:=by
 obtain ⟨A,c,h1,h2,h3,_⟩:=h
 exact ⟨A,c,by simpa using h1,h2,h3⟩
theorem SlV.elem (h:SlV r w S l (.slice A n c)) {i:Nat} {x:α} (hx:l[i]?=some x) :
  ∃ b o cs,A=some ⟨b,o,none⟩∧S b∧b<w.heap.size∧r.holds w S x cs∧∀ (j:Nat) (u:Value),cs[j]?=some u→w.cell? ⟨b,o+i * r.size+j,none⟩=some u:=by
 obtain ⟨A',c',h1,h2,h3,_,h5⟩:=h
 simp only[List.cons.injEq,Value.slice.injEq,and_true] at h1
 obtain ⟨rfl,_,rfl⟩:=h1
 have hlt:i<l.length:=(gS.1 hx).1
 obtain ⟨b,o,hA,hS,hb,hr⟩:=h5 (by omega)
 obtain ⟨cs,hc,hcell⟩:=hr i x hx
 exact ⟨b,o,cs,hA,hS,hb,hc,hcell⟩
theorem SlV.n_eq (h:SlV r w S l (.slice A n c)):n=l.length:=by
 obtain ⟨A',c',h1,_⟩:=h
 simp only[List.cons.injEq,Value.slice.injEq,and_true] at h1
 exact h1.2.1
theorem SlV.cap_le (h:SlV r w S l (.slice A n c)):l.length≤c∧c≤maxLen:=by
 obtain ⟨A',c',h1,h2,h3,_⟩:=h
 simp only[List.cons.injEq,Value.slice.injEq,and_true] at h1
 obtain ⟨_,_,rfl⟩:=h1
 exact ⟨h2,h3⟩
theorem SlV.none_ (h:SlV r w S l (.slice none n c)):l=[]∧c=0:=by
 obtain ⟨A',c',h1,h2,h3,h4,_⟩:=h
 simp only[List.cons.injEq,Value.slice.injEq,and_true] at h1
 obtain ⟨rfl,_,rfl⟩:=h1
 have:=h4 rfl
 exact ⟨List.eq_nil_of_length_eq_zero (by omega),this⟩
theorem Rp.keep {x:α} {cs:List Value} (h:r.holds w S x cs) (hk:∀ b,S b→b<w.heap.size→w'.heap[b]?=w.heap[b]?):r.holds w' S x cs:=
 r.mono h fun b hb hl=>⟨hb,hk b hb hl⟩
theorem Rp.more {x:α} {cs:List Value} (h:r.holds w S x cs) (hk:∀ b,S b→b<w.heap.size→S' b):r.holds w S' x cs:=
 r.mono h fun b hb hl=>⟨hk b hb hl,rfl⟩
theorem Rp.below {B:Nat} {x:α} {cs:List Value} (h:r.holds w S x cs) (hb:Below B w w') (hS:∀ b,S b→b<B):r.holds w' S x cs:=
 Rp.keep h fun b hs _=>hb.block b (hS b hs)
theorem Rp.belowSize {x:α} {cs:List Value} (h:r.holds w S x cs) (hb:Below w.heap.size w w'):r.holds w' S x cs:=
 Rp.keep h fun b _ hl=>hb.block b hl
theorem Rp.drew {x:α} {cs:List Value} (h:r.holds w S x cs):r.holds w.drew S x cs:=Rp.keep h fun _ _ _=>rfl
theorem Rp.drewN {x:α} {cs:List Value} (h:r.holds w S x cs) (k:Nat):r.holds (w.drewN k) S x cs:=Rp.keep h fun _ _ _=>rfl
theorem Rp.alloc {x:α} {cs:List Value} (h:r.holds w S x cs) (o:Obj):r.holds (w.alloc o) S x cs:=
 Rp.keep h fun b _ hl=>Below.heap_alloc w o b hl
theorem SlV.keep {v:Value} (h:SlV r w S l v) (hk:∀ b,S b→b<w.heap.size→w'.heap[b]?=w.heap[b]?):SlV r w' S l v:=Rp.keep h hk
theorem SlV.more {v:Value} (h:SlV r w S l v) (hk:∀ b,S b→b<w.heap.size→S' b):SlV r w S' l v:=Rp.more h hk
theorem SlV.below {B:Nat} {v:Value} (h:SlV r w S l v) (hb:Below B w w') (hS:∀ b,S b→b<B):SlV r w' S l v:=Rp.below h hb hS
theorem SlV.belowSize {v:Value} (h:SlV r w S l v) (hb:Below w.heap.size w w'):SlV r w' S l v:=Rp.belowSize h hb
theorem SlV.drew {v:Value} (h:SlV r w S l v):SlV r w.drew S l v:=Rp.drew h
theorem SlV.drewN {v:Value} (h:SlV r w S l v) (k:Nat):SlV r (w.drewN k) S l v:=Rp.drewN h k
theorem SlV.alloc {v:Value} (h:SlV r w S l v) (o:Obj):SlV r (w.alloc o) S l v:=Rp.alloc h o
end
end Go.Proofs.YtminjjdnmpaaoaaGreatDoor
namespace Go.Proofs.YtminjjdnmpaaoaaGreatDoor
open Go.RowKit Go.ChangeShapes Go.WideShapes Go.ChangeAt
section
variable {P:Program} {t e:TypeId} {α:Type} {r:Rp α} {sz:α→Prop}
theorem zJF {x:Int} (h:(Lit.int .i64 x).wf=true):I64 x:=by
 have:-9223372036854775808≤x∧x≤9223372036854775807:=by simpa [Lit.wf,IntKind.min,IntKind.max,IntKind.signed,IntKind.bits] using h
 exact this
theorem zGP {H:Type} {enc:TypeId×Value→H} (hl:laidOutB P=true) {W W':World} (hb:Below W.heap.size W W') {sp':Nat→Bool}:∀ {ts:List TypeId} {vs:List Value} {ds:List (DataW H)} {ps:List MemPlace},
  (∀ t∈ts,P.readableRec t=true∧t<P.types.size)→DataW.TrodAll enc P W 0 (fun _=>true) true ts vs ds ps→(∀ x∈ps,x.block<W.heap.size)→(∀ x∈ps,sp' x.block=true)→DataW.TrodAll enc P W' 0 sp' true ts vs ds ps:=by
 intro ts
 induction ts with
 | nil=>intro vs ds ps _ h _ _;obtain ⟨rfl,rfl,rfl⟩:=trodAll_nil h;exact trodAll_mk0
 | cons t ts ih=>
   intro vs ds ps hr h hlt hsp
   obtain ⟨v,vs',d,ds',p,q,rfl,rfl,rfl,h1,h2⟩:=trodAll_cons h
   obtain ⟨g1,g2⟩:=hr t (by simp)
   refine trodAll_cons_mk (WideElems.Trod_stays hl g1 g2 h1 (fun x hx=>hb.same (hlt x (by simp[hx]))) (fun x hx=>hsp x (by simp[hx]))) (ih (fun t' ht'=>hr t' (by simp[ht'])) h2 (fun x hx=>hlt x (by simp[hx])) (fun x hx=>hsp x (by simp[hx])))
theorem zL6 {H:Type} {enc:TypeId×Value→H} {f:Func} {s:ChangeSpec} {W W':World} {args:Array Value} {ds:List (DataW H)} {before:List MemPlace} {tb:TypeId}
  (hl:laidOutB P=true) (hvars:s.vars=[]) (hW:DataW.Whole enc P f.params.toList s.vars false W args.toList ds [] before)
  (hrt:f.resultTypes=#[tb]) (htb:P.underlying tb=some .bool) (hres:(s.fn H (ds++[])).results=[.lit (.bool true)]) (hargs:(s.fn H (ds++[])).args=ds) (hvs:(s.fn H (ds++[])).vars=[])
  (hr:∀ t∈f.params.toList,P.readableRec t=true∧t<P.types.size) (hb:Below W.heap.size W W') :
  s.post enc P f false true false false W args (.bool true) W':=by
 have hlt:∀ p∈before,p.block<W.heap.size:=fun p hp=>hW.lt p hp
 have hold:∀ p∈before,(fun b=>decide (b<W.heap.size)) p.block=true:=fun p hp=>by simpa using hlt p hp
 have hW0:=hW
 obtain ⟨p,q,hA,hV,hbe,hz,hn⟩:=hW0
 rw[hvars] at hV
 have hbe':before=p:=by rw[hbe,(trodVars_none hV).2,List.append_nil]
 subst hbe'
 refine ⟨ds,[],before,[],before,[],hW,?_,?_,?_,World.keptBut_mono (fun p hp=>⟨hp,?_⟩) (hb.frame (fun x=>x∈before)),fun h=>by cases h⟩
 ·rw[hres,hrt];exact trodAll_mk1 (shut_bool htb true)
 ·rw[hargs];exact zGP hl hb hr hA hlt hold
 ·rw[hvs,hvars];exact rfl
 ·exact Or.inr (by simpa using hp)
end
def zCD {α:Type} (P:Program) (t:TypeId) (r:Rp α) (bk:α→Nat):Prop:=
 ∀ (H:Type) (enc:TypeId×Value→H) (w:World) (base fuel:Nat) (cs:List Value) (x:DataW H×List MemPlace),
   DataW.trod enc P w base (fun _=>true) true fuel t cs=some x→∃ y,r.holds w (fun b=>b<w.heap.size) y cs∧bk y≤Rows.uptoBulk x.1
theorem zGf {H:Type} (d:DataW H):1≤Rows.uptoBulk d:=by
 cases d with
 | lit l=>cases l<;>simp[Rows.uptoBulk]
 | nil=>simp[Rows.uptoBulk]
 | ptr d=>simp[Rows.uptoBulk]
 | slice elems spare=>simp[Rows.uptoBulk]
 | agg parts=>simp[Rows.uptoBulk]
 | iface t d=>simp[Rows.uptoBulk]
 | map entries=>simp[Rows.uptoBulk]
 | held h=>simp[Rows.uptoBulk]
theorem zFe {H:Type} (l r:List (DataW H)):Rows.uptoBulkAll (l++r)=Rows.uptoBulkAll l+Rows.uptoBulkAll r:=by
 induction l with
 | nil=>simp[Rows.uptoBulkAll]
 | cons x l ih=>simp only[List.cons_append,Rows.uptoBulkAll,ih];omega
section
variable {P:Program} {t e:TypeId} {α:Type} {r:Rp α} {bk:α→Nat}
theorem zBc (ht:P.underlying t=some (.int .i64)):zCD P t rInt (fun _=>1):=by
 intro H enc w base fuel cs x h
 obtain ⟨n,rfl,_,hw⟩:=DataW.trod_int ht h
 exact ⟨n,⟨rfl,zJF hw⟩,zGf _⟩
theorem zFO (ht:P.underlying t=some .bool):zCD P t rBool (fun _=>1):=by
 intro H enc w base fuel cs x h
 obtain ⟨b,rfl,_⟩:=DataW.trod_bool ht h
 exact ⟨b,rfl,zGf _⟩
theorem zD5 (ht:P.underlying t=some .string):zCD P t rStr (fun s=>s.size+1):=by
 intro H enc w base fuel cs x h
 obtain ⟨s,rfl,rfl,hs⟩:=DataW.trod_string ht h
 exact ⟨s,⟨rfl,hs⟩,by simp[Rows.uptoBulk]⟩
def bkL (bk:α→Nat):List α→Nat
 | []=>1
 | x::l=>bk x+bkL bk l
theorem zIJ {l:List α} {x:α} (h:x∈l):bk x≤bkL bk l:=by
 induction l with
 | nil=>cases h
 | cons y l ih=>
   simp only[bkL]
   rcases List.mem_cons.1 h with rfl|h
   ·omega
   ·have:=ih h;omega
theorem zDb {l:List α} (h1:∀ x,1≤bk x):l.length+1≤bkL bk l:=by
 induction l with
 | nil=>exact nR _
 | cons y l ih=>simp only[bkL,List.length_cons];have:=h1 y;omega
theorem zJA (l k:List α):bkL bk (l++k)+1=bkL bk l+bkL bk k:=by
 induction l with
 | nil=>simp[bkL];omega
 | cons y l ih=>simp only[bkL,List.cons_append];omega
theorem zAs (ht:P.underlying t=some (.slice e)) (hC:P.cellsOf e=r.size) (hpos:0<r.size) (ho:zCD P e r bk):zCD P t (zAn r) (bkL bk):=by
 intro H enc w base fuel cs x h
 rcases Go.Deep.open_slice ht h with ⟨rfl,rfl⟩|⟨a,len,cap,m,n,D,Pl,rfl,hb,hl,hm,hmm,rfl,hi⟩
 ·exact ⟨[],SlV.nil_ _ _ _,by simp[bkL,Rows.uptoBulk]⟩
 ·have hmc:m=cap:=by simpa using hmm
  subst hmc
  have hel:∀ i,i<len→∃ y cs',w.cells? base (a.add (i * r.size)) r.size=some cs'∧r.holds w (fun b=>b<w.heap.size) y cs'∧bk y≤Rows.uptoBulk (D i):=by
   intro i hil
   obtain ⟨cs',h1,h2⟩:=hi i (by omega)
   rw[hC] at h1
   obtain ⟨y,h3,h4⟩:=ho H enc w base n cs' (D i,Pl i) h2
   exact ⟨y,cs',h1,h3,h4⟩
  have hlist:∀ k,k≤len→∃ l:List α,l.length=k∧bkL bk l≤Rows.uptoBulkAll ((List.range k).map D)+1∧∀ (i:Nat) (y:α),l[i]?=some y→∃ cs',w.cells? base (a.add (i * r.size)) r.size=some cs'∧r.holds w (fun b=>b<w.heap.size) y cs':=by
   intro k
   induction k with
   | zero=>intro _;exact ⟨[],rfl,by simp[bkL,Rows.uptoBulkAll],by simp⟩
   | succ k ih=>
     intro hk
     obtain ⟨l,h1,h2,h3⟩:=ih (by omega)
     obtain ⟨y,cs',g1,g2,g3⟩:=hel k (by omega)
     refine ⟨l++[y],by simp[h1],?_,?_⟩
     ·have:=zJA (bk:=bk) l [y]
      rw[List.range_succ,List.map_append,zFe]
      simp only[bkL,List.map_cons,List.map_nil,Rows.uptoBulkAll] at *
      omega
     ·intro i z hz'
      by_cases hi':i<l.length
      ·rw[List.getElem?_append_left hi'] at hz'
       exact h3 i z hz'
      ·have:i=k:=by
        have:i<(l++[y]).length:=(gS.1 hz').1
        simp at this;omega
       subst this
       rw[List.getElem?_append_right (by omega),h1,Nat.sub_self] at hz'
       simp at hz'
       subst hz'
       exact ⟨cs',g1,g2⟩
  obtain ⟨l,h1,h2,h3⟩:=hlist len (nR _)
  refine ⟨l,⟨some a,m,by rw[h1],by omega,hm,(fun h=>by cases h),fun hn=>?_⟩,?_⟩
  ·obtain ⟨y0,hy0⟩:∃ y,l[0]?=some y:=⟨l[0],gE hn⟩
   obtain ⟨cs0,g1,g2⟩:=h3 0 y0 hy0
   obtain ⟨_,hcl,hat⟩:=World.cells?_some g1
   rw[Nat.zero_mul,show a.add 0=a from rfl] at hat
   have hc0:=hat 0 (by omega)
   rw[show a.add 0=a from rfl] at hc0
   have hcs0:cs0[0]?=some (cs0[0]'(by omega)):=gE (by omega)
   rw[hcs0] at hc0
   have hsp:a.spot=none:=by
    unfold World.cell? at hc0
    split at hc0
    ·split at hc0
     ·cases hc0
     ·rename_i hh;simpa using hh
    ·cases hc0
   obtain ⟨b,o,sp⟩:=a
   simp only at hsp
   subst hsp
   refine ⟨b,o,rfl,World.block_lt_of_cell? w _ hc0,World.block_lt_of_cell? w _ hc0,fun i y hy=>?_⟩
   obtain ⟨cs',g3,g4⟩:=h3 i y hy
   obtain ⟨_,hcl',hat'⟩:=World.cells?_some g3
   refine ⟨cs',g4,fun j u hu=>?_⟩
   have hj:j<r.size:=by have:=(gS.1 hu).1;omega
   have:=hat' j hj
   rw[hu] at this
   have hadd:∀ n k,((⟨b,o,none⟩:Addr).add n).add k=⟨b,o+n+k,none⟩:=fun n k=>by
    unfold Addr.add
    by_cases h1:n=0<;>by_cases h2:k=0<;>simp[h1,h2]
   rw[hadd] at this
   exact this
  ·simp only[Rows.uptoBulk]
   omega
theorem zJd (ho:zCD P t r bk) {H:Type} {enc:TypeId×Value→H} {w:World} {v:Value} {d:DataW H} {ps:List MemPlace}
  (h:DataW.Trod enc P w 0 (fun _=>true) true t v d ps):∃ y,r.holds w (fun b=>b<w.heap.size) y v.cells.toList∧bk y≤Rows.uptoBulk d:=by
 obtain ⟨fuel,hf⟩:=h
 exact ho H enc w 0 fuel _ (d,ps) hf
theorem zMa {H:Type} {l:List (DataW H)} (hk:Rows.uptoSmall H l=true):Rows.uptoBulkAll l≤1048576:=of_decide_eq_true hk
end
end Go.Proofs.YtminjjdnmpaaoaaGreatDoor
namespace Go.Proofs.YtminjjdnmpaaoaaGreatDoor
open Go.RowKit
structure Ver where
 major:Int
 minor:Int
 patch:Int
def rVer:Rp Ver where
 size:=3
 holds:=fun w S x cs=>cs=[.int .i64 x.major,.int .i64 x.minor,.int .i64 x.patch]∧I64 x.major∧I64 x.minor∧I64 x.patch
 len:=fun ⟨h,c0,c1,c2⟩=>by rw[h];rfl
 one:=fun ⟨h,c0,c1,c2⟩=>by rw[h];simp[Value.oneCell']
 mono:=fun ⟨h,c0,c1,c2⟩ hk=>⟨h,c0,c1,c2⟩
structure Spn where
 lo:Ver
 hi:Ver
def rSpn:Rp Spn where
 size:=6
 holds:=fun w S x cs=>cs=[.int .i64 x.lo.major,.int .i64 x.lo.minor,.int .i64 x.lo.patch,.int .i64 x.hi.major,.int .i64 x.hi.minor,.int .i64 x.hi.patch]∧I64 x.lo.major∧I64 x.lo.minor∧I64 x.lo.patch∧I64 x.hi.major∧I64 x.hi.minor∧I64 x.hi.patch
 len:=fun ⟨h,c0,c1,c2,c3,c4,c5⟩=>by rw[h];rfl
 one:=fun ⟨h,c0,c1,c2,c3,c4,c5⟩=>by rw[h];simp[Value.oneCell']
 mono:=fun ⟨h,c0,c1,c2,c3,c4,c5⟩ hk=>⟨h,c0,c1,c2,c3,c4,c5⟩
structure Dep where
 name:ByteArray
 range:List Spn
def rDep:Rp Dep where
 size:=2
 holds:=fun w S x cs=>∃ s0,cs=[.string x.name,s0]∧x.name.size≤maxLen∧SlV rSpn w S x.range s0
 len:=fun ⟨s0,h,c0,c1⟩=>by rw[h];rfl
 one:=fun ⟨s0,h,c0,c1⟩=>by obtain ⟨_,_,rfl,_⟩:=c1.val;rw[h];simp[Value.oneCell']
 mono:=fun ⟨s0,h,c0,c1⟩ hk=>⟨s0,h,c0,(zAn rSpn).mono c1 hk⟩
structure Pack where
 name:ByteArray
 ver:Ver
 deps:List Dep
 peers:List Dep
 opts:List Dep
def rPack:Rp Pack where
 size:=7
 holds:=fun w S x cs=>∃ s0 s1 s2,cs=[.string x.name,.int .i64 x.ver.major,.int .i64 x.ver.minor,.int .i64 x.ver.patch,s0,s1,s2]∧x.name.size≤maxLen∧I64 x.ver.major∧I64 x.ver.minor∧I64 x.ver.patch∧SlV rDep w S x.deps s0∧SlV rDep w S x.peers s1∧SlV rDep w S x.opts s2
 len:=fun ⟨s0,s1,s2,h,c0,c1,c2,c3,c4,c5,c6⟩=>by rw[h];rfl
 one:=fun ⟨s0,s1,s2,h,c0,c1,c2,c3,c4,c5,c6⟩=>by obtain ⟨_,_,rfl,_⟩:=c4.val;obtain ⟨_,_,rfl,_⟩:=c5.val;obtain ⟨_,_,rfl,_⟩:=c6.val;rw[h];simp[Value.oneCell']
 mono:=fun ⟨s0,s1,s2,h,c0,c1,c2,c3,c4,c5,c6⟩ hk=>⟨s0,s1,s2,h,c0,c1,c2,c3,(zAn rDep).mono c4 hk,(zAn rDep).mono c5 hk,(zAn rDep).mono c6 hk⟩
structure Dir where
 path:List ByteArray
 pack:Pack
 node:Int
def rDir:Rp Dir where
 size:=9
 holds:=fun w S x cs=>∃ s0 s1 s2 s3,cs=[s0,.string x.pack.name,.int .i64 x.pack.ver.major,.int .i64 x.pack.ver.minor,.int .i64 x.pack.ver.patch,s1,s2,s3,.int .i64 x.node]∧SlV rStr w S x.path s0∧x.pack.name.size≤maxLen∧I64 x.pack.ver.major∧I64 x.pack.ver.minor∧I64 x.pack.ver.patch∧SlV rDep w S x.pack.deps s1∧SlV rDep w S x.pack.peers s2∧SlV rDep w S x.pack.opts s3∧I64 x.node
 len:=fun ⟨s0,s1,s2,s3,h,c0,c1,c2,c3,c4,c5,c6,c7,c8⟩=>by rw[h];rfl
 one:=fun ⟨s0,s1,s2,s3,h,c0,c1,c2,c3,c4,c5,c6,c7,c8⟩=>by obtain ⟨_,_,rfl,_⟩:=c0.val;obtain ⟨_,_,rfl,_⟩:=c5.val;obtain ⟨_,_,rfl,_⟩:=c6.val;obtain ⟨_,_,rfl,_⟩:=c7.val;rw[h];simp[Value.oneCell']
 mono:=fun ⟨s0,s1,s2,s3,h,c0,c1,c2,c3,c4,c5,c6,c7,c8⟩ hk=>⟨s0,s1,s2,s3,h,(zAn rStr).mono c0 hk,c1,c2,c3,c4,(zAn rDep).mono c5 hk,(zAn rDep).mono c6 hk,(zAn rDep).mono c7 hk,c8⟩
structure Tree where
 dirs:List Dir
def rTree:Rp Tree where
 size:=1
 holds:=fun w S x cs=>∃ s0,cs=[s0]∧SlV rDir w S x.dirs s0
 len:=fun ⟨s0,h,c0⟩=>by rw[h];rfl
 one:=fun ⟨s0,h,c0⟩=>by obtain ⟨_,_,rfl,_⟩:=c0.val;rw[h];simp[Value.oneCell']
 mono:=fun ⟨s0,h,c0⟩ hk=>⟨s0,h,(zAn rDir).mono c0 hk⟩
structure Edge where
 label:ByteArray
 to:Int
def rEdge:Rp Edge where
 size:=2
 holds:=fun w S x cs=>cs=[.string x.label,.int .i64 x.to]∧x.label.size≤maxLen∧I64 x.to
 len:=fun ⟨h,c0,c1⟩=>by rw[h];rfl
 one:=fun ⟨h,c0,c1⟩=>by rw[h];simp[Value.oneCell']
 mono:=fun ⟨h,c0,c1⟩ hk=>⟨h,c0,c1⟩
structure Pin where
 name:ByteArray
 ver:Ver
def rPin:Rp Pin where
 size:=4
 holds:=fun w S x cs=>cs=[.string x.name,.int .i64 x.ver.major,.int .i64 x.ver.minor,.int .i64 x.ver.patch]∧x.name.size≤maxLen∧I64 x.ver.major∧I64 x.ver.minor∧I64 x.ver.patch
 len:=fun ⟨h,c0,c1,c2,c3⟩=>by rw[h];rfl
 one:=fun ⟨h,c0,c1,c2,c3⟩=>by rw[h];simp[Value.oneCell']
 mono:=fun ⟨h,c0,c1,c2,c3⟩ hk=>⟨h,c0,c1,c2,c3⟩
structure Node where
 name:ByteArray
 ver:Ver
 ctx:List Pin
 edges:List Edge
def rNode:Rp Node where
 size:=6
 holds:=fun w S x cs=>∃ s0 s1,cs=[.string x.name,.int .i64 x.ver.major,.int .i64 x.ver.minor,.int .i64 x.ver.patch,s0,s1]∧x.name.size≤maxLen∧I64 x.ver.major∧I64 x.ver.minor∧I64 x.ver.patch∧SlV rPin w S x.ctx s0∧SlV rEdge w S x.edges s1
 len:=fun ⟨s0,s1,h,c0,c1,c2,c3,c4,c5⟩=>by rw[h];rfl
 one:=fun ⟨s0,s1,h,c0,c1,c2,c3,c4,c5⟩=>by obtain ⟨_,_,rfl,_⟩:=c4.val;obtain ⟨_,_,rfl,_⟩:=c5.val;rw[h];simp[Value.oneCell']
 mono:=fun ⟨s0,s1,h,c0,c1,c2,c3,c4,c5⟩ hk=>⟨s0,s1,h,c0,c1,c2,c3,(zAn rPin).mono c4 hk,(zAn rEdge).mono c5 hk⟩
end Go.Proofs.YtminjjdnmpaaoaaGreatDoor
namespace Go.Proofs.YtminjjdnmpaaoaaGreatDoor
open Go.ChangeShapes Go.WideShapes Go.ChangeAt Go.RowKit
def bkVer (x:Ver):Nat:=1+1+1+1
theorem zD1:zCD Tryz.prog 50 rVer bkVer:=by
 intro H enc w base fuel cs x h
 obtain ⟨xs,n,rfl,rfl,hlen,hxl,hf⟩:=DataW.trod_struct Tryz.underlying50 h
 rw[show Tryz.prog.cellsOf 50=3 from by kernel_rfl] at hlen
 match cs,hlen with
 | [c0,c1,c2],_=>
   have k0:Tryz.prog.cellsOf 3=1:=by kernel_rfl
   have f0:=hf 0 _ rfl
   have f1:=hf 1 _ rfl
   have f2:=hf 2 _ rfl
   match xs,hxl with
   | [x0,x1,x2],_=>
     simp[k0] at f0 f1 f2
     obtain ⟨y0,⟨h0,g0⟩,b0⟩:=zBc Tryz.underlying3 H enc w base n [c0] x0 f0
     simp only[List.cons.injEq,and_true] at h0
     subst h0
     obtain ⟨y1,⟨h1,g1⟩,b1⟩:=zBc Tryz.underlying3 H enc w base n [c1] x1 f1
     simp only[List.cons.injEq,and_true] at h1
     subst h1
     obtain ⟨y2,⟨h2,g2⟩,b2⟩:=zBc Tryz.underlying3 H enc w base n [c2] x2 f2
     simp only[List.cons.injEq,and_true] at h2
     subst h2
     refine ⟨⟨y0,y1,y2⟩,⟨rfl,g0,g1,g2⟩,?_⟩
     simp only[bkVer,Rows.uptoBulk,Rows.uptoBulkAll,List.map_cons,List.map_nil] at *
     omega
def bkSpn (x:Spn):Nat:=1+bkVer x.lo+bkVer x.hi
theorem zJ2:zCD Tryz.prog 70 rSpn bkSpn:=by
 intro H enc w base fuel cs x h
 obtain ⟨xs,n,rfl,rfl,hlen,hxl,hf⟩:=DataW.trod_struct Tryz.underlying70 h
 rw[show Tryz.prog.cellsOf 70=6 from by kernel_rfl] at hlen
 match cs,hlen with
 | [c0,c1,c2,c3,c4,c5],_=>
   have k0:Tryz.prog.cellsOf 50=3:=by kernel_rfl
   have f0:=hf 0 _ rfl
   have f1:=hf 1 _ rfl
   match xs,hxl with
   | [x0,x1],_=>
     simp[k0] at f0 f1
     obtain ⟨y0,⟨h0,g0_0,g0_1,g0_2⟩,b0⟩:=zD1 H enc w base n [c0,c1,c2] x0 f0
     simp only[List.cons.injEq,and_true] at h0
     obtain ⟨rfl,rfl,rfl⟩:=h0
     obtain ⟨y1,⟨h1,g1_0,g1_1,g1_2⟩,b1⟩:=zD1 H enc w base n [c3,c4,c5] x1 f1
     simp only[List.cons.injEq,and_true] at h1
     obtain ⟨rfl,rfl,rfl⟩:=h1
     refine ⟨⟨y0,y1⟩,⟨rfl,g0_0,g0_1,g0_2,g1_0,g1_1,g1_2⟩,?_⟩
     simp only[bkSpn,Rows.uptoBulk,Rows.uptoBulkAll,List.map_cons,List.map_nil] at *
     omega
def bkDep (x:Dep):Nat:=1+(x.name.size+1)+bkL bkSpn x.range
theorem zBu:zCD Tryz.prog 68 rDep bkDep:=by
 intro H enc w base fuel cs x h
 obtain ⟨xs,n,rfl,rfl,hlen,hxl,hf⟩:=DataW.trod_struct Tryz.underlying68 h
 rw[show Tryz.prog.cellsOf 68=2 from by kernel_rfl] at hlen
 match cs,hlen with
 | [c0,c1],_=>
   have k0:Tryz.prog.cellsOf 66=1:=by kernel_rfl
   have k1:Tryz.prog.cellsOf 9=1:=by kernel_rfl
   have f0:=hf 0 _ rfl
   have f1:=hf 1 _ rfl
   match xs,hxl with
   | [x0,x1],_=>
     simp[k0,k1] at f0 f1
     obtain ⟨y0,⟨h0,g0⟩,b0⟩:=zD5 Tryz.underlying9 H enc w base n [c0] x0 f0
     simp only[List.cons.injEq,and_true] at h0
     subst h0
     obtain ⟨y1,g1,b1⟩:=zAs (e:=70) Tryz.underlying66 (r:=rSpn) (by kernel_rfl) (by decide) zJ2 H enc w base n [c1] x1 f1
     refine ⟨⟨y0,y1⟩,⟨_,rfl,g0,g1⟩,?_⟩
     simp only[bkDep,Rows.uptoBulk,Rows.uptoBulkAll,List.map_cons,List.map_nil] at *
     omega
def zCQ (x:Pack):Nat:=1+(x.name.size+1)+bkVer x.ver+bkL bkDep x.deps+bkL bkDep x.peers+bkL bkDep x.opts
theorem zFN:zCD Tryz.prog 52 rPack zCQ:=by
 intro H enc w base fuel cs x h
 obtain ⟨xs,n,rfl,rfl,hlen,hxl,hf⟩:=DataW.trod_struct Tryz.underlying52 h
 rw[show Tryz.prog.cellsOf 52=7 from by kernel_rfl] at hlen
 match cs,hlen with
 | [c0,c1,c2,c3,c4,c5,c6],_=>
   have k0:Tryz.prog.cellsOf 26=1:=by kernel_rfl
   have k1:Tryz.prog.cellsOf 50=3:=by kernel_rfl
   have k2:Tryz.prog.cellsOf 9=1:=by kernel_rfl
   have f0:=hf 0 _ rfl
   have f1:=hf 1 _ rfl
   have f2:=hf 2 _ rfl
   have f3:=hf 3 _ rfl
   have f4:=hf 4 _ rfl
   match xs,hxl with
   | [x0,x1,x2,x3,x4],_=>
     simp[k0,k1,k2] at f0 f1 f2 f3 f4
     obtain ⟨y0,⟨h0,g0⟩,b0⟩:=zD5 Tryz.underlying9 H enc w base n [c0] x0 f0
     simp only[List.cons.injEq,and_true] at h0
     subst h0
     obtain ⟨y1,⟨h1,g1_0,g1_1,g1_2⟩,b1⟩:=zD1 H enc w base n [c1,c2,c3] x1 f1
     simp only[List.cons.injEq,and_true] at h1
     obtain ⟨rfl,rfl,rfl⟩:=h1
     obtain ⟨y2,g2,b2⟩:=zAs (e:=68) Tryz.underlying26 (r:=rDep) (by kernel_rfl) (by decide) zBu H enc w base n [c4] x2 f2
     obtain ⟨y3,g3,b3⟩:=zAs (e:=68) Tryz.underlying26 (r:=rDep) (by kernel_rfl) (by decide) zBu H enc w base n [c5] x3 f3
     obtain ⟨y4,g4,b4⟩:=zAs (e:=68) Tryz.underlying26 (r:=rDep) (by kernel_rfl) (by decide) zBu H enc w base n [c6] x4 f4
     refine ⟨⟨y0,y1,y2,y3,y4⟩,⟨_,_,_,rfl,g0,g1_0,g1_1,g1_2,g2,g3,g4⟩,?_⟩
     simp only[zCQ,Rows.uptoBulk,Rows.uptoBulkAll,List.map_cons,List.map_nil] at *
     omega
def bkDir (x:Dir):Nat:=1+bkL (fun s:ByteArray=>s.size+1) x.path+zCQ x.pack+1
theorem zJs:zCD Tryz.prog 54 rDir bkDir:=by
 intro H enc w base fuel cs x h
 obtain ⟨xs,n,rfl,rfl,hlen,hxl,hf⟩:=DataW.trod_struct Tryz.underlying54 h
 rw[show Tryz.prog.cellsOf 54=9 from by kernel_rfl] at hlen
 match cs,hlen with
 | [c0,c1,c2,c3,c4,c5,c6,c7,c8],_=>
   have k0:Tryz.prog.cellsOf 48=1:=by kernel_rfl
   have k1:Tryz.prog.cellsOf 52=7:=by kernel_rfl
   have k2:Tryz.prog.cellsOf 3=1:=by kernel_rfl
   have f0:=hf 0 _ rfl
   have f1:=hf 1 _ rfl
   have f2:=hf 2 _ rfl
   match xs,hxl with
   | [x0,x1,x2],_=>
     simp[k0,k1,k2] at f0 f1 f2
     obtain ⟨y0,g0,b0⟩:=zAs (e:=9) Tryz.underlying48 (r:=rStr) (by kernel_rfl) (by decide) (zD5 Tryz.underlying9) H enc w base n [c0] x0 f0
     obtain ⟨y1,⟨v1_0,v1_1,v1_2,h1,g1_0,g1_1,g1_2,g1_3,g1_4,g1_5,g1_6⟩,b1⟩:=zFN H enc w base n [c1,c2,c3,c4,c5,c6,c7] x1 f1
     simp only[List.cons.injEq,and_true] at h1
     obtain ⟨rfl,rfl,rfl,rfl,rfl,rfl,rfl⟩:=h1
     obtain ⟨y2,⟨h2,g2⟩,b2⟩:=zBc Tryz.underlying3 H enc w base n [c8] x2 f2
     simp only[List.cons.injEq,and_true] at h2
     subst h2
     refine ⟨⟨y0,y1,y2⟩,⟨_,_,_,_,rfl,g0,g1_0,g1_1,g1_2,g1_3,g1_4,g1_5,g1_6,g2⟩,?_⟩
     simp only[bkDir,Rows.uptoBulk,Rows.uptoBulkAll,List.map_cons,List.map_nil] at *
     omega
def zKT (x:Tree):Nat:=1+bkL bkDir x.dirs
theorem zID:zCD Tryz.prog 33 rTree zKT:=by
 intro H enc w base fuel cs x h
 obtain ⟨xs,n,rfl,rfl,hlen,hxl,hf⟩:=DataW.trod_struct Tryz.underlying33 h
 rw[show Tryz.prog.cellsOf 33=1 from by kernel_rfl] at hlen
 match cs,hlen with
 | [c0],_=>
   have k0:Tryz.prog.cellsOf 31=1:=by kernel_rfl
   have f0:=hf 0 _ rfl
   match xs,hxl with
   | [x0],_=>
     simp[k0] at f0
     obtain ⟨y0,g0,b0⟩:=zAs (e:=54) Tryz.underlying31 (r:=rDir) (by kernel_rfl) (by decide) zJs H enc w base n [c0] x0 f0
     refine ⟨⟨y0⟩,⟨_,rfl,g0⟩,?_⟩
     simp only[zKT,Rows.uptoBulk,Rows.uptoBulkAll,List.map_cons,List.map_nil] at *
     omega
end Go.Proofs.YtminjjdnmpaaoaaGreatDoor
namespace Go.Proofs
open Go.Shelf
def Tryz.lays169_ren:Go.Shelf.Ren:=⟨fun|169=>42|n=>n,fun|70=>104|9=>9|0=>0|72=>107|37=>105|127=>139|3=>3|5=>5|n=>n,fun|n=>n⟩
theorem Tryz.lays169:Go.Proofs.Lays.n169 Tryz.prog Tryz.lays169_ren:={
 mixed:=by kernel_rfl
 f169:=Tryz.func42.trans (congrArg some (by kernel_rfl))
 t0:=Tryz.underlying0
 a0:=Tryz.isAgg0
 z0:=Tryz.sizeOf0
 v0:=Tryz.zeroValue0
 t3:=Tryz.underlying3
 a3:=Tryz.isAgg3
 z3:=Tryz.sizeOf3
 v3:=Tryz.zeroValue3
 t9:=Tryz.underlying9
 a9:=Tryz.isAgg9
 z9:=Tryz.sizeOf9
 v9:=Tryz.zeroValue9
 t37:=Tryz.underlying105
 a37:=Tryz.isAgg105
 z37:=Tryz.sizeOf105
 v37:=Tryz.zeroValue105
 t70:=Tryz.underlying104
 a70:=Tryz.isAgg104
 z70:=Tryz.sizeOf104
 v70:=Tryz.zeroValue104
 t72:=Tryz.underlying107
 a72:=Tryz.isAgg107
 z72:=Tryz.sizeOf107
 v72:=Tryz.zeroValue107
 t127:=Tryz.underlying139
 a127:=Tryz.isAgg139
 z127:=Tryz.sizeOf139
 v127:=Tryz.zeroValue139}
theorem Tryz.Builder_Extra_169:Builder.Extra Tryz.prog Tryz.lays169_ren:={
 sizeBuilder:=by kernel_rfl
 liesBuilder:=by kernel_rfl
 t5:=Tryz.underlying5
 a5:=Tryz.isAgg5
 z5:=Tryz.sizeOf5
 v5:=Tryz.zeroValue5
 infoByte:=by kernel_rfl
 cellsByte:=by kernel_rfl
 sizeByte:=by kernel_rfl
 neB5:=by decide}
open Go.RowKit in
theorem Tryz.Builder_String_any (B b:Nat) (l:List UInt8) (w:World) (h:Lib.IsBuilder 107 5 B b (Lib.byteCells l) w) (hBw:B≤w.heap.size) :
 Calls Tryz.prog 42 #[.pointer (some ⟨b,0,none⟩)] w fun e w'=>e=.returned (.string ⟨l.toArray⟩)∧Below B w w':=Any.Builder_String_any Tryz.lays169 Tryz.Builder_Extra_169 B b l w h hBw
def Tryz.lays156_ren:Go.Shelf.Ren:=⟨fun|156=>190|165=>193|166=>41|169=>42|240=>69|241=>199|276=>120|277=>204|n=>n,fun|31=>48|9=>9|3=>3|4=>4|0=>0|20=>20|72=>107|76=>110|70=>104|37=>105|75=>109|127=>139|164=>185|5=>5|80=>112|n=>n,fun|n=>n⟩
theorem Tryz.lays156:Go.Proofs.Lays.n156 Tryz.prog Tryz.lays156_ren:={
 mixed:=by kernel_rfl
 f156:=Tryz.func190.trans (congrArg some (by kernel_rfl))
 f165:=Tryz.func193.trans (congrArg some (by kernel_rfl))
 f166:=Tryz.func41.trans (congrArg some (by kernel_rfl))
 f169:=Tryz.func42.trans (congrArg some (by kernel_rfl))
 f240:=Tryz.func69.trans (congrArg some (by kernel_rfl))
 f241:=Tryz.func199.trans (congrArg some (by kernel_rfl))
 f276:=Tryz.func120.trans (congrArg some (by kernel_rfl))
 f277:=Tryz.func204.trans (congrArg some (by kernel_rfl))
 t0:=Tryz.underlying0
 a0:=Tryz.isAgg0
 z0:=Tryz.sizeOf0
 v0:=Tryz.zeroValue0
 t3:=Tryz.underlying3
 a3:=Tryz.isAgg3
 z3:=Tryz.sizeOf3
 v3:=Tryz.zeroValue3
 t4:=Tryz.underlying4
 a4:=Tryz.isAgg4
 z4:=Tryz.sizeOf4
 v4:=Tryz.zeroValue4
 t9:=Tryz.underlying9
 a9:=Tryz.isAgg9
 z9:=Tryz.sizeOf9
 v9:=Tryz.zeroValue9
 t20:=Tryz.underlying20
 a20:=Tryz.isAgg20
 z20:=Tryz.sizeOf20
 v20:=Tryz.zeroValue20
 t31:=Tryz.underlying48
 a31:=Tryz.isAgg48
 z31:=Tryz.sizeOf48
 v31:=Tryz.zeroValue48
 t37:=Tryz.underlying105
 a37:=Tryz.isAgg105
 z37:=Tryz.sizeOf105
 v37:=Tryz.zeroValue105
 t70:=Tryz.underlying104
 a70:=Tryz.isAgg104
 z70:=Tryz.sizeOf104
 v70:=Tryz.zeroValue104
 t72:=Tryz.underlying107
 a72:=Tryz.isAgg107
 z72:=Tryz.sizeOf107
 v72:=Tryz.zeroValue107
 t75:=Tryz.underlying109
 a75:=Tryz.isAgg109
 z75:=Tryz.sizeOf109
 v75:=Tryz.zeroValue109
 t76:=Tryz.underlying110
 a76:=Tryz.isAgg110
 z76:=Tryz.sizeOf110
 v76:=Tryz.zeroValue110
 t127:=Tryz.underlying139
 a127:=Tryz.isAgg139
 z127:=Tryz.sizeOf139
 v127:=Tryz.zeroValue139
 t164:=Tryz.underlying185
 a164:=Tryz.isAgg185
 z164:=Tryz.sizeOf185
 v164:=Tryz.zeroValue185}
theorem Tryz.Builder_Extra_156:Builder.Extra Tryz.prog Tryz.lays156_ren:={
 sizeBuilder:=by kernel_rfl
 liesBuilder:=by kernel_rfl
 t5:=Tryz.underlying5
 a5:=Tryz.isAgg5
 z5:=Tryz.sizeOf5
 v5:=Tryz.zeroValue5
 infoByte:=by kernel_rfl
 cellsByte:=by kernel_rfl
 sizeByte:=by kernel_rfl
 neB5:=by decide}
open Go.RowKit in
theorem Tryz.strings_Join (bk o c:Nat) (xs:List ByteArray) (sep:ByteArray) (w:World) (hcells:∀ (j:Nat) x,xs[j]?=some x→w.cell? ⟨bk,o+j,none⟩=some (.string x)) (hbk:bk<w.heap.size) (hN:xs.length≤140737488355328) (hcap:xs.length≤c) (hlen:(Lib.join (xs.map (·.data.toList)) sep.data.toList).length≤140737488355328) :
 Calls Tryz.prog 190 #[.slice (some ⟨bk,o,none⟩) xs.length c,.string sep] w fun e w'=>e=.returned (.string ⟨(Lib.join (xs.map (·.data.toList)) sep.data.toList).toArray⟩)∧Below w.heap.size w w':=Any.strings_Join Tryz.lays156 Tryz.Builder_Extra_156 bk o c xs sep w hcells hbk hN hcap hlen
def Tryz.lays106_ren:Go.Shelf.Ren:=⟨fun|106=>26|213=>53|265=>92|n=>n,fun|9=>9|3=>3|n=>n,fun|n=>n⟩
theorem Tryz.lays106:Go.Proofs.Lays.n106 Tryz.prog Tryz.lays106_ren:={
 mixed:=by kernel_rfl
 f106:=Tryz.func26.trans (congrArg some (by kernel_rfl))
 f213:=Tryz.func53.trans (congrArg some (by kernel_rfl))
 f265:=Tryz.func92.trans (congrArg some (by kernel_rfl))
 t3:=Tryz.underlying3
 a3:=Tryz.isAgg3
 z3:=Tryz.sizeOf3
 v3:=Tryz.zeroValue3
 t9:=Tryz.underlying9
 a9:=Tryz.isAgg9
 z9:=Tryz.sizeOf9
 v9:=Tryz.zeroValue9}
open Go.RowKit in
theorem Tryz.strings_Compare (a b:ByteArray) (w:World) :
 Calls Tryz.prog 26 #[.string a,.string b] w fun e w'=>e=.returned (.int .i64 (Lib.compareBytes a.data.toList b.data.toList))∧w'=w:=Any.strings_Compare Tryz.lays106 a b w
def Tryz.laysM171_ren:Go.Shelf.Ren:=⟨fun|171=>173|243=>187|246=>192|283=>195|284=>196|285=>197|286=>198|129=>91|317=>200|318=>201|319=>202|320=>203|337=>205|338=>206|n=>n,fun|3=>3|9=>9|2=>2|4=>4|171=>259|0=>0|53=>160|37=>105|5=>5|173=>261|212=>264|51=>158|20=>20|213=>265|46=>122|232=>267|233=>268|n=>n,fun|17=>3|18=>4|19=>5|n=>n⟩
theorem Tryz.laysM171:Go.Proofs.LaysM.n171 Tryz.prog Tryz.laysM171_ren:={
 mixed:=by kernel_rfl
 f129:=Tryz.func91.trans (congrArg some (by kernel_rfl))
 f171:=Tryz.func173.trans (congrArg some (by kernel_rfl))
 f243:=Tryz.func187.trans (congrArg some (by kernel_rfl))
 f246:=Tryz.func192.trans (congrArg some (by kernel_rfl))
 f283:=Tryz.func195.trans (congrArg some (by kernel_rfl))
 f284:=Tryz.func196.trans (congrArg some (by kernel_rfl))
 f285:=Tryz.func197.trans (congrArg some (by kernel_rfl))
 f286:=Tryz.func198.trans (congrArg some (by kernel_rfl))
 f317:=Tryz.func200.trans (congrArg some (by kernel_rfl))
 f318:=Tryz.func201.trans (congrArg some (by kernel_rfl))
 f319:=Tryz.func202.trans (congrArg some (by kernel_rfl))
 f320:=Tryz.func203.trans (congrArg some (by kernel_rfl))
 f337:=Tryz.func205.trans (congrArg some (by kernel_rfl))
 f338:=Tryz.func206.trans (congrArg some (by kernel_rfl))
 t0:=Tryz.underlying0
 a0:=Tryz.isAgg0
 z0:=Tryz.sizeOf0
 v0:=Tryz.zeroValue0
 t2:=Tryz.underlying2
 a2:=Tryz.isAgg2
 z2:=Tryz.sizeOf2
 v2:=Tryz.zeroValue2
 t3:=Tryz.underlying3
 a3:=Tryz.isAgg3
 z3:=Tryz.sizeOf3
 v3:=Tryz.zeroValue3
 t4:=Tryz.underlying4
 a4:=Tryz.isAgg4
 z4:=Tryz.sizeOf4
 v4:=Tryz.zeroValue4
 t5:=Tryz.underlying5
 a5:=Tryz.isAgg5
 z5:=Tryz.sizeOf5
 v5:=Tryz.zeroValue5
 t9:=Tryz.underlying9
 a9:=Tryz.isAgg9
 z9:=Tryz.sizeOf9
 v9:=Tryz.zeroValue9
 t20:=Tryz.underlying20
 a20:=Tryz.isAgg20
 z20:=Tryz.sizeOf20
 v20:=Tryz.zeroValue20
 t37:=Tryz.underlying105
 a37:=Tryz.isAgg105
 z37:=Tryz.sizeOf105
 v37:=Tryz.zeroValue105
 t46:=Tryz.underlying122
 a46:=Tryz.isAgg122
 z46:=Tryz.sizeOf122
 v46:=Tryz.zeroValue122
 t51:=Tryz.underlying158
 a51:=Tryz.isAgg158
 z51:=Tryz.sizeOf158
 v51:=Tryz.zeroValue158
 t53:=Tryz.underlying160
 a53:=Tryz.isAgg160
 z53:=Tryz.sizeOf160
 v53:=Tryz.zeroValue160
 t171:=Tryz.underlying259
 a171:=Tryz.isAgg259
 z171:=Tryz.sizeOf259
 v171:=Tryz.zeroValue259
 t173:=Tryz.underlying261
 a173:=Tryz.isAgg261
 z173:=Tryz.sizeOf261
 v173:=Tryz.zeroValue261
 t212:=Tryz.underlying264
 a212:=Tryz.isAgg264
 z212:=Tryz.sizeOf264
 v212:=Tryz.zeroValue264
 t213:=Tryz.underlying265
 a213:=Tryz.isAgg265
 z213:=Tryz.sizeOf265
 t232:=Tryz.underlying267
 a232:=Tryz.isAgg267
 z232:=Tryz.sizeOf267
 v232:=Tryz.zeroValue267
 t233:=Tryz.underlying268
 a233:=Tryz.isAgg268
 z233:=Tryz.sizeOf268
 v233:=Tryz.zeroValue268
 g17:=by kernel_rfl
 g18:=by kernel_rfl
 g19:=by kernel_rfl
 i0:=by kernel_rfl
 i2:=by kernel_rfl
 i3:=by kernel_rfl
 i4:=by kernel_rfl
 i5:=by kernel_rfl
 i9:=by kernel_rfl
 i20:=by kernel_rfl
 i37:=by kernel_rfl
 i46:=by kernel_rfl
 i51:=by kernel_rfl
 i53:=by kernel_rfl
 i171:=by kernel_rfl
 i173:=by kernel_rfl
 i212:=by kernel_rfl
 i232:=by kernel_rfl
 i233:=by kernel_rfl
 m17:=by kernel_rfl
 m18:=by kernel_rfl
 m19:=by kernel_rfl}
open Go.RowKit Go.Sort Go.Lib in
theorem Tryz.strconv_Itoa (n:Int) (h0:-9223372036854775808≤n) (h1:n≤9223372036854775807) (w:World) (htab:Lib.TabIs Tryz.prog w "internal/strconv.uint64pow10" .u64 Lib.pow10Tab) :
 Calls Tryz.prog 173 #[.int .i64 n] w fun e w'=>e=.returned (.string ⟨(Lib.itoa n).toArray⟩)∧∃ k os,w'=grow (w.drewN k) os:=Any.strconv_Itoa Tryz.laysM171 n h0 h1 w htab
def Tryz.lays193_ren:Go.Shelf.Ren:=⟨fun|193=>40|n=>n,fun|31=>48|9=>9|4=>4|3=>3|0=>0|n=>n,fun|n=>n⟩
theorem Tryz.lays193:Go.Proofs.Lays.n193 Tryz.prog Tryz.lays193_ren:={
 mixed:=by kernel_rfl
 f193:=Tryz.func40.trans (congrArg some (by kernel_rfl))
 t0:=Tryz.underlying0
 a0:=Tryz.isAgg0
 z0:=Tryz.sizeOf0
 v0:=Tryz.zeroValue0
 t3:=Tryz.underlying3
 a3:=Tryz.isAgg3
 z3:=Tryz.sizeOf3
 v3:=Tryz.zeroValue3
 t4:=Tryz.underlying4
 a4:=Tryz.isAgg4
 z4:=Tryz.sizeOf4
 v4:=Tryz.zeroValue4
 t9:=Tryz.underlying9
 a9:=Tryz.isAgg9
 z9:=Tryz.sizeOf9
 v9:=Tryz.zeroValue9
 t31:=Tryz.underlying48
 a31:=Tryz.isAgg48
 z31:=Tryz.sizeOf48
 v31:=Tryz.zeroValue48}
open Go.RowKit Go.Lib in
theorem Tryz.slices_Equal_string (b1 o1 n c b2 o2 m d:Nat) (xs ys:List ByteArray) (w:World) (hx:n≤xs.length) (hy:m≤ys.length) (hbig:n≤9223372036854775807) (hbig2:m≤9223372036854775807) (hc1:∀ j,j<xs.length→w.cell? ⟨b1,o1+j,none⟩=some (.string (xs.getD j ByteArray.empty))) (hc2:∀ j,j<ys.length→w.cell? ⟨b2,o2+j,none⟩=some (.string (ys.getD j ByteArray.empty))) :
 Calls Tryz.prog 40 #[.slice (some ⟨b1,o1,none⟩) n c,.slice (some ⟨b2,o2,none⟩) m d] w fun e w'=>e=.returned (.bool (decide (xs.take n=ys.take m)))∧∃ q,w'=w.drewN q:=Any.slices_Equal_string Tryz.lays193 b1 o1 n c b2 o2 m d xs ys w hx hy hbig hbig2 hc1 hc2
open Go.RowKit Go.Lib in
theorem Tryz.slices_Equal_string_empty (a1 a2:Option Addr) (c m d:Nat) (w:World) (hbig2:m≤9223372036854775807) :
 Calls Tryz.prog 40 #[.slice a1 0 c,.slice a2 m d] w fun e w'=>e=.returned (.bool (decide (m=0)))∧w'=w:=Any.slices_Equal_string_empty Tryz.lays193 a1 a2 c m d w hbig2
def Tryz.laysNm216_ren:Go.Shelf.Ren:=⟨fun|16=>129|n=>n,fun|24=>48|9=>9|4=>4|n=>n,fun|n=>n⟩
theorem Tryz.laysNm216:Go.Proofs.Lays2.n16 Tryz.prog Tryz.laysNm216_ren:={
 mixed:=by kernel_rfl
 f16:=Tryz.func129.trans (congrArg some (by kernel_rfl))
 t4:=Tryz.underlying4
 a4:=Tryz.isAgg4
 z4:=Tryz.sizeOf4
 v4:=Tryz.zeroValue4
 t9:=Tryz.underlying9
 a9:=Tryz.isAgg9
 z9:=Tryz.sizeOf9
 v9:=Tryz.zeroValue9
 t24:=Tryz.underlying48
 a24:=Tryz.isAgg48
 z24:=Tryz.sizeOf48
 v24:=Tryz.zeroValue48
 i9:=by kernel_rfl}
open Go.RowKit Go.Lib in
theorem Tryz.slices_Clone_string (b off n c:Nat) (zs:List ByteArray) (w:World) (hz:n≤zs.length) (hbig:n * 16≤140737488355328) (hc:∀ j,j<zs.length→w.cell? ⟨b,off+j,none⟩=some (.string (zs.getD j ByteArray.empty))) :
 Calls Tryz.prog 129 #[.slice (some ⟨b,off,none⟩) n c] w fun e w'=>∃ v',e=.returned v'∧w'.ownsRow w.heap.size 9 1 v' n ((zs.take n).map (Value.string))∧v'≠.slice none 0 0∧Below w.heap.size w w':=Any.slices_Clone_string Tryz.laysNm216 b off n c zs w hz hbig hc
open Go.RowKit Go.Lib in
theorem Tryz.slices_Clone_string_nil (n c:Nat) (w:World) :
 Calls Tryz.prog 129 #[.slice none n c] w fun e w'=>e=.returned (.slice none 0 0)∧w'=w:=Any.slices_Clone_string_nil Tryz.laysNm216 n c w
open Go.RowKit Go.Lib in
theorem Tryz.slices_Clone_string_zero (a:Addr) (c:Nat) (w:World) :
 Calls Tryz.prog 129 #[.slice (some a) 0 c] w fun e w'=>∃ v',e=.returned v'∧w'.ownsRow w.heap.size 9 1 v' 0 []∧v'≠.slice none 0 0∧Below w.heap.size w w':=Any.slices_Clone_string_zero Tryz.laysNm216 a c w
open Go.RowKit Go.Lib in
theorem Tryz.slices_Equal_string_lens (a1 a2:Option Addr) (n c m d:Nat) (w:World) (hnm:n≠m) :
 Calls Tryz.prog 40 #[.slice a1 n c,.slice a2 m d] w fun e w'=>e=.returned (.bool false)∧w'=w:=Any.slices_Equal_string_lens Tryz.lays193 a1 a2 n c m d w hnm
def Tryz.laysTrim_ren:Go.Shelf.Ren:=⟨fun|160=>68|232=>117|231=>113|227=>114|234=>118|233=>115|236=>119|235=>116|228=>150|271=>153|151=>152|197=>151|120=>171|152=>170|260=>169|137=>183|119=>184|224=>185|225=>186|217=>191|266=>194|n=>n,fun|9=>9|4=>4|3=>3|5=>5|117=>181|116=>180|0=>0|124=>184|21=>21|105=>214|46=>122|119=>244|139=>247|138=>246|n=>n,fun|3=>1|4=>2|n=>n⟩
theorem Tryz.laysTrim:Go.Proofs.Lays.n160 Tryz.prog Tryz.laysTrim_ren:={
 mixed:=by kernel_rfl
 f119:=Tryz.func184.trans (congrArg some (by kernel_rfl))
 f120:=Tryz.func171.trans (congrArg some (by kernel_rfl))
 f137:=Tryz.func183.trans (congrArg some (by kernel_rfl))
 f151:=Tryz.func152.trans (congrArg some (by kernel_rfl))
 f152:=Tryz.func170.trans (congrArg some (by kernel_rfl))
 f160:=Tryz.func68.trans (congrArg some (by kernel_rfl))
 f197:=Tryz.func151.trans (congrArg some (by kernel_rfl))
 f217:=Tryz.func191.trans (congrArg some (by kernel_rfl))
 f224:=Tryz.func185.trans (congrArg some (by kernel_rfl))
 f225:=Tryz.func186.trans (congrArg some (by kernel_rfl))
 f227:=Tryz.func114.trans (congrArg some (by kernel_rfl))
 f228:=Tryz.func150.trans (congrArg some (by kernel_rfl))
 f231:=Tryz.func113.trans (congrArg some (by kernel_rfl))
 f232:=Tryz.func117.trans (congrArg some (by kernel_rfl))
 f233:=Tryz.func115.trans (congrArg some (by kernel_rfl))
 f234:=Tryz.func118.trans (congrArg some (by kernel_rfl))
 f235:=Tryz.func116.trans (congrArg some (by kernel_rfl))
 f236:=Tryz.func119.trans (congrArg some (by kernel_rfl))
 f260:=Tryz.func169.trans (congrArg some (by kernel_rfl))
 f266:=Tryz.func194.trans (congrArg some (by kernel_rfl))
 f271:=Tryz.func153.trans (congrArg some (by kernel_rfl))
 t0:=Tryz.underlying0
 a0:=Tryz.isAgg0
 z0:=Tryz.sizeOf0
 v0:=Tryz.zeroValue0
 t3:=Tryz.underlying3
 a3:=Tryz.isAgg3
 z3:=Tryz.sizeOf3
 v3:=Tryz.zeroValue3
 t4:=Tryz.underlying4
 a4:=Tryz.isAgg4
 z4:=Tryz.sizeOf4
 v4:=Tryz.zeroValue4
 t5:=Tryz.underlying5
 a5:=Tryz.isAgg5
 z5:=Tryz.sizeOf5
 v5:=Tryz.zeroValue5
 t9:=Tryz.underlying9
 a9:=Tryz.isAgg9
 z9:=Tryz.sizeOf9
 v9:=Tryz.zeroValue9
 t21:=Tryz.underlying21
 a21:=Tryz.isAgg21
 z21:=Tryz.sizeOf21
 v21:=Tryz.zeroValue21
 t46:=Tryz.underlying122
 a46:=Tryz.isAgg122
 z46:=Tryz.sizeOf122
 v46:=Tryz.zeroValue122
 t105:=Tryz.underlying214
 a105:=Tryz.isAgg214
 z105:=Tryz.sizeOf214
 v105:=Tryz.zeroValue214
 t116:=Tryz.underlying180
 a116:=Tryz.isAgg180
 z116:=Tryz.sizeOf180
 t117:=Tryz.underlying181
 a117:=Tryz.isAgg181
 z117:=Tryz.sizeOf181
 v117:=Tryz.zeroValue181
 t119:=Tryz.underlying244
 a119:=Tryz.isAgg244
 z119:=Tryz.sizeOf244
 t124:=Tryz.underlying184
 a124:=Tryz.isAgg184
 z124:=Tryz.sizeOf184
 v124:=Tryz.zeroValue184
 t138:=Tryz.underlying246
 a138:=Tryz.isAgg246
 z138:=Tryz.sizeOf246
 v138:=Tryz.zeroValue246
 t139:=Tryz.underlying247
 a139:=Tryz.isAgg247
 z139:=Tryz.sizeOf247
 v139:=Tryz.zeroValue247
 g3:=by kernel_rfl
 g4:=by kernel_rfl}
def Tryz.laysTrimLeft_ren:Go.Shelf.Ren:=⟨fun|161=>67|231=>113|227=>114|233=>115|235=>116|228=>150|197=>151|151=>152|260=>169|152=>170|137=>183|119=>184|224=>185|225=>186|217=>191|266=>194|n=>n,fun|9=>9|4=>4|3=>3|5=>5|117=>181|116=>180|0=>0|124=>184|105=>214|21=>21|119=>244|46=>122|139=>247|138=>246|n=>n,fun|3=>1|4=>2|n=>n⟩
theorem Tryz.laysTrimLeft:Go.Proofs.Lays.n161 Tryz.prog Tryz.laysTrimLeft_ren:={
 mixed:=by kernel_rfl
 f119:=Tryz.func184.trans (congrArg some (by kernel_rfl))
 f137:=Tryz.func183.trans (congrArg some (by kernel_rfl))
 f151:=Tryz.func152.trans (congrArg some (by kernel_rfl))
 f152:=Tryz.func170.trans (congrArg some (by kernel_rfl))
 f161:=Tryz.func67.trans (congrArg some (by kernel_rfl))
 f197:=Tryz.func151.trans (congrArg some (by kernel_rfl))
 f217:=Tryz.func191.trans (congrArg some (by kernel_rfl))
 f224:=Tryz.func185.trans (congrArg some (by kernel_rfl))
 f225:=Tryz.func186.trans (congrArg some (by kernel_rfl))
 f227:=Tryz.func114.trans (congrArg some (by kernel_rfl))
 f228:=Tryz.func150.trans (congrArg some (by kernel_rfl))
 f231:=Tryz.func113.trans (congrArg some (by kernel_rfl))
 f233:=Tryz.func115.trans (congrArg some (by kernel_rfl))
 f235:=Tryz.func116.trans (congrArg some (by kernel_rfl))
 f260:=Tryz.func169.trans (congrArg some (by kernel_rfl))
 f266:=Tryz.func194.trans (congrArg some (by kernel_rfl))
 t0:=Tryz.underlying0
 a0:=Tryz.isAgg0
 z0:=Tryz.sizeOf0
 v0:=Tryz.zeroValue0
 t3:=Tryz.underlying3
 a3:=Tryz.isAgg3
 z3:=Tryz.sizeOf3
 v3:=Tryz.zeroValue3
 t4:=Tryz.underlying4
 a4:=Tryz.isAgg4
 z4:=Tryz.sizeOf4
 v4:=Tryz.zeroValue4
 t5:=Tryz.underlying5
 a5:=Tryz.isAgg5
 z5:=Tryz.sizeOf5
 v5:=Tryz.zeroValue5
 t9:=Tryz.underlying9
 a9:=Tryz.isAgg9
 z9:=Tryz.sizeOf9
 v9:=Tryz.zeroValue9
 t21:=Tryz.underlying21
 a21:=Tryz.isAgg21
 z21:=Tryz.sizeOf21
 v21:=Tryz.zeroValue21
 t46:=Tryz.underlying122
 a46:=Tryz.isAgg122
 z46:=Tryz.sizeOf122
 v46:=Tryz.zeroValue122
 t105:=Tryz.underlying214
 a105:=Tryz.isAgg214
 z105:=Tryz.sizeOf214
 v105:=Tryz.zeroValue214
 t116:=Tryz.underlying180
 a116:=Tryz.isAgg180
 z116:=Tryz.sizeOf180
 t117:=Tryz.underlying181
 a117:=Tryz.isAgg181
 z117:=Tryz.sizeOf181
 v117:=Tryz.zeroValue181
 t119:=Tryz.underlying244
 a119:=Tryz.isAgg244
 z119:=Tryz.sizeOf244
 t124:=Tryz.underlying184
 a124:=Tryz.isAgg184
 z124:=Tryz.sizeOf184
 v124:=Tryz.zeroValue184
 t138:=Tryz.underlying246
 a138:=Tryz.isAgg246
 z138:=Tryz.sizeOf246
 v138:=Tryz.zeroValue246
 t139:=Tryz.underlying247
 a139:=Tryz.isAgg247
 z139:=Tryz.sizeOf247
 v139:=Tryz.zeroValue247
 g3:=by kernel_rfl
 g4:=by kernel_rfl}
end Go.Proofs
namespace Go.Proofs.YtminjjdnmpaaoaaGreatDoor
open Go.RowKit
def flat1:DataW Unit→List Value
 | .lit (.int k n)=>[.int k n]
 | _=>[]
def flat2:DataW Unit→List Value
 | .agg l=>(l.map flat1).flatten
 | d=>flat1 d
def flat3:DataW Unit→List Value
 | .agg l=>(l.map flat2).flatten
 | d=>flat2 d
def zMN (P:Program):List (String×DataW Unit)→Array Obj→Array Obj
 | [],h=>h
 | x::r,h=>zMN P r (match P.globalNamed x.1 with
   | some g=>h.modify g fun
     | .cells _ t fr=>.cells (flat3 x.2).toArray t fr
     | o=>o
   | none=>h)
noncomputable def zEj (P:Program) (l:List (String×DataW Unit)) (os:Os):World:=
 { World.holding P os ⟨#[],#[],[]⟩ with heap:=zMN P l (World.holding P os ⟨#[],#[],[]⟩).heap}
abbrev Tab (W:World):Prop:=Lib.TabIs Tryz.prog W "internal/strconv.uint64pow10" .u64 Lib.pow10Tab
theorem zAY {w W:World} (h:Tab w) (hb:Below w.heap.size w W):Tab W:=by
 unfold Tab Lib.TabIs World.var? at *
 cases hg:Tryz.prog.globalNamed "internal/strconv.uint64pow10" with
 | none=>rw[hg] at h;exact h
 | some g=>
   rw[hg] at h
   simp only[Option.bind_some] at *
   have hlt:g<w.heap.size:=by
    rcases Nat.lt_or_ge g w.heap.size with h'|h'
    ·exact h'
    ·rw[Array.getElem?_eq_none h'] at h;cases h
   rw[hb.block g hlt]
   exact h
end Go.Proofs.YtminjjdnmpaaoaaGreatDoor
namespace Go.Proofs.YtminjjdnmpaaoaaGreatDoor
def decB (u:Nat):ByteArray:=⟨(Lib.decDigits u).toArray⟩
theorem of48 (u:Nat):UInt8.ofNat (48+u)=48+UInt8.ofNat u:=by simp
theorem zFr {u:Nat} (h:u<10):decB u=⟨#[48+UInt8.ofNat u]⟩:=by unfold decB;rw[Lib.decDigits_one h,of48]
theorem zGk {u:Nat} (h:¬u<10):decB u=decB (u / 10)++⟨#[48+UInt8.ofNat (u % 10)]⟩:=by
 unfold decB
 rw[Lib.decDigits,dif_neg h,of48]
 apply ByteArray.ext
 simp[ByteArray.data_append]
theorem zKW:∀ (u:Nat),(decB u).size≤u+1:=by
 intro u
 induction u using Nat.strongRecOn with
 | _ u ih=>
   by_cases h:u<10
   ·rw[zFr h];show 1≤u+1;omega
   ·rw[zGk h,ByteArray.size_append]
    have:=ih (u / 10) (by omega)
    show (decB (u / 10)).size+1≤u+1
    omega
def itoaB (n:Int):ByteArray:=⟨(Lib.itoa n).toArray⟩
theorem zLJ {n:Int} (h:¬n<0):itoaB n=decB n.toNat:=by unfold itoaB Lib.itoa decB;rw[if_neg h]
end Go.Proofs.YtminjjdnmpaaoaaGreatDoor
namespace Go.Proofs.YtminjjdnmpaaoaaGreatDoor
open Go.Rows Go.RowKit Go.Shelf Go.Sort
theorem zGO (n:Int) (hn:I64 n) (W:World) (ht:Tab W):Calls Tryz.prog 173 #[.int .i64 n] W fun e w'=>e=.returned (.string (itoaB n))∧Below W.heap.size W w':=
 (Tryz.strconv_Itoa n hn.1 hn.2 W ht).mono fun e w' ⟨he,k,os,hw⟩=>⟨he,by rw[hw];exact Lib.below_grow _ _ (nR _) _ _⟩
