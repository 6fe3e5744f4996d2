/-
  Readings of cells as data, over any program: what is proved here is that a reading stays as long as the blocks that it meets stay.
-/
import Derived.Below
import Derived.Calls
import Derived.Laws.AppendOwn
import Derived.Laws.OwnMore
import Derived.Deep.Draws
import Derived.Test.YthbnmehbhpakaaaGreatDoorAl
set_option linter.all false
namespace Go.Proofs.YthbnmehbhpakaaaGreatDoor
open Go.RowKit
structure Rp (α:Type) where
 size:Nat
 holds:World→(Nat→Prop)→α→List Value→Prop
 len:∀ {w S x cs},holds w S x cs→cs.length=size
 one:∀ {w S x cs},holds w S x cs→∀ u∈cs,u.oneCell'=true
 mono:∀ {w w' S S' x cs},holds w S x cs→(∀ b,S b→b<w.heap.size→S' b∧w'.heap[b]?=w.heap[b]?)→holds w' S' x cs
def I64 (n:Int):Prop:=-9223372036854775808≤n∧n≤9223372036854775807
def rInt:Rp Int where
 size:=1
 holds:=fun _ _ x cs=>cs=[.int .i64 x]∧I64 x
 len:=fun h=>by rw[h.1];rfl
 one:=fun h=>by rw[h.1];simp[Value.oneCell']
 mono:=fun h _=>h
def rBool:Rp Bool where
 size:=1
 holds:=fun _ _ x cs=>cs=[.bool x]
 len:=fun h=>by rw[h];rfl
 one:=fun h=>by rw[h];simp[Value.oneCell']
 mono:=fun h _=>h
def rStr:Rp ByteArray where
 size:=1
 holds:=fun _ _ x cs=>cs=[.string x]∧x.size≤maxLen
 len:=fun h=>by rw[h.1];rfl
 one:=fun h=>by rw[h.1];simp[Value.oneCell']
 mono:=fun h _=>h
theorem zAI {w w':World} {b:Nat} (h:w'.heap[b]?=w.heap[b]?) (o:Nat) (s:Option Nat):w'.cell? ⟨b,o,s⟩=w.cell? ⟨b,o,s⟩:=by
 simp[World.cell?,h]
theorem zBr {w w':World} {b:Nat} (h:w'.heap[b]?=w.heap[b]?) (o:Nat) (s:Option Nat):w'.frozen? ⟨b,o,s⟩=w.frozen? ⟨b,o,s⟩:=by
 simp[World.frozen?,h]
theorem zAE {w:World} {b o:Nat} {v:Value} (h:w.cell? ⟨b,o,none⟩=some v):b<w.heap.size:=World.block_lt_of_cell? w _ h
def Row {α:Type} (r:Rp α) (w:World) (S:Nat→Prop) (b o:Nat) (l:List α):Prop:=
 S b∧b<w.heap.size∧∀ (i:Nat) (x:α),l[i]?=some x→∃ cs,r.holds w S x cs∧∀ (j:Nat) (u:Value),cs[j]?=some u→w.cell? ⟨b,o+i * r.size+j,none⟩=some u
theorem Row.mono {α:Type} {r:Rp α} {w w':World} {S S':Nat→Prop} {b o:Nat} {l:List α} (h:Row r w S b o l)
  (hk:∀ b,S b→b<w.heap.size→S' b∧w'.heap[b]?=w.heap[b]?):Row r w' S' b o l:=by
 obtain ⟨h1,h2,h3⟩:=h
 have hb:=hk b h1 h2
 have hlt:b<w'.heap.size:=by
  have:w.heap[b]?=some w.heap[b]:=Array.getElem?_eq_getElem h2
  rw[this] at hb
  exact (aS.1 hb.2).1
 refine ⟨hb.1,hlt,fun i x hx=>?_⟩
 obtain ⟨cs,hc,hcell⟩:=h3 i x hx
 exact ⟨cs,r.mono hc hk,fun j u hu=>(zAI hb.2 _ _).trans (hcell j u hu)⟩
def zAL {α:Type} (r:Rp α):Rp (List α) where
 size:=1
 holds:=fun w S l cs=>∃ (A:Option Addr) (c:Nat),cs=[.slice A l.length c]∧l.length≤c∧c≤maxLen∧(A=none→c=0) ∧
  (0<l.length→∃ b o,A=some ⟨b,o,none⟩∧Row r w S b o l)
 len:=fun ⟨_,_,h,_⟩=>by rw[h];rfl
 one:=fun ⟨_,_,h,_⟩=>by rw[h];simp[Value.oneCell']
 mono:=fun ⟨A,c,h1,h2,h3,h4,h5⟩ hk=>⟨A,c,h1,h2,h3,h4,fun hn=>by
  obtain ⟨b,o,hA,hr⟩:=h5 hn
  exact ⟨b,o,hA,hr.mono hk⟩⟩
def SlV {α:Type} (r:Rp α) (w:World) (S:Nat→Prop) (l:List α) (v:Value):Prop:=(zAL r).holds w S l [v]
section
variable {α:Type} {r:Rp α} {w w':World} {S S':Nat→Prop} {l:List α} {A:Option Addr} {n c:Nat}
theorem SlV.nil_ (r:Rp α) (w:World) (S:Nat→Prop):SlV r w S [] (.slice none 0 0):=
 ⟨none,0,rfl,by simp,by simp[maxLen],fun _=>rfl,fun h=>absurd h (by simp)⟩
theorem SlV.val {v:Value} (h:SlV r w S l v):∃ A c,v=.slice A l.length c∧l.length≤c∧c≤maxLen:=by
 obtain ⟨A,c,h1,h2,h3,_⟩:=h
 exact ⟨A,c,by simpa using h1,h2,h3⟩
theorem SlV.elem (h:SlV r w S l (.slice A n c)) {i:Nat} {x:α} (hx:l[i]?=some x) :
  ∃ b o cs,A=some ⟨b,o,none⟩∧S b∧b<w.heap.size∧r.holds w S x cs∧∀ (j:Nat) (u:Value),cs[j]?=some u→w.cell? ⟨b,o+i * r.size+j,none⟩=some u:=by
 obtain ⟨A',c',h1,h2,h3,_,h5⟩:=h
 simp only[List.cons.injEq,Value.slice.injEq,and_true] at h1
 obtain ⟨rfl,_,rfl⟩:=h1
 have hlt:i<l.length:=(gS.1 hx).1
 obtain ⟨b,o,hA,hS,hb,hr⟩:=h5 (by omega)
 obtain ⟨cs,hc,hcell⟩:=hr i x hx
 exact ⟨b,o,cs,hA,hS,hb,hc,hcell⟩
theorem SlV.n_eq (h:SlV r w S l (.slice A n c)):n=l.length:=by
 obtain ⟨A',c',h1,_⟩:=h
 simp only[List.cons.injEq,Value.slice.injEq,and_true] at h1
 exact h1.2.1
theorem SlV.cap_le (h:SlV r w S l (.slice A n c)):l.length≤c∧c≤maxLen:=by
 obtain ⟨A',c',h1,h2,h3,_⟩:=h
 simp only[List.cons.injEq,Value.slice.injEq,and_true] at h1
 obtain ⟨_,_,rfl⟩:=h1
 exact ⟨h2,h3⟩
theorem SlV.none_ (h:SlV r w S l (.slice none n c)):l=[]∧c=0:=by
 obtain ⟨A',c',h1,h2,h3,h4,_⟩:=h
 simp only[List.cons.injEq,Value.slice.injEq,and_true] at h1
 obtain ⟨rfl,_,rfl⟩:=h1
 have:=h4 rfl
 exact ⟨List.eq_nil_of_length_eq_zero (by omega),this⟩
theorem Rp.keep {x:α} {cs:List Value} (h:r.holds w S x cs) (hk:∀ b,S b→b<w.heap.size→w'.heap[b]?=w.heap[b]?):r.holds w' S x cs:=
 r.mono h fun b hb hl=>⟨hb,hk b hb hl⟩
theorem Rp.more {x:α} {cs:List Value} (h:r.holds w S x cs) (hk:∀ b,S b→b<w.heap.size→S' b):r.holds w S' x cs:=
 r.mono h fun b hb hl=>⟨hk b hb hl,rfl⟩
theorem Rp.below {B:Nat} {x:α} {cs:List Value} (h:r.holds w S x cs) (hb:Below B w w') (hS:∀ b,S b→b<B):r.holds w' S x cs:=
 Rp.keep h fun b hs _=>hb.block b (hS b hs)
theorem Rp.belowSize {x:α} {cs:List Value} (h:r.holds w S x cs) (hb:Below w.heap.size w w'):r.holds w' S x cs:=
 Rp.keep h fun b _ hl=>hb.block b hl
theorem Rp.drew {x:α} {cs:List Value} (h:r.holds w S x cs):r.holds w.drew S x cs:=Rp.keep h fun _ _ _=>rfl
theorem Rp.drewN {x:α} {cs:List Value} (h:r.holds w S x cs) (k:Nat):r.holds (w.drewN k) S x cs:=Rp.keep h fun _ _ _=>rfl
theorem Rp.alloc {x:α} {cs:List Value} (h:r.holds w S x cs) (o:Obj):r.holds (w.alloc o) S x cs:=
 Rp.keep h fun b _ hl=>Below.heap_alloc w o b hl
theorem SlV.keep {v:Value} (h:SlV r w S l v) (hk:∀ b,S b→b<w.heap.size→w'.heap[b]?=w.heap[b]?):SlV r w' S l v:=Rp.keep h hk
theorem SlV.more {v:Value} (h:SlV r w S l v) (hk:∀ b,S b→b<w.heap.size→S' b):SlV r w S' l v:=Rp.more h hk
theorem SlV.below {B:Nat} {v:Value} (h:SlV r w S l v) (hb:Below B w w') (hS:∀ b,S b→b<B):SlV r w' S l v:=Rp.below h hb hS
theorem SlV.belowSize {v:Value} (h:SlV r w S l v) (hb:Below w.heap.size w w'):SlV r w' S l v:=Rp.belowSize h hb
theorem SlV.drew {v:Value} (h:SlV r w S l v):SlV r w.drew S l v:=Rp.drew h
theorem SlV.drewN {v:Value} (h:SlV r w S l v) (k:Nat):SlV r (w.drewN k) S l v:=Rp.drewN h k
theorem SlV.alloc {v:Value} (h:SlV r w S l v) (o:Obj):SlV r (w.alloc o) S l v:=Rp.alloc h o
end
