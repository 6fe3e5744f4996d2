/- Rows of the call's own whose elements read as data: what append, new blocks and draws leave of them; over any program. -/
import Derived.Test.YtminjjdnmpaaoaaGreatDoorOn01
import Derived.WalkKit
import Derived.Deep.AppendLies
import Derived.Maps.AppendAt
import Derived.Lib.QuietBelow
import Derived.BigQuiet
import Derived.StillTail
import Derived.Laws.Strings
import Derived.Test.YtminjjdnmpaaoaaGreatDoorRows
import Derived.Lib.AppendIntMem
import Derived.Laws.Concat
import Derived.Laws.StructEq
import Derived.WalkSpells
import Derived.WalkLawsBesides
import Derived.Deep.RegionHeld3
import Derived.IntWalk
import Derived.Lib.Hide
import Derived.KernelRfl
import Derived.Test.YtminjjdnmpaaoaaGreatDoorAl
set_option linter.all false
set_option maxHeartbeats 800000
set_option maxRecDepth 100000
namespace Go.Proofs.YtminjjdnmpaaoaaGreatDoor
open Go.RowKit
theorem zAA {B:Nat} {w w':World} (h:Below B w w') {b o:Nat} {v:Value} (hc:w.cell? ⟨b,o,none⟩=some v) (hb:b<B):w'.cell? ⟨b,o,none⟩=some v:=
 (h.cell (p:=⟨b,o,none⟩) hb).trans hc
def Elt (P:Program) (e:TypeId) (size bytes:Nat):Prop:=
 ∃ (i:TypeInfo) (z:Value),P.info? e=some i∧i.zero=some z∧i.size=size∧i.bytes=bytes∧z.cells.size=size∧0<size
theorem Elt.mk' {P:Program} {e:TypeId} {z:Value} {size bytes:Nat} (h:(P.info? e).map (fun i=>(i.zero,i.size,i.bytes))=some (some z,size,bytes)) (hz:z.cells.size=size) (hs:0<size):Elt P e size bytes:=by
 obtain ⟨i,h1,h2,h3,h4⟩:=info_parts h
 exact ⟨i,z,h1,h2,h3,h4,hz,hs⟩
def Elems {α:Type} (r:Rp α) (w:World) (S:Nat→Prop):List α→List Value→Prop
 | [],xs=>xs=[]
 | x::l,xs=>∃ cs rest,xs=cs++rest∧r.holds w S x cs∧Elems r w S l rest
section
variable {α:Type} {r:Rp α} {w w':World} {S S':Nat→Prop} {l:List α} {xs:List Value}
theorem Elems.mono (hk:∀ b,S b→b<w.heap.size→S' b∧w'.heap[b]?=w.heap[b]?):∀ {l:List α} {xs:List Value},Elems r w S l xs→Elems r w' S' l xs:=by
 intro l
 induction l with
 | nil=>intro xs h;exact h
 | cons x l ih=>intro xs h;obtain ⟨cs,rest,h1,h2,h3⟩:=h;exact ⟨cs,rest,h1,r.mono h2 hk,ih h3⟩
theorem Elems.length:∀ {l:List α} {xs:List Value},Elems r w S l xs→xs.length=l.length * r.size:=by
 intro l
 induction l with
 | nil=>intro xs h;rw[show xs=[] from h];simp
 | cons x l ih=>
   intro xs h
   obtain ⟨cs,rest,h1,h2,h3⟩:=h
   rw[h1,List.length_append,r.len h2,ih h3,List.length_cons,Nat.succ_mul,Nat.add_comm]
theorem Elems.append {k:List α} {ys:List Value} (hk:Elems r w S k ys):∀ {l:List α} {xs:List Value},Elems r w S l xs→Elems r w S (l++k) (xs++ys):=by
 intro l
 induction l with
 | nil=>intro xs h;rw[show xs=[] from h];exact hk
 | cons x l ih=>intro xs h;obtain ⟨cs,rest,h1,h2,h3⟩:=h;exact ⟨cs,rest++ys,by rw[h1,List.append_assoc],h2,ih h3⟩
theorem Elems.one_ {x:α} {cs:List Value} (h:r.holds w S x cs):Elems r w S [x] cs:=⟨cs,[],by simp,h,rfl⟩
theorem Elems.get:∀ {l:List α} {xs:List Value},Elems r w S l xs→∀ (i:Nat) (x:α),l[i]?=some x→∃ cs,r.holds w S x cs∧∀ (j:Nat) (u:Value),cs[j]?=some u→xs[i * r.size+j]?=some u:=by
 intro l
 induction l with
 | nil=>intro xs _ i x hx;simp at hx
 | cons y l ih=>
   intro xs h i x hx
   obtain ⟨cs,rest,h1,h2,h3⟩:=h
   have hl:=r.len h2
   cases i with
   | zero=>
     simp only[List.getElem?_cons_zero,Option.some.injEq] at hx
     subst hx
     refine ⟨cs,h2,fun j u hu=>?_⟩
     have:j<cs.length:=(gS.1 hu).1
     rw[h1,Nat.zero_mul,Nat.zero_add,List.getElem?_append_left this,hu]
   | succ i=>
     simp only[List.getElem?_cons_succ] at hx
     obtain ⟨cs',h4,h5⟩:=ih h3 i x hx
     refine ⟨cs',h4,fun j u hu=>?_⟩
     rw[h1,List.getElem?_append_right (by rw[hl,Nat.succ_mul];omega),hl,show (i+1) * r.size+j - r.size=i * r.size+j from by rw[Nat.succ_mul];omega]
     exact h5 j u hu
theorem Elems.one_cell:∀ {l:List α} {xs:List Value},Elems r w S l xs→∀ u∈xs,u.oneCell'=true:=by
 intro l
 induction l with
 | nil=>intro xs h;rw[show xs=[] from h];simp
 | cons x l ih=>
   intro xs h u hu
   obtain ⟨cs,rest,h1,h2,h3⟩:=h
   rw[h1,List.mem_append] at hu
   rcases hu with hu|hu
   ·exact r.one h2 u hu
   ·exact ih h3 u hu
def Own (r:Rp α) (w:World) (base:Nat) (e:TypeId) (v:Value) (l:List α) (S:Nat→Prop):Prop:=
 (∀ b,S b→b<w.heap.size∧v.ownBlock≠some b)∧∃ xs,w.ownsRow base e r.size v l.length xs∧Elems r w S l xs
variable {base:Nat} {e:TypeId} {v:Value}
theorem Own.nil_ (r:Rp α) (w:World) (base:Nat) (e:TypeId) (hS:∀ b,S b→b<w.heap.size):Own r w base e (.slice none 0 0) [] S:=
 ⟨fun b hb=>⟨hS b hb,by simp[Value.ownBlock]⟩,[],World.ownsRow_nil _ _ _ _,rfl⟩
theorem Own.lt (h:Own r w base e v l S):∀ k,v.ownBlock=some k→base≤k∧k<w.heap.size:=by
 obtain ⟨_,xs,h1,_⟩:=h
 exact h1.lt
theorem Own.grown {row:Option Nat} (h:Own r w base e v l S) (hg:w.grownBy w' row) (hne:v.ownBlock=none∨v.ownBlock≠row) (hS:∀ b,S b→some b≠row):Own r w' base e v l S:=by
 obtain ⟨h0,xs,h1,h2⟩:=h
 exact ⟨fun b hb=>⟨lL (h0 b hb).1 hg.size,(h0 b hb).2⟩,xs,h1.kept hg hne,h2.mono fun b hb hl=>⟨hb,hg.block b hl (hS b hb)⟩⟩
theorem Own.keep (h:Own r w base e v l S) (hb:Below w.heap.size w w'):Own r w' base e v l S:=
 h.grown (row:=none) ⟨hb.os,hb.tape,hb.output,hb.size,fun k hk _=>hb.block k hk⟩ (by cases hv:v.ownBlock<;>simp) (fun b _=>by simp)
theorem Own.alloc (h:Own r w base e v l S) (o:Obj):Own r (w.alloc o) base e v l S:=h.keep ((bR _ _).alloc (nR _) o)
theorem Own.drew (h:Own r w base e v l S):Own r w.drew base e v l S:=h.keep (bR _ _).drew
theorem Own.drewN (h:Own r w base e v l S) (n:Nat):Own r (w.drewN n) base e v l S:=h.keep ⟨rfl,rfl,rfl,nR _,fun _ _=>rfl⟩
theorem Own.more (h:Own r w base e v l S) (hS:∀ b,S' b→b<w.heap.size∧v.ownBlock≠some b) (hSS:∀ b,S b→S' b):Own r w base e v l S':=by
 obtain ⟨h0,xs,h1,h2⟩:=h
 exact ⟨hS,xs,h1,h2.mono fun b hb _=>⟨hSS b hb,rfl⟩⟩
theorem Own.moreNew (h:Own r w base e v l S) {B:Nat} (hB:∀ k,v.ownBlock=some k→k<B):Own r w base e v l (fun b=>S b∨(B≤b∧b<w.heap.size)):=
 h.more (fun b hb=>by
  rcases hb with hb|hb
  ·exact h.1 b hb
  ·exact ⟨hb.2,fun he=>by have:=hB b he;omega⟩) (fun b hb=>.inl hb)
theorem Own.slv (h:Own r w base e v l S):SlV r w (fun b=>S b∨base≤b) l v:=by
 obtain ⟨h0,xs,h1,h2⟩:=h
 have h1':=h1
 rcases h1.2 with ⟨rfl,hn⟩|⟨g,cap,cur,rfl,hb,hg,hnc,hcm,hsz,htake⟩
 ·have:l=[]:=List.eq_nil_of_length_eq_zero hn
  subst this
  exact SlV.nil_ _ _ _
 ·refine ⟨some ⟨g,0,none⟩,cap,rfl,hnc,hcm,(fun h=>by cases h),fun _=>⟨g,0,rfl,.inr hb,(aS.1 hg).1,fun i x hx=>?_⟩⟩
  obtain ⟨cs,hc,hcell⟩:=h2.get i x hx
  refine ⟨cs,r.mono hc fun b hb _=>⟨.inl hb,rfl⟩,fun j u hu=>?_⟩
  have h3:=h1'.cells (g:=g) rfl _ u (hcell j u hu)
  have hadd:∀ k,(⟨g,0,none⟩:Addr).add k=⟨g,k,none⟩:=fun k=>by unfold Addr.add;split<;>simp_all
  rw[hadd] at h3
  rw[Nat.zero_add]
  exact h3
section
variable {P:Program} {ops:Array Oper} {o:Oper} {a:Act} {K:Act→World→Prop} {Q:Exit→Act→World→Prop} {bytes:Nat}
theorem zJ6 (hgd:o.guard=none) (s x:Operand) (t:TypeId) (ho:o.op=.call { callee:=.builtin .append,args:=#[s,x],argTypes:=#[t,t]})
  (E:Elt P e r.size bytes) (ht:P.underlying t=some (.slice e)) (hs:a.eval s=v) (hown:Own r w base e v l S)
  (ad:Addr) (c:Nat) (cs:List Value) (y:α) (hx:a.eval x=.slice (some ad) 1 c) (hy:r.holds w S y cs) (hnews:∀ j u,cs[j]?=some u→w.cell? (ad.add j)=some u)
  (h63:l.length+1≤maxLen) (hbytes:(l.length+1) * bytes≤140737488355328) (hbase:base≤w.heap.size) (H:Nat) (hH:w.heap.size=H)
  (h:∀ g cap w',Own r w' base e (.slice (some ⟨g,0,none⟩) (l.length+1) cap) (l++[y]) S→w.grownBy w' v.ownBlock→(v.ownBlock=some g∨g=H)→g<w'.heap.size→K (a.put o.dst (.slice (some ⟨g,0,none⟩) (l.length+1) cap)) w') :
  o.wp P a w K Q:=by
 obtain ⟨i,z,hi,hz,hsz,hby,hzs,hpos⟩:=E
 obtain ⟨h0,xs,h1,h2⟩:=hown
 refine wp_append_lies w s x t ho base e i z r.size bytes ht hi hz hsz hby hzs hpos v l.length xs hs h1 ad 1 c cs hx (by rw[r.len hy,Nat.one_mul]) hnews (r.one hy) (by omega) h63 hbytes hbase H hH ?_
 intro g cap w' hown' hgrow hat hlt
 have hSk:∀ b,S b→b<w.heap.size→S b∧w'.heap[b]?=w.heap[b]?:=fun b hb hl=>⟨hb,hgrow.block b hl (Ne.symm (h0 b hb).2)⟩
 refine h g cap w' ⟨fun b hb=>⟨lL (h0 b hb).1 hgrow.size,?_⟩,xs++cs,by simpa using hown',Elems.append (Elems.one_ (r.mono hy hSk)) (h2.mono hSk)⟩ hgrow hat hlt
 intro he
 have hgb:g=b:=by simpa [Value.ownBlock] using he
 subst hgb
 rcases hat with hat|hat
 ·exact (h0 g hb).2 hat
 ·have:=(h0 g hb).1;omega
theorem zB1 {E':Prop} (hgd:o.guard=none) (s x:Operand) (t:TypeId) (ho:o.op=.call { callee:=.builtin .append,args:=#[s,x],argTypes:=#[t,t]})
  (E:Elt P e r.size bytes) (ht:P.underlying t=some (.slice e)) (hs:a.eval s=v) (hown:Own r w base e v l S)
  (ad:Addr) (c:Nat) (cs:List Value) (y:α) (hx:a.eval x=.slice (some ad) 1 c) (hy:r.holds w S y cs) (hnews:∀ j u,cs[j]?=some u→w.cell? (ad.add j)=some u)
  (h63:l.length+1≤maxLen) (hbytes:(l.length+1) * bytes≤140737488355328) (hbase:base≤w.heap.size) (H:Nat) (hH:w.heap.size=H)
  (h:∀ g cap w',Own r w' base e (.slice (some ⟨g,0,none⟩) (l.length+1) cap) (l++[y]) S→w.grownBy w' v.ownBlock→(v.ownBlock=some g∨g=H)→g<w'.heap.size→K (a.put o.dst (.slice (some ⟨g,0,none⟩) (l.length+1) cap)) w') :
  if Region.wanted o (yielded ops a.tmps)=true then Oper.wp P o a w K Q else E':=by
 have hw:Region.wanted o (yielded ops a.tmps)=true:=by simp[Region.wanted,hgd]
 rw[if_pos hw]
 exact zJ6 hgd s x t ho E ht hs hown ad c cs y hx hy hnews h63 hbytes hbase H hH h
theorem zAK {rest:List Oper} (hgd:o.guard=none) (s x:Operand) (t:TypeId) (ho:o.op=.call { callee:=.builtin .append,args:=#[s,x],argTypes:=#[t,t]})
  (E:Elt P e r.size bytes) (ht:P.underlying t=some (.slice e)) (hs:a.eval s=v) (hown:Own r w base e v l S)
  (ad:Addr) (c:Nat) (cs:List Value) (y:α) (hx:a.eval x=.slice (some ad) 1 c) (hy:r.holds w S y cs) (hnews:∀ j u,cs[j]?=some u→w.cell? (ad.add j)=some u)
  (h63:l.length+1≤maxLen) (hbytes:(l.length+1) * bytes≤140737488355328) (hbase:base≤w.heap.size) (H:Nat) (hH:w.heap.size=H)
  (h:∀ g cap w',Own r w' base e (.slice (some ⟨g,0,none⟩) (l.length+1) cap) (l++[y]) S→w.grownBy w' v.ownBlock→(v.ownBlock=some g∨g=H)→g<w'.heap.size→wpList P ops Q rest (a.put o.dst (.slice (some ⟨g,0,none⟩) (l.length+1) cap)) w') :
  wpList P ops Q (o::rest) a w:=
 wpList_plain hgd fun _ hK=>zJ6 hgd s x t ho E ht hs hown ad c cs y hx hy hnews h63 hbytes hbase H hH fun g cap w' h1 h2 h3 h4=>hK _ _ (h g cap w' h1 h2 h3 h4)
end
theorem Elems.of_cells (w:World) (S:Nat→Prop) (b:Nat):∀ (k:List α) (o:Nat),(∀ (i:Nat) (x:α),k[i]?=some x→∃ cs,r.holds w S x cs∧∀ (j:Nat) (u:Value),cs[j]?=some u→w.cell? ⟨b,o+i * r.size+j,none⟩=some u) →
  ∃ news,Elems r w S k news∧∀ (j:Nat) (u:Value),news[j]?=some u→w.cell? ⟨b,o+j,none⟩=some u:=by
 intro k
 induction k with
 | nil=>intro o _;exact ⟨[],rfl,by simp⟩
 | cons x k ih=>
   intro o h
   obtain ⟨cs,h1,h2⟩:=h 0 x rfl
   obtain ⟨rest,h3,h4⟩:=ih (o+r.size) (fun i y hy=>by
    obtain ⟨cs',h5,h6⟩:=h (i+1) y hy
    refine ⟨cs',h5,fun j u hu=>?_⟩
    have:=h6 j u hu
    rw[Nat.succ_mul] at this
    rw[show o+r.size+i * r.size+j=o+(i * r.size+r.size)+j from by omega]
    exact this)
   refine ⟨cs++rest,⟨cs,rest,rfl,h1,h3⟩,fun j u hu=>?_⟩
   have hl:=r.len h1
   by_cases hj:j<cs.length
   ·rw[List.getElem?_append_left hj] at hu
    simpa using h2 j u hu
   ·rw[List.getElem?_append_right (by omega),hl] at hu
    have:=h4 _ _ hu
    rw[show o+r.size+(j - r.size)=o+j from by omega] at this
    exact this
theorem zER (b o j:Nat):(⟨b,o,none⟩:Addr).add j=⟨b,o+j,none⟩:=by unfold Addr.add;split<;>simp_all
theorem SlV.of_block {g:Nat} {cs:Array Value} {t:TypeId} {fr:Nat×Nat} (hh:w.heap[g]?=some (.cells cs t fr)) (hE:Elems r w S l cs.toList) (hS:S g) {n c:Nat} (hn:n=l.length) (hc:l.length≤c) (hm:c≤maxLen) :
  SlV r w S l (.slice (some ⟨g,0,none⟩) n c):=by
 subst hn
 refine ⟨some ⟨g,0,none⟩,c,rfl,hc,hm,(fun h=>by cases h),fun _=>⟨g,0,rfl,hS,(aS.1 hh).1,fun i x hx=>?_⟩⟩
 obtain ⟨cs',h1,h2⟩:=hE.get i x hx
 refine ⟨cs',h1,fun j u hu=>?_⟩
 rw[cO w g _ cs t fr hh,Nat.zero_add]
 simpa using h2 j u hu
theorem zAD (w:World) (o:Obj):(w.alloc o).heap[w.heap.size]?=some o:=heap_alloc_new w o
theorem zJV {P:Program} {t ty:TypeId} {bytes:Nat} (E:Elt P e r.size bytes) (ht:P.underlying t=some (.slice e)) (hown:Own r w base e v l S)
  {T:Nat→Prop} {k:List α} {A:Option Addr} {m c:Nat} (hx:SlV r w T k (.slice A m c)) (hT:∀ b,T b→v.ownBlock≠some b)
  (h63:l.length+k.length≤maxLen) (hbytes:(l.length+k.length) * bytes≤140737488355328) (hbase:base≤w.heap.size) :
  ∃ v' w',(Builtin.append_ #[t,t] ty #[v,.slice A m c]).run P w=.ok v' w'∧Own r w' base e v' (l++k) (fun b=>S b∨(T b∧b<w.heap.size))∧w.grownBy w' v.ownBlock∧(v'.ownBlock=v.ownBlock∨v'.ownBlock=some w.heap.size):=by
 obtain ⟨i,z,hi,hz,hsz,hby,hzs,hpos⟩:=E
 obtain ⟨h0,xs,h1,h2⟩:=hown
 have hm:=hx.n_eq
 rcases A with _|ad
 ·obtain ⟨rfl,rfl⟩:=hx.none_
  simp only[List.length_nil] at hm
  subst hm
  refine ⟨v,w,?_,⟨fun b hb=>by rcases hb with hb|hb;exact h0 b hb;exact ⟨hb.2,hT b hb.1⟩,xs,by simpa using h1,by rw[List.append_nil];exact h2.mono fun b hb _=>⟨.inl hb,rfl⟩⟩,⟨rfl,rfl,rfl,nR _,fun _ _ _=>rfl⟩,.inl rfl⟩
  rcases h1.2 with ⟨rfl,_⟩|⟨g,cap,cur,rfl,_,_,hnc,_⟩
  ·simp[Builtin.append_,run_underlying ht,sizeOf,typeInfo,hi,Builtin.lenOf,Builtin.firstCells]
  ·simp[Builtin.append_,run_underlying ht,sizeOf,typeInfo,hi,Builtin.lenOf,Builtin.firstCells,hnc,storeCells]
 ·obtain ⟨news,hnews,hcells⟩:∃ news,Elems r w T k news∧∀ (j:Nat) (u:Value),news[j]?=some u→w.cell? (ad.add j)=some u:=by
   rcases Nat.eq_zero_or_pos k.length with h|h
   ·have:k=[]:=List.eq_nil_of_length_eq_zero h
    subst this
    exact ⟨[],rfl,by simp⟩
   ·obtain ⟨A',c',g1,g2,g3,g4,g5⟩:=hx
    simp only[List.cons.injEq,Value.slice.injEq,and_true] at g1
    obtain ⟨b,o,hA,hr⟩:=g5 h
    rw[←g1.1] at hA
    injection hA with hA
    subst hA
    obtain ⟨news,q1,q2⟩:=Elems.of_cells w T b k o hr.2.2
    exact ⟨news,q1,fun j u hu=>by rw[zER];exact q2 j u hu⟩
  obtain ⟨v',w',hr,hown',hgrow,_,hat⟩:=run_append_own_at (P:=P) w base t ty e i z r.size bytes ht hi hz hsz hby hzs hpos v l.length xs h1 ad m c news (by rw[hnews.length,hm]) hcells hnews.one_cell (by omega) (by rw[hm];exact hbytes) hbase
  have hSk:∀ b,S b→b<w.heap.size→(S b∨(T b∧b<w.heap.size))∧w'.heap[b]?=w.heap[b]?:=fun b hb hl=>⟨.inl hb,hgrow.block b hl (Ne.symm (h0 b hb).2)⟩
  have hTk:∀ b,T b→b<w.heap.size→(S b∨(T b∧b<w.heap.size))∧w'.heap[b]?=w.heap[b]?:=fun b hb hl=>⟨.inr ⟨hb,hl⟩,hgrow.block b hl (Ne.symm (hT b hb))⟩
  refine ⟨v',w',hr,⟨fun b hb=>?_,xs++news,by rw[List.length_append,←hm];exact hown',Elems.append (hnews.mono hTk) (h2.mono hSk)⟩,hgrow,hat⟩
  have hbl:b<w.heap.size:=by rcases hb with hb|hb;exact (h0 b hb).1;exact hb.2
  refine ⟨lL hbl hgrow.size,?_⟩
  rcases hat with hat|hat<;>rw[hat]
  ·rcases hb with hb|hb
   ·exact (h0 b hb).2
   ·exact hT b hb.1
  ·intro he
   injection he with he
   omega
section
variable {P:Program} {ops:Array Oper} {o:Oper} {a:Act} {K:Act→World→Prop} {Q:Exit→Act→World→Prop} {bytes:Nat}
theorem zKS (hgd:o.guard=none) (s x:Operand) (t:TypeId) (ho:o.op=.call { callee:=.builtin .append,args:=#[s,x],argTypes:=#[t,t]})
  (E:Elt P e r.size bytes) (ht:P.underlying t=some (.slice e)) (hs:a.eval s=v) (hown:Own r w base e v l S)
  (T:Nat→Prop) (k:List α) (A:Option Addr) (m c:Nat) (hxv:a.eval x=.slice A m c) (hx:SlV r w T k (.slice A m c)) (hT:∀ b,T b→v.ownBlock≠some b)
  (h63:l.length+k.length≤maxLen) (hbytes:(l.length+k.length) * bytes≤140737488355328) (hbase:base≤w.heap.size)
  (h:∀ v' w',Own r w' base e v' (l++k) (fun b=>S b∨(T b∧b<w.heap.size))→w.grownBy w' v.ownBlock→(v'.ownBlock=v.ownBlock∨v'.ownBlock=some w.heap.size)→K (a.put o.dst v') w'):o.wp P a w K Q:=by
 obtain ⟨v',w',hr,h2,h3,h4⟩:=zJV (P:=P) (t:=t) (ty:=o.type) E ht hown hx hT h63 hbytes hbase
 unfold Oper.wp execOp
 simp only[ho,resolve,invoke,builtin,Sem.run_bind,Sem.run_pure,Result.andThen_ok,List.map_toArray,List.map_cons,List.map_nil,hs,hxv,hr]
 exact h v' w' h2 h3 h4
theorem zAS {rest:List Oper} (hgd:o.guard=none) (s x:Operand) (t:TypeId) (ho:o.op=.call { callee:=.builtin .append,args:=#[s,x],argTypes:=#[t,t]})
  (E:Elt P e r.size bytes) (ht:P.underlying t=some (.slice e)) (hs:a.eval s=v) (hown:Own r w base e v l S)
  (T:Nat→Prop) (k:List α) (A:Option Addr) (m c:Nat) (hxv:a.eval x=.slice A m c) (hx:SlV r w T k (.slice A m c)) (hT:∀ b,T b→v.ownBlock≠some b)
  (h63:l.length+k.length≤maxLen) (hbytes:(l.length+k.length) * bytes≤140737488355328) (hbase:base≤w.heap.size)
  (h:∀ v' w',Own r w' base e v' (l++k) (fun b=>S b∨(T b∧b<w.heap.size))→w.grownBy w' v.ownBlock→(v'.ownBlock=v.ownBlock∨v'.ownBlock=some w.heap.size)→wpList P ops Q rest (a.put o.dst v') w') :
  wpList P ops Q (o::rest) a w:=
 wpList_plain hgd fun _ hK=>zKS hgd s x t ho E ht hs hown T k A m c hxv hx hT h63 hbytes hbase fun v' w' h1 h2 h3=>hK _ _ (h v' w' h1 h2 h3)
end
theorem Own.empty (r:Rp α) (w:World) (base:Nat) (e:TypeId) (hb:base≤w.heap.size):Own r (w.alloc (.cells #[] e)) base e (.slice (some ⟨w.heap.size,0,none⟩) 0 0) [] (fun _=>False):=
 ⟨fun b hb=>hb.elim,[],World.ownsRow_made w #[] 0 hb (by simp[maxLen]) (by simp),rfl⟩
def zC1 (P:Program) (f:FuncId):Prop:=∀ (args:Array Value) (w:World),(callFunc f args).run P w=.ok (.enter f args) w
theorem zCB {P:Program} {f:FuncId} {fn:Func} {c:Code} (hf:P.funcs[f]?=some fn) (hname:(fn.name== "runtime.NumGoroutine")=false) (hb:fn.body=some c):zC1 P f:=by
 intro args w
 have h1:fn.name≠ "runtime.NumGoroutine":=by simpa using hname
 simp[callFunc,hf,h1,hb,mark]
theorem zAn (w:World) (cs:Array Value) (t:TypeId):∀ (j:Nat) (u:Value),cs.toList[j]?=some u→(w.alloc (.cells cs t)).cell? ((⟨w.heap.size,0,none⟩:Addr).add j)=some u:=by
 intro j u hu
 have hadd:(⟨w.heap.size,0,none⟩:Addr).add j=⟨w.heap.size,j,none⟩:=by unfold Addr.add;split<;>simp_all
 rw[hadd,cO _ _ j cs t (0,0) (heap_alloc_new w _)]
 simpa using hu
end
end Go.Proofs.YtminjjdnmpaaoaaGreatDoor
namespace Go.Proofs.YtminjjdnmpaaoaaGreatDoor
open Go.RowKit Go.Sort
theorem qcall {P:Program} {f:FuncId} {args:Array Value} {w:World} {v:Value}
  (h:∀ W,Below w.heap.size w W→Calls P f args W fun e w'=>e=.returned v∧Below W.heap.size W w') :
  ∀ d os,Calls P f args (grow (redrawn w d) os) fun e w''=>e=.returned v∧∃ p:Regrown,w''=grow (redrawn w p.d) p.os:=
 fun d os=>Calls.regrown_of (h _ (below_regrown w d os))
section
variable {P:Program} {ops:Array Oper} {md:Region.Mode} {C:World→Prop}
def headQ (P:Program) (md:Region.Mode) (ops:Array Oper) (C:World→Prop) (n:Nat) (L:Array Bool→Act→Prop):Nat→Array Bool→Act→Prop
 | 0,listed,a=>L listed a
 | f+1,listed,a=>Region.ready md ops listed≠[]∧∀ i∈Region.ready md ops listed,i<n∧qOp P ops C i (headQ P md ops C n L f (listed.setIfInBounds i true)) a
theorem zKQ {n g:Nat} {L:Array Bool→Act→Prop} {Q:Exit→Act→World→Prop} (hL:∀ listed a w,C w→L listed a→wpAny P md ops Q g listed a w)
  (f:Nat):∀ (listed:Array Bool) (a:Act) (w:World),C w→headQ P md ops C n L f listed a→wpAny P md ops Q (f+g) listed a w:=by
 induction f with
 | zero=>intro listed a w hw h;rw[Nat.zero_add];exact hL _ _ _ hw h
 | succ f ih=>
   intro listed a w hw h
   rw[show f+1+g=(f+g)+1 from by omega]
   exact ⟨fun h0=>absurd h0 h.1,fun i hi=>wpOp_of_qOp hw (fun a' w' hw' h'=>ih _ a' w' hw' h') (h.2 i hi).2⟩
theorem zHm {n i:Nat} {oi:Oper} {v:Value} {L:Array Bool→Act→Prop} (hi:ops[i]?=some oi) (hsel:∀ (j:Nat) (o:Oper) cs b,ops[j]?=some o→o.op≠.select cs b)
  (hs:Region.sinkB md ops n=true) (hc:Region.chainB md ops n=true) (hn:n<ops.size) (hin:i<n) (hdone:∀ listed a,L listed a→∀ j∈Region.ready md ops listed,n≤j) (f:Nat) :
  ∀ (listed:Array Bool) (a:Act),HeadInv md ops n listed →
    (∀ j oj,ops[j]?=some oj→j≠i→listed.getD j true=false→(∀ e∈oj.after,Region.binds md e=true→e.on≠i)→oi.apart ops oj=true) →
    i∈Region.ready md ops listed→YieldsIn P ops C oi v a →
    headQ P md ops C n L f (listed.setIfInBounds i true) (a.put oi.dst v)→headQ P md ops C n L (f+1) listed a:=by
 induction f with
 | zero=>
   intro listed a inv _ hr hy H
   refine ⟨fun h=>(by rw[h] at hr;cases hr),fun j hj=>?_⟩
   have hjn:j<n:=Nat.lt_of_not_le fun h=>tail_waits hs hc hn inv _ i rfl hin (mem_ready.1 hr).1 j h hj
   refine ⟨hjn,?_⟩
   by_cases hji:j=i
   ·subst hji;exact hy.qOp hi H
   ·exact absurd (hdone _ _ H j (ready_mono hj hji)) (by omega)
 | succ f ih=>
   intro listed a inv hfree hr hy H
   refine ⟨fun h=>(by rw[h] at hr;cases hr),fun j hj=>?_⟩
   have hjn:j<n:=Nat.lt_of_not_le fun h=>tail_waits hs hc hn inv _ i rfl hin (mem_ready.1 hr).1 j h hj
   refine ⟨hjn,?_⟩
   by_cases hji:j=i
   ·subst hji;exact hy.qOp hi H
   ·obtain ⟨hjun,oj,hoj,hall⟩:=mem_ready.1 hj
    have hnot:∀ e∈oj.after,Region.binds md e=true→e.on≠i:=fun e he hb heq=>by
     have h1:=hall e he hb
     rw[heq,getD_both (mem_ready.1 hr).1] at h1
     cases h1
    have h2:=qOp_put hoj (hfree j oj hoj hji hjun hnot) (fun cs b=>hsel i oi cs b hi) (fun cs b=>hsel j oj cs b hoj) hy (H.2 j (ready_mono hj hji)).2
    refine qOp_mono (fun a' h3=>ih (listed.setIfInBounds j true) a' (inv.set hj hjn) (fun k ok hk hki hun hno=>hfree k ok hk hki ?_ hno) (ready_mono hr (Ne.symm hji)) h3.1 ?_) h2
    ·by_cases hjk:j=k
     ·subst hjk;exact hjun
     ·rw[getD_set_ne true hjk] at hun;exact hun
    ·rw[Array.setIfInBounds_comm _ _ hji]
     exact h3.2
theorem zK9 {n g:Nat} {Lq:Act→Prop} (hsel:Region.noSelect ops=true) (hs:Region.sinkB md ops n=true) (hc:Region.chainB md ops n=true) (hn:n<ops.size) (l:List Oper) :
  ∀ (k:Nat) (listed:Array Bool) (a:Act),(∀ j,j<l.length→l[j]?=ops[k+j]?)→k+l.length=n→HeadInv md ops n listed →
  Region.lexHead md ops g l.length k listed=true→wpQuiet P ops C Lq l a →
  headQ P md ops C n (fun listed' a'=>Region.seqB md ops g n listed'=true∧Lq a') l.length listed a:=by
 induction l with
 | nil=>
   intro k listed a _ hk _ hB h
   have hkn:k=n:=by simpa using hk
   subst hkn
   exact ⟨by simpa [Region.lexHead] using hB,h⟩
 | cons o l ih=>
   intro k listed a hl hk inv hB h
   have h0:ops[k]?=some o:=by simpa using (hl 0 (by simp)).symm
   simp only[List.length_cons,Region.lexHead,Bool.and_eq_true] at hB
   have hkn:k<n:=by simp only[List.length_cons] at hk;omega
   have hr:k∈Region.ready md ops listed:=by simpa using hB.1.1
   obtain ⟨v,hy,hK⟩:=yieldsIn_of_qOp (K:=wpQuiet P ops C Lq l) h0 (by unfold qOp;simp only[h0];exact h)
   exact zHm h0 (Region.noSelect_spec hsel) hs hc hn hkn (fun listed' a' hL=>seqB_ready hL.1) l.length listed a inv (Region.free_spec h0 hB.1.2) hr hy
    (ih (k+1) _ _ (fun j hj=>by have:=hl (j+1) (by simp;omega);simpa [Nat.add_assoc,Nat.add_comm 1 j] using this) (by simp only[List.length_cons] at hk;omega) (inv.set hr hkn) hB.2 hK)
theorem zDQ {id:Nat} {Q:Exit→Act→World→Prop} {a:Act} {w:World} {l:List Oper} (n:Nat) (hm:P.follows .mixedOrders=true) (hB:Region.lexTailB .any l.toArray n=true) (hC:C { w with drawn:=w.drawn+1})
  (h:wpQuiet P l.toArray C (fun a'=>∀ w',C w'→wpList P l.toArray Q (l.drop n) a' w') (l.take n) a):(Code.region id l.toArray true).wp P Q a w:=by
 simp only[Region.lexTailB,Bool.and_eq_true,decide_eq_true_eq] at hB
 obtain ⟨⟨⟨⟨hsel,hn⟩,hs⟩,hc⟩,hlex⟩:=hB
 have hn':n<l.length:=by simpa using hn
 have htl:(l.take n).length=n:=by simp;omega
 have hdl:(l.drop n).length=l.toArray.size - n:=by simp
 have inv0:HeadInv .any l.toArray n (Array.replicate l.toArray.size false):=
  ⟨by simp,fun j oj _ hl=>(by rw[getD_replicate_false] at hl;cases hl),fun t _ ht=>getD_in (by simpa using ht) (getD_replicate_false _ _)⟩
 have H:=zK9 (md:=.any) (g:=l.toArray.size - n) hsel hs hc hn (l.take n) 0 _ a (fun j hj=>by
  rw[htl] at hj
  simp[hj]) (by simpa using htl) inv0 (by rw[htl];exact hlex) h
 refine wp_region_any hm ?_
 have:=zKQ (Q:=Q) (g:=l.toArray.size - n) (fun listed a' w' hw' hL=>by
  have:=wpAny_of_seq (md:=.any) (Q':=Q) (l.drop n) n listed a' w' (fun j=>by simp[List.getElem?_drop]) (by rw[hdl];exact hL.1) (hL.2 w' hw')
  rwa [hdl] at this) _ _ _ _ hC H
 rw[htl,show n+(l.toArray.size - n)=l.toArray.size from by omega] at this
 exact this
theorem zDP {id:Nat} {Q:Exit→Act→World→Prop} {a:Act} {w:World} {l:List Oper} (n:Nat) (hm:P.follows .mixedOrders=true) (hB:Region.lexTailB .any l.toArray n=true)
  (h:wpQuiet P l.toArray (fun w'=>∃ p:Regrown,w'=grow (redrawn w p.d) p.os) (fun a'=>∀ w',(∃ p:Regrown,w'=grow (redrawn w p.d) p.os)→wpList P l.toArray Q (l.drop n) a' w') (l.take n) a):(Code.region id l.toArray true).wp P Q a w:=
 zDQ (C:=fun w'=>∃ p:Regrown,w'=grow (redrawn w p.d) p.os) n hm hB ⟨⟨w.drawn+1,#[]⟩,by rw[grow_empty];rfl⟩ h
theorem zFR {Q Q':Act→Prop} (h:∀ a,Q a→Q' a) (l:List Oper):∀ a,wpQuiet P ops C Q l a→wpQuiet P ops C Q' l a:=by
 induction l with
 | nil=>exact h
 | cons o l ih=>
   intro a hq0
   have hq:if Region.wanted o (yielded ops a.tmps) then o.quiet P a C (wpQuiet P ops C Q l) else wpQuiet P ops C Q l (a.put o.dst undef):=hq0
   show if Region.wanted o (yielded ops a.tmps) then o.quiet P a C (wpQuiet P ops C Q' l) else wpQuiet P ops C Q' l (a.put o.dst undef)
   split
   ·rename_i hw;rw[if_pos hw] at hq;exact Oper.quiet_mono ih hq
   ·rename_i hw;rw[if_neg hw] at hq;exact ih _ hq
theorem zDU {w w':World} (h:∃ p:Regrown,w'=grow (redrawn w p.d) p.os):Below w.heap.size w w':=by
 obtain ⟨p,rfl⟩:=h
 exact below_regrown _ _ _
theorem zG4 {id:Nat} {Q:Exit→Act→World→Prop} {a:Act} {w:World} {l:List Oper} (hm:P.follows .mixedOrders=true) (hB:Region.lexB .any l.toArray=true)
  (h:wpQuiet P l.toArray (fun w'=>∃ p:Regrown,w'=grow (redrawn w p.d) p.os) (fun a'=>∀ w',Below w.heap.size w w'→Q .normal a' w') l a):(Code.region id l.toArray true).wp P Q a w:=
 wp_region_quiet_below hm hB (zFR (fun _ hq w' hw'=>hq w' (zDU hw')) _ _ h)
theorem wQ {id:Nat} {Q:Exit→Act→World→Prop} {a:Act} {w:World} {l:List Oper} (h:wpQuiet P l.toArray (fun w'=>∃ p:Regrown,w'=grow (redrawn w p.d) p.os) (fun a'=>∀ w',Below w.heap.size w w'→Q .normal a' w') l a) (hm:P.follows .mixedOrders=true:=by kernel_rfl) (hB:Region.lexB .any l.toArray=true:=by kernel_rfl):(Code.region id l.toArray true).wp P Q a w:=zG4 hm hB h
theorem zCd {id:Nat} {Q:Exit→Act→World→Prop} {a:Act} {w:World} {l:List Oper} (n:Nat) (hm:P.follows .mixedOrders=true) (hB:Region.lexTailB .any l.toArray n=true)
  (h:wpQuiet P l.toArray (fun w'=>∃ p:Regrown,w'=grow (redrawn w p.d) p.os) (fun a'=>∀ w',Below w.heap.size w w'→wpList P l.toArray Q (l.drop n) a' w') (l.take n) a):(Code.region id l.toArray true).wp P Q a w:=
 zDP n hm hB (zFR (fun _ hq w' hw'=>hq w' (zDU hw')) _ _ h)
end
theorem bot {w W W':World} (h:Below w.heap.size w W) (h':Below W.heap.size W W'):Below w.heap.size w W':=h.trans (h'.mono h.size)
theorem bal {w W:World} (h:Below w.heap.size w W) (o:Obj):Below w.heap.size w (W.alloc o):=h.alloc h.size o
theorem bnew {w W':World} {o:Obj} (h:Below (w.alloc o).heap.size (w.alloc o) W'):Below w.heap.size w W':=bot (bal (bR _ _) o) (h.mono (nR _))
end Go.Proofs.YtminjjdnmpaaoaaGreatDoor
namespace Go.Proofs.YtminjjdnmpaaoaaGreatDoor
theorem zKH {a b:ByteArray} (h:a.toList=b.toList):a=b:=by
 rw[Go.ByteArray.toList_eq,Go.ByteArray.toList_eq] at h
 obtain ⟨⟨l⟩⟩:=a
 obtain ⟨⟨k⟩⟩:=b
 have:l=k:=h
 rw[this]
theorem zKL (a b:ByteArray):(a.toList==b.toList)=decide (a=b):=by
 by_cases h:a=b
 ·subst h;simp
 ·have:¬a.toList=b.toList:=fun e=>h (zKH e)
  simp[h,this]
theorem zHH {α:Type} {xs ys:List α} {k:Nat} (h:xs.take k=ys.take k) (hx:k<xs.length) (hy:k<ys.length) (he:xs[k]=ys[k]):xs.take (k+1)=ys.take (k+1):=by
 rw[List.take_succ_eq_append_getElem hx,List.take_succ_eq_append_getElem hy,h,he]
theorem ne_at {α:Type} {xs ys:List α} {k:Nat} (hx:k<xs.length) (hy:k<ys.length) (he:xs[k]≠ys[k]):xs≠ys:=by
 rintro rfl
 exact he rfl
theorem zEj {α:Type} {xs ys:List α} {k:Nat} (h:xs.take k=ys.take k) (hx:xs.length≤k) (hy:ys.length≤k):xs=ys:=by
 rwa [List.take_of_length_le hx,List.take_of_length_le hy] at h
theorem zAB {a b:Bool} (h:a=b):Ending.returned (.bool a)=.returned (.bool b):=by rw[h]
theorem zAv {k:IntKind} {a b:Int} (h:a=b):Ending.returned (.int k a)=.returned (.int k b):=by rw[h]
theorem zBv {a b:ByteArray} (h:a=b):Ending.returned (.string a)=.returned (.string b):=by rw[h]
def partB (n:Int):Bool:=decide (0≤n)&&decide (n≤999)
def verB (a b c:Int):Bool:=partB a&&(partB b&&partB c)
def rankI (a b c:Int):Int:=(a * 1000+b) * 1000+c
def rankR (a b c:Int):Int:=if verB a b c then rankI a b c else 0
theorem zHE {n:Int}:partB n=true↔0≤n∧n≤999:=by simp[partB]
theorem zBJ {a b c:Int}:verB a b c=true↔(0≤a∧a≤999)∧(0≤b∧b≤999)∧0≤c∧c≤999:=by simp[verB,zHE]
theorem zDf {a b c:Int} (h:verB a b c=true):0≤rankI a b c∧rankI a b c≤999999999:=by
 have:=zBJ.1 h;unfold rankI;omega
theorem zA1 (a b c:Int):0≤rankR a b c∧rankR a b c≤999999999:=by
 unfold rankR;split
 ·rename_i h;exact zDf h
 ·omega
theorem zFw {a b c:Int} (h:verB a b c=true):rankI a b c / 1000 / 1000=a:=by
 have:=zBJ.1 h;unfold rankI;omega
theorem zFm {a b c:Int} (h:verB a b c=true):rankI a b c / 1000 % 1000=b:=by
 have:=zBJ.1 h;unfold rankI;omega
theorem zFu {a b c:Int} (h:verB a b c=true):rankI a b c % 1000=c:=by
 have:=zBJ.1 h;unfold rankI;omega
theorem zL3 {a b c a' b' c':Int} (h:verB a b c=true) (h':verB a' b' c'=true) (he:rankI a b c=rankI a' b' c'):a=a'∧b=b'∧c=c':=by
 have h1:=zBJ.1 h;have h2:=zBJ.1 h';unfold rankI at he;omega
def Ver.ok (v:Ver):Bool:=verB v.major v.minor v.patch
def Ver.rank (v:Ver):Int:=rankR v.major v.minor v.patch
def dotB:ByteArray:=⟨#[46]⟩
def zAL (a b c:Int):ByteArray:=if verB a b c then itoaB a++dotB++itoaB b++dotB++itoaB c else ⟨#[]⟩
def zBQ:Int→List Spn→Bool
 | _,[]=>true
 | least,s::l=>(s.lo.ok&&s.hi.ok&&decide (least≤s.lo.rank)&&decide (s.lo.rank≤s.hi.rank))&&zBQ (s.hi.rank+2) l
def zAp (l:List Spn):Bool:=decide (l.length≤64)&&zBQ 0 l
end Go.Proofs.YtminjjdnmpaaoaaGreatDoor
namespace Go.Proofs.YtminjjdnmpaaoaaGreatDoor
open Go.Rows Go.RowKit Go.Shelf Go.Sort
theorem zDg (a b c:Int) (w:World) :
  Calls Tryz.prog 124 #[.agg #[.int .i64 a,.int .i64 b,.int .i64 c]] w fun e w'=>e=.returned (.bool (verB a b c))∧Below w.heap.size w w':=by
 have i0:∀ w,(Instr.index 217 (.agg #[.int .i64 a,.int .i64 b,.int .i64 c]) (.int .i64 0)).run Tryz.prog w=.ok (.int .i64 a) w:=fun _=>by kernel_rfl
 have i1:∀ w,(Instr.index 217 (.agg #[.int .i64 a,.int .i64 b,.int .i64 c]) (.int .i64 1)).run Tryz.prog w=.ok (.int .i64 b) w:=fun _=>by kernel_rfl
 have i2:∀ w,(Instr.index 217 (.agg #[.int .i64 a,.int .i64 b,.int .i64 c]) (.int .i64 2)).run Tryz.prog w=.ok (.int .i64 c) w:=fun _=>by kernel_rfl
 have Hno:Hid (∀ x,(x=a∨x=b∨x=c)→(x<0∨999<x)→verB a b c=false):=by
  intro x hx h
  rcases hx with rfl|rfl|rfl<;>(simp[verB,partB];omega)
 have Hyes:Hid ((0≤a∧a≤999)→(0≤b∧b≤999)→(0≤c∧c≤999)→verB a b c=true):=fun h1 h2 h3=>zBJ.2 ⟨h1,h2,h3⟩
 generalize hv:verB a b c=v at *
 clear hv
 go_enter Tryz.func124,Tryz.ntmps124
 go_wp2_with fail
 go_loop [12] (fun i=>(i=.int .i64 0)∨(i=.int .i64 1∧Hid (0≤a∧a≤999))∨(i=.int .i64 2∧Hid (0≤a∧a≤999)∧Hid (0≤b∧b≤999))∨(i=.int .i64 3∧Hid (0≤a∧a≤999)∧Hid (0≤b∧b≤999)∧Hid (0≤c∧c≤999))) (fun i=>3 - (intOf i).toNat)
 case atStart=>exact .inl rfl
 case round=>
  rcases hrel with rfl|⟨rfl,h1⟩|⟨rfl,h1,h2⟩|⟨rfl,h1,h2,h3⟩
  ·by_cases g1:a<0
   ·go_wp2_with fail
    go_ret
    exact ⟨zAB (Hno.out a (.inl rfl) (.inl g1)).symm,bal (bR _ _) _⟩
   ·by_cases g2:999<a
    ·go_wp2_with fail
     go_ret
     exact ⟨zAB (Hno.out a (.inl rfl) (.inr g2)).symm,bal (bR _ _) _⟩
    ·go_wp2_with fail
     go_round
     case rel=>exact .inr (.inl ⟨rfl,⟨by omega,by omega⟩⟩)
     case measure=>simp[intOf]
  ·by_cases g1:b<0
   ·go_wp2_with fail
    go_ret
    exact ⟨zAB (Hno.out b (.inr (.inl rfl)) (.inl g1)).symm,bal (bR _ _) _⟩
   ·by_cases g2:999<b
    ·go_wp2_with fail
     go_ret
     exact ⟨zAB (Hno.out b (.inr (.inl rfl)) (.inr g2)).symm,bal (bR _ _) _⟩
    ·go_wp2_with fail
     go_round
     case rel=>exact .inr (.inr (.inl ⟨rfl,h1,⟨by omega,by omega⟩⟩))
     case measure=>simp[intOf]
  ·by_cases g1:c<0
   ·go_wp2_with fail
    go_ret
    exact ⟨zAB (Hno.out c (.inr (.inr rfl)) (.inl g1)).symm,bal (bR _ _) _⟩
   ·by_cases g2:999<c
    ·go_wp2_with fail
     go_ret
     exact ⟨zAB (Hno.out c (.inr (.inr rfl)) (.inr g2)).symm,bal (bR _ _) _⟩
    ·go_wp2_with fail
     go_round
     case rel=>exact .inr (.inr (.inr ⟨rfl,h1,h2,⟨by omega,by omega⟩⟩))
     case measure=>simp[intOf]
  ·go_wp2_with fail
   go_ret
   exact ⟨zAB (Hyes.out h1.out h2.out h3.out).symm,bal (bR _ _) _⟩
theorem zDd (n:Int) (w:World):Calls Tryz.prog 138 #[.int .i64 n] w fun e w'=>e=.returned (.bool (partB n))∧w=w':=by
 by_cases g1:0≤n
 ·by_cases g2:n≤999
  ·have H:Hid (partB n=true):=zHE.2 ⟨g1,g2⟩
   go_enter Tryz.func138,Tryz.ntmps138
   go_wp2_with fail
   go_ret
   exact ⟨zAB H.out.symm,rfl⟩
  ·have H:Hid (partB n=false):=by simp[Hid,partB];omega
   go_enter Tryz.func138,Tryz.ntmps138
   go_wp2_with fail
   go_ret
   exact ⟨zAB H.out.symm,rfl⟩
 ·have H:Hid (partB n=false):=by simp[Hid,partB];omega
  go_enter Tryz.func138,Tryz.ntmps138
  go_wp2_with fail
  go_ret
  exact ⟨zAB H.out.symm,rfl⟩
theorem zBG (a b c:Int) (w:World) :
  Calls Tryz.prog 104 #[.agg #[.int .i64 a,.int .i64 b,.int .i64 c]] w fun e w'=>e=.returned (.bool (verB a b c))∧Below w.heap.size w w':=by
 have Ha:Hid (∀ W,Calls Tryz.prog 138 #[.int .i64 a] W fun e w'=>e=.returned (.bool (partB a))∧W=w'):=fun W=>zDd a W
 have Hb:Hid (∀ W,Calls Tryz.prog 138 #[.int .i64 b] W fun e w'=>e=.returned (.bool (partB b))∧W=w'):=fun W=>zDd b W
 have Hc:Hid (∀ W,Calls Tryz.prog 138 #[.int .i64 c] W fun e w'=>e=.returned (.bool (partB c))∧W=w'):=fun W=>zDd c W
 have Hv:Hid (verB a b c=(partB a&&(partB b&&partB c))):=rfl
 generalize verB a b c=v at *
 generalize partB a=pa at *
 generalize partB b=pb at *
 generalize partB c=pc at *
 cases pa
 ·go_enter Tryz.func104,Tryz.ntmps104
  go_wp2_with fail
  refine (Ha.out _).mono ?_
  rintro e w1 ⟨rfl,rfl⟩
  go_wp2_with fail
  go_ret
  exact ⟨zAB (by rw[Hv.out];rfl),bal (bR _ _) _⟩
 ·cases pb
  ·go_enter Tryz.func104,Tryz.ntmps104
   go_wp2_with fail
   refine (Ha.out _).mono ?_
   rintro e w1 ⟨rfl,rfl⟩
   go_wp2_with fail
   refine (Hb.out _).mono ?_
   rintro e w2 ⟨rfl,rfl⟩
   go_wp2_with fail
   go_ret
   exact ⟨zAB (by rw[Hv.out];rfl),bal (bR _ _) _⟩
  ·go_enter Tryz.func104,Tryz.ntmps104
   go_wp2_with fail
   refine (Ha.out _).mono ?_
   rintro e w1 ⟨rfl,rfl⟩
   go_wp2_with fail
   refine (Hb.out _).mono ?_
   rintro e w2 ⟨rfl,rfl⟩
   go_wp2_with fail
   refine (Hc.out _).mono ?_
   rintro e w3 ⟨rfl,rfl⟩
   go_wp2_with fail
   go_ret
   exact ⟨zAB (by rw[Hv.out];simp),bal (bR _ _) _⟩
theorem zCP (a b c:Int) (w:World) :
  Calls Tryz.prog 172 #[.agg #[.int .i64 a,.int .i64 b,.int .i64 c]] w fun e w'=>e=.returned (.tuple #[.int .i64 (rankR a b c),.bool (verB a b c)])∧Below w.heap.size w w':=by
 have Hm:Hid (∀ W,Calls Tryz.prog 124 #[.agg #[.int .i64 a,.int .i64 b,.int .i64 c]] W fun e w'=>e=.returned (.bool (verB a b c))∧Below W.heap.size W w'):=fun W=>zDg a b c W
 cases hv:verB a b c
 ·have Hr:Hid (rankR a b c=0):=by unfold Hid rankR;rw[hv];rfl
  rw[hv] at Hm
  clear hv
  generalize rankR a b c=r at *
  go_enter Tryz.func172,Tryz.ntmps172
  go_wp2_with fail
  refine (Hm.out _).mono ?_
  rintro e w1 ⟨rfl,hb1⟩
  have B:=bnew hb1
  clear hb1
  go_wp2_with fail
  go_ret2
  exact ⟨by rw[Hr.out];rfl,B⟩
 ·have Hr:Hid (rankR a b c=(a * 1000+b) * 1000+c):=by unfold Hid rankR;rw[hv];rfl
  rw[hv] at Hm
  obtain ⟨⟨h1,h2⟩,⟨h3,h4⟩,h5,h6⟩:=zBJ.1 hv
  clear hv
  generalize rankR a b c=r at *
  go_enter Tryz.func172,Tryz.ntmps172
  go_wp2_with fail
  refine (Hm.out _).mono ?_
  rintro e w1 ⟨rfl,hb1⟩
  have e0:=hb1.cell (p:=⟨w.heap.size,0,none⟩) (by simp)
  have e1:=hb1.cell (p:=⟨w.heap.size,1,none⟩) (by simp)
  have e2:=hb1.cell (p:=⟨w.heap.size,2,none⟩) (by simp)
  simp[go_sem] at e0 e1 e2
  have B:=bnew hb1
  clear hb1
  go_wp2_with fail
  go_ret2
  exact ⟨by rw[Hr.out];rfl,B⟩
theorem zFT (a b c:Int) (w:World) :
  Calls Tryz.prog 176 #[.agg #[.int .i64 a,.int .i64 b,.int .i64 c]] w fun e w'=>e=.returned (.tuple #[.int .i64 (rankR a b c),.bool (verB a b c)])∧Below w.heap.size w w':=by
 have Hm:Hid (∀ W,Calls Tryz.prog 104 #[.agg #[.int .i64 a,.int .i64 b,.int .i64 c]] W fun e w'=>e=.returned (.bool (verB a b c))∧Below W.heap.size W w'):=fun W=>zBG a b c W
 cases hv:verB a b c
 ·have Hr:Hid (rankR a b c=0):=by unfold Hid rankR;rw[hv];rfl
  rw[hv] at Hm
  clear hv
  generalize rankR a b c=r at *
  go_enter Tryz.func176,Tryz.ntmps176
  go_wp2_with fail
  refine (Hm.out _).mono ?_
  rintro e w1 ⟨rfl,hb1⟩
  have B:=bnew hb1
  clear hb1
  go_wp2_with fail
  go_ret2
  exact ⟨by rw[Hr.out];rfl,B⟩
 ·have Hr:Hid (rankR a b c=(a * 1000+b) * 1000+c):=by unfold Hid rankR;rw[hv];rfl
  rw[hv] at Hm
  obtain ⟨⟨h1,h2⟩,⟨h3,h4⟩,h5,h6⟩:=zBJ.1 hv
  clear hv
  generalize rankR a b c=r at *
  go_enter Tryz.func176,Tryz.ntmps176
  go_wp2_with fail
  refine (Hm.out _).mono ?_
  rintro e w1 ⟨rfl,hb1⟩
  have e0:=hb1.cell (p:=⟨w.heap.size,0,none⟩) (by simp)
  have e1:=hb1.cell (p:=⟨w.heap.size,1,none⟩) (by simp)
  have e2:=hb1.cell (p:=⟨w.heap.size,2,none⟩) (by simp)
  simp[go_sem] at e0 e1 e2
  have B:=bnew hb1
  clear hb1
  go_wp2_with fail
  go_ret2
  exact ⟨by rw[Hr.out];rfl,B⟩
theorem zBA (a b c:Int) (w:World) :
  Calls Tryz.prog 160 #[.agg #[.int .i64 a,.int .i64 b,.int .i64 c]] w fun e w'=>e=.returned (.int .i64 (rankR a b c))∧Below w.heap.size w w':=by
 have Hm:Hid (∀ W,Calls Tryz.prog 176 #[.agg #[.int .i64 a,.int .i64 b,.int .i64 c]] W fun e w'=>e=.returned (.tuple #[.int .i64 (rankR a b c),.bool (verB a b c)])∧Below W.heap.size W w'):=fun W=>zFT a b c W
 generalize rankR a b c=r at *
 generalize verB a b c=v at *
 go_enter Tryz.func160,Tryz.ntmps160
 go_wp2_with fail
 refine (Hm.out _).mono ?_
 rintro e w1 ⟨rfl,hb1⟩
 go_wp2_with fail
 go_ret
 exact ⟨rfl,bnew hb1⟩
theorem zFl (n:Int) (h0:0≤n) (h1:n≤999999999) (w:World) :
  Calls Tryz.prog 189 #[.int .i64 n] w fun e w'=>e=.returned (.tuple #[.agg #[.int .i64 (n / 1000 / 1000),.int .i64 (n / 1000 % 1000),.int .i64 (n % 1000)],.bool true])∧Below w.heap.size w w':=by
 have h2:¬n<0:=by omega
 have h3:n<1000000000:=by omega
 have q0:0≤n / 1000:=by omega
 go_enter Tryz.func189,Tryz.ntmps189
 go_wp2_with fail
 refine bodyPost_ret (v:=.tuple #[.agg #[.int .i64 (n / 1000 / 1000),.int .i64 (n / 1000 % 1000),.int .i64 (n % 1000)],.bool true]) (by simp[results,Tryz.results189,go_sem]) rfl ⟨rfl,?_⟩
 exact bal (bR _ _) _
theorem zEN {a b c:Int} (h:verB a b c=true):(itoaB a).size≤3∧(itoaB b).size≤3∧(itoaB c).size≤3:=by
 have key:∀ n:Int,0≤n→n≤999→(itoaB n).size≤3:=by
  intro n h0 h1
  have:n.toNat<1000:=by omega
  have e:itoaB n=⟨(Lib.decDigits n.toNat).toArray⟩:=by unfold itoaB Lib.itoa;rw[if_neg (by omega)]
  rw[e]
  show (Lib.decDigits n.toNat).toArray.size≤3
  simp only[List.size_toArray]
  have hd:∀ k:Fin 1000,(Lib.decDigits k.val).length≤3:=by decide +kernel
  exact hd ⟨n.toNat,this⟩
 have:=zBJ.1 h
 exact ⟨key _ (by omega) (by omega),key _ (by omega) (by omega),key _ (by omega) (by omega)⟩
theorem zCm (a b c:Int) (w:World) (ht:Tab w) :
  Calls Tryz.prog 155 #[.agg #[.int .i64 a,.int .i64 b,.int .i64 c]] w fun e w'=>e=.returned (.string (zAL a b c))∧Below w.heap.size w w':=by
 have Hm:Hid (∀ W,Calls Tryz.prog 124 #[.agg #[.int .i64 a,.int .i64 b,.int .i64 c]] W fun e w'=>e=.returned (.bool (verB a b c))∧Below W.heap.size W w'):=fun W=>zDg a b c W
 cases hv:verB a b c
 ·have Hr:Hid (zAL a b c=⟨#[]⟩):=by unfold Hid zAL;rw[hv];rfl
  rw[hv] at Hm
  clear hv
  generalize zAL a b c=r at *
  go_enter Tryz.func155,Tryz.ntmps155
  go_wp2_with fail
  refine (Hm.out _).mono ?_
  rintro e w1 ⟨rfl,hb1⟩
  go_wp2_with fail
  go_ret
  exact ⟨zBv Hr.out.symm,bnew hb1⟩
 ·have Hr:Hid (zAL a b c=itoaB a++dotB++itoaB b++dotB++itoaB c):=by unfold Hid zAL;rw[hv];rfl
  rw[hv] at Hm
  obtain ⟨s1,s2,s3⟩:=zEN hv
  obtain ⟨⟨h1,h2⟩,⟨h3,h4⟩,h5,h6⟩:=zBJ.1 hv
  have Ht:=cH ht
  have z:dotB.size=1:=rfl
  clear hv ht
  generalize zAL a b c=r at *
  have A1:∀ W:World,(Op.stringOp .add (itoaB a) ⟨#[46]⟩).run Tryz.prog W=.ok (.string (itoaB a++dotB)) W:=fun W=>run_string_add_sum W _ dotB (by omega)
  have A2:∀ W:World,(Op.stringOp .add (itoaB a++dotB) (itoaB b)).run Tryz.prog W=.ok (.string (itoaB a++dotB++itoaB b)) W:=fun W=>run_string_add_sum W _ _ (by simp only[ByteArray.size_append];omega)
  have A3:∀ W:World,(Op.stringOp .add (itoaB a++dotB++itoaB b) ⟨#[46]⟩).run Tryz.prog W=.ok (.string (itoaB a++dotB++itoaB b++dotB)) W:=fun W=>run_string_add_sum W _ dotB (by simp only[ByteArray.size_append];omega)
  have A4:∀ W:World,(Op.stringOp .add (itoaB a++dotB++itoaB b++dotB) (itoaB c)).run Tryz.prog W=.ok (.string r) W:=fun W=>by rw[Hr.out];exact run_string_add_sum W _ _ (by simp only[ByteArray.size_append];omega)
  clear z
  go_enter Tryz.func155,Tryz.ntmps155
  go_wp2_with fail
  refine (Hm.out _).mono ?_
  rintro e w1 ⟨rfl,hb1⟩
  have e0:=hb1.cell (p:=⟨w.heap.size,0,none⟩) (by simp)
  have e1:=hb1.cell (p:=⟨w.heap.size,1,none⟩) (by simp)
  have e2:=hb1.cell (p:=⟨w.heap.size,2,none⟩) (by simp)
  simp[go_sem] at e0 e1 e2
  have B:=bnew hb1
  have Ht1:Hid (Tab w1):=zAU Ht.out B
  have Hc0:=cH (qcall (w:=w1) (fun W hW=>zGM a ⟨by omega,by omega⟩ W (zAU Ht1.out hW)))
  have Hc1:=cH (qcall (w:=w1) (fun W hW=>zGM b ⟨by omega,by omega⟩ W (zAU Ht1.out hW)))
  have Hc2:=cH (qcall (w:=w1) (fun W hW=>zGM c ⟨by omega,by omega⟩ W (zAU Ht1.out hW)))
  clear hb1
  have r_e0:=cR e0
  have r_e1:=cR e1
  have r_e2:=cR e2
  go_wp2_with fail
  refine wQ ?_
  repeat (go_big_quiet_step (first|(with_reducible exact Hc0.out _ _)|(with_reducible exact Hc1.out _ _)|(with_reducible exact Hc2.out _ _)))
  refine wpQuiet_nil fun w2 B2=>?_
  go_wp2_with fail
  go_ret
  exact ⟨rfl,bot B B2⟩
theorem zCw (W:World) (b d:Nat) (hd:d<10) (h:W.cell? ⟨b,0,none⟩=some (.int .u8 (48+(d:Int)))) :
  (convert 105 9 (.slice (some ⟨b,0,none⟩) 1 1)).run Tryz.prog W=.ok (.string ⟨#[48+UInt8.ofNat d]⟩) W:=by
 rw[←of48]
 refine run_convert_bytes_back W 105 9 5 ⟨b,0,none⟩ 1 [UInt8.ofNat (48+d)] Tryz.underlying105 Tryz.underlying5 Tryz.underlying9 ?_
 intro j hj
 have hj0:j=0:=by simp at hj;exact hj
 subst hj0
 show W.cell? ⟨b,0,none⟩=_
 rw[h]
 have:(UInt8.ofNat (48+d)).toNat=48+d:=by simp;omega
 simp only[List.getElem_cons_zero,this]
 rfl
theorem zHo (w W:World) (d:Nat) (hd:d<10) (h:Below (w.alloc (.cells #[.int .u8 (48+(d:Int))] 5)).drew.heap.size (w.alloc (.cells #[.int .u8 (48+(d:Int))] 5)).drew W) :
  (convert 105 9 (.slice (some ⟨w.heap.size,0,none⟩) 1 1)).run Tryz.prog W=.ok (.string ⟨#[48+UInt8.ofNat d]⟩) W:=
 zCw W _ d hd (zAA h (by simp) (by simp))
theorem zJh (w:World) (d:Nat) (hd:d<10) :
  (convert 105 9 (.slice (some ⟨w.heap.size,0,none⟩) 1 1)).run Tryz.prog (w.alloc (.cells #[.int .u8 (48+(d:Int))] 5))=.ok (.string ⟨#[48+UInt8.ofNat d]⟩) (w.alloc (.cells #[.int .u8 (48+(d:Int))] 5)):=
 zCw _ _ d hd (by simp)
theorem zFQ (w:World) (d:Nat) (hd:d<10) :
  (convert 105 9 (.slice (some ⟨w.heap.size,0,none⟩) 1 1)).run Tryz.prog (w.alloc (.cells #[.int .u8 (48+(d:Int))] 5)).drew=.ok (.string ⟨#[48+UInt8.ofNat d]⟩) (w.alloc (.cells #[.int .u8 (48+(d:Int))] 5)).drew:=
 zCw _ _ d hd (by simp)
def zDv (u:Nat):Prop:=∀ w:World,Calls Tryz.prog 161 #[.int .i64 u] w fun e w'=>e=.returned (.string (decB u))∧Below w.heap.size w w'
theorem zGF (u:Nat) (h:u<10):zDv u:=by
 intro w
 have hlt:(u:Int)<10:=by omega
 have hu0:(0:Int)≤u:=by omega
 have hE:=cH (zFo h)
 have h1:IntKind.u8.wrap (48+(u:Int))=48+(u:Int):=IntWalk.u8_in _ ⟨by omega,by omega⟩
 go_enter Tryz.func161,Tryz.ntmps161
 go_wp2_with fail
 rw[zCw _ _ u h (by simp)]
 simp only[Result.andThen]
 rw[Oper.upon_value]
 go_wp2_with fail
 go_ret
 exact ⟨zBv hE.out.symm,(bR _ _).alloc (nR _) _⟩
theorem zGl (u:Nat) (h:¬u<10) (hu:u≤9223372036854775807) (ih:zDv (u / 10)):zDv u:=by
 intro w
 have hlt:(10:Int)≤u:=by omega
 have hu0:(0:Int)≤u:=by omega
 have hu1:(u:Int)≤9223372036854775807:=by omega
 have hE:=cH (zHL h)
 have Hih:=cH ih
 have hz:(decB (u / 10)).size+(⟨#[48+UInt8.ofNat (u % 10)]⟩:ByteArray).size≤9223372036854775807:=by
  have:=zKC (u / 10)
  have h1:(⟨#[48+UInt8.ofNat (u % 10)]⟩:ByteArray).size=1:=rfl
  rw[h1];omega
 have HZ:=cH hz;clear hz
 clear ih
 have hqw:IntKind.i64.wrap ((u / 10:Nat):Int)=((u / 10:Nat):Int):=IntWalk.i64_in _ ⟨by omega,by omega⟩
 have hq':(u:Int) / 10=((u / 10:Nat):Int):=by omega
 have hr:(u:Int).tmod 10=((u % 10:Nat):Int):=by rw[Int.tmod_eq_emod_of_nonneg hu0];omega
 have hr':(u:Int) % 10=((u % 10:Nat):Int):=by omega
 have hm:u % 10<10:=by omega
 have h1:IntKind.i64.wrap (48+((u % 10:Nat):Int))=48+((u % 10:Nat):Int):=IntWalk.i64_in _ ⟨by omega,by omega⟩
 have h2:IntKind.u8.wrap (48+((u % 10:Nat):Int))=48+((u % 10:Nat):Int):=IntWalk.u8_in _ ⟨by omega,by omega⟩
 generalize hqq:u / 10=q at *
 generalize hrr:u % 10=r at *
 clear h hu hqq hrr
 go_enter Tryz.func161,Tryz.ntmps161
 go_wp2_with fail
 have hc1:=fun W:World=>zJh W r hm
 have hc2:=fun W:World=>zFQ W r hm
 have hadd:∀ W:World,(Op.stringOp .add (decB q) ⟨#[48+UInt8.ofNat r]⟩).run Tryz.prog W=.ok (.string (decB u)) W:=fun W=>by rw[hE.out];exact run_string_add_sum W _ _ HZ.out
 go_region_with (go_at_call 161;refine (Hih.out _).mono ?_;rintro e w1 ⟨rfl,hb1⟩;try have hcv:=zHo _ _ _ hm hb1)
 all_goals go_wp2_with fail
 all_goals go_ret
 all_goals first
  | exact ⟨rfl,((bR _ w).drew.trans hb1).alloc hb1.size _⟩
  | exact ⟨rfl,((bR _ w).alloc (nR _) _).drew.trans (hb1.mono (by simp))⟩
theorem zHY:∀ (u:Nat),u≤9223372036854775807→zDv u:=by
 intro u
 induction u using Nat.strongRecOn with
 | _ u ih=>
   intro hu
   by_cases h:u<10
   ·exact zGF u h
   ·exact zGl u h hu (ih (u / 10) (by omega) (by omega))
theorem zCs (n:Int) (h0:0≤n) (h1:n≤9223372036854775807) (w:World) :
  Calls Tryz.prog 161 #[.int .i64 n] w fun e w'=>e=.returned (.string (itoaB n))∧Below w.heap.size w w':=by
 have h:=zHY n.toNat (by omega) w
 rw[show ((n.toNat:Nat):Int)=n from by omega,←zKw (by omega)] at h
 exact h
theorem zCD (a b c:Int) (w:World) :
  Calls Tryz.prog 141 #[.agg #[.int .i64 a,.int .i64 b,.int .i64 c]] w fun e w'=>e=.returned (.string (zAL a b c))∧Below w.heap.size w w':=by
 have Hm:Hid (∀ W,Calls Tryz.prog 104 #[.agg #[.int .i64 a,.int .i64 b,.int .i64 c]] W fun e w'=>e=.returned (.bool (verB a b c))∧Below W.heap.size W w'):=fun W=>zBG a b c W
 cases hv:verB a b c
 ·have Hr:Hid (zAL a b c=⟨#[]⟩):=by unfold Hid zAL;rw[hv];rfl
  rw[hv] at Hm
  clear hv
  generalize zAL a b c=r at *
  go_enter Tryz.func141,Tryz.ntmps141
  go_wp2_with fail
  refine (Hm.out _).mono ?_
  rintro e w1 ⟨rfl,hb1⟩
  go_wp2_with fail
  go_ret
  exact ⟨zBv Hr.out.symm,bnew hb1⟩
 ·have Hr:Hid (zAL a b c=itoaB a++dotB++itoaB b++dotB++itoaB c):=by unfold Hid zAL;rw[hv];rfl
  rw[hv] at Hm
  obtain ⟨s1,s2,s3⟩:=zEN hv
  obtain ⟨⟨h1,h2⟩,⟨h3,h4⟩,h5,h6⟩:=zBJ.1 hv
  have z:dotB.size=1:=rfl
  clear hv
  generalize zAL a b c=r at *
  have A1:∀ W:World,(Op.stringOp .add (itoaB a) ⟨#[46]⟩).run Tryz.prog W=.ok (.string (itoaB a++dotB)) W:=fun W=>run_string_add_sum W _ dotB (by omega)
  have A2:∀ W:World,(Op.stringOp .add (itoaB a++dotB) (itoaB b)).run Tryz.prog W=.ok (.string (itoaB a++dotB++itoaB b)) W:=fun W=>run_string_add_sum W _ _ (by simp only[ByteArray.size_append];omega)
  have A3:∀ W:World,(Op.stringOp .add (itoaB a++dotB++itoaB b) ⟨#[46]⟩).run Tryz.prog W=.ok (.string (itoaB a++dotB++itoaB b++dotB)) W:=fun W=>run_string_add_sum W _ dotB (by simp only[ByteArray.size_append];omega)
  have A4:∀ W:World,(Op.stringOp .add (itoaB a++dotB++itoaB b++dotB) (itoaB c)).run Tryz.prog W=.ok (.string r) W:=fun W=>by rw[Hr.out];exact run_string_add_sum W _ _ (by simp only[ByteArray.size_append];omega)
  clear z
  go_enter Tryz.func141,Tryz.ntmps141
  go_wp2_with fail
  refine (Hm.out _).mono ?_
  rintro e w1 ⟨rfl,hb1⟩
  have e0:=hb1.cell (p:=⟨w.heap.size,0,none⟩) (by simp)
  have e1:=hb1.cell (p:=⟨w.heap.size,1,none⟩) (by simp)
  have e2:=hb1.cell (p:=⟨w.heap.size,2,none⟩) (by simp)
  simp[go_sem] at e0 e1 e2
  have B:=bnew hb1
  have Hc0:=cH (qcall (w:=w1) (fun W hW=>zCs a (by omega) (by omega) W))
  have Hc1:=cH (qcall (w:=w1) (fun W hW=>zCs b (by omega) (by omega) W))
  have Hc2:=cH (qcall (w:=w1) (fun W hW=>zCs c (by omega) (by omega) W))
  clear hb1
  have r_e0:=cR e0
  have r_e1:=cR e1
  have r_e2:=cR e2
  go_wp2_with fail
  refine wQ ?_
  repeat (go_big_quiet_step (first|(with_reducible exact Hc0.out _ _)|(with_reducible exact Hc1.out _ _)|(with_reducible exact Hc2.out _ _)))
  refine wpQuiet_nil fun w2 B2=>?_
  go_wp2_with fail
  go_ret
  exact ⟨rfl,bot B B2⟩
