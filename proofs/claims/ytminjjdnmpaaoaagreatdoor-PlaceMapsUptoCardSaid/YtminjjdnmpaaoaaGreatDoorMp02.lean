/- Rows of the call's own whose elements read as data: what append, new blocks and draws leave of them; over any program. -/
import Derived.Test.YtminjjdnmpaaoaaGreatDoorMp01
import Derived.WalkKit
import Derived.Deep.AppendLies
import Derived.Maps.AppendAt
import Derived.Laws.OwnMore
import Derived.Deep.AppendSrc
import Derived.Deep.Upon
import Derived.Lib.QuietBelow
import Derived.BigQuiet
import Derived.StillTail
import Derived.Laws.Strings
import Derived.Test.YtminjjdnmpaaoaaGreatDoorAl
set_option linter.all false
namespace Go.Proofs.YtminjjdnmpaaoaaGreatDoor
open Go.RowKit
theorem zAA {B:Nat} {w w':World} (h:Below B w w') {b o:Nat} {v:Value} (hc:w.cell? ⟨b,o,none⟩=some v) (hb:b<B):w'.cell? ⟨b,o,none⟩=some v:=
 (h.cell (p:=⟨b,o,none⟩) hb).trans hc
def Elt (P:Program) (e:TypeId) (size bytes:Nat):Prop:=
 ∃ (i:TypeInfo) (z:Value),P.info? e=some i∧i.zero=some z∧i.size=size∧i.bytes=bytes∧z.cells.size=size∧0<size
theorem Elt.mk' {P:Program} {e:TypeId} {z:Value} {size bytes:Nat} (h:(P.info? e).map (fun i=>(i.zero,i.size,i.bytes))=some (some z,size,bytes)) (hz:z.cells.size=size) (hs:0<size):Elt P e size bytes:=by
 obtain ⟨i,h1,h2,h3,h4⟩:=info_parts h
 exact ⟨i,z,h1,h2,h3,h4,hz,hs⟩
def Elems {α:Type} (r:Rp α) (w:World) (S:Nat→Prop):List α→List Value→Prop
 | [],xs=>xs=[]
 | x::l,xs=>∃ cs rest,xs=cs++rest∧r.holds w S x cs∧Elems r w S l rest
section
variable {α:Type} {r:Rp α} {w w':World} {S S':Nat→Prop} {l:List α} {xs:List Value}
theorem Elems.mono (hk:∀ b,S b→b<w.heap.size→S' b∧w'.heap[b]?=w.heap[b]?):∀ {l:List α} {xs:List Value},Elems r w S l xs→Elems r w' S' l xs:=by
 intro l
 induction l with
 | nil=>intro xs h;exact h
 | cons x l ih=>intro xs h;obtain ⟨cs,rest,h1,h2,h3⟩:=h;exact ⟨cs,rest,h1,r.mono h2 hk,ih h3⟩
theorem Elems.length:∀ {l:List α} {xs:List Value},Elems r w S l xs→xs.length=l.length * r.size:=by
 intro l
 induction l with
 | nil=>intro xs h;rw[show xs=[] from h];simp
 | cons x l ih=>
   intro xs h
   obtain ⟨cs,rest,h1,h2,h3⟩:=h
   rw[h1,List.length_append,r.len h2,ih h3,List.length_cons,Nat.succ_mul,Nat.add_comm]
theorem Elems.append {k:List α} {ys:List Value} (hk:Elems r w S k ys):∀ {l:List α} {xs:List Value},Elems r w S l xs→Elems r w S (l++k) (xs++ys):=by
 intro l
 induction l with
 | nil=>intro xs h;rw[show xs=[] from h];exact hk
 | cons x l ih=>intro xs h;obtain ⟨cs,rest,h1,h2,h3⟩:=h;exact ⟨cs,rest++ys,by rw[h1,List.append_assoc],h2,ih h3⟩
theorem Elems.one_ {x:α} {cs:List Value} (h:r.holds w S x cs):Elems r w S [x] cs:=⟨cs,[],by simp,h,rfl⟩
theorem Elems.get:∀ {l:List α} {xs:List Value},Elems r w S l xs→∀ (i:Nat) (x:α),l[i]?=some x→∃ cs,r.holds w S x cs∧∀ (j:Nat) (u:Value),cs[j]?=some u→xs[i * r.size+j]?=some u:=by
 intro l
 induction l with
 | nil=>intro xs _ i x hx;simp at hx
 | cons y l ih=>
   intro xs h i x hx
   obtain ⟨cs,rest,h1,h2,h3⟩:=h
   have hl:=r.len h2
   cases i with
   | zero=>
     simp only[List.getElem?_cons_zero,Option.some.injEq] at hx
     subst hx
     refine ⟨cs,h2,fun j u hu=>?_⟩
     have:j<cs.length:=(gS.1 hu).1
     rw[h1,Nat.zero_mul,Nat.zero_add,List.getElem?_append_left this,hu]
   | succ i=>
     simp only[List.getElem?_cons_succ] at hx
     obtain ⟨cs',h4,h5⟩:=ih h3 i x hx
     refine ⟨cs',h4,fun j u hu=>?_⟩
     rw[h1,List.getElem?_append_right (by rw[hl,Nat.succ_mul];omega),hl,show (i+1) * r.size+j - r.size=i * r.size+j from by rw[Nat.succ_mul];omega]
     exact h5 j u hu
theorem Elems.one_cell:∀ {l:List α} {xs:List Value},Elems r w S l xs→∀ u∈xs,u.oneCell'=true:=by
 intro l
 induction l with
 | nil=>intro xs h;rw[show xs=[] from h];simp
 | cons x l ih=>
   intro xs h u hu
   obtain ⟨cs,rest,h1,h2,h3⟩:=h
   rw[h1,List.mem_append] at hu
   rcases hu with hu|hu
   ·exact r.one h2 u hu
   ·exact ih h3 u hu
def Own (r:Rp α) (w:World) (base:Nat) (e:TypeId) (v:Value) (l:List α) (S:Nat→Prop):Prop:=
 (∀ b,S b→b<w.heap.size∧v.ownBlock≠some b)∧∃ xs,w.ownsRow base e r.size v l.length xs∧Elems r w S l xs
variable {base:Nat} {e:TypeId} {v:Value}
theorem Own.nil_ (r:Rp α) (w:World) (base:Nat) (e:TypeId) (hS:∀ b,S b→b<w.heap.size):Own r w base e (.slice none 0 0) [] S:=
 ⟨fun b hb=>⟨hS b hb,by simp[Value.ownBlock]⟩,[],World.ownsRow_nil _ _ _ _,rfl⟩
theorem Own.lt (h:Own r w base e v l S):∀ k,v.ownBlock=some k→base≤k∧k<w.heap.size:=by
 obtain ⟨_,xs,h1,_⟩:=h
 exact h1.lt
theorem Own.grown {row:Option Nat} (h:Own r w base e v l S) (hg:w.grownBy w' row) (hne:v.ownBlock=none∨v.ownBlock≠row) (hS:∀ b,S b→some b≠row):Own r w' base e v l S:=by
 obtain ⟨h0,xs,h1,h2⟩:=h
 exact ⟨fun b hb=>⟨lL (h0 b hb).1 hg.size,(h0 b hb).2⟩,xs,h1.kept hg hne,h2.mono fun b hb hl=>⟨hb,hg.block b hl (hS b hb)⟩⟩
theorem Own.keep (h:Own r w base e v l S) (hb:Below w.heap.size w w'):Own r w' base e v l S:=
 h.grown (row:=none) ⟨hb.os,hb.tape,hb.output,hb.size,fun k hk _=>hb.block k hk⟩ (by cases hv:v.ownBlock<;>simp) (fun b _=>by simp)
theorem Own.alloc (h:Own r w base e v l S) (o:Obj):Own r (w.alloc o) base e v l S:=h.keep ((bR _ _).alloc (nR _) o)
theorem Own.drew (h:Own r w base e v l S):Own r w.drew base e v l S:=h.keep (bR _ _).drew
theorem Own.drewN (h:Own r w base e v l S) (n:Nat):Own r (w.drewN n) base e v l S:=h.keep ⟨rfl,rfl,rfl,nR _,fun _ _=>rfl⟩
theorem Own.more (h:Own r w base e v l S) (hS:∀ b,S' b→b<w.heap.size∧v.ownBlock≠some b) (hSS:∀ b,S b→S' b):Own r w base e v l S':=by
 obtain ⟨h0,xs,h1,h2⟩:=h
 exact ⟨hS,xs,h1,h2.mono fun b hb _=>⟨hSS b hb,rfl⟩⟩
theorem Own.moreNew (h:Own r w base e v l S) {B:Nat} (hB:∀ k,v.ownBlock=some k→k<B):Own r w base e v l (fun b=>S b∨(B≤b∧b<w.heap.size)):=
 h.more (fun b hb=>by
  rcases hb with hb|hb
  ·exact h.1 b hb
  ·exact ⟨hb.2,fun he=>by have:=hB b he;omega⟩) (fun b hb=>.inl hb)
theorem Own.slv (h:Own r w base e v l S):SlV r w (fun b=>S b∨base≤b) l v:=by
 obtain ⟨h0,xs,h1,h2⟩:=h
 have h1':=h1
 rcases h1.2 with ⟨rfl,hn⟩|⟨g,cap,cur,rfl,hb,hg,hnc,hcm,hsz,htake⟩
 ·have:l=[]:=List.eq_nil_of_length_eq_zero hn
  subst this
  exact SlV.nil_ _ _ _
 ·refine ⟨some ⟨g,0,none⟩,cap,rfl,hnc,hcm,(fun h=>by cases h),fun _=>⟨g,0,rfl,.inr hb,(aS.1 hg).1,fun i x hx=>?_⟩⟩
  obtain ⟨cs,hc,hcell⟩:=h2.get i x hx
  refine ⟨cs,r.mono hc fun b hb _=>⟨.inl hb,rfl⟩,fun j u hu=>?_⟩
  have h3:=h1'.cells (g:=g) rfl _ u (hcell j u hu)
  have hadd:∀ k,(⟨g,0,none⟩:Addr).add k=⟨g,k,none⟩:=fun k=>by unfold Addr.add;split<;>simp_all
  rw[hadd] at h3
  rw[Nat.zero_add]
  exact h3
section
variable {P:Program} {ops:Array Oper} {o:Oper} {a:Act} {K:Act→World→Prop} {Q:Exit→Act→World→Prop} {bytes:Nat}
theorem zLH (hgd:o.guard=none) (s x:Operand) (t:TypeId) (ho:o.op=.call { callee:=.builtin .append,args:=#[s,x],argTypes:=#[t,t]})
  (E:Elt P e r.size bytes) (ht:P.underlying t=some (.slice e)) (hs:a.eval s=v) (hown:Own r w base e v l S)
  (ad:Addr) (c:Nat) (cs:List Value) (y:α) (hx:a.eval x=.slice (some ad) 1 c) (hy:r.holds w S y cs) (hnews:∀ j u,cs[j]?=some u→w.cell? (ad.add j)=some u)
  (h63:l.length+1≤maxLen) (hbytes:(l.length+1) * bytes≤140737488355328) (hbase:base≤w.heap.size) (H:Nat) (hH:w.heap.size=H)
  (h:∀ g cap w',Own r w' base e (.slice (some ⟨g,0,none⟩) (l.length+1) cap) (l++[y]) S→w.grownBy w' v.ownBlock→(v.ownBlock=some g∨g=H)→g<w'.heap.size→K (a.put o.dst (.slice (some ⟨g,0,none⟩) (l.length+1) cap)) w') :
  o.wp P a w K Q:=by
 obtain ⟨i,z,hi,hz,hsz,hby,hzs,hpos⟩:=E
 obtain ⟨h0,xs,h1,h2⟩:=hown
 refine wp_append_lies w s x t ho base e i z r.size bytes ht hi hz hsz hby hzs hpos v l.length xs hs h1 ad 1 c cs hx (by rw[r.len hy,Nat.one_mul]) hnews (r.one hy) (by omega) h63 hbytes hbase H hH ?_
 intro g cap w' hown' hgrow hat hlt
 have hSk:∀ b,S b→b<w.heap.size→S b∧w'.heap[b]?=w.heap[b]?:=fun b hb hl=>⟨hb,hgrow.block b hl (Ne.symm (h0 b hb).2)⟩
 refine h g cap w' ⟨fun b hb=>⟨lL (h0 b hb).1 hgrow.size,?_⟩,xs++cs,by simpa using hown',Elems.append (Elems.one_ (r.mono hy hSk)) (h2.mono hSk)⟩ hgrow hat hlt
 intro he
 have hgb:g=b:=by simpa [Value.ownBlock] using he
 subst hgb
 rcases hat with hat|hat
 ·exact (h0 g hb).2 hat
 ·have:=(h0 g hb).1;omega
theorem zB8 {E':Prop} (hgd:o.guard=none) (s x:Operand) (t:TypeId) (ho:o.op=.call { callee:=.builtin .append,args:=#[s,x],argTypes:=#[t,t]})
  (E:Elt P e r.size bytes) (ht:P.underlying t=some (.slice e)) (hs:a.eval s=v) (hown:Own r w base e v l S)
  (ad:Addr) (c:Nat) (cs:List Value) (y:α) (hx:a.eval x=.slice (some ad) 1 c) (hy:r.holds w S y cs) (hnews:∀ j u,cs[j]?=some u→w.cell? (ad.add j)=some u)
  (h63:l.length+1≤maxLen) (hbytes:(l.length+1) * bytes≤140737488355328) (hbase:base≤w.heap.size) (H:Nat) (hH:w.heap.size=H)
  (h:∀ g cap w',Own r w' base e (.slice (some ⟨g,0,none⟩) (l.length+1) cap) (l++[y]) S→w.grownBy w' v.ownBlock→(v.ownBlock=some g∨g=H)→g<w'.heap.size→K (a.put o.dst (.slice (some ⟨g,0,none⟩) (l.length+1) cap)) w') :
  if Region.wanted o (yielded ops a.tmps)=true then Oper.wp P o a w K Q else E':=by
 have hw:Region.wanted o (yielded ops a.tmps)=true:=by simp[Region.wanted,hgd]
 rw[if_pos hw]
 exact zLH hgd s x t ho E ht hs hown ad c cs y hx hy hnews h63 hbytes hbase H hH h
theorem zAK {rest:List Oper} (hgd:o.guard=none) (s x:Operand) (t:TypeId) (ho:o.op=.call { callee:=.builtin .append,args:=#[s,x],argTypes:=#[t,t]})
  (E:Elt P e r.size bytes) (ht:P.underlying t=some (.slice e)) (hs:a.eval s=v) (hown:Own r w base e v l S)
  (ad:Addr) (c:Nat) (cs:List Value) (y:α) (hx:a.eval x=.slice (some ad) 1 c) (hy:r.holds w S y cs) (hnews:∀ j u,cs[j]?=some u→w.cell? (ad.add j)=some u)
  (h63:l.length+1≤maxLen) (hbytes:(l.length+1) * bytes≤140737488355328) (hbase:base≤w.heap.size) (H:Nat) (hH:w.heap.size=H)
  (h:∀ g cap w',Own r w' base e (.slice (some ⟨g,0,none⟩) (l.length+1) cap) (l++[y]) S→w.grownBy w' v.ownBlock→(v.ownBlock=some g∨g=H)→g<w'.heap.size→wpList P ops Q rest (a.put o.dst (.slice (some ⟨g,0,none⟩) (l.length+1) cap)) w') :
  wpList P ops Q (o::rest) a w:=
 wpList_plain hgd fun _ hK=>zLH hgd s x t ho E ht hs hown ad c cs y hx hy hnews h63 hbytes hbase H hH fun g cap w' h1 h2 h3 h4=>hK _ _ (h g cap w' h1 h2 h3 h4)
end
theorem Elems.of_cells (w:World) (S:Nat→Prop) (b:Nat):∀ (k:List α) (o:Nat),(∀ (i:Nat) (x:α),k[i]?=some x→∃ cs,r.holds w S x cs∧∀ (j:Nat) (u:Value),cs[j]?=some u→w.cell? ⟨b,o+i * r.size+j,none⟩=some u) →
  ∃ news,Elems r w S k news∧∀ (j:Nat) (u:Value),news[j]?=some u→w.cell? ⟨b,o+j,none⟩=some u:=by
 intro k
 induction k with
 | nil=>intro o _;exact ⟨[],rfl,by simp⟩
 | cons x k ih=>
   intro o h
   obtain ⟨cs,h1,h2⟩:=h 0 x rfl
   obtain ⟨rest,h3,h4⟩:=ih (o+r.size) (fun i y hy=>by
    obtain ⟨cs',h5,h6⟩:=h (i+1) y hy
    refine ⟨cs',h5,fun j u hu=>?_⟩
    have:=h6 j u hu
    rw[Nat.succ_mul] at this
    rw[show o+r.size+i * r.size+j=o+(i * r.size+r.size)+j from by omega]
    exact this)
   refine ⟨cs++rest,⟨cs,rest,rfl,h1,h3⟩,fun j u hu=>?_⟩
   have hl:=r.len h1
   by_cases hj:j<cs.length
   ·rw[List.getElem?_append_left hj] at hu
    simpa using h2 j u hu
   ·rw[List.getElem?_append_right (by omega),hl] at hu
    have:=h4 _ _ hu
    rw[show o+r.size+(j - r.size)=o+j from by omega] at this
    exact this
theorem zEl (b o j:Nat):(⟨b,o,none⟩:Addr).add j=⟨b,o+j,none⟩:=by unfold Addr.add;split<;>simp_all
theorem SlV.of_block {g:Nat} {cs:Array Value} {t:TypeId} {fr:Nat×Nat} (hh:w.heap[g]?=some (.cells cs t fr)) (hE:Elems r w S l cs.toList) (hS:S g) {n c:Nat} (hn:n=l.length) (hc:l.length≤c) (hm:c≤maxLen) :
  SlV r w S l (.slice (some ⟨g,0,none⟩) n c):=by
 subst hn
 refine ⟨some ⟨g,0,none⟩,c,rfl,hc,hm,(fun h=>by cases h),fun _=>⟨g,0,rfl,hS,(aS.1 hh).1,fun i x hx=>?_⟩⟩
 obtain ⟨cs',h1,h2⟩:=hE.get i x hx
 refine ⟨cs',h1,fun j u hu=>?_⟩
 rw[cO w g _ cs t fr hh,Nat.zero_add]
 simpa using h2 j u hu
theorem zAD (w:World) (o:Obj):(w.alloc o).heap[w.heap.size]?=some o:=heap_alloc_new w o
theorem zJd {P:Program} {t ty:TypeId} {bytes:Nat} (E:Elt P e r.size bytes) (ht:P.underlying t=some (.slice e)) (hown:Own r w base e v l S)
  {T:Nat→Prop} {k:List α} {A:Option Addr} {m c:Nat} (hx:SlV r w T k (.slice A m c)) (hT:∀ b,T b→v.ownBlock≠some b)
  (h63:l.length+k.length≤maxLen) (hbytes:(l.length+k.length) * bytes≤140737488355328) (hbase:base≤w.heap.size) :
  ∃ v' w',(Builtin.append_ #[t,t] ty #[v,.slice A m c]).run P w=.ok v' w'∧Own r w' base e v' (l++k) (fun b=>S b∨(T b∧b<w.heap.size))∧w.grownBy w' v.ownBlock∧(v'.ownBlock=v.ownBlock∨v'.ownBlock=some w.heap.size):=by
 obtain ⟨i,z,hi,hz,hsz,hby,hzs,hpos⟩:=E
 obtain ⟨h0,xs,h1,h2⟩:=hown
 have hm:=hx.n_eq
 rcases A with _|ad
 ·obtain ⟨rfl,rfl⟩:=hx.none_
  simp only[List.length_nil] at hm
  subst hm
  refine ⟨v,w,?_,⟨fun b hb=>by rcases hb with hb|hb;exact h0 b hb;exact ⟨hb.2,hT b hb.1⟩,xs,by simpa using h1,by rw[List.append_nil];exact h2.mono fun b hb _=>⟨.inl hb,rfl⟩⟩,⟨rfl,rfl,rfl,nR _,fun _ _ _=>rfl⟩,.inl rfl⟩
  rcases h1.2 with ⟨rfl,_⟩|⟨g,cap,cur,rfl,_,_,hnc,_⟩
  ·simp[Builtin.append_,run_underlying ht,sizeOf,typeInfo,hi,Builtin.lenOf,Builtin.firstCells]
  ·simp[Builtin.append_,run_underlying ht,sizeOf,typeInfo,hi,Builtin.lenOf,Builtin.firstCells,hnc,storeCells]
 ·obtain ⟨news,hnews,hcells⟩:∃ news,Elems r w T k news∧∀ (j:Nat) (u:Value),news[j]?=some u→w.cell? (ad.add j)=some u:=by
   rcases Nat.eq_zero_or_pos k.length with h|h
   ·have:k=[]:=List.eq_nil_of_length_eq_zero h
    subst this
    exact ⟨[],rfl,by simp⟩
   ·obtain ⟨A',c',g1,g2,g3,g4,g5⟩:=hx
    simp only[List.cons.injEq,Value.slice.injEq,and_true] at g1
    obtain ⟨b,o,hA,hr⟩:=g5 h
    rw[←g1.1] at hA
    injection hA with hA
    subst hA
    obtain ⟨news,q1,q2⟩:=Elems.of_cells w T b k o hr.2.2
    exact ⟨news,q1,fun j u hu=>by rw[zEl];exact q2 j u hu⟩
  obtain ⟨v',w',hr,hown',hgrow,_,hat⟩:=run_append_own_at (P:=P) w base t ty e i z r.size bytes ht hi hz hsz hby hzs hpos v l.length xs h1 ad m c news (by rw[hnews.length,hm]) hcells hnews.one_cell (by omega) (by rw[hm];exact hbytes) hbase
  have hSk:∀ b,S b→b<w.heap.size→(S b∨(T b∧b<w.heap.size))∧w'.heap[b]?=w.heap[b]?:=fun b hb hl=>⟨.inl hb,hgrow.block b hl (Ne.symm (h0 b hb).2)⟩
  have hTk:∀ b,T b→b<w.heap.size→(S b∨(T b∧b<w.heap.size))∧w'.heap[b]?=w.heap[b]?:=fun b hb hl=>⟨.inr ⟨hb,hl⟩,hgrow.block b hl (Ne.symm (hT b hb))⟩
  refine ⟨v',w',hr,⟨fun b hb=>?_,xs++news,by rw[List.length_append,←hm];exact hown',Elems.append (hnews.mono hTk) (h2.mono hSk)⟩,hgrow,hat⟩
  have hbl:b<w.heap.size:=by rcases hb with hb|hb;exact (h0 b hb).1;exact hb.2
  refine ⟨lL hbl hgrow.size,?_⟩
  rcases hat with hat|hat<;>rw[hat]
  ·rcases hb with hb|hb
   ·exact (h0 b hb).2
   ·exact hT b hb.1
  ·intro he
   injection he with he
   omega
section
variable {P:Program} {ops:Array Oper} {o:Oper} {a:Act} {K:Act→World→Prop} {Q:Exit→Act→World→Prop} {bytes:Nat}
theorem zKq (hgd:o.guard=none) (s x:Operand) (t:TypeId) (ho:o.op=.call { callee:=.builtin .append,args:=#[s,x],argTypes:=#[t,t]})
  (E:Elt P e r.size bytes) (ht:P.underlying t=some (.slice e)) (hs:a.eval s=v) (hown:Own r w base e v l S)
  (T:Nat→Prop) (k:List α) (A:Option Addr) (m c:Nat) (hxv:a.eval x=.slice A m c) (hx:SlV r w T k (.slice A m c)) (hT:∀ b,T b→v.ownBlock≠some b)
  (h63:l.length+k.length≤maxLen) (hbytes:(l.length+k.length) * bytes≤140737488355328) (hbase:base≤w.heap.size)
  (h:∀ v' w',Own r w' base e v' (l++k) (fun b=>S b∨(T b∧b<w.heap.size))→w.grownBy w' v.ownBlock→(v'.ownBlock=v.ownBlock∨v'.ownBlock=some w.heap.size)→K (a.put o.dst v') w'):o.wp P a w K Q:=by
 obtain ⟨v',w',hr,h2,h3,h4⟩:=zJd (P:=P) (t:=t) (ty:=o.type) E ht hown hx hT h63 hbytes hbase
 unfold Oper.wp execOp
 simp only[ho,resolve,invoke,builtin,Sem.run_bind,Sem.run_pure,Result.andThen_ok,List.map_toArray,List.map_cons,List.map_nil,hs,hxv,hr]
 exact h v' w' h2 h3 h4
theorem zAS {rest:List Oper} (hgd:o.guard=none) (s x:Operand) (t:TypeId) (ho:o.op=.call { callee:=.builtin .append,args:=#[s,x],argTypes:=#[t,t]})
  (E:Elt P e r.size bytes) (ht:P.underlying t=some (.slice e)) (hs:a.eval s=v) (hown:Own r w base e v l S)
  (T:Nat→Prop) (k:List α) (A:Option Addr) (m c:Nat) (hxv:a.eval x=.slice A m c) (hx:SlV r w T k (.slice A m c)) (hT:∀ b,T b→v.ownBlock≠some b)
  (h63:l.length+k.length≤maxLen) (hbytes:(l.length+k.length) * bytes≤140737488355328) (hbase:base≤w.heap.size)
  (h:∀ v' w',Own r w' base e v' (l++k) (fun b=>S b∨(T b∧b<w.heap.size))→w.grownBy w' v.ownBlock→(v'.ownBlock=v.ownBlock∨v'.ownBlock=some w.heap.size)→wpList P ops Q rest (a.put o.dst v') w') :
  wpList P ops Q (o::rest) a w:=
 wpList_plain hgd fun _ hK=>zKq hgd s x t ho E ht hs hown T k A m c hxv hx hT h63 hbytes hbase fun v' w' h1 h2 h3=>hK _ _ (h v' w' h1 h2 h3)
end
theorem Own.empty (r:Rp α) (w:World) (base:Nat) (e:TypeId) (hb:base≤w.heap.size):Own r (w.alloc (.cells #[] e)) base e (.slice (some ⟨w.heap.size,0,none⟩) 0 0) [] (fun _=>False):=
 ⟨fun b hb=>hb.elim,[],World.ownsRow_made w #[] 0 hb (by simp[maxLen]) (by simp),rfl⟩
def zDB (P:Program) (f:FuncId):Prop:=∀ (args:Array Value) (w:World),(callFunc f args).run P w=.ok (.enter f args) w
theorem zCM {P:Program} {f:FuncId} {fn:Func} {c:Code} (hf:P.funcs[f]?=some fn) (hname:(fn.name== "runtime.NumGoroutine")=false) (hb:fn.body=some c):zDB P f:=by
 intro args w
 have h1:fn.name≠ "runtime.NumGoroutine":=by simpa using hname
 simp[callFunc,hf,h1,hb,mark]
theorem zAo (w:World) (cs:Array Value) (t:TypeId):∀ (j:Nat) (u:Value),cs.toList[j]?=some u→(w.alloc (.cells cs t)).cell? ((⟨w.heap.size,0,none⟩:Addr).add j)=some u:=by
 intro j u hu
 have hadd:(⟨w.heap.size,0,none⟩:Addr).add j=⟨w.heap.size,j,none⟩:=by unfold Addr.add;split<;>simp_all
 rw[hadd,cO _ _ j cs t (0,0) (heap_alloc_new w _)]
 simpa using hu
end
theorem zCI {w:World} {a:Addr} {v u:Value} (h:w.cell? a=some u):(w.setCell a v).cell? a=some v:=by
 apply World.cell?_setCell_same (h:=h)
theorem zCX {w:World} {g o o':Nat} {v:Value} (h:o≠o'):(w.setCell ⟨g,o,none⟩ v).cell? ⟨g,o',none⟩=w.cell? ⟨g,o',none⟩:=by
 apply World.cell?_setCell_other
 intro e
 simp only[Addr.mk.injEq] at e
 exact h e.2.1
structure IRow (w:World) (base g k cap:Nat) (l:List Int):Prop where
 lo:base≤g
 le:l.length≤cap
 max:cap≤maxLen
 lt:g<w.heap.size
 at_:∀ (j:Nat) (x:Int),l[j]?=some x→w.cell? ⟨g,k+j,none⟩=some (.int .i64 x)
 there:∀ j,j<cap→(w.cell? ⟨g,k+j,none⟩).isSome=true∧w.frozen? ⟨g,k+j,none⟩=false
section
variable {w w':World} {base g k cap:Nat} {l:List Int}
theorem IRow.keepBlock (h:IRow w base g k cap l) (hs:w.heap.size≤w'.heap.size) (hb:w'.heap[g]?=w.heap[g]?):IRow w' base g k cap l:=
 ⟨h.lo,h.le,h.max,lL h.lt hs,fun j x hj=>(zAM hb _ _).trans (h.at_ j x hj),fun j hj=>⟨by rw[zAM hb];exact (h.there j hj).1,(zFj hb _ _).trans (h.there j hj).2⟩⟩
theorem IRow.keep (h:IRow w base g k cap l) (hb:Below w.heap.size w w'):IRow w' base g k cap l:=h.keepBlock hb.size (hb.block g h.lt)
theorem IRow.alloc (h:IRow w base g k cap l) (o:Obj):IRow (w.alloc o) base g k cap l:=h.keep ((bR _ _).alloc (nR _) o)
theorem IRow.drew (h:IRow w base g k cap l):IRow w.drew base g k cap l:=h.keepBlock (nR _) rfl
theorem IRow.grown (h:IRow w base g k cap l) {row:Option Nat} (hg:w.grownBy w' row) (hne:some g≠row):IRow w' base g k cap l:=h.keepBlock hg.size (hg.block g h.lt hne)
theorem IRow.get (h:IRow w base g k cap l) {j:Nat} (hj:j<l.length):w.cell? ⟨g,k+j,none⟩=some (.int .i64 l[j]):=h.at_ j _ (gE hj)
theorem IRow.frozen (h:IRow w base g k cap l) {j:Nat} (hj:j<cap):w.frozen? ⟨g,k+j,none⟩=false:=(h.there j hj).2
theorem IRow.tail {x:Int} (h:IRow w base g k cap (x::l)):IRow w base g (k+1) (cap - 1) l:=by
 have h1:=h.le
 have h2:=h.max
 rw[List.length_cons] at h1
 exact ⟨h.lo,by omega,by omega,h.lt,fun j y hj=>by rw[show k+1+j=k+(j+1) by omega];exact h.at_ (j+1) y (by simpa using hj),
  fun j hj=>by rw[show k+1+j=k+(j+1) by omega];exact h.there (j+1) (by omega)⟩
theorem IRow.set (h:IRow w base g k cap l) {j:Nat} (hj:j<l.length) (x:Int) :
  IRow (w.setCell ⟨g,k+j,none⟩ (.int .i64 x)) base g k cap (l.set j x)∧w.grownBy (w.setCell ⟨g,k+j,none⟩ (.int .i64 x)) (some g):=by
 have hle:=h.le
 refine ⟨⟨h.lo,by simpa using h.le,h.max,by simpa using h.lt,fun i y hi=>?_,fun i hi=>?_⟩,⟨rfl,rfl,rfl,by simp,fun b _ hk=>heap_setCell_other w ⟨g,k+j,none⟩ b _ (fun e=>hk (by simp[e]))⟩⟩
 ·by_cases hij:i=j
  ·subst hij
   rw[List.getElem?_set_self hj] at hi
   injection hi with hi
   subst hi
   exact zCI (h.get hj)
  ·rw[List.getElem?_set_ne (Ne.symm hij)] at hi
   rw[zCX (by omega)]
   exact h.at_ i y hi
 ·have hf:=(h.there i hi)
  refine ⟨?_,(World.frozen?_setCell _ _ _ _).trans hf.2⟩
  by_cases hij:i=j
  ·subst hij
   rw[zCI (h.get hj)];rfl
  ·rw[zCX (by omega)]
   exact hf.1
theorem IRow.of_owns {e:TypeId} (h:w.ownsRow base e 1 (.slice (some ⟨g,0,none⟩) l.length cap) l.length (l.map (Value.int .i64))):IRow w base g 0 cap l:=by
 have hlt:=h.lt g rfl
 have hfz:=fun j=>World.ownsRow.frozenAt h j
 rcases h.2 with ⟨h',_⟩|⟨g',cap',cur,h',hb,hg,hnc,hcm,hcs,htake⟩
 ·simp at h'
 ·simp only[Value.slice.injEq,Option.some.injEq,Addr.mk.injEq,and_true,true_and] at h'
  obtain ⟨rfl,rfl⟩:=h'
  refine ⟨hlt.1,hnc,hcm,hlt.2,fun j x hj=>?_,fun j hj=>⟨?_,by rw[Nat.zero_add];exact hfz j⟩⟩
  ·have hjl:j<l.length:=(gS.1 hj).1
   rw[Nat.zero_add,World.ownsRow.cellAt h j (by omega),List.getElem?_map,hj]
   rfl
  ·rw[Nat.zero_add,cO w g j cur e (0,0) hg,Array.getElem?_eq_getElem (by omega)]
   rfl
theorem IRow.slv (h:IRow w base g k cap l) (hi:∀ x∈l,I64 x):SlV rInt w (fun b=>base≤b) l (.slice (some ⟨g,k,none⟩) l.length cap):=
 ⟨some ⟨g,k,none⟩,cap,rfl,h.le,h.max,(fun e=>by cases e),fun _=>⟨g,k,rfl,h.lo,h.lt,fun i x hx=>⟨[.int .i64 x],⟨rfl,hi x (mG hx)⟩,fun j u hu=>by
   cases j with
   | zero=>simp at hu;subst hu;simpa [rInt] using h.at_ i x hx
   | succ j=>simp at hu⟩⟩⟩
theorem IRow.lit (w:World) (base:Nat) (e:TypeId) (x:Int) (hb:base≤w.heap.size):IRow (w.alloc (.cells #[.int .i64 x] e)) base w.heap.size 0 1 [x]:=
 IRow.of_owns (e:=e) (World.ownsRow_lit w #[.int .i64 x] 1 hb (by simp[maxLen]) rfl)
theorem IRow.push {P:Program} {t ty e:TypeId} {bytes:Nat} (E:Elt P e 1 bytes) (ht:P.underlying t=some (.slice e)) (h:IRow w base g k cap l)
  (ad:Addr) (c:Nat) (y:Int) (hy:w.cell? ad=some (.int .i64 y)) (h63:l.length+1≤maxLen) (hbytes:(l.length+1) * bytes≤140737488355328) (hbase:base≤w.heap.size) :
  ∃ g' k' cap' w',(Builtin.append_ #[t,t] ty #[.slice (some ⟨g,k,none⟩) l.length cap,.slice (some ad) 1 c]).run P w=.ok (.slice (some ⟨g',k',none⟩) (l.length+1) cap') w' ∧
    IRow w' base g' k' cap' (l++[y])∧w.grownBy w' (some g)∧(g'=g∨g'=w.heap.size):=by
 obtain ⟨i,z,hi,hz,hsz,hby,hzs,hpos⟩:=E
 have hadd0:ad.add 0=ad:=by unfold Addr.add;split<;>simp_all
 have hs:Src P i.size t (.slice (some ad) 1 c) 1 [Value.int .i64 y] w:=Src.ofSlice (P:=P) w ht ad 1 c [Value.int .i64 y] (by rw[hsz];rfl) (fun j u hu=>by
  cases j with
  | zero=>simp at hu;subst hu;rw[hadd0];exact hy
  | succ j=>simp at hu) (by simp[Value.oneCell'])
 have hle:=h.le
 have hmx:=h.max
 by_cases hroom:l.length+1≤cap
 ·have hth:=h.there l.length (by omega)
  have hrun:=run_append_room_src (P:=P) w t t ty e i ht hi g k l.length cap _ 1 _ hs hroom
   (fun j hj=>by have:j=0:=by simpa using hj
                 subst this;rw[hsz,Nat.mul_one,Nat.add_zero];exact hth.1)
   (fun j hj=>by have:j=0:=by simpa using hj
                 subst this;rw[hsz,Nat.mul_one,Nat.add_zero];exact hth.2)
  rw[hsz,Nat.mul_one] at hrun
  obtain ⟨u0,hu0⟩:=Option.isSome_iff_exists.1 hth.1
  refine ⟨g,k,cap,_,hrun,⟨h.lo,by simpa using hroom,hmx,by simpa [World.setCells] using h.lt,fun j x hj=>?_,fun j hj=>?_⟩,⟨rfl,rfl,rfl,by simp[World.setCells],fun b _ hk=>heap_setCell_other w ⟨g,k+l.length,none⟩ b _ (fun e=>hk (by simp[e]))⟩,.inl rfl⟩
  ·simp only[World.setCells]
   by_cases hjl:j<l.length
   ·rw[List.getElem?_append_left hjl] at hj
    rw[zCX (by omega)]
    exact h.at_ j x hj
   ·have hjj:=(gS.1 hj).1
    simp at hjj
    have:j=l.length:=by omega
    subst this
    simp at hj
    subst hj
    exact zCI hu0
  ·simp only[World.setCells]
   refine ⟨?_,(World.frozen?_setCell _ _ _ _).trans (h.there j hj).2⟩
   by_cases hjl:j=l.length
   ·subst hjl;rw[zCI hu0];rfl
   ·rw[zCX (by omega)];exact (h.there j hj).1
 ·have holds:∀ j u,(l.map (Value.int .i64))[j]?=some u→w.drew.cell? ((⟨g,k,none⟩:Addr).add j)=some u:=fun j u hu=>by
   rw[List.getElem?_map] at hu
   rcases hx:l[j]? with _|x
   ·rw[hx] at hu;cases hu
   ·rw[hx] at hu
    injection hu with hu
    subst hu
    rw[Addr.add_lit]
    exact h.at_ j x hx
  have hfc:=run_firstCells_some (P:=P) w.drew i.size l.length ⟨g,k,none⟩ l.length cap (l.map (Value.int .i64)) (by rw[hsz];simp) holds
  have hby':=hby
  have hrun:=run_append_grow_src (P:=P) w t t ty e i z ht hi hz (some ⟨g,k,none⟩) l.length cap (l.map (Value.int .i64)) hfc _ 1 _ hs (by omega) (by unfold maxLen at h63;omega) (growslice_fits (by omega) (by rw[hby];exact hbytes))
  have hge:=grownCap_ge w (l.length+1) cap e
  have hcm:=grownCap_le_maxLen w (l.length+1) cap e h63
  obtain ⟨C,hC⟩:∃ C,C=(l.map (Value.int .i64)++[Value.int .i64 y]).toArray++Builtin.zeroCells z.cells (grownCap w (l.length+1) cap e - (l.length+1)):=⟨_,rfl⟩
  have e1:∀ j,(w.drew.alloc (.cells C e)).cell? ⟨w.heap.size,0+j,none⟩=C[j]?:=fun j=>by rw[Nat.zero_add];exact World.cell?_alloc_new w.drew _ _ j
  rw[←hC] at hrun
  refine ⟨w.heap.size,0,_,_,hrun,⟨hbase,by simpa using hge,hcm,by simp,fun j x hj=>?_,fun j hj=>⟨?_,by rw[Nat.zero_add];exact World.frozen?_alloc_new w.drew _ _ j⟩⟩,⟨rfl,rfl,rfl,by simp,fun b hb _=>Below.heap_alloc w.drew _ b hb⟩,.inr rfl⟩
  ·have hjj:=(gS.1 hj).1
   simp only[List.length_append,List.length_singleton] at hjj
   rw[e1,hC,Array.getElem?_append_left (by simp;omega),List.getElem?_toArray]
   have:(l.map (Value.int .i64)++[Value.int .i64 y])=(l++[y]).map (Value.int .i64):=by simp
   rw[this,List.getElem?_map,hj]
   rfl
  ·rw[e1,Array.getElem?_eq_getElem (by
    rw[hC,Array.size_append,List.size_toArray,size_zeroCells,hzs]
    simp only[List.length_append,List.length_map,List.length_singleton,Nat.mul_one]
    omega)]
   rfl
end
section
variable {P:Program} {ops:Array Oper} {o:Oper} {a:Act} {K:Act→World→Prop} {Q:Exit→Act→World→Prop} {bytes:Nat} {w:World} {base g k cap:Nat} {l:List Int}
theorem zMC (hgd:o.guard=none) (s x:Operand) (t e:TypeId) (ho:o.op=.call { callee:=.builtin .append,args:=#[s,x],argTypes:=#[t,t]})
  (E:Elt P e 1 bytes) (ht:P.underlying t=some (.slice e)) (n:Nat) (hn:n=l.length) (hs:a.eval s=.slice (some ⟨g,k,none⟩) n cap) (h:IRow w base g k cap l)
  (ad:Addr) (c:Nat) (y:Int) (hx:a.eval x=.slice (some ad) 1 c) (hy:w.cell? ad=some (.int .i64 y))
  (h63:l.length+1≤maxLen) (hbytes:(l.length+1) * bytes≤140737488355328) (hbase:base≤w.heap.size) (H:Nat) (hH:w.heap.size=H)
  (hK:∀ g' k' cap' w',IRow w' base g' k' cap' (l++[y])→w.grownBy w' (some g)→(g'=g∨g'=H)→K (a.put o.dst (.slice (some ⟨g',k',none⟩) (n+1) cap')) w') :
  o.wp P a w K Q:=by
 subst hn
 subst hH
 obtain ⟨g',k',cap',w',hr,h2,h3,h4⟩:=IRow.push (P:=P) (ty:=o.type) E ht h ad c y hy h63 hbytes hbase
 unfold Oper.wp execOp
 simp only[ho,resolve,invoke,builtin,Sem.run_bind,Sem.run_pure,Result.andThen_ok,List.map_toArray,List.map_cons,List.map_nil,hs,hx,hr]
 exact hK g' k' cap' w' h2 h3 h4
theorem zHm {rest:List Oper} (hgd:o.guard=none) (s x:Operand) (t e:TypeId) (ho:o.op=.call { callee:=.builtin .append,args:=#[s,x],argTypes:=#[t,t]})
  (E:Elt P e 1 bytes) (ht:P.underlying t=some (.slice e)) (n:Nat) (hn:n=l.length) (hs:a.eval s=.slice (some ⟨g,k,none⟩) n cap) (h:IRow w base g k cap l)
  (ad:Addr) (c:Nat) (y:Int) (hx:a.eval x=.slice (some ad) 1 c) (hy:w.cell? ad=some (.int .i64 y))
  (h63:l.length+1≤maxLen) (hbytes:(l.length+1) * bytes≤140737488355328) (hbase:base≤w.heap.size) (H:Nat) (hH:w.heap.size=H)
  (hK:∀ g' k' cap' w',IRow w' base g' k' cap' (l++[y])→w.grownBy w' (some g)→(g'=g∨g'=H)→wpList P ops Q rest (a.put o.dst (.slice (some ⟨g',k',none⟩) (n+1) cap')) w') :
  wpList P ops Q (o::rest) a w:=
 wpList_plain hgd fun _ hK'=>zMC hgd s x t e ho E ht n hn hs h ad c y hx hy h63 hbytes hbase H hH fun g' k' cap' w' h1 h2 h3=>hK' _ _ (hK g' k' cap' w' h1 h2 h3)
end
end Go.Proofs.YtminjjdnmpaaoaaGreatDoor
namespace Go.Proofs.YtminjjdnmpaaoaaGreatDoor
open Go.RowKit Go.Sort
theorem qcall {P:Program} {f:FuncId} {args:Array Value} {w:World} {v:Value}
  (h:∀ W,Below w.heap.size w W→Calls P f args W fun e w'=>e=.returned v∧Below W.heap.size W w') :
  ∀ d os,Calls P f args (grow (redrawn w d) os) fun e w''=>e=.returned v∧∃ p:Regrown,w''=grow (redrawn w p.d) p.os:=
 fun d os=>Calls.regrown_of (h _ (below_regrown w d os))
section
variable {P:Program} {ops:Array Oper} {md:Region.Mode} {C:World→Prop}
def headQ (P:Program) (md:Region.Mode) (ops:Array Oper) (C:World→Prop) (n:Nat) (L:Array Bool→Act→Prop):Nat→Array Bool→Act→Prop
 | 0,listed,a=>L listed a
 | f+1,listed,a=>Region.ready md ops listed≠[]∧∀ i∈Region.ready md ops listed,i<n∧qOp P ops C i (headQ P md ops C n L f (listed.setIfInBounds i true)) a
theorem zLE {n g:Nat} {L:Array Bool→Act→Prop} {Q:Exit→Act→World→Prop} (hL:∀ listed a w,C w→L listed a→wpAny P md ops Q g listed a w)
  (f:Nat):∀ (listed:Array Bool) (a:Act) (w:World),C w→headQ P md ops C n L f listed a→wpAny P md ops Q (f+g) listed a w:=by
 induction f with
 | zero=>intro listed a w hw h;rw[Nat.zero_add];exact hL _ _ _ hw h
 | succ f ih=>
   intro listed a w hw h
   rw[show f+1+g=(f+g)+1 from by omega]
   exact ⟨fun h0=>absurd h0 h.1,fun i hi=>wpOp_of_qOp hw (fun a' w' hw' h'=>ih _ a' w' hw' h') (h.2 i hi).2⟩
theorem zIn {n i:Nat} {oi:Oper} {v:Value} {L:Array Bool→Act→Prop} (hi:ops[i]?=some oi) (hsel:∀ (j:Nat) (o:Oper) cs b,ops[j]?=some o→o.op≠.select cs b)
  (hs:Region.sinkB md ops n=true) (hc:Region.chainB md ops n=true) (hn:n<ops.size) (hin:i<n) (hdone:∀ listed a,L listed a→∀ j∈Region.ready md ops listed,n≤j) (f:Nat) :
  ∀ (listed:Array Bool) (a:Act),HeadInv md ops n listed →
    (∀ j oj,ops[j]?=some oj→j≠i→listed.getD j true=false→(∀ e∈oj.after,Region.binds md e=true→e.on≠i)→oi.apart ops oj=true) →
    i∈Region.ready md ops listed→YieldsIn P ops C oi v a →
    headQ P md ops C n L f (listed.setIfInBounds i true) (a.put oi.dst v)→headQ P md ops C n L (f+1) listed a:=by
 induction f with
 | zero=>
   intro listed a inv _ hr hy H
   refine ⟨fun h=>(by rw[h] at hr;cases hr),fun j hj=>?_⟩
   have hjn:j<n:=Nat.lt_of_not_le fun h=>tail_waits hs hc hn inv _ i rfl hin (mem_ready.1 hr).1 j h hj
   refine ⟨hjn,?_⟩
   by_cases hji:j=i
   ·subst hji;exact hy.qOp hi H
   ·exact absurd (hdone _ _ H j (ready_mono hj hji)) (by omega)
 | succ f ih=>
   intro listed a inv hfree hr hy H
   refine ⟨fun h=>(by rw[h] at hr;cases hr),fun j hj=>?_⟩
   have hjn:j<n:=Nat.lt_of_not_le fun h=>tail_waits hs hc hn inv _ i rfl hin (mem_ready.1 hr).1 j h hj
   refine ⟨hjn,?_⟩
   by_cases hji:j=i
   ·subst hji;exact hy.qOp hi H
   ·obtain ⟨hjun,oj,hoj,hall⟩:=mem_ready.1 hj
    have hnot:∀ e∈oj.after,Region.binds md e=true→e.on≠i:=fun e he hb heq=>by
     have h1:=hall e he hb
     rw[heq,getD_both (mem_ready.1 hr).1] at h1
     cases h1
    have h2:=qOp_put hoj (hfree j oj hoj hji hjun hnot) (fun cs b=>hsel i oi cs b hi) (fun cs b=>hsel j oj cs b hoj) hy (H.2 j (ready_mono hj hji)).2
    refine qOp_mono (fun a' h3=>ih (listed.setIfInBounds j true) a' (inv.set hj hjn) (fun k ok hk hki hun hno=>hfree k ok hk hki ?_ hno) (ready_mono hr (Ne.symm hji)) h3.1 ?_) h2
    ·by_cases hjk:j=k
     ·subst hjk;exact hjun
     ·rw[getD_set_ne true hjk] at hun;exact hun
    ·rw[Array.setIfInBounds_comm _ _ hji]
     exact h3.2
theorem zKo {n g:Nat} {Lq:Act→Prop} (hsel:Region.noSelect ops=true) (hs:Region.sinkB md ops n=true) (hc:Region.chainB md ops n=true) (hn:n<ops.size) (l:List Oper) :
  ∀ (k:Nat) (listed:Array Bool) (a:Act),(∀ j,j<l.length→l[j]?=ops[k+j]?)→k+l.length=n→HeadInv md ops n listed →
  Region.lexHead md ops g l.length k listed=true→wpQuiet P ops C Lq l a →
  headQ P md ops C n (fun listed' a'=>Region.seqB md ops g n listed'=true∧Lq a') l.length listed a:=by
 induction l with
 | nil=>
   intro k listed a _ hk _ hB h
   have hkn:k=n:=by simpa using hk
   subst hkn
   exact ⟨by simpa [Region.lexHead] using hB,h⟩
 | cons o l ih=>
   intro k listed a hl hk inv hB h
   have h0:ops[k]?=some o:=by simpa using (hl 0 (by simp)).symm
   simp only[List.length_cons,Region.lexHead,Bool.and_eq_true] at hB
   have hkn:k<n:=by simp only[List.length_cons] at hk;omega
   have hr:k∈Region.ready md ops listed:=by simpa using hB.1.1
   obtain ⟨v,hy,hK⟩:=yieldsIn_of_qOp (K:=wpQuiet P ops C Lq l) h0 (by unfold qOp;simp only[h0];exact h)
   exact zIn h0 (Region.noSelect_spec hsel) hs hc hn hkn (fun listed' a' hL=>seqB_ready hL.1) l.length listed a inv (Region.free_spec h0 hB.1.2) hr hy
    (ih (k+1) _ _ (fun j hj=>by have:=hl (j+1) (by simp;omega);simpa [Nat.add_assoc,Nat.add_comm 1 j] using this) (by simp only[List.length_cons] at hk;omega) (inv.set hr hkn) hB.2 hK)
theorem zDa {id:Nat} {Q:Exit→Act→World→Prop} {a:Act} {w:World} {l:List Oper} (n:Nat) (hm:P.follows .mixedOrders=true) (hB:Region.lexTailB .any l.toArray n=true) (hC:C { w with drawn:=w.drawn+1})
  (h:wpQuiet P l.toArray C (fun a'=>∀ w',C w'→wpList P l.toArray Q (l.drop n) a' w') (l.take n) a):(Code.region id l.toArray true).wp P Q a w:=by
 simp only[Region.lexTailB,Bool.and_eq_true,decide_eq_true_eq] at hB
 obtain ⟨⟨⟨⟨hsel,hn⟩,hs⟩,hc⟩,hlex⟩:=hB
 have hn':n<l.length:=by simpa using hn
 have htl:(l.take n).length=n:=by simp;omega
 have hdl:(l.drop n).length=l.toArray.size - n:=by simp
 have inv0:HeadInv .any l.toArray n (Array.replicate l.toArray.size false):=
  ⟨by simp,fun j oj _ hl=>(by rw[getD_replicate_false] at hl;cases hl),fun t _ ht=>getD_in (by simpa using ht) (getD_replicate_false _ _)⟩
 have H:=zKo (md:=.any) (g:=l.toArray.size - n) hsel hs hc hn (l.take n) 0 _ a (fun j hj=>by
  rw[htl] at hj
  simp[hj]) (by simpa using htl) inv0 (by rw[htl];exact hlex) h
 refine wp_region_any hm ?_
 have:=zLE (Q:=Q) (g:=l.toArray.size - n) (fun listed a' w' hw' hL=>by
  have:=wpAny_of_seq (md:=.any) (Q':=Q) (l.drop n) n listed a' w' (fun j=>by simp[List.getElem?_drop]) (by rw[hdl];exact hL.1) (hL.2 w' hw')
  rwa [hdl] at this) _ _ _ _ hC H
 rw[htl,show n+(l.toArray.size - n)=l.toArray.size from by omega] at this
 exact this
theorem zDZ {id:Nat} {Q:Exit→Act→World→Prop} {a:Act} {w:World} {l:List Oper} (n:Nat) (hm:P.follows .mixedOrders=true) (hB:Region.lexTailB .any l.toArray n=true)
  (h:wpQuiet P l.toArray (fun w'=>∃ p:Regrown,w'=grow (redrawn w p.d) p.os) (fun a'=>∀ w',(∃ p:Regrown,w'=grow (redrawn w p.d) p.os)→wpList P l.toArray Q (l.drop n) a' w') (l.take n) a):(Code.region id l.toArray true).wp P Q a w:=
 zDa (C:=fun w'=>∃ p:Regrown,w'=grow (redrawn w p.d) p.os) n hm hB ⟨⟨w.drawn+1,#[]⟩,by rw[grow_empty];rfl⟩ h
theorem zFf {Q Q':Act→Prop} (h:∀ a,Q a→Q' a) (l:List Oper):∀ a,wpQuiet P ops C Q l a→wpQuiet P ops C Q' l a:=by
 induction l with
 | nil=>exact h
 | cons o l ih=>
   intro a hq0
   have hq:if Region.wanted o (yielded ops a.tmps) then o.quiet P a C (wpQuiet P ops C Q l) else wpQuiet P ops C Q l (a.put o.dst undef):=hq0
   show if Region.wanted o (yielded ops a.tmps) then o.quiet P a C (wpQuiet P ops C Q' l) else wpQuiet P ops C Q' l (a.put o.dst undef)
   split
   ·rename_i hw;rw[if_pos hw] at hq;exact Oper.quiet_mono ih hq
   ·rename_i hw;rw[if_neg hw] at hq;exact ih _ hq
theorem zDe {w w':World} (h:∃ p:Regrown,w'=grow (redrawn w p.d) p.os):Below w.heap.size w w':=by
 obtain ⟨p,rfl⟩:=h
 exact below_regrown _ _ _
theorem zHK {id:Nat} {Q:Exit→Act→World→Prop} {a:Act} {w:World} {l:List Oper} (hm:P.follows .mixedOrders=true) (hB:Region.lexB .any l.toArray=true)
  (h:wpQuiet P l.toArray (fun w'=>∃ p:Regrown,w'=grow (redrawn w p.d) p.os) (fun a'=>∀ w',Below w.heap.size w w'→Q .normal a' w') l a):(Code.region id l.toArray true).wp P Q a w:=
 wp_region_quiet_below hm hB (zFf (fun _ hq w' hw'=>hq w' (zDe hw')) _ _ h)
theorem wQ {id:Nat} {Q:Exit→Act→World→Prop} {a:Act} {w:World} {l:List Oper} (h:wpQuiet P l.toArray (fun w'=>∃ p:Regrown,w'=grow (redrawn w p.d) p.os) (fun a'=>∀ w',Below w.heap.size w w'→Q .normal a' w') l a) (hm:P.follows .mixedOrders=true:=by kernel_rfl) (hB:Region.lexB .any l.toArray=true:=by kernel_rfl):(Code.region id l.toArray true).wp P Q a w:=zHK hm hB h
theorem zCj {id:Nat} {Q:Exit→Act→World→Prop} {a:Act} {w:World} {l:List Oper} (n:Nat) (hm:P.follows .mixedOrders=true) (hB:Region.lexTailB .any l.toArray n=true)
  (h:wpQuiet P l.toArray (fun w'=>∃ p:Regrown,w'=grow (redrawn w p.d) p.os) (fun a'=>∀ w',Below w.heap.size w w'→wpList P l.toArray Q (l.drop n) a' w') (l.take n) a):(Code.region id l.toArray true).wp P Q a w:=
 zDZ n hm hB (zFf (fun _ hq w' hw'=>hq w' (zDe hw')) _ _ h)
end
theorem bot {w W W':World} (h:Below w.heap.size w W) (h':Below W.heap.size W W'):Below w.heap.size w W':=h.trans (h'.mono h.size)
theorem bal {w W:World} (h:Below w.heap.size w W) (o:Obj):Below w.heap.size w (W.alloc o):=h.alloc h.size o
theorem bnew {w W':World} {o:Obj} (h:Below (w.alloc o).heap.size (w.alloc o) W'):Below w.heap.size w W':=bot (bal (bR _ _) o) (h.mono (nR _))
end Go.Proofs.YtminjjdnmpaaoaaGreatDoor
namespace Go.Proofs.YtminjjdnmpaaoaaGreatDoor
theorem zLx {a b:ByteArray} (h:a.toList=b.toList):a=b:=by
 rw[Go.ByteArray.toList_eq,Go.ByteArray.toList_eq] at h
 obtain ⟨⟨l⟩⟩:=a
 obtain ⟨⟨k⟩⟩:=b
 have:l=k:=h
 rw[this]
theorem zLk (a b:ByteArray):(a.toList==b.toList)=decide (a=b):=by
 by_cases h:a=b
 ·subst h;simp
 ·have:¬a.toList=b.toList:=fun e=>h (zLx e)
  simp[h,this]
theorem zHb {α:Type} {xs ys:List α} {k:Nat} (h:xs.take k=ys.take k) (hx:k<xs.length) (hy:k<ys.length) (he:xs[k]=ys[k]):xs.take (k+1)=ys.take (k+1):=by
 rw[List.take_succ_eq_append_getElem hx,List.take_succ_eq_append_getElem hy,h,he]
theorem ne_at {α:Type} {xs ys:List α} {k:Nat} (hx:k<xs.length) (hy:k<ys.length) (he:xs[k]≠ys[k]):xs≠ys:=by
 rintro rfl
 exact he rfl
theorem zFD {α:Type} {xs ys:List α} {k:Nat} (h:xs.take k=ys.take k) (hx:xs.length≤k) (hy:ys.length≤k):xs=ys:=by
 rwa [List.take_of_length_le hx,List.take_of_length_le hy] at h
theorem zAB {a b:Bool} (h:a=b):Ending.returned (.bool a)=.returned (.bool b):=by rw[h]
theorem zAx {k:IntKind} {a b:Int} (h:a=b):Ending.returned (.int k a)=.returned (.int k b):=by rw[h]
theorem zB2 {a b:ByteArray} (h:a=b):Ending.returned (.string a)=.returned (.string b):=by rw[h]
