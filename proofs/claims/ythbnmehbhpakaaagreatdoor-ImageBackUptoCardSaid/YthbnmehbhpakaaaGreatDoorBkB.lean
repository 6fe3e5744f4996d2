/-
  What a call is handed, opened: from the form's reading of an argument to a reading as data, with the form's own bounds on sizes; over any program.
-/
import Derived.Test.YthbnmehbhpakaaaGreatDoorBkA
import Derived.ProofKit
import Derived.SizedLaws
import Derived.Deep.Slices
import Derived.OpenShut
import Derived.Test.YthbnmehbhpakaaaGreatDoorRows
import Derived.Test.YthbnmehbhpakaaaGreatDoorAl
set_option linter.all false
namespace Go.Proofs.YthbnmehbhpakaaaGreatDoor
open Go.RowKit Go.ChangeShapes Go.WideShapes Go.ChangeAt
section
variable {P:Program} {t e:TypeId} {α:Type} {r:Rp α} {sz:α→Prop}
theorem zN7 {x:Int} (h:(Lit.int .i64 x).wf=true):I64 x:=by
 have:-9223372036854775808≤x∧x≤9223372036854775807:=by simpa [Lit.wf,IntKind.min,IntKind.max,IntKind.signed,IntKind.bits] using h
 exact this
theorem zJW {H:Type} {enc:TypeId×Value→H} (hl:laidOutB P=true) {W W':World} (hb:Below W.heap.size W W') {sp':Nat→Bool}:∀ {ts:List TypeId} {vs:List Value} {ds:List (DataW H)} {ps:List MemPlace},
  (∀ t∈ts,P.readableRec t=true∧t<P.types.size)→DataW.TrodAll enc P W 0 (fun _=>true) true ts vs ds ps→(∀ x∈ps,x.block<W.heap.size)→(∀ x∈ps,sp' x.block=true)→DataW.TrodAll enc P W' 0 sp' true ts vs ds ps:=by
 intro ts
 induction ts with
 | nil=>intro vs ds ps _ h _ _;obtain ⟨rfl,rfl,rfl⟩:=trodAll_nil h;exact trodAll_mk0
 | cons t ts ih=>
   intro vs ds ps hr h hlt hsp
   obtain ⟨v,vs',d,ds',p,q,rfl,rfl,rfl,h1,h2⟩:=trodAll_cons h
   obtain ⟨g1,g2⟩:=hr t (by simp)
   refine trodAll_cons_mk (WideElems.Trod_stays hl g1 g2 h1 (fun x hx=>hb.same (hlt x (by simp[hx]))) (fun x hx=>hsp x (by simp[hx]))) (ih (fun t' ht'=>hr t' (by simp[ht'])) h2 (fun x hx=>hlt x (by simp[hx])) (fun x hx=>hsp x (by simp[hx])))
theorem zRt {H:Type} {enc:TypeId×Value→H} {f:Func} {s:ChangeSpec} {W W':World} {args:Array Value} {ds:List (DataW H)} {before:List MemPlace} {tb:TypeId}
  (hl:laidOutB P=true) (hvars:s.vars=[]) (hW:DataW.Whole enc P f.params.toList s.vars false W args.toList ds [] before)
  (hrt:f.resultTypes=#[tb]) (htb:P.underlying tb=some .bool) (hres:(s.fn H (ds++[])).results=[.lit (.bool true)]) (hargs:(s.fn H (ds++[])).args=ds) (hvs:(s.fn H (ds++[])).vars=[])
  (hr:∀ t∈f.params.toList,P.readableRec t=true∧t<P.types.size) (hb:Below W.heap.size W W') :
  s.post enc P f false true false false W args (.bool true) W':=by
 have hlt:∀ p∈before,p.block<W.heap.size:=fun p hp=>hW.lt p hp
 have hold:∀ p∈before,(fun b=>decide (b<W.heap.size)) p.block=true:=fun p hp=>by simpa using hlt p hp
 have hW0:=hW
 obtain ⟨p,q,hA,hV,hbe,hz,hn⟩:=hW0
 rw[hvars] at hV
 have hbe':before=p:=by rw[hbe,(trodVars_none hV).2,List.append_nil]
 subst hbe'
 refine ⟨ds,[],before,[],before,[],hW,?_,?_,?_,World.keptBut_mono (fun p hp=>⟨hp,?_⟩) (hb.frame (fun x=>x∈before)),fun h=>by cases h⟩
 ·rw[hres,hrt];exact trodAll_mk1 (shut_bool htb true)
 ·rw[hargs];exact zJW hl hb hr hA hlt hold
 ·rw[hvs,hvars];exact rfl
 ·exact Or.inr (by simpa using hp)
end
def zCC {α:Type} (P:Program) (t:TypeId) (r:Rp α) (bk:α→Nat):Prop:=
 ∀ (H:Type) (enc:TypeId×Value→H) (w:World) (base fuel:Nat) (cs:List Value) (x:DataW H×List MemPlace),
   DataW.trod enc P w base (fun _=>true) true fuel t cs=some x→∃ y,r.holds w (fun b=>b<w.heap.size) y cs∧bk y≤Rows.uptoBulk x.1
theorem zMw {H:Type} (d:DataW H):1≤Rows.uptoBulk d:=by
 cases d with
 | lit l=>cases l<;>simp[Rows.uptoBulk]
 | nil=>simp[Rows.uptoBulk]
 | ptr d=>simp[Rows.uptoBulk]
 | slice elems spare=>simp[Rows.uptoBulk]
 | agg parts=>simp[Rows.uptoBulk]
 | iface t d=>simp[Rows.uptoBulk]
 | map entries=>simp[Rows.uptoBulk]
 | held h=>simp[Rows.uptoBulk]
theorem zH0 {H:Type} (l r:List (DataW H)):Rows.uptoBulkAll (l++r)=Rows.uptoBulkAll l+Rows.uptoBulkAll r:=by
 induction l with
 | nil=>simp[Rows.uptoBulkAll]
 | cons x l ih=>simp only[List.cons_append,Rows.uptoBulkAll,ih];omega
section
variable {P:Program} {t e:TypeId} {α:Type} {r:Rp α} {bk:α→Nat}
theorem zDG (ht:P.underlying t=some (.int .i64)):zCC P t rInt (fun _=>1):=by
 intro H enc w base fuel cs x h
 obtain ⟨n,rfl,_,hw⟩:=DataW.trod_int ht h
 exact ⟨n,⟨rfl,zN7 hw⟩,zMw _⟩
theorem zMC (ht:P.underlying t=some .bool):zCC P t rBool (fun _=>1):=by
 intro H enc w base fuel cs x h
 obtain ⟨b,rfl,_⟩:=DataW.trod_bool ht h
 exact ⟨b,rfl,zMw _⟩
theorem zCi (ht:P.underlying t=some .string):zCC P t rStr (fun s=>s.size+1):=by
 intro H enc w base fuel cs x h
 obtain ⟨s,rfl,rfl,hs⟩:=DataW.trod_string ht h
 exact ⟨s,⟨rfl,hs⟩,by simp[Rows.uptoBulk]⟩
def bkL (bk:α→Nat):List α→Nat
 | []=>1
 | x::l=>bk x+bkL bk l
theorem zO5 {l:List α} {x:α} (h:x∈l):bk x≤bkL bk l:=by
 induction l with
 | nil=>cases h
 | cons y l ih=>
   simp only[bkL]
   rcases List.mem_cons.1 h with rfl|h
   ·omega
   ·have:=ih h;omega
theorem zHh {l:List α} (h1:∀ x,1≤bk x):l.length+1≤bkL bk l:=by
 induction l with
 | nil=>exact nR _
 | cons y l ih=>simp only[bkL,List.length_cons];have:=h1 y;omega
theorem zNh (l k:List α):bkL bk (l++k)+1=bkL bk l+bkL bk k:=by
 induction l with
 | nil=>simp[bkL];omega
 | cons y l ih=>simp only[bkL,List.cons_append];omega
theorem zAl (ht:P.underlying t=some (.slice e)) (hC:P.cellsOf e=r.size) (hpos:0<r.size) (ho:zCC P e r bk):zCC P t (zAL r) (bkL bk):=by
 intro H enc w base fuel cs x h
 rcases Go.Deep.open_slice ht h with ⟨rfl,rfl⟩|⟨a,len,cap,m,n,D,Pl,rfl,hb,hl,hm,hmm,rfl,hi⟩
 ·exact ⟨[],SlV.nil_ _ _ _,by simp[bkL,Rows.uptoBulk]⟩
 ·have hmc:m=cap:=by simpa using hmm
  subst hmc
  have hel:∀ i,i<len→∃ y cs',w.cells? base (a.add (i * r.size)) r.size=some cs'∧r.holds w (fun b=>b<w.heap.size) y cs'∧bk y≤Rows.uptoBulk (D i):=by
   intro i hil
   obtain ⟨cs',h1,h2⟩:=hi i (by omega)
   rw[hC] at h1
   obtain ⟨y,h3,h4⟩:=ho H enc w base n cs' (D i,Pl i) h2
   exact ⟨y,cs',h1,h3,h4⟩
  have hlist:∀ k,k≤len→∃ l:List α,l.length=k∧bkL bk l≤Rows.uptoBulkAll ((List.range k).map D)+1∧∀ (i:Nat) (y:α),l[i]?=some y→∃ cs',w.cells? base (a.add (i * r.size)) r.size=some cs'∧r.holds w (fun b=>b<w.heap.size) y cs':=by
   intro k
   induction k with
   | zero=>intro _;exact ⟨[],rfl,by simp[bkL,Rows.uptoBulkAll],by simp⟩
   | succ k ih=>
     intro hk
     obtain ⟨l,h1,h2,h3⟩:=ih (by omega)
     obtain ⟨y,cs',g1,g2,g3⟩:=hel k (by omega)
     refine ⟨l++[y],by simp[h1],?_,?_⟩
     ·have:=zNh (bk:=bk) l [y]
      rw[List.range_succ,List.map_append,zH0]
      simp only[bkL,List.map_cons,List.map_nil,Rows.uptoBulkAll] at *
      omega
     ·intro i z hz'
      by_cases hi':i<l.length
      ·rw[List.getElem?_append_left hi'] at hz'
       exact h3 i z hz'
      ·have:i=k:=by
        have:i<(l++[y]).length:=(gS.1 hz').1
        simp at this;omega
       subst this
       rw[List.getElem?_append_right (by omega),h1,Nat.sub_self] at hz'
       simp at hz'
       subst hz'
       exact ⟨cs',g1,g2⟩
  obtain ⟨l,h1,h2,h3⟩:=hlist len (nR _)
  refine ⟨l,⟨some a,m,by rw[h1],by omega,hm,(fun h=>by cases h),fun hn=>?_⟩,?_⟩
  ·obtain ⟨y0,hy0⟩:∃ y,l[0]?=some y:=⟨l[0],gE hn⟩
   obtain ⟨cs0,g1,g2⟩:=h3 0 y0 hy0
   obtain ⟨_,hcl,hat⟩:=World.cells?_some g1
   rw[Nat.zero_mul,show a.add 0=a from rfl] at hat
   have hc0:=hat 0 (by omega)
   rw[show a.add 0=a from rfl] at hc0
   have hcs0:cs0[0]?=some (cs0[0]'(by omega)):=gE (by omega)
   rw[hcs0] at hc0
   have hsp:a.spot=none:=by
    unfold World.cell? at hc0
    split at hc0
    ·split at hc0
     ·cases hc0
     ·rename_i hh;simpa using hh
    ·cases hc0
   obtain ⟨b,o,sp⟩:=a
   simp only at hsp
   subst hsp
   refine ⟨b,o,rfl,World.block_lt_of_cell? w _ hc0,World.block_lt_of_cell? w _ hc0,fun i y hy=>?_⟩
   obtain ⟨cs',g3,g4⟩:=h3 i y hy
   obtain ⟨_,hcl',hat'⟩:=World.cells?_some g3
   refine ⟨cs',g4,fun j u hu=>?_⟩
   have hj:j<r.size:=by have:=(gS.1 hu).1;omega
   have:=hat' j hj
   rw[hu] at this
   have hadd:∀ n k,((⟨b,o,none⟩:Addr).add n).add k=⟨b,o+n+k,none⟩:=fun n k=>by
    unfold Addr.add
    by_cases h1:n=0<;>by_cases h2:k=0<;>simp[h1,h2]
   rw[hadd] at this
   exact this
  ·simp only[Rows.uptoBulk]
   omega
theorem zOl (ho:zCC P t r bk) {H:Type} {enc:TypeId×Value→H} {w:World} {v:Value} {d:DataW H} {ps:List MemPlace}
  (h:DataW.Trod enc P w 0 (fun _=>true) true t v d ps):∃ y,r.holds w (fun b=>b<w.heap.size) y v.cells.toList∧bk y≤Rows.uptoBulk d:=by
 obtain ⟨fuel,hf⟩:=h
 exact ho H enc w 0 fuel _ (d,ps) hf
theorem zSx {H:Type} {l:List (DataW H)} (hk:Rows.uptoSmall H l=true):Rows.uptoBulkAll l≤1048576:=of_decide_eq_true hk
end
