/- walkup.Look. -/
import Derived.Test.YtminjjdnmpaaoaaGreatDoorBd09
import Derived.Test.YtminjjdnmpaaoaaGreatDoorBd04
import Derived.Deep.RegionHeld3
import Derived.Lib.Hide
import Derived.Test.YtminjjdnmpaaoaaGreatDoorAl
set_option linter.all false
set_option maxHeartbeats 3200000
set_option maxRecDepth 100000
namespace Go.Proofs.YtminjjdnmpaaoaaGreatDoor
open Go.Rows Go.RowKit Go.Shelf Go.Sort
noncomputable def zAl (t:List Dir) (p:List ByteArray) (s:ByteArray):Nat→Int
 | 0=>-1
 | q+1=>bif decide (0≤findI t (p.take q++[s])) then findI t (p.take q++[s]) else zAl t p s q
noncomputable def lookI (t:List Dir) (i:Int) (s:ByteArray):Int:=
 if h:0≤i∧i.toNat<t.length then (bif nameB s then zAl t (t[i.toNat]'h.2).path s ((t[i.toNat]'h.2).path.length+1) else -1) else -1
theorem keepL {w0 W W':World} {a:Nat} {v:Value} (hb:Below W.heap.size W W') (hc:W.cell? ⟨a,0,none⟩=some v) (hB:Below w0.heap.size w0 W) (hz:a<w0.heap.size):W'.cell? ⟨a,0,none⟩=some v∧Below w0.heap.size w0 W':=
 ⟨zAA hb hc (lL hz hB.size),bot hB hb⟩
theorem zGX (A:Option Addr) (n c:Nat) (xs:List Dir) (s:ByteArray) (w:World) (S:Nat→Prop) (i:Int) (hs:s.size≤maxLen) (hlen:∀ d∈xs,d.path.length * 32≤140737488355328) (hx:SlV rDir w S xs (.slice A n c)) :
  Calls Tryz.prog 17 #[.agg #[.slice A n c],.int .i64 i,.string s] w fun e w'=>e=.returned (.int .i64 (lookI xs i s))∧Below w.heap.size w w':=by
 have hnx:=hx.n_eq
 have hcx:=hx.cap_le
 unfold maxLen at hcx
 by_cases h0:i<0
 ·have hd:decide (i<0)=true:=decide_eq_true h0
  have He:Hid (lookI xs i s=-1):=by unfold Hid lookI;rw[dif_neg (by omega)]
  clear hx hnx hcx hlen
  generalize lookI xs i s=R at *
  go_enter Tryz.func17,Tryz.ntmps17
  go_wp2_with fail
  go_ret
  exact ⟨zAy He.out.symm,bal (bR _ _) _⟩
 have hd:decide (i<0)=false:=decide_eq_false h0
 by_cases h1:(n:Int)≤i
 ·have hd1:decide ((n:Int)≤i)=true:=decide_eq_true h1
  have He:Hid (lookI xs i s=-1):=by unfold Hid lookI;rw[dif_neg (by omega)]
  clear hx hnx hcx hlen
  generalize lookI xs i s=R at *
  go_enter Tryz.func17,Tryz.ntmps17
  go_wp2_with fail
  go_ret
  exact ⟨zAy He.out.symm,bal (bR _ _) _⟩
 have hd1:decide ((n:Int)≤i)=false:=decide_eq_false h1
 obtain ⟨k,rfl⟩:∃ k:Nat,i=(k:Int):=⟨i.toNat,by omega⟩
 have hk:k<xs.length:=by omega
 have Hnm:=cH (fun W=>zBh s hs W)
 have HR:Hid (lookI xs (k:Int) s=bif nameB s then zAl xs xs[k].path s (xs[k].path.length+1) else -1):=by
  unfold Hid lookI;rw[dif_pos (by omega)];simp only[Int.toNat_natCast]
 generalize lookI xs (k:Int) s=R at *
 have hkn:(k:Int)<(n:Int):=by omega
 have hk0:(0:Int)≤(k:Int):=by omega
 cases hnb:nameB s
 ·have He:Hid (R=-1):=by unfold Hid;rw[HR.out,hnb];rfl
  rw[hnb] at Hnm
  clear hx hnx hcx hlen hnb HR
  go_enter Tryz.func17,Tryz.ntmps17
  go_wp2_with fail
  refine (Hnm.out _).mono ?_
  rintro e w1 ⟨rfl,B1⟩
  go_wp2_with fail
  go_ret
  exact ⟨zAy He.out.symm,bnew B1⟩
 rw[hnb] at Hnm
 have HR1:Hid (R=zAl xs xs[k].path s (xs[k].path.length+1)):=by unfold Hid;rw[HR.out,hnb];rfl
 clear HR hnb
 have hlk:=hlen xs[k] (List.getElem_mem hk)
 have HX:=cH hx
 have HS:=cH hs
 obtain ⟨b,o,cs,rfl,_,hb1,hh,hcell⟩:=hx.elem (gE hk)
 obtain ⟨s0,s1,s2,s3,rfl,hp,_,_,_,_,_,_,_,_⟩:=hh
 obtain ⟨pA,pc,rfl,hpl,hpm⟩:=hp.val
 unfold maxLen at hpm
 have c0:=hcell 0 _ rfl
 simp only[rDir,Nat.add_zero] at c0
 have HP:=cH hp
 clear hcell hp hx hs hlen hcx hnx
 generalize xs[k].path=path at *
 generalize hl0:path.length=l0 at *
 have Hl0:=cH hl0;clear hl0
 go_enter Tryz.func17,Tryz.ntmps17
 go_wp2_with fail
 obtain ⟨w0,hw0⟩:∃ w0,w0=w.alloc (.cells #[.slice (some ⟨b,o,none⟩) n c] 33):=⟨_,rfl⟩
 have hz:w.heap.size<w0.heap.size:=by rw[hw0];simp[go_sem]
 have hb0:Below w.heap.size w w0:=by rw[hw0];exact bal (bR _ _) _
 have a0:w0.cell? ⟨w.heap.size,0,none⟩=some (.slice (some ⟨b,o,none⟩) n c):=by rw[hw0];simp[go_sem]
 rw[←hw0]
 have HB0:=cH hb0;clear hb0 hw0
 refine (Hnm.out w0).mono ?_
 rintro e w1 ⟨rfl,B1⟩
 have Q1:=cH B1;clear B1 Hnm
 have e0:=zAA (bot HB0.out Q1.out) c0 hb1
 have e1:=zAA Q1.out a0 hz
 go_wp2_with fail
 clear e0 e1
 go_loopw [8] (fun i wr=>((i=.int .i64 (-1)∧Hid (R=-1))∨∃ q:Nat,q≤l0∧i=.int .i64 q∧Hid (R=zAl xs path s (q+1)))∧Below w0.heap.size w0 wr) (fun i _=>(intOf i+1).toNat)
 case atStart=>exact ⟨.inr ⟨l0,nR _,rfl,HR1⟩,Q1.out⟩
 case round=>
  obtain ⟨hor,hbel⟩:=hrel
  have b0:=zAA hbel a0 hz
  have hbel':=bot HB0.out hbel
  rcases hor with ⟨rfl,He⟩|⟨q,hq,rfl,HRq⟩
  ·go_wp2_with fail
   go_ret
   exact ⟨zAy He.out.symm,hbel'⟩
  ·have hq0:(0:Int)≤(q:Int):=by omega
   have hqc:q≤pc:=by omega
   have hw2:IntKind.i64.wrap (q:Int)=(q:Int):=IntWalk.i64_in _ ⟨by omega,by omega⟩
   go_wp2_with fail
   have Hj:Hid (∀ W,Below w0.heap.size w0 W→Calls Tryz.prog 37 #[.slice pA q pc,.string s] W fun e w'=>∃ v,e=.returned v∧SlV rStr w' (fun _=>True) (path.take q++[s]) v∧Below W.heap.size W w'):=fun W hW=>
    zJi pA q pc (path.take q) s W _ HS.out (by rw[List.length_take];omega) (SlV.take (HP.out.belowSize (bot HB0.out hW)) (by rw[Hl0.out];exact hq))
   have Hf:Hid (∀ W vA m vc,Below w0.heap.size w0 W→SlV rStr W (fun _=>True) (path.take q++[s]) (.slice vA m vc)→Calls Tryz.prog 18 #[.agg #[.slice (some ⟨b,o,none⟩) n c],.slice vA m vc] W fun e w'=>e=.returned (.int .i64 (findI xs (path.take q++[s])))∧Below W.heap.size W w'):=fun W vA m vc hW hv=>
    zDJ _ _ _ _ _ _ xs _ W _ _ (HX.out.belowSize (bot HB0.out hW)) hv
   have Hst:Hid (zAl xs path s (q+1)=bif decide (0≤findI xs (path.take q++[s])) then findI xs (path.take q++[s]) else zAl xs path s q):=rfl
   generalize findI xs (path.take q++[s])=f at *
   generalize path.take q++[s]=jp at *
   generalize zAl xs path s (q+1)=LD at *
   go_region_held3 (fun w'=>w'.cell? ⟨w.heap.size,0,none⟩=some (.slice (some ⟨b,o,none⟩) n c)∧Below w0.heap.size w0 w')
    (first
      | exact ⟨b0,hbel.drew⟩
      | (go_split_ands;exact keepL (by assumption) (by assumption) (by assumption) hz))
    (first
      | (go_at_call 37;go_split_ands;with_reducible refine (Hj.out _ (by assumption)).mono ?_;rintro e w2 ⟨v,rfl,hv,hb2⟩;obtain ⟨vA,vc,rfl,_,_⟩:=hv.val)
      | (go_at_call 18;go_split_ands;with_reducible refine (Hf.out _ _ _ _ (by assumption) (by assumption)).mono ?_;rintro e w3 ⟨rfl,hb3⟩))
   all_goals
    have HBw:Hid (Below w0.heap.size w0 w3):=by (go_split_ands;assumption)
    have HRr:Hid (R=bif decide (0≤f) then f else zAl xs path s q):=HRq.out.trans Hst.out
    by_cases hf:0≤f
    ·have He:Hid (R=f):=by unfold Hid;rw[HRr.out,decide_eq_true hf];rfl
     go_wp2_with fail
     go_ret
     exact ⟨zAy He.out.symm,bot HB0.out HBw.out⟩
    ·have hfk:decide (0≤f)=false:=decide_eq_false hf
     have He:Hid (R=zAl xs path s q):=by unfold Hid;rw[HRr.out,hfk];rfl
     have hwm:IntKind.i64.wrap ((q:Int) - 1)=(q:Int) - 1:=IntWalk.i64_in _ ⟨by omega,by omega⟩
     clear hf HRr
     go_wp2_with fail
     go_roundw
     case rel=>
      refine ⟨?_,HBw.out⟩
      by_cases hq00:q=0
      ·exact .inl ⟨by simp[hq00],by unfold Hid;rw[He.out,hq00];rfl⟩
      ·obtain ⟨q',rfl⟩:∃ q',q=q'+1:=⟨q - 1,by omega⟩
       exact .inr ⟨q',by omega,by congr 1;omega,He⟩
     case measure=>simp[intOf]
theorem zEx (t:List Dir) (p:List ByteArray):-1≤findI t p∧findI t p<(t.length:Int):=by
 unfold findI
 rcases firstI_lt (fun d=>eqB d.path p) t with h|⟨j,h,hj,_⟩
 ·rw[h.1];omega
 ·rw[h];omega
theorem zFf (t:List Dir) (p:List ByteArray) (s:ByteArray):∀ q,-1≤zAl t p s q∧zAl t p s q<(t.length:Int):=by
 intro q
 induction q with
 | zero=>unfold zAl;omega
 | succ q ih=>
   unfold zAl
   cases decide (0≤findI t (p.take q++[s]))
   ·exact ih
   ·exact zEx _ _
theorem zCw (t:List Dir) (i:Int) (s:ByteArray):-1≤lookI t i s∧lookI t i s<(t.length:Int):=by
 unfold lookI
 split
 ·cases nameB s
  ·show (-1:Int)≤-1∧(-1:Int)<t.length;omega
  ·exact zFf _ _ _ _
 ·omega
noncomputable def zMn (t:List Dir) (g:List Node) (q:Nat) (e:Nat):Bool:=
 match t[q]?,g[e]? with
 | some d,some x=>decide (d.pack.name=x.name)&&eqB d.pack.ver x.ver
 | _,_=>false
abbrev MSt:=List Int×List Nat
noncomputable def zIQ (t:List Dir) (g:List Node) (a:Nat) (s:MSt) (e:Edge):Option MSt:=
 if 0≤lookI t a e.label∧zMn t g (lookI t a e.label).toNat e.to.toNat=true then
  (if s.1[(lookI t a e.label).toNat]?=some (-1) then some (s.1.set (lookI t a e.label).toNat e.to,s.2++[(lookI t a e.label).toNat])
   else if s.1[(lookI t a e.label).toNat]?=some e.to then some s else none)
 else none
noncomputable def zEf (t:List Dir) (g:List Node) (a:Nat):List Edge→MSt→Option MSt
 | [],s=>some s
 | e::es,s=>match zIQ t g a s e with
   | none=>none
   | some s'=>zEf t g a es s'
noncomputable def map0 (n:Nat):MSt:=(0::List.replicate (n - 1) (-1),[0])
def freeN (m:List Int):Nat:=m.count (-1)
structure MInv (n:Nat) (gl:Nat) (s:MSt):Prop where
 len:s.1.length=n
 rng:∀ x∈s.1,-1≤x∧x<(gl:Int)
 rest:∀ r∈s.2,∃ x,s.1[r]?=some x∧0≤x
theorem zFk:∀ (m:List Int) (q:Nat) (v:Int),m[q]?=some (-1)→v≠-1→freeN (m.set q v)+1=freeN m:=by
 intro m
 induction m with
 | nil=>intro q v h _;simp at h
 | cons x m ih=>
   intro q v h hv
   cases q with
   | zero=>
     simp at h
     subst h
     unfold freeN
     rw[List.set_cons_zero,List.count_cons_self,List.count_cons_of_ne hv]
   | succ q=>
     simp at h
     have:=ih q v h hv
     unfold freeN at this ⊢
     rw[List.set_cons_succ,List.count_cons,List.count_cons]
     omega
theorem MInv.edge {n:Nat} {t:List Dir} {g:List Node} {a:Nat} {s s':MSt} {e:Edge} (h:MInv n g.length s) (he:edgeB g.length e=true) (hm:zIQ t g a s e=some s') :
  MInv n g.length s'∧freeN s'.1+s'.2.length=freeN s.1+s.2.length∧(∀ (r:Nat) (x:Int),s.1[r]?=some x→0≤x→s'.1[r]?=some x):=by
 unfold edgeB at he
 simp only[Bool.and_eq_true,decide_eq_true_eq] at he
 unfold zIQ at hm
 split at hm
 ·split at hm
  ·rename_i hc hf
   injection hm with hm
   subst hm
   have hkeep:∀ (r:Nat) (x:Int),s.1[r]?=some x→0≤x→(s.1.set (lookI t a e.label).toNat e.to)[r]?=some x:=fun r x hr hx=>by
    rw[List.getElem?_set_ne (by rintro rfl;rw[hf] at hr;injection hr with hr;omega)];exact hr
   refine ⟨⟨by simpa using h.len,fun x hx=>?_,fun r hr=>?_⟩,?_,hkeep⟩
   ·rcases List.mem_or_eq_of_mem_set hx with hx|rfl
    ·exact h.rng x hx
    ·omega
   ·rw[List.mem_append] at hr
    rcases hr with hr|hr
    ·obtain ⟨x,h1,h2⟩:=h.rest r hr
     exact ⟨x,hkeep r x h1 h2,h2⟩
    ·simp at hr
     subst hr
     refine ⟨e.to,?_,by omega⟩
     rw[List.getElem?_set_self (gS.1 hf).1]
   ·have:=zFk s.1 _ e.to hf (by omega)
    show freeN (s.1.set _ e.to)+(s.2++[_]).length=_
    rw[List.length_append,List.length_singleton]
    omega
  ·split at hm
   ·injection hm with hm
    subst hm
    exact ⟨h,rfl,fun _ _ h _=>h⟩
   ·cases hm
 ·cases hm
theorem MInv.edges {n:Nat} {t:List Dir} {g:List Node} {a:Nat}:∀ {es:List Edge} {s s':MSt},MInv n g.length s→es.all (edgeB g.length)=true→zEf t g a es s=some s' →
  MInv n g.length s'∧freeN s'.1+s'.2.length=freeN s.1+s.2.length∧(∀ (r:Nat) (x:Int),s.1[r]?=some x→0≤x→s'.1[r]?=some x):=by
 intro es
 induction es with
 | nil=>intro s s' h _ hm;rw[zEf] at hm;injection hm with hm;subst hm;exact ⟨h,rfl,fun _ _ h _=>h⟩
 | cons e es ih=>
   intro s s' h ha hm
   rw[List.all_cons,Bool.and_eq_true] at ha
   rw[zEf] at hm
   split at hm
   ·cases hm
   ·rename_i s1 hs1
    obtain ⟨h1,h2,h3⟩:=h.edge ha.1 hs1
    obtain ⟨h4,h5,h6⟩:=ih h1 ha.2 hm
    exact ⟨h4,by omega,fun r x hr hx=>h6 r x (h3 r x hr hx) hx⟩
theorem MInv.start {n gl:Nat} (hn:0<n) (hg:0<gl):MInv n gl (map0 n)∧freeN (map0 n).1+(map0 n).2.length=n:=by
 refine ⟨⟨by simp[map0];omega,fun x hx=>?_,fun r hr=>?_⟩,?_⟩
 ·simp[map0] at hx
  rcases hx with rfl|⟨_,rfl⟩<;>omega
 ·simp[map0] at hr
  subst hr
  exact ⟨0,rfl,Int.le_refl _⟩
 ·simp[map0,freeN]
  omega
theorem zGc (q:Dir→Bool):∀ (t:List Dir) (k j:Nat),zAp q t k=(j:Int)→∃ i,∃ h:i<t.length,j=k+i∧q t[i]=true:=by
 intro t
 induction t with
 | nil=>intro k j h;rw[zAp] at h;omega
 | cons d t ih=>
   intro k j h
   rw[zAp] at h
   cases hq:q d
   ·rw[hq] at h
    obtain ⟨i,hi,e,hqi⟩:=ih (k+1) j h
    exact ⟨i+1,by simpa using hi,by omega,by simpa using hqi⟩
   ·rw[hq] at h
    refine ⟨0,by simp,?_,by simpa using hq⟩
    have:(k:Int)=(j:Int):=h
    omega
theorem zFP {t:List Dir} {p:List ByteArray} {j:Nat} (h:findI t p=(j:Int)):∃ hj:j<t.length,t[j].path=p:=by
 unfold findI zCf at h
 obtain ⟨i,hi,e,hq⟩:=zGc _ t 0 j h
 obtain rfl:i=j:=by omega
 refine ⟨hi,?_⟩
 by_cases e:t[i].path=p
 ·exact e
 ·rw[zAY e] at hq;cases hq
theorem zF3 {t:List Dir} {p:List ByteArray} (h:findI t p<0) {d:Dir} (hd:d∈t):d.path≠p:=by
 intro e
 unfold findI at h
 rcases firstI_lt (fun d=>eqB d.path p) t with h'|⟨j,h',_⟩
 ·have:=List.any_eq_false.1 h'.2 d hd
  rw[zAj e] at this
  exact this rfl
 ·omega
end Go.Proofs.YtminjjdnmpaaoaaGreatDoor
namespace Go.Proofs.YtminjjdnmpaaoaaGreatDoor
open Go
noncomputable def zER (n:Node) (x:Pack):Bool:=(n.name.toList==[])&&(zeroV n.ver&&(decide (n.ctx.length=0)&&eqB x zAC))
noncomputable def zEP (n:Node) (x:Pack):Bool:=packB x&&(decide (x.name=n.name)&&eqB x.ver n.ver)
noncomputable def headP (i:Nat) (n:Node) (x:Pack):Bool:=if i=0 then zER n x else zEP n x
noncomputable def edgeP (g:List Node) (e:Edge):Bool:=decide (1≤e.to)&&(decide (e.to<(g.length:Int))&&match g[e.to.toNat]? with|some y=>decide (y.name=e.label)|none=>false)
def zA2:List Edge→ByteArray→Option Nat
 | [],_=>none
 | e::l,s=>if e.label=s then some 0 else (zA2 l s).map (·+1)
noncomputable def pinP (g:List Node) (es:List Edge) (q:Pin):Bool:=match zA2 es q.name with
 | none=>false
 | some k=>match es[k]? with
   | none=>false
   | some e=>match g[e.to.toNat]? with
     | none=>false
     | some y=>eqB y.ver q.ver
noncomputable def formP (g:List Node) (i:Nat) (n:Node) (x:Pack):Bool:=
 headP i n x&&((zAP none (zAZ n.ctx)&&zAP none (zAE n.edges))&&(n.edges.all (edgeP g)&&n.ctx.all (pinP g n.edges)))
noncomputable def zB2 (g:List Node):Nat→List Node→List Pack→Bool
 | i,n::l,x::m=>formP g i n x&&zB2 g (i+1) l m
 | _,[],[]=>true
 | _,_,_=>false
noncomputable def mayPl (g:List Node) (ps:List Pack):Bool:=decide (1≤g.length)&&(decide (g.length≤128)&&(decide (ps.length=g.length)&&zB2 g 0 g ps))
theorem zHQ (g:List Node):∀ {l:List Node} {m:List Pack} {i:Nat},zB2 g i l m=true→∀ (j:Nat) (n:Node),l[j]?=some n→∃ x,m[j]?=some x∧formP g (i+j) n x=true
 | [],_,_,_,j,n,h=>by cases h
 | a::l,[],i,hf,j,n,h=>by simp[zB2] at hf
 | a::l,b::m,i,hf,0,n,h=>by
   rw[zB2,Bool.and_eq_true] at hf
   cases h
   exact ⟨b,rfl,hf.1⟩
 | a::l,b::m,i,hf,j+1,n,h=>by
   rw[zB2,Bool.and_eq_true] at hf
   obtain ⟨x,hx,hx2⟩:=zHQ g hf.2 j n h
   exact ⟨x,hx,by rwa [show i+(j+1)=i+1+j from by omega]⟩
theorem zH2 (g:List Node) {l:List Node} {m:List Pack} {k:Nat} {n:Node} {x:Pack} (hl:l[k]?=some n) (hm:m[k]?=some x):zB2 g k (l.drop k) (m.drop k)=(formP g k n x&&zB2 g (k+1) (l.drop (k+1)) (m.drop (k+1))):=by
 obtain ⟨h1,e1⟩:=gS.1 hl
 obtain ⟨h2,e2⟩:=gS.1 hm
 rw[dC h1,dC h2,e1,e2,zB2]
theorem zIK (g:List Node) {l:List Node} {m:List Pack} {k:Nat} (h1:l.length≤k) (h2:m.length≤k):zB2 g k (l.drop k) (m.drop k)=true:=by
 rw[dN h1,dN h2]
 rfl
structure Stl where
 frm:Nat
 label:ByteArray
 dst:Nat
abbrev PlSt:=List Dir×List Stl
def dirZ0:Dir:=⟨[],⟨⟨#[]⟩,⟨0,0,0⟩,[],[],[]⟩,0⟩
def dirAt (T:List Dir) (i:Nat):Dir:=T.getD i dirZ0
def zAa (T:List Dir) (i:Nat):List ByteArray:=(dirAt T i).path
noncomputable def zB9 (path above:List ByteArray):Bool:=decide (above.length≤path.length)&&eqB (path.take above.length) above
def zBB (S:List Stl) (i:Nat) (s:ByteArray):Int:=match S with
 | []=>-1
 | x::l=>if x.frm=i∧x.label=s then (x.dst:Int) else zBB l i s
noncomputable def zBY (T:List Dir) (home:Nat) (s:ByteArray) (x:Stl):Bool:=decide (x.label=s)&&(zB9 (zAa T x.frm) (zAa T home)&&decide ((zAa T x.dst).length≤(zAa T home).length))
noncomputable def zBs (T:List Dir) (S:List Stl) (home:Nat) (s:ByteArray):Bool:=S.any (zBY T home s)
noncomputable def zCN (old:Option (List Dir)) (inside:List ByteArray) (x:Pack):Bool:=match old with
 | none=>false
 | some o=>decide (0≤findI o inside)&&eqB (dirAt o (findI o inside).toNat).pack x
noncomputable def zDi (T:List Dir) (S:List Stl) (at_ from_:Nat) (q:Pin):Bool:=decide (0≤zBB S from_ q.name)&&decide (lookI T (at_:Int) q.name=zBB S from_ q.name)
noncomputable def seesB (g:List Node) (T:List Dir) (S:List Stl) (at_ from_:Nat):Bool:=match g[(dirAt T at_).node.toNat]? with
 | none=>false
 | some n=>n.ctx.all (zDi T S at_ from_)
noncomputable def zAw (T:List Dir) (S:List Stl) (old:Option (List Dir)) (path:List ByteArray) (s:ByteArray) (x:Pack):Nat→Int×Int→Int×Int
 | 0,st=>st
 | k+1,(best,liked)=>
   if 0≤findI T (path.take k++[s]) then (best,liked)
   else if zBs T S (findI T (path.take k)).toNat s=true then zAw T S old path s x k (best,liked)
   else zAw T S old path s x k (findI T (path.take k),if zCN old (path.take k++[s]) x=true then findI T (path.take k) else liked)
def pickI (r:Int×Int):Int:=if 0≤r.2 then r.2 else r.1
noncomputable def spotI (T:List Dir) (S:List Stl) (old:Option (List Dir)) (path:List ByteArray) (s:ByteArray) (x:Pack):Int:=pickI (zAw T S old path s x (path.length+1) (-1,-1))
structure PlIn where
 g:List Node
 ps:List Pack
 dirs:Int
 path:Int
 old:Option (List Dir)
def zAh (q:PlIn) (i:Nat):Pack:=q.ps.getD i ⟨⟨#[]⟩,⟨0,0,0⟩,[],[],[]⟩
def zAg (q:PlIn) (i:Nat):Node:=q.g.getD i ⟨⟨#[]⟩,⟨0,0,0⟩,[],[]⟩
noncomputable def putP (q:PlIn) (T:List Dir) (home node:Nat):Except Int (List Dir):=
 if q.path<((textB (zAa T home++[(zAh q node).name])).size:Int) then .error 40
 else if q.dirs≤(T.length:Int) - 1 then .error 41
 else .ok (T++[⟨zAa T home++[(zAh q node).name],zAh q node,(node:Int)⟩])
noncomputable def kindP (q:PlIn) (n:Node) (e:Edge):Nat:=if (n.ctx.any fun x=>decide (x.name=e.label))=true then 1 else if (zAg q e.to.toNat).ctx.length=0 then 2 else 3
noncomputable def zAm (q:PlIn) (st:PlSt) (at_:Nat) (kind:Nat) (e:Edge):Bool:=
 decide (0≤lookI st.1 (at_:Int) e.label)&&(decide ((dirAt st.1 (lookI st.1 (at_:Int) e.label).toNat).node=e.to)&&(decide (kind≠3)||seesB q.g st.1 st.2 (lookI st.1 (at_:Int) e.label).toNat at_))
noncomputable def homeP (q:PlIn) (st:PlSt) (at_:Nat) (kind:Nat) (e:Edge):Int:=
 if kind=2 then spotI st.1 st.2 q.old (zAa st.1 at_) e.label (zAh q e.to.toNat) else (at_:Int)
noncomputable def stepE (q:PlIn) (at_:Nat) (kind:Nat) (e:Edge) (st:PlSt):Except Int PlSt:=
 if zAm q st at_ kind e=true then .ok (st.1,st.2++[⟨at_,e.label,(lookI st.1 (at_:Int) e.label).toNat⟩])
 else if kind=1 then .error 33
 else match putP q st.1 (homeP q st at_ kind e).toNat e.to.toNat with
  | .error c=>.error c
  | .ok T=>.ok (T,st.2++[⟨at_,e.label,st.1.length⟩])
noncomputable def zAO (q:PlIn) (at_:Nat) (n:Node) (kind:Nat):List Edge→PlSt→Except Int PlSt
 | [],st=>.ok st
 | e::l,st=>if kindP q n e=kind then (match stepE q at_ kind e st with
    | .error c=>.error c
    | .ok st'=>zAO q at_ n kind l st') else zAO q at_ n kind l st
noncomputable def zAS (q:PlIn) (at_:Nat) (n:Node):List Nat→PlSt→Except Int PlSt
 | [],st=>.ok st
 | k::l,st=>match zAO q at_ n k n.edges st with
   | .error c=>.error c
   | .ok st'=>zAS q at_ n l st'
noncomputable def dirP (q:PlIn) (at_:Nat) (st:PlSt):Except Int PlSt:=zAS q at_ (zAg q (dirAt st.1 at_).node.toNat) [1,2,3] st
noncomputable def dirsP (q:PlIn):Nat→Nat→PlSt→Except Int PlSt
 | 0,_,st=>.ok st
 | f+1,at_,st=>if at_<st.1.length then (match dirP q at_ st with
    | .error c=>.error c
    | .ok st'=>dirsP q f (at_+1) st') else .ok st
noncomputable def zCG:Option (List Dir)→Bool
 | none=>false
 | some o=>decide (zCd o≠0)
noncomputable def zAq (q:PlIn):Except Int PlSt:=
 if q.dirs<1∨256<q.dirs∨q.path<1∨1024<q.path then .error 1
 else if zCG q.old=true then .error 42
 else if mayPl q.g q.ps=false then .error 33
 else dirsP q 258 0 ([dirZ0],[])
theorem zBl {T:List Dir} {i:Nat} {d:Dir} (h:T[i]?=some d):dirAt T i=d:=by
 unfold dirAt;rw[List.getD_eq_getElem?_getD,h];rfl
theorem zBE {T:List Dir} {i:Nat} {d:Dir} (h:T[i]?=some d):zAa T i=d.path:=by
 unfold zAa;rw[zBl h]
theorem zAX {T:List Dir} {i:Nat} (h:i<T.length):T[i]?=some (dirAt T i):=by
 unfold dirAt;rw[List.getD_eq_getElem?_getD,gE h];rfl
theorem zBG {T:List Dir} (hn:(T.map (·.path)).Nodup) {i:Nat} {d:Dir} (h:T[i]?=some d):findI T d.path=(i:Int):=by
 rcases Int.lt_or_le (findI T d.path) 0 with hl|hl
 ·exact absurd rfl (zF3 hl (mG h))
 ·obtain ⟨j,hj⟩:∃ j:Nat,findI T d.path=(j:Int):=⟨(findI T d.path).toNat,by omega⟩
  obtain ⟨h1,h2⟩:=zFP hj
  obtain ⟨hi,e⟩:=gS.1 h
  rw[hj]
  have:j=i:=by
   have h3:(T.map (·.path))[j]'(by rw[List.length_map];exact h1)=(T.map (·.path))[i]'(by rw[List.length_map];exact hi):=by
    rw[List.getElem_map,List.getElem_map,h2,e]
   exact (List.getElem_inj hn).1 h3
  rw[this]
theorem zCj {T:List Dir} {p:List ByteArray} (h:0≤findI T p):∃ (j:Nat) (d:Dir),findI T p=(j:Int)∧T[j]?=some d∧d.path=p:=by
 obtain ⟨j,hj⟩:∃ j:Nat,findI T p=(j:Int):=⟨(findI T p).toNat,by omega⟩
 obtain ⟨h1,h2⟩:=zFP hj
 exact ⟨j,_,hj,gE h1,h2⟩
theorem zED {p a:List ByteArray}:zB9 p a=true↔a<+:p:=by
 unfold zB9
 rw[Bool.and_eq_true,decide_eq_true_eq,zDC]
 constructor
 ·rintro ⟨_,h⟩
  exact ⟨p.drop a.length,by conv=>lhs;rw[←h]
                            rw[h]
                            conv=>rhs;rw[←List.take_append_drop a.length p,h]⟩
 ·rintro ⟨r,rfl⟩
  exact ⟨by rw[List.length_append];omega,List.take_left⟩
structure PlInv (q:PlIn) (at_:Nat) (done:List ByteArray) (st:PlSt):Prop where
 pos:0<st.1.length
 len:st.1.length≤257
 root:∀ d,st.1[0]?=some d→d.path=[]∧d.node=0∧d.pack=zAC
 names:∀ d∈st.1,d.path.all nameB=true∧(textB d.path).size≤1024
 up:∀ (j:Nat) (d:Dir),st.1[j]?=some d→j≠0→d.path≠[]∧∃ (i:Nat) (e:Dir),i<j∧st.1[i]?=some e∧e.path=d.path.dropLast
 apart:(st.1.map (·.path)).Nodup
 node:∀ (j:Nat) (d:Dir),st.1[j]?=some d→j≠0→1≤d.node∧d.node<(q.g.length:Int)∧d.pack=zAh q d.node.toNat
 stl:∀ x∈st.2,x.frm<st.1.length∧x.dst<st.1.length∧(x.frm<at_∨(x.frm=at_∧x.label∈done))
 low:∀ (j:Nat) (d:Dir) (i:Nat) (e:Dir),st.1[j]?=some d→st.1[i]?=some e→at_≤i→j≠i→e.path<+:d.path→i=at_∧∃ s∈done,d.path=e.path++[s]
theorem PlInv.next {q:PlIn} {at_:Nat} {done:List ByteArray} {st:PlSt} (h:PlInv q at_ done st):PlInv q (at_+1) [] st:=
 { h with
   stl:=fun x hx=>by
    obtain ⟨h1,h2,h3⟩:=h.stl x hx
    exact ⟨h1,h2,.inl (by rcases h3 with h3|h3<;>omega)⟩
   low:=fun j d i e hj hi hle hne hp=>by
    have:=(h.low j d i e hj hi (by omega) hne hp).1
    omega}
theorem PlInv.start (q:PlIn):PlInv q 0 [] ([dirZ0],[]) where
 pos:=by decide
 len:=by decide
 root:=fun d hd=>by cases hd;exact ⟨rfl,rfl,rfl⟩
 names:=fun d hd=>by rw[List.mem_singleton.1 hd];exact ⟨rfl,by decide⟩
 up:=fun j d hj h0=>by
  cases j with
  | zero=>exact absurd rfl h0
  | succ j=>cases hj
 apart:=by simp
 node:=fun j d hj h0=>by
  cases j with
  | zero=>exact absurd rfl h0
  | succ j=>cases hj
 stl:=fun x hx=>by cases hx
 low:=fun j d i e hj hi _ hne _=>by
  cases j with
  | zero=>cases i with
    | zero=>exact absurd rfl hne
    | succ i=>cases hi
  | succ j=>cases hj
theorem PlInv.closed {q:PlIn} {at_:Nat} {done:List ByteArray} {st:PlSt} (h:PlInv q at_ done st):∀ (n j:Nat) (d:Dir) (k:Nat),st.1[j]?=some d→d.path.length=k+n→∃ (i:Nat) (e:Dir),i≤j∧st.1[i]?=some e∧e.path=d.path.take k:=by
 intro n
 induction n with
 | zero=>intro j d k hj hl;exact ⟨j,d,nR _,hj,by rw[List.take_of_length_le (by omega)]⟩
 | succ n ih=>
   intro j d k hj hl
   have h0:j≠0:=fun e=>by
    subst e
    have:=(h.root d hj).1
    rw[this,List.length_nil] at hl
    omega
   obtain ⟨_,i,e,hij,hi,he⟩:=h.up j d hj h0
   obtain ⟨i',e',h1,h2,h3⟩:=ih i e k hi (by rw[he,List.length_dropLast];omega)
   refine ⟨i',e',by omega,h2,?_⟩
   rw[h3,he,List.dropLast_eq_take,List.take_take,Nat.min_eq_left (by omega)]
theorem PlInv.find {q:PlIn} {at_:Nat} {done:List ByteArray} {st:PlSt} (h:PlInv q at_ done st) {j:Nat} {d:Dir} (hj:st.1[j]?=some d) {k:Nat} (hk:k≤d.path.length) :
  ∃ (i:Nat) (e:Dir),i≤j∧findI st.1 (d.path.take k)=(i:Int)∧st.1[i]?=some e∧e.path=d.path.take k:=by
 obtain ⟨i,e,h1,h2,h3⟩:=h.closed (d.path.length - k) j d k hj (by omega)
 exact ⟨i,e,h1,by rw[←h3];exact zBG h.apart h2,h2,h3⟩
theorem PlInv.behind_ {q:PlIn} {at_:Nat} {done:List ByteArray} {st:PlSt} (h:PlInv q at_ done st) {i j:Nat} {d e:Dir} (hj:st.1[j]?=some d) (hi:st.1[i]?=some e) (hp:e.path<+:d.path):i≤j:=by
 obtain ⟨i',e',h1,h2,h3,h4⟩:=h.find hj (k:=e.path.length) hp.length_le
 have:d.path.take e.path.length=e.path:=(List.prefix_iff_eq_take.1 hp).symm
 rw[this] at h2
 rw[zBG h.apart hi] at h2
 omega
theorem PlInv.fresh {q:PlIn} {at_:Nat} {done:List ByteArray} {st:PlSt} (h:PlInv q at_ done st) {d:Dir} (hd:st.1[at_]?=some d) {s:ByteArray} (hs:s∉done):findI st.1 (d.path++[s])<0:=by
 rcases Int.lt_or_le (findI st.1 (d.path++[s])) 0 with hl|hl
 ·exact hl
 ·exfalso
  obtain ⟨j,e,_,hj,hp⟩:=zCj hl
  have hne:j≠at_:=fun e'=>by
   rw[e'] at hj
   rw[hd] at hj
   cases hj
   have:=congrArg List.length hp
   rw[List.length_append,List.length_singleton] at this
   omega
  obtain ⟨_,s',h1,h2⟩:=h.low j e at_ d hj hd (nR _) hne ⟨[s],hp.symm⟩
  rw[hp] at h2
  have:=List.append_cancel_left h2
  simp only[List.cons.injEq,and_true] at this
  rw[this] at hs
  exact hs h1
theorem PlInv.quiet {q:PlIn} {at_:Nat} {done:List ByteArray} {st:PlSt} (h:PlInv q at_ done st) {d:Dir} (hd:st.1[at_]?=some d) {s:ByteArray} (hs:s∉done):zBs st.1 st.2 at_ s=false:=by
 unfold zBs
 rw[List.any_eq_false]
 intro x hx ht
 unfold zBY at ht
 simp only[Bool.and_eq_true,decide_eq_true_eq] at ht
 obtain ⟨hl,hu,_⟩:=ht
 obtain ⟨h1,_,h3⟩:=h.stl x hx
 rcases h3 with h3|⟨h3,h4⟩
 ·have hf:=zAX h1
  rw[zED,zBE hd] at hu
  have:=h.behind_ hf hd (by rw[zAa] at hu;exact hu)
  omega
 ·rw[hl] at h4;exact hs h4
structure zE3 (T:List Dir) (path:List ByteArray) (s:ByteArray) (r:Int):Prop where
 lo:0≤r
 is:∃ (i:Nat) (e:Dir),r=(i:Int)∧T[i]?=some e∧e.path<+:path∧findI T (e.path++[s])<0
theorem zKr {q:PlIn} {at_:Nat} {done:List ByteArray} {st:PlSt} (h:PlInv q at_ done st) {j:Nat} {d:Dir} (hj:st.1[j]?=some d) (old:Option (List Dir)) (s:ByteArray) (x:Pack):∀ (k:Nat) (b l:Int),k≤d.path.length+1 →
  zE3 st.1 d.path s b→(l=-1∨zE3 st.1 d.path s l)→zE3 st.1 d.path s (zAw st.1 st.2 old d.path s x k (b,l)).1∧((zAw st.1 st.2 old d.path s x k (b,l)).2=-1∨zE3 st.1 d.path s (zAw st.1 st.2 old d.path s x k (b,l)).2):=by
 intro k
 induction k with
 | zero=>intro b l _ hb hl;exact ⟨hb,hl⟩
 | succ k ih=>
   intro b l hk hb hl
   rw[zAw]
   by_cases h1:0≤findI st.1 (d.path.take k++[s])
   ·rw[if_pos h1];exact ⟨hb,hl⟩
   ·rw[if_neg h1]
    by_cases h2:zBs st.1 st.2 (findI st.1 (d.path.take k)).toNat s=true
    ·rw[if_pos h2];exact ih b l (by omega) hb hl
    ·rw[if_neg h2]
     obtain ⟨i,e,_,hi,he,hp⟩:=h.find hj (k:=k) (by omega)
     have hok:zE3 st.1 d.path s (findI st.1 (d.path.take k)):=⟨by omega,i,e,hi,he,by rw[hp];exact List.take_prefix _ _,by rw[hp];omega⟩
     refine ih _ _ (by omega) hok ?_
     split
     ·exact .inr hok
     ·exact hl
theorem zI0 {q:PlIn} {at_:Nat} {done:List ByteArray} {st:PlSt} (h:PlInv q at_ done st) {d:Dir} (hd:st.1[at_]?=some d) (old:Option (List Dir)) {s:ByteArray} (hs:s∉done) (x:Pack):zE3 st.1 d.path s (spotI st.1 st.2 old d.path s x):=by
 have h1:=h.fresh hd hs
 have h2:=h.quiet hd hs
 have h3:=zBG h.apart hd
 have hok:zE3 st.1 d.path s (at_:Int):=⟨by omega,at_,d,rfl,hd,List.prefix_refl _,h1⟩
 unfold spotI
 rw[zAw,List.take_length,if_neg (by omega),h3,Int.toNat_natCast,if_neg (by rw[h2];decide)]
 have h4:=zKr h hd old s x d.path.length (at_:Int) (if zCN old (d.path++[s]) x=true then (at_:Int) else -1) (by omega) hok (by
  split
  ·exact .inr hok
  ·exact .inl rfl)
 generalize zAw st.1 st.2 old d.path s x d.path.length (at_,if zCN old (d.path++[s]) x=true then (at_:Int) else -1)=r at *
 unfold pickI
 by_cases hl:0≤r.2
 ·rw[if_pos hl]
  rcases h4.2 with e|e
  ·rw[e] at hl;exact absurd hl (by decide)
  ·exact e
 ·rw[if_neg hl];exact h4.1
theorem zBv {g:List Node} {ps:List Pack} (h:mayPl g ps=true):1≤g.length∧g.length≤128∧ps.length=g.length∧∀ (j:Nat) (n:Node),g[j]?=some n→∃ x,ps[j]?=some x∧formP g j n x=true:=by
 unfold mayPl at h
 simp only[Bool.and_eq_true,decide_eq_true_eq] at h
 refine ⟨h.1,h.2.1,h.2.2.1,fun j n hj=>?_⟩
 have:=zHQ g h.2.2.2 j n hj
 rwa [Nat.zero_add] at this
theorem zCE {q:PlIn} (h:mayPl q.g q.ps=true) {j:Nat} {n:Node} (hj:q.g[j]?=some n) {e:Edge} (he:e∈n.edges) :
  1≤e.to∧e.to<(q.g.length:Int)∧(zAg q e.to.toNat).name=e.label∧(zAh q e.to.toNat).name=e.label∧packB (zAh q e.to.toNat)=true∧nameB e.label=true:=by
 obtain ⟨_,_,hz,hall⟩:=zBv h
 obtain ⟨x,hx,hf⟩:=hall j n hj
 unfold formP at hf
 simp only[Bool.and_eq_true] at hf
 obtain ⟨_,⟨_,hr⟩,hed,_⟩:=hf
 have h1:=List.all_eq_true.1 hed e he
 unfold edgeP at h1
 simp only[Bool.and_eq_true,decide_eq_true_eq] at h1
 obtain ⟨h1,h2,h3⟩:=h1
 have hlt:e.to.toNat<q.g.length:=by omega
 rw[gE hlt] at h3
 simp only[decide_eq_true_eq] at h3
 have hn:zAg q e.to.toNat=q.g[e.to.toNat]:=by unfold zAg;rw[List.getD_eq_getElem?_getD,gE hlt];rfl
 obtain ⟨y,hy,hf2⟩:=hall e.to.toNat _ (gE hlt)
 have hp:zAh q e.to.toNat=y:=by unfold zAh;rw[List.getD_eq_getElem?_getD,hy];rfl
 unfold formP headP at hf2
 rw[if_neg (by omega)] at hf2
 unfold zEP at hf2
 simp only[Bool.and_eq_true,decide_eq_true_eq] at hf2
 refine ⟨h1,h2,by rw[hn,h3],by rw[hp,hf2.1.2.1,h3],by rw[hp];exact hf2.1.1,?_⟩
 exact zCq hr e.label (List.mem_map.2 ⟨e,he,rfl⟩)
theorem zFG:∀ {l:List ByteArray} {p:Option ByteArray},zAP p l=true→l.Nodup∧∀ a,p=some a→∀ x∈l,lessB a x=true
 | [],p,_=>⟨List.nodup_nil,fun a _ x hx=>by cases hx⟩
 | s::l,p,h=>by
   rw[zAP,Bool.and_eq_true,Bool.and_eq_true] at h
   obtain ⟨h1,h2⟩:=zFG h.2
   refine ⟨List.nodup_cons.2 ⟨fun hm=>?_,h1⟩,fun a ha x hx=>?_⟩
   ·have:=h2 s rfl s hm
    rw[zA9] at this
    cases this
   ·subst ha
    have hb:lessB a s=true:=h.1.2
    rcases List.mem_cons.1 hx with rfl|hx
    ·exact hb
    ·exact zCJ hb (h2 s rfl x hx)
theorem zA1 {q:PlIn} (h:mayPl q.g q.ps=true) {j:Nat} {n:Node} (hj:q.g[j]?=some n):(zAE n.edges).Nodup:=by
 obtain ⟨_,_,_,hall⟩:=zBv h
 obtain ⟨x,_,hf⟩:=hall j n hj
 unfold formP at hf
 simp only[Bool.and_eq_true] at hf
 exact (zFG hf.2.1.2).1
theorem zKm {q:PlIn} {at_:Nat} {done:List ByteArray} {st:PlSt} (h:PlInv q at_ done st) {d:Dir} (hd:st.1[at_]?=some d) {s:ByteArray} (hs:s∉done) (hnm:nameB s=true)
  {node:Nat} (hn1:1≤node) (hn2:node<q.g.length) (hps:(zAh q node).name=s) (hq:q.path≤1024) (hqd:q.dirs≤256)
  {home:Nat} {e:Dir} (hh:st.1[home]?=some e) (hpre:e.path<+:d.path) (hno:findI st.1 (e.path++[s])<0) {T:List Dir} (hT:putP q st.1 home node=.ok T) :
  T=st.1++[⟨e.path++[s],zAh q node,(node:Int)⟩]∧PlInv q at_ (done++[s]) (T,st.2++[⟨at_,s,st.1.length⟩]):=by
 have hpa:zAa st.1 home=e.path:=zBE hh
 unfold putP at hT
 rw[hpa,hps] at hT
 by_cases c1:q.path<((textB (e.path++[s])).size:Int)
 ·rw[if_pos c1] at hT;cases hT
 rw[if_neg c1] at hT
 by_cases c2:q.dirs≤(st.1.length:Int) - 1
 ·rw[if_pos c2] at hT;cases hT
 rw[if_neg c2] at hT
 cases hT
 refine ⟨rfl,?_⟩
 obtain ⟨nd,hnd⟩:∃ nd:Dir,nd=⟨e.path++[s],zAh q node,(node:Int)⟩:=⟨_,rfl⟩
 have hndp:nd.path=e.path++[s]:=by rw[hnd]
 rw[←hnd]
 have hnew:∀ d'∈st.1,d'.path≠e.path++[s]:=fun d' hd'=>zF3 hno hd'
 have hat:∀ (j:Nat) (d':Dir),(st.1++[nd])[j]?=some d'→st.1[j]?=some d'∨(j=st.1.length∧d'=nd):=fun j d' hj=>by
  rcases Nat.lt_trichotomy j st.1.length with hlt|heq|hgt
  ·rw[List.getElem?_append_left hlt] at hj;exact .inl hj
  ·rw[heq,List.getElem?_append_right (nR _),Nat.sub_self] at hj
   cases hj
   exact .inr ⟨heq,rfl⟩
  ·rw[List.getElem?_eq_none (by rw[List.length_append,List.length_singleton];omega)] at hj
   cases hj
 have hold:∀ (j:Nat) (d':Dir),st.1[j]?=some d'→(st.1++[nd])[j]?=some d':=fun j d' hj=>by
  rw[List.getElem?_append_left (gS.1 hj).1];exact hj
 have hhl:=(gS.1 hh).1
 have hdl:=(gS.1 hd).1
 exact {
  pos:=by show 0<(st.1++[nd]).length;rw[List.length_append];have:=h.pos;omega
  len:=by show (st.1++[nd]).length≤257;rw[List.length_append,List.length_singleton];omega
  root:=fun d' hd'=>by
   rcases hat 0 d' hd' with hj|⟨hj,_⟩
   ·exact h.root d' hj
   ·have:=h.pos;omega
  names:=fun d' hd'=>by
   rcases List.mem_append.1 hd' with hm|hm
   ·exact h.names d' hm
   ·rw[List.mem_singleton.1 hm,hndp]
    refine ⟨?_,by omega⟩
    rw[List.all_append,(h.names e (mG hh)).1,List.all_cons,hnm]
    rfl
  up:=fun j d' hj h0=>by
   rcases hat j d' hj with hj'|⟨hj',rfl⟩
   ·obtain ⟨h1,i,e',h2,h3,h4⟩:=h.up j d' hj' h0
    exact ⟨h1,i,e',h2,hold _ _ h3,h4⟩
   ·rw[hndp]
    exact ⟨by simp,home,e,by omega,hold _ _ hh,by rw[List.dropLast_concat]⟩
  apart:=by
   show ((st.1++[nd]).map (·.path)).Nodup
   rw[List.map_append,List.nodup_append]
   refine ⟨h.apart,by simp,fun a ha b hb hab=>?_⟩
   obtain ⟨d',hd',rfl⟩:=List.mem_map.1 ha
   have:b=nd.path:=by simpa using hb
   rw[this,hndp] at hab
   exact hnew d' hd' hab
  node:=fun j d' hj h0=>by
   rcases hat j d' hj with hj'|⟨_,rfl⟩
   ·exact h.node j d' hj' h0
   ·rw[hnd]
    exact ⟨by show (1:Int)≤(node:Int);omega,by show (node:Int)<_;omega,by show zAh q node=zAh q (node:Int).toNat;rw[Int.toNat_natCast]⟩
  stl:=fun x hx=>by
   have hl:(st.1++[nd]).length=st.1.length+1:=by rw[List.length_append];rfl
   rcases List.mem_append.1 hx with hm|hm
   ·obtain ⟨h1,h2,h3⟩:=h.stl x hm
    refine ⟨by rw[hl];omega,by rw[hl];omega,?_⟩
    rcases h3 with h3|⟨h3,h4⟩
    ·exact .inl h3
    ·exact .inr ⟨h3,List.mem_append.2 (.inl h4)⟩
   ·rw[List.mem_singleton.1 hm]
    exact ⟨by rw[hl];show at_<_;omega,by rw[hl];show st.1.length<_;omega,.inr ⟨rfl,by simp⟩⟩
  low:=fun j d' i e' hj hi hle hne hp=>by
   rcases hat i e' hi with hi'|⟨hi',rfl⟩
   ·rcases hat j d' hj with hj'|⟨hj',rfl⟩
    ·obtain ⟨h1,s',h2,h3⟩:=h.low j d' i e' hj' hi' hle hne hp
     exact ⟨h1,s',List.mem_append.2 (.inl h2),h3⟩
    ·rw[hndp] at hp ⊢
     have hp2:e'.path<+:e.path:=by
      rcases List.prefix_concat_iff.1 hp with h1|h1
      ·exact absurd h1 (hnew e' (mG hi'))
      ·exact h1
     have hia:i=at_:=by
      by_cases hc:at_=i
      ·exact hc.symm
      ·exact (h.low at_ d i e' hd hi' hle hc (hp2.trans hpre)).1
     subst hia
     rw[hd] at hi'
     cases hi'
     have he:e.path=d.path:=hpre.eq_of_length_le hp2.length_le
     exact ⟨rfl,s,by simp,by rw[he]⟩
   ·rcases hat j d' hj with hj'|⟨hj',_⟩
    ·exfalso
     rw[hndp] at hp
     obtain ⟨i',e2,_,_,h3,h4⟩:=h.find hj' (k:=(e.path++[s]).length) hp.length_le
     rw[←List.prefix_iff_eq_take.1 hp] at h4
     exact hnew e2 (mG h3) h4
    ·omega}
theorem zLP {T:List Dir} {i:Int} {s:ByteArray} (h:0≤lookI T i s):(lookI T i s).toNat<T.length:=by
 have:=(zCw T i s).2
 omega
theorem zIp {q:PlIn} {at_:Nat} {done:List ByteArray} {st:PlSt} (h:PlInv q at_ done st) {d:Dir} (hd:st.1[at_]?=some d) (kind:Nat) {e:Edge} (hs:e.label∉done) :
  ∃ (i:Nat) (f:Dir),homeP q st at_ kind e=(i:Int)∧st.1[i]?=some f∧f.path<+:d.path∧findI st.1 (f.path++[e.label])<0:=by
 unfold homeP
 by_cases hk:kind=2
 ·rw[if_pos hk,zBE hd]
  exact (zI0 h hd q.old hs (zAh q e.to.toNat)).is
 ·rw[if_neg hk]
  exact ⟨at_,d,rfl,hd,List.prefix_refl _,h.fresh hd hs⟩
theorem zC7 {q:PlIn} {at_:Nat} {done:List ByteArray} {st st':PlSt} (h:PlInv q at_ done st) (hm:mayPl q.g q.ps=true) (hq:q.path≤1024) (hqd:q.dirs≤256) {d:Dir} (hd:st.1[at_]?=some d)
  {j:Nat} {n:Node} (hn:q.g[j]?=some n) {e:Edge} (he:e∈n.edges) (hs:e.label∉done) {kind:Nat} (hst:stepE q at_ kind e st=.ok st') :
  PlInv q at_ (done++[e.label]) st'∧(∃ l,st'.1=st.1++l)∧st'.2.length=st.2.length+1:=by
 have hdl:=(gS.1 hd).1
 unfold stepE at hst
 by_cases hr:zAm q st at_ kind e=true
 ·rw[if_pos hr] at hst
  cases hst
  unfold zAm at hr
  simp only[Bool.and_eq_true,decide_eq_true_eq] at hr
  have hlt:(lookI st.1 (at_:Int) e.label).toNat<st.1.length:=by
   have:=(zCw st.1 (at_:Int) e.label).2
   omega
  refine ⟨{ h with
   stl:=fun x hx=>?_
   low:=fun j d' i e' hj hi hle hne hp=>?_},⟨[],by simp⟩,by simp⟩
  ·rcases List.mem_append.1 hx with hm|hm
   ·obtain ⟨h1,h2,h3⟩:=h.stl x hm
    refine ⟨h1,h2,?_⟩
    rcases h3 with h3|⟨h3,h4⟩
    ·exact .inl h3
    ·exact .inr ⟨h3,List.mem_append.2 (.inl h4)⟩
   ·rw[List.mem_singleton.1 hm]
    exact ⟨hdl,hlt,.inr ⟨rfl,by simp⟩⟩
  ·obtain ⟨h1,s,h2,h3⟩:=h.low j d' i e' hj hi hle hne hp
   exact ⟨h1,s,List.mem_append.2 (.inl h2),h3⟩
 rw[if_neg hr] at hst
 by_cases hk1:kind=1
 ·rw[if_pos hk1] at hst;cases hst
 rw[if_neg hk1] at hst
 obtain ⟨i,f,h1,h2,h3,h4⟩:=zIp h hd kind hs
 rw[h1,Int.toNat_natCast] at hst
 cases hp:putP q st.1 i e.to.toNat with
 | error c=>rw[hp] at hst;cases hst
 | ok T=>
   rw[hp] at hst
   cases hst
   obtain ⟨e1,e2,e3,e4,e5,e6⟩:=zCE hm hn he
   obtain ⟨g1,g2⟩:=zKm h hd hs e6 (node:=e.to.toNat) (by omega) (by omega) e4 hq hqd h2 h3 h4 hp
   exact ⟨g2,⟨_,g1⟩,by simp⟩
def zBS (q:PlIn) (n:Node) (kind k:Nat) (done:List ByteArray):Prop:=∀ s∈done,∃ (j:Nat) (e:Edge),n.edges[j]?=some e∧e.label=s∧(kindP q n e<kind∨(kindP q n e=kind∧j<k))
theorem zBS.more {q:PlIn} {n:Node} {kind k:Nat} {done:List ByteArray} (h:zBS q n kind k done) {k':Nat} (hk:k≤k'):zBS q n kind k' done:=fun s hs=>by
 obtain ⟨j,e,h1,h2,h3⟩:=h s hs
 exact ⟨j,e,h1,h2,by omega⟩
theorem zBS.turn {q:PlIn} {n:Node} {kind k:Nat} {done:List ByteArray} (h:zBS q n kind k done):zBS q n (kind+1) 0 done:=fun s hs=>by
 obtain ⟨j,e,h1,h2,h3⟩:=h s hs
 exact ⟨j,e,h1,h2,by omega⟩
theorem zBS.not {q:PlIn} {n:Node} {kind k:Nat} {done:List ByteArray} (h:zBS q n kind k done) (hn:(zAE n.edges).Nodup) {e:Edge} (he:n.edges[k]?=some e) (hk:kindP q n e=kind):e.label∉done:=fun hm=>by
 obtain ⟨j,e',h1,h2,h3⟩:=h _ hm
 obtain ⟨hj,ej⟩:=gS.1 h1
 obtain ⟨hk',ek⟩:=gS.1 he
 have hjk:j=k:=by
  have h5:(zAE n.edges)[j]'(by unfold zAE;rw[List.length_map];exact hj)=(zAE n.edges)[k]'(by unfold zAE;rw[List.length_map];exact hk'):=by
   simp only[zAE,List.getElem_map,ej,ek,h2]
  exact (List.getElem_inj hn).1 h5
 subst hjk
 rw[h1] at he
 cases he
 omega
theorem zBS.step {q:PlIn} {n:Node} {kind k:Nat} {done:List ByteArray} (h:zBS q n kind k done) {e:Edge} (he:n.edges[k]?=some e) (hk:kindP q n e=kind):zBS q n kind (k+1) (done++[e.label]):=fun s hs=>by
 rcases List.mem_append.1 hs with hs|hs
 ·obtain ⟨j,e',h1,h2,h3⟩:=h s hs
  exact ⟨j,e',h1,h2,by omega⟩
 ·exact ⟨k,e,he,(List.mem_singleton.1 hs).symm,.inr ⟨hk,by omega⟩⟩
theorem zAv (q:PlIn) (n:Node) (e:Edge):1≤kindP q n e∧kindP q n e≤3:=by
 unfold kindP
 split
 ·decide
 ·split<;>decide
theorem zBK (q:PlIn) (at_:Nat) (n:Node) (kind:Nat) {l:List Edge} {k:Nat} {e:Edge} (h:l[k]?=some e) (st:PlSt):zAO q at_ n kind (l.drop k) st=if kindP q n e=kind then (match stepE q at_ kind e st with
  | .error c=>.error c
  | .ok st'=>zAO q at_ n kind (l.drop (k+1)) st') else zAO q at_ n kind (l.drop (k+1)) st:=by
 obtain ⟨hk,e'⟩:=gS.1 h
 rw[dC hk,e',zAO]<;>rfl
def MinI (idx:Nat→Int) (P:Nat→Prop) (lo:Nat) (r:Int):Prop:=(r=-1∧∀ k,lo≤k→¬P k)∨∃ k,lo≤k∧P k∧r=idx k∧∀ k',lo≤k'→P k'→k≤k'
theorem MinI.skip {idx:Nat→Int} {P:Nat→Prop} {lo:Nat} {r:Int} (h:MinI idx P (lo+1) r) (hn:¬P lo):MinI idx P lo r:=by
 rcases h with ⟨h1,h2⟩|⟨k,h1,h2,h3,h4⟩
 ·refine .inl ⟨h1,fun k hk hp=>?_⟩
  by_cases e:k=lo
  ·rw[e] at hp;exact hn hp
  ·exact h2 k (by omega) hp
 ·refine .inr ⟨k,by omega,h2,h3,fun k' hk' hp=>?_⟩
  by_cases e:k'=lo
  ·rw[e] at hp;exact absurd hp hn
  ·exact h4 k' (by omega) hp
theorem MinI.all {idx:Nat→Int} {P:Nat→Prop} {lo:Nat} {r:Int} (h:MinI idx P (lo+1) r) (hn:∀ k,k≤lo→¬P k):MinI idx P 0 r:=by
 rcases h with ⟨h1,h2⟩|⟨k,h1,h2,h3,h4⟩
 ·refine .inl ⟨h1,fun k _ hp=>?_⟩
  rcases Nat.lt_or_ge lo k with e|e
  ·exact h2 k e hp
  ·exact hn k e hp
 ·refine .inr ⟨k,by omega,h2,h3,fun k' _ hp=>?_⟩
  rcases Nat.lt_or_ge lo k' with e|e
  ·exact h4 k' e hp
  ·exact absurd hp (hn k' e)
theorem MinI.here {idx:Nat→Int} {P:Nat→Prop} {lo:Nat} (h:P lo):MinI idx P lo (idx lo):=.inr ⟨lo,nR _,h,rfl,fun k' hk' _=>hk'⟩
section
variable (T:List Dir) (S:List Stl) (old:Option (List Dir)) (path:List ByteArray) (s:ByteArray) (x:Pack)
noncomputable def idxK (k:Nat):Int:=findI T (path.take k)
def zLi (k:Nat):Prop:=∀ k',k≤k'→k'≤path.length→findI T (path.take k'++[s])<0
def zB5 (k:Nat):Prop:=k≤path.length∧zLi T path s k∧zBs T S (idxK T path k).toNat s=false
noncomputable def zDn (k:Nat):Bool:=zCN old (path.take k++[s]) x
def zGa (k:Nat):Prop:=zB5 T S path s k∧zDn old path s x k=true
end
theorem zJ8 (T:List Dir) (S:List Stl) (old:Option (List Dir)) (path:List ByteArray) (s:ByteArray) (x:Pack):∀ (k:Nat) (b l:Int),k≤path.length+1→zLi T path s k →
  MinI (idxK T path) (zB5 T S path s) k b→MinI (idxK T path) (zGa T S old path s x) k l →
  MinI (idxK T path) (zB5 T S path s) 0 (zAw T S old path s x k (b,l)).1∧MinI (idxK T path) (zGa T S old path s x) 0 (zAw T S old path s x k (b,l)).2:=by
 intro k
 induction k with
 | zero=>intro b l _ _ hb hl;exact ⟨hb,hl⟩
 | succ k ih=>
   intro b l hk hc hb hl
   rw[zAw]
   by_cases h1:0≤findI T (path.take k++[s])
   ·rw[if_pos h1]
    have hno:∀ k',k'≤k→¬zB5 T S path s k':=fun k' hk' hv=>by
     have:=hv.2.1 k hk' (by omega)
     omega
    exact ⟨hb.all hno,hl.all fun k' hk' hv=>hno k' hk' hv.1⟩
   ·rw[if_neg h1]
    have hc':zLi T path s k:=fun k' h2 h3=>by
     by_cases e:k'=k
     ·rw[e];omega
     ·exact hc k' (by omega) h3
    by_cases h2:zBs T S (findI T (path.take k)).toNat s=true
    ·rw[if_pos h2]
     have hno:¬zB5 T S path s k:=fun hv=>by
      have:=hv.2.2
      unfold idxK at this
      rw[h2] at this;cases this
     exact ih b l (by omega) hc' (hb.skip hno) (hl.skip fun hv=>hno hv.1)
    ·rw[if_neg h2]
     have hv:zB5 T S path s k:=⟨by omega,hc',by unfold idxK;exact Bool.eq_false_iff.2 h2⟩
     refine ih _ _ (by omega) hc' (MinI.here hv) ?_
     by_cases h3:zCN old (path.take k++[s]) x=true
     ·rw[if_pos h3];exact MinI.here (P:=zGa T S old path s x) ⟨hv,h3⟩
     ·rw[if_neg h3];exact hl.skip fun hv=>h3 hv.2
theorem spotI_min (T:List Dir) (S:List Stl) (old:Option (List Dir)) (path:List ByteArray) (s:ByteArray) (x:Pack) (hpos:∀ k,k≤path.length→0≤idxK T path k) :
  (spotI T S old path s x=-1∧∀ k,¬zB5 T S path s k)∨∃ k,zB5 T S path s k∧spotI T S old path s x=idxK T path k ∧
    ∀ k',zB5 T S path s k'→(zDn old path s x k'=true→zDn old path s x k=true)∧(zDn old path s x k'=zDn old path s x k→k≤k'):=by
 have hno:∀ k,path.length+1≤k→¬zB5 T S path s k:=fun k hk hv=>by have:=hv.1;omega
 obtain ⟨h1,h2⟩:=zJ8 T S old path s x (path.length+1) (-1) (-1) (nR _) (fun k' h1 h2=>by omega) (.inl ⟨rfl,hno⟩) (.inl ⟨rfl,fun k hk hv=>hno k hk hv.1⟩)
 unfold spotI pickI
 generalize zAw T S old path s x (path.length+1) (-1,-1)=r at *
 obtain ⟨b,l⟩:=r
 simp only at h1 h2 ⊢
 have none_of:(∀ k,0≤k→¬zGa T S old path s x k)→(b=-1∧∀ k,¬zB5 T S path s k)∨∃ k,zB5 T S path s k∧b=idxK T path k ∧
   ∀ k',zB5 T S path s k'→(zDn old path s x k'=true→zDn old path s x k=true)∧(zDn old path s x k'=zDn old path s x k→k≤k'):=fun hn=>by
  rcases h1 with ⟨h3,h4⟩|⟨k,_,h3,h4,h5⟩
  ·exact .inl ⟨h3,fun k=>h4 k (nZ _)⟩
  ·exact .inr ⟨k,h3,h4,fun k' hk'=>⟨fun hl=>absurd ⟨hk',hl⟩ (hn k' (nZ _)),fun _=>h5 k' (nZ _) hk'⟩⟩
 rcases h2 with ⟨h3,h4⟩|⟨k,_,h3,h4,h5⟩
 ·rw[if_neg (by omega)];exact none_of h4
 ·have h0:0≤l:=by rw[h4];exact hpos k h3.1.1
  rw[if_pos h0]
  exact .inr ⟨k,h3.1,h4,fun k' hk'=>⟨fun _=>h3.2,fun e=>h5 k' (nZ _) ⟨hk',by rw[e];exact h3.2⟩⟩⟩
