/- The document's search, in plain words: a catalog, what a node wants, lists of pins by name, the place of a node. -/
import Derived.Test.YtminjjdnmpaaoaaGreatDoorIn10
import Derived.Test.YtminjjdnmpaaoaaGreatDoorIn17
import Derived.Test.YtminjjdnmpaaoaaGreatDoorIn06
import Derived.Deep.CutRange
import Derived.Test.YtminjjdnmpaaoaaGreatDoorAl
set_option linter.all false
set_option maxHeartbeats 6400000
set_option maxRecDepth 100000
namespace Go.Proofs.YtminjjdnmpaaoaaGreatDoor
open Go
def cmp3T (x1 x2 x3 y1 y2 y3:Int):Int:=if x1<y1 then -1 else if y1<x1 then 1 else if x2<y2 then -1 else if y2<x2 then 1 else if x3<y3 then -1 else if y3<x3 then 1 else 0
def cmpT (a b:Ver):Int:=cmp3T a.major a.minor a.patch b.major b.minor b.patch
noncomputable def zCz (a b:Pack):Bool:=if a.name=b.name then decide (0<cmpT a.ver b.ver) else lessB a.name b.name
noncomputable def isC (s:ByteArray) (v:Ver) (x:Pack):Bool:=decide (x.name=s)&&eqB x.ver v
noncomputable def getC (L:List Pack) (s:ByteArray) (v:Ver):Option Pack:=L.find? (isC s v)
noncomputable def zBP (L:List Pack) (p:Pack):Nat:=(L.takeWhile fun x=>zCz x p).length
noncomputable def putC (L:List Pack) (p:Pack):List Pack×Int:=
 if packB p=false then (L,24)
 else if (getC L p.name p.ver).isSome=true then (L,11)
 else if 128≤L.length then (L,26)
 else (L.take (zBP L p)++p::L.drop (zBP L p),0)
noncomputable def catC (ps:List Pack):List Pack:=ps.foldl (fun L p=>(putC L p).1) []
def versC (L:List Pack) (s:ByteArray):List Ver:=(L.filter fun x=>decide (x.name=s)).map (·.ver)
structure Want where
 name:ByteArray
 kind:Int
 range:List Spn
def zBr (m:Mani) (d:Dep):List Spn:=match m.over.find? (fun o=>decide (o.name=d.name)) with
 | some o=>o.range
 | none=>d.range
def backW (l:List Want) (s:ByteArray):Nat→Nat
 | 0=>0
 | i+1=>match l[i]? with
   | none=>i+1
   | some x=>if lessB s x.name=true then backW l s i else i+1
def zBl (l:List Want) (w:Want):List Want:=l.take (backW l w.name l.length)++w::l.drop (backW l w.name l.length)
def zAI (m:Mani) (kind:Int):List Dep→List Want→List Want
 | [],l=>l
 | d::ds,l=>zAI m kind ds (zBl l ⟨d.name,kind,zBr m d⟩)
def ofW (m:Mani) (p:Pack):List Want:=zAI m 2 p.opts (zAI m 1 p.deps [])
def zBM (m:Mani) (dev:Bool):List Want:=zAI m 2 m.opts (if dev=true then zAI m 1 m.dev (zAI m 1 m.deps []) else zAI m 1 m.deps [])
def zBa (m:Mani) (l:List Dep):List Dep:=l.map fun d=>⟨d.name,zBr m d⟩
def zAQ:List Pin→ByteArray→Option Ver
 | [],_=>none
 | x::l,s=>if x.name=s then some x.ver else zAQ l s
def pinAt (l:List Pin) (s:ByteArray):Nat:=(l.takeWhile fun x=>lessB x.name s).length
def pinIs (l:List Pin) (s:ByteArray):Bool:=match l[pinAt l s]? with
 | none=>false
 | some x=>decide (x.name=s)
def withP (l:List Pin) (p:Pin):List Pin:=if pinIs l p.name=true then l else l.take (pinAt l p.name)++p::l.drop (pinAt l p.name)
noncomputable def isN (p:Pin) (c:List Pin) (n:Node):Bool:=decide (n.name=p.name)&&(eqB n.ver p.ver&&eqB n.ctx c)
noncomputable def zAq (p:Pin) (c:List Pin):List Node→Nat
 | []=>0
 | n::l=>if isN p c n=true then 0 else zAq p c l+1
noncomputable def placeN (nodes:List Node) (p:Pin) (c:List Pin):Nat:=match nodes with
 | []=>0
 | _::l=>zAq p c l+1
theorem zLS {a b:ByteArray} (h1:lessB a b=false) (h2:a≠b):lessB b a=true:=by
 rw[zCg,decide_eq_false_iff_not,List.not_lt] at h1
 rw[zCg,decide_eq_true_eq]
 rcases List.le_iff_lt_or_eq.1 h1 with h|h
 ·exact h
 ·exact absurd (ByteArray.ext (Array.ext' h.symm)) h2
def SrtP (l:List Pin):Prop:=l.Pairwise fun a b=>lessB a.name b.name=true
theorem zCV (x:Pin) (l:List Pin) (s:ByteArray):pinAt (x::l) s=if lessB x.name s=true then pinAt l s+1 else 0:=by
 unfold pinAt
 rw[List.takeWhile_cons]
 split<;>rename_i h<;>simp[h]
theorem zIW (l:List Pin) (s:ByteArray):pinAt l s≤l.length:=by
 induction l with
 | nil=>exact nR _
 | cons x l ih=>rw[zCV];split<;>simp<;>omega
theorem zF5 (x:Pin) (l:List Pin) (s:ByteArray):pinIs (x::l) s=if lessB x.name s=true then pinIs l s else decide (x.name=s):=by
 unfold pinIs
 rw[zCV]
 by_cases h:lessB x.name s=true
 ·rw[if_pos h,if_pos h,List.getElem?_cons_succ]
 ·rw[if_neg h,if_neg h,List.getElem?_cons_zero]
theorem zDM (x:Pin) (l:List Pin) (p:Pin):withP (x::l) p=if lessB x.name p.name=true then x::withP l p else if x.name=p.name then x::l else p::x::l:=by
 unfold withP
 rw[zF5,zCV]
 by_cases h:lessB x.name p.name=true
 ·rw[if_pos h,if_pos h,if_pos h]
  split
  ·rfl
  ·rw[List.take_succ_cons,List.drop_succ_cons,List.cons_append]
 ·rw[if_neg h,if_neg h,if_neg h]
  by_cases h2:x.name=p.name
  ·rw[if_pos (by simpa using h2),if_pos h2]
  ·rw[if_neg (by simpa using h2),if_neg h2];rfl
theorem zKO (p:Pin):withP [] p=[p]:=rfl
theorem withP_mem {l:List Pin} {p x:Pin} (h:x∈withP l p):x=p∨x∈l:=by
 induction l with
 | nil=>rw[zKO] at h;exact .inl (List.mem_singleton.1 h)
 | cons y l ih=>
   rw[zDM] at h
   split at h
   ·rcases List.mem_cons.1 h with rfl|h
    ·exact .inr (by simp)
    ·rcases ih h with h|h
     ·exact .inl h
     ·exact .inr (by simp[h])
   ·split at h
    ·exact .inr h
    ·rcases List.mem_cons.1 h with h|h
     ·exact .inl h
     ·exact .inr h
theorem zDs {l:List Pin} {p x:Pin} (h:x∈l):x∈withP l p:=by
 induction l with
 | nil=>cases h
 | cons y l ih=>
   rw[zDM]
   split
   ·rcases List.mem_cons.1 h with rfl|h
    ·simp
    ·simp[ih h]
   ·split
    ·exact h
    ·simp only[List.mem_cons] at h ⊢;exact .inr h
theorem zCM {l:List Pin} (p:Pin) (h:SrtP l):SrtP (withP l p):=by
 induction l with
 | nil=>exact List.pairwise_singleton _ _
 | cons x l ih=>
   unfold SrtP at h ih ⊢
   rw[List.pairwise_cons] at h
   rw[zDM]
   split
   ·rename_i hx
    rw[List.pairwise_cons]
    refine ⟨fun y hy=>?_,ih h.2⟩
    rcases withP_mem hy with rfl|hy
    ·exact hx
    ·exact h.1 y hy
   ·rename_i hx
    split
    ·exact List.pairwise_cons.2 h
    ·rename_i hne
     have hpx:lessB p.name x.name=true:=zLS (by simpa using hx) hne
     rw[List.pairwise_cons]
     refine ⟨fun y hy=>?_,List.pairwise_cons.2 h⟩
     rcases List.mem_cons.1 hy with rfl|hy
     ·exact hpx
     ·exact zCv hpx (h.1 y hy)
theorem zHI (l:List Pin) (p:Pin):(withP l p).length=if pinIs l p.name=true then l.length else l.length+1:=by
 induction l with
 | nil=>rfl
 | cons x l ih=>
   rw[zDM,zF5]
   split
   ·rw[List.length_cons,ih];split<;>simp
   ·rename_i h
    by_cases h2:x.name=p.name
    ·rw[if_pos h2,if_pos (by simpa using h2)]
    ·rw[if_neg h2,if_neg (by simpa using h2)];simp
theorem zLc (l:List Pin) (p:Pin):(withP l p).length≤l.length+1:=by rw[zHI];split<;>omega
theorem SrtP.nodup {l:List Pin} (h:SrtP l):(l.map (·.name)).Nodup:=by
 unfold List.Nodup
 rw[List.pairwise_map]
 exact h.imp fun {a b} hab he=>by rw[he,zBd] at hab;cases hab
theorem zKH {α:Type} [DecidableEq α]:∀ {l m:List α},l.Nodup→(∀ x∈l,x∈m)→l.length≤m.length:=by
 intro l
 induction l with
 | nil=>intro m _ _;exact nZ _
 | cons x l ih=>
   intro m hn hs
   rw[List.nodup_cons] at hn
   have hx:=hs x (by simp)
   have h:=ih (m:=m.erase x) hn.2 fun y hy=>(List.mem_erase_of_ne (fun e:y=x=>hn.1 (by rw[←e];exact hy))).2 (hs y (by simp[hy]))
   rw[List.length_erase_of_mem hx] at h
   have:=List.length_pos_of_mem hx
   rw[List.length_cons]
   omega
def zCG (env l:List Pin):Prop:=∀ x∈l,x.name∈env.map (·.name)
theorem SrtP.le {env l:List Pin} (h:SrtP l) (hs:zCG env l):l.length≤env.length:=by
 have:=zKH (m:=env.map (·.name)) h.nodup (fun s hs'=>by
  obtain ⟨x,hx,rfl⟩:=List.mem_map.1 hs'
  exact hs x hx)
 rwa [List.length_map,List.length_map] at this
theorem zC8 {l:List Pin} {s:ByteArray} {v:Ver} (h:zAQ l s=some v):(⟨s,v⟩:Pin)∈l:=by
 induction l with
 | nil=>cases h
 | cons x l ih=>
   unfold zAQ at h
   split at h
   ·rename_i hx
    cases h
    subst hx
    simp
   ·simp[ih h]
theorem zF3 {l:List Pin} {s:ByteArray} {v:Ver} (h:zAQ l s=some v):s∈l.map (·.name):=List.mem_map.2 ⟨_,zC8 h,rfl⟩
end Go.Proofs.YtminjjdnmpaaoaaGreatDoor
namespace Go.Proofs.YtminjjdnmpaaoaaGreatDoor
open Go.Rows Go.RowKit Go.Shelf Go.Sort
theorem zF8 {l:List Pin} {s:ByteArray} {k:Nat} (h:l.length≤k):zAQ (l.drop k) s=none:=by rw[dN h];rfl
theorem zF1 {l:List Pin} {k:Nat} {x:Pin} (hx:l[k]?=some x) (s:ByteArray):zAQ (l.drop k) s=if x.name=s then some x.ver else zAQ (l.drop (k+1)) s:=by
 obtain ⟨h,e⟩:=gS.1 hx
 rw[dC h,e,zAQ]
theorem zEb {P:Program} {fn:Func} {R:Ending→World→Prop} {ty:TypeId} {d:TypeDesc} {p q:Tmp} {a:Act} {W:World} {g:Nat} {x y z bv:Value} {t:TypeId} (hf:fn.results=#[.cell p ty,.tmp q]) (hd:a.defers=[]) (h2:a.tmps.getD p undef=.pointer (some ⟨g,0,none⟩)) (h3:a.tmps.getD q undef=bv)
  (hg:W.heap[g]?=some (.cells #[x,y,z] t (0,0))) (hu:P.underlying ty=some d) (hdd:(match d with|.struct _|.array _ _=>true|_=>false)=true) (hi:(P.info? ty).map (·.size)=some 3)
  (h:R (.returned (.tuple #[.agg #[x,y,z],bv])) W):bodyPost P fn R Exit.ret a W:=
 bodyPost_ret (zBi hf a.tmps W g t #[x,y,z] (0,0) d h2 hg hu hdd hi) hd (by rw[h3];exact h)
def verQ (o:Option Ver):Value:=match o with
 | none=>.agg #[.int .i64 0,.int .i64 0,.int .i64 0]
 | some v=>.agg #[.int .i64 v.major,.int .i64 v.minor,.int .i64 v.patch]
theorem set1Q {W:World} {b j:Nat} {cs:Array Value} {t:TypeId} (h:W.heap[b]?=some (.cells cs t (0,0))) (v:Value):(W.setCell ⟨b,j,none⟩ v).heap[b]?=some (.cells (cs.setIfInBounds j v) t (0,0)):=heap_setCell_same W b j cs t v h
theorem set3Q {W:World} {b:Nat} {x y z:Value} {t:TypeId} (h:W.heap[b]?=some (.cells #[x,y,z] t (0,0))) (a1 a2 a3:Value) :
 (((W.setCell ⟨b,0,none⟩ a1).setCell ⟨b,1,none⟩ a2).setCell ⟨b,2,none⟩ a3).heap[b]?=some (.cells #[a1,a2,a3] t (0,0)):=set1Q (set1Q (set1Q h a1) a2) a3
theorem zBS {B:Nat} {w W:World} (h:Below B w W) {b:Nat} (hb:B≤b) (a1 a2 a3:Value):Below B w (((W.setCell ⟨b,0,none⟩ a1).setCell ⟨b,1,none⟩ a2).setCell ⟨b,2,none⟩ a3):=((h.setCell hb _).setCell hb _).setCell hb _
theorem zCP:Elt Tryz.prog 63 4 40:=Elt.mk' (z:=.agg #[.string ⟨#[]⟩,.int .i64 0,.int .i64 0,.int .i64 0]) (by kernel_rfl) rfl (by decide)
theorem zF6 {w w':World} {S S':Nat→Prop}:∀ {l:List Pin} {xs:List Value},Elems rPin w S l xs→Elems rPin w' S' l xs
 | [],_,h=>h
 | x::l,_,⟨cs,rest,h1,h2,h3⟩=>⟨cs,rest,h1,h2,zF6 h3⟩
theorem zCo {w:World} {base:Nat} {e:TypeId} {v:Value} {l:List Pin} {S:Nat→Prop} (h:Own rPin w base e v l S):Own rPin w base e v l (fun _=>False):=by
 obtain ⟨h0,xs,h1,h2⟩:=h
 exact ⟨fun b hb=>hb.elim,xs,h1,zF6 h2⟩
theorem zMR (A:Option Addr) (n c:Nat) (l:List Pin) (s:ByteArray) (w:World) (S:Nat→Prop) (hl:SlV rPin w S l (.slice A n c)) :
  Calls Tryz.prog 144 #[.slice A n c,.string s] w fun e w'=>e=.returned (.tuple #[verQ (zAQ l s),.bool (zAQ l s).isSome])∧Below w.heap.size w w':=by
 have hn:=hl.n_eq
 have hcap:=hl.cap_le
 unfold maxLen at hcap
 have HL:=cH hl
 have Hn:=cH hn
 have HR:Hid (zAQ l s=zAQ (l.drop 0) s):=rfl
 have hnz:n≤9223372036854775807:=by omega
 obtain ⟨R,hR⟩:∃ R,R=zAQ l s:=⟨_,rfl⟩
 rw[←hR] at HR ⊢
 have hz0:l.length=n:=hn.symm
 have Hz0:=cH hz0
 clear hl hn hR hcap hz0
 obtain ⟨w0,hw0⟩:∃ w0,w0=w.alloc (.cells #[.int .i64 0,.int .i64 0,.int .i64 0] 50):=⟨_,rfl⟩
 have HB0:Hid (Below w.heap.size w w0):=by unfold Hid;rw[hw0];exact bal (bR _ _) _
 have HQ0:Hid (w0.heap[w.heap.size]?=some (.cells #[.int .i64 0,.int .i64 0,.int .i64 0] 50 (0,0))):=by unfold Hid;rw[hw0];exact zAD _ _
 obtain ⟨g,hg⟩:∃ g,g=w.heap.size:=⟨_,rfl⟩
 have Hg:Hid (w.heap.size≤g):=by unfold Hid;omega
 go_enter Tryz.func144,Tryz.ntmps144
 go_wp2_with fail
 rw[←hw0,←hg]
 rw[←hg] at HQ0
 clear hw0 hg
 go_loopw [6] (fun t wr=>∃ k:Nat,k≤n∧t=.int .i64 k∧Hid (R=zAQ (l.drop k) s)∧Hid (wr=w0)) (fun t _=>n - (intOf t).toNat)
 case atStart=>exact ⟨0,nZ _,rfl,HR,rfl⟩
 case round=>
  clear HR
  obtain ⟨k,hk,rfl,heq,hwr⟩:=hrel
  have hk0:(0:Int)≤(k:Int):=by omega
  have HBr:Hid (Below w.heap.size w wr):=by unfold Hid;rw[hwr.out];exact HB0.out
  have HQr:Hid (wr.heap[g]?=some (.cells #[.int .i64 0,.int .i64 0,.int .i64 0] 50 (0,0))):=by unfold Hid;rw[hwr.out];exact HQ0.out
  obtain ⟨⟨d0,d1,d2⟩,e0,e1,e2⟩:=row3P HQr.out
  by_cases hlt:k<n
  case neg=>
   have He:Hid (R=none):=by unfold Hid;rw[heq.out,zF8 (by have:=Hz0.out;omega)]
   have hI:¬(k:Int)<(n:Int):=by omega
   clear heq
   go_wp2_with fail
   refine zEb rfl rfl rfl rfl (set3Q HQr.out _ _ _) Tryz.underlying50 rfl (by kernel_rfl) ⟨?_,zBS HBr.out Hg.out _ _ _⟩
   rw[He.out];rfl
  have hkn:(k:Int)<(n:Int):=by omega
  obtain ⟨x,hx⟩:∃ x,l[k]?=some x:=⟨_,gE (by have:=Hz0.out;omega)⟩
  obtain ⟨b,o,cs,hA,_,hb1,⟨rfl,hsz,i1,i2,i3⟩,hcell⟩:=(HL.out.belowSize HBr.out).elem hx
  subst hA
  have c0:=hcell 0 _ rfl
  have c1:=hcell 1 _ rfl
  have c2:=hcell 2 _ rfl
  have c3:=hcell 3 _ rfl
  simp only[rPin,Nat.add_zero] at c0 c1 c2 c3
  have Hstep:=cH (zF1 hx s)
  clear hcell hsz i1 i2 i3 hx
  obtain ⟨xn,xv⟩:=x
  obtain ⟨v1,v2,v3⟩:=xv
  simp only at c0 c1 c2 c3 Hstep
  by_cases h1:xn=s
  ·have hb2:=zAn h1
   have He:Hid (R=some ⟨v1,v2,v3⟩):=by unfold Hid;rw[heq.out,Hstep.out,if_pos h1]
   clear heq Hstep h1
   go_wp2_with fail
   refine zEb rfl rfl rfl rfl (set3Q HQr.out _ _ _) Tryz.underlying50 rfl (by kernel_rfl) ⟨?_,zBS HBr.out Hg.out _ _ _⟩
   rw[He.out];rfl
  ·have hb2:=zAa h1
   have He:Hid (R=zAQ (l.drop (k+1)) s):=by unfold Hid;rw[heq.out,Hstep.out,if_neg h1]
   clear heq Hstep h1
   go_wp2_with fail
   go_roundw
   case rel=>exact ⟨k+1,by omega,by go_num,He,hwr⟩
   case measure=>simp[intOf];omega
theorem zLX (A:Option Addr) (n c:Nat) (l:List Pin) (s:ByteArray) (w:World) (S:Nat→Prop) (hl:SlV rPin w S l (.slice A n c)) :
  Calls Tryz.prog 178 #[.slice A n c,.string s] w fun e w'=>e=.returned (.tuple #[verQ (zAQ l s),.bool (zAQ l s).isSome])∧Below w.heap.size w w':=by
 have hn:=hl.n_eq
 have hcap:=hl.cap_le
 unfold maxLen at hcap
 have HL:=cH hl
 have Hn:=cH hn
 have HR:Hid (zAQ l s=zAQ (l.drop 0) s):=rfl
 have hnz:n≤9223372036854775807:=by omega
 obtain ⟨R,hR⟩:∃ R,R=zAQ l s:=⟨_,rfl⟩
 rw[←hR] at HR ⊢
 have hz0:l.length=n:=hn.symm
 have Hz0:=cH hz0
 clear hl hn hR hcap hz0
 obtain ⟨w0,hw0⟩:∃ w0,w0=w.alloc (.cells #[.int .i64 0,.int .i64 0,.int .i64 0] 50):=⟨_,rfl⟩
 have HB0:Hid (Below w.heap.size w w0):=by unfold Hid;rw[hw0];exact bal (bR _ _) _
 have HQ0:Hid (w0.heap[w.heap.size]?=some (.cells #[.int .i64 0,.int .i64 0,.int .i64 0] 50 (0,0))):=by unfold Hid;rw[hw0];exact zAD _ _
 obtain ⟨g,hg⟩:∃ g,g=w.heap.size:=⟨_,rfl⟩
 have Hg:Hid (w.heap.size≤g):=by unfold Hid;omega
 go_enter Tryz.func178,Tryz.ntmps178
 go_wp2_with fail
 rw[←hw0,←hg]
 rw[←hg] at HQ0
 clear hw0 hg
 go_loopw [6] (fun t wr=>∃ k:Nat,k≤n∧t=.int .i64 k∧Hid (R=zAQ (l.drop k) s)∧Hid (wr=w0)) (fun t _=>n - (intOf t).toNat)
 case atStart=>exact ⟨0,nZ _,rfl,HR,rfl⟩
 case round=>
  clear HR
  obtain ⟨k,hk,rfl,heq,hwr⟩:=hrel
  have hk0:(0:Int)≤(k:Int):=by omega
  have HBr:Hid (Below w.heap.size w wr):=by unfold Hid;rw[hwr.out];exact HB0.out
  have HQr:Hid (wr.heap[g]?=some (.cells #[.int .i64 0,.int .i64 0,.int .i64 0] 50 (0,0))):=by unfold Hid;rw[hwr.out];exact HQ0.out
  obtain ⟨⟨d0,d1,d2⟩,e0,e1,e2⟩:=row3P HQr.out
  by_cases hlt:k<n
  case neg=>
   have He:Hid (R=none):=by unfold Hid;rw[heq.out,zF8 (by have:=Hz0.out;omega)]
   have hI:¬(k:Int)<(n:Int):=by omega
   clear heq
   go_wp2_with fail
   refine zEb rfl rfl rfl rfl (set3Q HQr.out _ _ _) Tryz.underlying50 rfl (by kernel_rfl) ⟨?_,zBS HBr.out Hg.out _ _ _⟩
   rw[He.out];rfl
  have hkn:(k:Int)<(n:Int):=by omega
  obtain ⟨x,hx⟩:∃ x,l[k]?=some x:=⟨_,gE (by have:=Hz0.out;omega)⟩
  obtain ⟨b,o,cs,hA,_,hb1,⟨rfl,hsz,i1,i2,i3⟩,hcell⟩:=(HL.out.belowSize HBr.out).elem hx
  subst hA
  have c0:=hcell 0 _ rfl
  have c1:=hcell 1 _ rfl
  have c2:=hcell 2 _ rfl
  have c3:=hcell 3 _ rfl
  simp only[rPin,Nat.add_zero] at c0 c1 c2 c3
  have Hstep:=cH (zF1 hx s)
  clear hcell hsz i1 i2 i3 hx
  obtain ⟨xn,xv⟩:=x
  obtain ⟨v1,v2,v3⟩:=xv
  simp only at c0 c1 c2 c3 Hstep
  by_cases h1:xn=s
  ·have hb2:=zAn h1
   have He:Hid (R=some ⟨v1,v2,v3⟩):=by unfold Hid;rw[heq.out,Hstep.out,if_pos h1]
   clear heq Hstep h1
   go_wp2_with fail
   refine zEb rfl rfl rfl rfl (set3Q HQr.out _ _ _) Tryz.underlying50 rfl (by kernel_rfl) ⟨?_,zBS HBr.out Hg.out _ _ _⟩
   rw[He.out];rfl
  ·have hb2:=zAa h1
   have He:Hid (R=zAQ (l.drop (k+1)) s):=by unfold Hid;rw[heq.out,Hstep.out,if_neg h1]
   clear heq Hstep h1
   go_wp2_with fail
   go_roundw
   case rel=>exact ⟨k+1,by omega,by go_num,He,hwr⟩
   case measure=>simp[intOf];omega
theorem zMM (A:Option Addr) (n c:Nat) (l:List Pin) (p:Pin) (w:World) (S:Nat→Prop) (hl:SlV rPin w S l (.slice A n c)) (hlz:l.length≤1048576) (hp:p.name.size≤maxLen∧I64 p.ver.major∧I64 p.ver.minor∧I64 p.ver.patch) :
  Calls Tryz.prog 147 #[.slice A n c,.agg #[.string p.name,.int .i64 p.ver.major,.int .i64 p.ver.minor,.int .i64 p.ver.patch]] w fun e w'=>∃ A' c',e=.returned (.slice A' (withP l p).length c')∧SlV rPin w' (fun b=>S b∨w.heap.size≤b) (withP l p) (.slice A' (withP l p).length c')∧Below w.heap.size w w':=by
 have hn:=hl.n_eq
 have hcap:=hl.cap_le
 unfold maxLen at hcap
 have HL:=cH hl
 have Hz0:Hid (l.length=n):=hn.symm
 have HR:Hid (pinAt l p.name=0+pinAt (l.drop 0) p.name):=by unfold Hid;rw[List.drop_zero,Nat.zero_add]
 have hnz:n≤1048576:=by omega
 have hnc:n≤c:=by omega
 have Hw:Hid (withP l p=if pinIs l p.name=true then l else l.take (pinAt l p.name)++p::l.drop (pinAt l p.name)):=rfl
 have Hp:=cH hp
 obtain ⟨pn,pv⟩:=p
 obtain ⟨v1,v2,v3⟩:=pv
 simp only at Hp HR
 have HLe:Hid (∀ W (x:ByteArray),x.size≤maxLen→Calls Tryz.prog 108 #[.string x,.string pn] W fun e w'=>e=.returned (.bool (lessB x pn))∧Below W.heap.size W w'):=fun W x hx=>zCx x pn hx Hp.out.1 W
 have HI:Hid (pinIs l pn=match l[pinAt l pn]? with|none=>false|some x=>decide (x.name=pn)):=rfl
 obtain ⟨RR,hRR⟩:∃ RR,RR=withP l ⟨pn,v1,v2,v3⟩:=⟨_,rfl⟩
 rw[←hRR] at Hw ⊢
 obtain ⟨RI,hRI⟩:∃ RI,RI=pinIs l pn:=⟨_,rfl⟩
 simp only at Hw
 rw[←hRI] at Hw HI
 have hpz:pinAt l pn≤n:=by have:=zIW l pn;omega
 have Hpz:=cH hpz
 clear hl hn hp hlz hcap hRR hRI hpz
 obtain ⟨w0,hw0⟩:∃ w0,w0=w.alloc (.cells #[.string pn,.int .i64 v1,.int .i64 v2,.int .i64 v3] 63):=⟨_,rfl⟩
 have HB0:Hid (Below w.heap.size w w0):=by unfold Hid;rw[hw0];exact bal (bR _ _) _
 have HQ0:Hid (w0.heap[w.heap.size]?=some (.cells #[.string pn,.int .i64 v1,.int .i64 v2,.int .i64 v3] 63 (0,0))):=by unfold Hid;rw[hw0];exact zAD _ _
 obtain ⟨g,hg⟩:∃ g,g=w.heap.size:=⟨_,rfl⟩
 rw[←hg] at HQ0
 have hz0:w.heap.size≤w0.heap.size:=HB0.out.size
 have Hrow:Hid (∀ W,Below w0.heap.size w0 W→W.cell? ⟨g,0,none⟩=some (.string pn)∧W.cell? ⟨g,1,none⟩=some (.int .i64 v1)∧W.cell? ⟨g,2,none⟩=some (.int .i64 v2)∧W.cell? ⟨g,3,none⟩=some (.int .i64 v3)):=fun W hW=>by
  have h:=(hW.block _ (aS.1 HQ0.out).1).trans HQ0.out
  exact ⟨cO _ _ 0 _ _ _ h,cO _ _ 1 _ _ _ h,cO _ _ 2 _ _ _ h,cO _ _ 3 _ _ _ h⟩
 go_enter Tryz.func147,Tryz.ntmps147
 go_wp2_with fail
 rw[←hw0,←hg]
 clear hw0 hg HQ0
 go_loopw [5] (fun t wr=>∃ k:Nat,k≤n∧t=.int .i64 k∧Hid (pinAt l pn=k+pinAt (l.drop k) pn)∧Hid (Below w0.heap.size w0 wr)) (fun t _=>n - (intOf t).toNat)
 case atStart=>exact ⟨0,nZ _,rfl,HR,bR _ _⟩
 case round=>
  clear HR
  obtain ⟨k,hk,rfl,heq,hB⟩:=hrel
  have hk0:(0:Int)≤(k:Int):=by omega
  obtain ⟨x0,x1,x2,x3⟩:=Hrow.out wr hB.out
  by_cases hlt:k<n
  rotate_left
  focus
   have hpI:¬(k:Int)<(n:Int):=by omega
   have hpd:decide ((k:Int)<(n:Int))=false:=decide_eq_false hpI
   have hpdn:decide (k<n)=false:=decide_eq_false hlt
   have Hat:Hid (pinAt l pn=k):=by
    unfold Hid
    rw[heq.out,dN (by have:=Hz0.out;omega)];rfl
   have Hno:Hid (RI=false):=by
    unfold Hid
    rw[HI.out,Hat.out,List.getElem?_eq_none (by have:=Hz0.out;omega)]
   clear heq
   go_upto_region 2 with (fail)
   have r_x0:=cR x0
   go_wp2_with fail
   refine wQ ?_
   repeat (go_big_quiet_step (first|fail))
   refine wpQuiet_nil fun w4 B4=>?_
   go_upto_region 4 with (fail)
   have B40:=B4
   clear r_x0 x0 x1 x2 x3
   obtain ⟨x0,x1,x2,x3⟩:=Hrow.out w4 (bot hB.out B40)
   have HB4:=cH (bot hB.out B40)
   clear B40 B4
   have r_x0:=cR x0
   go_wp2_with fail
   refine wQ ?_
   repeat (go_big_quiet_step (first|fail))
   refine wpQuiet_nil fun w5 B5=>?_
   have HB5:=cH (bot HB4.out B5)
   clear r_x0 x0 x1 x2 x3 B5 HB4
   go_upto_region 7 with (fail)
  rotate_left
  focus
   have hkI:(k:Int)<(n:Int):=by omega
   have hkd:decide ((k:Int)<(n:Int))=true:=decide_eq_true hkI
   have hkdn:decide (k<n)=true:=decide_eq_true hlt
   obtain ⟨x,hx⟩:∃ x,l[k]?=some x:=⟨_,gE (by have:=Hz0.out;omega)⟩
   have HBr:Hid (Below w.heap.size w wr):=bot HB0.out hB.out
   obtain ⟨b,o,cs,hA,_,hb1,⟨rfl,hsz,i1,i2,i3⟩,hcell⟩:=(HL.out.belowSize HBr.out).elem hx
   have c0:=hcell 0 _ rfl
   simp only[rPin,Nat.add_zero] at c0
   have hbw:b<wr.heap.size:=hb1
   have hdk:l.drop k=x::l.drop (k+1):=by
    obtain ⟨h,e⟩:=gS.1 hx
    rw[dC h,e]
   have Hstep:Hid (pinAt l pn=k+if lessB x.name pn=true then pinAt (l.drop (k+1)) pn+1 else 0):=by unfold Hid;rw[heq.out,hdk,zCV]
   have HTx:Hid (∀ W,Below wr.heap.size wr W→Calls Tryz.prog 108 #[.string x.name,.string pn] W fun e w'=>e=.returned (.bool (lessB x.name pn))∧Below W.heap.size W w'):=fun W _=>HLe.out W x.name hsz
   have HTq:=cH (qcall (w:=wr) HTx.out)
   have Hx:=cH hx
   clear hcell hsz i1 i2 i3 hdk heq hx HTx
   subst hA
   have Hname:Hid (∀ y,l[k]?=some y→y=x):=fun y hy=>Option.some.inj (hy.symm.trans Hx.out)
   obtain ⟨xn,xv⟩:=x
   simp only at c0 Hstep HTq
   by_cases hls:lessB xn pn=true
   focus
    rw[hls] at HTq
    have He:Hid (pinAt l pn=(k+1)+pinAt (l.drop (k+1)) pn):=by unfold Hid;rw[Hstep.out,if_pos hls];omega
    clear Hstep hls
    go_upto_region 2 with (fail)
    have r_x0:=cR x0
    have r_c0:=cR c0
    go_wp2_with fail
    refine wQ ?_
    repeat (go_big_quiet_step (first|(with_reducible exact HTq.out _ _)))
    refine wpQuiet_nil fun w4 B4=>?_
    have HB4:=cH (bot hB.out B4)
    clear B4
    go_wp2_with fail
    go_roundw
    case rel=>exact ⟨k+1,by omega,by go_num,He,HB4⟩
    case measure=>simp[intOf];omega
   have hls:lessB xn pn=false:=by simpa using hls
   have Hat:Hid (pinAt l pn=k):=by unfold Hid;rw[Hstep.out,if_neg (by rw[hls];decide)];rfl
   rw[hls] at HTq
   have HI2:Hid (RI=decide (xn=pn)):=by unfold Hid;rw[HI.out,Hat.out,Hx.out]
   clear Hstep hls
   go_upto_region 2 with (fail)
   have r_x0:=cR x0
   have r_c0:=cR c0
   go_wp2_with fail
   refine wQ ?_
   repeat (go_big_quiet_step (first|(with_reducible exact HTq.out _ _)))
   refine wpQuiet_nil fun w4 B4=>?_
   have HB4:=cH (bot hB.out B4)
   have c4:=zAA B4 c0 hbw
   clear r_x0 r_c0 x0 x1 x2 x3 c0 B4
   obtain ⟨x0,x1,x2,x3⟩:=Hrow.out w4 HB4.out
   by_cases hnm:xn=pn
   focus
    have hb2:=zAn hnm
    have Hy:Hid (RI=true):=by unfold Hid;rw[HI2.out,decide_eq_true hnm]
    clear HI2 hnm
    go_upto_region 4 with (fail)
    have r_x0:=cR x0
    have r_c4:=cR c4
    go_wp2_with fail
    refine wQ ?_
    repeat (go_big_quiet_step (first|fail))
    refine wpQuiet_nil fun w5 B5=>?_
    have HB5:=cH (bot HB4.out B5)
    clear B5
    go_wp2_with fail
    go_ret
    have HRl:Hid (RR=l):=by unfold Hid;rw[Hw.out,if_pos Hy.out]
    refine ⟨some ⟨b,o,none⟩,c,(by rw[HRl.out,Hz0.out];try rfl),?_,bot HB0.out HB5.out⟩
    rw[HRl.out,Hz0.out]
    exact (HL.out.belowSize (bot HB0.out HB5.out)).more fun b hb _=>.inl hb
   have hb2:=zAa hnm
   have Hno:Hid (RI=false):=by unfold Hid;rw[HI2.out,decide_eq_false hnm]
   clear HI2 hnm
   go_upto_region 4 with (fail)
   have r_x0:=cR x0
   have r_c4:=cR c4
   go_wp2_with fail
   refine wQ ?_
   repeat (go_big_quiet_step (first|fail))
   refine wpQuiet_nil fun w5 B5=>?_
   have HB5:=cH (bot HB4.out B5)
   clear r_x0 r_c4 x0 x1 x2 x3 c4 B5 HB4 hb2
   generalize (some (⟨b,o,none⟩:Addr))=A at *
   go_upto_region 7 with (fail)
  all_goals
   have HBw5:Hid (Below w.heap.size w w5):=bot HB0.out HB5.out
   have hjc:k≤c:=by omega
   have Hlt1:Hid ((l.take k).length=k):=by unfold Hid;rw[List.length_take,Hz0.out];omega
   have HLs:Hid (SlV rPin w5 (fun b=>b<w5.heap.size) l (.slice A n c)):=(HL.out.belowSize HBw5.out).more fun b _ hl=>hl
   have HT3:Hid (SlV rPin w5 (fun b=>b<w5.heap.size) (l.take k) (.slice A k c)):=SlV.take HLs.out (by rw[Hz0.out];exact hk)
   have hwz:w.heap.size≤w5.heap.size:=HBw5.out.size
   go_wp2_with (at_builtin;refine zAS (by rfl) _ _ _ (by rfl) zCP Tryz.underlying55 (by rfl) (Own.nil_ rPin w5 w5.heap.size 63 (S:=fun _=>False) (fun b h=>h.elim)) (fun b=>b<w5.heap.size) (l.take k) _ _ _ (by rfl) HT3.out (by intro b hb he;simp[Value.ownBlock] at he) (by rw[Hlt1.out];simp[maxLen];omega) (by rw[Hlt1.out];simp;omega) (by simp) ?_)
   intro u6 w6 hown6 hgrow6 hat6
   have HB6:Hid (Below w5.heap.size w5 w6):=(bR _ _).grown hgrow6 (nR _) (fun k hk=>by simp[Value.ownBlock] at hk)
   have HO6:=cH (zCo hown6)
   obtain ⟨x0,x1,x2,x3⟩:=Hrow.out w6 (bot HB5.out HB6.out)
   have hz6:=HB6.out.size
   clear hown6 hgrow6 hat6
   go_wp2_with (at_builtin;refine zAK (by rfl) _ _ _ (by rfl) zCP Tryz.underlying55 (by rfl) (HO6.out.alloc _) ⟨w6.heap.size,0,none⟩ 1 [.string pn,.int .i64 v1,.int .i64 v2,.int .i64 v3] ⟨pn,v1,v2,v3⟩ (by rfl) ⟨rfl,Hp.out.1,Hp.out.2⟩ (zAm w6 #[.string pn,.int .i64 v1,.int .i64 v2,.int .i64 v3] _) (by rw[Hlt1.out];unfold maxLen;omega) (by rw[Hlt1.out];omega) (nT hz6 (by simp)) (w6.heap.size+1) (by simp) ?_)
   intro g9 cap9 w9 hown9 hgrow9 hat9 hlt9
   have HB9:=cH (zA3 (bal HB6.out _) hgrow9 (HO6.out.alloc _) (nR _))
   have HO9:=cH (zCo hown9)
   have Hlb9:=cH hown9.lt
   have hz9:=HB9.out.size
   have Hdl:Hid ((l.drop k).length=n - k):=by unfold Hid;rw[List.length_drop,Hz0.out]
   have Hl9:Hid ((l.take k++[(⟨pn,v1,v2,v3⟩:Pin)]).length=k+1):=by unfold Hid;rw[List.length_append,Hlt1.out];rfl
   obtain ⟨X,hX⟩:∃ X,X=(if c=k then A else A.map (fun x:Addr=>x.add (k * 4))):=⟨_,rfl⟩
   have HT4:Hid (SlV rPin w9 (fun b=>b<w5.heap.size) (l.drop k) (.slice X (n - k) (c - k))):=by
    unfold Hid
    rw[hX]
    exact SlV.cutD (HLs.out.belowSize HB9.out) k hk
   have hsl:∀ W,(Instr.slice 55 (.slice A n c) (some (.int .i64 (k:Int))) none none).run Tryz.prog W=.ok (.slice X (n - k) (c - k)) W:=fun W=>by
    rw[hX]
    exact zC1 (P:=Tryz.prog) (t:=55) (e:=63) (z:=4) Tryz.underlying55 (by kernel_rfl) (fun _=>by kernel_rfl) A n c k hk W
   clear hown9 hgrow9 hat9 hlt9 x0 x1 x2 x3 hX HT3 HLs HO6
   go_wp2_with (at_builtin;refine zAS (by rfl) _ _ _ (by rfl) zCP Tryz.underlying55 (by rfl) HO9.out (fun b=>b<w5.heap.size) (l.drop k) _ _ _ (by rfl) HT4.out (by intro b hb he;have:=(Hlb9.out b he).1;omega) (by rw[Hl9.out,Hdl.out];unfold maxLen;omega) (by rw[Hl9.out,Hdl.out];omega) hz9 ?_)
   intro u7 w7 hown7 hgrow7 hat7
   have HB7:=cH (bot HBw5.out (zA3 HB9.out hgrow7 HO9.out (nR _)))
   have HO7:Hid (Own rPin w7 w5.heap.size 63 u7 RR (fun _=>False)):=by
    have HRR:RR=l.take k++[(⟨pn,v1,v2,v3⟩:Pin)]++l.drop k:=by rw[Hw.out,if_neg (by rw[Hno.out];decide),Hat.out];simp
    have h:=zCo hown7
    unfold Hid
    rw[HRR]
    first
     | exact h
     | simpa using h
   clear hown7 hgrow7 hat7 HT4 hsl HO9
   obtain ⟨A7,c7,rfl,_,_⟩:=HO7.out.slv.val
   have HS7:Hid (SlV rPin w7 (fun b=>S b∨w.heap.size≤b) RR (.slice A7 RR.length c7)):=HO7.out.slv.more fun b hb _=>Or.inr (by rcases hb with h|h;exact h.elim;omega)
   clear HO7
   go_wp2_with fail
   go_ret
   exact ⟨A7,c7,rfl,HS7.out,HB7.out⟩
theorem zJR (A:Option Addr) (n c:Nat) (l:List Pin) (p:Pin) (w:World) (S:Nat→Prop) (hl:SlV rPin w S l (.slice A n c)) (hlz:l.length≤1048576) (hp:p.name.size≤maxLen∧I64 p.ver.major∧I64 p.ver.minor∧I64 p.ver.patch) :
  Calls Tryz.prog 179 #[.slice A n c,.agg #[.string p.name,.int .i64 p.ver.major,.int .i64 p.ver.minor,.int .i64 p.ver.patch]] w fun e w'=>∃ A' c',e=.returned (.tuple #[.slice A' (withP l p).length c',.bool (!pinIs l p.name)])∧SlV rPin w' (fun b=>S b∨w.heap.size≤b) (withP l p) (.slice A' (withP l p).length c')∧Below w.heap.size w w':=by
 have hn:=hl.n_eq
 have hcap:=hl.cap_le
 unfold maxLen at hcap
 have HL:=cH hl
 have Hz0:Hid (l.length=n):=hn.symm
 have HR:Hid (pinAt l p.name=0+pinAt (l.drop 0) p.name):=by unfold Hid;rw[List.drop_zero,Nat.zero_add]
 have hnz:n≤1048576:=by omega
 have hnc:n≤c:=by omega
 have Hw:Hid (withP l p=if pinIs l p.name=true then l else l.take (pinAt l p.name)++p::l.drop (pinAt l p.name)):=rfl
 have Hp:=cH hp
 obtain ⟨pn,pv⟩:=p
 obtain ⟨v1,v2,v3⟩:=pv
 simp only at Hp HR
 have HLe:Hid (∀ W (x:ByteArray),x.size≤maxLen→Calls Tryz.prog 108 #[.string x,.string pn] W fun e w'=>e=.returned (.bool (lessB x pn))∧Below W.heap.size W w'):=fun W x hx=>zCx x pn hx Hp.out.1 W
 have HI:Hid (pinIs l pn=match l[pinAt l pn]? with|none=>false|some x=>decide (x.name=pn)):=rfl
 obtain ⟨RR,hRR⟩:∃ RR,RR=withP l ⟨pn,v1,v2,v3⟩:=⟨_,rfl⟩
 rw[←hRR] at Hw ⊢
 obtain ⟨RI,hRI⟩:∃ RI,RI=pinIs l pn:=⟨_,rfl⟩
 simp only at Hw
 rw[←hRI] at Hw HI ⊢
 have hpz:pinAt l pn≤n:=by have:=zIW l pn;omega
 have Hpz:=cH hpz
 clear hl hn hp hlz hcap hRR hRI hpz
 obtain ⟨w0,hw0⟩:∃ w0,w0=w.alloc (.cells #[.string pn,.int .i64 v1,.int .i64 v2,.int .i64 v3] 63):=⟨_,rfl⟩
 have HB0:Hid (Below w.heap.size w w0):=by unfold Hid;rw[hw0];exact bal (bR _ _) _
 have HQ0:Hid (w0.heap[w.heap.size]?=some (.cells #[.string pn,.int .i64 v1,.int .i64 v2,.int .i64 v3] 63 (0,0))):=by unfold Hid;rw[hw0];exact zAD _ _
 obtain ⟨g,hg⟩:∃ g,g=w.heap.size:=⟨_,rfl⟩
 rw[←hg] at HQ0
 have hz0:w.heap.size≤w0.heap.size:=HB0.out.size
 have Hrow:Hid (∀ W,Below w0.heap.size w0 W→W.cell? ⟨g,0,none⟩=some (.string pn)∧W.cell? ⟨g,1,none⟩=some (.int .i64 v1)∧W.cell? ⟨g,2,none⟩=some (.int .i64 v2)∧W.cell? ⟨g,3,none⟩=some (.int .i64 v3)):=fun W hW=>by
  have h:=(hW.block _ (aS.1 HQ0.out).1).trans HQ0.out
  exact ⟨cO _ _ 0 _ _ _ h,cO _ _ 1 _ _ _ h,cO _ _ 2 _ _ _ h,cO _ _ 3 _ _ _ h⟩
 go_enter Tryz.func179,Tryz.ntmps179
 go_wp2_with fail
 rw[←hw0,←hg]
 clear hw0 hg HQ0
 go_loopw [6] (fun t wr=>∃ k:Nat,k≤n∧t=.int .i64 k∧Hid (pinAt l pn=k+pinAt (l.drop k) pn)∧Hid (Below w0.heap.size w0 wr)) (fun t _=>n - (intOf t).toNat)
 case atStart=>exact ⟨0,nZ _,rfl,HR,bR _ _⟩
 case round=>
  clear HR
  obtain ⟨k,hk,rfl,heq,hB⟩:=hrel
  have hk0:(0:Int)≤(k:Int):=by omega
  obtain ⟨x0,x1,x2,x3⟩:=Hrow.out wr hB.out
  by_cases hlt:k<n
  rotate_left
  focus
   have hpI:¬(k:Int)<(n:Int):=by omega
   have hpd:decide ((k:Int)<(n:Int))=false:=decide_eq_false hpI
   have hpdn:decide (k<n)=false:=decide_eq_false hlt
   have Hat:Hid (pinAt l pn=k):=by
    unfold Hid
    rw[heq.out,dN (by have:=Hz0.out;omega)];rfl
   have Hno:Hid (RI=false):=by
    unfold Hid
    rw[HI.out,Hat.out,List.getElem?_eq_none (by have:=Hz0.out;omega)]
   clear heq
   go_upto_region 2 with (fail)
   have r_x0:=cR x0
   go_wp2_with fail
   refine wQ ?_
   repeat (go_big_quiet_step (first|fail))
   refine wpQuiet_nil fun w4 B4=>?_
   go_upto_region 4 with (fail)
   have B40:=B4
   clear r_x0 x0 x1 x2 x3
   obtain ⟨x0,x1,x2,x3⟩:=Hrow.out w4 (bot hB.out B40)
   have HB4:=cH (bot hB.out B40)
   clear B40 B4
   have r_x0:=cR x0
   go_wp2_with fail
   refine wQ ?_
   repeat (go_big_quiet_step (first|fail))
   refine wpQuiet_nil fun w5 B5=>?_
   have HB5:=cH (bot HB4.out B5)
   clear r_x0 x0 x1 x2 x3 B5 HB4
   go_upto_region 7 with (fail)
  rotate_left
  focus
   have hkI:(k:Int)<(n:Int):=by omega
   have hkd:decide ((k:Int)<(n:Int))=true:=decide_eq_true hkI
   have hkdn:decide (k<n)=true:=decide_eq_true hlt
   obtain ⟨x,hx⟩:∃ x,l[k]?=some x:=⟨_,gE (by have:=Hz0.out;omega)⟩
   have HBr:Hid (Below w.heap.size w wr):=bot HB0.out hB.out
   obtain ⟨b,o,cs,hA,_,hb1,⟨rfl,hsz,i1,i2,i3⟩,hcell⟩:=(HL.out.belowSize HBr.out).elem hx
   have c0:=hcell 0 _ rfl
   simp only[rPin,Nat.add_zero] at c0
   have hbw:b<wr.heap.size:=hb1
   have hdk:l.drop k=x::l.drop (k+1):=by
    obtain ⟨h,e⟩:=gS.1 hx
    rw[dC h,e]
   have Hstep:Hid (pinAt l pn=k+if lessB x.name pn=true then pinAt (l.drop (k+1)) pn+1 else 0):=by unfold Hid;rw[heq.out,hdk,zCV]
   have HTx:Hid (∀ W,Below wr.heap.size wr W→Calls Tryz.prog 108 #[.string x.name,.string pn] W fun e w'=>e=.returned (.bool (lessB x.name pn))∧Below W.heap.size W w'):=fun W _=>HLe.out W x.name hsz
   have HTq:=cH (qcall (w:=wr) HTx.out)
   have Hx:=cH hx
   clear hcell hsz i1 i2 i3 hdk heq hx HTx
   subst hA
   have Hname:Hid (∀ y,l[k]?=some y→y=x):=fun y hy=>Option.some.inj (hy.symm.trans Hx.out)
   obtain ⟨xn,xv⟩:=x
   simp only at c0 Hstep HTq
   by_cases hls:lessB xn pn=true
   focus
    rw[hls] at HTq
    have He:Hid (pinAt l pn=(k+1)+pinAt (l.drop (k+1)) pn):=by unfold Hid;rw[Hstep.out,if_pos hls];omega
    clear Hstep hls
    go_upto_region 2 with (fail)
    have r_x0:=cR x0
    have r_c0:=cR c0
    go_wp2_with fail
    refine wQ ?_
    repeat (go_big_quiet_step (first|(with_reducible exact HTq.out _ _)))
    refine wpQuiet_nil fun w4 B4=>?_
    have HB4:=cH (bot hB.out B4)
    clear B4
    go_wp2_with fail
    go_roundw
    case rel=>exact ⟨k+1,by omega,by go_num,He,HB4⟩
    case measure=>simp[intOf];omega
   have hls:lessB xn pn=false:=by simpa using hls
   have Hat:Hid (pinAt l pn=k):=by unfold Hid;rw[Hstep.out,if_neg (by rw[hls];decide)];rfl
   rw[hls] at HTq
   have HI2:Hid (RI=decide (xn=pn)):=by unfold Hid;rw[HI.out,Hat.out,Hx.out]
   clear Hstep hls
   go_upto_region 2 with (fail)
   have r_x0:=cR x0
   have r_c0:=cR c0
   go_wp2_with fail
   refine wQ ?_
   repeat (go_big_quiet_step (first|(with_reducible exact HTq.out _ _)))
   refine wpQuiet_nil fun w4 B4=>?_
   have HB4:=cH (bot hB.out B4)
   have c4:=zAA B4 c0 hbw
   clear r_x0 r_c0 x0 x1 x2 x3 c0 B4
   obtain ⟨x0,x1,x2,x3⟩:=Hrow.out w4 HB4.out
   by_cases hnm:xn=pn
   focus
    have hb2:=zAn hnm
    have Hy:Hid (RI=true):=by unfold Hid;rw[HI2.out,decide_eq_true hnm]
    clear HI2 hnm
    go_upto_region 4 with (fail)
    have r_x0:=cR x0
    have r_c4:=cR c4
    go_wp2_with fail
    refine wQ ?_
    repeat (go_big_quiet_step (first|fail))
    refine wpQuiet_nil fun w5 B5=>?_
    have HB5:=cH (bot HB4.out B5)
    clear B5
    go_wp2_with fail
    go_ret2
    have HRl:Hid (RR=l):=by unfold Hid;rw[Hw.out,if_pos Hy.out]
    refine ⟨some ⟨b,o,none⟩,c,(by rw[HRl.out,Hz0.out,Hy.out];try rfl),?_,bot HB0.out HB5.out⟩
    rw[HRl.out,Hz0.out]
    exact (HL.out.belowSize (bot HB0.out HB5.out)).more fun b hb _=>.inl hb
   have hb2:=zAa hnm
   have Hno:Hid (RI=false):=by unfold Hid;rw[HI2.out,decide_eq_false hnm]
   clear HI2 hnm
   go_upto_region 4 with (fail)
   have r_x0:=cR x0
   have r_c4:=cR c4
   go_wp2_with fail
   refine wQ ?_
   repeat (go_big_quiet_step (first|fail))
   refine wpQuiet_nil fun w5 B5=>?_
   have HB5:=cH (bot HB4.out B5)
   clear r_x0 r_c4 x0 x1 x2 x3 c4 B5 HB4 hb2
   generalize (some (⟨b,o,none⟩:Addr))=A at *
   go_upto_region 7 with (fail)
  all_goals
   have HBw5:Hid (Below w.heap.size w w5):=bot HB0.out HB5.out
   have hjc:k≤c:=by omega
   have Hlt1:Hid ((l.take k).length=k):=by unfold Hid;rw[List.length_take,Hz0.out];omega
   have HLs:Hid (SlV rPin w5 (fun b=>b<w5.heap.size) l (.slice A n c)):=(HL.out.belowSize HBw5.out).more fun b _ hl=>hl
   have HT3:Hid (SlV rPin w5 (fun b=>b<w5.heap.size) (l.take k) (.slice A k c)):=SlV.take HLs.out (by rw[Hz0.out];exact hk)
   have hwz:w.heap.size≤w5.heap.size:=HBw5.out.size
   go_wp2_with (at_builtin;refine zAS (by rfl) _ _ _ (by rfl) zCP Tryz.underlying55 (by rfl) (Own.nil_ rPin w5 w5.heap.size 63 (S:=fun _=>False) (fun b h=>h.elim)) (fun b=>b<w5.heap.size) (l.take k) _ _ _ (by rfl) HT3.out (by intro b hb he;simp[Value.ownBlock] at he) (by rw[Hlt1.out];simp[maxLen];omega) (by rw[Hlt1.out];simp;omega) (by simp) ?_)
   intro u6 w6 hown6 hgrow6 hat6
   have HB6:Hid (Below w5.heap.size w5 w6):=(bR _ _).grown hgrow6 (nR _) (fun k hk=>by simp[Value.ownBlock] at hk)
   have HO6:=cH (zCo hown6)
   obtain ⟨x0,x1,x2,x3⟩:=Hrow.out w6 (bot HB5.out HB6.out)
   have hz6:=HB6.out.size
   clear hown6 hgrow6 hat6
   go_wp2_with (at_builtin;refine zAK (by rfl) _ _ _ (by rfl) zCP Tryz.underlying55 (by rfl) (HO6.out.alloc _) ⟨w6.heap.size,0,none⟩ 1 [.string pn,.int .i64 v1,.int .i64 v2,.int .i64 v3] ⟨pn,v1,v2,v3⟩ (by rfl) ⟨rfl,Hp.out.1,Hp.out.2⟩ (zAm w6 #[.string pn,.int .i64 v1,.int .i64 v2,.int .i64 v3] _) (by rw[Hlt1.out];unfold maxLen;omega) (by rw[Hlt1.out];omega) (nT hz6 (by simp)) (w6.heap.size+1) (by simp) ?_)
   intro g9 cap9 w9 hown9 hgrow9 hat9 hlt9
   have HB9:=cH (zA3 (bal HB6.out _) hgrow9 (HO6.out.alloc _) (nR _))
   have HO9:=cH (zCo hown9)
   have Hlb9:=cH hown9.lt
   have hz9:=HB9.out.size
   have Hdl:Hid ((l.drop k).length=n - k):=by unfold Hid;rw[List.length_drop,Hz0.out]
   have Hl9:Hid ((l.take k++[(⟨pn,v1,v2,v3⟩:Pin)]).length=k+1):=by unfold Hid;rw[List.length_append,Hlt1.out];rfl
   obtain ⟨X,hX⟩:∃ X,X=(if c=k then A else A.map (fun x:Addr=>x.add (k * 4))):=⟨_,rfl⟩
   have HT4:Hid (SlV rPin w9 (fun b=>b<w5.heap.size) (l.drop k) (.slice X (n - k) (c - k))):=by
    unfold Hid
    rw[hX]
    exact SlV.cutD (HLs.out.belowSize HB9.out) k hk
   have hsl:∀ W,(Instr.slice 55 (.slice A n c) (some (.int .i64 (k:Int))) none none).run Tryz.prog W=.ok (.slice X (n - k) (c - k)) W:=fun W=>by
    rw[hX]
    exact zC1 (P:=Tryz.prog) (t:=55) (e:=63) (z:=4) Tryz.underlying55 (by kernel_rfl) (fun _=>by kernel_rfl) A n c k hk W
   clear hown9 hgrow9 hat9 hlt9 x0 x1 x2 x3 hX HT3 HLs HO6
   go_wp2_with (at_builtin;refine zAS (by rfl) _ _ _ (by rfl) zCP Tryz.underlying55 (by rfl) HO9.out (fun b=>b<w5.heap.size) (l.drop k) _ _ _ (by rfl) HT4.out (by intro b hb he;have:=(Hlb9.out b he).1;omega) (by rw[Hl9.out,Hdl.out];unfold maxLen;omega) (by rw[Hl9.out,Hdl.out];omega) hz9 ?_)
   intro u7 w7 hown7 hgrow7 hat7
   have HB7:=cH (bot HBw5.out (zA3 HB9.out hgrow7 HO9.out (nR _)))
   have HO7:Hid (Own rPin w7 w5.heap.size 63 u7 RR (fun _=>False)):=by
    have HRR:RR=l.take k++[(⟨pn,v1,v2,v3⟩:Pin)]++l.drop k:=by rw[Hw.out,if_neg (by rw[Hno.out];decide),Hat.out];simp
    have h:=zCo hown7
    unfold Hid
    rw[HRR]
    first
     | exact h
     | simpa using h
   clear hown7 hgrow7 hat7 HT4 hsl HO9
   obtain ⟨A7,c7,rfl,_,_⟩:=HO7.out.slv.val
   have HS7:Hid (SlV rPin w7 (fun b=>S b∨w.heap.size≤b) RR (.slice A7 RR.length c7)):=HO7.out.slv.more fun b hb _=>Or.inr (by rcases hb with h|h;exact h.elim;omega)
   clear HO7
   go_wp2_with fail
   go_ret2
   exact ⟨A7,c7,by rw[Hno.out];rfl,HS7.out,HB7.out⟩
