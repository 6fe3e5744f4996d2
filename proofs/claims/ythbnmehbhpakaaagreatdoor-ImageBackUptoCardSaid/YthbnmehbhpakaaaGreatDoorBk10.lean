/- Sets of versions folded by runs of ranks: spans, fit, met, others, walked. -/
import Derived.Test.YthbnmehbhpakaaaGreatDoorBk05
import Derived.Test.YthbnmehbhpakaaaGreatDoorBk09
import Derived.Deep.LoopGhost
import Derived.WalkMore
import Derived.Deep.RegionHeld3
import Derived.Test.YthbnmehbhpakaaaGreatDoorBk04
import Derived.Shelf.Abstract
import Derived.Shelf.RegionOpen
import Derived.OwnWalkIn
import Derived.TacticsInMore
import Derived.LoopNIn
import Derived.LoopIn
import Derived.Deep.CutRange
import Derived.Deep.RegionLaw
import Derived.Test.YthbnmehbhpakaaaGreatDoorBk02
import Derived.Lib.Split
import Derived.Lib.SplitLaws
import Derived.Test.YthbnmehbhpakaaaGreatDoorAl
set_option linter.all false
set_option maxHeartbeats 4000000
set_option maxRecDepth 100000
namespace Go.Proofs.YthbnmehbhpakaaaGreatDoor
open Go.Rows Go.RowKit Go.Shelf Go.Sort
def verAt (n:Int):Ver:=⟨n / 1000 / 1000,n / 1000 % 1000,n % 1000⟩
def spnAt (x:Rk):Spn:=⟨verAt x.1,verAt x.2⟩
theorem zLV {n:Int} (h0:0≤n) (h1:n≤999999999):I64 (n / 1000 / 1000)∧I64 (n / 1000 % 1000)∧I64 (n % 1000):=by
 unfold I64;omega
theorem zSa:Elt Tryz.prog 227 6 48:=Elt.mk' (z:=.agg #[.int .i64 0,.int .i64 0,.int .i64 0,.int .i64 0,.int .i64 0,.int .i64 0]) (by kernel_rfl) rfl (by decide)
theorem zOy (A:Option Addr) (n c:Nat) (l:List Rk) (w:World) (S:Nat→Prop) (hmax:l.length≤1000000) (hr:∀ x∈l,0≤x.1∧x.1≤999999999∧0≤x.2∧x.2≤999999999) (hl:SlV rRnk w S l (.slice A n c)) :
  Calls Tryz.prog 218 #[.slice A n c] w fun e w'=>∃ v,e=.returned v∧Own rSpn w' w.heap.size 227 v (l.map spnAt) (fun _=>False)∧Below w.heap.size w w':=by
 have hnx:=hl.n_eq
 have hl':=hl.more (S':=fun b=>b<w.heap.size) fun b _ hlt=>hlt
 have hn63:n≤1000000:=by omega
 have Hr:=cH hr
 have Hnx:=cH hnx;clear hnx
 clear hl hr
 go_enter Tryz.func218,Tryz.ntmps218
 go_wp2_with fail
 go_loopw [3,12] (fun v i wr=>∃ (k:Nat),k≤n∧i=.int .i64 k∧Hid (Own rSpn wr w.heap.size 227 v ((l.take k).map spnAt) (fun _=>False))∧Below w.heap.size w wr) (fun _ i _=>n - (intOf i).toNat)
 case atStart=>exact ⟨0,nZ _,rfl,Own.nil_ _ _ _ _ (fun b hb=>hb.elim),bR _ _⟩
 case round=>
  obtain ⟨k,hk,rfl,Hown,hbel⟩:=hrel
  by_cases hlt:k<n
  ·have hkx:k<l.length:=by have:=Hnx.out;omega
   have hlw:=hl'.below hbel (fun b hb=>hb)
   have hbw:=hbel.size
   obtain ⟨b,o,cs,rfl,hSb,hbl,hsp,hcell⟩:=hlw.elem (gE hkx)
   obtain ⟨rfl,_,_⟩:=hsp
   have c0:=hcell 0 _ rfl
   have c1:=hcell 1 _ rfl
   simp only[rRnk,Nat.add_zero,Nat.mul_one] at c0 c1
   clear hcell
   have Htk:Hid ((l.take (k+1)).map spnAt=(l.take k).map spnAt++[spnAt l[k]]):=by
    unfold Hid;rw[List.take_succ_eq_append_getElem hkx,List.map_append];rfl
   have hlen:((l.take k).map spnAt).length=k:=by simp;omega
   obtain ⟨h1,h2,h3,h4⟩:=Hr.out l[k] (List.getElem_mem hkx)
   clear hlw
   have hkn:(k:Int)<(n:Int):=by omega
   generalize l[k]=s at *
   obtain ⟨x1,x2⟩:=s
   simp only at c0 c1 h1 h2 h3 h4
   have H1:=cH (fun W=>zES x1 h1 h2 W)
   have H2:=cH (fun W=>zES x2 h3 h4 W)
   have Hi1:=cH (zLV h1 h2)
   have Hi2:=cH (zLV h3 h4)
   have Htk':Hid ((l.take (k+1)).map spnAt=(l.take k).map spnAt++[⟨⟨x1 / 1000 / 1000,x1 / 1000 % 1000,x1 % 1000⟩,⟨x2 / 1000 / 1000,x2 / 1000 % 1000,x2 % 1000⟩⟩]):=Htk.out
   clear Htk h1 h2 h3 h4
   generalize (l.take k).map spnAt=done at *
   generalize x1 / 1000 / 1000=a1 at *
   generalize x1 / 1000 % 1000=a2 at *
   generalize x1 % 1000=a3 at *
   generalize x2 / 1000 / 1000=b1 at *
   generalize x2 / 1000 % 1000=b2 at *
   generalize x2 % 1000=b3 at *
   have Hlen:=cH hlen;clear hlen
   go_wp2_with fail
   refine (H1.out _).mono ?_
   rintro e w1 ⟨rfl,hb1⟩
   have e1:=hb1.cell (p:=⟨wr.heap.size,1,none⟩) (by simp)
   simp[go_sem] at e1
   have Hb1:=cH (bnew hb1)
   have hz1:wr.heap.size<w1.heap.size:=by have:=hb1.size;simp at this;omega
   clear hb1
   go_wp2_with fail
   refine (H2.out _).mono ?_
   rintro e w2 ⟨rfl,hb2⟩
   have d0:=hb2.cell (p:=⟨w1.heap.size,0,none⟩) (by simp)
   have d1:=hb2.cell (p:=⟨w1.heap.size,1,none⟩) (by simp)
   have d2:=hb2.cell (p:=⟨w1.heap.size,2,none⟩) (by simp)
   simp[go_sem] at d0 d1 d2
   have Hb2:=cH (bot Hb1.out (bnew hb2))
   have hz2:w1.heap.size<w2.heap.size:=by have:=hb2.size;simp at this;omega
   clear hb2 e1 c0 c1
   have HB:=cH (bot hbel Hb2.out)
   have Hown2:=cH (Hown.out.keep Hb2.out)
   have hw2:=HB.out.size
   have hne:w1.heap.size≠w2.heap.size:=by omega
   go_wp2_with (at_builtin;refine zAb (by rfl) _ _ _ (by rfl) zSa Tryz.underlying156 (by rfl) ((Hown2.out.alloc _).alloc _) ⟨w2.heap.size+1,0,none⟩ 1 [.int .i64 a1,.int .i64 a2,.int .i64 a3,.int .i64 b1,.int .i64 b2,.int .i64 b3] ⟨⟨a1,a2,a3⟩,⟨b1,b2,b3⟩⟩ (by simp[go_sem]) ⟨rfl,Hi1.out.1,Hi1.out.2.1,Hi1.out.2.2,Hi2.out.1,Hi2.out.2.1,Hi2.out.2.2⟩ (by intro j u hu;have:=zAz (w2.alloc (.cells #[.int .i64 b1,.int .i64 b2,.int .i64 b3] 55)) #[.int .i64 a1,.int .i64 a2,.int .i64 a3,.int .i64 b1,.int .i64 b2,.int .i64 b3] 227 j u hu;simpa using this) (by rw[Hlen.out];unfold maxLen;omega) (by rw[Hlen.out];omega) (by simp;omega) (w2.heap.size+2) (by simp) ?_)
   intro g cap w3 hown3 hgrow hat hg3
   have HB3:=cH (zC3 (bal (bal HB.out _) _) hgrow ((Hown2.out.alloc _).alloc _) (nR _))
   have Hown3:=cH hown3
   clear hown3 hgrow
   go_wp2_with fail
   go_roundw
   case rel=>exact ⟨k+1,by omega,by go_num,by unfold Hid;rw[Htk'.out];exact Hown3.out,HB3.out⟩
   case measure=>simp[intOf];omega
  ·have hkn:k=l.length:=by have:=Hnx.out;omega
   have hs:=Hown.out
   rw[hkn,List.take_length] at hs
   clear hkn
   go_wp2_with fail
   go_ret
   exact ⟨_,rfl,hs,hbel⟩
def fitR (l:List Rk):List Spn×Int:=if l.length≤64 then (l.map spnAt,0) else ([],26)
theorem zRw (A:Option Addr) (n c:Nat) (l:List Rk) (w:World) (S:Nat→Prop) (hr:∀ x∈l,0≤x.1∧x.1≤999999999∧0≤x.2∧x.2≤999999999) (hl:SlV rRnk w S l (.slice A n c)) :
  Calls Tryz.prog 159 #[.slice A n c] w fun e w'=>∃ v,e=.returned (.tuple #[v,.int .i64 (fitR l).2])∧Own rSpn w' w.heap.size 227 v (fitR l).1 (fun _=>False)∧Below w.heap.size w w':=by
 have hnx:=hl.n_eq
 have hcx:=hl.cap_le
 unfold maxLen at hcx
 by_cases h:n≤64
 ·have hf:fitR l=(l.map spnAt,0):=by unfold fitR;rw[if_pos (by omega)]
  rw[hf]
  have H1:=cH (zOy A n c l w S (by omega) hr hl)
  have hn:¬(64:Int)<(n:Int):=by omega
  clear hr hl hf hnx hcx
  go_enter Tryz.func159,Tryz.ntmps159
  go_wp2_with fail
  refine H1.out.mono ?_
  rintro e w1 ⟨v,rfl,hv,hb⟩
  have Hv:=cH hv
  clear hv
  go_wp2_with fail
  go_ret2
  exact ⟨v,rfl,Hv.out,hb⟩
 ·have hf:fitR l=([],26):=by unfold fitR;rw[if_neg (by omega)]
  rw[hf]
  have hn:(64:Int)<(n:Int):=by omega
  clear hr hl hf hnx
  go_enter Tryz.func159,Tryz.ntmps159
  go_wp2_with fail
  go_ret2
  exact ⟨_,rfl,Own.nil_ _ _ _ _ (fun b hb=>hb.elim),bR _ _⟩
theorem zSG (a b:Int):(if b > a then b else a)=max a b:=by split<;>omega
theorem zTM (a b:Int):(if b<a then b else a)=min a b:=by split<;>omega
def rks (l:List Spn):List Rk:=l.map fun s=>(s.lo.rank,s.hi.rank)
theorem zSo (l:List Spn):(rks l).length=l.length:=List.length_map _
theorem zAU {W:World} {b o:Nat} {cs:Array Value} {t:TypeId} {fr:Nat×Nat} (h:W.heap[b]?=some (.cells cs t fr)) (v:Value):(W.setCell ⟨b,o,none⟩ v).heap[b]?=some (.cells (cs.setIfInBounds o v) t fr):=by
 obtain ⟨hlt,hk⟩:=aS.1 h
 show (W.heap.modify b _)[b]?=_
 rw[Array.getElem?_eq_getElem (by rw[Array.size_modify];exact hlt),Array.getElem_modify_self,hk]
 rfl
theorem zEI {W:World} {b:Nat} {x y z:Value} {t:TypeId} (h:W.heap[b]?=some (.cells #[x,y,z] t (0,0))) (a1 a2 a3:Value) :
 (((W.setCell ⟨b,0,none⟩ a1).setCell ⟨b,1,none⟩ a2).setCell ⟨b,2,none⟩ a3).heap[b]?=some (.cells #[a1,a2,a3] t (0,0)):=zAU (zAU (zAU h a1) a2) a3
attribute [local go_sem] Oper.semAt_some
def encRk (x:Rk):Value:=.agg #[.int .i64 x.1,.int .i64 x.2]
theorem zKF (A:Option Addr) (n c:Nat) (w:World) :
  Calls Tryz.prog 220 #[.slice A n c] w fun e w'=>e=.returned (.func (.func 260) #[] #[.pointer (some ⟨w.heap.size,0,none⟩)])∧w'=w.alloc (.cells #[.slice A n c] 206):=by
 go_enter Tryz.func220,Tryz.ntmps220
 go_wp2_with fail
 go_ret
 exact ⟨rfl,rfl⟩
theorem zH5 (n:Nat) (hn:1≤n) (Bv:Nat) (A:Option Addr) (m c:Nat) (l:List Rk) (w:World) (hb:w.cell? ⟨Bv,0,none⟩=some (.slice A m c)) (hl:SlV rRnk w (fun _=>True) l (.slice A m c)) (hm:m≤1000000) :
  Parts encRk Fence.wide n Tryz.prog 260 #[.pointer (some ⟨Bv,0,none⟩)] (fun _=>False) (fun j=>j=Bv∨(0<l.length∧∃ o,A=some ⟨j,o,none⟩)) l w:=by
 intro lp J Jx W hK hJ hJx hY h0
 have hmx:=hl.n_eq
 have Hmx:=cH hmx;clear hmx
 have hbW:W.cell? ⟨Bv,0,none⟩=some (.slice A m c):=(World.cell?_of_block (a:=⟨Bv,0,none⟩) (hK Bv (.inl rfl)).2.1).trans hb
 have HK:Hid (∀ j,(j=Bv∨(0<l.length∧∃ o,A=some ⟨j,o,none⟩))→W.heap[j]?=w.heap[j]?):=fun j hj=>(hK j hj).2.1
 have HY:=cH hY
 have HJ:=cH hJ
 clear hK hY hJ
 refine callsIn_of_wp Tryz.func260 rfl trivial ?_ rfl
 simp only[Tryz.ntmps260,List.size_toArray,List.length_cons,List.length_nil,Nat.reduceAdd,Nat.reduceSub,Array.replicate_succ,Array.replicate_zero,List.push_toArray,List.append_toArray,List.nil_append,List.cons_append]
 gi_wp2
 gi_loopw [7] (fun i wr=>∃ k:Nat,k≤m∧i=.int .i64 k∧Hid (J k wr)∧Hid (∀ j,(j=Bv∨(0<l.length∧∃ o,A=some ⟨j,o,none⟩))→wr.heap[j]?=w.heap[j]?)) (fun i _=>m - (intOf i).toNat)
 case atStart=>exact ⟨0,nZ _,rfl,h0,HK⟩
 case round=>
  clear h0 HK
  obtain ⟨k,hk,rfl,Hj,HK⟩:=hrel
  by_cases hlt:k<m
  case neg=>
   have hlt':¬(k:Int)<(m:Int):=by omega
   obtain rfl:k=m:=by omega
   gi_wp2
   go_end0
   refine ⟨⟨_,rfl⟩,.inl ?_⟩
   rw[←Hmx.out]
   exact Hj.out
  have hkx:k<l.length:=by have:=Hmx.out;omega
  have hkI:(k:Int)<(m:Int):=by omega
  have hk0:(0:Int)≤(k:Int):=by omega
  obtain ⟨b1,o1,cs1,rfl,_,hlt1,⟨rfl,hi1,hi2⟩,hcell1⟩:=hl.elem (gE hkx)
  have hkb:wr.heap[b1]?=w.heap[b1]?:=HK.out b1 (.inr ⟨by omega,o1,rfl⟩)
  have c0:=(World.cell?_of_block (a:=⟨b1,o1+k * 2,none⟩) hkb).trans (by have:=hcell1 0 _ rfl;simpa [rRnk] using this)
  have c1:=(World.cell?_of_block (a:=⟨b1,o1+k * 2+1,none⟩) hkb).trans (by have:=hcell1 1 _ rfl;simpa [rRnk] using this)
  obtain ⟨fn,tmps,assign,body,hy,hR⟩:=HY.out k hkx (wr.alloc (.cells #[.int .i64 l[k].1,.int .i64 l[k].2] 211)) (HJ.out _ _ _ Hj.out (Turn.alloc _ _))
  unfold encRk at hy
  have hkb2:∀ j,(j=Bv∨(0<l.length∧∃ o,some (⟨b1,o1,none⟩:Addr)=some ⟨j,o,none⟩))→(wr.alloc (.cells #[.int .i64 l[k].1,.int .i64 l[k].2] 211)).heap[j]?=w.heap[j]?:=fun j hj=>by
   rw[←HK.out j hj]
   refine Below.heap_alloc _ _ _ ?_
   rcases hj with rfl|⟨_,o,ho⟩
   ·have:=World.block_lt_of_cell? w _ hb
    have h1:=HK.out j (.inl rfl)
    exact Nat.lt_of_not_le fun hge=>by
     rw[Array.getElem?_eq_none hge] at h1
     have:=(Array.getElem?_eq_none_iff.1 h1.symm)
     simp at *
     omega
   ·simp only[Option.some.injEq,Addr.mk.injEq] at ho
    obtain ⟨rfl,_⟩:=ho
    exact World.block_lt_of_cell? wr _ c0
  have HK2:=cH hkb2
  clear hcell1 hkb2 hkb
  gi_wp2
  refine hR.mono ?_
  rintro e W3 (⟨rfl,hJ3,hk3⟩|⟨rfl,hJx3⟩)
  ·gi_wp2
   go_roundw
   case rel=>exact ⟨k+1,by omega,by go_num,hJ3,fun j hj=>(hk3 j hj).trans (HK2.out j hj)⟩
   case measure=>simp[intOf];omega
  ·gi_wp2
   refine bodyPost_ret (results_none rfl _ _ _) rfl ?_
   exact ⟨⟨_,rfl⟩,.inr hJx3⟩
theorem zK0 (Bv:Nat) (A:Option Addr) (m c:Nat) (l:List Rk) (w:World) (hb:w.cell? ⟨Bv,0,none⟩=some (.slice A m c)) (hl:SlV rRnk w (fun b=>b<w.heap.size) l (.slice A m c)) (hI:∀ x∈l,I64 x.1∧I64 x.2) (hm:m≤1000000) :
  Calls Tryz.prog 295 #[.slice none 0 0,.func (.func 260) #[] #[.pointer (some ⟨Bv,0,none⟩)]] w fun e w'=>
   ∃ v,e=.returned v∧Own rRnk w' w.heap.size 211 v l (fun _=>False)∧Below w.heap.size w w':=by
 have hmx:=hl.n_eq
 have Hmx:=cH hmx;clear hmx
 have HI:=cH hI;clear hI
 have hBv:=zAE hb
 have hseq:∀ (W:World),Below w.heap.size w W→Parts encRk Fence.wide 8 Tryz.prog 260 #[.pointer (some ⟨Bv,0,none⟩)] (fun _=>False) (fun j=>j=Bv∨(0<l.length∧∃ o,A=some ⟨j,o,none⟩)) l W:=fun W hW=>
  zH5 8 (by omega) Bv A m c l W (zAA hW hb hBv) ((hl.belowSize hW).more fun _ _ _=>trivial) hm
 have hA:∀ j,(j=Bv∨(0<l.length∧∃ o,A=some ⟨j,o,none⟩))→j<w.heap.size:=fun j hj=>by
  rcases hj with rfl|⟨h0,o,ho⟩
  ·exact hBv
  ·obtain ⟨b,o1,cs,he,hS,_⟩:=hl.elem (gE h0)
   rw[ho] at he
   simp only[Option.some.injEq,Addr.mk.injEq] at he
   rw[he.1];exact hS
 refine (callsIn_wide (n:=9)).1 ?_
 refine callsIn_of_wp_marks Tryz.func295 rfl trivial ?_ rfl
 simp only[Tryz.ntmps295,List.size_toArray,List.length_cons,List.length_nil,Nat.reduceAdd,Nat.reduceSub,Array.replicate_succ,Array.replicate_zero,List.push_toArray,List.append_toArray,List.nil_append,List.cons_append]
 gi_wp2
 obtain ⟨W0,hW0⟩:∃ W0,W0=w.alloc (.cells #[.slice none 0 0] 206):=⟨_,rfl⟩
 have hB0:Below w.heap.size w W0:=by rw[hW0];exact bal (bR _ _) _
 have hz0:W0.heap.size=w.heap.size+1:=by rw[hW0];simp
 have bx0:Boxed W0 w.heap.size 206 (.slice none 0 0):=by rw[hW0];exact Boxed.new w _ _
 rw[←hW0]
 clear hW0
 refine zG2 (X:=fun j=>j=w.heap.size) rfl (by omega) (gf:=260) (lb:=#[.pointer (some ⟨Bv,0,none⟩)]) rfl trivial (zA9 Tryz.func260 (by kernel_rfl) rfl)
  (hseq W0 hB0) (fun _ h=>h.elim) rfl (fun j hj=>⟨rfl,by have:=hA j hj;omega⟩) (fun k hk=>by omega) (fun j hj=>by have:=hA j hj;omega)
  (fun k W=>∃ v,Boxed W w.heap.size 206 v∧Own rRnk W (w.heap.size+1) 211 v (l.take k) (fun _=>False)∧Below w.heap.size w W) (fun _=>False)
  ?hI (fun _ _ h _=>h) ⟨_,bx0,Own.nil_ _ _ _ _ (fun b hb=>hb.elim),hB0⟩ ?round ?done (fun _ _ _ h _=>h.elim)
 case hI=>
  rintro k P Q ⟨v,h1,h2,h3⟩ t
  have hnb:¬NC (fun _=>False) W0.heap.size P w.heap.size:=by
   rintro (e|⟨_,o,ho,hc⟩)
   ·exact e
   ·rw[show P.heap[w.heap.size]?=_ from h1] at ho;cases ho;cases hc
  refine ⟨v,t.box h1 hnb,h2.turn t (fun g hg=>?_) (fun b hb=>hb.elim),h3.trans (t.below h3.size ?_)⟩
  ·obtain ⟨q1,q2⟩:=h2.cells hg
   rintro (e|e)
   ·exact e
   ·exact q2 e.2
  ·rintro k (e|e)
   ·exact e.elim
   ·omega
 case round=>
  rintro lp r k hk W hlo hlp ⟨v,h1,h2,h3⟩
  have hlW:=(aS.1 hlp).1
  have hlen:(l.take k).length=k:=by rw[List.length_take];omega
  have hkm:k<1000000:=by have:=Hmx.out;omega
  have htk:l.take (k+1)=l.take k++[l[k]]:=List.take_succ_eq_append_getElem hk
  have hIk:=HI.out l[k] (List.getElem_mem hk)
  generalize l[k]=x at *
  obtain ⟨x1,x2⟩:=x
  simp only at hIk
  unfold encRk
  gi_wp2
  refine ⟨Turn.alloc _ _,fun V tV hrV=>?_⟩
  have hwl:w.heap.size≠lp:=by omega
  have b1:Boxed V w.heap.size 206 v:=tV.box (h1.alloc _) hwl
  have hW2:V.heap[W.heap.size]?=some (.cells #[.int .i64 x1,.int .i64 x2] 211 (0,0)):=tV.at (World.alloc_heap_new _ _) (by show ¬W.heap.size=lp;omega)
  have c0:V.cell? ⟨W.heap.size,0,none⟩=some (.int .i64 x1):=cO _ _ 0 _ _ _ hW2
  have c1:V.cell? ⟨W.heap.size,1,none⟩=some (.int .i64 x2):=cO _ _ 1 _ _ _ hW2
  have cv:=b1.cell
  have hnl:∀ g,v.ownBlock=some g→g≠lp:=fun g hg e=>(h2.cells hg).2 (by rw[e];exact ⟨_,hlp,rfl⟩)
  have o1:Own rRnk V (w.heap.size+1) 211 v (l.take k) (fun _=>False):=(h2.alloc _).turn tV hnl (fun b hb=>hb.elim)
  have hVs:=tV.size
  simp only[World.size_alloc] at hVs
  have hWs:=h3.size
  gi_wp2_with (gi_at_builtin;go_loud (refine zEe (by rfl) _ _ _ (by rfl) zGg Tryz.underlying206 (by rfl) (o1.alloc _) ⟨V.heap.size,0,none⟩ 1 [.int .i64 x1,.int .i64 x2] (x1,x2) (by rfl) ⟨rfl,hIk.1,hIk.2⟩ (zAz V #[.int .i64 x1,.int .i64 x2] _) (by rw[hlen];unfold maxLen;omega) (by rw[hlen];omega) (by simp;omega) ?_))
  intro g cap V2 o2 hgrow hlt2
  have hne2:some w.heap.size≠v.ownBlock:=fun e=>by have:=(o1.lt _ e.symm).1;omega
  have b2:Boxed V2 w.heap.size 206 v:=(b1.alloc _).kept hgrow hne2
  have cv2:=b2.cell
  have fv2:=b2.frozen
  gi_wp2
  have hg1:=o2.lt g rfl
  have tG:Turn (Free (fun j=>j=w.heap.size) W0.heap.size V) V V2:=(Turn.alloc V _).trans2 (Turn.grown (X:=fun j=>v.ownBlock=some j) hgrow (fun j e=>e)) fun j hj e=>by
   obtain ⟨q1,q2⟩:=o1.cells e
   refine .inr ⟨by omega,?_⟩
   obtain ⟨o,ho⟩:∃ o,V.heap[j]?=some o:=⟨_,Array.getElem?_eq_getElem hj⟩
   refine ⟨o,ho,?_⟩
   cases hc:o.isCells with
   | true=>rfl
   | false=>exact absurd ⟨o,ho,hc⟩ q2
  have tS:Turn (fun j=>j=w.heap.size) V2 (V2.setCell ⟨w.heap.size,0,none⟩ (.slice (some ⟨g,0,none⟩) (k+1) cap)):=Turn.set (X:=fun j=>j=w.heap.size) _ (show w.heap.size=w.heap.size from rfl) _
  refine ⟨tG.trans2 tS fun j _ e=>.inl e,_,b2.set _,?_,?_⟩
  ·rw[htk]
   exact o2.turn tS (fun g' hg' e=>by simp[Value.ownBlock] at hg';omega) (fun b hb=>hb.elim)
  ·refine Below.trans h3 ?_
   have tW:Turn (fun j=>w.heap.size≤j) W V:=(Turn.alloc W _).trans (tV.mono fun j _ e=>by show w.heap.size≤j;rw[e];omega)
   have tA:Turn (fun j=>w.heap.size≤j) V (V2.setCell ⟨w.heap.size,0,none⟩ (.slice (some ⟨g,0,none⟩) (k+1) cap)):=(tG.mono fun j _ e=>by
    rcases e with e|e
    ·show w.heap.size≤j;omega
    ·have:=e.1;show w.heap.size≤j;omega).trans (tS.mono fun j _ e=>by show w.heap.size≤j;omega)
   exact (tW.trans tA).below hWs fun j hj=>hj
 case done=>
  rintro D W hD ⟨v,h1,h2,h3⟩ hK
  rw[List.take_length] at h2
  have cv:=h1.cell
  gi_wp2
  refine ⟨by simp,.inl ⟨_,_,rfl,run_takeDeferred hK,?_⟩⟩
  have hnD:∀ g,v.ownBlock=some g→¬g=D:=fun g hg e=>(h2.cells hg).2 (by rw[e];exact ⟨_,hK,rfl⟩)
  have tD:Turn (fun j=>j=D) W (W.putObj D (.deferred none)):=Turn.put W (X:=fun j=>j=D) (show D=D from rfl) _
  exact ⟨_,results_tmp rfl _ _ _,v,rfl,(h2.lower (by omega)).turn tD hnD (fun b hb=>hb.elim),h3.trans (tD.below h3.size fun j hj=>by omega)⟩
abbrev Rb:={ x:Rk // (0≤x.1∧x.1≤1000000000)∧I64 x.2}
instance:Inhabited Rb:=⟨⟨(0,0),by unfold I64;omega⟩⟩
def encRb (x:Rb):List Value:=[.int .i64 x.1.1,.int .i64 x.1.2]
def cfRb (x y:Rb):Int:=x.1.1 - y.1.1
theorem ltRb (x y:Rb):ltOf cfRb x y=decide (x.1.1<y.1.1):=by
 unfold ltOf cfRb
 exact decide_eq_decide.2 (by omega)
theorem swoRb:SWO (ltOf cfRb) where
 irrefl x:=by rw[ltRb];simp
 trans x y z h1 h2:=by rw[ltRb] at *;simp at *;omega
 ntrans x y z h1 h2:=by rw[ltRb] at *;simp at *;omega
theorem zMa (x y:Rb) (W:World):Calls Tryz.prog 221 #[.agg #[.int .i64 x.1.1,.int .i64 x.1.2],.agg #[.int .i64 y.1.1,.int .i64 y.1.2]] W fun e w'=>e=.returned (.int .i64 (cfRb x y))∧∃ q os',w'=grow (W.drewN q) os':=by
 obtain ⟨⟨x1,x2⟩,hx,_⟩:=x
 obtain ⟨⟨y1,y2⟩,hy,_⟩:=y
 unfold cfRb
 simp only at hx hy ⊢
 have hw:IntKind.i64.wrap (x1 - y1)=x1 - y1:=IntWalk.i64_in _ ⟨by omega,by omega⟩
 clear hx hy
 go_enter Tryz.func221,Tryz.ntmps221
 go_wp2_with fail
 go_ret
 exact ⟨rfl,0,_,by rw[alloc_eq_grow,alloc_eq_grow,grow_grow];rfl⟩
theorem zHt (w:World) (g o m:Nat) (dk:Array Value) (os:Array Obj) {k:Nat} (hk:k<w.heap.size) (hne:k≠g):(sortWorld id w g o m dk os).heap[k]?=w.heap[k]?:=by
 unfold sortWorld
 have hs:(putRow id (Sort.ahead w m) g o dk).heap.size=w.heap.size:=size_putRow id (Sort.ahead w m) g o dk
 rw[heap_grow_old _ _ (by rw[hs];exact hk)]
 unfold putRow mapBlock
 simp only[Array.getElem?_modify]
 rw[if_neg (fun e=>hne e.symm)]
 rfl
theorem zCX (w:World) (g o m:Nat) (dk:Array Value) (os:Array Obj):w.grownBy (sortWorld id w g o m dk os) (some g):=by
 refine ⟨rfl,rfl,rfl,?_,fun k hk hne=>zHt w g o m dk os hk (fun e=>hne (by rw[e]))⟩
 unfold sortWorld
 rw[size_grow,size_putRow]
 show w.heap.size≤w.heap.size+os.size
 omega
theorem zQA {w:World} {base:Nat} {g cap:Nat} {l:List Rb} (h:Own rRnk w base 211 (.slice (some ⟨g,0,none⟩) l.length cap) (l.map Subtype.val) (fun _=>False)):HoldsK encRb 2 w g 0 l.toArray:=by
 intro t ht
 rw[size_flatK,List.size_toArray] at ht
 have hi:t / 2<l.length:=by omega
 rw[get_flatK _ _ _ _ (by rw[List.size_toArray];exact ht),getElem!_pos l.toArray (t / 2) (by rw[List.size_toArray];exact hi)]
 obtain ⟨b,o,cs,he,_,_,⟨rfl,_⟩,hcell⟩:=h.slv.elem (i:=t / 2) (x:=l[t / 2].1) (by rw[List.getElem?_map,gE hi];rfl)
 simp only[Option.some.injEq,Addr.mk.injEq] at he
 obtain ⟨rfl,rfl,_⟩:=he
 constructor
 ·have h2:t % 2=0∨t % 2=1:=by omega
  rcases h2 with h2|h2
  ·have:=hcell 0 _ rfl
   simp only[rRnk] at this
   rw[h2,show 0+t=0+t / 2 * 2+0 from by omega]
   exact this
  ·have:=hcell 1 _ rfl
   simp only[rRnk] at this
   rw[h2,show 0+t=0+t / 2 * 2+1 from by omega]
   exact this
 ·obtain ⟨_,xs,⟨_,q⟩,_⟩:=h
  rcases q with ⟨q,_⟩|⟨g',cap',cur,q,_,hg,_⟩
  ·cases q
  ·simp only[Value.slice.injEq,Option.some.injEq,Addr.mk.injEq] at q
   obtain ⟨⟨rfl,_⟩,_⟩:=q
   simp[World.frozen?,hg]
theorem zPa {w:World} {g cap:Nat} {l:List Rb} {S:Nat→Prop} (h:HoldsK encRb 2 w g 0 l.toArray) (hS:S g) (hlt:g<w.heap.size) (hc:l.length≤cap) (hm:cap≤maxLen) (hI:∀ x∈l,I64 x.1.1):SlV rRnk w S (l.map Subtype.val) (.slice (some ⟨g,0,none⟩) l.length cap):=by
 refine ⟨some ⟨g,0,none⟩,cap,by rw[List.length_map],by rw[List.length_map];exact hc,hm,(fun e=>by cases e),fun _=>⟨g,0,rfl,hS,hlt,fun i x hx=>?_⟩⟩
 rw[List.getElem?_map] at hx
 obtain ⟨y,hy,rfl⟩:=Option.map_eq_some_iff.1 hx
 obtain ⟨hi,hy⟩:=gS.1 hy
 refine ⟨[.int .i64 y.1.1,.int .i64 y.1.2],⟨rfl,hI y (by rw[←hy];exact List.getElem_mem hi),y.2.2⟩,fun j u hu=>?_⟩
 have hj:j<2:=by have:=(gS.1 hu).1;simpa using this
 have:=(h.cell (i:=i) (c:=j) (by rw[List.size_toArray];exact hi) hj).1
 simp only[rRnk] at this ⊢
 rw[this,getElem!_pos l.toArray i (by rw[List.size_toArray];exact hi)]
 have hl:l.toArray[i]'(by rw[List.size_toArray];exact hi)=y:=by rw[←hy];rfl
 rw[hl,←hu]
 have h2:j=0∨j=1:=by omega
 rcases h2 with rfl|rfl<;>rfl
theorem zOp (v:Value) (l:List Rk) (w:World) (base:Nat) (hown:Own rRnk w base 211 v l (fun _=>False)) (hb:∀ x∈l,0≤x.1∧x.1≤1000000000) (hI:∀ x∈l,I64 x.2) (hm:l.length≤1000000) :
  Calls Tryz.prog 259 #[v,.func (.func 221) #[] #[]] w fun e w'=>e=.returned (.tuple #[])∧∃ l',l'.Perm l∧l'.Pairwise (fun x y=>x.1≤y.1)∧SlV rRnk w' (fun b=>base≤b) l' v∧(base≤w.heap.size→Below base w w'):=by
 by_cases hne:l=[]
 ·subst hne
  obtain ⟨A,c,rfl,_,_⟩:=hown.slv.val
  refine (AnyF.slices_SortFunc_none { Tryz.sortRk with} A c (.func (.func 221) #[] #[]) w).mono ?_
  rintro e w' ⟨rfl,rfl⟩
  exact ⟨rfl,[],.refl _,List.Pairwise.nil,hown.slv.more fun b hb _=>by rcases hb with hb|hb;exact hb.elim;exact hb,fun _=>bR _ _⟩
 have hpos:0<l.length:=List.length_pos_iff.2 hne
 obtain ⟨A,cap,rfl,hcap,hmx⟩:=hown.slv.val
 obtain ⟨g,o,cs,he,_,hlt,_,_⟩:=hown.slv.elem (gE hpos)
 have hform:∃ cap',(Value.slice A l.length cap)=.slice (some ⟨g,0,none⟩) l.length cap'∧base≤g:=by
  obtain ⟨_,xs,⟨_,q⟩,_⟩:=hown
  rcases q with ⟨_,q⟩|⟨g',cap',cur,q,hbg,_⟩
  ·omega
  ·simp only[Value.slice.injEq] at q
   rw[he] at q
   simp only[Option.some.injEq,Addr.mk.injEq] at q
   obtain ⟨⟨rfl,rfl,_⟩,_,rfl⟩:=q
   exact ⟨cap,by rw[he],hbg⟩
 obtain ⟨cap',hv,hbg⟩:=hform
 rw[hv] at hown ⊢
 have hcap2:l.length≤cap'∧cap'≤maxLen:=by
  simp only[Value.slice.injEq] at hv
  omega
 let L:List Rb:=l.pmap Subtype.mk (fun x hx=>⟨hb x hx,hI x hx⟩)
 have hL:L.map Subtype.val=l:=by show (l.pmap Subtype.mk _).map Subtype.val=l;rw[List.map_pmap];simp
 have hLl:L.length=l.length:=by show (l.pmap Subtype.mk _).length=_;rw[List.length_pmap]
 clear_value L
 subst hL
 rw[List.length_map] at hown hcap2 hm ⊢
 have hH:=zQA hown
 have hcon:=AnyQ.slices_SortFunc Tryz.sortRk 2 Tryz.isAgg211 Tryz.sizeOf211 encRb (fun _=>rfl) (fun x u hu=>by simp[encRb] at hu;rcases hu with rfl|rfl<;>rfl) cfRb swoRb 221 #[] g 0 cap' L.toArray w (zA9 Tryz.func221 (by kernel_rfl) rfl)
  (fun _ _ _ _ x y=>zMa x y _) hH hlt (by rw[List.size_toArray];omega)
 rw[List.size_toArray] at hcon
 refine hcon.mono ?_
 rintro e w' ⟨rfl,d',n,os,hp,hs,rfl⟩
 obtain ⟨hp1',_,hp3⟩:=hp
 have hp1:d'.size=L.length:=hp1'.trans (List.size_toArray ..)
 clear hp1'
 have hd:d'.toList.length=L.length:=by rw[Array.length_toList,hp1]
 have hperm:d'.toList.Perm L:=by
  have h1:(d'.extract 0 L.length).toList=d'.toList:=by rw[←hp1,Array.extract_size]
  have h2:(L.toArray.extract 0 L.length).toList=L:=by
   have:=Array.extract_size (xs:=L.toArray)
   rw[List.size_toArray] at this
   rw[this]
  rw[h1,h2] at hp3
  exact hp3
 have hH':HoldsK encRb 2 (sortWorldK encRb 2 w g 0 n d' os) g 0 d'.toList.toArray:=by
  rw[Array.toArray_toList]
  exact holdsK_grow encRb 2 _ os g 0 d' (by show g<(putRow id (Sort.ahead w n) g 0 _).heap.size;rw[size_putRow];exact hlt) (holdsK_putRowK encRb 2 (Sort.ahead w n) g 0 L.toArray d' (holdsK_ahead encRb 2 w n g 0 _ hH) (by rw[hp1,List.size_toArray]))
 have hgr:w.grownBy (sortWorldK encRb 2 w g 0 n d' os) (some g):=zCX w g 0 n (flatK encRb 2 d') os
 refine ⟨rfl,d'.toList.map Subtype.val,hperm.map _,?_,?_,fun hbw=>(bR _ _).grown hgr hbw (fun k hk=>by cases hk;exact hbg)⟩
 ·rw[List.pairwise_map]
  refine List.pairwise_iff_getElem.2 fun i j hi hj hij=>?_
  have:=hs i j (nZ _) hij (by omega)
  rw[ltRb,getElem!_pos d' j (by simpa using hj),getElem!_pos d' i (by simpa using hi)] at this
  simp at this
  simpa using this
 ·have:=zPa (S:=fun b=>base≤b) (cap:=cap') hH' hbg (lL hlt hgr.size) (by rw[hd];exact hcap2.1) hcap2.2 (fun x _=>by have:=x.2.1;unfold I64;omega)
  rw[hd] at this
  exact this
theorem zKy (Bv:Nat) (A:Option Addr) (m c:Nat) (l:List Rk) (w:World) (hb:w.cell? ⟨Bv,0,none⟩=some (.slice A m c)) (hl:SlV rRnk w (fun b=>b<w.heap.size) l (.slice A m c)) (hlo:∀ x∈l,0≤x.1∧x.1≤1000000000) (hI:∀ x∈l,I64 x.1∧I64 x.2) (hm:l.length≤1000000) :
  Calls Tryz.prog 219 #[.func (.func 260) #[] #[.pointer (some ⟨Bv,0,none⟩)],.func (.func 221) #[] #[]] w fun e w'=>
   ∃ v l',e=.returned v∧l'.Perm l∧l'.Pairwise (fun x y=>x.1≤y.1)∧SlV rRnk w' (fun b=>w.heap.size≤b) l' v∧Below w.heap.size w w':=by
 have hmx:=hl.n_eq
 have Hc:Hid (Calls Tryz.prog 258 #[.func (.func 260) #[] #[.pointer (some ⟨Bv,0,none⟩)]] w fun e w'=>∃ v,e=.returned v∧Own rRnk w' w.heap.size 211 v l (fun _=>False)∧Below w.heap.size w w'):=by
  have H1:=cH (zK0 Bv A m c l w hb hl hI (by omega))
  clear hb hl hlo hI hm hmx
  unfold Hid
  go_enter Tryz.func258,Tryz.ntmps258
  go_wp2_with fail
  refine H1.out.mono ?_
  rintro e w1 ⟨v,rfl,ho,hb1⟩
  have Ho:=cH ho
  clear ho
  go_wp2_with fail
  go_ret
  exact ⟨v,rfl,Ho.out,hb1⟩
 have Hlo:=cH hlo
 have HI:=cH hI
 clear hb hl hlo hI hmx
 go_enter Tryz.func219,Tryz.ntmps219
 go_wp2_with fail
 refine Hc.out.mono ?_
 rintro e w1 ⟨v,rfl,ho,hb1⟩
 have Hs:=cH (zOp v l w1 w.heap.size ho Hlo.out (fun x hx=>(HI.out x hx).2) hm)
 have HB1:=cH hb1
 clear ho hb1
 go_wp2_with fail
 refine Hs.out.mono ?_
 rintro e w2 ⟨rfl,l',h1,h2,h3,h4⟩
 have H3:=cH (show l'.Perm l∧l'.Pairwise (fun x y=>x.1≤y.1)∧SlV rRnk w2 (fun b=>w.heap.size≤b) l' v∧Below w.heap.size w w2 from ⟨h1,h2,h3,HB1.out.trans (h4 HB1.out.size)⟩)
 clear h1 h2 h3 h4
 go_wp2_with fail
 go_ret
 exact ⟨v,l',rfl,H3.out⟩
theorem zMV:∀ {l:List Rk} {a:Int} {x:Rk},Nrm a l→x∈l→a≤x.1∧x.1≤x.2:=by
 intro l
 induction l with
 | nil=>intro a x _ h;simp at h
 | cons y l ih=>
   intro a x h hx
   obtain ⟨h1,h2,h3⟩:=h
   rcases List.mem_cons.1 hx with rfl|hx
   ·exact ⟨h1,h2⟩
   ·have:=ih h3 hx;omega
theorem In0.take {l:List Rk} (h:In0 l) (k:Nat):In0 (l.take k):=fun x hx=>h x (List.mem_of_mem_take hx)
theorem zPG {l:List Rk} (h:In0 l) (hs:l.Pairwise (fun x y=>x.1≤y.1)):In0 (zBj l):=fun x hx=>by
 obtain ⟨h1,h2,_⟩:=zIv l (fun y hy=>⟨(h y hy).1,(h y hy).2.1⟩) hs
 obtain ⟨q1,q2⟩:=zMV h1 hx
 obtain ⟨y,hy,_,hy2⟩:=(h2 x.2).1 ⟨x,hx,q2,Int.le_refl _⟩
 have:=h y hy
 omega
theorem zN6 (out:List Rk) (x:Rk):(zG0 out x).length≤out.length+1:=by
 rcases list_snoc out with rfl|⟨i,y,rfl⟩
 ·simp[zFr]
 ·rw[zEu];split<;>simp
theorem zGm {l:List Rk} {k:Nat} (h:k<l.length):zBj (l.take (k+1))=zG0 (zBj (l.take k)) l[k]:=by
 rw[List.take_succ_eq_append_getElem h,zHn]
theorem zOP (l:List Rk):∀ k,k≤l.length→(zBj (l.take k)).length≤k:=by
 intro k
 induction k with
 | zero=>intro _;simp[zBj]
 | succ k ih=>
   intro h
   rw[zGm (by omega)]
   have:=ih (by omega)
   have:=zN6 (zBj (l.take k)) (l[k]'(by omega))
   omega
theorem zRB {l m:List Rk} (h:l.Perm m) (n:Int):Has l n↔Has m n:=⟨fun ⟨x,hx,q⟩=>⟨x,h.mem_iff.1 hx,q⟩,fun ⟨x,hx,q⟩=>⟨x,h.mem_iff.2 hx,q⟩⟩
theorem zKL {w:World} {base:Nat} {e:TypeId} {g n cap:Nat} {l:List Rk} {y:Rk} (h:Own rRnk w base e (.slice (some ⟨g,0,none⟩) (n+1) cap) (l++[y]) (fun _=>False)) (hl:l.length=n) {z:Int} (hz:I64 z) :
  Own rRnk (w.setCell ⟨g,n * 2+1,none⟩ (.int .i64 z)) base e (.slice (some ⟨g,0,none⟩) (n+1) cap) (l++[(y.1,z)]) (fun _=>False):=by
 obtain ⟨_,xs,⟨q0,q⟩,hE⟩:=h
 have key:∀ {l:List Rk} {xs:List Value},Elems rRnk w (fun _=>False) (l++[y]) xs→∃ ys,xs=ys++[.int .i64 y.1,.int .i64 y.2]∧Elems rRnk w (fun _=>False) l ys∧I64 y.1:=by
  intro l
  induction l with
  | nil=>
    intro xs hx
    obtain ⟨cs,rest,h1,⟨rfl,hi,_⟩,h3⟩:=hx
    rw[show rest=[] from h3,List.append_nil] at h1
    exact ⟨[],h1,rfl,hi⟩
  | cons x l ih=>
    intro xs hx
    obtain ⟨cs,rest,h1,h2,h3⟩:=hx
    obtain ⟨ys,rfl,h4,h5⟩:=ih h3
    exact ⟨cs++ys,by rw[h1,List.append_assoc],⟨cs,ys,rfl,h2,h4⟩,h5⟩
 obtain ⟨ys,rfl,hEl,hy1⟩:=key hE
 have hyl:ys.length=n * 2:=by have:=hEl.length;rw[hl] at this;exact this
 refine ⟨fun b hb=>hb.elim,ys++[.int .i64 y.1,.int .i64 z],⟨by simpa using q0,?_⟩,Elems.append (Elems.one_ (r:=rRnk) (x:=(y.1,z)) (cs:=[.int .i64 y.1,.int .i64 z]) ⟨rfl,hy1,hz⟩) (hEl.mono fun b hb _=>hb.elim)⟩
 rcases q with ⟨q,_⟩|⟨g',cap',cur,q,hbg,hg,hnc,hcm,hcs,htk⟩
 ·cases q
 ·simp only[Value.slice.injEq,Option.some.injEq,Addr.mk.injEq] at q
  obtain ⟨⟨rfl,_⟩,_,rfl⟩:=q
  refine .inr ⟨g,cap,cur.setIfInBounds (n * 2+1) (.int .i64 z),by rw[List.length_append,hl];rfl,hbg,zAU hg _,by simpa using hnc,hcm,by rw[Array.size_setIfInBounds];exact hcs,?_⟩
  have e1:(l++[(y.1,z)]).length * rRnk.size=(l++[y]).length * rRnk.size:=by simp
  rw[e1,Array.toList_setIfInBounds,List.take_set,htk,List.set_append_right _ _ (by omega),hyl,show n * 2+1 - n * 2=1 from by omega]
  rfl
theorem zK1 (A:Option Addr) (n c:Nat) (l:List Rk) (w:World) (hl:SlV rRnk w (fun b=>b<w.heap.size) l (.slice A n c)) (hin:In0 l) (hm:l.length≤1000000) :
  Calls Tryz.prog 160 #[.slice A n c] w fun e w'=>∃ v,e=.returned v∧SlV rRnk w' (fun b=>w.heap.size≤b) (canon (Has l)) v∧Below w.heap.size w w':=by
 have Hv:=cH (zKF A n c w)
 have Hs:Hid (∀ W,W=w.alloc (.cells #[.slice A n c] 206)→Calls Tryz.prog 219 #[.func (.func 260) #[] #[.pointer (some ⟨w.heap.size,0,none⟩)],.func (.func 221) #[] #[]] W fun e w'=>
   ∃ v l',e=.returned v∧l'.Perm l∧l'.Pairwise (fun x y=>x.1≤y.1)∧SlV rRnk w' (fun b=>W.heap.size≤b) l' v∧Below W.heap.size W w'):=fun W hW=>by
  refine zKy w.heap.size A n c l W (by rw[hW];simp[go_sem]) (by rw[hW];exact (hl.alloc _).more fun b hb _=>by have:b<w.heap.size:=hb;simp;omega) (fun x hx=>?_) (fun x hx=>?_) hm
  ·have:=hin x hx;unfold lastR at this;omega
  ·have:=hin x hx;unfold I64;unfold lastR at this;omega
 have Hin:=cH hin
 have Hm:=cH hm
 clear hl hin hm
 go_enter Tryz.func160,Tryz.ntmps160
 go_wp2_with fail
 refine Hv.out.mono ?_
 rintro e w0 ⟨rfl,hw0⟩
 have HB0:Hid (Below w.heap.size w w0):=by unfold Hid;rw[hw0];exact bal (bR _ _) _
 have Hs0:=cH (Hs.out w0 hw0)
 clear hw0 Hs Hv
 go_wp2_with fail
 refine Hs0.out.mono ?_
 rintro e w1 ⟨v,l',rfl,hp,hso,hv,hb1⟩
 have HB1:=cH (bot HB0.out hb1)
 have HB01:=cH HB0.out.size
 have Hin':Hid (In0 l'):=fun x hx=>Hin.out x (hp.mem_iff.1 hx)
 have Hso:=cH hso
 have Hmm:Hid (l'.length≤1000000):=by unfold Hid;rw[hp.length_eq];exact Hm.out
 have Hres:Hid (zBj l'=canon (Has l)):=by
  obtain ⟨h1,h2,_⟩:=zIv l' (fun y hy=>⟨(Hin'.out y hy).1,(Hin'.out y hy).2.1⟩) hso
  exact (zND h1 fun n=>(h2 n).trans (zRB hp n)).symm
 obtain ⟨A1,c1,rfl,_,hc1m⟩:=hv.val
 have HV:=cH (hv.more (S':=fun b=>b<w1.heap.size) fun b _ h=>h)
 have Hll:Hid (l'.length=l'.length):=rfl
 clear Hs0 hb1 hv hp hso HB0 Hin Hm
 obtain ⟨m,hmz⟩:∃ m,m=l'.length:=⟨_,rfl⟩
 rw[←hmz] at HV Hmm
 rw[←hmz]
 have Hmz:=cH hmz
 have hm63:=Hmm.out
 clear hmz Hll
 go_wp2_with fail
 go_loopw [3,12] (fun v i wr=>∃ k:Nat,k≤m∧i=.int .i64 k∧Hid (Own rRnk wr w1.heap.size 211 v (zBj (l'.take k)) (fun _=>False))∧Hid (Below w1.heap.size w1 wr)) (fun _ i _=>m - (intOf i).toNat)
 case atStart=>exact ⟨0,nZ _,rfl,Own.nil_ _ _ _ _ (fun b hb=>hb.elim),bR _ _⟩
 case round=>
  obtain ⟨k,hk,rfl,Hown,HB⟩:=hrel
  by_cases hlt:k<m
  case neg=>
   have hlt':¬(k:Int)<(m:Int):=by omega
   have Hsl:=cH Hown.out.slv
   rw[List.take_of_length_le (by have:=Hmz.out;omega),Hres.out] at Hsl
   go_wp2_with fail
   go_ret
   exact ⟨_,rfl,Hsl.out.more (fun b hb _=>by rcases hb with h|h;exact h.elim;exact nT HB1.out.size h),HB1.out.trans (HB.out.mono HB1.out.size)⟩
  have hkx:k<l'.length:=by have:=Hmz.out;omega
  have hkI:(k:Int)<(m:Int):=by omega
  have hk0:(0:Int)≤(k:Int):=by omega
  obtain ⟨b1,o1,cs1,rfl,hs1,_,⟨rfl,hi1,hi2⟩,hcell1⟩:=HV.out.elem (gE hkx)
  have c0:=zAA HB.out (hcell1 0 _ rfl) hs1
  have c1:=zAA HB.out (hcell1 1 _ rfl) hs1
  simp only[rRnk,Nat.add_zero] at c0 c1
  have Htk:=cH (zGm hkx)
  have hlen:=zOP l' k (by omega)
  have Hmin:=cH (zPG (Hin'.out.take k) (List.Pairwise.sublist (List.take_sublist _ _) Hso.out))
  obtain ⟨r1,r2,r3⟩:=Hin'.out l'[k] (List.getElem_mem hkx)
  clear hcell1
  generalize l'[k]=x at *
  obtain ⟨x1,x2⟩:=x
  simp only at c0 c1 hi1 hi2 r1 r2 r3 Htk
  have hbw:=HB.out.size
  obtain ⟨w5,hw5⟩:∃ w5,w5=wr.alloc (.cells #[.int .i64 x1,.int .i64 x2] 211):=⟨_,rfl⟩
  have HO1:=cH (Hown.out.alloc (.cells #[.int .i64 x1,.int .i64 x2] 211))
  rw[←hw5] at HO1
  have HBa:Hid (Below w1.heap.size w1 w5):=by rw[hw5];exact bal HB.out _
  have d0:w5.cell? ⟨wr.heap.size,0,none⟩=some (.int .i64 x1):=by rw[hw5];simp[go_sem]
  have d1:w5.cell? ⟨wr.heap.size,1,none⟩=some (.int .i64 x2):=by rw[hw5];simp[go_sem]
  have hz5:w5.heap.size=wr.heap.size+1:=by rw[hw5];simp
  rcases list_snoc (zBj (l'.take k)) with hnil|⟨I,y,hsn⟩
  ·rw[hnil,zFr] at Htk
   rw[hnil] at HO1
   obtain ⟨A2,c2,hve,_,_⟩:=HO1.out.slv.val
   simp only[List.length_nil] at hve
   subst hve
   have hw1:IntKind.i64.wrap ((0:Int) - 1)=-1:=rfl
   clear hnil Hown hlen Hmin
   go_wp2_with fail
   rw[←hw5]
   clear hw5 c0 c1
   have r_d0:=cR d0
   have r_d1:=cR d1
   go_wp2_with fail
   refine wQ ?_
   repeat (go_big_quiet_step (first|fail))
   refine wpQuiet_nil fun w6 B6=>?_
   focus
    have HO6:=cH (HO1.out.keep B6)
    have HB6:Hid (Below w1.heap.size w1 w6):=bot HBa.out B6
    have e0:=zAA B6 d0 (zAE d0)
    have e1:=zAA B6 d1 (zAE d1)
    have hz6:=HB6.out.size
    clear d0 d1 r_d0 r_d1 B6 HO1 HBa
    go_wp2_with (at_builtin;refine zAb (by rfl) _ _ _ (by rfl) zGg Tryz.underlying206 (by rfl) (HO6.out.alloc _) ⟨w6.heap.size,0,none⟩ 1 [.int .i64 x1,.int .i64 x2] (x1,x2) (by rfl) ⟨rfl,hi1,hi2⟩ (zAz w6 #[.int .i64 x1,.int .i64 x2] _) (by simp[maxLen]) (by simp) (by simp;omega) (w6.heap.size+1) (by simp) ?_)
    intro g cap w7 hown7 hgrow hat hg7
    have HB7:Hid (Below w1.heap.size w1 w7):=zC3 (bal HB6.out _) hgrow (HO6.out.alloc _) (nR _)
    have HO7:Hid (Own rRnk w7 w1.heap.size 211 (.slice (some ⟨g,0,none⟩) 1 cap) (zBj (l'.take (k+1))) (fun _=>False)):=by unfold Hid;rw[Htk.out];exact hown7
    clear hown7 hgrow hat hg7
    go_wp2_with fail
    go_roundw
    case rel=>exact ⟨k+1,by omega,by go_num,HO7,HB7⟩
    case measure=>simp[intOf];omega
  ·rw[hsn,zEu] at Htk
   rw[hsn] at HO1 hlen Hmin
   rw[List.length_append,List.length_singleton] at hlen
   obtain ⟨y1,y2⟩:=y
   simp only at Htk
   obtain ⟨s1,s2,s3⟩:=Hmin.out (y1,y2) (by simp)
   simp only at s1 s2 s3
   unfold lastR at s3 r3
   obtain ⟨A2,c2,hve,_,_⟩:=HO1.out.slv.val
   obtain ⟨q,hq⟩:∃ q,q=I.length:=⟨_,rfl⟩
   rw[List.length_append,List.length_singleton,←hq] at hve
   rw[←hq] at hlen
   rw[hve] at HO1
   obtain ⟨g,hgv⟩:∃ g,A2=some (⟨g,0,none⟩:Addr):=by
    obtain ⟨_,xs,⟨_,qq⟩,_⟩:=HO1.out
    rcases qq with ⟨e,_⟩|⟨g',cap',cur,e,_⟩
    ·cases e
    ·simp only[Value.slice.injEq] at e
     exact ⟨g',e.1⟩
   subst hgv
   subst hve
   have hxq:(I++[(y1,y2)])[q]?=some (y1,y2):=by rw[hq,List.getElem?_append_right (nR _),Nat.sub_self];rfl
   obtain ⟨gb,go,gcs,hge,hgS,_,⟨rfl,_⟩,hgc⟩:=HO1.out.slv.elem hxq
   clear hxq
   simp only[Option.some.injEq,Addr.mk.injEq] at hge
   obtain ⟨rfl,rfl,_⟩:=hge
   have hgb:w1.heap.size≤g:=by rcases hgS with e|e;exact e.elim;exact e
   have hne5:g≠wr.heap.size:=fun e=>by have:=(Hown.out.lt g rfl).2;omega
   have f1:=hgc 1 _ rfl
   simp only[rRnk,Nat.zero_add] at f1
   clear hgc hgS Hown hsn Hmin
   obtain ⟨ql,hql⟩:∃ ql,ql=q+1:=⟨_,rfl⟩
   rw[←hql] at HO1 hlen
   rw[←hql]
   have hw1:IntKind.i64.wrap ((ql:Int) - 1)=(q:Int):=by rw[IntWalk.i64_in _ ⟨by omega,by omega⟩];omega
   have hw2:IntKind.i64.wrap (y2+1)=y2+1:=IntWalk.i64_in _ ⟨by omega,by omega⟩
   have hqI:(q:Int)<(ql:Int):=by omega
   have hq0:(0:Int)≤(q:Int):=by omega
   have Hq:=cH hq
   have Hql:=cH hql
   clear hq hql
   go_wp2_with fail
   rw[←hw5]
   clear hw5 c0 c1
   have r_d0:=cR d0
   have r_d1:=cR d1
   have r_f1:=cR f1
   go_wp2_with fail
   refine wQ ?_
   repeat (go_big_quiet_step (first|fail))
   refine wpQuiet_nil fun w6 B6=>?_
   focus
    have HO6:=cH (HO1.out.keep B6)
    have HB6:Hid (Below w1.heap.size w1 w6):=bot HBa.out B6
    have e0:=zAA B6 d0 (zAE d0)
    have e1:=zAA B6 d1 (zAE d1)
    have g1:=zAA B6 f1 (zAE f1)
    have hz6:=HB6.out.size
    clear d0 d1 f1 r_d0 r_d1 r_f1 B6 HO1 HBa
    by_cases hle:x1≤y2+1
    ·rw[if_pos hle] at Htk
     have hmxy:=zSG y2 x2
     have HIm:Hid (I64 (max y2 x2)):=by unfold Hid I64 at *;omega
     have HS:Hid (∀ W,W.heap[g]?=w6.heap[g]?→Own rRnk W w1.heap.size 211 (.slice (some ⟨g,0,none⟩) ql c2) (I++[(y1,y2)]) (fun _=>False)→Own rRnk (W.setCell ⟨g,q * 2+1,none⟩ (.int .i64 (max y2 x2))) w1.heap.size 211 (.slice (some ⟨g,0,none⟩) ql c2) (zBj (l'.take (k+1))) (fun _=>False)):=fun W _ ho=>by
      rw[Htk.out]
      rw[Hql.out] at ho ⊢
      exact zKL ho Hq.out.symm HIm.out
     have fg:w6.frozen? ⟨g,q * 2+1,none⟩=false:=by
      obtain ⟨_,xs,⟨_,qq⟩,_⟩:=HO6.out
      rcases qq with ⟨e,_⟩|⟨g',cap',cur,e,_,hg',_⟩
      ·cases e
      ·simp only[Value.slice.injEq,Option.some.injEq,Addr.mk.injEq] at e
       obtain ⟨⟨rfl,_⟩,_⟩:=e
       simp[World.frozen?,hg']
     go_wp2_with fail
     go_region_law (fail)
     all_goals
      have HO7:=cH (HS.out w6.drew rfl HO6.out.drew)
      have HB7:Hid (Below w1.heap.size w1 (w6.drew.setCell ⟨g,q * 2+1,none⟩ (.int .i64 (max y2 x2)))):=(HB6.out.trans (bR _ _).drew).setCell (p:=⟨g,q * 2+1,none⟩) hgb _
      clear e0 e1 g1 fg HS HO6 HB6
      go_wp2_with fail
      go_roundw
      case rel=>exact ⟨k+1,by omega,by go_num,HO7,HB7⟩
      case measure=>simp[intOf];omega
    ·rw[if_neg hle] at Htk
     obtain ⟨OL,hOL⟩:∃ OL,OL=I++[(y1,y2)]:=⟨_,rfl⟩
     have hol:OL.length=ql:=by rw[hOL,List.length_append,List.length_singleton,←Hq.out,Hql.out]
     rw[←hOL] at Htk HO6
     have Hol:=cH hol
     clear hol hOL
     go_wp2_with (at_builtin;refine zAb (by rfl) _ _ _ (by rfl) zGg Tryz.underlying206 (by rfl) (HO6.out.alloc _) ⟨w6.heap.size,0,none⟩ 1 [.int .i64 x1,.int .i64 x2] (x1,x2) (by rfl) ⟨rfl,hi1,hi2⟩ (zAz w6 #[.int .i64 x1,.int .i64 x2] _) (by rw[Hol.out];unfold maxLen;omega) (by rw[Hol.out];omega) (by simp;omega) (w6.heap.size+1) (by simp) ?_)
     intro g7 cap w7 hown7 hgrow hat hg7
     have HB7:Hid (Below w1.heap.size w1 w7):=zC3 (bal HB6.out _) hgrow (HO6.out.alloc _) (nR _)
     have HO7:=cH hown7
     rw[←Htk.out] at HO7
     clear hown7 hgrow hat hg7
     go_wp2_with fail
     go_roundw
     case rel=>exact ⟨k+1,by omega,by go_num,HO7,HB7⟩
     case measure=>simp[intOf];omega
attribute [local go_sem] Oper.semAt_some
def spl (s sep:ByteArray):List ByteArray:=Lib.splitB sep 0 s.size s
def encS (x:ByteArray):Value:=.string x
theorem zGL (s sep:ByteArray) (w:World):Calls Tryz.prog 157 #[.string s,.string sep] w fun e w'=>
  e=.returned (.func (.func 257) #[] #[.pointer (some ⟨w.heap.size+1,0,none⟩),.pointer (some ⟨w.heap.size,0,none⟩),.pointer (some ⟨w.heap.size+2,0,none⟩)]) ∧
   w'=((w.alloc (.cells #[.string s] 9)).alloc (.cells #[.string sep] 9)).alloc (.cells #[.int .i64 0] 3):=by
 have H1:Hid (Calls Tryz.prog 216 #[.string s,.string sep,.int .i64 0] w fun e w'=>e=.returned (.func (.func 257) #[] #[.pointer (some ⟨w.heap.size+1,0,none⟩),.pointer (some ⟨w.heap.size,0,none⟩),.pointer (some ⟨w.heap.size+2,0,none⟩)]) ∧
   w'=((w.alloc (.cells #[.string s] 9)).alloc (.cells #[.string sep] 9)).alloc (.cells #[.int .i64 0] 3)):=by
  unfold Hid
  go_enter Tryz.func216,Tryz.ntmps216
  go_wp2_with fail
  go_ret
  exact ⟨rfl,rfl⟩
 go_enter Tryz.func157,Tryz.ntmps157
 go_wp2_with fail
 refine H1.out.mono ?_
 rintro e w1 ⟨rfl,rfl⟩
 go_wp2_with fail
 go_ret
 exact ⟨rfl,rfl⟩
def leftS (sB:Nat) (W:World):Nat:=match W.cell? ⟨sB,0,none⟩ with|some (.string r)=>r.size|_=>0
theorem zM3 {sB:Nat} {W:World} {t:TypeId} {r:ByteArray} (h:Boxed W sB t (.string r)):leftS sB W=r.size:=by unfold leftS;rw[h.cell]
theorem zEA (n:Nat) (hn:1≤n) (sB pB vB:Nat) (s sep:ByteArray) (m:Int) (w:World) (h1:1≤sep.size) (hsp:sep.size≤100) (hs:s.size<4294967281) (hm:w.cell? ⟨0,0,none⟩=some (.int .i64 m))
  (bs:Boxed w sB 9 (.string s)) (bp:Boxed w pB 9 (.string sep)) (bv:Boxed w vB 3 (.int .i64 0)) (hd:sB≠pB∧sB≠vB∧sB≠0) :
  Parts encS Fence.wide n Tryz.prog 257 #[.pointer (some ⟨pB,0,none⟩),.pointer (some ⟨sB,0,none⟩),.pointer (some ⟨vB,0,none⟩)] (fun j=>j=sB) (fun j=>j=sB∨j=pB∨j=vB∨j=0) (spl s sep) w:=by
 intro lp J Jx W hK hJ hJx hY h0
 have bsW:Boxed W sB 9 (.string s):=(hK sB (.inl rfl)).2.1.trans bs
 have bpW:Boxed W pB 9 (.string sep):=(hK pB (.inr (.inl rfl))).2.1.trans bp
 have bvW:Boxed W vB 3 (.int .i64 0):=(hK vB (.inr (.inr (.inl rfl)))).2.1.trans bv
 have hmW:W.cell? ⟨0,0,none⟩=some (.int .i64 m):=(World.cell?_of_block (a:=⟨0,0,none⟩) (hK _ (.inr (.inr (.inr rfl)))).2.1).trans hm
 have HY:=cH hY
 have HJ:=cH hJ
 clear hK hY hJ bs bp bv hm
 refine callsIn_of_wp Tryz.func257 rfl trivial ?_ rfl
 simp only[Tryz.ntmps257,List.size_toArray,List.length_cons,List.length_nil,Nat.reduceAdd,Nat.reduceSub,Array.replicate_succ,Array.replicate_zero,List.push_toArray,List.append_toArray,List.nil_append,List.cons_append]
 have cp:=bpW.cell
 have hne:((sep.size:Int)==0)=false:=by rw[beq_eq_false_iff_ne];omega
 gi_wp2
 gi_loopw [] (fun wr=>∃ (k f:Nat) (done:List ByteArray) (r:ByteArray),Hid (J k wr)∧done.length=k∧Hid (spl s sep=done++Lib.splitB sep 0 f r)∧r.size≤f∧r.size≤s.size∧Boxed wr sB 9 (.string r)∧Boxed wr pB 9 (.string sep)∧Boxed wr vB 3 (.int .i64 0)∧wr.cell? ⟨0,0,none⟩=some (.int .i64 m)) (fun wr=>leftS sB wr)
 case atStart=>exact ⟨0,s.size,[],s,h0,rfl,rfl,nR _,nR _,bsW,bpW,bvW,hmW⟩
 case round=>
  clear h0 bsW bpW bvW hmW cp
  obtain ⟨k,f,done,r,Hj,hdk,Hsp,hrf,hrs,bs,bp,bv,hm⟩:=hrel
  have cs:=bs.cell
  have cp:=bp.cell
  have cv:=bv.cell
  have Hix:=cH (Tryz.strings_Index r sep m wr (by omega) hm)
  rcases Lib.indexB_cases r sep with hi|⟨i,hi,hir⟩
  ·have hpl:(spl s sep).length=k+1:=by rw[Hsp.out,Lib.splitB_miss _ _ _ _ hi,List.length_append,hdk];rfl
   have hpk:(spl s sep)[k]'(by omega)=r:=by
    have:(spl s sep)[k]?=some r:=by rw[Hsp.out,Lib.splitB_miss _ _ _ _ hi,←hdk];simp
    exact (gS.1 this).2
   obtain ⟨fn,tmps,assign,body,hy,hR⟩:=HY.out k (by omega) wr Hj.out
   rw[hpk] at hy
   unfold encS at hy
   have Hpl:=cH hpl
   have hI:Lib.index r.data.toList sep.data.toList=-1:=hi
   rw[hI] at Hix
   clear hpk hpl hi hI Hsp
   gi_wp2
   refine ⟨trivial,(callsIn_wide.2 Hix.out).mono ?_⟩
   rintro e w' ⟨rfl,rfl⟩
   gi_wp2
   refine hR.mono ?_
   rintro e W3 (⟨rfl,hJ3,hk3⟩|⟨rfl,hJx3⟩)
   ·gi_wp2
    go_end0
    refine ⟨⟨_,rfl⟩,.inl ?_⟩
    rw[Hpl.out]
    exact hJ3
   ·gi_wp2
    go_end0
    exact ⟨⟨_,rfl⟩,.inr hJx3⟩
  ·obtain ⟨f,rfl⟩:∃ f',f=f'+1:=⟨f - 1,by omega⟩
   have hsp2:spl s sep=(done++[r.extract 0 i])++Lib.splitB sep 0 f (r.extract (i+sep.size) r.size):=by rw[Hsp.out,Lib.splitB_hit _ _ _ _ _ hi,List.append_assoc];rfl
   have hpl:k<(spl s sep).length:=by rw[hsp2,List.length_append,List.length_append,hdk];simp;omega
   have hpk:(spl s sep)[k]'hpl=r.extract 0 i:=by
    have:(spl s sep)[k]?=some (r.extract 0 i):=by rw[hsp2,←hdk,List.append_assoc];simp
    exact (gS.1 this).2
   obtain ⟨fn,tmps,assign,body,hy,hR⟩:=HY.out k hpl wr Hj.out
   rw[hpk] at hy
   unfold encS at hy
   have Hsp2:=cH hsp2
   have hI:Lib.index r.data.toList sep.data.toList=(i:Int):=hi
   rw[hI] at Hix
   have hi0:¬(i:Int)<0:=by omega
   have hwi:IntKind.i64.wrap ((i:Int)+0)=(i:Int):=by rw[Int.add_zero];exact IntWalk.i64_in _ ⟨by omega,by omega⟩
   have hwj:IntKind.i64.wrap ((i:Int)+(sep.size:Int))=((i+sep.size:Nat):Int):=by rw[IntWalk.i64_in _ ⟨by omega,by omega⟩];omega
   have hil:i≤r.size:=by omega
   clear hpk hpl hi hI Hsp hsp2
   gi_wp2
   refine ⟨trivial,(callsIn_wide.2 Hix.out).mono ?_⟩
   rintro e w' ⟨rfl,rfl⟩
   gi_wp2
   refine hR.mono ?_
   rintro e W3 (⟨rfl,hJ3,hk3⟩|⟨rfl,hJx3⟩)
   ·have bs3:Boxed W3 sB 9 (.string r):=(hk3 sB (.inl rfl)).trans bs
    have bp3:Boxed W3 pB 9 (.string sep):=(hk3 pB (.inr (.inl rfl))).trans bp
    have bv3:Boxed W3 vB 3 (.int .i64 0):=(hk3 vB (.inr (.inr (.inl rfl)))).trans bv
    have hm3:W3.cell? ⟨0,0,none⟩=some (.int .i64 m):=(World.cell?_of_block (a:=⟨0,0,none⟩) (hk3 _ (.inr (.inr (.inr rfl))))).trans hm
    have cs3:=bs3.cell
    have cp3:=bp3.cell
    have fs3:=bs3.frozen
    have hzr:(r.extract (i+sep.size) r.size).size=r.size - (i+sep.size):=by rw[ByteArray.size_extract];omega
    have T:Turn (fun j=>j=sB) W3 (W3.setCell ⟨sB,0,none⟩ (.string (r.extract (i+sep.size) r.size))):=Turn.set (X:=fun j=>j=sB) W3 (show sB=sB from rfl) _
    have hm4:(W3.setCell ⟨sB,0,none⟩ (.string (r.extract (i+sep.size) r.size))).cell? ⟨0,0,none⟩=some (.int .i64 m):=(World.cell?_of_block (a:=⟨0,0,none⟩) (T.block _ (zAE hm3) (fun e=>hd.2.2 e.symm))).trans hm3
    have hle2:i+sep.size≤r.size:=hir
    have HT:=cH T
    clear T
    gi_wp2
    go_roundw
    case rel=>exact ⟨k+1,f,done++[r.extract 0 i],r.extract (i+sep.size) r.size,HJ.out _ _ _ hJ3 HT.out,by rw[List.length_append,hdk];rfl,Hsp2,by rw[hzr];omega,by rw[hzr];omega,bs3.set _,HT.out.box bp3 (fun e=>hd.1 e.symm),HT.out.box bv3 (fun e=>hd.2.1 e.symm),hm4⟩
    case measure=>rw[zM3 (bs3.set _),zM3 bs,hzr];omega
   ·gi_wp2
    refine bodyPost_ret (results_none rfl _ _ _) rfl ?_
    exact ⟨⟨_,rfl⟩,.inr hJx3⟩
