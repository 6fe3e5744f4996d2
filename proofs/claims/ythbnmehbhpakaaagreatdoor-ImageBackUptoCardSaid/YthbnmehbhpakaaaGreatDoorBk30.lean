/- manifest.Parse: a manifest is read, walked. -/
import Derived.Test.YthbnmehbhpakaaaGreatDoorBk19
import Derived.Test.YthbnmehbhpakaaaGreatDoorBk16
import Derived.Test.YthbnmehbhpakaaaGreatDoorBk18
import Derived.Deep.RegionLaw
import Derived.Test.YthbnmehbhpakaaaGreatDoorBk26
import Derived.Test.YthbnmehbhpakaaaGreatDoorBk27
import Derived.Test.YthbnmehbhpakaaaGreatDoorAl
set_option linter.all false
set_option maxHeartbeats 8000000
set_option maxRecDepth 100000
namespace Go.Proofs.YthbnmehbhpakaaaGreatDoor
open Go.Rows Go.RowKit Go.Shelf Go.Sort
def maniZ:Mani:=⟨[],[],[],[]⟩
noncomputable def maniQ (t:ByteArray):Mani×Int:=match maniE t with
 | .error k=>(maniZ,k)
 | .ok m=>(m,0)
theorem zPK {t:ByteArray} {L:List (List ByteArray)} {en:Int} (h:scanQ 4096 t=(L,en)) (h0:en≠0):maniQ t=(maniZ,en):=by
 unfold maniQ maniE
 rw[h,if_pos h0]
theorem zOw {t:ByteArray} {L:List (List ByteArray)} (h:scanQ 4096 t=(L,0)) (h0:∀ r,L≠[zA5]::r):maniQ t=(maniZ,22):=by
 unfold maniQ maniE
 rw[h,if_neg (by simp)]
 match L,h0 with
 | [],_=>rfl
 | []::_,_=>rfl
 | [a]::r,h0=>
   simp only
   by_cases ha:a=zA5
   ·subst ha;exact absurd rfl (h0 r)
   ·rw[if_pos (fun e=>ha (zAt e))]
 | (_::_::_)::_,_=>rfl
theorem zN2 {t:ByteArray} {rest:List (List ByteArray)} (h:scanQ 4096 t=([zA5]::rest,0)) :
  (∀ e,listsE zAn rest (0,rm 4 fun _=>[])=.error e→maniQ t=(maniZ,e)) ∧
  (∀ l,listsE zAn rest (0,rm 4 fun _=>[])=.ok (rm 4 l)→(maniB ⟨l 0,l 1,l 2,l 3⟩=false→maniQ t=(maniZ,25))∧(maniB ⟨l 0,l 1,l 2,l 3⟩=true→maniQ t=(⟨l 0,l 1,l 2,l 3⟩,0))):=by
 have hr:rm 4 (fun _=>[])=[[],[],[],[]]:=rfl
 unfold maniQ maniE
 rw[h,if_neg (by simp)]
 simp only
 rw[if_neg (by simp)]
 refine ⟨fun e he=>?_,fun l hl=>⟨fun hb=>?_,fun hb=>?_⟩⟩
 ·rw[hr] at he;rw[he]
 all_goals
  rw[hr] at hl
  rw[hl,show rm 4 l=[l 0,l 1,l 2,l 3] from rfl]
  simp only
 ·rw[if_neg (by rw[hb];decide)]
 ·rw[if_pos hb]
def ManiO (w:World) (B:Nat) (m:Mani) (u:Value):Prop:=
 ∃ (v:Nat→Value) (l:Nat→List Dep) (S:Nat→Prop),u=.agg (zCT [] 4 v)∧zAd 4 B w v l S∧l 0=m.deps∧l 1=m.dev∧l 2=m.opts∧l 3=m.over
theorem ManiO.zero (w:World) (B:Nat):ManiO w B maniZ (.agg #[.slice none 0 0,.slice none 0 0,.slice none 0 0,.slice none 0 0]):=
 ⟨_,_,_,rfl,zAd.nil 4 B w,rfl,rfl,rfl,rfl⟩
theorem ManiO.maniV {w:World} {B:Nat} {m:Mani} {u:Value} (h:ManiO w B m u):ManiV w (Fresh B w) m u:=by
 obtain ⟨v,l,S,rfl,⟨h1,h2,h3⟩,e0,e1,e2,e3⟩:=h
 have g0:=(h1 0 (by decide)).slvF h2
 have g1:=(h1 1 (by decide)).slvF h2
 have g2:=(h1 2 (by decide)).slvF h2
 have g3:=(h1 3 (by decide)).slvF h2
 obtain ⟨A0,c0,q0,_,_⟩:=g0.val
 obtain ⟨A1,c1,q1,_,_⟩:=g1.val
 obtain ⟨A2,c2,q2,_,_⟩:=g2.val
 obtain ⟨A3,c3,q3,_,_⟩:=g3.val
 rw[q0,e0] at g0
 rw[q1,e1] at g1
 rw[q2,e2] at g2
 rw[q3,e3] at g3
 refine ⟨A0,_,c0,A1,_,c1,A2,_,c2,A3,_,c3,?_,g0,g1,g2,g3⟩
 show Value.agg #[v 0,v 1,v 2,v 3]=_
 rw[q0,q1,q2,q3,e0,e1,e2,e3]
theorem ManiO.keep {w w':World} {B:Nat} {m:Mani} {u:Value} (h:ManiO w B m u) (hb:Below w.heap.size w w'):ManiO w' B m u:=by
 obtain ⟨v,l,S,h1,h2,h3⟩:=h
 exact ⟨v,l,S,h1,h2.keep hb,h3⟩
theorem ManiO.lower {w:World} {B B':Nat} {m:Mani} {u:Value} (h:ManiO w B m u) (hB:B'≤B):ManiO w B' m u:=by
 obtain ⟨v,l,S,h1,h2,h3⟩:=h
 exact ⟨v,l,S,h1,h2.lower hB,h3⟩
theorem zBV {W:World} {b:Nat} {x0 x1 x2 x3:Value} {t:TypeId} (h:W.heap[b]?=some (.cells #[x0,x1,x2,x3] t (0,0))) (a0 a1 a2 a3:Value) :
  ((((W.setCell ⟨b,0,none⟩ a0).setCell ⟨b,1,none⟩ a1).setCell ⟨b,2,none⟩ a2).setCell ⟨b,3,none⟩ a3).heap[b]?=some (.cells #[a0,a1,a2,a3] t (0,0)):=by
 have h0:=zAU (o:=0) h a0
 rw[show (#[x0,x1,x2,x3]:Array Value).setIfInBounds 0 a0=#[a0,x1,x2,x3] from rfl] at h0
 have h1:=zAU (o:=1) h0 a1
 rw[show (#[a0,x1,x2,x3]:Array Value).setIfInBounds 1 a1=#[a0,a1,x2,x3] from rfl] at h1
 have h2:=zAU (o:=2) h1 a2
 rw[show (#[a0,a1,x2,x3]:Array Value).setIfInBounds 2 a2=#[a0,a1,a2,x3] from rfl] at h2
 have h3:=zAU (o:=3) h2 a3
 rw[show (#[a0,a1,a2,x3]:Array Value).setIfInBounds 3 a3=#[a0,a1,a2,a3] from rfl] at h3
 exact h3
theorem zBE {W0 W:World} {B b:Nat} (h:Below B W0 W) (hb:B≤b) (a0 a1 a2 a3:Value) :
  Below B W0 ((((W.setCell ⟨b,0,none⟩ a0).setCell ⟨b,1,none⟩ a1).setCell ⟨b,2,none⟩ a2).setCell ⟨b,3,none⟩ a3):=
 (((h.setCell hb a0).setCell hb a1).setCell hb a2).setCell hb a3
theorem zAd.set4 {n B:Nat} {w:World} {v:Nat→Value} {l:Nat→List Dep} {S:Nat→Prop} (h:zAd n B w v l S) {b:Nat} (hb:b<B) (a0 a1 a2 a3:Value) :
  zAd n B ((((w.setCell ⟨b,0,none⟩ a0).setCell ⟨b,1,none⟩ a1).setCell ⟨b,2,none⟩ a2).setCell ⟨b,3,none⟩ a3) v l S:=
 (((h.at hb (zAr _ _ _ _)).at hb (zAr _ _ _ _)).at hb (zAr _ _ _ _)).at hb (zAr _ _ _ _)
theorem zJf (A B:Option Addr) (n m c d:Nat) (xs ys:List ByteArray) (w:World) (S T:Nat→Prop) (hx:SlV rStr w S xs (.slice A n c)) (hy:SlV rStr w T ys (.slice B m d)) :
  Calls Tryz.prog 75 #[.slice A n c,.slice B m d] w fun e w'=>e=.returned (.bool (eqB xs ys))∧Below w.heap.size w w':=by
 have hnx:=hx.n_eq
 have hny:=hy.n_eq
 have hcx:=hx.cap_le
 unfold maxLen at hcx
 by_cases hnm:n=m
 case neg=>
  have hb:((n:Int) != (m:Int))=true:=by simp;omega
  have He:Hid (eqB xs ys=false):=zAD (by rintro rfl;omega)
  clear hnx hny hcx hx hy hnm
  generalize eqB xs ys=r at *
  go_enter Tryz.func75,Tryz.ntmps75
  go_wp2_with fail
  go_ret
  exact ⟨zAB He.out.symm,bR _ _⟩
 have hb:((n:Int) != (m:Int))=false:=by simp[hnm]
 have hn63:n≤9223372036854775807:=by omega
 have Hx:=cH (hx.more (S':=fun b=>b<w.heap.size) fun b _ h=>h)
 have Hy:=cH (hy.more (S':=fun b=>b<w.heap.size) fun b _ h=>h)
 have Hpos:Hid (xs=ys→eqB xs ys=true):=fun h=>zAF h
 have Hneg:Hid (xs≠ys→eqB xs ys=false):=fun h=>zAD h
 have Hnx:=cH hnx
 have Hny:=cH hny
 have Hnm:=cH hnm
 clear hcx hx hy hnx hny hnm
 generalize eqB xs ys=r at *
 go_enter Tryz.func75,Tryz.ntmps75
 go_wp2_with fail
 go_loopw [13] (fun i wr=>∃ k:Nat,k≤n∧i=.int .i64 k∧Hid (xs.take k=ys.take k)∧Hid (Below w.heap.size w wr)) (fun i _=>n - (intOf i).toNat)
 case atStart=>exact ⟨0,nZ _,rfl,by simp[Hid],bR _ _⟩
 case round=>
  obtain ⟨k,hk,rfl,Heq,HB⟩:=hrel
  by_cases hlt:k<n
  case neg=>
   have hr:=Hpos.out (zBH Heq.out (by have:=Hnx.out;omega) (by have:=Hny.out;have:=Hnm.out;omega))
   subst hr
   have hI:¬(k:Int)<(n:Int):=by omega
   clear Hpos Hneg Heq
   go_wp2_with fail
   go_ret
   exact ⟨rfl,HB.out⟩
  have hkx:k<xs.length:=by have:=Hnx.out;omega
  have hky:k<ys.length:=by have:=Hny.out;have:=Hnm.out;omega
  have hkm:(k:Int)<(m:Int):=by have:=Hnm.out;omega
  have hkn:(k:Int)<(n:Int):=by omega
  have hk0:(0:Int)≤(k:Int):=by omega
  have hxw:=Hx.out.below HB.out (fun b h=>h)
  have hyw:=Hy.out.below HB.out (fun b h=>h)
  obtain ⟨b1,o1,rfl,_,_⟩:=hxw.at (by omega)
  obtain ⟨b2,o2,rfl,_,_⟩:=hyw.at (by omega)
  obtain ⟨c0,_⟩:=hxw.str (gE hkx)
  obtain ⟨d0,_⟩:=hyw.str (gE hky)
  have Hne:=cH (fun h=>ne_at hkx hky h)
  have Hen:=cH (fun h=>zB9 Heq.out hkx hky h)
  clear hxw hyw
  generalize xs[k]=x at *
  generalize ys[k]=y at *
  by_cases he:x=y
  ·have hbe:=zBe he
   have Hn:=cH (Hen.out he)
   clear Hne Hen he
   go_wp2_with fail
   have r_c0:=cR c0
   have r_d0:=cR d0
   go_wp2_with fail
   refine wQ ?_
   repeat (go_big_quiet_step (first|fail))
   refine wpQuiet_nil fun wq Bq=>?_
   have HBq:=cH (bot HB.out Bq)
   clear Bq r_c0 r_d0
   go_wp2_with fail
   go_roundw
   case rel=>exact ⟨k+1,by omega,by go_num,Hn,HBq⟩
   case measure=>simp[intOf];omega
  ·have hbe:=zBD he
   have hr:=Hneg.out (Hne.out he)
   subst hr
   clear Hne Hen he Hpos Hneg
   go_wp2_with fail
   have r_c0:=cR c0
   have r_d0:=cR d0
   go_wp2_with fail
   refine wQ ?_
   repeat (go_big_quiet_step (first|fail))
   refine wpQuiet_nil fun wq Bq=>?_
   have HBq:=cH (bot HB.out Bq)
   clear Bq r_c0 r_d0
   go_wp2_with fail
   go_ret
   exact ⟨rfl,HBq.out⟩
theorem zOF (word h:ByteArray) (p:Value) (hp:∃ a,p=.pointer a) (b bw ow n c:Nat) (w:World) (hn:0<n) (h0:w.cell? ⟨b,0,none⟩=some (.slice (some ⟨bw,ow,none⟩) n c)) (h1:w.cell? ⟨bw,ow,none⟩=some (.string h)) :
  Calls Tryz.prog 94 #[.agg #[.string word,p],.pointer (some ⟨b,0,none⟩)] w fun e w'=>e=.returned (.bool (decide (word.data.toList=h.data.toList)))∧Below w.heap.size w w':=by
 obtain ⟨a,rfl⟩:=hp
 have hnI:(0:Int)<(n:Int):=by omega
 have hb0:=zAE h0
 have hb1:=zAE h1
 by_cases he:word=h
 all_goals
  first
  | have hbe:=zBe he
  | have hbe:=zBD he
  have HR:Hid (decide (word.data.toList=h.data.toList)=(word.toList==h.toList)):=by
   unfold Hid
   rw[Go.ByteArray.toList_eq,Go.ByteArray.toList_eq]
   rw[Bool.eq_iff_iff];simp
  rw[HR.out,hbe]
  clear HR he
  go_enter Tryz.func94,Tryz.ntmps94
  go_wp2_with fail
  obtain ⟨w1,hw1⟩:∃ w1,w1=w.alloc (.cells #[.string word,.pointer a] 154):=⟨_,rfl⟩
  have hr1:w1.heap[w.heap.size]?=some (.cells #[.string word,.pointer a] 154 (0,0)):=by rw[hw1];exact heap_alloc_new w _
  have hbl:Below w.heap.size w w1:=by rw[hw1];exact bal (bR _ _) _
  rw[←hw1]
  obtain ⟨⟨a0,a1⟩,_⟩:=row2 hr1
  have e0:=zAA hbl h0 hb0
  have e1:=zAA hbl h1 hb1
  clear hw1 hr1 h0 h1
  have r_a0:=cR a0
  have r_e0:=cR e0
  have r_e1:=cR e1
  go_wp2_with fail
  refine wQ ?_
  repeat (go_big_quiet_step (first|fail))
  refine wpQuiet_nil fun wq Bq=>?_
  go_wp2_with fail
  go_ret
  exact ⟨rfl,bot hbl Bq⟩
theorem zJk:zEk Tryz.prog 94:=zA9 Tryz.func94 (by kernel_rfl) rfl
theorem zLD {k:Nat} (h:k<4):zAn[k]?=some (pw k):=by
 have:k=0∨k=1∨k=2∨k=3:=by omega
 rcases this with rfl|rfl|rfl|rfl<;>rfl
theorem zI3 (M PB a:Nat) (h:ByteArray) (b bw ow n c:Nat) (w:World) (hn:0<n) (ha:a≤3) (hP:w.heap[PB]?=some (.cells (zDC M) 154 (0,0))) (h0:w.cell? ⟨b,0,none⟩=some (.slice (some ⟨bw,ow,none⟩) n c)) (h1:w.cell? ⟨bw,ow,none⟩=some (.string h)) :
  Calls Tryz.prog 93 #[.slice (some ⟨PB,a * 2,none⟩) (4 - a) (4 - a),.func (.func 94) #[] #[.pointer (some ⟨b,0,none⟩)]] w fun e w'=>e=.returned (.int .i64 (idxI (zAn.drop a) h))∧Below w.heap.size w w':=by
 obtain ⟨N,hN⟩:∃ N,N=4 - a:=⟨_,rfl⟩
 obtain ⟨l,hl⟩:∃ l,l=zAn.drop a:=⟨_,rfl⟩
 have hll:l.length=N:=by rw[hl,List.length_drop,hN];rfl
 have Hat:Hid (∀ k,k<N→∀ (hk:k<l.length),l[k]=pw (a+k)∧∀ W:World,Below w.heap.size w W→W.cell? ⟨PB,a * 2+k * 2,none⟩=some (.string (pw (a+k)))∧W.cell? ⟨PB,a * 2+k * 2+1,none⟩=some (.pointer (some ⟨M,a+k,none⟩))):=fun k hk hkl=>by
  have h4:a+k<4:=by omega
  refine ⟨?_,fun W hW=>?_⟩
  ·have:=zLD h4
   have h2:(zAn.drop a)[k]?=some (pw (a+k)):=by rw[List.getElem?_drop];exact this
   rw[←hl,gE hkl] at h2
   exact Option.some.inj h2
  ·obtain ⟨q0,q1⟩:=zEE (M:=M) h4
   have hPW:=(hW.block _ (aS.1 hP).1).trans hP
   refine ⟨?_,?_⟩
   ·rw[show a * 2+k * 2=(a+k) * 2 by omega];exact (cO _ _ _ _ _ _ hPW).trans q0
   ·rw[show a * 2+k * 2+1=(a+k) * 2+1 by omega];exact (cO _ _ _ _ _ _ hPW).trans q1
 have HC:Hid (∀ W word p,Below w.heap.size w W→(∃ a,p=.pointer a)→Calls Tryz.prog 94 #[.agg #[.string word,p],.pointer (some ⟨b,0,none⟩)] W fun e w'=>e=.returned (.bool (decide (word.data.toList=h.data.toList)))∧Below W.heap.size W w'):=fun W word p hW hp=>
  zOF word h p hp b bw ow n c W hn (zAA hW h0 (zAE h0)) (zAA hW h1 (zAE h1))
 obtain ⟨R,hR⟩:∃ R,R=idxI l h:=⟨_,rfl⟩
 have HR0:Hid (∀ k,idxGo l h=(idxGo (l.drop k) h).map (·+k)→∀ q,idxGo (l.drop k) h=q→R=match q with|none=>(-1:Int)|some j=>((j+k:Nat):Int)):=by
  intro k hk q hq
  rw[hR]
  unfold idxI
  rw[hk,hq]
  cases q<;>rfl
 rw[←hl,←hR,←hN]
 have Hll:=cH hll
 have hN4:N≤4:=by omega
 clear hl hR hN hP h0 h1 hll
 have hent:=fun args W=>zJk args W
 go_enter Tryz.func93,Tryz.ntmps93
 go_wp2_with fail
 go_loopw [8] (fun i wr=>∃ k:Nat,k≤N∧i=.int .i64 k∧Hid (idxGo l h=(idxGo (l.drop k) h).map (·+k))∧Hid (Below w.heap.size w wr)) (fun i _=>N - (intOf i).toNat)
 case atStart=>exact ⟨0,nZ _,rfl,by unfold Hid;simp,bR _ _⟩
 case round=>
  obtain ⟨k,hk,rfl,Hidx,HB⟩:=hrel
  by_cases hlt:k<N
  case neg=>
   have hr:=HR0.out k Hidx.out none (by rw[dN (by have:=Hll.out;omega)];rfl)
   simp only at hr
   subst hr
   have hI:¬(k:Int)<(N:Int):=by omega
   clear HR0 Hidx
   go_wp2_with fail
   go_ret
   exact ⟨rfl,HB.out⟩
  have hkx:k<l.length:=by have:=Hll.out;omega
  obtain ⟨hlk,hcs⟩:=Hat.out k hlt hkx
  obtain ⟨e0,e1⟩:=hcs wr HB.out
  have hkn:(k:Int)<(N:Int):=by omega
  have hk0:(0:Int)≤(k:Int):=by omega
  have Hhit:=cH (fun e=>zKd (x:=h) hkx e)
  have Hmiss:=cH (fun e=>zIr (x:=h) hkx e)
  rw[hlk] at Hhit Hmiss
  have Hcall:=cH (HC.out wr (pw (a+k)) (.pointer (some ⟨M,a+k,none⟩)) HB.out ⟨_,rfl⟩)
  have Hr:=cH (fun q hq=>HR0.out k Hidx.out q hq)
  generalize pw (a+k)=word at *
  clear hlk hcs HR0
  by_cases he:word=h
  ·have hr:=Hr.out (some 0) (Hhit.out he)
   simp only[Nat.zero_add] at hr
   subst hr
   have hd:decide (word.data.toList=h.data.toList)=true:=by rw[he];simp
   rw[hd] at Hcall
   clear Hr Hhit Hmiss Hidx hd he
   go_wp2_with fail
   refine Hcall.out.mono ?_
   rintro e w1 ⟨rfl,hb1⟩
   go_wp2_with fail
   go_ret
   exact ⟨rfl,bot HB.out hb1⟩
  ·have hnx:=Hmiss.out he
   have Hnext:Hid (idxGo l h=(idxGo (l.drop (k+1)) h).map (·+(k+1))):=by
    unfold Hid
    rw[Hidx.out,hnx,Option.map_map]
    congr 1
    funext j
    simp;omega
   have hd:decide (word.data.toList=h.data.toList)=false:=decide_eq_false (fun e=>he (zAt e))
   rw[hd] at Hcall
   clear Hr Hhit Hmiss Hidx hd he hnx
   go_wp2_with fail
   refine Hcall.out.mono ?_
   rintro e w1 ⟨rfl,hb1⟩
   have HB2:=cH (bot HB.out hb1)
   clear hb1
   go_wp2_with fail
   go_roundw
   case rel=>exact ⟨k+1,by omega,by go_num,Hnext,HB2⟩
   case measure=>simp[intOf];omega
theorem zH7 (t:ByteArray) (w:World) (hv:Vok w) (ht:t.size≤4611686018427387904) :
  Calls Tryz.prog 38 #[.string t] w fun e w'=>∃ u,e=.returned (.tuple #[u,.int .i64 (maniQ t).2])∧ManiO w' w.heap.size (maniQ t).1 u∧Below w.heap.size w w':=by
 obtain ⟨L,en,hQ⟩:∃ L en,scanQ 4096 t=(L,en):=⟨_,_,rfl⟩
 have hbd:=zE3 (most:=4096) (t:=t)
 rw[hQ] at hbd
 obtain ⟨hL1,hL2⟩:=hbd
 simp only at hL1 hL2
 have Hsc:Hid (∀ W,Calls Tryz.prog 91 #[.string t,.int .i64 4096] W fun e w'=>∃ v,(∃ k:Int,e=.returned (.tuple #[v,.int .i64 en,.int .i64 k]))∧SlV (zAL rStr) w' (fun b=>W.heap.size≤b) L v∧Below W.heap.size W w'):=fun W=>by
  have:=zCf t 4096 W (by decide) ht
  rw[hQ] at this
  exact this
 have K0:Hid (en≠0→maniQ t=(maniZ,en)):=fun h=>zPK hQ h
 have K1:Hid (en=0→(∀ r,L≠[zA5]::r)→maniQ t=(maniZ,22)):=fun h h2=>zOw (by rw[←h];exact hQ) h2
 have K2:=cH (fun (h:en=0) rest (hl:L=[zA5]::rest)=>zN2 (t:=t) (rest:=rest) (by rw[←h,←hl];exact hQ))
 have Hv:=cH hv
 have HL1:=cH hL1
 have HL2:=cH hL2
 clear hv hL1 hL2 hQ
 generalize maniQ t=R at *
 go_enter Tryz.func38,Tryz.ntmps38
 go_wp2_with fail
 obtain ⟨w0,hw0⟩:∃ w0,w0=w.alloc (.cells #[.slice none 0 0,.slice none 0 0,.slice none 0 0,.slice none 0 0] 24):=⟨_,rfl⟩
 have hr0:w0.heap[w.heap.size]?=some (.cells #[.slice none 0 0,.slice none 0 0,.slice none 0 0,.slice none 0 0] 24 (0,0)):=by rw[hw0];exact heap_alloc_new w _
 have HB0:Hid (Below w.heap.size w w0):=by unfold Hid;rw[hw0];exact bal (bR _ _) _
 have hz0:w.heap.size<w0.heap.size:=(aS.1 hr0).1
 rw[←hw0]
 clear hw0
 have Hr0:=cH hr0
 have Hz0:=cH hz0
 clear hr0 hz0
 refine (Hsc.out w0).mono ?_
 rintro e w1 ⟨vL,⟨kk,rfl⟩,hL,hb1⟩
 have Hr1:=cH ((hb1.block _ Hz0.out).trans Hr0.out)
 have HB1:=cH (bot HB0.out hb1)
 have hz1:w.heap.size<w1.heap.size:=lL Hz0.out hb1.size
 have hL':=hL.more (S':=fun b=>b<w1.heap.size) fun b _ h=>h
 obtain ⟨AL,cL,rfl,hcl,hcm⟩:=hL'.val
 obtain ⟨n,hn⟩:∃ n,n=L.length:=⟨_,rfl⟩
 have hcl2:n≤cL:=by rw[hn];exact hcl
 unfold maxLen at hcm
 have hn7:n≤4097:=by rw[hn];exact HL1.out
 rw[←hn] at hL' ⊢
 clear hL hb1 HB0 Hr0 Hz0 Hsc hcl
 have HL:=cH hL'
 have Hn:=cH hn
 clear hL' hn
 by_cases he:en=0
 case neg=>
  have hbe:(en != 0)=true:=by simpa using he
  have hq:=K0.out he
  subst hq
  obtain ⟨⟨a0,a1,a2,a3⟩,f0,f1,f2,f3⟩:=row4 Hr1.out
  clear he K0 K1 K2
  go_wp2_with fail
  refine zAC rfl rfl rfl rfl (zBV Hr1.out _ _ _ _) Tryz.underlying24 rfl (by kernel_rfl) ⟨_,rfl,ManiO.zero _ _,zBE HB1.out (nR _) _ _ _ _⟩
 have K1':=cH (K1.out he)
 have K2':=cH (K2.out he)
 clear K0 K1 K2
 subst he
 cases L with
 | nil=>
   have hq:=K1'.out (by intro r e;cases e)
   subst hq
   have hn0:n=0:=Hn.out
   subst hn0
   obtain ⟨⟨a0,a1,a2,a3⟩,f0,f1,f2,f3⟩:=row4 Hr1.out
   clear K1' K2'
   go_wp2_with fail
   refine zAC rfl rfl rfl rfl (zBV Hr1.out _ _ _ _) Tryz.underlying24 rfl (by kernel_rfl) ⟨_,rfl,ManiO.zero _ _,zBE HB1.out (nR _) _ _ _ _⟩
 | cons ws0 rest=>
 have hnr:n=rest.length+1:=Hn.out
 obtain ⟨b0,o0,rfl,_,hb0⟩:=HL.out.at (by simp)
 obtain ⟨A0,cc0,c0,hs0⟩:=HL.out.row (i:=0) (x:=ws0) rfl
 rw[Nat.add_zero] at c0
 obtain ⟨m,hm⟩:∃ m,m=ws0.length:=⟨_,rfl⟩
 rw[←hm] at c0 hs0
 have Hs0:=cH hs0
 have hn0:((n:Int)==0)=false:=by rw[beq_eq_false_iff_ne];omega
 have hn1:0<n:=by omega
 have hnI:(0:Int)<(n:Int):=by omega
 have HEq:Hid (∀ W A2 c2 T,Below w1.heap.size w1 W→SlV rStr W T [zA5] (.slice A2 1 c2)→Calls Tryz.prog 75 #[.slice A0 m cc0,.slice A2 1 c2] W fun e w'=>e=.returned (.bool (eqB ws0 [zA5]))∧Below W.heap.size W w'):=fun W A2 c2 T hW hT=>
  zJf A0 A2 m 1 cc0 c2 ws0 [zA5] W _ T (Hs0.out.belowSize hW) hT
 have HLr:=cH (HL.out.cut 1 hn1)
 rw[List.drop_one,List.tail_cons] at HLr
 have Hb0:=cH hb0
 have Hnr:=cH hnr
 clear hs0 hm HL Hn hb0 hnr Hs0
 go_wp2_with fail
 obtain ⟨w2,hw2⟩:∃ w2,w2=w1.alloc (.cells #[.string ⟨#[112,114,111,106,101,99,116]⟩] 9):=⟨_,rfl⟩
 have hrp:w2.heap[w1.heap.size]?=some (.cells #[.string ⟨#[112,114,111,106,101,99,116]⟩] 9 (0,0)):=by rw[hw2];exact heap_alloc_new w1 _
 have HB2:Hid (Below w1.heap.size w1 w2):=by unfold Hid;rw[hw2];exact bal (bR _ _) _
 have Hso:Hid (SlV rStr w2 (fun _=>True) [zA5] (.slice (some ⟨w1.heap.size,0,none⟩) 1 1)):=SlV.of_block hrp (zQI (l:=[zA5]) (by decide)) trivial rfl (by decide) (by decide)
 rw[←hw2]
 clear hw2 hrp
 refine (HEq.out w2 _ _ _ HB2.out Hso.out).mono ?_
 rintro e w3 ⟨rfl,hb3⟩
 have HB3:=cH (bot HB2.out hb3)
 have Hr3:=cH ((HB3.out.block _ hz1).trans Hr1.out)
 clear hb3 HB2 HEq Hso
 by_cases hpj:ws0=[zA5]
 case neg=>
  have hq:=K1'.out (by intro r e;cases e;exact hpj rfl)
  subst hq
  rw[zAD hpj]
  obtain ⟨⟨a0,a1,a2,a3⟩,f0,f1,f2,f3⟩:=row4 Hr3.out
  clear K1' K2' hpj
  go_wp2_with fail
  refine zAC rfl rfl rfl rfl (zBV Hr3.out _ _ _ _) Tryz.underlying24 rfl (by kernel_rfl) ⟨_,rfl,ManiO.zero _ _,zBE (bot HB1.out HB3.out) (nR _) _ _ _ _⟩
 subst hpj
 rw[zAF rfl]
 obtain ⟨K2e,K2l⟩:=K2'.out rest rfl
 have K2e':=cH K2e
 have K2l':=cH K2l
 clear K1' K2' K2e K2l c0
 go_wp2_with fail
 obtain ⟨w4,hw4⟩:∃ w4,w4=w3.alloc (.cells #[.slice none 0 0,.slice none 0 0,.slice none 0 0,.slice none 0 0] 24):=⟨_,rfl⟩
 have HP4:Hid (zAs w3.heap.size [] 24 4 w4 (fun _=>.slice none 0 0)):=by unfold Hid;rw[hw4];exact heap_alloc_new w3 _
 have HB34:Hid (Below w3.heap.size w3 w4):=by unfold Hid;rw[hw4];exact bal (bR _ _) _
 have hz4:w3.heap.size<w4.heap.size:=HP4.out.lt
 rw[←hw4]
 clear hw4
 refine (zLF w3.heap.size w4).mono ?_
 rintro e w5 ⟨rfl,hb5,hp5⟩
 obtain ⟨M,hM⟩:∃ M,M=w3.heap.size:=⟨_,rfl⟩
 obtain ⟨PB,hPB⟩:∃ PB,PB=w4.heap.size:=⟨_,rfl⟩
 have HP5:=cH (HP4.out.keep hb5)
 have HB35:=cH (bot HB34.out hb5)
 have HB5:=cH (bot HB3.out HB35.out)
 have hz13:w1.heap.size≤w3.heap.size:=HB3.out.size
 have Hr5:=cH ((HB5.out.block _ hz1).trans Hr1.out)
 have hPl:w4.heap.size<w5.heap.size:=(aS.1 hp5).1
 rw[←hM] at HP5 hp5 hz4 hz13 ⊢
 rw[←hPB] at hp5 hz4 hPl ⊢
 have Hp5:=cH hp5
 have hM5:M<w5.heap.size:=by omega
 have hne1:PB≠M:=by omega
 clear hb5 hp5 HP4 HB34 HB35 HB3 Hr3 Hr1 hM hPB
 have hsl:∀ W,(Instr.slice 145 (.slice (some ⟨b0,o0,none⟩) n cL) (some (.int .i64 1)) none none).run Tryz.prog W=.ok (.slice (if cL=1 then some (⟨b0,o0,none⟩:Addr) else Option.map (fun x:Addr=>x.add (1 * 1)) (some (⟨b0,o0,none⟩:Addr))) (n - 1) (cL - 1)) W:=fun W=>
  zDc (P:=Tryz.prog) (t:=145) (e:=53) (z:=1) Tryz.underlying145 (by kernel_rfl) (fun _=>by kernel_rfl) (some ⟨b0,o0,none⟩) n cL 1 hn1 W
 obtain ⟨X,hX⟩:∃ X,X=(if cL=1 then some (⟨b0,o0,none⟩:Addr) else Option.map (fun x:Addr=>x.add (1 * 1)) (some (⟨b0,o0,none⟩:Addr))):=⟨_,rfl⟩
 have HLq:Hid (SlV (zAL rStr) w1 (fun b=>b<w1.heap.size) rest (.slice X (n - 1) (cL - 1))):=by unfold Hid;rw[hX];exact HLr.out
 rw[←hX] at hsl
 obtain ⟨ln,hln⟩:∃ ln,ln=n - 1:=⟨_,rfl⟩
 rw[←hln] at hsl HLq
 have Hln:Hid (rest.length=ln):=by have:=Hnr.out;unfold Hid;omega
 have hln7:ln≤4097:=by omega
 clear hX hln HLr
 have hsl2:∀ a q:Nat,a+q≤3→∀ W,(Instr.slice 148 (.slice (some ⟨PB,a * 2,none⟩) (4 - a) (4 - a)) (some (.int .i64 (q:Int))) none none).run Tryz.prog W=.ok (.slice (some ⟨PB,(a+q) * 2,none⟩) (4 - (a+q)) (4 - (a+q))) W:=fun a q ha W=>by
  have:=zDc (P:=Tryz.prog) (t:=148) (e:=154) (z:=2) Tryz.underlying148 (by kernel_rfl) (fun _=>by kernel_rfl) (some ⟨PB,a * 2,none⟩) (4 - a) (4 - a) q (by omega) W
  rw[if_neg (by omega),Option.map_some,zCN] at this
  rw[this,show a * 2+q * 2=(a+q) * 2 by omega,show 4 - a - q=4 - (a+q) by omega]
 have Hsl2:=cH hsl2
 clear hsl2
 go_wp2_with fail
 go_loopw [8,41] (fun x i wr=>∃ (k aN:Nat) (v:Nat→Value) (l:Nat→List Dep) (S:Nat→Prop),k≤ln∧aN≤3∧x=.slice (some ⟨PB,aN * 2,none⟩) (4 - aN) (4 - aN)∧i=.int .i64 k∧Hid (listsE zAn rest (0,rm 4 fun _=>[])=listsE zAn (rest.drop k) (aN,rm 4 l))∧Hid (∀ j,j<4→(l j).length≤k)∧Hid (zAd 4 w5.heap.size wr v l S)∧Hid (zAs M [] 24 4 wr v)∧Hid (Turn (fun j=>j=M) w5 wr)) (fun _ i _=>ln - (intOf i).toNat)
 case atStart=>exact ⟨0,0,_,_,_,nZ _,by decide,rfl,rfl,rfl,fun _ _=>nR _,zAd.nil 4 _ _,HP5,Turn.refl _ _⟩
 case round=>
  clear HP5
  obtain ⟨k,aN,v,l,S,hk,ha3,rfl,rfl,Hm,Hlen,HPi,HPa,HT⟩:=hrel
  have HBr:Hid (Below w1.heap.size w1 wr):=HB5.out.trans (HT.out.below (by omega) (fun q hq=>by rw[hq];omega))
  have hzr:w5.heap.size≤wr.heap.size:=HT.out.size
  have hk0:(0:Int)≤(k:Int):=by omega
  by_cases hlt:k<ln
  case neg=>
   obtain rfl:k=ln:=by omega
   have hI:¬(k:Int)<(k:Int):=by omega
   have hm:=Hm.out
   rw[dN (by have:=Hln.out;omega),listsE] at hm
   obtain ⟨Kf,Kt⟩:=K2l'.out l hm
   have Kf':=cH Kf
   have Kt':=cH Kt
   have HO:Hid (ManiO wr w5.heap.size ⟨l 0,l 1,l 2,l 3⟩ (.agg #[v 0,v 1,v 2,v 3])):=⟨v,l,S,rfl,HPi.out,rfl,rfl,rfl,rfl⟩
   have HM:=cH (zHg _ _ wr _ (zAG Hv.out.tab (bot HB1.out HBr.out)) HO.out.maniV)
   have p0:wr.cell? ⟨M,0,none⟩=some (v 0):=cO _ _ 0 _ _ _ HPa.out
   have p1:wr.cell? ⟨M,1,none⟩=some (v 1):=cO _ _ 1 _ _ _ HPa.out
   have p2:wr.cell? ⟨M,2,none⟩=some (v 2):=cO _ _ 2 _ _ _ HPa.out
   have p3:wr.cell? ⟨M,3,none⟩=some (v 3):=cO _ _ 3 _ _ _ HPa.out
   obtain ⟨E0,e0,hv0,_,_⟩:=(HPi.out.1 0 (by decide)).slv.val
   obtain ⟨E1,e1,hv1,_,_⟩:=(HPi.out.1 1 (by decide)).slv.val
   obtain ⟨E2,e2,hv2,_,_⟩:=(HPi.out.1 2 (by decide)).slv.val
   obtain ⟨E3,e3,hv3,_,_⟩:=(HPi.out.1 3 (by decide)).slv.val
   have Hve:Hid (Value.agg (zCT [] 4 v)=.agg #[.slice E0 (l 0).length e0,.slice E1 (l 1).length e1,.slice E2 (l 2).length e2,.slice E3 (l 3).length e3]):=by
    unfold Hid
    rw[show zCT [] 4 v=#[v 0,v 1,v 2,v 3] from rfl,hv0,hv1,hv2,hv3]
   rw[hv0] at p0 HM
   rw[hv1] at p1 HM
   rw[hv2] at p2 HM
   rw[hv3] at p3 HM
   clear hv0 hv1 hv2 hv3
   generalize (l 0).length=m0 at *
   generalize (l 1).length=m1 at *
   generalize (l 2).length=m2 at *
   generalize (l 3).length=m3 at *
   have hr9:=HT.out.at Hr5.out (by omega)
   have Hr9:=cH hr9
   clear hm Kf Kt K2l' K2e' Hm HLq HO hr9 Hsl2 hsl
   generalize maniB ⟨l 0,l 1,l 2,l 3⟩=okB at *
   go_wp2_with fail
   refine HM.out.mono ?_
   rintro e w9 ⟨rfl,hb9⟩
   have HB9:=cH (bot (bot HB1.out HBr.out) hb9)
   have hr9:=(hb9.block _ (by omega)).trans Hr9.out
   obtain ⟨⟨a0,a1,a2,a3⟩,f0,f1,f2,f3⟩:=row4 hr9
   have Hr99:=cH hr9
   have hbP:M<wr.heap.size:=by omega
   have p0:=zAA hb9 p0 hbP
   have p1:=zAA hb9 p1 hbP
   have p2:=zAA hb9 p2 hbP
   have p3:=zAA hb9 p3 hbP
   have HPi9:=cH (HPi.out.keep hb9)
   clear hb9 hr9 Hr9 HM HPa HPi HT HBr
   cases okB with
   | false=>
     have hq:=Kf'.out (by first|rfl|trivial)
     subst hq
     clear Kf' Kt'
     go_wp2_with fail
     refine zAC rfl rfl rfl rfl (zBV Hr99.out _ _ _ _) Tryz.underlying24 rfl (by kernel_rfl) ⟨_,rfl,ManiO.zero _ _,zBE HB9.out (nR _) _ _ _ _⟩
   | true=>
     have hq:=Kt'.out (by first|rfl|trivial)
     subst hq
     clear Kf' Kt'
     go_wp2_with fail
     refine zAC rfl rfl rfl rfl (zBV Hr99.out _ _ _ _) Tryz.underlying24 rfl (by kernel_rfl) ⟨_,rfl,?_,zBE HB9.out (nR _) _ _ _ _⟩
     exact ManiO.lower ⟨v,l,S,Hve.out.symm,HPi9.out.set4 (by omega) _ _ _ _,rfl,rfl,rfl,rfl⟩ (by omega)
  have hkI:(k:Int)<(ln:Int):=by omega
  have hkx:k<rest.length:=by have:=Hln.out;omega
  have HLw:=cH (HLq.out.below HBr.out (fun b hb=>hb))
  obtain ⟨bx,ox,rfl,_,hbx⟩:=HLw.out.at (by omega)
  obtain ⟨Aw,cw,cx,hsw⟩:=HLw.out.row (i:=k) (gE hkx)
  obtain ⟨hne,hwl,hwj⟩:=HL2.out rest[k] (by simp[List.getElem_mem])
  have Hat:=cH (fun st=>zNK (order:=zAn) (st:=st) (gE hkx))
  generalize rest[k]=ws at *
  cases ws with
  | nil=>exact absurd rfl hne
  | cons h tl=>
  obtain ⟨nw,hnw⟩:∃ nw,nw=(h::tl).length:=⟨_,rfl⟩
  rw[←hnw] at cx hsw
  have hnw0:nw=tl.length+1:=hnw
  have Hnw:=cH hnw0
  have hsw':=hsw.more (S':=fun b=>b<w1.heap.size) fun b hb _=>hb
  obtain ⟨bw,ow,rfl,hbw1,hbw⟩:=hsw'.at (by simp)
  obtain ⟨ch,hhz⟩:=hsw.str (i:=0) (x:=h) rfl
  rw[Nat.add_zero] at ch
  have Hsw:=cH hsw
  have Hne:=cH hne
  have Hwj:=cH hwj
  have Hwl:=cH hwl
  have ha0:(0:Int)≤(aN:Int):=by omega
  have hcwn:=hsw.cap_le
  have htl:0<nw:=by omega
  clear hne hwj hwl hsw hsw' hbx hhz HLw hnw hnw0
  go_upto_region 11 with (fail)
  obtain ⟨w6,hw6⟩:∃ w6,w6=wr.alloc (.cells #[.slice (some ⟨bw,ow,none⟩) nw cw] 53):=⟨_,rfl⟩
  have hr6:w6.heap[wr.heap.size]?=some (.cells #[.slice (some ⟨bw,ow,none⟩) nw cw] 53 (0,0)):=by rw[hw6];exact heap_alloc_new wr _
  have hb6:Below wr.heap.size wr w6:=by rw[hw6];exact bal (bR _ _) _
  rw[←hw6]
  obtain ⟨bq,hbq⟩:∃ bq,bq=wr.heap.size:=⟨_,rfl⟩
  have hbq6:wr.heap.size<w6.heap.size:=(aS.1 hr6).1
  have g6:w6.cell? ⟨wr.heap.size,0,none⟩=some (.slice (some ⟨bw,ow,none⟩) nw cw):=cO _ _ 0 _ _ _ hr6
  have ch6:=zAA hb6 ch hbw
  rw[←hbq] at g6 hbq6 ⊢
  have Hbq:=cH hbq
  clear hbq
  have HFi:=cH (zI3 M PB aN h bq bw ow nw cw w6 htl ha3 ((hb6.block _ (by omega)).trans (HT.out.at Hp5.out hne1)) g6 ch6)
  have Hb6:=cH hb6
  clear hw6 hr6 hb6 cx ch
  cases hI:idxGo (zAn.drop aN) h with
  | none=>
    have hq:=K2e'.out 22 (by rw[Hm.out,Hat.out];exact zIR hI)
    subst hq
    rw[zK8 hI] at HFi
    clear hI K2e' K2l' Hm Hat
    go_wp2_with fail
    refine HFi.out.mono ?_
    rintro e w7 ⟨rfl,hb7⟩
    have Bo:=bot Hb6.out hb7
    have hra:=(Bo.block _ (by omega)).trans (HT.out.at Hr5.out (by omega))
    obtain ⟨⟨a0,a1,a2,a3⟩,f0,f1,f2,f3⟩:=row4 hra
    have Hra:=cH hra
    have HBa:=cH (bot (bot HB1.out HBr.out) Bo)
    clear hra Bo hb7 g6 ch6 HFi
    go_wp2_with fail
    refine zAC rfl rfl rfl rfl (zBV Hra.out _ _ _ _) Tryz.underlying24 rfl (by kernel_rfl) ⟨_,rfl,ManiO.zero _ _,zBE HBa.out (nR _) _ _ _ _⟩
  | some q=>
  rw[zJ7 hI] at HFi
  have hq3:aN+q<4:=by
   have h1:=zMm hI
   rw[List.length_drop] at h1
   have h3:zAn.length=4:=rfl
   omega
  have Hok:=cH (fun d (hd:depE (zAY (l (aN+q))) (h::tl)=.ok d)=>(Hm.out.trans (Hat.out _)).trans (zMv (n:=4) (l:=l) (ws:=rest.drop (k+1)) (w:=h::tl) hI hq3 hd))
  have Herr:=cH (fun e (hd:depE (zAY (l (aN+q))) (h::tl)=.error e)=>(Hm.out.trans (Hat.out _)).trans (zKM (n:=4) (l:=l) (ws:=rest.drop (k+1)) (w:=h::tl) hI hq3 hd))
  have hs2:=Hsl2.out aN q (by omega)
  obtain ⟨j,hj⟩:∃ j,j=aN+q:=⟨_,rfl⟩
  rw[←hj] at hq3 Hok Herr hs2
  have hqn:¬(q:Int)<0:=by omega
  have hq0:(0:Int)≤(q:Int):=by omega
  have hj4:(0:Int)<((4 - j:Nat):Int):=by omega
  have hj41:0<4 - j:=by omega
  clear hI Hm Hat hj
  go_wp2_with fail
  refine HFi.out.mono ?_
  rintro e w7 ⟨rfl,hb7⟩
  have Hb7:=cH (bot Hb6.out hb7)
  have g7:=zAA hb7 g6 hbq6
  have ch7:=zAA hb7 ch6 (zAE ch6)
  have hbq7:=lL hbq6 hb7.size
  clear hb7 g6 ch6 HFi Hb6 hbq6
  have HT7:=cH (HT.out.trans (Turn.of_below Hb7.out))
  have HB7:=cH (bot HBr.out Hb7.out)
  by_cases hsh:nw<3
  ·have hq:=K2e'.out 22 (Herr.out 22 (zIp (by have:=Hnw.out;simp;omega)))
   subst hq
   have hshI:(nw:Int)<3:=by omega
   have hra:=HT7.out.at Hr5.out (by omega)
   obtain ⟨⟨a0,a1,a2,a3⟩,f0,f1,f2,f3⟩:=row4 hra
   have Hra:=cH hra
   have HBa:=cH (bot HB1.out HB7.out)
   clear hra Hok Herr K2e' K2l'
   go_wp2_with fail
   refine zAC rfl rfl rfl rfl (zBV Hra.out _ _ _ _) Tryz.underlying24 rfl (by kernel_rfl) ⟨_,rfl,ManiO.zero _ _,zBE HBa.out (nR _) _ _ _ _⟩
  obtain ⟨nm,r,rest2,rfl⟩:∃ nm r rest2,tl=nm::r::rest2:=by
   have:=Hnw.out
   match tl,this with
   | [],h=>simp at h;omega
   | [_],h=>simp at h;omega
   | nm::r::rest2,_=>exact ⟨nm,r,rest2,rfl⟩
  have hnwl:nw=rest2.length+3:=Hnw.out
  have hsw7:=Hsw.out.belowSize Hb7.out
  obtain ⟨e1,hnz⟩:=hsw7.str (i:=1) (x:=nm) rfl
  have hjc:∀ (i:Nat) x,(r::rest2)[i]?=some x→w7.cell? ⟨bw,(ow+2)+i,none⟩=some (.string x):=fun i x hx'=>by
   have:=(hsw7.str (i:=i+2) (x:=x) (by show (r::rest2)[i]?=_;exact hx')).1
   rw[show ow+2+i=ow+(i+2) from by omega]
   exact this
  have hbw7:bw<w7.heap.size:=zAE ch7
  have hjz:(joinS (r::rest2)).size≤4096:=nT (nT (zBv nm _) (zBv h _)) Hwj.out
  have hrl:(r::rest2).length=nw - 2:=by rw[hnwl];simp
  have hwl9:=Hwl.out
  have hnw9:nw≤4097:=by rw[hnwl];simp at hwl9;omega
  have hcw9:=hcwn.1
  have hcw8:nw≤cw:=by simp only[List.length_cons] at hcw9;omega
  have HJ:Hid (∀ W,Below w7.heap.size w7 W→Calls Tryz.prog 96 #[.slice (some ⟨bw,ow+2,none⟩) (nw - 2) (cw - 2),.string ⟨#[32]⟩] W fun e w'=>e=.returned (.string (joinS (r::rest2)))∧Below W.heap.size W w'):=fun W hW=>by
   have:=Tryz.strings_Join bw (ow+2) (cw - 2) (r::rest2) ⟨#[32]⟩ W (fun i x hx'=>zAA hW (hjc i x hx') hbw7) (lL hbw7 hW.size) (by rw[hrl];omega) (by rw[hrl];omega) (by
    have h1:=hjz
    rw[zAJ] at h1
    exact nT h1 (by decide))
   rw[hrl] at this
   exact this
  obtain ⟨pl,pe,hpq⟩:∃ pl pe,zBM (joinS (r::rest2))=(pl,pe):=⟨_,_,rfl⟩
  have HPs:Hid (∀ W,Below w7.heap.size w7 W→Calls Tryz.prog 95 #[.string (joinS (r::rest2))] W fun e w'=>∃ v,e=.returned (.tuple #[v,.int .i64 pe])∧Own rSpn w' W.heap.size 227 v pl (fun _=>False)∧Below W.heap.size W w'):=fun W hW=>by
   have:=zEm (joinS (r::rest2)) W (Hv.out.below (bot HB1.out (bot HB7.out hW))) (by omega)
   rw[hpq] at this
   exact this
  have HN:Hid (∀ W,Calls Tryz.prog 61 #[.string nm] W fun e w'=>e=.returned (.bool (nameB nm))∧Below W.heap.size W w'):=fun W=>zA2 nm hnz W
  have HPia:=cH (HPi.out.keep Hb7.out)
  have HPaa:=cH (HPa.out.keep Hb7.out)
  have hva:=(HPia.out.1 j hq3).slv
  obtain ⟨Ad,cd,hvj,hcd1,hcd2⟩:=hva.val
  rw[hvj] at hva
  have hp4:w7.cell? ⟨M,j,none⟩=some (v j):=by have:=HPaa.out.cell hq3;simpa using this
  rw[hvj] at hp4
  have hpt:=(cO _ _ (j * 2+1) _ _ _ (HT7.out.at Hp5.out hne1)).trans (zEE (M:=M) hq3).2
  have hlj:=Hlen.out j hq3
  obtain ⟨nd,hnd⟩:∃ nd,nd=(l j).length:=⟨_,rfl⟩
  rw[←hnd] at hvj hp4 hva hlj hcd1
  have Hnd:=cH hnd
  have Hvj:=cH hvj
  have Hbad:Hid ((nameB nm&&behind (zAY (l j)) nm)=false→R=(maniZ,23)):=fun hh=>K2e'.out 23 (Herr.out 23 (zJe hh))
  have Hno:Hid ((nameB nm&&behind (zAY (l j)) nm)=true→(pe≠0∨pl=[])→R=(maniZ,21)):=fun hh h2=>K2e'.out 21 (Herr.out 21 (zQk hh (by rw[hpq];exact h2)))
  have Hgo:Hid ((nameB nm&&behind (zAY (l j)) nm)=true→pe=0→pl≠[]→listsE zAn rest (0,rm 4 fun _=>[])=listsE zAn (rest.drop (k+1)) (j,rm 4 fun i=>if i=j then l j++[⟨nm,pl⟩] else l i)):=fun hh h2 h3=>by
   have:=zQS (prev:=zAY (l j)) (a:=h) (nm:=nm) (r:=r) (rest:=rest2) hh (by rw[hpq];exact h2) (by rw[hpq];exact h3)
   rw[hpq] at this
   exact Hok.out _ this
  have hcase:(nameB nm=false∧R=(maniZ,23))∨(nameB nm=true∧nd=0∧behind (zAY (l j)) nm=true) ∨
    (nameB nm=true∧∃ q:Nat,∃ bd od pn,nd=q+1∧Ad=some ⟨bd,od,none⟩∧bd<w7.heap.size∧w7.cell? ⟨bd,od+q * 2,none⟩=some (.string pn)∧behind (zAY (l j)) nm=Op.bytesLess pn.toList nm.toList):=by
   cases h1:nameB nm
   ·exact .inl ⟨rfl,Hbad.out (by rw[h1];rfl)⟩
   ·by_cases h2:nd=0
    ·refine .inr (.inl ⟨rfl,h2,?_⟩)
     rw[List.eq_nil_of_length_eq_zero (by omega:(l j).length=0)];rfl
    ·refine .inr (.inr ⟨rfl,nd - 1,?_⟩)
     have hql:nd - 1<(l j).length:=by omega
     obtain ⟨b',o',cs',hA',_,hbl',⟨s1,rfl,hnm',_⟩,hcell'⟩:=hva.elem (i:=nd - 1) (gE hql)
     have e0:=hcell' 0 _ rfl
     simp only[rDep,Nat.add_zero] at e0
     exact ⟨b',o',_,by omega,hA',hbl',e0,by rw[zMi (k:=nd - 1) (by omega)];rfl⟩
  have hsl3:∀ W,(Instr.slice 53 (.slice (some ⟨bw,ow,none⟩) nw cw) (some (.int .i64 2)) none none).run Tryz.prog W=.ok (.slice (some ⟨bw,ow+2,none⟩) (nw - 2) (cw - 2)) W:=fun W=>by
   have:=zDc (P:=Tryz.prog) (t:=53) (e:=9) (z:=1) Tryz.underlying53 (by kernel_rfl) (fun _=>by kernel_rfl) (some ⟨bw,ow,none⟩) nw cw 2 (by omega) W
   rw[if_neg (by omega),Option.map_some,zCN] at this
   exact this
  have hshI:¬(nw:Int)<3:=by omega
  have hnw1:(1:Int)<(nw:Int):=by omega
  unfold maxLen at hcd2
  have hnd29:nd≤9223372036854775807:=by omega
  have hnm16:Hid (nameB nm=true→nm.size≤maxLen):=fun _=>hnz
  clear hva hjc hrl hjz hwl9 hcw9 hnwl hnd hvj hpq hsw7 Herr Hok K2l' K2e' hcwn hsh
  generalize joinS (r::rest2)=JS at *
  rcases hcase with ⟨h1,hd⟩|⟨h1,rfl,hbh⟩|⟨h1,q',bd,od,pn,rfl,rfl,hbd,hpc,hbh⟩
  ·subst hd
   rw[h1] at HN
   have HNq:=cH (qcall (w:=w7) (fun W _=>HN.out W))
   clear HN h1 HJ HPs Hbad Hno Hgo
   go_wp2_with fail
   have r_g7:=cR g7
   have r_e1:=cR e1
   have r_hp4:=cR hp4
   go_wp2_with fail
   refine wQ ?_
   repeat (go_big_quiet_step (first|(with_reducible exact HNq.out _ _)))
   refine wpQuiet_nil fun w8 B8=>?_
   have hra:=(HT7.out.trans (Turn.of_below B8)).at Hr5.out (by omega)
   obtain ⟨⟨a0,a1,a2,a3⟩,f0,f1,f2,f3⟩:=row4 hra
   have Hra:=cH hra
   have HBa:=cH (bot HB1.out (bot HB7.out B8))
   clear hra B8 r_g7 r_e1 r_hp4
   go_wp2_with fail
   refine zAC rfl rfl rfl rfl (zBV Hra.out _ _ _ _) Tryz.underlying24 rfl (by kernel_rfl) ⟨_,rfl,ManiO.zero _ _,zBE HBa.out (nR _) _ _ _ _⟩
  rotate_left
  focus
   have hlw:IntKind.i64.wrap (((q'+1:Nat):Int) - 1)=(q':Int):=(IntWalk.i64_in _ ⟨by omega,by omega⟩).trans (by omega)
   have hlw2:IntKind.i64.wrap ((q':Int)+1 - 1)=(q':Int):=(IntWalk.i64_in _ ⟨by omega,by omega⟩).trans (by omega)
   have hq0':(0:Int)≤(q':Int):=by omega
   have hq1':(0:Int)<(q':Int)+1:=by omega
   have hq3':(q':Int)<(q':Int)+1:=by omega
   rw[h1] at HN
   have HNq:=cH (qcall (w:=w7) (fun W _=>HN.out W))
   cases hls:Op.bytesLess pn.toList nm.toList
   ·have hd:=Hbad.out (by rw[h1,hbh,hls];rfl)
    subst hd
    clear HN h1 HJ HPs Hbad Hno Hgo hbh
    go_wp2_with fail
    have r_g7:=cR g7
    have r_e1:=cR e1
    have r_hp4:=cR hp4
    have r_hpc:=cR hpc
    go_wp2_with fail
    refine wQ ?_
    repeat (go_big_quiet_step (first|(with_reducible exact HNq.out _ _)))
    refine wpQuiet_nil fun w8 B8=>?_
    have hra:=(HT7.out.trans (Turn.of_below B8)).at Hr5.out (by omega)
    obtain ⟨⟨a0,a1,a2,a3⟩,f0,f1,f2,f3⟩:=row4 hra
    have Hra:=cH hra
    have HBa:=cH (bot HB1.out (bot HB7.out B8))
    clear hra B8 r_g7 r_e1 r_hp4 r_hpc hlw hlw2 hq0' hq1' hq3'
    go_wp2_with fail
    refine zAC rfl rfl rfl rfl (zBV Hra.out _ _ _ _) Tryz.underlying24 rfl (by kernel_rfl) ⟨_,rfl,ManiO.zero _ _,zBE HBa.out (nR _) _ _ _ _⟩
   focus
    have hg:(nameB nm&&behind (zAY (l j)) nm)=true:=by rw[h1,hbh,hls];rfl
    have Hno':=cH (Hno.out hg)
    have Hgo':=cH (Hgo.out hg)
    clear HN h1 Hbad Hno Hgo hbh hg
    go_wp2_with fail
    have r_g7:=cR g7
    have r_e1:=cR e1
    have r_hp4:=cR hp4
    have r_hpc:=cR hpc
    go_wp2_with fail
    refine wQ ?_
    repeat (go_big_quiet_step (first|(with_reducible exact HNq.out _ _)))
    refine wpQuiet_nil fun w8 B8=>?_
    clear r_g7 r_e1 r_hp4 r_hpc hlw hlw2 hq0' hq1' hq3' hls hpc HNq
  rotate_left
  focus
   have hg:(nameB nm&&behind (zAY (l j)) nm)=true:=by rw[h1,hbh];rfl
   rw[h1] at HN
   have HNq:=cH (qcall (w:=w7) (fun W _=>HN.out W))
   have Hno':=cH (Hno.out hg)
   have Hgo':=cH (Hgo.out hg)
   clear HN h1 Hbad Hno Hgo hbh hg
   go_wp2_with fail
   have r_g7:=cR g7
   have r_e1:=cR e1
   have r_hp4:=cR hp4
   go_wp2_with fail
   refine wQ ?_
   repeat (go_big_quiet_step (first|(with_reducible exact HNq.out _ _)))
   refine wpQuiet_nil fun w8 B8=>?_
   clear r_g7 r_e1 r_hp4 HNq
  all_goals
   have HB8:=cH B8
   have g8:=zAA B8 g7 hbq7
   clear B8
   go_wp2_with fail
   refine (HJ.out w8 HB8.out).mono ?_
   rintro e w9 ⟨rfl,hb9⟩
   have HB9:=cH (bot HB8.out hb9)
   clear hb9 HJ g8 HB8
   go_wp2_with fail
   refine (HPs.out w9 HB9.out).mono ?_
   rintro e w10 ⟨v4,rfl,ho4,hb10⟩
   have HB10:=cH (bot HB9.out hb10)
   have hs4:=ho4.slvF (fun b hb=>hb.elim)
   obtain ⟨A4,c4,rfl,hcl4,hcm4⟩:=hs4.val
   have Hs4:=cH hs4
   have hz9:w5.heap.size≤w9.heap.size:=(HT7.out.trans (Turn.of_below HB9.out)).size
   have HPm:=cH ((HPia.out.keep HB9.out).more hb10 hz9)
   have HPac:=cH (HPaa.out.keep HB10.out)
   have HTc:=cH (HT7.out.trans (Turn.of_below HB10.out))
   have hra:=HTc.out.at Hr5.out (by omega)
   obtain ⟨⟨a0,a1,a2,a3⟩,f0,f1,f2,f3⟩:=row4 hra
   have Hra:=cH hra
   have HBa:=cH (bot HB1.out (bot HB7.out HB10.out))
   have g10:=zAA HB10.out g7 hbq7
   have e10:=zAA HB10.out e1 hbw7
   have hp10:=zAA HB10.out hp4 (zAE hp4)
   have hbq10:=lL hbq7 HB10.out.size
   unfold maxLen at hcm4
   clear hb10 ho4 hs4 HPs hra HPia HPaa g7 hp4
   by_cases hpe:pe=0
   case neg=>
    have hd:=Hno'.out (.inl hpe)
    subst hd
    have hbe:(pe != 0)=true:=by simpa using hpe
    clear hpe Hno' Hgo'
    go_wp2_with fail
    refine zAC rfl rfl rfl rfl (zBV Hra.out _ _ _ _) Tryz.underlying24 rfl (by kernel_rfl) ⟨_,rfl,ManiO.zero _ _,zBE HBa.out (nR _) _ _ _ _⟩
   by_cases hpl:pl=[]
   ·have hd:=Hno'.out (.inr hpl)
    subst hd hpe hpl
    clear Hno' Hgo'
    go_wp2_with fail
    refine zAC rfl rfl rfl rfl (zBV Hra.out _ _ _ _) Tryz.underlying24 rfl (by kernel_rfl) ⟨_,rfl,ManiO.zero _ _,zBE HBa.out (nR _) _ _ _ _⟩
   have hnx:=Hgo'.out hpe hpl
   have Hnx:=cH hnx
   subst hpe
   have hnl:0<pl.length:=List.length_pos_iff.2 hpl
   obtain ⟨m4,hm4⟩:∃ m,m=pl.length:=⟨_,rfl⟩
   rw[←hm4] at Hs4 hcl4 hnl ⊢
   have hml:((m4:Int)==0)=false:=by rw[beq_eq_false_iff_ne];omega
   clear hpl Hno' Hgo' hm4 hnl hnx a0 a1 a2 a3 f0 f1 f2 f3 Hra HBa e1
   have Hown:Hid (Own rDep w10 w5.heap.size 158 (v j) (l j) (fun b=>S b∨Fresh w9.heap.size w10 b)):=HPm.out.1 j hq3
   rw[Hvj.out] at Hown
   have Hh:Hid (rDep.holds w10 (fun b=>S b∨Fresh w9.heap.size w10 b) ⟨nm,pl⟩ [.string nm,.slice A4 m4 c4]):=⟨_,rfl,hnz,Hs4.out.more fun b hb _=>.inr hb⟩
   have hfz:=HPac.out.free j
   have hrow:some M≠(Value.slice _ _ cd).ownBlock:=fun e=>by have:=(Hown.out.lt _ e.symm).1;omega
   have hrow2:some bq≠(Value.slice _ _ cd).ownBlock:=fun e=>by
    have h1:=(HPi.out.1 j hq3).lt
    rw[Hvj.out] at h1
    have:=(h1 _ e.symm).2
    have:=Hbq.out
    omega
   have hrow3:some bw≠(Value.slice _ _ cd).ownBlock:=fun e=>by have:=(Hown.out.lt _ e.symm).1;have:=HB5.out.size;omega
   have Hrow:=cH hrow
   have Hrow2:=cH hrow2
   have Hrow3:=cH hrow3
   have HP1:Hid (M<w10.heap.size):=by have:=HTc.out.size;unfold Hid;omega
   have HP2:Hid (bq<w10.heap.size):=hbq10
   have HP3:Hid (bw<w10.heap.size):=zAE e10
   have x4:=fun o=>(zAI (Below.heap_alloc w10 o _ HP1.out) _ none).trans hp10
   have xg:=fun o=>(zAI (Below.heap_alloc w10 o _ HP2.out) _ none).trans g10
   have xe:=fun o=>(zAI (Below.heap_alloc w10 o _ HP3.out) _ none).trans e10
   have hz10:w5.heap.size≤w10.heap.size:=HTc.out.size
   clear hrow hrow2 hrow3
   go_wp2_with fail
   go_region_law
    (first
     | (refine zDO (by rfl) _ _ _ (by rfl) zLj Tryz.underlying22 (by rfl) (Hown.out.drew.alloc _) ⟨w10.heap.size,0,none⟩ 1 [.string nm,.slice A4 m4 c4] ⟨nm,pl⟩ (by rfl) (Rp.alloc (Rp.drew Hh.out) _)
         (zAz w10.drew #[.string nm,.slice A4 m4 c4] _) (by rw[←Hnd.out];unfold maxLen;omega) (by rw[←Hnd.out];omega) (by simp;omega) (w10.heap.size+1) (by simp) ?_;intro g6 cap6 w11 hown6 hgrow hat hg6;have hc6:=hgrow.cell ((zAI (Below.heap_alloc w10.drew _ _ HP1.out) _ _).trans hp10) Hrow.out;have hf6:=(zBr ((hgrow.block _ (by simp;have:=HP1.out;omega) Hrow.out).trans (Below.heap_alloc w10.drew _ _ HP1.out)) j none).trans hfz))
   all_goals
    have hg7:=hgrow
    rw[←Hvj.out] at hg7 hat
    obtain ⟨s1,s2,s3⟩:=zIV (hd:=[]) hM5 HPm.out HPac.out HTc.out hq3 hown6 hg7 hat
    simp only[List.length_nil,Nat.zero_add] at s1 s2 s3
    have S1:=cH s1
    have S2:=cH s2
    have S3:=cH s3
    clear s1 s2 s3 hg7 hgrow hown6 hat hc6 hf6 hp10 hfz HPm HPac HTc Hown Hh g10 e10 x4 xg xe
    go_wp2_with fail
    go_roundw
    case rel=>
     refine ⟨k+1,j,_,_,_,by omega,by omega,rfl,by go_num,Hnx,?_,S1,S2,S3⟩
     intro j' hj'
     have:=Hlen.out j' hj'
     show (if j'=j then l j++[_] else l j').length≤k+1
     split
     ·rename_i e
      rw[e] at this
      rw[List.length_append,List.length_singleton];omega
     ·omega
    case measure=>simp[intOf];omega
end Go.Proofs.YthbnmehbhpakaaaGreatDoor
namespace Go.Proofs.YthbnmehbhpakaaaGreatDoor
open Go
def SOf (s:Proj) (l:List File):Prop:=mayI s=true∧(imgF s).1.Perm l
theorem SOf.full {s:Proj} {l:List File} (h:SOf s l) (hl:l≠[]):l.Perm (imgU s):=by
 obtain ⟨h1,h2⟩:=h
 by_cases he:zBn s=true
 ·rw[zDJ h1 he] at h2
  exact absurd (List.nil_perm.1 h2) hl
 ·rw[zB7 h1 he] at h2
  exact h2.symm.trans (zBf _)
theorem zQc {s:Proj} (h:mayI s=true) {l:List File} (hp:l.Perm (imgU s)):loadB l=true:=by
 have hn:=zBw h
 have hN:(zAm l).Nodup:=(hp.map File.path).nodup_iff.2 hn
 unfold loadB
 rw[zMx _ [] (by rw[List.nil_append];exact hN) fun f hf=>zKs h (hp.mem_iff.1 hf),Bool.true_and]
 refine zNU fun p hpm=>?_
 obtain ⟨f,hf,rfl⟩:=List.mem_map.1 hpm
 rw[zNo hn hp]
 exact zQb h (hp.mem_iff.1 hf)
section
variable {s:Proj} {l:List File}
theorem SOf.paths (h:SOf s l) (hl:l≠[]):(zAm l).Nodup:=((h.full hl).map File.path).nodup_iff.2 (zBw h.1)
theorem SOf.load (h:SOf s l) (hl:l≠[]):loadB l=true:=zQc h.1 (h.full hl)
theorem SOf.man (h:SOf s l) (hl:l≠[]):zAK l manF=some ⟨manF,false,zAR s.man⟩:=(zAw (h.paths hl) (f:=⟨manF,false,zAR s.man⟩)).2 ⟨((h.full hl).mem_iff.2 (zQr s)),rfl⟩
theorem SOf.lok (h:SOf s l) (hl:l≠[]):zAK l lokF=some ⟨lokF,false,zAo s.nodes⟩:=(zAw (h.paths hl) (f:=⟨lokF,false,zAo s.nodes⟩)).2 ⟨((h.full hl).mem_iff.2 (zQQ s)),rfl⟩
theorem SOf.pru (h:SOf s l) (hl:l≠[]):(zAK l pruF).isSome=s.pruned:=by
 cases hp:s.pruned with
 | true=>
   have:=(zAw (h.paths hl) (f:=⟨pruF,false,emB⟩)).2 ⟨((h.full hl).mem_iff.2 (zP4 hp)),rfl⟩
   rw[show zAK l pruF=some ⟨pruF,false,emB⟩ from this]
   rfl
 | false=>
   rw[zCU]
   intro hm
   obtain ⟨f,hf,e⟩:=List.mem_map.1 hm
   have:=zJQ (zB5 (zAv h.1)) ((h.full hl).mem_iff.1 hf) e
   rw[hp] at this
   cases this
theorem SOf.readMan (h:SOf s l):maniQ (zAR s.man)=(s.man,0):=by
 unfold maniQ
 rw[zHl (zGY h.1)]
theorem SOf.readLok (h:SOf s l):lkQ (zAo s.nodes)=(s.nodes,0):=zSN (zD6 h.1)
theorem SOf.sorted (h:SOf s l) (hl:l≠[]) {M:List File} (hp:M.Perm l) (hM:M.Pairwise upF):M=(imgF s).1:=by
 have he:¬zBn s=true:=fun e=>by
  have h2:=h.2
  rw[zDJ h.1 e] at h2
  exact hl (List.nil_perm.1 h2)
 rw[zB7 h.1 he]
 exact zGa (zBw h.1) (hp.trans (h.full hl)) hM
theorem SOf.one {s':Proj} (h:SOf s l) (h':SOf s' l):s=s':=by
 refine zTC h.1 h'.1 ?_
 by_cases hl:l=[]
 ·have a:=h.2
  have b:=h'.2
  rw[hl] at a b
  rw[List.perm_nil.1 a,List.perm_nil.1 b]
 ·have hM:(imgF s').1.Pairwise upF:=by
   by_cases he:zBn s'=true
   ·rw[zDJ h'.1 he];exact List.Pairwise.nil
   ·rw[zB7 h'.1 he];exact zD8 _
  exact (h.sorted hl h'.2 hM).symm
end
def projZ:Proj:=⟨man0,[node0],[⟨[],zBz,0⟩],false⟩
theorem SOf.none {s:Proj} (h:SOf s []):s=projZ:=by
 have e:=List.perm_nil.1 h.2
 by_cases he:zBn s=true
 ·exact zHY h.1 he
 ·rw[zB7 h.1 he] at e
  exact absurd e (zHo s)
section
variable {l:List File}
theorem zSn (hl:l≠[]) (h:loadB l=false):∀ s,¬SOf s l:=fun s hs=>by
 rw[hs.load hl] at h
 cases h
theorem zTS (hl:l≠[]) (h:(maniQ (zAh l manF).data).2≠0):∀ s,¬SOf s l:=fun s hs=>h (by
 unfold zAh
 rw[hs.man hl,Option.getD_some,hs.readMan])
theorem zTI (hl:l≠[]) (h:(lkQ (zAh l lokF).data).2≠0):∀ s,¬SOf s l:=fun s hs=>h (by
 unfold zAh
 rw[hs.lok hl,Option.getD_some,hs.readLok])
theorem zSy (hl:l≠[]) (h:zA7 l=false):∀ s,¬SOf s l:=fun s hs=>by
 rw[(zE5 (hs.full hl)).2,(zM5 hs.1).2] at h
 cases h
theorem zPV {s:Proj} (hl:l≠[]) (hs:SOf s l):(lkQ (zAh l lokF).data).1=s.nodes:=by
 unfold zAh
 rw[hs.lok hl,Option.getD_some,hs.readLok]
theorem zTB {s:Proj} (hl:l≠[]) (hs:SOf s l):(maniQ (zAh l manF).data).1=s.man:=by
 unfold zAh
 rw[hs.man hl,Option.getD_some,hs.readMan]
variable {T:List Dir}
theorem zTP (hl:l≠[]) (hp:T.Perm (root0::dirsF l)) (hu:T.Pairwise upT) (h:(mapR T (lkQ (zAh l lokF).data).1).2≠0):∀ s,¬SOf s l:=fun s hs=>h (by
 obtain ⟨m,hm,_⟩:=zQL hs.1
 rw[zPV hl hs,zPE hs.1 (hs.full hl) hp hu,hm])
noncomputable def putT (l:List File) (T:List Dir) (m:List Int):Proj:=⟨(maniQ (zAh l manF).data).1,(lkQ (zAh l lokF).data).1,setN m m.length T,(zAK l pruF).isSome⟩
theorem zSe {s:Proj} {m:List Int} (hl:l≠[]) (hp:T.Perm (root0::dirsF l)) (hu:T.Pairwise upT) (h:(mapR T (lkQ (zAh l lokF).data).1).1=some m) (hs:SOf s l):putT l T m=s:=by
 obtain ⟨m',hm,h1,h2⟩:=zQL hs.1
 have e:=zPE hs.1 (hs.full hl) hp hu
 rw[zPV hl hs,e,hm] at h
 obtain rfl:=Option.some.inj h
 unfold putT
 rw[zTB hl hs,zPV hl hs,hs.pru hl,e,zRE hs.1 h1 h2]
theorem zSp {m:List Int} {M:List File} (hl:l≠[]) (hp:T.Perm (root0::dirsF l)) (hu:T.Pairwise upT) (h:(mapR T (lkQ (zAh l lokF).data).1).1=some m) (hM:M.Perm l) (hMs:M.Pairwise upF) (h9:(imgF (putT l T m)).2≠0∨(imgF (putT l T m)).1≠M):∀ s,¬SOf s l:=fun s hs=>by
 rw[zSe hl hp hu h hs] at h9
 rcases h9 with h9|h9
 ·apply h9
  unfold imgF
  rw[if_pos hs.1]
  split<;>rfl
 ·exact h9 (hs.sorted hl hM hMs).symm
theorem zRL {s:Proj} {M:List File} (hM:M.Perm l) (h1:(imgF s).2=0) (h2:(imgF s).1=M):SOf s l:=by
 refine ⟨?_,by rw[h2];exact hM⟩
 cases hm:mayI s with
 | true=>rfl
 | false=>unfold imgF at h1;rw[if_neg (by rw[hm];decide)] at h1;cases h1
end
