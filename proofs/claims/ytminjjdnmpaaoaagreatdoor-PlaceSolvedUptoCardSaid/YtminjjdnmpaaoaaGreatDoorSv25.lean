/- The document's search: what pins tell of a name, a pin more: walked. (Printed by gen_src.py.) -/
import Derived.Test.YtminjjdnmpaaoaaGreatDoorSv24
import Derived.Test.YtminjjdnmpaaoaaGreatDoorSv18
import Derived.Deep.CutRange
import Derived.Test.YtminjjdnmpaaoaaGreatDoorAl
set_option linter.all false
set_option maxHeartbeats 6400000
set_option maxRecDepth 100000
namespace Go.Proofs.YtminjjdnmpaaoaaGreatDoor
open Go.Rows Go.RowKit Go.Shelf Go.Sort
theorem zF1 {l:List Pin} {s:ByteArray} {k:Nat} (h:l.length≤k):zAh (l.drop k) s=none:=by rw[dN h];rfl
theorem zFk {l:List Pin} {k:Nat} {x:Pin} (hx:l[k]?=some x) (s:ByteArray):zAh (l.drop k) s=if x.name=s then some x.ver else zAh (l.drop (k+1)) s:=by
 obtain ⟨h,e⟩:=gS.1 hx
 rw[dC h,e,zAh]
theorem zEU {P:Program} {fn:Func} {R:Ending→World→Prop} {ty:TypeId} {d:TypeDesc} {p q:Tmp} {a:Act} {W:World} {g:Nat} {x y z bv:Value} {t:TypeId} (hf:fn.results=#[.cell p ty,.tmp q]) (hd:a.defers=[]) (h2:a.tmps.getD p undef=.pointer (some ⟨g,0,none⟩)) (h3:a.tmps.getD q undef=bv)
  (hg:W.heap[g]?=some (.cells #[x,y,z] t (0,0))) (hu:P.underlying ty=some d) (hdd:(match d with|.struct _|.array _ _=>true|_=>false)=true) (hi:(P.info? ty).map (·.size)=some 3)
  (h:R (.returned (.tuple #[.agg #[x,y,z],bv])) W):bodyPost P fn R Exit.ret a W:=
 bodyPost_ret (zBo hf a.tmps W g t #[x,y,z] (0,0) d h2 hg hu hdd hi) hd (by rw[h3];exact h)
def verQ (o:Option Ver):Value:=match o with
 | none=>.agg #[.int .i64 0,.int .i64 0,.int .i64 0]
 | some v=>.agg #[.int .i64 v.major,.int .i64 v.minor,.int .i64 v.patch]
theorem set1Q {W:World} {b j:Nat} {cs:Array Value} {t:TypeId} (h:W.heap[b]?=some (.cells cs t (0,0))) (v:Value):(W.setCell ⟨b,j,none⟩ v).heap[b]?=some (.cells (cs.setIfInBounds j v) t (0,0)):=heap_setCell_same W b j cs t v h
theorem set3Q {W:World} {b:Nat} {x y z:Value} {t:TypeId} (h:W.heap[b]?=some (.cells #[x,y,z] t (0,0))) (a1 a2 a3:Value) :
 (((W.setCell ⟨b,0,none⟩ a1).setCell ⟨b,1,none⟩ a2).setCell ⟨b,2,none⟩ a3).heap[b]?=some (.cells #[a1,a2,a3] t (0,0)):=set1Q (set1Q (set1Q h a1) a2) a3
theorem zBb {B:Nat} {w W:World} (h:Below B w W) {b:Nat} (hb:B≤b) (a1 a2 a3:Value):Below B w (((W.setCell ⟨b,0,none⟩ a1).setCell ⟨b,1,none⟩ a2).setCell ⟨b,2,none⟩ a3):=((h.setCell hb _).setCell hb _).setCell hb _
theorem zCM:Elt Tryz.prog 63 4 40:=Elt.mk' (z:=.agg #[.string ⟨#[]⟩,.int .i64 0,.int .i64 0,.int .i64 0]) (by kernel_rfl) rfl (by decide)
theorem zFp {w w':World} {S S':Nat→Prop}:∀ {l:List Pin} {xs:List Value},Elems rPin w S l xs→Elems rPin w' S' l xs
 | [],_,h=>h
 | x::l,_,⟨cs,rest,h1,h2,h3⟩=>⟨cs,rest,h1,h2,zFp h3⟩
theorem zCu {w:World} {base:Nat} {e:TypeId} {v:Value} {l:List Pin} {S:Nat→Prop} (h:Own rPin w base e v l S):Own rPin w base e v l (fun _=>False):=by
 obtain ⟨h0,xs,h1,h2⟩:=h
 exact ⟨fun b hb=>hb.elim,xs,h1,zFp h2⟩
theorem zLu (A:Option Addr) (n c:Nat) (l:List Pin) (s:ByteArray) (w:World) (S:Nat→Prop) (hl:SlV rPin w S l (.slice A n c)) :
  Calls Tryz.prog 144 #[.slice A n c,.string s] w fun e w'=>e=.returned (.tuple #[verQ (zAh l s),.bool (zAh l s).isSome])∧Below w.heap.size w w':=by
 have hn:=hl.n_eq
 have hcap:=hl.cap_le
 unfold maxLen at hcap
 have HL:=cH hl
 have Hn:=cH hn
 have HR:Hid (zAh l s=zAh (l.drop 0) s):=rfl
 have hnz:n≤9223372036854775807:=by omega
 obtain ⟨R,hR⟩:∃ R,R=zAh l s:=⟨_,rfl⟩
 rw[←hR] at HR ⊢
 have hz0:l.length=n:=hn.symm
 have Hz0:=cH hz0
 clear hl hn hR hcap hz0
 obtain ⟨w0,hw0⟩:∃ w0,w0=w.alloc (.cells #[.int .i64 0,.int .i64 0,.int .i64 0] 50):=⟨_,rfl⟩
 have HB0:Hid (Below w.heap.size w w0):=by unfold Hid;rw[hw0];exact bal (bR _ _) _
 have HQ0:Hid (w0.heap[w.heap.size]?=some (.cells #[.int .i64 0,.int .i64 0,.int .i64 0] 50 (0,0))):=by unfold Hid;rw[hw0];exact zAD _ _
 obtain ⟨g,hg⟩:∃ g,g=w.heap.size:=⟨_,rfl⟩
 have Hg:Hid (w.heap.size≤g):=by unfold Hid;omega
 go_enter Tryz.func144,Tryz.ntmps144
 go_wp2_with fail
 rw[←hw0,←hg]
 rw[←hg] at HQ0
 clear hw0 hg
 go_loopw [6] (fun t wr=>∃ k:Nat,k≤n∧t=.int .i64 k∧Hid (R=zAh (l.drop k) s)∧Hid (wr=w0)) (fun t _=>n - (intOf t).toNat)
 case atStart=>exact ⟨0,nZ _,rfl,HR,rfl⟩
 case round=>
  clear HR
  obtain ⟨k,hk,rfl,heq,hwr⟩:=hrel
  have hk0:(0:Int)≤(k:Int):=by omega
  have HBr:Hid (Below w.heap.size w wr):=by unfold Hid;rw[hwr.out];exact HB0.out
  have HQr:Hid (wr.heap[g]?=some (.cells #[.int .i64 0,.int .i64 0,.int .i64 0] 50 (0,0))):=by unfold Hid;rw[hwr.out];exact HQ0.out
  obtain ⟨⟨d0,d1,d2⟩,e0,e1,e2⟩:=row3P HQr.out
  by_cases hlt:k<n
  case neg=>
   have He:Hid (R=none):=by unfold Hid;rw[heq.out,zF1 (by have:=Hz0.out;omega)]
   have hI:¬(k:Int)<(n:Int):=by omega
   clear heq
   go_wp2_with fail
   refine zEU rfl rfl rfl rfl (set3Q HQr.out _ _ _) Tryz.underlying50 rfl (by kernel_rfl) ⟨?_,zBb HBr.out Hg.out _ _ _⟩
   rw[He.out];rfl
  have hkn:(k:Int)<(n:Int):=by omega
  obtain ⟨x,hx⟩:∃ x,l[k]?=some x:=⟨_,gE (by have:=Hz0.out;omega)⟩
  obtain ⟨b,o,cs,hA,_,hb1,⟨rfl,hsz,i1,i2,i3⟩,hcell⟩:=(HL.out.belowSize HBr.out).elem hx
  subst hA
  have c0:=hcell 0 _ rfl
  have c1:=hcell 1 _ rfl
  have c2:=hcell 2 _ rfl
  have c3:=hcell 3 _ rfl
  simp only[rPin,Nat.add_zero] at c0 c1 c2 c3
  have Hstep:=cH (zFk hx s)
  clear hcell hsz i1 i2 i3 hx
  obtain ⟨xn,xv⟩:=x
  obtain ⟨v1,v2,v3⟩:=xv
  simp only at c0 c1 c2 c3 Hstep
  by_cases h1:xn=s
  ·have hb2:=zAT h1
   have He:Hid (R=some ⟨v1,v2,v3⟩):=by unfold Hid;rw[heq.out,Hstep.out,if_pos h1]
   clear heq Hstep h1
   go_wp2_with fail
   refine zEU rfl rfl rfl rfl (set3Q HQr.out _ _ _) Tryz.underlying50 rfl (by kernel_rfl) ⟨?_,zBb HBr.out Hg.out _ _ _⟩
   rw[He.out];rfl
  ·have hb2:=zAL h1
   have He:Hid (R=zAh (l.drop (k+1)) s):=by unfold Hid;rw[heq.out,Hstep.out,if_neg h1]
   clear heq Hstep h1
   go_wp2_with fail
   go_roundw
   case rel=>exact ⟨k+1,by omega,by go_num,He,hwr⟩
   case measure=>simp[intOf];omega
theorem zJ7 (A:Option Addr) (n c:Nat) (l:List Pin) (s:ByteArray) (w:World) (S:Nat→Prop) (hl:SlV rPin w S l (.slice A n c)) :
  Calls Tryz.prog 178 #[.slice A n c,.string s] w fun e w'=>e=.returned (.tuple #[verQ (zAh l s),.bool (zAh l s).isSome])∧Below w.heap.size w w':=by
 have hn:=hl.n_eq
 have hcap:=hl.cap_le
 unfold maxLen at hcap
 have HL:=cH hl
 have Hn:=cH hn
 have HR:Hid (zAh l s=zAh (l.drop 0) s):=rfl
 have hnz:n≤9223372036854775807:=by omega
 obtain ⟨R,hR⟩:∃ R,R=zAh l s:=⟨_,rfl⟩
 rw[←hR] at HR ⊢
 have hz0:l.length=n:=hn.symm
 have Hz0:=cH hz0
 clear hl hn hR hcap hz0
 obtain ⟨w0,hw0⟩:∃ w0,w0=w.alloc (.cells #[.int .i64 0,.int .i64 0,.int .i64 0] 50):=⟨_,rfl⟩
 have HB0:Hid (Below w.heap.size w w0):=by unfold Hid;rw[hw0];exact bal (bR _ _) _
 have HQ0:Hid (w0.heap[w.heap.size]?=some (.cells #[.int .i64 0,.int .i64 0,.int .i64 0] 50 (0,0))):=by unfold Hid;rw[hw0];exact zAD _ _
 obtain ⟨g,hg⟩:∃ g,g=w.heap.size:=⟨_,rfl⟩
 have Hg:Hid (w.heap.size≤g):=by unfold Hid;omega
 go_enter Tryz.func178,Tryz.ntmps178
 go_wp2_with fail
 rw[←hw0,←hg]
 rw[←hg] at HQ0
 clear hw0 hg
 go_loopw [6] (fun t wr=>∃ k:Nat,k≤n∧t=.int .i64 k∧Hid (R=zAh (l.drop k) s)∧Hid (wr=w0)) (fun t _=>n - (intOf t).toNat)
 case atStart=>exact ⟨0,nZ _,rfl,HR,rfl⟩
 case round=>
  clear HR
  obtain ⟨k,hk,rfl,heq,hwr⟩:=hrel
  have hk0:(0:Int)≤(k:Int):=by omega
  have HBr:Hid (Below w.heap.size w wr):=by unfold Hid;rw[hwr.out];exact HB0.out
  have HQr:Hid (wr.heap[g]?=some (.cells #[.int .i64 0,.int .i64 0,.int .i64 0] 50 (0,0))):=by unfold Hid;rw[hwr.out];exact HQ0.out
  obtain ⟨⟨d0,d1,d2⟩,e0,e1,e2⟩:=row3P HQr.out
  by_cases hlt:k<n
  case neg=>
   have He:Hid (R=none):=by unfold Hid;rw[heq.out,zF1 (by have:=Hz0.out;omega)]
   have hI:¬(k:Int)<(n:Int):=by omega
   clear heq
   go_wp2_with fail
   refine zEU rfl rfl rfl rfl (set3Q HQr.out _ _ _) Tryz.underlying50 rfl (by kernel_rfl) ⟨?_,zBb HBr.out Hg.out _ _ _⟩
   rw[He.out];rfl
  have hkn:(k:Int)<(n:Int):=by omega
  obtain ⟨x,hx⟩:∃ x,l[k]?=some x:=⟨_,gE (by have:=Hz0.out;omega)⟩
  obtain ⟨b,o,cs,hA,_,hb1,⟨rfl,hsz,i1,i2,i3⟩,hcell⟩:=(HL.out.belowSize HBr.out).elem hx
  subst hA
  have c0:=hcell 0 _ rfl
  have c1:=hcell 1 _ rfl
  have c2:=hcell 2 _ rfl
  have c3:=hcell 3 _ rfl
  simp only[rPin,Nat.add_zero] at c0 c1 c2 c3
  have Hstep:=cH (zFk hx s)
  clear hcell hsz i1 i2 i3 hx
  obtain ⟨xn,xv⟩:=x
  obtain ⟨v1,v2,v3⟩:=xv
  simp only at c0 c1 c2 c3 Hstep
  by_cases h1:xn=s
  ·have hb2:=zAT h1
   have He:Hid (R=some ⟨v1,v2,v3⟩):=by unfold Hid;rw[heq.out,Hstep.out,if_pos h1]
   clear heq Hstep h1
   go_wp2_with fail
   refine zEU rfl rfl rfl rfl (set3Q HQr.out _ _ _) Tryz.underlying50 rfl (by kernel_rfl) ⟨?_,zBb HBr.out Hg.out _ _ _⟩
   rw[He.out];rfl
  ·have hb2:=zAL h1
   have He:Hid (R=zAh (l.drop (k+1)) s):=by unfold Hid;rw[heq.out,Hstep.out,if_neg h1]
   clear heq Hstep h1
   go_wp2_with fail
   go_roundw
   case rel=>exact ⟨k+1,by omega,by go_num,He,hwr⟩
   case measure=>simp[intOf];omega
theorem zL3 (A:Option Addr) (n c:Nat) (l:List Pin) (p:Pin) (w:World) (S:Nat→Prop) (hl:SlV rPin w S l (.slice A n c)) (hlz:l.length≤1048576) (hp:p.name.size≤maxLen∧I64 p.ver.major∧I64 p.ver.minor∧I64 p.ver.patch) :
  Calls Tryz.prog 147 #[.slice A n c,.agg #[.string p.name,.int .i64 p.ver.major,.int .i64 p.ver.minor,.int .i64 p.ver.patch]] w fun e w'=>∃ A' c',e=.returned (.slice A' (withP l p).length c')∧SlV rPin w' (fun b=>S b∨w.heap.size≤b) (withP l p) (.slice A' (withP l p).length c')∧Below w.heap.size w w':=by
 have hn:=hl.n_eq
 have hcap:=hl.cap_le
 unfold maxLen at hcap
 have HL:=cH hl
 have Hz0:Hid (l.length=n):=hn.symm
 have HR:Hid (pinAt l p.name=0+pinAt (l.drop 0) p.name):=by unfold Hid;rw[List.drop_zero,Nat.zero_add]
 have hnz:n≤1048576:=by omega
 have hnc:n≤c:=by omega
 have Hw:Hid (withP l p=if pinIs l p.name=true then l else l.take (pinAt l p.name)++p::l.drop (pinAt l p.name)):=rfl
 have Hp:=cH hp
 obtain ⟨pn,pv⟩:=p
 obtain ⟨v1,v2,v3⟩:=pv
 simp only at Hp HR
 have HLe:Hid (∀ W (x:ByteArray),x.size≤maxLen→Calls Tryz.prog 108 #[.string x,.string pn] W fun e w'=>e=.returned (.bool (lessB x pn))∧Below W.heap.size W w'):=fun W x hx=>zCs x pn hx Hp.out.1 W
 have HI:Hid (pinIs l pn=match l[pinAt l pn]? with|none=>false|some x=>decide (x.name=pn)):=rfl
 obtain ⟨RR,hRR⟩:∃ RR,RR=withP l ⟨pn,v1,v2,v3⟩:=⟨_,rfl⟩
 rw[←hRR] at Hw ⊢
 obtain ⟨RI,hRI⟩:∃ RI,RI=pinIs l pn:=⟨_,rfl⟩
 simp only at Hw
 rw[←hRI] at Hw HI
 have hpz:pinAt l pn≤n:=by have:=zIn l pn;omega
 have Hpz:=cH hpz
 clear hl hn hp hlz hcap hRR hRI hpz
 obtain ⟨w0,hw0⟩:∃ w0,w0=w.alloc (.cells #[.string pn,.int .i64 v1,.int .i64 v2,.int .i64 v3] 63):=⟨_,rfl⟩
 have HB0:Hid (Below w.heap.size w w0):=by unfold Hid;rw[hw0];exact bal (bR _ _) _
 have HQ0:Hid (w0.heap[w.heap.size]?=some (.cells #[.string pn,.int .i64 v1,.int .i64 v2,.int .i64 v3] 63 (0,0))):=by unfold Hid;rw[hw0];exact zAD _ _
 obtain ⟨g,hg⟩:∃ g,g=w.heap.size:=⟨_,rfl⟩
 rw[←hg] at HQ0
 have hz0:w.heap.size≤w0.heap.size:=HB0.out.size
 have Hrow:Hid (∀ W,Below w0.heap.size w0 W→W.cell? ⟨g,0,none⟩=some (.string pn)∧W.cell? ⟨g,1,none⟩=some (.int .i64 v1)∧W.cell? ⟨g,2,none⟩=some (.int .i64 v2)∧W.cell? ⟨g,3,none⟩=some (.int .i64 v3)):=fun W hW=>by
  have h:=(hW.block _ (aS.1 HQ0.out).1).trans HQ0.out
  exact ⟨cO _ _ 0 _ _ _ h,cO _ _ 1 _ _ _ h,cO _ _ 2 _ _ _ h,cO _ _ 3 _ _ _ h⟩
 go_enter Tryz.func147,Tryz.ntmps147
 go_wp2_with fail
 rw[←hw0,←hg]
 clear hw0 hg HQ0
 go_loopw [5] (fun t wr=>∃ k:Nat,k≤n∧t=.int .i64 k∧Hid (pinAt l pn=k+pinAt (l.drop k) pn)∧Hid (Below w0.heap.size w0 wr)) (fun t _=>n - (intOf t).toNat)
 case atStart=>exact ⟨0,nZ _,rfl,HR,bR _ _⟩
 case round=>
  clear HR
  obtain ⟨k,hk,rfl,heq,hB⟩:=hrel
  have hk0:(0:Int)≤(k:Int):=by omega
  obtain ⟨x0,x1,x2,x3⟩:=Hrow.out wr hB.out
  by_cases hlt:k<n
  rotate_left
  focus
   have hpI:¬(k:Int)<(n:Int):=by omega
   have hpd:decide ((k:Int)<(n:Int))=false:=decide_eq_false hpI
   have hpdn:decide (k<n)=false:=decide_eq_false hlt
   have Hat:Hid (pinAt l pn=k):=by
    unfold Hid
    rw[heq.out,dN (by have:=Hz0.out;omega)];rfl
   have Hno:Hid (RI=false):=by
    unfold Hid
    rw[HI.out,Hat.out,List.getElem?_eq_none (by have:=Hz0.out;omega)]
   clear heq
   go_upto_region 2 with (fail)
   have r_x0:=cR x0
   go_wp2_with fail
   refine wQ ?_
   repeat (go_big_quiet_step (first|fail))
   refine wpQuiet_nil fun w4 B4=>?_
   go_upto_region 4 with (fail)
   have B40:=B4
   clear r_x0 x0 x1 x2 x3
   obtain ⟨x0,x1,x2,x3⟩:=Hrow.out w4 (bot hB.out B40)
   have HB4:=cH (bot hB.out B40)
   clear B40 B4
   have r_x0:=cR x0
   go_wp2_with fail
   refine wQ ?_
   repeat (go_big_quiet_step (first|fail))
   refine wpQuiet_nil fun w5 B5=>?_
   have HB5:=cH (bot HB4.out B5)
   clear r_x0 x0 x1 x2 x3 B5 HB4
   go_upto_region 7 with (fail)
  rotate_left
  focus
   have hkI:(k:Int)<(n:Int):=by omega
   have hkd:decide ((k:Int)<(n:Int))=true:=decide_eq_true hkI
   have hkdn:decide (k<n)=true:=decide_eq_true hlt
   obtain ⟨x,hx⟩:∃ x,l[k]?=some x:=⟨_,gE (by have:=Hz0.out;omega)⟩
   have HBr:Hid (Below w.heap.size w wr):=bot HB0.out hB.out
   obtain ⟨b,o,cs,hA,_,hb1,⟨rfl,hsz,i1,i2,i3⟩,hcell⟩:=(HL.out.belowSize HBr.out).elem hx
   have c0:=hcell 0 _ rfl
   simp only[rPin,Nat.add_zero] at c0
   have hbw:b<wr.heap.size:=hb1
   have hdk:l.drop k=x::l.drop (k+1):=by
    obtain ⟨h,e⟩:=gS.1 hx
    rw[dC h,e]
   have Hstep:Hid (pinAt l pn=k+if lessB x.name pn=true then pinAt (l.drop (k+1)) pn+1 else 0):=by unfold Hid;rw[heq.out,hdk,zCc]
   have HTx:Hid (∀ W,Below wr.heap.size wr W→Calls Tryz.prog 108 #[.string x.name,.string pn] W fun e w'=>e=.returned (.bool (lessB x.name pn))∧Below W.heap.size W w'):=fun W _=>HLe.out W x.name hsz
   have HTq:=cH (qcall (w:=wr) HTx.out)
   have Hx:=cH hx
   clear hcell hsz i1 i2 i3 hdk heq hx HTx
   subst hA
   have Hname:Hid (∀ y,l[k]?=some y→y=x):=fun y hy=>Option.some.inj (hy.symm.trans Hx.out)
   obtain ⟨xn,xv⟩:=x
   simp only at c0 Hstep HTq
   by_cases hls:lessB xn pn=true
   focus
    rw[hls] at HTq
    have He:Hid (pinAt l pn=(k+1)+pinAt (l.drop (k+1)) pn):=by unfold Hid;rw[Hstep.out,if_pos hls];omega
    clear Hstep hls
    go_upto_region 2 with (fail)
    have r_x0:=cR x0
    have r_c0:=cR c0
    go_wp2_with fail
    refine wQ ?_
    repeat (go_big_quiet_step (first|(with_reducible exact HTq.out _ _)))
    refine wpQuiet_nil fun w4 B4=>?_
    have HB4:=cH (bot hB.out B4)
    clear B4
    go_wp2_with fail
    go_roundw
    case rel=>exact ⟨k+1,by omega,by go_num,He,HB4⟩
    case measure=>simp[intOf];omega
   have hls:lessB xn pn=false:=by simpa using hls
   have Hat:Hid (pinAt l pn=k):=by unfold Hid;rw[Hstep.out,if_neg (by rw[hls];decide)];rfl
   rw[hls] at HTq
   have HI2:Hid (RI=decide (xn=pn)):=by unfold Hid;rw[HI.out,Hat.out,Hx.out]
   clear Hstep hls
   go_upto_region 2 with (fail)
   have r_x0:=cR x0
   have r_c0:=cR c0
   go_wp2_with fail
   refine wQ ?_
   repeat (go_big_quiet_step (first|(with_reducible exact HTq.out _ _)))
   refine wpQuiet_nil fun w4 B4=>?_
   have HB4:=cH (bot hB.out B4)
   have c4:=zAA B4 c0 hbw
   clear r_x0 r_c0 x0 x1 x2 x3 c0 B4
   obtain ⟨x0,x1,x2,x3⟩:=Hrow.out w4 HB4.out
   by_cases hnm:xn=pn
   focus
    have hb2:=zAT hnm
    have Hy:Hid (RI=true):=by unfold Hid;rw[HI2.out,decide_eq_true hnm]
    clear HI2 hnm
    go_upto_region 4 with (fail)
    have r_x0:=cR x0
    have r_c4:=cR c4
    go_wp2_with fail
    refine wQ ?_
    repeat (go_big_quiet_step (first|fail))
    refine wpQuiet_nil fun w5 B5=>?_
    have HB5:=cH (bot HB4.out B5)
    clear B5
    go_wp2_with fail
    go_ret
    have HRl:Hid (RR=l):=by unfold Hid;rw[Hw.out,if_pos Hy.out]
    refine ⟨some ⟨b,o,none⟩,c,(by rw[HRl.out,Hz0.out];try rfl),?_,bot HB0.out HB5.out⟩
    rw[HRl.out,Hz0.out]
    exact (HL.out.belowSize (bot HB0.out HB5.out)).more fun b hb _=>.inl hb
   have hb2:=zAL hnm
   have Hno:Hid (RI=false):=by unfold Hid;rw[HI2.out,decide_eq_false hnm]
   clear HI2 hnm
   go_upto_region 4 with (fail)
   have r_x0:=cR x0
   have r_c4:=cR c4
   go_wp2_with fail
   refine wQ ?_
   repeat (go_big_quiet_step (first|fail))
   refine wpQuiet_nil fun w5 B5=>?_
   have HB5:=cH (bot HB4.out B5)
   clear r_x0 r_c4 x0 x1 x2 x3 c4 B5 HB4 hb2
   generalize (some (⟨b,o,none⟩:Addr))=A at *
   go_upto_region 7 with (fail)
  all_goals
   have HBw5:Hid (Below w.heap.size w w5):=bot HB0.out HB5.out
   have hjc:k≤c:=by omega
   have Hlt1:Hid ((l.take k).length=k):=by unfold Hid;rw[List.length_take,Hz0.out];omega
   have HLs:Hid (SlV rPin w5 (fun b=>b<w5.heap.size) l (.slice A n c)):=(HL.out.belowSize HBw5.out).more fun b _ hl=>hl
   have HT3:Hid (SlV rPin w5 (fun b=>b<w5.heap.size) (l.take k) (.slice A k c)):=SlV.take HLs.out (by rw[Hz0.out];exact hk)
   have hwz:w.heap.size≤w5.heap.size:=HBw5.out.size
   go_wp2_with (at_builtin;refine zAN (by rfl) _ _ _ (by rfl) zCM Tryz.underlying55 (by rfl) (Own.nil_ rPin w5 w5.heap.size 63 (S:=fun _=>False) (fun b h=>h.elim)) (fun b=>b<w5.heap.size) (l.take k) _ _ _ (by rfl) HT3.out (by intro b hb he;simp[Value.ownBlock] at he) (by rw[Hlt1.out];simp[maxLen];omega) (by rw[Hlt1.out];simp;omega) (by simp) ?_)
   intro u6 w6 hown6 hgrow6 hat6
   have HB6:Hid (Below w5.heap.size w5 w6):=(bR _ _).grown hgrow6 (nR _) (fun k hk=>by simp[Value.ownBlock] at hk)
   have HO6:=cH (zCu hown6)
   obtain ⟨x0,x1,x2,x3⟩:=Hrow.out w6 (bot HB5.out HB6.out)
   have hz6:=HB6.out.size
   clear hown6 hgrow6 hat6
   go_wp2_with (at_builtin;refine zAM (by rfl) _ _ _ (by rfl) zCM Tryz.underlying55 (by rfl) (HO6.out.alloc _) ⟨w6.heap.size,0,none⟩ 1 [.string pn,.int .i64 v1,.int .i64 v2,.int .i64 v3] ⟨pn,v1,v2,v3⟩ (by rfl) ⟨rfl,Hp.out.1,Hp.out.2⟩ (zAd w6 #[.string pn,.int .i64 v1,.int .i64 v2,.int .i64 v3] _) (by rw[Hlt1.out];unfold maxLen;omega) (by rw[Hlt1.out];omega) (nT hz6 (by simp)) (w6.heap.size+1) (by simp) ?_)
   intro g9 cap9 w9 hown9 hgrow9 hat9 hlt9
   have HB9:=cH (zAw (bal HB6.out _) hgrow9 (HO6.out.alloc _) (nR _))
   have HO9:=cH (zCu hown9)
   have Hlb9:=cH hown9.lt
   have hz9:=HB9.out.size
   have Hdl:Hid ((l.drop k).length=n - k):=by unfold Hid;rw[List.length_drop,Hz0.out]
   have Hl9:Hid ((l.take k++[(⟨pn,v1,v2,v3⟩:Pin)]).length=k+1):=by unfold Hid;rw[List.length_append,Hlt1.out];rfl
   obtain ⟨X,hX⟩:∃ X,X=(if c=k then A else A.map (fun x:Addr=>x.add (k * 4))):=⟨_,rfl⟩
   have HT4:Hid (SlV rPin w9 (fun b=>b<w5.heap.size) (l.drop k) (.slice X (n - k) (c - k))):=by
    unfold Hid
    rw[hX]
    exact SlV.cutD (HLs.out.belowSize HB9.out) k hk
   have hsl:∀ W,(Instr.slice 55 (.slice A n c) (some (.int .i64 (k:Int))) none none).run Tryz.prog W=.ok (.slice X (n - k) (c - k)) W:=fun W=>by
    rw[hX]
    exact zCe (P:=Tryz.prog) (t:=55) (e:=63) (z:=4) Tryz.underlying55 (by kernel_rfl) (fun _=>by kernel_rfl) A n c k hk W
   clear hown9 hgrow9 hat9 hlt9 x0 x1 x2 x3 hX HT3 HLs HO6
   go_wp2_with (at_builtin;refine zAN (by rfl) _ _ _ (by rfl) zCM Tryz.underlying55 (by rfl) HO9.out (fun b=>b<w5.heap.size) (l.drop k) _ _ _ (by rfl) HT4.out (by intro b hb he;have:=(Hlb9.out b he).1;omega) (by rw[Hl9.out,Hdl.out];unfold maxLen;omega) (by rw[Hl9.out,Hdl.out];omega) hz9 ?_)
   intro u7 w7 hown7 hgrow7 hat7
   have HB7:=cH (bot HBw5.out (zAw HB9.out hgrow7 HO9.out (nR _)))
   have HO7:Hid (Own rPin w7 w5.heap.size 63 u7 RR (fun _=>False)):=by
    have HRR:RR=l.take k++[(⟨pn,v1,v2,v3⟩:Pin)]++l.drop k:=by rw[Hw.out,if_neg (by rw[Hno.out];decide),Hat.out];simp
    have h:=zCu hown7
    unfold Hid
    rw[HRR]
    first
     | exact h
     | simpa using h
   clear hown7 hgrow7 hat7 HT4 hsl HO9
   obtain ⟨A7,c7,rfl,_,_⟩:=HO7.out.slv.val
   have HS7:Hid (SlV rPin w7 (fun b=>S b∨w.heap.size≤b) RR (.slice A7 RR.length c7)):=HO7.out.slv.more fun b hb _=>Or.inr (by rcases hb with h|h;exact h.elim;omega)
   clear HO7
   go_wp2_with fail
   go_ret
   exact ⟨A7,c7,rfl,HS7.out,HB7.out⟩
theorem zJg (A:Option Addr) (n c:Nat) (l:List Pin) (p:Pin) (w:World) (S:Nat→Prop) (hl:SlV rPin w S l (.slice A n c)) (hlz:l.length≤1048576) (hp:p.name.size≤maxLen∧I64 p.ver.major∧I64 p.ver.minor∧I64 p.ver.patch) :
  Calls Tryz.prog 179 #[.slice A n c,.agg #[.string p.name,.int .i64 p.ver.major,.int .i64 p.ver.minor,.int .i64 p.ver.patch]] w fun e w'=>∃ A' c',e=.returned (.tuple #[.slice A' (withP l p).length c',.bool (!pinIs l p.name)])∧SlV rPin w' (fun b=>S b∨w.heap.size≤b) (withP l p) (.slice A' (withP l p).length c')∧Below w.heap.size w w':=by
 have hn:=hl.n_eq
 have hcap:=hl.cap_le
 unfold maxLen at hcap
 have HL:=cH hl
 have Hz0:Hid (l.length=n):=hn.symm
 have HR:Hid (pinAt l p.name=0+pinAt (l.drop 0) p.name):=by unfold Hid;rw[List.drop_zero,Nat.zero_add]
 have hnz:n≤1048576:=by omega
 have hnc:n≤c:=by omega
 have Hw:Hid (withP l p=if pinIs l p.name=true then l else l.take (pinAt l p.name)++p::l.drop (pinAt l p.name)):=rfl
 have Hp:=cH hp
 obtain ⟨pn,pv⟩:=p
 obtain ⟨v1,v2,v3⟩:=pv
 simp only at Hp HR
 have HLe:Hid (∀ W (x:ByteArray),x.size≤maxLen→Calls Tryz.prog 108 #[.string x,.string pn] W fun e w'=>e=.returned (.bool (lessB x pn))∧Below W.heap.size W w'):=fun W x hx=>zCs x pn hx Hp.out.1 W
 have HI:Hid (pinIs l pn=match l[pinAt l pn]? with|none=>false|some x=>decide (x.name=pn)):=rfl
 obtain ⟨RR,hRR⟩:∃ RR,RR=withP l ⟨pn,v1,v2,v3⟩:=⟨_,rfl⟩
 rw[←hRR] at Hw ⊢
 obtain ⟨RI,hRI⟩:∃ RI,RI=pinIs l pn:=⟨_,rfl⟩
 simp only at Hw
 rw[←hRI] at Hw HI ⊢
 have hpz:pinAt l pn≤n:=by have:=zIn l pn;omega
 have Hpz:=cH hpz
 clear hl hn hp hlz hcap hRR hRI hpz
 obtain ⟨w0,hw0⟩:∃ w0,w0=w.alloc (.cells #[.string pn,.int .i64 v1,.int .i64 v2,.int .i64 v3] 63):=⟨_,rfl⟩
 have HB0:Hid (Below w.heap.size w w0):=by unfold Hid;rw[hw0];exact bal (bR _ _) _
 have HQ0:Hid (w0.heap[w.heap.size]?=some (.cells #[.string pn,.int .i64 v1,.int .i64 v2,.int .i64 v3] 63 (0,0))):=by unfold Hid;rw[hw0];exact zAD _ _
 obtain ⟨g,hg⟩:∃ g,g=w.heap.size:=⟨_,rfl⟩
 rw[←hg] at HQ0
 have hz0:w.heap.size≤w0.heap.size:=HB0.out.size
 have Hrow:Hid (∀ W,Below w0.heap.size w0 W→W.cell? ⟨g,0,none⟩=some (.string pn)∧W.cell? ⟨g,1,none⟩=some (.int .i64 v1)∧W.cell? ⟨g,2,none⟩=some (.int .i64 v2)∧W.cell? ⟨g,3,none⟩=some (.int .i64 v3)):=fun W hW=>by
  have h:=(hW.block _ (aS.1 HQ0.out).1).trans HQ0.out
  exact ⟨cO _ _ 0 _ _ _ h,cO _ _ 1 _ _ _ h,cO _ _ 2 _ _ _ h,cO _ _ 3 _ _ _ h⟩
 go_enter Tryz.func179,Tryz.ntmps179
 go_wp2_with fail
 rw[←hw0,←hg]
 clear hw0 hg HQ0
 go_loopw [6] (fun t wr=>∃ k:Nat,k≤n∧t=.int .i64 k∧Hid (pinAt l pn=k+pinAt (l.drop k) pn)∧Hid (Below w0.heap.size w0 wr)) (fun t _=>n - (intOf t).toNat)
 case atStart=>exact ⟨0,nZ _,rfl,HR,bR _ _⟩
 case round=>
  clear HR
  obtain ⟨k,hk,rfl,heq,hB⟩:=hrel
  have hk0:(0:Int)≤(k:Int):=by omega
  obtain ⟨x0,x1,x2,x3⟩:=Hrow.out wr hB.out
  by_cases hlt:k<n
  rotate_left
  focus
   have hpI:¬(k:Int)<(n:Int):=by omega
   have hpd:decide ((k:Int)<(n:Int))=false:=decide_eq_false hpI
   have hpdn:decide (k<n)=false:=decide_eq_false hlt
   have Hat:Hid (pinAt l pn=k):=by
    unfold Hid
    rw[heq.out,dN (by have:=Hz0.out;omega)];rfl
   have Hno:Hid (RI=false):=by
    unfold Hid
    rw[HI.out,Hat.out,List.getElem?_eq_none (by have:=Hz0.out;omega)]
   clear heq
   go_upto_region 2 with (fail)
   have r_x0:=cR x0
   go_wp2_with fail
   refine wQ ?_
   repeat (go_big_quiet_step (first|fail))
   refine wpQuiet_nil fun w4 B4=>?_
   go_upto_region 4 with (fail)
   have B40:=B4
   clear r_x0 x0 x1 x2 x3
   obtain ⟨x0,x1,x2,x3⟩:=Hrow.out w4 (bot hB.out B40)
   have HB4:=cH (bot hB.out B40)
   clear B40 B4
   have r_x0:=cR x0
   go_wp2_with fail
   refine wQ ?_
   repeat (go_big_quiet_step (first|fail))
   refine wpQuiet_nil fun w5 B5=>?_
   have HB5:=cH (bot HB4.out B5)
   clear r_x0 x0 x1 x2 x3 B5 HB4
   go_upto_region 7 with (fail)
  rotate_left
  focus
   have hkI:(k:Int)<(n:Int):=by omega
   have hkd:decide ((k:Int)<(n:Int))=true:=decide_eq_true hkI
   have hkdn:decide (k<n)=true:=decide_eq_true hlt
   obtain ⟨x,hx⟩:∃ x,l[k]?=some x:=⟨_,gE (by have:=Hz0.out;omega)⟩
   have HBr:Hid (Below w.heap.size w wr):=bot HB0.out hB.out
   obtain ⟨b,o,cs,hA,_,hb1,⟨rfl,hsz,i1,i2,i3⟩,hcell⟩:=(HL.out.belowSize HBr.out).elem hx
   have c0:=hcell 0 _ rfl
   simp only[rPin,Nat.add_zero] at c0
   have hbw:b<wr.heap.size:=hb1
   have hdk:l.drop k=x::l.drop (k+1):=by
    obtain ⟨h,e⟩:=gS.1 hx
    rw[dC h,e]
   have Hstep:Hid (pinAt l pn=k+if lessB x.name pn=true then pinAt (l.drop (k+1)) pn+1 else 0):=by unfold Hid;rw[heq.out,hdk,zCc]
   have HTx:Hid (∀ W,Below wr.heap.size wr W→Calls Tryz.prog 108 #[.string x.name,.string pn] W fun e w'=>e=.returned (.bool (lessB x.name pn))∧Below W.heap.size W w'):=fun W _=>HLe.out W x.name hsz
   have HTq:=cH (qcall (w:=wr) HTx.out)
   have Hx:=cH hx
   clear hcell hsz i1 i2 i3 hdk heq hx HTx
   subst hA
   have Hname:Hid (∀ y,l[k]?=some y→y=x):=fun y hy=>Option.some.inj (hy.symm.trans Hx.out)
   obtain ⟨xn,xv⟩:=x
   simp only at c0 Hstep HTq
   by_cases hls:lessB xn pn=true
   focus
    rw[hls] at HTq
    have He:Hid (pinAt l pn=(k+1)+pinAt (l.drop (k+1)) pn):=by unfold Hid;rw[Hstep.out,if_pos hls];omega
    clear Hstep hls
    go_upto_region 2 with (fail)
    have r_x0:=cR x0
    have r_c0:=cR c0
    go_wp2_with fail
    refine wQ ?_
    repeat (go_big_quiet_step (first|(with_reducible exact HTq.out _ _)))
    refine wpQuiet_nil fun w4 B4=>?_
    have HB4:=cH (bot hB.out B4)
    clear B4
    go_wp2_with fail
    go_roundw
    case rel=>exact ⟨k+1,by omega,by go_num,He,HB4⟩
    case measure=>simp[intOf];omega
   have hls:lessB xn pn=false:=by simpa using hls
   have Hat:Hid (pinAt l pn=k):=by unfold Hid;rw[Hstep.out,if_neg (by rw[hls];decide)];rfl
   rw[hls] at HTq
   have HI2:Hid (RI=decide (xn=pn)):=by unfold Hid;rw[HI.out,Hat.out,Hx.out]
   clear Hstep hls
   go_upto_region 2 with (fail)
   have r_x0:=cR x0
   have r_c0:=cR c0
   go_wp2_with fail
   refine wQ ?_
   repeat (go_big_quiet_step (first|(with_reducible exact HTq.out _ _)))
   refine wpQuiet_nil fun w4 B4=>?_
   have HB4:=cH (bot hB.out B4)
   have c4:=zAA B4 c0 hbw
   clear r_x0 r_c0 x0 x1 x2 x3 c0 B4
   obtain ⟨x0,x1,x2,x3⟩:=Hrow.out w4 HB4.out
   by_cases hnm:xn=pn
   focus
    have hb2:=zAT hnm
    have Hy:Hid (RI=true):=by unfold Hid;rw[HI2.out,decide_eq_true hnm]
    clear HI2 hnm
    go_upto_region 4 with (fail)
    have r_x0:=cR x0
    have r_c4:=cR c4
    go_wp2_with fail
    refine wQ ?_
    repeat (go_big_quiet_step (first|fail))
    refine wpQuiet_nil fun w5 B5=>?_
    have HB5:=cH (bot HB4.out B5)
    clear B5
    go_wp2_with fail
    go_ret2
    have HRl:Hid (RR=l):=by unfold Hid;rw[Hw.out,if_pos Hy.out]
    refine ⟨some ⟨b,o,none⟩,c,(by rw[HRl.out,Hz0.out,Hy.out];try rfl),?_,bot HB0.out HB5.out⟩
    rw[HRl.out,Hz0.out]
    exact (HL.out.belowSize (bot HB0.out HB5.out)).more fun b hb _=>.inl hb
   have hb2:=zAL hnm
   have Hno:Hid (RI=false):=by unfold Hid;rw[HI2.out,decide_eq_false hnm]
   clear HI2 hnm
   go_upto_region 4 with (fail)
   have r_x0:=cR x0
   have r_c4:=cR c4
   go_wp2_with fail
   refine wQ ?_
   repeat (go_big_quiet_step (first|fail))
   refine wpQuiet_nil fun w5 B5=>?_
   have HB5:=cH (bot HB4.out B5)
   clear r_x0 r_c4 x0 x1 x2 x3 c4 B5 HB4 hb2
   generalize (some (⟨b,o,none⟩:Addr))=A at *
   go_upto_region 7 with (fail)
  all_goals
   have HBw5:Hid (Below w.heap.size w w5):=bot HB0.out HB5.out
   have hjc:k≤c:=by omega
   have Hlt1:Hid ((l.take k).length=k):=by unfold Hid;rw[List.length_take,Hz0.out];omega
   have HLs:Hid (SlV rPin w5 (fun b=>b<w5.heap.size) l (.slice A n c)):=(HL.out.belowSize HBw5.out).more fun b _ hl=>hl
   have HT3:Hid (SlV rPin w5 (fun b=>b<w5.heap.size) (l.take k) (.slice A k c)):=SlV.take HLs.out (by rw[Hz0.out];exact hk)
   have hwz:w.heap.size≤w5.heap.size:=HBw5.out.size
   go_wp2_with (at_builtin;refine zAN (by rfl) _ _ _ (by rfl) zCM Tryz.underlying55 (by rfl) (Own.nil_ rPin w5 w5.heap.size 63 (S:=fun _=>False) (fun b h=>h.elim)) (fun b=>b<w5.heap.size) (l.take k) _ _ _ (by rfl) HT3.out (by intro b hb he;simp[Value.ownBlock] at he) (by rw[Hlt1.out];simp[maxLen];omega) (by rw[Hlt1.out];simp;omega) (by simp) ?_)
   intro u6 w6 hown6 hgrow6 hat6
   have HB6:Hid (Below w5.heap.size w5 w6):=(bR _ _).grown hgrow6 (nR _) (fun k hk=>by simp[Value.ownBlock] at hk)
   have HO6:=cH (zCu hown6)
   obtain ⟨x0,x1,x2,x3⟩:=Hrow.out w6 (bot HB5.out HB6.out)
   have hz6:=HB6.out.size
   clear hown6 hgrow6 hat6
   go_wp2_with (at_builtin;refine zAM (by rfl) _ _ _ (by rfl) zCM Tryz.underlying55 (by rfl) (HO6.out.alloc _) ⟨w6.heap.size,0,none⟩ 1 [.string pn,.int .i64 v1,.int .i64 v2,.int .i64 v3] ⟨pn,v1,v2,v3⟩ (by rfl) ⟨rfl,Hp.out.1,Hp.out.2⟩ (zAd w6 #[.string pn,.int .i64 v1,.int .i64 v2,.int .i64 v3] _) (by rw[Hlt1.out];unfold maxLen;omega) (by rw[Hlt1.out];omega) (nT hz6 (by simp)) (w6.heap.size+1) (by simp) ?_)
   intro g9 cap9 w9 hown9 hgrow9 hat9 hlt9
   have HB9:=cH (zAw (bal HB6.out _) hgrow9 (HO6.out.alloc _) (nR _))
   have HO9:=cH (zCu hown9)
   have Hlb9:=cH hown9.lt
   have hz9:=HB9.out.size
   have Hdl:Hid ((l.drop k).length=n - k):=by unfold Hid;rw[List.length_drop,Hz0.out]
   have Hl9:Hid ((l.take k++[(⟨pn,v1,v2,v3⟩:Pin)]).length=k+1):=by unfold Hid;rw[List.length_append,Hlt1.out];rfl
   obtain ⟨X,hX⟩:∃ X,X=(if c=k then A else A.map (fun x:Addr=>x.add (k * 4))):=⟨_,rfl⟩
   have HT4:Hid (SlV rPin w9 (fun b=>b<w5.heap.size) (l.drop k) (.slice X (n - k) (c - k))):=by
    unfold Hid
    rw[hX]
    exact SlV.cutD (HLs.out.belowSize HB9.out) k hk
   have hsl:∀ W,(Instr.slice 55 (.slice A n c) (some (.int .i64 (k:Int))) none none).run Tryz.prog W=.ok (.slice X (n - k) (c - k)) W:=fun W=>by
    rw[hX]
    exact zCe (P:=Tryz.prog) (t:=55) (e:=63) (z:=4) Tryz.underlying55 (by kernel_rfl) (fun _=>by kernel_rfl) A n c k hk W
   clear hown9 hgrow9 hat9 hlt9 x0 x1 x2 x3 hX HT3 HLs HO6
   go_wp2_with (at_builtin;refine zAN (by rfl) _ _ _ (by rfl) zCM Tryz.underlying55 (by rfl) HO9.out (fun b=>b<w5.heap.size) (l.drop k) _ _ _ (by rfl) HT4.out (by intro b hb he;have:=(Hlb9.out b he).1;omega) (by rw[Hl9.out,Hdl.out];unfold maxLen;omega) (by rw[Hl9.out,Hdl.out];omega) hz9 ?_)
   intro u7 w7 hown7 hgrow7 hat7
   have HB7:=cH (bot HBw5.out (zAw HB9.out hgrow7 HO9.out (nR _)))
   have HO7:Hid (Own rPin w7 w5.heap.size 63 u7 RR (fun _=>False)):=by
    have HRR:RR=l.take k++[(⟨pn,v1,v2,v3⟩:Pin)]++l.drop k:=by rw[Hw.out,if_neg (by rw[Hno.out];decide),Hat.out];simp
    have h:=zCu hown7
    unfold Hid
    rw[HRR]
    first
     | exact h
     | simpa using h
   clear hown7 hgrow7 hat7 HT4 hsl HO9
   obtain ⟨A7,c7,rfl,_,_⟩:=HO7.out.slv.val
   have HS7:Hid (SlV rPin w7 (fun b=>S b∨w.heap.size≤b) RR (.slice A7 RR.length c7)):=HO7.out.slv.more fun b hb _=>Or.inr (by rcases hb with h|h;exact h.elim;omega)
   clear HO7
   go_wp2_with fail
   go_ret2
   exact ⟨A7,c7,by rw[Hno.out];rfl,HS7.out,HB7.out⟩
theorem zEZ (x1 x2 x3 y1 y2 y3:Int) (w:World) :
  Calls Tryz.prog 109 #[.agg #[.int .i64 x1,.int .i64 x2,.int .i64 x3],.agg #[.int .i64 y1,.int .i64 y2,.int .i64 y3]] w fun e w'=>e=.returned (.int .i64 (cmp3T x1 x2 x3 y1 y2 y3))∧Below w.heap.size w w':=by
 obtain ⟨R,hR⟩:∃ R,R=cmp3T x1 x2 x3 y1 y2 y3:=⟨_,rfl⟩
 rw[←hR]
 have F1:Hid (x1<y1→R=-1):=fun h=>by rw[hR];unfold cmp3T;rw[if_pos h]
 have F2:Hid (¬x1<y1→y1<x1→R=1):=fun h0 h=>by rw[hR];unfold cmp3T;rw[if_neg h0,if_pos h]
 have F3:Hid (x1=y1→x2<y2→R=-1):=fun h0 h=>by rw[hR];unfold cmp3T;rw[if_neg (by omega),if_neg (by omega),if_pos h]
 have F4:Hid (x1=y1→¬x2<y2→y2<x2→R=1):=fun h0 h1 h=>by rw[hR];unfold cmp3T;rw[if_neg (by omega),if_neg (by omega),if_neg h1,if_pos h]
 have F5:Hid (x1=y1→x2=y2→x3<y3→R=-1):=fun h0 h1 h=>by rw[hR];unfold cmp3T;rw[if_neg (by omega),if_neg (by omega),if_neg (by omega),if_neg (by omega),if_pos h]
 have F6:Hid (x1=y1→x2=y2→¬x3<y3→y3<x3→R=1):=fun h0 h1 h2 h=>by rw[hR];unfold cmp3T;rw[if_neg (by omega),if_neg (by omega),if_neg (by omega),if_neg (by omega),if_neg h2,if_pos h]
 have F7:Hid (x1=y1→x2=y2→x3=y3→R=0):=fun h0 h1 h2=>by rw[hR];unfold cmp3T;rw[if_neg (by omega),if_neg (by omega),if_neg (by omega),if_neg (by omega),if_neg (by omega),if_neg (by omega)]
 clear hR
 go_enter Tryz.func109,Tryz.ntmps109
 go_wp2_with fail
 obtain ⟨w1,hw1⟩:∃ w1,w1=(((w.alloc (.cells #[.int .i64 x1,.int .i64 x2,.int .i64 x3] 50)).alloc (.cells #[.int .i64 y1,.int .i64 y2,.int .i64 y3] 50)).alloc (.cells #[.int .i64 x1,.int .i64 x2,.int .i64 x3] 3)).alloc (.cells #[.int .i64 y1,.int .i64 y2,.int .i64 y3] 3):=⟨_,rfl⟩
 have HB1:Hid (Below w.heap.size w w1):=by unfold Hid;rw[hw1];exact bal (bal (bal (bal (bR _ _) _) _) _) _
 have hx:w1.heap[w.heap.size+2]?=some (.cells #[.int .i64 x1,.int .i64 x2,.int .i64 x3] 3 (0,0)):=by
  rw[hw1]
  have:=heap_alloc_new ((w.alloc (.cells #[.int .i64 x1,.int .i64 x2,.int .i64 x3] 50)).alloc (.cells #[.int .i64 y1,.int .i64 y2,.int .i64 y3] 50)) (.cells #[.int .i64 x1,.int .i64 x2,.int .i64 x3] 3)
  simp only[World.size_alloc] at this
  rw[Below.heap_alloc _ _ _ (by simp)]
  exact this
 have hy:w1.heap[w.heap.size+2+1]?=some (.cells #[.int .i64 y1,.int .i64 y2,.int .i64 y3] 3 (0,0)):=by
  rw[hw1]
  have:=heap_alloc_new (((w.alloc (.cells #[.int .i64 x1,.int .i64 x2,.int .i64 x3] 50)).alloc (.cells #[.int .i64 y1,.int .i64 y2,.int .i64 y3] 50)).alloc (.cells #[.int .i64 x1,.int .i64 x2,.int .i64 x3] 3)) (.cells #[.int .i64 y1,.int .i64 y2,.int .i64 y3] 3)
  simp only[World.size_alloc] at this
  exact this
 rw[←hw1]
 clear hw1
 have HX:=cH hx
 have HY:=cH hy
 obtain ⟨bx,hbx⟩:∃ bx,bx=w.heap.size+2:=⟨_,rfl⟩
 rw[←hbx] at HX HY
 rw[←hbx]
 obtain ⟨yb,hby⟩:∃ yb,yb=bx+1:=⟨_,rfl⟩
 rw[←hby] at HY
 rw[←hby]
 clear hbx hby hx hy
 go_loopw [7] (fun i wr=>∃ k:Nat,k≤3∧i=.int .i64 k∧Hid ((1≤k→x1=y1)∧(2≤k→x2=y2)∧(3≤k→x3=y3))∧Hid (Below w1.heap.size w1 wr)) (fun i _=>3 - (intOf i).toNat)
 case atStart=>exact ⟨0,nZ _,rfl,⟨fun h=>absurd h (by decide),fun h=>absurd h (by decide),fun h=>absurd h (by decide)⟩,bR _ _⟩
 case round=>
  obtain ⟨k,hk,rfl,Hq,HB⟩:=hrel
  have HBw:=cH (bot HB1.out HB.out)
  obtain ⟨⟨c0,c1,c2⟩,_⟩:=row3P ((HB.out.block _ (aS.1 HX.out).1).trans HX.out)
  obtain ⟨⟨d0,d1,d2⟩,_⟩:=row3P ((HB.out.block _ (aS.1 HY.out).1).trans HY.out)
  have hkk:k=0∨k=1∨k=2∨k=3:=by omega
  rcases hkk with rfl|rfl|rfl|rfl
  ·by_cases hl:x1<y1
   ·have He:Hid (R=-1):=F1.out hl
    clear F1 F2 F3 F4 F5 F6 F7 Hq
    have r_c0:=cR c0
    have r_d0:=cR d0
    go_wp2_with fail
    refine wQ ?_
    repeat (go_big_quiet_step (first|fail))
    refine wpQuiet_nil fun w3 B3=>?_
    go_wp2_with fail
    go_ret
    exact ⟨by rw[He.out];rfl,bot HBw.out B3⟩
   ·by_cases hg:y1<x1
    ·have He:Hid (R=1):=F2.out (by omega) hg
     clear F1 F2 F3 F4 F5 F6 F7 Hq
     have r_c0:=cR c0
     have r_d0:=cR d0
     go_wp2_with fail
     refine wQ ?_
     repeat (go_big_quiet_step (first|fail))
     refine wpQuiet_nil fun w3 B3=>?_
     have c0':=zAA B3 c0 (zAf c0)
     have d0':=zAA B3 d0 (zAf d0)
     have r_c0':=cR c0'
     have r_d0':=cR d0'
     go_wp2_with fail
     refine wQ ?_
     repeat (go_big_quiet_step (first|fail))
     refine wpQuiet_nil fun w4 B4=>?_
     go_wp2_with fail
     go_ret
     exact ⟨by rw[He.out];rfl,bot HBw.out (bot B3 B4)⟩
    ·have hee:x1=y1:=by omega
     have Hq2:Hid ((1≤1→x1=y1)∧(2≤1→x2=y2)∧(3≤1→x3=y3)):=⟨fun _=>hee,fun h=>absurd h (by decide),fun h=>absurd h (by decide)⟩
     clear Hq hee
     have r_c0:=cR c0
     have r_d0:=cR d0
     go_wp2_with fail
     refine wQ ?_
     repeat (go_big_quiet_step (first|fail))
     refine wpQuiet_nil fun w3 B3=>?_
     have c0':=zAA B3 c0 (zAf c0)
     have d0':=zAA B3 d0 (zAf d0)
     have r_c0':=cR c0'
     have r_d0':=cR d0'
     go_wp2_with fail
     refine wQ ?_
     repeat (go_big_quiet_step (first|fail))
     refine wpQuiet_nil fun w4 B4=>?_
     have HB4:=cH (bot HB.out (bot B3 B4))
     go_wp2_with fail
     go_roundw
     case rel=>exact ⟨1,by decide,rfl,Hq2,HB4⟩
     case measure=>simp[intOf]
  ·by_cases hl:x2<y2
   ·have He:Hid (R=-1):=F3.out (Hq.out.1 (by decide)) hl
    clear F1 F2 F3 F4 F5 F6 F7 Hq
    have r_c1:=cR c1
    have r_d1:=cR d1
    go_wp2_with fail
    refine wQ ?_
    repeat (go_big_quiet_step (first|fail))
    refine wpQuiet_nil fun w3 B3=>?_
    go_wp2_with fail
    go_ret
    exact ⟨by rw[He.out];rfl,bot HBw.out B3⟩
   ·by_cases hg:y2<x2
    ·have He:Hid (R=1):=F4.out (Hq.out.1 (by decide)) (by omega) hg
     clear F1 F2 F3 F4 F5 F6 F7 Hq
     have r_c1:=cR c1
     have r_d1:=cR d1
     go_wp2_with fail
     refine wQ ?_
     repeat (go_big_quiet_step (first|fail))
     refine wpQuiet_nil fun w3 B3=>?_
     have c1':=zAA B3 c1 (zAf c1)
     have d1':=zAA B3 d1 (zAf d1)
     have r_c1':=cR c1'
     have r_d1':=cR d1'
     go_wp2_with fail
     refine wQ ?_
     repeat (go_big_quiet_step (first|fail))
     refine wpQuiet_nil fun w4 B4=>?_
     go_wp2_with fail
     go_ret
     exact ⟨by rw[He.out];rfl,bot HBw.out (bot B3 B4)⟩
    ·have hee:x2=y2:=by omega
     have Hq2:Hid ((1≤2→x1=y1)∧(2≤2→x2=y2)∧(3≤2→x3=y3)):=⟨fun _=>Hq.out.1 (by decide),fun _=>hee,fun h=>absurd h (by decide)⟩
     clear Hq hee
     have r_c1:=cR c1
     have r_d1:=cR d1
     go_wp2_with fail
     refine wQ ?_
     repeat (go_big_quiet_step (first|fail))
     refine wpQuiet_nil fun w3 B3=>?_
     have c1':=zAA B3 c1 (zAf c1)
     have d1':=zAA B3 d1 (zAf d1)
     have r_c1':=cR c1'
     have r_d1':=cR d1'
     go_wp2_with fail
     refine wQ ?_
     repeat (go_big_quiet_step (first|fail))
     refine wpQuiet_nil fun w4 B4=>?_
     have HB4:=cH (bot HB.out (bot B3 B4))
     go_wp2_with fail
     go_roundw
     case rel=>exact ⟨2,by decide,rfl,Hq2,HB4⟩
     case measure=>simp[intOf]
  ·by_cases hl:x3<y3
   ·have He:Hid (R=-1):=F5.out (Hq.out.1 (by decide)) (Hq.out.2.1 (by decide)) hl
    clear F1 F2 F3 F4 F5 F6 F7 Hq
    have r_c2:=cR c2
    have r_d2:=cR d2
    go_wp2_with fail
    refine wQ ?_
    repeat (go_big_quiet_step (first|fail))
    refine wpQuiet_nil fun w3 B3=>?_
    go_wp2_with fail
    go_ret
    exact ⟨by rw[He.out];rfl,bot HBw.out B3⟩
   ·by_cases hg:y3<x3
    ·have He:Hid (R=1):=F6.out (Hq.out.1 (by decide)) (Hq.out.2.1 (by decide)) (by omega) hg
     clear F1 F2 F3 F4 F5 F6 F7 Hq
     have r_c2:=cR c2
     have r_d2:=cR d2
     go_wp2_with fail
     refine wQ ?_
     repeat (go_big_quiet_step (first|fail))
     refine wpQuiet_nil fun w3 B3=>?_
     have c2':=zAA B3 c2 (zAf c2)
     have d2':=zAA B3 d2 (zAf d2)
     have r_c2':=cR c2'
     have r_d2':=cR d2'
     go_wp2_with fail
     refine wQ ?_
     repeat (go_big_quiet_step (first|fail))
     refine wpQuiet_nil fun w4 B4=>?_
     go_wp2_with fail
     go_ret
     exact ⟨by rw[He.out];rfl,bot HBw.out (bot B3 B4)⟩
    ·have hee:x3=y3:=by omega
     have Hq2:Hid ((1≤3→x1=y1)∧(2≤3→x2=y2)∧(3≤3→x3=y3)):=⟨fun _=>Hq.out.1 (by decide),fun _=>Hq.out.2.1 (by decide),fun _=>hee⟩
     clear Hq hee
     have r_c2:=cR c2
     have r_d2:=cR d2
     go_wp2_with fail
     refine wQ ?_
     repeat (go_big_quiet_step (first|fail))
     refine wpQuiet_nil fun w3 B3=>?_
     have c2':=zAA B3 c2 (zAf c2)
     have d2':=zAA B3 d2 (zAf d2)
     have r_c2':=cR c2'
     have r_d2':=cR d2'
     go_wp2_with fail
     refine wQ ?_
     repeat (go_big_quiet_step (first|fail))
     refine wpQuiet_nil fun w4 B4=>?_
     have HB4:=cH (bot HB.out (bot B3 B4))
     go_wp2_with fail
     go_roundw
     case rel=>exact ⟨3,by decide,rfl,Hq2,HB4⟩
     case measure=>simp[intOf]
  ·have He:Hid (R=0):=F7.out (Hq.out.1 (by decide)) (Hq.out.2.1 (by decide)) (Hq.out.2.2 (by decide))
   clear F1 F2 F3 F4 F5 F6 F7 Hq
   go_wp2_with fail
   go_ret
   exact ⟨by rw[He.out];rfl,HBw.out⟩
theorem PackV.open_ {w:World} {S:Nat→Prop} {x:Pack} {u:Value} (h:PackV w S x u):∃ A B C a b c,u=.agg #[.string x.name,.int .i64 x.ver.major,.int .i64 x.ver.minor,.int .i64 x.ver.patch,.slice A x.deps.length a,.slice B x.peers.length b,.slice C x.opts.length c]∧x.name.size≤maxLen∧SlV rDep w S x.deps (.slice A x.deps.length a)∧SlV rDep w S x.peers (.slice B x.peers.length b)∧SlV rDep w S x.opts (.slice C x.opts.length c):=by
 obtain ⟨A,n,a,B,m,b,C,k,c,rfl,h1,h2,h3,h4⟩:=h
 have e2:=h2.n_eq
 have e3:=h3.n_eq
 have e4:=h4.n_eq
 subst e2 e3 e4
 exact ⟨A,B,C,a,b,c,rfl,h1,h2,h3,h4⟩
theorem zLC (x y:Pack) (u v:Value) (w:World) (S T:Nat→Prop) (hu:PackV w S x u) (hv:PackV w T y v) :
  Calls Tryz.prog 64 #[u,v] w fun e w'=>e=.returned (.bool (zCz x y))∧Below w.heap.size w w':=by
 obtain ⟨A1,B1,C1,a1,b1,c1,rfl,hx,_,_,_⟩:=hu.open_
 obtain ⟨A2,B2,C2,a2,b2,c2,rfl,hy,_,_,_⟩:=hv.open_
 have HR1:Hid (x.name≠y.name→zCz x y=lessB x.name y.name):=fun h=>by unfold zCz;rw[if_neg h]
 have HR2:Hid (x.name=y.name→zCz x y=decide (0<cmp3T x.ver.major x.ver.minor x.ver.patch y.ver.major y.ver.minor y.ver.patch)):=fun h=>by unfold zCz;rw[if_pos h];rfl
 have HLe:Hid (∀ W,Calls Tryz.prog 108 #[.string x.name,.string y.name] W fun e w'=>e=.returned (.bool (lessB x.name y.name))∧Below W.heap.size W w'):=fun W=>zCs _ _ hx hy W
 have HCm:Hid (∀ W,Calls Tryz.prog 109 #[.agg #[.int .i64 x.ver.major,.int .i64 x.ver.minor,.int .i64 x.ver.patch],.agg #[.int .i64 y.ver.major,.int .i64 y.ver.minor,.int .i64 y.ver.patch]] W fun e w'=>e=.returned (.int .i64 (cmp3T x.ver.major x.ver.minor x.ver.patch y.ver.major y.ver.minor y.ver.patch))∧Below W.heap.size W w'):=fun W=>zEZ _ _ _ _ _ _ W
 clear hu hv hx hy
 generalize zCz x y=R at *
 generalize lessB x.name y.name=ls at *
 generalize cmp3T x.ver.major x.ver.minor x.ver.patch y.ver.major y.ver.minor y.ver.patch=cm at *
 obtain ⟨xn,⟨x1,x2,x3⟩,xd,xp,xo⟩:=x
 obtain ⟨yn,⟨y1,y2,y3⟩,yd,yp,yo⟩:=y
 simp only at HR1 HR2 HLe HCm ⊢
 generalize xd.length=l1 at *
 generalize xp.length=l2 at *
 generalize xo.length=l3 at *
 generalize yd.length=m1 at *
 generalize yp.length=m2 at *
 generalize yo.length=m3 at *
 obtain ⟨w0,hw0⟩:∃ w0,w0=(w.alloc (.cells #[.string xn,.int .i64 x1,.int .i64 x2,.int .i64 x3,.slice A1 l1 a1,.slice B1 l2 b1,.slice C1 l3 c1] 52)).alloc (.cells #[.string yn,.int .i64 y1,.int .i64 y2,.int .i64 y3,.slice A2 m1 a2,.slice B2 m2 b2,.slice C2 m3 c2] 52):=⟨_,rfl⟩
 have hw1:(w.alloc (.cells #[.string xn,.int .i64 x1,.int .i64 x2,.int .i64 x3,.slice A1 l1 a1,.slice B1 l2 b1,.slice C1 l3 c1] 52)).heap.size=w.heap.size+1:=by simp
 have HB0:Hid (Below w.heap.size w w0):=by unfold Hid;rw[hw0];exact bal (bal (bR _ _) _) _
 have hqX:w0.heap[w.heap.size]?=some (.cells #[.string xn,.int .i64 x1,.int .i64 x2,.int .i64 x3,.slice A1 l1 a1,.slice B1 l2 b1,.slice C1 l3 c1] 52 (0,0)):=by
  rw[hw0]
  exact ((bal (bR _ _) _).block _ (by rw[hw1];omega)).trans (zAD _ _)
 have hqY:w0.heap[w.heap.size+1]?=some (.cells #[.string yn,.int .i64 y1,.int .i64 y2,.int .i64 y3,.slice A2 m1 a2,.slice B2 m2 b2,.slice C2 m3 c2] 52 (0,0)):=by
  rw[hw0,←hw1]
  exact zAD _ _
 have p0:=cO _ _ 0 _ _ _ hqX
 have p1:=cO _ _ 1 _ _ _ hqX
 have p2:=cO _ _ 2 _ _ _ hqX
 have p3:=cO _ _ 3 _ _ _ hqX
 have q0:=cO _ _ 0 _ _ _ hqY
 have q1:=cO _ _ 1 _ _ _ hqY
 have q2:=cO _ _ 2 _ _ _ hqY
 have q3:=cO _ _ 3 _ _ _ hqY
 clear hqX hqY hw1
 go_enter Tryz.func64,Tryz.ntmps64
 by_cases hnm:xn=yn
 ·have hb:=zAT hnm
  have He:=cH (HR2.out hnm)
  clear HR1 HR2 hnm HLe
  go_upto_region 1 with (fail)
  rw[←hw0]
  clear hw0
  go_wp2_with fail
  refine (HCm.out w0).mono ?_
  rintro e w2 ⟨rfl,hb2⟩
  have HB2:=cH (bot HB0.out hb2)
  clear hb2 HCm
  go_wp2_with fail
  go_ret
  exact ⟨zAB He.out.symm,HB2.out⟩
 ·have hb:=zAL hnm
  have He:=cH (HR1.out hnm)
  clear HR1 HR2 hnm HCm
  go_upto_region 1 with (fail)
  rw[←hw0]
  clear hw0
  go_wp2_with fail
  refine (HLe.out w0).mono ?_
  rintro e w2 ⟨rfl,hb2⟩
  have HB2:=cH (bot HB0.out hb2)
  clear hb2 HLe
  go_wp2_with fail
  go_ret
  exact ⟨zAB He.out.symm,HB2.out⟩
