/- lock.May: may a graph be locked: walked. -/
import Derived.Test.YthbnmehbhpakaaaGreatDoorBk08
import Derived.Test.YthbnmehbhpakaaaGreatDoorBk04
import Derived.Test.YthbnmehbhpakaaaGreatDoorBk05
import Derived.Test.YthbnmehbhpakaaaGreatDoorBk01
import Derived.Test.YthbnmehbhpakaaaGreatDoorAl
set_option linter.all false
set_option maxHeartbeats 6400000
set_option maxRecDepth 100000
namespace Go.Proofs.YthbnmehbhpakaaaGreatDoor
open Go.Rows Go.RowKit Go.Shelf Go.Sort
theorem zA1 {a b:Bool} (h:a=b):Ending.returned (.bool a)=.returned (.bool b):=by rw[h]
theorem zJ5 (g:FuncId) (cap:Value) (hE:zEk Tryz.prog g) (l:List ByteArray) (n:Nat) (hn:n=l.length) (w:World) (hlen:n≤1000000000000) (hz:∀ s∈l,s.size≤maxLen)
  (hq:∀ W (k:Nat) s,l[k]?=some s→Below w.heap.size w W→Calls Tryz.prog g #[.int .i64 (k:Int),cap] W fun e w'=>e=.returned (.string s)∧Below W.heap.size W w') :
  Calls Tryz.prog 192 #[.int .i64 (n:Int),.func (.func g) #[] #[cap]] w fun e w'=>e=.returned (.bool (zC4 l))∧Below w.heap.size w w':=by
 have Hq:=cH hq
 have Hz:=cH hz
 have HN:Hid (∀ s:ByteArray,s∈l→∀ W,Calls Tryz.prog 61 #[.string s] W fun e w'=>e=.returned (.bool (nameB s))∧Below W.heap.size W w'):=fun s hs W=>zA2 s (hz s hs) W
 have HR:Hid (zC4 l=(zCL (zE9 l 0) (l.drop 0)&&decide (n≤128))):=by unfold Hid zC4;rw[hn];rfl
 have Hn:=cH hn
 clear hq hz hn
 generalize zC4 l=R at *
 go_enter Tryz.func192,Tryz.ntmps192
 go_wp2_with fail
 go_loopw [7] (fun i wr=>∃ k:Nat,k≤n∧i=.int .i64 k∧Hid (R=(zCL (zE9 l k) (l.drop k)&&decide (n≤128)))∧Below w.heap.size w wr) (fun i _=>n - (intOf i).toNat)
 case atStart=>exact ⟨0,nZ _,rfl,HR,bR _ _⟩
 case round=>
  obtain ⟨k,hk,rfl,Hm,hbel⟩:=hrel
  have HB:=cH hbel
  clear hbel
  by_cases hlt:k<n
  case neg=>
   obtain rfl:k=n:=by omega
   have hI:¬(k:Int)<(k:Int):=by omega
   have Hr:Hid (R=decide (k≤128)):=by unfold Hid;rw[Hm.out,zKZ (by rw[←Hn.out];exact nR _),Bool.true_and]
   clear Hm
   by_cases h1:k≤128
   ·have h1I:(k:Int)≤128:=by omega
    rw[decide_eq_true h1] at Hr
    go_wp2_with fail
    go_ret
    exact ⟨zA1 Hr.out.symm,HB.out⟩
   ·have h1I:¬(k:Int)≤128:=by omega
    rw[decide_eq_false h1] at Hr
    go_wp2_with fail
    go_ret
    exact ⟨zA1 Hr.out.symm,HB.out⟩
  have hkI:(k:Int)<(n:Int):=by omega
  have hk0:(0:Int)≤(k:Int):=by omega
  have hkl:k<l.length:=by rw[←Hn.out];exact hlt
  obtain ⟨s,hs⟩:∃ s,l[k]?=some s:=⟨_,gE hkl⟩
  have hsm:=mG hs
  have Hst:=cH (Hm.out.trans (congrArg (·&&decide (n≤128)) (zKf hs)))
  have Hc:=cH (fun W hW=>Hq.out W k s hs hW)
  have Hnm:=cH (HN.out s hsm)
  have hent:=fun args W=>hE args W
  clear Hm
  cases hnb:nameB s with
  | false=>
    have Hr:Hid (R=false):=by unfold Hid;rw[Hst.out,hnb];rfl
    rw[hnb] at Hnm
    clear Hst
    go_wp2_with fail
    refine (Hc.out _ HB.out).mono ?_
    rintro e w1 ⟨rfl,hb1⟩
    have HB1:=cH (bot HB.out hb1)
    clear hb1
    go_wp2_with fail
    refine (Hnm.out _).mono ?_
    rintro e w2 ⟨rfl,hb2⟩
    have HB2:=cH (bot HB1.out hb2)
    clear hb2 HB1
    go_wp2_with fail
    go_ret
    exact ⟨zA1 Hr.out.symm,HB2.out⟩
  | true=>
  rw[hnb] at Hnm
  cases k with
  | zero=>
    have Hnx:Hid (R=(zCL (zE9 l (0+1)) (l.drop (0+1))&&decide (n≤128))):=by unfold Hid;rw[Hst.out,hnb];rfl
    clear Hst
    go_wp2_with fail
    refine (Hc.out _ HB.out).mono ?_
    rintro e w1 ⟨rfl,hb1⟩
    have HB1:=cH (bot HB.out hb1)
    clear hb1
    go_wp2_with fail
    refine (Hnm.out _).mono ?_
    rintro e w2 ⟨rfl,hb2⟩
    have HB2:=cH (bot HB1.out hb2)
    clear hb2 HB1
    go_wp2_with fail
    go_roundw
    case rel=>exact ⟨0+1,by omega,by go_num,Hnx,HB2.out⟩
    case measure=>simp[intOf];omega
  | succ j=>
    obtain ⟨s1,hs1⟩:∃ s1,l[j]?=some s1:=⟨_,gE (by omega)⟩
    have Hc1:=cH (fun W hW=>Hq.out W j s1 hs1 hW)
    have Hpv:Hid (zE9 l (j+1)=some s1):=hs1
    have hwj:IntKind.i64.wrap (((j+1:Nat):Int) - 1)=(j:Int):=by rw[IntWalk.i64_in _ ⟨by omega,by omega⟩];omega
    have hgt:(0:Int)<((j+1:Nat):Int):=by omega
    have Hls:Hid (behind (some s1) s=Op.bytesLess s1.toList s.toList):=rfl
    rw[Hpv.out,hnb,Hls.out,Bool.true_and] at Hst
    go_wp2_with fail
    refine (Hc.out _ HB.out).mono ?_
    rintro e w1 ⟨rfl,hb1⟩
    have HB1:=cH (bot HB.out hb1)
    clear hb1
    go_wp2_with fail
    refine (Hnm.out _).mono ?_
    rintro e w2 ⟨rfl,hb2⟩
    have HB2:=cH (bot HB1.out hb2)
    clear hb2 HB1
    go_wp2_with fail
    refine (Hc1.out _ HB2.out).mono ?_
    rintro e w3 ⟨rfl,hb3⟩
    have HB3:=cH (bot HB2.out hb3)
    clear hb3 HB2
    go_wp2_with fail
    refine (Hc.out _ HB3.out).mono ?_
    rintro e w4 ⟨rfl,hb4⟩
    have HB4:=cH (bot HB3.out hb4)
    clear hb4 HB3
    cases hls:Op.bytesLess s1.toList s.toList with
    | true=>
      have Hnx:Hid (R=(zCL (zE9 l (j+1+1)) (l.drop (j+1+1))&&decide (n≤128))):=by unfold Hid;rw[Hst.out,hls,Bool.true_and]
      clear Hst
      go_wp2_with fail
      go_roundw
      case rel=>exact ⟨j+1+1,by omega,by go_num,Hnx,HB4.out⟩
      case measure=>simp[intOf];omega
    | false=>
      have Hr:Hid (R=false):=by unfold Hid;rw[Hst.out,hls];rfl
      clear Hst
      go_wp2_with fail
      go_ret
      exact ⟨zA1 Hr.out.symm,HB4.out⟩
theorem zJp:zEk Tryz.prog 193:=zA9 Tryz.func193 (by kernel_rfl) rfl
theorem zNm (q:Nat) (A:Option Addr) (n c:Nat) (l:List Pin) (S:Nat→Prop) (k:Nat) (s:ByteArray) (w:World) (hc:w.cell? ⟨q,4,none⟩=some (.slice A n c)) (hl:SlV rPin w S l (.slice A n c)) (hs:(zB2 l)[k]?=some s) :
  Calls Tryz.prog 193 #[.int .i64 (k:Int),.pointer (some ⟨q,0,none⟩)] w fun e w'=>e=.returned (.string s)∧Below w.heap.size w w':=by
 unfold zB2 at hs
 rw[List.getElem?_map] at hs
 obtain ⟨x,hx,rfl⟩:=Option.map_eq_some_iff.1 hs
 have hn:=hl.n_eq
 have hcm:=hl.cap_le
 unfold maxLen at hcm
 have hk:=(gS.1 hx).1
 have hkI:(k:Int)<(n:Int):=by omega
 have hk0:(0:Int)≤(k:Int):=by omega
 obtain ⟨b,o,cs,hA,_,_,hh,hcell⟩:=hl.elem hx
 subst hA
 obtain ⟨hcs,_⟩:=hh
 have c0:=hcell 0 _ (by rw[hcs];rfl)
 simp only[rPin,Nat.add_zero] at c0
 clear hcell hl hs
 go_enter Tryz.func193,Tryz.ntmps193
 go_wp2_with fail
 go_ret
 exact ⟨rfl,bR _ _⟩
theorem zJv:zEk Tryz.prog 194:=zA9 Tryz.func194 (by kernel_rfl) rfl
theorem zOK (q:Nat) (A:Option Addr) (n c:Nat) (l:List Edge) (S:Nat→Prop) (k:Nat) (s:ByteArray) (w:World) (hc:w.cell? ⟨q,5,none⟩=some (.slice A n c)) (hl:SlV rEdge w S l (.slice A n c)) (hs:(zBU l)[k]?=some s) :
  Calls Tryz.prog 194 #[.int .i64 (k:Int),.pointer (some ⟨q,0,none⟩)] w fun e w'=>e=.returned (.string s)∧Below w.heap.size w w':=by
 unfold zBU at hs
 rw[List.getElem?_map] at hs
 obtain ⟨x,hx,rfl⟩:=Option.map_eq_some_iff.1 hs
 have hn:=hl.n_eq
 have hcm:=hl.cap_le
 unfold maxLen at hcm
 have hk:=(gS.1 hx).1
 have hkI:(k:Int)<(n:Int):=by omega
 have hk0:(0:Int)≤(k:Int):=by omega
 obtain ⟨b,o,cs,hA,_,_,hh,hcell⟩:=hl.elem hx
 subst hA
 obtain ⟨hcs,_⟩:=hh
 have c0:=hcell 0 _ (by rw[hcs];rfl)
 simp only[rEdge,Nat.add_zero] at c0
 clear hcell hl hs
 go_enter Tryz.func194,Tryz.ntmps194
 go_wp2_with fail
 go_ret
 exact ⟨rfl,bR _ _⟩
theorem zL9 {l:List Pin} {k:Nat} {q:Pin} (h:l[k]?=some q):zHa (l.drop k)=(verOk q.ver&&zHa (l.drop (k+1))):=by
 obtain ⟨hk,e⟩:=gS.1 h
 unfold zHa
 rw[dC hk,e,List.all_cons]
theorem zKB {many:Nat} {l:List Edge} {k:Nat} {q:Edge} (h:l[k]?=some q):zDo many (l.drop k)=((decide (1≤q.to)&&decide (q.to<many))&&zDo many (l.drop (k+1))):=by
 obtain ⟨hk,e⟩:=gS.1 h
 unfold zDo
 rw[dC hk,e,List.all_cons]
def NodeV (w:World) (S:Nat→Prop) (x:Node) (v:Value):Prop:=
 ∃ A n c B m d,v=.agg #[.string x.name,.int .i64 x.ver.major,.int .i64 x.ver.minor,.int .i64 x.ver.patch,.slice A n c,.slice B m d]∧x.name.size≤maxLen∧SlV rPin w S x.ctx (.slice A n c)∧SlV rEdge w S x.edges (.slice B m d)
theorem NodeV.keep {w w':World} {S:Nat→Prop} {x:Node} {v:Value} (h:NodeV w S x v) (hb:Below w.heap.size w w'):NodeV w' S x v:=by
 obtain ⟨A,n,c,B,m,d,e,h0,h1,h2⟩:=h
 exact ⟨A,n,c,B,m,d,e,h0,h1.belowSize hb,h2.belowSize hb⟩
theorem zKt (x:Node) (v:Value) (many:Nat) (hmany:many≤1000000000) (w:World) (S:Nat→Prop) (hz1:x.ctx.length≤1000000000) (hz2:x.edges.length≤1000000000) (hv:NodeV w S x v) :
  Calls Tryz.prog 130 #[v,.int .i64 (many:Int)] w fun e w'=>e=.returned (.bool (zC8 many x))∧Below w.heap.size w w':=by
 obtain ⟨A,n,c,B,m,d,rfl,hnm,h1,h2⟩:=hv
 have hn:=h1.n_eq
 have hm:=h2.n_eq
 have hcn:=h1.cap_le
 have hcm:=h2.cap_le
 unfold maxLen at hcn hcm
 have H1:=cH h1
 have H2:=cH h2
 have HR:Hid (zC8 many x=(((zC4 (zB2 x.ctx)&&zC4 (zBU x.edges))&&zHa (x.ctx.drop 0))&&zDo many (x.edges.drop 0))):=rfl
 have Hn:=cH hn
 have Hm:=cH hm
 generalize zC8 many x=R at *
 have hpn:n=(zB2 x.ctx).length:=by unfold zB2;rw[List.length_map];exact hn
 have hen:m=(zBU x.edges).length:=by unfold zBU;rw[List.length_map];exact hm
 have hpz:∀ s∈zB2 x.ctx,s.size≤maxLen:=fun s hs=>by
  obtain ⟨q,hq,rfl⟩:=List.mem_map.1 hs
  obtain ⟨i,hi,e⟩:=List.getElem_of_mem hq
  obtain ⟨_,_,_,_,_,_,⟨_,hz,_⟩,_⟩:=h1.elem (show x.ctx[i]?=some q by rw[gE hi,e])
  exact hz
 have hez:∀ s∈zBU x.edges,s.size≤maxLen:=fun s hs=>by
  obtain ⟨q,hq,rfl⟩:=List.mem_map.1 hs
  obtain ⟨i,hi,e⟩:=List.getElem_of_mem hq
  obtain ⟨_,_,_,_,_,_,⟨_,hz,_⟩,_⟩:=h2.elem (show x.edges[i]?=some q by rw[gE hi,e])
  exact hz
 obtain ⟨Q,hQ⟩:∃ Q,Q=w.heap.size:=⟨_,rfl⟩
 obtain ⟨w0,hw0⟩:∃ w0,w0=w.alloc (.cells #[.string x.name,.int .i64 x.ver.major,.int .i64 x.ver.minor,.int .i64 x.ver.patch,.slice A n c,.slice B m d] 63):=⟨_,rfl⟩
 have HB0:Hid (Below w.heap.size w w0):=by unfold Hid;rw[hw0];exact bal (bR _ _) _
 have HQ0:Hid (w0.heap[Q]?=some (.cells #[.string x.name,.int .i64 x.ver.major,.int .i64 x.ver.minor,.int .i64 x.ver.patch,.slice A n c,.slice B m d] 63 (0,0))):=by unfold Hid;rw[hw0,hQ];exact zAT _ _
 have hq0:Q<w0.heap.size:=(aS.1 HQ0.out).1
 have HC1:Hid (∀ W,Below w0.heap.size w0 W→Calls Tryz.prog 192 #[.int .i64 (n:Int),.func (.func 193) #[] #[.pointer (some ⟨Q,0,none⟩)]] W fun e w'=>e=.returned (.bool (zC4 (zB2 x.ctx)))∧Below W.heap.size W w'):=fun W hW=>
  zJ5 _ _ zJp (zB2 x.ctx) n hpn W (by omega) hpz fun V k s hs hV=>zNm Q A n c x.ctx S k s V (cO V Q 4 _ _ _ (((hW.trans (hV.mono hW.size)).block Q hq0).trans HQ0.out)) (h1.belowSize (bot HB0.out (hW.trans (hV.mono hW.size)))) hs
 have HC2:Hid (∀ W,Below w0.heap.size w0 W→Calls Tryz.prog 192 #[.int .i64 (m:Int),.func (.func 194) #[] #[.pointer (some ⟨Q,0,none⟩)]] W fun e w'=>e=.returned (.bool (zC4 (zBU x.edges)))∧Below W.heap.size W w'):=fun W hW=>
  zJ5 _ _ zJv (zBU x.edges) m hen W (by omega) hez fun V k s hs hV=>zOK Q B m d x.edges S k s V (cO V Q 5 _ _ _ (((hW.trans (hV.mono hW.size)).block Q hq0).trans HQ0.out)) (h2.belowSize (bot HB0.out (hW.trans (hV.mono hW.size)))) hs
 have q4:w0.cell? ⟨Q,4,none⟩=some (.slice A n c):=cO w0 Q 4 _ _ _ HQ0.out
 have q5:w0.cell? ⟨Q,5,none⟩=some (.slice B m d):=cO w0 Q 5 _ _ _ HQ0.out
 clear h1 h2 hn hm hpn hen hpz hez hz1 hz2 hnm
 generalize x.name=nm at *
 generalize x.ver.major=v1 at *
 generalize x.ver.minor=v2 at *
 generalize x.ver.patch=v3 at *
 generalize zC4 (zB2 x.ctx)=r1 at *
 generalize zC4 (zBU x.edges)=r2 at *
 subst hQ
 go_enter Tryz.func130,Tryz.ntmps130
 go_wp2_with fail
 rw[←hw0]
 clear hw0
 refine (HC1.out w0 (bR _ _)).mono ?_
 rintro e w1 ⟨rfl,hb1⟩
 have HB1:=cH hb1
 have p4:=zAA hb1 q4 hq0
 have p5:=zAA hb1 q5 hq0
 clear hb1 HC1 q4 q5
 cases r1 with
 | false=>
   have Hr:Hid (R=false):=by unfold Hid;rw[HR.out];first|rfl|simp
   clear HR
   go_wp2_with fail
   go_ret
   exact ⟨zA1 Hr.out.symm,bot HB0.out HB1.out⟩
 | true=>
 go_wp2_with fail
 refine (HC2.out w1 HB1.out).mono ?_
 rintro e w2 ⟨rfl,hb2⟩
 have HB2:=cH (bot HB1.out hb2)
 have p4:=zAA hb2 p4 (zAE p4)
 have p5:=zAA hb2 p5 (zAE p5)
 clear hb2 HC2 HB1
 cases r2 with
 | false=>
   have Hr:Hid (R=false):=by unfold Hid;rw[HR.out];first|rfl|simp
   clear HR
   go_wp2_with fail
   go_ret
   exact ⟨zA1 Hr.out.symm,bot HB0.out HB2.out⟩
 | true=>
 have HR2:Hid (R=(zHa (x.ctx.drop 0)&&zDo many (x.edges.drop 0))):=by unfold Hid;rw[HR.out];simp
 clear HR
 go_wp2_with fail
 go_loopw [26] (fun i wr=>∃ k:Nat,k≤n∧i=.int .i64 k∧Hid (R=(zHa (x.ctx.drop k)&&zDo many (x.edges.drop 0)))∧Hid (Below w0.heap.size w0 wr)) (fun i _=>n - (intOf i).toNat)
 case atStart=>exact ⟨0,nZ _,rfl,HR2,HB2⟩
 case round=>
  clear HR2 HB2 p4 p5
  obtain ⟨k,hk,rfl,HR,HB⟩:=hrel
  have HQr:Hid (wr.heap[w.heap.size]?=some (.cells #[.string nm,.int .i64 v1,.int .i64 v2,.int .i64 v3,.slice A n c,.slice B m d] 63 (0,0))):=(HB.out.block w.heap.size hq0).trans HQ0.out
  have p5:wr.cell? ⟨w.heap.size,5,none⟩=some (.slice B m d):=cO wr w.heap.size 5 _ _ _ HQr.out
  have hk0:(0:Int)≤(k:Int):=by omega
  by_cases hlt:k<n
  ·have hkI:(k:Int)<(n:Int):=by omega
   have hkl:k<x.ctx.length:=by rw[←Hn.out];exact hlt
   obtain ⟨y,hy⟩:∃ y,x.ctx[k]?=some y:=⟨_,gE hkl⟩
   have h3:=HR.out
   rw[zL9 hy] at h3
   obtain ⟨b,o,cs,hA,_,_,⟨hcs,_⟩,hcell⟩:=(H1.out.belowSize (bot HB0.out HB.out)).elem hy
   subst hA
   have c0:=hcell 0 _ (by rw[hcs];rfl)
   have c1:=hcell 1 _ (by rw[hcs];rfl)
   have c2:=hcell 2 _ (by rw[hcs];rfl)
   have c3:=hcell 3 _ (by rw[hcs];rfl)
   simp only[rPin,Nat.add_zero] at c0 c1 c2 c3
   have HV:Hid (∀ W,Calls Tryz.prog 129 #[.agg #[.int .i64 y.ver.major,.int .i64 y.ver.minor,.int .i64 y.ver.patch]] W fun e w'=>e=.returned (.bool (verOk y.ver))∧Below W.heap.size W w'):=fun W=>zCF _ _ _ W
   have HR3:=cH h3
   clear hcell hcs hy h3 HR
   generalize verOk y.ver=vo at *
   go_wp2_with fail
   refine (HV.out _).mono ?_
   rintro e w5 ⟨rfl,hb5⟩
   have HB5:=cH (bot HB.out (bnew hb5))
   clear hb5 c0 c1 c2 c3 p5 HV
   cases vo with
   | false=>
     have Hr:Hid (R=false):=by unfold Hid;rw[HR3.out];rfl
     clear HR3
     go_wp2_with fail
     go_ret
     exact ⟨zA1 Hr.out.symm,bot HB0.out HB5.out⟩
   | true=>
     rw[Bool.true_and] at HR3
     go_wp2_with fail
     go_roundw
     case rel=>exact ⟨k+1,by omega,by go_num,HR3,HB5⟩
     case measure=>simp[intOf];omega
  ·obtain rfl:k=n:=by omega
   have hI:¬(k:Int)<(k:Int):=by omega
   have HR3:Hid (R=zDo many (x.edges.drop 0)):=by unfold Hid;rw[HR.out,dN (by rw[←Hn.out];exact nR _)];rfl
   obtain ⟨wo,rfl⟩:∃ wo:World,wo=wr:=⟨_,rfl⟩
   clear HR
   go_wp2_with fail
   go_loopw [38] (fun i wq=>∃ j:Nat,j≤m∧i=.int .i64 j∧Hid (R=zDo many (x.edges.drop j))∧Hid (Below w0.heap.size w0 wq)) (fun i _=>m - (intOf i).toNat)
   case atStart=>exact ⟨0,nZ _,rfl,HR3,HB⟩
   case round=>
    clear HR3 HB p5 HQr
    obtain ⟨j,hj,rfl,HR,HB⟩:=hrel
    have hj0:(0:Int)≤(j:Int):=by omega
    by_cases hjt:j<m
    ·have hjI:(j:Int)<(m:Int):=by omega
     have hjl:j<x.edges.length:=by rw[←Hm.out];exact hjt
     obtain ⟨y,hy⟩:∃ y,x.edges[j]?=some y:=⟨_,gE hjl⟩
     have h3:=HR.out
     rw[zKB hy] at h3
     obtain ⟨b,o,cs,hA,_,_,⟨hcs,_⟩,hcell⟩:=(H2.out.belowSize (bot HB0.out HB.out)).elem hy
     subst hA
     have c0:=hcell 0 _ (by rw[hcs];rfl)
     have c1:=hcell 1 _ (by rw[hcs];rfl)
     simp only[rEdge,Nat.add_zero] at c0 c1
     have HR3:=cH h3
     clear hcell hcs hy h3 HR
     generalize y.to=tz at *
     by_cases ha:1≤tz
     ·have hac:¬tz<1:=by omega
      by_cases hb:tz<(many:Int)
      ·have hbc:¬(many:Int)≤tz:=by omega
       rw[decide_eq_true ha,decide_eq_true hb,Bool.true_and,Bool.true_and] at HR3
       go_wp2_with fail
       go_roundw
       case rel=>exact ⟨j+1,by omega,by go_num,HR3,bal HB.out _⟩
       case measure=>simp[intOf];omega
      ·have hbc:(many:Int)≤tz:=by omega
       have Hr:Hid (R=false):=by unfold Hid;rw[HR3.out,decide_eq_false hb];simp
       clear HR3
       go_wp2_with fail
       go_ret
       exact ⟨zA1 Hr.out.symm,bot HB0.out (bal HB.out _)⟩
     ·have hac:tz<1:=by omega
      have Hr:Hid (R=false):=by unfold Hid;rw[HR3.out,decide_eq_false ha];rfl
      clear HR3
      go_wp2_with fail
      go_ret
      exact ⟨zA1 Hr.out.symm,bot HB0.out (bal HB.out _)⟩
    ·obtain rfl:j=m:=by omega
     have hI2:¬(j:Int)<(j:Int):=by omega
     have Hr:Hid (R=true):=by unfold Hid;rw[HR.out,dN (by rw[←Hm.out];exact nR _)];rfl
     clear HR
     go_wp2_with fail
     go_ret
     exact ⟨zA1 Hr.out.symm,bot HB0.out HB.out⟩
def zMl (l:List Node):Prop:=l.length≤1048576∧∀ x∈l,x.ctx.length≤1048576∧x.edges.length≤1048576
theorem zK9 {w:World} {S:Nat→Prop} {l:List Node} {A:Option Addr} {n c k:Nat} {x:Node} (hl:SlV rNode w S l (.slice A n c)) (hx:l[k]?=some x) :
  ∃ b o pA pn pc eA en ec,A=some ⟨b,o,none⟩∧b<w.heap.size∧x.name.size≤maxLen∧SlV rPin w S x.ctx (.slice pA pn pc)∧SlV rEdge w S x.edges (.slice eA en ec)∧pn=x.ctx.length∧en=x.edges.length ∧
    w.cell? ⟨b,o+k * 6,none⟩=some (.string x.name)∧w.cell? ⟨b,o+k * 6+1,none⟩=some (.int .i64 x.ver.major)∧w.cell? ⟨b,o+k * 6+2,none⟩=some (.int .i64 x.ver.minor)∧w.cell? ⟨b,o+k * 6+3,none⟩=some (.int .i64 x.ver.patch) ∧
    w.cell? ⟨b,o+k * 6+4,none⟩=some (.slice pA pn pc)∧w.cell? ⟨b,o+k * 6+5,none⟩=some (.slice eA en ec):=by
 obtain ⟨b,o,cs,hA,_,hb,⟨s0,s1,hcs,hnm,_,_,_,h1,h2⟩,hcell⟩:=hl.elem hx
 obtain ⟨pA,pc,rfl,_,_⟩:=h1.val
 obtain ⟨eA,ec,rfl,_,_⟩:=h2.val
 have c0:=hcell 0 _ (by rw[hcs];rfl)
 have c1:=hcell 1 _ (by rw[hcs];rfl)
 have c2:=hcell 2 _ (by rw[hcs];rfl)
 have c3:=hcell 3 _ (by rw[hcs];rfl)
 have c4:=hcell 4 _ (by rw[hcs];rfl)
 have c5:=hcell 5 _ (by rw[hcs];rfl)
 simp only[rNode,Nat.add_zero] at c0 c1 c2 c3 c4 c5
 exact ⟨b,o,pA,_,pc,eA,_,ec,hA,hb,hnm,h1,h2,rfl,rfl,c0,c1,c2,c3,c4,c5⟩
theorem zHP (A:Option Addr) (n c:Nat) (l:List Node) (w:World) (S:Nat→Prop) (hl:SlV rNode w S l (.slice A n c)) (hz:zMl l) :
  Calls Tryz.prog 69 #[.agg #[.slice A n c]] w fun e w'=>e=.returned (.bool (lockB l))∧Below w.heap.size w w':=by
 have hn:=hl.n_eq
 have hcn:=hl.cap_le
 unfold maxLen at hcn
 have HL:=cH hl
 have Hn:=cH hn
 have Hz:=cH hz
 have hnz:n≤1048576:=by have:=hz.1;omega
 have HR:Hid (lockB l=((decide (1≤n)&&decide (n≤128))&&zCP n 0 (l.drop 0))):=by unfold Hid lockB;rw[hn];rfl
 clear hl hn hz
 generalize lockB l=R at *
 obtain ⟨w0,hw0⟩:∃ w0,w0=w.alloc (.cells #[.slice A n c] 27):=⟨_,rfl⟩
 have HB0:Hid (Below w.heap.size w w0):=by unfold Hid;rw[hw0];exact bal (bR _ _) _
 have HQ0:Hid (w0.heap[w.heap.size]?=some (.cells #[.slice A n c] 27 (0,0))):=by unfold Hid;rw[hw0];exact zAT _ _
 have hq0:w.heap.size<w0.heap.size:=(aS.1 HQ0.out).1
 have p0:w0.cell? ⟨w.heap.size,0,none⟩=some (.slice A n c):=cO w0 _ 0 _ _ _ HQ0.out
 by_cases h1:1≤n
 case neg=>
  have h1I:(n:Int)<1:=by omega
  have Hr:Hid (R=false):=by unfold Hid;rw[HR.out,decide_eq_false h1];rfl
  clear HR
  go_enter Tryz.func69,Tryz.ntmps69
  go_wp2_with fail
  try rw[←hw0]
  go_ret
  exact ⟨zA1 Hr.out.symm,by first|exact HB0.out|exact bal (bR _ _) _⟩
 by_cases h2:n≤128
 case neg=>
  have h1I:¬(n:Int)<1:=by omega
  have h2I:(128:Int)<(n:Int):=by omega
  have Hr:Hid (R=false):=by unfold Hid;rw[HR.out,decide_eq_false h2];simp
  clear HR
  go_enter Tryz.func69,Tryz.ntmps69
  go_wp2_with fail
  go_ret
  exact ⟨zA1 Hr.out.symm,by first|exact HB0.out|exact bal (bR _ _) _⟩
 have h1I:¬(n:Int)<1:=by omega
 have h2I:¬(128:Int)<(n:Int):=by omega
 have HR2:Hid (R=zCP n 0 (l.drop 0)):=by unfold Hid;rw[HR.out,decide_eq_true h1,decide_eq_true h2];rfl
 clear HR
 go_enter Tryz.func69,Tryz.ntmps69
 go_wp2_with fail
 rw[←hw0]
 clear hw0
 go_loopw [19] (fun i wr=>∃ k:Nat,k≤n∧i=.int .i64 k∧Hid (R=zCP n k (l.drop k))∧Hid (Below w0.heap.size w0 wr)) (fun i _=>n - (intOf i).toNat)
 case atStart=>exact ⟨0,nZ _,rfl,HR2,bR _ _⟩
 case round=>
  clear HR2 p0
  obtain ⟨k,hk,rfl,HR,HB⟩:=hrel
  have HQr:Hid (wr.heap[w.heap.size]?=some (.cells #[.slice A n c] 27 (0,0))):=(HB.out.block _ hq0).trans HQ0.out
  have p0:wr.cell? ⟨w.heap.size,0,none⟩=some (.slice A n c):=cO wr _ 0 _ _ _ HQr.out
  by_cases hlt:k<n
  case neg=>
   obtain rfl:k=n:=by omega
   have hI:¬(k:Int)<(k:Int):=by omega
   have Hr:Hid (R=true):=by unfold Hid;rw[HR.out,zLw (by rw[←Hn.out];exact nR _)]
   clear HR
   go_wp2_with fail
   go_ret
   exact ⟨zA1 Hr.out.symm,bot HB0.out HB.out⟩
  have hkI:(k:Int)<(n:Int):=by omega
  have hk0:(0:Int)≤(k:Int):=by omega
  have hkl:k<l.length:=by rw[←Hn.out];exact hlt
  obtain ⟨x,hx⟩:∃ x,l[k]?=some x:=⟨_,gE hkl⟩
  have h3:=HR.out
  rw[zMP hx] at h3
  have HR3:=cH h3
  obtain ⟨hz1,hz2⟩:=Hz.out.2 x (mG hx)
  obtain ⟨b,o,pA,pn,pc,eA,en,ec,rfl,hb,hnm,hp,he,hpn,hen,c0,c1,c2,c3,c4,c5⟩:=zK9 (HL.out.belowSize (bot HB0.out HB.out)) hx
  have HNm:Hid (∀ W,Calls Tryz.prog 61 #[.string x.name] W fun e w'=>e=.returned (.bool (nameB x.name))∧Below W.heap.size W w'):=fun W=>zA2 x.name hnm W
  have HV:Hid (∀ W,Calls Tryz.prog 129 #[.agg #[.int .i64 x.ver.major,.int .i64 x.ver.minor,.int .i64 x.ver.patch]] W fun e w'=>e=.returned (.bool (verOk x.ver))∧Below W.heap.size W w'):=fun W=>zCF _ _ _ W
  have HNd:Hid (∀ W,Below wr.heap.size wr W→Calls Tryz.prog 130 #[.agg #[.string x.name,.int .i64 x.ver.major,.int .i64 x.ver.minor,.int .i64 x.ver.patch,.slice pA pn pc,.slice eA en ec],.int .i64 (n:Int)] W fun e w'=>e=.returned (.bool (zC8 n x))∧Below W.heap.size W w'):=fun W hW=>
   zKt x _ n (by omega) W S (by omega) (by omega) ⟨pA,pn,pc,eA,en,ec,rfl,hnm,hp.belowSize hW,he.belowSize hW⟩
  have Hpn:=cH hpn
  have Hhd:Hid (zFA k x=if k=0 then (x.name.toList==[])&&(zeroV x.ver&&decide (x.ctx.length=0)) else nameB x.name&&verOk x.ver):=rfl
  have Hzv:Hid (zeroV x.ver=(decide (x.ver.major=0)&&(decide (x.ver.minor=0)&&decide (x.ver.patch=0)))):=rfl
  clear hx h3 HR hp he hpn hen hz1 hz2
  generalize x.name=nm at *
  generalize x.ver.major=v1 at *
  generalize x.ver.minor=v2 at *
  generalize x.ver.patch=v3 at *
  generalize verOk x.ver=vo at *
  generalize nameB nm=no at *
  generalize zC8 n x=nd at *
  go_wp2_with fail
  refine (HNm.out _).mono ?_
  rintro e w5 ⟨rfl,hb5⟩
  obtain ⟨w4,hw4⟩:∃ w4,w4=wr.alloc (.cells #[.string nm,.int .i64 v1,.int .i64 v2,.int .i64 v3,.slice pA pn pc,.slice eA en ec] 63):=⟨_,rfl⟩
  have hq4:w4.heap[wr.heap.size]?=some (.cells #[.string nm,.int .i64 v1,.int .i64 v2,.int .i64 v3,.slice pA pn pc,.slice eA en ec] 63 (0,0)):=by rw[hw4];exact zAT _ _
  have hb4:Below wr.heap.size wr w4:=by rw[hw4];exact bal (bR _ _) _
  rw[←hw4] at hb5
  have hs4:=(aS.1 hq4).1
  have HX5:Hid (w5.heap[wr.heap.size]?=some (.cells #[.string nm,.int .i64 v1,.int .i64 v2,.int .i64 v3,.slice pA pn pc,.slice eA en ec] 63 (0,0))):=(hb5.block _ hs4).trans hq4
  have HB5:Hid (Below wr.heap.size wr w5):=bot hb4 hb5
  have hsr:w.heap.size<wr.heap.size:=lL hq0 HB.out.size
  have hcell:∀ W,Below w5.heap.size w5 W→(W.cell? ⟨wr.heap.size,0,none⟩=some (.string nm)∧W.cell? ⟨wr.heap.size,1,none⟩=some (.int .i64 v1)∧W.cell? ⟨wr.heap.size,2,none⟩=some (.int .i64 v2)∧W.cell? ⟨wr.heap.size,3,none⟩=some (.int .i64 v3)∧W.cell? ⟨wr.heap.size,4,none⟩=some (.slice pA pn pc)∧W.cell? ⟨wr.heap.size,5,none⟩=some (.slice eA en ec))∧W.cell? ⟨w.heap.size,0,none⟩=some (.slice (some ⟨b,o,none⟩) n c):=fun W hW=>by
   have hX:=(hW.block _ (aS.1 HX5.out).1).trans HX5.out
   exact ⟨⟨cO _ _ 0 _ _ _ hX,cO _ _ 1 _ _ _ hX,cO _ _ 2 _ _ _ hX,cO _ _ 3 _ _ _ hX,cO _ _ 4 _ _ _ hX,cO _ _ 5 _ _ _ hX⟩,zAA (bot HB5.out hW) p0 hsr⟩
  have Hcell:=cH hcell
  obtain ⟨⟨x0,x1,x2,x3,x4,x5⟩,y0⟩:=hcell w5 (bR _ _)
  clear hw4 hq4 hb4 hb5 hs4 hcell c0 c1 c2 c3 c4 c5 p0 HNm hnm
  by_cases hk00:k=0
  ·subst hk00
   rw[if_pos rfl] at Hhd
   cases no with
   | false=>
     cases hnb:(nm.toList==[]) with
     | false=>
       have Hr:Hid (R=false):=by unfold Hid;rw[HR3.out,Hhd.out,hnb];rfl
       clear HR3 Hhd
       go_wp2_with fail
       go_ret
       exact ⟨zA1 Hr.out.symm,bot HB0.out (bot HB.out HB5.out)⟩
     | true=>
     by_cases hv:v1=0∧v2=0∧v3=0
     case neg=>
      have Hr:Hid (R=false):=by
       unfold Hid
       rw[HR3.out,Hhd.out,Hzv.out,hnb]
       by_cases e1:v1=0<;>by_cases e2:v2=0<;>by_cases e3:v3=0<;>simp_all
      clear HR3 Hhd
      go_wp2_with fail
      all_goals first
       | (exfalso;apply hv;refine ⟨?_,?_,?_⟩<;>assumption)
       | (go_ret;exact ⟨zA1 Hr.out.symm,bot HB0.out (bot HB.out HB5.out)⟩)
     obtain ⟨rfl,rfl,rfl⟩:=hv
     by_cases hp0:pn=0
     case neg=>
      have hpb:((pn:Int)==0)=false:=by simp;omega
      have Hr:Hid (R=false):=by unfold Hid;rw[HR3.out,Hhd.out,decide_eq_false (by rw[←Hpn.out];exact hp0)];simp
      clear HR3 Hhd
      go_wp2_with fail
      go_ret
      exact ⟨zA1 Hr.out.symm,bot HB0.out (bot HB.out HB5.out)⟩
     have hpb:((pn:Int)==0)=true:=by simp;omega
     have HR4:Hid (R=(nd&&zCP n (0+1) (l.drop (0+1)))):=by unfold Hid;rw[HR3.out,Hhd.out,Hzv.out,hnb,decide_eq_true (show x.ctx.length=0 by rw[←Hpn.out];exact hp0)];rfl
     clear HR3 Hhd hp0
     go_wp2_with fail
     refine (HNd.out _ HB5.out).mono ?_
     rintro e w7 ⟨rfl,hb7⟩
     have HB7:=cH (bot HB5.out hb7)
     clear hb7
     cases nd with
     | false=>
       have Hr:Hid (R=false):=HR4.out
       clear HR4
       go_wp2_with fail
       go_ret
       exact ⟨zA1 Hr.out.symm,bot HB0.out (bot HB.out HB7.out)⟩
     | true=>
       rw[Bool.true_and] at HR4
       go_wp2_with fail
       go_roundw
       case rel=>exact ⟨0+1,by omega,by go_num,HR4,bot HB.out HB7.out⟩
       case measure=>simp[intOf];omega
   | true=>
     go_wp2_with fail
     refine (HV.out _).mono ?_
     rintro e w6 ⟨rfl,hb6⟩
     have HB6:=cH (bot HB5.out hb6)
     obtain ⟨⟨x0,x1,x2,x3,x4,x5⟩,y0⟩:=Hcell.out w6 hb6
     clear hb6
     cases hnb:(nm.toList==[]) with
     | false=>
       have Hr:Hid (R=false):=by unfold Hid;rw[HR3.out,Hhd.out,hnb];rfl
       clear HR3 Hhd
       go_wp2_with fail
       go_ret
       exact ⟨zA1 Hr.out.symm,bot HB0.out (bot HB.out HB6.out)⟩
     | true=>
     by_cases hv:v1=0∧v2=0∧v3=0
     case neg=>
      have Hr:Hid (R=false):=by
       unfold Hid
       rw[HR3.out,Hhd.out,Hzv.out,hnb]
       by_cases e1:v1=0<;>by_cases e2:v2=0<;>by_cases e3:v3=0<;>simp_all
      clear HR3 Hhd
      go_wp2_with fail
      all_goals first
       | (exfalso;apply hv;refine ⟨?_,?_,?_⟩<;>assumption)
       | (go_ret;exact ⟨zA1 Hr.out.symm,bot HB0.out (bot HB.out HB6.out)⟩)
     obtain ⟨rfl,rfl,rfl⟩:=hv
     by_cases hp0:pn=0
     case neg=>
      have hpb:((pn:Int)==0)=false:=by simp;omega
      have Hr:Hid (R=false):=by unfold Hid;rw[HR3.out,Hhd.out,decide_eq_false (by rw[←Hpn.out];exact hp0)];simp
      clear HR3 Hhd
      go_wp2_with fail
      go_ret
      exact ⟨zA1 Hr.out.symm,bot HB0.out (bot HB.out HB6.out)⟩
     have hpb:((pn:Int)==0)=true:=by simp;omega
     have HR4:Hid (R=(nd&&zCP n (0+1) (l.drop (0+1)))):=by unfold Hid;rw[HR3.out,Hhd.out,Hzv.out,hnb,decide_eq_true (show x.ctx.length=0 by rw[←Hpn.out];exact hp0)];rfl
     clear HR3 Hhd hp0
     go_wp2_with fail
     refine (HNd.out _ HB6.out).mono ?_
     rintro e w7 ⟨rfl,hb7⟩
     have HB7:=cH (bot HB6.out hb7)
     clear hb7
     cases nd with
     | false=>
       have Hr:Hid (R=false):=HR4.out
       clear HR4
       go_wp2_with fail
       go_ret
       exact ⟨zA1 Hr.out.symm,bot HB0.out (bot HB.out HB7.out)⟩
     | true=>
       rw[Bool.true_and] at HR4
       go_wp2_with fail
       go_roundw
       case rel=>exact ⟨0+1,by omega,by go_num,HR4,bot HB.out HB7.out⟩
       case measure=>simp[intOf];omega
  ·have hkb:((k:Int)==0)=false:=by simp;omega
   rw[if_neg hk00] at Hhd
   cases no with
   | false=>
     have Hr:Hid (R=false):=by unfold Hid;rw[HR3.out,Hhd.out];rfl
     clear HR3 Hhd
     go_wp2_with fail
     go_ret
     exact ⟨zA1 Hr.out.symm,bot HB0.out (bot HB.out HB5.out)⟩
   | true=>
     go_wp2_with fail
     refine (HV.out _).mono ?_
     rintro e w6 ⟨rfl,hb6⟩
     have HB6:=cH (bot HB5.out hb6)
     obtain ⟨⟨x0,x1,x2,x3,x4,x5⟩,y0⟩:=Hcell.out w6 hb6
     clear hb6
     cases vo with
     | false=>
       have Hr:Hid (R=false):=by unfold Hid;rw[HR3.out,Hhd.out];rfl
       clear HR3 Hhd
       go_wp2_with fail
       go_ret
       exact ⟨zA1 Hr.out.symm,bot HB0.out (bot HB.out HB6.out)⟩
     | true=>
       have HR4:Hid (R=(nd&&zCP n (k+1) (l.drop (k+1)))):=by unfold Hid;rw[HR3.out,Hhd.out];rfl
       clear HR3 Hhd
       go_wp2_with fail
       refine (HNd.out _ HB6.out).mono ?_
       rintro e w7 ⟨rfl,hb7⟩
       have HB7:=cH (bot HB6.out hb7)
       clear hb7
       cases nd with
       | false=>
         have Hr:Hid (R=false):=HR4.out
         clear HR4
         go_wp2_with fail
         go_ret
         exact ⟨zA1 Hr.out.symm,bot HB0.out (bot HB.out HB7.out)⟩
       | true=>
         rw[Bool.true_and] at HR4
         go_wp2_with fail
         go_roundw
         case rel=>exact ⟨k+1,by omega,by go_num,HR4,bot HB.out HB7.out⟩
         case measure=>simp[intOf];omega
