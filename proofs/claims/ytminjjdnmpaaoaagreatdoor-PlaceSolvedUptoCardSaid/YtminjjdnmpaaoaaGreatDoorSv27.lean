/- The document's catalog: the versions of a name, the candidates for a want: walked. -/
import Derived.Test.YtminjjdnmpaaoaaGreatDoorSv26
import Derived.Test.YtminjjdnmpaaoaaGreatDoorAl
set_option linter.all false
set_option maxHeartbeats 12800000
set_option maxRecDepth 100000
namespace Go.Proofs.YtminjjdnmpaaoaaGreatDoor
open Go.Rows Go.RowKit Go.Shelf Go.Sort
theorem zEY:Elt Tryz.prog 50 3 24:=Elt.mk' (z:=.agg #[.int .i64 0,.int .i64 0,.int .i64 0]) (by kernel_rfl) rfl (by decide)
theorem zJ3 {L:List Pack} {k:Nat} {x:Pack} (hx:L[k]?=some x) (s:ByteArray):versC (L.take (k+1)) s=versC (L.take k) s++if x.name=s then [x.ver] else []:=by
 unfold versC
 rw[List.take_add_one,hx,List.filter_append,List.map_append]
 congr 1
 show List.map _ (List.filter _ [x])=_
 by_cases h:x.name=s
 ·simp[h]
 ·simp[h]
theorem zFD (L:List Pack) (s:ByteArray):(versC L s).length≤L.length:=by
 unfold versC
 rw[List.length_map]
 exact List.length_filter_le _ _
theorem zKn {α:Type} (p:α→Bool) {l:List α} {k:Nat} {x:α} (hx:l[k]?=some x):(l.take (k+1)).filter p=(l.take k).filter p++if p x=true then [x] else []:=by
 rw[List.take_add_one,hx,List.filter_append]
 congr 1
 show List.filter p [x]=_
 by_cases h:p x=true
 ·simp[h]
 ·simp[h]
theorem zGv (cB:Nat) (A:Option Addr) (n c:Nat) (L:List Pack) (s:ByteArray) (w:World) (S:Nat→Prop) (hc:w.cell? ⟨cB,0,none⟩=some (.slice A n c)) (hl:SlV rPack w S L (.slice A n c)) (hlz:L.length≤1048576) :
  Calls Tryz.prog 166 #[.pointer (some ⟨cB,0,none⟩),.string s] w fun e w'=>∃ B m,e=.returned (.slice B (versC L s).length m)∧SlV rVer w' (fun b=>w.heap.size≤b) (versC L s) (.slice B (versC L s).length m)∧Below w.heap.size w w':=by
 have hn:=hl.n_eq
 have hcB:cB<w.heap.size:=zAf hc
 have HL:=cH hl
 have Hz0:Hid (L.length=n):=hn.symm
 have hnz:n≤1048576:=by omega
 have HEnd:Hid (versC (L.take n) s=versC L s):=by unfold Hid;rw[hn,List.take_length]
 have HC:Hid (∀ W,Below w.heap.size w W→W.cell? ⟨cB,0,none⟩=some (.slice A n c)):=fun W hW=>zAA hW hc hcB
 obtain ⟨R,hR⟩:∃ R,R=versC L s:=⟨_,rfl⟩
 rw[←hR] at HEnd ⊢
 clear hl hn hR hlz hc
 go_enter Tryz.func166,Tryz.ntmps166
 go_wp2_with fail
 go_loopw [5,6] (fun ov iv wr=>∃ k:Nat,k≤n∧iv=.int .i64 k∧Hid (Own rVer wr w.heap.size 50 ov (versC (L.take k) s) (fun _=>False))∧Hid (Below w.heap.size w wr)) (fun _ iv _=>n - (intOf iv).toNat)
 case atStart=>exact ⟨0,nZ _,rfl,Own.nil_ _ _ _ _ (fun b hb=>hb.elim),bR _ _⟩
 case round=>
  obtain ⟨k,hk,rfl,Hown,hB⟩:=hrel
  have hk0:(0:Int)≤(k:Int):=by omega
  have z0:=HC.out wr hB.out
  by_cases hlt:k<n
  case neg=>
   have hI:¬(k:Int)<(n:Int):=by omega
   have hkn:k=n:=by omega
   have h1:=Hown.out.slv
   rw[hkn,HEnd.out] at h1
   obtain ⟨B,m,hv,_,_⟩:=h1.val
   have HS:=cH h1
   clear h1 Hown hkn
   subst hv
   go_wp2_with fail
   go_ret
   exact ⟨B,m,rfl,HS.out.more fun b hb _=>by rcases hb with hb|hb;exact hb.elim;exact hb,hB.out⟩
  have hkI:(k:Int)<(n:Int):=by omega
  obtain ⟨x,hx⟩:∃ x,L[k]?=some x:=⟨_,gE (by have:=Hz0.out;omega)⟩
  obtain ⟨b,o,A1,B1,C1,a1,b1,c1,hA,hb,_,hpv,hi,n0,n1,n2,n3,_,_,_⟩:=zFK HL.out hx
  have n0:=zAA hB.out n0 hb
  have n1:=zAA hB.out n1 hb
  have n2:=zAA hB.out n2 hb
  have n3:=zAA hB.out n3 hb
  have Hstep:=cH (zJ3 hx s)
  have Hlen:Hid ((versC (L.take k) s).length≤k):=by
   have:=zFD (L.take k) s
   rw[List.length_take] at this
   exact nT this (Nat.min_le_left _ _)
  have Hi:=cH hi
  clear hpv hx hi
  subst hA
  obtain ⟨xn,⟨x1,x2,x3⟩,xd,xp,xo⟩:=x
  simp only at n0 n1 n2 n3 Hstep Hi
  generalize versC (L.take k) s=done at *
  by_cases hnm:xn=s
  ·have hb0:=zAT hnm
   have Hst:Hid (versC (L.take (k+1)) s=done++[⟨x1,x2,x3⟩]):=by unfold Hid;rw[Hstep.out,if_pos hnm]
   clear Hstep hnm
   have hwz:w.heap.size≤wr.heap.size:=hB.out.size
   go_wp2_with (at_builtin;refine zAM (by rfl) _ _ _ (by rfl) zEY Tryz.underlying205 (by rfl) (Hown.out.alloc _) ⟨wr.heap.size,0,none⟩ 1 [.int .i64 x1,.int .i64 x2,.int .i64 x3] ⟨x1,x2,x3⟩ (by rfl) ⟨rfl,Hi.out.1,Hi.out.2.1,Hi.out.2.2⟩ (zAd wr #[.int .i64 x1,.int .i64 x2,.int .i64 x3] _) (by have:=Hlen.out;unfold maxLen;omega) (by have:=Hlen.out;omega) (by simp;omega) (wr.heap.size+1) (by simp) ?_)
   intro g9 cap9 w9 hown9 hgrow9 hat9 hlt9
   have HB9:=cH (zAw (bal hB.out _) hgrow9 (Hown.out.alloc _) (nR _))
   have HO9:=cH hown9
   clear hown9 hgrow9 hat9 Hown n0 n1 n2 n3 z0
   go_wp2_with fail
   go_roundw
   case rel=>exact ⟨k+1,by omega,by go_num,by rw[Hst.out];exact HO9,HB9⟩
   case measure=>simp[intOf];omega
  ·have hb0:=zAL hnm
   have Hst:Hid (versC (L.take (k+1)) s=done):=by unfold Hid;rw[Hstep.out,if_neg hnm,List.append_nil]
   clear Hstep hnm
   go_wp2_with fail
   go_roundw
   case rel=>exact ⟨k+1,by omega,by go_num,by rw[Hst.out];exact Hown,hB⟩
   case measure=>simp[intOf];omega
theorem zHF (s:ByteArray) (v1 v2 v3:Int) (w:World) :
  Calls Tryz.prog 167 #[.slice none 0 0,.string s,.agg #[.int .i64 v1,.int .i64 v2,.int .i64 v3]] w fun e w'=>e=.returned (.bool false)∧Below w.heap.size w w':=by
 go_enter Tryz.func167,Tryz.ntmps167
 go_wp2_with fail
 go_loopw [7] (fun iv wr=>iv=.int .i64 0∧Hid (Below w.heap.size w wr)) (fun _ _=>0)
 case atStart=>exact ⟨rfl,bal (bR _ _) _⟩
 case round=>
  obtain ⟨rfl,hB⟩:=hrel
  go_wp2_with fail
  go_ret
  exact ⟨rfl,hB.out⟩
theorem zKE (cB:Nat) (A:Option Addr) (n c:Nat) (L:List Pack) (s:ByteArray) (lA:Option Addr) (ln lc:Nat) (l:List Spn) (w:World) (S T:Nat→Prop) (hc:w.cell? ⟨cB,0,none⟩=some (.slice A n c)) (hl:SlV rPack w S L (.slice A n c)) (hlz:L.length≤1048576) (hsp:SlV rSpn w T l (.slice lA ln lc)) :
  Calls Tryz.prog 146 #[.pointer (some ⟨cB,0,none⟩),.string s,.slice lA ln lc,.slice none 0 0] w fun e w'=>∃ B m,e=.returned (.slice B (candC L s l).length m)∧SlV rVer w' (fun b=>w.heap.size≤b) (candC L s l) (.slice B (candC L s l).length m)∧Below w.heap.size w w':=by
 have HV:=cH (zGv cB A n c L s w S hc hl hlz)
 have HIn:Hid (∀ (v1 v2 v3:Int) W,Below w.heap.size w W→Calls Tryz.prog 145 #[.slice lA ln lc,.agg #[.int .i64 v1,.int .i64 v2,.int .i64 v3]] W fun e w'=>e=.returned (.bool (inSB l ⟨v1,v2,v3⟩))∧Below W.heap.size W w'):=fun v1 v2 v3 W hW=>zE2 lA ln lc l ⟨v1,v2,v3⟩ W T (hsp.belowSize hW)
 have hvz:=zFD L s
 have HR:Hid (candC L s l=(versC L s).filter (inSB l)):=rfl
 obtain ⟨R,hR⟩:∃ R,R=candC L s l:=⟨_,rfl⟩
 rw[←hR] at HR ⊢
 generalize versC L s=vs at *
 obtain ⟨N,hN⟩:∃ N,N=vs.length:=⟨_,rfl⟩
 have HEnd:Hid ((vs.take N).filter (inSB l)=R):=by unfold Hid;rw[hN,List.take_length];exact HR.out.symm
 have Hz0:Hid (vs.length=N):=hN.symm
 have hNz:N≤1048576:=by omega
 rw[←hN] at HV
 clear hc hl hlz hsp hvz HR hR hN
 go_enter Tryz.func146,Tryz.ntmps146
 go_wp2_with fail
 refine HV.out.mono ?_
 rintro e w1 ⟨VA,vm,rfl,hvs,hb1⟩
 have HVS:=cH hvs
 have HB1:=cH hb1
 clear hvs hb1 HV
 go_wp2_with fail
 go_loopw [9,10,12] (fun fv ov iv wr=>∃ k:Nat,k≤N∧fv=.slice none 0 0∧iv=.int .i64 k∧Hid (Own rVer wr w1.heap.size 50 ov ((vs.take k).filter (inSB l)) (fun _=>False))∧Hid (Below w1.heap.size w1 wr)) (fun _ _ iv _=>N - (intOf iv).toNat)
 case atStart=>exact ⟨0,nZ _,rfl,rfl,Own.nil_ _ _ _ _ (fun b hb=>hb.elim),bR _ _⟩
 case round=>
  obtain ⟨k,hk,rfl,rfl,Hown,hB⟩:=hrel
  have hk0:(0:Int)≤(k:Int):=by omega
  have HBw:=cH (bot HB1.out hB.out)
  by_cases hlt:k<N
  case neg=>
   have hI:¬(k:Int)<(N:Int):=by omega
   have hkn:k=N:=by omega
   have h1:=Hown.out.slv
   rw[hkn,HEnd.out] at h1
   obtain ⟨B,m,hv,_,_⟩:=h1.val
   have HS:=cH h1
   have Hrz:Hid (R.length≤N):=by
    unfold Hid
    rw[←HEnd.out]
    refine nT (List.length_filter_le _ _) ?_
    rw[List.length_take]
    exact Nat.min_le_left _ _
   clear h1 Hown hkn
   subst hv
   go_wp2_with (at_builtin;refine zAN (by rfl) _ _ _ (by rfl) zEY Tryz.underlying205 (by rfl) (Own.nil_ rVer wr wr.heap.size 50 (S:=fun _=>False) (fun b h=>h.elim)) (fun b=>(False∨w1.heap.size≤b)) R _ _ _ (by rfl) HS.out (by intro b hb he;simp[Value.ownBlock] at he) (by have:=Hrz.out;simp[maxLen];omega) (by have:=Hrz.out;simp;omega) (by simp) ?_)
   intro v9 w9 hown9 hgrow9 hat9
   have HB9:Hid (Below w.heap.size w w9):=bot HBw.out ((bR _ _).grown hgrow9 (nR _) (fun k hk=>by simp[Value.ownBlock] at hk))
   have h9:=hown9.slv
   obtain ⟨B9,m9,hv9,_,_⟩:=h9.val
   have HS9:=cH h9
   clear h9 hown9 hgrow9 hat9 HS
   subst hv9
   go_wp2_with fail
   go_ret
   have hwz:=HBw.out.size
   have hw1:=HB1.out.size
   exact ⟨B9,m9,rfl,HS9.out.more fun b hb _=>by (rcases hb with hb|hb<;>omega),HB9.out⟩
  have hkI:(k:Int)<(N:Int):=by omega
  obtain ⟨x,hx⟩:∃ x,vs[k]?=some x:=⟨_,gE (by have:=Hz0.out;omega)⟩
  obtain ⟨b,o,cs,hA,_,hb1,⟨rfl,i1,i2,i3⟩,hcell⟩:=HVS.out.elem hx
  have Hn:Hid (∀ W,Below w1.heap.size w1 W→W.cell? ⟨b,o+k * 3,none⟩=some (.int .i64 x.major)∧W.cell? ⟨b,o+k * 3+1,none⟩=some (.int .i64 x.minor)∧W.cell? ⟨b,o+k * 3+2,none⟩=some (.int .i64 x.patch)):=fun W hW=>
   ⟨zAA hW (hcell 0 _ rfl) hb1,zAA hW (hcell 1 _ rfl) hb1,zAA hW (hcell 2 _ rfl) hb1⟩
  have Hstep:=cH (zKn (inSB l) hx)
  have Hlen:Hid (((vs.take k).filter (inSB l)).length≤k):=by
   refine nT (List.length_filter_le _ _) ?_
   rw[List.length_take]
   exact Nat.min_le_left _ _
  have Hi:Hid (I64 x.major∧I64 x.minor∧I64 x.patch):=⟨i1,i2,i3⟩
  clear hcell hx i1 i2 i3
  subst hA
  obtain ⟨x1,x2,x3⟩:=x
  simp only at Hn Hstep Hi
  obtain ⟨n1,n2,n3⟩:=Hn.out wr hB.out
  have HIk:=cH (HIn.out x1 x2 x3 wr HBw.out)
  generalize (vs.take k).filter (inSB l)=done at *
  generalize inSB l ⟨x1,x2,x3⟩=ib at *
  go_wp2_with fail
  refine HIk.out.mono ?_
  rintro e w2 ⟨rfl,hb2⟩
  have HB2:=cH (bot hB.out hb2)
  have HO2:=cH (Hown.out.keep hb2)
  clear hb2 HIk Hown n1 n2 n3
  obtain ⟨n1,n2,n3⟩:=Hn.out w2 HB2.out
  cases ib with
  | false=>
    have Hst:Hid ((vs.take (k+1)).filter (inSB l)=done):=by unfold Hid;rw[Hstep.out,if_neg (by decide),List.append_nil]
    clear Hstep
    go_wp2_with fail
    go_roundw
    case rel=>exact ⟨k+1,by omega,rfl,by go_num,by rw[Hst.out];exact HO2,HB2⟩
    case measure=>simp[intOf];omega
  | true=>
    have Hst:Hid ((vs.take (k+1)).filter (inSB l)=done++[⟨x1,x2,x3⟩]):=by unfold Hid;rw[Hstep.out,if_pos rfl]
    clear Hstep
    go_wp2_with fail
    refine (zHF s x1 x2 x3 w2).mono ?_
    rintro e w3 ⟨rfl,hb3⟩
    have HB3:=cH (bot HB2.out hb3)
    have HO3:=cH (HO2.out.keep hb3)
    clear hb3 HO2 HB2 n1 n2 n3
    obtain ⟨n1,n2,n3⟩:=Hn.out w3 HB3.out
    have hwz:w1.heap.size≤w3.heap.size:=HB3.out.size
    go_wp2_with (at_builtin;refine zAM (by rfl) _ _ _ (by rfl) zEY Tryz.underlying205 (by rfl) (HO3.out.alloc _) ⟨w3.heap.size,0,none⟩ 1 [.int .i64 x1,.int .i64 x2,.int .i64 x3] ⟨x1,x2,x3⟩ (by rfl) ⟨rfl,Hi.out.1,Hi.out.2.1,Hi.out.2.2⟩ (zAd w3 #[.int .i64 x1,.int .i64 x2,.int .i64 x3] _) (by have:=Hlen.out;unfold maxLen;omega) (by have:=Hlen.out;omega) (by simp;omega) (w3.heap.size+1) (by simp) ?_)
    intro g9 cap9 w9 hown9 hgrow9 hat9 hlt9
    have HB9:=cH (zAw (bal HB3.out _) hgrow9 (HO3.out.alloc _) (nR _))
    have HO9:=cH hown9
    clear hown9 hgrow9 hat9 HO3 n1 n2 n3
    go_wp2_with fail
    go_roundw
    case rel=>exact ⟨k+1,by omega,rfl,by go_num,by rw[Hst.out];exact HO9,HB9⟩
    case measure=>simp[intOf];omega
def rWant:Rp Want where
 size:=3
 holds:=fun w S x cs=>∃ s0,cs=[.string x.name,.int .i64 x.kind,s0]∧x.name.size≤maxLen∧I64 x.kind∧SlV rSpn w S x.range s0
 len:=fun ⟨s0,h,_⟩=>by rw[h];rfl
 one:=fun ⟨s0,h,c0,c1,c2⟩=>by obtain ⟨_,_,rfl,_⟩:=c2.val;rw[h];simp[Value.oneCell']
 mono:=fun ⟨s0,h,c0,c1,c2⟩ hk=>⟨s0,h,c0,c1,(zAn rSpn).mono c2 hk⟩
theorem zGZ:Elt Tryz.prog 204 3 48:=Elt.mk' (z:=.agg #[.string ⟨#[]⟩,.int .i64 0,.slice none 0 0]) (by kernel_rfl) rfl (by decide)
def zDO (over:List Dep) (d:Dep):List Spn:=match over.find? (fun o=>decide (o.name=d.name)) with
 | some o=>o.range
 | none=>d.range
theorem zIT {l:List Dep} {d:Dep} {k:Nat} (h:l.length≤k):zDO (l.drop k) d=d.range:=by rw[dN h];rfl
theorem zH5 {l:List Dep} {k:Nat} {x:Dep} (hx:l[k]?=some x) (d:Dep):zDO (l.drop k) d=if x.name=d.name then x.range else zDO (l.drop (k+1)) d:=by
 obtain ⟨h,e⟩:=gS.1 hx
 rw[dC h,e]
 unfold zDO
 rw[List.find?_cons]
 by_cases hn:x.name=d.name
 ·rw[if_pos hn];simp[hn]
 ·rw[if_neg hn];simp[hn]
theorem zGj (m:Mani) (d:Dep) (u:Value) (rA:Option Addr) (rn rc:Nat) (w:World) (S:Nat→Prop) (hm:ManiV w S m u) (hd:SlV rSpn w S d.range (.slice rA rn rc)) :
  Calls Tryz.prog 182 #[u,.agg #[.string d.name,.slice rA rn rc]] w fun e w'=>(∃ B k c,e=.returned (.slice B k c)∧SlV rSpn w S (zBk m d) (.slice B k c))∧Below w.heap.size w w':=by
 obtain ⟨A0,n0,c0,A1,n1,c1,A2,n2,c2,A3,n3,c3,rfl,_,_,_,h3⟩:=hm
 have hn:=h3.n_eq
 have hcap:=h3.cap_le
 unfold maxLen at hcap
 have HL:=cH h3
 have HD:=cH hd
 have Hz0:Hid (m.over.length=n3):=hn.symm
 have hnz:n3≤9223372036854775807:=by omega
 have HR:Hid (zBk m d=zDO (m.over.drop 0) d):=rfl
 obtain ⟨R,hR⟩:∃ R,R=zBk m d:=⟨_,rfl⟩
 rw[←hR] at HR ⊢
 have HStep:Hid (∀ (k:Nat) (x:Dep),m.over[k]?=some x→zDO (m.over.drop k) d=if x.name=d.name then x.range else zDO (m.over.drop (k+1)) d):=fun k x hx=>zH5 hx d
 have HEnd:Hid (∀ k,n3≤k→zDO (m.over.drop k) d=d.range):=fun k hk=>zIT (by rw[←hn];exact hk)
 clear h3 hd hn hR hcap
 generalize m.over=ov at *
 obtain ⟨dn,dr⟩:=d
 simp only at HD HEnd HStep ⊢
 obtain ⟨w0,hw0⟩:∃ w0,w0=(w.alloc (.cells #[.slice A0 n0 c0,.slice A1 n1 c1,.slice A2 n2 c2,.slice A3 n3 c3] 28)).alloc (.cells #[.string dn,.slice rA rn rc] 68):=⟨_,rfl⟩
 have hw1:(w.alloc (.cells #[.slice A0 n0 c0,.slice A1 n1 c1,.slice A2 n2 c2,.slice A3 n3 c3] 28)).heap.size=w.heap.size+1:=by simp
 have HB0:Hid (Below w.heap.size w w0):=by unfold Hid;rw[hw0];exact bal (bal (bR _ _) _) _
 have hqX:w0.heap[w.heap.size]?=some (.cells #[.slice A0 n0 c0,.slice A1 n1 c1,.slice A2 n2 c2,.slice A3 n3 c3] 28 (0,0)):=by
  rw[hw0]
  exact ((bal (bR _ _) _).block _ (by rw[hw1];omega)).trans (zAD _ _)
 have hqY:w0.heap[w.heap.size+1]?=some (.cells #[.string dn,.slice rA rn rc] 68 (0,0)):=by
  rw[hw0,←hw1]
  exact zAD _ _
 obtain ⟨MB,hMB⟩:∃ k,k=w.heap.size:=⟨_,rfl⟩
 obtain ⟨DB,hDB⟩:∃ k,k=w.heap.size+1:=⟨_,rfl⟩
 rw[←hMB] at hqX
 rw[←hDB] at hqY
 have Hbox:Hid (∀ W,Below w0.heap.size w0 W→W.cell? ⟨MB,3,none⟩=some (.slice A3 n3 c3)∧W.cell? ⟨DB,0,none⟩=some (.string dn)∧W.cell? ⟨DB,1,none⟩=some (.slice rA rn rc)):=fun W hW=>by
  have h1:=(hW.block _ (aS.1 hqX).1).trans hqX
  have h2:=(hW.block _ (aS.1 hqY).1).trans hqY
  exact ⟨cO _ _ 3 _ _ _ h1,cO _ _ 0 _ _ _ h2,cO _ _ 1 _ _ _ h2⟩
 clear hqX hqY hw1
 go_enter Tryz.func182,Tryz.ntmps182
 go_wp2_with fail
 rw[←hw0,←hDB,←hMB]
 clear hw0 hDB hMB
 go_loopw [5] (fun t wr=>∃ k:Nat,k≤n3∧t=.int .i64 k∧Hid (R=zDO (ov.drop k) ⟨dn,dr⟩)∧Hid (Below w0.heap.size w0 wr)) (fun t _=>n3 - (intOf t).toNat)
 case atStart=>exact ⟨0,nZ _,rfl,HR,bR _ _⟩
 case round=>
  clear HR
  obtain ⟨k,hk,rfl,heq,hB⟩:=hrel
  have hk0:(0:Int)≤(k:Int):=by omega
  have HBw:=cH (bot HB0.out hB.out)
  obtain ⟨z3,y0,y1⟩:=Hbox.out wr hB.out
  by_cases hlt:k<n3
  case neg=>
   have He:Hid (R=dr):=by unfold Hid;rw[heq.out,HEnd.out k (by omega)]
   have hI:¬(k:Int)<(n3:Int):=by omega
   clear heq
   go_wp2_with fail
   go_ret
   exact ⟨⟨rA,rn,rc,rfl,by rw[He.out];exact HD.out⟩,HBw.out⟩
  have hkI:(k:Int)<(n3:Int):=by omega
  obtain ⟨x,hx⟩:∃ x,ov[k]?=some x:=⟨_,gE (by have:=Hz0.out;omega)⟩
  obtain ⟨b,o,cs,hA,_,hb,⟨s0,rfl,hsz,hrg⟩,hcell⟩:=HL.out.elem hx
  obtain ⟨qA,qc,rfl,_,_⟩:=hrg.val
  have c0:=zAA HBw.out (hcell 0 _ rfl) hb
  have Hc1:Hid (∀ W,Below w.heap.size w W→W.cell? ⟨b,o+k * 2+1,none⟩=some (.slice qA x.range.length qc)):=fun W hW=>zAA hW (hcell 1 _ rfl) hb
  have Hrg:=cH hrg
  simp only[rDep,Nat.add_zero] at c0
  have Hstep:=cH (heq.out.trans (HStep.out k x hx))
  clear hcell hsz heq hx hrg
  subst hA
  obtain ⟨xn,xr⟩:=x
  simp only at c0 Hstep Hc1 Hrg
  generalize xr.length=qn at *
  by_cases hnm:xn=dn
  ·have hb0:=zAT hnm
   have He:Hid (R=xr):=by unfold Hid;rw[Hstep.out,if_pos hnm]
   clear Hstep hnm
   go_upto_region 4 with (fail)
   have r_z3:=cR z3
   have r_y0:=cR y0
   have r_c0:=cR c0
   go_wp2_with fail
   refine wQ ?_
   repeat (go_big_quiet_step (first|fail))
   refine wpQuiet_nil fun w4 B4=>?_
   have HB4:=cH (bot HBw.out B4)
   have HB04:=cH (bot hB.out B4)
   clear B4 r_z3 r_y0 r_c0 z3 y0 y1 c0
   obtain ⟨z3,y0,y1⟩:=Hbox.out w4 HB04.out
   have c1:=Hc1.out w4 HB4.out
   go_wp2_with fail
   go_ret
   exact ⟨⟨qA,qn,qc,rfl,by rw[He.out];exact Hrg.out⟩,HB4.out⟩
  ·have hb0:=zAL hnm
   have He:Hid (R=zDO (ov.drop (k+1)) ⟨dn,dr⟩):=by unfold Hid;rw[Hstep.out,if_neg hnm]
   clear Hstep hnm
   go_upto_region 4 with (fail)
   have r_z3:=cR z3
   have r_y0:=cR y0
   have r_c0:=cR c0
   go_wp2_with fail
   refine wQ ?_
   repeat (go_big_quiet_step (first|fail))
   refine wpQuiet_nil fun w4 B4=>?_
   have HB4:=cH (bot hB.out B4)
   clear B4
   go_wp2_with fail
   go_roundw
   case rel=>exact ⟨k+1,by omega,by go_num,He,HB4⟩
   case measure=>simp[intOf];omega
theorem zI2 {α:Type} {r:Rp α} {w w':World} {S:Nat→Prop} {l:List α} {v:Value} (h:SlV r w S l v) (hb:Below w.heap.size w w'):SlV r w' (fun b=>S b∧b<w.heap.size) l v:=(h.more (S':=fun b=>S b∧b<w.heap.size) fun b hb hl=>⟨hb,hl⟩).belowSize hb
theorem zJn {l:List Want} {s:ByteArray} {q:Nat} {x:Want} (hx:l[q]?=some x):backW l s (q+1)=if lessB s x.name=true then backW l s q else q+1:=by rw[backW,hx]
theorem zJb (A:Option Addr) (n c:Nat) (l:List Want) (x:Want) (rA:Option Addr) (rn rc:Nat) (w:World) (S:Nat→Prop) (hl:SlV rWant w S l (.slice A n c)) (hlz:l.length≤4194304) (hx1:x.name.size≤maxLen) (hx2:I64 x.kind) (hx3:SlV rSpn w S x.range (.slice rA rn rc)) :
  Calls Tryz.prog 181 #[.slice A n c,.agg #[.string x.name,.int .i64 x.kind,.slice rA rn rc]] w fun e w'=>∃ B m,e=.returned (.slice B (zBn l x).length m)∧SlV rWant w' (fun b=>S b∨w.heap.size≤b) (zBn l x) (.slice B (zBn l x).length m)∧Below w.heap.size w w':=by
 have hn:=hl.n_eq
 have hcap:=hl.cap_le
 unfold maxLen at hcap
 have HL:=cH hl
 have HX3:=cH hx3
 have HX1:=cH hx1
 have HX2:=cH hx2
 have Hz0:Hid (l.length=n):=hn.symm
 have hnz:n≤4194304:=by omega
 have hnc:n≤c:=by omega
 have Hw:Hid (zBn l x=l.take (backW l x.name n)++x::l.drop (backW l x.name n)):=by unfold Hid zBn;rw[hn]
 have HLe:Hid (∀ W (y:ByteArray),y.size≤maxLen→Calls Tryz.prog 108 #[.string x.name,.string y] W fun e w'=>e=.returned (.bool (lessB x.name y))∧Below W.heap.size W w'):=fun W y hy=>zCs x.name y hx1 hy W
 obtain ⟨RR,hRR⟩:∃ RR,RR=zBn l x:=⟨_,rfl⟩
 rw[←hRR] at Hw ⊢
 obtain ⟨xn,xk,xr⟩:=x
 simp only at HX1 HX2 HX3 Hw HLe
 clear hl hn hlz hcap hRR hx1 hx2 hx3
 obtain ⟨w0,hw0⟩:∃ w0,w0=w.alloc (.cells #[.string xn,.int .i64 xk,.slice rA rn rc] 204):=⟨_,rfl⟩
 have HB0:Hid (Below w.heap.size w w0):=by unfold Hid;rw[hw0];exact bal (bR _ _) _
 have HQ0:Hid (w0.heap[w.heap.size]?=some (.cells #[.string xn,.int .i64 xk,.slice rA rn rc] 204 (0,0))):=by unfold Hid;rw[hw0];exact zAD _ _
 obtain ⟨g,hg⟩:∃ g,g=w.heap.size:=⟨_,rfl⟩
 rw[←hg] at HQ0
 have hz0:w.heap.size≤w0.heap.size:=HB0.out.size
 have Hrow:Hid (∀ W,Below w0.heap.size w0 W→W.cell? ⟨g,0,none⟩=some (.string xn)∧W.cell? ⟨g,1,none⟩=some (.int .i64 xk)∧W.cell? ⟨g,2,none⟩=some (.slice rA rn rc)):=fun W hW=>by
  have h:=(hW.block _ (aS.1 HQ0.out).1).trans HQ0.out
  exact ⟨cO _ _ 0 _ _ _ h,cO _ _ 1 _ _ _ h,cO _ _ 2 _ _ _ h⟩
 go_enter Tryz.func181,Tryz.ntmps181
 go_wp2_with fail
 rw[←hw0,←hg]
 clear hw0 hg HQ0
 go_loopw [5] (fun t wr=>∃ k:Nat,k≤n∧t=.int .i64 k∧Hid (backW l xn n=backW l xn k)∧Hid (Below w0.heap.size w0 wr)) (fun t _=>(intOf t).toNat)
 case atStart=>exact ⟨n,nR _,rfl,cH rfl,bR _ _⟩
 case round=>
  obtain ⟨k,hk,rfl,heq,hB⟩:=hrel
  obtain ⟨x0,x1,x2⟩:=Hrow.out wr hB.out
  have hk0:(0:Int)≤(k:Int):=by omega
  by_cases hpos:0<k
  rotate_left
  focus
   have hpI:¬(0:Int)<(k:Int):=by omega
   have hpd:decide ((0:Int)<(k:Int))=false:=decide_eq_false hpI
   have hpdn:decide (0<k)=false:=decide_eq_false hpos
   have Hat:Hid (backW l xn n=k):=by
    unfold Hid
    have:k=0:=by omega
    rw[heq.out,this];rfl
   clear heq
   go_upto_region 2 with (fail)
   have r_x0:=cR x0
   go_wp2_with fail
   refine wQ ?_
   repeat (go_big_quiet_step (first|fail))
   refine wpQuiet_nil fun w5 B5=>?_
   have HB5:=cH (bot hB.out B5)
   clear r_x0 x0 x1 x2 B5
   go_upto_region 5 with (fail)
  rotate_left
  focus
   obtain ⟨q,rfl⟩:∃ q,k=q+1:=⟨k - 1,by omega⟩
   obtain ⟨y,hy⟩:∃ y,l[q]?=some y:=⟨_,gE (by have:=Hz0.out;omega)⟩
   have hqI:(q:Int)<(n:Int):=by omega
   have hq0:(0:Int)≤(q:Int):=by omega
   have hq1:(0:Int)<(q:Int)+1:=by omega
   have hq1d:decide ((0:Int)<(q:Int)+1)=true:=decide_eq_true hq1
   have hw1:IntKind.i64.wrap ((q:Int)+1 - 1)=(q:Int):=(IntWalk.i64_in _ ⟨by omega,by omega⟩).trans (by omega)
   have hw2:IntKind.i64.wrap (q:Int)=(q:Int):=IntWalk.i64_in _ ⟨by omega,by omega⟩
   have HBr:Hid (Below w.heap.size w wr):=bot HB0.out hB.out
   obtain ⟨b,o,cs,hA,_,hb1,⟨s0,rfl,hsz,_,_⟩,hcell⟩:=(HL.out.belowSize HBr.out).elem hy
   have c0:=hcell 0 _ rfl
   simp only[rWant,Nat.add_zero] at c0
   have hbw:b<wr.heap.size:=hb1
   have Hstep:Hid (backW l xn n=if lessB xn y.name=true then backW l xn q else q+1):=by unfold Hid;rw[heq.out,zJn hy]
   have HTx:Hid (∀ W,Below wr.heap.size wr W→Calls Tryz.prog 108 #[.string xn,.string y.name] W fun e w'=>e=.returned (.bool (lessB xn y.name))∧Below W.heap.size W w'):=fun W _=>HLe.out W y.name hsz
   have HTq:=cH (qcall (w:=wr) HTx.out)
   clear hcell hsz heq hy HTx
   subst hA
   obtain ⟨yn,yk,yr⟩:=y
   simp only at c0 Hstep HTq
   by_cases hls:lessB xn yn=true
   focus
    rw[hls] at HTq
    have He:Hid (backW l xn n=backW l xn q):=by unfold Hid;rw[Hstep.out,if_pos hls]
    clear Hstep hls
    go_upto_region 2 with (fail)
    have r_x0:=cR x0
    have r_c0:=cR c0
    go_wp2_with fail
    refine wQ ?_
    repeat (go_big_quiet_step (first|(with_reducible exact HTq.out _ _)))
    refine wpQuiet_nil fun w4 B4=>?_
    have HB4:=cH (bot hB.out B4)
    clear B4
    go_wp2_with fail
    go_roundw
    case rel=>exact ⟨q,by omega,by go_num,He,HB4⟩
    case measure=>simp[intOf]<;>omega
   have hls:lessB xn yn=false:=by simpa using hls
   have Hat:Hid (backW l xn n=q+1):=by unfold Hid;rw[Hstep.out,if_neg (by rw[hls];decide)]
   rw[hls] at HTq
   clear Hstep hls
   go_upto_region 2 with (fail)
   have r_x0:=cR x0
   have r_c0:=cR c0
   go_wp2_with fail
   refine wQ ?_
   repeat (go_big_quiet_step (first|(with_reducible exact HTq.out _ _)))
   refine wpQuiet_nil fun w5 B5=>?_
   have HB5:=cH (bot hB.out B5)
   clear r_x0 r_c0 x0 x1 x2 c0 B5
   generalize (some (⟨b,o,none⟩:Addr))=A at *
   obtain ⟨k,hkq⟩:∃ k,k=q+1:=⟨_,rfl⟩
   have hkqI:(q:Int)+1=(k:Int):=by omega
   rw[←hkq] at Hat hk
   rw[hkqI]
   have hk0:(0:Int)≤(k:Int):=by omega
   clear hkq hkqI hq1 hq1d hw1 hw2 hqI hq0
   go_upto_region 5 with (fail)
  all_goals
   have HBw5:Hid (Below w.heap.size w w5):=bot HB0.out HB5.out
   have hjc:k≤c:=by omega
   have Hlt1:Hid ((l.take k).length=k):=by unfold Hid;rw[List.length_take,Hz0.out];omega
   have hwz:w.heap.size≤w5.heap.size:=HBw5.out.size
   obtain ⟨T,hT⟩:∃ T:Nat→Prop,T=fun b=>b<w5.heap.size∧(S b∨w.heap.size≤b):=⟨_,rfl⟩
   have HT:Hid (∀ b,T b↔b<w5.heap.size∧(S b∨w.heap.size≤b)):=fun b=>by rw[hT]
   clear hT
   have HLs:Hid (SlV rWant w5 T l (.slice A n c)):=(HL.out.belowSize HBw5.out).more fun b hb hl=>(HT.out b).2 ⟨hl,.inl hb⟩
   have HT3:Hid (SlV rWant w5 T (l.take k) (.slice A k c)):=SlV.take HLs.out (by rw[Hz0.out];exact hk)
   go_wp2_with (at_builtin;refine zAN (by rfl) _ _ _ (by rfl) zGZ Tryz.underlying176 (by rfl) (Own.nil_ rWant w5 w5.heap.size 204 (S:=fun _=>False) (fun b h=>h.elim)) T (l.take k) _ _ _ (by rfl) HT3.out (by intro b hb he;simp[Value.ownBlock] at he) (by rw[Hlt1.out];simp[maxLen];omega) (by rw[Hlt1.out];simp;omega) (by simp) ?_)
   intro u6 w6 hown6 hgrow6 hat6
   have HB6:Hid (Below w5.heap.size w5 w6):=(bR _ _).grown hgrow6 (nR _) (fun k hk=>by simp[Value.ownBlock] at hk)
   have hz6:=HB6.out.size
   have HO6:Hid (Own rWant w6 w5.heap.size 204 u6 (l.take k) T):=hown6.more (fun b hb=>⟨lL ((HT.out b).1 hb).1 hz6,fun he=>by have:=(hown6.lt b he).1;have:=((HT.out b).1 hb).1;omega⟩) (fun b hb=>by first|exact hb.1|(rcases hb with h|h;exact h.elim;exact h.1))
   obtain ⟨x0,x1,x2⟩:=Hrow.out w6 (bot HB5.out HB6.out)
   have HX6:Hid (SlV rSpn (w6.alloc (.cells #[.string xn,.int .i64 xk,.slice rA rn rc] 204)) T xr (.slice rA rn rc)):=(zI2 HX3.out (bal (bot HBw5.out HB6.out) _)).more fun b hb _=>(HT.out b).2 ⟨lL hb.2 hwz,.inl hb.1⟩
   clear hown6 hgrow6 hat6
   go_wp2_with (at_builtin;refine zAM (by rfl) _ _ _ (by rfl) zGZ Tryz.underlying176 (by rfl) (HO6.out.alloc _) ⟨w6.heap.size,0,none⟩ 1 [.string xn,.int .i64 xk,.slice rA rn rc] ⟨xn,xk,xr⟩ (by rfl) ⟨_,rfl,HX1.out,HX2.out,HX6.out⟩ (zAd w6 #[.string xn,.int .i64 xk,.slice rA rn rc] _) (by rw[Hlt1.out];unfold maxLen;omega) (by rw[Hlt1.out];omega) (nT hz6 (by simp)) (w6.heap.size+1) (by simp) ?_)
   intro g9 cap9 w9 hown9 hgrow9 hat9 hlt9
   have HB9:=cH (zAw (bal HB6.out _) hgrow9 (HO6.out.alloc _) (nR _))
   have HO9:=cH hown9
   have Hlb9:=cH hown9.lt
   have hz9:=HB9.out.size
   have Hdl:Hid ((l.drop k).length=n - k):=by unfold Hid;rw[List.length_drop,Hz0.out]
   have Hl9:Hid ((l.take k++[(⟨xn,xk,xr⟩:Want)]).length=k+1):=by unfold Hid;rw[List.length_append,Hlt1.out];rfl
   obtain ⟨X,hX⟩:∃ X,X=(if c=k then A else A.map (fun x:Addr=>x.add (k * 3))):=⟨_,rfl⟩
   have HT4:Hid (SlV rWant w9 T (l.drop k) (.slice X (n - k) (c - k))):=by
    unfold Hid
    rw[hX]
    exact SlV.cutD (HLs.out.belowSize HB9.out) k hk
   have hsl:∀ W,(Instr.slice 176 (.slice A n c) (some (.int .i64 (k:Int))) none none).run Tryz.prog W=.ok (.slice X (n - k) (c - k)) W:=fun W=>by
    rw[hX]
    exact zCe (P:=Tryz.prog) (t:=176) (e:=204) (z:=3) Tryz.underlying176 (by kernel_rfl) (fun _=>by kernel_rfl) A n c k hk W
   clear hown9 hgrow9 hat9 hlt9 x0 x1 x2 hX HT3 HLs HO6 HX6
   go_wp2_with (at_builtin;refine zAN (by rfl) _ _ _ (by rfl) zGZ Tryz.underlying176 (by rfl) HO9.out T (l.drop k) _ _ _ (by rfl) HT4.out (by intro b hb he;have:=(Hlb9.out b he).1;have:=((HT.out b).1 hb).1;omega) (by rw[Hl9.out,Hdl.out];unfold maxLen;omega) (by rw[Hl9.out,Hdl.out];omega) hz9 ?_)
   intro u7 w7 hown7 hgrow7 hat7
   have HB7:=cH (bot HBw5.out (zAw HB9.out hgrow7 HO9.out (nR _)))
   have HO7:Hid (SlV rWant w7 (fun b=>S b∨w.heap.size≤b) RR u7):=by
    have HRR:RR=l.take k++[(⟨xn,xk,xr⟩:Want)]++l.drop k:=by rw[Hw.out,Hat.out];simp
    have h:=hown7.slv.more (S':=fun b=>S b∨w.heap.size≤b) (fun b hb _=>by
     rcases hb with (hb|hb)|hb
     ·exact ((HT.out b).1 hb).2
     ·exact ((HT.out b).1 hb.1).2
     ·exact Or.inr (by omega))
    unfold Hid
    rw[HRR]
    first
     | exact h
     | simpa using h
   clear hown7 hgrow7 hat7 HT4 hsl HO9
   obtain ⟨A7,c7,rfl,_,_⟩:=HO7.out.val
   go_wp2_with fail
   go_ret
   exact ⟨A7,c7,rfl,HO7.out,HB7.out⟩
theorem zDn:Elt Tryz.prog 52 7 112:=Elt.mk' (z:=.agg #[.string ⟨#[]⟩,.int .i64 0,.int .i64 0,.int .i64 0,.slice none 0 0,.slice none 0 0,.slice none 0 0]) (by kernel_rfl) rfl (by decide)
theorem zE9 (x:Pack) (l:List Pack) (p:Pack):zBS (x::l) p=if zCz x p=true then zBS l p+1 else 0:=by
 unfold zBS
 rw[List.takeWhile_cons]
 split<;>rename_i h<;>simp[h]
theorem zKU (l:List Pack) (p:Pack):zBS l p≤l.length:=by
 induction l with
 | nil=>exact nR _
 | cons x l ih=>rw[zE9];split<;>simp<;>omega
theorem zLp {L:List Pack} {p:Pack} (h:L.length≤128):(putC L p).1.length≤128:=by
 unfold putC
 split
 ·exact h
 ·split
  ·exact h
  ·split
   ·exact h
   ·rename_i h3
    simp only[List.length_append,List.length_cons,List.length_take,List.length_drop]
    omega
theorem putC_mem {L:List Pack} {p x:Pack} (h:x∈(putC L p).1):x∈L∨(x=p∧packB p=true):=by
 unfold putC at h
 split at h
 ·exact Or.inl h
 ·rename_i hb
  split at h
  ·exact Or.inl h
  ·split at h
   ·exact Or.inl h
   ·rcases List.mem_append.1 h with h|h
    ·exact Or.inl (List.mem_of_mem_take h)
    ·rcases List.mem_cons.1 h with h|h
     ·exact Or.inr ⟨h,by simpa using hb⟩
     ·exact Or.inl (List.mem_of_mem_drop h)
theorem zMB {ps:List Pack}:∀ {L:List Pack} {x:Pack},x∈ps.foldl (fun L p=>(putC L p).1) L→x∈L∨(x∈ps∧packB x=true):=by
 induction ps with
 | nil=>intro L x h;exact Or.inl h
 | cons p ps ih=>
   intro L x h
   rcases ih h with h|⟨h,hb⟩
   ·rcases putC_mem h with h|⟨rfl,hb⟩
    ·exact Or.inl h
    ·exact Or.inr ⟨by simp,hb⟩
   ·exact Or.inr ⟨by simp[h],hb⟩
def PutP (cB:Nat) (S:Nat→Prop) (w:World) (L:List Pack) (w':World):Prop:=
 ∃ A n c,w'.heap[cB]?=some (.cells #[.slice A n c] 94 (0,0))∧SlV rPack w' (fun b=>(S b∨w.heap.size≤b)∧b≠cB) L (.slice A n c)∧But cB w w'
theorem zK2 {L:List Pack} {p:Pack} (h:packB p=false∨(getC L p.name p.ver).isSome=true∨128≤L.length):(putC L p).1=L:=by
 unfold putC
 split
 ·rfl
 ·split
  ·rfl
  ·split
   ·rfl
   ·rename_i h1 h2 h3
    rcases h with h|h|h
    ·exact absurd h h1
    ·exact absurd h h2
    ·exact absurd h h3
theorem zKy {L:List Pack} {p:Pack} (h1:packB p=true) (h2:(getC L p.name p.ver).isSome=false) (h3:¬128≤L.length):(putC L p).1=L.take (zBS L p)++p::L.drop (zBS L p):=by
 unfold putC
 rw[if_neg (by rw[h1];decide),if_neg (by rw[h2];decide),if_neg h3]
theorem zL9 (cB:Nat) (kA:Option Addr) (kn kc:Nat) (L:List Pack) (p:Pack) (u:Value) (w:World) (S:Nat→Prop) (hrow:w.heap[cB]?=some (.cells #[.slice kA kn kc] 94 (0,0))) (hl:SlV rPack w S L (.slice kA kn kc)) (hS:∀ b,S b→b≠cB) (hLz:L.length≤128) (hp:PackV w S p u) (hpi:I64 p.ver.major∧I64 p.ver.minor∧I64 p.ver.patch) :
  Calls Tryz.prog 33 #[.pointer (some ⟨cB,0,none⟩),u] w fun e w'=>(∃ c,e=.returned (.int .i64 c))∧PutP cB S w (putC L p).1 w':=by
 have hcB:cB<w.heap.size:=(aS.1 hrow).1
 have hn:=hl.n_eq
 have hcap:=hl.cap_le
 unfold maxLen at hcap
 have hnz:kn≤128:=by omega
 have hnc:kn≤kc:=by omega
 have Hz0:Hid (L.length=kn):=hn.symm
 have HS:=cH hS
 have HL:=cH hl
 have HPV:=cH hp
 have Hpi:=cH hpi
 have HC:Hid (∀ W,Below w.heap.size w W→W.heap[cB]?=some (.cells #[.slice kA kn kc] 94 (0,0))):=fun W hW=>(hW.block _ hcB).trans hrow
 have Hkeep:Hid (∀ W,Below w.heap.size w W→PutP cB S w L W):=fun W hW=>⟨kA,kn,kc,(hW.block _ hcB).trans hrow,(hl.belowSize hW).more fun b hb _=>⟨Or.inl hb,hS b hb⟩,But.of hW⟩
 have Hsame:Hid ((packB p=false∨(getC L p.name p.ver).isSome=true∨128≤kn)→(putC L p).1=L):=fun h=>zK2 (by rw[←hn];exact h)
 have Hmore:Hid (packB p=true→(getC L p.name p.ver).isSome=false→¬128≤kn→(putC L p).1=L.take (zBS L p)++p::L.drop (zBS L p)):=fun h1 h2 h3=>zKy h1 h2 (by rw[←hn];exact h3)
 have HMay:Hid (∀ W,Below w.heap.size w W→Calls Tryz.prog 63 #[u] W fun e w'=>e=.returned (.bool (packB p))∧Below W.heap.size W w'):=fun W hW=>zCW p u W S (hp.keep hW)
 have HGet:Hid (∀ W,Below w.heap.size w W→Calls Tryz.prog 35 #[.pointer (some ⟨cB,0,none⟩),.string p.name,.agg #[.int .i64 p.ver.major,.int .i64 p.ver.minor,.int .i64 p.ver.patch]] W fun e w'=>(∃ (s:ByteArray) (i1 i2 i3:Int) (A:Option Addr) (na a:Nat) (B:Option Addr) (nb b:Nat) (C:Option Addr) (nc c:Nat),e=.returned (.tuple #[.agg #[.string s,.int .i64 i1,.int .i64 i2,.int .i64 i3,.slice A na a,.slice B nb b,.slice C nc c],.bool (getC L p.name p.ver).isSome]))∧Below W.heap.size W w'):=fun W hW=>by
  refine (zEW cB kA kn kc L p.name p.ver W S (cO _ _ 0 _ _ _ ((hW.block _ hcB).trans hrow)) (hl.belowSize hW)).mono ?_
  rintro e w' ⟨q,h1,h2,h3⟩
  obtain ⟨A,B,C,a,b,c,rfl,_⟩:=h2.open_
  exact ⟨⟨_,_,_,_,_,_,_,_,_,_,_,_,_,h1⟩,h3⟩
 have HAh:Hid (∀ (x:Pack) v W,Below w.heap.size w W→PackV W S x v→Calls Tryz.prog 64 #[v,u] W fun e w'=>e=.returned (.bool (zCz x p))∧Below W.heap.size W w'):=fun x v W hW hx=>zLC x p v u W S S hx (hp.keep hW)
 obtain ⟨dA,pA,oA,dc,pc,oc,rfl,_,_,_,_⟩:=hp.open_
 obtain ⟨RR,hRR⟩:∃ RR,RR=(putC L p).1:=⟨_,rfl⟩
 rw[←hRR] at Hsame Hmore ⊢
 have hpz:zBS L p≤kn:=by have:=zKU L p;omega
 have Hpz:=cH hpz
 have HR:Hid (zBS L p=0+zBS (L.drop 0) p):=by unfold Hid;rw[List.drop_zero,Nat.zero_add]
 clear hrow hl hS hLz hp hpi hn hcap hRR hpz
 generalize packB p=pb at *
 generalize (getC L p.name p.ver).isSome=gs at *
 obtain ⟨l1,hl1⟩:∃ k,k=p.deps.length:=⟨_,rfl⟩
 obtain ⟨l2,hl2⟩:∃ k,k=p.peers.length:=⟨_,rfl⟩
 obtain ⟨l3,hl3⟩:∃ k,k=p.opts.length:=⟨_,rfl⟩
 rw[←hl1,←hl2,←hl3] at HMay HAh HPV ⊢
 clear hl1 hl2 hl3
 obtain ⟨pn,hpn⟩:∃ k,k=p.name:=⟨_,rfl⟩
 obtain ⟨v1,hv1⟩:∃ k,k=p.ver.major:=⟨_,rfl⟩
 obtain ⟨v2,hv2⟩:∃ k,k=p.ver.minor:=⟨_,rfl⟩
 obtain ⟨v3,hv3⟩:∃ k,k=p.ver.patch:=⟨_,rfl⟩
 rw[←hpn,←hv1,←hv2,←hv3] at HMay HAh HPV HGet ⊢
 rw[←hv1,←hv2,←hv3] at Hpi
 clear hpn hv1 hv2 hv3
 obtain ⟨w0,hw0⟩:∃ w0,w0=w.alloc (.cells #[.string pn,.int .i64 v1,.int .i64 v2,.int .i64 v3,.slice dA l1 dc,.slice pA l2 pc,.slice oA l3 oc] 52):=⟨_,rfl⟩
 have HB0:Hid (Below w.heap.size w w0):=by unfold Hid;rw[hw0];exact bal (bR _ _) _
 have hq0:w0.heap[w.heap.size]?=some (.cells #[.string pn,.int .i64 v1,.int .i64 v2,.int .i64 v3,.slice dA l1 dc,.slice pA l2 pc,.slice oA l3 oc] 52 (0,0)):=by rw[hw0];exact zAD _ _
 obtain ⟨g,hg⟩:∃ g,g=w.heap.size:=⟨_,rfl⟩
 rw[←hg] at hq0
 have Hgne:Hid (g≠cB):=by unfold Hid;omega
 have Hbox:Hid (∀ W,Below w0.heap.size w0 W→W.cell? ⟨g,0,none⟩=some (.string pn)∧W.cell? ⟨g,1,none⟩=some (.int .i64 v1)∧W.cell? ⟨g,2,none⟩=some (.int .i64 v2)∧W.cell? ⟨g,3,none⟩=some (.int .i64 v3)∧W.cell? ⟨g,4,none⟩=some (.slice dA l1 dc)∧W.cell? ⟨g,5,none⟩=some (.slice pA l2 pc)∧W.cell? ⟨g,6,none⟩=some (.slice oA l3 oc)):=fun W hW=>(row7 ((hW.block _ (aS.1 hq0).1).trans hq0)).1
 obtain ⟨x0,x1,x2,x3,x4,x5,x6⟩:=Hbox.out w0 (bR _ _)
 clear hq0
 go_enter Tryz.func33,Tryz.ntmps33
 go_upto_region 1 with (fail)
 rw[←hw0,←hg]
 clear hw0 hg
 go_wp2_with fail
 refine (HMay.out w0 HB0.out).mono ?_
 rintro e w1 ⟨rfl,hb1⟩
 have HB1:=cH hb1
 clear hb1 x0 x1 x2 x3 x4 x5 x6 HMay
 cases pb with
 | false=>
   have He:=cH (Hsame.out (Or.inl rfl))
   clear Hsame Hmore
   go_wp2_with fail
   go_ret
   exact ⟨⟨_,rfl⟩,by rw[He.out];exact Hkeep.out _ (bot HB0.out HB1.out)⟩
 | true=>
 obtain ⟨x0,x1,x2,x3,x4,x5,x6⟩:=Hbox.out w1 HB1.out
 have z0:=cO _ _ 0 _ _ _ (HC.out w1 (bot HB0.out HB1.out))
 go_wp2_with fail
 refine (HGet.out w1 (bot HB0.out HB1.out)).mono ?_
 rintro e w2 ⟨⟨aq,i1,i2,i3,aA,na,aa,aB,nb,ab,aC,nc,ac,rfl⟩,hb2⟩
 have HB2:=cH (bot HB1.out hb2)
 clear hb2 x0 x1 x2 x3 x4 x5 x6 z0 HGet
 go_upto_region 4 with (fail)
 obtain ⟨w3,hw3⟩:∃ w3,w3=w2.alloc (.cells #[.string aq,.int .i64 i1,.int .i64 i2,.int .i64 i3,.slice aA na aa,.slice aB nb ab,.slice aC nc ac] 52):=⟨_,rfl⟩
 have HB3:Hid (Below w0.heap.size w0 w3):=by unfold Hid;rw[hw3];exact bal HB2.out _
 rw[←hw3]
 clear hw3 HB1 HB2
 have z0:=cO _ _ 0 _ _ _ (HC.out w3 (bot HB0.out HB3.out))
 cases gs with
 | true=>
   have He:=cH (Hsame.out (Or.inr (Or.inl rfl)))
   clear Hsame Hmore
   go_wp2_with fail
   go_ret
   exact ⟨⟨_,rfl⟩,by rw[He.out];exact Hkeep.out _ (bot HB0.out HB3.out)⟩
 | false=>
 by_cases h128:128≤kn
 ·have He:=cH (Hsame.out (Or.inr (Or.inr h128)))
  have h128I:(128:Int)≤(kn:Int):=by omega
  have h128d:decide ((128:Int)≤(kn:Int))=true:=decide_eq_true h128I
  clear Hsame Hmore
  go_wp2_with fail
  go_ret
  exact ⟨⟨_,rfl⟩,by rw[He.out];exact Hkeep.out _ (bot HB0.out HB3.out)⟩
 have Hm:=cH (Hmore.out (by first|rfl|trivial) (by first|rfl|trivial) h128)
 have h128I:¬(128:Int)≤(kn:Int):=by omega
 have h128d:decide ((128:Int)≤(kn:Int))=false:=decide_eq_false h128I
 clear Hsame Hmore Hkeep h128
 go_wp2_with fail
 clear z0 h128I h128d
 go_loopw [7] (fun t wr=>∃ k:Nat,k≤kn∧t=.int .i64 k∧Hid (zBS L p=k+zBS (L.drop k) p)∧Hid (Below w0.heap.size w0 wr)) (fun t _=>kn - (intOf t).toNat)
 case atStart=>exact ⟨0,nZ _,rfl,HR,HB3⟩
 case round=>
  clear HR HB3
  obtain ⟨k,hk,rfl,heq,hB⟩:=hrel
  have hk0:(0:Int)≤(k:Int):=by omega
  have HBw:=cH (bot HB0.out hB.out)
  obtain ⟨x0,x1,x2,x3,x4,x5,x6⟩:=Hbox.out wr hB.out
  have z0:=cO _ _ 0 _ _ _ (HC.out wr HBw.out)
  by_cases hlt:k<kn
  rotate_left
  focus
   have hpI:¬(k:Int)<(kn:Int):=by omega
   have hpd:decide ((k:Int)<(kn:Int))=false:=decide_eq_false hpI
   have hpdn:decide (k<kn)=false:=decide_eq_false hlt
   have Hat:Hid (zBS L p=k):=by
    unfold Hid
    rw[heq.out,dN (by have:=Hz0.out;omega)];rfl
   clear heq
   go_upto_region 9 with (fail)
   have r_z0:=cR z0
   have r_x0:=cR x0
   have r_x1:=cR x1
   have r_x2:=cR x2
   have r_x3:=cR x3
   have r_x4:=cR x4
   have r_x5:=cR x5
   have r_x6:=cR x6
   go_wp2_with fail
   refine wQ ?_
   repeat (go_big_quiet_step (first|fail))
   refine wpQuiet_nil fun w5 B5=>?_
   have HB5:=cH (bot hB.out B5)
   clear r_z0 r_x0 r_x1 r_x2 r_x3 r_x4 r_x5 r_x6 z0 x0 x1 x2 x3 x4 x5 x6 B5
   go_upto_region 12 with (fail)
  rotate_left
  focus
   have hkI:(k:Int)<(kn:Int):=by omega
   have hkd:decide ((k:Int)<(kn:Int))=true:=decide_eq_true hkI
   have hkdn:decide (k<kn)=true:=decide_eq_true hlt
   obtain ⟨y,hy⟩:∃ y,L[k]?=some y:=⟨_,gE (by have:=Hz0.out;omega)⟩
   obtain ⟨b,o,yA,yB,yC,ya,yb,yc,hA,hb,_,hpv,_,n0,n1,n2,n3,n4,n5,n6⟩:=zFK HL.out hy
   have n0:=zAA HBw.out n0 hb
   have n1:=zAA HBw.out n1 hb
   have n2:=zAA HBw.out n2 hb
   have n3:=zAA HBw.out n3 hb
   have n4:=zAA HBw.out n4 hb
   have n5:=zAA HBw.out n5 hb
   have n6:=zAA HBw.out n6 hb
   have hdk:L.drop k=y::L.drop (k+1):=by
    obtain ⟨h,e⟩:=gS.1 hy
    rw[dC h,e]
   have Hstep:Hid (zBS L p=k+if zCz y p=true then zBS (L.drop (k+1)) p+1 else 0):=by unfold Hid;rw[heq.out,hdk,zE9]
   have HTx:Hid (∀ W,Below wr.heap.size wr W→Calls Tryz.prog 64 #[.agg #[.string y.name,.int .i64 y.ver.major,.int .i64 y.ver.minor,.int .i64 y.ver.patch,.slice yA y.deps.length ya,.slice yB y.peers.length yb,.slice yC y.opts.length yc],.agg #[.string pn,.int .i64 v1,.int .i64 v2,.int .i64 v3,.slice dA l1 dc,.slice pA l2 pc,.slice oA l3 oc]] W fun e w'=>e=.returned (.bool (zCz y p))∧Below W.heap.size W w'):=fun W hW=>HAh.out y _ W (bot HBw.out hW) (hpv.keep (bot HBw.out hW))
   have HTq:=cH (qcall (w:=wr) HTx.out)
   clear hpv hdk heq hy HTx
   subst hA
   generalize y.deps.length=m1 at *
   generalize y.peers.length=m2 at *
   generalize y.opts.length=m3 at *
   generalize y.name=yn at *
   generalize y.ver.major=u1 at *
   generalize y.ver.minor=u2 at *
   generalize y.ver.patch=u3 at *
   generalize zCz y p=ab at *
   by_cases hls:ab=true
   focus
    have He:Hid (zBS L p=(k+1)+zBS (L.drop (k+1)) p):=by unfold Hid;rw[Hstep.out,if_pos hls];omega
    rw[hls] at HTq
    clear Hstep hls
    go_upto_region 9 with (fail)
    have r_z0:=cR z0
    have r_x0:=cR x0
    have r_x1:=cR x1
    have r_x2:=cR x2
    have r_x3:=cR x3
    have r_x4:=cR x4
    have r_x5:=cR x5
    have r_x6:=cR x6
    have r_n0:=cR n0
    have r_n1:=cR n1
    have r_n2:=cR n2
    have r_n3:=cR n3
    have r_n4:=cR n4
    have r_n5:=cR n5
    have r_n6:=cR n6
    go_wp2_with fail
    refine wQ ?_
    repeat (go_big_quiet_step (first|(with_reducible exact HTq.out _ _)))
    refine wpQuiet_nil fun w4 B4=>?_
    have HB4:=cH (bot hB.out B4)
    clear B4
    go_wp2_with fail
    go_roundw
    case rel=>exact ⟨k+1,by omega,by go_num,He,HB4⟩
    case measure=>simp[intOf];omega
   have hls:ab=false:=by simpa using hls
   have Hat:Hid (zBS L p=k):=by unfold Hid;rw[Hstep.out,if_neg (by rw[hls];decide)];rfl
   rw[hls] at HTq
   clear Hstep hls
   go_upto_region 9 with (fail)
   have r_z0:=cR z0
   have r_x0:=cR x0
   have r_x1:=cR x1
   have r_x2:=cR x2
   have r_x3:=cR x3
   have r_x4:=cR x4
   have r_x5:=cR x5
   have r_x6:=cR x6
   have r_n0:=cR n0
   have r_n1:=cR n1
   have r_n2:=cR n2
   have r_n3:=cR n3
   have r_n4:=cR n4
   have r_n5:=cR n5
   have r_n6:=cR n6
   go_wp2_with fail
   refine wQ ?_
   repeat (go_big_quiet_step (first|(with_reducible exact HTq.out _ _)))
   refine wpQuiet_nil fun w5 B5=>?_
   have HB5:=cH (bot hB.out B5)
   clear r_z0 r_x0 r_x1 r_x2 r_x3 r_x4 r_x5 r_x6 r_n0 r_n1 r_n2 r_n3 r_n4 r_n5 r_n6 z0 x0 x1 x2 x3 x4 x5 x6 n0 n1 n2 n3 n4 n5 n6 B5
   generalize (some (⟨b,o,none⟩:Addr))=kA at *
   go_upto_region 12 with (fail)
  all_goals
   have HBw5:Hid (Below w.heap.size w w5):=bot HB0.out HB5.out
   have hjc:k≤kc:=by omega
   have Hlt1:Hid ((L.take k).length=k):=by unfold Hid;rw[List.length_take,Hz0.out];omega
   have hwz:w.heap.size≤w5.heap.size:=HBw5.out.size
   obtain ⟨T,hT⟩:∃ T:Nat→Prop,T=fun b=>b<w5.heap.size∧(S b∨w.heap.size≤b)∧b≠cB:=⟨_,rfl⟩
   have HT:Hid (∀ b,T b↔b<w5.heap.size∧(S b∨w.heap.size≤b)∧b≠cB):=fun b=>by rw[hT]
   clear hT
   have HLs:Hid (SlV rPack w5 T L (.slice kA kn kc)):=(HL.out.belowSize HBw5.out).more fun b hb hl=>(HT.out b).2 ⟨hl,.inl hb,HS.out b hb⟩
   have HT3:Hid (SlV rPack w5 T (L.take k) (.slice kA k kc)):=SlV.take HLs.out (by rw[Hz0.out];exact hk)
   have z0:=cO _ _ 0 _ _ _ (HC.out w5 HBw5.out)
   go_wp2_with (at_builtin;refine zAN (by rfl) _ _ _ (by rfl) zDn Tryz.underlying25 (by rfl) (Own.nil_ rPack w5 w5.heap.size 52 (S:=fun _=>False) (fun b h=>h.elim)) T (L.take k) _ _ _ (by rfl) HT3.out (by intro b hb he;simp[Value.ownBlock] at he) (by rw[Hlt1.out];simp[maxLen];omega) (by rw[Hlt1.out];simp;omega) (by simp) ?_)
   intro u6 w6 hown6 hgrow6 hat6
   have HB6:Hid (Below w5.heap.size w5 w6):=(bR _ _).grown hgrow6 (nR _) (fun k hk=>by simp[Value.ownBlock] at hk)
   have hz6:=HB6.out.size
   have HO6:Hid (Own rPack w6 w5.heap.size 52 u6 (L.take k) T):=hown6.more (fun b hb=>⟨lL ((HT.out b).1 hb).1 hz6,fun he=>by have:=(hown6.lt b he).1;have:=((HT.out b).1 hb).1;omega⟩) (fun b hb=>by first|exact hb.1|(rcases hb with h|h;exact h.elim;exact h.1))
   obtain ⟨x0,x1,x2,x3,x4,x5,x6⟩:=Hbox.out w6 (bot HB5.out HB6.out)
   have HX6:Hid (rPack.holds (w6.alloc (.cells #[.string pn,.int .i64 v1,.int .i64 v2,.int .i64 v3,.slice dA l1 dc,.slice pA l2 pc,.slice oA l3 oc] 52)) T p [.string pn,.int .i64 v1,.int .i64 v2,.int .i64 v3,.slice dA l1 dc,.slice pA l2 pc,.slice oA l3 oc]):=by
    obtain ⟨A1,n1,c1,A2,n2,c2,A3,n3,c3,he,hnm,h1,h2,h3⟩:=HPV.out
    have hk:Below w.heap.size w (w6.alloc (.cells #[.string pn,.int .i64 v1,.int .i64 v2,.int .i64 v3,.slice dA l1 dc,.slice pA l2 pc,.slice oA l3 oc] 52)):=bal (bot HBw5.out HB6.out) _
    have hm:∀ b,(S b∧b<w.heap.size)→T b:=fun b hb=>(HT.out b).2 ⟨lL hb.2 hwz,.inl hb.1,HS.out b hb.1⟩
    simp only[Value.agg.injEq,Array.mk.injEq,List.cons.injEq,Value.string.injEq,Value.int.injEq,Value.slice.injEq,and_true,true_and] at he
    obtain ⟨e0,e1,e2,e3,⟨rfl,rfl,rfl⟩,⟨rfl,rfl,rfl⟩,rfl,rfl,rfl⟩:=he
    exact ⟨_,_,_,by rw[e0,e1,e2,e3],hnm,by rw[←e1];exact Hpi.out.1,by rw[←e2];exact Hpi.out.2.1,by rw[←e3];exact Hpi.out.2.2,(zI2 h1 hk).more fun b hb _=>hm b hb,(zI2 h2 hk).more fun b hb _=>hm b hb,(zI2 h3 hk).more fun b hb _=>hm b hb⟩
   clear hown6 hgrow6 hat6 z0
   go_wp2_with (at_builtin;refine zAM (by rfl) _ _ _ (by rfl) zDn Tryz.underlying25 (by rfl) (HO6.out.alloc _) ⟨w6.heap.size,0,none⟩ 1 [.string pn,.int .i64 v1,.int .i64 v2,.int .i64 v3,.slice dA l1 dc,.slice pA l2 pc,.slice oA l3 oc] p (by rfl) HX6.out (zAd w6 #[.string pn,.int .i64 v1,.int .i64 v2,.int .i64 v3,.slice dA l1 dc,.slice pA l2 pc,.slice oA l3 oc] _) (by rw[Hlt1.out];unfold maxLen;omega) (by rw[Hlt1.out];omega) (nT hz6 (by simp)) (w6.heap.size+1) (by simp) ?_)
   intro g9 cap9 w9 hown9 hgrow9 hat9 hlt9
   have HB9:=cH (zAw (bal HB6.out _) hgrow9 (HO6.out.alloc _) (nR _))
   have HO9:=cH hown9
   have Hlb9:=cH hown9.lt
   have hz9:=HB9.out.size
   have Hdl:Hid ((L.drop k).length=kn - k):=by unfold Hid;rw[List.length_drop,Hz0.out]
   have Hl9:Hid ((L.take k++[p]).length=k+1):=by unfold Hid;rw[List.length_append,Hlt1.out];rfl
   obtain ⟨X,hX⟩:∃ X,X=(if kc=k then kA else kA.map (fun x:Addr=>x.add (k * 7))):=⟨_,rfl⟩
   have HT4:Hid (SlV rPack w9 T (L.drop k) (.slice X (kn - k) (kc - k))):=by
    unfold Hid
    rw[hX]
    exact SlV.cutD (HLs.out.belowSize HB9.out) k hk
   have hsl:∀ W,(Instr.slice 25 (.slice kA kn kc) (some (.int .i64 (k:Int))) none none).run Tryz.prog W=.ok (.slice X (kn - k) (kc - k)) W:=fun W=>by
    rw[hX]
    exact zCe (P:=Tryz.prog) (t:=25) (e:=52) (z:=7) Tryz.underlying25 (by kernel_rfl) (fun _=>by kernel_rfl) kA kn kc k hk W
   have z0:=cO _ _ 0 _ _ _ (HC.out w9 (bot HBw5.out HB9.out))
   clear hown9 hgrow9 hat9 hlt9 x0 x1 x2 x3 x4 x5 x6 hX HT3 HLs HO6 HX6
   go_wp2_with (at_builtin;refine zAN (by rfl) _ _ _ (by rfl) zDn Tryz.underlying25 (by rfl) HO9.out T (L.drop k) _ _ _ (by rfl) HT4.out (by intro b hb he;have:=(Hlb9.out b he).1;have:=((HT.out b).1 hb).1;omega) (by rw[Hl9.out,Hdl.out];unfold maxLen;omega) (by rw[Hl9.out,Hdl.out];omega) hz9 ?_)
   intro u7 w7 hown7 hgrow7 hat7
   have HB7:=cH (bot HBw5.out (zAw HB9.out hgrow7 HO9.out (nR _)))
   have hcw:cB<w.heap.size:=hcB
   have HO7:Hid (SlV rPack w7 (fun b=>(S b∨w.heap.size≤b)∧b≠cB) RR u7):=by
    have HRR:RR=L.take k++[p]++L.drop k:=by rw[Hm.out,Hat.out];simp
    have h:=hown7.slv.more (S':=fun b=>(S b∨w.heap.size≤b)∧b≠cB) (fun b hb _=>by
     rcases hb with (hb|hb)|hb
     ·exact ((HT.out b).1 hb).2
     ·exact ((HT.out b).1 hb.1).2
     ·exact ⟨Or.inr (by omega),by omega⟩)
    unfold Hid
    rw[HRR]
    first
     | exact h
     | simpa using h
   have hrow7:=HC.out w7 HB7.out
   have Hrow7:=cH hrow7
   clear hown7 hgrow7 hat7 HT4 hsl HO9 z0
   have z7:=cO _ _ 0 _ _ _ hrow7
   have f7:w7.frozen? ⟨cB,0,none⟩=false:=frozen_of_row _ _ 0 _ _ hrow7
   clear hrow7
   obtain ⟨A7,c7,rfl,_,_⟩:=HO7.out.val
   go_wp2_with fail
   go_ret
   exact ⟨⟨_,rfl⟩,A7,_,c7,set1Q Hrow7.out _,HO7.out.keep fun b hb _=>heap_setCell_other w7 ⟨cB,0,none⟩ b _ hb.2,(But.of HB7.out).trans (But.set w7 cB 0 _)⟩
