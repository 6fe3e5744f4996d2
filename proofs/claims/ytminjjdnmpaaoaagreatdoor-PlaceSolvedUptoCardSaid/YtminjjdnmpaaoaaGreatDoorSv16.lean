/- The document's placer: the edge of a label, what stands beside a node, do its names rise: walked. -/
import Derived.Test.YtminjjdnmpaaoaaGreatDoorSv15
import Derived.Test.YtminjjdnmpaaoaaGreatDoorSv12
import Derived.Test.YtminjjdnmpaaoaaGreatDoorAl
set_option linter.all false
set_option maxHeartbeats 6400000
set_option maxRecDepth 100000
namespace Go.Proofs.YtminjjdnmpaaoaaGreatDoor
open Go.Rows Go.RowKit Go.Shelf Go.Sort
theorem zHk (nm:ByteArray) (v1 v2 v3:Int) (xA:Option Addr) (xn xc:Nat) (A:Option Addr) (n c:Nat) (xs:List Edge) (s:ByteArray) (w:World) (S:Nat→Prop) (hx:SlV rEdge w S xs (.slice A n c)) :
  Calls Tryz.prog 96 #[.agg #[.string nm,.int .i64 v1,.int .i64 v2,.int .i64 v3,.slice xA xn xc,.slice A n c],.string s] w fun e w'=>e=.returned (.int .i64 (edgeI xs s))∧Below w.heap.size w w':=by
 have hnx:=hx.n_eq
 have hcx:=hx.cap_le
 unfold maxLen at hcx
 have hn63:n≤9223372036854775807:=by omega
 have Hx:=cH hx
 have Hend:Hid (zAo xs s=(zAo (xs.drop 0) s).map (·+0)):=by unfold Hid;rw[List.drop_zero];cases zAo xs s<;>rfl
 have HR:Hid (∀ r,zAo xs s=r→edgeI xs s=match r with|none=>-1|some k=>(k:Int)):=by rintro r rfl;rfl
 have Hnx:=cH hnx;clear hnx
 clear hcx hx
 generalize edgeI xs s=R at *
 go_enter Tryz.func96,Tryz.ntmps96
 go_upto_region 1 with (fail)
 obtain ⟨w1,hw1⟩:∃ w1,w1=w.alloc (.cells #[.string nm,.int .i64 v1,.int .i64 v2,.int .i64 v3,.slice xA xn xc,.slice A n c] 58):=⟨_,rfl⟩
 have hq1:w1.heap[w.heap.size]?=some (.cells #[.string nm,.int .i64 v1,.int .i64 v2,.int .i64 v3,.slice xA xn xc,.slice A n c] 58 (0,0)):=by rw[hw1];exact zAD _ _
 have hB1:Below w.heap.size w w1:=by rw[hw1];exact bal (bR _ _) _
 rw[←hw1]
 obtain ⟨QB,hQB⟩:∃ k,k=w.heap.size:=⟨_,rfl⟩
 rw[←hQB] at hq1 ⊢
 have Hq:=cH (cO _ _ 5 _ _ _ hq1)
 have HB1:=cH hB1
 clear hw1 hQB hq1 hB1
 go_wp2_with fail
 go_loopw [5] (fun i wr=>∃ k:Nat,k≤n∧i=.int .i64 k∧Hid (zAo xs s=(zAo (xs.drop k) s).map (·+k))∧Hid (wr=w1)) (fun i _=>n - (intOf i).toNat)
 case atStart=>exact ⟨0,nZ _,rfl,Hend,rfl⟩
 case round=>
  obtain ⟨k,hk,rfl,heq,hwr⟩:=hrel
  have HBr:Hid (Below w.heap.size w wr):=by unfold Hid;rw[hwr.out];exact HB1.out
  have q5:wr.cell? ⟨QB,5,none⟩=some (.slice A n c):=by rw[hwr.out];exact Hq.out
  have hk0:(0:Int)≤(k:Int):=by omega
  by_cases hlt:k<n
  case neg=>
   have He:Hid (R=-1):=by
    have h:=heq.out
    rw[dN (by have:=Hnx.out;omega)] at h
    exact HR.out _ h
   have hI:¬(k:Int)<(n:Int):=by omega
   clear heq
   go_wp2_with fail
   go_ret
   exact ⟨zAS He.out.symm,HBr.out⟩
  have hkn:(k:Int)<(n:Int):=by omega
  obtain ⟨x,hx⟩:∃ x,xs[k]?=some x:=⟨_,gE (by have:=Hnx.out;omega)⟩
  obtain ⟨b,o,cs,rfl,_,hb1,hh,hcell⟩:=(Hx.out.belowSize HBr.out).elem hx
  obtain ⟨rfl,_⟩:=hh
  have Hat:=cH (zHU hx s)
  have c0:=hcell 0 _ rfl
  simp only[rEdge,Nat.add_zero] at c0
  clear hcell hx
  generalize x.label=y0 at *
  by_cases hs:y0=s
  ·have hb2:=zAT hs
   have He:Hid (R=(k:Int)):=by
    unfold Hid
    have h:=heq.out
    rw[Hat.out,if_pos hs] at h
    have h2:=HR.out _ h
    simpa using h2
   clear Hat heq hs
   go_wp2_with fail
   go_ret
   exact ⟨zAS He.out.symm,HBr.out⟩
  ·have hb2:=zAL hs
   have He:Hid (zAo xs s=(zAo (xs.drop (k+1)) s).map (·+(k+1))):=by
    unfold Hid
    rw[heq.out,Hat.out,if_neg hs]
    cases zAo (xs.drop (k+1)) s with
    | none=>rfl
    | some j=>simp only[Option.map_some];congr 1;omega
   clear Hat heq hs
   go_wp2_with fail
   go_roundw
   case rel=>exact ⟨k+1,by omega,by go_num,He,hwr⟩
   case measure=>simp[intOf];omega
theorem zGX (nm:ByteArray) (v1 v2 v3:Int) (A:Option Addr) (n c:Nat) (eA:Option Addr) (en ec:Nat) (xs:List Pin) (s:ByteArray) (w:World) (S:Nat→Prop) (hx:SlV rPin w S xs (.slice A n c)) :
  Calls Tryz.prog 56 #[.agg #[.string nm,.int .i64 v1,.int .i64 v2,.int .i64 v3,.slice A n c,.slice eA en ec],.string s] w fun e w'=>e=.returned (.bool (xs.any fun x=>decide (x.name=s)))∧Below w.heap.size w w':=by
 have hnx:=hx.n_eq
 have hcx:=hx.cap_le
 unfold maxLen at hcx
 have hn63:n≤9223372036854775807:=by omega
 have Hx:=cH hx
 have Hend:Hid ((xs.any fun x=>decide (x.name=s))=(xs.drop 0).any fun x=>decide (x.name=s)):=rfl
 have Hnx:=cH hnx;clear hnx
 clear hcx hx
 generalize (xs.any fun x=>decide (x.name=s))=R at *
 go_enter Tryz.func56,Tryz.ntmps56
 go_upto_region 1 with (fail)
 obtain ⟨w1,hw1⟩:∃ w1,w1=w.alloc (.cells #[.string nm,.int .i64 v1,.int .i64 v2,.int .i64 v3,.slice A n c,.slice eA en ec] 58):=⟨_,rfl⟩
 have hq1:w1.heap[w.heap.size]?=some (.cells #[.string nm,.int .i64 v1,.int .i64 v2,.int .i64 v3,.slice A n c,.slice eA en ec] 58 (0,0)):=by rw[hw1];exact zAD _ _
 have hB1:Below w.heap.size w w1:=by rw[hw1];exact bal (bR _ _) _
 rw[←hw1]
 obtain ⟨QB,hQB⟩:∃ k,k=w.heap.size:=⟨_,rfl⟩
 rw[←hQB] at hq1 ⊢
 have Hq:=cH (cO _ _ 4 _ _ _ hq1)
 have HB1:=cH hB1
 clear hw1 hQB hq1 hB1
 go_wp2_with fail
 go_loopw [5] (fun i wr=>∃ k:Nat,k≤n∧i=.int .i64 k∧Hid (R=(xs.drop k).any fun x=>decide (x.name=s))∧Hid (wr=w1)) (fun i _=>n - (intOf i).toNat)
 case atStart=>exact ⟨0,nZ _,rfl,Hend,rfl⟩
 case round=>
  obtain ⟨k,hk,rfl,heq,hwr⟩:=hrel
  have HBr:Hid (Below w.heap.size w wr):=by unfold Hid;rw[hwr.out];exact HB1.out
  have q4:wr.cell? ⟨QB,4,none⟩=some (.slice A n c):=by rw[hwr.out];exact Hq.out
  have hk0:(0:Int)≤(k:Int):=by omega
  by_cases hlt:k<n
  case neg=>
   have He:Hid (R=false):=by unfold Hid;rw[heq.out,dN (by have:=Hnx.out;omega)];rfl
   have hI:¬(k:Int)<(n:Int):=by omega
   clear heq
   go_wp2_with fail
   go_ret
   exact ⟨zAc He.out.symm,HBr.out⟩
  have hkn:(k:Int)<(n:Int):=by omega
  obtain ⟨x,hx⟩:∃ x,xs[k]?=some x:=⟨_,gE (by have:=Hnx.out;omega)⟩
  obtain ⟨b,o,cs,rfl,_,hb1,hh,hcell⟩:=(Hx.out.belowSize HBr.out).elem hx
  obtain ⟨rfl,_⟩:=hh
  have Hat:=cH (heq.out.trans (zHD (fun x:Pin=>decide (x.name=s)) hx))
  have c0:=hcell 0 _ rfl
  simp only[rPin,Nat.add_zero] at c0
  clear hcell hx heq
  generalize x.name=y0 at *
  by_cases hs:y0=s
  ·have hb2:=zAT hs
   have He:Hid (R=true):=by unfold Hid;rw[Hat.out,decide_eq_true hs];rfl
   clear Hat hs
   go_wp2_with fail
   go_ret
   exact ⟨zAc He.out.symm,HBr.out⟩
  ·have hb2:=zAL hs
   have He:Hid (R=(xs.drop (k+1)).any fun x=>decide (x.name=s)):=by unfold Hid;rw[Hat.out,decide_eq_false hs];rfl
   clear Hat hs
   go_wp2_with fail
   go_roundw
   case rel=>exact ⟨k+1,by omega,by go_num,He,hwr⟩
   case measure=>simp[intOf];omega
theorem zG6 (nm:ByteArray) (v1 v2 v3:Int) (A:Option Addr) (n c:Nat) (eA:Option Addr) (en ec:Nat) (xs:List Pin) (ys:List Edge) (w:World) (S:Nat→Prop) (hx:SlV rPin w S xs (.slice A n c)) (hy:SlV rEdge w S ys (.slice eA en ec)) :
  Calls Tryz.prog 95 #[.agg #[.string nm,.int .i64 v1,.int .i64 v2,.int .i64 v3,.slice A n c,.slice eA en ec]] w fun e w'=>e=.returned (.bool (zAJ none (zAG xs)&&zAJ none (zAF ys)))∧Below w.heap.size w w':=by
 have hnx:=hx.n_eq
 have hny:=hy.n_eq
 have hn63:=zAi hx
 have hm63:=zAi hy
 have HxA:=cH hx
 have HxB:=cH hy
 have HlA:Hid ((zAG xs).length=n):=by unfold Hid zAG;rw[List.length_map,hnx]
 have HlB:Hid ((zAF ys).length=en):=by unfold Hid zAF;rw[List.length_map,hny]
 have HnA:=cH hnx
 have HnB:=cH hny
 obtain ⟨PA,hPA⟩:∃ PA,PA=zAJ none (zAG xs):=⟨_,rfl⟩
 obtain ⟨PB,hPB⟩:∃ PB,PB=zAJ none (zAF ys):=⟨_,rfl⟩
 have HA0:Hid (PA=zAJ (zA4 (zAG xs) 0) ((zAG xs).drop 0)):=hPA
 have HB0:Hid (PB=zAJ (zA4 (zAF ys) 0) ((zAF ys).drop 0)):=hPB
 obtain ⟨R,hR⟩:∃ R,R=(PA&&PB):=⟨_,rfl⟩
 rw[←hPA,←hPB,←hR]
 have HR:=cH hR
 clear hx hy hnx hny hPA hPB hR
 go_enter Tryz.func95,Tryz.ntmps95
 go_upto_region 1 with (fail)
 obtain ⟨w1,hw1⟩:∃ w1,w1=w.alloc (.cells #[.string nm,.int .i64 v1,.int .i64 v2,.int .i64 v3,.slice A n c,.slice eA en ec] 58):=⟨_,rfl⟩
 have hq1:w1.heap[w.heap.size]?=some (.cells #[.string nm,.int .i64 v1,.int .i64 v2,.int .i64 v3,.slice A n c,.slice eA en ec] 58 (0,0)):=by rw[hw1];exact zAD _ _
 have hB1:Below w.heap.size w w1:=by rw[hw1];exact bal (bR _ _) _
 rw[←hw1]
 obtain ⟨QB,hQB⟩:∃ k,k=w.heap.size:=⟨_,rfl⟩
 rw[←hQB] at hq1 ⊢
 have Hq:Hid (∀ W,Below w1.heap.size w1 W→W.cell? ⟨QB,4,none⟩=some (.slice A n c)∧W.cell? ⟨QB,5,none⟩=some (.slice eA en ec)):=fun W hW=>by
  have h:=(hW.block _ (aS.1 hq1).1).trans hq1
  exact ⟨cO _ _ 4 _ _ _ h,cO _ _ 5 _ _ _ h⟩
 have HB1:=cH hB1
 clear hw1 hQB hq1 hB1
 go_wp2_with fail
 go_loopw [3] (fun i wr=>∃ k:Nat,k≤n∧i=.int .i64 k∧Hid (PA=zAJ (zA4 (zAG xs) k) ((zAG xs).drop k))∧Hid (Below w1.heap.size w1 wr)) (fun i _=>n - (intOf i).toNat)
 case atStart=>exact ⟨0,nZ _,rfl,HA0,bR _ _⟩
 case round=>
  obtain ⟨k,hk,rfl,Hm,hbel⟩:=hrel
  have HBr:=cH (bot HB1.out hbel.out)
  have q4:=(Hq.out wr hbel.out).1
  have hk0:(0:Int)≤(k:Int):=by omega
  by_cases hlt:k<n
  case neg=>
   have hI:¬(k:Int)<(n:Int):=by omega
   have Hd:Hid (PA=true):=by unfold Hid;rw[Hm.out,zCP (by rw[HlA.out];omega)]
   clear Hm
   have HR2:Hid (R=PB):=by unfold Hid;rw[HR.out,Hd.out,Bool.true_and]
   clear HR Hd
   have hbe:=hbel
   clear hbel HBr
   generalize wr=wa at *
   go_wp2_with fail
   go_loopw [5] (fun i wr=>∃ k:Nat,k≤en∧i=.int .i64 k∧Hid (PB=zAJ (zA4 (zAF ys) k) ((zAF ys).drop k))∧Hid (Below w1.heap.size w1 wr)) (fun i _=>en - (intOf i).toNat)
   case atStart=>exact ⟨0,nZ _,rfl,HB0,hbe⟩
   case round=>
    obtain ⟨k,hk,rfl,Hm,hbel⟩:=hrel
    have HBr:=cH (bot HB1.out hbel.out)
    have q5:=(Hq.out wr hbel.out).2
    have hk0:(0:Int)≤(k:Int):=by omega
    by_cases hlt:k<en
    case neg=>
     have hI:¬(k:Int)<(en:Int):=by omega
     have Hd:Hid (PB=true):=by unfold Hid;rw[Hm.out,zCP (by rw[HlB.out];omega)]
     clear Hm
     go_wp2_with fail
     go_ret
     exact ⟨zAc (by rw[HR2.out,Hd.out]),HBr.out⟩
    case pos=>
    have hkI:(k:Int)<(en:Int):=by omega
    obtain ⟨x,hx⟩:∃ x,ys[k]?=some x:=⟨_,gE (by have:=HnB.out;omega)⟩
    obtain ⟨b,o,cs,hA,_,hb1,hh,hcell⟩:=(HxB.out.belowSize HBr.out).elem hx
    subst hA
    obtain ⟨rfl,hnm,_⟩:=hh
    have c0:=hcell 0 _ rfl
    simp only[rEdge,Nat.add_zero] at c0
    have hs:(zAF ys)[k]?=some x.label:=by unfold zAF;rw[List.getElem?_map,hx];rfl
    have Hst:=cH (Hm.out.trans (zCR hs))
    have Hnm:Hid (∀ W,Calls Tryz.prog 97 #[.string x.label] W fun e w'=>e=.returned (.bool (nameB x.label))∧W=w'):=fun W=>zBr x.label hnm W
    clear Hm hs
    generalize x.label=y0 at *
    cases hnb:nameB y0 with
    | false=>
      have Hr:Hid (PB=false):=by unfold Hid;rw[Hst.out,hnb];rfl
      rw[hnb] at Hnm
      clear Hst hnb hcell
      go_wp2_with fail
      refine (Hnm.out wr).mono ?_
      rintro e w3 ⟨rfl,rfl⟩
      go_wp2_with fail
      have r_q5:=cR q5
      have r_c0:=cR c0
      go_wp2_with fail
      refine wQ ?_
      repeat (go_big_quiet_step (first|fail))
      refine wpQuiet_nil fun w4 B4=>?_
      have HB4:=cH (bot HBr.out B4)
      go_wp2_with fail
      go_ret
      exact ⟨zAc (by rw[HR2.out,Hr.out]),HB4.out⟩
    | true=>
    rw[hnb] at Hnm
    by_cases hk00:k=0
    case pos=>
     have Hnx2:Hid (PB=zAJ (zA4 (zAF ys) (k+1)) ((zAF ys).drop (k+1))):=by unfold Hid;rw[Hst.out,hnb,show zA4 (zAF ys) k=none by rw[hk00];rfl];rfl
     have hng:¬(0:Int)<(k:Int):=by omega
     have hngd:decide (0<k)=false:=decide_eq_false (by omega)
     clear Hst hnb hk00 hcell
     go_wp2_with fail
     refine (Hnm.out wr).mono ?_
     rintro e w3 ⟨rfl,rfl⟩
     go_wp2_with fail
     have r_q5:=cR q5
     have r_c0:=cR c0
     go_wp2_with fail
     refine wQ ?_
     repeat (go_big_quiet_step (first|fail))
     refine wpQuiet_nil fun w4 B4=>?_
     have HB4:=cH (bot hbel.out B4)
     go_wp2_with fail
     go_roundw
     case rel=>exact ⟨k+1,by omega,by go_num,Hnx2,HB4⟩
     case measure=>simp[intOf];omega
    case neg=>
     obtain ⟨j,rfl⟩:∃ j,k=j+1:=⟨k - 1,by omega⟩
     clear hk00
     obtain ⟨y,hy⟩:∃ y,ys[j]?=some y:=⟨_,gE (by have:=HnB.out;omega)⟩
     obtain ⟨b2,o2,cs2,hA2,_,_,hh2,hcell2⟩:=(HxB.out.belowSize HBr.out).elem hy
     obtain ⟨rfl,_⟩:=hh2
     injection hA2 with hA2
     injection hA2 with hb2 ho2 _
     subst hb2 ho2
     have d0:=hcell2 0 _ rfl
     simp only[rEdge,Nat.add_zero] at d0
     have hpv:zA4 (zAF ys) (j+1)=some y.label:=by show (zAF ys)[j]?=_;unfold zAF;rw[List.getElem?_map,hy];rfl
     have hwj:IntKind.i64.wrap (((j+1:Nat):Int) - 1)=(j:Int):=by rw[IntWalk.i64_in _ ⟨by omega,by omega⟩];omega
     have hgt:(0:Int)<((j+1:Nat):Int):=by omega
     have hj0:(0:Int)≤(j:Int):=by omega
     have hjn:(j:Int)<(en:Int):=by omega
     have Hls:Hid (behind (some y.label) y0=Op.bytesLess y.label.toList y0.toList):=rfl
     rw[hpv,hnb,Hls.out,Bool.true_and] at Hst
     clear hpv hcell hcell2 hy hnb Hls
     generalize y.label=z0 at *
     cases hls:Op.bytesLess z0.toList y0.toList with
     | true=>
       have Hnx2:Hid (PB=zAJ (zA4 (zAF ys) (j+1+1)) ((zAF ys).drop (j+1+1))):=by unfold Hid;rw[Hst.out,hls,Bool.true_and]
       clear Hst
       go_wp2_with fail
       refine (Hnm.out wr).mono ?_
       rintro e w3 ⟨rfl,rfl⟩
       go_wp2_with fail
       have r_q5:=cR q5
       have r_c0:=cR c0
       have r_d0:=cR d0
       go_wp2_with fail
       refine wQ ?_
       repeat (go_big_quiet_step (first|fail))
       refine wpQuiet_nil fun w4 B4=>?_
       have HB4:=cH (bot hbel.out B4)
       go_wp2_with fail
       go_roundw
       case rel=>exact ⟨j+1+1,by omega,by go_num,Hnx2,HB4⟩
       case measure=>simp[intOf];omega
     | false=>
       have Hr:Hid (PB=false):=by unfold Hid;rw[Hst.out,hls];rfl
       clear Hst
       go_wp2_with fail
       refine (Hnm.out wr).mono ?_
       rintro e w3 ⟨rfl,rfl⟩
       go_wp2_with fail
       have r_q5:=cR q5
       have r_c0:=cR c0
       have r_d0:=cR d0
       go_wp2_with fail
       refine wQ ?_
       repeat (go_big_quiet_step (first|fail))
       refine wpQuiet_nil fun w4 B4=>?_
       have HB4:=cH (bot HBr.out B4)
       go_wp2_with fail
       go_ret
       exact ⟨zAc (by rw[HR2.out,Hr.out]),HB4.out⟩
  case pos=>
  have hkI:(k:Int)<(n:Int):=by omega
  obtain ⟨x,hx⟩:∃ x,xs[k]?=some x:=⟨_,gE (by have:=HnA.out;omega)⟩
  obtain ⟨b,o,cs,hA,_,hb1,hh,hcell⟩:=(HxA.out.belowSize HBr.out).elem hx
  subst hA
  obtain ⟨rfl,hnm,_⟩:=hh
  have c0:=hcell 0 _ rfl
  simp only[rPin,Nat.add_zero] at c0
  have hs:(zAG xs)[k]?=some x.name:=by unfold zAG;rw[List.getElem?_map,hx];rfl
  have Hst:=cH (Hm.out.trans (zCR hs))
  have Hnm:Hid (∀ W,Calls Tryz.prog 97 #[.string x.name] W fun e w'=>e=.returned (.bool (nameB x.name))∧W=w'):=fun W=>zBr x.name hnm W
  clear Hm hs
  generalize x.name=y0 at *
  cases hnb:nameB y0 with
  | false=>
    have Hr:Hid (PA=false):=by unfold Hid;rw[Hst.out,hnb];rfl
    rw[hnb] at Hnm
    clear Hst hnb hcell
    go_wp2_with fail
    refine (Hnm.out wr).mono ?_
    rintro e w3 ⟨rfl,rfl⟩
    go_wp2_with fail
    have r_q4:=cR q4
    have r_c0:=cR c0
    go_wp2_with fail
    refine wQ ?_
    repeat (go_big_quiet_step (first|fail))
    refine wpQuiet_nil fun w4 B4=>?_
    have HB4:=cH (bot HBr.out B4)
    go_wp2_with fail
    go_ret
    exact ⟨zAc (by rw[HR.out,Hr.out];simp),HB4.out⟩
  | true=>
  rw[hnb] at Hnm
  by_cases hk00:k=0
  case pos=>
   have Hnx2:Hid (PA=zAJ (zA4 (zAG xs) (k+1)) ((zAG xs).drop (k+1))):=by unfold Hid;rw[Hst.out,hnb,show zA4 (zAG xs) k=none by rw[hk00];rfl];rfl
   have hng:¬(0:Int)<(k:Int):=by omega
   have hngd:decide (0<k)=false:=decide_eq_false (by omega)
   clear Hst hnb hk00 hcell
   go_wp2_with fail
   refine (Hnm.out wr).mono ?_
   rintro e w3 ⟨rfl,rfl⟩
   go_wp2_with fail
   have r_q4:=cR q4
   have r_c0:=cR c0
   go_wp2_with fail
   refine wQ ?_
   repeat (go_big_quiet_step (first|fail))
   refine wpQuiet_nil fun w4 B4=>?_
   have HB4:=cH (bot hbel.out B4)
   go_wp2_with fail
   go_roundw
   case rel=>exact ⟨k+1,by omega,by go_num,Hnx2,HB4⟩
   case measure=>simp[intOf];omega
  case neg=>
   obtain ⟨j,rfl⟩:∃ j,k=j+1:=⟨k - 1,by omega⟩
   clear hk00
   obtain ⟨y,hy⟩:∃ y,xs[j]?=some y:=⟨_,gE (by have:=HnA.out;omega)⟩
   obtain ⟨b2,o2,cs2,hA2,_,_,hh2,hcell2⟩:=(HxA.out.belowSize HBr.out).elem hy
   obtain ⟨rfl,_⟩:=hh2
   injection hA2 with hA2
   injection hA2 with hb2 ho2 _
   subst hb2 ho2
   have d0:=hcell2 0 _ rfl
   simp only[rPin,Nat.add_zero] at d0
   have hpv:zA4 (zAG xs) (j+1)=some y.name:=by show (zAG xs)[j]?=_;unfold zAG;rw[List.getElem?_map,hy];rfl
   have hwj:IntKind.i64.wrap (((j+1:Nat):Int) - 1)=(j:Int):=by rw[IntWalk.i64_in _ ⟨by omega,by omega⟩];omega
   have hgt:(0:Int)<((j+1:Nat):Int):=by omega
   have hj0:(0:Int)≤(j:Int):=by omega
   have hjn:(j:Int)<(n:Int):=by omega
   have Hls:Hid (behind (some y.name) y0=Op.bytesLess y.name.toList y0.toList):=rfl
   rw[hpv,hnb,Hls.out,Bool.true_and] at Hst
   clear hpv hcell hcell2 hy hnb Hls
   generalize y.name=z0 at *
   cases hls:Op.bytesLess z0.toList y0.toList with
   | true=>
     have Hnx2:Hid (PA=zAJ (zA4 (zAG xs) (j+1+1)) ((zAG xs).drop (j+1+1))):=by unfold Hid;rw[Hst.out,hls,Bool.true_and]
     clear Hst
     go_wp2_with fail
     refine (Hnm.out wr).mono ?_
     rintro e w3 ⟨rfl,rfl⟩
     go_wp2_with fail
     have r_q4:=cR q4
     have r_c0:=cR c0
     have r_d0:=cR d0
     go_wp2_with fail
     refine wQ ?_
     repeat (go_big_quiet_step (first|fail))
     refine wpQuiet_nil fun w4 B4=>?_
     have HB4:=cH (bot hbel.out B4)
     go_wp2_with fail
     go_roundw
     case rel=>exact ⟨j+1+1,by omega,by go_num,Hnx2,HB4⟩
     case measure=>simp[intOf];omega
   | false=>
     have Hr:Hid (PA=false):=by unfold Hid;rw[Hst.out,hls];rfl
     clear Hst
     go_wp2_with fail
     refine (Hnm.out wr).mono ?_
     rintro e w3 ⟨rfl,rfl⟩
     go_wp2_with fail
     have r_q4:=cR q4
     have r_c0:=cR c0
     have r_d0:=cR d0
     go_wp2_with fail
     refine wQ ?_
     repeat (go_big_quiet_step (first|fail))
     refine wpQuiet_nil fun w4 B4=>?_
     have HB4:=cH (bot HBr.out B4)
     go_wp2_with fail
     go_ret
     exact ⟨zAc (by rw[HR.out,Hr.out];simp),HB4.out⟩
theorem zGV:Elt Tryz.prog 130 3 32:=Elt.mk' (z:=.agg #[.int .i64 0,.string ⟨#[]⟩,.int .i64 0]) (by kernel_rfl) rfl (by decide)
structure DlCtx where
 w0:World
 P:Nat
 gA:Option Addr
 gn:Nat
 gc:Nat
 pA:Option Addr
 pn:Nat
 pc:Nat
 dec:Int
 nod:Int
 oA:Option Addr
 on:Nat
 oc:Nat
 like:Bool
 ol:List Dir
 q:PlIn
structure DlCtx.Ok (C:DlCtx):Prop where
 tab:Tab C.w0
 g:SlV rNode C.w0 (fun b=>b<C.w0.heap.size) C.q.g (.slice C.gA C.gn C.gc)
 p:SlV rPack C.w0 (fun b=>b<C.w0.heap.size) C.q.ps (.slice C.pA C.pn C.pc)
 o:SlV rDir C.w0 (fun b=>b<C.w0.heap.size) C.ol (.slice C.oA C.on C.oc)
 old:C.q.old=if C.like=true then some C.ol else none
 oz:∀ d∈C.ol,d.path.length * 32≤140737488355328
 le:C.w0.heap.size≤C.P
 dirs:I64 C.q.dirs
 path:I64 C.q.path
 gz:C.q.g.length≤1048576
 pz:C.q.ps.length≤1048576
def dlRow (C:DlCtx) (vT vS:Value):Array Value:=#[.slice C.gA C.gn C.gc,.slice C.pA C.pn C.pc,.int .i64 C.dec,.int .i64 C.nod,.int .i64 C.q.dirs,.int .i64 C.q.path,.slice C.oA C.on C.oc,.bool C.like,vT,vS]
structure DlP (C:DlCtx) (w:World) (st:PlSt) (A:Option Addr) (c:Nat) (A':Option Addr) (c':Nat) (S:Nat→Prop):Prop where
 row:w.heap[C.P]?=some (.cells (dlRow C (.slice A st.1.length c) (.slice A' st.2.length c')) 87 (0,0))
 T:Own rDir w C.w0.heap.size 54 (.slice A st.1.length c) st.1 S
 S':Own rStl w C.w0.heap.size 130 (.slice A' st.2.length c') st.2 (fun _=>False)
 apart:∀ b,S b→b≠C.P∧(Value.slice A' st.2.length c').ownBlock≠some b
 tp:(Value.slice A st.1.length c).ownBlock≠some C.P
 sp:(Value.slice A' st.2.length c').ownBlock≠some C.P
 ts:∀ k,(Value.slice A st.1.length c).ownBlock=some k→(Value.slice A' st.2.length c').ownBlock≠some k
 base:Below C.w0.heap.size C.w0 w
 old:∀ b,b<C.w0.heap.size→S b
def DlWd (C:DlCtx) (w:World) (st:PlSt):Prop:=∃ A c A' c' S,DlP C w st A c A' c' S
theorem DlWd.parts {C:DlCtx} {w:World} {st:PlSt} (h:DlWd C w st):∃ A c A' c' S,DlP C w st A c A' c' S:=h
theorem DlP.all {C:DlCtx} {w:World} {st:PlSt} {A:Option Addr} {c:Nat} {A':Option Addr} {c':Nat} {S:Nat→Prop} (h:DlP C w st A c A' c' S):DlWd C w st:=⟨A,c,A',c',S,h⟩
theorem DlWd.base {C:DlCtx} {w:World} {st:PlSt} (h:DlWd C w st):Below C.w0.heap.size C.w0 w:=by
 obtain ⟨A,c,A',c',S,h⟩:=h
 exact h.base
theorem DlP.hP {C:DlCtx} {w:World} {st:PlSt} {A:Option Addr} {c:Nat} {A':Option Addr} {c':Nat} {S:Nat→Prop} (h:DlP C w st A c A' c' S):C.P<w.heap.size:=(aS.1 h.row).1
theorem DlP.keep {C:DlCtx} {w w':World} {st:PlSt} {A:Option Addr} {c:Nat} {A':Option Addr} {c':Nat} {S:Nat→Prop} (h:DlP C w st A c A' c' S) (hb:Below w.heap.size w w'):DlP C w' st A c A' c' S:=
 ⟨(hb.block _ h.hP).trans h.row,h.T.keep hb,h.S'.keep hb,h.apart,h.tp,h.sp,h.ts,bot h.base hb,h.old⟩
def DlS (C:DlCtx) (w:World) (st:PlSt) (S:Nat→Prop):Prop:=∃ A c A' c',DlP C w st A c A' c' S
theorem DlS.all {C:DlCtx} {w:World} {st:PlSt} {S:Nat→Prop} (h:DlS C w st S):DlWd C w st:=by
 obtain ⟨A,c,A',c',h⟩:=h
 exact h.all
theorem DlWd.s {C:DlCtx} {w:World} {st:PlSt} (h:DlWd C w st):∃ S,DlS C w st S:=by
 obtain ⟨A,c,A',c',S,h⟩:=h.parts
 exact ⟨S,A,c,A',c',h⟩
theorem DlS.keep {C:DlCtx} {w w':World} {st:PlSt} {S:Nat→Prop} (h:DlS C w st S) (hb:Below w.heap.size w w'):DlS C w' st S:=by
 obtain ⟨A,c,A',c',h⟩:=h
 exact ⟨A,c,A',c',h.keep hb⟩
theorem DlP.push_stl {C:DlCtx} (hC:C.Ok) {w w9:World} {st:PlSt} {A:Option Addr} {c:Nat} {A':Option Addr} {c':Nat} {S:Nat→Prop} (h:DlP C w st A c A' c' S) {x:Stl} {g cap:Nat}
  (hown:Own rStl w9 C.w0.heap.size 130 (.slice (some ⟨g,0,none⟩) (st.2.length+1) cap) (st.2++[x]) (fun _=>False)) (hgrow:w.grownBy w9 (Value.slice A' st.2.length c').ownBlock) (hat:(Value.slice A' st.2.length c').ownBlock=some g∨w.heap.size≤g) :
  w9.heap[C.P]?=some (.cells (dlRow C (.slice A st.1.length c) (.slice A' st.2.length c')) 87 (0,0))∧DlS C (w9.setCell ⟨C.P,9,none⟩ (.slice (some ⟨g,0,none⟩) (st.2.length+1) cap)) (st.1,st.2++[x]) S:=by
 have hP:=h.hP
 have hP9:w9.heap[C.P]?=some (.cells (dlRow C (.slice A st.1.length c) (.slice A' st.2.length c')) 87 (0,0)):=by
  rw[hgrow.block C.P hP (fun e=>h.sp e.symm)];exact h.row
 refine ⟨hP9,?_⟩
 have hgP:g≠C.P:=fun e=>by
  rcases hat with h2|h2
  ·rw[e] at h2;exact h.sp h2
  ·omega
 have hl9:(st.2++[x]).length=st.2.length+1:=by rw[List.length_append];rfl
 have hT9:Own rDir w9 C.w0.heap.size 54 (.slice A st.1.length c) st.1 S:=by
  refine h.T.grown hgrow ?_ fun b hb e=>(h.apart b hb).2 e.symm
  cases hk:(Value.slice A st.1.length c).ownBlock with
  | none=>exact .inl rfl
  | some k=>exact .inr fun e=>h.ts k hk e.symm
 have hT10:Own rDir (w9.setCell ⟨C.P,9,none⟩ (.slice (some ⟨g,0,none⟩) (st.2.length+1) cap)) C.w0.heap.size 54 (.slice A st.1.length c) st.1 S:=
  hT9.grown (zBe _ _ _ _) (.inr h.tp) fun b hb e=>(h.apart b hb).1 (Option.some.inj e)
 have hS10:Own rStl (w9.setCell ⟨C.P,9,none⟩ (.slice (some ⟨g,0,none⟩) (st.2.length+1) cap)) C.w0.heap.size 130 (.slice (some ⟨g,0,none⟩) (st.2.length+1) cap) (st.2++[x]) (fun _=>False):=
  hown.grown (zBe _ _ _ _) (.inr fun e=>hgP (Option.some.inj e)) fun b hb=>hb.elim
 have hB9:Below C.w0.heap.size C.w0 w9:=h.base.grown hgrow h.base.size fun k hk=>(h.S'.lt k hk).1
 refine ⟨A,c,some ⟨g,0,none⟩,cap,?_,hT10,by rw[hl9];exact hS10,fun b hb=>⟨(h.apart b hb).1,fun e=>?_⟩,h.tp,fun e=>hgP (Option.some.inj e),fun k hk e=>?_,hB9.setCell (p:=⟨C.P,9,none⟩) hC.le _,h.old⟩
 ·rw[hl9]
  exact zAX hP9 _
 ·have e2:g=b:=Option.some.inj e
  rcases hat with h2|h2
  ·rw[e2] at h2;exact (h.apart b hb).2 h2
  ·have:=(h.T.1 b hb).1;omega
 ·have e2:g=k:=Option.some.inj e
  rcases hat with h2|h2
  ·rw[e2] at h2;exact h.ts k hk h2
  ·have:=(h.T.lt k hk).2;omega
theorem DlP.push_dir {C:DlCtx} (hC:C.Ok) {w w1 w9:World} {st:PlSt} {A:Option Addr} {c:Nat} {A':Option Addr} {c':Nat} {S:Nat→Prop} (h:DlP C w st A c A' c' S) (hw1:Below w.heap.size w w1) {d:Dir} {g cap:Nat}
  (hown:Own rDir w9 C.w0.heap.size 54 (.slice (some ⟨g,0,none⟩) (st.1.length+1) cap) (st.1++[d]) (fun b=>S b∨(w.heap.size≤b∧b<w1.heap.size))) (hgrow:w1.grownBy w9 (Value.slice A st.1.length c).ownBlock) (hat:(Value.slice A st.1.length c).ownBlock=some g∨w1.heap.size≤g) :
  w9.heap[C.P]?=some (.cells (dlRow C (.slice A st.1.length c) (.slice A' st.2.length c')) 87 (0,0))∧DlWd C (w9.setCell ⟨C.P,8,none⟩ (.slice (some ⟨g,0,none⟩) (st.1.length+1) cap)) (st.1++[d],st.2):=by
 have hk:=h.keep hw1
 have hP:=hk.hP
 have hP0:=h.hP
 have hP9:w9.heap[C.P]?=some (.cells (dlRow C (.slice A st.1.length c) (.slice A' st.2.length c')) 87 (0,0)):=by
  rw[hgrow.block C.P hP (fun e=>h.tp e.symm)];exact hk.row
 refine ⟨hP9,?_⟩
 have hws:=hw1.size
 have hgP:g≠C.P:=fun e=>by
  rcases hat with h2|h2
  ·rw[e] at h2;exact h.tp h2
  ·omega
 have hl9:(st.1++[d]).length=st.1.length+1:=by rw[List.length_append];rfl
 have hS9:Own rStl w9 C.w0.heap.size 130 (.slice A' st.2.length c') st.2 (fun _=>False):=by
  refine hk.S'.grown hgrow ?_ fun b hb=>hb.elim
  cases hk2:(Value.slice A' st.2.length c').ownBlock with
  | none=>exact .inl rfl
  | some k=>exact .inr fun e=>h.ts k e.symm hk2
 have hS10:Own rStl (w9.setCell ⟨C.P,8,none⟩ (.slice (some ⟨g,0,none⟩) (st.1.length+1) cap)) C.w0.heap.size 130 (.slice A' st.2.length c') st.2 (fun _=>False):=
  hS9.grown (zBe _ _ _ _) (.inr h.sp) fun b hb=>hb.elim
 have hT10:Own rDir (w9.setCell ⟨C.P,8,none⟩ (.slice (some ⟨g,0,none⟩) (st.1.length+1) cap)) C.w0.heap.size 54 (.slice (some ⟨g,0,none⟩) (st.1.length+1) cap) (st.1++[d]) (fun b=>S b∨(w.heap.size≤b∧b<w1.heap.size)):=
  hown.grown (zBe _ _ _ _) (.inr fun e=>hgP (Option.some.inj e)) fun b hb e=>by
   have e2:b=C.P:=Option.some.inj e
   rcases hb with hb|hb
   ·exact (h.apart b hb).1 e2
   ·omega
 have hB9:Below C.w0.heap.size C.w0 w9:=hk.base.grown hgrow hk.base.size fun k hk2=>(h.T.lt k hk2).1
 refine ⟨some ⟨g,0,none⟩,cap,A',c',_,?_,by rw[hl9];exact hT10,hS10,fun b hb=>?_,fun e=>hgP (Option.some.inj e),h.sp,fun k hk2 e=>?_,hB9.setCell (p:=⟨C.P,8,none⟩) hC.le _,fun b hb=>by exact Or.inl (h.old b hb)⟩
 ·rw[hl9]
  exact zAX hP9 _
 ·rcases hb with hb|hb
  ·exact h.apart b hb
  ·refine ⟨by omega,fun e=>?_⟩
   have:=(h.S'.lt b e).2
   omega
 ·have e2:g=k:=Option.some.inj hk2
  rcases hat with h2|h2
  ·rw[e2] at h2;exact h.ts k h2 e
  ·have:=(h.S'.lt k e).2;omega
def NotDl (C:DlCtx) (w:World) (b:Nat):Prop:=b≠C.P∧(∀ v,w.cell? ⟨C.P,8,none⟩=some v→v.ownBlock≠some b)∧(∀ v,w.cell? ⟨C.P,9,none⟩=some v→v.ownBlock≠some b)
def DlFr (C:DlCtx) (w w':World):Prop:=w.heap.size≤w'.heap.size∧∀ b,b<w.heap.size→NotDl C w b→w'.heap[b]?=w.heap[b]?∧NotDl C w' b
theorem DlFr.trans {C:DlCtx} {w w' w'':World} (h:DlFr C w w') (h':DlFr C w' w''):DlFr C w w'':=
 ⟨nT h.1 h'.1,fun b hb hn=>by
   obtain ⟨h1,h2⟩:=h.2 b hb hn
   obtain ⟨h3,h4⟩:=h'.2 b (lL hb h.1) h2
   exact ⟨h3.trans h1,h4⟩⟩
theorem DlFr.below {C:DlCtx} {w w':World} (hP:C.P<w.heap.size) (hb:Below w.heap.size w w'):DlFr C w w':=
 ⟨hb.size,fun b hb' hn=>⟨hb.block _ hb',hn.1,fun v hv=>hn.2.1 v (by rw[←zAW (hb.block _ hP) 8 none];exact hv),fun v hv=>hn.2.2 v (by rw[←zAW (hb.block _ hP) 9 none];exact hv)⟩⟩
theorem DlP.frT {C:DlCtx} {w w9:World} {st:PlSt} {A:Option Addr} {c:Nat} {A':Option Addr} {c':Nat} {S:Nat→Prop} (h:DlP C w st A c A' c' S) {g n cap:Nat} (hgrow:w.grownBy w9 (Value.slice A st.1.length c).ownBlock) (hat:(Value.slice A st.1.length c).ownBlock=some g∨w.heap.size≤g)
  (hP9:w9.heap[C.P]?=some (.cells (dlRow C (.slice A st.1.length c) (.slice A' st.2.length c')) 87 (0,0))):DlFr C w (w9.setCell ⟨C.P,8,none⟩ (.slice (some ⟨g,0,none⟩) n cap)):=by
 refine ⟨by rw[show (w9.setCell ⟨C.P,8,none⟩ (.slice (some ⟨g,0,none⟩) n cap)).heap.size=w9.heap.size from by simp];exact hgrow.size,fun b hb hn=>?_⟩
 have o7:=hn.2.1 _ (cO _ _ 8 _ _ _ h.row)
 have o8:=hn.2.2 _ (cO _ _ 9 _ _ _ h.row)
 have hrow:=zAX hP9 (o:=8) (.slice (some ⟨g,0,none⟩) n cap)
 refine ⟨(heap_setCell_other w9 ⟨C.P,8,none⟩ b _ hn.1).trans (hgrow.block b hb fun e=>o7 e.symm),hn.1,fun v hv=>?_,fun v hv=>?_⟩
 ·rw[cO _ _ 8 _ _ _ hrow] at hv
  cases hv
  intro e
  have e2:g=b:=Option.some.inj e
  rcases hat with h2|h2
  ·rw[e2] at h2;exact o7 h2
  ·omega
 ·rw[cO _ _ 9 _ _ _ hrow] at hv
  cases hv
  exact o8
theorem DlP.frS {C:DlCtx} {w w9:World} {st:PlSt} {A:Option Addr} {c:Nat} {A':Option Addr} {c':Nat} {S:Nat→Prop} (h:DlP C w st A c A' c' S) {g n cap:Nat} (hgrow:w.grownBy w9 (Value.slice A' st.2.length c').ownBlock) (hat:(Value.slice A' st.2.length c').ownBlock=some g∨w.heap.size≤g)
  (hP9:w9.heap[C.P]?=some (.cells (dlRow C (.slice A st.1.length c) (.slice A' st.2.length c')) 87 (0,0))):DlFr C w (w9.setCell ⟨C.P,9,none⟩ (.slice (some ⟨g,0,none⟩) n cap)):=by
 refine ⟨by rw[show (w9.setCell ⟨C.P,9,none⟩ (.slice (some ⟨g,0,none⟩) n cap)).heap.size=w9.heap.size from by simp];exact hgrow.size,fun b hb hn=>?_⟩
 have o7:=hn.2.1 _ (cO _ _ 8 _ _ _ h.row)
 have o8:=hn.2.2 _ (cO _ _ 9 _ _ _ h.row)
 have hrow:=zAX hP9 (o:=9) (.slice (some ⟨g,0,none⟩) n cap)
 refine ⟨(heap_setCell_other w9 ⟨C.P,9,none⟩ b _ hn.1).trans (hgrow.block b hb fun e=>o8 e.symm),hn.1,fun v hv=>?_,fun v hv=>?_⟩
 ·rw[cO _ _ 8 _ _ _ hrow] at hv
  cases hv
  exact o7
 ·rw[cO _ _ 9 _ _ _ hrow] at hv
  cases hv
  intro e
  have e2:g=b:=Option.some.inj e
  rcases hat with h2|h2
  ·rw[e2] at h2;exact o8 h2
  ·omega
theorem DlWd.keep {C:DlCtx} {w w':World} {st:PlSt} (h:DlWd C w st) (hb:Below w.heap.size w w'):DlWd C w' st:=by
 obtain ⟨A,c,A',c',S,h⟩:=h
 exact ⟨A,c,A',c',S,h.keep hb⟩
structure DlRd (C:DlCtx) (w:World) (st:PlSt) (A:Option Addr) (c:Nat) (A':Option Addr) (c':Nat):Prop where
 c0:w.cell? ⟨C.P,0,none⟩=some (.slice C.gA C.gn C.gc)
 c1:w.cell? ⟨C.P,1,none⟩=some (.slice C.pA C.pn C.pc)
 c4:w.cell? ⟨C.P,4,none⟩=some (.int .i64 C.q.dirs)
 c5:w.cell? ⟨C.P,5,none⟩=some (.int .i64 C.q.path)
 c6:w.cell? ⟨C.P,6,none⟩=some (.slice C.oA C.on C.oc)
 c7:w.cell? ⟨C.P,7,none⟩=some (.bool C.like)
 c8:w.cell? ⟨C.P,8,none⟩=some (.slice A st.1.length c)
 c9:w.cell? ⟨C.P,9,none⟩=some (.slice A' st.2.length c')
 dirs:SlV rDir w (fun _=>True) st.1 (.slice A st.1.length c)
 stls:SlV rStl w (fun _=>True) st.2 (.slice A' st.2.length c')
 hP:C.P<w.heap.size
theorem DlP.rd {C:DlCtx} {w:World} {st:PlSt} {A:Option Addr} {c:Nat} {A':Option Addr} {c':Nat} {S:Nat→Prop} (h:DlP C w st A c A' c' S):DlRd C w st A c A' c':=
 have h1:w.heap[C.P]?=some (.cells #[.slice C.gA C.gn C.gc,.slice C.pA C.pn C.pc,.int .i64 C.dec,.int .i64 C.nod,.int .i64 C.q.dirs,.int .i64 C.q.path,.slice C.oA C.on C.oc,.bool C.like,.slice A st.1.length c,.slice A' st.2.length c'] 87 (0,0)):=h.row
 ⟨cO _ _ 0 _ _ _ h1,cO _ _ 1 _ _ _ h1,cO _ _ 4 _ _ _ h1,cO _ _ 5 _ _ _ h1,cO _ _ 6 _ _ _ h1,cO _ _ 7 _ _ _ h1,cO _ _ 8 _ _ _ h1,cO _ _ 9 _ _ _ h1,h.T.slv.more fun _ _ _=>trivial,h.S'.slv.more fun _ _ _=>trivial,h.hP⟩
theorem DlWd.read {C:DlCtx} {w:World} {st:PlSt} (h:DlWd C w st):∃ A c A' c',DlRd C w st A c A' c':=by
 obtain ⟨A,c,A',c',S,h⟩:=h
 exact ⟨A,c,A',c',h.rd⟩
theorem DlRd.keep {C:DlCtx} {w w':World} {st:PlSt} {A:Option Addr} {c:Nat} {A':Option Addr} {c':Nat} (h:DlRd C w st A c A' c') (hb:Below w.heap.size w w'):DlRd C w' st A c A' c':=
 ⟨zAA hb h.c0 h.hP,zAA hb h.c1 h.hP,zAA hb h.c4 h.hP,zAA hb h.c5 h.hP,zAA hb h.c6 h.hP,zAA hb h.c7 h.hP,zAA hb h.c8 h.hP,zAA hb h.c9 h.hP,h.dirs.belowSize hb,h.stls.belowSize hb,lL h.hP hb.size⟩
theorem DlRd.dir {C:DlCtx} {w:World} {st:PlSt} {A:Option Addr} {c:Nat} {A':Option Addr} {c':Nat} (h:DlRd C w st A c A' c') {i:Nat} {d:Dir} (hi:st.1[i]?=some d) :
  ∃ (b o:Nat) (pA:Option Addr) (pc:Nat),A=some ⟨b,o,none⟩∧b<w.heap.size∧w.cell? ⟨b,o+i * 9,none⟩=some (.slice pA d.path.length pc)∧w.cell? ⟨b,o+i * 9+8,none⟩=some (.int .i64 d.node)∧SlV rStr w (fun _=>True) d.path (.slice pA d.path.length pc)∧d.path.length≤pc∧pc≤maxLen:=by
 obtain ⟨b,o,cs,hA,_,hb,hh,hcell⟩:=h.dirs.elem hi
 obtain ⟨s0,s1,s2,s3,rfl,hp,_,_,_,_,_,_,_,_⟩:=hh
 obtain ⟨pA,pc,rfl,h1,h2⟩:=hp.val
 have c0:=hcell 0 _ rfl
 have c8:=hcell 8 _ rfl
 simp only[rDir,Nat.add_zero] at c0 c8
 exact ⟨b,o,pA,pc,hA,hb,c0,c8,hp,h1,h2⟩
theorem DlRd.len {C:DlCtx} {w:World} {st:PlSt} {A:Option Addr} {c:Nat} {A':Option Addr} {c':Nat} (h:DlRd C w st A c A' c'):st.1.length≤9223372036854775807∧st.2.length≤9223372036854775807:=by
 have h1:=h.dirs.cap_le
 have h2:=h.stls.cap_le
 obtain ⟨_,_,e1,h3,_⟩:=h.dirs.val
 obtain ⟨_,_,e2,h4,_⟩:=h.stls.val
 simp only[Value.slice.injEq] at e1 e2
 unfold maxLen at h1 h2
 omega
theorem DlRd.node {C:DlCtx} {w:World} {st:PlSt} {A:Option Addr} {c:Nat} {A':Option Addr} {c':Nat} (h:DlRd C w st A c A' c') (hC:C.Ok) (hb:Below C.w0.heap.size C.w0 w) {i:Nat} {n:Node} (hi:C.q.g[i]?=some n) :
  ∃ (b o:Nat) (xA:Option Addr) (xc:Nat) (eA:Option Addr) (ec:Nat),C.gA=some ⟨b,o,none⟩∧b<C.w0.heap.size∧i<C.gn∧w.cell? ⟨b,o+i * 6,none⟩=some (.string n.name)∧w.cell? ⟨b,o+i * 6+1,none⟩=some (.int .i64 n.ver.major)∧w.cell? ⟨b,o+i * 6+2,none⟩=some (.int .i64 n.ver.minor)∧w.cell? ⟨b,o+i * 6+3,none⟩=some (.int .i64 n.ver.patch) ∧
    w.cell? ⟨b,o+i * 6+4,none⟩=some (.slice xA n.ctx.length xc)∧w.cell? ⟨b,o+i * 6+5,none⟩=some (.slice eA n.edges.length ec)∧SlV rPin w (fun b=>b<C.w0.heap.size) n.ctx (.slice xA n.ctx.length xc)∧SlV rEdge w (fun b=>b<C.w0.heap.size) n.edges (.slice eA n.edges.length ec)∧n.name.size≤maxLen:=by
 have hg:=hC.g.belowSize hb
 have hn:=hg.n_eq
 obtain ⟨b,o,cs,hA,hS,hbl,hh,hcell⟩:=hg.elem hi
 obtain ⟨s0,s1,rfl,hnm,_,_,_,hx,he⟩:=hh
 obtain ⟨xA,xc,rfl,_,_⟩:=hx.val
 obtain ⟨eA,ec,rfl,_,_⟩:=he.val
 have c0:=hcell 0 _ rfl
 have c1:=hcell 1 _ rfl
 have c2:=hcell 2 _ rfl
 have c3:=hcell 3 _ rfl
 have c4:=hcell 4 _ rfl
 have c5:=hcell 5 _ rfl
 simp only[rNode,Nat.add_zero] at c0 c1 c2 c3 c4 c5
 exact ⟨b,o,xA,xc,eA,ec,hA,hS,by rw[hn];exact (gS.1 hi).1,c0,c1,c2,c3,c4,c5,hx,he,hnm⟩
theorem DlRd.pack {C:DlCtx} {w:World} {st:PlSt} {A:Option Addr} {c:Nat} {A':Option Addr} {c':Nat} (h:DlRd C w st A c A' c') (hC:C.Ok) (hb:Below C.w0.heap.size C.w0 w) {i:Nat} {x:Pack} (hi:C.q.ps[i]?=some x) :
  ∃ (b o:Nat) (dA:Option Addr) (dc:Nat) (eA:Option Addr) (ec:Nat) (fA:Option Addr) (fc:Nat),C.pA=some ⟨b,o,none⟩∧b<C.w0.heap.size∧i<C.pn∧w.cell? ⟨b,o+i * 7,none⟩=some (.string x.name)∧w.cell? ⟨b,o+i * 7+1,none⟩=some (.int .i64 x.ver.major)∧w.cell? ⟨b,o+i * 7+2,none⟩=some (.int .i64 x.ver.minor)∧w.cell? ⟨b,o+i * 7+3,none⟩=some (.int .i64 x.ver.patch) ∧
    w.cell? ⟨b,o+i * 7+4,none⟩=some (.slice dA x.deps.length dc)∧w.cell? ⟨b,o+i * 7+5,none⟩=some (.slice eA x.peers.length ec)∧w.cell? ⟨b,o+i * 7+6,none⟩=some (.slice fA x.opts.length fc) ∧
    PackV w (fun b=>b<C.w0.heap.size) x (.agg #[.string x.name,.int .i64 x.ver.major,.int .i64 x.ver.minor,.int .i64 x.ver.patch,.slice dA x.deps.length dc,.slice eA x.peers.length ec,.slice fA x.opts.length fc])∧I64 x.ver.major∧I64 x.ver.minor∧I64 x.ver.patch:=by
 have hg:=hC.p.belowSize hb
 have hn:=hg.n_eq
 obtain ⟨b,o,cs,hA,hS,hbl,hh,hcell⟩:=hg.elem hi
 obtain ⟨s0,s1,s2,rfl,hnm,i1,i2,i3,h1,h2,h3⟩:=hh
 obtain ⟨dA,dc,rfl,_,_⟩:=h1.val
 obtain ⟨eA,ec,rfl,_,_⟩:=h2.val
 obtain ⟨fA,fc,rfl,_,_⟩:=h3.val
 have c0:=hcell 0 _ rfl
 have c1:=hcell 1 _ rfl
 have c2:=hcell 2 _ rfl
 have c3:=hcell 3 _ rfl
 have c4:=hcell 4 _ rfl
 have c5:=hcell 5 _ rfl
 have c6:=hcell 6 _ rfl
 simp only[rPack,Nat.add_zero] at c0 c1 c2 c3 c4 c5 c6
 exact ⟨b,o,dA,dc,eA,ec,fA,fc,hA,hS,by rw[hn];exact (gS.1 hi).1,c0,c1,c2,c3,c4,c5,c6,⟨_,_,_,_,_,_,_,_,_,rfl,hnm,h1,h2,h3⟩,i1,i2,i3⟩
theorem DlP.notDl {C:DlCtx} {w:World} {st:PlSt} {A:Option Addr} {c:Nat} {A':Option Addr} {c':Nat} {S:Nat→Prop} (h:DlP C w st A c A' c' S) {b:Nat} (h1:b≠C.P) (h2:(Value.slice A st.1.length c).ownBlock≠some b) (h3:(Value.slice A' st.2.length c').ownBlock≠some b):NotDl C w b:=
 ⟨h1,fun v hv=>by rw[cO _ _ 8 _ _ _ h.row] at hv;cases hv;exact h2,fun v hv=>by rw[cO _ _ 9 _ _ _ h.row] at hv;cases hv;exact h3⟩
theorem DlP.notNew {C:DlCtx} {w w':World} {st:PlSt} {A:Option Addr} {c:Nat} {A':Option Addr} {c':Nat} {S:Nat→Prop} (h:DlP C w st A c A' c' S) (hb:Below w.heap.size w w') {b:Nat} (h1:w.heap.size≤b):NotDl C w' b:=
 (h.keep hb).notDl (by have:=h.hP;omega) (fun e=>by have:=(h.T.lt _ e).2;omega) (fun e=>by have:=(h.S'.lt _ e).2;omega)
theorem NotDl.grown {C:DlCtx} {w w':World} {row:Option Nat} {b:Nat} (hn:NotDl C w b) (hP:C.P<w.heap.size) (hg:w.grownBy w' row) (hr:row≠some C.P):NotDl C w' b:=
 ⟨hn.1,fun v hv=>hn.2.1 v (by rw[←zAW (hg.block C.P hP (fun e=>hr e.symm)) 8 none];exact hv),fun v hv=>hn.2.2 v (by rw[←zAW (hg.block C.P hP (fun e=>hr e.symm)) 9 none];exact hv)⟩
theorem DlFr.refl (C:DlCtx) (w:World):DlFr C w w:=⟨nR _,fun b _ hn=>⟨rfl,hn⟩⟩
