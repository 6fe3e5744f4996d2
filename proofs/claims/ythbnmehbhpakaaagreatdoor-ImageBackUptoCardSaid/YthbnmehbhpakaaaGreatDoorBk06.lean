/- The program's Print of spans, walked. -/
import Derived.Test.YthbnmehbhpakaaaGreatDoorBk05
import Derived.Outline
import Derived.Test.YthbnmehbhpakaaaGreatDoorBk02
import Derived.Test.YthbnmehbhpakaaaGreatDoorBk03
import Derived.Test.YthbnmehbhpakaaaGreatDoorAl
set_option linter.all false
set_option maxHeartbeats 3200000
set_option maxRecDepth 100000
namespace Go.Proofs.YthbnmehbhpakaaaGreatDoor
open Go.Rows Go.RowKit Go.Shelf Go.Sort
theorem zBg:Elt Tryz.prog 9 1 16:=Elt.mk' (z:=.string ByteArray.empty) (by kernel_rfl) rfl (by decide)
theorem zSf {w:World} {cs:Array Value} {t:TypeId} {H:Nat} (h:w.heap.size=H):∀ (j:Nat) (u:Value),cs.toList[j]?=some u→(w.alloc (.cells cs t)).cell? ((⟨H,0,none⟩:Addr).add j)=some u:=by
 subst h;exact zAz w cs t
theorem zR8 (A:Option Addr) (n c:Nat) (l:List ByteArray) (w:World) (S:Nat→Prop) (hne:l≠[]) (hN:l.length≤1000000000) (hz:(joinB l).size≤1000000000) (hl:SlV rStr w S l (.slice A n c)) :
  Calls Tryz.prog 96 #[.slice A n c,.string ⟨#[32,124,124,32]⟩] w fun e w'=>e=.returned (.string (joinB l))∧Below w.heap.size w w':=by
 have hn:=hl.n_eq
 have hc:=hl.cap_le
 have hpos:0<l.length:=List.length_pos_iff.2 hne
 obtain ⟨b,o,cs,rfl,hS,hb,_,_⟩:=hl.elem (gE hpos)
 subst hn
 refine Tryz.strings_Join b o c l sepB w (fun j x hx=>?_) hb (by omega) hc.1 (by
  have:(joinB l).size=(Lib.join (l.map (·.data.toList)) sepB.data.toList).length:=by simp[joinB,ByteArray.size]
  omega)
 obtain ⟨b',o',cs',hA,_,_,⟨rfl,_⟩,hcell⟩:=hl.elem hx
 injection hA with hA
 injection hA with hb' ho' _
 subst hb' ho'
 have:=hcell 0 _ rfl
 simpa [rStr] using this
theorem zSI {W w' w1:World} {B C:Nat} {v0 v1 v2 v3 v4 v5:Value} (hb:Below w'.heap.size w' w1) (h0:w'.cell? ⟨B,0,none⟩=some v0) (h1:w'.cell? ⟨B,1,none⟩=some v1) (h2:w'.cell? ⟨B,2,none⟩=some v2)
  (h3:w'.cell? ⟨C,0,none⟩=some v3) (h4:w'.cell? ⟨C,1,none⟩=some v4) (h5:w'.cell? ⟨C,2,none⟩=some v5) (hB:Below W.heap.size W w') (hlt:C<w'.heap.size) (hBC:B<C) :
  w1.cell? ⟨B,0,none⟩=some v0∧w1.cell? ⟨B,1,none⟩=some v1∧w1.cell? ⟨B,2,none⟩=some v2∧w1.cell? ⟨C,0,none⟩=some v3∧w1.cell? ⟨C,1,none⟩=some v4∧w1.cell? ⟨C,2,none⟩=some v5∧Below W.heap.size W w1∧C<w1.heap.size:=
 have hl:B<w'.heap.size:=Nat.lt_trans hBC hlt
 ⟨zAA hb h0 hl,zAA hb h1 hl,zAA hb h2 hl,zAA hb h3 hlt,zAA hb h4 hlt,zAA hb h5 hlt,bot hB hb,lL hlt hb.size⟩
theorem zSY {W w' w1:World} {own:Option Nat} {B C:Nat} {v0 v1 v2 v3 v4 v5:Value} (hg:w'.grownBy w1 own) (hf1:∀ g,own=some g→W.heap.size≤g) (hf2:own≠some B) (hf3:own≠some C) (h0:w'.cell? ⟨B,0,none⟩=some v0) (h1:w'.cell? ⟨B,1,none⟩=some v1) (h2:w'.cell? ⟨B,2,none⟩=some v2)
  (h3:w'.cell? ⟨C,0,none⟩=some v3) (h4:w'.cell? ⟨C,1,none⟩=some v4) (h5:w'.cell? ⟨C,2,none⟩=some v5) (hB:Below W.heap.size W w') (hlt:C<w'.heap.size) (hBC:B<C) :
  w1.cell? ⟨B,0,none⟩=some v0∧w1.cell? ⟨B,1,none⟩=some v1∧w1.cell? ⟨B,2,none⟩=some v2∧w1.cell? ⟨C,0,none⟩=some v3∧w1.cell? ⟨C,1,none⟩=some v4∧w1.cell? ⟨C,2,none⟩=some v5∧Below W.heap.size W w1∧C<w1.heap.size:=
 have hl:B<w'.heap.size:=Nat.lt_trans hBC hlt
 have eB:=hg.block B hl (Ne.symm hf2)
 have eC:=hg.block C hlt (Ne.symm hf3)
 ⟨(zAI eB _ _).trans h0,(zAI eB _ _).trans h1,(zAI eB _ _).trans h2,(zAI eC _ _).trans h3,(zAI eC _ _).trans h4,(zAI eC _ _).trans h5,hB.grown hg hB.size hf1,lL hlt hg.size⟩
theorem zFf (A:Option Addr) (n c:Nat) (l:List Spn) (w:World) (S:Nat→Prop) (ht:Tab w) (hl:SlV rSpn w S l (.slice A n c)) :
  Calls Tryz.prog 128 #[.slice A n c] w fun e w'=>e=.returned (.string (zAO l))∧Below w.heap.size w w':=by
 have Hm:=cH (zEy A n c l w S hl)
 cases hv:zAp l
 ·have Hs:Hid (zAO l=⟨#[]⟩):=by unfold Hid zAO;rw[hv];rfl
  rw[hv] at Hm
  clear hv hl ht
  generalize zAO l=r at *
  go_enter Tryz.func128,Tryz.ntmps128
  go_wp2_with fail
  refine (Hm.out).mono ?_
  rintro e w1 ⟨rfl,hb1⟩
  go_wp2_with fail
  go_ret
  exact ⟨zEp Hs.out.symm,hb1⟩
 ·have hl64:l.length≤64:=by simp[zAp] at hv;exact hv.1
  have Hs:Hid (zAO l=if l=[] then noneB else joinB (l.map zAP)):=by unfold Hid zAO;rw[hv];rfl
  have Hmem:=cH (zOC hv)
  rw[hv] at Hm
  have Hn:Hid (∀ W,Below w.heap.size w W→Calls Tryz.prog 190 #[.slice A n c] W fun e w'=>∃ v,e=.returned v∧SlV rRnk w' (fun b=>W.heap.size≤b) (l.map fun s=>(s.lo.rank,s.hi.rank)) v∧Below W.heap.size W w'):=
   fun W hW=>zLk A n c l W S (by omega) (hl.belowSize hW)
  have Ht:=cH ht
  clear hv hl ht
  generalize zAO l=r at *
  go_enter Tryz.func128,Tryz.ntmps128
  go_wp2_with fail
  refine (Hm.out).mono ?_
  rintro e w1 ⟨rfl,hb1⟩
  go_wp2_with fail
  refine (Hn.out _ hb1).mono ?_
  rintro e wn ⟨v0,rfl,hv0,hbn⟩
  obtain ⟨A0,c0,rfl,_,_⟩:=hv0.val
  have Hnum:Hid (SlV rRnk wn (fun b=>b<wn.heap.size) (l.map fun s=>(s.lo.rank,s.hi.rank)) (.slice A0 (l.map fun s=>(s.lo.rank,s.hi.rank)).length c0)):=hv0.more fun b _ hlt=>hlt
  have hlen:(l.map fun s=>(s.lo.rank,s.hi.rank)).length=l.length:=by simp
  have HBn:=cH (bot hb1 hbn)
  clear hv0 hb1 hbn
  rw[hlen] at *
  have Htn:Hid (Tab wn):=zAG Ht.out HBn.out
  clear hlen
  generalize hL:l.length=ln at *
  have HL:=cH hL;clear hL
  go_wp2_with fail
  go_loopw [3,16] (fun v i wr=>∃ (k:Nat),k≤ln∧i=.int .i64 k∧Hid (Own rStr wr wn.heap.size 9 v ((l.take k).map zAP) (fun _=>False))∧Below wn.heap.size wn wr) (fun _ i _=>ln - (intOf i).toNat)
  case atStart=>exact ⟨0,nZ _,rfl,Own.nil_ _ _ _ _ (fun b hb=>hb.elim),bR _ _⟩
  case round=>
   obtain ⟨k,hk,rfl,Hown,hbel⟩:=hrel
   by_cases hlt:k<ln
   ·have hkx:k<l.length:=by have:=HL.out;omega
    have hbw:=hbel.size
    have hlw:=(Hnum.out.below hbel (fun b hb=>hb))
    obtain ⟨b,o,cs,rfl,hSb,hbl,⟨rfl,_,_⟩,hcell⟩:=hlw.elem (i:=k) (x:=(l[k].lo.rank,l[k].hi.rank)) (by simp[List.getElem?_eq_getElem hkx])
    have c0:=hcell 0 _ rfl
    have c1:=hcell 1 _ rfl
    simp only[rRnk,Nat.add_zero] at c0 c1
    clear hcell hlw
    obtain ⟨m1,m2,m3⟩:=Hmem.out l[k] (List.getElem_mem hkx)
    have Htk:Hid ((l.take (k+1)).map zAP=(l.take k).map zAP++[zAP l[k]]):=by
     unfold Hid;rw[List.take_succ_eq_append_getElem hkx,List.map_append];rfl
    have Hlen:Hid (((l.take k).map zAP).length=k):=by unfold Hid;simp;omega
    have hkn:(k:Int)<(ln:Int):=by omega
    generalize l[k]=s at *
    generalize (l.take k).map zAP=done at *
    obtain ⟨⟨x1,x2,x3⟩,⟨x4,x5,x6⟩⟩:=s
    have m1':verB x1 x2 x3=true:=m1
    have m2':verB x4 x5 x6=true:=m2
    have k1:rankR x1 x2 x3=rankI x1 x2 x3:=Ver.rank_ok m1
    have k2:rankR x4 x5 x6=rankI x4 x5 x6:=Ver.rank_ok m2
    have ⟨p1,p2⟩:=zDf m1'
    have ⟨q1,q2⟩:=zDf m2'
    have H1:Hid (∀ W,Calls Tryz.prog 191 #[.int .i64 (rankR x1 x2 x3)] W fun e w'=>e=.returned (.tuple #[.agg #[.int .i64 x1,.int .i64 x2,.int .i64 x3],.bool true])∧Below W.heap.size W w'):=fun W=>by
     have:=zES (rankI x1 x2 x3) p1 p2 W
     rw[zII m1',zIh m1',zIU m1'] at this
     rw[k1];exact this
    have H2:Hid (∀ W,Calls Tryz.prog 191 #[.int .i64 (rankR x4 x5 x6)] W fun e w'=>e=.returned (.tuple #[.agg #[.int .i64 x4,.int .i64 x5,.int .i64 x6],.bool true])∧Below W.heap.size W w'):=fun W=>by
     have:=zES (rankI x4 x5 x6) q1 q2 W
     rw[zII m2',zIh m2',zIU m2'] at this
     rw[k2];exact this
    have H3:Hid (∀ W,Below wn.heap.size wn W→Calls Tryz.prog 70 #[.agg #[.int .i64 x1,.int .i64 x2,.int .i64 x3]] W fun e w'=>e=.returned (.string (zAj x1 x2 x3))∧Below W.heap.size W w'):=fun W hW=>zBy x1 x2 x3 W (zAG Htn.out hW)
    have H4:Hid (∀ W,Below wn.heap.size wn W→Calls Tryz.prog 70 #[.agg #[.int .i64 x4,.int .i64 x5,.int .i64 x6]] W fun e w'=>e=.returned (.string (zAj x4 x5 x6))∧Below W.heap.size W w'):=fun W hW=>zBy x4 x5 x6 W (zAG Htn.out hW)
    have hz1:=zBN x1 x2 x3
    have hz2:=zBN x4 x5 x6
    have Hst:Hid (zAP ⟨⟨x1,x2,x3⟩,⟨x4,x5,x6⟩⟩=if rankR x1 x2 x3=rankR x4 x5 x6 then zAj x1 x2 x3 else if rankR x1 x2 x3=0 then (if rankR x4 x5 x6=999999999 then starB else leB++zAj x4 x5 x6) else if rankR x4 x5 x6=999999999 then geB++zAj x1 x2 x3 else geB++zAj x1 x2 x3++andB++zAj x4 x5 x6):=rfl
    have c0':wr.cell? ⟨b,o+k * 2,none⟩=some (.int .i64 (rankR x1 x2 x3)):=c0
    have c1':wr.cell? ⟨b,o+k * 2+1,none⟩=some (.int .i64 (rankR x4 x5 x6)):=c1
    clear c0 c1 m1 m2 m1' m2' p1 p2 q1 q2 k1 k2 m3
    generalize zAP ⟨⟨x1,x2,x3⟩,⟨x4,x5,x6⟩⟩=st at *
    generalize zAj x1 x2 x3=t1 at *
    generalize zAj x4 x5 x6=t2 at *
    obtain ⟨p1,p2⟩:=zBu x1 x2 x3
    obtain ⟨q1,q2⟩:=zBu x4 x5 x6
    generalize rankR x1 x2 x3=r1 at *
    generalize rankR x4 x5 x6=r2 at *
    go_wp2_with fail
    refine (H1.out _).mono ?_
    rintro e w2 ⟨rfl,hb2⟩
    have e0:=hb2.cell (p:=⟨wr.heap.size,0,none⟩) (by simp)
    have e1:=hb2.cell (p:=⟨wr.heap.size,1,none⟩) (by simp)
    simp[go_sem] at e0 e1
    have hz2':wr.heap.size<w2.heap.size:=by have:=hb2.size;simp at this;omega
    have Hb2:=cH (bnew hb2)
    clear hb2 c0' c1'
    go_wp2_with fail
    refine (H2.out _).mono ?_
    rintro e w3 ⟨rfl,hb3⟩
    have f0:=zAA ((bnew hb3).mono (nR _)) e0 hz2'
    have f1:=zAA ((bnew hb3).mono (nR _)) e1 hz2'
    have g0:=hb3.cell (p:=⟨w2.heap.size,0,none⟩) (by simp)
    have g1:=hb3.cell (p:=⟨w2.heap.size,1,none⟩) (by simp)
    have g2:=hb3.cell (p:=⟨w2.heap.size,2,none⟩) (by simp)
    simp[go_sem] at g0 g1 g2
    have hz3:w2.heap.size<w3.heap.size:=by have:=hb3.size;simp at this;omega
    have hz4:wr.heap.size<w3.heap.size:=by omega
    have Hb3:=cH (bot Hb2.out (bnew hb3))
    have hfar1:=fun g h=>(Hown.out.lt g h).1
    have hfar2:u3.ownBlock≠some w2.heap.size:=fun h=>by have:=(Hown.out.lt _ h).2;omega
    have hfar3:u3.ownBlock≠some w3.heap.size:=fun h=>by have:=(Hown.out.lt _ h).2;omega
    have Hf1:=cH hfar1;clear hfar1
    have Hf2:=cH hfar2;clear hfar2
    have Hf3:=cH hfar3;clear hfar3
    have Hown3:=cH (Hown.out.keep Hb3.out)
    have HB3:=cH (bot hbel Hb3.out)
    have hw3:=HB3.out.size
    clear hb3 e0 e1 Hb2 Hown Hb3
    by_cases h12:r1=r2
    ·have hb12:(r1==r2)=true:=by simp[h12]
     have He:Hid (st=t1):=by unfold Hid;rw[Hst.out,if_pos h12]
     clear h12 Hst
     go_wp2_with fail
     refine (H3.out _ (bal HB3.out _)).mono ?_
     rintro e w4 ⟨rfl,hb4⟩
     have HB4:=cH (bot (bal HB3.out _) hb4)
     have Hown4:=cH ((Hown3.out.alloc _).keep hb4)
     have hw4:=HB4.out.size
     clear hb4
     go_wp2_with (at_builtin;refine zAb (by rfl) _ _ _ (by rfl) zBg Tryz.underlying53 (by rfl) (Hown4.out.alloc _) ⟨w4.heap.size,0,none⟩ 1 [.string t1] t1 (by rfl) ⟨rfl,by unfold maxLen;omega⟩ (zAz w4 #[.string t1] _) (by rw[Hlen.out];unfold maxLen;omega) (by rw[Hlen.out];omega) (by simp;omega) (w4.heap.size+1) (by simp) ?_)
     intro g9 cap9 w9 hown9 hgrow9 hat9 hlt9
     have HB9:=cH (zC3 (bal HB4.out _) hgrow9 (Hown4.out.alloc _) (nR _))
     have Hown9:=cH hown9
     clear hown9 hgrow9
     go_wp2_with fail
     go_roundw
     case rel=>exact ⟨k+1,by omega,by go_num,by unfold Hid;rw[Htk.out,He.out];exact Hown9.out,HB9.out⟩
     case measure=>simp[intOf];omega
    ·have hb12:(r1==r2)=false:=by simp[h12]
     by_cases h1:r1=0
     ·have hb1:(r1==0)=true:=by simp[h1]
      by_cases h2:r2=999999999
      ·have hb2:(r2==999999999)=true:=by simp[h2]
       have He:Hid (st=starB):=by unfold Hid;rw[Hst.out,if_neg h12,if_pos h1,if_pos h2]
       have z:starB.size=1:=rfl
       clear h12 h1 h2 Hst
       have Hown4:=cH (Hown3.out.alloc (.cells #[.int .i64 x4,.int .i64 x5,.int .i64 x6] 55))
       have HB4:=cH (bal HB3.out (.cells #[.int .i64 x4,.int .i64 x5,.int .i64 x6] 55))
       go_wp2_with (at_builtin;refine zAb (by rfl) _ _ _ (by rfl) zBg Tryz.underlying53 (by rfl) (Hown4.out.alloc _) ⟨w3.heap.size+1,0,none⟩ 1 [.string starB] starB (by rfl) ⟨rfl,by unfold maxLen;omega⟩ (zSf (w:=w3.alloc (.cells #[.int .i64 x4,.int .i64 x5,.int .i64 x6] 55)) (cs:=#[.string starB]) (by simp)) (by rw[Hlen.out];unfold maxLen;omega) (by rw[Hlen.out];omega) (by simp;omega) (w3.heap.size+1+1) (by simp) ?_)
       intro g9 cap9 w9 hown9 hgrow9 hat9 hlt9
       have HB9:=cH (zC3 (bal HB4.out _) hgrow9 (Hown4.out.alloc _) (nR _))
       have Hown9:=cH hown9
       clear hown9 hgrow9
       go_wp2_with fail
       go_roundw
       case rel=>exact ⟨k+1,by omega,by go_num,by unfold Hid;rw[Htk.out,He.out];exact Hown9.out,HB9.out⟩
       case measure=>simp[intOf];omega
      ·have hb2:(r2==999999999)=false:=by simp[h2]
       have He:Hid (st=leB++t2):=by unfold Hid;rw[Hst.out,if_neg h12,if_pos h1,if_neg h2]
       have z:leB.size=2:=rfl
       have A1:∀ W:World,(Op.stringOp .add ⟨#[60,61]⟩ t2).run Tryz.prog W=.ok (.string (leB++t2)) W:=fun W=>run_string_add_sum W leB t2 (by omega)
       have hz5:(leB++t2).size≤13:=by rw[ByteArray.size_append];omega
       clear h12 h1 h2 Hst
       go_wp2_with fail
       refine (H4.out _ (bal HB3.out _)).mono ?_
       rintro e w4 ⟨rfl,hb4⟩
       have HB4:=cH (bot (bal HB3.out _) hb4)
       have Hown4:=cH ((Hown3.out.alloc _).keep hb4)
       have hw4:=HB4.out.size
       clear hb4
       go_wp2_with (at_builtin;refine zAb (by rfl) _ _ _ (by rfl) zBg Tryz.underlying53 (by rfl) (Hown4.out.alloc _) ⟨w4.heap.size,0,none⟩ 1 [.string (leB++t2)] (leB++t2) (by rfl) ⟨rfl,by unfold maxLen;omega⟩ (zAz w4 #[.string (leB++t2)] _) (by rw[Hlen.out];unfold maxLen;omega) (by rw[Hlen.out];omega) (by simp;omega) (w4.heap.size+1) (by simp) ?_)
       intro g9 cap9 w9 hown9 hgrow9 hat9 hlt9
       have HB9:=cH (zC3 (bal HB4.out _) hgrow9 (Hown4.out.alloc _) (nR _))
       have Hown9:=cH hown9
       clear hown9 hgrow9
       go_wp2_with fail
       go_roundw
       case rel=>exact ⟨k+1,by omega,by go_num,by unfold Hid;rw[Htk.out,He.out];exact Hown9.out,HB9.out⟩
       case measure=>simp[intOf];omega
     ·have hb1:(r1==0)=false:=by simp[h1]
      by_cases h2:r2=999999999
      ·have hb2:(r2==999999999)=true:=by simp[h2]
       have He:Hid (st=geB++t1):=by unfold Hid;rw[Hst.out,if_neg h12,if_neg h1,if_pos h2]
       have z:geB.size=2:=rfl
       have A1:∀ W:World,(Op.stringOp .add ⟨#[62,61]⟩ t1).run Tryz.prog W=.ok (.string (geB++t1)) W:=fun W=>run_string_add_sum W geB t1 (by omega)
       have hz5:(geB++t1).size≤13:=by rw[ByteArray.size_append];omega
       clear h12 h1 h2 Hst
       go_wp2_with fail
       refine (H3.out _ (bal HB3.out _)).mono ?_
       rintro e w4 ⟨rfl,hb4⟩
       have HB4:=cH (bot (bal HB3.out _) hb4)
       have Hown4:=cH ((Hown3.out.alloc _).keep hb4)
       have hw4:=HB4.out.size
       clear hb4
       go_wp2_with (at_builtin;refine zAb (by rfl) _ _ _ (by rfl) zBg Tryz.underlying53 (by rfl) (Hown4.out.alloc _) ⟨w4.heap.size,0,none⟩ 1 [.string (geB++t1)] (geB++t1) (by rfl) ⟨rfl,by unfold maxLen;omega⟩ (zAz w4 #[.string (geB++t1)] _) (by rw[Hlen.out];unfold maxLen;omega) (by rw[Hlen.out];omega) (by simp;omega) (w4.heap.size+1) (by simp) ?_)
       intro g9 cap9 w9 hown9 hgrow9 hat9 hlt9
       have HB9:=cH (zC3 (bal HB4.out _) hgrow9 (Hown4.out.alloc _) (nR _))
       have Hown9:=cH hown9
       clear hown9 hgrow9
       go_wp2_with fail
       go_roundw
       case rel=>exact ⟨k+1,by omega,by go_num,by unfold Hid;rw[Htk.out,He.out];exact Hown9.out,HB9.out⟩
       case measure=>simp[intOf];omega
      ·have hb2:(r2==999999999)=false:=by simp[h2]
       have He:Hid (st=geB++t1++andB++t2):=by unfold Hid;rw[Hst.out,if_neg h12,if_neg h1,if_neg h2]
       have z1:geB.size=2:=rfl
       have z2:andB.size=3:=rfl
       have A1:∀ W:World,(Op.stringOp .add ⟨#[62,61]⟩ t1).run Tryz.prog W=.ok (.string (geB++t1)) W:=fun W=>run_string_add_sum W geB t1 (by omega)
       have A2:∀ W:World,(Op.stringOp .add (geB++t1) ⟨#[32,60,61]⟩).run Tryz.prog W=.ok (.string (geB++t1++andB)) W:=fun W=>run_string_add_sum W _ andB (by rw[ByteArray.size_append];omega)
       have A3:∀ W:World,(Op.stringOp .add (geB++t1++andB) t2).run Tryz.prog W=.ok (.string (geB++t1++andB++t2)) W:=fun W=>run_string_add_sum W _ _ (by rw[ByteArray.size_append,ByteArray.size_append];omega)
       have hz5:(geB++t1++andB++t2).size≤27:=by rw[ByteArray.size_append,ByteArray.size_append,ByteArray.size_append];omega
       clear h12 h1 h2 Hst
       go_wp2_with fail
       go_region_held3 (fun w'=>w'.cell? ⟨w2.heap.size,0,none⟩=some (.int .i64 x1)∧w'.cell? ⟨w2.heap.size,1,none⟩=some (.int .i64 x2)∧w'.cell? ⟨w2.heap.size,2,none⟩=some (.int .i64 x3) ∧
         w'.cell? ⟨w3.heap.size,0,none⟩=some (.int .i64 x4)∧w'.cell? ⟨w3.heap.size,1,none⟩=some (.int .i64 x5)∧w'.cell? ⟨w3.heap.size,2,none⟩=some (.int .i64 x6)∧Below wn.heap.size wn w'∧w3.heap.size<w'.heap.size)
        (first
          | exact ⟨by go_keep,by go_keep,by go_keep,by go_keep,by go_keep,by go_keep,(bal HB3.out _).drew,by simp⟩
          | (go_split_ands;exact zSI (by assumption) (by assumption) (by assumption) (by assumption) (by assumption) (by assumption) (by assumption) (by assumption) (by assumption) hz3)
          | (go_split_ands;exact zSI ((bR _ _).alloc (nR _) _) (by assumption) (by assumption) (by assumption) (by assumption) (by assumption) (by assumption) (by assumption) (by assumption) hz3)
          | (go_split_ands;exact zSY hgrow9 Hf1.out Hf2.out Hf3.out (by assumption) (by assumption) (by assumption) (by assumption) (by assumption) (by assumption) (by assumption) (by assumption) hz3))
        (first
          | (go_at_call 70;go_split_ands;(first|(with_reducible refine (H3.out _ (by assumption)).mono ?_)|(with_reducible refine (H4.out _ (by assumption)).mono ?_));rintro e w' ⟨rfl,hb⟩)
          | (go_split_ands;refine zDO (by rfl) _ _ _ (by rfl) zBg Tryz.underlying53 (by rfl) (Own.alloc (Own.keep (Own.keep ((Hown3.out.alloc _).drew) (by assumption)) (by assumption)) _) ⟨_,0,none⟩ 1 [.string (geB++t1++andB++t2)] (geB++t1++andB++t2) (by rfl) ⟨rfl,by unfold maxLen;omega⟩ (zAz _ #[.string (geB++t1++andB++t2)] _) (by rw[Hlen.out];unfold maxLen;omega) (by rw[Hlen.out];omega) (Below.size (by assumption)) _ rfl ?_;intro g9 cap9 w9 hown9 hgrow9 hat9 hlt9))
       all_goals
        have HB9:Hid (Below wn.heap.size wn w9):=by (go_split_ands;assumption)
        have Hown9:=cH hown9
        clear hown9 hgrow9
        go_wp2_with fail
        go_roundw
        case rel=>exact ⟨k+1,by omega,by go_num,by unfold Hid;rw[Htk.out,He.out];exact Hown9.out,HB9.out⟩
        case measure=>simp[intOf];omega
   ·have hkl:k=l.length:=by have:=HL.out;omega
    have htake:l.take k=l:=by rw[hkl];exact List.take_length
    have Hown1:Hid (Own rStr wr wn.heap.size 9 u3 (l.map zAP) (fun _=>False)):=by have:=Hown.out;rwa [htake] at this
    clear Hown htake
    have Hbel:=cH (bot HBn.out hbel)
    by_cases hnil:l=[]
    ·have hk0:k=0:=by rw[hkl,hnil];rfl
     have He:Hid (r=noneB):=by unfold Hid;rw[Hs.out,if_pos hnil]
     have hv:=Hown1.out.slv
     rw[hnil] at hv
     obtain ⟨A9,c9,rfl,_,_⟩:=hv.val
     clear hv hnil hkl Hown1
     have hln0:¬(k:Int)<(ln:Int):=by omega
     go_wp2_with fail
     go_ret
     exact ⟨zEp He.out.symm,Hbel.out⟩
    ·have He:Hid (r=joinB (l.map zAP)):=by unfold Hid;rw[Hs.out,if_neg hnil]
     have hv:=Hown1.out.slv
     obtain ⟨A9,c9,rfl,_,_⟩:=hv.val
     have Hj:=cH (zR8 A9 _ c9 _ wr _ (by simpa using hnil) (by simp;omega) (by have:=zEn l;omega) hv)
     have hpos:0<(l.map zAP).length:=by rw[List.length_map];exact List.length_pos_iff.2 hnil
     clear hv hnil hkl Hown1
     generalize (l.map zAP).length=m9 at *
     have hln0:((m9:Int)==0)=false:=by simp;omega
     have hlt':¬(k:Int)<(ln:Int):=by omega
     generalize joinB (l.map zAP)=jt at *
     go_wp2_with fail
     with_reducible refine Hj.out.mono ?_
     rintro e w5 ⟨rfl,hb5⟩
     go_wp2_with fail
     go_ret
     exact ⟨zEp He.out.symm,bot Hbel.out hb5⟩
end Go.Proofs.YthbnmehbhpakaaaGreatDoor
namespace Go.Proofs.YthbnmehbhpakaaaGreatDoor
open Go
def nlB:ByteArray:=⟨#[10]⟩
def lineD (word:ByteArray) (d:Dep):ByteArray:=word++zAH++d.name++zAH++zAO d.range++nlB
def zAN (word:ByteArray):List Dep→ByteArray
 | []=>⟨#[]⟩
 | d::l=>lineD word d++zAN word l
def packW:ByteArray:=⟨#[112,97,99,107,97,103,101,32]⟩
def zBR:ByteArray:=⟨#[110,101,101,100,115]⟩
def zCp:ByteArray:=⟨#[98,101,115,105,100,101]⟩
def zBi:ByteArray:=⟨#[108,105,107,101,115]⟩
def zDU (p:Pack):ByteArray:=packW++p.name++zAH++zAj p.ver.major p.ver.minor p.ver.patch++nlB
def zAW (p:Pack):ByteArray:=zDU p++zAN zBR p.deps++zAN zCp p.peers++zAN zBi p.opts
theorem zI4 (word:ByteArray) (a b:List Dep):zAN word (a++b)=zAN word a++zAN word b:=by
 induction a with
 | nil=>apply ByteArray.ext;simp[zAN,ByteArray.data_append]
 | cons d a ih=>rw[List.cons_append,zAN,ih,zAN];apply ByteArray.ext;simp[ByteArray.data_append]
theorem zHi (word:ByteArray) {l:List Dep} {k:Nat} (h:k<l.length):zAN word (l.take (k+1))=zAN word (l.take k)++lineD word l[k]:=by
 rw[List.take_succ_eq_append_getElem h,zI4]
 apply ByteArray.ext;simp[zAN,ByteArray.data_append]
theorem zQ8 {word:ByteArray} {d:Dep} (hw:word.size≤10) (hd:d.name.size≤16):(lineD word d).size≤2100:=by
 have:=zC6 d.range
 have z1:zAH.size=1:=rfl
 have z2:nlB.size=1:=rfl
 unfold lineD
 simp only[ByteArray.size_append]
 omega
theorem zDN {word:ByteArray} {l:List Dep} (hw:word.size≤10) (hd:∀ d∈l,d.name.size≤16):(zAN word l).size≤2100 * l.length:=by
 induction l with
 | nil=>exact nR _
 | cons d l ih=>
   have h1:=zQ8 hw (hd d (by simp))
   have h2:=ih (fun x hx=>hd x (by simp[hx]))
   rw[zAN,ByteArray.size_append,List.length_cons]
   omega
theorem zIw:∀ {l:List Dep} {p:Option ByteArray},zBL p l=true→∀ d∈l,nameB d.name=true∧zAp d.range=true:=by
 intro l
 induction l with
 | nil=>intro p _ d hd;cases hd
 | cons x l ih=>
   intro p h d hd
   simp only[zBL,Bool.and_eq_true] at h
   rcases List.mem_cons.1 hd with rfl|hd
   ·exact ⟨h.1.1,h.1.2.1⟩
   ·exact ih h.2 d hd
theorem zCG {s:ByteArray} (h:nameB s=true):s.size≤16:=by
 rcases Nat.lt_or_ge 16 s.size with h'|h'
 ·have:nameL s.data.toList=false:=zHf (by rw[Array.length_toList];exact h')
  unfold nameB at h;rw[this] at h;cases h
 ·exact h'
theorem zBb {l:List Dep} (h:listB l=true):l.length≤16∧∀ d∈l,d.name.size≤16:=by
 simp only[listB,Bool.and_eq_true,decide_eq_true_eq] at h
 exact ⟨h.2,fun d hd=>zCG (zIw h.1 d hd).1⟩
theorem bl_lt:∀ (x y:List UInt8),Op.bytesLess x y=decide (x<y):=by
 intro x
 induction x with
 | nil=>intro y;cases y<;>simp[Op.bytesLess]
 | cons a x ih=>
   intro y
   cases y with
   | nil=>simp[Op.bytesLess]
   | cons b y=>
     rw[Op.bytesLess,ih y,Bool.eq_iff_iff]
     simp[List.cons_lt_cons_iff]
theorem zCg (a b:ByteArray):lessB a b=decide (a.data.toList<b.data.toList):=by
 unfold lessB;rw[bl_lt,Go.ByteArray.toList_eq,Go.ByteArray.toList_eq]
theorem zBx (a:ByteArray):lessB a a=false:=by
 rw[zCg];simp
theorem zCq {a b c:ByteArray} (h1:lessB a b=true) (h2:lessB b c=true):lessB a c=true:=by
 rw[zCg,decide_eq_true_eq] at *
 exact List.lt_trans h1 h2
theorem zMO:∀ {l:List Dep} {a:ByteArray},zBL (some a) l=true→∀ x∈zAQ l,lessB a x=true:=by
 intro l
 induction l with
 | nil=>intro a _ x hx;cases hx
 | cons d l ih=>
   intro a h x hx
   simp only[zBL,Bool.and_eq_true,behind] at h
   rcases List.mem_cons.1 hx with rfl|hx
   ·exact h.1.2.2.2
   ·exact zCq h.1.2.2.2 (ih h.2 x hx)
theorem zKJ:∀ {l:List Dep} {p:Option ByteArray},zBL p l=true→(zAQ l).Nodup:=by
 intro l
 induction l with
 | nil=>intro p _;exact List.nodup_nil
 | cons d l ih=>
   intro p h
   simp only[zBL,Bool.and_eq_true] at h
   refine List.nodup_cons.2 ⟨fun hm=>?_,ih h.2⟩
   have:=zMO h.2 _ hm
   rw[zBx] at this;cases this
theorem zLv {l:List Dep} (h:listB l=true):(zAQ l).Nodup:=by
 simp only[listB,Bool.and_eq_true] at h
 exact zKJ h.1
noncomputable def packB (p:Pack):Bool:=
 nameB p.name&&(verB p.ver.major p.ver.minor p.ver.patch&&(listB p.deps&&(listB p.peers&&(listB p.opts&&(zCQ (zAM [p.deps,p.peers,p.opts])&&decide ((zAW p).size≤4096))))))
end Go.Proofs.YthbnmehbhpakaaaGreatDoor
namespace Go.Proofs.YthbnmehbhpakaaaGreatDoor
open Go.Rows Go.RowKit Go.Shelf Go.Sort
theorem zLb {p:Pack} (h:p.name.size≤16):(zDU p).size≤100:=by
 have h1:=zBN p.ver.major p.ver.minor p.ver.patch
 have z1:zAH.size=1:=rfl
 have z2:nlB.size=1:=rfl
 have z3:packW.size=8:=rfl
 unfold zDU
 simp only[ByteArray.size_append]
 omega
theorem zAf (a b:ByteArray):Lib.strCells (a++b)=Lib.strCells a++Lib.strCells b:=by
 simp[Lib.strCells,ByteArray.data_append]
theorem zHG (word:ByteArray) (hword:word.size≤10) (A:Option Addr) (n c:Nat) (l:List Dep) (w:World) (S:Nat→Prop) (B b:Nat) (bs:List Value)
  (h16:l.length≤16) (hsm:∀ d∈l,d.name.size≤16) (hT:∀ W,Below B w W→Tab W) (hl:SlV rDep w S l (.slice A n c)) (hS:∀ b,S b→b<B)
  (hB:IsB B b bs w) (hbs:bs.length≤1000000) (hBw:B≤w.heap.size) :
  Calls Tryz.prog 135 #[.pointer (some ⟨b,0,none⟩),.string word,.slice A n c] w fun e w'=>e=.returned (.tuple #[])∧IsB B b (bs++Lib.strCells (zAN word l)) w'∧Below B w w':=by
 have hnx:=hl.n_eq
 have hn63:n≤16:=by omega
 have Hsm:=cH hsm;clear hsm
 have HT:=cH hT;clear hT
 have HS:=cH hS;clear hS
 have HB:=cH hB;clear hB
 have Hend:Hid (zAN word l=zAN word (l.take l.length)):=by unfold Hid;rw[List.take_length]
 have Hnx:=cH hnx;clear hnx
 generalize hR:zAN word l=R at *
 clear hR
 go_enter Tryz.func135,Tryz.ntmps135
 go_wp2_with fail
 go_loopw [10] (fun i wr=>∃ (k:Nat),k≤n∧i=.int .i64 k∧Hid (IsB B b (bs++Lib.strCells (zAN word (l.take k))) wr)∧Below B w wr) (fun i _=>n - (intOf i).toNat)
 case atStart=>exact ⟨0,nZ _,rfl,by have:=HB.out;simpa [Hid,zAN,Lib.strCells] using this,bR _ _⟩
 case round=>
  obtain ⟨k,hk,rfl,hIB,hbel⟩:=hrel
  by_cases hlt:k<n
  ·have hkx:k<l.length:=by have:=Hnx.out;omega
   obtain ⟨bb,o,cs,rfl,_,hb1,⟨s0,rfl,hnm,hr0⟩,hcell⟩:=(hl.below hbel HS.out).elem (gE hkx)
   obtain ⟨pA,pc,rfl,_,_⟩:=hr0.val
   have c0:=hcell 0 _ rfl
   have c1:=hcell 1 _ rfl
   simp only[rDep,Nat.add_zero] at c0 c1
   have Htk:=cH (zHi word hkx)
   have hz0:(zAN word (l.take k)).size≤33600:=by
    have h1:=zDN (word:=word) (l:=l.take k) hword (fun d hd=>Hsm.out d (List.mem_of_mem_take hd))
    have h2:(l.take k).length≤16:=by simp;omega
    omega
   have hz1:=Hsm.out l[k] (List.getElem_mem hkx)
   have hz2:=zC6 l[k].range
   have hk0:(0:Int)≤(k:Int):=by omega
   have hkn:(k:Int)<(n:Int):=by omega
   have hBr:B≤wr.heap.size:=nT hBw hbel.size
   have Ht:Hid (Tab wr):=HT.out _ hbel
   have Hc:Hid (∀ o:Obj,∀ d os,Calls Tryz.prog 128 #[.slice pA l[k].range.length pc] (grow (redrawn (wr.alloc o) d) os) fun e w''=>e=.returned (.string (zAO l[k].range))∧∃ p:Regrown,w''=grow (redrawn (wr.alloc o) p.d) p.os):=
    fun o=>qcall (w:=wr.alloc o) (fun W hW=>zFf pA _ pc l[k].range W _ (zAG (zAG Ht.out (bal (bR _ _) o)) hW) ((hr0.alloc o).belowSize hW))
   have Hln:Hid (lineD word l[k]=word++zAH++l[k].name++zAH++zAO l[k].range++nlB):=rfl
   have Hlen:Hid ((bs++Lib.strCells (zAN word (l.take k))).length≤1033600):=by unfold Hid;rw[List.length_append,Lib.strCells_length];omega
   clear hcell hr0 hz0
   generalize lineD word l[k]=line at *
   generalize l[k].name=x at *
   generalize zAO l[k].range=t at *
   generalize l[k].range.length=rl at *
   have z1:zAH.size=1:=rfl
   have z2:nlB.size=1:=rfl
   have A1:∀ W:World,(Op.stringOp .add word ⟨#[32]⟩).run Tryz.prog W=.ok (.string (word++zAH)) W:=fun W=>run_string_add_sum W _ zAH (by omega)
   have A2:∀ W:World,(Op.stringOp .add (word++zAH) x).run Tryz.prog W=.ok (.string (word++zAH++x)) W:=fun W=>run_string_add_sum W _ _ (by simp only[ByteArray.size_append];omega)
   have A3:∀ W:World,(Op.stringOp .add (word++zAH++x) ⟨#[32]⟩).run Tryz.prog W=.ok (.string (word++zAH++x++zAH)) W:=fun W=>run_string_add_sum W _ zAH (by simp only[ByteArray.size_append];omega)
   have A4:∀ W:World,(Op.stringOp .add (word++zAH++x++zAH) t).run Tryz.prog W=.ok (.string (word++zAH++x++zAH++t)) W:=fun W=>run_string_add_sum W _ _ (by simp only[ByteArray.size_append];omega)
   have A5:∀ W:World,(Op.stringOp .add (word++zAH++x++zAH++t) ⟨#[10]⟩).run Tryz.prog W=.ok (.string line) W:=fun W=>by rw[Hln.out];exact run_string_add_sum W _ nlB (by simp only[ByteArray.size_append];omega)
   have Hlz:Hid (line.size≤2100):=by unfold Hid;rw[Hln.out];simp only[ByteArray.size_append];omega
   clear z1 z2 hz1 hz2 Hln
   go_wp2_with fail
   have a0:(wr.alloc (.cells #[.string x,.slice pA rl pc] 158)).cell? ⟨wr.heap.size,0,none⟩=some (.string x):=by simp[go_sem]
   have a1:(wr.alloc (.cells #[.string x,.slice pA rl pc] 158)).cell? ⟨wr.heap.size,1,none⟩=some (.slice pA rl pc):=by simp[go_sem]
   have r_a0:=cR a0
   have r_a1:=cR a1
   refine zAk 12 (by kernel_rfl) (by kernel_rfl) ?_
   simp only[List.take_succ_cons,List.take_zero,List.drop_succ_cons,List.drop_zero]
   repeat (go_big_quiet_step (first|(with_reducible exact Hc.out _ _ _)))
   refine wpQuiet_nil fun w1 B1=>?_
   have hbr1:Below wr.heap.size wr w1:=bnew B1
   have HB1:Hid (IsB B b (bs++Lib.strCells (zAN word (l.take k))) w1):=hIB.out.keep hbr1
   have hbel1:Below B w w1:=hbel.trans (hbr1.mono hBr)
   have Hbel1:=cH hbel1;clear hbel1
   have hBw1:B≤w1.heap.size:=nT hBr hbr1.size
   have HBw1:=cH hBw1;clear hBw1
   have Hlen1:Hid ((bs++Lib.strCells (zAN word (l.take k))).length+line.size≤140737488355328):=by unfold Hid;have:=Hlen.out;have:=Hlz.out;omega
   clear A1 A2 A3 A4 A5 hbr1 B1 Hc r_a0 r_a1 a0 a1 c0 c1
   go_wp2_with fail
   refine (zB3 _ _ _ line _ HB1.out Hlen1.out HBw1.out).mono ?_
   rintro e w2 ⟨rfl,hB2,hb2⟩
   have HB2:Hid (IsB B b (bs++Lib.strCells (zAN word (l.take (k+1)))) w2):=by
    unfold Hid;rw[Htk.out,zAf,←List.append_assoc];exact .inr hB2
   have Hbel2:=cH (Hbel1.out.trans hb2);clear hb2 hB2
   go_wp2_with fail
   go_roundw
   case rel=>exact ⟨k+1,by omega,by go_num,HB2,Hbel2.out⟩
   case measure=>simp[intOf];omega
  ·have He:Hid (R=zAN word (l.take k)):=by
    unfold Hid;rw[Hend.out,show k=l.length from by have:=Hnx.out;omega]
   go_wp2_with fail
   go_end0
   refine ⟨rfl,?_,hbel⟩
   rw[He.out];exact hIB.out
theorem zGF (p:Pack) (v:Value) (w:World) (S:Nat→Prop) (ht:Tab w) (hnm:p.name.size≤16) (hd:listB p.deps=true) (hp:listB p.peers=true) (ho:listB p.opts=true) (hv:PackV w S p v) :
  Calls Tryz.prog 74 #[v] w fun e w'=>e=.returned (.string (zAW p))∧Below w.heap.size w w':=by
 obtain ⟨A1,n1,c1,A2,n2,c2,A3,n3,c3,rfl,_,h1,h2,h3⟩:=hv
 obtain ⟨d1,d2⟩:=zBb hd
 obtain ⟨p1,p2⟩:=zBb hp
 obtain ⟨o1,o2⟩:=zBb ho
 have zd:=zDN (word:=zBR) (by decide) d2
 have zp:=zDN (word:=zCp) (by decide) p2
 have zo:=zDN (word:=zBi) (by decide) o2
 have zh:=zLb hnm
 have zv:=zBN p.ver.major p.ver.minor p.ver.patch
 have h1':=h1.more (S':=fun b=>b<w.heap.size) fun b _ h=>h
 have h2':=h2.more (S':=fun b=>b<w.heap.size) fun b _ h=>h
 have h3':=h3.more (S':=fun b=>b<w.heap.size) fun b _ h=>h
 clear h1 h2 h3
 have Hph:Hid (zDU p=packW++p.name++zAH++zAj p.ver.major p.ver.minor p.ver.patch++nlB):=rfl
 have Hpt:Hid (zAW p=zDU p++zAN zBR p.deps++zAN zCp p.peers++zAN zBi p.opts):=rfl
 generalize zAW p=R at *
 generalize zDU p=ph at *
 have z1:zAH.size=1:=rfl
 have z2:nlB.size=1:=rfl
 have z3:packW.size=8:=rfl
 obtain ⟨name,⟨x1,x2,x3⟩,deps,peers,opts⟩:=p
 dsimp only at *
 have E1:∀ W:World,(Op.stringOp .add ⟨#[112,97,99,107,97,103,101,32]⟩ name).run Tryz.prog W=.ok (.string (packW++name)) W:=fun W=>run_string_add_sum W packW name (by omega)
 have E2:∀ W:World,(Op.stringOp .add (packW++name) ⟨#[32]⟩).run Tryz.prog W=.ok (.string (packW++name++zAH)) W:=fun W=>run_string_add_sum W _ zAH (by simp only[ByteArray.size_append];omega)
 have Hc0:Hid (∀ o o':Obj,∀ d os,Calls Tryz.prog 70 #[.agg #[.int .i64 x1,.int .i64 x2,.int .i64 x3]] (grow (redrawn ((w.alloc o).alloc o') d) os) fun e w''=>e=.returned (.string (zAj x1 x2 x3))∧∃ p:Regrown,w''=grow (redrawn ((w.alloc o).alloc o') p.d) p.os):=
  fun o o'=>qcall (w:=(w.alloc o).alloc o') (fun W hW=>zBy _ _ _ W (zAG (zAG ht (bal (bal (bR _ _) o) o')) hW))
 have Htx1:Hid (zAN zBR deps=zAN zBR deps):=rfl
 generalize hvt:zAj x1 x2 x3=tv at *
 clear hvt
 have E3:∀ W:World,(Op.stringOp .add (packW++name++zAH) tv).run Tryz.prog W=.ok (.string (packW++name++zAH++tv)) W:=fun W=>run_string_add_sum W _ _ (by simp only[ByteArray.size_append];omega)
 have E4:∀ W:World,(Op.stringOp .add (packW++name++zAH++tv) ⟨#[10]⟩).run Tryz.prog W=.ok (.string ph) W:=fun W=>by rw[Hph.out];exact run_string_add_sum W _ nlB (by simp only[ByteArray.size_append];omega)
 have HL:Hid (ph.size≤100∧(zAN zBR deps).size≤33600∧(zAN zCp peers).size≤33600∧(zAN zBi opts).size≤33600):=⟨zh,by omega,by omega,by omega⟩
 have Hd1:=cH d1;have Hd2:=cH d2;have Hp1:=cH p1;have Hp2:=cH p2;have Ho1:=cH o1;have Ho2:=cH o2
 clear z1 z2 z3 zd zp zo zh zv hnm d1 d2 p1 p2 o1 o2 hd hp ho Htx1 Hph
 have Ht:=cH ht;clear ht
 have Hs1:=cH h1';have Hs2:=cH h2';have Hs3:=cH h3';clear h1' h2' h3'
 go_enter Tryz.func74,Tryz.ntmps74
 go_wp2_with fail
 obtain ⟨w0,hw0⟩:∃ w0,w0=w.alloc (.cells #[.string name,.int .i64 x1,.int .i64 x2,.int .i64 x3,.slice A1 n1 c1,.slice A2 n2 c2,.slice A3 n3 c3] 57):=⟨_,rfl⟩
 have hz:w.heap.size<w0.heap.size:=by rw[hw0];simp[go_sem]
 have hq:w.heap.size+1=w0.heap.size:=by rw[hw0];simp[go_sem]
 have hb0:Below w.heap.size w w0:=by rw[hw0];exact bal (bR _ _) _
 have a0:w0.cell? ⟨w.heap.size,0,none⟩=some (.string name):=by rw[hw0];simp[go_sem]
 have a1:w0.cell? ⟨w.heap.size,1,none⟩=some (.int .i64 x1):=by rw[hw0];simp[go_sem]
 have a2:w0.cell? ⟨w.heap.size,2,none⟩=some (.int .i64 x2):=by rw[hw0];simp[go_sem]
 have a3:w0.cell? ⟨w.heap.size,3,none⟩=some (.int .i64 x3):=by rw[hw0];simp[go_sem]
 have a4:w0.cell? ⟨w.heap.size,4,none⟩=some (.slice A1 n1 c1):=by rw[hw0];simp[go_sem]
 have a5:w0.cell? ⟨w.heap.size,5,none⟩=some (.slice A2 n2 c2):=by rw[hw0];simp[go_sem]
 have a6:w0.cell? ⟨w.heap.size,6,none⟩=some (.slice A3 n3 c3):=by rw[hw0];simp[go_sem]
 have Hc1:Hid (∀ o':Obj,∀ d os,Calls Tryz.prog 70 #[.agg #[.int .i64 x1,.int .i64 x2,.int .i64 x3]] (grow (redrawn (w0.alloc o') d) os) fun e w''=>e=.returned (.string tv)∧∃ p:Regrown,w''=grow (redrawn (w0.alloc o') p.d) p.os):=by
  unfold Hid;rw[hw0];exact Hc0.out _
 rw[←hw0]
 clear Hc0
 have Hb0:=cH hb0;clear hb0 hw0
 have HBf:Hid (IsB w0.heap.size w0.heap.size (Lib.strCells ⟨#[]⟩) (w0.alloc (.cells #[.pointer none,.slice none 0 0] 122))):=Lib.fresh_isBuilder _ _ _
 obtain ⟨wb,hwb⟩:∃ wb,wb=w0.alloc (.cells #[.pointer none,.slice none 0 0] 122):=⟨_,rfl⟩
 have Hbb:Hid (Below w0.heap.size w0 wb):=by unfold Hid;rw[hwb];exact bal (bR _ _) _
 have Hc2:Hid (∀ d os,Calls Tryz.prog 70 #[.agg #[.int .i64 x1,.int .i64 x2,.int .i64 x3]] (grow (redrawn wb d) os) fun e w''=>e=.returned (.string tv)∧∃ p:Regrown,w''=grow (redrawn wb p.d) p.os):=by
  unfold Hid;rw[hwb];exact Hc1.out _
 rw[←hwb] at HBf
 rw[←hwb]
 try rw[hq]
 clear Hc1 hwb
 have b0:=zAA Hbb.out a0 hz
 have b1:=zAA Hbb.out a1 hz
 have b2:=zAA Hbb.out a2 hz
 have b3:=zAA Hbb.out a3 hz
 have r_b0:=cR b0
 have r_b1:=cR b1
 have r_b2:=cR b2
 have r_b3:=cR b3
 refine zAk 9 (by kernel_rfl) (by kernel_rfl) ?_
 simp only[List.take_succ_cons,List.take_zero,List.drop_succ_cons,List.drop_zero]
 repeat (go_big_quiet_step (first|(with_reducible exact Hc2.out _ _)))
 refine wpQuiet_nil fun w1 B1=>?_
 have Hbb1:Hid (Below w0.heap.size w0 w1):=bot Hbb.out B1
 have HB1:Hid (IsB w0.heap.size w0.heap.size (Lib.strCells ⟨#[]⟩) w1):=HBf.out.keep B1
 clear r_b0 r_b1 r_b2 r_b3 b0 b1 b2 b3 B1 HBf Hbb Hc2 E1 E2 E3 E4
 have Hl1:Hid ((Lib.strCells ⟨#[]⟩).length+ph.size≤140737488355328):=by unfold Hid;have:=HL.out.1;simp[Lib.strCells];omega
 go_wp2_with fail
 refine (zB3 _ _ _ ph _ HB1.out Hl1.out Hbb1.out.size).mono ?_
 rintro e w2 ⟨rfl,hB2,hb2⟩
 have HB2:Hid (IsB w0.heap.size w0.heap.size (Lib.strCells ph) w2):=.inr hB2
 have Hbb2:=cH (Hbb1.out.trans hb2)
 have HT:Hid (∀ W,Below w0.heap.size w0 W→Tab W):=fun W hW=>zAG Ht.out (bot Hb0.out hW)
 have HS:Hid (∀ W,Below w0.heap.size w0 W→Below w.heap.size w W):=fun W hW=>bot Hb0.out hW
 clear hB2 hb2 HB1 Hbb1 Hl1
 have d4:=zAA Hbb2.out a4 hz
 go_wp2_with fail
 refine (zHG zBR (by decide) A1 n1 c1 deps w2 (fun b=>b<w.heap.size) w0.heap.size w0.heap.size (Lib.strCells ph) Hd1.out Hd2.out (fun W hW=>HT.out W (Hbb2.out.trans hW)) (Hs1.out.below (HS.out _ Hbb2.out) (fun b h=>h)) (fun b h=>Nat.lt_trans h hz) HB2.out (by rw[Lib.strCells_length];have:=HL.out.1;omega) Hbb2.out.size).mono ?_
 rintro e w3 ⟨rfl,hB3,hb3⟩
 have HB3:=cH hB3;have Hbb3:=cH (Hbb2.out.trans hb3)
 clear hB3 hb3 HB2 Hbb2 d4
 have d5:=zAA Hbb3.out a5 hz
 go_wp2_with fail
 refine (zHG zCp (by decide) A2 n2 c2 peers w3 (fun b=>b<w.heap.size) w0.heap.size w0.heap.size _ Hp1.out Hp2.out (fun W hW=>HT.out W (Hbb3.out.trans hW)) (Hs2.out.below (HS.out _ Hbb3.out) (fun b h=>h)) (fun b h=>Nat.lt_trans h hz) HB3.out (by simp only[List.length_append,Lib.strCells_length];have:=HL.out;omega) Hbb3.out.size).mono ?_
 rintro e w4 ⟨rfl,hB4,hb4⟩
 have HB4:=cH hB4;have Hbb4:=cH (Hbb3.out.trans hb4)
 clear hB4 hb4 HB3 Hbb3 d5
 have d6:=zAA Hbb4.out a6 hz
 go_wp2_with fail
 refine (zHG zBi (by decide) A3 n3 c3 opts w4 (fun b=>b<w.heap.size) w0.heap.size w0.heap.size _ Ho1.out Ho2.out (fun W hW=>HT.out W (Hbb4.out.trans hW)) (Hs3.out.below (HS.out _ Hbb4.out) (fun b h=>h)) (fun b h=>Nat.lt_trans h hz) HB4.out (by simp only[List.length_append,Lib.strCells_length];have:=HL.out;omega) Hbb4.out.size).mono ?_
 rintro e w5 ⟨rfl,hB5,hb5⟩
 have HB5:Hid (IsB w0.heap.size w0.heap.size (Lib.byteCells R.data.toList) w5):=by
  unfold Hid;rw[←Lib.strCells_eq,Hpt.out,zAf,zAf,zAf];exact hB5
 have Hbb5:=cH (Hbb4.out.trans hb5)
 clear hB5 hb5 HB4 Hbb4 d6
 go_wp2_with fail
 refine (Tryz.Builder_String_any _ _ _ _ HB5.out Hbb5.out.size).mono ?_
 rintro e w6 ⟨rfl,hb6⟩
 go_wp2_with fail
 go_ret
 exact ⟨rfl,HS.out _ (Hbb5.out.trans hb6)⟩
theorem zD0 {w:World} {S:Nat→Prop} {l:List Dep} {v:Value} (h:SlV rDep w S l v):(zAL rDep).holds w S l [v]:=h
theorem zLp {w:World} {a b c:List Dep} {u v x:Value} (t:TypeId) (h1:SlV rDep w (fun _=>True) a u) (h2:SlV rDep w (fun _=>True) b v) (h3:SlV rDep w (fun _=>True) c x) :
  SlV (zAL rDep) (w.alloc (.cells #[u,v,x] t)) (fun _=>True) [a,b,c] (.slice (some ⟨w.heap.size,0,none⟩) 3 3):=by
 have hE:Elems (zAL rDep) (w.alloc (.cells #[u,v,x] t)) (fun _=>True) [a,b,c] [u,v,x]:=⟨[u],[v,x],rfl,zD0 (h1.alloc _),[v],[x],rfl,zD0 (h2.alloc _),[x],[],rfl,zD0 (h3.alloc _),rfl⟩
 exact SlV.of_block (zAT w _) hE trivial rfl (nR 3) (by decide)
theorem zEv (p:Pack) (v:Value) (w:World) (S:Nat→Prop) (ht:Tab w) (hv:PackV w S p v) :
  Calls Tryz.prog 73 #[v] w fun e w'=>e=.returned (.bool (packB p))∧Below w.heap.size w w':=by
 have hv':=hv
 obtain ⟨A1,n1,c1,A2,n2,c2,A3,n3,c3,rfl,hnm,h1,h2,h3⟩:=hv
 have h1':=h1.more (S':=fun _=>True) fun b _ h=>trivial
 have h2':=h2.more (S':=fun _=>True) fun b _ h=>trivial
 have h3':=h3.more (S':=fun _=>True) fun b _ h=>trivial
 have Hs1:=cH h1';have Hs2:=cH h2';have Hs3:=cH h3';clear h1 h2 h3 h1' h2' h3'
 have Hv:=cH hv';clear hv'
 have Ht:=cH ht;clear ht
 have HR:Hid (packB p=(nameB p.name&&(verB p.ver.major p.ver.minor p.ver.patch&&(listB p.deps&&(listB p.peers&&(listB p.opts&&(zCQ (zAM [p.deps,p.peers,p.opts])&&decide ((zAW p).size≤4096)))))))):=rfl
 have Htx:Hid (∀ W,Tab W→nameB p.name=true→listB p.deps=true→listB p.peers=true→listB p.opts=true→Below w.heap.size w W→Calls Tryz.prog 74 #[.agg #[.string p.name,.int .i64 p.ver.major,.int .i64 p.ver.minor,.int .i64 p.ver.patch,.slice A1 n1 c1,.slice A2 n2 c2,.slice A3 n3 c3]] W fun e w'=>e=.returned (.string (zAW p))∧Below W.heap.size W w'):=
  fun W hT a b c d hW=>zGF p _ W S hT (zCG a) b c d (Hv.out.keep hW)
 generalize packB p=R at *
 generalize zAW p=T at *
 obtain ⟨name,⟨x1,x2,x3⟩,deps,peers,opts⟩:=p
 dsimp only at *
 clear Hv
 have Hap:Hid (∀ W,listB deps=true→listB peers=true→listB opts=true→∀ A n c S,SlV (zAL rDep) W S [deps,peers,opts] (.slice A n c)→Calls Tryz.prog 134 #[.slice A n c] W fun e w'=>e=.returned (.bool (zCQ (zAM [deps,peers,opts])))∧Below W.heap.size W w'):=
  fun W a b c A n cc S h=>zP8 A n cc _ W S (by have:=(zBb a).1;have:=(zBb b).1;have:=(zBb c).1;simp[zAM,zAQ];omega) h
 generalize zCQ (zAM [deps,peers,opts])=v6 at *
 have H1:Hid (∀ W,Calls Tryz.prog 61 #[.string name] W fun e w'=>e=.returned (.bool (nameB name))∧Below W.heap.size W w'):=fun W=>zA2 name hnm W
 have H2:Hid (∀ W,Calls Tryz.prog 129 #[.agg #[.int .i64 x1,.int .i64 x2,.int .i64 x3]] W fun e w'=>e=.returned (.bool (verB x1 x2 x3))∧Below W.heap.size W w'):=fun W=>zCF _ _ _ W
 have H3:Hid (∀ W,Below w.heap.size w W→Calls Tryz.prog 133 #[.slice A1 n1 c1] W fun e w'=>e=.returned (.bool (listB deps))∧Below W.heap.size W w'):=fun W hW=>zJA _ _ _ deps W _ (Hs1.out.belowSize hW)
 have H4:Hid (∀ W,Below w.heap.size w W→Calls Tryz.prog 133 #[.slice A2 n2 c2] W fun e w'=>e=.returned (.bool (listB peers))∧Below W.heap.size W w'):=fun W hW=>zJA _ _ _ peers W _ (Hs2.out.belowSize hW)
 have H5:Hid (∀ W,Below w.heap.size w W→Calls Tryz.prog 133 #[.slice A3 n3 c3] W fun e w'=>e=.returned (.bool (listB opts))∧Below W.heap.size W w'):=fun W hW=>zJA _ _ _ opts W _ (Hs3.out.belowSize hW)
 generalize nameB name=v1 at *
 generalize verB x1 x2 x3=v2 at *
 generalize listB deps=v3 at *
 generalize listB peers=v4 at *
 generalize listB opts=v5 at *
 clear hnm
 go_enter Tryz.func73,Tryz.ntmps73
 go_wp2_with fail
 obtain ⟨w0,hw0⟩:∃ w0,w0=w.alloc (.cells #[.string name,.int .i64 x1,.int .i64 x2,.int .i64 x3,.slice A1 n1 c1,.slice A2 n2 c2,.slice A3 n3 c3] 57):=⟨_,rfl⟩
 have hz:w.heap.size<w0.heap.size:=by rw[hw0];simp[go_sem]
 have hb0:Below w.heap.size w w0:=by rw[hw0];exact bal (bR _ _) _
 have a0:w0.cell? ⟨w.heap.size,0,none⟩=some (.string name):=by rw[hw0];simp[go_sem]
 have a1:w0.cell? ⟨w.heap.size,1,none⟩=some (.int .i64 x1):=by rw[hw0];simp[go_sem]
 have a2:w0.cell? ⟨w.heap.size,2,none⟩=some (.int .i64 x2):=by rw[hw0];simp[go_sem]
 have a3:w0.cell? ⟨w.heap.size,3,none⟩=some (.int .i64 x3):=by rw[hw0];simp[go_sem]
 have a4:w0.cell? ⟨w.heap.size,4,none⟩=some (.slice A1 n1 c1):=by rw[hw0];simp[go_sem]
 have a5:w0.cell? ⟨w.heap.size,5,none⟩=some (.slice A2 n2 c2):=by rw[hw0];simp[go_sem]
 have a6:w0.cell? ⟨w.heap.size,6,none⟩=some (.slice A3 n3 c3):=by rw[hw0];simp[go_sem]
 rw[←hw0]
 have HB0:=cH hb0;clear hb0 hw0
 refine (H1.out w0).mono ?_
 rintro e w1 ⟨rfl,B1⟩
 have HS:Hid (∀ W,Below w0.heap.size w0 W→Below w.heap.size w W):=fun W hW=>bot HB0.out hW
 have Q1:=cH B1;clear B1
 cases v1
 ·have He:Hid (R=false):=HR.out
  go_wp2_with fail
  go_ret
  exact ⟨zAB He.out.symm,HS.out _ Q1.out⟩
 have b1:=zAA Q1.out a1 hz
 have b2:=zAA Q1.out a2 hz
 have b3:=zAA Q1.out a3 hz
 go_wp2_with fail
 refine (H2.out w1).mono ?_
 rintro e w2 ⟨rfl,B2⟩
 have Q2:=cH (bot Q1.out B2);clear B2 b1 b2 b3
 cases v2
 ·have He:Hid (R=false):=HR.out
  go_wp2_with fail
  go_ret
  exact ⟨zAB He.out.symm,HS.out _ Q2.out⟩
 have b1:=zAA Q2.out a4 hz
 go_wp2_with fail
 refine (H3.out w2 (HS.out _ Q2.out)).mono ?_
 rintro e w3 ⟨rfl,B3⟩
 have Q3:=cH (bot Q2.out B3);clear B3 b1
 cases v3
 ·have He:Hid (R=false):=HR.out
  go_wp2_with fail
  go_ret
  exact ⟨zAB He.out.symm,HS.out _ Q3.out⟩
 have b1:=zAA Q3.out a5 hz
 go_wp2_with fail
 refine (H4.out w3 (HS.out _ Q3.out)).mono ?_
 rintro e w4 ⟨rfl,B4⟩
 have Q4:=cH (bot Q3.out B4);clear B4 b1
 cases v4
 ·have He:Hid (R=false):=HR.out
  go_wp2_with fail
  go_ret
  exact ⟨zAB He.out.symm,HS.out _ Q4.out⟩
 have b1:=zAA Q4.out a6 hz
 go_wp2_with fail
 refine (H5.out w4 (HS.out _ Q4.out)).mono ?_
 rintro e w5 ⟨rfl,B5⟩
 have Q5:=cH (bot Q4.out B5);clear B5 b1
 cases v5
 ·have He:Hid (R=false):=HR.out
  go_wp2_with fail
  go_ret
  exact ⟨zAB He.out.symm,HS.out _ Q5.out⟩
 have b4:=zAA Q5.out a4 hz
 have b5:=zAA Q5.out a5 hz
 have b6:=zAA Q5.out a6 hz
 go_wp2_with fail
 refine (Hap.out _ trivial trivial trivial _ _ _ _ (zLp _ (Hs1.out.belowSize (HS.out _ Q5.out)) (Hs2.out.belowSize (HS.out _ Q5.out)) (Hs3.out.belowSize (HS.out _ Q5.out)))).mono ?_
 rintro e w6 ⟨rfl,B6⟩
 have Q6:=cH (bot Q5.out (bnew B6));clear B6 b4 b5 b6
 cases v6
 ·have He:Hid (R=false):=HR.out
  go_wp2_with fail
  go_ret
  exact ⟨zAB He.out.symm,HS.out _ Q6.out⟩
 have b0:=zAA Q6.out a0 hz
 have b1:=zAA Q6.out a1 hz
 have b2:=zAA Q6.out a2 hz
 have b3:=zAA Q6.out a3 hz
 have b4:=zAA Q6.out a4 hz
 have b5:=zAA Q6.out a5 hz
 have b6:=zAA Q6.out a6 hz
 go_wp2_with fail
 refine (Htx.out w6 (zAG Ht.out (HS.out _ Q6.out)) trivial trivial trivial trivial (HS.out _ Q6.out)).mono ?_
 rintro e w7 ⟨rfl,B7⟩
 have Q7:=cH (bot Q6.out B7);clear B7 b0 b1 b2 b3 b4 b5 b6
 by_cases hs:T.size≤4096
 ·have He:Hid (R=true):=by unfold Hid;rw[HR.out];simp[hs]
  have hsi:(T.size:Int)≤4096:=by omega
  clear hs
  go_wp2_with fail
  go_ret
  exact ⟨zAB (by rw[He.out]),HS.out _ Q7.out⟩
 ·have He:Hid (R=false):=by unfold Hid;rw[HR.out];simp[hs]
  have hsi:¬(T.size:Int)≤4096:=by omega
  clear hs
  go_wp2_with fail
  go_ret
  exact ⟨zAB (by rw[He.out];first|rfl|simp[hsi]),HS.out _ Q7.out⟩
