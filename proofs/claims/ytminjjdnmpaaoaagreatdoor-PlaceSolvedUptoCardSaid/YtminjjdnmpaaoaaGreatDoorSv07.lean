/-
  The program's Print of spans, walked.
-/
import Derived.Test.YtminjjdnmpaaoaaGreatDoorSv05
import Derived.Outline
import Derived.Test.YtminjjdnmpaaoaaGreatDoorSv02
import Derived.Test.YtminjjdnmpaaoaaGreatDoorAl
set_option linter.all false
set_option maxHeartbeats 2000000
set_option maxRecDepth 100000
namespace Go.Proofs.YtminjjdnmpaaoaaGreatDoor
open Go.Rows Go.RowKit Go.Shelf Go.Sort
theorem zAp:Elt Tryz.prog 9 1 16:=Elt.mk' (z:=.string ByteArray.empty) (by kernel_rfl) rfl (by decide)
theorem zMV {w:World} {cs:Array Value} {t:TypeId} {H:Nat} (h:w.heap.size=H):∀ (j:Nat) (u:Value),cs.toList[j]?=some u→(w.alloc (.cells cs t)).cell? ((⟨H,0,none⟩:Addr).add j)=some u:=by
 subst h;exact zAd w cs t
theorem zLf (A:Option Addr) (n c:Nat) (l:List ByteArray) (w:World) (S:Nat→Prop) (hne:l≠[]) (hN:l.length≤1000000000) (hz:(joinB l).size≤1000000000) (hl:SlV rStr w S l (.slice A n c)) :
  Calls Tryz.prog 190 #[.slice A n c,.string ⟨#[32,124,124,32]⟩] w fun e w'=>e=.returned (.string (joinB l))∧Below w.heap.size w w':=by
 have hn:=hl.n_eq
 have hc:=hl.cap_le
 have hpos:0<l.length:=List.length_pos_iff.2 hne
 obtain ⟨b,o,cs,rfl,hS,hb,_,_⟩:=hl.elem (gE hpos)
 subst hn
 refine Tryz.strings_Join b o c l sepB w (fun j x hx=>?_) hb (by omega) hc.1 (by
  have:(joinB l).size=(Lib.join (l.map (·.data.toList)) sepB.data.toList).length:=by simp[joinB,ByteArray.size]
  omega)
 obtain ⟨b',o',cs',hA,_,_,⟨rfl,_⟩,hcell⟩:=hl.elem hx
 injection hA with hA
 injection hA with hb' ho' _
 subst hb' ho'
 have:=hcell 0 _ rfl
 simpa [rStr] using this
theorem zMO {W w' w1:World} {B C:Nat} {v0 v1 v2 v3 v4 v5:Value} (hb:Below w'.heap.size w' w1) (h0:w'.cell? ⟨B,0,none⟩=some v0) (h1:w'.cell? ⟨B,1,none⟩=some v1) (h2:w'.cell? ⟨B,2,none⟩=some v2)
  (h3:w'.cell? ⟨C,0,none⟩=some v3) (h4:w'.cell? ⟨C,1,none⟩=some v4) (h5:w'.cell? ⟨C,2,none⟩=some v5) (hB:Below W.heap.size W w') (hlt:C<w'.heap.size) (hBC:B<C) :
  w1.cell? ⟨B,0,none⟩=some v0∧w1.cell? ⟨B,1,none⟩=some v1∧w1.cell? ⟨B,2,none⟩=some v2∧w1.cell? ⟨C,0,none⟩=some v3∧w1.cell? ⟨C,1,none⟩=some v4∧w1.cell? ⟨C,2,none⟩=some v5∧Below W.heap.size W w1∧C<w1.heap.size:=
 have hl:B<w'.heap.size:=Nat.lt_trans hBC hlt
 ⟨zAA hb h0 hl,zAA hb h1 hl,zAA hb h2 hl,zAA hb h3 hlt,zAA hb h4 hlt,zAA hb h5 hlt,bot hB hb,lL hlt hb.size⟩
theorem zMv {W w' w1:World} {own:Option Nat} {B C:Nat} {v0 v1 v2 v3 v4 v5:Value} (hg:w'.grownBy w1 own) (hf1:∀ g,own=some g→W.heap.size≤g) (hf2:own≠some B) (hf3:own≠some C) (h0:w'.cell? ⟨B,0,none⟩=some v0) (h1:w'.cell? ⟨B,1,none⟩=some v1) (h2:w'.cell? ⟨B,2,none⟩=some v2)
  (h3:w'.cell? ⟨C,0,none⟩=some v3) (h4:w'.cell? ⟨C,1,none⟩=some v4) (h5:w'.cell? ⟨C,2,none⟩=some v5) (hB:Below W.heap.size W w') (hlt:C<w'.heap.size) (hBC:B<C) :
  w1.cell? ⟨B,0,none⟩=some v0∧w1.cell? ⟨B,1,none⟩=some v1∧w1.cell? ⟨B,2,none⟩=some v2∧w1.cell? ⟨C,0,none⟩=some v3∧w1.cell? ⟨C,1,none⟩=some v4∧w1.cell? ⟨C,2,none⟩=some v5∧Below W.heap.size W w1∧C<w1.heap.size:=
 have hl:B<w'.heap.size:=Nat.lt_trans hBC hlt
 have eB:=hg.block B hl (Ne.symm hf2)
 have eC:=hg.block C hlt (Ne.symm hf3)
 ⟨(zAW eB _ _).trans h0,(zAW eB _ _).trans h1,(zAW eB _ _).trans h2,(zAW eC _ _).trans h3,(zAW eC _ _).trans h4,(zAW eC _ _).trans h5,hB.grown hg hB.size hf1,lL hlt hg.size⟩
theorem zGN (A:Option Addr) (n c:Nat) (l:List Spn) (w:World) (S:Nat→Prop) (ht:Tab w) (hl:SlV rSpn w S l (.slice A n c)) :
  Calls Tryz.prog 174 #[.slice A n c] w fun e w'=>e=.returned (.string (zAb l))∧Below w.heap.size w w':=by
 have Hm:=cH (zE8 A n c l w S hl)
 cases hv:zAu l
 ·have Hs:Hid (zAb l=⟨#[]⟩):=by unfold Hid zAb;rw[hv];rfl
  rw[hv] at Hm
  clear hv hl ht
  generalize zAb l=r at *
  go_enter Tryz.func174,Tryz.ntmps174
  go_wp2_with fail
  refine (Hm.out).mono ?_
  rintro e w1 ⟨rfl,hb1⟩
  go_wp2_with fail
  go_ret
  exact ⟨zBO Hs.out.symm,hb1⟩
 ·have hl64:l.length≤64:=by simp[zAu] at hv;exact hv.1
  have Hs:Hid (zAb l=if l=[] then noneB else joinB (l.map zAe)):=by unfold Hid zAb;rw[hv];rfl
  have Hmem:=cH (zF8 hv)
  rw[hv] at Hm
  have Hn:Hid (∀ W,Below w.heap.size w W→Calls Tryz.prog 188 #[.slice A n c] W fun e w'=>∃ v,e=.returned v∧SlV rRnk w' (fun b=>W.heap.size≤b) (l.map fun s=>(s.lo.rank,s.hi.rank)) v∧Below W.heap.size W w'):=
   fun W hW=>zIg A n c l W S (by omega) (hl.belowSize hW)
  have Ht:=cH ht
  clear hv hl ht
  generalize zAb l=r at *
  go_enter Tryz.func174,Tryz.ntmps174
  go_wp2_with fail
  refine (Hm.out).mono ?_
  rintro e w1 ⟨rfl,hb1⟩
  go_wp2_with fail
  refine (Hn.out _ hb1).mono ?_
  rintro e wn ⟨v0,rfl,hv0,hbn⟩
  obtain ⟨A0,c0,rfl,_,_⟩:=hv0.val
  have Hnum:Hid (SlV rRnk wn (fun b=>b<wn.heap.size) (l.map fun s=>(s.lo.rank,s.hi.rank)) (.slice A0 (l.map fun s=>(s.lo.rank,s.hi.rank)).length c0)):=hv0.more fun b _ hlt=>hlt
  have hlen:(l.map fun s=>(s.lo.rank,s.hi.rank)).length=l.length:=by simp
  have HBn:=cH (bot hb1 hbn)
  clear hv0 hb1 hbn
  rw[hlen] at *
  have Htn:Hid (Tab wn):=zAY Ht.out HBn.out
  clear hlen
  generalize hL:l.length=ln at *
  have HL:=cH hL;clear hL
  go_wp2_with fail
  go_loopw [3,16] (fun v i wr=>∃ (k:Nat),k≤ln∧i=.int .i64 k∧Hid (Own rStr wr wn.heap.size 9 v ((l.take k).map zAe) (fun _=>False))∧Below wn.heap.size wn wr) (fun _ i _=>ln - (intOf i).toNat)
  case atStart=>exact ⟨0,nZ _,rfl,Own.nil_ _ _ _ _ (fun b hb=>hb.elim),bR _ _⟩
  case round=>
   obtain ⟨k,hk,rfl,Hown,hbel⟩:=hrel
   by_cases hlt:k<ln
   ·have hkx:k<l.length:=by have:=HL.out;omega
    have hbw:=hbel.size
    have hlw:=(Hnum.out.below hbel (fun b hb=>hb))
    obtain ⟨b,o,cs,rfl,hSb,hbl,⟨rfl,_,_⟩,hcell⟩:=hlw.elem (i:=k) (x:=(l[k].lo.rank,l[k].hi.rank)) (by simp[List.getElem?_eq_getElem hkx])
    have c0:=hcell 0 _ rfl
    have c1:=hcell 1 _ rfl
    simp only[rRnk,Nat.add_zero] at c0 c1
    clear hcell hlw
    obtain ⟨m1,m2,m3⟩:=Hmem.out l[k] (List.getElem_mem hkx)
    have Htk:Hid ((l.take (k+1)).map zAe=(l.take k).map zAe++[zAe l[k]]):=by
     unfold Hid;rw[List.take_succ_eq_append_getElem hkx,List.map_append];rfl
    have Hlen:Hid (((l.take k).map zAe).length=k):=by unfold Hid;simp;omega
    have hkn:(k:Int)<(ln:Int):=by omega
    generalize l[k]=s at *
    generalize (l.take k).map zAe=done at *
    obtain ⟨⟨x1,x2,x3⟩,⟨x4,x5,x6⟩⟩:=s
    have m1':verB x1 x2 x3=true:=m1
    have m2':verB x4 x5 x6=true:=m2
    have k1:rankR x1 x2 x3=rankI x1 x2 x3:=Ver.rank_ok m1
    have k2:rankR x4 x5 x6=rankI x4 x5 x6:=Ver.rank_ok m2
    have ⟨p1,p2⟩:=zDX m1'
    have ⟨q1,q2⟩:=zDX m2'
    have H1:Hid (∀ W,Calls Tryz.prog 189 #[.int .i64 (rankR x1 x2 x3)] W fun e w'=>e=.returned (.tuple #[.agg #[.int .i64 x1,.int .i64 x2,.int .i64 x3],.bool true])∧Below W.heap.size W w'):=fun W=>by
     have:=zFn (rankI x1 x2 x3) p1 p2 W
     rw[zFx m1',zFj m1',zFw m1'] at this
     rw[k1];exact this
    have H2:Hid (∀ W,Calls Tryz.prog 189 #[.int .i64 (rankR x4 x5 x6)] W fun e w'=>e=.returned (.tuple #[.agg #[.int .i64 x4,.int .i64 x5,.int .i64 x6],.bool true])∧Below W.heap.size W w'):=fun W=>by
     have:=zFn (rankI x4 x5 x6) q1 q2 W
     rw[zFx m2',zFj m2',zFw m2'] at this
     rw[k2];exact this
    have H3:Hid (∀ W,Below wn.heap.size wn W→Calls Tryz.prog 155 #[.agg #[.int .i64 x1,.int .i64 x2,.int .i64 x3]] W fun e w'=>e=.returned (.string (zAU x1 x2 x3))∧Below W.heap.size W w'):=fun W hW=>zCo x1 x2 x3 W (zAY Htn.out hW)
    have H4:Hid (∀ W,Below wn.heap.size wn W→Calls Tryz.prog 155 #[.agg #[.int .i64 x4,.int .i64 x5,.int .i64 x6]] W fun e w'=>e=.returned (.string (zAU x4 x5 x6))∧Below W.heap.size W w'):=fun W hW=>zCo x4 x5 x6 W (zAY Htn.out hW)
    have hz1:=zBI x1 x2 x3
    have hz2:=zBI x4 x5 x6
    have Hst:Hid (zAe ⟨⟨x1,x2,x3⟩,⟨x4,x5,x6⟩⟩=if rankR x1 x2 x3=rankR x4 x5 x6 then zAU x1 x2 x3 else if rankR x1 x2 x3=0 then (if rankR x4 x5 x6=999999999 then starB else leB++zAU x4 x5 x6) else if rankR x4 x5 x6=999999999 then geB++zAU x1 x2 x3 else geB++zAU x1 x2 x3++andB++zAU x4 x5 x6):=rfl
    have c0':wr.cell? ⟨b,o+k * 2,none⟩=some (.int .i64 (rankR x1 x2 x3)):=c0
    have c1':wr.cell? ⟨b,o+k * 2+1,none⟩=some (.int .i64 (rankR x4 x5 x6)):=c1
    clear c0 c1 m1 m2 m1' m2' p1 p2 q1 q2 k1 k2 m3
    generalize zAe ⟨⟨x1,x2,x3⟩,⟨x4,x5,x6⟩⟩=st at *
    generalize zAU x1 x2 x3=t1 at *
    generalize zAU x4 x5 x6=t2 at *
    obtain ⟨p1,p2⟩:=zA1 x1 x2 x3
    obtain ⟨q1,q2⟩:=zA1 x4 x5 x6
    generalize rankR x1 x2 x3=r1 at *
    generalize rankR x4 x5 x6=r2 at *
    go_wp2_with fail
    refine (H1.out _).mono ?_
    rintro e w2 ⟨rfl,hb2⟩
    have e0:=hb2.cell (p:=⟨wr.heap.size,0,none⟩) (by simp)
    have e1:=hb2.cell (p:=⟨wr.heap.size,1,none⟩) (by simp)
    simp[go_sem] at e0 e1
    have hz2':wr.heap.size<w2.heap.size:=by have:=hb2.size;simp at this;omega
    have Hb2:=cH (bnew hb2)
    clear hb2 c0' c1'
    go_wp2_with fail
    refine (H2.out _).mono ?_
    rintro e w3 ⟨rfl,hb3⟩
    have f0:=zAA ((bnew hb3).mono (nR _)) e0 hz2'
    have f1:=zAA ((bnew hb3).mono (nR _)) e1 hz2'
    have g0:=hb3.cell (p:=⟨w2.heap.size,0,none⟩) (by simp)
    have g1:=hb3.cell (p:=⟨w2.heap.size,1,none⟩) (by simp)
    have g2:=hb3.cell (p:=⟨w2.heap.size,2,none⟩) (by simp)
    simp[go_sem] at g0 g1 g2
    have hz3:w2.heap.size<w3.heap.size:=by have:=hb3.size;simp at this;omega
    have hz4:wr.heap.size<w3.heap.size:=by omega
    have Hb3:=cH (bot Hb2.out (bnew hb3))
    have hfar1:=fun g h=>(Hown.out.lt g h).1
    have hfar2:u3.ownBlock≠some w2.heap.size:=fun h=>by have:=(Hown.out.lt _ h).2;omega
    have hfar3:u3.ownBlock≠some w3.heap.size:=fun h=>by have:=(Hown.out.lt _ h).2;omega
    have Hf1:=cH hfar1;clear hfar1
    have Hf2:=cH hfar2;clear hfar2
    have Hf3:=cH hfar3;clear hfar3
    have Hown3:=cH (Hown.out.keep Hb3.out)
    have HB3:=cH (bot hbel Hb3.out)
    have hw3:=HB3.out.size
    clear hb3 e0 e1 Hb2 Hown Hb3
    by_cases h12:r1=r2
    ·have hb12:(r1==r2)=true:=by simp[h12]
     have He:Hid (st=t1):=by unfold Hid;rw[Hst.out,if_pos h12]
     clear h12 Hst
     go_wp2_with fail
     refine (H3.out _ (bal HB3.out _)).mono ?_
     rintro e w4 ⟨rfl,hb4⟩
     have HB4:=cH (bot (bal HB3.out _) hb4)
     have Hown4:=cH ((Hown3.out.alloc _).keep hb4)
     have hw4:=HB4.out.size
     clear hb4
     go_wp2_with (at_builtin;refine zAM (by rfl) _ _ _ (by rfl) zAp Tryz.underlying48 (by rfl) (Hown4.out.alloc _) ⟨w4.heap.size,0,none⟩ 1 [.string t1] t1 (by rfl) ⟨rfl,by unfold maxLen;omega⟩ (zAd w4 #[.string t1] _) (by rw[Hlen.out];unfold maxLen;omega) (by rw[Hlen.out];omega) (by simp;omega) (w4.heap.size+1) (by simp) ?_)
     intro g9 cap9 w9 hown9 hgrow9 hat9 hlt9
     have HB9:=cH (zAw (bal HB4.out _) hgrow9 (Hown4.out.alloc _) (nR _))
     have Hown9:=cH hown9
     clear hown9 hgrow9
     go_wp2_with fail
     go_roundw
     case rel=>exact ⟨k+1,by omega,by go_num,by unfold Hid;rw[Htk.out,He.out];exact Hown9.out,HB9.out⟩
     case measure=>simp[intOf];omega
    ·have hb12:(r1==r2)=false:=by simp[h12]
     by_cases h1:r1=0
     ·have hb1:(r1==0)=true:=by simp[h1]
      by_cases h2:r2=999999999
      ·have hb2:(r2==999999999)=true:=by simp[h2]
       have He:Hid (st=starB):=by unfold Hid;rw[Hst.out,if_neg h12,if_pos h1,if_pos h2]
       have z:starB.size=1:=rfl
       clear h12 h1 h2 Hst
       have Hown4:=cH (Hown3.out.alloc (.cells #[.int .i64 x4,.int .i64 x5,.int .i64 x6] 50))
       have HB4:=cH (bal HB3.out (.cells #[.int .i64 x4,.int .i64 x5,.int .i64 x6] 50))
       go_wp2_with (at_builtin;refine zAM (by rfl) _ _ _ (by rfl) zAp Tryz.underlying48 (by rfl) (Hown4.out.alloc _) ⟨w3.heap.size+1,0,none⟩ 1 [.string starB] starB (by rfl) ⟨rfl,by unfold maxLen;omega⟩ (zMV (w:=w3.alloc (.cells #[.int .i64 x4,.int .i64 x5,.int .i64 x6] 50)) (cs:=#[.string starB]) (by simp)) (by rw[Hlen.out];unfold maxLen;omega) (by rw[Hlen.out];omega) (by simp;omega) (w3.heap.size+1+1) (by simp) ?_)
       intro g9 cap9 w9 hown9 hgrow9 hat9 hlt9
       have HB9:=cH (zAw (bal HB4.out _) hgrow9 (Hown4.out.alloc _) (nR _))
       have Hown9:=cH hown9
       clear hown9 hgrow9
       go_wp2_with fail
       go_roundw
       case rel=>exact ⟨k+1,by omega,by go_num,by unfold Hid;rw[Htk.out,He.out];exact Hown9.out,HB9.out⟩
       case measure=>simp[intOf];omega
      ·have hb2:(r2==999999999)=false:=by simp[h2]
       have He:Hid (st=leB++t2):=by unfold Hid;rw[Hst.out,if_neg h12,if_pos h1,if_neg h2]
       have z:leB.size=2:=rfl
       have A1:∀ W:World,(Op.stringOp .add ⟨#[60,61]⟩ t2).run Tryz.prog W=.ok (.string (leB++t2)) W:=fun W=>run_string_add_sum W leB t2 (by omega)
       have hz5:(leB++t2).size≤13:=by rw[ByteArray.size_append];omega
       clear h12 h1 h2 Hst
       go_wp2_with fail
       refine (H4.out _ (bal HB3.out _)).mono ?_
       rintro e w4 ⟨rfl,hb4⟩
       have HB4:=cH (bot (bal HB3.out _) hb4)
       have Hown4:=cH ((Hown3.out.alloc _).keep hb4)
       have hw4:=HB4.out.size
       clear hb4
       go_wp2_with (at_builtin;refine zAM (by rfl) _ _ _ (by rfl) zAp Tryz.underlying48 (by rfl) (Hown4.out.alloc _) ⟨w4.heap.size,0,none⟩ 1 [.string (leB++t2)] (leB++t2) (by rfl) ⟨rfl,by unfold maxLen;omega⟩ (zAd w4 #[.string (leB++t2)] _) (by rw[Hlen.out];unfold maxLen;omega) (by rw[Hlen.out];omega) (by simp;omega) (w4.heap.size+1) (by simp) ?_)
       intro g9 cap9 w9 hown9 hgrow9 hat9 hlt9
       have HB9:=cH (zAw (bal HB4.out _) hgrow9 (Hown4.out.alloc _) (nR _))
       have Hown9:=cH hown9
       clear hown9 hgrow9
       go_wp2_with fail
       go_roundw
       case rel=>exact ⟨k+1,by omega,by go_num,by unfold Hid;rw[Htk.out,He.out];exact Hown9.out,HB9.out⟩
       case measure=>simp[intOf];omega
     ·have hb1:(r1==0)=false:=by simp[h1]
      by_cases h2:r2=999999999
      ·have hb2:(r2==999999999)=true:=by simp[h2]
       have He:Hid (st=geB++t1):=by unfold Hid;rw[Hst.out,if_neg h12,if_neg h1,if_pos h2]
       have z:geB.size=2:=rfl
       have A1:∀ W:World,(Op.stringOp .add ⟨#[62,61]⟩ t1).run Tryz.prog W=.ok (.string (geB++t1)) W:=fun W=>run_string_add_sum W geB t1 (by omega)
       have hz5:(geB++t1).size≤13:=by rw[ByteArray.size_append];omega
       clear h12 h1 h2 Hst
       go_wp2_with fail
       refine (H3.out _ (bal HB3.out _)).mono ?_
       rintro e w4 ⟨rfl,hb4⟩
       have HB4:=cH (bot (bal HB3.out _) hb4)
       have Hown4:=cH ((Hown3.out.alloc _).keep hb4)
       have hw4:=HB4.out.size
       clear hb4
       go_wp2_with (at_builtin;refine zAM (by rfl) _ _ _ (by rfl) zAp Tryz.underlying48 (by rfl) (Hown4.out.alloc _) ⟨w4.heap.size,0,none⟩ 1 [.string (geB++t1)] (geB++t1) (by rfl) ⟨rfl,by unfold maxLen;omega⟩ (zAd w4 #[.string (geB++t1)] _) (by rw[Hlen.out];unfold maxLen;omega) (by rw[Hlen.out];omega) (by simp;omega) (w4.heap.size+1) (by simp) ?_)
       intro g9 cap9 w9 hown9 hgrow9 hat9 hlt9
       have HB9:=cH (zAw (bal HB4.out _) hgrow9 (Hown4.out.alloc _) (nR _))
       have Hown9:=cH hown9
       clear hown9 hgrow9
       go_wp2_with fail
       go_roundw
       case rel=>exact ⟨k+1,by omega,by go_num,by unfold Hid;rw[Htk.out,He.out];exact Hown9.out,HB9.out⟩
       case measure=>simp[intOf];omega
      ·have hb2:(r2==999999999)=false:=by simp[h2]
       have He:Hid (st=geB++t1++andB++t2):=by unfold Hid;rw[Hst.out,if_neg h12,if_neg h1,if_neg h2]
       have z1:geB.size=2:=rfl
       have z2:andB.size=3:=rfl
       have A1:∀ W:World,(Op.stringOp .add ⟨#[62,61]⟩ t1).run Tryz.prog W=.ok (.string (geB++t1)) W:=fun W=>run_string_add_sum W geB t1 (by omega)
       have A2:∀ W:World,(Op.stringOp .add (geB++t1) ⟨#[32,60,61]⟩).run Tryz.prog W=.ok (.string (geB++t1++andB)) W:=fun W=>run_string_add_sum W _ andB (by rw[ByteArray.size_append];omega)
       have A3:∀ W:World,(Op.stringOp .add (geB++t1++andB) t2).run Tryz.prog W=.ok (.string (geB++t1++andB++t2)) W:=fun W=>run_string_add_sum W _ _ (by rw[ByteArray.size_append,ByteArray.size_append];omega)
       have hz5:(geB++t1++andB++t2).size≤27:=by rw[ByteArray.size_append,ByteArray.size_append,ByteArray.size_append];omega
       clear h12 h1 h2 Hst
       go_wp2_with fail
       go_region_held3 (fun w'=>w'.cell? ⟨w2.heap.size,0,none⟩=some (.int .i64 x1)∧w'.cell? ⟨w2.heap.size,1,none⟩=some (.int .i64 x2)∧w'.cell? ⟨w2.heap.size,2,none⟩=some (.int .i64 x3) ∧
         w'.cell? ⟨w3.heap.size,0,none⟩=some (.int .i64 x4)∧w'.cell? ⟨w3.heap.size,1,none⟩=some (.int .i64 x5)∧w'.cell? ⟨w3.heap.size,2,none⟩=some (.int .i64 x6)∧Below wn.heap.size wn w'∧w3.heap.size<w'.heap.size)
        (first
          | exact ⟨by go_keep,by go_keep,by go_keep,by go_keep,by go_keep,by go_keep,(bal HB3.out _).drew,by simp⟩
          | (go_split_ands;exact zMO (by assumption) (by assumption) (by assumption) (by assumption) (by assumption) (by assumption) (by assumption) (by assumption) (by assumption) hz3)
          | (go_split_ands;exact zMO ((bR _ _).alloc (nR _) _) (by assumption) (by assumption) (by assumption) (by assumption) (by assumption) (by assumption) (by assumption) (by assumption) hz3)
          | (go_split_ands;exact zMv hgrow9 Hf1.out Hf2.out Hf3.out (by assumption) (by assumption) (by assumption) (by assumption) (by assumption) (by assumption) (by assumption) (by assumption) hz3))
        (first
          | (go_at_call 155;go_split_ands;(first|(with_reducible refine (H3.out _ (by assumption)).mono ?_)|(with_reducible refine (H4.out _ (by assumption)).mono ?_));rintro e w' ⟨rfl,hb⟩)
          | (go_split_ands;refine zBB (by rfl) _ _ _ (by rfl) zAp Tryz.underlying48 (by rfl) (Own.alloc (Own.keep (Own.keep ((Hown3.out.alloc _).drew) (by assumption)) (by assumption)) _) ⟨_,0,none⟩ 1 [.string (geB++t1++andB++t2)] (geB++t1++andB++t2) (by rfl) ⟨rfl,by unfold maxLen;omega⟩ (zAd _ #[.string (geB++t1++andB++t2)] _) (by rw[Hlen.out];unfold maxLen;omega) (by rw[Hlen.out];omega) (Below.size (by assumption)) _ rfl ?_;intro g9 cap9 w9 hown9 hgrow9 hat9 hlt9))
       all_goals
        have HB9:Hid (Below wn.heap.size wn w9):=by (go_split_ands;assumption)
        have Hown9:=cH hown9
        clear hown9 hgrow9
        go_wp2_with fail
        go_roundw
        case rel=>exact ⟨k+1,by omega,by go_num,by unfold Hid;rw[Htk.out,He.out];exact Hown9.out,HB9.out⟩
        case measure=>simp[intOf];omega
   ·have hkl:k=l.length:=by have:=HL.out;omega
    have htake:l.take k=l:=by rw[hkl];exact List.take_length
    have Hown1:Hid (Own rStr wr wn.heap.size 9 u3 (l.map zAe) (fun _=>False)):=by have:=Hown.out;rwa [htake] at this
    clear Hown htake
    have Hbel:=cH (bot HBn.out hbel)
    by_cases hnil:l=[]
    ·have hk0:k=0:=by rw[hkl,hnil];rfl
     have He:Hid (r=noneB):=by unfold Hid;rw[Hs.out,if_pos hnil]
     have hv:=Hown1.out.slv
     rw[hnil] at hv
     obtain ⟨A9,c9,rfl,_,_⟩:=hv.val
     clear hv hnil hkl Hown1
     have hln0:¬(k:Int)<(ln:Int):=by omega
     go_wp2_with fail
     go_ret
     exact ⟨zBO He.out.symm,Hbel.out⟩
    ·have He:Hid (r=joinB (l.map zAe)):=by unfold Hid;rw[Hs.out,if_neg hnil]
     have hv:=Hown1.out.slv
     obtain ⟨A9,c9,rfl,_,_⟩:=hv.val
     have Hj:=cH (zLf A9 _ c9 _ wr _ (by simpa using hnil) (by simp;omega) (by have:=zCT l;omega) hv)
     have hpos:0<(l.map zAe).length:=by rw[List.length_map];exact List.length_pos_iff.2 hnil
     clear hv hnil hkl Hown1
     generalize (l.map zAe).length=m9 at *
     have hln0:((m9:Int)==0)=false:=by simp;omega
     have hlt':¬(k:Int)<(ln:Int):=by omega
     generalize joinB (l.map zAe)=jt at *
     go_wp2_with fail
     with_reducible refine Hj.out.mono ?_
     rintro e w5 ⟨rfl,hb5⟩
     go_wp2_with fail
     go_ret
     exact ⟨zBO He.out.symm,bot Hbel.out hb5⟩
theorem zHf (w:World) (a b c d e f:Int):(binOp .eql 50 (.agg #[.int .i64 a,.int .i64 b,.int .i64 c]) (.agg #[.int .i64 d,.int .i64 e,.int .i64 f])).run Tryz.prog w=.ok (.bool (decide (a=d∧b=e∧c=f))) w:=by
 rw[run_eql_struct]
 have hu':=Tryz.underlying50
 have hu:Tryz.prog.underlying 50=some (.struct (Tryz.prog.fieldsOf 50)):=by kernel_rfl
 have hs:Tryz.prog.stoodInHeld 50=false:=by kernel_rfl
 have h3:∀ w,(isAgg 3).run Tryz.prog w=.ok false w:=fun _=>by kernel_rfl
 rw[show (10000:Nat)=9999+1 from rfl,run_equalIn_agg _ _ _ _ _ hu hs]
 have he:∀ (x y:Int) (w:World),(Op.equalIn 9999 3 (.int .i64 x) (.int .i64 y)).run Tryz.prog w=.ok (x==y) w:=fun x y w=>by
  rw[show (9999:Nat)=9998+1 from rfl,run_equalIn_int (k':=.i64) (h:=Tryz.underlying3)]
 by_cases h1:a=d
 ·by_cases h2:b=e
  ·by_cases h4:c=f
   ·simp[Program.fieldsOf,hu',Op.eqFields,part,h3,he,h1,h2,h4]
   ·simp[Program.fieldsOf,hu',Op.eqFields,part,h3,he,h1,h2,h4]
  ·simp[Program.fieldsOf,hu',Op.eqFields,part,h3,he,h1,h2]
 ·simp[Program.fieldsOf,hu',Op.eqFields,part,h3,he,h1]
def accS (l:List Spn):ByteArray:=if l=[] then ⟨#[]⟩ else joinB (l.map zAe)
theorem zMY (l:List Spn):(accS l).size≤31 * l.length:=by
 unfold accS;split
 ·exact nZ _
 ·exact zCT l
theorem zJG {l:List Spn} (h:0<l.length):accS (l.take (0+1))=zAe l[0]:=by
 rw[List.take_succ_eq_append_getElem h]
 unfold accS
 rw[if_neg (by simp)]
 simp[zJ6]
theorem zKm {l:List Spn} {k:Nat} (h:k<l.length) (hk:k≠0):accS (l.take (k+1))=accS (l.take k)++sepB++zAe l[k]:=by
 have hne:l.take k≠[]:=by
  intro e
  have h1:(l.take k).length=0:=by rw[e];rfl
  rw[List.length_take] at h1
  omega
 rw[List.take_succ_eq_append_getElem h]
 unfold accS
 rw[if_neg (show ¬(l.take k++[l[k]]=[]) from fun e=>by cases (List.append_eq_nil_iff.1 e).2),if_neg hne,List.map_append,List.map_cons,List.map_nil,zJh (fun e=>hne (List.map_eq_nil_iff.1 e))]
def C6 (W:World) (b o:Nat) (x1 x2 x3 x4 x5 x6:Int):Prop:=
 W.cell? ⟨b,o,none⟩=some (.int .i64 x1)∧W.cell? ⟨b,o+1,none⟩=some (.int .i64 x2)∧W.cell? ⟨b,o+2,none⟩=some (.int .i64 x3) ∧
 W.cell? ⟨b,o+3,none⟩=some (.int .i64 x4)∧W.cell? ⟨b,o+4,none⟩=some (.int .i64 x5)∧W.cell? ⟨b,o+5,none⟩=some (.int .i64 x6)
theorem zEN (A:Option Addr) (n c:Nat) (l:List Spn) (w:World) (S:Nat→Prop) (hl:SlV rSpn w S l (.slice A n c)) :
  Calls Tryz.prog 162 #[.slice A n c] w fun e w'=>e=.returned (.string (zAb l))∧Below w.heap.size w w':=by
 have Hm:=cH (zCX A n c l w S hl)
 cases hv:zAu l
 ·have Hs:Hid (zAb l=⟨#[]⟩):=by unfold Hid zAb;rw[hv];rfl
  rw[hv] at Hm
  clear hv hl
  generalize zAb l=r at *
  go_enter Tryz.func162,Tryz.ntmps162
  go_wp2_with fail
  refine (Hm.out).mono ?_
  rintro e w1 ⟨rfl,hb1⟩
  go_wp2_with fail
  go_ret
  exact ⟨zBO Hs.out.symm,hb1⟩
 ·have hnx:=hl.n_eq
  have hl64:l.length≤64:=by simp[zAu] at hv;exact hv.1
  have Hs:Hid (zAb l=if l=[] then noneB else joinB (l.map zAe)):=by unfold Hid zAb;rw[hv];rfl
  have Hmem:=cH (zF8 hv)
  rw[hv] at Hm
  by_cases hnil:l=[]
  ·have hn0:((n:Int)==0)=true:=by rw[hnx,hnil];rfl
   have He:Hid (zAb l=noneB):=by unfold Hid;rw[Hs.out,if_pos hnil]
   clear hnx hnil hl hv Hs
   generalize zAb l=r at *
   go_enter Tryz.func162,Tryz.ntmps162
   go_wp2_with fail
   refine (Hm.out).mono ?_
   rintro e w1 ⟨rfl,hb1⟩
   go_wp2_with fail
   go_ret
   exact ⟨zBO He.out.symm,hb1⟩
  have hpos:0<l.length:=List.length_pos_iff.2 hnil
  have hn0:((n:Int)==0)=false:=by simp;omega
  have hn64:n≤64:=by omega
  have He:Hid (zAb l=accS l):=by unfold Hid accS;rw[Hs.out,if_neg hnil,if_neg hnil]
  have hl':=hl.more (S':=fun b=>b<w.heap.size) fun b _ hlt=>hlt
  have Hnx:=cH hnx;clear hnx
  clear hnil hl hv Hs hpos
  generalize zAb l=r at *
  go_enter Tryz.func162,Tryz.ntmps162
  go_wp2_with fail
  refine (Hm.out).mono ?_
  rintro e w1 ⟨rfl,hb1⟩
  have hbw1:=hb1.size
  have hl1:=hl'.below hb1 (fun b hb=>hb)
  have Hb1:=cH hb1
  clear hb1 hl' Hm
  go_wp2_with fail
  go_loopw [3,4] (fun t i wr=>∃ (k:Nat) (acc:ByteArray),k≤n∧t=.string acc∧i=.int .i64 k∧Hid (acc=accS (l.take k))∧Below w1.heap.size w1 wr) (fun _ i _=>n - (intOf i).toNat)
  case atStart=>exact ⟨0,⟨#[]⟩,nZ _,rfl,rfl,rfl,bR _ _⟩
  case round=>
   obtain ⟨k,acc,hk,rfl,rfl,hacc,hbel⟩:=hrel
   have hbw:=hbel.size
   by_cases hlt:k<n
   ·have hkx:k<l.length:=by have:=Hnx.out;omega
    have hlw:=hl1.below hbel (fun b hb=>lL hb hbw1)
    obtain ⟨b,o,cs,rfl,hSb,hbl,hsp,hcell⟩:=hlw.elem (gE hkx)
    obtain ⟨rfl,_,_,_,_,_,_⟩:=hsp
    have c0:=hcell 0 _ rfl
    have c1:=hcell 1 _ rfl
    have c2:=hcell 2 _ rfl
    have c3:=hcell 3 _ rfl
    have c4:=hcell 4 _ rfl
    have c5:=hcell 5 _ rfl
    simp only[rSpn,Nat.add_zero,Nat.mul_one] at c0 c1 c2 c3 c4 c5
    clear hcell
    obtain ⟨m1,m2,m3⟩:=Hmem.out l[k] (List.getElem_mem hkx)
    have Hfirst:Hid (k=0→accS (l.take (k+1))=zAe l[k]):=by rintro rfl;exact zJG hkx
    have Hnext:Hid (k≠0→accS (l.take (k+1))=accS (l.take k)++sepB++zAe l[k]):=fun h=>zKm hkx h
    have hz0:acc.size≤2000:=by
     have h1:=zMY (l.take k)
     have h2:(l.take k).length≤64:=by simp;omega
     rw[hacc.out];omega
    have hk0:(0:Int)≤(k:Int):=by omega
    have hkn:(k:Int)<(n:Int):=by omega
    clear hlw
    generalize l[k]=s at *
    obtain ⟨⟨x1,x2,x3⟩,⟨x4,x5,x6⟩⟩:=s
    simp only at c0 c1 c2 c3 c4 c5
    have HC:Hid (∀ W,Below wr.heap.size wr W→C6 W b (o+k * 6) x1 x2 x3 x4 x5 x6):=fun W hW=>⟨zAA hW c0 hbl,zAA hW c1 hbl,zAA hW c2 hbl,zAA hW c3 hbl,zAA hW c4 hbl,zAA hW c5 hbl⟩
    have m1':verB x1 x2 x3=true:=m1
    have m2':verB x4 x5 x6=true:=m2
    have k1:rankR x1 x2 x3=rankI x1 x2 x3:=Ver.rank_ok m1
    have k2:rankR x4 x5 x6=rankI x4 x5 x6:=Ver.rank_ok m2
    have hiff:rankR x1 x2 x3=rankR x4 x5 x6↔(x1=x4∧x2=x5∧x3=x6):=⟨fun h=>zL0 m1' m2' (by rw[←k1,←k2];exact h),fun h=>by obtain ⟨rfl,rfl,rfl⟩:=h;rfl⟩
    have Hst:Hid (zAe ⟨⟨x1,x2,x3⟩,⟨x4,x5,x6⟩⟩=if rankR x1 x2 x3=rankR x4 x5 x6 then zAU x1 x2 x3 else if rankR x1 x2 x3=0 then (if rankR x4 x5 x6=999999999 then starB else leB++zAU x4 x5 x6) else if rankR x4 x5 x6=999999999 then geB++zAU x1 x2 x3 else geB++zAU x1 x2 x3++andB++zAU x4 x5 x6):=rfl
    have heq:∀ W,(binOp .eql 50 (.agg #[.int .i64 x1,.int .i64 x2,.int .i64 x3]) (.agg #[.int .i64 x4,.int .i64 x5,.int .i64 x6])).run Tryz.prog W=.ok (.bool (decide (rankR x1 x2 x3=rankR x4 x5 x6))) W:=fun W=>by
     rw[zHf];simp only[hiff]
    have H3:=cH (fun W=>zB7 x1 x2 x3 W)
    have H4:=cH (fun W=>zB7 x4 x5 x6 W)
    have H5:=cH (fun W=>zA9 x1 x2 x3 W)
    have H6:=cH (fun W=>zA9 x4 x5 x6 W)
    have hz1:=zBI x1 x2 x3
    have hz2:=zBI x4 x5 x6
    clear m1 m2 m3 m1' m2' k1 k2 hiff
    generalize zAe ⟨⟨x1,x2,x3⟩,⟨x4,x5,x6⟩⟩=st at *
    generalize zAU x1 x2 x3=t1 at *
    generalize zAU x4 x5 x6=t2 at *
    generalize rankR x1 x2 x3=r1 at *
    generalize rankR x4 x5 x6=r2 at *
    have hpre:∃ pre:ByteArray,(k=0∧pre=acc∨k≠0∧pre=acc++sepB):=by
     by_cases h:k=0
     ·exact ⟨acc,.inl ⟨h,rfl⟩⟩
     ·exact ⟨_,.inr ⟨h,rfl⟩⟩
    obtain ⟨pre,hpre⟩:=hpre
    have Hpre:Hid (accS (l.take (k+1))=pre++st):=by
     unfold Hid
     rcases hpre with ⟨h,e⟩|⟨h,e⟩
     ·rw[Hfirst.out h,e,hacc.out,h]
      apply ByteArray.ext;simp[accS,ByteArray.data_append]
     ·rw[Hnext.out h,e,hacc.out]
    have hzp:pre.size≤2004:=by
     have z:sepB.size=4:=rfl
     rcases hpre with ⟨h,e⟩|⟨h,e⟩
     ·rw[e];omega
     ·rw[e,ByteArray.size_append];omega
    have zl:leB.size=2:=rfl
    have zg:geB.size=2:=rfl
    have zs:starB.size=1:=rfl
    have zp:spaceB.size=1:=rfl
    have A1:∀ W:World,(Op.stringOp .add ⟨#[62,61]⟩ t1).run Tryz.prog W=.ok (.string (geB++t1)) W:=fun W=>run_string_add_sum W geB t1 (by omega)
    have A2:∀ W:World,(Op.stringOp .add ⟨#[60,61]⟩ t2).run Tryz.prog W=.ok (.string (leB++t2)) W:=fun W=>run_string_add_sum W leB t2 (by omega)
    have A3:∀ W:World,(Op.stringOp .add pre t1).run Tryz.prog W=.ok (.string (pre++t1)) W:=fun W=>run_string_add_sum W pre t1 (by omega)
    have A4:∀ W:World,(Op.stringOp .add pre ⟨#[42]⟩).run Tryz.prog W=.ok (.string (pre++starB)) W:=fun W=>run_string_add_sum W pre starB (by omega)
    have A5:∀ W:World,(Op.stringOp .add pre (leB++t2)).run Tryz.prog W=.ok (.string (pre++(leB++t2))) W:=fun W=>run_string_add_sum W pre _ (by rw[ByteArray.size_append];omega)
    have A6:∀ W:World,(Op.stringOp .add pre (geB++t1)).run Tryz.prog W=.ok (.string (pre++(geB++t1))) W:=fun W=>run_string_add_sum W pre _ (by rw[ByteArray.size_append];omega)
    have A7:∀ W:World,(Op.stringOp .add (pre++(geB++t1)) ⟨#[32]⟩).run Tryz.prog W=.ok (.string (pre++(geB++t1)++spaceB)) W:=fun W=>run_string_add_sum W _ spaceB (by rw[ByteArray.size_append,ByteArray.size_append];omega)
    have A8:∀ W:World,(Op.stringOp .add (pre++(geB++t1)++spaceB) (leB++t2)).run Tryz.prog W=.ok (.string (pre++(geB++t1)++spaceB++(leB++t2))) W:=fun W=>run_string_add_sum W _ _ (by simp only[ByteArray.size_append];omega)
    have Ha:Hid ((pre++(geB++t1)++spaceB++(leB++t2):ByteArray)=pre++(geB++t1++andB++t2)):=by
     apply ByteArray.ext
     apply Array.ext'
     simp[ByteArray.data_append,andB,spaceB,leB]
    have A0:∀ W:World,k≠0→(Op.stringOp .add acc ⟨#[32,124,124,32]⟩).run Tryz.prog W=.ok (.string (acc++sepB)) W:=fun W _=>run_string_add_sum W acc sepB (by have z:sepB.size=4:=rfl;omega)
    clear zl zg zs zp
    have Hgoal:Hid (∀ (out':ByteArray) (W:World),out'=pre++st→Below w1.heap.size w1 W→∃ (k':Nat) (acc':ByteArray),k'≤n∧(Value.string out')=.string acc'∧(Value.int .i64 ((k:Int)+1))=.int .i64 k'∧Hid (acc'=accS (l.take k'))∧Below w1.heap.size w1 W):=
     fun out' W h1 h2=>⟨k+1,out',by omega,rfl,by go_num,by unfold Hid;rw[Hpre.out];exact h1,h2⟩
    clear Hfirst Hnext Hpre hacc
    rcases hpre with ⟨hk0',hp⟩|⟨hk0',hp⟩
    ·have hkz:¬(0:Int)<(k:Int):=by omega
     subst hp
     clear hk0' A0
     by_cases h12:r1=r2
     ·have heq1:∀ W,(binOp .eql 50 (.agg #[.int .i64 x1,.int .i64 x2,.int .i64 x3]) (.agg #[.int .i64 x4,.int .i64 x5,.int .i64 x6])).run Tryz.prog W=.ok (.bool true) W:=fun W=>by rw[heq,decide_eq_true h12]
      have Hend:Hid (st=t1):=by unfold Hid;rw[Hst.out,if_pos h12]
      clear h12 Hst heq
      go_wp2_with fail
      refine (H3.out _).mono ?_
      rintro e w2 ⟨rfl,hb2⟩
      clear c0 c1 c2 c3 c4 c5
      obtain ⟨c0,c1,c2,c3,c4,c5⟩:=HC.out w2 hb2
      go_wp2_with fail
      refine (H4.out _).mono ?_
      rintro e w3 ⟨rfl,hb3⟩
      have B3:=bot hb2 hb3
      clear c0 c1 c2 c3 c4 c5 hb2 hb3
      obtain ⟨c0,c1,c2,c3,c4,c5⟩:=HC.out w3 B3
      go_wp2_with fail
      refine (H5.out _).mono ?_
      rintro e w4 ⟨rfl,hb4⟩
      have B4:=bot B3 hb4
      clear c0 c1 c2 c3 c4 c5 B3 hb4
      obtain ⟨c0,c1,c2,c3,c4,c5⟩:=HC.out w4 B4
      go_wp2_with fail
      refine (H6.out _).mono ?_
      rintro e w5 ⟨rfl,hb5⟩
      have B5:=bot B4 hb5
      clear c0 c1 c2 c3 c4 c5 B4 hb5
      obtain ⟨c0,c1,c2,c3,c4,c5⟩:=HC.out w5 B5
      have r_c0:=cR c0
      have r_c1:=cR c1
      have r_c2:=cR c2
      have r_c3:=cR c3
      have r_c4:=cR c4
      have r_c5:=cR c5
      go_wp2_with fail
      refine wQ ?_
      repeat (go_big_quiet_step (first|fail))
      refine wpQuiet_nil fun w6 hb6=>?_
      have B6:=bot B5 hb6
      clear c0 c1 c2 c3 c4 c5 r_c0 r_c1 r_c2 r_c3 r_c4 r_c5 B5 hb6
      obtain ⟨c0,c1,c2,c3,c4,c5⟩:=HC.out w6 B6
      go_wp2_with fail
      refine (H3.out _).mono ?_
      rintro e w7 ⟨rfl,hb7⟩
      have B7:=bot B6 hb7
      clear c0 c1 c2 c3 c4 c5 hb7
      go_wp2_with fail
      go_roundw
      case rel=>exact Hgoal.out _ _ (by rw[Hend.out]) (bot hbel B7)
      case measure=>simp[intOf];omega
     ·have heq1:∀ W,(binOp .eql 50 (.agg #[.int .i64 x1,.int .i64 x2,.int .i64 x3]) (.agg #[.int .i64 x4,.int .i64 x5,.int .i64 x6])).run Tryz.prog W=.ok (.bool false) W:=fun W=>by rw[heq,decide_eq_false h12]
      by_cases h1:r1=0
      ·have hb1:(r1==0)=true:=by simp[h1]
       by_cases h2:r2=999999999
       ·have hb2:(r2==999999999)=true:=by simp[h2]
        have Hend:Hid (st=starB):=by unfold Hid;rw[Hst.out,if_neg h12,if_pos h1,if_pos h2]
        clear h12 h1 h2 Hst heq
        go_wp2_with fail
        refine (H3.out _).mono ?_
        rintro e w2 ⟨rfl,hb2⟩
        clear c0 c1 c2 c3 c4 c5
        obtain ⟨c0,c1,c2,c3,c4,c5⟩:=HC.out w2 hb2
        go_wp2_with fail
        refine (H4.out _).mono ?_
        rintro e w3 ⟨rfl,hb3⟩
        have B3:=bot hb2 hb3
        clear c0 c1 c2 c3 c4 c5 hb2 hb3
        obtain ⟨c0,c1,c2,c3,c4,c5⟩:=HC.out w3 B3
        go_wp2_with fail
        refine (H5.out _).mono ?_
        rintro e w4 ⟨rfl,hb4⟩
        have B4:=bot B3 hb4
        clear c0 c1 c2 c3 c4 c5 B3 hb4
        obtain ⟨c0,c1,c2,c3,c4,c5⟩:=HC.out w4 B4
        go_wp2_with fail
        refine (H6.out _).mono ?_
        rintro e w5 ⟨rfl,hb5⟩
        have B5:=bot B4 hb5
        clear c0 c1 c2 c3 c4 c5 B4 hb5
        obtain ⟨c0,c1,c2,c3,c4,c5⟩:=HC.out w5 B5
        have r_c0:=cR c0
        have r_c1:=cR c1
        have r_c2:=cR c2
        have r_c3:=cR c3
        have r_c4:=cR c4
        have r_c5:=cR c5
        go_wp2_with fail
        refine wQ ?_
        repeat (go_big_quiet_step (first|fail))
        refine wpQuiet_nil fun w6 hb6=>?_
        have B6:=bot B5 hb6
        clear c0 c1 c2 c3 c4 c5 r_c0 r_c1 r_c2 r_c3 r_c4 r_c5 B5 hb6
        go_wp2_with fail
        go_roundw
        case rel=>exact Hgoal.out _ _ (by rw[Hend.out]) (bot hbel B6)
        case measure=>simp[intOf];omega
       ·have hb2:(r2==999999999)=false:=by simp[h2]
        have Hend:Hid (st=leB++t2):=by unfold Hid;rw[Hst.out,if_neg h12,if_pos h1,if_neg h2]
        clear h12 h1 h2 Hst heq
        go_wp2_with fail
        refine (H3.out _).mono ?_
        rintro e w2 ⟨rfl,hb2⟩
        clear c0 c1 c2 c3 c4 c5
        obtain ⟨c0,c1,c2,c3,c4,c5⟩:=HC.out w2 hb2
        go_wp2_with fail
        refine (H4.out _).mono ?_
        rintro e w3 ⟨rfl,hb3⟩
        have B3:=bot hb2 hb3
        clear c0 c1 c2 c3 c4 c5 hb2 hb3
        obtain ⟨c0,c1,c2,c3,c4,c5⟩:=HC.out w3 B3
        go_wp2_with fail
        refine (H5.out _).mono ?_
        rintro e w4 ⟨rfl,hb4⟩
        have B4:=bot B3 hb4
        clear c0 c1 c2 c3 c4 c5 B3 hb4
        obtain ⟨c0,c1,c2,c3,c4,c5⟩:=HC.out w4 B4
        go_wp2_with fail
        refine (H6.out _).mono ?_
        rintro e w5 ⟨rfl,hb5⟩
        have B5:=bot B4 hb5
        clear c0 c1 c2 c3 c4 c5 B4 hb5
        obtain ⟨c0,c1,c2,c3,c4,c5⟩:=HC.out w5 B5
        have r_c0:=cR c0
        have r_c1:=cR c1
        have r_c2:=cR c2
        have r_c3:=cR c3
        have r_c4:=cR c4
        have r_c5:=cR c5
        go_wp2_with fail
        refine wQ ?_
        repeat (go_big_quiet_step (first|fail))
        refine wpQuiet_nil fun w6 hb6=>?_
        have B6:=bot B5 hb6
        clear c0 c1 c2 c3 c4 c5 r_c0 r_c1 r_c2 r_c3 r_c4 r_c5 B5 hb6
        go_wp2_with fail
        go_roundw
        case rel=>exact Hgoal.out _ _ (by rw[Hend.out]) (bot hbel B6)
        case measure=>simp[intOf];omega
      ·have hb1:(r1==0)=false:=by simp[h1]
       by_cases h2:r2=999999999
       ·have hb2:(r2==999999999)=true:=by simp[h2]
        have Hend:Hid (st=geB++t1):=by unfold Hid;rw[Hst.out,if_neg h12,if_neg h1,if_pos h2]
        clear h12 h1 h2 Hst heq
        go_wp2_with fail
        refine (H3.out _).mono ?_
        rintro e w2 ⟨rfl,hb2⟩
        clear c0 c1 c2 c3 c4 c5
        obtain ⟨c0,c1,c2,c3,c4,c5⟩:=HC.out w2 hb2
        go_wp2_with fail
        refine (H4.out _).mono ?_
        rintro e w3 ⟨rfl,hb3⟩
        have B3:=bot hb2 hb3
        clear c0 c1 c2 c3 c4 c5 hb2 hb3
        obtain ⟨c0,c1,c2,c3,c4,c5⟩:=HC.out w3 B3
        go_wp2_with fail
        refine (H5.out _).mono ?_
        rintro e w4 ⟨rfl,hb4⟩
        have B4:=bot B3 hb4
        clear c0 c1 c2 c3 c4 c5 B3 hb4
        obtain ⟨c0,c1,c2,c3,c4,c5⟩:=HC.out w4 B4
        go_wp2_with fail
        refine (H6.out _).mono ?_
        rintro e w5 ⟨rfl,hb5⟩
        have B5:=bot B4 hb5
        clear c0 c1 c2 c3 c4 c5 B4 hb5
        obtain ⟨c0,c1,c2,c3,c4,c5⟩:=HC.out w5 B5
        have r_c0:=cR c0
        have r_c1:=cR c1
        have r_c2:=cR c2
        have r_c3:=cR c3
        have r_c4:=cR c4
        have r_c5:=cR c5
        go_wp2_with fail
        refine wQ ?_
        repeat (go_big_quiet_step (first|fail))
        refine wpQuiet_nil fun w6 hb6=>?_
        have B6:=bot B5 hb6
        clear c0 c1 c2 c3 c4 c5 r_c0 r_c1 r_c2 r_c3 r_c4 r_c5 B5 hb6
        go_wp2_with fail
        go_roundw
        case rel=>exact Hgoal.out _ _ (by rw[Hend.out]) (bot hbel B6)
        case measure=>simp[intOf];omega
       ·have hb2:(r2==999999999)=false:=by simp[h2]
        have Hend:Hid (st=geB++t1++andB++t2):=by unfold Hid;rw[Hst.out,if_neg h12,if_neg h1,if_neg h2]
        clear h12 h1 h2 Hst heq
        go_wp2_with fail
        refine (H3.out _).mono ?_
        rintro e w2 ⟨rfl,hb2⟩
        clear c0 c1 c2 c3 c4 c5
        obtain ⟨c0,c1,c2,c3,c4,c5⟩:=HC.out w2 hb2
        go_wp2_with fail
        refine (H4.out _).mono ?_
        rintro e w3 ⟨rfl,hb3⟩
        have B3:=bot hb2 hb3
        clear c0 c1 c2 c3 c4 c5 hb2 hb3
        obtain ⟨c0,c1,c2,c3,c4,c5⟩:=HC.out w3 B3
        go_wp2_with fail
        refine (H5.out _).mono ?_
        rintro e w4 ⟨rfl,hb4⟩
        have B4:=bot B3 hb4
        clear c0 c1 c2 c3 c4 c5 B3 hb4
        obtain ⟨c0,c1,c2,c3,c4,c5⟩:=HC.out w4 B4
        go_wp2_with fail
        refine (H6.out _).mono ?_
        rintro e w5 ⟨rfl,hb5⟩
        have B5:=bot B4 hb5
        clear c0 c1 c2 c3 c4 c5 B4 hb5
        obtain ⟨c0,c1,c2,c3,c4,c5⟩:=HC.out w5 B5
        have r_c0:=cR c0
        have r_c1:=cR c1
        have r_c2:=cR c2
        have r_c3:=cR c3
        have r_c4:=cR c4
        have r_c5:=cR c5
        go_wp2_with fail
        refine wQ ?_
        repeat (go_big_quiet_step (first|fail))
        refine wpQuiet_nil fun w6 hb6=>?_
        have B6:=bot B5 hb6
        clear c0 c1 c2 c3 c4 c5 r_c0 r_c1 r_c2 r_c3 r_c4 r_c5 B5 hb6
        go_wp2_with fail
        go_roundw
        case rel=>exact Hgoal.out _ _ (by rw[Hend.out];exact Ha.out) (bot hbel B6)
        case measure=>simp[intOf];omega
    ·have hkz:(0:Int)<(k:Int):=by omega
     have A0':=fun W=>A0 W hk0'
     subst hp
     clear hk0' A0
     by_cases h12:r1=r2
     ·have heq1:∀ W,(binOp .eql 50 (.agg #[.int .i64 x1,.int .i64 x2,.int .i64 x3]) (.agg #[.int .i64 x4,.int .i64 x5,.int .i64 x6])).run Tryz.prog W=.ok (.bool true) W:=fun W=>by rw[heq,decide_eq_true h12]
      have Hend:Hid (st=t1):=by unfold Hid;rw[Hst.out,if_pos h12]
      clear h12 Hst heq
      go_wp2_with fail
      refine (H3.out _).mono ?_
      rintro e w2 ⟨rfl,hb2⟩
      clear c0 c1 c2 c3 c4 c5
      obtain ⟨c0,c1,c2,c3,c4,c5⟩:=HC.out w2 hb2
      go_wp2_with fail
      refine (H4.out _).mono ?_
      rintro e w3 ⟨rfl,hb3⟩
      have B3:=bot hb2 hb3
      clear c0 c1 c2 c3 c4 c5 hb2 hb3
      obtain ⟨c0,c1,c2,c3,c4,c5⟩:=HC.out w3 B3
      go_wp2_with fail
      refine (H5.out _).mono ?_
      rintro e w4 ⟨rfl,hb4⟩
      have B4:=bot B3 hb4
      clear c0 c1 c2 c3 c4 c5 B3 hb4
      obtain ⟨c0,c1,c2,c3,c4,c5⟩:=HC.out w4 B4
      go_wp2_with fail
      refine (H6.out _).mono ?_
      rintro e w5 ⟨rfl,hb5⟩
      have B5:=bot B4 hb5
      clear c0 c1 c2 c3 c4 c5 B4 hb5
      obtain ⟨c0,c1,c2,c3,c4,c5⟩:=HC.out w5 B5
      have r_c0:=cR c0
      have r_c1:=cR c1
      have r_c2:=cR c2
      have r_c3:=cR c3
      have r_c4:=cR c4
      have r_c5:=cR c5
      go_wp2_with fail
      refine wQ ?_
      repeat (go_big_quiet_step (first|fail))
      refine wpQuiet_nil fun w6 hb6=>?_
      have B6:=bot B5 hb6
      clear c0 c1 c2 c3 c4 c5 r_c0 r_c1 r_c2 r_c3 r_c4 r_c5 B5 hb6
      obtain ⟨c0,c1,c2,c3,c4,c5⟩:=HC.out w6 B6
      go_wp2_with fail
      refine (H3.out _).mono ?_
      rintro e w7 ⟨rfl,hb7⟩
      have B7:=bot B6 hb7
      clear c0 c1 c2 c3 c4 c5 hb7
      go_wp2_with fail
      go_roundw
      case rel=>exact Hgoal.out _ _ (by rw[Hend.out]) (bot hbel B7)
      case measure=>simp[intOf];omega
     ·have heq1:∀ W,(binOp .eql 50 (.agg #[.int .i64 x1,.int .i64 x2,.int .i64 x3]) (.agg #[.int .i64 x4,.int .i64 x5,.int .i64 x6])).run Tryz.prog W=.ok (.bool false) W:=fun W=>by rw[heq,decide_eq_false h12]
      by_cases h1:r1=0
      ·have hb1:(r1==0)=true:=by simp[h1]
       by_cases h2:r2=999999999
       ·have hb2:(r2==999999999)=true:=by simp[h2]
        have Hend:Hid (st=starB):=by unfold Hid;rw[Hst.out,if_neg h12,if_pos h1,if_pos h2]
        clear h12 h1 h2 Hst heq
        go_wp2_with fail
        refine (H3.out _).mono ?_
        rintro e w2 ⟨rfl,hb2⟩
        clear c0 c1 c2 c3 c4 c5
        obtain ⟨c0,c1,c2,c3,c4,c5⟩:=HC.out w2 hb2
        go_wp2_with fail
        refine (H4.out _).mono ?_
        rintro e w3 ⟨rfl,hb3⟩
        have B3:=bot hb2 hb3
        clear c0 c1 c2 c3 c4 c5 hb2 hb3
        obtain ⟨c0,c1,c2,c3,c4,c5⟩:=HC.out w3 B3
        go_wp2_with fail
        refine (H5.out _).mono ?_
        rintro e w4 ⟨rfl,hb4⟩
        have B4:=bot B3 hb4
        clear c0 c1 c2 c3 c4 c5 B3 hb4
        obtain ⟨c0,c1,c2,c3,c4,c5⟩:=HC.out w4 B4
        go_wp2_with fail
        refine (H6.out _).mono ?_
        rintro e w5 ⟨rfl,hb5⟩
        have B5:=bot B4 hb5
        clear c0 c1 c2 c3 c4 c5 B4 hb5
        obtain ⟨c0,c1,c2,c3,c4,c5⟩:=HC.out w5 B5
        have r_c0:=cR c0
        have r_c1:=cR c1
        have r_c2:=cR c2
        have r_c3:=cR c3
        have r_c4:=cR c4
        have r_c5:=cR c5
        go_wp2_with fail
        refine wQ ?_
        repeat (go_big_quiet_step (first|fail))
        refine wpQuiet_nil fun w6 hb6=>?_
        have B6:=bot B5 hb6
        clear c0 c1 c2 c3 c4 c5 r_c0 r_c1 r_c2 r_c3 r_c4 r_c5 B5 hb6
        go_wp2_with fail
        go_roundw
        case rel=>exact Hgoal.out _ _ (by rw[Hend.out]) (bot hbel B6)
        case measure=>simp[intOf];omega
       ·have hb2:(r2==999999999)=false:=by simp[h2]
        have Hend:Hid (st=leB++t2):=by unfold Hid;rw[Hst.out,if_neg h12,if_pos h1,if_neg h2]
        clear h12 h1 h2 Hst heq
        go_wp2_with fail
        refine (H3.out _).mono ?_
        rintro e w2 ⟨rfl,hb2⟩
        clear c0 c1 c2 c3 c4 c5
        obtain ⟨c0,c1,c2,c3,c4,c5⟩:=HC.out w2 hb2
        go_wp2_with fail
        refine (H4.out _).mono ?_
        rintro e w3 ⟨rfl,hb3⟩
        have B3:=bot hb2 hb3
        clear c0 c1 c2 c3 c4 c5 hb2 hb3
        obtain ⟨c0,c1,c2,c3,c4,c5⟩:=HC.out w3 B3
        go_wp2_with fail
        refine (H5.out _).mono ?_
        rintro e w4 ⟨rfl,hb4⟩
        have B4:=bot B3 hb4
        clear c0 c1 c2 c3 c4 c5 B3 hb4
        obtain ⟨c0,c1,c2,c3,c4,c5⟩:=HC.out w4 B4
        go_wp2_with fail
        refine (H6.out _).mono ?_
        rintro e w5 ⟨rfl,hb5⟩
        have B5:=bot B4 hb5
        clear c0 c1 c2 c3 c4 c5 B4 hb5
        obtain ⟨c0,c1,c2,c3,c4,c5⟩:=HC.out w5 B5
        have r_c0:=cR c0
        have r_c1:=cR c1
        have r_c2:=cR c2
        have r_c3:=cR c3
        have r_c4:=cR c4
        have r_c5:=cR c5
        go_wp2_with fail
        refine wQ ?_
        repeat (go_big_quiet_step (first|fail))
        refine wpQuiet_nil fun w6 hb6=>?_
        have B6:=bot B5 hb6
        clear c0 c1 c2 c3 c4 c5 r_c0 r_c1 r_c2 r_c3 r_c4 r_c5 B5 hb6
        go_wp2_with fail
        go_roundw
        case rel=>exact Hgoal.out _ _ (by rw[Hend.out]) (bot hbel B6)
        case measure=>simp[intOf];omega
      ·have hb1:(r1==0)=false:=by simp[h1]
       by_cases h2:r2=999999999
       ·have hb2:(r2==999999999)=true:=by simp[h2]
        have Hend:Hid (st=geB++t1):=by unfold Hid;rw[Hst.out,if_neg h12,if_neg h1,if_pos h2]
        clear h12 h1 h2 Hst heq
        go_wp2_with fail
        refine (H3.out _).mono ?_
        rintro e w2 ⟨rfl,hb2⟩
        clear c0 c1 c2 c3 c4 c5
        obtain ⟨c0,c1,c2,c3,c4,c5⟩:=HC.out w2 hb2
        go_wp2_with fail
        refine (H4.out _).mono ?_
        rintro e w3 ⟨rfl,hb3⟩
        have B3:=bot hb2 hb3
        clear c0 c1 c2 c3 c4 c5 hb2 hb3
        obtain ⟨c0,c1,c2,c3,c4,c5⟩:=HC.out w3 B3
        go_wp2_with fail
        refine (H5.out _).mono ?_
        rintro e w4 ⟨rfl,hb4⟩
        have B4:=bot B3 hb4
        clear c0 c1 c2 c3 c4 c5 B3 hb4
        obtain ⟨c0,c1,c2,c3,c4,c5⟩:=HC.out w4 B4
        go_wp2_with fail
        refine (H6.out _).mono ?_
        rintro e w5 ⟨rfl,hb5⟩
        have B5:=bot B4 hb5
        clear c0 c1 c2 c3 c4 c5 B4 hb5
        obtain ⟨c0,c1,c2,c3,c4,c5⟩:=HC.out w5 B5
        have r_c0:=cR c0
        have r_c1:=cR c1
        have r_c2:=cR c2
        have r_c3:=cR c3
        have r_c4:=cR c4
        have r_c5:=cR c5
        go_wp2_with fail
        refine wQ ?_
        repeat (go_big_quiet_step (first|fail))
        refine wpQuiet_nil fun w6 hb6=>?_
        have B6:=bot B5 hb6
        clear c0 c1 c2 c3 c4 c5 r_c0 r_c1 r_c2 r_c3 r_c4 r_c5 B5 hb6
        go_wp2_with fail
        go_roundw
        case rel=>exact Hgoal.out _ _ (by rw[Hend.out]) (bot hbel B6)
        case measure=>simp[intOf];omega
       ·have hb2:(r2==999999999)=false:=by simp[h2]
        have Hend:Hid (st=geB++t1++andB++t2):=by unfold Hid;rw[Hst.out,if_neg h12,if_neg h1,if_neg h2]
        clear h12 h1 h2 Hst heq
        go_wp2_with fail
        refine (H3.out _).mono ?_
        rintro e w2 ⟨rfl,hb2⟩
        clear c0 c1 c2 c3 c4 c5
        obtain ⟨c0,c1,c2,c3,c4,c5⟩:=HC.out w2 hb2
        go_wp2_with fail
        refine (H4.out _).mono ?_
        rintro e w3 ⟨rfl,hb3⟩
        have B3:=bot hb2 hb3
        clear c0 c1 c2 c3 c4 c5 hb2 hb3
        obtain ⟨c0,c1,c2,c3,c4,c5⟩:=HC.out w3 B3
        go_wp2_with fail
        refine (H5.out _).mono ?_
        rintro e w4 ⟨rfl,hb4⟩
        have B4:=bot B3 hb4
        clear c0 c1 c2 c3 c4 c5 B3 hb4
        obtain ⟨c0,c1,c2,c3,c4,c5⟩:=HC.out w4 B4
        go_wp2_with fail
        refine (H6.out _).mono ?_
        rintro e w5 ⟨rfl,hb5⟩
        have B5:=bot B4 hb5
        clear c0 c1 c2 c3 c4 c5 B4 hb5
        obtain ⟨c0,c1,c2,c3,c4,c5⟩:=HC.out w5 B5
        have r_c0:=cR c0
        have r_c1:=cR c1
        have r_c2:=cR c2
        have r_c3:=cR c3
        have r_c4:=cR c4
        have r_c5:=cR c5
        go_wp2_with fail
        refine wQ ?_
        repeat (go_big_quiet_step (first|fail))
        refine wpQuiet_nil fun w6 hb6=>?_
        have B6:=bot B5 hb6
        clear c0 c1 c2 c3 c4 c5 r_c0 r_c1 r_c2 r_c3 r_c4 r_c5 B5 hb6
        go_wp2_with fail
        go_roundw
        case rel=>exact Hgoal.out _ _ (by rw[Hend.out];exact Ha.out) (bot hbel B6)
        case measure=>simp[intOf];omega
   ·have hkl:k=l.length:=by have:=Hnx.out;omega
    have htake:l.take k=l:=by rw[hkl];exact List.take_length
    have He2:Hid (r=acc):=by unfold Hid;rw[He.out,hacc.out,htake]
    clear hkl htake hacc
    go_wp2_with fail
    go_ret
    exact ⟨zBO He2.out.symm,bot Hb1.out hbel⟩
