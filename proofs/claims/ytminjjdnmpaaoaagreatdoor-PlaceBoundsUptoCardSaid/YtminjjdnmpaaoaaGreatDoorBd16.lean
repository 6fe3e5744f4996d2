/- The program's placer: the edges of a directory: walked. -/
import Derived.Test.YtminjjdnmpaaoaaGreatDoorBd15
import Derived.Deep.CutRange
import Derived.Deep.RegionLaw
import Derived.Deep.RegionHeld3
import Derived.Calls
import Derived.Lib.QuietBelow
import Derived.Shelf.SlGeneric
import Derived.Shelf.SlSortCmp.WholeK
import Derived.Shelf.SlSortCmp.NoneTotal
import Derived.Ground.SlsfProg
import Derived.Test.YtminjjdnmpaaoaaGreatDoorProg
import Derived.Test.YtminjjdnmpaaoaaGreatDoorAl
set_option linter.all false
set_option maxHeartbeats 12800000
set_option maxRecDepth 100000
namespace Go.Proofs.YtminjjdnmpaaoaaGreatDoor
open Go.Rows Go.RowKit Go.Shelf Go.Sort
theorem zHJ {q:PlIn} {n:Node} {e:Edge} (h:(n.ctx.any fun x=>decide (x.name=e.label))=true):kindP q n e=1:=by unfold kindP;rw[if_pos h]
theorem zGj {q:PlIn} {n:Node} {e:Edge} {tn:Nat} {y:Node} (h:(n.ctx.any fun x=>decide (x.name=e.label))=false) (ht:e.to=(tn:Int)) (hy:q.g[tn]?=some y):kindP q n e=if y.ctx.length=0 then 2 else 3:=by
 unfold kindP
 rw[if_neg (by rw[h];decide),ht,Int.toNat_natCast]
 unfold zAg
 rw[List.getD_eq_getElem?_getD,hy]
 rfl
theorem zLl {q:PlIn} {at_:Nat} {st:PlSt} {d:Dir} (hd:st.1[at_]?=some d) {j:Nat} (hj:d.node=(j:Int)) {n:Node} (hn:q.g[j]?=some n):dirP q at_ st=match zAO q at_ n 1 n.edges st with
  | .error c=>.error c
  | .ok st'=>ownGo q at_ n (restE q n) st':=by
 unfold dirP
 rw[zBl hd,hj,Int.toNat_natCast]
 have:zAg q j=n:=by unfold zAg;rw[List.getD_eq_getElem?_getD,hn];rfl
 rw[this,zHi]
 rfl
theorem zLG {q:PlIn} {st:PlSt} {at_:Nat} {e:Edge}:zAm q st at_ 1 e=(decide (0≤lookI st.1 (at_:Int) e.label)&&decide ((dirAt st.1 (lookI st.1 (at_:Int) e.label).toNat).node=e.to)):=by
 unfold zAm
 rw[show decide ((1:Nat)≠3)=true from rfl,Bool.true_or,Bool.and_true]
theorem zGR (C:PlCtx) (hC:C.Ok) (w:World) (st:PlSt) (hw:PlWd C w st) {at_:Nat} (hinv:PlInv C.q at_ [] st) (hm:mayPl C.q.g C.q.ps=true) (hq:C.q.path≤1024) (hqd:C.q.dirs≤256) (hat:at_<st.1.length) (hsm:∀ x∈C.q.ps,zBc x) (hst:st.2.length≤at_ * 128) :
  Calls Tryz.prog 23 #[.pointer (some ⟨C.P,0,none⟩),.int .i64 (at_:Int)] w fun e w'=>
   (∃ c,dirP C.q at_ st=.error c∧e=.returned (.int .i64 c)∧(c=33∨c=40∨c=41)∧Below C.w0.heap.size C.w0 w'∧PlFr C w w')∨(∃ st',dirP C.q at_ st=.ok st'∧e=.returned (.int .i64 0)∧PlWd C w' st'∧PlFr C w w'∧st'.2.length≤(at_+1) * 128∧PlInv C.q (at_+1) [] st'):=by
 have hbase:=hw.base
 obtain ⟨A,c,A',c',hr⟩:=hw.read
 have HW:=cH hw
 have HC:=cH hC
 have HM:=cH hm
 have Hsm:=cH hsm
 have hHP:=hr.hP
 have x0:=hr.c0
 have x7:=hr.c7
 have hNl:=hr.len.1
 have hN257:=hinv.len
 have hat257:at_≤257:=by have:=hinv.len;omega
 obtain ⟨d,hd⟩:∃ d,st.1[at_]?=some d:=⟨_,gE hat⟩
 obtain ⟨j,hj,hjl⟩:∃ j:Nat,d.node=(j:Int)∧j<C.q.g.length:=by
  have h1:=(zBv hm).1
  by_cases h0:at_=0
  ·rw[h0] at hd
   exact ⟨0,(hinv.root d hd).2.1,by omega⟩
  ·obtain ⟨h2,h3,_⟩:=hinv.node at_ d hd h0
   exact ⟨d.node.toNat,by omega,by omega⟩
 obtain ⟨n,hn⟩:∃ n,C.q.g[j]?=some n:=⟨_,gE hjl⟩
 obtain ⟨b,o,pA,pc,hA,hb,y0,y8,hp,_,_⟩:=hr.dir hd
 rw[hj] at y8
 obtain ⟨gb,go,xA,xc,eA,ec,hgA,hgb,hgn,n0,n1,n2,n3,n4,n5,hctx,hedg,hnsz⟩:=hr.node hC hbase hn
 have hgcap:=zBt hC.g
 rw[hgA] at x0
 have hm128:=zKu hm hn
 have HL:Hid (dirP C.q at_ st=match zAO C.q at_ n 1 n.edges st with|.error c=>.error c|.ok st'=>ownGo C.q at_ n (restE C.q n) st'):=zLl hd hj hn
 have HDP:Hid (DirP C.q at_ n st 0 st):=DirP.start hinv
 have HEd:Hid (∀ W,Below C.w0.heap.size C.w0 W→SlV rEdge W (fun b=>b<C.w0.heap.size) n.edges (.slice eA n.edges.length ec)):=fun W hW=>hedg.keep fun b hb _=>(hW.block b hb).trans (hbase.block b hb).symm
 have HCx:Hid (∀ W,Below C.w0.heap.size C.w0 W→SlV rPin W (fun b=>b<C.w0.heap.size) n.ctx (.slice xA n.ctx.length xc)):=fun W hW=>hctx.keep fun b hb _=>(hW.block b hb).trans (hbase.block b hb).symm
 have HNd:Hid (∀ W (stk:PlSt) (i:Nat) (y:Node),PlWd C W stk→C.q.g[i]?=some y→i<C.gn∧W.cell? ⟨C.P,0,none⟩=some (.slice (some ⟨gb,go,none⟩) C.gn C.gc)∧∃ yA yc,W.cell? ⟨gb,go+i * 6+4,none⟩=some (.slice yA y.ctx.length yc)):=fun W stk i y hW hy=>by
  obtain ⟨A2,c2,A2',c2',hr2⟩:=hW.read
  obtain ⟨b2,o2,yA,yc,_,_,hgA2,_,h3,_,_,_,_,m4,_⟩:=hr2.node hC hW.base hy
  rw[hgA] at hgA2
  cases hgA2
  exact ⟨h3,by rw[←hgA];exact hr2.c0,yA,yc,m4⟩
 have HlD:Hid (∀ d∈st.1,d.path.length≤1024):=fun d hd=>nT (zEd (hinv.names d hd).1) (hinv.names d hd).2
 have Hst0:=cH hst
 have Hnn:=cH hn
 have Hd:=cH hd
 have hm128':n.edges.length≤128:=hm128
 clear hw hinv hctx hedg hm hsm hm128
 obtain ⟨N,hN⟩:∃ N,N=st.1.length:=⟨_,rfl⟩
 rw[←hN] at x7 hat hNl hN257
 have HN:=cH hN
 obtain ⟨m4,hm4⟩:∃ k,k=n.ctx.length:=⟨_,rfl⟩
 obtain ⟨m5,hm5⟩:∃ k,k=n.edges.length:=⟨_,rfl⟩
 rw[←hm4] at n4 HCx
 rw[←hm5] at n5 HEd hm128'
 have Hm5:=cH hm5
 clear hm4 hm5 hN hd hn hj hjl
 have hws:=hbase.size
 have hj0:(0:Int)≤(j:Int):=by omega
 have hjI:(j:Int)<(C.gn:Int):=by omega
 have ha0:(0:Int)≤(at_:Int):=by omega
 have haI:(at_:Int)<(N:Int):=by omega
 generalize dirP C.q at_ st=R at *
 obtain ⟨nm,hnm⟩:∃ k,k=n.name:=⟨_,rfl⟩
 rw[←hnm] at n0
 clear hnm
 generalize n.ver.major=v1 at *
 generalize n.ver.minor=v2 at *
 generalize n.ver.patch=v3 at *
 subst hA
 go_enter Tryz.func23,Tryz.ntmps23
 have hne1:C.P≠w.heap.size:=by omega
 have hne2:gb≠w.heap.size:=by omega
 have hne3:b≠w.heap.size:=by omega
 go_upto_region 1 with (fail)
 go_cut [5] from 14 to 29 (fun nv wx=>∃ NB:Nat,nv=.pointer (some ⟨NB,0,none⟩)∧Hid (Below w.heap.size w wx∧w.heap.size≤NB ∧
  wx.heap[NB]?=some (.cells #[.string nm,.int .i64 v1,.int .i64 v2,.int .i64 v3,.slice xA m4 xc,.slice eA m5 ec] 58 (0,0))))
 case first=>
  go_region_held3 (fun w'=>w'.cell? ⟨C.P,0,none⟩=some (.slice (some ⟨gb,go,none⟩) C.gn C.gc)∧w'.cell? ⟨C.P,7,none⟩=some (.slice (some ⟨b,o,none⟩) N c)∧w'.cell? ⟨b,o+at_ * 9+8,none⟩=some (.int .i64 (j:Int))∧w'.cell? ⟨gb,go+j * 6,none⟩=some (.string nm)∧w'.cell? ⟨gb,go+j * 6+1,none⟩=some (.int .i64 v1)∧w'.cell? ⟨gb,go+j * 6+2,none⟩=some (.int .i64 v2)∧w'.cell? ⟨gb,go+j * 6+3,none⟩=some (.int .i64 v3)∧w'.cell? ⟨gb,go+j * 6+4,none⟩=some (.slice xA m4 xc)∧w'.cell? ⟨gb,go+j * 6+5,none⟩=some (.slice eA m5 ec))
   (first|go_keep)
   (first|fail)
  all_goals
   go_wp2_with fail
   go_meet
   exact ⟨_,rfl,(zKs w _).1,nR _,(zKs w _).2⟩
 case rest=>
 obtain ⟨NB,rfl,HN1⟩:=hcut
 generalize wc=w1 at *
 have HB1:=cH HN1.out.1
 obtain ⟨S,hS⟩:=(HW.out.keep HC.out HB1.out).s
 have hP1:C.P<w1.heap.size:=lL hHP HB1.out.size
 have Hw01:Hid (C.w0.heap.size≤w1.heap.size):=nT hws HB1.out.size
 have HNc:Hid (∀ W,PlFr C w1 W→W.cell? ⟨NB,4,none⟩=some (.slice xA m4 xc)∧W.cell? ⟨NB,5,none⟩=some (.slice eA m5 ec)):=fun W hW=>by
  obtain ⟨_,_,_,_,_,hpp⟩:=HW.out.parts
  have h:=(hW.2 NB (aS.1 HN1.out.2.2).1 (hpp.notNew HB1.out HN1.out.2.1)).1.trans HN1.out.2.2
  exact ⟨cO _ _ 4 _ _ _ h,cO _ _ 5 _ _ _ h⟩
 have HF1:=cH (PlFr.below hHP HB1.out)
 clear x0 x7 y0 y8 n0 n1 n2 n3 n4 n5 HN1
 have c5:=(HNc.out w1 (PlFr.refl C w1)).2
 have HDL:Hid (DirL C w1 w1 st S (.slice none 0 0) (zAN C.q n 2 (n.edges.take 0)) (.slice none 0 0) (zAN C.q n 3 (n.edges.take 0))):=DirL.start hS
 clear hS
 go_wp2_with fail
 go_loopw [6,7,33] (fun uA uO t wr=>∃ (k:Nat) (stk:PlSt) (vA vO:Value),k≤m5∧t=.int .i64 k∧vA=uA∧vO=uO∧Hid (DirP C.q at_ n st k stk∧DirL C w1 wr stk S vA (zAN C.q n 2 (n.edges.take k)) vO (zAN C.q n 3 (n.edges.take k)))) (fun _ _ t _=>m5 - (intOf t).toNat)
 case atStart=>exact ⟨0,st,_,_,nZ _,rfl,rfl,rfl,HDP.out,HDL.out⟩
 case round=>
  clear HDP HDL c5
  obtain ⟨k,stk,vA,vO,hk,rfl,rfl,rfl,hh⟩:=hrel
  have HDp:=cH hh.out.1
  have HDl:=cH hh.out.2
  clear hh
  have hk0:(0:Int)≤(k:Int):=by omega
  by_cases hlt:k<m5
  case neg=>
   have hke:k=n.edges.length:=by have:=Hm5.out;omega
   rw[hke] at HDp HDl
   have hI:¬(k:Int)<(m5:Int):=by omega
   have HDr:=cH (HDp.out.rest HM.out Hnn.out Hd.out)
   have HR:Hid (R=ownGo C.q at_ n (restE C.q n) stk):=by unfold Hid;rw[HL.out,HDp.out.done_]
   have Hrl:Hid (zAN C.q n 2 (n.edges.take n.edges.length)++zAN C.q n 3 (n.edges.take n.edges.length)=restE C.q n):=by
    unfold Hid;rw[List.take_of_length_le (nR _)];rfl
   have hl2:(zAN C.q n 2 (n.edges.take n.edges.length)).length≤m5:=by rw[Hm5.out];exact zDH
   have hl3:(zAN C.q n 3 (n.edges.take n.edges.length)).length≤m5:=by rw[Hm5.out];exact zDH
   obtain ⟨L2,hL2⟩:∃ L,L=zAN C.q n 2 (n.edges.take n.edges.length):=⟨_,rfl⟩
   obtain ⟨L3,hL3⟩:∃ L,L=zAN C.q n 3 (n.edges.take n.edges.length):=⟨_,rfl⟩
   rw[←hL2] at HDl Hrl hl2
   rw[←hL3] at HDl Hrl hl3
   clear hL2 hL3 hke hlt HDp HL
   obtain ⟨Ao,co,hvO,_,_⟩:=HDl.out.ot.slv.val
   obtain ⟨l3,hl3e⟩:∃ l,l=L3.length:=⟨_,rfl⟩
   rw[←hl3e] at hvO hl3
   have Hl3e:=cH hl3e
   subst hvO
   have HLo:Hid (SlV rEdge wr (fun b=>(Value.slice Ao l3 co).ownBlock=some b) L3 (.slice Ao l3 co)):=HDl.out.ot.slvO
   have Hao:=cH (fun b (h:(Value.slice Ao l3 co).ownBlock=some b) (e:vA.ownBlock=some b)=>HDl.out.ao b e h)
   have hzr:w1.heap.size≤wr.heap.size:=HDl.out.fr.1
   clear hl3e
   go_wp2_with (at_builtin;refine zAT (by rfl) _ _ _ (by rfl) zDv Tryz.underlying56 (by rfl) HDl.out.al (fun b=>(Value.slice Ao l3 co).ownBlock=some b) L3 Ao l3 co (by rfl) HLo.out Hao.out (by have:=Hl3e.out;unfold maxLen;omega) (by have:=Hl3e.out;omega) hzr ?_)
   intro v9 w9 hown9 hgrow9 hat9
   have hpv:=HDl.out.pushV Hw01.out (v':=v9) (l':=[]) (T:=fun _=>False) (fun b hb=>hb.elim) hgrow9 (fun g hg=>by rcases hat9 with h|h;exact .inl (by rw[←h];exact hg);exact .inr (by rw[h] at hg;cases hg;exact nR _))
   rw[Hrl.out] at hown9
   obtain ⟨A9,c9,hv9,_,_⟩:=hown9.slv.val
   obtain ⟨n7,hn7⟩:∃ l,l=(restE C.q n).length:=⟨_,rfl⟩
   rw[←hn7] at hv9
   have Hn7:=cH hn7
   subst hv9
   have HO9:=cH (zKc hown9)
   have HS9:=cH hpv.1
   have HN9:=cH hpv.2.1
   have HF9:=cH (HF1.out.trans hpv.2.2.2.2)
   have hn7z:n7≤256:=by
    have:(restE C.q n).length=L2.length+L3.length:=by rw[←Hrl.out,List.length_append]
    have:=Hl3e.out
    omega
   have HRs:Hid (∀ W,PlFr C w9 W→SlV rEdge W (fun b=>(Value.slice A9 n7 c9).ownBlock=some b) (restE C.q n) (.slice A9 n7 c9)):=fun W hW=>(HO9.out.frame (fun b e=>(hW.2 b (HO9.out.lt b e).2 (HN9.out b e).1).1)).slvO
   clear hown9 hgrow9 hat9 hpv hn7 HDl HLo Hao Hrl
   go_wp2_with fail
   go_loopw [98] (fun t wr=>∃ (k:Nat) (sk:PlSt),k≤n7∧t=.int .i64 k∧Hid (DirR C.q at_ n d (ownGo C.q at_ n (restE C.q n) stk) (st.2.length+n.edges.length) k sk∧PlWd C wr sk∧PlFr C w9 wr)) (fun t _=>n7 - (intOf t).toNat)
   case atStart=>exact ⟨0,stk,nZ _,rfl,HDr.out,HS9.out.all,PlFr.refl C w9⟩
   case round=>
    clear HDr HS9 hk0 hI hk
    obtain ⟨k,sk,hk,rfl,hh⟩:=hrel
    have HDr:=cH hh.1
    have HPw:=cH hh.2.1
    have HPf:=cH hh.2.2
    clear hh
    have hk0:(0:Int)≤(k:Int):=by omega
    by_cases hlt:k<n7
    case neg=>
     have hI:¬(k:Int)<(n7:Int):=by omega
     have hke:k=(restE C.q n).length:=by have:=Hn7.out;omega
     rw[hke] at HDr
     have HE:=cH HDr.out.done_
     have hlen:sk.2.length≤(at_+1) * 128:=by
      have h1:=HE.out.2.1
      have h2:=Hst0.out
      have h3:=Hm5.out
      omega
     have HFz:=cH (HF9.out.trans HPf.out)
     clear hke HDr
     go_wp2_with fail
     go_ret
     exact .inr ⟨sk.1,sk.2,HR.out.trans HE.out.1,rfl,HPw.out,HFz.out,hlen,HE.out.2.2⟩
    have hkn:(k:Int)<(n7:Int):=by omega
    obtain ⟨e,he⟩:∃ e,(restE C.q n)[k]?=some e:=⟨_,gE (by have:=Hn7.out;omega)⟩
    obtain ⟨eb,eo,cs,hA,_,hb1,hhd,hcell⟩:=(HRs.out wr HPf.out).elem he
    subst hA
    obtain ⟨rfl,hlz,hti⟩:=hhd
    have c0:=hcell 0 _ rfl
    have c1:=hcell 1 _ rfl
    simp only[rEdge,Nat.add_zero] at c0 c1
    obtain ⟨hmem,hk2⟩:=zE6 (mG he)
    obtain ⟨e1,e2,e3,_⟩:=zCE HM.out Hnn.out hmem
    obtain ⟨lb,tt⟩:=e
    simp only at c0 c1 hlz hti e1 e2 e3
    obtain ⟨tn,rfl⟩:∃ tn:Nat,tt=(tn:Int):=⟨tt.toNat,by omega⟩
    obtain ⟨y,hy⟩:∃ y,C.q.g[tn]?=some y:=⟨_,gE (by omega)⟩
    obtain ⟨x,hx⟩:∃ x,C.q.ps[tn]?=some x:=by
     obtain ⟨_,_,h3,_⟩:=zBv HM.out
     exact ⟨_,gE (by have:=(gS.1 hy).1;omega)⟩
    have hyn:y.name=lb:=by
     rw[←e3,Int.toNat_natCast];unfold zAg;rw[List.getD_eq_getElem?_getD,hy];rfl
    have hkind:kindP C.q n ⟨lb,(tn:Int)⟩=2∧y.ctx.length=0∨kindP C.q n ⟨lb,(tn:Int)⟩=3∧y.ctx.length≠0:=by
     cases hany:(n.ctx.any fun x=>decide (x.name=lb)) with
     | true=>have:=zHJ (q:=C.q) (n:=n) (e:=⟨lb,(tn:Int)⟩) hany;omega
     | false=>
       have:=zGj (q:=C.q) (n:=n) (e:=⟨lb,(tn:Int)⟩) hany rfl hy
       by_cases h0:y.ctx.length=0
       ·rw[if_pos h0] at this;exact .inl ⟨this,h0⟩
       ·rw[if_neg h0] at this;exact .inr ⟨this,h0⟩
    obtain ⟨done,i1,i2⟩:=HDr.out.inv
    obtain ⟨_,hsd,_⟩:=zHE (zA1 HM.out Hnn.out) i2 he
    have hskl:sk.2.length≤900000:=by
     have h1:=HDr.out.len
     have h2:=Hst0.out
     have h3:=Hm5.out
     have h4:=Hn7.out
     omega
    have Hcall:Hid (∀ W,Below wr.heap.size wr W→_):=fun W hW=>zM0 C HC.out W sk (HPw.out.keep HC.out hW) i1 HDr.out.dir lb tn hsd hlz hy hyn hx (Hsm.out x (mG hx)) hskl (kindP C.q n ⟨lb,(tn:Int)⟩) hkind
    have HSt:=cH (HDr.out.step HM.out hq hqd Hnn.out he)
    have HFo:Hid (∀ W,PlFr C wr W→PlFr C w W∧PlFr C w9 W):=fun W hW=>⟨HF9.out.trans (HPf.out.trans hW),HPf.out.trans hW⟩
    have hPr:C.P<wr.heap.size:=by
     obtain ⟨_,_,_,_,h⟩:=HPw.out.read
     exact h.hP
    clear hcell he hy hx hyn hkind i1 i2 hsd hmem hk2 e1 e2 e3 hlz hti HDr HPf
    go_upto_region 18 with (fail)
    obtain ⟨w4,hw4⟩:∃ w4,w4=wr.alloc (.cells #[.string lb,.int .i64 (tn:Int)] 61):=⟨_,rfl⟩
    have hq4:w4.heap[wr.heap.size]?=some (.cells #[.string lb,.int .i64 (tn:Int)] 61 (0,0)):=by rw[hw4];exact zAD _ _
    have HB4:Hid (Below wr.heap.size wr w4):=by unfold Hid;rw[hw4];exact bal (bR _ _) _
    rw[←hw4]
    obtain ⟨QB,hQB⟩:∃ QB,QB=wr.heap.size:=⟨_,rfl⟩
    rw[←hQB] at hq4 ⊢
    have d0:=cO _ _ 0 _ _ _ hq4
    have d1:=cO _ _ 1 _ _ _ hq4
    have Hc4:=cH (Hcall.out w4 HB4.out)
    have HF4:=cH (PlFr.below hPr HB4.out)
    clear hw4 hQB hq4 c0 c1 Hcall
    generalize stepE C.q at_ (kindP C.q n ⟨lb,(tn:Int)⟩) ⟨lb,(tn:Int)⟩ sk=SE at *
    go_wp2_with fail
    refine Hc4.out.mono ?_
    rintro e w5 (⟨c,h1,rfl,hc,hP5,hF5⟩|⟨st',h1,rfl,hP5,hF5⟩)
    ·have Hr:=cH (HR.out.trans (HSt.out.1 c h1))
     have HE5:=cH (HFo.out w5 (HF4.out.trans hF5)).1
     have HB5:=cH hP5.base
     clear h1 hP5 hF5 HSt d0 d1 Hc4
     rcases hc with rfl|rfl
     ·go_wp2_with fail
      go_ret
      exact .inl ⟨40,Hr.out,rfl,.inr (.inl rfl),HB5.out,HE5.out⟩
     ·go_wp2_with fail
      go_ret
      exact .inl ⟨41,Hr.out,rfl,.inr (.inr rfl),HB5.out,HE5.out⟩
    ·have Hs:=cH (HSt.out.2 st' h1)
     have HE5:=cH (HFo.out w5 (HF4.out.trans hF5)).2
     have HP5:=cH hP5
     clear h1 hP5 hF5 HSt d0 d1 Hc4
     go_wp2_with fail
     go_roundw
     case rel=>exact ⟨k+1,st',by omega,by go_num,Hs.out,HP5.out,HE5.out⟩
     case measure=>simp[intOf];omega
  case pos=>
  have hkn:(k:Int)<(m5:Int):=by omega
  obtain ⟨e,he⟩:∃ e,n.edges[k]?=some e:=⟨_,gE (by have:=Hm5.out;omega)⟩
  have HPW:=cH HDl.out.pl.all
  obtain ⟨eb,eo,cs,hA,_,hb1,hhd,hcell⟩:=(HEd.out wr HPW.out.base).elem he
  subst hA
  obtain ⟨rfl,hlz,hti⟩:=hhd
  have c0:=hcell 0 _ rfl
  have c1:=hcell 1 _ rfl
  simp only[rEdge,Nat.add_zero] at c0 c1
  obtain ⟨e1,e2,_⟩:=zCE HM.out Hnn.out (mG he)
  obtain ⟨lb,tt⟩:=e
  simp only at c0 c1 hlz hti e1 e2
  obtain ⟨tn,rfl⟩:∃ tn:Nat,tt=(tn:Int):=⟨tt.toNat,by omega⟩
  obtain ⟨y,hy⟩:∃ y,C.q.g[tn]?=some y:=⟨_,gE (by omega)⟩
  have He:=cH he
  have Hy:=cH hy
  have Hlz:=cH hlz
  have Hti:=cH hti
  clear hcell he hy e1 e2 hlz hti
  go_upto_region 7 with (fail)
  obtain ⟨w4,hw4⟩:∃ w4,w4=wr.alloc (.cells #[.string lb,.int .i64 (tn:Int)] 61):=⟨_,rfl⟩
  have hq4:w4.heap[wr.heap.size]?=some (.cells #[.string lb,.int .i64 (tn:Int)] 61 (0,0)):=by rw[hw4];exact zAD _ _
  have HB4:Hid (Below wr.heap.size wr w4):=by unfold Hid;rw[hw4];exact bal (bR _ _) _
  rw[←hw4]
  have HDl4:=cH (HDl.out.keep HB4.out)
  have hz4:wr.heap.size<w4.heap.size:=(aS.1 hq4).1
  obtain ⟨QB,hQB⟩:∃ QB,QB=wr.heap.size:=⟨_,rfl⟩
  rw[←hQB] at hq4 hz4 ⊢
  have HQc:Hid (∀ W,Below w4.heap.size w4 W→W.cell? ⟨QB,0,none⟩=some (.string lb)∧W.cell? ⟨QB,1,none⟩=some (.int .i64 (tn:Int))):=fun W hW=>by
   have h:=(hW.block _ hz4).trans hq4
   exact ⟨cO _ _ 0 _ _ _ h,cO _ _ 1 _ _ _ h⟩
  have HCt:Hid (Calls Tryz.prog 47 #[.slice xA m4 xc,.func (.func 48) #[] #[.pointer (some ⟨QB,0,none⟩)]] w4 fun e w'=>e=.returned (.bool (n.ctx.any fun x=>decide (x.name=lb)))∧Below w4.heap.size w4 w'):=
   zEt 48 #[.pointer (some ⟨QB,0,none⟩)] zIR (fun x=>decide (x.name=lb)) xA m4 xc n.ctx w4 _ (HCx.out w4 HDl4.out.pl.all.base) (fun W x hW=>zLx x QB lb W (HQc.out W hW).1)
  have Hk1:Hid ((n.ctx.any fun x=>decide (x.name=lb))=true→kindP C.q n ⟨lb,(tn:Int)⟩=1):=fun h=>zHJ h
  have Hk2:Hid ((n.ctx.any fun x=>decide (x.name=lb))=false→kindP C.q n ⟨lb,(tn:Int)⟩=if y.ctx.length=0 then 2 else 3):=fun h=>zGj h rfl Hy.out
  obtain ⟨q4,q5⟩:=HNc.out w4 HDl4.out.fr
  clear hw4 hQB hq4 c0 c1
  generalize (n.ctx.any fun x=>decide (x.name=lb))=isx at *
  go_wp2_with fail
  refine HCt.out.mono ?_
  rintro e w5 ⟨rfl,hb5⟩
  have HB5:=cH hb5
  have HDl5:=cH (HDl4.out.keep hb5)
  have hP5:C.P<w5.heap.size:=by
   obtain ⟨_,_,_,_,h⟩:=HDl5.out.pl
   exact h.hP
  clear hb5 q4 q5 HCt
  cases isx with
  | false=>
    have hkd:=cH (Hk2.out rfl)
    obtain ⟨htg,x0,yA,yc,y4⟩:=HNd.out w5 stk tn y HDl5.out.pl.all Hy.out
    have q1:=(HQc.out w5 HB5.out).2
    have ht0:(0:Int)≤(tn:Int):=by omega
    have htI:(tn:Int)<(C.gn:Int):=by omega
    have hgb5:gb<w5.heap.size:=lL hgb HDl5.out.pl.all.base.size
    have hQ5:QB<w5.heap.size:=lL hz4 HB5.out.size
    obtain ⟨ly,hly⟩:∃ ly,ly=y.ctx.length:=⟨_,rfl⟩
    rw[←hly] at y4 hkd
    clear hly Hk1 Hk2
    have Hl2:Hid ((zAN C.q n 2 (n.edges.take k)).length≤k):=zDH
    have Hl3:Hid ((zAN C.q n 3 (n.edges.take k)).length≤k):=zDH
    have HT:Hid (∀ kind,zAN C.q n kind (n.edges.take (k+1))=zAN C.q n kind (n.edges.take k)++if kindP C.q n ⟨lb,(tn:Int)⟩=kind then [⟨lb,(tn:Int)⟩] else []):=fun kind=>zCL He.out
    by_cases hy0:ly=0
    case pos=>
     have hb:((ly:Int)==0)=true:=by rw[hy0];rfl
     have hkk:=cH (hkd.out.trans (if_pos hy0))
     have hDp':=cH (HDp.out.other He.out (by rw[hkk.out];decide))
     have hT2:=cH ((HT.out 2).trans (congrArg (zAN C.q n 2 (n.edges.take k)++·) (if_pos hkk.out)))
     have hT3:=cH ((HT.out 3).trans ((congrArg (zAN C.q n 3 (n.edges.take k)++·) (if_neg (by rw[hkk.out];decide))).trans (List.append_nil _)))
     clear hkd hy0 hkk HT HDp
     have r_x0:=cR x0
     have r_q1:=cR q1
     have r_y4:=cR y4
     go_wp2_with fail
     refine wQ ?_
     repeat (go_big_quiet_step (first|fail))
     refine wpQuiet_nil fun w6 B6=>?_
     have HB46:=cH (bot HB5.out B6)
     have HDl6:=cH (HDl5.out.keep B6)
     clear r_x0 r_q1 r_y4 x0 q1 y4 B6
     obtain ⟨q0,q1⟩:=HQc.out w6 HB46.out
     obtain ⟨w7,hw7⟩:∃ w7,w7=w6.alloc (.cells #[.string lb,.int .i64 (tn:Int)] 61):=⟨_,rfl⟩
     have HDl7:Hid (DirL C w1 w7 stk S vA (zAN C.q n 2 (n.edges.take k)) vO (zAN C.q n 3 (n.edges.take k))):=by unfold Hid;rw[hw7];exact HDl6.out.keep (bal (bR _ _) _)
     have Hs7:Hid (w7.heap.size=w6.heap.size+1):=by unfold Hid;rw[hw7];simp
     have hnews:=zAo w6 #[.string lb,.int .i64 (tn:Int)] 61
     rw[←hw7] at hnews
     have Hnews:=cH hnews
     have hbase7:w1.heap.size≤w7.heap.size:=HDl7.out.fr.1
     clear hnews
     go_wp2_with (at_builtin;rw[←hw7];refine zAK (by rfl) _ _ _ (by rfl) zDv Tryz.underlying56 (by rfl) HDl7.out.al ⟨w6.heap.size,0,none⟩ 1 [.string lb,.int .i64 (tn:Int)] ⟨lb,(tn:Int)⟩ (by rfl) ⟨rfl,Hlz.out,Hti.out⟩ Hnews.out (by have:=Hl2.out;unfold maxLen;omega) (by have:=Hl2.out;omega) hbase7 (w6.heap.size+1) Hs7.out ?_)
     intro g9 cap9 w9 hown9 hgrow9 hat9 hlt9
     rw[←hw7] at hgrow9
     have hend:=HDl7.out.push Hw01.out hown9 hgrow9 (by rcases hat9 with h|h;exact .inl h;exact .inr (by rw[Hs7.out,h];exact nR _))
     have Hend:=cH hend
     clear hend hown9 hgrow9 hat9 hw7 q0 q1
     go_wp2_with fail
     go_roundw
     case rel=>exact ⟨k+1,stk,_,_,by omega,by go_num,rfl,rfl,hDp'.out,by rw[hT2.out,hT3.out];exact Hend.out⟩
     case measure=>simp[intOf];omega
    case neg=>
     have hb:((ly:Int)==0)=false:=beq_eq_false_iff_ne.2 (by omega)
     have hkk:=cH (hkd.out.trans (if_neg hy0))
     have hDp':=cH (HDp.out.other He.out (by rw[hkk.out];decide))
     have hT3:=cH ((HT.out 3).trans (congrArg (zAN C.q n 3 (n.edges.take k)++·) (if_pos hkk.out)))
     have hT2:=cH ((HT.out 2).trans ((congrArg (zAN C.q n 2 (n.edges.take k)++·) (if_neg (by rw[hkk.out];decide))).trans (List.append_nil _)))
     clear hkd hy0 hkk HT HDp
     have r_x0:=cR x0
     have r_q1:=cR q1
     have r_y4:=cR y4
     go_wp2_with fail
     refine wQ ?_
     repeat (go_big_quiet_step (first|fail))
     refine wpQuiet_nil fun w6 B6=>?_
     have HB46:=cH (bot HB5.out B6)
     have HDl6:=cH (HDl5.out.keep B6)
     clear r_x0 r_q1 r_y4 x0 q1 y4 B6
     obtain ⟨q0,q1⟩:=HQc.out w6 HB46.out
     obtain ⟨w7,hw7⟩:∃ w7,w7=w6.alloc (.cells #[.string lb,.int .i64 (tn:Int)] 61):=⟨_,rfl⟩
     have HDl7:Hid (DirL C w1 w7 stk S vA (zAN C.q n 2 (n.edges.take k)) vO (zAN C.q n 3 (n.edges.take k))):=by unfold Hid;rw[hw7];exact HDl6.out.keep (bal (bR _ _) _)
     have Hs7:Hid (w7.heap.size=w6.heap.size+1):=by unfold Hid;rw[hw7];simp
     have hnews:=zAo w6 #[.string lb,.int .i64 (tn:Int)] 61
     rw[←hw7] at hnews
     have Hnews:=cH hnews
     have hbase7:w1.heap.size≤w7.heap.size:=HDl7.out.fr.1
     clear hnews
     go_wp2_with (at_builtin;rw[←hw7];refine zAK (by rfl) _ _ _ (by rfl) zDv Tryz.underlying56 (by rfl) HDl7.out.ot ⟨w6.heap.size,0,none⟩ 1 [.string lb,.int .i64 (tn:Int)] ⟨lb,(tn:Int)⟩ (by rfl) ⟨rfl,Hlz.out,Hti.out⟩ Hnews.out (by have:=Hl3.out;unfold maxLen;omega) (by have:=Hl3.out;omega) hbase7 (w6.heap.size+1) Hs7.out ?_)
     intro g9 cap9 w9 hown9 hgrow9 hat9 hlt9
     rw[←hw7] at hgrow9
     have hend:=(HDl7.out.swap.push Hw01.out hown9 hgrow9 (by rcases hat9 with h|h;exact .inl h;exact .inr (by rw[Hs7.out,h];exact nR _))).swap
     have Hend:=cH hend
     clear hend hown9 hgrow9 hat9 hw7 q0 q1
     go_wp2_with fail
     go_roundw
     case rel=>exact ⟨k+1,stk,_,_,by omega,by go_num,rfl,rfl,hDp'.out,by rw[hT2.out,hT3.out];exact Hend.out⟩
     case measure=>simp[intOf];omega
  | true=>
    have hk1:=cH (Hk1.out rfl)
    obtain ⟨s2,hs2⟩:∃ s2,stk=(st.1,s2):=⟨stk.2,by rw[←HDp.out.fst]⟩
    subst hs2
    obtain ⟨A2,c2,A2',c2',hr2⟩:=HDl5.out.pl.all.read
    have hx7:=hr2.c7
    have x7:w5.cell? ⟨C.P,7,none⟩=some (.slice A2 N c2):=by rw[HN.out];exact hx7
    have HLk:Hid (∀ W,Below w5.heap.size w5 W→Calls Tryz.prog 17 #[.agg #[.slice A2 st.1.length c2],.int .i64 (at_:Int),.string lb] W fun e w'=>e=.returned (.int .i64 (lookI st.1 (at_:Int) lb))∧Below W.heap.size W w'):=fun W hW=>zGX A2 _ c2 st.1 lb W _ _ Hlz.out (fun d hd=>by have:=HlD.out d hd;omega) (hr2.dirs.belowSize hW)
    rw[←HN.out] at HLk
    have HDn:Hid (∀ W (j:Nat),Below w5.heap.size w5 W→j<N→∃ b o:Nat,A2=some ⟨b,o,none⟩∧W.cell? ⟨b,o+j * 9+8,none⟩=some (.int .i64 (dirAt st.1 j).node)):=fun W j hW hj=>by
     obtain ⟨b,o,_,_,h1,_,_,h2,_⟩:=(hr2.keep hW).dir (i:=j) (d:=dirAt st.1 j) (zAX (by rw[←HN.out];exact hj))
     exact ⟨b,o,h1,h2⟩
    have Hx7:Hid (∀ W,Below w5.heap.size w5 W→W.cell? ⟨C.P,7,none⟩=some (.slice A2 N c2)):=fun W hW=>zAA hW x7 hP5
    have Hrt:Hid (zAm C.q (st.1,s2) at_ 1 ⟨lb,(tn:Int)⟩=(decide (0≤lookI st.1 (at_:Int) lb)&&decide ((dirAt st.1 (lookI st.1 (at_:Int) lb).toNat).node=(tn:Int)))):=zLG
    have HBad:Hid (zAm C.q (st.1,s2) at_ 1 ⟨lb,(tn:Int)⟩=false→R=.error 33):=fun h=>by rw[HL.out,HDp.out.bad He.out hk1.out h]
    have HOne:Hid (zAm C.q (st.1,s2) at_ 1 ⟨lb,(tn:Int)⟩=true→DirP C.q at_ n st (k+1) (st.1,s2++[⟨at_,lb,(lookI st.1 (at_:Int) lb).toNat⟩])∧zAN C.q n 2 (n.edges.take (k+1))=zAN C.q n 2 (n.edges.take k)∧zAN C.q n 3 (n.edges.take (k+1))=zAN C.q n 3 (n.edges.take k)):=fun h=>HDp.out.one HM.out hq hqd Hd.out Hnn.out He.out hk1.out h
    have Hlt:Hid (0≤lookI st.1 (at_:Int) lb→(lookI st.1 (at_:Int) lb).toNat<st.1.length):=zLP
    rw[←HN.out] at Hlt
    have hs2l:s2.length≤1000000:=by
     have h1:=HDp.out.len
     have h2:=Hst0.out
     simp only at h1
     omega
    have q0:=(HQc.out w5 HB5.out).1
    have hQ5:QB<w5.heap.size:=lL hz4 HB5.out.size
    have HLq:=cH (qcall (w:=w5) (fun W hW=>HLk.out W hW))
    clear hr2 hx7 HLk Hk1 Hk2 hk1 HDp HDl HDl4
    generalize zAm C.q (st.1,s2) at_ 1 ⟨lb,(tn:Int)⟩=rt at *
    generalize lookI st.1 (at_:Int) lb=L at *
    go_upto_region 8 with (fail)
    have r_x7:=cR x7
    have r_q0:=cR q0
    go_wp2_with fail
    refine wQ ?_
    repeat (go_big_quiet_step (first|(with_reducible exact HLq.out _ _)))
    refine wpQuiet_nil fun w6 B6=>?_
    have HB6:=cH B6
    have HDl6:=cH (HDl5.out.keep B6)
    clear r_x7 r_q0 x7 q0 B6 HLq
    have x7:=Hx7.out w6 HB6.out
    obtain ⟨q0,q1⟩:=HQc.out w6 (bot HB5.out HB6.out)
    have HEnd:Hid (∀ W,Below w6.heap.size w6 W→Below C.w0.heap.size C.w0 W∧PlFr C w W):=fun W hW=>by
     have h:=HDl6.out.keep hW
     exact ⟨h.pl.all.base,HF1.out.trans h.fr⟩
    go_upto_region 9 with (fail)
    by_cases hL:0≤L
    case neg=>
     have hr:rt=false:=by rw[Hrt.out,decide_eq_false hL];rfl
     have hLd:decide (L<0)=true:=decide_eq_true (by omega)
     have hLI:L<0:=by omega
     have Hr:=cH (HBad.out hr)
     clear hL Hrt hr HBad HOne Hlt
     have r_x7:=cR x7
     have r_q1:=cR q1
     go_wp2_with fail
     refine wQ ?_
     repeat (go_big_quiet_step (first|fail))
     refine wpQuiet_nil fun w7 B7=>?_
     have HB7:=cH (HEnd.out w7 B7)
     go_wp2_with fail
     go_ret
     exact .inl ⟨33,Hr.out,rfl,.inl rfl,HB7.out.1,HB7.out.2⟩
    obtain ⟨jl,hjl⟩:∃ jl:Nat,L=(jl:Int):=⟨L.toNat,by omega⟩
    subst hjl
    have hjN:jl<N:=by have:=Hlt.out hL;rwa [Int.toNat_natCast] at this
    obtain ⟨b2,o2,hA2,y8⟩:=HDn.out w6 jl HB6.out hjN
    subst hA2
    have hLd:decide ((jl:Int)<0)=false:=decide_eq_false (by omega)
    have hLI:¬(jl:Int)<0:=by omega
    have hjI2:(jl:Int)<(N:Int):=by omega
    rw[Int.toNat_natCast,decide_eq_true hL,Bool.true_and] at Hrt
    rw[Int.toNat_natCast] at HOne
    generalize (dirAt st.1 jl).node=nj at *
    by_cases hnj:nj=(tn:Int)
    case neg=>
     have hr:rt=false:=by rw[Hrt.out,decide_eq_false hnj]
     have hb1:(nj != (tn:Int))=true:=by show (!(nj==(tn:Int)))=true;rw[beq_eq_false_iff_ne.2 hnj];rfl
     have Hr:=cH (HBad.out hr)
     clear Hrt hr HBad HOne Hlt hnj
     have r_x7:=cR x7
     have r_q1:=cR q1
     have r_y8:=cR y8
     go_wp2_with fail
     refine wQ ?_
     repeat (go_big_quiet_step (first|fail))
     refine wpQuiet_nil fun w7 B7=>?_
     have HB7:=cH (HEnd.out w7 B7)
     go_wp2_with fail
     go_ret
     exact .inl ⟨33,Hr.out,rfl,.inl rfl,HB7.out.1,HB7.out.2⟩
    have hr:rt=true:=by rw[Hrt.out,decide_eq_true hnj]
    have hb1:(nj != (tn:Int))=false:=by show (!(nj==(tn:Int)))=false;rw[hnj,beq_self_eq_true];rfl
    have Ho:=cH (HOne.out hr)
    clear Hrt hr HBad HOne Hlt hnj
    have r_x7:=cR x7
    have r_q1:=cR q1
    have r_y8:=cR y8
    go_wp2_with fail
    refine wQ ?_
    repeat (go_big_quiet_step (first|fail))
    refine wpQuiet_nil fun w7 B7=>?_
    have HDl7:=cH (HDl6.out.keep B7)
    have q0:=zAA B7 q0 (lL hQ5 HB6.out.size)
    clear r_x7 r_q1 r_y8 x7 q1 y8 B7
    have Hs:=cH (zFd C HC.out w7 (st.1,s2) S HDl7.out.pl at_ jl (by omega) (by omega) lb Hlz.out hs2l)
    go_wp2_with fail
    refine Hs.out.mono ?_
    rintro e w8 ⟨rfl,hP8,hF8⟩
    have Hend:=cH (HDl7.out.settle hP8 hF8)
    clear hP8 hF8 Hs q0
    go_wp2_with fail
    go_roundw
    case rel=>exact ⟨k+1,_,_,_,by omega,by go_num,rfl,rfl,Ho.out.1,by rw[Ho.out.2.1,Ho.out.2.2];exact Hend.out⟩
    case measure=>simp[intOf];omega
end Go.Proofs.YtminjjdnmpaaoaaGreatDoor
namespace Go.Proofs.YtminjjdnmpaaoaaGreatDoor
open Go Go.RowKit
def wdR {α:Type}:Result α→World
 | .ok _ w=>w
 | .halt _ w=>w
theorem zNb {α:Type} (a:Ask α):∀ (w:World),w.drawn≤(w.ask a).2.drawn:=by
 induction a with
 | done a=>intro w;exact nR _
 | ask what range k ih=>
   intro w
   rw[World.ask]
   split
   ·exact ih _ w
   ·exact nT (Nat.le_succ _) (ih _ { w with drawn:=w.drawn+1})
theorem zMs (w:World) (c:Sys):w.drawn≤(w.sys c).2.drawn:=by
 unfold World.sys
 split
 ·exact nR _
 ·rename_i h
  have:=zNb (Kernel.perform c w.os) w
  rw[h] at this
  exact this
theorem zFi {P:Program} {w w':World} {at_:Addr} {u:TypeId} {k:Addr} {v:Value} {b:Bool} {l:List Addr} (h:w.viewStore P at_ u k v b=.ok (w',l)):w'.drawn=w.drawn:=by
 unfold World.viewStore at h
 simp only[bind,Except.bind,pure,Except.pure,throw,throwThe,MonadExceptOf.throw,MonadExcept.throw] at h
 repeat' split at h
 all_goals first
  | (cases h;done)
  | (cases h;rfl)
theorem zD0 {P:Program} {w w':World} {a:Addr} {v:Value} {b:Bool} {l:List Addr} (h:w.farStore P a v b=.ok (w',l)):w'.drawn=w.drawn:=by
 unfold World.farStore at h
 split at h
 ·split at h
  ·rename_i h2
   cases h
   exact zFi h2
  ·cases h
 ·cases h
theorem zE0 (w:World) (a:Addr) (n:Nat):(w.freeze a n).drawn=w.drawn:=by
 unfold World.freeze
 split<;>rfl
theorem zLJ {α:Type} (P:Program) (s:Sem α):∀ w:World,w.drawn≤(wdR (s.run P w)).drawn:=by
 induction s with
 | pure a=>intro w;exact nR _
 | load m a k ih=>
   intro w
   unfold Sem.run
   split
   ·exact ih _ w
   ·split
    ·exact ih _ w
    ·exact nR _
 | store m a v k ih=>
   intro w
   rw[Sem.run.eq_def]
   split
   all_goals (rename_i heq;first|(cases heq;done)|cases heq)
   all_goals first
    | exact nR _
    | skip
   split
   ·split
    ·exact nR _
    ·exact ih (World.setCell _ _ _)
   ·split
    ·rename_i h
     exact nT (Nat.le_of_eq (zD0 h).symm) (ih _)
    ·exact nR _
 | new o k ih=>intro w;exact ih _ { w with heap:=w.heap.push o}
 | shape r k ih=>intro w;exact ih _ w
 | freeze a n k ih=>intro w;have:=ih (w.freeze a n);rw[zE0] at this;exact this
 | frozen a k ih=>intro w;exact ih _ w
 | getObj r k ih=>
   intro w
   unfold Sem.run
   split
   ·exact nR _
   ·exact ih _ w
   ·exact nR _
 | setObj r o k ih=>
   intro w
   unfold Sem.run
   split
   ·exact nR _
   ·exact ih { w with heap:=w.heap.setIfInBounds r o}
   ·exact nR _
 | choose q k ih=>
   intro w
   unfold Sem.run
   split
   ·exact ih _ w
   ·exact nT (Nat.le_succ _) (ih _ { w with drawn:=w.drawn+1})
 | sys c k ih=>intro w;exact nT (zMs w c) (ih _ _)
 | program k ih=>intro w;exact ih _ w
 | mark m k ih=>intro w;exact ih w
 | halt h=>intro w;exact nR _
theorem zGN {α:Type} (P:Program) (s:Sem α):∀ (w:World) (es:Array Event),w.drawn≤(wdR (s.runT P w es).1).drawn:=by
 induction s with
 | pure a=>intro w es;exact nR _
 | load m a k ih=>
   intro w es
   unfold Sem.runT
   split
   ·exact ih _ w _
   ·split
    ·exact ih _ w _
    ·exact nR _
 | store m a v k ih=>
   intro w es
   rw[Sem.runT.eq_def]
   split
   all_goals (rename_i heq;first|(cases heq;done)|cases heq)
   all_goals first
    | exact nR _
    | skip
   split
   ·split
    ·exact nR _
    ·exact ih (World.setCell _ _ _) _
   ·split
    ·rename_i h
     exact nT (Nat.le_of_eq (zD0 h).symm) (ih _ _)
    ·exact nR _
 | new o k ih=>intro w es;exact ih _ { w with heap:=w.heap.push o} _
 | shape r k ih=>intro w es;exact ih _ w _
 | freeze a n k ih=>intro w es;have:=ih (w.freeze a n) es;rw[zE0] at this;exact this
 | frozen a k ih=>intro w es;exact ih _ w _
 | getObj r k ih=>
   intro w es
   unfold Sem.runT
   split
   ·exact nR _
   ·exact ih _ w _
   ·exact nR _
 | setObj r o k ih=>
   intro w es
   unfold Sem.runT
   split
   ·exact nR _
   ·exact ih { w with heap:=w.heap.setIfInBounds r o} _
   ·exact nR _
 | choose q k ih=>
   intro w es
   unfold Sem.runT
   split
   ·exact ih _ w _
   ·exact nT (Nat.le_succ _) (ih _ { w with drawn:=w.drawn+1} _)
 | sys c k ih=>intro w es;exact nT (zMs w c) (ih _ _ _)
 | program k ih=>intro w es;exact ih _ w _
 | mark m k ih=>intro w es;exact ih w _
 | halt h=>intro w es;exact nR _
theorem zA7 {α:Type} {P:Program} {s:Sem α} {w w':World} {a:α} (h:s.run P w=.ok a w'):w.drawn≤w'.drawn:=by
 have:=zLJ P s w
 rw[h] at this
 exact this
theorem zMM {α:Type} {P:Program} {s:Sem α} {w w':World} {e:Halt} (h:s.run P w=.halt e w'):w.drawn≤w'.drawn:=by
 have:=zLJ P s w
 rw[h] at this
 exact this
theorem zC1 {α:Type} {P:Program} {s:Sem α} {w:World} {es es':Array Event} {r:Result α} (h:s.runT P w es=(r,es')):w.drawn≤(wdR r).drawn:=by
 have:=zGN P s w es
 rw[h] at this
 exact this
def upG (d:Nat):GStep→Prop
 | .go _ w _=>d≤w.drawn
 | .comm _ _ _ _ w _=>d≤w.drawn
 | .spawn _ _ w _=>d≤w.drawn
 | .count _ w _=>d≤w.drawn
 | .timer _ _ w _=>d≤w.drawn
 | .alone _ _ w _=>d≤w.drawn
 | .newcoro _ _ _ w _=>d≤w.drawn
 | .coroswitch _ _ _ w _=>d≤w.drawn
 | .collect _ w _=>d≤w.drawn
 | .watch _ w _=>d≤w.drawn
 | .ended _ _ _=>True
theorem zDQ {d:Nat} {es:Array Event} {g:GStep} (h:upG d g):upG d (g.after es):=by cases g<;>exact h
theorem zCP {d d':Nat} {g:GStep} (h:upG d' g) (hd:d≤d'):upG d g:=by
 cases g
 all_goals first
  | exact nT hd h
  | exact trivial
theorem zHC {d:Nat} {c:Prop} [Decidable c] {a b:GStep} (ha:c→upG d a) (hb:¬c→upG d b):upG d (if c then a else b):=by
 by_cases h:c
 ·rw[if_pos h];exact ha h
 ·rw[if_neg h];exact hb h
theorem zDm {P:Program} {main:Bool} {fr:Frame} {cs:List Frame} {dy:Option Dying} {v:Value} {w:World}:upG w.drawn (doReturn P main fr cs dy v w):=by
 unfold doReturn
 repeat' split
 all_goals first
  | exact nR _
  | exact trivial
theorem zLz {fr:Frame} {a:List ByteArray} {m:String} {b:Bool} {w:World}:upG w.drawn (dieOf fr a m b w):=nR _
theorem zCn {fr:Frame} {m:String} {w:World}:upG w.drawn (endThrow fr m w):=nR _
theorem zDY {P:Program} {fr:Frame} {v:Value} {w:World}:upG w.drawn (endPrinting P fr v w):=by
 unfold endPrinting
 simp only
 split
 ·exact zCn
 ·exact trivial
theorem zFQ {P:Program} {fr:Frame} {cs:List Frame} {dy:Option Dying} {m:String} {w:World}:upG w.drawn (endFatal P fr cs dy m w):=by
 unfold endFatal
 simp only
 split
 ·rename_i h
  exact zCP zLz (zA7 h)
 ·exact trivial
 ·exact trivial
theorem zJj {w:World} {fd:Nat} {t:ByteArray} {o:Outcome} {d:Nat}:upG d (endWith w fd t o):=by
 unfold endWith
 simp only
 repeat' split
 all_goals exact trivial
theorem zFX {P:Program} {fr:Frame} {cs:List Frame} {dy:Option Dying} {d:Deferred} {w:World}:upG w.drawn (callDeferred P fr cs dy d w):=by
 unfold callDeferred
 refine zHC (fun _=>trivial) (fun _=>?_)
 rcases hX:Sem.runT P (invoke d.target d.args) w #[] with ⟨r,es⟩
 have h:=zC1 hX
 clear hX
 simp only
 refine zDQ ?_
 split
 all_goals first
  | exact h
  | exact trivial
  | exact zCP zFQ h
  | exact zCP zCn h
  | (split<;>exact h)
theorem zLb {P:Program} {main:Bool} {fr:Frame} {cs:List Frame} {dy:Option Dying} {w:World}:upG w.drawn (unwind P main fr cs dy w):=by
 unfold unwind
 split
 ·rename_i block _ _ _
  rcases hX:Sem.runT P (Instr.takeDeferred block) w #[] with ⟨r,es⟩
  have h:=zC1 hX
  simp only
  refine zDQ ?_
  cases r with
  | ok a w'=>exact h
  | halt e w'=>exact trivial
 ·exact zFX
 ·split
  ·exact trivial
  ·refine zHC (fun _=>trivial) (fun _=>?_)
   split
   ·exact nR _
   ·split
    ·refine zHC (fun _=>nR _) (fun _=>?_)
     split
     ·rename_i h
      exact zA7 h
     ·exact trivial
     ·exact trivial
    ·split
     ·exact zDY
     ·exact trivial
  ·split
   ·exact zDm
   ·rename_i fn _
    rcases hX:Sem.runT P (results fn fr.tmps) w #[] with ⟨r,es⟩
    have h:=zC1 hX
    simp only
    refine zDQ ?_
    cases r with
    | ok a w'=>exact zCP zDm h
    | halt e w'=>cases e<;>exact trivial
theorem zJu {P:Program} {fr:Frame} {d:Dying} {f:Fatal} {w:World}:upG w.drawn (writeOn P fr d f w):=by
 unfold writeOn
 simp only
 split
 ·exact trivial
 ·split
  ·rename_i h
   exact zC1 h
  ·rename_i h
   exact zC1 h
  ·exact trivial
  ·exact trivial
theorem zNg {P:Program} {fr:Frame} {d:Dying} {w:World}:upG w.drawn (die P fr d w):=by
 unfold die
 split
 ·exact zJu
 ·split
  ·refine zHC (fun _=>nR _) (fun _=>zJj)
  ·simp only
   split
   ·exact nR _
   ·split
    ·rename_i h
     exact zA7 h
    ·exact trivial
   ·rename_i t recv name _
    rcases hX:Sem.runT P (invoke (.fn (.method name) #[]) #[.iface t recv]) w #[] with ⟨r,es⟩
    have h:=zC1 hX
    simp only
    refine zDQ ?_
    split
    ·exact h
    ·exact h
    ·exact trivial
    ·exact zCP zDY h
    ·exact trivial
   ·exact trivial
theorem zMQ {P:Program} {fr:Frame} {cs:List Frame} {dy:Option Dying} {g:Nat} {w:World}:upG w.drawn (early P fr cs dy g w):=by
 unfold early
 simp only
 repeat' first
  | exact nR _
  | exact trivial
  | exact (zA7 ‹Sem.run P (choose (Question.early g)) w=Result.ok _ _›:w.drawn≤_)
  | split
theorem zDq {P:Program} {li:Bool} {fr:Frame} {cs:List Frame} {dy:Option Dying} {s:Sem Next} {w:World}:upG w.drawn (stepG.apply P li fr cs dy s w):=by
 unfold stepG.apply
 simp only
 rcases hX:(if li then s.runT P w #[] else (s.run P w,#[])) with ⟨r,es⟩
 have h:w.drawn≤(wdR r).drawn:=by
  cases li with
  | true=>exact zC1 (by simpa using hX)
  | false=>
    have:r=s.run P w:=by simpa using (congrArg Prod.fst hX).symm
    rw[this]
    exact zLJ P s w
 clear hX
 simp only
 refine zDQ ?_
 split
 all_goals first
  | exact h
  | exact trivial
  | exact zCP zFQ h
  | exact zCP zCn h
  | exact zCP zMQ h
  | (refine zHC (fun _=>zCP zCn h) (fun _=>h))
  | ((repeat' split)<;>exact h)
theorem zKJ {P:Program} {li:Bool} {fr:Frame} {cs:List Frame} {dy:Option Dying} {w:World}:upG w.drawn (stepG.oper P li fr cs dy w):=by
 unfold stepG.oper
 repeat' split
 all_goals first
  | exact trivial
  | exact zDq
theorem zLQ {α:Type} {P:Program} {s:Sem α} {w w':World} {es:Array Event} {a:α} (h:(s.runT P w es).1=.ok a w'):w.drawn≤w'.drawn:=by
 have:=zGN P s w es
 rw[h] at this
 exact this
theorem zLr {α:Type} {P:Program} {s:Sem α} {w w':World} {es:Array Event} {e:Halt} (h:(s.runT P w es).1=.halt e w'):w.drawn≤w'.drawn:=by
 have:=zGN P s w es
 rw[h] at this
 exact this
theorem zKK {α:Type} {d:Nat} {o:Option α} {a:GStep} {f:α→GStep} (ha:upG d a) (hf:∀ x,upG d (f x)):upG d (o.elim a f):=by
 cases o
 ·exact ha
 ·exact hf _
theorem zMy {P:Program} {main:Bool} {li:Bool} {fr:Frame} {cs:List Frame} {dy:Option Dying} {w:World}:upG w.drawn (stepG.exec P main li fr cs dy w):=by
 unfold stepG.exec
 simp only
 split
 all_goals first
  | exact nR _
  | exact trivial
  | exact zDq
  | exact zKJ
  | skip
 all_goals
  repeat' first
   | exact nR _
   | exact trivial
   | exact zDq
   | exact zKJ
   | exact zCP zDm (zLQ (by assumption))
   | exact zCP zDq (zLQ (by assumption))
   | exact zLQ (by assumption)
   | exact zLr (by assumption)
   | exact zA7 (by assumption)
   | refine zKK ?_ (fun _=>nR _)
   | refine zKK trivial (fun _=>zDq)
   | refine zDQ ?_
   | split
theorem zMI {P:Program} {main:Bool} {g:Goroutine} {li:Bool} {w:World}:upG w.drawn (stepG P main g w li):=by
 unfold stepG
 simp only
 split
 ·exact zNg
 ·exact zMy
 ·exact zLb
def upS (d:Nat):Stepped→Prop
 | .next m=>d≤m.world.drawn
 | .ended _ _=>True
theorem zFj {rest:Rest} {cs:Array CommCase} {w w':World} (h:waitingAt rest cs w=some w'):w.drawn≤w'.drawn:=by
 unfold waitingAt at h
 repeat' split at h
 all_goals first
  | (cases h;exact nR _)
  | (cases h;done)
theorem zFg {P:Program} {rest:Rest} {gs:Array Goroutine} {i:Nat} {g:Goroutine} {cs:Array CommCase} {b:Bool} {sh:CommShape} {w:World}:upS w.drawn (communicate P rest gs i g cs b sh w).1:=by
 unfold communicate
 simp only
 repeat' first
  | exact nR _
  | exact trivial
  | exact zFj (by assumption)
  | exact zA7 (by assumption)
  | split
 all_goals (simp only[upS])
 all_goals first
  | exact zA7 (by assumption)
  | exact nT (zA7 (by assumption)) (zMM (by assumption))
  | exact nT (zA7 (by assumption)) (zA7 (by assumption))
theorem zKO {P:Program} {rest:Rest} {gs:Array Goroutine} {w:World}:upS w.drawn (look P gs rest w):=by
 unfold look
 simp only
 repeat' first
  | exact nR _
  | exact trivial
  | exact zA7 (by assumption)
  | split
 all_goals (simp only[upS])
 all_goals exact zA7 (by assumption)
theorem zMa {P:Program} {m:Machine} {k:Nat}:upS m.world.drawn (serve P m k):=by
 unfold serve
 simp only
 repeat' first
  | exact nR _
  | exact trivial
  | split
theorem zJK (w:World) (c:Nat):(drain w c).2.drawn=w.drawn:=by
 unfold drain
 split<;>rfl
theorem zE8 (m:Machine) (k:Nat) (t:Timer) (a b:Nat):(retime m k t a b).2.world.drawn=m.world.drawn:=by
 unfold retime
 simp only
 split
 ·exact zJK _ _
 ·rfl
theorem zIv {m:Machine} {var:Addr} {f:Nat→Timer→Value×Machine} {v:Value} {m':Machine} {d:Nat} (hf:∀ k t,(f k t).2.world.drawn=d) (h:timerOp.named m var f=.ok (v,m')):m'.world.drawn=d:=by
 unfold timerOp.named at h
 split at h
 ·rename_i k _
  have h2:=hf k (m.rest.timers.getD k default)
  injection h with h
  rw[h] at h2
  exact h2
 ·cases h
theorem zHF {m m':Machine} {op:TimerOp} {v:Value} (h:timerOp m op=.ok (v,m')):m'.world.drawn=m.world.drawn:=by
 unfold timerOp at h
 split at h
 ·repeat' split at h
  all_goals first
   | (cases h;rfl)
   | (cases h;done)
 ·exact zIv (fun k t=>zE8 _ _ _ _ _) h
 ·split at h
  ·rename_i m2 h2
   have:m2.world.drawn=m.world.drawn:=by
    unfold timerOp.opened at h2
    repeat' split at h2
    all_goals first
     | (cases h2;rfl)
     | (cases h2;done)
   rw[←this]
   exact zIv (fun k t=>zE8 _ _ _ _ _) h
  ·cases h
 ·cases h;rfl
theorem zC0 {d d':Nat} {s:Stepped} (h:upS d' s) (hd:d≤d'):upS d s:=by
 cases s
 ·exact nT hd h
 ·exact trivial
theorem zM7 {P:Program} {m:Machine} {i:Nat} {li:Bool}:upS m.world.drawn (Go.runT P m i li).1:=by
 unfold Go.runT
 rcases hs:m.gs.swapAt! i { (default:Goroutine) with status:=.finished} with ⟨g,gs⟩
 have h:=zMI (P:=P) (main:=i==0) (g:=g) (li:=li) (w:=m.world)
 simp only
 generalize stepG P (i==0) g m.world li=s at *
 split
 all_goals (simp only[upG] at h)
 all_goals first
  | exact h
  | exact trivial
  | exact zC0 zFg h
  | exact zC0 zKO h
  | (split<;>exact h)
  | (split<;>first|exact h|exact trivial)
  | skip
 ·split
  ·rename_i hq
   exact nT h (Nat.le_of_eq (zHF hq).symm)
  ·split
   ·rename_i hq
    cases hq
    exact h
   ·exact trivial
  ·exact trivial
  ·exact trivial
def upM (d:Nat):Move→Prop
 | .goroutine m _=>d≤m.world.drawn
 | .machine s _=>upS d s
theorem zKf {α:Type} {P:Program} {s:Sem α} {m:Machine} {t:Nat} {a:α} {w':World} (h:s.run P (m.advanceTo t).world=.ok a w'):m.world.drawn≤w'.drawn:=by
 have:=zA7 h
 exact this
theorem zGZ {P:Program} {m:Machine}:upM m.world.drawn (askOn P m):=by
 unfold askOn
 simp only
 split
 ·exact trivial
 ·rename_i k w1 h1
  have h1':=zA7 h1
  clear h1
  split
  ·exact zC0 zMa h1'
  ·split
   ·split
    ·exact h1'
    ·split
     ·exact h1'
     ·split<;>exact trivial
   ·split
    ·repeat' first
      | exact trivial
      | split
     all_goals (simp only[upM])
     all_goals first
      | exact nT h1' (zA7 (by assumption))
      | exact nT h1' (nT (zA7 (by assumption)) (zA7 (by assumption)))
    ·split
     ·exact trivial
     ·rename_i h2
      have h2':=nT h1' (zA7 h2)
      clear h2
      repeat' first
       | exact trivial
       | split
      all_goals (simp only[upM])
      all_goals first
       | exact nT h2' (zA7 (by assumption))
       | exact nT h2' (nT (zA7 (by assumption)) (zA7 (by assumption)))
     ·rename_i h2
      have h2':=nT h1' (zA7 h2)
      exact h2'
     ·rename_i h2
      have h2':=nT h1' (zA7 h2)
      clear h2
      repeat' first
       | exact trivial
       | split
      all_goals (simp only[upM])
      all_goals first
       | (have h3:=zKf ‹Sem.run P (choose (Question.sched _)) _=Result.ok _ _›;exact nT h2' h3)
       | (have h3:=zKf ‹Sem.run P (choose (Question.sched _)) _=Result.ok _ _›;exact nT h2' (nT h3 (zA7 (by assumption))))
theorem zI1 {d d':Nat} {s:Move} (h:upM d' s) (hd:d≤d'):upM d s:=by
 cases s
 ·exact nT hd h
 ·exact zC0 h hd
theorem zMw {P:Program} {m:Machine}:upM m.world.drawn (ask P m):=by
 unfold ask
 split
 ·split
  ·exact trivial
  ·rename_i h1
   have h2:=zC0 (zKO (P:=P) (rest:=m.rest) (gs:=m.gs)) (zA7 h1)
   split
   ·rename_i h3
    rw[h3] at h2
    exact zI1 zGZ h2
   ·exact h2
  ·rename_i h1
   exact zI1 zGZ (zA7 h1)
 ·exact zGZ
theorem zNP {P:Program} {m:Machine}:upM m.world.drawn (move P m):=by
 unfold move
 split
 ·split
  ·exact nR _
  ·exact trivial
 ·split
  ·split
   ·exact nR _
   ·exact zMw (m:={ m with rest:=_})
  ·exact zMw
theorem zNT {P:Program} {m:Machine}:upS m.world.drawn (step P m):=by
 unfold step stepT
 have h:=zNP (P:=P) (m:=m)
 split
 ·rename_i hq
  rw[hq] at h
  exact zC0 zM7 h
 ·rename_i hq
  rw[hq] at h
  exact h
theorem zK6 {P:Program}:∀ (n:Nat) (m:Machine),upS m.world.drawn (runN P n m)
 | 0,m=>nR _
 | n+1,m=>by
   have h:=zNT (P:=P) (m:=m)
   unfold runN
   split
   ·rename_i hq
    rw[hq] at h
    exact zC0 (zK6 n _) h
   ·exact h
theorem zMg {P:Program} {m m':Machine} (h:Steps P m m'):m.world.drawn≤m'.world.drawn:=by
 obtain ⟨n,hn⟩:=h
 have:=zK6 (P:=P) n m
 rw[hn] at this
 exact this
theorem Calls.drawn {P:Program} {f:FuncId} {args:Array Value} {w:World} {v:Value} {R:World→Prop} (h:Calls P f args w fun e w'=>e=.returned v∧R w') :
  Calls P f args w fun e w'=>e=.returned v∧R w'∧w.drawn≤w'.drawn:=fun cs=>by
 obtain ⟨e,w',fr,⟨rfl,hR⟩,hc,h1,h2⟩:=h cs
 exact ⟨_,w',fr,⟨rfl,hR,zMg (m:=lone (Frame.enter P f args .normal) cs w) (m':=lone fr cs w') hc⟩,hc,h1,h2⟩
end Go.Proofs.YtminjjdnmpaaoaaGreatDoor
namespace Go.Proofs
open Go.Shelf
def Tryz.sortDir_ren:Go.Shelf.Ren:=⟨fun|6=>24|15=>52|14=>51|28=>90|29=>91|20=>82|21=>83|22=>84|23=>85|24=>86|25=>87|26=>88|27=>89|46=>132|47=>133|48=>134|49=>135|50=>136|57=>159|n=>n,fun|22=>31|24=>54|25=>82|3=>3|39=>122|0=>0|53=>158|55=>160|4=>4|46=>151|45=>150|50=>155|5=>5|9=>9|66=>193|70=>197|76=>222|77=>223|n=>n,fun|n=>n⟩
theorem Tryz.sortDir:Go.Proofs.SlLaysF0.n6 Tryz.prog Tryz.sortDir_ren:={
 mixed:=by kernel_rfl
 f6:=⟨Tryz.f24.name,by decide,Tryz.func24.trans (congrArg some (by kernel_rfl))⟩
 f14:=⟨Tryz.f51.name,by decide,Tryz.func51.trans (congrArg some (by kernel_rfl))⟩
 f15:=Tryz.func52.trans (congrArg some (by kernel_rfl))
 f20:=⟨Tryz.f82.name,by decide,Tryz.func82.trans (congrArg some (by kernel_rfl))⟩
 f21:=⟨Tryz.f83.name,by decide,Tryz.func83.trans (congrArg some (by kernel_rfl))⟩
 f22:=⟨Tryz.f84.name,by decide,Tryz.func84.trans (congrArg some (by kernel_rfl))⟩
 f23:=⟨Tryz.f85.name,by decide,Tryz.func85.trans (congrArg some (by kernel_rfl))⟩
 f24:=⟨Tryz.f86.name,by decide,Tryz.func86.trans (congrArg some (by kernel_rfl))⟩
 f25:=⟨Tryz.f87.name,by decide,Tryz.func87.trans (congrArg some (by kernel_rfl))⟩
 f26:=⟨Tryz.f88.name,by decide,Tryz.func88.trans (congrArg some (by kernel_rfl))⟩
 f27:=⟨Tryz.f89.name,by decide,Tryz.func89.trans (congrArg some (by kernel_rfl))⟩
 f28:=Tryz.func90.trans (congrArg some (by kernel_rfl))
 f29:=Tryz.func91.trans (congrArg some (by kernel_rfl))
 f46:=⟨Tryz.f132.name,by decide,Tryz.func132.trans (congrArg some (by kernel_rfl))⟩
 f47:=Tryz.func133.trans (congrArg some (by kernel_rfl))
 f48:=Tryz.func134.trans (congrArg some (by kernel_rfl))
 f49:=⟨Tryz.f135.name,by decide,Tryz.func135.trans (congrArg some (by kernel_rfl))⟩
 f50:=⟨Tryz.f136.name,by decide,Tryz.func136.trans (congrArg some (by kernel_rfl))⟩
 f57:=⟨Tryz.f159.name,by decide,Tryz.func159.trans (congrArg some (by kernel_rfl))⟩
 t0:=Tryz.underlying0
 a0:=Tryz.isAgg0
 z0:=Tryz.sizeOf0
 v0:=Tryz.zeroValue0
 t3:=Tryz.underlying3
 a3:=Tryz.isAgg3
 z3:=Tryz.sizeOf3
 v3:=Tryz.zeroValue3
 t4:=Tryz.underlying4
 a4:=Tryz.isAgg4
 z4:=Tryz.sizeOf4
 v4:=Tryz.zeroValue4
 t5:=Tryz.underlying5
 a5:=Tryz.isAgg5
 z5:=Tryz.sizeOf5
 v5:=Tryz.zeroValue5
 t9:=Tryz.underlying9
 a9:=Tryz.isAgg9
 z9:=Tryz.sizeOf9
 v9:=Tryz.zeroValue9
 t22:=Tryz.underlying31
 a22:=Tryz.isAgg31
 z22:=Tryz.sizeOf31
 v22:=Tryz.zeroValue31
 t25:=Tryz.underlying82
 a25:=Tryz.isAgg82
 z25:=Tryz.sizeOf82
 v25:=Tryz.zeroValue82
 t39:=Tryz.underlying122
 a39:=Tryz.isAgg122
 z39:=Tryz.sizeOf122
 v39:=Tryz.zeroValue122
 t45:=Tryz.underlying150
 a45:=Tryz.isAgg150
 z45:=Tryz.sizeOf150
 v45:=Tryz.zeroValue150
 t46:=Tryz.underlying151
 a46:=Tryz.isAgg151
 z46:=Tryz.sizeOf151
 v46:=Tryz.zeroValue151
 t50:=Tryz.underlying155
 a50:=Tryz.isAgg155
 z50:=Tryz.sizeOf155
 v50:=Tryz.zeroValue155
 t53:=Tryz.underlying158
 a53:=Tryz.isAgg158
 z53:=Tryz.sizeOf158
 v53:=Tryz.zeroValue158
 t55:=Tryz.underlying160
 a55:=Tryz.isAgg160
 z55:=Tryz.sizeOf160
 v55:=Tryz.zeroValue160
 t66:=Tryz.underlying193
 a66:=Tryz.isAgg193
 z66:=Tryz.sizeOf193
 v66:=Tryz.zeroValue193
 t70:=Tryz.underlying197
 a70:=Tryz.isAgg197
 z70:=Tryz.sizeOf197
 v70:=Tryz.zeroValue197
 t76:=Tryz.underlying222
 a76:=Tryz.isAgg222
 z76:=Tryz.sizeOf222
 v76:=Tryz.zeroValue222
 t77:=Tryz.underlying223
 a77:=Tryz.isAgg223
 z77:=Tryz.sizeOf223
 v77:=Tryz.zeroValue223}
end Go.Proofs
