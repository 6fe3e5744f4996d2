/- The document's placer: the directories in order: walked. -/
import Derived.Test.YtminjjdnmpaaoaaGreatDoorSv18
import Derived.Test.YtminjjdnmpaaoaaGreatDoorSv12
import Derived.Test.YtminjjdnmpaaoaaGreatDoorSv09
import Derived.Test.YtminjjdnmpaaoaaGreatDoorSv19
import Derived.Test.YtminjjdnmpaaoaaGreatDoorSv22
import Derived.Test.YtminjjdnmpaaoaaGreatDoorSv21
import Derived.Test.YtminjjdnmpaaoaaGreatDoorSv04
import Derived.Deep.CutRange
import Derived.Test.YtminjjdnmpaaoaaGreatDoorSv10
import Derived.Test.YtminjjdnmpaaoaaGreatDoorSv11
import Derived.Test.YtminjjdnmpaaoaaGreatDoorAl
set_option linter.all false
set_option maxHeartbeats 12800000
set_option maxRecDepth 100000
namespace Go.Proofs.YtminjjdnmpaaoaaGreatDoor
open Go.Rows Go.RowKit Go.Shelf Go.Sort
theorem zLN (a b:ByteArray):(Op.bytesLess a.toList b.toList||a.toList==b.toList)=!lessB b a:=by
 show (lessB a b||a.toList==b.toList)=!lessB b a
 rw[zB3,zB3,Go.ByteArray.toList_eq,Go.ByteArray.toList_eq]
 generalize a.data.toList=x
 generalize b.data.toList=y
 by_cases h:y<x
 ·have h1:¬x<y:=List.lt_asymm h
  have h2:x≠y:=fun e=>by subst e;exact List.lt_irrefl _ h
  rw[decide_eq_true h,decide_eq_false h1,beq_eq_false_iff_ne.2 h2];rfl
 ·by_cases h1:x<y
  ·rw[decide_eq_true h1,decide_eq_false h];rfl
  ·have e:x=y:=List.le_antisymm (List.not_lt.1 h) (List.not_lt.1 h1)
   subst e
   rw[beq_self_eq_true,decide_eq_false h,Bool.or_true];rfl
theorem zJE {l:List Dir} {k:Nat} {d:Dir} (h:l[k]?=some d):sortD (l.take (k+1))=putD (sortD (l.take k)) d:=by
 unfold sortD
 rw[List.take_add_one,h,List.foldl_append]
 rfl
theorem zKX (l:List Dir):(sortD l).length=l.length:=(zDJ l).length_eq
theorem zH4 (A:Option Addr) (n c:Nat) (xs:List Dir) (w:World) (S:Nat→Prop) (hx:SlV rDir w S xs (.slice A n c)) (hn:n≤257) (hpl:∀ d∈xs,d.path.length≤1024) :
  Calls Tryz.prog 30 #[.agg #[.slice A n c]] w fun e w'=>∃ rv,e=.returned (.agg #[rv])∧SlV rDir w' (fun _=>True) (sortD xs) rv∧Below w.heap.size w w':=by
 have hne:=hx.n_eq
 have hxw:=hx.more (S':=fun b=>b<w.heap.size) fun b _ h=>h
 have HX:=cH hxw
 have Hne:=cH hne
 have Hpl:=cH hpl
 clear hx hxw hne hpl
 go_enter Tryz.func30,Tryz.ntmps30
 go_upto_region 1 with (fail)
 obtain ⟨w1,hw1⟩:∃ w1,w1=(w.alloc (.cells #[.slice A n c] 33)).alloc (.cells #[.slice none 0 0] 33):=⟨_,rfl⟩
 have hB1:Below w.heap.size w w1:=by rw[hw1];exact bal (bal (bR _ _) _) _
 have hq:=zGY w (.cells #[.slice A n c] 33) (.cells #[.slice none 0 0] 33)
 rw[←hw1] at hq ⊢
 have HB1:=cH hB1
 obtain ⟨IB,hIB⟩:∃ k,k=w.heap.size:=⟨_,rfl⟩
 obtain ⟨RB,hRB⟩:∃ k,k=w.heap.size+1:=⟨_,rfl⟩
 have hwI:w.heap.size≤IB:=by omega
 have hwR:w.heap.size≤RB:=by omega
 have HwR:=cH hwR
 have hIR:IB≠RB:=by omega
 rw[←hRB,←hIB] at hq
 rw[←hRB,←hIB]
 have hI1:IB<w1.heap.size:=(aS.1 hq.1).1
 have hR1:RB<w1.heap.size:=(aS.1 hq.2).1
 have HR1:=cH hR1
 have HQ:Hid (∀ W,Below w1.heap.size w1 W→W.cell? ⟨IB,0,none⟩=some (.slice A n c)∧W.heap[RB]?=some (.cells #[.slice none 0 0] 33 (0,0))):=fun W hW=>⟨zAA hW (cO _ _ 0 _ _ _ hq.1) hI1,(hW.block _ hR1).trans hq.2⟩
 clear hw1 hB1 hq hIB hRB hwI hwR hI1 hR1
 go_wp2_with fail
 go_loopw [3,4] (fun ov iv wr=>∃ (k:Nat) (vO:Value) (S':Nat→Prop) (Bs:Nat),k≤n∧vO=ov∧iv=.int .i64 (k:Int)∧Hid (Own rDir wr Bs 54 vO (sortD (xs.take k)) S')∧Hid (w1.heap.size≤Bs∧∀ b,S' b→b≠RB)∧Hid (Below w1.heap.size w1 wr)) (fun _ iv _=>n - (intOf iv).toNat)
 case atStart=>exact ⟨0,_,fun _=>False,w1.heap.size,nZ _,rfl,rfl,Own.nil_ _ _ _ _ (fun b h=>h.elim),⟨nR _,fun b h=>h.elim⟩,bR _ _⟩
 case round=>
  obtain ⟨k,vO,SO,Bs,hk,rfl,rfl,hO,hS,hB⟩:=hrel
  have hk0:(0:Int)≤(k:Int):=by omega
  have hLl:(sortD (xs.take k)).length=k:=by rw[zKX,List.length_take];have:=Hne.out;omega
  have HO:Hid (SlV rDir wr (fun b=>b≠RB) (sortD (xs.take k)) vO):=hO.out.slv.more fun b hb _=>by
   rcases hb with hb|hb
   ·exact hS.out.2 b hb
   ·have:=hS.out.1;have:=HR1.out;omega
  obtain ⟨OA,oc,hvO,hoc,_⟩:=hO.out.slv.val
  rw[hLl] at hvO hoc
  subst hvO
  obtain ⟨q0,_⟩:=HQ.out wr hB.out
  by_cases hlt:k<n
  case neg=>
   have hI:¬(k:Int)<(n:Int):=by omega
   have htk:xs.take k=xs:=List.take_of_length_le (by have:=Hne.out;omega)
   rw[htk] at HO
   have hrow:=cH (HQ.out wr hB.out).2
   have rf:wr.frozen? ⟨RB,0,none⟩=false:=zAZ hrow.out
   have rc:=cO _ _ 0 _ _ _ hrow.out
   obtain ⟨vO,hvO⟩:∃ v,v=Value.slice OA k oc:=⟨_,rfl⟩
   rw[←hvO] at HO
   have HBe:Hid (Below w.heap.size w (wr.setCell ⟨RB,0,none⟩ vO)):=(bot HB1.out hB.out).setCell (p:=⟨RB,0,none⟩) HwR.out _
   have HSe:Hid (SlV rDir (wr.setCell ⟨RB,0,none⟩ vO) (fun _=>True) (sortD xs) vO):=(HO.out.keep fun b hb _=>heap_setCell_other wr ⟨RB,0,none⟩ b _ hb).more fun _ _ _=>trivial
   clear hO hS htk HO
   subst hvO
   go_wp2_with fail
   refine bodyPost_ret (results_cell_row rfl _ _ RB 33 _ (0,0) _ rfl (zAt hrow.out _) Tryz.underlying33 rfl (by kernel_rfl)) rfl ⟨_,rfl,HSe.out,HBe.out⟩
  have hkn:(k:Int)<(n:Int):=by omega
  obtain ⟨d,hd⟩:∃ d,xs[k]?=some d:=⟨_,gE (by have:=Hne.out;omega)⟩
  obtain ⟨xb,xo,cs,hA,hxb,hxl,hh,hcell⟩:=(HX.out.belowSize (bot HB1.out hB.out)).elem hd
  obtain ⟨s0,s1,s2,s3,rfl,hp,hm0,hm1,hm2,hm3,hd1,hd2,hd3,hnd⟩:=hh
  obtain ⟨pA,pc,rfl,_,_⟩:=hp.val
  obtain ⟨a1,c1,rfl,_,_⟩:=hd1.val
  obtain ⟨a2,c2,rfl,_,_⟩:=hd2.val
  obtain ⟨a3,c3,rfl,_,_⟩:=hd3.val
  have HA:=cH hA
  clear hA
  have hC9:∀ W,Below wr.heap.size wr W→W.cell? ⟨xb,xo+k * 9,none⟩=some (.slice pA d.path.length pc)∧W.cell? ⟨xb,xo+k * 9+1,none⟩=some (.string d.pack.name)∧W.cell? ⟨xb,xo+k * 9+2,none⟩=some (.int .i64 d.pack.ver.major)∧W.cell? ⟨xb,xo+k * 9+3,none⟩=some (.int .i64 d.pack.ver.minor)∧W.cell? ⟨xb,xo+k * 9+4,none⟩=some (.int .i64 d.pack.ver.patch)∧W.cell? ⟨xb,xo+k * 9+5,none⟩=some (.slice a1 d.pack.deps.length c1)∧W.cell? ⟨xb,xo+k * 9+6,none⟩=some (.slice a2 d.pack.peers.length c2)∧W.cell? ⟨xb,xo+k * 9+7,none⟩=some (.slice a3 d.pack.opts.length c3)∧W.cell? ⟨xb,xo+k * 9+8,none⟩=some (.int .i64 d.node):=fun W hW=>
   ⟨zAA hW (hcell 0 _ rfl) hxl,zAA hW (hcell 1 _ rfl) hxl,zAA hW (hcell 2 _ rfl) hxl,zAA hW (hcell 3 _ rfl) hxl,zAA hW (hcell 4 _ rfl) hxl,zAA hW (hcell 5 _ rfl) hxl,zAA hW (hcell 6 _ rfl) hxl,zAA hW (hcell 7 _ rfl) hxl,zAA hW (hcell 8 _ rfl) hxl⟩
  have HC9:=cH hC9
  have HHd:Hid (∀ W S',Below wr.heap.size wr W→(∀ b,b<w.heap.size→S' b)→rDir.holds W S' d [.slice pA d.path.length pc,.string d.pack.name,.int .i64 d.pack.ver.major,.int .i64 d.pack.ver.minor,.int .i64 d.pack.ver.patch,.slice a1 d.pack.deps.length c1,.slice a2 d.pack.peers.length c2,.slice a3 d.pack.opts.length c3,.int .i64 d.node]):=fun W S' hW hS'=>
   ⟨_,_,_,_,rfl,(hp.belowSize hW).more fun b hb _=>hS' b hb,hm0,hm1,hm2,hm3,(hd1.belowSize hW).more fun b hb _=>hS' b hb,(hd2.belowSize hW).more fun b hb _=>hS' b hb,(hd3.belowSize hW).more fun b hb _=>hS' b hb,hnd⟩
  have hdp:d.path.length≤1024:=Hpl.out d (mG hd)
  have HTd:Hid (∀ W,Below wr.heap.size wr W→Calls Tryz.prog 61 #[.slice pA d.path.length pc] W fun e w'=>e=.returned (.string (textB d.path))∧Below W.heap.size W w'):=fun W hW=>(zCH _ _ _ d.path W _ (by omega) (hp.belowSize hW)).mono fun e w' ⟨h1,h2⟩=>⟨h1,by rw[←h2];exact bR _ _⟩
  have HLd:Hid (∀ g∈sortD (xs.take k),g.path.length≤1024):=fun g hg=>Hpl.out g (List.mem_of_mem_take ((zDJ _).mem_iff.1 hg))
  have HSt:Hid (sortD (xs.take (k+1))=putD (sortD (xs.take k)) d):=zJE hd
  have HlL:=cH hLl
  have HHO:=hO
  have HHS:=hS
  clear hp hm0 hm1 hm2 hm3 hd1 hd2 hd3 hnd hcell hC9 hd hLl hO hS
  generalize sortD (xs.take k)=L at *
  go_wp2_with fail
  clear q0
  generalize wr=wo at *
  go_loopw [5] (fun jv wj=>∃ j:Nat,j≤k∧jv=.int .i64 (j:Int)∧Hid (∀ x∈L.take j,(!lessB (textB d.path) (textB x.path))=true)∧Hid (Below wo.heap.size wo wj)) (fun jv _=>k - (intOf jv).toNat)
  case atStart=>exact ⟨0,nZ _,rfl,fun x hx=>by simp at hx,bR _ _⟩
  case round=>
   obtain ⟨j,hj,rfl,Hle,HBj⟩:=hrel
   have hj0:(0:Int)≤(j:Int):=by omega
   obtain ⟨q0,_⟩:=HQ.out wr (bot hB.out HBj.out)
   obtain ⟨y0,_⟩:=HC9.out wr HBj.out
   have HT2:=cH (qcall (w:=wr) (fun W hW=>HTd.out W (bot HBj.out hW)))
   rw[HA.out] at q0
   by_cases hC:∃ g,L[j]?=some g∧lessB (textB d.path) (textB g.path)=false
   ·obtain ⟨g,hg,hlt⟩:=hC
    have hjI:(j:Int)<(k:Int):=by have:=(gS.1 hg).1;have:=HlL.out;omega
    obtain ⟨ob,oo,cs,hOA,_,hob,hh,hcell⟩:=(HO.out.belowSize HBj.out).elem hg
    obtain ⟨s0,s1,s2,s3,rfl,hp,_⟩:=hh
    obtain ⟨gA,gc,rfl,_,_⟩:=hp.val
    have g0:=hcell 0 _ rfl
    simp only[rDir,Nat.add_zero] at g0
    have hgp:=HLd.out g (mG hg)
    have HT1:=cH (qcall (w:=wr) (fun W hW=>(zCH gA _ gc g.path W _ (by omega) (hp.belowSize hW)).mono fun e w' h=>⟨h.1,by rw[←h.2];exact bR _ _⟩))
    have Hle2:Hid (∀ x∈L.take (j+1),(!lessB (textB d.path) (textB x.path))=true):=fun x hx=>by
     rw[List.take_add_one,hg,List.mem_append] at hx
     rcases hx with hx|hx
     ·exact Hle.out x hx
     ·have:x=g:=by simpa using hx
      rw[this,hlt];rfl
    have hls:(Op.bytesLess (textB g.path).toList (textB d.path).toList||(textB g.path).toList==(textB d.path).toList)=true:=by rw[zLN,hlt];rfl
    subst hOA
    clear hlt Hle hp hcell hg
    generalize textB g.path=tg at *
    generalize textB d.path=td at *
    go_upto_region 6 with (fail)
    have r_q0:=cR q0
    have r_y0:=cR y0
    have r_g0:=cR g0
    go_wp2_with fail
    refine wQ ?_
    repeat (go_big_quiet_step (first|(with_reducible exact HT1.out _ _)|(with_reducible exact HT2.out _ _)))
    refine wpQuiet_nil fun w3 B3=>?_
    have HB3:=cH (bot HBj.out B3)
    clear q0 y0 g0 r_q0 r_y0 r_g0 B3 HBj
    go_wp2_with fail
    go_roundw
    case rel=>exact ⟨j+1,by omega,by go_num,Hle2,HB3⟩
    case measure=>simp[intOf];omega
   have Hput:Hid (putD L d=L.take j++d::L.drop j):=by
    obtain ⟨h1,h2⟩:=zE7 (fun g:Dir=>!lessB (textB d.path) (textB g.path)) L j Hle.out (by
     by_cases h:L.length≤j
     ·exact .inl h
     ·refine .inr ⟨L[j],gE (by omega),?_⟩
      cases hb:lessB (textB d.path) (textB L[j].path) with
      | true=>rfl
      | false=>exact absurd ⟨L[j],gE (by omega),hb⟩ hC)
    unfold Hid putD
    rw[h1,h2]
   clear Hle
   refine dite (j<k) (fun hpn=>?_) (fun hpn=>?_)
   focus
    have hjI:(j:Int)<(k:Int):=by omega
    obtain ⟨g,hg⟩:∃ g,L[j]?=some g:=⟨_,gE (by have:=HlL.out;omega)⟩
    have hlt:lessB (textB d.path) (textB g.path)=true:=by
     cases hb:lessB (textB d.path) (textB g.path) with
     | true=>rfl
     | false=>exact absurd ⟨g,hg,hb⟩ hC
    obtain ⟨ob,oo,cs,hOA,_,hob,hh,hcell⟩:=(HO.out.belowSize HBj.out).elem hg
    obtain ⟨s0,s1,s2,s3,rfl,hp,_⟩:=hh
    obtain ⟨gA,gc,rfl,_,_⟩:=hp.val
    have g0:=hcell 0 _ rfl
    simp only[rDir,Nat.add_zero] at g0
    have hgp:=HLd.out g (mG hg)
    have HT1:=cH (qcall (w:=wr) (fun W hW=>(zCH gA _ gc g.path W _ (by omega) (hp.belowSize hW)).mono fun e w' h=>⟨h.1,by rw[←h.2];exact bR _ _⟩))
    have hls:(Op.bytesLess (textB g.path).toList (textB d.path).toList||(textB g.path).toList==(textB d.path).toList)=false:=by rw[zLN,hlt];rfl
    clear hlt hp hcell hg hC
    generalize textB g.path=tg at *
    generalize textB d.path=td at *
    go_upto_region 6 with (fail)
    rw[hOA]
    have r_q0:=cR q0
    have r_y0:=cR y0
    have r_g0:=cR g0
    go_wp2_with fail
    refine wQ ?_
    repeat (go_big_quiet_step (first|(with_reducible exact HT1.out _ _)|(with_reducible exact HT2.out _ _)))
    refine wpQuiet_nil fun w4 B4=>?_
    have Q4:=cH B4
    clear q0 y0 g0 r_q0 r_y0 r_g0 B4
    rw[←hOA]
    clear hOA
    go_upto_region 8 with (fail)
   rotate_left
   focus
    have hpI:¬(j:Int)<(k:Int):=by omega
    have hpd:decide ((j:Int)<(k:Int))=false:=decide_eq_false hpI
    have hpdn:decide (j<k)=false:=decide_eq_false hpn
    clear hC
    generalize textB d.path=td at *
    go_upto_region 6 with (fail)
    have r_q0:=cR q0
    have r_y0:=cR y0
    go_wp2_with fail
    refine wQ ?_
    repeat (go_big_quiet_step (first|(with_reducible exact HT2.out _ _)))
    refine wpQuiet_nil fun w4 B4=>?_
    have Q4:=cH B4
    clear q0 y0 r_q0 r_y0 B4
    go_upto_region 8 with (fail)
   all_goals
    have hj9:j≤1000:=by omega
    have HBw4:Hid (Below wo.heap.size wo w4):=bot HBj.out Q4.out
    have hjc:j≤oc:=by omega
    have Hlt1:Hid ((L.take j).length=j):=by unfold Hid;rw[List.length_take,HlL.out];omega
    have HLs:Hid (SlV rDir w4 (fun b=>b≠RB∧b<w4.heap.size) L (.slice OA k oc)):=(HO.out.belowSize HBw4.out).more fun b hb hl=>⟨hb,hl⟩
    have HT3:Hid (SlV rDir w4 (fun b=>b≠RB∧b<w4.heap.size) (L.take j) (.slice OA j oc)):=SlV.take HLs.out (by rw[HlL.out];exact hj)
    have hz14:w1.heap.size≤w4.heap.size:=(bot hB.out HBw4.out).size
    have hzw4:w.heap.size≤w4.heap.size:=(bot HB1.out (bot hB.out HBw4.out)).size
    go_wp2_with (at_builtin;refine zAN (by rfl) _ _ _ (by rfl) zDp Tryz.underlying31 (by rfl) (Own.nil_ rDir w4 w4.heap.size 54 (S:=fun _=>False) (fun b h=>h.elim)) (fun b=>b≠RB∧b<w4.heap.size) (L.take j) _ _ _ (by rfl) HT3.out (by intro b hb he;simp[Value.ownBlock] at he) (by rw[Hlt1.out];simp[maxLen];omega) (by rw[Hlt1.out];simp;omega) (by simp) ?_)
    intro v5 w5 hown5 hgrow5 hat5
    have HB5:Hid (Below w4.heap.size w4 w5):=(bR _ _).grown hgrow5 (nR _) (fun k hk=>by simp[Value.ownBlock] at hk)
    obtain ⟨S5,hS5⟩:∃ S5:Nat→Prop,S5=(fun b=>¬b=RB∧b<w4.heap.size):=⟨_,rfl⟩
    have HO5:Hid (Own rDir w5 w4.heap.size 54 v5 (L.take j) S5):=by unfold Hid;rw[hS5];exact hown5
    have HS5a:Hid (∀ b,b<w.heap.size→S5 b):=fun b hb=>by
     rw[hS5]
     have h1:=HwR.out
     exact ⟨by omega,by omega⟩
    have HS5b:Hid (∀ b,S5 b→b≠RB):=fun b hb=>by
     rw[hS5] at hb
     exact hb.1
    have HBw5:=cH (bot HBw4.out HB5.out)
    have hz5:=HB5.out.size
    clear hown5 hgrow5 hat5 hS5
    obtain ⟨q0,_⟩:=HQ.out w5 (bot hB.out HBw5.out)
    rw[HA.out] at q0
    obtain ⟨y0,y1,y2,y3,y4,y5,y6,y7,y8⟩:=HC9.out w5 HBw5.out
    go_wp2_with (at_builtin;refine zAM (by rfl) _ _ _ (by rfl) zDp Tryz.underlying31 (by rfl) (HO5.out.alloc _) ⟨w5.heap.size,0,none⟩ 1 [.slice pA d.path.length pc,.string d.pack.name,.int .i64 d.pack.ver.major,.int .i64 d.pack.ver.minor,.int .i64 d.pack.ver.patch,.slice a1 d.pack.deps.length c1,.slice a2 d.pack.peers.length c2,.slice a3 d.pack.opts.length c3,.int .i64 d.node] d (by rfl) (HHd.out _ S5 (bal HBw5.out _) HS5a.out) (zAd w5 #[.slice pA d.path.length pc,.string d.pack.name,.int .i64 d.pack.ver.major,.int .i64 d.pack.ver.minor,.int .i64 d.pack.ver.patch,.slice a1 d.pack.deps.length c1,.slice a2 d.pack.peers.length c2,.slice a3 d.pack.opts.length c3,.int .i64 d.node] _) (by rw[Hlt1.out];unfold maxLen;omega) (by rw[Hlt1.out];omega) (by simp;omega) (w5.heap.size+1) (by simp) ?_)
    intro g9 cap9 w9 hown9 hgrow9 hat9 hlt9
    have HB9:=cH (zAw (bal HB5.out _) hgrow9 (HO5.out.alloc _) (nR _))
    have HO9:=cH hown9
    have Hlb9:=cH hown9.lt
    have hz9:=HB9.out.size
    have Hdl:Hid ((L.drop j).length=k - j):=by unfold Hid;rw[List.length_drop,HlL.out]
    have Hl9:Hid ((L.take j++[d]).length=j+1):=by unfold Hid;rw[List.length_append,Hlt1.out];rfl
    obtain ⟨X,hX⟩:∃ X,X=(if oc=j then OA else OA.map (fun x:Addr=>x.add (j * 9))):=⟨_,rfl⟩
    have HT4:Hid (SlV rDir w9 (fun b=>b≠RB∧b<w4.heap.size) (L.drop j) (.slice X (k - j) (oc - j))):=by
     unfold Hid
     rw[hX]
     exact SlV.cutD (HLs.out.belowSize HB9.out) j hj
    have hsl:∀ W,(Instr.slice 31 (.slice OA k oc) (some (.int .i64 (j:Int))) none none).run Tryz.prog W=.ok (.slice X (k - j) (oc - j)) W:=fun W=>by
     rw[hX]
     exact zCe (P:=Tryz.prog) (t:=31) (e:=54) (z:=9) Tryz.underlying31 (by kernel_rfl) (fun _=>by kernel_rfl) OA k oc j hj W
    clear hown9 hgrow9 hat9 hlt9 q0 y0 y1 y2 y3 y4 y5 y6 y7 y8 hX HT3 HLs HO5
    go_wp2_with (at_builtin;refine zAN (by rfl) _ _ _ (by rfl) zDp Tryz.underlying31 (by rfl) HO9.out (fun b=>b≠RB∧b<w4.heap.size) (L.drop j) _ _ _ (by rfl) HT4.out (by intro b hb he;have:=(Hlb9.out b he).1;omega) (by rw[Hl9.out,Hdl.out];unfold maxLen;omega) (by rw[Hl9.out,Hdl.out];omega) hz9 ?_)
    intro v6 w6 hown6 hgrow6 hat6
    have HB6:=cH (zAw HB9.out hgrow6 HO9.out (nR _))
    rw[←Hput.out,←HSt.out] at hown6
    have HO6:=cH hown6
    have HBall:=cH (bot hB.out (bot HBw4.out HB6.out))
    have HS6:Hid (∀ b,(S5 b∨((b≠RB∧b<w4.heap.size)∧b<w9.heap.size))→b≠RB):=fun b hb=>by
     rcases hb with hb|hb
     ·exact HS5b.out b hb
     ·exact hb.1.1
    clear hown6 hgrow6 hat6 HO9 HT4 hsl
    go_wp2_with fail
    go_roundw
    case rel=>
     exact ⟨k+1,_,_,_,by omega,rfl,by go_num,HO6.out,⟨hz14,HS6.out⟩,HBall.out⟩
    case measure=>simp[intOf];omega
theorem SlV.notB {α:Type} {r:Rp α} {w:World} {S S':Nat→Prop} {l:List α} {v:Value} {TB:Nat} (h:SlV r w S l v) (hS:∀ b,S b→b≠TB→S' b) (hh:∀ x cs,r.holds w S x cs→r.holds w S' x cs) (hne:∀ x cs,r.holds w S x cs→∃ (j:Nat) (u:Value),cs[j]?=some u∧∀ o:Nat,w.cell? ⟨TB,o,none⟩≠some u):SlV r w S' l v:=by
 obtain ⟨A',c',h1,h2,h3,h4,h5⟩:=h
 refine ⟨A',c',h1,h2,h3,h4,fun hn=>?_⟩
 obtain ⟨b,o,e,hSb,hb,hr⟩:=h5 hn
 refine ⟨b,o,e,hS b hSb ?_,hb,fun i x hx=>?_⟩
 ·intro eb
  subst eb
  obtain ⟨cs,g1,g2⟩:=hr 0 _ (gE hn)
  obtain ⟨j,u,k1,k2⟩:=hne _ _ g1
  exact k2 _ (g2 j u k1)
 ·obtain ⟨cs,g1,g2⟩:=hr i x hx
  exact ⟨cs,hh _ _ g1,g2⟩
theorem zDz {w:World} {TB:Nat} {t:TypeId} (h:w.heap[TB]?=some (.cells #[.slice none 0 0] t (0,0))) (o:Nat) (u:Value) (hu:∀ A n c,u≠.slice A n c):w.cell? ⟨TB,o,none⟩≠some u:=by
 cases o with
 | zero=>rw[cO _ _ 0 _ _ _ h];intro e;exact hu _ _ _ (Option.some.inj e).symm
 | succ o=>simp[World.cell?,h]
theorem zJP {w:World} {S:Nat→Prop} {l:List Dir} {v:Value} {TB:Nat} {t:TypeId} (h:SlV rDir w S l v) (hT:w.heap[TB]?=some (.cells #[.slice none 0 0] t (0,0))):SlV rDir w (fun b=>b≠TB) l v:=by
 have hs:∀ (xs:List ByteArray) v,SlV rStr w S xs v→SlV rStr w (fun b=>b≠TB) xs v:=fun xs v h=>h.notB (TB:=TB) (fun b _ hb=>hb) (fun x cs hh=>hh) fun x cs hh=>by
  obtain ⟨rfl,_⟩:=hh
  exact ⟨0,_,rfl,fun o=>zDz hT o _ (fun A n c e=>by cases e)⟩
 have hp:∀ (xs:List Spn) v,SlV rSpn w S xs v→SlV rSpn w (fun b=>b≠TB) xs v:=fun xs v h=>h.notB (TB:=TB) (fun b _ hb=>hb) (fun x cs hh=>hh) fun x cs hh=>by
  obtain ⟨rfl,_⟩:=hh
  exact ⟨0,_,rfl,fun o=>zDz hT o _ (fun A n c e=>by cases e)⟩
 have hd:∀ (xs:List Dep) v,SlV rDep w S xs v→SlV rDep w (fun b=>b≠TB) xs v:=fun xs v h=>h.notB (TB:=TB) (fun b _ hb=>hb) (fun x cs hh=>by
  obtain ⟨s0,g1,g2,g3⟩:=hh
  exact ⟨s0,g1,g2,hp _ _ g3⟩) fun x cs hh=>by
  obtain ⟨s0,rfl,_⟩:=hh
  exact ⟨0,_,rfl,fun o=>zDz hT o _ (fun A n c e=>by cases e)⟩
 refine h.notB (TB:=TB) (fun b _ hb=>hb) (fun x cs hh=>?_) fun x cs hh=>?_
 ·obtain ⟨s0,s1,s2,s3,rfl,hp,g1,g2,g3,g4,h1,h2,h3,g5⟩:=hh
  exact ⟨s0,s1,s2,s3,rfl,hs _ _ hp,g1,g2,g3,g4,hd _ _ h1,hd _ _ h2,hd _ _ h3,g5⟩
 ·obtain ⟨s0,s1,s2,s3,rfl,_⟩:=hh
  exact ⟨1,_,rfl,fun o=>zDz hT o _ (fun A n c e=>by cases e)⟩
theorem zFF (gA:Option Addr) (gn gc:Nat) (pA:Option Addr) (pn pc:Nat) (dec nod:Int) (oA:Option Addr) (on oc:Nat) (like:Bool) (ol:List Dir) (q:PlIn) (w:World) (S:Nat→Prop) (ht:Tab w) (hg:SlV rNode w S q.g (.slice gA gn gc)) (hp:SlV rPack w S q.ps (.slice pA pn pc)) (ho:SlV rDir w S ol (.slice oA on oc)) (hold:q.old=if like=true then some ol else none) (hoz:∀ d∈ol,d.path.length * 32≤140737488355328)
  (hdi:I64 q.dirs) (hpi:I64 q.path) (hgz:q.g.length≤1048576) (hpz:q.ps.length≤1048576) :
  Calls Tryz.prog 13 #[.agg #[.slice gA gn gc],.slice pA pn pc,.agg #[.int .i64 dec,.int .i64 nod,.int .i64 q.dirs,.int .i64 q.path],.agg #[.slice oA on oc],.bool like] w fun e w'=>
   ∃ rv,e=.returned (.tuple #[.agg #[rv],.int .i64 (zAy q).2])∧SlV rDir w' (fun _=>True) (zAy q).1 rv∧Below w.heap.size w w':=by
 obtain ⟨dd,hdd⟩:∃ d,d=q.dirs:=⟨_,rfl⟩
 obtain ⟨dp,hdp⟩:∃ d,d=q.path:=⟨_,rfl⟩
 rw[←hdd,←hdp]
 have Hdd:=cH hdd
 have Hdp:=cH hdp
 have HE1:Hid ((q.dirs<1∨256<q.dirs∨q.path<1∨1024<q.path)→zAy q=([],1)):=fun h=>zBd (by unfold zBN;rw[if_pos h])
 have HE2:Hid (¬(q.dirs<1∨256<q.dirs∨q.path<1∨1024<q.path)→zCL q.old=true→zAy q=([],42)):=fun h h2=>zBd (by unfold zBN;rw[if_neg h,if_pos h2])
 have HE3:Hid (¬(q.dirs<1∨256<q.dirs∨q.path<1∨1024<q.path)→zCL q.old=false→mayPl q.g q.ps=false→zAy q=([],33)):=fun h h2 h3=>zBd (by unfold zBN;rw[if_neg h,if_neg (by rw[h2];decide),if_pos h3])
 have HE4:Hid (¬(q.dirs<1∨256<q.dirs∨q.path<1∨1024<q.path)→zCL q.old=false→mayPl q.g q.ps=true→zBN q=dirsP q 258 0 ([dirZ0],[])):=fun h h2 h3=>by unfold zBN;rw[if_neg h,if_neg (by rw[h2];decide),if_neg (by rw[h3];decide)]
 have Ht:=cH ht
 have Hg:=cH (hg.more (S':=fun b=>b<w.heap.size) fun b _ h=>h)
 have Hp:=cH (hp.more (S':=fun b=>b<w.heap.size) fun b _ h=>h)
 have Ho:=cH (ho.more (S':=fun b=>b<w.heap.size) fun b _ h=>h)
 have Hold:=cH hold
 have Hoz:=cH hoz
 have Hi:Hid (I64 q.dirs∧I64 q.path∧q.g.length≤1048576∧q.ps.length≤1048576):=⟨hdi,hpi,hgz,hpz⟩
 have HNl:=fun (W:World)=>cH (SlV.nil_ rDir W (fun _=>True))
 clear ht hg hp ho hold hoz hdi hpi hgz hpz hdd hdp
 generalize hR:zAy q=R at *
 have HR:=cH hR
 clear hR
 go_enter Tryz.func13,Tryz.ntmps13
 go_upto_region 1 with (fail)
 obtain ⟨w3,hw3⟩:∃ w3,w3=(((w.alloc (.cells #[.slice gA gn gc] 24)).alloc (.cells #[.int .i64 dec,.int .i64 nod,.int .i64 dd,.int .i64 dp] 30)).alloc (.cells #[.slice oA on oc] 33)).alloc (.cells #[.slice none 0 0] 33):=⟨_,rfl⟩
 have hz1:(w.alloc (.cells #[.slice gA gn gc] 24)).heap.size=w.heap.size+1:=by simp
 have hz2:((w.alloc (.cells #[.slice gA gn gc] 24)).alloc (.cells #[.int .i64 dec,.int .i64 nod,.int .i64 dd,.int .i64 dp] 30)).heap.size=w.heap.size+2:=by simp
 have hz3:(((w.alloc (.cells #[.slice gA gn gc] 24)).alloc (.cells #[.int .i64 dec,.int .i64 nod,.int .i64 dd,.int .i64 dp] 30)).alloc (.cells #[.slice oA on oc] 33)).heap.size=w.heap.size+3:=by simp
 have hB3:Below w.heap.size w w3:=by rw[hw3];exact bal (bal (bal (bal (bR _ _) _) _) _) _
 have hq1:w3.heap[w.heap.size]?=some (.cells #[.slice gA gn gc] 24 (0,0)):=by
  rw[hw3];exact (Below.heap_alloc _ _ _ (by rw[hz3];omega)).trans ((Below.heap_alloc _ _ _ (by rw[hz2];omega)).trans ((Below.heap_alloc _ _ _ (by rw[hz1];omega)).trans (zAD _ _)))
 have hq2:w3.heap[w.heap.size+1]?=some (.cells #[.int .i64 dec,.int .i64 nod,.int .i64 dd,.int .i64 dp] 30 (0,0)):=by
  rw[hw3,←hz1];exact (Below.heap_alloc _ _ _ (by rw[hz3,hz1];omega)).trans ((Below.heap_alloc _ _ _ (by simp)).trans (zAD _ _))
 have hq4:w3.heap[w.heap.size+2]?=some (.cells #[.slice oA on oc] 33 (0,0)):=by
  rw[hw3,←hz2];exact (Below.heap_alloc _ _ _ (by simp)).trans (zAD _ _)
 have hq3:w3.heap[w.heap.size+3]?=some (.cells #[.slice none 0 0] 33 (0,0)):=by
  rw[hw3,←hz3];exact zAD _ _
 rw[←hw3]
 have HB3:=cH hB3
 obtain ⟨GB,hGB⟩:∃ k,k=w.heap.size:=⟨_,rfl⟩
 obtain ⟨LB,hLB⟩:∃ k,k=w.heap.size+1:=⟨_,rfl⟩
 obtain ⟨OB,hOB⟩:∃ k,k=w.heap.size+2:=⟨_,rfl⟩
 obtain ⟨TB,hTB⟩:∃ k,k=w.heap.size+3:=⟨_,rfl⟩
 rw[←hGB] at hq1
 rw[←hLB] at hq2
 rw[←hOB] at hq4
 rw[←hTB] at hq3
 have HTB:Hid (w.heap.size≤TB):=by unfold Hid;omega
 have hlt1:GB<w3.heap.size:=(aS.1 hq1).1
 have hlt2:LB<w3.heap.size:=(aS.1 hq2).1
 have hlt3:TB<w3.heap.size:=(aS.1 hq3).1
 have hlt4:OB<w3.heap.size:=(aS.1 hq4).1
 have HQ:Hid (∀ W,Below w3.heap.size w3 W→W.heap[GB]?=some (.cells #[.slice gA gn gc] 24 (0,0))∧W.heap[LB]?=some (.cells #[.int .i64 dec,.int .i64 nod,.int .i64 dd,.int .i64 dp] 30 (0,0))∧W.heap[OB]?=some (.cells #[.slice oA on oc] 33 (0,0))∧W.heap[TB]?=some (.cells #[.slice none 0 0] 33 (0,0))):=fun W hW=>⟨(hW.block _ hlt1).trans hq1,(hW.block _ hlt2).trans hq2,(hW.block _ hlt4).trans hq4,(hW.block _ hlt3).trans hq3⟩
 have HEr:Hid (∀ W,Below w3.heap.size w3 W→W.heap[TB]?=some (.cells #[.slice none 0 0] 33 (0,0))∧W.frozen? ⟨TB,0,none⟩=false∧W.cell? ⟨TB,0,none⟩=some (.slice none 0 0)∧Below w.heap.size w (W.setCell ⟨TB,0,none⟩ (.slice none 0 0))):=fun W hW=>by
  have h:=(hW.block _ hlt3).trans hq3
  exact ⟨h,zAZ h,cO _ _ 0 _ _ _ h,(bot HB3.out hW).setCell (p:=⟨TB,0,none⟩) HTB.out _⟩
 rw[←hTB,←hOB,←hLB,←hGB]
 clear hw3 hz1 hz2 hz3 hB3 hGB hLB hOB hTB
 have l2:=cO _ _ 2 _ _ _ hq2
 have l3:=cO _ _ 3 _ _ _ hq2
 have o0:=cO _ _ 0 _ _ _ hq4
 obtain ⟨t0,tf,tc,tb⟩:=HEr.out w3 (bR _ _)
 have Ht0:=cH t0
 have Htb:=cH tb
 clear hq1 hq2 hq3 hq4 t0 tb
 by_cases h1:dd<1
 case pos=>
  have Hr:=cH (HE1.out (.inl (by rw[←Hdd.out];exact h1)))
  clear HE1 HE2 HE3 HE4
  go_wp2_with fail
  refine zA6 rfl rfl rfl rfl (zAt Ht0.out _) Tryz.underlying33 rfl (by kernel_rfl) ⟨.slice none 0 0,?_,?_,Htb.out⟩
  ·rw[Hr.out];rfl
  ·rw[Hr.out];exact (HNl _).out
 by_cases h2:256<dd
 case pos=>
  have Hr:=cH (HE1.out (.inr (.inl (by rw[←Hdd.out];exact h2))))
  clear HE1 HE2 HE3 HE4
  go_wp2_with fail
  refine zA6 rfl rfl rfl rfl (zAt Ht0.out _) Tryz.underlying33 rfl (by kernel_rfl) ⟨.slice none 0 0,?_,?_,Htb.out⟩
  ·rw[Hr.out];rfl
  ·rw[Hr.out];exact (HNl _).out
 by_cases h3:dp<1
 case pos=>
  have Hr:=cH (HE1.out (.inr (.inr (.inl (by rw[←Hdp.out];exact h3)))))
  clear HE1 HE2 HE3 HE4
  go_wp2_with fail
  refine zA6 rfl rfl rfl rfl (zAt Ht0.out _) Tryz.underlying33 rfl (by kernel_rfl) ⟨.slice none 0 0,?_,?_,Htb.out⟩
  ·rw[Hr.out];rfl
  ·rw[Hr.out];exact (HNl _).out
 by_cases h4:1024<dp
 case pos=>
  have Hr:=cH (HE1.out (.inr (.inr (.inr (by rw[←Hdp.out];exact h4)))))
  clear HE1 HE2 HE3 HE4
  go_wp2_with fail
  refine zA6 rfl rfl rfl rfl (zAt Ht0.out _) Tryz.underlying33 rfl (by kernel_rfl) ⟨.slice none 0 0,?_,?_,Htb.out⟩
  ·rw[Hr.out];rfl
  ·rw[Hr.out];exact (HNl _).out
 have Hlim:Hid (¬(q.dirs<1∨256<q.dirs∨q.path<1∨1024<q.path)):=by unfold Hid;rw[←Hdd.out,←Hdp.out];omega
 have hdz:dd≤256:=by omega
 have hpz:dp≤1024:=by omega
 clear HE1
 go_upto_if 39 with fail
 go_cut [12] from 40 to 44 (fun v wx=>zCL q.old=false∧Hid (Below w3.heap.size w3 wx))
 case first=>
  cases hlk:like with
  | false=>
    have hbo:zCL q.old=false:=by rw[Hold.out,hlk];rfl
    subst hlk
    go_wp2_with fail
    go_meet
    exact ⟨hbo,bR _ _⟩
  | true=>
    have hbo:zCL q.old=decide (zBA ol≠0):=by rw[Hold.out,hlk];rfl
    have HCh:=cH (zHW oA on oc ol w3 _ Hoz.out (Ho.out.belowSize HB3.out))
    have Hbo:=cH hbo
    have HE2':=cH (fun h=>HE2.out Hlim.out h)
    clear hbo HE2 HE3 HE4
    subst hlk
    generalize zBA ol=ce at *
    go_wp2_with fail
    refine HCh.out.mono ?_
    rintro e w5 ⟨rfl,B5⟩
    by_cases hc:ce=0
    ·subst hc
     clear HE2'
     go_wp2_with fail
     go_meet
     exact ⟨by rw[Hbo.out];rfl,B5⟩
    ·have hcb:(ce != 0)=true:=by show (!(ce==0))=true;rw[beq_eq_false_iff_ne.2 hc];rfl
     have Hr:=cH (HE2'.out (by rw[Hbo.out];exact decide_eq_true hc))
     obtain ⟨t0,tf,tc,tb⟩:=HEr.out w5 B5
     have Ht0:=cH t0
     have Htb:=cH tb
     clear hc HE2' t0 tb B5 l2 l3 o0
     go_wp2_with fail
     refine zA6 rfl rfl rfl rfl (zAt Ht0.out _) Tryz.underlying33 rfl (by kernel_rfl) ⟨.slice none 0 0,?_,?_,Htb.out⟩
     ·rw[Hr.out];rfl
     ·rw[Hr.out];exact (HNl _).out
 case rest=>
 obtain ⟨hbo,HB4⟩:=hcut
 have HC4:Hid (Below w3.heap.size w3 wc):=HB4
 generalize wc=w4 at *
 clear l2 l3 o0 tf tc Ht0 Htb HE2
 have HE3':=cH (HE3.out Hlim.out hbo)
 have HE4':=cH (HE4.out Hlim.out hbo)
 have HBw4:Hid (Below w.heap.size w w4):=bot HB3.out HC4.out
 obtain ⟨gq,lq,oq,tq⟩:=HQ.out w4 HC4.out
 have g0:=cO _ _ 0 _ _ _ gq
 have HMy:=cH (zHd gA gn gc pA pn pc q.g q.ps w4 _ (Hg.out.belowSize HBw4.out) (Hp.out.belowSize HBw4.out))
 clear HE3 HE4 hbo gq lq oq tq HB4
 cases hmy:mayPl q.g q.ps with
 | false=>
   have Hr:=cH (HE3'.out hmy)
   rw[hmy] at HMy
   clear HE3' HE4' hmy
   go_wp2_with fail
   refine HMy.out.mono ?_
   rintro e w6 ⟨rfl,B6⟩
   obtain ⟨t0,tf,tc,tb⟩:=HEr.out w6 (bot HC4.out B6)
   have Ht0:=cH t0
   have Htb:=cH tb
   clear t0 tb
   go_wp2_with fail
   refine zA6 rfl rfl rfl rfl (zAt Ht0.out _) Tryz.underlying33 rfl (by kernel_rfl) ⟨.slice none 0 0,?_,?_,Htb.out⟩
   ·rw[Hr.out];rfl
   ·rw[Hr.out];exact (HNl _).out
 | true=>
 have HE:=cH (HE4'.out hmy)
 have HMp:=cH hmy
 rw[hmy] at HMy
 clear HE3' HE4' hmy
 go_wp2_with fail
 refine HMy.out.mono ?_
 rintro e w6 ⟨rfl,B6⟩
 have HB46:=cH (bot HC4.out B6)
 have HBw6:=cH (bot HBw4.out B6)
 clear B6 HMy g0 HC4 HBw4
 generalize w6=w4 at *
 obtain ⟨gq,lq,oq,tq⟩:=HQ.out w4 HB46.out
 have g0:=cO _ _ 0 _ _ _ gq
 have l0:=cO _ _ 0 _ _ _ lq
 have l1:=cO _ _ 1 _ _ _ lq
 have l2:=cO _ _ 2 _ _ _ lq
 have l3:=cO _ _ 3 _ _ _ lq
 have o0:=cO _ _ 0 _ _ _ oq
 have Htq:=cH tq
 have Hgq:=cH gq
 clear gq lq oq tq HQ HEr
 go_upto_region 11 with (fail)
 obtain ⟨w5,hw5⟩:∃ w5,w5=(w4.alloc (.cells #[.slice none 0 0,.string ⟨#[]⟩,.int .i64 0,.int .i64 0,.int .i64 0,.slice none 0 0,.slice none 0 0,.slice none 0 0,.int .i64 0] 54)).alloc (.cells #[.slice gA gn gc,.slice pA pn pc,.int .i64 dec,.int .i64 nod,.int .i64 dd,.int .i64 dp,.slice oA on oc,.bool like,.slice (some ⟨w4.heap.size,0,none⟩) 1 1,.slice none 0 0] 87):=⟨_,rfl⟩
 have hB5:Below w4.heap.size w4 w5:=by rw[hw5];exact bal (bal (bR _ _) _) _
 have hq5:=zGY w4 (.cells #[.slice none 0 0,.string ⟨#[]⟩,.int .i64 0,.int .i64 0,.int .i64 0,.slice none 0 0,.slice none 0 0,.slice none 0 0,.int .i64 0] 54) (.cells #[.slice gA gn gc,.slice pA pn pc,.int .i64 dec,.int .i64 nod,.int .i64 dd,.int .i64 dp,.slice oA on oc,.bool like,.slice (some ⟨w4.heap.size,0,none⟩) 1 1,.slice none 0 0] 87)
 rw[←hw5] at hq5 ⊢
 obtain ⟨C,hC⟩:∃ C:DlCtx,C=⟨w4,w4.heap.size+1,gA,gn,gc,pA,pn,pc,dec,nod,oA,on,oc,like,ol,q⟩:=⟨_,rfl⟩
 have hCok:C.Ok:=by
  rw[hC]
  exact ⟨zAY Ht.out HBw6.out,(Hg.out.belowSize HBw6.out).more fun b _ h=>h,(Hp.out.belowSize HBw6.out).more fun b _ h=>h,(Ho.out.belowSize HBw6.out).more fun b _ h=>h,Hold.out,Hoz.out,Nat.le_succ _,Hi.out.1,Hi.out.2.1,Hi.out.2.2.1,Hi.out.2.2.2⟩
 have hPs:DlWd C w5 ([dirZ0],[]):=by
  refine DlS.made C hCok (DB:=w4.heap.size) (by rw[hC];exact nR _) (by rw[hC];exact (Nat.ne_of_lt (Nat.lt_succ_self _))) hq5.1 ?_ (by rw[hC];exact hB5)
  rw[hC]
  show w5.heap[w4.heap.size+1]?=_
  rw[hq5.2,Hdd.out,Hdp.out]
  rfl
 have hCP:w4.heap.size+1=C.P:=by rw[hC]
 have HCok:=cH hCok
 have HPs:=cH hPs
 have HCw:Hid (C.w0=w4):=by unfold Hid;rw[hC]
 have HCq:Hid (C.q=q):=by unfold Hid;rw[hC]
 have HCg:Hid (C.gA=gA∧C.gn=gn):=by unfold Hid;rw[hC];exact ⟨rfl,rfl⟩
 have hGB4:GB<w4.heap.size:=(aS.1 Hgq.out).1
 have HTq:Hid (∀ W,Below C.w0.heap.size C.w0 W→W.heap[TB]?=some (.cells #[.slice none 0 0] 33 (0,0))∧W.frozen? ⟨TB,0,none⟩=false∧W.cell? ⟨TB,0,none⟩=some (.slice none 0 0)∧(∀ v,Below w.heap.size w (W.setCell ⟨TB,0,none⟩ v))∧W.cell? ⟨GB,0,none⟩=some (.slice gA gn gc)):=fun W hW=>by
  rw[HCw.out] at hW
  have h:=(hW.block _ (aS.1 Htq.out).1).trans Htq.out
  exact ⟨h,zAZ h,cO _ _ 0 _ _ _ h,fun v=>(bot HBw6.out hW).setCell (p:=⟨TB,0,none⟩) HTB.out _,zAA hW (cO _ _ 0 _ _ _ Hgq.out) hGB4⟩
 rw[hCP]
 clear hw5 hB5 hq5 hC hCok hPs hCP g0 l0 l1 l2 l3 o0 hGB4 Hgq Htq
 go_wp2_with fail
 go_loopw [15] (fun t wr=>∃ (k:Nat) (stk:PlSt),k≤257∧t=.int .i64 k∧Hid (DlWd C wr stk∧PlInv q k [] stk∧stk.2.length≤k * 384∧dirsP q (258 - k) k stk=zBN q)) (fun t _=>258 - (intOf t).toNat)
 case atStart=>exact ⟨0,([dirZ0],[]),by decide,rfl,HPs.out,PlInv.start _,nZ _,HE.out.symm⟩
 case round=>
  clear HPs HE
  obtain ⟨k,stk,hk,rfl,hh⟩:=hrel
  have HPw:=cH hh.1
  have HIn:=cH hh.2.1
  have HLn:=cH hh.2.2.1
  have HGo:=cH hh.2.2.2
  have hlen257:=hh.2.1.len
  clear hh
  obtain ⟨A,c,A',c',hr⟩:=HPw.out.read
  have x8:=hr.c8
  have Hr8:=cH hr
  have hk0:(0:Int)≤(k:Int):=by omega
  obtain ⟨N,hN⟩:∃ N,N=stk.1.length:=⟨_,rfl⟩
  rw[←hN] at x8 hlen257
  have HN:=cH hN
  clear hN hr
  obtain ⟨t0,tf,tc,tb,g0⟩:=HTq.out wr HPw.out.base
  clear t0 tf tc tb
  by_cases hlt:k<N
  case neg=>
   have hI:¬(k:Int)<(N:Int):=by omega
   have Hr:Hid (R=(sortD stk.1,0)):=by
    unfold Hid
    rw[←HR.out]
    exact zEt (by rw[←HGo.out,zD6 (by rw[←HN.out];exact hlt)])
   have HSo:=cH (zH4 A N c stk.1 wr _ (by rw[HN.out];exact Hr8.out.dirs) (by omega) (fun d hd=>nT (zDq (HIn.out.names d hd).1) (HIn.out.names d hd).2))
   clear HGo hlt
   go_wp2_with fail
   refine HSo.out.mono ?_
   rintro e w7 ⟨rv,rfl,hs7,hb7⟩
   obtain ⟨t0,tf,tc,tb,_⟩:=HTq.out w7 (bot HPw.out.base hb7)
   obtain ⟨vA,vc,rfl,_,_⟩:=hs7.val
   have HSl:Hid (SlV rDir (w7.setCell ⟨TB,0,none⟩ (.slice vA (sortD stk.1).length vc)) (fun _=>True) (sortD stk.1) (.slice vA (sortD stk.1).length vc)):=((zJP hs7 t0).keep fun b hb _=>heap_setCell_other w7 ⟨TB,0,none⟩ b _ hb).more fun _ _ _=>trivial
   have Ht0:=cH t0
   have Htb:=cH (tb (.slice vA (sortD stk.1).length vc))
   clear t0 tb hs7 hb7 x8 g0 HSo
   generalize (sortD stk.1).length=sl at *
   go_wp2_with fail
   refine zA6 rfl rfl rfl rfl (zAt Ht0.out _) Tryz.underlying33 rfl (by kernel_rfl) ⟨.slice vA sl vc,?_,?_,Htb.out⟩
   ·rw[Hr.out];rfl
   ·rw[Hr.out];exact HSl.out
  have hkn:(k:Int)<(N:Int):=by omega
  obtain ⟨f,hf⟩:∃ f,258 - k=f+1:=⟨257 - k,by omega⟩
  have HSt:Hid (zBN q=match dirP q k stk with|.error c=>.error c|.ok st'=>dirsP q f (k+1) st'):=by
   unfold Hid;rw[←HGo.out,hf,zB5 (by rw[←HN.out];exact hlt)];cases dirP q k stk<;>rfl
  have hfe:f=258 - (k+1):=by omega
  subst hfe
  obtain ⟨d,hd⟩:∃ d,stk.1[k]?=some d:=⟨_,gE (by rw[←HN.out];exact hlt)⟩
  obtain ⟨j,hj,hjl⟩:∃ j:Nat,d.node=(j:Int)∧j<q.g.length:=by
   have h1:=(zCy HMp.out).1
   by_cases h0:k=0
   ·rw[h0] at hd
    exact ⟨0,(HIn.out.root d hd).2.1,by omega⟩
   ·obtain ⟨h2,h3,_⟩:=HIn.out.node k d hd h0
    exact ⟨d.node.toNat,by omega,by omega⟩
  obtain ⟨n,hn⟩:∃ n,q.g[j]?=some n:=⟨_,gE hjl⟩
  obtain ⟨b,o,qA,qc,hA,hbl,_,y8,_,_,_⟩:=Hr8.out.dir hd
  rw[hj] at y8
  obtain ⟨gb,go,yA,yc,eA,ec,hgA,hgb,hgn,_,_,_,_,_,n5,_,hedg,_⟩:=Hr8.out.node HCok.out HPw.out.base (i:=j) (n:=n) (by rw[HCq.out];exact hn)
  have hgA2:gA=some ⟨gb,go,none⟩:=by rw[←HCg.out.1];exact hgA
  rw[hgA2] at g0
  rw[HCg.out.2] at hgn
  have HEd:Hid (∀ W,Below C.w0.heap.size C.w0 W→SlV rEdge W (fun b=>b<C.w0.heap.size) n.edges (.slice eA n.edges.length ec)):=fun W hW=>hedg.keep fun b hb _=>(hW.block b hb).trans (HPw.out.base.block b hb).symm
  have hm128:=zHC HMp.out hn
  have HDk:Hid (DocK q k n d (dirP q k stk) 1 stk):=DocK.start HIn.out hd hj hn HLn.out
  have Hn:=cH hn
  have Hj:=cH hj
  have hj0:(0:Int)≤(j:Int):=by omega
  have hjI:(j:Int)<(gn:Int):=by omega
  have hgcap:=zAi Hg.out
  have hlN:=Hr8.out.len.1
  rw[←HN.out] at hlN
  obtain ⟨ne,hne⟩:∃ k,k=n.edges.length:=⟨_,rfl⟩
  rw[←hne] at n5 HEd hm128
  have Hne:=cH hne
  clear hgA hgA2 hedg hn hj hjl hf HGo hd hne HIn
  subst hA
  go_upto_region 14 with (fail)
  have r_g0:=cR g0
  have r_x8:=cR x8
  have r_y8:=cR y8
  have r_n5:=cR n5
  go_wp2_with fail
  refine wQ ?_
  repeat (go_big_quiet_step (first|fail))
  refine wpQuiet_nil fun w6 B6=>?_
  have HP6:=cH (HPw.out.keep B6)
  clear r_g0 r_x8 r_y8 r_n5 g0 x8 y8 n5 B6 HPw Hr8
  generalize dirP q k stk=RD at *
  go_wp2_with fail
  go_loopw [17] (fun t wr=>∃ (kd:Nat) (s2:PlSt),1≤kd∧kd≤4∧t=.int .i64 (kd:Int)∧Hid (DocK q k n d RD kd s2∧DlWd C wr s2)) (fun t _=>4 - (intOf t).toNat)
  case atStart=>exact ⟨1,stk,by decide,by decide,rfl,HDk.out,HP6.out⟩
  case round=>
   clear HDk HP6
   obtain ⟨kd,s2,hkd1,hkd4,rfl,hh⟩:=hrel
   have HD2:=cH hh.1
   have HP2:=cH hh.2
   clear hh
   by_cases hk3:kd≤3
   case neg=>
    have hI:¬(kd:Int)≤3:=by omega
    have hke:kd=4:=by omega
    have HL:Hid (RD=.ok s2∧PlInv q (k+1) [] s2∧s2.2.length≤(k+1) * 384):=DocK.last (by rw[←hke];exact HD2.out)
    have HS2:Hid (dirsP q (258 - (k+1)) (k+1) s2=zBN q):=by unfold Hid;rw[HSt.out,HL.out.1]
    have hk2:k+1≤257:=by omega
    clear HSt HD2 hke
    go_wp2_with fail
    go_roundw
    case rel=>exact ⟨k+1,s2,hk2,by go_num,HP2.out,HL.out.2.1,HL.out.2.2,HS2.out⟩
    case measure=>simp[intOf];omega
   have hkI:(kd:Int)≤3:=by omega
   have HDg:=cH (HD2.out.enter hkd1 hk3)
   clear HD2
   go_wp2_with fail
   go_loopw [18] (fun t wr=>∃ (m:Nat) (s3:PlSt),m≤ne∧t=.int .i64 (m:Int)∧Hid (DocG q k n d RD kd m s3∧DlWd C wr s3)) (fun t _=>ne - (intOf t).toNat)
   case atStart=>exact ⟨0,s2,nZ _,rfl,HDg.out,HP2.out⟩
   case round=>
    clear HDg HP2
    obtain ⟨m,s3,hm,rfl,hh⟩:=hrel
    have HD3:=cH hh.1
    have HP3:=cH hh.2
    clear hh
    have hm0:(0:Int)≤(m:Int):=by omega
    by_cases hmn:m<ne
    case neg=>
     have hI:¬(m:Int)<(ne:Int):=by omega
     have hme:m=n.edges.length:=by have:=Hne.out;omega
     have HDn:Hid (DocK q k n d RD (kd+1) s3):=DocG.done_ (by rw[←hme];exact HD3.out) hkd1 (by rw[←Hne.out];exact hm128)
     clear HD3 hme
     go_wp2_with fail
     go_roundw
     case rel=>exact ⟨kd+1,s3,by omega,by omega,by go_num,HDn.out,HP3.out⟩
     case measure=>simp[intOf];omega
    have hmI:(m:Int)<(ne:Int):=by omega
    obtain ⟨e,he⟩:∃ e,n.edges[m]?=some e:=⟨_,gE (by have:=Hne.out;omega)⟩
    obtain ⟨eb,eo,cs,hA,_,hb1,hhd,hcell⟩:=(HEd.out wr HP3.out.base).elem he
    obtain ⟨rfl,hlz,hti⟩:=hhd
    have c0:=hcell 0 _ rfl
    have c1:=hcell 1 _ rfl
    simp only[rEdge,Nat.add_zero] at c0 c1
    obtain ⟨e1,e2,e3,e4,_⟩:=zDw HMp.out Hn.out (mG he)
    obtain ⟨lb,tt⟩:=e
    simp only at c0 c1 hlz hti e1 e2 e3 e4
    obtain ⟨tn,rfl⟩:∃ tn:Nat,tt=(tn:Int):=⟨tt.toNat,by omega⟩
    obtain ⟨y,hy⟩:∃ y,q.g[tn]?=some y:=⟨_,gE (by omega)⟩
    obtain ⟨x,hx⟩:∃ x,q.ps[tn]?=some x:=by
     obtain ⟨_,_,h3,_⟩:=zCy HMp.out
     exact ⟨_,gE (by have:=(gS.1 hy).1;omega)⟩
    have hyn:y.name=lb:=by
     rw[←e3,Int.toNat_natCast];unfold zBW;rw[List.getD_eq_getElem?_getD,hy];rfl
    have hxn:x.name=y.name:=by
     rw[hyn,←e4,Int.toNat_natCast];unfold zA5;rw[List.getD_eq_getElem?_getD,hx];rfl
    obtain ⟨done,i1,i2⟩:=HD3.out.inv
    have hl9:s3.2.length≤900000:=by have:=HD3.out.len;omega
    have hone:=zLg C HCok.out wr s3 HP3.out (at_:=k) (done:=done) (by rw[HCq.out];exact i1) HD3.out.here Hj.out (m:=n) (by rw[HCq.out];exact Hn.out) lb tn hlz (n:=y) (by rw[HCq.out];exact hy) hyn (x:=x) (by rw[HCq.out];exact hx) hxn hl9 kd (by omega) (by rw[HCq.out];exact fun h=>i2.not (zBt HMp.out Hn.out) he h)
    rw[HCq.out] at hone
    have Hone:=cH hone
    have HSk:Hid (kindP q n ⟨lb,(tn:Int)⟩≠kd→DocG q k n d RD kd (m+1) s3):=fun h=>HD3.out.skip he h
    have HOk:Hid (∀ st',kindP q n ⟨lb,(tn:Int)⟩=kd→stepE q k kd ⟨lb,(tn:Int)⟩ s3=.ok st'→DocG q k n d RD kd (m+1) st'):=fun st' h1 h2=>HD3.out.ok HMp.out (by rw[←Hdp.out];exact hpz) (by rw[←Hdd.out];exact hdz) Hn.out he h1 h2
    have HEr2:Hid (∀ c,kindP q n ⟨lb,(tn:Int)⟩=kd→stepE q k kd ⟨lb,(tn:Int)⟩ s3=.error c→R=([],c)):=fun c h1 h2=>by
     rw[←HR.out]
     exact zBd (by rw[HSt.out,HD3.out.err he h1 h2])
    clear hone hcell i1 i2 hyn hxn hx hy e1 e2 e3 e4 hlz hti hl9 HD3
    subst hA
    go_wp2_with fail
    refine Hone.out.mono ?_
    rintro e w7 (⟨h1,rfl,hP7,_⟩|⟨h1,⟨c,h2,rfl,hc,hP7,_⟩|⟨st',h2,rfl,hP7,_⟩⟩)
    ·have HP7:=cH hP7
     have HD7:=cH (HSk.out h1)
     clear h1 hP7 HSk HOk HEr2 Hone c0 c1
     go_wp2_with fail
     go_roundw
     case rel=>exact ⟨m+1,s3,by omega,by go_num,HD7.out,HP7.out⟩
     case measure=>simp[intOf];omega
    ·have Hr:=cH (HEr2.out c h1 h2)
     obtain ⟨t0,tf,tc,tb,_⟩:=HTq.out w7 hP7.base
     have Ht0:=cH t0
     have Htb:=cH (tb (.slice none 0 0))
     clear h1 h2 hP7 HSk HOk HEr2 Hone c0 c1 t0 tb
     rcases hc with rfl|rfl|rfl
     all_goals
      go_wp2_with fail
      refine zA6 rfl rfl rfl rfl (zAt Ht0.out _) Tryz.underlying33 rfl (by kernel_rfl) ⟨.slice none 0 0,?_,?_,Htb.out⟩
      ·rw[Hr.out];rfl
      ·rw[Hr.out];exact (HNl _).out
    ·have HP7:=cH hP7
     have HD7:=cH (HOk.out st' h1 h2)
     clear h1 h2 hP7 HSk HOk HEr2 Hone c0 c1
     go_wp2_with fail
     go_roundw
     case rel=>exact ⟨m+1,st',by omega,by go_num,HD7.out,HP7.out⟩
     case measure=>simp[intOf];omega
theorem zMF (kA mA nA lA vA:Option Addr) (kn kc mn mc nn nc ln lc vn vc:Nat) (dev:Bool) (dec nod dirs path:Int) (oA:Option Addr) (on oc:Nat) (like:Bool) (ol:List Dir) (w:World) (S:Nat→Prop) (ho:SlV rDir w S ol (.slice oA on oc)) (hoz:∀ d∈ol,d.path.length * 32≤140737488355328) :
  Calls Tryz.prog 12 #[.agg #[.slice kA kn kc,.slice mA mn mc,.slice nA nn nc,.slice lA ln lc,.slice vA vn vc,.bool dev,.int .i64 dec,.int .i64 nod,.int .i64 dirs,.int .i64 path,.slice oA on oc,.bool like]] w fun e w'=>
   ∃ ov,e=.returned ov∧OldV w' (fun b=>b<w'.heap.size) ov (if like=true then some ol else none)∧Below w.heap.size w w':=by
 have Ho:=cH (ho.more (S':=fun b=>b<w.heap.size) fun b _ h=>h)
 have Hoz:=cH hoz
 clear ho hoz
 go_enter Tryz.func12,Tryz.ntmps12
 go_upto_region 1 with (fail)
 obtain ⟨w1,hw1⟩:∃ w1,w1=w.alloc (.cells #[.slice kA kn kc,.slice mA mn mc,.slice nA nn nc,.slice lA ln lc,.slice vA vn vc,.bool dev,.int .i64 dec,.int .i64 nod,.int .i64 dirs,.int .i64 path,.slice oA on oc,.bool like] 35):=⟨_,rfl⟩
 have hq:w1.heap[w.heap.size]?=some (.cells #[.slice kA kn kc,.slice mA mn mc,.slice nA nn nc,.slice lA ln lc,.slice vA vn vc,.bool dev,.int .i64 dec,.int .i64 nod,.int .i64 dirs,.int .i64 path,.slice oA on oc,.bool like] 35 (0,0)):=by rw[hw1];exact zAD _ _
 have HB1:Hid (Below w.heap.size w w1):=by unfold Hid;rw[hw1];exact bal (bR _ _) _
 rw[←hw1]
 have c10:=cO _ _ 10 _ _ _ hq
 have c11:=cO _ _ 11 _ _ _ hq
 clear hw1 hq
 cases hlk:like with
 | false=>
   subst hlk
   go_wp2_with fail
   go_ret
   exact ⟨_,rfl,.inl ⟨rfl,rfl⟩,HB1.out⟩
 | true=>
   subst hlk
   go_wp2_with fail
   go_ret
   refine ⟨_,rfl,.inr ⟨_,_,oA,on,oc,ol,rfl,rfl,by simp,by simp,cO _ _ 0 _ _ _ (zAD w1 _),((Ho.out.belowSize HB1.out).alloc _).more (fun b _ h=>h),Hoz.out⟩,bal HB1.out _⟩
end Go.Proofs.YtminjjdnmpaaoaaGreatDoor
set_option maxRecDepth 100000
namespace Go.Proofs.YtminjjdnmpaaoaaGreatDoor
open Go
theorem zEB {α:Type} [DecidableEq α] (x y:α):eqB x y=decide (x=y):=by
 by_cases h:x=y
 ·rw[zAP h,decide_eq_true h]
 ·rw[zAH h,decide_eq_false h]
deriving instance DecidableEq for Ver,Spn,Dep,Pack,Pin,Edge,Node,Dir
def sA:ByteArray:=⟨#[97]⟩
def sB:ByteArray:=⟨#[98]⟩
def packL (s:ByteArray) (v:Int):Pack:=⟨s,⟨v,0,0⟩,[],[],[]⟩
def gL:List Node:=[⟨⟨#[]⟩,⟨0,0,0⟩,[],[⟨sA,1⟩,⟨sB,2⟩]⟩,⟨sA,⟨1,0,0⟩,[],[⟨sB,3⟩]⟩,⟨sB,⟨1,0,0⟩,[],[]⟩,⟨sB,⟨2,0,0⟩,[],[]⟩]
def psL:List Pack:=[zAC,packL sA 1,packL sB 1,packL sB 2]
def qL:PlIn:=⟨gL,psL,9,99,none⟩
def tL:List Dir:=[dirZ0,⟨[sA],packL sA 1,1⟩,⟨[sB],packL sB 1,2⟩,⟨[sA,sB],packL sB 2,3⟩]
theorem zC7 (t:List Dir) (p:List ByteArray):findI t p=zC0 (fun d=>decide (d.path=p)) t:=by
 unfold findI;simp only[zEB]
theorem zHc:nameB ⟨#[97]⟩=true:=by decide
theorem zG1:nameB ⟨#[98]⟩=true:=by decide
theorem zIv:(textB [⟨#[97]⟩]).size=10:=by decide
theorem zIt:(textB [⟨#[98]⟩]).size=10:=by decide
theorem zGM:(textB [⟨#[97]⟩,⟨#[98]⟩]).size=20:=by decide
theorem zJW:dirP qL 0 ([dirZ0],[])=.ok ([dirZ0,⟨[sA],packL sA 1,1⟩,⟨[sB],packL sB 1,2⟩],[⟨0,sA,1⟩,⟨0,sB,2⟩]):=by
 simp[dirP,zBs,zBF,kindP,stepE,zAx,homeP,spotI,zAv,putP,lookI,zAg,zC7,zC0,zA2,qL,gL,psL,zBW,zA5,dirAt,zAE,dirZ0,pickI,zBQ,zA3,zAl,zEB,zAk,sA,sB,packL,zHc,zG1,zIv,zIt,zGM]
theorem zJ1:dirP qL 1 ([dirZ0,⟨[sA],packL sA 1,1⟩,⟨[sB],packL sB 1,2⟩],[⟨0,sA,1⟩,⟨0,sB,2⟩])=.ok (tL,[⟨0,sA,1⟩,⟨0,sB,2⟩,⟨1,sB,3⟩]):=by
 simp[dirP,zBs,zBF,kindP,stepE,zAx,homeP,spotI,zAv,putP,lookI,zAg,zC7,zC0,zA2,qL,gL,psL,zBW,zA5,dirAt,zAE,dirZ0,pickI,zBQ,zA3,zAl,zEB,zAk,sA,sB,packL,tL,zHc,zG1,zIv,zIt,zGM]
def setL:List Stl:=[⟨0,sA,1⟩,⟨0,sB,2⟩,⟨1,sB,3⟩]
theorem zJf:dirP qL 2 (tL,setL)=.ok (tL,setL):=by
 simp[dirP,zBs,zBF,kindP,stepE,zAx,homeP,spotI,zAv,putP,lookI,zAg,zC7,zC0,zA2,qL,gL,psL,zBW,zA5,dirAt,zAE,dirZ0,pickI,zBQ,zA3,zAl,zEB,zAk,sA,sB,packL,tL,zHc,zG1,zIv,zIt,zGM,setL]
theorem zJO:dirP qL 3 (tL,setL)=.ok (tL,setL):=by
 simp[dirP,zBs,zBF,kindP,stepE,zAx,homeP,spotI,zAv,putP,lookI,zAg,zC7,zC0,zA2,qL,gL,psL,zBW,zA5,dirAt,zAE,dirZ0,pickI,zBQ,zA3,zAl,zEB,zAk,sA,sB,packL,tL,zHc,zG1,zIv,zIt,zGM,setL]
theorem zJQ:zBM []=true:=zDc List.nodup_nil
theorem zJV:packB (packL sA 1)=true∧packB (packL sB 1)=true∧packB (packL sB 2)=true:=by
 have h0:∀ (s:ByteArray) (v:Int),zBM (zAO [(packL s v).deps,(packL s v).peers,(packL s v).opts])=true:=fun s v=>zJQ
 refine ⟨?_,?_,?_⟩
 all_goals
  unfold packB
  rw[h0]
  decide +kernel
theorem zMI:behind none ⟨#[97]⟩=true:=by decide +kernel
theorem zLt:behind none ⟨#[98]⟩=true:=by decide +kernel
theorem zKG:behind (some ⟨#[97]⟩) ⟨#[98]⟩=true:=by decide +kernel
theorem zKw:mayPl gL psL=true:=by
 obtain ⟨h1,h2,h3⟩:=zJV
 simp only[sA,sB,packL] at h1 h2 h3
 simp[mayPl,gL,psL,zBl,formP,headP,zDU,zC4,h1,h2,h3,zEB,edgeP,pinP,sA,sB,packL,zeroV,zAC,zAJ,zAG,zAF,zHc,zG1,zMI,zLt,zKG]
theorem zHw:zBN qL=.ok (tL,setL):=by
 have h:zBN qL=dirsP qL 258 0 ([dirZ0],[]):=by
  unfold zBN
  rw[if_neg (by decide),if_neg (by decide),if_neg (by show ¬mayPl gL psL=false;rw[zKw];decide)]
 rw[h]
 rw[zB5 (f:=257) (by decide),zJW]
 show dirsP qL 257 1 _=_
 rw[zB5 (f:=256) (by decide),zJ1]
 show dirsP qL 256 2 (tL,setL)=_
 rw[zB5 (f:=255) (by decide),zJf]
 show dirsP qL 255 3 (tL,setL)=_
 rw[zB5 (f:=254) (by decide),zJO]
 show dirsP qL 254 4 (tL,setL)=_
 rw[zD6 (by decide)]
theorem zDK:sortD tL=[dirZ0,⟨[sA],packL sA 1,1⟩,⟨[sA,sB],packL sB 2,3⟩,⟨[sB],packL sB 1,2⟩]:=by
 decide +kernel
theorem zJx:findI (sortD tL) [sA,sB]=2:=by
 rw[zDK,zC7]
 decide +kernel
