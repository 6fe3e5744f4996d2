/- tree.Inside: what stands in a directory's modules, by names. The document's Inside: each is put at its place. -/
import Derived.Test.YthbnmehbhpakaaaGreatDoorBk07
import Derived.Lib.Hide
import Derived.Test.YthbnmehbhpakaaaGreatDoorBk04
import Derived.Test.YthbnmehbhpakaaaGreatDoorBk06
import Derived.Test.YthbnmehbhpakaaaGreatDoorAl
set_option linter.all false
set_option maxHeartbeats 3200000
set_option maxRecDepth 100000
namespace Go.Proofs.YthbnmehbhpakaaaGreatDoor
open Go.Rows Go.RowKit Go.Shelf Go.Sort
theorem zRl:Elt Tryz.prog 3 1 8:=Elt.mk' (z:=.int .i64 0) (by kernel_rfl) rfl (by decide)
theorem zQZ {W W1:World} {cs:Array Value} {t:TypeId} (h:W1=W.alloc (.cells cs t)) {n:Nat} (hn:n=W.heap.size) {j:Nat} {v:Value} (hv:cs[j]?=some v):W1.cell? ⟨n,j,none⟩=some v:=by
 subst h;subst hn
 exact (World.cell?_alloc_new W cs t j).trans hv
noncomputable def insQ (xs:List Dir) (home:List ByteArray) (i:Nat):Bool:=match xs[i]? with|some d=>decide (d.path.length=home.length+1)&&eqB (d.path.take home.length) home|none=>false
noncomputable def zBC (xs:List Dir) (a:Nat):List Nat:=match xs[a]? with|some d=>insR (nmL xs) (insQ xs d.path) xs.length|none=>[]
noncomputable def zBs (xs:List Dir) (x:Int):List Nat:=if 0≤x then zBC xs x.toNat else []
theorem zJu {xs:List Dir} {home:List ByteArray} {i:Nat} (h:i<xs.length):insQ xs home i=(decide (xs[i].path.length=home.length+1)&&eqB (xs[i].path.take home.length) home):=by
 unfold insQ;rw[gE h]
theorem zO0 {xs:List Dir} {x:Int} (h:x<0):zBs xs x=[]:=by unfold zBs;rw[if_neg (by omega)]
theorem zOu {xs:List Dir} {x:Int} (h:(xs.length:Int)≤x):zBs xs x=[]:=by
 unfold zBs zBC
 split
 ·rw[List.getElem?_eq_none (by omega)]
 ·rfl
theorem zN1 {xs:List Dir} {k:Nat} (h:k<xs.length):zBs xs (k:Int)=insR (nmL xs) (insQ xs xs[k].path) xs.length:=by
 unfold zBs zBC
 rw[if_pos (by omega),Int.toNat_natCast,gE h]
theorem zLf (q:Nat→Bool) (k:Nat):(List.range (k+1)).filter q=bif q k then (List.range k).filter q++[k] else (List.range k).filter q:=by
 rw[List.range_succ,List.filter_append]
 cases h:q k<;>simp[h]
theorem zNc (l:List Nat) (k:Nat):castL l++[(k:Int)]=castL (l++[k]):=by simp[castL]
theorem zNt {w:World} {S:Nat→Prop}:∀ {l:List Int} {xs:List Value},Elems rInt w S l xs→xs=l.map (Value.int .i64):=by
 intro l
 induction l with
 | nil=>intro xs h;exact h
 | cons x l ih=>
   intro xs h
   obtain ⟨cs,rest,rfl,⟨rfl,_⟩,h3⟩:=h
   rw[ih h3];rfl
theorem zR1 {w:World} {base:Nat} {e:TypeId} {v:Value} {l:List Int} {S:Nat→Prop} (h:Own rInt w base e v l S) (h0:0<l.length):∃ g cap,v=.slice (some ⟨g,0,none⟩) l.length cap∧IRow w base g 0 cap l:=by
 obtain ⟨_,xs,h1,h2⟩:=h
 obtain ⟨g,cap,rfl,_,_⟩:=World.ownsRow.form h1 h0
 rw[zNt h2] at h1
 exact ⟨g,cap,rfl,IRow.of_owns h1⟩
theorem zOH (A:Option Addr) (n c:Nat) (xs:List Dir) (x:Int) (w:World) (S:Nat→Prop) (hx:SlV rDir w S xs (.slice A n c)) (hlen:∀ d∈xs,d.path.length * 32≤140737488355328) (hnb:xs.length≤1048576) :
  Calls Tryz.prog 27 #[.agg #[.slice A n c],.int .i64 x] w fun e w'=>(∃ v,e=.returned v∧SlV rInt w' (fun b=>w.heap.size≤b) (castL (zBs xs x)) v)∧Below w.heap.size w w':=by
 have hnx:=hx.n_eq
 have hcx:=hx.cap_le
 unfold maxLen at hcx
 by_cases h0:x<0
 ·have hd:decide (x<0)=true:=decide_eq_true h0
  have He:Hid (zBs xs x=[]):=zO0 h0
  clear hx hnx hcx hlen
  generalize zBs xs x=R at *
  go_enter Tryz.func27,Tryz.ntmps27
  go_wp2_with fail
  go_ret
  refine ⟨⟨_,rfl,?_⟩,bal (bR _ _) _⟩
  rw[He.out];exact SlV.nil_ _ _ _
 have hd:decide (x<0)=false:=decide_eq_false h0
 by_cases h1:(n:Int)≤x
 ·have hd1:decide ((n:Int)≤x)=true:=decide_eq_true h1
  have He:Hid (zBs xs x=[]):=zOu (by omega)
  clear hx hnx hcx hlen
  generalize zBs xs x=R at *
  go_enter Tryz.func27,Tryz.ntmps27
  go_wp2_with fail
  go_ret
  refine ⟨⟨_,rfl,?_⟩,bal (bR _ _) _⟩
  rw[He.out];exact SlV.nil_ _ _ _
 have hd1:decide ((n:Int)≤x)=false:=decide_eq_false h1
 obtain ⟨k,rfl⟩:∃ k:Nat,x=(k:Int):=⟨x.toNat,by omega⟩
 have hk:k<xs.length:=by omega
 have HR:Hid (zBs xs (k:Int)=insR (nmL xs) (insQ xs xs[k].path) xs.length):=zN1 hk
 generalize zBs xs (k:Int)=R at *
 have hkn:(k:Int)<(n:Int):=by omega
 have hk0:(0:Int)≤(k:Int):=by omega
 have hn63:n≤1048576:=by omega
 have HX:=cH (hx.more (S':=fun b=>b<w.heap.size) fun b _ h=>h)
 have hlk:=hlen xs[k] (List.getElem_mem hk)
 have Hlen:=cH hlen
 obtain ⟨b,o,cs,rfl,_,hb1,hh,hcell⟩:=hx.elem (gE hk)
 obtain ⟨s0,s1,s2,s3,rfl,hp,_,_,_,_,_,_,_,_⟩:=hh
 obtain ⟨hA,hc,rfl,hpl,hpm⟩:=hp.val
 unfold maxLen at hpm
 have c0:=hcell 0 _ rfl
 simp only[rDir,Nat.add_zero] at c0
 have HP:=cH (hp.more (S':=fun b=>b<w.heap.size) fun b _ h=>h)
 have Hnx:=cH hnx
 clear hcell hp hx hlen hcx hnx hnb
 generalize xs[k].path=home at *
 generalize hl0:home.length=h at *
 have Hh:=cH hl0;clear hl0
 go_enter Tryz.func27,Tryz.ntmps27
 go_wp2_with fail
 obtain ⟨w0,hw0⟩:∃ w0,w0=(w.alloc (.cells #[.slice (some ⟨b,o,none⟩) n c] 30)).alloc (.cells #[.slice hA h hc] 53):=⟨_,rfl⟩
 have hz:w.heap.size<w0.heap.size:=by rw[hw0];simp[go_sem]
 have hz1:w.heap.size+1<w0.heap.size:=by rw[hw0];simp[go_sem]
 have HB0:Hid (Below w.heap.size w w0):=by unfold Hid;rw[hw0];exact bal (bal (bR _ _) _) _
 have a0:w0.cell? ⟨w.heap.size,0,none⟩=some (.slice (some ⟨b,o,none⟩) n c):=by rw[hw0];simp[go_sem]
 have a1:w0.cell? ⟨w.heap.size+1,0,none⟩=some (.slice hA h hc):=by rw[hw0];simp[go_sem]
 rw[←hw0]
 clear hw0
 have HA:Hid (w0.cell? ⟨w.heap.size,0,none⟩=some (.slice (some ⟨b,o,none⟩) n c)∧w0.cell? ⟨w.heap.size+1,0,none⟩=some (.slice hA h hc)):=⟨a0,a1⟩
 clear a0 a1 c0
 go_loopw [6,28] (fun v i wr=>∃ j:Nat,j≤n∧i=.int .i64 j∧Hid (Own rInt wr w0.heap.size 3 v (castL ((List.range j).filter (insQ xs home))) (fun _=>False))∧Below w0.heap.size w0 wr) (fun _ i _=>n - (intOf i).toNat)
 case atStart=>exact ⟨0,nZ _,rfl,Own.nil_ rInt w0 w0.heap.size 3 (S:=fun _=>False) (fun b h=>h.elim),bR _ _⟩
 case round=>
  obtain ⟨j,hj,rfl,Hown,hbel⟩:=hrel
  have b0:=zAA hbel HA.out.1 hz
  have b1:=zAA hbel HA.out.2 hz1
  have hbw:=bot HB0.out hbel
  by_cases hlt:j<n
  case pos=>
   have hjx:j<xs.length:=by have:=Hnx.out;omega
   have hjI:(j:Int)<(n:Int):=by omega
   have hj0:(0:Int)≤(j:Int):=by omega
   obtain ⟨b2,o2,cs2,hAe2,_,hb2,hh2,hcell2⟩:=HX.out.elem (gE hjx)
   obtain ⟨z0,z1,z2,z3,rfl,hp2,_,_,_,_,_,_,_,_⟩:=hh2
   obtain ⟨fA,fc,rfl,hfl,hfm⟩:=hp2.val
   unfold maxLen at hfm
   simp only[Option.some.injEq,Addr.mk.injEq] at hAe2
   obtain ⟨rfl,rfl,_⟩:=hAe2
   have c1:=zAA hbw (hcell2 0 _ rfl) hb2
   simp only[rDir,Nat.add_zero] at c1
   have Hq:=cH (zJu (home:=home) hjx)
   have HP2:=cH hp2
   have Hnext:=cH (zLf (insQ xs home) j)
   have hfl2:((List.range j).filter (insQ xs home)).length≤j:=by
    have:=List.length_filter_le (insQ xs home) (List.range j)
    rw[List.length_range] at this;exact this
   have hcll:(castL ((List.range j).filter (insQ xs home))).length≤j:=by unfold castL;rw[List.length_map];exact hfl2
   clear hcell2 hp2 hfl2
   generalize xs[j].path=pt at *
   generalize insQ xs home j=qj at *
   have H1:Hid (pt.length=h+1→∀ d os,Calls Tryz.prog 75 #[.slice fA h fc,.slice hA h hc] (grow (redrawn wr d) os) fun e w''=>e=.returned (.bool (eqB (pt.take h) home))∧∃ p:Regrown,w''=grow (redrawn wr p.d) p.os):=fun hl=>
    qcall (w:=wr) (fun W hW=>zIj _ _ _ _ _ _ (pt.take h) home W _ _ ((SlV.take HP2.out (by omega)).belowSize (bot hbw hW)) (HP.out.belowSize (bot hbw hW)))
   rw[Hh.out] at Hq
   generalize hl2:pt.length=l2 at *
   by_cases hlh:l2=h+1
   case neg=>
    have hlb:((l2:Int)==(h:Int)+1)=false:=by simp;omega
    have hqj:Hid (qj=false):=by unfold Hid;rw[Hq.out,decide_eq_false hlh];rfl
    have hfe:(List.range (j+1)).filter (insQ xs home)=(List.range j).filter (insQ xs home):=by rw[Hnext.out,hqj.out];rfl
    have Hown2:=cH Hown.out
    rw[←hfe] at Hown2
    clear hfe
    clear hlh hl2 H1 Hown
    have hw9:IntKind.i64.wrap ((h:Int)+1)=(h:Int)+1:=IntWalk.i64_in _ ⟨by omega,by omega⟩
    have r_b0:=cR b0
    have r_b1:=cR b1
    have r_c1:=cR c1
    go_wp2_with fail
    go_wp2_with fail
    refine wQ ?_
    repeat (go_big_quiet_step (first|fail))
    refine wpQuiet_nil fun w3 B3=>?_
    have HO3:=cH (Hown2.out.keep B3)
    have Q3:=cH (bot hbel B3)
    clear b0 b1 c1 r_b0 r_b1 r_c1 B3 Hown2 hbel hbw
    go_wp2_with fail
    go_roundw
    case rel=>exact ⟨j+1,by omega,by go_num,HO3,Q3.out⟩
    case measure=>simp[intOf];omega
   have H2:=cH (H1.out hlh)
   rw[hlh] at c1 hfl
   have hlb:(((h+1:Nat):Int)==(h:Int)+1)=true:=by simp
   have hlc:(((h:Int)+1)==(h:Int)+1)=true:=by simp
   have hw9:IntKind.i64.wrap ((h:Int)+1)=(h:Int)+1:=IntWalk.i64_in _ ⟨by omega,by omega⟩
   have hhc:h≤fc:=by omega
   have hh0:(0:Int)≤(h:Int):=by omega
   have Hq2:Hid (qj=eqB (pt.take h) home):=by unfold Hid;rw[Hq.out,decide_eq_true hlh,Bool.true_and]
   clear H1 hl2 hlh Hq
   generalize eqB (pt.take h) home=ev at *
   have Hq3:Hid (ev=qj):=Hq2.out.symm
   clear Hq2
   obtain ⟨ln,hln⟩:∃ ln,(castL ((List.range j).filter (insQ xs home))).length=ln:=⟨_,rfl⟩
   have Hlen:Hid ((castL ((List.range j).filter (insQ xs home))).length=ln):=hln
   rw[hln] at hcll
   clear hln
   have r_b0:=cR b0
   have r_b1:=cR b1
   have r_c1:=cR c1
   go_wp2_with fail
   cases hev:ev
   ·rw[hev] at H2
    have hqj:Hid (qj=false):=by unfold Hid;rw[←Hq3.out,hev]
    have hfe:(List.range (j+1)).filter (insQ xs home)=(List.range j).filter (insQ xs home):=by rw[Hnext.out,hqj.out];rfl
    have Hown2:=cH Hown.out
    rw[←hfe] at Hown2
    clear hfe
    clear hev Hown Hq3
    go_wp2_with fail
    refine wQ ?_
    repeat (go_big_quiet_step (first|(with_reducible exact H2.out _ _)))
    refine wpQuiet_nil fun w3 B3=>?_
    have HO3:=cH (Hown2.out.keep B3)
    have Q3:=cH (bot hbel B3)
    clear b0 b1 c1 r_b0 r_b1 r_c1 B3 Hown2 hbel hbw H2
    go_wp2_with fail
    go_roundw
    case rel=>exact ⟨j+1,by omega,by go_num,HO3,Q3.out⟩
    case measure=>simp[intOf];omega
   ·rw[hev] at H2
    have hqj:Hid (qj=true):=by unfold Hid;rw[←Hq3.out,hev]
    have Hfn:Hid (castL ((List.range j).filter (insQ xs home))++[(j:Int)]=castL ((List.range (j+1)).filter (insQ xs home))):=by unfold Hid;rw[Hnext.out,hqj.out,zNc];rfl
    clear hev Hq3
    go_wp2_with fail
    refine wQ ?_
    repeat (go_big_quiet_step (first|(with_reducible exact H2.out _ _)))
    refine wpQuiet_nil fun w3 B3=>?_
    have HO3:=cH (Hown.out.keep B3)
    have Q3:=cH (bot hbel B3)
    have hs3:=Q3.out.size
    clear b0 b1 c1 r_b0 r_b1 r_c1 B3 Hown hbel hbw H2
    go_wp2_with (at_builtin;refine zAb (by rfl) _ _ _ (by rfl) zRl Tryz.underlying75 (by rfl) (HO3.out.alloc _) ⟨w3.heap.size,0,none⟩ 1 [.int .i64 j] (j:Int) (by rfl) ⟨rfl,by unfold I64;omega⟩ (zAz w3 #[.int .i64 j] _) (by rw[Hlen.out];unfold maxLen;omega) (by rw[Hlen.out];omega) (by simp;omega) (w3.heap.size+1) (by simp) ?_)
    intro g9 cap9 w9 hown9 hgrow9 hat9 hlt9
    have HB9:=cH (zC3 (bal Q3.out _) hgrow9 (HO3.out.alloc _) (nR _))
    have Hown9:=cH hown9
    clear hown9 hgrow9
    rw[Hfn.out] at Hown9
    go_wp2_with fail
    go_roundw
    case rel=>exact ⟨j+1,by omega,by go_num,Hown9,HB9.out⟩
    case measure=>simp[intOf];omega
  case neg=>
   obtain rfl:j=n:=by omega
   have hlt':¬(j:Int)<(j:Int):=by omega
   clear hlt
   obtain ⟨F,hF⟩:∃ F,F=(List.range j).filter (insQ xs home):=⟨_,rfl⟩
   rw[←hF] at Hown
   have HR2:Hid (R=insR (nmL xs) (insQ xs home) xs.length):=HR.out
   have HRp:Hid (R.Perm F):=by unfold Hid;rw[HR2.out,hF,Hnx.out];exact zHA _ _ _
   have HRs:Hid (R.Pairwise fun x y=>ltN (nmL xs) x y=true):=by unfold Hid;rw[HR2.out];exact zMI _ _ _
   have HFm:Hid (∀ y∈F,∃ hy:y<xs.length,xs[y].path.length=h+1):=fun y hy=>by
    rw[hF,List.mem_filter,List.mem_range] at hy
    have hyx:y<xs.length:=by have:=Hnx.out;omega
    rw[zJu hyx] at hy
    simp only[Bool.and_eq_true,decide_eq_true_eq] at hy
    exact ⟨hyx,by rw[←Hh.out];exact hy.2.1⟩
   have HFl:Hid (F.length≤j):=by
    have:=List.length_filter_le (insQ xs home) (List.range j)
    rw[List.length_range] at this;unfold Hid;rw[hF];exact this
   have hcF:(castL F).length=F.length:=by unfold castL;rw[List.length_map]
   clear hF HR HR2
   have hst:∀ (cb:Array Value) (a:Addr) (md:Mode) (W:World),Sem.run Tryz.prog (store a (.func (.func 76) #[] cb) md) W=stored Tryz.prog W a (.func (.func 76) #[] cb) md:=fun cb a md W=>run_store Tryz.prog W a _ md rfl
   have hsv:=Hown.out.slv
   obtain ⟨oA,oc,hvv,_,_⟩:=hsv.val
   rcases Nat.eq_zero_or_pos F.length with hF0|hF0
   ·have hFn:F=[]:=List.eq_nil_of_length_eq_zero hF0
    have hRn:Hid (R=[]):=by have:=HRp.out;rw[hFn] at this;exact this.eq_nil
    rw[hcF,hF0] at hvv
    subst hvv
    have Hsv0:Hid (∀ (W:World) (T:Nat→Prop),SlV rInt W T (castL []) (.slice oA 0 oc)):=fun W T=>by
     have h5:=hsv
     rw[hFn] at h5
     obtain ⟨A',c',g1,g2,g3,g4,_⟩:=h5
     exact ⟨A',c',g1,g2,g3,g4,fun h=>absurd h (by simp[castL])⟩
    have Hnone:Hid (∀ (fv:Value) (W:World),Calls Tryz.prog 77 #[.slice oA 0 oc,fv] W fun e w'=>e=.returned (.tuple #[])∧w'=W):=fun fv W=>Tryz.slices_SortFunc_none (α:=Nat) oA oc fv W
    clear hsv Hown HRp HRs HFm HFl hcF hFn hF0
    go_wp2_with fail
    refine (Hnone.out _ _).mono ?_
    rintro e w5 ⟨rfl,rfl⟩
    go_wp2_with fail
    go_ret
    refine ⟨⟨_,rfl,?_⟩,bal hbw _⟩
    rw[hRn.out]
    exact Hsv0.out _ _
   ·obtain ⟨g,cap,hve,hrow⟩:=zR1 Hown.out (by rw[hcF];exact hF0)
    rw[hcF] at hve
    rw[hve] at hvv ⊢
    have Hrow:=cH hrow
    have hgl:=hrow.lt
    have hglo:=hrow.lo
    clear hsv Hown hvv hve hrow
    have Hso:=fun (W:World) (b9:Nat)=>zMe xs h j c w.heap.size (w.heap.size+1) b9 b o hc hA w W w0.heap.size g cap F R HX.out
    have HSo:=cH Hso;clear Hso
    have hg0:w.heap.size≠g:=by omega
    have hg1:w.heap.size+1≠g:=by omega
    have hgw:wr.heap.size≠g:=by omega
    have hs0:=HB0.out.size
    have hxl:xs.length≤9223372036854775807:=by have:=Hnx.out;omega
    have hFl2:F.length<4611686018427387904:=by have:=HFl.out;omega
    have hh63:h≤9223372036854775807:=by omega
    have hsz:=hbel.size
    go_wp2_with fail
    obtain ⟨w5,hw5⟩:∃ w5,w5=wr.alloc (.cells #[.func (.func 76) #[] #[.pointer (some ⟨w.heap.size,0,none⟩),.pointer (some ⟨w.heap.size+1,0,none⟩)]] 134):=⟨_,rfl⟩
    have HB5:Hid (Below wr.heap.size wr w5):=by unfold Hid;rw[hw5];exact bal (bR _ _) _
    have c9:w5.cell? ⟨wr.heap.size,0,none⟩=some (.func (.func 76) #[] #[.pointer (some ⟨w.heap.size,0,none⟩),.pointer (some ⟨w.heap.size+1,0,none⟩)]):=zQZ hw5 rfl rfl
    rw[←hw5]
    have d0:=zAA HB5.out b0 (lL hz hsz)
    have d1:=zAA HB5.out b1 (lL hz1 hsz)
    refine (HSo.out w5 wr.heap.size (bot hbw HB5.out) hs0 d0 d1 c9 hg0 hg1 hgw HFm.out hF0 (Hrow.out.keep HB5.out) HRp.out HRs.out hh63 hxl hFl2).mono ?_
    rintro e w6 ⟨rfl,hsl,hgr⟩
    have HSl:=cH hsl
    have Q6:Hid (Below w.heap.size w w6):=(bot hbw HB5.out).grown hgr (bot hbw HB5.out).size (fun q hq=>by have:=Option.some.inj hq;omega)
    clear hsl hgr hw5 d0 d1 c9 b0 b1
    go_wp2_with fail
    go_ret
    exact ⟨⟨_,rfl,HSl.out.more fun b hb _=>nT hs0 hb⟩,Q6.out⟩
def zBz:Pack:=⟨⟨#[]⟩,⟨0,0,0⟩,[],[],[]⟩
noncomputable def rootB (d:Dir):Bool:=decide (d.path.length=0)&&(eqB d.pack zBz&&decide (d.node=0))
noncomputable def okGo (t:List Dir):List Dir→Nat→Bool
 | [],_=>true
 | d::l,k=>(bif decide (k=0) then rootB d else zBk t d k)&&okGo t l (k+1)
noncomputable def zAe (t:List Dir):Int:=if t.length<1∨257<t.length then 42 else bif okGo t t 0 then 0 else 42
theorem zS7 (t:List Dir) {l:List Dir} {k:Nat} (h:k<l.length):okGo t (l.drop k) k=((bif decide (k=0) then rootB l[k] else zBk t l[k] k)&&okGo t (l.drop (k+1)) (k+1)):=by
 rw[dC h,okGo]
theorem zNx (w:World) (S:Nat→Prop):PackV w S zBz (.agg #[.string ⟨#[]⟩,.int .i64 0,.int .i64 0,.int .i64 0,.slice none 0 0,.slice none 0 0,.slice none 0 0]):=
 ⟨none,0,0,none,0,0,none,0,0,rfl,nZ _,SlV.nil_ _ _ _,SlV.nil_ _ _ _,SlV.nil_ _ _ _⟩
theorem zQJ (A:Option Addr) (n c:Nat) (xs:List Dir) (w:World) (S:Nat→Prop) (ht:Tab w) (hlen:∀ d∈xs,d.path.length * 32≤140737488355328) (hx:SlV rDir w S xs (.slice A n c)) :
  Calls Tryz.prog 103 #[.agg #[.slice A n c]] w fun e w'=>e=.returned (.int .i64 (zAe xs))∧Below w.heap.size w w':=by
 have hnx:=hx.n_eq
 have hcx:=hx.cap_le
 unfold maxLen at hcx
 have hn63:n≤9223372036854775807:=by omega
 have HX:=cH (hx.more (S':=fun b=>b<w.heap.size) fun b _ h=>h)
 have Hst:Hid (∀ (k:Nat) (hk:k<xs.length) W,Below w.heap.size w W→Calls Tryz.prog 167 #[.agg #[.slice A n c],.int .i64 k] W fun e w'=>e=.returned (.bool (zBk xs xs[k] k))∧Below W.heap.size W w'):=fun k hk W hW=>zN8 A n c xs W _ k hk (zAG ht hW) hlen (hx.belowSize hW)
 by_cases hn1:n<1
 ·have hni:(n:Int)<1:=by omega
  have hnk:decide ((n:Int)<1)=true:=decide_eq_true hni
  have He:Hid (zAe xs=42):=by unfold Hid zAe;rw[if_pos (.inl (by omega))]
  clear hx hcx hnx Hst HX
  generalize zAe xs=R at *
  go_enter Tryz.func103,Tryz.ntmps103
  go_wp2_with fail
  go_ret
  exact ⟨zBZ He.out.symm,bal (bR _ _) _⟩
 by_cases hn2:257<n
 ·have hni:¬(n:Int)<1:=by omega
  have hnk:decide ((n:Int)<1)=false:=decide_eq_false hni
  have hmi:(257:Int)<(n:Int):=by omega
  have hmk:decide ((257:Int)<(n:Int))=true:=decide_eq_true hmi
  have He:Hid (zAe xs=42):=by unfold Hid zAe;rw[if_pos (.inr (by omega))]
  clear hx hcx hnx Hst HX
  generalize zAe xs=R at *
  go_enter Tryz.func103,Tryz.ntmps103
  go_wp2_with fail
  go_ret
  exact ⟨zBZ He.out.symm,bal (bR _ _) _⟩
 have hni:¬(n:Int)<1:=by omega
 have hnk:decide ((n:Int)<1)=false:=decide_eq_false hni
 have hmi:¬(257:Int)<(n:Int):=by omega
 have hmk:decide ((257:Int)<(n:Int))=false:=decide_eq_false hmi
 have HR:Hid (zAe xs=bif okGo xs (xs.drop 0) 0 then 0 else 42):=by unfold Hid zAe;rw[if_neg (by omega)];rfl
 have Hnx:=cH hnx;clear hnx
 clear hx hcx hlen ht
 generalize zAe xs=R at *
 go_enter Tryz.func103,Tryz.ntmps103
 go_wp2_with fail
 obtain ⟨w0,hw0⟩:∃ w0,w0=w.alloc (.cells #[.slice A n c] 30):=⟨_,rfl⟩
 have hz:w.heap.size<w0.heap.size:=by rw[hw0];simp[go_sem]
 have hb0:Below w.heap.size w w0:=by rw[hw0];exact bal (bR _ _) _
 have a0:w0.cell? ⟨w.heap.size,0,none⟩=some (.slice A n c):=by rw[hw0];simp[go_sem]
 rw[←hw0]
 clear hw0
 have HB0:=cH hb0;clear hb0
 go_loopw [19] (fun i wr=>∃ k:Nat,k≤n∧i=.int .i64 k∧Hid (R=bif okGo xs (xs.drop k) k then 0 else 42)∧Below w0.heap.size w0 wr) (fun i _=>n - (intOf i).toNat)
 case atStart=>exact ⟨0,nZ _,rfl,HR,bR _ _⟩
 case round=>
  obtain ⟨k,hk,rfl,heq,hbel⟩:=hrel
  have b0:=zAA hbel a0 hz
  have hbel':=bot HB0.out hbel
  have hzr:w.heap.size<wr.heap.size:=lL hz hbel.size
  by_cases hlt:k<n
  ·have hkx:k<xs.length:=by have:=Hnx.out;omega
   have hxw:=HX.out.below hbel' (fun b h=>h)
   obtain ⟨b,oo,cs,rfl,_,hb1,hh,hcell⟩:=hxw.elem (gE hkx)
   obtain ⟨pA,pa,pB,pb,pC,pc,pD,pd,rfl,hp,hpk,hI⟩:=zFc hh
   have c0:=hcell 0 _ rfl
   have c1:=hcell 1 _ rfl
   have c2:=hcell 2 _ rfl
   have c3:=hcell 3 _ rfl
   have c4:=hcell 4 _ rfl
   have c5:=hcell 5 _ rfl
   have c6:=hcell 6 _ rfl
   have c7:=hcell 7 _ rfl
   have c8:=hcell 8 _ rfl
   simp only[rDir,Nat.add_zero] at c0 c1 c2 c3 c4 c5 c6 c7 c8
   have Hat:=cH (zS7 xs hkx)
   have Hs:Hid (∀ o:Obj,Calls Tryz.prog 167 #[.agg #[.slice (some ⟨b,oo,none⟩) n c],.int .i64 k] (wr.alloc o) fun e w'=>e=.returned (.bool (zBk xs xs[k] k))∧Below (wr.alloc o).heap.size (wr.alloc o) w'):=fun o=>Hst.out k hkx _ (bal hbel' o)
   have Hsm:Hid (∀ o:Obj,Calls Tryz.prog 132 #[.agg #[.string xs[k].pack.name,.int .i64 xs[k].pack.ver.major,.int .i64 xs[k].pack.ver.minor,.int .i64 xs[k].pack.ver.patch,.slice pB xs[k].pack.deps.length pb,.slice pC xs[k].pack.peers.length pc,.slice pD xs[k].pack.opts.length pd],.agg #[.string ⟨#[]⟩,.int .i64 0,.int .i64 0,.int .i64 0,.slice none 0 0,.slice none 0 0,.slice none 0 0]] (wr.alloc o) fun e w'=>e=.returned (.bool (eqB xs[k].pack zBz))∧Below (wr.alloc o).heap.size (wr.alloc o) w'):=fun o=>zD4 _ _ _ _ _ _ (fun _=>True) (hpk.keep (bal (bR _ _) o)) (zNx _ _)
   have Hro:Hid (rootB xs[k]=(decide (xs[k].path.length=0)&&(eqB xs[k].pack zBz&&decide (xs[k].node=0)))):=rfl
   clear hcell hxw hp hpk hh hI
   have hk0:(0:Int)≤(k:Int):=by omega
   have hkn:(k:Int)<(n:Int):=by omega
   generalize zBk xs xs[k] k=sb at *
   generalize rootB xs[k]=rb at *
   generalize eqB xs[k].pack zBz=eb at *
   generalize xs[k].path.length=l0 at *
   generalize xs[k].pack.deps.length=l1 at *
   generalize xs[k].pack.peers.length=l2 at *
   generalize xs[k].pack.opts.length=l3 at *
   generalize xs[k].pack.name=nm at *
   generalize xs[k].pack.ver.major=y1 at *
   generalize xs[k].pack.ver.minor=y2 at *
   generalize xs[k].pack.ver.patch=y3 at *
   generalize xs[k].node=nd at *
   have Hno:Hid ((bif decide (k=0) then rb else sb)=false→R=42):=fun h=>by rw[heq.out,Hat.out,h];rfl
   have Hyes:Hid ((bif decide (k=0) then rb else sb)=true→R=bif okGo xs (xs.drop (k+1)) (k+1) then 0 else 42):=fun h=>by rw[heq.out,Hat.out,h];rfl
   clear Hat heq
   by_cases hkz:k=0
   ·have hkb:((k:Int)==0)=true:=by simp[hkz]
    have Hno':Hid (rb=false→R=42):=fun h=>Hno.out (by rw[decide_eq_true hkz];exact h)
    have Hyes':Hid (rb=true→R=bif okGo xs (xs.drop (k+1)) (k+1) then 0 else 42):=fun h=>Hyes.out (by rw[decide_eq_true hkz];exact h)
    clear Hno Hyes Hs hkz
    by_cases hl0:l0=0
    case neg=>
     have hzb:((l0:Int)==0)=false:=by simp[hl0]
     have He:Hid (R=42):=Hno'.out (by rw[Hro.out,decide_eq_false hl0];rfl)
     clear hl0 Hro
     go_wp2_with fail
     go_ret
     exact ⟨zBZ He.out.symm,bal hbel' _⟩
    have hzb:((l0:Int)==0)=true:=by simp[hl0]
    have Hro2:Hid (rb=(eb&&decide (nd=0))):=by unfold Hid;rw[Hro.out,decide_eq_true hl0];rfl
    clear hl0 Hro
    go_wp2_with fail
    refine (Hsm.out _).mono ?_
    rintro e w1 ⟨rfl,B1⟩
    have B2:=bot (bal hbel' _) B1
    have g8:=zAA B1 (show (wr.alloc (.cells #[.slice pA l0 pa,.string nm,.int .i64 y1,.int .i64 y2,.int .i64 y3,.slice pB l1 pb,.slice pC l2 pc,.slice pD l3 pd,.int .i64 nd] 59)).cell? ⟨wr.heap.size,8,none⟩=some (.int .i64 nd) by simp[go_sem]) (by simp[go_sem])
    have B3:=bot (bal hbel _) B1
    clear B1
    cases eb
    ·have He:Hid (R=42):=Hno'.out (by rw[Hro2.out];rfl)
     go_wp2_with fail
     go_ret
     exact ⟨zBZ He.out.symm,B2⟩
    by_cases hnd:nd=0
    ·have hdb:(nd==0)=true:=by simp[hnd]
     have He:=cH (Hyes'.out (by rw[Hro2.out,decide_eq_true hnd];rfl))
     clear hnd
     go_wp2_with fail
     go_roundw
     case rel=>exact ⟨k+1,by omega,by go_num,He,B3⟩
     case measure=>simp[intOf];omega
    ·have hdb:(nd==0)=false:=by simp[hnd]
     have He:Hid (R=42):=Hno'.out (by rw[Hro2.out,decide_eq_false hnd];rfl)
     clear hnd
     go_wp2_with fail
     go_ret
     exact ⟨zBZ He.out.symm,B2⟩
   ·have hkb:((k:Int)==0)=false:=by simp[hkz]
    have Hno':Hid (sb=false→R=42):=fun h=>Hno.out (by rw[decide_eq_false hkz];exact h)
    have Hyes':Hid (sb=true→R=bif okGo xs (xs.drop (k+1)) (k+1) then 0 else 42):=fun h=>Hyes.out (by rw[decide_eq_false hkz];exact h)
    clear Hno Hyes Hsm Hro hkz
    have bo:∀ o:Obj,(wr.alloc o).cell? ⟨w.heap.size,0,none⟩=some (.slice (some ⟨b,oo,none⟩) n c):=fun o=>zAA (bal (bR _ _) o) b0 hzr
    go_wp2_with fail
    refine (Hs.out _).mono ?_
    rintro e w1 ⟨rfl,B1⟩
    have B2:=bot (bal hbel' _) B1
    have B3:=bot (bal hbel _) B1
    clear B1
    cases sb
    ·have He:Hid (R=42):=Hno'.out rfl
     go_wp2_with fail
     go_ret
     exact ⟨zBZ He.out.symm,B2⟩
    ·have He:=cH (Hyes'.out rfl)
     go_wp2_with fail
     go_roundw
     case rel=>exact ⟨k+1,by omega,by go_num,He,B3⟩
     case measure=>simp[intOf];omega
  ·have He:Hid (R=0):=by unfold Hid;rw[heq.out,dN (by have:=Hnx.out;omega)];rfl
   go_wp2_with fail
   go_ret
   exact ⟨zBZ He.out.symm,hbel'⟩
theorem zJG (q:Dir→Bool):∀ (t:List Dir) (k j:Nat),zBJ q t k=(j:Int)→∃ i,∃ h:i<t.length,j=k+i∧q t[i]=true:=by
 intro t
 induction t with
 | nil=>intro k j h;rw[zBJ] at h;omega
 | cons d t ih=>
   intro k j h
   rw[zBJ] at h
   cases hq:q d
   ·rw[hq] at h
    obtain ⟨i,hi,e,hqi⟩:=ih (k+1) j h
    exact ⟨i+1,by simpa using hi,by omega,by simpa using hqi⟩
   ·rw[hq] at h
    refine ⟨0,by simp,?_,by simpa using hq⟩
    have:(k:Int)=(j:Int):=h
    omega
theorem zHU {t:List Dir} {p:List ByteArray} {j:Nat} (h:findI t p=(j:Int)):∃ hj:j<t.length,t[j].path=p:=by
 unfold findI zGJ at h
 obtain ⟨i,hi,e,hq⟩:=zJG _ t 0 j h
 obtain rfl:i=j:=by omega
 refine ⟨hi,?_⟩
 by_cases e:t[i].path=p
 ·exact e
 ·rw[zAD e] at hq;cases hq
theorem zDk (t:List Dir):∀ (l:List Dir) (k:Nat),okGo t l k=true→∀ j (h:j<l.length),k+j≠0→zBk t l[j] (k+j)=true:=by
 intro l
 induction l with
 | nil=>intro k _ j h;simp at h
 | cons d l ih=>
   intro k hk j h h0
   rw[okGo,Bool.and_eq_true] at hk
   cases j with
   | zero=>
     have hd:decide (k=0)=false:=decide_eq_false (by omega)
     rw[hd] at hk
     exact hk.1
   | succ j=>
     have:=ih (k+1) hk.2 j (by simpa using h) (by omega)
     rw[show k+(j+1)=k+1+j by omega]
     simpa using this
theorem zQ1 {t:List Dir} {d:Dir} {l:List Dir} (h:okGo t (d::l) 0=true):d.path=[]:=by
 rw[okGo,Bool.and_eq_true] at h
 have h1:rootB d=true:=h.1
 unfold rootB at h1
 simp only[Bool.and_eq_true,decide_eq_true_eq] at h1
 exact List.eq_nil_of_length_eq_zero h1.1
theorem zCv {t:List Dir} (h:zAe t=0):okGo t t 0=true:=by
 unfold zAe at h
 split at h
 ·exact absurd h (by decide)
 ·cases hk:okGo t t 0
  ·rw[hk] at h;exact absurd h (by decide)
  ·rfl
theorem zLC {t:List Dir} (h:zAe t=0) {i:Nat} (hi:i<t.length) (h1:1≤i) :
  t[i].path≠[]∧findI t t[i].path=(i:Int)∧nameB (lastN t[i].path)=true:=by
 have:=zDk t t 0 (zCv h) i hi (by omega)
 rw[Nat.zero_add] at this
 unfold zBk at this
 simp only[Bool.and_eq_true,decide_eq_true_eq] at this
 obtain ⟨a1,a2,a3,a4,a5,a6,a7,a8,a9⟩:=this
 refine ⟨fun e=>a1 (by rw[e];rfl),a5,?_⟩
 rw[←a9]
 unfold packB at a8
 simp only[Bool.and_eq_true] at a8
 exact a8.1
theorem zJC {t:List Dir} (h:zAe t=0) (h0:0<t.length):t[0].path=[]:=by
 have:=zCv h
 match t,h0,this with
 | d::l,_,h'=>exact zQ1 h'
theorem zLY {t:List Dir} (h:zAe t=0) {i:Nat} (hi:i<t.length) (h1:1≤i):0≤zC5 t t[i].path∧zC5 t t[i].path<(i:Int):=by
 have:=zDk t t 0 (zCv h) i hi (by omega)
 rw[Nat.zero_add] at this
 unfold zBk at this
 simp only[Bool.and_eq_true,decide_eq_true_eq] at this
 exact ⟨this.2.2.2.2.2.1,this.2.2.2.2.2.2.1⟩
theorem zOJ {t:List Dir} (h:zAe t=0) (h0:0<t.length):findI t []=0:=by
 have hr:=zJC h h0
 match t,h0,hr with
 | d::l,_,hr=>
   have hr:d.path=[]:=hr
   unfold findI zGJ
   rw[zBJ,hr,zAF rfl];rfl
theorem zFm {t:List Dir} (h:zAe t=0) {i:Nat} (hi:i<t.length):findI t t[i].path=(i:Int):=by
 rcases Nat.eq_zero_or_pos i with h0|h0
 ·subst h0;rw[zJC h hi];exact zOJ h hi
 ·exact (zLC h hi h0).2.1
theorem zDi (t:List Dir) {p:List ByteArray} {q:Nat} (h:p.length=q+1):zC5 t p=findI t (p.take q):=by
 unfold zC5;rw[h];rfl
theorem zOV {t:List Dir} (h:zAe t=0) {j y:Nat} (hj:j<t.length):y∈zBC t j↔∃ hy:y<t.length,1≤y∧zC5 t t[y].path=(j:Int):=by
 unfold zBC
 rw[gE hj]
 show y∈insR (nmL t) (insQ t t[j].path) t.length↔_
 constructor
 ·intro hm
  obtain ⟨hy,hq⟩:=zNJ hm
  rw[zJu hy,Bool.and_eq_true,decide_eq_true_eq] at hq
  obtain ⟨h1,h2⟩:=hq
  have h2:=zFE h2
  refine ⟨hy,?_,?_⟩
  ·rcases Nat.eq_zero_or_pos y with h0|h0
   ·subst h0;rw[zJC h hy] at h1;simp at h1
   ·exact h0
  ·rw[zDi t h1,h2,zFm h hj]
 ·rintro ⟨hy,h1,h2⟩
  obtain ⟨hne,_,_⟩:=zLC h hy h1
  obtain ⟨q,hq⟩:∃ q,t[y].path.length=q+1:=⟨t[y].path.length - 1,by have:=List.length_pos_iff.2 hne;omega⟩
  rw[zDi t hq] at h2
  obtain ⟨_,h3⟩:=zHU h2
  have hl:t[j].path.length=q:=by rw[h3,List.length_take];omega
  have hqq:insQ t t[j].path y=true:=by
   rw[zJu hy,hl,hq,decide_eq_true rfl,h3,zAF rfl];rfl
  rw[(zHA _ _ _).mem_iff,List.mem_filter,List.mem_range]
  exact ⟨hy,hqq⟩
theorem zMF (t:List Dir) (j:Nat):zBs t (j:Int)=zBC t j:=by unfold zBs;rw[if_pos (by omega),Int.toNat_natCast]
end Go.Proofs.YthbnmehbhpakaaaGreatDoor
namespace Go.Proofs.YthbnmehbhpakaaaGreatDoor
open Go
def zCL:Option ByteArray→List ByteArray→Bool
 | _,[]=>true
 | p,s::l=>(nameB s&&behind p s)&&zCL (some s) l
def zC4 (l:List ByteArray):Bool:=zCL none l&&decide (l.length≤128)
def zE9 (l:List ByteArray):Nat→Option ByteArray
 | 0=>none
 | k+1=>l[k]?
theorem zKf {l:List ByteArray} {k:Nat} {s:ByteArray} (h:l[k]?=some s):zCL (zE9 l k) (l.drop k)=((nameB s&&behind (zE9 l k) s)&&zCL (zE9 l (k+1)) (l.drop (k+1))):=by
 obtain ⟨hk,e⟩:=gS.1 h
 rw[dC hk,e,zCL]
 show _=((nameB s&&behind (zE9 l k) s)&&zCL l[k]? (l.drop (k+1)))
 rw[h]
theorem zKZ {l:List ByteArray} {k:Nat} {p:Option ByteArray} (h:l.length≤k):zCL p (l.drop k)=true:=by
 rw[dN h];rfl
theorem zB6:∀ {l:List ByteArray} {p:Option ByteArray},zCL p l=true→∀ s∈l,nameB s=true
 | [],_,_,s,hs=>by cases hs
 | x::l,p,h,s,hs=>by
   rw[zCL,Bool.and_eq_true,Bool.and_eq_true] at h
   rcases List.mem_cons.1 hs with rfl|hs
   ·exact h.1.1
   ·exact zB6 h.2 s hs
def verOk (v:Ver):Bool:=verB v.major v.minor v.patch
def zB2 (l:List Pin):List ByteArray:=l.map (·.name)
def zBU (l:List Edge):List ByteArray:=l.map (·.label)
def zHa (l:List Pin):Bool:=l.all fun q=>verOk q.ver
def zDo (many:Nat) (l:List Edge):Bool:=l.all fun e=>decide (1≤e.to)&&decide (e.to<many)
def zC8 (many:Nat) (x:Node):Bool:=((zC4 (zB2 x.ctx)&&zC4 (zBU x.edges))&&zHa x.ctx)&&zDo many x.edges
def zeroV (v:Ver):Bool:=decide (v.major=0)&&(decide (v.minor=0)&&decide (v.patch=0))
def zFA (i:Nat) (x:Node):Bool:=if i=0 then (x.name.toList==[])&&(zeroV x.ver&&decide (x.ctx.length=0)) else nameB x.name&&verOk x.ver
def zCP (many:Nat):Nat→List Node→Bool
 | _,[]=>true
 | i,x::l=>(zFA i x&&zC8 many x)&&zCP many (i+1) l
def lockB (l:List Node):Bool:=(decide (1≤l.length)&&decide (l.length≤128))&&zCP l.length 0 l
theorem zMP {many:Nat} {l:List Node} {k:Nat} {x:Node} (h:l[k]?=some x):zCP many k (l.drop k)=((zFA k x&&zC8 many x)&&zCP many (k+1) (l.drop (k+1))):=by
 obtain ⟨hk,e⟩:=gS.1 h
 rw[dC hk,e,zCP]
theorem zLw {many:Nat} {l:List Node} {k:Nat} (h:l.length≤k):zCP many k (l.drop k)=true:=by
 rw[dN h];rfl
theorem zIu:∀ {l:List Node} {many i:Nat},zCP many i l=true→∀ x∈l,zC8 many x=true∧∃ j,zFA j x=true
 | [],_,_,_,x,hx=>by cases hx
 | y::l,many,i,h,x,hx=>by
   rw[zCP,Bool.and_eq_true,Bool.and_eq_true] at h
   rcases List.mem_cons.1 hx with rfl|hx
   ·exact ⟨h.1.2,i,h.1.1⟩
   ·exact zIu h.2 x hx
def lockW:ByteArray:=⟨#[108,111,99,107,10]⟩
def rootW:ByteArray:=⟨#[114,111,111,116,10]⟩
def nodeW:ByteArray:=⟨#[110,111,100,101,32]⟩
def withW:ByteArray:=⟨#[119,105,116,104,32]⟩
def toW:ByteArray:=⟨#[116,111,32]⟩
def verT (v:Ver):ByteArray:=zAj v.major v.minor v.patch
def withL (q:Pin):ByteArray:=withW++q.name++zAH++verT q.ver++nlB
def toL (e:Edge):ByteArray:=toW++e.label++zAH++itoaB e.to++nlB
def withs:List Pin→ByteArray
 | []=>⟨#[]⟩
 | q::l=>withL q++withs l
def tos:List Edge→ByteArray
 | []=>⟨#[]⟩
 | e::l=>toL e++tos l
def nodeL (i:Nat) (x:Node):ByteArray:=if i=0 then rootW else nodeW++x.name++zAH++verT x.ver++nlB
def nodeT (i:Nat) (x:Node):ByteArray:=nodeL i x++withs x.ctx++tos x.edges
def zBQ:Nat→List Node→ByteArray
 | _,[]=>⟨#[]⟩
 | i,x::l=>nodeT i x++zBQ (i+1) l
def zAo (l:List Node):ByteArray:=lockW++zBQ 0 l
theorem zDW (a:ByteArray):(⟨#[]⟩:ByteArray)++a=a:=by apply ByteArray.ext;simp[ByteArray.data_append]
theorem zBh (a:ByteArray):a++(⟨#[]⟩:ByteArray)=a:=by apply ByteArray.ext;simp[ByteArray.data_append]
theorem zKn (a b:List Pin):withs (a++b)=withs a++withs b:=by
 induction a with
 | nil=>rw[List.nil_append,withs,zDW]
 | cons q a ih=>rw[List.cons_append,withs,ih,withs,ByteArray.append_assoc]
theorem zOO (a b:List Edge):tos (a++b)=tos a++tos b:=by
 induction a with
 | nil=>rw[List.nil_append,tos,zDW]
 | cons q a ih=>rw[List.cons_append,tos,ih,tos,ByteArray.append_assoc]
theorem zNW {l:List Pin} {k:Nat} {q:Pin} (h:l[k]?=some q):withs (l.take (k+1))=withs (l.take k)++withL q:=by
 rw[List.take_add_one,h,zKn]
 show _++(withL q++⟨#[]⟩)=_
 rw[zBh]
theorem zRV {l:List Edge} {k:Nat} {q:Edge} (h:l[k]?=some q):tos (l.take (k+1))=tos (l.take k)++toL q:=by
 rw[List.take_add_one,h,zOO]
 show _++(toL q++⟨#[]⟩)=_
 rw[zBh]
theorem zJZ (a b:List Node):∀ i,zBQ i (a++b)=zBQ i a++zBQ (i+a.length) b:=by
 induction a with
 | nil=>intro i;rw[List.nil_append,zBQ,zDW];rfl
 | cons x a ih=>intro i;rw[List.cons_append,zBQ,ih,zBQ,ByteArray.append_assoc,List.length_cons,show i+1+a.length=i+(a.length+1) from by omega]
theorem zL1 {l:List Node} {k:Nat} {x:Node} (h:l[k]?=some x):zBQ 0 (l.take (k+1))=zBQ 0 (l.take k)++nodeT k x:=by
 have hk:=(gS.1 h).1
 rw[List.take_add_one,h,zJZ,List.length_take,Nat.min_eq_left (by omega),Nat.zero_add]
 show _++(nodeT k x++⟨#[]⟩)=_
 rw[zBh]
theorem zHR {n:Int} (h0:0≤n) (h1:n≤999):(itoaB n).size≤3:=by
 have:n.toNat<1000:=by omega
 have e:itoaB n=⟨(Lib.decDigits n.toNat).toArray⟩:=by unfold itoaB Lib.itoa;rw[if_neg (by omega)]
 rw[e]
 show (Lib.decDigits n.toNat).toArray.size≤3
 simp only[List.size_toArray]
 have hd:∀ k:Fin 1000,(Lib.decDigits k.val).length≤3:=by decide +kernel
 exact hd ⟨n.toNat,this⟩
theorem zM4 {q:Pin} (h:q.name.size≤16):(withL q).size≤34:=by
 have h1:(verT q.ver).size≤11:=zBN _ _ _
 have z1:zAH.size=1:=rfl
 have z2:nlB.size=1:=rfl
 have z3:withW.size=5:=rfl
 unfold withL
 simp only[ByteArray.size_append]
 omega
theorem zSE {e:Edge} (h:e.label.size≤16) (h0:0≤e.to) (h1:e.to≤999):(toL e).size≤24:=by
 have h2:=zHR h0 h1
 have z1:zAH.size=1:=rfl
 have z2:nlB.size=1:=rfl
 have z3:toW.size=3:=rfl
 unfold toL
 simp only[ByteArray.size_append]
 omega
theorem zM6 {i:Nat} {x:Node} (h:x.name.size≤16):(nodeL i x).size≤34:=by
 have h1:(verT x.ver).size≤11:=zBN _ _ _
 have z1:zAH.size=1:=rfl
 have z2:nlB.size=1:=rfl
 have z3:nodeW.size=5:=rfl
 have z4:rootW.size=5:=rfl
 unfold nodeL
 split
 ·omega
 ·simp only[ByteArray.size_append]
  omega
theorem zNV {l:List Pin} (h:∀ q∈l,q.name.size≤16):(withs l).size≤34 * l.length:=by
 induction l with
 | nil=>exact nR _
 | cons q l ih=>
   have h1:=zM4 (h q (by simp))
   have h2:=ih (fun x hx=>h x (by simp[hx]))
   rw[withs,ByteArray.size_append,List.length_cons]
   omega
theorem zSD {l:List Edge} (h:∀ e∈l,e.label.size≤16∧0≤e.to∧e.to≤999):(tos l).size≤24 * l.length:=by
 induction l with
 | nil=>exact nR _
 | cons q l ih=>
   obtain ⟨a,b,c⟩:=h q (by simp)
   have h1:=zSE a b c
   have h2:=ih (fun x hx=>h x (by simp[hx]))
   rw[tos,ByteArray.size_append,List.length_cons]
   omega
def NodeZ (x:Node):Prop:=x.name.size≤16∧x.ctx.length≤128∧x.edges.length≤128∧(∀ q∈x.ctx,q.name.size≤16)∧∀ e∈x.edges,e.label.size≤16∧0≤e.to∧e.to≤999
theorem zRM {x:Node} {many j:Nat} (hm:many≤128) (h1:zC8 many x=true) (h2:zFA j x=true):NodeZ x:=by
 unfold zC8 at h1
 simp only[Bool.and_eq_true] at h1
 obtain ⟨⟨⟨a,b⟩,c⟩,d⟩:=h1
 unfold zC4 at a b
 simp only[Bool.and_eq_true,decide_eq_true_eq] at a b
 unfold zB2 at a
 unfold zBU at b
 rw[List.length_map] at a b
 refine ⟨?_,a.2,b.2,fun q hq=>?_,fun e he=>⟨?_,?_⟩⟩
 ·unfold zFA at h2
  split at h2
  ·simp only[Bool.and_eq_true] at h2
   have:x.name.toList=[]:=by simpa using h2.1
   have e:x.name.size=x.name.toList.length:=by rw[Go.ByteArray.toList_eq,Array.length_toList];rfl
   rw[e,this]
   exact nZ _
  ·simp only[Bool.and_eq_true] at h2
   exact zCG h2.1
 ·exact zCG (zB6 a.1 _ (List.mem_map.2 ⟨q,hq,rfl⟩))
 ·exact zCG (zB6 b.1 _ (List.mem_map.2 ⟨e,he,rfl⟩))
 ·have:=List.all_eq_true.1 d e he
  simp only[Bool.and_eq_true,decide_eq_true_eq] at this
  omega
theorem zEr {l:List Node} (h:lockB l=true):l.length≤128∧∀ x∈l,NodeZ x:=by
 unfold lockB at h
 simp only[Bool.and_eq_true,decide_eq_true_eq] at h
 refine ⟨h.1.2,fun x hx=>?_⟩
 obtain ⟨h1,j,h2⟩:=zIu h.2 x hx
 exact zRM h.1.2 h1 h2
theorem zQ7 {i:Nat} {x:Node} (h:NodeZ x):(nodeT i x).size≤7458:=by
 obtain ⟨a,b,c,d,e⟩:=h
 have h1:=zM6 (i:=i) a
 have h2:=zNV d
 have h3:=zSD e
 unfold nodeT
 simp only[ByteArray.size_append]
 omega
theorem zKh {l:List Node} (h:∀ x∈l,NodeZ x):∀ i,(zBQ i l).size≤7458 * l.length:=by
 induction l with
 | nil=>intro i;exact nR _
 | cons x l ih=>
   intro i
   have h1:=zQ7 (i:=i) (h x (by simp))
   have h2:=ih (fun y hy=>h y (by simp[hy])) (i+1)
   rw[zBQ,ByteArray.size_append,List.length_cons]
   omega
theorem zEq {l:List Node} (h:lockB l=true):(zAo l).size≤1000000:=by
 obtain ⟨a,b⟩:=zEr h
 have h1:=zKh b 0
 have z:lockW.size=5:=rfl
 unfold zAo
 rw[ByteArray.size_append]
 omega
def lockP (l:List Node):ByteArray×Int:=if lockB l=true then (zAo l,0) else (⟨#[]⟩,33)
