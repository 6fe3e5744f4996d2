/- The program's placer: does a directory see what its node has in its context as another one does. -/
import Derived.Test.YtminjjdnmpaaoaaGreatDoorSv12
import Derived.Test.YtminjjdnmpaaoaaGreatDoorSv10
import Derived.Test.YtminjjdnmpaaoaaGreatDoorSv07
import Derived.Deep.LoopGhost
import Derived.WalkMore
import Derived.Deep.CutRange
import Derived.Deep.RegionHeld3
import Derived.Deep.RegionLaw
import Derived.Test.YtminjjdnmpaaoaaGreatDoorAl
set_option linter.all false
set_option maxHeartbeats 12800000
set_option maxRecDepth 100000
namespace Go.Proofs.YtminjjdnmpaaoaaGreatDoor
open Go.Rows Go.RowKit Go.Shelf Go.Sort
theorem PlRd.node {C:PlCtx} {w:World} {st:PlSt} {A:Option Addr} {c:Nat} {A':Option Addr} {c':Nat} (h:PlRd C w st A c A' c') (hC:C.Ok) (hb:Below C.w0.heap.size C.w0 w) {i:Nat} {n:Node} (hi:C.q.g[i]?=some n) :
  ∃ (b o:Nat) (xA:Option Addr) (xc:Nat) (eA:Option Addr) (ec:Nat),C.gA=some ⟨b,o,none⟩∧b<C.w0.heap.size∧i<C.gn∧w.cell? ⟨b,o+i * 6,none⟩=some (.string n.name)∧w.cell? ⟨b,o+i * 6+1,none⟩=some (.int .i64 n.ver.major)∧w.cell? ⟨b,o+i * 6+2,none⟩=some (.int .i64 n.ver.minor)∧w.cell? ⟨b,o+i * 6+3,none⟩=some (.int .i64 n.ver.patch) ∧
    w.cell? ⟨b,o+i * 6+4,none⟩=some (.slice xA n.ctx.length xc)∧w.cell? ⟨b,o+i * 6+5,none⟩=some (.slice eA n.edges.length ec)∧SlV rPin w (fun b=>b<C.w0.heap.size) n.ctx (.slice xA n.ctx.length xc)∧SlV rEdge w (fun b=>b<C.w0.heap.size) n.edges (.slice eA n.edges.length ec)∧n.name.size≤maxLen:=by
 have hg:=hC.g.belowSize hb
 have hn:=hg.n_eq
 obtain ⟨b,o,cs,hA,hS,hbl,hh,hcell⟩:=hg.elem hi
 obtain ⟨s0,s1,rfl,hnm,_,_,_,hx,he⟩:=hh
 obtain ⟨xA,xc,rfl,_,_⟩:=hx.val
 obtain ⟨eA,ec,rfl,_,_⟩:=he.val
 have c0:=hcell 0 _ rfl
 have c1:=hcell 1 _ rfl
 have c2:=hcell 2 _ rfl
 have c3:=hcell 3 _ rfl
 have c4:=hcell 4 _ rfl
 have c5:=hcell 5 _ rfl
 simp only[rNode,Nat.add_zero] at c0 c1 c2 c3 c4 c5
 exact ⟨b,o,xA,xc,eA,ec,hA,hS,by rw[hn];exact (gS.1 hi).1,c0,c1,c2,c3,c4,c5,hx,he,hnm⟩
theorem zJ8 {q:Pin→Bool} {l:List Pin} {k:Nat} {x:Pin} (h:l[k]?=some x):(l.drop k).all q=(q x&&(l.drop (k+1)).all q):=by
 obtain ⟨hk,e⟩:=gS.1 h
 rw[dC hk,e,List.all_cons]
theorem zAi {α:Type} {r:Rp α} {w:World} {S:Nat→Prop} {l:List α} {A:Option Addr} {n c:Nat} (h:SlV r w S l (.slice A n c)):n≤9223372036854775807:=by
 have h1:=h.cap_le
 obtain ⟨_,_,e1,h3,_⟩:=h.val
 simp only[Value.slice.injEq] at e1
 unfold maxLen at h1
 omega
theorem zJr (C:PlCtx) (hC:C.Ok) (w:World) (st:PlSt) (hw:PlWd C w st) (a f:Nat) (ha:a<st.1.length) (hf:f≤1000000) {n:Node} {j:Nat} (hj:(dirAt st.1 a).node=(j:Int)) (hn:C.q.g[j]?=some n) (hlen:∀ d∈st.1,d.path.length * 32≤140737488355328) :
  Calls Tryz.prog 79 #[.pointer (some ⟨C.P,0,none⟩),.int .i64 (a:Int),.int .i64 (f:Int)] w fun e w'=>e=.returned (.bool (seesB C.q.g st.1 st.2 a f))∧Below w.heap.size w w':=by
 obtain ⟨A,c,A',c',hr⟩:=hw.read
 have hlen1:=hr.len.1
 have x0:=hr.c0
 have x7:=hr.c7
 obtain ⟨b,o,pA,pc,hA,hb,_,y8,_,_,_⟩:=hr.dir (zAa ha)
 obtain ⟨gb,go,xA,xc,eA,ec,hgA,hgb,hjn,_,_,_,_,g4,_,hx,_,_⟩:=hr.node hC hw.base hn
 rw[hj] at y8
 subst hA
 have hgcap:=zAi (hC.g)
 have hxl:=zAi hx
 have hnlt:C.gn≤9223372036854775807:=hgcap
 rw[hgA] at x0
 have hHP:=hr.hP
 have HF:Hid (∀ W (s:ByteArray),Below w.heap.size w W→Calls Tryz.prog 128 #[.pointer (some ⟨C.P,0,none⟩),.int .i64 (f:Int),.string s] W fun e w'=>e=.returned (.int .i64 (zAq st.2 f s))∧Below W.heap.size W w'):=fun W s hW=>zKd C W st (hw.keep hC hW) f hf s
 have HL:Hid (∀ W (s:ByteArray),s.size≤maxLen→Below w.heap.size w W→Calls Tryz.prog 17 #[.agg #[.slice (some ⟨b,o,none⟩) st.1.length c],.int .i64 (a:Int),.string s] W fun e w'=>e=.returned (.int .i64 (lookI st.1 (a:Int) s))∧Below W.heap.size W w'):=fun W s hs hW=>zGg _ _ _ st.1 s W _ (a:Int) hs hlen (hr.dirs.belowSize hW)
 have HX7:Hid (∀ W,Below w.heap.size w W→W.cell? ⟨C.P,7,none⟩=some (.slice (some ⟨b,o,none⟩) st.1.length c)):=fun W hW=>zAA hW x7 hHP
 have HR:Hid (seesB C.q.g st.1 st.2 a f=(n.ctx.drop 0).all (zCB st.1 st.2 a f)):=by
  unfold Hid seesB
  rw[hj,Int.toNat_natCast,hn]
  rfl
 have H1:Hid (∀ q:Pin,zCB st.1 st.2 a f q=(decide (0≤zAq st.2 f q.name)&&decide (lookI st.1 (a:Int) q.name=zAq st.2 f q.name))):=fun q=>rfl
 have HX:=cH (hx.more (S':=fun _=>True) fun _ _ _=>trivial)
 obtain ⟨m,hm⟩:∃ m,m=n.ctx.length:=⟨_,rfl⟩
 rw[←hm] at g4 HX hxl
 have Hm:=cH hm
 obtain ⟨N,hN⟩:∃ N,N=st.1.length:=⟨_,rfl⟩
 rw[←hN] at x7 HX7 HL ha hlen1
 clear hm hN hr hw hx hC hgA hn hj hlen
 generalize seesB C.q.g st.1 st.2 a f=R at *
 generalize C.P=PB at *
 generalize C.gn=gn at *
 generalize C.gc=gc at *
 generalize n.ctx=ctx at *
 have ha0:(0:Int)≤(a:Int):=by omega
 have han:(a:Int)<(N:Int):=by omega
 have hj0:(0:Int)≤(j:Int):=by omega
 have hjI:(j:Int)<(gn:Int):=by omega
 go_enter Tryz.func79,Tryz.ntmps79
 have r_x0:=cR x0
 have r_x7:=cR x7
 have r_y8:=cR y8
 have r_g4:=cR g4
 go_wp2_with fail
 refine wQ ?_
 repeat (go_big_quiet_step (first|fail))
 refine wpQuiet_nil fun w1 B1=>?_
 have HB1:=cH B1
 clear r_x0 r_x7 r_y8 r_g4 x0 x7 y8 g4 B1
 go_wp2_with fail
 go_loopw [28] (fun t wr=>∃ k:Nat,k≤m∧t=.int .i64 k∧Hid (R=(ctx.drop k).all (zCB st.1 st.2 a f))∧Hid (Below w.heap.size w wr)) (fun t _=>m - (intOf t).toNat)
 case atStart=>exact ⟨0,nZ _,rfl,HR,HB1⟩
 case round=>
  clear HR HB1
  obtain ⟨k,hk,rfl,heq,hbel⟩:=hrel
  have hk0:(0:Int)≤(k:Int):=by omega
  by_cases hlt:k<m
  case neg=>
   have He:Hid (R=true):=by unfold Hid;rw[heq.out,dN (by have:=Hm.out;omega)];rfl
   have hI:¬(k:Int)<(m:Int):=by omega
   clear heq
   go_wp2_with fail
   go_ret
   exact ⟨zAB He.out.symm,hbel.out⟩
  have hkn:(k:Int)<(m:Int):=by omega
  obtain ⟨x,hx⟩:∃ x,ctx[k]?=some x:=⟨_,gE (by have:=Hm.out;omega)⟩
  obtain ⟨b',o',cs,hA,_,hb1,⟨rfl,hlz,_⟩,hcell⟩:=(HX.out.belowSize hbel.out).elem hx
  subst hA
  have c0:=hcell 0 _ rfl
  have c1:=hcell 1 _ rfl
  have c2:=hcell 2 _ rfl
  have c3:=hcell 3 _ rfl
  simp only[rPin,Nat.add_zero] at c0 c1 c2 c3
  have Hst2:Hid (R=((decide (0≤zAq st.2 f x.name)&&decide (lookI st.1 (a:Int) x.name=zAq st.2 f x.name))&&(ctx.drop (k+1)).all (zCB st.1 st.2 a f))):=by unfold Hid;rw[heq.out,zJ8 hx,H1.out]
  have HF1:Hid (∀ W,Below w.heap.size w W→Calls Tryz.prog 128 #[.pointer (some ⟨PB,0,none⟩),.int .i64 (f:Int),.string x.name] W fun e w'=>e=.returned (.int .i64 (zAq st.2 f x.name))∧Below W.heap.size W w'):=fun W hW=>HF.out W x.name hW
  have HL1:Hid (∀ W,Below w.heap.size w W→Calls Tryz.prog 17 #[.agg #[.slice (some ⟨b,o,none⟩) N c],.int .i64 (a:Int),.string x.name] W fun e w'=>e=.returned (.int .i64 (lookI st.1 (a:Int) x.name))∧Below W.heap.size W w'):=fun W hW=>HL.out W x.name hlz hW
  clear hcell hlz heq
  generalize x.name=nm at *
  generalize x.ver.major=v1 at *
  generalize x.ver.minor=v2 at *
  generalize x.ver.patch=v3 at *
  generalize zAq st.2 f nm=fo at *
  generalize lookI st.1 (a:Int) nm=lk at *
  go_upto_region 4 with (fail)
  obtain ⟨w4,hw4⟩:∃ w4,w4=wr.alloc (.cells #[.string nm,.int .i64 v1,.int .i64 v2,.int .i64 v3] 63):=⟨_,rfl⟩
  have hq4:w4.heap[wr.heap.size]?=some (.cells #[.string nm,.int .i64 v1,.int .i64 v2,.int .i64 v3] 63 (0,0)):=by rw[hw4];exact zAD _ _
  have HB4:Hid (Below w.heap.size w w4):=by unfold Hid;rw[hw4];exact bal hbel.out _
  rw[←hw4]
  obtain ⟨QB,hQB⟩:∃ QB,QB=wr.heap.size:=⟨_,rfl⟩
  rw[←hQB] at hq4 ⊢
  have d0:=cO _ _ 0 _ _ _ hq4
  have hqz:=zAf d0
  clear hw4 hQB hq4 c0 c1 c2 c3 hbel
  go_wp2_with fail
  refine (HF1.out w4 HB4.out).mono ?_
  rintro e w5 ⟨rfl,hb5⟩
  have HB5:=cH (bot HB4.out hb5)
  have e0:=zAA hb5 d0 hqz
  have x7:=HX7.out w5 HB5.out
  have HL2:=cH (qcall (w:=w5) (fun W hW=>HL1.out W (bot HB5.out hW)))
  have Hbf:Hid (∀ W,Below w5.heap.size w5 W→Below w.heap.size w W):=fun W hW=>bot HB5.out hW
  clear hb5 HF1 HL1 d0 HB4 HB5
  have r_e0:=cR e0
  have r_x7:=cR x7
  by_cases h1:0≤fo
  case neg=>
   have hI:fo<0:=by omega
   have hId:decide (fo<0)=true:=decide_eq_true hI
   have He:Hid (R=false):=by unfold Hid;rw[Hst2.out,decide_eq_false h1];rfl
   clear Hst2 h1
   go_wp2_with fail
   refine wQ ?_
   repeat (go_big_quiet_step (first|(with_reducible exact HL2.out _ _)))
   refine wpQuiet_nil fun w6 B6=>?_
   have HB6:=cH (Hbf.out _ B6)
   go_wp2_with fail
   go_ret
   exact ⟨zAB He.out.symm,HB6.out⟩
  have hI:¬fo<0:=by omega
  have hId:decide (fo<0)=false:=decide_eq_false hI
  rw[decide_eq_true h1,Bool.true_and] at Hst2
  by_cases h2:lk=fo
  ·have hbn:(lk != fo)=false:=by simp[h2]
   have He:Hid (R=(ctx.drop (k+1)).all (zCB st.1 st.2 a f)):=by unfold Hid;rw[Hst2.out,decide_eq_true h2];rfl
   clear Hst2 h2 h1
   go_wp2_with fail
   refine wQ ?_
   repeat (go_big_quiet_step (first|(with_reducible exact HL2.out _ _)))
   refine wpQuiet_nil fun w6 B6=>?_
   have HB6:=cH (Hbf.out _ B6)
   go_wp2_with fail
   go_roundw
   case rel=>exact ⟨k+1,by omega,by go_num,He,HB6⟩
   case measure=>simp[intOf];omega
  ·have hbn:(lk != fo)=true:=by simp[h2]
   have He:Hid (R=false):=by unfold Hid;rw[Hst2.out,decide_eq_false h2];rfl
   clear Hst2 h2 h1
   go_wp2_with fail
   refine wQ ?_
   repeat (go_big_quiet_step (first|(with_reducible exact HL2.out _ _)))
   refine wpQuiet_nil fun w6 B6=>?_
   have HB6:=cH (Hbf.out _ B6)
   go_wp2_with fail
   go_ret
   exact ⟨zAB He.out.symm,HB6.out⟩
theorem zGs {w:World} {S:Nat→Prop}:∀ {l:List ByteArray},(∀ x∈l,x.size≤maxLen)→Elems rStr w S l (l.map Value.string)
 | [],_=>rfl
 | x::l,h=>⟨[.string x],l.map Value.string,rfl,⟨rfl,h x (by simp)⟩,zGs fun y hy=>h y (by simp[hy])⟩
theorem zKx {w:World} {S:Nat→Prop} {l:List ByteArray} {v:Value} (h:SlV rStr w S l v):∀ x∈l,x.size≤maxLen:=fun x hx=>by
 obtain ⟨i,hi,rfl⟩:=List.getElem_of_mem hx
 obtain ⟨A,c,rfl,_,_⟩:=h.val
 obtain ⟨b,o,cs,_,_,_,⟨_,hz⟩,_⟩:=h.elem (gE hi)
 exact hz
theorem zEH (A:Option Addr) (n c:Nat) (l:List ByteArray) (w:World) (S:Nat→Prop) (hlen:l.length * 32≤140737488355328) (hl:SlV rStr w S l (.slice A n c)) :
  Calls Tryz.prog 129 #[.slice A n c] w fun e w'=>∃ v,e=.returned v∧Own rStr w' w.heap.size 9 v l (fun _=>False)∧Below w.heap.size w w':=by
 have hn:=hl.n_eq
 have hsz:=zKx hl
 cases A with
 | none=>
   have hl0:l=[]:=by
    cases l with
    | nil=>rfl
    | cons x t=>
      obtain ⟨b,o,cs,hA,_⟩:=hl.elem (i:=0) (x:=x) rfl
      cases hA
   refine (Tryz.slices_Clone_string_nil n c w).mono ?_
   rintro e w' ⟨rfl,rfl⟩
   rw[hl0]
   exact ⟨_,rfl,Own.nil_ _ _ _ _ (fun b h=>h.elim),bR _ _⟩
 | some a=>
   by_cases h0:n=0
   ·subst h0
    have hl0:l=[]:=List.eq_nil_of_length_eq_zero hn.symm
    refine (Tryz.slices_Clone_string_zero a c w).mono ?_
    rintro e w' ⟨v,rfl,hown,_,hb⟩
    rw[hl0]
    exact ⟨v,rfl,⟨fun b h=>h.elim,[],hown,rfl⟩,hb⟩
   ·obtain ⟨b,o,cs,hA,_⟩:=hl.elem (gE (show 0<l.length by omega))
    cases hA
    refine (Tryz.slices_Clone_string b o n c l w (by omega) (by omega) fun j hj=>?_).mono ?_
    ·obtain ⟨b2,o2,cs2,e,_,_,⟨rfl,_⟩,hcell⟩:=hl.elem (gE hj)
     have:=hcell 0 _ rfl
     simp only[Option.some.injEq,Addr.mk.injEq] at e
     obtain ⟨rfl,rfl,_⟩:=e
     simp only[rStr,Nat.add_zero,Nat.mul_one] at this
     rw[this,List.getD_eq_getElem?_getD,gE hj];rfl
    ·rintro e w' ⟨v,rfl,hown,_,hb⟩
     rw[hn,List.take_length] at hown
     exact ⟨v,rfl,⟨fun b h=>h.elim,l.map Value.string,hown,zGs hsz⟩,hb⟩
theorem PlRd.pack {C:PlCtx} {w:World} {st:PlSt} {A:Option Addr} {c:Nat} {A':Option Addr} {c':Nat} (h:PlRd C w st A c A' c') (hC:C.Ok) (hb:Below C.w0.heap.size C.w0 w) {i:Nat} {x:Pack} (hi:C.q.ps[i]?=some x) :
  ∃ (b o:Nat) (dA:Option Addr) (dc:Nat) (eA:Option Addr) (ec:Nat) (fA:Option Addr) (fc:Nat),C.pA=some ⟨b,o,none⟩∧b<C.w0.heap.size∧i<C.pn∧w.cell? ⟨b,o+i * 7,none⟩=some (.string x.name)∧w.cell? ⟨b,o+i * 7+1,none⟩=some (.int .i64 x.ver.major)∧w.cell? ⟨b,o+i * 7+2,none⟩=some (.int .i64 x.ver.minor)∧w.cell? ⟨b,o+i * 7+3,none⟩=some (.int .i64 x.ver.patch) ∧
    w.cell? ⟨b,o+i * 7+4,none⟩=some (.slice dA x.deps.length dc)∧w.cell? ⟨b,o+i * 7+5,none⟩=some (.slice eA x.peers.length ec)∧w.cell? ⟨b,o+i * 7+6,none⟩=some (.slice fA x.opts.length fc) ∧
    PackV w (fun b=>b<C.w0.heap.size) x (.agg #[.string x.name,.int .i64 x.ver.major,.int .i64 x.ver.minor,.int .i64 x.ver.patch,.slice dA x.deps.length dc,.slice eA x.peers.length ec,.slice fA x.opts.length fc])∧I64 x.ver.major∧I64 x.ver.minor∧I64 x.ver.patch:=by
 have hg:=hC.p.belowSize hb
 have hn:=hg.n_eq
 obtain ⟨b,o,cs,hA,hS,hbl,hh,hcell⟩:=hg.elem hi
 obtain ⟨s0,s1,s2,rfl,hnm,i1,i2,i3,h1,h2,h3⟩:=hh
 obtain ⟨dA,dc,rfl,_,_⟩:=h1.val
 obtain ⟨eA,ec,rfl,_,_⟩:=h2.val
 obtain ⟨fA,fc,rfl,_,_⟩:=h3.val
 have c0:=hcell 0 _ rfl
 have c1:=hcell 1 _ rfl
 have c2:=hcell 2 _ rfl
 have c3:=hcell 3 _ rfl
 have c4:=hcell 4 _ rfl
 have c5:=hcell 5 _ rfl
 have c6:=hcell 6 _ rfl
 simp only[rPack,Nat.add_zero] at c0 c1 c2 c3 c4 c5 c6
 exact ⟨b,o,dA,dc,eA,ec,fA,fc,hA,hS,by rw[hn];exact (gS.1 hi).1,c0,c1,c2,c3,c4,c5,c6,⟨_,_,_,_,_,_,_,_,_,rfl,hnm,h1,h2,h3⟩,i1,i2,i3⟩
theorem zIx {w:World} {S:Nat→Prop} {l:List Dir} {A:Option Addr} {n c:Nat} (h:SlV rDir w S l (.slice A n c)) {i:Nat} {d:Dir} (hi:l[i]?=some d) :
  ∃ (b o:Nat) (dA:Option Addr) (dc:Nat) (eA:Option Addr) (ec:Nat) (fA:Option Addr) (fc:Nat),A=some ⟨b,o,none⟩∧b<w.heap.size∧w.cell? ⟨b,o+i * 9+1,none⟩=some (.string d.pack.name)∧w.cell? ⟨b,o+i * 9+2,none⟩=some (.int .i64 d.pack.ver.major)∧w.cell? ⟨b,o+i * 9+3,none⟩=some (.int .i64 d.pack.ver.minor)∧w.cell? ⟨b,o+i * 9+4,none⟩=some (.int .i64 d.pack.ver.patch) ∧
    w.cell? ⟨b,o+i * 9+5,none⟩=some (.slice dA d.pack.deps.length dc)∧w.cell? ⟨b,o+i * 9+6,none⟩=some (.slice eA d.pack.peers.length ec)∧w.cell? ⟨b,o+i * 9+7,none⟩=some (.slice fA d.pack.opts.length fc) ∧
    PackV w S d.pack (.agg #[.string d.pack.name,.int .i64 d.pack.ver.major,.int .i64 d.pack.ver.minor,.int .i64 d.pack.ver.patch,.slice dA d.pack.deps.length dc,.slice eA d.pack.peers.length ec,.slice fA d.pack.opts.length fc]):=by
 obtain ⟨b,o,cs,hA,hS,hbl,hh,hcell⟩:=h.elem hi
 obtain ⟨pA,pa,pB,pb,pC,pc,pD,pd,rfl,hp,hpk,hI⟩:=zB9 hh
 have c1:=hcell 1 _ rfl
 have c2:=hcell 2 _ rfl
 have c3:=hcell 3 _ rfl
 have c4:=hcell 4 _ rfl
 have c5:=hcell 5 _ rfl
 have c6:=hcell 6 _ rfl
 have c7:=hcell 7 _ rfl
 simp only[rDir] at c1 c2 c3 c4 c5 c6 c7
 exact ⟨b,o,pB,pb,pC,pc,pD,pd,hA,hbl,c1,c2,c3,c4,c5,c6,c7,hpk⟩
theorem zHx {T:List Dir} {S:List Stl} {old:Option (List Dir)} {path:List ByteArray} {s:ByteArray} {x:Pack} {k:Nat} {b l:Int} (h:0≤findI T (path.take k++[s])):zAv T S old path s x (k+1) (b,l)=(b,l):=by
 rw[zAv,if_pos h]
theorem zIK {T:List Dir} {S:List Stl} {old:Option (List Dir)} {path:List ByteArray} {s:ByteArray} {x:Pack} {k:Nat} {b l:Int} (h:¬0≤findI T (path.take k++[s])) {i:Nat} (hi:findI T (path.take k)=(i:Int)) (ht:zBQ T S i s=true) :
  zAv T S old path s x (k+1) (b,l)=zAv T S old path s x k (b,l):=by
 rw[zAv,if_neg h,hi,Int.toNat_natCast,if_pos ht]
theorem zHl {T:List Dir} {S:List Stl} {old:Option (List Dir)} {path:List ByteArray} {s:ByteArray} {x:Pack} {k:Nat} {b l:Int} (h:¬0≤findI T (path.take k++[s])) {i:Nat} (hi:findI T (path.take k)=(i:Int)) (ht:zBQ T S i s=false) :
  zAv T S old path s x (k+1) (b,l)=zAv T S old path s x k ((i:Int),if zAk old (path.take k++[s]) x=true then (i:Int) else l):=by
 rw[zAv,if_neg h,hi,Int.toNat_natCast,if_neg (by rw[ht];decide)]
theorem zIM (p:List ByteArray) (x:Pack):zAk none p x=false:=rfl
theorem zHn (o:List Dir) (p:List ByteArray) (x:Pack):zAk (some o) p x=(decide (0≤findI o p)&&eqB (dirAt o (findI o p).toNat).pack x):=rfl
theorem zMM {b l:Int} (h:0≤l):pickI (b,l)=l:=by unfold pickI;rw[if_pos h]
theorem zMR {b l:Int} (h:¬0≤l):pickI (b,l)=b:=by unfold pickI;rw[if_neg h]
theorem zLS (C:PlCtx) (hC:C.Ok) (w:World) (st:PlSt) (hw:PlWd C w st) {at_:Nat} {done:List ByteArray} (hinv:PlInv C.q at_ done st) (a nd:Nat) {d:Dir} (hd:st.1[a]?=some d) {n:Node} (hn:C.q.g[nd]?=some n) {x:Pack} (hx:C.q.ps[nd]?=some x) (hlen:∀ d∈st.1,d.path.length * 32≤140737488355000) :
  Calls Tryz.prog 80 #[.pointer (some ⟨C.P,0,none⟩),.int .i64 (a:Int),.int .i64 (nd:Int)] w fun e w'=>e=.returned (.int .i64 (spotI st.1 st.2 C.q.old d.path n.name x))∧Below w.heap.size w w':=by
 have HW:=cH hw
 have hbase:=hw.base
 obtain ⟨A,c,A',c',hr⟩:=hw.read
 have ha:=(gS.1 hd).1
 have hlen1:=hr.len.1
 have x0:=hr.c0
 have x1:=hr.c1
 have x6:=hr.c6
 have x7:=hr.c7
 obtain ⟨b,o,pA,pc,hA,hb,y0,_,hp,hpl,hpm⟩:=hr.dir hd
 obtain ⟨gb,go,xA,xc,eA,ec,hgA,hgb,hjn,g0,_,_,_,_,_,_,_,hnm⟩:=hr.node hC hbase hn
 subst hA
 have hgcap:=zAi hC.g
 have hpcap:=zAi hC.p
 have hHP:=hr.hP
 have hpl2:=hlen d (mG hd)
 unfold maxLen at hpm
 rw[hgA] at x0
 have HFd:Hid (∀ W (vA:Option Addr) (m vc:Nat) (p:List ByteArray),Below w.heap.size w W→SlV rStr W (fun _=>True) p (.slice vA m vc)→Calls Tryz.prog 18 #[.agg #[.slice (some ⟨b,o,none⟩) st.1.length c],.slice vA m vc] W fun e w'=>e=.returned (.int .i64 (findI st.1 p))∧Below W.heap.size W w'):=fun W vA m vc p hW hv=>zDG _ _ _ _ _ _ st.1 p W _ _ (hr.dirs.belowSize hW) hv
 have HPt:Hid (∀ W,Below w.heap.size w W→SlV rStr W (fun _=>True) d.path (.slice pA d.path.length pc)):=fun W hW=>hp.belowSize hW
 have HCl:Hid (∀ W (k:Nat),Below w.heap.size w W→k≤d.path.length→Calls Tryz.prog 129 #[.slice pA k pc] W fun e w'=>∃ v,e=.returned v∧Own rStr w' W.heap.size 9 v (d.path.take k) (fun _=>False)∧Below W.heap.size W w'):=fun W k hW hk=>zEH pA k pc (d.path.take k) W _ (by rw[List.length_take];omega) (SlV.take (hp.belowSize hW) hk)
 have HTu:Hid (∀ W (i:Nat),Below w.heap.size w W→i<st.1.length→Calls Tryz.prog 130 #[.pointer (some ⟨C.P,0,none⟩),.int .i64 (i:Int),.string n.name] W fun e w'=>e=.returned (.bool (zBQ st.1 st.2 i n.name))∧Below W.heap.size W w'):=fun W i hW hi=>zKQ C hC W st (hw.keep hC hW) i hi n.name fun x hx=>⟨(hinv.stl x hx).1,(hinv.stl x hx).2.1⟩
 have HX:Hid (∀ W,Below w.heap.size w W→W.cell? ⟨C.P,1,none⟩=some (.slice C.pA C.pn C.pc)∧W.cell? ⟨C.P,6,none⟩=some C.ov∧W.cell? ⟨C.P,7,none⟩=some (.slice (some ⟨b,o,none⟩) st.1.length c)):=fun W hW=>⟨zAA hW x1 hHP,zAA hW x6 hHP,zAA hW x7 hHP⟩
 have HPk:Hid (∀ W,Below w.heap.size w W→∃ (b o:Nat) (dA:Option Addr) (dc:Nat) (eA:Option Addr) (ec:Nat) (fA:Option Addr) (fc:Nat),C.pA=some ⟨b,o,none⟩∧nd<C.pn∧W.cell? ⟨b,o+nd * 7,none⟩=some (.string x.name)∧W.cell? ⟨b,o+nd * 7+1,none⟩=some (.int .i64 x.ver.major)∧W.cell? ⟨b,o+nd * 7+2,none⟩=some (.int .i64 x.ver.minor)∧W.cell? ⟨b,o+nd * 7+3,none⟩=some (.int .i64 x.ver.patch) ∧
   W.cell? ⟨b,o+nd * 7+4,none⟩=some (.slice dA x.deps.length dc)∧W.cell? ⟨b,o+nd * 7+5,none⟩=some (.slice eA x.peers.length ec)∧W.cell? ⟨b,o+nd * 7+6,none⟩=some (.slice fA x.opts.length fc) ∧
   PackV W (fun b=>b<C.w0.heap.size) x (.agg #[.string x.name,.int .i64 x.ver.major,.int .i64 x.ver.minor,.int .i64 x.ver.patch,.slice dA x.deps.length dc,.slice eA x.peers.length ec,.slice fA x.opts.length fc])):=fun W hW=>by
  obtain ⟨b,o,dA,dc,eA,ec,fA,fc,h1,_,h3,h4,h5,h6,h7,h8,h9,h10,h11,_⟩:=(hr.keep hW).pack hC (bot hbase hW) hx
  exact ⟨b,o,dA,dc,eA,ec,fA,fc,h1,h3,h4,h5,h6,h7,h8,h9,h10,h11⟩
 have HOl:Hid (∀ W,Below w.heap.size w W→OldV W (fun b=>b<C.w0.heap.size) C.ov C.q.old):=fun W hW=>hC.o.keep (bot hbase hW)
 have HFi:Hid (∀ k,k≤d.path.length→∃ i:Nat,i<st.1.length∧findI st.1 (d.path.take k)=(i:Int)):=fun k hk=>by
  obtain ⟨i,e,_,h1,h2,_⟩:=hinv.find hd hk
  exact ⟨i,(gS.1 h2).1,h1⟩
 have HNs:=cH hnm
 have HR:Hid (spotI st.1 st.2 C.q.old d.path n.name x=pickI (zAv st.1 st.2 C.q.old d.path n.name x (d.path.length+1) (-1,-1))):=rfl
 clear hr hw hC hinv hp hn hx hnm hbase hd hgA x1 x6
 obtain ⟨lp,hlp⟩:∃ m,m=d.path.length:=⟨_,rfl⟩
 obtain ⟨N,hN⟩:∃ N,N=st.1.length:=⟨_,rfl⟩
 rw[←hlp] at y0 hpl HPt HCl HFi HR hpl2
 rw[←hN] at x7 ha HFd HTu HX HFi hlen1
 have Hlp:=cH hlp
 clear hN hlp hlen HW
 generalize spotI st.1 st.2 C.q.old d.path n.name x=R at *
 generalize hold:C.q.old=old at *
 clear hold
 generalize C.P=PB at *
 generalize C.gn=gn at *
 generalize C.gc=gc at *
 generalize C.pn=pn at *
 generalize C.pc=pcc at *
 generalize C.pA=ppA at *
 generalize C.ov=ov at *
 generalize C.w0.heap.size=B0 at *
 generalize n.name=s at *
 generalize d.path=path at *
 have ha0:(0:Int)≤(a:Int):=by omega
 have han:(a:Int)<(N:Int):=by omega
 have hj0:(0:Int)≤(nd:Int):=by omega
 have hjI:(nd:Int)<(gn:Int):=by omega
 have hlp63:lp≤4398046511093:=by omega
 go_enter Tryz.func80,Tryz.ntmps80
 go_wp2_with fail
 go_step3
 go_wp2_with fail
 go_step3
 go_wp2_with fail
 clear x0 x7 y0 g0
 go_loopg [8,9,11] (lp+1) (fun G bv lv kv wr=>∃ bb ll:Int,bv=.int .i64 bb∧lv=.int .i64 ll∧kv=.int .i64 ((G:Int) - 1)∧G≤lp+1∧Hid (R=pickI (zAv st.1 st.2 old path s x G (bb,ll)))∧Hid (Below w.heap.size w wr))
 case atStart=>exact ⟨-1,-1,rfl,rfl,by congr 1<;>omega,nR _,HR,bR _ _⟩
 case round=>
  clear HR
  obtain ⟨bb,ll,rfl,rfl,rfl,hgk,HRq,hbel⟩:=hrel
  rcases gk with _|q
  ·have He:Hid (R=pickI (bb,ll)):=HRq
   rw[show ((0:Nat):Int) - 1=-1 from rfl]
   clear HRq
   by_cases hl:0≤ll
   ·rw[zMM hl] at He
    go_wp2_with fail
    try rw[Exit.noGoto_ret]
    go_ret
    exact ⟨zAS He.out.symm,hbel.out⟩
   ·rw[zMR hl] at He
    go_wp2_with fail
    try rw[Exit.noGoto_ret]
    go_ret
    exact ⟨zAS He.out.symm,hbel.out⟩
  have hq:q≤lp:=by omega
  rw[show ((q+1:Nat):Int) - 1=(q:Int) by omega]
  have hq0:(0:Int)≤(q:Int):=by omega
  have hqc:q≤pc:=by omega
  have hw2:IntKind.i64.wrap (q:Int)=(q:Int):=IntWalk.i64_in _ ⟨by omega,by omega⟩
  obtain ⟨i,hiN,hif⟩:=HFi.out q hq
  obtain ⟨x1,x6,x7⟩:=HX.out wr hbel.out
  have Hq:=cH (qcall (w:=wr) (fun W hW=>HFd.out W pA q pc (path.take q) (bot hbel.out hW) (SlV.take (HPt.out W (bot hbel.out hW)) (by rw[←Hlp.out];exact hq))))
  rw[hif] at Hq
  have Hif:=cH hif
  have Hlt:Hid ((path.take q).length=q):=by unfold Hid;rw[List.length_take,←Hlp.out];exact Nat.min_eq_left hq
  clear hif
  have r_x7:=cR x7
  go_wp2_with fail
  refine wQ ?_
  repeat (go_big_quiet_step (first|(with_reducible exact Hq.out _ _)))
  refine wpQuiet_nil fun w1 B1=>?_
  have HB1:=cH (bot hbel.out B1)
  clear r_x7 x1 x6 x7 Hq B1
  go_wp2_with fail
  refine (HCl.out w1 q HB1.out hq).mono ?_
  rintro e w2 ⟨v2,rfl,hown2,hb2⟩
  have HB2:=cH hb2
  have Hown2:=cH hown2
  have hw21:w1.heap.size≤w2.heap.size:=hb2.size
  clear hb2 hown2
  go_wp2_with (at_builtin;refine zAM (by rfl) _ _ _ (by rfl) zAp Tryz.underlying48 (by rfl) (Hown2.out.alloc _) ⟨w2.heap.size,0,none⟩ 1 [.string s] s (by rfl) ⟨rfl,HNs.out⟩ (zAd w2 #[.string s] _) (by rw[Hlt.out];unfold maxLen;omega) (by rw[Hlt.out];omega) (by simp;omega) (w2.heap.size+1) (by simp) ?_)
  intro g9 cap9 w9 hown9 hgrow9 hat9 hlt9
  have HB9:=cH (zAw (bal HB2.out _) hgrow9 (Hown2.out.alloc _) (nR _))
  have Hsl9:=cH (hown9.slv.more (S':=fun _=>True) fun _ _ _=>trivial)
  have HBw9:=cH (bot HB1.out HB9.out)
  clear hown9 hgrow9 hat9 Hown2 HB2 HB9
  obtain ⟨x1,x6,x7⟩:=HX.out w9 HBw9.out
  have hmin:min q path.length=q:=by have:=Hlt.out;rwa [List.length_take] at this
  rw[hmin] at Hsl9 ⊢
  go_wp2_with fail
  refine (HFd.out w9 _ _ _ _ HBw9.out Hsl9.out).mono ?_
  rintro e w10 ⟨rfl,hb10⟩
  have HB10:=cH (bot HBw9.out hb10)
  have Hsl10:=cH (Hsl9.out.belowSize hb10)
  clear hb10 Hsl9 x1 x6 x7
  have Hst1:=cH (fun h=>zHx (S:=st.2) (old:=old) (x:=x) (T:=st.1) (path:=path) (s:=s) (k:=q) (b:=bb) (l:=ll) h)
  have Hst2:=cH (fun h ht=>zIK (S:=st.2) (old:=old) (x:=x) (T:=st.1) (path:=path) (s:=s) (k:=q) (b:=bb) (l:=ll) h Hif.out ht)
  have Hst3:=cH (fun h ht=>zHl (S:=st.2) (old:=old) (x:=x) (T:=st.1) (path:=path) (s:=s) (k:=q) (b:=bb) (l:=ll) h Hif.out ht)
  clear Hlt Hif
  by_cases hf:0≤findI st.1 (path.take q++[s])
  case pos=>
   have He:Hid (R=pickI (bb,ll)):=by unfold Hid;rw[HRq.out,Hst1.out hf]
   generalize findI st.1 (path.take q++[s])=f at *
   clear Hst1 Hst2 Hst3 HRq
   by_cases hl:0≤ll
   ·rw[zMM hl] at He
    go_wp2_with fail
    try rw[Exit.noGoto_ret]
    go_ret
    exact ⟨zAS He.out.symm,HB10.out⟩
   ·rw[zMR hl] at He
    go_wp2_with fail
    try rw[Exit.noGoto_ret]
    go_ret
    exact ⟨zAS He.out.symm,HB10.out⟩
  have Hst2':=cH (fun ht=>Hst2.out hf ht)
  have Hst3':=cH (fun ht=>Hst3.out hf ht)
  clear Hst1 Hst2 Hst3
  have hfd:decide (0≤findI st.1 (path.take q++[s]))=false:=decide_eq_false hf
  generalize findI st.1 (path.take q++[s])=f at *
  go_wp2_with fail
  refine (HTu.out w10 i HB10.out hiN).mono ?_
  rintro e w11 ⟨rfl,hb11⟩
  have HB11:=cH (bot HB10.out hb11)
  have Hsl11:=cH (Hsl10.out.belowSize hb11)
  clear hb11 HB10 Hsl10
  have hwm:IntKind.i64.wrap ((q:Int) - 1)=(q:Int) - 1:=IntWalk.i64_in _ ⟨by omega,by omega⟩
  cases hu:zBQ st.1 st.2 i s with
  | true=>
    have HR2:Hid (R=pickI (zAv st.1 st.2 old path s x q (bb,ll))):=by unfold Hid;rw[HRq.out,Hst2'.out hu]
    clear Hst2' Hst3' HRq hu
    go_wp2_with fail
    go_roundg q
    case rel=>exact ⟨bb,ll,rfl,rfl,by congr 1<;>omega,by omega,HR2,HB11⟩
    case measure=>omega
  | false=>
  have HR2:Hid (R=pickI (zAv st.1 st.2 old path s x q ((i:Int),if zAk old (path.take q++[s]) x=true then (i:Int) else ll))):=by unfold Hid;rw[HRq.out,Hst3'.out hu]
  clear Hst2' Hst3' HRq hu
  obtain ⟨x1,x6,x7⟩:=HX.out w11 HB11.out
  rcases HOl.out w11 HB11.out with ⟨hon,hov⟩|⟨ob,oo,oA,on,oc,l,hon,hov,hobl,_,hoc,hos,_⟩
  ·subst hov
   have HR3:Hid (R=pickI (zAv st.1 st.2 old path s x q ((i:Int),ll))):=by unfold Hid;rw[HR2.out,hon,zIM];rfl
   clear HR2 hon
   go_wp2_with fail
   go_roundg q
   case rel=>exact ⟨(i:Int),ll,rfl,rfl,by congr 1<;>omega,by omega,HR3,HB11⟩
   case measure=>omega
  ·subst hov
   have HLk2:Hid (zAk old (path.take q++[s]) x=(decide (0≤findI l (path.take q++[s]))&&eqB (dirAt l (findI l (path.take q++[s])).toNat).pack x)):=by unfold Hid;rw[hon,zHn]
   have Hos:=cH hos
   have Hoc:=cH hoc
   clear hon
   go_wp2_with fail
   refine (zDG oA _ on oc _ _ l _ w11 _ _ Hos.out Hsl11.out).mono ?_
   rintro e w12 ⟨rfl,hb12⟩
   have HB12:=cH (bot HB11.out hb12)
   have Hos2:=cH (Hos.out.belowSize hb12)
   have oc2:=zAA hb12 Hoc.out hobl
   clear hb12 Hos Hsl11 x1 x6 x7 hoc hos
   obtain ⟨x1,x6,x7⟩:=HX.out w12 HB12.out
   by_cases hz:0≤findI l (path.take q++[s])
   case neg=>
    have HR3:Hid (R=pickI (zAv st.1 st.2 old path s x q ((i:Int),ll))):=by unfold Hid;rw[HR2.out,HLk2.out,decide_eq_false hz];rfl
    generalize findI l (path.take q++[s])=z at *
    have hzd:decide (0≤z)=false:=decide_eq_false hz
    clear HR2 HLk2
    have r_x1:=cR x1
    have r_x6:=cR x6
    have r_oc2:=cR oc2
    go_wp2_with fail
    refine wQ ?_
    repeat (go_big_quiet_step (first|fail))
    refine wpQuiet_nil fun w13 B13=>?_
    have HB13:=cH (bot HB12.out B13)
    go_wp2_with fail
    go_roundg q
    case rel=>exact ⟨(i:Int),ll,rfl,rfl,by congr 1<;>omega,by omega,HR3,HB13⟩
    case measure=>omega
   obtain ⟨j,e,hj,hje,_⟩:=zHb hz
   rw[hj] at hz ⊢
   have hjl:=(gS.1 hje).1
   have honl:=Hos2.out.n_eq
   have hol63:=zAi Hos2.out
   obtain ⟨qb,qo,dA,dc,eA2,ec2,fA,fc,hqA,hqb,q1,q2,q3,q4,q5,q6,q7,hpv⟩:=zIx Hos2.out hje
   subst hqA
   obtain ⟨kb,ko,dB,dd,eB,ee,fB,ff,hkA,hndn,k0,k1,k2,k3,k4,k5,k6,hpw⟩:=HPk.out w12 HB12.out
   rw[hkA] at x1
   have HLk3:Hid (zAk old (path.take q++[s]) x=eqB e.pack x):=by unfold Hid;rw[HLk2.out,hj,decide_eq_true (by omega),Bool.true_and,Int.toNat_natCast,zET hje]
   have Hps:=cH (qcall (w:=w12) (fun W hW=>zC6 e.pack x _ _ W _ _ (hpv.keep hW) (hpw.keep hW)))
   have hj0:(0:Int)≤(j:Int):=by omega
   have hjon:(j:Int)<(on:Int):=by omega
   have hjd:decide ((0:Int)≤(j:Int))=true:=decide_eq_true hj0
   have hndI:(nd:Int)<(pn:Int):=by omega
   clear hpv hpw HLk2 hj hje Hos2 honl hz
   generalize eqB e.pack x=v at *
   generalize e.pack.name=e0 at *
   generalize e.pack.ver.major=e1 at *
   generalize e.pack.ver.minor=e2 at *
   generalize e.pack.ver.patch=e3 at *
   generalize e.pack.deps.length=e4 at *
   generalize e.pack.peers.length=e5 at *
   generalize e.pack.opts.length=e6 at *
   generalize x.name=z0 at *
   generalize x.ver.major=z1 at *
   generalize x.ver.minor=z2 at *
   generalize x.ver.patch=z3 at *
   generalize x.deps.length=z4 at *
   generalize x.peers.length=z5 at *
   generalize x.opts.length=z6 at *
   have r_x1:=cR x1
   have r_x6:=cR x6
   have r_oc2:=cR oc2
   have r_q1:=cR q1
   have r_q2:=cR q2
   have r_q3:=cR q3
   have r_q4:=cR q4
   have r_q5:=cR q5
   have r_q6:=cR q6
   have r_q7:=cR q7
   have r_k0:=cR k0
   have r_k1:=cR k1
   have r_k2:=cR k2
   have r_k3:=cR k3
   have r_k4:=cR k4
   have r_k5:=cR k5
   have r_k6:=cR k6
   cases v with
   | false=>
     have HR3:Hid (R=pickI (zAv st.1 st.2 old path s x q ((i:Int),ll))):=by unfold Hid;rw[HR2.out,HLk3.out];rfl
     clear HR2 HLk3
     go_wp2_with fail
     refine wQ ?_
     repeat (go_big_quiet_step (first|(with_reducible exact Hps.out _ _)))
     refine wpQuiet_nil fun w13 B13=>?_
     have HB13:=cH (bot HB12.out B13)
     go_wp2_with fail
     go_roundg q
     case rel=>exact ⟨(i:Int),ll,rfl,rfl,by congr 1<;>omega,by omega,HR3,HB13⟩
     case measure=>omega
   | true=>
     have HR3:Hid (R=pickI (zAv st.1 st.2 old path s x q ((i:Int),(i:Int)))):=by unfold Hid;rw[HR2.out,HLk3.out];rfl
     clear HR2 HLk3
     go_wp2_with fail
     refine wQ ?_
     repeat (go_big_quiet_step (first|(with_reducible exact Hps.out _ _)))
     refine wpQuiet_nil fun w13 B13=>?_
     have HB13:=cH (bot HB12.out B13)
     go_wp2_with fail
     go_roundg q
     case rel=>exact ⟨(i:Int),(i:Int),rfl,rfl,by congr 1<;>omega,by omega,HR3,HB13⟩
     case measure=>omega
theorem zLR:Elt Tryz.prog 70 6 48:=Elt.mk' (z:=.agg #[.int .i64 0,.int .i64 0,.int .i64 0,.int .i64 0,.int .i64 0,.int .i64 0]) (by kernel_rfl) rfl (by decide)
theorem zIh:Elt Tryz.prog 68 2 40:=Elt.mk' (z:=.agg #[.string ⟨#[]⟩,.slice none 0 0]) (by kernel_rfl) rfl (by decide)
theorem zGe (A:Option Addr) (n c:Nat) (l:List Spn) (w:World) (S:Nat→Prop) (hreach:l.length≤1048576) (hl:SlV rSpn w S l (.slice A n c)) :
  Calls Tryz.prog 175 #[.slice A n c] w fun e w'=>∃ v,e=.returned v∧SlV rSpn w' (fun b=>w.heap.size≤b∧FreeB w' b) l v∧Below w.heap.size w w':=by
 have he:=fun W=>Lib.run_eql_slice_nil (P:=Tryz.prog) W 66 70 A n c 0 0 Tryz.underlying66
 rcases A with _|ad
 ·obtain ⟨rfl,rfl⟩:=hl.none_
  have hn0:n=0:=hl.n_eq
  subst hn0
  simp only[Option.isNone_none] at he
  go_enter Tryz.func175,Tryz.ntmps175
  go_wp2
  go_ret
  exact ⟨_,rfl,SlV.nil_ _ _ _,bR _ _⟩
 ·simp only[Option.isNone_some] at he
  go_enter Tryz.func175,Tryz.ntmps175
  have hnx:=hl.n_eq
  have Hnx:=cH hnx;clear hnx
  go_wp2_with (at_builtin;(refine zAN (by rfl) _ _ _ (by rfl) zLR Tryz.underlying66 (by rfl) (Own.empty rSpn w w.heap.size 70 (nR _)) (fun b=>S b∧b<w.heap.size) l _ _ _ (by rfl) ((hl.more fun b h1 h2=>⟨h1,h2⟩).alloc _) ?_ ?_ ?_ ?_ ?_);rotate_right;(intro v1 w1 hown1 hgrow hat))
  rotate_left
  ·intro b hb he
   simp[Value.ownBlock] at he
   omega
  ·simp[maxLen];omega
  ·simp;omega
  ·simp
  go_ret
  refine ⟨_,rfl,?_,((bR _ _).alloc (nR _) _).grown hgrow (by simp) (fun k hk=>by simp[Value.ownBlock] at hk;omega)⟩
  have h1:=hown1.slv
  obtain ⟨A',c',g1,g2,g3,g4,g5⟩:=h1
  refine ⟨A',c',g1,g2,g3,g4,fun hn=>?_⟩
  obtain ⟨b,o,hA,hS,hb,hr⟩:=g5 hn
  subst hA
  have hv:v1.ownBlock=some b:=by simp only[List.cons.injEq,and_true] at g1;rw[g1];rfl
  have hbb:=(hown1.lt b hv).1
  exact ⟨b,o,rfl,⟨hbb,hown1.free hv⟩,hb,fun i x hx=>by
   obtain ⟨cs,h3,h5⟩:=hr i x hx
   exact ⟨cs,h3,h5⟩⟩
def zD8 (l:List Dep):Prop:=l.length≤1048576∧∀ d∈l,d.range.length≤1048576
def zBR (x:Pack):Prop:=zD8 x.deps∧zD8 x.peers∧zD8 x.opts
theorem zDd (A:Option Addr) (n c:Nat) (l:List Dep) (w:World) (S:Nat→Prop) (hsm:zD8 l) (hl:SlV rDep w S l (.slice A n c)) :
  Calls Tryz.prog 158 #[.slice A n c] w fun e w'=>∃ v,e=.returned v∧SlV rDep w' (fun b=>w.heap.size≤b∧FreeB w' b) l v∧Below w.heap.size w w':=by
 have hn:=hl.n_eq
 have hn63:n≤1048576:=by rw[hn];exact hsm.1
 have HL:=cH hl
 have Hn:=cH hn
 have Hsm:=cH hsm.2
 clear hl hn hsm
 go_enter Tryz.func158,Tryz.ntmps158
 go_wp2_with fail
 go_loopw [3,8] (fun ov iv wr=>∃ (k:Nat) (S:Nat→Prop),k≤n∧iv=.int .i64 k∧Hid (Own rDep wr w.heap.size 68 ov (l.take k) S)∧Hid (∀ b,S b→w.heap.size≤b∧FreeB wr b)∧Hid (Below w.heap.size w wr)) (fun _ iv _=>n - (intOf iv).toNat)
 case atStart=>exact ⟨0,fun _=>False,nZ _,rfl,Own.nil_ _ _ _ _ (fun b hb=>hb.elim),fun b hb=>hb.elim,bR _ _⟩
 case round=>
  obtain ⟨k,S1,hk,rfl,Hown,HS1,hbel⟩:=hrel
  have hk0:(0:Int)≤(k:Int):=by omega
  by_cases hlt:k<n
  case neg=>
   have hI:¬(k:Int)<(n:Int):=by omega
   go_wp2_with fail
   go_ret
   have hlk:l.take k=l:=List.take_of_length_le (by have:=Hn.out;omega)
   have h1:=Hown.out.slvP
   rw[hlk] at h1
   exact ⟨_,rfl,h1.more fun b hb _=>by rcases hb with hb|hb;exact HS1.out b hb;exact ⟨(Hown.out.lt b hb).1,Hown.out.free hb⟩,hbel.out⟩
  have hkn:(k:Int)<(n:Int):=by omega
  obtain ⟨d,hd⟩:∃ d,l[k]?=some d:=⟨_,gE (by have:=Hn.out;omega)⟩
  obtain ⟨b,o,cs,hA,_,hb1,hh,hcell⟩:=(HL.out.belowSize hbel.out).elem hd
  obtain ⟨s0,rfl,hnm,hrg⟩:=hh
  obtain ⟨rA,rc,rfl,_,_⟩:=hrg.val
  subst hA
  have c0:=hcell 0 _ rfl
  have c1:=hcell 1 _ rfl
  simp only[rDep,Nat.add_zero] at c0 c1
  have hrz:=Hsm.out d (mG hd)
  have Htk:Hid (l.take (k+1)=l.take k++[d]):=by unfold Hid;rw[List.take_add_one,hd];rfl
  have Hlen:Hid ((l.take k).length=k):=by unfold Hid;rw[List.length_take];have:=Hn.out;omega
  obtain ⟨dn,dr⟩:=d
  simp only at c0 c1 hnm hrg hrz Htk
  generalize l.take k=done at *
  obtain ⟨rn,hrn⟩:∃ rn,rn=dr.length:=⟨_,rfl⟩
  rw[←hrn] at c1 hrg
  have Hrn:=cH hrn
  have Hrg:=cH hrg
  have Hrz:=cH hrz
  have Hnm:=cH hnm
  clear hcell hd hrn hrg hrz hnm
  go_upto_region 5 with (fail)
  obtain ⟨wv,hwv⟩:∃ wv,wv=wr.alloc (.cells #[.string dn,.slice rA rn rc] 68):=⟨_,rfl⟩
  have hcc:wv.heap[wr.heap.size]?=some (.cells #[.string dn,.slice rA rn rc] 68 (0,0)):=by rw[hwv];exact zAD _ _
  have HBv:Hid (Below wr.heap.size wr wv):=by unfold Hid;rw[hwv];exact bal (bR _ _) _
  rw[←hwv]
  have hv0:=cO _ _ 0 _ _ _ hcc
  have hv1:=cO _ _ 1 _ _ _ hcc
  have hBlt:wr.heap.size<wv.heap.size:=zAf hv0
  have HOwn:Hid (Own rDep wv w.heap.size 68 u3 done S1):=Hown.out.keep HBv.out
  have Hlt:Hid (∀ k,u3.ownBlock=some k→k<wr.heap.size):=fun k hk=>(Hown.out.lt k hk).2
  have HCl:Hid (∀ W,Below wv.heap.size wv W→Calls Tryz.prog 175 #[.slice rA rn rc] W fun e w'=>∃ v,e=.returned v∧SlV rSpn w' (fun b=>W.heap.size≤b∧FreeB w' b) dr v∧Below W.heap.size W w'):=fun W hW=>zGe rA rn rc dr W _ Hrz.out ((Hrg.out.belowSize HBv.out).belowSize hW)
  have hwsz:w.heap.size≤wr.heap.size:=hbel.out.size
  have HB2:=cH (bot hbel.out HBv.out)
  clear hcc hwv Hown c0 c1 hbel Hrg
  have HFar:Hid (some wr.heap.size≠u3.ownBlock):=fun he=>by have:=Hlt.out _ he.symm;omega
  go_wp2_with fail
  go_region_held3 (fun w'=>w'.cell? ⟨wr.heap.size,0,none⟩=some (.string dn)∧w'.cell? ⟨wr.heap.size,1,none⟩=some (.slice rA rn rc))
   (first
     | go_keep
     | exact ⟨zAA hb1 hv0 hBlt,zAA hb1 hv1 hBlt⟩
     | exact ⟨hgrow.cell (by go_keep) HFar.out,hgrow.cell (by go_keep) HFar.out⟩)
   (first
     | (go_at_call 175;refine (HCl.out _ (bR _ _).drew).mono ?_;rintro e w1 ⟨q,rfl,hq,hb1⟩;obtain ⟨qA,qc,rfl,_,_⟩:=hq.val;rw[←Hrn.out] at hq ⊢;have HO:=cH ((HOwn.out.drew.keep hb1).moreFree (B:=wv.heap.size) (fun k hk=>Nat.lt_trans (Hlt.out k hk) hBlt));have HQ:=cH hq;have HB1:=cH hb1;clear hq)
     | (refine zBB (by rfl) _ _ _ (by rfl) zIh Tryz.underlying26 (by rfl) (HO.out.alloc _) ⟨w1.heap.size,0,none⟩ 1 [.string dn,.slice qA rn qc] ⟨dn,dr⟩ (by rfl) (Rp.alloc (r:=rDep) ⟨_,rfl,Hnm.out,HQ.out.more fun b hb hlb=>.inr ⟨⟨hb.1,hlb⟩,hb.2⟩⟩ _)
         (zAd w1 #[.string dn,.slice qA rn qc] _) (by rw[Hlen.out];unfold maxLen;omega) (by rw[Hlen.out];omega) (by simp;have:=HB1.out.size;simp at this;omega) (w1.heap.size+1) (by simp) ?_;intro g cap w4 hown4 hgrow hat hg4))
  rw[Hlen.out] at hown4
  have Hown4:=cH hown4
  have HB4:=cH (zAw (bal (bot (bot HB2.out (bR _ _).drew) HB1.out) _) hgrow (HO.out.alloc _) (nR _))
  have HS4:Hid (∀ b,(S1 b∨((wv.heap.size≤b∧b<w1.heap.size)∧FreeB w1 b))→w.heap.size≤b∧FreeB w4 b):=fun b hb=>by
   have hne:some b≠u3.ownBlock:=fun e=>(HO.out.1 b hb).2 e.symm
   rcases hb with hb|hb
   ·exact ⟨(HS1.out b hb).1,((((HS1.out b hb).2.keep HBv.out).keep (w:=wv.drew) HB1.out).alloc _).grown hgrow hne⟩
   ·exact ⟨by have:=hb.1.1;have:=HBv.out.size;omega,(hb.2.alloc _).grown hgrow hne⟩
  clear hown4 hgrow hat hg4 HO HQ HB1 HOwn
  go_wp2_with fail
  rw[Hlen.out]
  go_roundw
  case rel=>exact ⟨k+1,_,by omega,by go_num,by rw[Htk.out];exact Hown4,HS4,HB4⟩
  case measure=>simp[intOf];omega
theorem zIA (x:Pack) (v:Value) (w:World) (S:Nat→Prop) (hsm:zBR x) (hv:PackV w S x v) :
  Calls Tryz.prog 131 #[v] w fun e w'=>∃ v',e=.returned v'∧PackV w' (fun b=>w.heap.size≤b∧FreeB w' b) x v'∧Below w.heap.size w w':=by
 obtain ⟨dA,dn,dc,eA,en,ec,fA,fn,fc,rfl,hnm,h1,h2,h3⟩:=hv
 have HA:Hid (∀ W,Below w.heap.size w W→Calls Tryz.prog 158 #[.slice dA dn dc] W fun e w'=>∃ v,e=.returned v∧SlV rDep w' (fun b=>W.heap.size≤b∧FreeB w' b) x.deps v∧Below W.heap.size W w'):=fun W hW=>zDd dA dn dc _ W _ hsm.1 (h1.belowSize hW)
 have HE:Hid (∀ W,Below w.heap.size w W→Calls Tryz.prog 158 #[.slice eA en ec] W fun e w'=>∃ v,e=.returned v∧SlV rDep w' (fun b=>W.heap.size≤b∧FreeB w' b) x.peers v∧Below W.heap.size W w'):=fun W hW=>zDd eA en ec _ W _ hsm.2.1 (h2.belowSize hW)
 have HF:Hid (∀ W,Below w.heap.size w W→Calls Tryz.prog 158 #[.slice fA fn fc] W fun e w'=>∃ v,e=.returned v∧SlV rDep w' (fun b=>W.heap.size≤b∧FreeB w' b) x.opts v∧Below W.heap.size W w'):=fun W hW=>zDd fA fn fc _ W _ hsm.2.2 (h3.belowSize hW)
 have Hnm:=cH hnm
 clear h1 h2 h3 hnm hsm
 go_enter Tryz.func131,Tryz.ntmps131
 go_upto_region 1 with (fail)
 obtain ⟨x0,hx0⟩:∃ k,k=x.name:=⟨_,rfl⟩
 obtain ⟨x1,hx1⟩:∃ k,k=x.ver.major:=⟨_,rfl⟩
 obtain ⟨x2,hx2⟩:∃ k,k=x.ver.minor:=⟨_,rfl⟩
 obtain ⟨x3,hx3⟩:∃ k,k=x.ver.patch:=⟨_,rfl⟩
 rw[←hx0,←hx1,←hx2,←hx3]
 have Hx:Hid (x0=x.name∧x1=x.ver.major∧x2=x.ver.minor∧x3=x.ver.patch):=⟨hx0,hx1,hx2,hx3⟩
 clear hx0 hx1 hx2 hx3
 obtain ⟨wa,hwa⟩:∃ wa,wa=w.alloc (.cells #[.string x0,.int .i64 x1,.int .i64 x2,.int .i64 x3,.slice dA dn dc,.slice eA en ec,.slice fA fn fc] 52):=⟨_,rfl⟩
 have hca:wa.heap[w.heap.size]?=some (.cells #[.string x0,.int .i64 x1,.int .i64 x2,.int .i64 x3,.slice dA dn dc,.slice eA en ec,.slice fA fn fc] 52 (0,0)):=by rw[hwa];exact zAD _ _
 have hBa:Below w.heap.size w wa:=by rw[hwa];exact bal (bR _ _) _
 have hsz:w.heap.size+1=wa.heap.size:=by rw[hwa];simp
 rw[←hwa,hsz]
 obtain ⟨wb,hwb⟩:∃ wb,wb=wa.alloc (.cells #[.string ⟨#[]⟩,.int .i64 0,.int .i64 0,.int .i64 0,.slice none 0 0,.slice none 0 0,.slice none 0 0] 52):=⟨_,rfl⟩
 have hcb:wb.heap[wa.heap.size]?=some (.cells #[.string ⟨#[]⟩,.int .i64 0,.int .i64 0,.int .i64 0,.slice none 0 0,.slice none 0 0,.slice none 0 0] 52 (0,0)):=by rw[hwb];exact zAD _ _
 have hBb:Below wa.heap.size wa wb:=by rw[hwb];exact bal (bR _ _) _
 have hcab:=(hBb.block _ (aS.1 hca).1).trans hca
 rw[←hwb]
 obtain ⟨PA,hPA⟩:∃ k,k=w.heap.size:=⟨_,rfl⟩
 obtain ⟨PB,hPB⟩:∃ k,k=wa.heap.size:=⟨_,rfl⟩
 rw[←hPA] at hcab
 rw[←hPB] at hcb
 have hza:PA<wb.heap.size:=(aS.1 hcab).1
 have hzb:PB<wb.heap.size:=(aS.1 hcb).1
 have HBb:=cH (bot hBa hBb)
 have Hca:=cH hcab
 have Hcb:=cH hcb
 have y4:=cO _ _ 4 _ _ _ hcab
 have y5:=cO _ _ 5 _ _ _ hcab
 have y6:=cO _ _ 6 _ _ _ hcab
 have hne:PA≠PB:=by omega
 have HPA:=cH hPA
 have HPB:Hid (w.heap.size≤PB):=by unfold Hid;omega
 rw[←hPA,←hPB]
 clear hwa hwb hca hBa hsz hBb hcab hcb hPA hPB
 go_wp2_with fail
 go_region_law?
  (first
   | (go_simp;go_at_call 158;with_reducible refine (HA.out _ ?_).mono ?_;exact bot HBb.out (bR _ _).drew;rintro e w1 ⟨v1,rfl,hv1,hb1⟩;obtain ⟨A1,e1,rfl,_,_⟩:=hv1.val;have HB1:=cH (show Below wb.heap.size wb w1 from bot (bR _ _).drew hb1);have HV1:=cH hv1;have z5:=zAA HB1.out y5 hza;have z6:=zAA HB1.out y6 hza;clear hv1 hb1)
   | (go_simp;go_at_call 158;with_reducible refine (HE.out _ ?_).mono ?_;exact bot HBb.out HB1.out;rintro e w2 ⟨v2,rfl,hv2,hb2⟩;obtain ⟨A2,e2,rfl,_,_⟩:=hv2.val;have HB2:=cH (show Below wb.heap.size wb w2 from bot HB1.out hb2);have HB12:=cH hb2;have HV2:=cH hv2;have z6:=zAA HB2.out y6 hza;clear hv2 hb2)
   | (go_simp;go_at_call 158;with_reducible refine (HF.out _ ?_).mono ?_;exact bot HBb.out HB2.out;rintro e w3 ⟨v3,rfl,hv3,hb3⟩;obtain ⟨A3,e3,rfl,_,_⟩:=hv3.val;have HB3:=cH (show Below wb.heap.size wb w3 from bot HB2.out hb3);have HB23:=cH hb3;have HV3:=cH hv3;have k3:=(HB3.out.block _ hza).trans Hca.out;have k4:=cO _ _ 4 _ _ _ k3;have k5:=cO _ _ 5 _ _ _ k3;have k6:=cO _ _ 6 _ _ _ k3;have f4:w3.frozen? ⟨PA,4,none⟩=false:=zAZ k3;have f5:w3.frozen? ⟨PA,5,none⟩=false:=zAZ k3;have f6:w3.frozen? ⟨PA,6,none⟩=false:=zAZ k3;clear hv3 hb3 k3))
 all_goals
  have k3:=(HB3.out.block _ hza).trans Hca.out
  have k4:=(HB3.out.block _ hzb).trans Hcb.out
  have hPa:w.heap.size≤PA:=by have:=HPA.out;omega
  have q1:=zAX (zAX (zAX k3 (o:=4) (.slice A1 x.deps.length e1)) (o:=5) (.slice A2 x.peers.length e2)) (o:=6) (.slice A3 x.opts.length e3)
  have q2:(((w3.setCell ⟨PA,4,none⟩ (.slice A1 x.deps.length e1)).setCell ⟨PA,5,none⟩ (.slice A2 x.peers.length e2)).setCell ⟨PA,6,none⟩ (.slice A3 x.opts.length e3)).heap[PB]?=some (.cells #[.string ⟨#[]⟩,.int .i64 0,.int .i64 0,.int .i64 0,.slice none 0 0,.slice none 0 0,.slice none 0 0] 52 (0,0)):=by
   rw[heap_setCell_other _ _ _ _ hne.symm,heap_setCell_other _ _ _ _ hne.symm,heap_setCell_other _ _ _ _ hne.symm];exact k4
  have HB5:=cH ((((bot HBb.out HB3.out).setCell (p:=⟨PA,4,none⟩) hPa (.slice A1 x.deps.length e1)).setCell (p:=⟨PA,5,none⟩) hPa (.slice A2 x.peers.length e2)).setCell (p:=⟨PA,6,none⟩) hPa (.slice A3 x.opts.length e3))
  have H4:Hid (∀ b,b≠PA→(((w3.setCell ⟨PA,4,none⟩ (.slice A1 x.deps.length e1)).setCell ⟨PA,5,none⟩ (.slice A2 x.peers.length e2)).setCell ⟨PA,6,none⟩ (.slice A3 x.opts.length e3)).heap[b]?=w3.heap[b]?):=fun b hb=>by rw[heap_setCell_other _ _ _ _ hb,heap_setCell_other _ _ _ _ hb,heap_setCell_other _ _ _ _ hb]
  have HV1':=cH ((HV1.out.belowSize HB12.out).belowSize HB23.out)
  have HV2':=cH (HV2.out.belowSize HB23.out)
  generalize hw4:((w3.setCell ⟨PA,4,none⟩ (.slice A1 x.deps.length e1)).setCell ⟨PA,5,none⟩ (.slice A2 x.peers.length e2)).setCell ⟨PA,6,none⟩ (.slice A3 x.opts.length e3)=w4 at *
  have r0:=cO _ _ 0 _ _ _ q1
  have r1:=cO _ _ 1 _ _ _ q1
  have r2:=cO _ _ 2 _ _ _ q1
  have r3:=cO _ _ 3 _ _ _ q1
  have r4:=cO _ _ 4 _ _ _ q1
  have r5:=cO _ _ 5 _ _ _ q1
  have r6:=cO _ _ 6 _ _ _ q1
  have s0:=cO _ _ 0 _ _ _ q2
  have s1:=cO _ _ 1 _ _ _ q2
  have s2:=cO _ _ 2 _ _ _ q2
  have s3:=cO _ _ 3 _ _ _ q2
  have s4:=cO _ _ 4 _ _ _ q2
  have s5:=cO _ _ 5 _ _ _ q2
  have s6:=cO _ _ 6 _ _ _ q2
  have f0:w4.frozen? ⟨PB,0,none⟩=false:=zAZ q2
  have f1:w4.frozen? ⟨PB,1,none⟩=false:=zAZ q2
  have f2:w4.frozen? ⟨PB,2,none⟩=false:=zAZ q2
  have f3:w4.frozen? ⟨PB,3,none⟩=false:=zAZ q2
  have f4:w4.frozen? ⟨PB,4,none⟩=false:=zAZ q2
  have f5:w4.frozen? ⟨PB,5,none⟩=false:=zAZ q2
  have f6:w4.frozen? ⟨PB,6,none⟩=false:=zAZ q2
  have Q2:=cH q2
  clear q1 q2 k3 k4 hw4 hPa
  go_wp2_with fail
  have q3:=zAX (zAX (zAX (zAX (zAX (zAX (zAX Q2.out (o:=0) (.string x0)) (o:=1) (.int .i64 x1)) (o:=2) (.int .i64 x2)) (o:=3) (.int .i64 x3)) (o:=4) (.slice A1 x.deps.length e1)) (o:=5) (.slice A2 x.peers.length e2)) (o:=6) (.slice A3 x.opts.length e3)
  have HB6:=cH (((((((HB5.out.setCell (p:=⟨PB,0,none⟩) HPB.out (.string x0)).setCell (p:=⟨PB,1,none⟩) HPB.out (.int .i64 x1)).setCell (p:=⟨PB,2,none⟩) HPB.out (.int .i64 x2)).setCell (p:=⟨PB,3,none⟩) HPB.out (.int .i64 x3)).setCell (p:=⟨PB,4,none⟩) HPB.out (.slice A1 x.deps.length e1)).setCell (p:=⟨PB,5,none⟩) HPB.out (.slice A2 x.peers.length e2)).setCell (p:=⟨PB,6,none⟩) HPB.out (.slice A3 x.opts.length e3))
  have H6:Hid (∀ b,b≠PA→b≠PB→(((((((w4.setCell ⟨PB,0,none⟩ (.string x0)).setCell ⟨PB,1,none⟩ (.int .i64 x1)).setCell ⟨PB,2,none⟩ (.int .i64 x2)).setCell ⟨PB,3,none⟩ (.int .i64 x3)).setCell ⟨PB,4,none⟩ (.slice A1 x.deps.length e1)).setCell ⟨PB,5,none⟩ (.slice A2 x.peers.length e2)).setCell ⟨PB,6,none⟩ (.slice A3 x.opts.length e3)).heap[b]?=w3.heap[b]?):=fun b hb1 hb=>by
   rw[heap_setCell_other _ _ _ _ hb,heap_setCell_other _ _ _ _ hb,heap_setCell_other _ _ _ _ hb,heap_setCell_other _ _ _ _ hb,heap_setCell_other _ _ _ _ hb,heap_setCell_other _ _ _ _ hb,heap_setCell_other _ _ _ _ hb]
   exact H4.out b hb1
  generalize (((((((w4.setCell ⟨PB,0,none⟩ (.string x0)).setCell ⟨PB,1,none⟩ (.int .i64 x1)).setCell ⟨PB,2,none⟩ (.int .i64 x2)).setCell ⟨PB,3,none⟩ (.int .i64 x3)).setCell ⟨PB,4,none⟩ (.slice A1 x.deps.length e1)).setCell ⟨PB,5,none⟩ (.slice A2 x.peers.length e2)).setCell ⟨PB,6,none⟩ (.slice A3 x.opts.length e3))=w6 at *
  have t0:=cO _ _ 0 _ _ _ q3
  have t1:=cO _ _ 1 _ _ _ q3
  have t2:=cO _ _ 2 _ _ _ q3
  have t3:=cO _ _ 3 _ _ _ q3
  have t4:=cO _ _ 4 _ _ _ q3
  have t5:=cO _ _ 5 _ _ _ q3
  have t6:=cO _ _ 6 _ _ _ q3
  have Hs1:Hid (∀ k,wb.heap.size≤k→w.heap.size≤k∧k≠PA∧k≠PB):=fun k hk=>by have:=HPB.out;omega
  have Hs2:Hid (wb.heap.size≤w1.heap.size∧wb.heap.size≤w2.heap.size):=⟨HB1.out.size,HB2.out.size⟩
  clear q3 r0 r1 r2 r3 r4 r5 r6 s0 s1 s2 s3 s4 s5 s6 f0 f1 f2 f3 f4 f5 f6
  refine bodyPost_ret (v:=.agg #[.string x0,.int .i64 x1,.int .i64 x2,.int .i64 x3,.slice A1 x.deps.length e1,.slice A2 x.peers.length e2,.slice A3 x.opts.length e3]) (by simp[results,Tryz.results131,t0,t1,t2,t3,t4,t5,t6,go_sem]) rfl ?_
  refine ⟨_,rfl,⟨_,_,_,_,_,_,_,_,_,by rw[Hx.out.1,Hx.out.2.1,Hx.out.2.2.1,Hx.out.2.2.2],Hnm.out,?_,?_,?_⟩,HB6.out⟩
  ·exact (HV1'.out.keep fun b hb _=>H6.out b (Hs1.out b hb.1).2.1 (Hs1.out b hb.1).2.2).more fun b hb _=>⟨(Hs1.out b hb.1).1,((hb.2.keep HB12.out).keep HB23.out).same (H6.out b (Hs1.out b hb.1).2.1 (Hs1.out b hb.1).2.2)⟩
  ·exact (HV2'.out.keep fun b hb _=>H6.out b (Hs1.out b (nT Hs2.out.1 hb.1)).2.1 (Hs1.out b (nT Hs2.out.1 hb.1)).2.2).more fun b hb _=>⟨(Hs1.out b (nT Hs2.out.1 hb.1)).1,(hb.2.keep HB23.out).same (H6.out b (Hs1.out b (nT Hs2.out.1 hb.1)).2.1 (Hs1.out b (nT Hs2.out.1 hb.1)).2.2)⟩
  ·exact (HV3.out.keep fun b hb _=>H6.out b (Hs1.out b (nT Hs2.out.2 hb.1)).2.1 (Hs1.out b (nT Hs2.out.2 hb.1)).2.2).more fun b hb _=>⟨(Hs1.out b (nT Hs2.out.2 hb.1)).1,hb.2.same (H6.out b (Hs1.out b (nT Hs2.out.2 hb.1)).2.1 (Hs1.out b (nT Hs2.out.2 hb.1)).2.2)⟩
