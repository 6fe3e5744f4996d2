/-
  scan.Lines: a text as lines of words, gone through byte by byte by labels and gotos, walked. (Printed by gen_scan.py.)
-/
import Derived.Test.YthbnmehbhpakaaaGreatDoorBk16
import Derived.Test.YthbnmehbhpakaaaGreatDoorBk17
import Derived.WalkMore
import Derived.Test.YthbnmehbhpakaaaGreatDoorAl
set_option linter.all false
set_option maxHeartbeats 8000000
set_option maxRecDepth 100000
namespace Go.Proofs.YthbnmehbhpakaaaGreatDoor
open Go.Rows Go.RowKit Go.Shelf Go.Sort
def zCA (w0 W:World) (v7 v8:Value) (done:List (List (List UInt8))) (ws:List (List UInt8)):Prop:=
 ∃ S,Own (zAL rStr) W w0.heap.size 53 v7 (zDq done) S∧Own rStr W w0.heap.size 9 v8 (ws.map mkB) (fun _=>False)∧(∀ b,S b→w0.heap.size≤b)∧(∀ g,v8.ownBlock=some g→v7.ownBlock≠some g∧¬S g)∧Below w0.heap.size w0 W
theorem zCA.none_ {w0 W:World} {v7:Value} {done:List (List (List UInt8))} {S:Nat→Prop} (h1:Own (zAL rStr) W w0.heap.size 53 v7 (zDq done) S) (h2:∀ b,S b→w0.heap.size≤b) (h3:Below w0.heap.size w0 W):zCA w0 W v7 (.slice none 0 0) done []:=
 ⟨S,h1,Own.nil_ _ _ _ _ (fun b hb=>hb.elim),h2,(fun g hg=>by cases hg),h3⟩
theorem zCA.word {w0 W W':World} {v7 v8:Value} {done:List (List (List UInt8))} {ws:List (List UInt8)} {o:Obj} {g cap n:Nat} {x:ByteArray} {k:List UInt8} (hx:x=mkB k) (h:zCA w0 W v7 v8 done ws)
  (hown:Own rStr W' w0.heap.size 9 (.slice (some ⟨g,0,none⟩) n cap) (ws.map mkB++[x]) (fun _=>False)) (hg:(W.alloc o).grownBy W' v8.ownBlock) (hat:v8.ownBlock=some g∨g=W.heap.size+1):zCA w0 W' v7 (.slice (some ⟨g,0,none⟩) n cap) done (ws++[k]):=by
 obtain ⟨S,h1,h2,h3,h4,h5⟩:=h
 refine ⟨S,(h1.alloc o).grown hg ?_ ?_,by rw[List.map_append];subst hx;exact hown,h3,?_,(h5.alloc h5.size o).grown hg (by simp;have:=h5.size;omega) (fun q hq=>(h2.lt q hq).1)⟩
 ·cases hv:v8.ownBlock with
  | none=>cases v7.ownBlock<;>simp
  | some q=>exact .inr fun e=>(h4 q hv).1 e
 ·intro b hb e
  exact (h4 b e.symm).2 hb
 ·intro q hq
  simp only[Value.ownBlock,Option.some.injEq] at hq
  subst hq
  rcases hat with hat|hat
  ·exact h4 g hat
  ·refine ⟨fun e=>?_,fun hs=>?_⟩
   ·have:=(h1.lt g e).2;omega
   ·have:=(h1.1 g hs).1;omega
theorem Own.slvT {α:Type} {r:Rp α} {w:World} {base:Nat} {e:TypeId} {v:Value} {l:List α} {S:Nat→Prop} (h:Own r w base e v l S):SlV r w (fun b=>S b∨v.ownBlock=some b) l v:=by
 obtain ⟨h0,xs,h1,h2⟩:=h
 have h1':=h1
 rcases h1.2 with ⟨rfl,hn⟩|⟨g,cap,cur,rfl,hb,hg,hnc,hcm,hsz,htake⟩
 ·have:l=[]:=List.eq_nil_of_length_eq_zero hn
  subst this
  exact SlV.nil_ _ _ _
 ·refine ⟨some ⟨g,0,none⟩,cap,rfl,hnc,hcm,(fun h=>by cases h),fun _=>⟨g,0,rfl,.inr rfl,(aS.1 hg).1,fun i x hx=>?_⟩⟩
  obtain ⟨cs,hc,hcell⟩:=h2.get i x hx
  refine ⟨cs,r.mono hc fun b hb _=>⟨.inl hb,rfl⟩,fun j u hu=>?_⟩
  have h3:=h1'.cells (g:=g) rfl _ u (hcell j u hu)
  have hadd:∀ k,(⟨g,0,none⟩:Addr).add k=⟨g,k,none⟩:=fun k=>by unfold Addr.add;split<;>simp_all
  rw[hadd] at h3
  rw[Nat.zero_add]
  exact h3
theorem zCA.line {w0 W:World} {v7 v8:Value} {done:List (List (List UInt8))} {ws:List (List UInt8)} (h:zCA w0 W v7 v8 done ws):∃ S,Own (zAL rStr) W w0.heap.size 53 v7 (zDq done) S∧SlV rStr W S (ws.map mkB) v8∧(∀ b,S b→w0.heap.size≤b)∧Below w0.heap.size w0 W:=by
 obtain ⟨S,h1,h2,h3,h4,h5⟩:=h
 refine ⟨fun b=>S b∨v8.ownBlock=some b,h1.more ?_ (fun b hb=>.inl hb),h2.slvT.more ?_,?_,h5⟩
 ·rintro b (hb|hb)
  ·exact h1.1 b hb
  ·exact ⟨(h2.lt b hb).2,(h4 b hb).1⟩
 ·rintro b (hb|hb) _
  ·exact hb.elim
  ·exact .inr hb
 ·rintro b (hb|hb)
  ·exact h3 b hb
  ·exact (h2.lt b hb).1
def ScanJ (t:ByteArray) (most:Nat) (w0:World) (F:Option (List (List (List UInt8)))) (l:Nat) (a:Act) (W:World):Prop:=
 ∃ (v7 v8 v9:Value) (k:Nat) (u11 u12 u13 u14 u15 u16 u17 u18 u19 u20 u21 u22 u23 u24 u25 u26 u27 u28 u29 u30 u31 u32 u33 u34 u35 u36 u37 u38 u39 u40 u41 u42 u43 u44 u45 u46 u47 u48 u49 u50 u51 u52 u53 u54 u55 u56 u57 u58 u59 u60 u61 u62 u63:Value),a={ tmps:=#[.string t,.int .i64 most,undef,undef,.slice none 0 0,.int .i64 0,.int .i64 0,v7,v8,v9,.int .i64 k,u11,u12,u13,u14,u15,u16,u17,u18,u19,u20,u21,u22,u23,u24,u25,u26,u27,u28,u29,u30,u31,u32,u33,u34,u35,u36,u37,u38,u39,u40,u41,u42,u43,u44,u45,u46,u47,u48,u49,u50,u51,u52,u53,u54,u55,u56,u57,u58,u59,u60,u61,u62,u63],defers:=[]}∧k≤t.size ∧
   ((l=2∧F=none∧(∃ A n c,v7=.slice A n c∧n≤9223372036854775807)∧Below w0.heap.size w0 W) ∨
    (l=0∧∃ done S,F=(scanL (t.data.toList.drop k)).map (done++·)∧done.length≤k∧Own (zAL rStr) W w0.heap.size 53 v7 (zDq done) S∧(∀ b,S b→w0.heap.size≤b)∧Below w0.heap.size w0 W) ∨
    (l=1∧∃ done ws,F=(scanW ws [] (t.data.toList.drop k)).map (done++·)∧done.length≤k∧ws.length≤k∧zCA w0 W v7 v8 done ws) ∨
    (l=3∧∃ done ws,∃ b:Nat,v9=.int .i64 (b:Int)∧b≤k∧F=(scanW ws (cutL t.data.toList b k) (t.data.toList.drop k)).map (done++·)∧done.length≤k∧ws.length≤b∧zCA w0 W v7 v8 done ws))
def scanM (t:ByteArray) (l:Nat) (a:Act) (_:World):Nat:=if l=2 then 0 else t.size+1 - (intOf (a.tmps.getD 10 undef)).toNat
theorem zG8 {c:UInt8}:visB c=true↔(32:Int)<(c.toNat:Int)∧(c.toNat:Int)<127:=by
 unfold visB
 simp only[Bool.and_eq_true,decide_eq_true_eq]
 omega
theorem zJd {c:UInt8} (h:visB c=false):(¬(32:Int)<(c.toNat:Int))∨((32:Int)<(c.toNat:Int)∧¬(c.toNat:Int)<127):=by
 by_cases h1:(32:Int)<(c.toNat:Int)
 ·refine .inr ⟨h1,fun h2=>?_⟩
  rw[zG8.2 ⟨h1,h2⟩] at h;cases h
 ·exact .inl h1
theorem zSX {s:ByteArray} {b k:Nat} (hb:b<k) (hk:k≤s.size):cutL s.data.toList b k≠[]:=fun e=>by
 have:=congrArg List.length e
 unfold cutL at this
 rw[List.length_drop,List.length_take,←zAJ] at this
 simp only[List.length_nil] at this
 omega
theorem zCt {w0 W:World} {v7 v8:Value} {done:List (List (List UInt8))} {ws:List (List UInt8)} (h:zCA w0 W v7 v8 done ws):(∃ A n c,v7=.slice A n c∧n≤9223372036854775807)∧Below w0.heap.size w0 W:=by
 obtain ⟨S,h1,_,_,_,h5⟩:=h
 obtain ⟨A,c,rfl,q1,q2⟩:=h1.slv.val
 unfold maxLen at q2
 exact ⟨⟨A,_,c,rfl,by omega⟩,h5⟩
theorem wp_at {P:Program} {c:Code} {Q:Exit→Act→World→Prop} {a a':Act} {w:World} (h:c.wp P Q a' w) (e:a'=a):c.wp P Q a w:=e▸h
theorem zCf (t:ByteArray) (most:Nat) (w:World) (hmm:most≤2000000) (ht:t.size≤4611686018427387904) :
  Calls Tryz.prog 91 #[.string t,.int .i64 most] w fun e w'=>∃ v,(∃ k:Int,e=.returned (.tuple #[v,.int .i64 (scanQ most t).2,.int .i64 k]))∧SlV (zAL rStr) w' (fun b=>w.heap.size≤b) (scanQ most t).1 v∧Below w.heap.size w w':=by
 by_cases hbig:most<t.size
 ·have hq:Hid (scanQ most t=([],25)):=by unfold Hid scanQ;rw[if_pos hbig]
  have hI:(most:Int)<(t.size:Int):=by omega
  clear hbig
  go_enter Tryz.func91,Tryz.ntmps91
  go_wp2_with fail
  go_step3
  go_wp2_with fail
  try rw[Exit.noGoto_ret]
  go_ret3
  rw[hq.out]
  exact ⟨_,⟨_,rfl⟩,SlV.nil_ _ _ _,bR _ _⟩
 have hI:¬(most:Int)<(t.size:Int):=by omega
 have ht6:t.size≤2000000:=by omega
 obtain ⟨F,hF⟩:∃ F,F=zCB t.data.toList:=⟨_,rfl⟩
 have HqN:Hid (F=none→scanQ most t=([],22)):=fun h=>by unfold scanQ zEC;rw[if_neg hbig,←hF,h];rfl
 have HqS:Hid (∀ l,F=some l→scanQ most t=(zDq l,0)):=fun l h=>by unfold scanQ zEC;rw[if_neg hbig,←hF,h];rfl
 have HF0:Hid (F=(scanL (t.data.toList.drop 0)).map ([]++·)):=by unfold Hid;rw[hF,zNs,List.drop_zero];cases scanL t.data.toList<;>rfl
 clear hF hbig
 go_enter Tryz.func91,Tryz.ntmps91
 go_wp2_with fail
 refine zHm (ScanJ t most w F) (scanM t) ?first ?pass
 case first=>
  by_cases h0:t.size=0
  ·have hF:F=some []:=by rw[HF0.out];rw[List.drop_zero,(List.eq_nil_of_length_eq_zero (by rw[←zAJ];exact h0):t.data.toList=[])];rfl
   have hq:=HqS.out _ hF
   have hkb:((0:Int)==(t.size:Int))=true:=by rw[h0];rfl
   go_wp2_with fail
   go_step3
   go_wp2_with fail
   simp only[zF0]
   go_ret3
   rw[hq]
   exact ⟨_,⟨_,rfl⟩,SlV.nil_ _ _ _,bR _ _⟩
  obtain ⟨done,hdone⟩:∃ d:List (List (List UInt8)),d=[]:=⟨_,rfl⟩
  obtain ⟨ws,hws⟩:∃ ws:List (List UInt8),ws=[]:=⟨_,rfl⟩
  have HW:Hid (zCA w w (.slice none 0 0) (.slice none 0 0) done ws):=by
   rw[hdone,hws]
   exact zCA.none_ (Own.nil_ _ _ _ _ (fun b (hb:False)=>hb.elim)) (fun b hb=>hb.elim) (bR _ _)
  have HF1:Hid (F=(scanL (t.data.toList.drop 0)).map (done++·)):=by rw[hdone];exact HF0
  go_wp2_with fail
  go_step3
  go_wp2_with fail
  go_step3
  go_wp2_with fail
  obtain ⟨k,hkz⟩:∃ k:Nat,k=0:=⟨_,rfl⟩
  refine wp_at (a':={ tmps:=#[.string t,.int .i64 most,undef,undef,.slice none 0 0,.int .i64 0,.int .i64 0,.slice none 0 0,.slice none 0 0,.int .i64 k,.int .i64 k,undef,.string t,.int .i64 t.size,.int .i64 most,.bool (decide (most<t.size)),.int .i64 0,.string t,.int .i64 t.size,.bool (0==(t.size:Int)),undef,.int .i64 0,undef,undef,undef,undef,undef,undef,undef,undef,undef,undef,undef,undef,undef,undef,undef,undef,undef,undef,undef,undef,undef,undef,undef,undef,undef,undef,undef,undef,undef,undef,undef,undef,undef,undef,undef,undef,undef,undef,undef,undef,undef,undef],defers:=[]}) ?_ (by subst hkz;rfl)
  have hk:k≤t.size:=by omega
  have hkn:k<t.size:=by omega
  have hdl:done.length≤k:=by rw[hdone];exact nZ _
  have hwl:ws.length≤k:=by rw[hws];exact nZ _
  have Hm:Hid (F=(scanW ws (cutL t.data.toList k k) (t.data.toList.drop k)).map (done++·)):=by
   unfold Hid;rw[HF1.out,zCy,hkz,hws];unfold scanL
   rw[if_neg (by intro e;have:=congrArg List.length e;rw[List.length_drop,←zAJ] at this;rw[List.length_nil] at this;omega)]
  clear hkz hdone hws
  go_step3
  have hlt:k<t.size:=by omega
  have hkI:(k:Int)<(t.size:Int):=by omega
  have hkb:((k:Int)==(t.size:Int))=false:=by rw[beq_eq_false_iff_ne];omega
  have hk0:(0:Int)≤(k:Int):=by omega
  have hd:=zF1 t k hlt
  by_cases hv:visB t[k]=true
  ·obtain ⟨q1,q2⟩:=zG8.1 hv
   have hF:F=(scanW ws (cutL t.data.toList k (k+1)) (t.data.toList.drop (k+1))).map (done++·):=by rw[Hm.out,hd,zEG hv,zFD (by omega) hlt]
   clear hd hv Hm
   go_wp2_with fail
   go_step3
   show ScanJ t most w F 3 _ _
   exact ⟨_,_,_,k+1,_,_,_,_,_,_,_,_,_,_,_,_,_,_,_,_,_,_,_,_,_,_,_,_,_,_,_,_,_,_,_,_,_,_,_,_,_,_,_,_,_,_,_,_,_,_,_,_,_,_,_,_,_,rfl,by omega,.inr (.inr (.inr ⟨rfl,done,ws,k,rfl,by omega,hF,by omega,by omega,HW.out⟩))⟩
  have hv':visB t[k]=false:=by simpa using hv
  have hcs:=zJd hv'
  clear hv
  have hF:Hid (F=none):=by unfold Hid;rw[Hm.out,hd,zCu hv' (.inl (zCy _ _))];rfl
  obtain ⟨h7,hbw⟩:=zCt HW.out
  clear hd Hm hv'
  rcases hcs with q1|⟨q1,q2⟩
  all_goals
   go_wp2_with fail
   go_step3
   show ScanJ t most w F 2 _ _
   exact ⟨_,_,_,k,_,_,_,_,_,_,_,_,_,_,_,_,_,_,_,_,_,_,_,_,_,_,_,_,_,_,_,_,_,_,_,_,_,_,_,_,_,_,_,_,_,_,_,_,_,_,_,_,_,_,_,_,_,rfl,by omega,.inl ⟨rfl,hF.out,h7,hbw⟩⟩
 case pass=>
  intro l a W hJ
  obtain ⟨v7,v8,v9,k,u11,u12,u13,u14,u15,u16,u17,u18,u19,u20,u21,u22,u23,u24,u25,u26,u27,u28,u29,u30,u31,u32,u33,u34,u35,u36,u37,u38,u39,u40,u41,u42,u43,u44,u45,u46,u47,u48,u49,u50,u51,u52,u53,u54,u55,u56,u57,u58,u59,u60,u61,u62,u63,rfl,hk,hor⟩:=hJ
  rcases hor with ⟨rfl,hFn,⟨A,n,c,rfl,hn⟩,hbel⟩|⟨rfl,done,S,hFk,hdl,hown,hS,hbel⟩|⟨rfl,done,ws,hFk,hdl,hwl,hW⟩|⟨rfl,done,ws,b,rfl,hbk,hFk,hdl,hwl,hW⟩
  ·refine ⟨_,rfl,?_⟩
   have hq:=HqN.out hFn
   have Hbel:=cH hbel
   clear hbel
   go_wp2_with fail
   simp only[zF0]
   go_ret3
   rw[hq]
   exact ⟨_,⟨_,rfl⟩,SlV.nil_ _ _ _,Hbel.out⟩
  ·refine ⟨_,rfl,?_⟩
   by_cases hke:k=t.size
   ·have hF:F=some done:=by rw[hFk,hke,dN (by rw[←zAJ];omega)];unfold scanL;rw[if_pos rfl];simp
    have hq:=HqS.out _ hF
    have hkb:((k:Int)==(t.size:Int))=true:=by rw[hke];simp
    have Hown:=cH hown
    have HS:=cH hS
    have Hbel:=cH hbel
    clear hown hS hbel hF hFk hke
    go_wp2_with fail
    simp only[zF0]
    go_ret3
    rw[hq]
    exact ⟨_,⟨_,rfl⟩,Hown.out.slvT.more (fun b hb _=>hb.elim (HS.out b) fun h=>(Hown.out.lt b h).1),Hbel.out⟩
   have hkn:k<t.size:=by omega
   have hk00:((k:Int)==(t.size:Int))=false:=by rw[beq_eq_false_iff_ne];omega
   have Hm:Hid (F=(scanW [] (cutL t.data.toList k k) (t.data.toList.drop k)).map (done++·)):=by
    unfold Hid;rw[hFk,zCy];unfold scanL
    rw[if_neg (by intro e;have:=congrArg List.length e;rw[List.length_drop,←zAJ] at this;simp at this;omega)]
   have HW:=cH (zCA.none_ hown hS hbel)
   obtain ⟨ws,hws⟩:∃ ws:List (List UInt8),ws=[]:=⟨_,rfl⟩
   rw[←hws] at Hm HW
   have hwl:ws.length≤k:=by rw[hws];exact nZ _
   clear hws hown hS hbel hFk hke
   go_wp2_with fail
   go_step3
   go_wp2_with fail
   go_step3
   have hlt:k<t.size:=by omega
   have hkI:(k:Int)<(t.size:Int):=by omega
   have hkb:((k:Int)==(t.size:Int))=false:=by rw[beq_eq_false_iff_ne];omega
   have hk0:(0:Int)≤(k:Int):=by omega
   have hd:=zF1 t k hlt
   by_cases hv:visB t[k]=true
   ·obtain ⟨q1,q2⟩:=zG8.1 hv
    have hF:F=(scanW ws (cutL t.data.toList k (k+1)) (t.data.toList.drop (k+1))).map (done++·):=by rw[Hm.out,hd,zEG hv,zFD (by omega) hlt]
    clear hd hv Hm
    go_wp2_with fail
    go_step3
    show ScanJ t most w F 3 _ _∧_
    refine ⟨?_,?_⟩
    ·exact ⟨_,_,_,k+1,_,_,_,_,_,_,_,_,_,_,_,_,_,_,_,_,_,_,_,_,_,_,_,_,_,_,_,_,_,_,_,_,_,_,_,_,_,_,_,_,_,_,_,_,_,_,_,_,_,_,_,_,_,rfl,by omega,.inr (.inr (.inr ⟨rfl,done,ws,k,rfl,by omega,hF,by omega,by omega,HW.out⟩))⟩
    ·simp[scanM,intOf];omega
   have hv':visB t[k]=false:=by simpa using hv
   have hcs:=zJd hv'
   clear hv
   have hF:Hid (F=none):=by unfold Hid;rw[Hm.out,hd,zCu hv' (.inl (zCy _ _))];rfl
   obtain ⟨h7,hbw⟩:=zCt HW.out
   clear hd Hm hv'
   rcases hcs with q1|⟨q1,q2⟩
   all_goals
    go_wp2_with fail
    go_step3
    show ScanJ t most w F 2 _ _∧_
    refine ⟨?_,?_⟩
    ·exact ⟨_,_,_,k,_,_,_,_,_,_,_,_,_,_,_,_,_,_,_,_,_,_,_,_,_,_,_,_,_,_,_,_,_,_,_,_,_,_,_,_,_,_,_,_,_,_,_,_,_,_,_,_,_,_,_,_,_,rfl,by omega,.inl ⟨rfl,hF.out,h7,hbw⟩⟩
    ·simp[scanM,intOf];omega
  ·refine ⟨_,rfl,?_⟩
   have Hm:Hid (F=(scanW ws (cutL t.data.toList k k) (t.data.toList.drop k)).map (done++·)):=by
    unfold Hid;rw[hFk,zCy]
   have HW:=cH hW
   clear hW hFk
   go_wp2_with fail
   go_step3
   by_cases hlt:k<t.size
   case neg=>
    have hke:(k:Int)=(t.size:Int):=by omega
    have hkb:((k:Int)==(t.size:Int))=true:=by simp[hke]
    have hF:Hid (F=none):=by unfold Hid;rw[Hm.out,dN (by rw[←zAJ];omega),scanW];rfl
    obtain ⟨h7,hbw⟩:=zCt HW.out
    go_wp2_with fail
    go_step3
    show ScanJ t most w F 2 _ _∧_
    refine ⟨?_,?_⟩
    ·exact ⟨_,_,_,k,_,_,_,_,_,_,_,_,_,_,_,_,_,_,_,_,_,_,_,_,_,_,_,_,_,_,_,_,_,_,_,_,_,_,_,_,_,_,_,_,_,_,_,_,_,_,_,_,_,_,_,_,_,rfl,by omega,.inl ⟨rfl,hF.out,h7,hbw⟩⟩
    ·simp[scanM,intOf];omega
   have hkI:(k:Int)<(t.size:Int):=by omega
   have hkb:((k:Int)==(t.size:Int))=false:=by rw[beq_eq_false_iff_ne];omega
   have hk0:(0:Int)≤(k:Int):=by omega
   have hd:=zF1 t k hlt
   by_cases hv:visB t[k]=true
   ·obtain ⟨q1,q2⟩:=zG8.1 hv
    have hF:F=(scanW ws (cutL t.data.toList k (k+1)) (t.data.toList.drop (k+1))).map (done++·):=by rw[Hm.out,hd,zEG hv,zFD (by omega) hlt]
    clear hd hv Hm
    go_wp2_with fail
    go_step3
    show ScanJ t most w F 3 _ _∧_
    refine ⟨?_,?_⟩
    ·exact ⟨_,_,_,k+1,_,_,_,_,_,_,_,_,_,_,_,_,_,_,_,_,_,_,_,_,_,_,_,_,_,_,_,_,_,_,_,_,_,_,_,_,_,_,_,_,_,_,_,_,_,_,_,_,_,_,_,_,_,rfl,by omega,.inr (.inr (.inr ⟨rfl,done,ws,k,rfl,by omega,hF,by omega,by omega,HW.out⟩))⟩
    ·simp[scanM,intOf];omega
   have hv':visB t[k]=false:=by simpa using hv
   have hcs:=zJd hv'
   clear hv
   have hF:Hid (F=none):=by unfold Hid;rw[Hm.out,hd,zCu hv' (.inl (zCy _ _))];rfl
   obtain ⟨h7,hbw⟩:=zCt HW.out
   clear hd Hm hv'
   rcases hcs with q1|⟨q1,q2⟩
   all_goals
    go_wp2_with fail
    go_step3
    show ScanJ t most w F 2 _ _∧_
    refine ⟨?_,?_⟩
    ·exact ⟨_,_,_,k,_,_,_,_,_,_,_,_,_,_,_,_,_,_,_,_,_,_,_,_,_,_,_,_,_,_,_,_,_,_,_,_,_,_,_,_,_,_,_,_,_,_,_,_,_,_,_,_,_,_,_,_,_,rfl,by omega,.inl ⟨rfl,hF.out,h7,hbw⟩⟩
    ·simp[scanM,intOf];omega
  ·refine ⟨_,rfl,?_⟩
   have Hm:=cH hFk
   have HW:=cH hW
   clear hW hFk
   by_cases hlt:k<t.size
   case neg=>
    have hke:(k:Int)=(t.size:Int):=by omega
    have hkb:((k:Int)==(t.size:Int))=true:=by simp[hke]
    have hF:Hid (F=none):=by unfold Hid;rw[Hm.out,dN (by rw[←zAJ];omega),scanW];rfl
    obtain ⟨h7,hbw⟩:=zCt HW.out
    go_wp2_with fail
    go_step3
    show ScanJ t most w F 2 _ _∧_
    refine ⟨?_,?_⟩
    ·exact ⟨_,_,_,k,_,_,_,_,_,_,_,_,_,_,_,_,_,_,_,_,_,_,_,_,_,_,_,_,_,_,_,_,_,_,_,_,_,_,_,_,_,_,_,_,_,_,_,_,_,_,_,_,_,_,_,_,_,rfl,by omega,.inl ⟨rfl,hF.out,h7,hbw⟩⟩
    ·simp[scanM,intOf];omega
   have hkI:(k:Int)<(t.size:Int):=by omega
   have hkb:((k:Int)==(t.size:Int))=false:=by rw[beq_eq_false_iff_ne];omega
   have hk0:(0:Int)≤(k:Int):=by omega
   have hd:=zF1 t k hlt
   by_cases hv:visB t[k]=true
   ·obtain ⟨q1,q2⟩:=zG8.1 hv
    have hF:F=(scanW ws (cutL t.data.toList b (k+1)) (t.data.toList.drop (k+1))).map (done++·):=by rw[Hm.out,hd,zEG hv,zFD (by omega) hlt]
    clear hd hv Hm
    go_wp2_with fail
    go_step3
    show ScanJ t most w F 3 _ _∧_
    refine ⟨?_,?_⟩
    ·exact ⟨_,_,_,k+1,_,_,_,_,_,_,_,_,_,_,_,_,_,_,_,_,_,_,_,_,_,_,_,_,_,_,_,_,_,_,_,_,_,_,_,_,_,_,_,_,_,_,_,_,_,_,_,_,_,_,_,_,_,rfl,by omega,.inr (.inr (.inr ⟨rfl,done,ws,b,rfl,by omega,hF,by omega,by omega,HW.out⟩))⟩
    ·simp[scanM,intOf];omega
   have hv':visB t[k]=false:=by simpa using hv
   have hcs:=zJd hv'
   clear hv
   by_cases hkf:k=b
   ·have hke:((k:Int)==(b:Int))=true:=by rw[hkf];simp
    have hF:Hid (F=none):=by unfold Hid;rw[Hm.out,hd,zCu hv' (.inl (by rw[hkf];exact zCy _ _))];rfl
    obtain ⟨h7,hbw⟩:=zCt HW.out
    clear hd Hm hv' hkf
    rcases hcs with q1|⟨q1,q2⟩
    all_goals
     go_wp2_with fail
     go_step3
     show ScanJ t most w F 2 _ _∧_
     refine ⟨?_,?_⟩
     ·exact ⟨_,_,_,k,_,_,_,_,_,_,_,_,_,_,_,_,_,_,_,_,_,_,_,_,_,_,_,_,_,_,_,_,_,_,_,_,_,_,_,_,_,_,_,_,_,_,_,_,_,_,_,_,_,_,_,_,_,rfl,by omega,.inl ⟨rfl,hF.out,h7,hbw⟩⟩
     ·simp[scanM,intOf];omega
   have hke:((k:Int)==(b:Int))=false:=by rw[beq_eq_false_iff_ne];omega
   have hcur:cutL t.data.toList b k≠[]:=zSX (by omega) (by omega)
   have Hx:=cH (zJy (s:=t) (b:=b) (k:=k) hk)
   have hbI:(b:Int)≤(k:Int):=by omega
   have hwx:IntKind.i64.wrap ((k:Int)+1)=((k+1:Nat):Int):=by rw[IntWalk.i64_in _ ⟨by omega,by omega⟩];omega
   have hwy:IntKind.i64.wrap (((k+1:Nat):Int) - 1)=(k:Int):=by rw[IntWalk.i64_in _ ⟨by omega,by omega⟩];omega
   have hxs:(t.extract b k).size≤maxLen:=by rw[ByteArray.size_extract];unfold maxLen;omega
   have Hxs:=cH hxs
   clear hxs
   obtain ⟨S0,o1,o2,o3,o4,o5⟩:=HW.out
   have O2:=cH o2
   have hz5:=o5.size
   have Hwl:Hid ((ws.map mkB).length=ws.length):=List.length_map _
   clear o1 o2 o3 o4 o5
   have hsel:(t[k]=32)∨(t[k]=10)∨(t[k]≠32∧t[k]≠10):=by
    by_cases e1:t[k]=32
    ·exact .inl e1
    by_cases e2:t[k]=10
    ·exact .inr (.inl e2)
    exact .inr (.inr ⟨e1,e2⟩)
   have Hsel:=cH hsel
   clear hsel
   have Hm32:Hid (t[k]=32→F=(scanW (ws++[cutL t.data.toList b k]) [] (t.data.toList.drop (k+1))).map (done++·)):=fun e=>by rw[Hm.out,hd,e,zIt hcur]
   have Hm10:Hid (t[k]=10→F=(scanL (t.data.toList.drop (k+1))).map ((done++[ws++[cutL t.data.toList b k]])++·)):=fun e=>by rw[Hm.out,hd,e,zIN hcur,Option.map_map];congr 1;funext x;simp
   have HmN:Hid ((t[k]≠32∧t[k]≠10)→F=none):=fun e=>by rw[Hm.out,hd,zCu hv' (.inr e)];rfl
   have HW2:=HW
   clear hd Hm hcur hv'
   have Hcut:=cH (rfl:cutL t.data.toList b k=cutL t.data.toList b k)
   rcases hcs with q1|⟨q1,q2⟩
   all_goals
    go_wp2_with (at_builtin;refine zAb (by rfl) _ _ _ (by rfl) zBg Tryz.underlying53 (by rfl) (O2.out.alloc _) ⟨W.heap.size,0,none⟩ 1 [.string (t.extract b k)] (t.extract b k) (by rfl) ⟨rfl,Hxs.out⟩ (zAz W #[.string (t.extract b k)] _) (by rw[Hwl.out];unfold maxLen;omega) (by rw[Hwl.out];omega) (by simp;omega) (W.heap.size+1) (by simp) ?_)
    intro g5 cap5 w5 hown5 hgrow5 hat5 hg5
    have HW5:=cH (zCA.word Hx.out HW2.out hown5 hgrow5 hat5)
    clear hown5 hgrow5 hat5 O2
    generalize hcc:cutL t.data.toList b k=cw at *
    rcases Hsel.out with e|e|e
    ·have c1:((t[k].toNat:Int)==32)=true:=by rw[e];rfl
     have hF:=Hm32.out e
     clear Hm32 Hm10 HmN e
     go_wp2_with fail
     go_step3
     show ScanJ t most w F 1 _ _∧_
     refine ⟨?_,?_⟩
     ·exact ⟨_,_,_,k+1,_,_,_,_,_,_,_,_,_,_,_,_,_,_,_,_,_,_,_,_,_,_,_,_,_,_,_,_,_,_,_,_,_,_,_,_,_,_,_,_,_,_,_,_,_,_,_,_,_,_,_,_,_,rfl,by omega,.inr (.inr (.inl ⟨rfl,done,ws++[cw],hF,by omega,by simp;omega,HW5.out⟩))⟩
     ·simp[scanM,intOf];omega
    ·have c1:((t[k].toNat:Int)==32)=false:=by rw[e];rfl
     have c2:((t[k].toNat:Int)==10)=true:=by rw[e];rfl
     have hF:=Hm10.out e
     clear Hm32 Hm10 HmN e
     obtain ⟨S1,p1,p2,p3,p4⟩:=HW5.out.line
     have P1:=cH p1
     have P2:=cH p2
     have P4:=cH p4
     have P3:=cH p3
     have hz6:=p4.size
     have Hdl:Hid ((zDq done).length=done.length):=by unfold Hid zDq;rw[List.length_map]
     have Hmp:Hid (zDq (done++[ws++[cw]])=zDq done++[(ws++[cw]).map mkB]):=by unfold Hid zDq;rw[List.map_append];rfl
     clear p1 p2 p3 p4 HW5
     go_wp2_with (at_builtin;refine zAb (by rfl) _ _ _ (by rfl) zRm Tryz.underlying145 (by rfl) (P1.out.alloc _) ⟨w5.heap.size,0,none⟩ 1 [.slice (some ⟨g5,0,none⟩) (ws.length+1) cap5] ((ws++[cw]).map mkB) (by rfl) (Rp.alloc P2.out _) (zAz w5 #[.slice (some ⟨g5,0,none⟩) (ws.length+1) cap5] _) (by rw[Hdl.out];unfold maxLen;omega) (by rw[Hdl.out];omega) (by simp;omega) (w5.heap.size+1) (by simp) ?_)
     intro g6 cap6 w6 hown6 hgrow6 hat6 hg6
     have HB6:Hid (Below w.heap.size w w6):=(P4.out.alloc hz6 _).grown hgrow6 (by simp;omega) (fun q hq=>(P1.out.lt q hq).1)
     have Hown6:Hid (Own (zAL rStr) w6 w.heap.size 53 (.slice (some ⟨g6,0,none⟩) ((zDq done).length+1) cap6) (zDq (done++[ws++[cw]])) S1):=by unfold Hid;rw[Hmp.out,List.map_append];exact hown6
     clear hown6 hgrow6 hat6 P1 P2 P4
     go_wp2_with fail
     go_step3
     show ScanJ t most w F 0 _ _∧_
     refine ⟨?_,?_⟩
     ·exact ⟨_,_,_,k+1,_,_,_,_,_,_,_,_,_,_,_,_,_,_,_,_,_,_,_,_,_,_,_,_,_,_,_,_,_,_,_,_,_,_,_,_,_,_,_,_,_,_,_,_,_,_,_,_,_,_,_,_,_,rfl,by omega,.inr (.inl ⟨rfl,done++[ws++[cw]],S1,hF,by simp;omega,Hown6.out,P3.out,HB6.out⟩)⟩
     ·simp[scanM,intOf];omega
    ·have c1:((t[k].toNat:Int)==32)=false:=by rw[beq_eq_false_iff_ne];intro h;exact e.1 (UInt8.toNat_inj.1 (by show t[k].toNat=32;omega))
     have c2:((t[k].toNat:Int)==10)=false:=by rw[beq_eq_false_iff_ne];intro h;exact e.2 (UInt8.toNat_inj.1 (by show t[k].toNat=10;omega))
     have hq:=HqN.out (HmN.out e)
     clear Hm32 Hm10 HmN e
     obtain ⟨⟨A7,n7,c7,h7,hn7⟩,hbw⟩:=zCt HW5.out
     subst h7
     have Hbw:=cH hbw
     clear hbw
     go_wp2_with fail
     go_step3
     go_wp2_with fail
     simp only[zF0]
     go_ret3
     rw[hq]
     exact ⟨_,⟨_,rfl⟩,SlV.nil_ _ _ _,Hbw.out⟩
