/- walkup.Map. -/
import Derived.Test.YthbnmehbhpakaaaGreatDoorBk14
import Derived.Test.YthbnmehbhpakaaaGreatDoorBk04
import Derived.OwnWalk
import Derived.Deep.LoopGhost
import Derived.Test.YthbnmehbhpakaaaGreatDoorBk19
import Derived.Test.YthbnmehbhpakaaaGreatDoorBk15
import Derived.Test.YthbnmehbhpakaaaGreatDoorBkB
import Derived.Test.YthbnmehbhpakaaaGreatDoorBkC
import Derived.Test.YthbnmehbhpakaaaGreatDoorBk02
import Derived.Test.YthbnmehbhpakaaaGreatDoorBk11
import Derived.ProofKit
import Derived.OpenShut
import Derived.Test.YthbnmehbhpakaaaGreatDoorAl
set_option linter.all false
set_option maxHeartbeats 6400000
set_option maxRecDepth 100000
namespace Go.Proofs.YthbnmehbhpakaaaGreatDoor
open Go.Rows Go.RowKit Go.Shelf Go.Sort
theorem zSU:Elt Tryz.prog 3 1 8:=Elt.mk' (z:=.int .i64 0) (by kernel_rfl) rfl (by decide)
theorem zRS {n k:Nat} (h:k<n):(List.replicate k (-1:Int)++List.replicate (n - k) 0).set k (-1)=List.replicate (k+1) (-1)++List.replicate (n - (k+1)) 0:=by
 rw[List.set_append_right _ _ (by simp),List.length_replicate,Nat.sub_self,show n - k=(n - (k+1))+1 by omega,List.replicate_succ,List.set_cons_zero,List.replicate_succ',List.append_assoc]
 rfl
theorem zGV {n k:Nat} (h:k≤n):(List.replicate k (-1:Int)++List.replicate (n - k) 0).length=n:=by simp;omega
theorem zSm {n:Nat} (h:0<n):(List.replicate n (-1:Int)).set 0 0=(map0 n).1:=by
 obtain ⟨k,rfl⟩:∃ k,n=k+1:=⟨n - 1,by omega⟩
 rw[List.replicate_succ]
 rfl
def castN (l:List Nat):List Int:=l.map fun (r:Nat)=>(r:Int)
structure MapAt (w0 wr:World) (g:Nat) (n gl:Nat) (g2 k2 c2:Nat) (m:List Int) (rest:List Nat):Prop where
 m_:IRow wr w0.heap.size g 0 n m
 r_:IRow wr w0.heap.size g2 k2 c2 (castN rest)
 ne:g2≠g
 inv:MInv n gl (m,rest)
 bel:Below w0.heap.size w0 wr
theorem MapAt.keep {w0 w1 w2:World} {g n gl g2 k2 c2:Nat} {m:List Int} {rest:List Nat} (h:MapAt w0 w1 g n gl g2 k2 c2 m rest) (hb:Below w1.heap.size w1 w2):MapAt w0 w2 g n gl g2 k2 c2 m rest:=
 ⟨h.m_.keep hb,h.r_.keep hb,h.ne,h.inv,bot h.bel hb⟩
theorem MapAt.tail {w0 w1:World} {g n gl g2 k2 c2 a:Nat} {m:List Int} {rest:List Nat} (h:MapAt w0 w1 g n gl g2 k2 c2 m (a::rest)):MapAt w0 w1 g n gl g2 (k2+1) (c2 - 1) m rest:=
 ⟨h.m_,IRow.tail h.r_,h.ne,⟨h.inv.len,h.inv.rng,fun r hr=>h.inv.rest r (List.mem_cons_of_mem _ hr)⟩,h.bel⟩
theorem MapAt.tail0 {w0 w1:World} {g n gl g2 k2 c2 a:Nat} {m:List Int} {rest:List Nat} (h:MapAt w0 w1 g n gl g2 k2 c2 m (a::rest)) (hc:c2=1):MapAt w0 w1 g n gl g2 k2 0 m rest:=by
 subst hc
 have hle:=h.r_.le
 have hr0:rest=[]:=by simpa [castN] using hle
 subst hr0
 exact ⟨h.m_,⟨h.r_.lo,nR _,nZ _,h.r_.lt,fun j x hj=>by simp[castN] at hj,fun j hj=>absurd hj (Nat.not_lt_zero _)⟩,h.ne,⟨h.inv.len,h.inv.rng,fun r hr=>by cases hr⟩,h.bel⟩
theorem zPH (W:World) (v:Value) (t:TypeId) (n:Nat) (h:n=W.heap.size):(W.alloc (.cells #[v] t)).cell? ⟨n,0,none⟩=some v:=by
 subst h;simp[go_sem]
theorem zDS {v:Value} {R:Option (List Int)×Int} {r:Option (List Int)} {z:Int} (h:R=(r,z)):Ending.returned (.tuple #[v,.int .i64 z])=.returned (.tuple #[v,.int .i64 R.2]):=by rw[h]
theorem zDm {B:Nat} {w w':World} (h:Below B w w') {g o:Nat} (hg:B≤g) (v:Value):Below B w (w'.setCell ⟨g,o,none⟩ v):=h.setCell (p:=⟨g,o,none⟩) hg v
theorem zPI (A B:Option Addr) (n c m d:Nat) (xs:List Dir) (gs:List Node) (w:World) (S T:Nat→Prop) (ht:Tab w) (hlen:∀ d∈xs,d.path.length * 32≤140737488355328) (hx:SlV rDir w S xs (.slice A n c)) (hg:SlV rNode w T gs (.slice B m d)) :
  Calls Tryz.prog 41 #[.agg #[.slice A n c],.agg #[.slice B m d]] w fun e w'=>
   (∃ v,e=.returned (.tuple #[v,.int .i64 (mapR xs gs).2])∧SlV rInt w' (fun b=>w.heap.size≤b) ((mapR xs gs).1.getD []) v)∧Below w.heap.size w w':=by
 have hnx:=hx.n_eq
 have hmg:=hg.n_eq
 have hcx:=hx.cap_le
 have hcg:=hg.cap_le
 unfold maxLen at hcx hcg
 have hn63:n≤9223372036854775807:=by omega
 have hm63:m≤9223372036854775807:=by omega
 have HX:=cH (hx.more (S':=fun b=>b<w.heap.size) fun b _ h=>h)
 have HG:=cH (hg.more (S':=fun b=>b<w.heap.size) fun b _ h=>h)
 have Hck:Hid (∀ W,Below w.heap.size w W→Calls Tryz.prog 103 #[.agg #[.slice A n c]] W fun e w'=>e=.returned (.int .i64 (zAe xs))∧Below W.heap.size W w'):=fun W hW=>zQJ A n c xs W _ (zAG ht hW) hlen (hx.belowSize hW)
 have Hfm:Hid (∀ W,Below w.heap.size w W→Calls Tryz.prog 104 #[.agg #[.slice B m d]] W fun e w'=>e=.returned (.bool (zBI gs))∧Below W.heap.size W w'):=fun W hW=>zOn B m d gs W _ (hg.belowSize hW)
 have Hlk:Hid (∀ W (i:Int) (s:ByteArray),s.size≤maxLen→Below w.heap.size w W→Calls Tryz.prog 19 #[.agg #[.slice A n c],.int .i64 i,.string s] W fun e w'=>e=.returned (.int .i64 (lookI xs i s))∧Below W.heap.size W w'):=fun W i s hs hW=>zRz A n c xs s W _ i hs hlen (hx.belowSize hW)
 have Hnx:=cH hnx
 have Hmg:=cH hmg
 have Hc1:Hid (zAe xs≠0→mapR xs gs=(none,42)):=fun h=>by unfold mapR;rw[if_pos h]
 have Hc2:Hid (zAe xs=0→zBI gs=false→mapR xs gs=(none,33)):=fun h h'=>by unfold mapR;rw[if_neg (by simp[h]),if_pos h']
 have Hc3:Hid (zAe xs=0→zBI gs=true→∀ r,zAc xs gs (xs.length+1) (map0 xs.length)=r→mapR xs gs=(match r with|none=>(none,42)|some m=>(some m,0))):=fun h h' r hr=>by unfold mapR;rw[if_neg (by simp[h]),if_neg (by simp[h']),hr]<;>cases r<;>rfl
 have Hl0:Hid (zAe xs=0→0<n∧n≤257):=fun h=>by
  rw[hnx]
  unfold zAe at h
  split at h
  ·exact absurd h (by decide)
  ·omega
 have Hed:=cH (fun (h:zBI gs=true)=>zDz h)
 clear hx hg hlen ht hcx hcg hnx hmg
 generalize mapR xs gs=R at *
 generalize zAe xs=E at *
 generalize hfb:zBI gs=F at *
 go_enter Tryz.func41,Tryz.ntmps41
 go_wp2_with fail
 obtain ⟨w0,hw0⟩:∃ w0,w0=(w.alloc (.cells #[.slice A n c] 30)).alloc (.cells #[.slice B m d] 27):=⟨_,rfl⟩
 have hz:w.heap.size<w0.heap.size:=by rw[hw0];simp[go_sem]
 have hz1:w.heap.size+1<w0.heap.size:=by rw[hw0];simp[go_sem]
 have HB0:Hid (Below w.heap.size w w0):=by unfold Hid;rw[hw0];exact bal (bal (bR _ _) _) _
 have a0:w0.cell? ⟨w.heap.size,0,none⟩=some (.slice A n c):=by rw[hw0];simp[go_sem]
 have a1:w0.cell? ⟨w.heap.size+1,0,none⟩=some (.slice B m d):=by rw[hw0];simp[go_sem]
 rw[←hw0]
 clear hw0
 have HA0:Hid (w0.cell? ⟨w.heap.size,0,none⟩=some (.slice A n c)∧w0.cell? ⟨w.heap.size+1,0,none⟩=some (.slice B m d)):=⟨a0,a1⟩
 refine (Hck.out w0 HB0.out).mono ?_
 rintro e w1 ⟨rfl,B1⟩
 have Q1:=cH B1;clear B1 Hck
 have b0:=zAA Q1.out a0 hz
 have b1:=zAA Q1.out a1 hz1
 clear a0 a1
 by_cases hE:E=0
 case neg=>
  have hEb:(E != 0)=true:=by simp[hE]
  have He:Hid (R=(none,42)):=Hc1.out hE
  clear hE
  go_wp2_with fail
  go_ret2
  refine ⟨⟨_,zDS He.out,?_⟩,bot HB0.out Q1.out⟩
  rw[He.out];exact SlV.nil_ _ _ _
 have hEb:(E != 0)=false:=by simp[hE]
 have HE:=cH hE;clear hE
 go_wp2_with fail
 refine (Hfm.out w1 (bot HB0.out Q1.out)).mono ?_
 rintro e w2 ⟨rfl,B2⟩
 have Q2:=cH (bot Q1.out B2);clear B2 Hfm b0 b1
 have b0:=zAA Q2.out HA0.out.1 hz
 have b1:=zAA Q2.out HA0.out.2 hz1
 cases hF:F
 ·have He:Hid (R=(none,33)):=Hc2.out HE.out hF
  clear hF
  go_wp2_with fail
  go_ret2
  refine ⟨⟨_,zDS He.out,?_⟩,bot HB0.out Q2.out⟩
  rw[He.out];exact SlV.nil_ _ _ _
 have HFm:Hid (zBI gs=true):=by unfold Hid;rw[hfb,hF]
 have HR0:Hid (∀ r,zAc xs gs (xs.length+1) (map0 xs.length)=r→R=(match r with|none=>(none,42)|some m=>(some m,0))):=Hc3.out HE.out hF
 have HED:Hid (0<gs.length∧∀ x∈gs,x.edges.all (edgeB gs.length)=true):=Hed.out hF
 obtain ⟨hn0,hn257⟩:=Hl0.out HE.out
 clear Hc1 Hc2 Hc3 Hed hfb hF Hl0
 clear F
 obtain ⟨i,hi,hiz,hsz,hby⟩:=info_parts (P:=Tryz.prog) (e:=3) (show (Tryz.prog.info? 3).map (fun i=>(i.zero,i.size,i.bytes))=some (some (.int .i64 0),1,8) by kernel_rfl)
 have hw2s:=Q2.out.size
 go_wp2_with (at_make;refine wpList_make_full w2 (by rfl) _ _ _ (by rfl) w0.heap.size 3 i _ 1 Tryz.underlying75 hi hiz hsz .i64 .i64 _ _ n (by rfl) (by rfl) rfl rfl (by rw[hby];omega) (by unfold maxLen;omega) hw2s ?_)
 intro w3 hown hgrow
 have Q3:Hid (Below w0.heap.size w0 w3):=Q2.out.grown hgrow (by exact hw2s) (fun k hk=>by cases hk)
 rw[toList_madeCells_one] at hown
 have HM3:Hid (IRow w3 w0.heap.size w2.heap.size 0 n (List.replicate 0 (-1)++List.replicate (n - 0) 0)):=by
  have e1:(List.replicate 0 (-1:Int)++List.replicate (n - 0) 0).length=n:=zGV (nZ _)
  refine IRow.of_owns (e:=3) ?_
  rw[e1]
  have e2:(List.replicate 0 (-1:Int)++List.replicate (n - 0) 0).map (Value.int .i64)=List.replicate n (.int .i64 0):=by simp
  rw[e2]
  exact hown
 clear hown hgrow hi hiz hsz hby b0 b1
 generalize w2.heap.size=g at *
 clear Q2 hw2s
 go_wp2_with fail
 go_loopw [25] (fun i wr=>∃ k:Nat,k≤n∧i=.int .i64 k∧Hid (IRow wr w0.heap.size g 0 n (List.replicate k (-1)++List.replicate (n - k) 0))∧Below w0.heap.size w0 wr) (fun i _=>n - (intOf i).toNat)
 case atStart=>exact ⟨0,nZ _,rfl,HM3,Q3.out⟩
 case round=>
  obtain ⟨k,hk,rfl,hrow,hbel⟩:=hrel
  by_cases hlt:k<n
  ·have hk0:(0:Int)≤(k:Int):=by omega
   have hkn:(k:Int)<(n:Int):=by omega
   have h1:=hrow.out.get (j:=k) (by rw[zGV hk];exact hlt)
   have h2:=hrow.out.frozen hlt
   rw[Nat.zero_add] at h1 h2
   generalize (List.replicate k (-1:Int)++List.replicate (n - k) 0)[k]'(by rw[zGV hk];exact hlt)=v0 at *
   have HS:Hid (IRow (wr.setCell ⟨g,k,none⟩ (.int .i64 (-1))) w0.heap.size g 0 n (List.replicate (k+1) (-1)++List.replicate (n - (k+1)) 0)):=by
    have:=(hrow.out.set (j:=k) (by rw[zGV hk];exact hlt) (-1)).1
    rw[zRS hlt,Nat.zero_add] at this
    exact this
   have HBs:Hid (Below w0.heap.size w0 (wr.setCell ⟨g,k,none⟩ (.int .i64 (-1)))):=zDm hbel hrow.out.lo _
   clear hrow
   go_wp2_with fail
   go_roundw
   case rel=>exact ⟨k+1,by omega,by go_num,HS,HBs.out⟩
   case measure=>simp[intOf];omega
  ·obtain rfl:k=n:=by omega
   have hrow':Hid (IRow wr w0.heap.size g 0 k (List.replicate k (-1))):=by
    have:=hrow.out
    rw[Nat.sub_self,List.replicate_zero,List.append_nil] at this
    exact this
   have h1:=hrow'.out.get (j:=0) (by simpa using hn0)
   have h2:=hrow'.out.frozen hn0
   rw[List.getElem_replicate] at h1
   rw[Nat.zero_add] at h1 h2
   have HS:Hid (IRow (wr.setCell ⟨g,0,none⟩ (.int .i64 0)) w0.heap.size g 0 k (map0 k).1):=by
    have:=(hrow'.out.set (j:=0) (by simpa using hn0) 0).1
    rw[zSm hn0,Nat.zero_add] at this
    exact this
   have HBs:Hid (Below w0.heap.size w0 (wr.setCell ⟨g,0,none⟩ (.int .i64 0))):=zDm hbel hrow'.out.lo _
   have hgl:g<(wr.setCell ⟨g,0,none⟩ (.int .i64 0)).heap.size:=HS.out.lt
   clear hrow hrow' hlt
   go_wp2_with fail
   obtain ⟨w4,hw4⟩:∃ w4,w4=wr.setCell ⟨g,0,none⟩ (.int .i64 0):=⟨_,rfl⟩
   rw[←hw4] at HS HBs hgl ⊢
   clear hgl
   obtain ⟨w5,hw5⟩:∃ w5,w5=w4.alloc (.cells #[.int .i64 0] 3):=⟨_,rfl⟩
   have HP5:Hid (MapAt w0 w5 g k gs.length w4.heap.size 0 1 (map0 k).1 [0]):=by
    have hs4:=HBs.out.size
    rw[hw5]
    exact ⟨HS.out.alloc _,IRow.lit _ _ _ _ hs4,by have:=HS.out.lt;omega,(MInv.start hn0 HED.out.1).1,bal HBs.out _⟩
   have HF5:Hid (freeN (map0 k).1+[0].length<k+1∧k+1≤k+1):=by
    have:=(MInv.start (n:=k) (gl:=gs.length) hn0 HED.out.1).2
    unfold Hid
    have e:(map0 k).2=[0]:=rfl
    rw[e] at this
    exact ⟨by omega,nR _⟩
   have HR5:Hid (∀ r,zAc xs gs (k+1) ((map0 k).1,[0])=r→R=(match r with|none=>(none,42)|some m=>(some m,0))):=fun r hr=>HR0.out r (by rw[←Hnx.out];exact hr)
   rw[←hw5]
   have hsz4:w4.heap.size=wr.heap.size:=by rw[hw4];simp
   rw[hsz4] at HP5
   clear hw5 hw4 HS HBs HR0 HM3 Q3 hsz4
   generalize wr.heap.size=g4 at *
   go_loopg [8] (k+1) (fun f v wr=>∃ (g2 k2 c2:Nat) (mm:List Int) (rest:List Nat),v=.slice (some ⟨g2,k2,none⟩) rest.length c2∧Hid (MapAt w0 wr g k gs.length g2 k2 c2 mm rest)∧Hid (freeN mm+rest.length<f∧f≤k+1)∧Hid (∀ r,zAc xs gs f (mm,rest)=r→R=(match r with|none=>(none,42)|some m=>(some m,0))))
   case atStart=>exact ⟨g4,0,1,_,[0],rfl,HP5,HF5,HR5⟩
   case round=>
    clear HP5 HF5 HR5
    obtain ⟨g2,k2,c2,mm,rest,rfl,HP,HF,HRf⟩:=hrel
    have b0:=zAA HP.out.bel HA0.out.1 hz
    have b1:=zAA HP.out.bel HA0.out.2 hz1
    obtain ⟨f,rfl⟩:∃ f,gk=f+1:=⟨gk - 1,by have:=HF.out.1;omega⟩
    cases rest with
    | nil=>
      have He:Hid (R=(some mm,0)):=HRf.out (some mm) (by rw[zAc])
      have hml:=HP.out.inv.len
      go_wp2_with fail
      go_ret2
      refine ⟨⟨_,zDS He.out,?_⟩,bot HB0.out HP.out.bel⟩
      rw[He.out]
      refine SlV.more ?_ (fun b hb _=>nT HB0.out.size hb)
      have hsl:=HP.out.m_.slv (fun x hx=>by have:=HP.out.inv.rng x hx;have:=Hmg.out;unfold I64;omega)
      rw[show mm.length=k from hml] at hsl
      exact hsl
    | cons a rest=>
      obtain ⟨x,hx,hx0⟩:=HP.out.inv.rest a (by simp)
      obtain ⟨q,rfl⟩:∃ q:Nat,x=(q:Int):=⟨x.toNat,by omega⟩
      have hrng:=HP.out.inv.rng _ (mG hx)
      have hml:mm.length=k:=HP.out.inv.len
      have hxg:mm[a]?=some (q:Int):=hx
      have hak:a<k:=by have:=(gS.1 hxg).1;omega
      have hqg:q<gs.length:=by omega
      have hqm:(q:Int)<(m:Int):=by have:=Hmg.out;omega
      have hq0:(0:Int)≤(q:Int):=by omega
      have hakI:(a:Int)<(k:Int):=by omega
      have ha0:(0:Int)≤(a:Int):=by omega
      have hr0:=HP.out.r_.at_ 0 (a:Int) rfl
      rw[Nat.add_zero] at hr0
      have hma:=HP.out.m_.at_ a _ hxg
      rw[Nat.zero_add] at hma
      have hc2:rest.length+1≤c2:=by have:=HP.out.r_.le;simpa [castN] using this
      have hc2m:=HP.out.r_.max
      unfold maxLen at hc2m
      obtain ⟨b',oo,cs,hBe,hSb,hb1,hh,hcell⟩:=HG.out.elem (gE hqg)
      obtain ⟨s0,s1,rfl,_,_,_,_,hp1,hp2⟩:=hh
      obtain ⟨qA,qa,rfl,hq1,hq2⟩:=hp2.val
      unfold maxLen at hq2
      subst hBe
      have c5:=zAA (bot HB0.out HP.out.bel) (hcell 5 _ rfl) hb1
      simp only[rNode,Nat.add_zero] at c5
      have hese:zDB gs (mm.getD a 0)=gs[q].edges:=by
       rw[List.getD_eq_getElem?_getD,hxg]
       unfold zDB
       simp only[Option.getD_some,Int.toNat_natCast,List.getElem?_eq_getElem hqg]
      have HR1:Hid (∀ r,zFv xs gs f (zAg xs gs a (gs[q].edges.drop 0) (mm,rest))=r→R=(match r with|none=>(none,42)|some m=>(some m,0))):=fun r hr=>HRf.out r (by rw[zGC,hese];exact hr)
      have HES:=cH hp2
      have Hall:Hid (gs[q].edges.all (edgeB gs.length)=true):=HED.out.2 _ (List.getElem_mem hqg)
      have HF1:Hid (freeN mm+rest.length<f):=by have:=HF.out.1;unfold Hid;simp at this;omega
      have Hfk:Hid (f+1≤k+1):=HF.out.2
      have Htl0:Hid (c2=1→MapAt w0 wr g k gs.length g2 k2 0 mm rest):=fun h=>HP.out.tail0 h
      have Htl1:=cH HP.out.tail
      clear hcell hp1 hp2 hx hxg hese hrng hx0 HF HRf
      generalize gs[q].edges=es at *
      generalize hl1:es.length=l1 at *
      have Hl1:=cH hl1;clear hl1
      have r_b0:=cR b0
      have r_b1:=cR b1
      have r_hma:=cR hma
      have r_c5:=cR c5
      go_wp2_with fail
      all_goals
       first
        | (have HP1:=cH (Htl0.out (by assumption)))
        | (have HP1:=cH Htl1.out)
       go_wp2_with fail
       refine wQ ?_
       repeat (go_big_quiet_step (first|fail))
       refine wpQuiet_nil fun w6 B6=>?_
       have HP6:=cH (HP1.out.keep B6)
       clear h h1 h2 hbel HP HP1 b0 b1 hma c5 r_b0 r_b1 r_hma r_c5 hr0 B6 Htl0 Htl1
       go_wp2_with fail
       go_loopw [8,53] (fun v i wi=>∃ (j g3 k3 c3:Nat) (m3:List Int) (r3:List Nat),j≤l1∧i=.int .i64 j∧v=.slice (some ⟨g3,k3,none⟩) r3.length c3∧Hid (MapAt w0 wi g k gs.length g3 k3 c3 m3 r3)∧Hid (freeN m3+r3.length<f)∧Hid (∀ r,zFv xs gs f (zAg xs gs a (es.drop j) (m3,r3))=r→R=(match r with|none=>(none,42)|some m=>(some m,0)))) (fun _ i _=>l1 - (intOf i).toNat)
       case atStart=>exact ⟨0,g2,_,_,mm,rest,nZ _,rfl,rfl,HP6,HF1,HR1⟩
       case round=>
        clear HP6 HF1 HR1
        obtain ⟨j,g3,k3,c3,m3,r3,hj,rfl,rfl,HP3,HF3,HR3⟩:=hrel
        have b0:=zAA HP3.out.bel HA0.out.1 hz
        have b1:=zAA HP3.out.bel HA0.out.2 hz1
        have Hml:Hid (m3.length=k):=HP3.out.inv.len
        by_cases hlj:j<l1
        case neg=>
         have HR4:Hid (∀ r,zAc xs gs f (m3,r3)=r→R=(match r with|none=>(none,42)|some m=>(some m,0))):=fun r hr=>HR3.out r (by rw[dN (by have:=Hl1.out;omega),zAg];exact hr)
         clear HR3
         go_wp2_with fail
         go_roundg f
         case measure=>omega
         case rel=>exact ⟨g3,k3,c3,m3,r3,rfl,HP3,⟨HF3.out,by have:=Hfk.out;omega⟩,HR4⟩
        case pos=>
        have hjy:j<es.length:=by have:=Hl1.out;omega
        obtain ⟨b2,o2,cs2,rfl,_,hb2,⟨rfl,hls,hti⟩,hcell2⟩:=(HES.out.below (bot HB0.out HP3.out.bel) (fun b h=>h)).elem (gE hjy)
        have d0:=hcell2 0 _ rfl
        have d1:=hcell2 1 _ rfl
        simp only[rEdge,Nat.add_zero] at d0 d1
        have hedge:edgeB gs.length es[j]=true:=List.all_eq_true.1 Hall.out _ (List.getElem_mem hjy)
        have Hedge:=cH hedge
        unfold edgeB at hedge
        simp only[Bool.and_eq_true,decide_eq_true_eq] at hedge
        have Hat:=cH (zLl xs gs a hjy (m3,r3))
        clear hcell2
        have hj0:(0:Int)≤(j:Int):=by omega
        have hjl:(j:Int)<(l1:Int):=by omega
        obtain ⟨ed,hed⟩:∃ ed,ed=es[j]:=⟨_,rfl⟩
        rw[←hed] at d0 d1 hedge Hedge Hat hls hti
        clear hed
        obtain ⟨lb,tq⟩:=ed
        simp only at d0 d1 hedge hls hti
        obtain ⟨q3,rfl⟩:∃ q3:Nat,tq=(q3:Int):=⟨tq.toNat,by omega⟩
        have hq3:q3<gs.length:=by omega
        have hq3m:(q3:Int)<(m:Int):=by have:=Hmg.out;omega
        have hq30:(0:Int)≤(q3:Int):=by omega
        have hq31:(1:Int)≤(q3:Int):=hedge.1
        clear hedge
        have Hls:=cH hls;clear hls hti
        have hzr:w.heap.size<wr.heap.size:=lL hz HP3.out.bel.size
        have bo:∀ o:Obj,(wr.alloc o).cell? ⟨w.heap.size,0,none⟩=some (.slice A k c):=fun o=>zAA (bal (bR _ _) o) b0 hzr
        go_wp2_with fail
        obtain ⟨w7,hw7⟩:∃ w7,w7=wr.alloc (.cells #[.string lb,.int .i64 q3] 65):=⟨_,rfl⟩
        have hzi:wr.heap.size<w7.heap.size:=by rw[hw7];simp[go_sem]
        have HB7:Hid (Below wr.heap.size wr w7):=by unfold Hid;rw[hw7];exact bal (bR _ _) _
        have e0:w7.cell? ⟨wr.heap.size,0,none⟩=some (.string lb):=by rw[hw7];simp[go_sem]
        have e1:w7.cell? ⟨wr.heap.size,1,none⟩=some (.int .i64 q3):=by rw[hw7];simp[go_sem]
        rw[←hw7]
        clear hw7 d0 d1 b0 b1 bo hzr
        have HP7:Hid (MapAt w0 w7 g k gs.length g3 k3 c3 m3 r3):=HP3.out.keep HB7.out
        have b0:=zAA HP7.out.bel HA0.out.1 hz
        refine (Hlk.out w7 (a:Int) lb Hls.out (bot HB0.out HP7.out.bel)).mono ?_
        rintro e w8 ⟨rfl,B8⟩
        have f0:=zAA B8 e0 hzi
        have f1:=zAA B8 e1 hzi
        have hz8:wr.heap.size<w8.heap.size:=lL hzi B8.size
        have HP8:Hid (MapAt w0 w8 g k gs.length g3 k3 c3 m3 r3):=HP7.out.keep B8
        clear B8 e0 e1 b0 HP7 HP3 HB7
        have b0:=zAA HP8.out.bel HA0.out.1 hz
        have b1:=zAA HP8.out.bel HA0.out.2 hz1
        have hrg:=zMQ xs a lb
        have Hnone:Hid (zB0 xs gs a (m3,r3) ⟨lb,q3⟩=none→R=(none,42)):=fun h=>HR3.out none (by rw[Hat.out,h];rfl)
        have Hsome:Hid (∀ s',zB0 xs gs a (m3,r3) ⟨lb,q3⟩=some s'→∀ r,zFv xs gs f (zAg xs gs a (es.drop (j+1)) s')=r→R=(match r with|none=>(none,42)|some m=>(some m,0))):=fun s' h r hr=>HR3.out r (by rw[Hat.out,h];exact hr)
        have Hme:Hid (zB0 xs gs a (m3,r3) ⟨lb,q3⟩=if 0≤lookI xs a lb∧zE6 xs gs (lookI xs a lb).toNat q3=true then
          (if m3[(lookI xs a lb).toNat]?=some (-1) then some (m3.set (lookI xs a lb).toNat q3,r3++[(lookI xs a lb).toNat]) else if m3[(lookI xs a lb).toNat]?=some (q3:Int) then some (m3,r3) else none) else none):=by
         unfold Hid zB0
         simp only[Int.toNat_natCast]
        clear HR3 Hat
        have HME:Hid (∀ s',zB0 xs gs a (m3,r3) ⟨lb,q3⟩=some s'→MInv k gs.length s'∧freeN s'.1+s'.2.length=freeN m3+r3.length):=fun s' h=>by
         obtain ⟨i1,i2,_⟩:=MInv.edge HP8.out.inv Hedge.out h
         exact ⟨i1,i2⟩
        generalize zB0 xs gs a (m3,r3) ⟨lb,q3⟩=ME at *
        generalize lookI xs a lb=L at *
        by_cases hL:L<0
        ·have hLd:decide (L<0)=true:=decide_eq_true hL
         have He:Hid (R=(none,42)):=Hnone.out (by rw[Hme.out,if_neg (by omega)])
         clear hrg
         have r_b0:=cR b0
         have r_b1:=cR b1
         have r_f0:=cR f0
         have r_f1:=cR f1
         go_wp2_with fail
         refine wQ ?_
         repeat (go_big_quiet_step (first|fail))
         refine wpQuiet_nil fun w9 B9=>?_
         go_wp2_with fail
         go_ret2
         refine ⟨⟨_,zDS He.out,?_⟩,bot HB0.out (bot HP8.out.bel B9)⟩
         rw[He.out];exact SlV.nil_ _ _ _
        have hLd:decide (L<0)=false:=decide_eq_false hL
        obtain ⟨q4,rfl⟩:∃ q4:Nat,L=(q4:Int):=⟨L.toNat,by omega⟩
        have hq4x:q4<xs.length:=by omega
        have hq4:q4<k:=by have:=Hnx.out;omega
        have hq40:(0:Int)≤(q4:Int):=by omega
        have hq4k:(q4:Int)<(k:Int):=by omega
        simp only[Int.toNat_natCast] at Hme
        have Hpi:Hid (zE6 xs gs q4 q3=(decide (xs[q4].pack.name=gs[q3].name)&&eqB xs[q4].pack.ver gs[q3].ver)):=zQi hq4x hq3
        have hq4m:q4<m3.length:=by have:=Hml.out;omega
        have Hm4:Hid (m3[q4]?=some m3[q4]):=gE hq4m
        obtain ⟨bx,ox,csx,hAe,hSx,hbx,hhx,hcellx⟩:=HX.out.elem (gE hq4x)
        obtain ⟨s0,s1,s2,s3,rfl,_,_,_,_,_,_,_,_,_⟩:=hhx
        obtain ⟨bg,og,csg,hBe,hSg,hbg,hhg,hcellg⟩:=HG.out.elem (gE hq3)
        obtain ⟨t0,t1,rfl,_,_,_,_,_,_⟩:=hhg
        subst hAe
        simp only[Option.some.injEq,Addr.mk.injEq] at hBe
        obtain ⟨rfl,rfl,_⟩:=hBe
        have hbx8:=bot HB0.out HP8.out.bel
        have x1:=zAA hbx8 (hcellx 1 _ rfl) hbx
        have x2:=zAA hbx8 (hcellx 2 _ rfl) hbx
        have x3:=zAA hbx8 (hcellx 3 _ rfl) hbx
        have x4:=zAA hbx8 (hcellx 4 _ rfl) hbx
        have y0:=zAA hbx8 (hcellg 0 _ rfl) hbg
        have y1:=zAA hbx8 (hcellg 1 _ rfl) hbg
        have y2:=zAA hbx8 (hcellg 2 _ rfl) hbg
        have y3:=zAA hbx8 (hcellg 3 _ rfl) hbg
        simp only[rDir,rNode,Nat.add_zero] at x1 x2 x3 x4 y0 y1 y2 y3
        clear hcellx hcellg hbx8
        have Hve:Hid (xs[q4].pack.ver=gs[q3].ver↔(xs[q4].pack.ver.major=gs[q3].ver.major∧xs[q4].pack.ver.minor=gs[q3].ver.minor∧xs[q4].pack.ver.patch=gs[q3].ver.patch)):=by
         unfold Hid
         constructor
         ·intro h;rw[h];exact ⟨rfl,rfl,rfl⟩
         ·rintro ⟨h1,h2,h3⟩
          cases hv1:xs[q4].pack.ver
          cases hv2:gs[q3].ver
          rw[hv1,hv2] at h1 h2 h3
          simp only at h1 h2 h3
          subst h1;subst h2;subst h3;rfl
        have hneq:=fun W=>zSq W xs[q4].pack.ver.major xs[q4].pack.ver.minor xs[q4].pack.ver.patch gs[q3].ver.major gs[q3].ver.minor gs[q3].ver.patch
        generalize xs[q4].pack.ver=v1 at *
        generalize gs[q3].ver=v2 at *
        generalize xs[q4].pack.name=p1 at *
        generalize gs[q3].name=p2 at *
        by_cases hnm:p1=p2
        case neg=>
         have hbn:=zBD hnm
         have He:Hid (R=(none,42)):=Hnone.out (by rw[Hme.out,Hpi.out,decide_eq_false hnm];simp)
         clear hnm hrg hneq
         have r_b0:=cR b0
         have r_b1:=cR b1
         have r_f0:=cR f0
         have r_f1:=cR f1
         have r_x1:=cR x1
         have r_y0:=cR y0
         go_wp2_with fail
         refine wQ ?_
         repeat (go_big_quiet_step (first|fail))
         refine wpQuiet_nil fun w9 B9=>?_
         go_wp2_with fail
         go_ret2
         refine ⟨⟨_,zDS He.out,?_⟩,bot HB0.out (bot HP8.out.bel B9)⟩
         rw[He.out];exact SlV.nil_ _ _ _
        have hbn:=zBe hnm
        by_cases hvr:v1=v2
        case neg=>
         have hvf:decide (v1.major=v2.major∧v1.minor=v2.minor∧v1.patch=v2.patch)=false:=decide_eq_false fun h=>hvr (Hve.out.2 h)
         have He:Hid (R=(none,42)):=Hnone.out (by rw[Hme.out,Hpi.out,zAD hvr];simp)
         rw[hvf] at hneq
         clear hnm hrg hvr hvf
         generalize v1.major=z1 at *
         generalize v1.minor=z2 at *
         generalize v1.patch=z3 at *
         generalize v2.major=z4 at *
         generalize v2.minor=z5 at *
         generalize v2.patch=z6 at *
         have r_b0:=cR b0
         have r_b1:=cR b1
         have r_f0:=cR f0
         have r_f1:=cR f1
         have r_x1:=cR x1
         have r_x2:=cR x2
         have r_x3:=cR x3
         have r_x4:=cR x4
         have r_y0:=cR y0
         have r_y1:=cR y1
         have r_y2:=cR y2
         have r_y3:=cR y3
         go_wp2_with fail
         refine wQ ?_
         repeat (go_big_quiet_step (first|fail))
         refine wpQuiet_nil fun w9 B9=>?_
         go_wp2_with fail
         go_ret2
         refine ⟨⟨_,zDS He.out,?_⟩,bot HB0.out (bot HP8.out.bel B9)⟩
         rw[He.out];exact SlV.nil_ _ _ _
        have hvf:decide (v1.major=v2.major∧v1.minor=v2.minor∧v1.patch=v2.patch)=true:=decide_eq_true (Hve.out.1 hvr)
        have hpi:zE6 xs gs q4 q3=true:=by rw[Hpi.out,decide_eq_true hnm,zAF hvr];rfl
        have Hme2:Hid (ME=if m3[q4]?=some (-1) then some (m3.set q4 q3,r3++[q4]) else if m3[q4]?=some (q3:Int) then some (m3,r3) else none):=by
         unfold Hid;rw[Hme.out,if_pos ⟨by omega,hpi⟩]
        rw[hvf] at hneq
        clear hnm hrg hvr hvf Hme Hpi hpi Hve
        generalize v1.major=z1 at *
        generalize v1.minor=z2 at *
        generalize v1.patch=z3 at *
        generalize v2.major=z4 at *
        generalize v2.minor=z5 at *
        generalize v2.patch=z6 at *
        have r_b0:=cR b0
        have r_b1:=cR b1
        have r_f0:=cR f0
        have r_f1:=cR f1
        have r_x1:=cR x1
        have r_x2:=cR x2
        have r_x3:=cR x3
        have r_x4:=cR x4
        have r_y0:=cR y0
        have r_y1:=cR y1
        have r_y2:=cR y2
        have r_y3:=cR y3
        go_wp2_with fail
        refine wQ ?_
        repeat (go_big_quiet_step (first|fail))
        refine wpQuiet_nil fun w9 B9=>?_
        have h1:=zAA B9 f1 hz8
        have HP9:Hid (MapAt w0 w9 g k gs.length g3 k3 c3 m3 r3):=HP8.out.keep B9
        have hw9s:=HP9.out.bel.size
        clear HP8 B9 b0 b1 f0 f1 x1 x2 x3 x4 y0 y1 y2 y3 r_b0 r_b1 r_f0 r_f1 r_x1 r_x2 r_x3 r_x4 r_y0 r_y1 r_y2 r_y3 hneq hbn
        have hc4:=HP9.out.m_.at_ q4 _ Hm4.out
        have hfz:=HP9.out.m_.frozen (j:=q4) hq4
        rw[Nat.zero_add] at hc4 hfz
        rw[Hm4.out] at Hme2
        clear Hm4
        generalize m3[q4]=xv at *
        by_cases hv1:xv=-1
        ·subst hv1
         have Hme3:Hid (ME=some (m3.set q4 q3,r3++[q4])):=by unfold Hid;rw[Hme2.out,if_pos rfl]
         have HR5:Hid (∀ r,zFv xs gs f (zAg xs gs a (es.drop (j+1)) (m3.set q4 q3,r3++[q4]))=r→R=(match r with|none=>(none,42)|some m=>(some m,0))):=fun r hr=>Hsome.out _ Hme3.out r hr
         have Hiv:=cH (HME.out _ Hme3.out)
         have HF5:Hid (freeN (m3.set q4 q3)+(r3++[q4]).length<f):=by have h5:freeN (m3.set q4 q3)+(r3++[q4]).length=freeN m3+r3.length:=Hiv.out.2;have:=HF3.out;unfold Hid;omega
         have HS:=cH (HP9.out.m_.set (j:=q4) hq4m (q3:Int))
         rw[Nat.zero_add] at HS
         have HQ:Hid (IRow (w9.setCell ⟨g,q4,none⟩ (.int .i64 q3)) w0.heap.size g3 k3 c3 (castN r3)):=HP9.out.r_.grown HS.out.2 (fun e=>HP9.out.ne (Option.some.inj e))
         have hglt:=HP9.out.m_.lt
         have hr3:(castN r3).length=r3.length:=by simp[castN]
         have hr3k:r3.length≤257:=by have:=HF3.out;have:=Hfk.out;omega
         have Hr3:=cH hr3;clear hr3
         go_wp2_with (at_builtin;refine zLG (by rfl) _ _ _ 3 (by rfl) zSU Tryz.underlying75 r3.length Hr3.out.symm (by rfl) (HQ.out.alloc _) ⟨w9.heap.size,0,none⟩ 1 (q4:Int) (by rfl) (zPH _ _ _ _ (by simp)) (by rw[Hr3.out];unfold maxLen;omega) (by rw[Hr3.out];omega) (by simp;omega) (w9.heap.size+1) (by simp) ?_)
         intro g5 k5 c5 w10 hrow hgrow hat
         have HPn:Hid (MapAt w0 w10 g k gs.length g5 k5 c5 (m3.set q4 q3) (r3++[q4])):=by
          refine ⟨(HS.out.1.alloc _).grown hgrow (fun e=>HP9.out.ne (Option.some.inj e).symm),?_,?_,Hiv.out.1,?_⟩
          ·rw[show castN (r3++[q4])=castN r3++[(q4:Int)] by simp[castN]];exact hrow
          ·rcases hat with h|h
           ·rw[h];exact HP9.out.ne
           ·omega
          ·exact (bal (zDm HP9.out.bel HP9.out.m_.lo _) _).grown hgrow (by simp;omega) (fun b hb=>by rw[←Option.some.inj hb];exact HQ.out.lo)
         clear hrow hgrow hat HS HQ Hiv
         go_wp2_with fail
         go_roundw
         case rel=>exact ⟨j+1,g5,k5,c5,_,_,by omega,by go_num,by simp,HPn,HF5,HR5⟩
         case measure=>simp[intOf];omega
        have hv1b:(xv==-1)=false:=by simpa using hv1
        by_cases hv2:xv=(q3:Int)
        ·have hv2b:(xv==(q3:Int))=true:=by simpa using hv2
         have Hme3:Hid (ME=some (m3,r3)):=by unfold Hid;rw[Hme2.out,if_neg (by simpa using hv1),if_pos (by rw[hv2])]
         have HR5:Hid (∀ r,zFv xs gs f (zAg xs gs a (es.drop (j+1)) (m3,r3))=r→R=(match r with|none=>(none,42)|some m=>(some m,0))):=fun r hr=>Hsome.out _ Hme3.out r hr
         clear hv1 hv2
         go_wp2_with fail
         go_roundw
         case rel=>exact ⟨j+1,g3,k3,c3,m3,r3,by omega,by go_num,rfl,HP9,HF3,HR5⟩
         case measure=>simp[intOf];omega
        ·have hv2b:(xv==(q3:Int))=false:=by simpa using hv2
         have He:Hid (R=(none,42)):=Hnone.out (by rw[Hme2.out,if_neg (by simpa using hv1),if_neg (by simpa using hv2)])
         clear hv1 hv2
         go_wp2_with fail
         go_ret2
         refine ⟨⟨_,zDS He.out,?_⟩,bot HB0.out HP9.out.bel⟩
         rw[He.out];exact SlV.nil_ _ _ _
theorem ProjV.keep {w w':World} {S:Nat→Prop} {x:Proj} {v:Value} (h:ProjV w S x v) (hb:Below w.heap.size w w'):ProjV w' S x v:=by
 obtain ⟨A0,n0,c0,A1,n1,c1,A2,n2,c2,A3,n3,c3,A4,n4,c4,A5,n5,c5,e,h0,h1,h2,h3,h4,h5⟩:=h
 exact ⟨A0,n0,c0,A1,n1,c1,A2,n2,c2,A3,n3,c3,A4,n4,c4,A5,n5,c5,e,h0.belowSize hb,h1.belowSize hb,h2.belowSize hb,h3.belowSize hb,h4.belowSize hb,h5.belowSize hb⟩
def ProjZ (s:Proj):Prop:=zMl s.nodes∧s.dirs.length≤1048576∧∀ d∈s.dirs,d.path.length * 32≤140737488355328
theorem zIy {w:World} {S:Nat→Prop} {l:List Dir} {A:Option Addr} {n c k:Nat} {d:Dir} (hl:SlV rDir w S l (.slice A n c)) (hd:l[k]?=some d) :
  ∃ b o pA pc B1 b1 B2 b2 B3 b3,A=some ⟨b,o,none⟩∧b<w.heap.size∧SlV rStr w S d.path (.slice pA d.path.length pc) ∧
    PackV w S d.pack (.agg #[.string d.pack.name,.int .i64 d.pack.ver.major,.int .i64 d.pack.ver.minor,.int .i64 d.pack.ver.patch,.slice B1 d.pack.deps.length b1,.slice B2 d.pack.peers.length b2,.slice B3 d.pack.opts.length b3])∧I64 d.node ∧
    w.cell? ⟨b,o+k * 9,none⟩=some (.slice pA d.path.length pc)∧w.cell? ⟨b,o+k * 9+1,none⟩=some (.string d.pack.name)∧w.cell? ⟨b,o+k * 9+2,none⟩=some (.int .i64 d.pack.ver.major)∧w.cell? ⟨b,o+k * 9+3,none⟩=some (.int .i64 d.pack.ver.minor)∧w.cell? ⟨b,o+k * 9+4,none⟩=some (.int .i64 d.pack.ver.patch) ∧
    w.cell? ⟨b,o+k * 9+5,none⟩=some (.slice B1 d.pack.deps.length b1)∧w.cell? ⟨b,o+k * 9+6,none⟩=some (.slice B2 d.pack.peers.length b2)∧w.cell? ⟨b,o+k * 9+7,none⟩=some (.slice B3 d.pack.opts.length b3)∧w.cell? ⟨b,o+k * 9+8,none⟩=some (.int .i64 d.node):=by
 obtain ⟨b,o,cs,hA,_,hb,hh,hcell⟩:=hl.elem hd
 obtain ⟨s0,s1,s2,s3,hcs,hp0,hnm,_,_,_,hp1,hp2,hp3,hnd⟩:=hh
 obtain ⟨pA,pc,rfl,_,_⟩:=hp0.val
 obtain ⟨B1,b1,rfl,_,_⟩:=hp1.val
 obtain ⟨B2,b2,rfl,_,_⟩:=hp2.val
 obtain ⟨B3,b3,rfl,_,_⟩:=hp3.val
 have c0:=hcell 0 _ (by rw[hcs];rfl)
 have c1:=hcell 1 _ (by rw[hcs];rfl)
 have c2:=hcell 2 _ (by rw[hcs];rfl)
 have c3:=hcell 3 _ (by rw[hcs];rfl)
 have c4:=hcell 4 _ (by rw[hcs];rfl)
 have c5:=hcell 5 _ (by rw[hcs];rfl)
 have c6:=hcell 6 _ (by rw[hcs];rfl)
 have c7:=hcell 7 _ (by rw[hcs];rfl)
 have c8:=hcell 8 _ (by rw[hcs];rfl)
 simp only[rDir,Nat.add_zero] at c0 c1 c2 c3 c4 c5 c6 c7 c8
 exact ⟨b,o,pA,pc,B1,b1,B2,b2,B3,b3,hA,hb,hp0,⟨_,_,_,_,_,_,_,_,_,rfl,hnm,hp1,hp2,hp3⟩,hnd,c0,c1,c2,c3,c4,c5,c6,c7,c8⟩
theorem zNb (s:Proj) (v:Value) (w:World) (S:Nat→Prop) (ht:Tab w) (hz:ProjZ s) (hv:ProjV w S s v) :
  Calls Tryz.prog 23 #[v] w fun e w'=>e=.returned (.bool (zCY s))∧Below w.heap.size w w':=by
 obtain ⟨A0,n0,c0,A1,n1,c1,A2,n2,c2,A3,n3,c3,A4,n4,c4,A5,n5,c5,rfl,h0,h1,h2,h3,h4,h5⟩:=hv
 obtain ⟨hz1,hz2,hz3⟩:=hz
 have hn5:=h5.n_eq
 have hc5:=h5.cap_le
 unfold maxLen at hc5
 have HMp:Hid (∀ W,Below w.heap.size w W→Calls Tryz.prog 41 #[.agg #[.slice A5 n5 c5],.agg #[.slice A4 n4 c4]] W fun e w'=>(∃ v,e=.returned (.tuple #[v,.int .i64 (mapR s.dirs s.nodes).2])∧SlV rInt w' (fun b=>W.heap.size≤b) ((mapR s.dirs s.nodes).1.getD []) v)∧Below W.heap.size W w'):=fun W hW=>zPI A5 A4 n5 c5 n4 c4 s.dirs s.nodes W S S (zAG ht hW) hz3 (h5.belowSize hW) (h4.belowSize hW)
 have HR:Hid (zCY s=(decide ((mapR s.dirs s.nodes).2=0)&&zBT s.dirs ((mapR s.dirs s.nodes).1.getD []) 0 (s.dirs.drop 0))):=rfl
 have HOk:Hid ((mapR s.dirs s.nodes).2=0→((mapR s.dirs s.nodes).1.getD []).length=s.dirs.length):=fun h=>by obtain ⟨_,_,m,e,hm⟩:=zFp h;rw[e];exact hm
 have HD:=cH h5
 have Hn:=cH hn5
 have Hlen:=cH hz3
 have hnz:n5≤1048576:=by omega
 clear h0 h1 h2 h3 h4 h5 hz1 hz2 hz3 hn5 ht
 generalize zCY s=R at *
 generalize s.dirs=ds at *
 generalize mapR ds s.nodes=mp at *
 generalize s.pruned=pr at *
 obtain ⟨mm,me⟩:=mp
 obtain ⟨w0,hw0⟩:∃ w0,w0=w.alloc (.cells #[.slice A0 n0 c0,.slice A1 n1 c1,.slice A2 n2 c2,.slice A3 n3 c3,.slice A4 n4 c4,.slice A5 n5 c5,.bool pr] 32):=⟨_,rfl⟩
 have HB0:Hid (Below w.heap.size w w0):=by unfold Hid;rw[hw0];exact bal (bR _ _) _
 have HQ0:Hid (w0.heap[w.heap.size]?=some (.cells #[.slice A0 n0 c0,.slice A1 n1 c1,.slice A2 n2 c2,.slice A3 n3 c3,.slice A4 n4 c4,.slice A5 n5 c5,.bool pr] 32 (0,0))):=by unfold Hid;rw[hw0];exact zAT _ _
 have hq0:w.heap.size<w0.heap.size:=(aS.1 HQ0.out).1
 go_enter Tryz.func23,Tryz.ntmps23
 go_wp2_with fail
 rw[←hw0]
 refine (HMp.out w0 HB0.out).mono ?_
 rintro e w1 ⟨⟨mv,rfl,hmv⟩,hb1⟩
 have HB1:=cH hb1
 have HMV:=cH (hmv.more (S':=fun b=>b<w1.heap.size) fun b _ h=>h)
 obtain ⟨mA,mc,rfl,hml,hmm⟩:=hmv.val
 unfold maxLen at hmm
 clear hw0 hb1 hmv HMp
 by_cases hme:me=0
 case neg=>
  have hmb:(me != 0)=true:=by simpa using hme
  have Hr:Hid (R=false):=by unfold Hid;rw[HR.out,decide_eq_false hme];rfl
  clear HR HOk
  go_wp2_with fail
  go_ret
  exact ⟨zA1 Hr.out.symm,bot HB0.out HB1.out⟩
 have hlen0:=HOk.out hme
 have hmb:(me != 0)=false:=by simpa using hme
 have HR2:Hid (R=zBT ds (mm.getD []) 0 (ds.drop 0)):=by unfold Hid;rw[HR.out,decide_eq_true hme];rfl
 subst hme
 clear HR HOk
 generalize mm.getD []=ml at *
 have hmn:ml.length=n5:=by rw[hlen0,←Hn.out]
 rw[hmn] at HMV hml ⊢
 have Hmn:=cH hmn
 clear hlen0 hmn
 have p5:w1.cell? ⟨w.heap.size,5,none⟩=some (.slice A5 n5 c5):=zAA HB1.out (cO _ _ 5 _ _ _ HQ0.out) hq0
 go_wp2_with fail
 clear p5
 go_loopw [21] (fun i wr=>∃ k:Nat,k≤n5∧i=.int .i64 k∧Hid (R=zBT ds ml k (ds.drop k))∧Hid (Below w1.heap.size w1 wr)) (fun i _=>n5 - (intOf i).toNat)
 case atStart=>exact ⟨0,nZ _,rfl,HR2,bR _ _⟩
 case round=>
  clear HR2
  obtain ⟨k,hk,rfl,HR,HB⟩:=hrel
  have hk0:(0:Int)≤(k:Int):=by omega
  have HBw:=cH (bot HB0.out (bot HB1.out HB.out))
  by_cases hlt:k<n5
  case neg=>
   obtain rfl:n5=k:=by omega
   have hI:¬(n5:Int)<(n5:Int):=by omega
   have Hr:Hid (R=true):=by unfold Hid;rw[HR.out,zJc (by rw[←Hn.out];exact nR _)]
   clear HR
   go_wp2_with fail
   go_ret
   exact ⟨zA1 Hr.out.symm,HBw.out⟩
  have hkI:(k:Int)<(n5:Int):=by omega
  have hkl:k<ds.length:=by rw[←Hn.out];exact hlt
  obtain ⟨d,hd⟩:∃ d,ds[k]?=some d:=⟨_,gE hkl⟩
  have h3:=HR.out
  rw[zJl hd] at h3
  have HR3:=cH h3
  obtain ⟨m,hm⟩:∃ m,ml[k]?=some m:=⟨_,gE (by rw[Hmn.out];exact hlt)⟩
  have hmd:ml.getD k 0=m:=by rw[List.getD_eq_getElem?_getD,hm];rfl
  obtain ⟨mb,mo,mcs,hmA,_,_,⟨hmcs,_⟩,hmcell⟩:=(HMV.out.belowSize HB.out).elem hm
  have m0:=hmcell 0 _ (by rw[hmcs];rfl)
  simp only[rInt,Nat.add_zero,Nat.mul_one] at m0
  subst hmA
  obtain ⟨b,o,pA,pc,B1,b1,B2,b2,B3,b3,rfl,hb,hp,hpk,hnd,d0,d1,d2,d3,d4,d5,d6,d7,d8⟩:=zIy HD.out hd
  have d0:=zAA HBw.out d0 hb
  have d1:=zAA HBw.out d1 hb
  have d2:=zAA HBw.out d2 hb
  have d3:=zAA HBw.out d3 hb
  have d4:=zAA HBw.out d4 hb
  have d5:=zAA HBw.out d5 hb
  have d6:=zAA HBw.out d6 hb
  have d7:=zAA HBw.out d7 hb
  have d8:=zAA HBw.out d8 hb
  have HT2:Hid (∀ W,Below w.heap.size w W→Calls Tryz.prog 18 #[.slice pA d.path.length pc] W fun e w'=>e=.returned (.string (textB d.path))∧Below W.heap.size W w'):=fun W hW=>
   zBd pA _ pc d.path W (fun b=>b<W.heap.size) (fun _ h=>h) (Hlen.out d (mG hd)) ((hp.belowSize hW).more fun _ _ h=>h)
  have Hat:Hid (zEN ds ml k d=(decide (m=d.node)&&(decide (k=0)||lessB (textB (ds.getD (k - 1) d).path) (textB d.path)))):=by unfold Hid zEN;rw[hmd]
  have p5:wr.cell? ⟨w.heap.size,5,none⟩=some (.slice (some ⟨b,o,none⟩) n5 c5):=zAA (bot HB1.out HB.out) (cO _ _ 5 _ _ _ HQ0.out) hq0
  have hdd:=hd
  clear hmcell hmcs hm h3 HR hp hpk hnd hmd
  generalize d.pack.deps.length=g1 at *
  generalize d.pack.peers.length=g2 at *
  generalize d.pack.opts.length=g3 at *
  generalize d.pack.name=nm at *
  generalize d.pack.ver.major=v1 at *
  generalize d.pack.ver.minor=v2 at *
  generalize d.pack.ver.patch=v3 at *
  generalize d.node=dn at *
  go_upto_region 7 with (fail)
  obtain ⟨w4,hw4⟩:∃ w4,w4=wr.alloc (.cells #[.slice pA d.path.length pc,.string nm,.int .i64 v1,.int .i64 v2,.int .i64 v3,.slice B1 g1 b1,.slice B2 g2 b2,.slice B3 g3 b3,.int .i64 dn] 59):=⟨_,rfl⟩
  have hq4:w4.heap[wr.heap.size]?=some (.cells #[.slice pA d.path.length pc,.string nm,.int .i64 v1,.int .i64 v2,.int .i64 v3,.slice B1 g1 b1,.slice B2 g2 b2,.slice B3 g3 b3,.int .i64 dn] 59 (0,0)):=by rw[hw4];exact zAT _ _
  have hb4:Below wr.heap.size wr w4:=by rw[hw4];exact bal (bR _ _) _
  rw[←hw4]
  have x0:w4.cell? ⟨wr.heap.size,0,none⟩=some (.slice pA d.path.length pc):=cO _ _ 0 _ _ _ hq4
  have x8:w4.cell? ⟨wr.heap.size,8,none⟩=some (.int .i64 dn):=cO _ _ 8 _ _ _ hq4
  have y5:=zAA hb4 p5 (zAE p5)
  have z0:=zAA hb4 m0 (zAE m0)
  have HB4:=cH (bot HB.out hb4)
  have HBw4:=cH (bot HBw.out hb4)
  have Hc2:=cH (qcall (w:=w4) (fun W hW=>HT2.out W (bot HBw4.out hW)))
  generalize textB d.path=tx at *
  clear hw4 hq4 hb4 d0 d1 d2 d3 d4 d5 d6 d7 d8 p5 m0 HT2 HB
  by_cases hmn:m=dn
  case neg=>
   have hmb:(m != dn)=true:=by simpa using hmn
   have Hr:Hid (R=false):=by unfold Hid;rw[HR3.out,Hat.out,decide_eq_false hmn];rfl
   clear HR3 Hat hmn hdd
   have r_x0:=cR x0
   have r_x8:=cR x8
   have r_y5:=cR y5
   have r_z0:=cR z0
   go_wp2_with fail
   refine wQ ?_
   repeat (go_big_quiet_step (first|(with_reducible exact Hc2.out _ _)))
   refine wpQuiet_nil fun w7 B7=>?_
   have HB7:=cH (bot HBw4.out B7)
   clear B7
   go_wp2_with fail
   go_ret
   exact ⟨zA1 Hr.out.symm,HB7.out⟩
  have hmb:(m != dn)=false:=by simpa using hmn
  rw[decide_eq_true hmn,Bool.true_and] at Hat
  clear hmn
  by_cases hk00:k=0
  ·have hkz:decide (0<k)=false:=by simp[hk00]
   have Hnx:Hid (R=zBT ds ml (k+1) (ds.drop (k+1))):=by unfold Hid;rw[HR3.out,Hat.out,decide_eq_true hk00];rfl
   clear HR3 Hat hdd hk00
   have r_x0:=cR x0
   have r_x8:=cR x8
   have r_y5:=cR y5
   have r_z0:=cR z0
   go_wp2_with fail
   refine wQ ?_
   repeat (go_big_quiet_step (first|(with_reducible exact Hc2.out _ _)))
   refine wpQuiet_nil fun w7 B7=>?_
   have HB7:=cH (bot HB4.out B7)
   clear B7
   go_wp2_with fail
   go_roundw
   case rel=>exact ⟨k+1,by omega,by go_num,Hnx,HB7⟩
   case measure=>simp[intOf];omega
  ·obtain ⟨q,rfl⟩:∃ q,k=q+1:=⟨k - 1,by omega⟩
   obtain ⟨e,he⟩:∃ e,ds[q]?=some e:=⟨_,gE (by omega)⟩
   have hpe:ds.getD (q+1 - 1) d=e:=by rw[Nat.add_sub_cancel,List.getD_eq_getElem?_getD,he];rfl
   obtain ⟨b',o',rA,rc,_,_,_,_,_,_,hAe,hb',hp',_,_,e0,_⟩:=zIy HD.out he
   injection hAe with hAe
   injection hAe with hbe hoe _
   subst hbe hoe
   have e0:=zAA HBw4.out e0 hb'
   have HT1:Hid (∀ W,Below w.heap.size w W→Calls Tryz.prog 18 #[.slice rA e.path.length rc] W fun e' w'=>e'=.returned (.string (textB e.path))∧Below W.heap.size W w'):=fun W hW=>
    zBd rA _ rc e.path W (fun b=>b<W.heap.size) (fun _ h=>h) (Hlen.out e (mG he)) ((hp'.belowSize hW).more fun _ _ h=>h)
   have Hc1:=cH (qcall (w:=w4) (fun W hW=>HT1.out W (bot HBw4.out hW)))
   rw[hpe,decide_eq_false hk00,Bool.false_or] at Hat
   have hw1:IntKind.i64.wrap ((q:Int)+1 - 1)=(q:Int):=(IntWalk.i64_in _ ⟨by omega,by omega⟩).trans (by omega)
   have hw2:IntKind.i64.wrap (q:Int)=(q:Int):=IntWalk.i64_in _ ⟨by omega,by omega⟩
   have hq0':(0:Int)≤(q:Int):=by omega
   have hqn:(q:Int)<(n5:Int):=by omega
   have hq1:(0:Int)<(q:Int)+1:=by omega
   have hq2:(q:Int)+1<(n5:Int):=by omega
   have hq3:(0:Int)≤(q:Int)+1:=by omega
   clear hk00 he hpe hp' hdd HT1
   generalize textB e.path=ty at *
   have Hls:Hid (lessB ty tx=Op.bytesLess ty.toList tx.toList):=rfl
   cases hls:Op.bytesLess ty.toList tx.toList with
   | true=>
     have Hnx:Hid (R=zBT ds ml (q+1+1) (ds.drop (q+1+1))):=by unfold Hid;rw[HR3.out,Hat.out,Hls.out,hls];rfl
     clear HR3 Hat Hls
     have r_x0:=cR x0
     have r_x8:=cR x8
     have r_y5:=cR y5
     have r_z0:=cR z0
     have r_e0:=cR e0
     go_wp2_with fail
     refine wQ ?_
     repeat (go_big_quiet_step (first|(with_reducible exact Hc1.out _ _)|(with_reducible exact Hc2.out _ _)))
     refine wpQuiet_nil fun w7 B7=>?_
     have HB7:=cH (bot HB4.out B7)
     clear B7
     go_wp2_with fail
     go_roundw
     case rel=>exact ⟨q+1+1,by omega,by go_num,Hnx,HB7⟩
     case measure=>simp[intOf];omega
   | false=>
     have Hr:Hid (R=false):=by unfold Hid;rw[HR3.out,Hat.out,Hls.out,hls];rfl
     clear HR3 Hat Hls
     have r_x0:=cR x0
     have r_x8:=cR x8
     have r_y5:=cR y5
     have r_z0:=cR z0
     have r_e0:=cR e0
     go_wp2_with fail
     refine wQ ?_
     repeat (go_big_quiet_step (first|(with_reducible exact Hc1.out _ _)|(with_reducible exact Hc2.out _ _)))
     refine wpQuiet_nil fun w7 B7=>?_
     have HB7:=cH (bot HBw4.out B7)
     clear B7
     go_wp2_with fail
     go_ret
     exact ⟨zA1 Hr.out.symm,HB7.out⟩
theorem zPi (s:Proj) (v:Value) (w:World) (S:Nat→Prop) (hv:ProjV w S s v) :
  Calls Tryz.prog 24 #[v] w fun e w'=>e=.returned (.bool (zBn s))∧Below w.heap.size w w':=by
 obtain ⟨A0,n0,c0,A1,n1,c1,A2,n2,c2,A3,n3,c3,A4,n4,c4,A5,n5,c5,rfl,h0,h1,h2,h3,h4,h5⟩:=hv
 have hn4:=h4.n_eq
 have hn5:=h5.n_eq
 have HS:Hid (∀ W,Below w.heap.size w W→Calls Tryz.prog 72 #[.agg #[.slice A0 n0 c0,.slice A1 n1 c1,.slice A2 n2 c2,.slice A3 n3 c3],.agg #[.slice none 0 0,.slice none 0 0,.slice none 0 0,.slice none 0 0]] W fun e w'=>e=.returned (.bool (eqB s.man man0))∧Below W.heap.size W w'):=fun W hW=>
  zKz s.man man0 _ _ W S S ⟨_,_,_,_,_,_,_,_,_,_,_,_,rfl,h0.belowSize hW,h1.belowSize hW,h2.belowSize hW,h3.belowSize hW⟩ ⟨_,_,_,_,_,_,_,_,_,_,_,_,rfl,SlV.nil_ _ _ _,SlV.nil_ _ _ _,SlV.nil_ _ _ _,SlV.nil_ _ _ _⟩
 have HR:Hid (zBn s=(eqB s.man man0&&(decide (n4=1)&&(decide (n5=1)&&!s.pruned)))):=by unfold Hid zBn;rw[hn4,hn5]
 clear h0 h1 h2 h3 h4 h5 hn4 hn5
 generalize zBn s=R at *
 generalize eqB s.man man0=q at *
 generalize s.pruned=pr at *
 obtain ⟨w0,hw0⟩:∃ w0,w0=w.alloc (.cells #[.slice A0 n0 c0,.slice A1 n1 c1,.slice A2 n2 c2,.slice A3 n3 c3,.slice A4 n4 c4,.slice A5 n5 c5,.bool pr] 32):=⟨_,rfl⟩
 have HB0:Hid (Below w.heap.size w w0):=by unfold Hid;rw[hw0];exact bal (bR _ _) _
 have HQ0:Hid (w0.heap[w.heap.size]?=some (.cells #[.slice A0 n0 c0,.slice A1 n1 c1,.slice A2 n2 c2,.slice A3 n3 c3,.slice A4 n4 c4,.slice A5 n5 c5,.bool pr] 32 (0,0))):=by unfold Hid;rw[hw0];exact zAT _ _
 have hq0:w.heap.size<w0.heap.size:=(aS.1 HQ0.out).1
 go_enter Tryz.func24,Tryz.ntmps24
 go_wp2_with fail
 rw[←hw0]
 refine (HS.out w0 HB0.out).mono ?_
 rintro e w1 ⟨rfl,hb1⟩
 have HB1:=cH (bot HB0.out hb1)
 have HQ1:=cH ((hb1.block _ hq0).trans HQ0.out)
 have x4:w1.cell? ⟨w.heap.size,4,none⟩=some (.slice A4 n4 c4):=cO _ _ 4 _ _ _ HQ1.out
 have x5:w1.cell? ⟨w.heap.size,5,none⟩=some (.slice A5 n5 c5):=cO _ _ 5 _ _ _ HQ1.out
 have x6:w1.cell? ⟨w.heap.size,6,none⟩=some (.bool pr):=cO _ _ 6 _ _ _ HQ1.out
 clear hw0 hb1 HS
 cases q with
 | false=>
   have Hr:Hid (R=false):=HR.out
   go_wp2_with fail
   go_ret
   exact ⟨zA1 Hr.out.symm,HB1.out⟩
 | true=>
 by_cases e4:n4=1
 case neg=>
  have e4b:((n4:Int)==1)=false:=by simp;omega
  have Hr:Hid (R=false):=by unfold Hid;rw[HR.out,decide_eq_false e4];rfl
  go_wp2_with fail
  go_ret
  exact ⟨zA1 Hr.out.symm,HB1.out⟩
 have e4b:((n4:Int)==1)=true:=by simp;omega
 by_cases e5:n5=1
 case neg=>
  have e5b:((n5:Int)==1)=false:=by simp;omega
  have Hr:Hid (R=false):=by unfold Hid;rw[HR.out,decide_eq_false e5];simp
  clear e4
  go_wp2_with fail
  go_ret
  exact ⟨zA1 Hr.out.symm,HB1.out⟩
 have e5b:((n5:Int)==1)=true:=by simp;omega
 have Hr:Hid (R=!pr):=by unfold Hid;rw[HR.out,decide_eq_true e4,decide_eq_true e5];rfl
 clear e4 e5
 go_wp2_with fail
 go_ret
 exact ⟨zA1 Hr.out.symm,HB1.out⟩
theorem zLq (t:ByteArray) (w:World) (ht:t.size≤1000):Calls Tryz.prog 26 #[.string ⟨#[47]⟩,.string t] w fun e w'=>e=.returned (.string (⟨#[47]⟩++t))∧w=w':=by
 have Z:∀ W:World,(Op.stringOp .add ⟨#[47]⟩ t).run Tryz.prog W=.ok (.string (⟨#[47]⟩++t)) W:=fun W=>run_string_add_sum W _ _ (by have:(⟨#[47]⟩:ByteArray).size=1:=rfl;omega)
 have hb:(([47]:List UInt8)==[47])=true:=by decide
 go_enter Tryz.func26,Tryz.ntmps26
 go_wp2_with fail
 go_ret
 exact ⟨rfl,rfl⟩
theorem zHB (h t:ByteArray) (w:World) (hh:h.size≤1000000) (ht:t.size≤1000) (hne:(h.toList==[47])=false):Calls Tryz.prog 26 #[.string h,.string t] w fun e w'=>e=.returned (.string (h++⟨#[47]⟩++t))∧w=w':=by
 have Z:∀ W:World,(Op.stringOp .add h ⟨#[47]⟩).run Tryz.prog W=.ok (.string (h++⟨#[47]⟩)) W:=fun W=>run_string_add_sum W _ _ (by have:(⟨#[47]⟩:ByteArray).size=1:=rfl;omega)
 have Z2:∀ W:World,(Op.stringOp .add (h++⟨#[47]⟩) t).run Tryz.prog W=.ok (.string (h++⟨#[47]⟩++t)) W:=fun W=>run_string_add_sum W _ _ (by have:(⟨#[47]⟩:ByteArray).size=1:=rfl;rw[ByteArray.size_append];omega)
 go_enter Tryz.func26,Tryz.ntmps26
 go_wp2_with fail
 go_ret
 exact ⟨rfl,rfl⟩
end Go.Proofs.YthbnmehbhpakaaaGreatDoor
set_option maxRecDepth 100000
namespace Go.Proofs.YthbnmehbhpakaaaGreatDoor
open Go.ChangeShapes Go.WideShapes Go.ChangeAt Go.RowKit
def zFw:List (String×DataW Unit)→List Obj
 | []=>[]
 | (_,.iface _ (.ptr (.agg [.lit (.string t)])))::r=>.cells #[.string ⟨t.toArray⟩] 347::zFw r
 | _::r=>zFw r
def zLZ (P:Program):Nat→List (String×DataW Unit)→Array Obj→Array Obj
 | _,[],h=>h
 | k,(n,.iface _ (.ptr _))::r,h=>zLZ P (k+1) r (match P.globalNamed n with
   | some g=>h.modify g fun
     | .cells _ t fr=>.cells #[.iface 345 (.pointer (some ⟨k,0,none⟩))] t fr
     | o=>o
   | none=>h)
 | k,(n,d)::r,h=>zLZ P k r (match P.globalNamed n with
   | some g=>h.modify g fun
     | .cells _ t fr=>.cells (flat3 d).toArray t fr
     | o=>o
   | none=>h)
noncomputable def zFy (P:Program) (l:List (String×DataW Unit)) (os:Os):World:=
 let w0:=World.holding P os ⟨(zFw l).toArray,#[],[]⟩
 { w0 with heap:=zLZ P (World.holding P os ⟨#[],#[],[]⟩).heap.size l w0.heap}
theorem zPd {n:String} {text:List UInt8} {r:List (String×DataW Unit)} {W:World} {g:Nat} {ti ts:TypeId} {ms:Array (String×TypeId)} {f:Field}
  (h:laidMet Tryz.prog ((n,.iface "*errors.errorString" (.ptr (.agg [.lit (.string text)])))::r) W)
  (hg:Tryz.prog.globalNamed n=some g) (ht:(Tryz.prog.globals[g]?).map (·.type)=some ti) (hi:Tryz.prog.underlying ti=some (.interface ms)) (hrow:∀ u,Tryz.prog.typeName? 3 u=some "*errors.errorString"→u=345)
  (hp:Tryz.prog.underlying 345=some (.pointer 347)) (he:Tryz.prog.underlying 347=some (.struct #[f])) (hft:f.type=ts) (hfo:f.offset=0) (hs:Tryz.prog.underlying ts=some .string) (hc:Tryz.prog.cellsOf 347=1) (hcs:Tryz.prog.cellsOf ts=1) :
  ∃ te pe,W.cell? ⟨g,0,none⟩=some (.iface te pe):=by
 obtain ⟨a,s,hv,_⟩:=laid_sentinel h hg ht hi hrow hp he hft hfo hs hc hcs
 exact ⟨_,_,World.var?_cell hg hv 0⟩
theorem zRN {s:Proj} (h:zK6 s≤1048576):ProjZ s:=by
 have e:zK6 s=1+zNQ s.man+(1+bkL zDv s.nodes)+(1+bkL bkDir s.dirs)+1:=rfl
 rw[e] at h
 have h1:bkL zDv s.nodes≤1048576:=by omega
 have h2:bkL bkDir s.dirs≤1048576:=by omega
 have n1:=zHh (bk:=zDv) (l:=s.nodes) fun x=>by unfold zDv;omega
 have n2:=zHh (bk:=bkDir) (l:=s.dirs) fun x=>by unfold bkDir;omega
 refine ⟨⟨by omega,fun x hx=>?_⟩,by omega,fun d hd=>?_⟩
 ·have k1:zDv x≤bkL zDv s.nodes:=zO5 (bk:=zDv) hx
  have k2:=zHh (bk:=bkPin) (l:=x.ctx) fun x=>by unfold bkPin;omega
  have k3:=zHh (bk:=zIk) (l:=x.edges) fun x=>by unfold zIk;omega
  have k4:zDv x=1+(x.name.size+1)+bkVer x.ver+bkL bkPin x.ctx+bkL zIk x.edges:=rfl
  omega
 ·have k1:bkDir d≤bkL bkDir s.dirs:=zO5 (bk:=bkDir) hd
  have k2:=zHh (bk:=fun s:ByteArray=>s.size+1) (l:=d.path) fun x=>by omega
  have k4:bkDir d=1+bkL (fun s:ByteArray=>s.size+1) d.path+zNI d.pack+1:=rfl
  omega
