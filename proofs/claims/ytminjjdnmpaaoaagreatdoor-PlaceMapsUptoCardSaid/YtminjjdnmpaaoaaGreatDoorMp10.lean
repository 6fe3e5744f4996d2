/- The map of a tree's lookups as a plain function, and what it keeps. -/
import Derived.Test.YtminjjdnmpaaoaaGreatDoorMp09
import Derived.Test.YtminjjdnmpaaoaaGreatDoorMp02
import Derived.OwnWalk
import Derived.Deep.LoopGhost
import Derived.Lib.Hide
import Derived.Test.YtminjjdnmpaaoaaGreatDoorMp08
import Derived.Test.YtminjjdnmpaaoaaGreatDoorAl
set_option linter.all false
set_option maxHeartbeats 6400000
set_option maxRecDepth 100000
namespace Go.Proofs.YtminjjdnmpaaoaaGreatDoor
open Go.Rows Go.RowKit Go.Shelf Go.Sort
theorem zFF (t:List Dir) (p:List ByteArray):-1≤findI t p∧findI t p<(t.length:Int):=by
 unfold findI
 rcases firstI_lt (fun d=>eqB d.path p) t with h|⟨j,h,hj,_⟩
 ·rw[h.1];omega
 ·rw[h];omega
theorem zF5 (t:List Dir) (p:List ByteArray) (s:ByteArray):∀ q,-1≤zAj t p s q∧zAj t p s q<(t.length:Int):=by
 intro q
 induction q with
 | zero=>unfold zAj;omega
 | succ q ih=>
   unfold zAj
   cases decide (0≤findI t (p.take q++[s]))
   ·exact ih
   ·exact zFF _ _
theorem zCJ (t:List Dir) (i:Int) (s:ByteArray):-1≤lookI t i s∧lookI t i s<(t.length:Int):=by
 unfold lookI
 split
 ·cases nameB s
  ·show (-1:Int)≤-1∧(-1:Int)<t.length;omega
  ·exact zF5 _ _ _ _
 ·omega
noncomputable def zD7 (t:List Dir) (g:List Node) (q:Nat) (e:Nat):Bool:=
 match t[q]?,g[e]? with
 | some d,some x=>decide (d.pack.name=x.name)&&eqB d.pack.ver x.ver
 | _,_=>false
theorem zLP {t:List Dir} {g:List Node} {q e:Nat} (h1:q<t.length) (h2:e<g.length):zD7 t g q e=(decide (t[q].pack.name=g[e].name)&&eqB t[q].pack.ver g[e].ver):=by
 unfold zD7;rw[gE h1,gE h2]
abbrev MSt:=List Int×List Nat
noncomputable def zCA (t:List Dir) (g:List Node) (a:Nat) (s:MSt) (e:Edge):Option MSt:=
 if 0≤lookI t a e.label∧zD7 t g (lookI t a e.label).toNat e.to.toNat=true then
  (if s.1[(lookI t a e.label).toNat]?=some (-1) then some (s.1.set (lookI t a e.label).toNat e.to,s.2++[(lookI t a e.label).toNat])
   else if s.1[(lookI t a e.label).toNat]?=some e.to then some s else none)
 else none
noncomputable def zAy (t:List Dir) (g:List Node) (a:Nat):List Edge→MSt→Option MSt
 | [],s=>some s
 | e::es,s=>match zCA t g a s e with
   | none=>none
   | some s'=>zAy t g a es s'
def zCf (g:List Node) (i:Int):List Edge:=match g[i.toNat]? with|some x=>x.edges|none=>[]
noncomputable def zBZ (t:List Dir) (g:List Node):Nat→MSt→Option (List Int)
 | 0,_=>none
 | _+1,(m,[])=>some m
 | f+1,(m,a::rest)=>match zAy t g a (zCf g (m.getD a 0)) (m,rest) with
   | none=>none
   | some s=>zBZ t g f s
noncomputable def zEK (t:List Dir) (g:List Node) (f:Nat):Option MSt→Option (List Int)
 | none=>none
 | some s=>zBZ t g f s
theorem zHo (t:List Dir) (g:List Node) (f:Nat) (m:List Int) (a:Nat) (rest:List Nat):zBZ t g (f+1) (m,a::rest)=zEK t g f (zAy t g a (zCf g (m.getD a 0)) (m,rest)):=by
 rw[zBZ];cases zAy t g a (zCf g (m.getD a 0)) (m,rest)<;>rfl
theorem zIj (t:List Dir) (g:List Node) (a:Nat) {es:List Edge} {k:Nat} (h:k<es.length) (s:MSt):zAy t g a (es.drop k) s=match zCA t g a s es[k] with|none=>none|some s'=>zAy t g a (es.drop (k+1)) s':=by
 rw[dC h,zAy]
noncomputable def map0 (n:Nat):MSt:=(0::List.replicate (n - 1) (-1),[0])
noncomputable def mapR (t:List Dir) (g:List Node):Option (List Int)×Int:=
 if zBI t≠0 then (none,42)
 else if zBL g=false then (none,33)
 else match zBZ t g (t.length+1) (map0 t.length) with
  | none=>(none,42)
  | some m=>(some m,0)
def freeN (m:List Int):Nat:=m.count (-1)
structure MInv (n:Nat) (gl:Nat) (s:MSt):Prop where
 len:s.1.length=n
 rng:∀ x∈s.1,-1≤x∧x<(gl:Int)
 rest:∀ r∈s.2,∃ x,s.1[r]?=some x∧0≤x
theorem zFv:∀ (m:List Int) (q:Nat) (v:Int),m[q]?=some (-1)→v≠-1→freeN (m.set q v)+1=freeN m:=by
 intro m
 induction m with
 | nil=>intro q v h _;simp at h
 | cons x m ih=>
   intro q v h hv
   cases q with
   | zero=>
     simp at h
     subst h
     unfold freeN
     rw[List.set_cons_zero,List.count_cons_self,List.count_cons_of_ne hv]
   | succ q=>
     simp at h
     have:=ih q v h hv
     unfold freeN at this ⊢
     rw[List.set_cons_succ,List.count_cons,List.count_cons]
     omega
theorem MInv.edge {n:Nat} {t:List Dir} {g:List Node} {a:Nat} {s s':MSt} {e:Edge} (h:MInv n g.length s) (he:edgeB g.length e=true) (hm:zCA t g a s e=some s') :
  MInv n g.length s'∧freeN s'.1+s'.2.length=freeN s.1+s.2.length∧(∀ (r:Nat) (x:Int),s.1[r]?=some x→0≤x→s'.1[r]?=some x):=by
 unfold edgeB at he
 simp only[Bool.and_eq_true,decide_eq_true_eq] at he
 unfold zCA at hm
 split at hm
 ·split at hm
  ·rename_i hc hf
   injection hm with hm
   subst hm
   have hkeep:∀ (r:Nat) (x:Int),s.1[r]?=some x→0≤x→(s.1.set (lookI t a e.label).toNat e.to)[r]?=some x:=fun r x hr hx=>by
    rw[List.getElem?_set_ne (by rintro rfl;rw[hf] at hr;injection hr with hr;omega)];exact hr
   refine ⟨⟨by simpa using h.len,fun x hx=>?_,fun r hr=>?_⟩,?_,hkeep⟩
   ·rcases List.mem_or_eq_of_mem_set hx with hx|rfl
    ·exact h.rng x hx
    ·omega
   ·rw[List.mem_append] at hr
    rcases hr with hr|hr
    ·obtain ⟨x,h1,h2⟩:=h.rest r hr
     exact ⟨x,hkeep r x h1 h2,h2⟩
    ·simp at hr
     subst hr
     refine ⟨e.to,?_,by omega⟩
     rw[List.getElem?_set_self (gS.1 hf).1]
   ·have:=zFv s.1 _ e.to hf (by omega)
    show freeN (s.1.set _ e.to)+(s.2++[_]).length=_
    rw[List.length_append,List.length_singleton]
    omega
  ·split at hm
   ·injection hm with hm
    subst hm
    exact ⟨h,rfl,fun _ _ h _=>h⟩
   ·cases hm
 ·cases hm
theorem MInv.edges {n:Nat} {t:List Dir} {g:List Node} {a:Nat}:∀ {es:List Edge} {s s':MSt},MInv n g.length s→es.all (edgeB g.length)=true→zAy t g a es s=some s' →
  MInv n g.length s'∧freeN s'.1+s'.2.length=freeN s.1+s.2.length∧(∀ (r:Nat) (x:Int),s.1[r]?=some x→0≤x→s'.1[r]?=some x):=by
 intro es
 induction es with
 | nil=>intro s s' h _ hm;rw[zAy] at hm;injection hm with hm;subst hm;exact ⟨h,rfl,fun _ _ h _=>h⟩
 | cons e es ih=>
   intro s s' h ha hm
   rw[List.all_cons,Bool.and_eq_true] at ha
   rw[zAy] at hm
   split at hm
   ·cases hm
   ·rename_i s1 hs1
    obtain ⟨h1,h2,h3⟩:=h.edge ha.1 hs1
    obtain ⟨h4,h5,h6⟩:=ih h1 ha.2 hm
    exact ⟨h4,by omega,fun r x hr hx=>h6 r x (h3 r x hr hx) hx⟩
theorem MInv.start {n gl:Nat} (hn:0<n) (hg:0<gl):MInv n gl (map0 n)∧freeN (map0 n).1+(map0 n).2.length=n:=by
 refine ⟨⟨by simp[map0];omega,fun x hx=>?_,fun r hr=>?_⟩,?_⟩
 ·simp[map0] at hx
  rcases hx with rfl|⟨_,rfl⟩<;>omega
 ·simp[map0] at hr
  subst hr
  exact ⟨0,rfl,Int.le_refl _⟩
 ·simp[map0,freeN]
  omega
theorem zDG {g:List Node} (h:zBL g=true):0<g.length∧∀ x∈g,x.edges.all (edgeB g.length)=true:=by
 unfold zBL at h
 simp only[Bool.and_eq_true,decide_eq_true_eq,List.all_eq_true] at h
 exact ⟨h.2,fun x hx=>h.1 x hx⟩
theorem zIB {g:List Node} (h:zBL g=true) (i:Int):(zCf g i).all (edgeB g.length)=true:=by
 unfold zCf
 split
 ·rename_i x hx
  exact (zDG h).2 x (mG hx)
 ·rfl
theorem zNk:Elt Tryz.prog 3 1 8:=Elt.mk' (z:=.int .i64 0) (by kernel_rfl) rfl (by decide)
theorem zMP {n k:Nat} (h:k<n):(List.replicate k (-1:Int)++List.replicate (n - k) 0).set k (-1)=List.replicate (k+1) (-1)++List.replicate (n - (k+1)) 0:=by
 rw[List.set_append_right _ _ (by simp),List.length_replicate,Nat.sub_self,show n - k=(n - (k+1))+1 by omega,List.replicate_succ,List.set_cons_zero,List.replicate_succ',List.append_assoc]
 rfl
theorem zEs {n k:Nat} (h:k≤n):(List.replicate k (-1:Int)++List.replicate (n - k) 0).length=n:=by simp;omega
theorem zNm {n:Nat} (h:0<n):(List.replicate n (-1:Int)).set 0 0=(map0 n).1:=by
 obtain ⟨k,rfl⟩:∃ k,n=k+1:=⟨n - 1,by omega⟩
 rw[List.replicate_succ]
 rfl
def castN (l:List Nat):List Int:=l.map fun (r:Nat)=>(r:Int)
structure MapAt (w0 wr:World) (g:Nat) (n gl:Nat) (g2 k2 c2:Nat) (m:List Int) (rest:List Nat):Prop where
 m_:IRow wr w0.heap.size g 0 n m
 r_:IRow wr w0.heap.size g2 k2 c2 (castN rest)
 ne:g2≠g
 inv:MInv n gl (m,rest)
 bel:Below w0.heap.size w0 wr
theorem MapAt.keep {w0 w1 w2:World} {g n gl g2 k2 c2:Nat} {m:List Int} {rest:List Nat} (h:MapAt w0 w1 g n gl g2 k2 c2 m rest) (hb:Below w1.heap.size w1 w2):MapAt w0 w2 g n gl g2 k2 c2 m rest:=
 ⟨h.m_.keep hb,h.r_.keep hb,h.ne,h.inv,bot h.bel hb⟩
theorem MapAt.tail {w0 w1:World} {g n gl g2 k2 c2 a:Nat} {m:List Int} {rest:List Nat} (h:MapAt w0 w1 g n gl g2 k2 c2 m (a::rest)):MapAt w0 w1 g n gl g2 (k2+1) (c2 - 1) m rest:=
 ⟨h.m_,IRow.tail h.r_,h.ne,⟨h.inv.len,h.inv.rng,fun r hr=>h.inv.rest r (List.mem_cons_of_mem _ hr)⟩,h.bel⟩
theorem MapAt.tail0 {w0 w1:World} {g n gl g2 k2 c2 a:Nat} {m:List Int} {rest:List Nat} (h:MapAt w0 w1 g n gl g2 k2 c2 m (a::rest)) (hc:c2=1):MapAt w0 w1 g n gl g2 k2 0 m rest:=by
 subst hc
 have hle:=h.r_.le
 have hr0:rest=[]:=by simpa [castN] using hle
 subst hr0
 exact ⟨h.m_,⟨h.r_.lo,nR _,nZ _,h.r_.lt,fun j x hj=>by simp[castN] at hj,fun j hj=>absurd hj (Nat.not_lt_zero _)⟩,h.ne,⟨h.inv.len,h.inv.rng,fun r hr=>by cases hr⟩,h.bel⟩
theorem zLQ (W:World) (v:Value) (t:TypeId) (n:Nat) (h:n=W.heap.size):(W.alloc (.cells #[v] t)).cell? ⟨n,0,none⟩=some v:=by
 subst h;simp[go_sem]
theorem zCr {v:Value} {R:Option (List Int)×Int} {r:Option (List Int)} {z:Int} (h:R=(r,z)):Ending.returned (.tuple #[v,.int .i64 z])=.returned (.tuple #[v,.int .i64 R.2]):=by rw[h]
theorem zCw {B:Nat} {w w':World} (h:Below B w w') {g o:Nat} (hg:B≤g) (v:Value):Below B w (w'.setCell ⟨g,o,none⟩ v):=h.setCell (p:=⟨g,o,none⟩) hg v
theorem zNw (A B:Option Addr) (n c m d:Nat) (xs:List Dir) (gs:List Node) (w:World) (S T:Nat→Prop) (ht:Tab w) (hlen:∀ d∈xs,d.path.length * 32≤140737488355328) (hx:SlV rDir w S xs (.slice A n c)) (hg:SlV rNode w T gs (.slice B m d)) :
  Calls Tryz.prog 20 #[.agg #[.slice A n c],.agg #[.slice B m d]] w fun e w'=>
   (∃ v,e=.returned (.tuple #[v,.int .i64 (mapR xs gs).2])∧SlV rInt w' (fun b=>w.heap.size≤b) ((mapR xs gs).1.getD []) v)∧Below w.heap.size w w':=by
 have hnx:=hx.n_eq
 have hmg:=hg.n_eq
 have hcx:=hx.cap_le
 have hcg:=hg.cap_le
 unfold maxLen at hcx hcg
 have hn63:n≤9223372036854775807:=by omega
 have hm63:m≤9223372036854775807:=by omega
 have HX:=cH (hx.more (S':=fun b=>b<w.heap.size) fun b _ h=>h)
 have HG:=cH (hg.more (S':=fun b=>b<w.heap.size) fun b _ h=>h)
 have Hck:Hid (∀ W,Below w.heap.size w W→Calls Tryz.prog 21 #[.agg #[.slice A n c]] W fun e w'=>e=.returned (.int .i64 (zBI xs))∧Below W.heap.size W w'):=fun W hW=>zG8 A n c xs W _ (zAO ht hW) hlen (hx.belowSize hW)
 have Hfm:Hid (∀ W,Below w.heap.size w W→Calls Tryz.prog 43 #[.agg #[.slice B m d]] W fun e w'=>e=.returned (.bool (zBL gs))∧Below W.heap.size W w'):=fun W hW=>zJl B m d gs W _ (hg.belowSize hW)
 have Hlk:Hid (∀ W (i:Int) (s:ByteArray),s.size≤maxLen→Below w.heap.size w W→Calls Tryz.prog 17 #[.agg #[.slice A n c],.int .i64 i,.string s] W fun e w'=>e=.returned (.int .i64 (lookI xs i s))∧Below W.heap.size W w'):=fun W i s hs hW=>zEk A n c xs s W _ i hs hlen (hx.belowSize hW)
 have Hnx:=cH hnx
 have Hmg:=cH hmg
 have Hc1:Hid (zBI xs≠0→mapR xs gs=(none,42)):=fun h=>by unfold mapR;rw[if_pos h]
 have Hc2:Hid (zBI xs=0→zBL gs=false→mapR xs gs=(none,33)):=fun h h'=>by unfold mapR;rw[if_neg (by simp[h]),if_pos h']
 have Hc3:Hid (zBI xs=0→zBL gs=true→∀ r,zBZ xs gs (xs.length+1) (map0 xs.length)=r→mapR xs gs=(match r with|none=>(none,42)|some m=>(some m,0))):=fun h h' r hr=>by unfold mapR;rw[if_neg (by simp[h]),if_neg (by simp[h']),hr]<;>cases r<;>rfl
 have Hl0:Hid (zBI xs=0→0<n∧n≤257):=fun h=>by
  rw[hnx]
  unfold zBI at h
  split at h
  ·exact absurd h (by decide)
  ·omega
 have Hed:=cH (fun (h:zBL gs=true)=>zDG h)
 clear hx hg hlen ht hcx hcg hnx hmg
 generalize mapR xs gs=R at *
 generalize zBI xs=E at *
 generalize hfb:zBL gs=F at *
 go_enter Tryz.func20,Tryz.ntmps20
 go_wp2_with fail
 obtain ⟨w0,hw0⟩:∃ w0,w0=(w.alloc (.cells #[.slice A n c] 33)).alloc (.cells #[.slice B m d] 24):=⟨_,rfl⟩
 have hz:w.heap.size<w0.heap.size:=by rw[hw0];simp[go_sem]
 have hz1:w.heap.size+1<w0.heap.size:=by rw[hw0];simp[go_sem]
 have HB0:Hid (Below w.heap.size w w0):=by unfold Hid;rw[hw0];exact bal (bal (bR _ _) _) _
 have a0:w0.cell? ⟨w.heap.size,0,none⟩=some (.slice A n c):=by rw[hw0];simp[go_sem]
 have a1:w0.cell? ⟨w.heap.size+1,0,none⟩=some (.slice B m d):=by rw[hw0];simp[go_sem]
 rw[←hw0]
 clear hw0
 have HA0:Hid (w0.cell? ⟨w.heap.size,0,none⟩=some (.slice A n c)∧w0.cell? ⟨w.heap.size+1,0,none⟩=some (.slice B m d)):=⟨a0,a1⟩
 refine (Hck.out w0 HB0.out).mono ?_
 rintro e w1 ⟨rfl,B1⟩
 have Q1:=cH B1;clear B1 Hck
 have b0:=zAA Q1.out a0 hz
 have b1:=zAA Q1.out a1 hz1
 clear a0 a1
 by_cases hE:E=0
 case neg=>
  have hEb:(E != 0)=true:=by simp[hE]
  have He:Hid (R=(none,42)):=Hc1.out hE
  clear hE
  go_wp2_with fail
  go_ret2
  refine ⟨⟨_,zCr He.out,?_⟩,bot HB0.out Q1.out⟩
  rw[He.out];exact SlV.nil_ _ _ _
 have hEb:(E != 0)=false:=by simp[hE]
 have HE:=cH hE;clear hE
 go_wp2_with fail
 refine (Hfm.out w1 (bot HB0.out Q1.out)).mono ?_
 rintro e w2 ⟨rfl,B2⟩
 have Q2:=cH (bot Q1.out B2);clear B2 Hfm b0 b1
 have b0:=zAA Q2.out HA0.out.1 hz
 have b1:=zAA Q2.out HA0.out.2 hz1
 cases hF:F
 ·have He:Hid (R=(none,33)):=Hc2.out HE.out hF
  clear hF
  go_wp2_with fail
  go_ret2
  refine ⟨⟨_,zCr He.out,?_⟩,bot HB0.out Q2.out⟩
  rw[He.out];exact SlV.nil_ _ _ _
 have HFm:Hid (zBL gs=true):=by unfold Hid;rw[hfb,hF]
 have HR0:Hid (∀ r,zBZ xs gs (xs.length+1) (map0 xs.length)=r→R=(match r with|none=>(none,42)|some m=>(some m,0))):=Hc3.out HE.out hF
 have HED:Hid (0<gs.length∧∀ x∈gs,x.edges.all (edgeB gs.length)=true):=Hed.out hF
 obtain ⟨hn0,hn257⟩:=Hl0.out HE.out
 clear Hc1 Hc2 Hc3 Hed hfb hF Hl0
 clear F
 obtain ⟨i,hi,hiz,hsz,hby⟩:=info_parts (P:=Tryz.prog) (e:=3) (show (Tryz.prog.info? 3).map (fun i=>(i.zero,i.size,i.bytes))=some (some (.int .i64 0),1,8) by kernel_rfl)
 have hw2s:=Q2.out.size
 go_wp2_with (at_make;refine wpList_make_full w2 (by rfl) _ _ _ (by rfl) w0.heap.size 3 i _ 1 Tryz.underlying71 hi hiz hsz .i64 .i64 _ _ n (by rfl) (by rfl) rfl rfl (by rw[hby];omega) (by unfold maxLen;omega) hw2s ?_)
 intro w3 hown hgrow
 have Q3:Hid (Below w0.heap.size w0 w3):=Q2.out.grown hgrow (by exact hw2s) (fun k hk=>by cases hk)
 rw[toList_madeCells_one] at hown
 have HM3:Hid (IRow w3 w0.heap.size w2.heap.size 0 n (List.replicate 0 (-1)++List.replicate (n - 0) 0)):=by
  have e1:(List.replicate 0 (-1:Int)++List.replicate (n - 0) 0).length=n:=zEs (nZ _)
  refine IRow.of_owns (e:=3) ?_
  rw[e1]
  have e2:(List.replicate 0 (-1:Int)++List.replicate (n - 0) 0).map (Value.int .i64)=List.replicate n (.int .i64 0):=by simp
  rw[e2]
  exact hown
 clear hown hgrow hi hiz hsz hby b0 b1
 generalize w2.heap.size=g at *
 clear Q2 hw2s
 go_wp2_with fail
 go_loopw [25] (fun i wr=>∃ k:Nat,k≤n∧i=.int .i64 k∧Hid (IRow wr w0.heap.size g 0 n (List.replicate k (-1)++List.replicate (n - k) 0))∧Below w0.heap.size w0 wr) (fun i _=>n - (intOf i).toNat)
 case atStart=>exact ⟨0,nZ _,rfl,HM3,Q3.out⟩
 case round=>
  obtain ⟨k,hk,rfl,hrow,hbel⟩:=hrel
  by_cases hlt:k<n
  ·have hk0:(0:Int)≤(k:Int):=by omega
   have hkn:(k:Int)<(n:Int):=by omega
   have h1:=hrow.out.get (j:=k) (by rw[zEs hk];exact hlt)
   have h2:=hrow.out.frozen hlt
   rw[Nat.zero_add] at h1 h2
   generalize (List.replicate k (-1:Int)++List.replicate (n - k) 0)[k]'(by rw[zEs hk];exact hlt)=v0 at *
   have HS:Hid (IRow (wr.setCell ⟨g,k,none⟩ (.int .i64 (-1))) w0.heap.size g 0 n (List.replicate (k+1) (-1)++List.replicate (n - (k+1)) 0)):=by
    have:=(hrow.out.set (j:=k) (by rw[zEs hk];exact hlt) (-1)).1
    rw[zMP hlt,Nat.zero_add] at this
    exact this
   have HBs:Hid (Below w0.heap.size w0 (wr.setCell ⟨g,k,none⟩ (.int .i64 (-1)))):=zCw hbel hrow.out.lo _
   clear hrow
   go_wp2_with fail
   go_roundw
   case rel=>exact ⟨k+1,by omega,by go_num,HS,HBs.out⟩
   case measure=>simp[intOf];omega
  ·obtain rfl:k=n:=by omega
   have hrow':Hid (IRow wr w0.heap.size g 0 k (List.replicate k (-1))):=by
    have:=hrow.out
    rw[Nat.sub_self,List.replicate_zero,List.append_nil] at this
    exact this
   have h1:=hrow'.out.get (j:=0) (by simpa using hn0)
   have h2:=hrow'.out.frozen hn0
   rw[List.getElem_replicate] at h1
   rw[Nat.zero_add] at h1 h2
   have HS:Hid (IRow (wr.setCell ⟨g,0,none⟩ (.int .i64 0)) w0.heap.size g 0 k (map0 k).1):=by
    have:=(hrow'.out.set (j:=0) (by simpa using hn0) 0).1
    rw[zNm hn0,Nat.zero_add] at this
    exact this
   have HBs:Hid (Below w0.heap.size w0 (wr.setCell ⟨g,0,none⟩ (.int .i64 0))):=zCw hbel hrow'.out.lo _
   have hgl:g<(wr.setCell ⟨g,0,none⟩ (.int .i64 0)).heap.size:=HS.out.lt
   clear hrow hrow' hlt
   go_wp2_with fail
   obtain ⟨w4,hw4⟩:∃ w4,w4=wr.setCell ⟨g,0,none⟩ (.int .i64 0):=⟨_,rfl⟩
   rw[←hw4] at HS HBs hgl ⊢
   clear hgl
   obtain ⟨w5,hw5⟩:∃ w5,w5=w4.alloc (.cells #[.int .i64 0] 3):=⟨_,rfl⟩
   have HP5:Hid (MapAt w0 w5 g k gs.length w4.heap.size 0 1 (map0 k).1 [0]):=by
    have hs4:=HBs.out.size
    rw[hw5]
    exact ⟨HS.out.alloc _,IRow.lit _ _ _ _ hs4,by have:=HS.out.lt;omega,(MInv.start hn0 HED.out.1).1,bal HBs.out _⟩
   have HF5:Hid (freeN (map0 k).1+[0].length<k+1∧k+1≤k+1):=by
    have:=(MInv.start (n:=k) (gl:=gs.length) hn0 HED.out.1).2
    unfold Hid
    have e:(map0 k).2=[0]:=rfl
    rw[e] at this
    exact ⟨by omega,nR _⟩
   have HR5:Hid (∀ r,zBZ xs gs (k+1) ((map0 k).1,[0])=r→R=(match r with|none=>(none,42)|some m=>(some m,0))):=fun r hr=>HR0.out r (by rw[←Hnx.out];exact hr)
   rw[←hw5]
   have hsz4:w4.heap.size=wr.heap.size:=by rw[hw4];simp
   rw[hsz4] at HP5
   clear hw5 hw4 HS HBs HR0 HM3 Q3 hsz4
   generalize wr.heap.size=g4 at *
   go_loopg [8] (k+1) (fun f v wr=>∃ (g2 k2 c2:Nat) (mm:List Int) (rest:List Nat),v=.slice (some ⟨g2,k2,none⟩) rest.length c2∧Hid (MapAt w0 wr g k gs.length g2 k2 c2 mm rest)∧Hid (freeN mm+rest.length<f∧f≤k+1)∧Hid (∀ r,zBZ xs gs f (mm,rest)=r→R=(match r with|none=>(none,42)|some m=>(some m,0))))
   case atStart=>exact ⟨g4,0,1,_,[0],rfl,HP5,HF5,HR5⟩
   case round=>
    clear HP5 HF5 HR5
    obtain ⟨g2,k2,c2,mm,rest,rfl,HP,HF,HRf⟩:=hrel
    have b0:=zAA HP.out.bel HA0.out.1 hz
    have b1:=zAA HP.out.bel HA0.out.2 hz1
    obtain ⟨f,rfl⟩:∃ f,gk=f+1:=⟨gk - 1,by have:=HF.out.1;omega⟩
    cases rest with
    | nil=>
      have He:Hid (R=(some mm,0)):=HRf.out (some mm) (by rw[zBZ])
      have hml:=HP.out.inv.len
      go_wp2_with fail
      go_ret2
      refine ⟨⟨_,zCr He.out,?_⟩,bot HB0.out HP.out.bel⟩
      rw[He.out]
      refine SlV.more ?_ (fun b hb _=>nT HB0.out.size hb)
      have hsl:=HP.out.m_.slv (fun x hx=>by have:=HP.out.inv.rng x hx;have:=Hmg.out;unfold I64;omega)
      rw[show mm.length=k from hml] at hsl
      exact hsl
    | cons a rest=>
      obtain ⟨x,hx,hx0⟩:=HP.out.inv.rest a (by simp)
      obtain ⟨q,rfl⟩:∃ q:Nat,x=(q:Int):=⟨x.toNat,by omega⟩
      have hrng:=HP.out.inv.rng _ (mG hx)
      have hml:mm.length=k:=HP.out.inv.len
      have hxg:mm[a]?=some (q:Int):=hx
      have hak:a<k:=by have:=(gS.1 hxg).1;omega
      have hqg:q<gs.length:=by omega
      have hqm:(q:Int)<(m:Int):=by have:=Hmg.out;omega
      have hq0:(0:Int)≤(q:Int):=by omega
      have hakI:(a:Int)<(k:Int):=by omega
      have ha0:(0:Int)≤(a:Int):=by omega
      have hr0:=HP.out.r_.at_ 0 (a:Int) rfl
      rw[Nat.add_zero] at hr0
      have hma:=HP.out.m_.at_ a _ hxg
      rw[Nat.zero_add] at hma
      have hc2:rest.length+1≤c2:=by have:=HP.out.r_.le;simpa [castN] using this
      have hc2m:=HP.out.r_.max
      unfold maxLen at hc2m
      obtain ⟨b',oo,cs,hBe,hSb,hb1,hh,hcell⟩:=HG.out.elem (gE hqg)
      obtain ⟨s0,s1,rfl,_,_,_,_,hp1,hp2⟩:=hh
      obtain ⟨qA,qa,rfl,hq1,hq2⟩:=hp2.val
      unfold maxLen at hq2
      subst hBe
      have c5:=zAA (bot HB0.out HP.out.bel) (hcell 5 _ rfl) hb1
      simp only[rNode,Nat.add_zero] at c5
      have hese:zCf gs (mm.getD a 0)=gs[q].edges:=by
       rw[List.getD_eq_getElem?_getD,hxg]
       unfold zCf
       simp only[Option.getD_some,Int.toNat_natCast,List.getElem?_eq_getElem hqg]
      have HR1:Hid (∀ r,zEK xs gs f (zAy xs gs a (gs[q].edges.drop 0) (mm,rest))=r→R=(match r with|none=>(none,42)|some m=>(some m,0))):=fun r hr=>HRf.out r (by rw[zHo,hese];exact hr)
      have HES:=cH hp2
      have Hall:Hid (gs[q].edges.all (edgeB gs.length)=true):=HED.out.2 _ (List.getElem_mem hqg)
      have HF1:Hid (freeN mm+rest.length<f):=by have:=HF.out.1;unfold Hid;simp at this;omega
      have Hfk:Hid (f+1≤k+1):=HF.out.2
      have Htl0:Hid (c2=1→MapAt w0 wr g k gs.length g2 k2 0 mm rest):=fun h=>HP.out.tail0 h
      have Htl1:=cH HP.out.tail
      clear hcell hp1 hp2 hx hxg hese hrng hx0 HF HRf
      generalize gs[q].edges=es at *
      generalize hl1:es.length=l1 at *
      have Hl1:=cH hl1;clear hl1
      have r_b0:=cR b0
      have r_b1:=cR b1
      have r_hma:=cR hma
      have r_c5:=cR c5
      go_wp2_with fail
      all_goals
       first
        | (have HP1:=cH (Htl0.out (by assumption)))
        | (have HP1:=cH Htl1.out)
       go_wp2_with fail
       refine wQ ?_
       repeat (go_big_quiet_step (first|fail))
       refine wpQuiet_nil fun w6 B6=>?_
       have HP6:=cH (HP1.out.keep B6)
       clear h h1 h2 hbel HP HP1 b0 b1 hma c5 r_b0 r_b1 r_hma r_c5 hr0 B6 Htl0 Htl1
       go_wp2_with fail
       go_loopw [8,53] (fun v i wi=>∃ (j g3 k3 c3:Nat) (m3:List Int) (r3:List Nat),j≤l1∧i=.int .i64 j∧v=.slice (some ⟨g3,k3,none⟩) r3.length c3∧Hid (MapAt w0 wi g k gs.length g3 k3 c3 m3 r3)∧Hid (freeN m3+r3.length<f)∧Hid (∀ r,zEK xs gs f (zAy xs gs a (es.drop j) (m3,r3))=r→R=(match r with|none=>(none,42)|some m=>(some m,0)))) (fun _ i _=>l1 - (intOf i).toNat)
       case atStart=>exact ⟨0,g2,_,_,mm,rest,nZ _,rfl,rfl,HP6,HF1,HR1⟩
       case round=>
        clear HP6 HF1 HR1
        obtain ⟨j,g3,k3,c3,m3,r3,hj,rfl,rfl,HP3,HF3,HR3⟩:=hrel
        have b0:=zAA HP3.out.bel HA0.out.1 hz
        have b1:=zAA HP3.out.bel HA0.out.2 hz1
        have Hml:Hid (m3.length=k):=HP3.out.inv.len
        by_cases hlj:j<l1
        case neg=>
         have HR4:Hid (∀ r,zBZ xs gs f (m3,r3)=r→R=(match r with|none=>(none,42)|some m=>(some m,0))):=fun r hr=>HR3.out r (by rw[dN (by have:=Hl1.out;omega),zAy];exact hr)
         clear HR3
         go_wp2_with fail
         go_roundg f
         case measure=>omega
         case rel=>exact ⟨g3,k3,c3,m3,r3,rfl,HP3,⟨HF3.out,by have:=Hfk.out;omega⟩,HR4⟩
        case pos=>
        have hjy:j<es.length:=by have:=Hl1.out;omega
        obtain ⟨b2,o2,cs2,rfl,_,hb2,⟨rfl,hls,hti⟩,hcell2⟩:=(HES.out.below (bot HB0.out HP3.out.bel) (fun b h=>h)).elem (gE hjy)
        have d0:=hcell2 0 _ rfl
        have d1:=hcell2 1 _ rfl
        simp only[rEdge,Nat.add_zero] at d0 d1
        have hedge:edgeB gs.length es[j]=true:=List.all_eq_true.1 Hall.out _ (List.getElem_mem hjy)
        have Hedge:=cH hedge
        unfold edgeB at hedge
        simp only[Bool.and_eq_true,decide_eq_true_eq] at hedge
        have Hat:=cH (zIj xs gs a hjy (m3,r3))
        clear hcell2
        have hj0:(0:Int)≤(j:Int):=by omega
        have hjl:(j:Int)<(l1:Int):=by omega
        obtain ⟨ed,hed⟩:∃ ed,ed=es[j]:=⟨_,rfl⟩
        rw[←hed] at d0 d1 hedge Hedge Hat hls hti
        clear hed
        obtain ⟨lb,tq⟩:=ed
        simp only at d0 d1 hedge hls hti
        obtain ⟨q3,rfl⟩:∃ q3:Nat,tq=(q3:Int):=⟨tq.toNat,by omega⟩
        have hq3:q3<gs.length:=by omega
        have hq3m:(q3:Int)<(m:Int):=by have:=Hmg.out;omega
        have hq30:(0:Int)≤(q3:Int):=by omega
        have hq31:(1:Int)≤(q3:Int):=hedge.1
        clear hedge
        have Hls:=cH hls;clear hls hti
        have hzr:w.heap.size<wr.heap.size:=lL hz HP3.out.bel.size
        have bo:∀ o:Obj,(wr.alloc o).cell? ⟨w.heap.size,0,none⟩=some (.slice A k c):=fun o=>zAA (bal (bR _ _) o) b0 hzr
        go_wp2_with fail
        obtain ⟨w7,hw7⟩:∃ w7,w7=wr.alloc (.cells #[.string lb,.int .i64 q3] 61):=⟨_,rfl⟩
        have hzi:wr.heap.size<w7.heap.size:=by rw[hw7];simp[go_sem]
        have HB7:Hid (Below wr.heap.size wr w7):=by unfold Hid;rw[hw7];exact bal (bR _ _) _
        have e0:w7.cell? ⟨wr.heap.size,0,none⟩=some (.string lb):=by rw[hw7];simp[go_sem]
        have e1:w7.cell? ⟨wr.heap.size,1,none⟩=some (.int .i64 q3):=by rw[hw7];simp[go_sem]
        rw[←hw7]
        clear hw7 d0 d1 b0 b1 bo hzr
        have HP7:Hid (MapAt w0 w7 g k gs.length g3 k3 c3 m3 r3):=HP3.out.keep HB7.out
        have b0:=zAA HP7.out.bel HA0.out.1 hz
        refine (Hlk.out w7 (a:Int) lb Hls.out (bot HB0.out HP7.out.bel)).mono ?_
        rintro e w8 ⟨rfl,B8⟩
        have f0:=zAA B8 e0 hzi
        have f1:=zAA B8 e1 hzi
        have hz8:wr.heap.size<w8.heap.size:=lL hzi B8.size
        have HP8:Hid (MapAt w0 w8 g k gs.length g3 k3 c3 m3 r3):=HP7.out.keep B8
        clear B8 e0 e1 b0 HP7 HP3 HB7
        have b0:=zAA HP8.out.bel HA0.out.1 hz
        have b1:=zAA HP8.out.bel HA0.out.2 hz1
        have hrg:=zCJ xs a lb
        have Hnone:Hid (zCA xs gs a (m3,r3) ⟨lb,q3⟩=none→R=(none,42)):=fun h=>HR3.out none (by rw[Hat.out,h];rfl)
        have Hsome:Hid (∀ s',zCA xs gs a (m3,r3) ⟨lb,q3⟩=some s'→∀ r,zEK xs gs f (zAy xs gs a (es.drop (j+1)) s')=r→R=(match r with|none=>(none,42)|some m=>(some m,0))):=fun s' h r hr=>HR3.out r (by rw[Hat.out,h];exact hr)
        have Hme:Hid (zCA xs gs a (m3,r3) ⟨lb,q3⟩=if 0≤lookI xs a lb∧zD7 xs gs (lookI xs a lb).toNat q3=true then
          (if m3[(lookI xs a lb).toNat]?=some (-1) then some (m3.set (lookI xs a lb).toNat q3,r3++[(lookI xs a lb).toNat]) else if m3[(lookI xs a lb).toNat]?=some (q3:Int) then some (m3,r3) else none) else none):=by
         unfold Hid zCA
         simp only[Int.toNat_natCast]
        clear HR3 Hat
        have HME:Hid (∀ s',zCA xs gs a (m3,r3) ⟨lb,q3⟩=some s'→MInv k gs.length s'∧freeN s'.1+s'.2.length=freeN m3+r3.length):=fun s' h=>by
         obtain ⟨i1,i2,_⟩:=MInv.edge HP8.out.inv Hedge.out h
         exact ⟨i1,i2⟩
        generalize zCA xs gs a (m3,r3) ⟨lb,q3⟩=ME at *
        generalize lookI xs a lb=L at *
        by_cases hL:L<0
        ·have hLd:decide (L<0)=true:=decide_eq_true hL
         have He:Hid (R=(none,42)):=Hnone.out (by rw[Hme.out,if_neg (by omega)])
         clear hrg
         have r_b0:=cR b0
         have r_b1:=cR b1
         have r_f0:=cR f0
         have r_f1:=cR f1
         go_wp2_with fail
         refine wQ ?_
         repeat (go_big_quiet_step (first|fail))
         refine wpQuiet_nil fun w9 B9=>?_
         go_wp2_with fail
         go_ret2
         refine ⟨⟨_,zCr He.out,?_⟩,bot HB0.out (bot HP8.out.bel B9)⟩
         rw[He.out];exact SlV.nil_ _ _ _
        have hLd:decide (L<0)=false:=decide_eq_false hL
        obtain ⟨q4,rfl⟩:∃ q4:Nat,L=(q4:Int):=⟨L.toNat,by omega⟩
        have hq4x:q4<xs.length:=by omega
        have hq4:q4<k:=by have:=Hnx.out;omega
        have hq40:(0:Int)≤(q4:Int):=by omega
        have hq4k:(q4:Int)<(k:Int):=by omega
        simp only[Int.toNat_natCast] at Hme
        have Hpi:Hid (zD7 xs gs q4 q3=(decide (xs[q4].pack.name=gs[q3].name)&&eqB xs[q4].pack.ver gs[q3].ver)):=zLP hq4x hq3
        have hq4m:q4<m3.length:=by have:=Hml.out;omega
        have Hm4:Hid (m3[q4]?=some m3[q4]):=gE hq4m
        obtain ⟨bx,ox,csx,hAe,hSx,hbx,hhx,hcellx⟩:=HX.out.elem (gE hq4x)
        obtain ⟨s0,s1,s2,s3,rfl,_,_,_,_,_,_,_,_,_⟩:=hhx
        obtain ⟨bg,og,csg,hBe,hSg,hbg,hhg,hcellg⟩:=HG.out.elem (gE hq3)
        obtain ⟨t0,t1,rfl,_,_,_,_,_,_⟩:=hhg
        subst hAe
        simp only[Option.some.injEq,Addr.mk.injEq] at hBe
        obtain ⟨rfl,rfl,_⟩:=hBe
        have hbx8:=bot HB0.out HP8.out.bel
        have x1:=zAA hbx8 (hcellx 1 _ rfl) hbx
        have x2:=zAA hbx8 (hcellx 2 _ rfl) hbx
        have x3:=zAA hbx8 (hcellx 3 _ rfl) hbx
        have x4:=zAA hbx8 (hcellx 4 _ rfl) hbx
        have y0:=zAA hbx8 (hcellg 0 _ rfl) hbg
        have y1:=zAA hbx8 (hcellg 1 _ rfl) hbg
        have y2:=zAA hbx8 (hcellg 2 _ rfl) hbg
        have y3:=zAA hbx8 (hcellg 3 _ rfl) hbg
        simp only[rDir,rNode,Nat.add_zero] at x1 x2 x3 x4 y0 y1 y2 y3
        clear hcellx hcellg hbx8
        have Hve:Hid (xs[q4].pack.ver=gs[q3].ver↔(xs[q4].pack.ver.major=gs[q3].ver.major∧xs[q4].pack.ver.minor=gs[q3].ver.minor∧xs[q4].pack.ver.patch=gs[q3].ver.patch)):=by
         unfold Hid
         constructor
         ·intro h;rw[h];exact ⟨rfl,rfl,rfl⟩
         ·rintro ⟨h1,h2,h3⟩
          cases hv1:xs[q4].pack.ver
          cases hv2:gs[q3].ver
          rw[hv1,hv2] at h1 h2 h3
          simp only at h1 h2 h3
          subst h1;subst h2;subst h3;rfl
        have hneq:=fun W=>zNu W xs[q4].pack.ver.major xs[q4].pack.ver.minor xs[q4].pack.ver.patch gs[q3].ver.major gs[q3].ver.minor gs[q3].ver.patch
        generalize xs[q4].pack.ver=v1 at *
        generalize gs[q3].ver=v2 at *
        generalize xs[q4].pack.name=p1 at *
        generalize gs[q3].name=p2 at *
        by_cases hnm:p1=p2
        case neg=>
         have hbn:=zAX hnm
         have He:Hid (R=(none,42)):=Hnone.out (by rw[Hme.out,Hpi.out,decide_eq_false hnm];simp)
         clear hnm hrg hneq
         have r_b0:=cR b0
         have r_b1:=cR b1
         have r_f0:=cR f0
         have r_f1:=cR f1
         have r_x1:=cR x1
         have r_y0:=cR y0
         go_wp2_with fail
         refine wQ ?_
         repeat (go_big_quiet_step (first|fail))
         refine wpQuiet_nil fun w9 B9=>?_
         go_wp2_with fail
         go_ret2
         refine ⟨⟨_,zCr He.out,?_⟩,bot HB0.out (bot HP8.out.bel B9)⟩
         rw[He.out];exact SlV.nil_ _ _ _
        have hbn:=zAk hnm
        by_cases hvr:v1=v2
        case neg=>
         have hvf:decide (v1.major=v2.major∧v1.minor=v2.minor∧v1.patch=v2.patch)=false:=decide_eq_false fun h=>hvr (Hve.out.2 h)
         have He:Hid (R=(none,42)):=Hnone.out (by rw[Hme.out,Hpi.out,zAU hvr];simp)
         rw[hvf] at hneq
         clear hnm hrg hvr hvf
         generalize v1.major=z1 at *
         generalize v1.minor=z2 at *
         generalize v1.patch=z3 at *
         generalize v2.major=z4 at *
         generalize v2.minor=z5 at *
         generalize v2.patch=z6 at *
         have r_b0:=cR b0
         have r_b1:=cR b1
         have r_f0:=cR f0
         have r_f1:=cR f1
         have r_x1:=cR x1
         have r_x2:=cR x2
         have r_x3:=cR x3
         have r_x4:=cR x4
         have r_y0:=cR y0
         have r_y1:=cR y1
         have r_y2:=cR y2
         have r_y3:=cR y3
         go_wp2_with fail
         refine wQ ?_
         repeat (go_big_quiet_step (first|fail))
         refine wpQuiet_nil fun w9 B9=>?_
         go_wp2_with fail
         go_ret2
         refine ⟨⟨_,zCr He.out,?_⟩,bot HB0.out (bot HP8.out.bel B9)⟩
         rw[He.out];exact SlV.nil_ _ _ _
        have hvf:decide (v1.major=v2.major∧v1.minor=v2.minor∧v1.patch=v2.patch)=true:=decide_eq_true (Hve.out.1 hvr)
        have hpi:zD7 xs gs q4 q3=true:=by rw[Hpi.out,decide_eq_true hnm,zAa hvr];rfl
        have Hme2:Hid (ME=if m3[q4]?=some (-1) then some (m3.set q4 q3,r3++[q4]) else if m3[q4]?=some (q3:Int) then some (m3,r3) else none):=by
         unfold Hid;rw[Hme.out,if_pos ⟨by omega,hpi⟩]
        rw[hvf] at hneq
        clear hnm hrg hvr hvf Hme Hpi hpi Hve
        generalize v1.major=z1 at *
        generalize v1.minor=z2 at *
        generalize v1.patch=z3 at *
        generalize v2.major=z4 at *
        generalize v2.minor=z5 at *
        generalize v2.patch=z6 at *
        have r_b0:=cR b0
        have r_b1:=cR b1
        have r_f0:=cR f0
        have r_f1:=cR f1
        have r_x1:=cR x1
        have r_x2:=cR x2
        have r_x3:=cR x3
        have r_x4:=cR x4
        have r_y0:=cR y0
        have r_y1:=cR y1
        have r_y2:=cR y2
        have r_y3:=cR y3
        go_wp2_with fail
        refine wQ ?_
        repeat (go_big_quiet_step (first|fail))
        refine wpQuiet_nil fun w9 B9=>?_
        have h1:=zAA B9 f1 hz8
        have HP9:Hid (MapAt w0 w9 g k gs.length g3 k3 c3 m3 r3):=HP8.out.keep B9
        have hw9s:=HP9.out.bel.size
        clear HP8 B9 b0 b1 f0 f1 x1 x2 x3 x4 y0 y1 y2 y3 r_b0 r_b1 r_f0 r_f1 r_x1 r_x2 r_x3 r_x4 r_y0 r_y1 r_y2 r_y3 hneq hbn
        have hc4:=HP9.out.m_.at_ q4 _ Hm4.out
        have hfz:=HP9.out.m_.frozen (j:=q4) hq4
        rw[Nat.zero_add] at hc4 hfz
        rw[Hm4.out] at Hme2
        clear Hm4
        generalize m3[q4]=xv at *
        by_cases hv1:xv=-1
        ·subst hv1
         have Hme3:Hid (ME=some (m3.set q4 q3,r3++[q4])):=by unfold Hid;rw[Hme2.out,if_pos rfl]
         have HR5:Hid (∀ r,zEK xs gs f (zAy xs gs a (es.drop (j+1)) (m3.set q4 q3,r3++[q4]))=r→R=(match r with|none=>(none,42)|some m=>(some m,0))):=fun r hr=>Hsome.out _ Hme3.out r hr
         have Hiv:=cH (HME.out _ Hme3.out)
         have HF5:Hid (freeN (m3.set q4 q3)+(r3++[q4]).length<f):=by have h5:freeN (m3.set q4 q3)+(r3++[q4]).length=freeN m3+r3.length:=Hiv.out.2;have:=HF3.out;unfold Hid;omega
         have HS:=cH (HP9.out.m_.set (j:=q4) hq4m (q3:Int))
         rw[Nat.zero_add] at HS
         have HQ:Hid (IRow (w9.setCell ⟨g,q4,none⟩ (.int .i64 q3)) w0.heap.size g3 k3 c3 (castN r3)):=HP9.out.r_.grown HS.out.2 (fun e=>HP9.out.ne (Option.some.inj e))
         have hglt:=HP9.out.m_.lt
         have hr3:(castN r3).length=r3.length:=by simp[castN]
         have hr3k:r3.length≤257:=by have:=HF3.out;have:=Hfk.out;omega
         have Hr3:=cH hr3;clear hr3
         go_wp2_with (at_builtin;refine zHm (by rfl) _ _ _ 3 (by rfl) zNk Tryz.underlying71 r3.length Hr3.out.symm (by rfl) (HQ.out.alloc _) ⟨w9.heap.size,0,none⟩ 1 (q4:Int) (by rfl) (zLQ _ _ _ _ (by simp)) (by rw[Hr3.out];unfold maxLen;omega) (by rw[Hr3.out];omega) (by simp;omega) (w9.heap.size+1) (by simp) ?_)
         intro g5 k5 c5 w10 hrow hgrow hat
         have HPn:Hid (MapAt w0 w10 g k gs.length g5 k5 c5 (m3.set q4 q3) (r3++[q4])):=by
          refine ⟨(HS.out.1.alloc _).grown hgrow (fun e=>HP9.out.ne (Option.some.inj e).symm),?_,?_,Hiv.out.1,?_⟩
          ·rw[show castN (r3++[q4])=castN r3++[(q4:Int)] by simp[castN]];exact hrow
          ·rcases hat with h|h
           ·rw[h];exact HP9.out.ne
           ·omega
          ·exact (bal (zCw HP9.out.bel HP9.out.m_.lo _) _).grown hgrow (by simp;omega) (fun b hb=>by rw[←Option.some.inj hb];exact HQ.out.lo)
         clear hrow hgrow hat HS HQ Hiv
         go_wp2_with fail
         go_roundw
         case rel=>exact ⟨j+1,g5,k5,c5,_,_,by omega,by go_num,by simp,HPn,HF5,HR5⟩
         case measure=>simp[intOf];omega
        have hv1b:(xv==-1)=false:=by simpa using hv1
        by_cases hv2:xv=(q3:Int)
        ·have hv2b:(xv==(q3:Int))=true:=by simpa using hv2
         have Hme3:Hid (ME=some (m3,r3)):=by unfold Hid;rw[Hme2.out,if_neg (by simpa using hv1),if_pos (by rw[hv2])]
         have HR5:Hid (∀ r,zEK xs gs f (zAy xs gs a (es.drop (j+1)) (m3,r3))=r→R=(match r with|none=>(none,42)|some m=>(some m,0))):=fun r hr=>Hsome.out _ Hme3.out r hr
         clear hv1 hv2
         go_wp2_with fail
         go_roundw
         case rel=>exact ⟨j+1,g3,k3,c3,m3,r3,by omega,by go_num,rfl,HP9,HF3,HR5⟩
         case measure=>simp[intOf];omega
        ·have hv2b:(xv==(q3:Int))=false:=by simpa using hv2
         have He:Hid (R=(none,42)):=Hnone.out (by rw[Hme2.out,if_neg (by simpa using hv1),if_neg (by simpa using hv2)])
         clear hv1 hv2
         go_wp2_with fail
         go_ret2
         refine ⟨⟨_,zCr He.out,?_⟩,bot HB0.out HP9.out.bel⟩
         rw[He.out];exact SlV.nil_ _ _ _
theorem zGq (q:Dir→Bool):∀ (t:List Dir) (k j:Nat),zAn q t k=(j:Int)→∃ i,∃ h:i<t.length,j=k+i∧q t[i]=true:=by
 intro t
 induction t with
 | nil=>intro k j h;rw[zAn] at h;omega
 | cons d t ih=>
   intro k j h
   rw[zAn] at h
   cases hq:q d
   ·rw[hq] at h
    obtain ⟨i,hi,e,hqi⟩:=ih (k+1) j h
    exact ⟨i+1,by simpa using hi,by omega,by simpa using hqi⟩
   ·rw[hq] at h
    refine ⟨0,by simp,?_,by simpa using hq⟩
    have:(k:Int)=(j:Int):=h
    omega
theorem zFb {t:List Dir} {p:List ByteArray} {j:Nat} (h:findI t p=(j:Int)):∃ hj:j<t.length,t[j].path=p:=by
 unfold findI zCl at h
 obtain ⟨i,hi,e,hq⟩:=zGq _ t 0 j h
 obtain rfl:i=j:=by omega
 refine ⟨hi,?_⟩
 by_cases e:t[i].path=p
 ·exact e
 ·rw[zAU e] at hq;cases hq
theorem zEN {t:List Dir} {p:List ByteArray} (h:findI t p<0) {d:Dir} (hd:d∈t):d.path≠p:=by
 intro e
 unfold findI at h
 rcases firstI_lt (fun d=>eqB d.path p) t with h'|⟨j,h',_⟩
 ·have:=List.any_eq_false.1 h'.2 d hd
  rw[zAa e] at this
  exact this rfl
 ·omega
theorem lookDown_spec (t:List Dir) (p:List ByteArray) (s:ByteArray):∀ q,(zAj t p s q=-1∧∀ k,k<q→findI t (p.take k++[s])<0) ∨
  ∃ k,k<q∧zAj t p s q=findI t (p.take k++[s])∧0≤findI t (p.take k++[s])∧∀ j,k<j→j<q→findI t (p.take j++[s])<0:=by
 intro q
 induction q with
 | zero=>exact .inl ⟨rfl,fun k h=>absurd h (Nat.not_lt_zero _)⟩
 | succ q ih=>
   unfold zAj
   by_cases h:0≤findI t (p.take q++[s])
   ·rw[decide_eq_true h]
    exact .inr ⟨q,Nat.lt_succ_self _,rfl,h,fun j h1 h2=>by omega⟩
   ·rw[decide_eq_false h]
    rcases ih with ⟨h1,h2⟩|⟨k,h1,h2,h3,h4⟩
    ·refine .inl ⟨h1,fun k hk=>?_⟩
     by_cases hkq:k=q
     ·subst hkq;omega
     ·exact h2 k (by omega)
    ·refine .inr ⟨k,by omega,h2,h3,fun j hj1 hj2=>?_⟩
     by_cases hjq:j=q
     ·subst hjq;omega
     ·exact h4 j hj1 (by omega)
theorem zMG {t:List Dir} {i:Nat} (hi:i<t.length) (s:ByteArray):lookI t (i:Int) s=bif nameB s then zAj t t[i].path s (t[i].path.length+1) else -1:=by
 unfold lookI
 rw[dif_pos (by omega)]
 simp only[Int.toNat_natCast]
end Go.Proofs.YtminjjdnmpaaoaaGreatDoor
namespace Go.Proofs.YtminjjdnmpaaoaaGreatDoor
theorem zFa {b:UInt8} (h:nameC b=true):(b != 47)=true:=by
 have H:∀ b:UInt8,(!nameC b||(b != 47))=true:=zFV (by decide +kernel)
 have:=H b
 rw[h] at this;simpa using this
theorem zEy {l:List UInt8} (h:nameL l=true):∀ b∈l,(b != 47)=true:=by
 cases l with
 | nil=>intro b hb;cases hb
 | cons c t=>
   simp only[nameL,Bool.and_eq_true] at h
   intro b hb
   rcases List.mem_cons.1 hb with rfl|hb
   ·exact zFa (by unfold nameC;rw[h.1.1];rfl)
   ·exact zFa (List.all_eq_true.1 h.1.2 b hb)
theorem zFY:∀ (t:List ByteArray),zAp t=[]∨∃ r,zAp t=47::r:=by
 intro t
 cases t with
 | nil=>exact .inl rfl
 | cons s t=>exact .inr ⟨_,rfl⟩
theorem zDd {l r:List UInt8} (h:∀ b∈l,(b != 47)=true) (hr:r=[]∨∃ q,r=47::q):(l++r).takeWhile (· != 47)=l:=by
 induction l with
 | nil=>
   rcases hr with rfl|⟨q,rfl⟩
   ·rfl
   ·rfl
 | cons c l ih=>
   rw[List.cons_append,List.takeWhile_cons,if_pos (h c (by simp)),ih fun b hb=>h b (by simp[hb])]
theorem zKE:∀ {a b:List ByteArray},a.all nameB=true→b.all nameB=true→zAp a=zAp b→a=b:=by
 intro a
 induction a with
 | nil=>
   intro b _ _ h
   cases b with
   | nil=>rfl
   | cons s t=>cases h
 | cons s t ih=>
   intro b ha hb h
   cases b with
   | nil=>cases h
   | cons u v=>
     rw[List.all_cons,Bool.and_eq_true] at ha hb
     rw[zAp,zAp,List.append_assoc,List.append_assoc] at h
     have h1:=List.append_cancel_left h
     have e1:=zDd (zEy ha.1) (zFY t)
     have e2:=zDd (zEy hb.1) (zFY v)
     rw[h1,e2] at e1
     rw[e1] at h1
     have h2:=List.append_cancel_left h1
     have hs:s=u:=ByteArray.ext (Array.ext' e1.symm)
     rw[hs,ih ha.2 hb.2 h2]
end Go.Proofs.YtminjjdnmpaaoaaGreatDoor
namespace Go.Proofs.YtminjjdnmpaaoaaGreatDoor
open Go
def zAQ:Option ByteArray→List ByteArray→Bool
 | _,[]=>true
 | p,s::l=>(nameB s&&behind p s)&&zAQ (some s) l
def zCD (l:List ByteArray):Nat→Option ByteArray
 | 0=>none
 | k+1=>l[k]?
theorem zEW {l:List ByteArray} {k:Nat} {s:ByteArray} (h:l[k]?=some s):zAQ (zCD l k) (l.drop k)=((nameB s&&behind (zCD l k) s)&&zAQ (zCD l (k+1)) (l.drop (k+1))):=by
 obtain ⟨hk,e⟩:=gS.1 h
 rw[dC hk,e,zAQ]
 show _=((nameB s&&behind (zCD l k) s)&&zAQ l[k]? (l.drop (k+1)))
 rw[h]
theorem zEa {l:List ByteArray} {k:Nat} {p:Option ByteArray} (h:l.length≤k):zAQ p (l.drop k)=true:=by
 rw[dN h];rfl
theorem zC3:∀ {l:List ByteArray} {p:Option ByteArray},zAQ p l=true→∀ s∈l,nameB s=true
 | [],_,_,s,hs=>by cases hs
 | x::l,p,h,s,hs=>by
   rw[zAQ,Bool.and_eq_true,Bool.and_eq_true] at h
   rcases List.mem_cons.1 hs with rfl|hs
   ·exact h.1.1
   ·exact zC3 h.2 s hs
def zAZ (l:List Pin):List ByteArray:=l.map (·.name)
def zAE (l:List Edge):List ByteArray:=l.map (·.label)
def zeroV (v:Ver):Bool:=decide (v.major=0)&&(decide (v.minor=0)&&decide (v.patch=0))
noncomputable def zEe (n:Node) (x:Pack):Bool:=(n.name.toList==[])&&(zeroV n.ver&&(decide (n.ctx.length=0)&&eqB x zAC))
noncomputable def zDh (n:Node) (x:Pack):Bool:=packB x&&(decide (x.name=n.name)&&eqB x.ver n.ver)
noncomputable def headP (i:Nat) (n:Node) (x:Pack):Bool:=if i=0 then zEe n x else zDh n x
noncomputable def edgeP (g:List Node) (e:Edge):Bool:=decide (1≤e.to)&&(decide (e.to<(g.length:Int))&&match g[e.to.toNat]? with|some y=>decide (y.name=e.label)|none=>false)
def zA3:List Edge→ByteArray→Option Nat
 | [],_=>none
 | e::l,s=>if e.label=s then some 0 else (zA3 l s).map (·+1)
noncomputable def pinP (g:List Node) (es:List Edge) (q:Pin):Bool:=match zA3 es q.name with
 | none=>false
 | some k=>match es[k]? with
   | none=>false
   | some e=>match g[e.to.toNat]? with
     | none=>false
     | some y=>eqB y.ver q.ver
noncomputable def formP (g:List Node) (i:Nat) (n:Node) (x:Pack):Bool:=
 headP i n x&&((zAQ none (zAZ n.ctx)&&zAQ none (zAE n.edges))&&(n.edges.all (edgeP g)&&n.ctx.all (pinP g n.edges)))
noncomputable def zB7 (g:List Node):Nat→List Node→List Pack→Bool
 | i,n::l,x::m=>formP g i n x&&zB7 g (i+1) l m
 | _,[],[]=>true
 | _,_,_=>false
noncomputable def mayPl (g:List Node) (ps:List Pack):Bool:=decide (1≤g.length)&&(decide (g.length≤128)&&(decide (ps.length=g.length)&&zB7 g 0 g ps))
theorem zHn (g:List Node):∀ {l:List Node} {m:List Pack} {i:Nat},zB7 g i l m=true→∀ (j:Nat) (n:Node),l[j]?=some n→∃ x,m[j]?=some x∧formP g (i+j) n x=true
 | [],_,_,_,j,n,h=>by cases h
 | a::l,[],i,hf,j,n,h=>by simp[zB7] at hf
 | a::l,b::m,i,hf,0,n,h=>by
   rw[zB7,Bool.and_eq_true] at hf
   cases h
   exact ⟨b,rfl,hf.1⟩
 | a::l,b::m,i,hf,j+1,n,h=>by
   rw[zB7,Bool.and_eq_true] at hf
   obtain ⟨x,hx,hx2⟩:=zHn g hf.2 j n h
   exact ⟨x,hx,by rwa [show i+(j+1)=i+1+j from by omega]⟩
theorem zIm (g:List Node) {l:List Node} {m:List Pack} {k:Nat} {n:Node} {x:Pack} (hl:l[k]?=some n) (hm:m[k]?=some x):zB7 g k (l.drop k) (m.drop k)=(formP g k n x&&zB7 g (k+1) (l.drop (k+1)) (m.drop (k+1))):=by
 obtain ⟨h1,e1⟩:=gS.1 hl
 obtain ⟨h2,e2⟩:=gS.1 hm
 rw[dC h1,dC h2,e1,e2,zB7]
theorem zIl (g:List Node) {l:List Node} {m:List Pack} {k:Nat} (h1:l.length≤k) (h2:m.length≤k):zB7 g k (l.drop k) (m.drop k)=true:=by
 rw[dN h1,dN h2]
 rfl
structure Stl where
 frm:Nat
 label:ByteArray
 dst:Nat
abbrev PlSt:=List Dir×List Stl
def dirZ0:Dir:=⟨[],⟨⟨#[]⟩,⟨0,0,0⟩,[],[],[]⟩,0⟩
def dirAt (T:List Dir) (i:Nat):Dir:=T.getD i dirZ0
def zAm (T:List Dir) (i:Nat):List ByteArray:=(dirAt T i).path
noncomputable def zCE (path above:List ByteArray):Bool:=decide (above.length≤path.length)&&eqB (path.take above.length) above
def zBD (S:List Stl) (i:Nat) (s:ByteArray):Int:=match S with
 | []=>-1
 | x::l=>if x.frm=i∧x.label=s then (x.dst:Int) else zBD l i s
noncomputable def zBd (T:List Dir) (home:Nat) (s:ByteArray) (x:Stl):Bool:=decide (x.label=s)&&(zCE (zAm T x.frm) (zAm T home)&&decide ((zAm T x.dst).length≤(zAm T home).length))
noncomputable def zBq (T:List Dir) (S:List Stl) (home:Nat) (s:ByteArray):Bool:=S.any (zBd T home s)
noncomputable def zCR (old:Option (List Dir)) (inside:List ByteArray) (x:Pack):Bool:=match old with
 | none=>false
 | some o=>decide (0≤findI o inside)&&eqB (dirAt o (findI o inside).toNat).pack x
noncomputable def zDq (T:List Dir) (S:List Stl) (at_ from_:Nat) (q:Pin):Bool:=decide (0≤zBD S from_ q.name)&&decide (lookI T (at_:Int) q.name=zBD S from_ q.name)
noncomputable def seesB (g:List Node) (T:List Dir) (S:List Stl) (at_ from_:Nat):Bool:=match g[(dirAt T at_).node.toNat]? with
 | none=>false
 | some n=>n.ctx.all (zDq T S at_ from_)
noncomputable def zAv (T:List Dir) (S:List Stl) (old:Option (List Dir)) (path:List ByteArray) (s:ByteArray) (x:Pack):Nat→Int×Int→Int×Int
 | 0,st=>st
 | k+1,(best,liked)=>
   if 0≤findI T (path.take k++[s]) then (best,liked)
   else if zBq T S (findI T (path.take k)).toNat s=true then zAv T S old path s x k (best,liked)
   else zAv T S old path s x k (findI T (path.take k),if zCR old (path.take k++[s]) x=true then findI T (path.take k) else liked)
def pickI (r:Int×Int):Int:=if 0≤r.2 then r.2 else r.1
noncomputable def spotI (T:List Dir) (S:List Stl) (old:Option (List Dir)) (path:List ByteArray) (s:ByteArray) (x:Pack):Int:=pickI (zAv T S old path s x (path.length+1) (-1,-1))
structure PlIn where
 g:List Node
 ps:List Pack
 dirs:Int
 path:Int
 old:Option (List Dir)
def zAz (q:PlIn) (i:Nat):Pack:=q.ps.getD i ⟨⟨#[]⟩,⟨0,0,0⟩,[],[],[]⟩
def zAY (q:PlIn) (i:Nat):Node:=q.g.getD i ⟨⟨#[]⟩,⟨0,0,0⟩,[],[]⟩
noncomputable def putP (q:PlIn) (T:List Dir) (home node:Nat):Except Int (List Dir):=
 if q.path<((textB (zAm T home++[(zAz q node).name])).size:Int) then .error 40
 else if q.dirs≤(T.length:Int) - 1 then .error 41
 else .ok (T++[⟨zAm T home++[(zAz q node).name],zAz q node,(node:Int)⟩])
noncomputable def kindP (q:PlIn) (n:Node) (e:Edge):Nat:=if (n.ctx.any fun x=>decide (x.name=e.label))=true then 1 else if (zAY q e.to.toNat).ctx.length=0 then 2 else 3
noncomputable def zA0 (q:PlIn) (st:PlSt) (at_:Nat) (kind:Nat) (e:Edge):Bool:=
 decide (0≤lookI st.1 (at_:Int) e.label)&&(decide ((dirAt st.1 (lookI st.1 (at_:Int) e.label).toNat).node=e.to)&&(decide (kind≠3)||seesB q.g st.1 st.2 (lookI st.1 (at_:Int) e.label).toNat at_))
noncomputable def homeP (q:PlIn) (st:PlSt) (at_:Nat) (kind:Nat) (e:Edge):Int:=
 if kind=2 then spotI st.1 st.2 q.old (zAm st.1 at_) e.label (zAz q e.to.toNat) else (at_:Int)
noncomputable def stepE (q:PlIn) (at_:Nat) (kind:Nat) (e:Edge) (st:PlSt):Except Int PlSt:=
 if zA0 q st at_ kind e=true then .ok (st.1,st.2++[⟨at_,e.label,(lookI st.1 (at_:Int) e.label).toNat⟩])
 else if kind=1 then .error 33
 else match putP q st.1 (homeP q st at_ kind e).toNat e.to.toNat with
  | .error c=>.error c
  | .ok T=>.ok (T,st.2++[⟨at_,e.label,st.1.length⟩])
noncomputable def zAh (q:PlIn) (at_:Nat) (n:Node) (kind:Nat):List Edge→PlSt→Except Int PlSt
 | [],st=>.ok st
 | e::l,st=>if kindP q n e=kind then (match stepE q at_ kind e st with
    | .error c=>.error c
    | .ok st'=>zAh q at_ n kind l st') else zAh q at_ n kind l st
noncomputable def zAt (q:PlIn) (at_:Nat) (n:Node):List Nat→PlSt→Except Int PlSt
 | [],st=>.ok st
 | k::l,st=>match zAh q at_ n k n.edges st with
   | .error c=>.error c
   | .ok st'=>zAt q at_ n l st'
noncomputable def dirP (q:PlIn) (at_:Nat) (st:PlSt):Except Int PlSt:=zAt q at_ (zAY q (dirAt st.1 at_).node.toNat) [1,2,3] st
noncomputable def dirsP (q:PlIn):Nat→Nat→PlSt→Except Int PlSt
 | 0,_,st=>.ok st
 | f+1,at_,st=>if at_<st.1.length then (match dirP q at_ st with
    | .error c=>.error c
    | .ok st'=>dirsP q f (at_+1) st') else .ok st
noncomputable def zC6:Option (List Dir)→Bool
 | none=>false
 | some o=>decide (zBI o≠0)
noncomputable def zBH (q:PlIn):Except Int PlSt:=
 if q.dirs<1∨256<q.dirs∨q.path<1∨1024<q.path then .error 1
 else if zC6 q.old=true then .error 42
 else if mayPl q.g q.ps=false then .error 33
 else dirsP q 258 0 ([dirZ0],[])
