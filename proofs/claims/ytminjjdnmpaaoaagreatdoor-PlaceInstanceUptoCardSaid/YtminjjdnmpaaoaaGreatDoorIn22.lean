/- The document's wants: those of a list more, those of a package: walked. -/
import Derived.Test.YtminjjdnmpaaoaaGreatDoorIn21
import Derived.Deep.DeepHandedRow
import Derived.Test.YtminjjdnmpaaoaaGreatDoorIn12
import Derived.Test.YtminjjdnmpaaoaaGreatDoorIn20
import Derived.Test.YtminjjdnmpaaoaaGreatDoorAl
set_option linter.all false
set_option maxHeartbeats 6400000
set_option maxRecDepth 100000
namespace Go.Proofs.YtminjjdnmpaaoaaGreatDoor
open Go.Rows Go.RowKit Go.Shelf Go.Sort
theorem zDo (l:List Want) (x:Want):(zBl l x).length=l.length+1:=by
 unfold zBl
 rw[List.length_append,List.length_cons,List.length_take,List.length_drop]
 omega
theorem zAy (m:Mani) (kd:Int):∀ (ds:List Dep) (l:List Want),(zAI m kd ds l).length=l.length+ds.length:=by
 intro ds
 induction ds with
 | nil=>intro l;rfl
 | cons d ds ih=>intro l;rw[zAI,ih,zDo,List.length_cons];omega
theorem zIV {m:Mani} {kd:Int} {ds:List Dep} {k:Nat} {d:Dep} (hd:ds[k]?=some d) (l:List Want):zAI m kd (ds.drop k) l=zAI m kd (ds.drop (k+1)) (zBl l ⟨d.name,kd,zBr m d⟩):=by
 obtain ⟨h,e⟩:=gS.1 hd
 rw[dC h,e,zAI]
theorem zID {m:Mani} {kd:Int} {ds:List Dep} {k:Nat} (h:ds.length≤k) (l:List Want):zAI m kd (ds.drop k) l=l:=by rw[dN h];rfl
theorem zJj (A:Option Addr) (n c:Nat) (l:List Want) (dA:Option Addr) (dn dc:Nat) (ds:List Dep) (kd:Int) (m:Mani) (u:Value) (w:World) (S:Nat→Prop) (hl:SlV rWant w S l (.slice A n c)) (hd:SlV rDep w S ds (.slice dA dn dc)) (hlz:l.length+ds.length≤4194304) (hkd:I64 kd) (hm:ManiV w S m u) :
  Calls Tryz.prog 168 #[.slice A n c,.slice dA dn dc,.int .i64 kd,u] w fun e w'=>(∃ B k,e=.returned (.slice B (zAI m kd ds l).length k)∧SlV rWant w' (fun b=>S b∨w.heap.size≤b) (zAI m kd ds l) (.slice B (zAI m kd ds l).length k))∧Below w.heap.size w w':=by
 have HM:=cH hm
 obtain ⟨A0,n0,c0,A1,n1,c1,A2,n2,c2,A3,n3,c3,rfl,_,_,_,_⟩:=hm
 have hn:=hl.n_eq
 have hdn:=hd.n_eq
 have hdc:=hd.cap_le
 unfold maxLen at hdc
 have HD:=cH hd
 have HL:=cH hl
 have Hkd:=cH hkd
 have Hz0:Hid (ds.length=dn):=hdn.symm
 have hdz:dn≤4194304:=by omega
 have Hlz:=cH hlz
 have HR:Hid (zAI m kd ds l=zAI m kd (ds.drop 0) l):=rfl
 obtain ⟨R,hR⟩:∃ R,R=zAI m kd ds l:=⟨_,rfl⟩
 rw[←hR] at HR ⊢
 have Hn:=cH hn
 clear hl hd hlz hkd hn hdn hR hdc
 obtain ⟨w0,hw0⟩:∃ w0,w0=w.alloc (.cells #[.slice A0 n0 c0,.slice A1 n1 c1,.slice A2 n2 c2,.slice A3 n3 c3] 28):=⟨_,rfl⟩
 have HB0:Hid (Below w.heap.size w w0):=by unfold Hid;rw[hw0];exact bal (bR _ _) _
 have hq0:w0.heap[w.heap.size]?=some (.cells #[.slice A0 n0 c0,.slice A1 n1 c1,.slice A2 n2 c2,.slice A3 n3 c3] 28 (0,0)):=by rw[hw0];exact zAD _ _
 obtain ⟨g,hg⟩:∃ g,g=w.heap.size:=⟨_,rfl⟩
 rw[←hg] at hq0
 have Hbox:Hid (∀ W,Below w0.heap.size w0 W→W.cell? ⟨g,0,none⟩=some (.slice A0 n0 c0)∧W.cell? ⟨g,1,none⟩=some (.slice A1 n1 c1)∧W.cell? ⟨g,2,none⟩=some (.slice A2 n2 c2)∧W.cell? ⟨g,3,none⟩=some (.slice A3 n3 c3)):=fun W hW=>by
  have h:=(hW.block _ (aS.1 hq0).1).trans hq0
  exact ⟨cO _ _ 0 _ _ _ h,cO _ _ 1 _ _ _ h,cO _ _ 2 _ _ _ h,cO _ _ 3 _ _ _ h⟩
 clear hq0
 go_enter Tryz.func168,Tryz.ntmps168
 go_wp2_with fail
 rw[←hw0,←hg]
 clear hw0 hg
 go_loopw [0,9] (fun lv iv wr=>∃ (k:Nat) (Lk:List Want) (B:Option Addr) (q:Nat),k≤dn∧lv=.slice B (l.length+k) q∧iv=.int .i64 k∧Hid (Lk.length=l.length+k)∧Hid (R=zAI m kd (ds.drop k) Lk)∧Hid (SlV rWant wr (fun b=>S b∨w.heap.size≤b) Lk (.slice B (l.length+k) q))∧Hid (Below w0.heap.size w0 wr)) (fun _ iv _=>dn - (intOf iv).toNat)
 case atStart=>exact ⟨0,l,A,c,nZ _,by rw[Hn.out];rfl,rfl,cH rfl,HR,cH (by have:=(HL.out.belowSize HB0.out).more (S':=fun b=>S b∨w.heap.size≤b) fun b hb _=>Or.inl hb;rw[Hn.out] at this;exact this),bR _ _⟩
 case round=>
  clear HR HL
  obtain ⟨k,Lk,B,q,hk,rfl,rfl,Hlk,heq,HLk,hB⟩:=hrel
  have hk0:(0:Int)≤(k:Int):=by omega
  have HBw:=cH (bot HB0.out hB.out)
  by_cases hlt:k<dn
  case neg=>
   have He:Hid (R=Lk):=by unfold Hid;rw[heq.out,zID (by have:=Hz0.out;omega)]
   have hI:¬(k:Int)<(dn:Int):=by omega
   have HLe:Hid (SlV rWant wr (fun b=>S b∨w.heap.size≤b) R (.slice B R.length q)):=by unfold Hid;rw[He.out,Hlk.out];exact HLk.out
   have Hrl:Hid (R.length=l.length+k):=by unfold Hid;rw[He.out,Hlk.out]
   clear heq HLk He
   generalize l.length+k=N at *
   go_wp2_with fail
   go_ret
   exact ⟨⟨B,q,(by rw[Hrl.out];try rfl),HLe.out⟩,HBw.out⟩
  have hkI:(k:Int)<(dn:Int):=by omega
  obtain ⟨d,hd⟩:∃ d,ds[k]?=some d:=⟨_,gE (by have:=Hz0.out;omega)⟩
  obtain ⟨b,o,cs,hA,_,hb,⟨s0,rfl,hsz,hrg⟩,hcell⟩:=HD.out.elem hd
  obtain ⟨rA,rc,rfl,_,_⟩:=hrg.val
  have Hc:Hid (∀ W,Below w.heap.size w W→W.cell? ⟨b,o+k * 2,none⟩=some (.string d.name)∧W.cell? ⟨b,o+k * 2+1,none⟩=some (.slice rA d.range.length rc)):=fun W hW=>⟨zAA hW (hcell 0 _ rfl) hb,zAA hW (hcell 1 _ rfl) hb⟩
  have HRg:Hid (∀ W,Below wr.heap.size wr W→Calls Tryz.prog 182 #[.agg #[.slice A0 n0 c0,.slice A1 n1 c1,.slice A2 n2 c2,.slice A3 n3 c3],.agg #[.string d.name,.slice rA d.range.length rc]] W fun e w'=>(∃ B k c,e=.returned (.slice B k c)∧SlV rSpn w' S (zBr m d) (.slice B k c))∧Below W.heap.size W w'):=fun W hW=>by
   refine (zGz m d _ rA d.range.length rc W S (HM.out.keep (bot HBw.out hW)) (hrg.belowSize (bot HBw.out hW))).mono ?_
   rintro e w' ⟨⟨B,k,c,h1,h2⟩,h3⟩
   exact ⟨⟨B,k,c,h1,h2.belowSize h3⟩,h3⟩
  have HPl:Hid (∀ W B2 k2 c2,Below wr.heap.size wr W→SlV rSpn W S (zBr m d) (.slice B2 k2 c2)→Calls Tryz.prog 181 #[.slice B (l.length+k) q,.agg #[.string d.name,.int .i64 kd,.slice B2 k2 c2]] W fun e w'=>(∃ B m',e=.returned (.slice B (l.length+(k+1)) m')∧SlV rWant w' (fun b=>S b∨w.heap.size≤b) (zBl Lk ⟨d.name,kd,zBr m d⟩) (.slice B (l.length+(k+1)) m'))∧Below W.heap.size W w'):=fun W B2 k2 c2 hW hs=>by
   refine (zJU B (l.length+k) q Lk ⟨d.name,kd,zBr m d⟩ B2 k2 c2 W (fun b=>S b∨w.heap.size≤b) (HLk.out.belowSize hW) (by have:=Hlk.out;have:=Hlz.out;have:=Hz0.out;omega) hsz Hkd.out (hs.more fun b hb _=>Or.inl hb)).mono ?_
   rintro e w' ⟨B,m',h1,h2,h3⟩
   have hlen:(zBl Lk ⟨d.name,kd,zBr m d⟩).length=l.length+(k+1):=by rw[zDo,Hlk.out];omega
   rw[hlen] at h1 h2
   have hwz:w.heap.size≤W.heap.size:=(bot HBw.out hW).size
   exact ⟨⟨B,m',h1,h2.more fun b hb _=>by rcases hb with hb|hb;exact hb;exact Or.inr (by omega)⟩,h3⟩
  have Hlen:Hid ((zBl Lk ⟨d.name,kd,zBr m d⟩).length=l.length+(k+1)):=by unfold Hid;rw[zDo,Hlk.out];omega
  have He:Hid (R=zAI m kd (ds.drop (k+1)) (zBl Lk ⟨d.name,kd,zBr m d⟩)):=by unfold Hid;rw[heq.out,zIV hd]
  obtain ⟨x0,x1⟩:=Hc.out wr HBw.out
  clear hcell hsz hrg hd heq HLk Hlk
  subst hA
  obtain ⟨nm,dr⟩:=d
  simp only at Hc HRg HPl Hlen He x0 x1
  generalize dr.length=rn at *
  generalize zBr m ⟨nm,dr⟩=rg at *
  obtain ⟨wo,hwo⟩:∃ wo,wo=wr:=⟨_,rfl⟩
  have HBo:Hid (Below w0.heap.size w0 wr):=hB
  obtain ⟨y0,y1,y2,y3⟩:=Hbox.out wr hB.out
  have Hall:Hid (∀ W,Below wr.heap.size wr W→(W.cell? ⟨b,o+k * 2,none⟩=some (.string nm)∧W.cell? ⟨b,o+k * 2+1,none⟩=some (.slice rA rn rc))∧W.cell? ⟨g,0,none⟩=some (.slice A0 n0 c0)∧W.cell? ⟨g,1,none⟩=some (.slice A1 n1 c1)∧W.cell? ⟨g,2,none⟩=some (.slice A2 n2 c2)∧W.cell? ⟨g,3,none⟩=some (.slice A3 n3 c3)):=fun W hW=>⟨Hc.out W (bot HBw.out hW),Hbox.out W (bot hB.out hW)⟩
  clear hwo
  generalize l.length+k=N at *
  obtain ⟨N1,hN1⟩:∃ N1,N1=l.length+(k+1):=⟨_,rfl⟩
  rw[←hN1] at HPl Hlen
  have HN1:=cH hN1
  clear hN1
  go_upto_region 4 with (fail)
  go_region_held3 (fun W=>((W.cell? ⟨b,o+k * 2,none⟩=some (.string nm)∧W.cell? ⟨b,o+k * 2+1,none⟩=some (.slice rA rn rc))∧W.cell? ⟨g,0,none⟩=some (.slice A0 n0 c0)∧W.cell? ⟨g,1,none⟩=some (.slice A1 n1 c1)∧W.cell? ⟨g,2,none⟩=some (.slice A2 n2 c2)∧W.cell? ⟨g,3,none⟩=some (.slice A3 n3 c3))∧Below wr.heap.size wr W)
   (first
     | (with_reducible exact ⟨Hall.out _ (bR _ _).drew,(bR _ _).drew⟩)
     | (with_reducible exact ⟨Hall.out _ hB3,hB3⟩)
     | (with_reducible exact ⟨Hall.out _ hB2,hB2⟩))
   (first
     | (go_at_call 182;go_split_ands;with_reducible refine (HRg.out _ (by assumption)).mono ?_;rintro e w2 ⟨⟨B2,k2,c2,rfl,hrg⟩,hb2⟩;have hB2:Below wr.heap.size wr w2:=bot (by assumption) hb2)
     | (go_at_call 181;go_split_ands;with_reducible refine (HPl.out _ _ _ _ (by assumption) hrg).mono ?_;rintro e w3 ⟨⟨B3,m3,rfl,hsl⟩,hb3⟩;have hB3:Below wr.heap.size wr w3:=bot (by assumption) hb3))
  all_goals
   have HB3:=cH (bot hB.out hB3)
   have HS3:=cH hsl
   clear hsl hrg hb2 hb3 hB2 hB3
   go_wp2_with fail
   go_roundw
   case rel=>
    have h:=HN1.out
    subst h
    exact ⟨k+1,_,B3,m3,by omega,rfl,by go_num,Hlen,He,HS3,HB3⟩
   case measure=>simp[intOf];omega
theorem zMz (m:Mani) (p:Pack):(ofW m p).length=p.deps.length+p.opts.length:=by unfold ofW;rw[zAy,zAy];simp
theorem zCa {A:Option Addr} {n c:Nat} {l:List Want} {dA:Option Addr} {dn dc:Nat} {ds:List Dep} {kd:Int} {m:Mani} {u:Value} {w W:World} {S:Nat→Prop} (hW:Below w.heap.size w W) (hl:SlV rWant W (fun b=>S b∨w.heap.size≤b) l (.slice A n c)) (hd:SlV rDep w S ds (.slice dA dn dc)) (hlz:l.length+ds.length≤4194304) (hkd:I64 kd) (hm:ManiV w S m u) :
  Calls Tryz.prog 168 #[.slice A n c,.slice dA dn dc,.int .i64 kd,u] W fun e w'=>(∃ B k,e=.returned (.slice B (zAI m kd ds l).length k)∧SlV rWant w' (fun b=>S b∨w.heap.size≤b) (zAI m kd ds l) (.slice B (zAI m kd ds l).length k))∧Below W.heap.size W w':=by
 have hm':ManiV W (fun b=>S b∨w.heap.size≤b) m u:=by
  obtain ⟨A0,n0,c0,A1,n1,c1,A2,n2,c2,A3,n3,c3,h,h0,h1,h2,h3⟩:=hm.keep hW
  exact ⟨A0,n0,c0,A1,n1,c1,A2,n2,c2,A3,n3,c3,h,h0.more fun _ h _=>Or.inl h,h1.more fun _ h _=>Or.inl h,h2.more fun _ h _=>Or.inl h,h3.more fun _ h _=>Or.inl h⟩
 refine (zJj A n c l dA dn dc ds kd m u W (fun b=>S b∨w.heap.size≤b) hl ((hd.belowSize hW).more fun _ h _=>Or.inl h) hlz hkd hm').mono ?_
 rintro e w' ⟨⟨B,k,h1,h2⟩,h3⟩
 have:=hW.size
 exact ⟨⟨B,k,h1,h2.more fun b hb _=>by rcases hb with hb|hb;exact hb;exact Or.inr (by omega)⟩,h3⟩
theorem zNQ (p:Pack) (u:Value) (m:Mani) (v:Value) (w:World) (S:Nat→Prop) (hp:PackV w S p u) (hsm:zBY p) (hm:ManiV w S m v) :
  Calls Tryz.prog 149 #[u,v] w fun e w'=>(∃ B k,e=.returned (.slice B (ofW m p).length k)∧SlV rWant w' (fun b=>S b∨w.heap.size≤b) (ofW m p) (.slice B (ofW m p).length k))∧Below w.heap.size w w':=by
 have HM:=cH hm
 obtain ⟨A0,n0,c0,A1,n1,c1,A2,n2,c2,A3,n3,c3,rfl,_,_,_,_⟩:=hm
 obtain ⟨dA,pA,oA,dc,pc,oc,rfl,hnm,h1,h2,h3⟩:=hp.open_
 have HA1:Hid (∀ W,Below w.heap.size w W→Calls Tryz.prog 168 #[.slice none 0 0,.slice dA p.deps.length dc,.int .i64 1,.agg #[.slice A0 n0 c0,.slice A1 n1 c1,.slice A2 n2 c2,.slice A3 n3 c3]] W fun e w'=>(∃ B k,e=.returned (.slice B (zAI m 1 p.deps []).length k)∧SlV rWant w' (fun b=>S b∨w.heap.size≤b) (zAI m 1 p.deps []) (.slice B (zAI m 1 p.deps []).length k))∧Below W.heap.size W w'):=fun W hW=>
  zCa hW (SlV.nil_ _ _ _) h1 (by have:=hsm.1.1;simp;omega) (by unfold I64;decide) HM.out
 have HA2:Hid (∀ W B k,Below w.heap.size w W→SlV rWant W (fun b=>S b∨w.heap.size≤b) (zAI m 1 p.deps []) (.slice B (zAI m 1 p.deps []).length k)→Calls Tryz.prog 168 #[.slice B (zAI m 1 p.deps []).length k,.slice oA p.opts.length oc,.int .i64 2,.agg #[.slice A0 n0 c0,.slice A1 n1 c1,.slice A2 n2 c2,.slice A3 n3 c3]] W fun e w'=>(∃ B k,e=.returned (.slice B (ofW m p).length k)∧SlV rWant w' (fun b=>S b∨w.heap.size≤b) (ofW m p) (.slice B (ofW m p).length k))∧Below W.heap.size W w'):=fun W B k hW hl=>
  zCa hW hl h3 (by have:=hsm.1.1;have:=hsm.2.2.1;rw[zAy];simp;omega) (by unfold I64;decide) HM.out
 obtain ⟨M,hM⟩:∃ M,M=(ofW m p).length:=⟨_,rfl⟩
 rw[←hM] at HA2 ⊢
 generalize ofW m p=R at *
 generalize (zAI m 1 p.deps []).length=N1 at *
 generalize zAI m 1 p.deps []=L1 at *
 clear hM hnm h1 h2 h3 hsm hp
 obtain ⟨pn,⟨x1,x2,x3⟩,pd,pp,po⟩:=p
 simp only at HA1 HA2 ⊢
 generalize pd.length=l1 at *
 generalize pp.length=l2 at *
 generalize po.length=l3 at *
 obtain ⟨w0,hw0⟩:∃ w0,w0=(w.alloc (.cells #[.string pn,.int .i64 x1,.int .i64 x2,.int .i64 x3,.slice dA l1 dc,.slice pA l2 pc,.slice oA l3 oc] 52)).alloc (.cells #[.slice A0 n0 c0,.slice A1 n1 c1,.slice A2 n2 c2,.slice A3 n3 c3] 28):=⟨_,rfl⟩
 have hw1:(w.alloc (.cells #[.string pn,.int .i64 x1,.int .i64 x2,.int .i64 x3,.slice dA l1 dc,.slice pA l2 pc,.slice oA l3 oc] 52)).heap.size=w.heap.size+1:=by simp
 have HB0:Hid (Below w.heap.size w w0):=by unfold Hid;rw[hw0];exact bal (bal (bR _ _) _) _
 have hqX:w0.heap[w.heap.size]?=some (.cells #[.string pn,.int .i64 x1,.int .i64 x2,.int .i64 x3,.slice dA l1 dc,.slice pA l2 pc,.slice oA l3 oc] 52 (0,0)):=by
  rw[hw0]
  exact ((bal (bR _ _) _).block _ (by rw[hw1];omega)).trans (zAD _ _)
 have hqY:w0.heap[w.heap.size+1]?=some (.cells #[.slice A0 n0 c0,.slice A1 n1 c1,.slice A2 n2 c2,.slice A3 n3 c3] 28 (0,0)):=by
  rw[hw0,←hw1]
  exact zAD _ _
 obtain ⟨PB,hPB⟩:∃ k,k=w.heap.size:=⟨_,rfl⟩
 obtain ⟨MB,hMB⟩:∃ k,k=w.heap.size+1:=⟨_,rfl⟩
 rw[←hPB] at hqX
 rw[←hMB] at hqY
 have Hall:Hid (∀ W,Below w0.heap.size w0 W→W.cell? ⟨PB,4,none⟩=some (.slice dA l1 dc)∧W.cell? ⟨PB,6,none⟩=some (.slice oA l3 oc)∧W.cell? ⟨MB,0,none⟩=some (.slice A0 n0 c0)∧W.cell? ⟨MB,1,none⟩=some (.slice A1 n1 c1)∧W.cell? ⟨MB,2,none⟩=some (.slice A2 n2 c2)∧W.cell? ⟨MB,3,none⟩=some (.slice A3 n3 c3)):=fun W hW=>by
  have h1:=(hW.block _ (aS.1 hqX).1).trans hqX
  have h2:=(hW.block _ (aS.1 hqY).1).trans hqY
  exact ⟨cO _ _ 4 _ _ _ h1,cO _ _ 6 _ _ _ h1,cO _ _ 0 _ _ _ h2,cO _ _ 1 _ _ _ h2,cO _ _ 2 _ _ _ h2,cO _ _ 3 _ _ _ h2⟩
 obtain ⟨q4,q6,y0,y1,y2,y3⟩:=Hall.out w0 (bR _ _)
 clear hqX hqY hw1 HM
 go_enter Tryz.func149,Tryz.ntmps149
 go_upto_region 1 with (fail)
 rw[←hw0,←hMB,←hPB]
 clear hw0 hMB hPB
 go_region_held3 (fun W=>(W.cell? ⟨PB,4,none⟩=some (.slice dA l1 dc)∧W.cell? ⟨PB,6,none⟩=some (.slice oA l3 oc)∧W.cell? ⟨MB,0,none⟩=some (.slice A0 n0 c0)∧W.cell? ⟨MB,1,none⟩=some (.slice A1 n1 c1)∧W.cell? ⟨MB,2,none⟩=some (.slice A2 n2 c2)∧W.cell? ⟨MB,3,none⟩=some (.slice A3 n3 c3))∧Below w0.heap.size w0 W)
  (first
    | (with_reducible exact ⟨Hall.out _ (bR _ _).drew,(bR _ _).drew⟩)
    | (with_reducible exact ⟨Hall.out _ hB3,hB3⟩)
    | (with_reducible exact ⟨Hall.out _ hB2,hB2⟩))
  (first
    | (go_at_call 168;go_split_ands;with_reducible refine (HA1.out _ (bot HB0.out (by assumption))).mono ?_;rintro e w2 ⟨⟨B2,k2,rfl,hsl⟩,hb2⟩;have hB2:Below w0.heap.size w0 w2:=bot (by assumption) hb2)
    | (go_at_call 168;go_split_ands;with_reducible refine (HA2.out _ _ _ (bot HB0.out (by assumption)) hsl).mono ?_;rintro e w3 ⟨⟨B3,k3,rfl,hs3⟩,hb3⟩;have hB3:Below w0.heap.size w0 w3:=bot (by assumption) hb3))
 all_goals
  have HB3:=cH (bot HB0.out hB3)
  have HS3:=cH hs3
  clear hsl hs3 hb2 hb3 hB2 hB3
  go_wp2_with fail
  go_ret
  exact ⟨⟨B3,k3,rfl,HS3.out⟩,HB3.out⟩
theorem zHj (m:Mani) (dev:Bool):(zBM m dev).length≤m.deps.length+m.dev.length+m.opts.length:=by
 unfold zBM
 cases dev
 ·rw[if_neg (by decide),zAy,zAy];simp
 ·rw[if_pos rfl,zAy,zAy,zAy];simp
theorem zJn (m:Mani) (v:Value) (dev:Bool) (w:World) (S:Nat→Prop) (hm:ManiV w S m v) (hmz:m.deps.length≤1048576∧m.dev.length≤1048576∧m.opts.length≤1048576) :
  Calls Tryz.prog 148 #[v,.bool dev] w fun e w'=>(∃ B k,e=.returned (.slice B (zBM m dev).length k)∧SlV rWant w' (fun b=>S b∨w.heap.size≤b) (zBM m dev) (.slice B (zBM m dev).length k))∧Below w.heap.size w w':=by
 have HM:=cH hm
 obtain ⟨A0,n0,c0,A1,n1,c1,A2,n2,c2,A3,n3,c3,rfl,h0,h1,h2,_⟩:=hm
 obtain ⟨hz0,hz1,hz2⟩:=hmz
 have HA1:Hid (∀ W,Below w.heap.size w W→Calls Tryz.prog 168 #[.slice none 0 0,.slice A0 n0 c0,.int .i64 1,.agg #[.slice A0 n0 c0,.slice A1 n1 c1,.slice A2 n2 c2,.slice A3 n3 c3]] W fun e w'=>(∃ B k,e=.returned (.slice B (zAI m 1 m.deps []).length k)∧SlV rWant w' (fun b=>S b∨w.heap.size≤b) (zAI m 1 m.deps []) (.slice B (zAI m 1 m.deps []).length k))∧Below W.heap.size W w'):=fun W hW=>
  zCa hW (SlV.nil_ _ _ _) h0 (by simp;omega) (by unfold I64;decide) HM.out
 have HA2:Hid (∀ W B k,Below w.heap.size w W→SlV rWant W (fun b=>S b∨w.heap.size≤b) (zAI m 1 m.deps []) (.slice B (zAI m 1 m.deps []).length k)→Calls Tryz.prog 168 #[.slice B (zAI m 1 m.deps []).length k,.slice A1 n1 c1,.int .i64 1,.agg #[.slice A0 n0 c0,.slice A1 n1 c1,.slice A2 n2 c2,.slice A3 n3 c3]] W fun e w'=>(∃ B k,e=.returned (.slice B (zAI m 1 m.dev (zAI m 1 m.deps [])).length k)∧SlV rWant w' (fun b=>S b∨w.heap.size≤b) (zAI m 1 m.dev (zAI m 1 m.deps [])) (.slice B (zAI m 1 m.dev (zAI m 1 m.deps [])).length k))∧Below W.heap.size W w'):=fun W B k hW hl=>
  zCa hW hl h1 (by rw[zAy];simp;omega) (by unfold I64;decide) HM.out
 have HA3:Hid (∀ (L:List Want) W B n k,L.length≤2097152→Below w.heap.size w W→SlV rWant W (fun b=>S b∨w.heap.size≤b) L (.slice B n k)→Calls Tryz.prog 168 #[.slice B n k,.slice A2 n2 c2,.int .i64 2,.agg #[.slice A0 n0 c0,.slice A1 n1 c1,.slice A2 n2 c2,.slice A3 n3 c3]] W fun e w'=>(∃ B k,e=.returned (.slice B (zAI m 2 m.opts L).length k)∧SlV rWant w' (fun b=>S b∨w.heap.size≤b) (zAI m 2 m.opts L) (.slice B (zAI m 2 m.opts L).length k))∧Below W.heap.size W w'):=fun L W B n k hLz hW hl=>
  zCa hW hl h2 (by omega) (by unfold I64;decide) HM.out
 have HE1:Hid (dev=false→zBM m dev=zAI m 2 m.opts (zAI m 1 m.deps [])):=fun h=>by unfold zBM;rw[h];rfl
 have HE2:Hid (dev=true→zBM m dev=zAI m 2 m.opts (zAI m 1 m.dev (zAI m 1 m.deps []))):=fun h=>by unfold zBM;rw[h];rfl
 have HZ1:Hid ((zAI m 1 m.deps []).length≤2097152):=by unfold Hid;rw[zAy];simp;omega
 have HZ2:Hid ((zAI m 1 m.dev (zAI m 1 m.deps [])).length≤2097152):=by unfold Hid;rw[zAy,zAy];simp;omega
 generalize zBM m dev=R at *
 obtain ⟨M,hMl⟩:∃ M,M=R.length:=⟨_,rfl⟩
 rw[←hMl]
 have HMl:=cH hMl
 clear hMl
 generalize zAI m 1 m.dev (zAI m 1 m.deps [])=L2 at *
 generalize zAI m 1 m.deps []=L1 at *
 clear h0 h1 h2 hz0 hz1 hz2 HM
 obtain ⟨N1,hN1⟩:∃ k,k=L1.length:=⟨_,rfl⟩
 obtain ⟨N2,hN2⟩:∃ k,k=L2.length:=⟨_,rfl⟩
 rw[←hN1] at HA1 HA2
 rw[←hN2] at HA2
 clear hN1 hN2
 obtain ⟨w0,hw0⟩:∃ w0,w0=w.alloc (.cells #[.slice A0 n0 c0,.slice A1 n1 c1,.slice A2 n2 c2,.slice A3 n3 c3] 28):=⟨_,rfl⟩
 have HB0:Hid (Below w.heap.size w w0):=by unfold Hid;rw[hw0];exact bal (bR _ _) _
 have hqY:w0.heap[w.heap.size]?=some (.cells #[.slice A0 n0 c0,.slice A1 n1 c1,.slice A2 n2 c2,.slice A3 n3 c3] 28 (0,0)):=by rw[hw0];exact zAD _ _
 obtain ⟨MB,hMB⟩:∃ k,k=w.heap.size:=⟨_,rfl⟩
 rw[←hMB] at hqY
 have Hall:Hid (∀ W,Below w0.heap.size w0 W→W.cell? ⟨MB,0,none⟩=some (.slice A0 n0 c0)∧W.cell? ⟨MB,1,none⟩=some (.slice A1 n1 c1)∧W.cell? ⟨MB,2,none⟩=some (.slice A2 n2 c2)∧W.cell? ⟨MB,3,none⟩=some (.slice A3 n3 c3)):=fun W hW=>by
  have h2:=(hW.block _ (aS.1 hqY).1).trans hqY
  exact ⟨cO _ _ 0 _ _ _ h2,cO _ _ 1 _ _ _ h2,cO _ _ 2 _ _ _ h2,cO _ _ 3 _ _ _ h2⟩
 obtain ⟨y0,y1,y2,y3⟩:=Hall.out w0 (bR _ _)
 clear hqY
 go_enter Tryz.func148,Tryz.ntmps148
 go_upto_region 1 with (fail)
 rw[←hw0,←hMB]
 clear hw0 hMB
 go_wp2_with fail
 refine (HA1.out w0 HB0.out).mono ?_
 rintro e w1 ⟨⟨B1,k1,rfl,hs1⟩,hb1⟩
 have HS1:=cH hs1
 have HB1:=cH hb1
 clear hs1 hb1 y0 y1 y2 y3 HA1
 obtain ⟨y0,y1,y2,y3⟩:=Hall.out w1 HB1.out
 cases hdv:dev with
 | false=>
   have He:=cH (HE1.out hdv)
   subst hdv
   clear HE1 HE2 HA2
   go_wp2_with fail
   refine (HA3.out L1 w1 B1 N1 k1 HZ1.out (bot HB0.out HB1.out) HS1.out).mono ?_
   rintro e w3 ⟨⟨B3,k3,rfl,hs3⟩,hb3⟩
   rw[←He.out,←HMl.out] at hs3 ⊢
   have HS3:=cH hs3
   have HB3:=cH (bot (bot HB0.out HB1.out) hb3)
   clear hs3 hb3 y0 y1 y2 y3 HA3 He
   go_wp2_with fail
   go_ret
   exact ⟨⟨B3,k3,rfl,HS3.out⟩,HB3.out⟩
 | true=>
   have He:=cH (HE2.out hdv)
   subst hdv
   clear HE1 HE2
   go_wp2_with fail
   refine (HA2.out w1 B1 k1 (bot HB0.out HB1.out) HS1.out).mono ?_
   rintro e w2 ⟨⟨B2,k2,rfl,hs2⟩,hb2⟩
   have HS2:=cH hs2
   have HB2:=cH (bot HB1.out hb2)
   clear hs2 hb2 y0 y1 y2 y3 HA2 HS1
   obtain ⟨y0,y1,y2,y3⟩:=Hall.out w2 HB2.out
   go_wp2_with fail
   refine (HA3.out L2 w2 B2 N2 k2 HZ2.out (bot HB0.out HB2.out) HS2.out).mono ?_
   rintro e w3 ⟨⟨B3,k3,rfl,hs3⟩,hb3⟩
   rw[←He.out,←HMl.out] at hs3 ⊢
   have HS3:=cH hs3
   have HB3:=cH (bot (bot HB0.out HB2.out) hb3)
   clear hs3 hb3 y0 y1 y2 y3 HA3 He
   go_wp2_with fail
   go_ret
   exact ⟨⟨B3,k3,rfl,HS3.out⟩,HB3.out⟩
theorem zFw (m:Mani) (l:List Dep):(zBa m l).length=l.length:=by unfold zBa;simp
theorem zIL {m:Mani} {l:List Dep} {k:Nat} {d:Dep} (hd:l[k]?=some d):(zBa m l).take (k+1)=(zBa m l).take k++[⟨d.name,zBr m d⟩]:=by
 unfold zBa
 rw[List.take_add_one,List.getElem?_map,hd];rfl
theorem ManiV.moreV {w:World} {S T:Nat→Prop} {m:Mani} {v:Value} (h:ManiV w S m v) (hk:∀ b,S b→b<w.heap.size→T b):ManiV w T m v:=by
 obtain ⟨A0,n0,c0,A1,n1,c1,A2,n2,c2,A3,n3,c3,h,h0,h1,h2,h3⟩:=h
 exact ⟨A0,n0,c0,A1,n1,c1,A2,n2,c2,A3,n3,c3,h,h0.more hk,h1.more hk,h2.more hk,h3.more hk⟩
theorem zKM (p:Pack) (u:Value) (m:Mani) (v:Value) (w:World) (S:Nat→Prop) (hp:PackV w S p u) (hsm:zBY p) (hm:ManiV w S m v) :
  Calls Tryz.prog 177 #[u,v] w fun e w'=>(∃ B k,e=.returned (.slice B (zBa m p.peers).length k)∧SlV rDep w' (fun b=>S b∨w.heap.size≤b) (zBa m p.peers) (.slice B (zBa m p.peers).length k))∧Below w.heap.size w w':=by
 obtain ⟨T,hT⟩:∃ T:Nat→Prop,T=fun b=>S b∧b<w.heap.size:=⟨_,rfl⟩
 have HT:Hid (∀ b,T b↔S b∧b<w.heap.size):=fun b=>by rw[hT]
 clear hT
 have HM:Hid (ManiV w T m v):=hm.moreV fun b hb hl=>(HT.out b).2 ⟨hb,hl⟩
 obtain ⟨A0,n0,c0,A1,n1,c1,A2,n2,c2,A3,n3,c3,rfl,_,_,_,_⟩:=hm
 obtain ⟨dA,pA,oA,dc,pc,oc,rfl,hnm,_,h2,_⟩:=hp.open_
 have hlz:=hsm.2.1.1
 have HD:Hid (SlV rDep w T p.peers (.slice pA p.peers.length pc)):=h2.more fun b hb hl=>(HT.out b).2 ⟨hb,hl⟩
 obtain ⟨R,hR⟩:∃ R,R=zBa m p.peers:=⟨_,rfl⟩
 have HStep:Hid (∀ (k:Nat) (d:Dep),p.peers[k]?=some d→R.take (k+1)=R.take k++[⟨d.name,zBr m d⟩]):=fun k d hd=>by rw[hR];exact zIL hd
 have Hrl:Hid (R.length=p.peers.length):=by unfold Hid;rw[hR];exact zFw _ _
 have HRg:Hid (∀ (W:World) (d:Dep) (rA:Option Addr) (rn rc:Nat),Below w.heap.size w W→SlV rSpn w T d.range (.slice rA rn rc)→Calls Tryz.prog 182 #[.agg #[.slice A0 n0 c0,.slice A1 n1 c1,.slice A2 n2 c2,.slice A3 n3 c3],.agg #[.string d.name,.slice rA rn rc]] W fun e w'=>(∃ B k c,e=.returned (.slice B k c)∧SlV rSpn w' T (zBr m d) (.slice B k c))∧Below W.heap.size W w'):=fun W d rA rn rc hW hs=>by
  refine (zGz m d _ rA rn rc W T (HM.out.keep hW) (hs.belowSize hW)).mono ?_
  rintro e w' ⟨⟨B,k,c,h1,h2⟩,h3⟩
  exact ⟨⟨B,k,c,h1,h2.belowSize h3⟩,h3⟩
 rw[←hR]
 clear hR hnm h2 hsm hp HM
 obtain ⟨pn,⟨x1,x2,x3⟩,pd,pp,po⟩:=p
 simp only at HD HStep Hrl hlz ⊢
 obtain ⟨n,hn⟩:∃ n,n=pp.length:=⟨_,rfl⟩
 rw[←hn] at HD Hrl hlz ⊢
 have Hz0:Hid (pp.length=n):=hn.symm
 clear hn
 generalize pd.length=l1 at *
 generalize po.length=l3 at *
 obtain ⟨w0,hw0⟩:∃ w0,w0=(w.alloc (.cells #[.string pn,.int .i64 x1,.int .i64 x2,.int .i64 x3,.slice dA l1 dc,.slice pA n pc,.slice oA l3 oc] 52)).alloc (.cells #[.slice A0 n0 c0,.slice A1 n1 c1,.slice A2 n2 c2,.slice A3 n3 c3] 28):=⟨_,rfl⟩
 have hw1:(w.alloc (.cells #[.string pn,.int .i64 x1,.int .i64 x2,.int .i64 x3,.slice dA l1 dc,.slice pA n pc,.slice oA l3 oc] 52)).heap.size=w.heap.size+1:=by simp
 have HB0:Hid (Below w.heap.size w w0):=by unfold Hid;rw[hw0];exact bal (bal (bR _ _) _) _
 have hqX:w0.heap[w.heap.size]?=some (.cells #[.string pn,.int .i64 x1,.int .i64 x2,.int .i64 x3,.slice dA l1 dc,.slice pA n pc,.slice oA l3 oc] 52 (0,0)):=by
  rw[hw0]
  exact ((bal (bR _ _) _).block _ (by rw[hw1];omega)).trans (zAD _ _)
 have hqY:w0.heap[w.heap.size+1]?=some (.cells #[.slice A0 n0 c0,.slice A1 n1 c1,.slice A2 n2 c2,.slice A3 n3 c3] 28 (0,0)):=by
  rw[hw0,←hw1]
  exact zAD _ _
 obtain ⟨PB,hPB⟩:∃ k,k=w.heap.size:=⟨_,rfl⟩
 obtain ⟨MB,hMB⟩:∃ k,k=w.heap.size+1:=⟨_,rfl⟩
 rw[←hPB] at hqX
 rw[←hMB] at hqY
 have Hall:Hid (∀ W,Below w0.heap.size w0 W→W.cell? ⟨PB,5,none⟩=some (.slice pA n pc)∧W.cell? ⟨MB,0,none⟩=some (.slice A0 n0 c0)∧W.cell? ⟨MB,1,none⟩=some (.slice A1 n1 c1)∧W.cell? ⟨MB,2,none⟩=some (.slice A2 n2 c2)∧W.cell? ⟨MB,3,none⟩=some (.slice A3 n3 c3)):=fun W hW=>by
  have h1:=(hW.block _ (aS.1 hqX).1).trans hqX
  have h2:=(hW.block _ (aS.1 hqY).1).trans hqY
  exact ⟨cO _ _ 5 _ _ _ h1,cO _ _ 0 _ _ _ h2,cO _ _ 1 _ _ _ h2,cO _ _ 2 _ _ _ h2,cO _ _ 3 _ _ _ h2⟩
 clear hqX hqY hw1
 go_enter Tryz.func177,Tryz.ntmps177
 go_wp2_with fail
 rw[←hw0,←hMB,←hPB]
 clear hw0 hMB hPB
 have hw0z:w.heap.size≤w0.heap.size:=HB0.out.size
 go_loopw [5,6] (fun ov iv wr=>∃ k:Nat,k≤n∧iv=.int .i64 k∧Hid (Own rDep wr w0.heap.size 68 ov (R.take k) T)∧Hid (Below w0.heap.size w0 wr)) (fun _ iv _=>n - (intOf iv).toNat)
 case atStart=>exact ⟨0,nZ _,rfl,Own.nil_ _ _ _ _ (fun b hb=>lL ((HT.out b).1 hb).2 hw0z),bR _ _⟩
 case round=>
  obtain ⟨k,hk,rfl,Hown,hB⟩:=hrel
  have hk0:(0:Int)≤(k:Int):=by omega
  have HBw:=cH (bot HB0.out hB.out)
  obtain ⟨q5,y0,y1,y2,y3⟩:=Hall.out wr hB.out
  by_cases hlt:k<n
  case neg=>
   have hI:¬(k:Int)<(n:Int):=by omega
   have hlk:R.take k=R:=List.take_of_length_le (by have:=Hrl.out;omega)
   have h1:=Hown.out.slv
   rw[hlk] at h1
   obtain ⟨B,m',hv,_,_⟩:=h1.val
   have HS:=cH h1
   clear h1 Hown hlk
   subst hv
   go_wp2_with fail
   go_ret
   exact ⟨⟨B,m',rfl,HS.out.more fun b hb _=>by rcases hb with hb|hb;exact Or.inl ((HT.out b).1 hb).1;exact Or.inr (by omega)⟩,HBw.out⟩
  have hkI:(k:Int)<(n:Int):=by omega
  obtain ⟨d,hd⟩:∃ d,pp[k]?=some d:=⟨_,gE (by have:=Hz0.out;omega)⟩
  obtain ⟨b,o,cs,hA,_,hb,⟨s0,rfl,hsz,hrg⟩,hcell⟩:=HD.out.elem hd
  obtain ⟨rA,rc,rfl,_,_⟩:=hrg.val
  have Hc:Hid (∀ W,Below w.heap.size w W→W.cell? ⟨b,o+k * 2,none⟩=some (.string d.name)∧W.cell? ⟨b,o+k * 2+1,none⟩=some (.slice rA d.range.length rc)):=fun W hW=>⟨zAA hW (hcell 0 _ rfl) hb,zAA hW (hcell 1 _ rfl) hb⟩
  have HRk:Hid (∀ W,Below wr.heap.size wr W→Calls Tryz.prog 182 #[.agg #[.slice A0 n0 c0,.slice A1 n1 c1,.slice A2 n2 c2,.slice A3 n3 c3],.agg #[.string d.name,.slice rA d.range.length rc]] W fun e w'=>(∃ B k c,e=.returned (.slice B k c)∧SlV rSpn w' T (zBr m d) (.slice B k c))∧Below W.heap.size W w'):=fun W hW=>HRg.out W d rA d.range.length rc (bot HBw.out hW) hrg
  have Hst:=cH (HStep.out k d hd)
  have Hnm:=cH hsz
  have Hlen:Hid ((R.take k).length=k):=by unfold Hid;rw[List.length_take];have:=Hrl.out;omega
  obtain ⟨x0,x1⟩:=Hc.out wr HBw.out
  clear hcell hsz hrg hd
  subst hA
  obtain ⟨dn,dr⟩:=d
  simp only at Hc HRk Hst Hnm x0 x1
  generalize dr.length=rn at *
  generalize zBr m ⟨dn,dr⟩=rg at *
  generalize R.take k=done at *
  have Hcells:Hid (∀ W,Below wr.heap.size wr W→(W.cell? ⟨b,o+k * 2,none⟩=some (.string dn)∧W.cell? ⟨b,o+k * 2+1,none⟩=some (.slice rA rn rc))∧W.cell? ⟨PB,5,none⟩=some (.slice (some ⟨b,o,none⟩) n pc)∧W.cell? ⟨MB,0,none⟩=some (.slice A0 n0 c0)∧W.cell? ⟨MB,1,none⟩=some (.slice A1 n1 c1)∧W.cell? ⟨MB,2,none⟩=some (.slice A2 n2 c2)∧W.cell? ⟨MB,3,none⟩=some (.slice A3 n3 c3)):=fun W hW=>⟨Hc.out W (bot HBw.out hW),Hall.out W (bot hB.out hW)⟩
  have hwrz:w0.heap.size≤wr.heap.size:=hB.out.size
  go_upto_region 5 with (fail)
  go_region_held3 (fun W=>((W.cell? ⟨b,o+k * 2,none⟩=some (.string dn)∧W.cell? ⟨b,o+k * 2+1,none⟩=some (.slice rA rn rc))∧W.cell? ⟨PB,5,none⟩=some (.slice (some ⟨b,o,none⟩) n pc)∧W.cell? ⟨MB,0,none⟩=some (.slice A0 n0 c0)∧W.cell? ⟨MB,1,none⟩=some (.slice A1 n1 c1)∧W.cell? ⟨MB,2,none⟩=some (.slice A2 n2 c2)∧W.cell? ⟨MB,3,none⟩=some (.slice A3 n3 c3)))
   (first
     | (with_reducible exact Hcells.out _ (bR _ _).drew)
     | (with_reducible exact Hcells.out _ hB2)
     | (with_reducible exact Hcells.out _ (bal hB2 _))
     | (with_reducible exact ⟨Hc.out _ hB4w,Hall.out _ hB4⟩))
   (first
     | (go_at_call 182;with_reducible refine (HRk.out _ (bR _ _).drew).mono ?_;rintro e w2 ⟨⟨B2,k2,c2,rfl,hrg⟩,hb2⟩;have hB2:Below wr.heap.size wr w2:=bot (bR _ _).drew hb2;have HO:=cH (Hown.out.keep hB2);have HQ:=cH hrg;have hz2:=hB2.size)
     | (refine zB2 (by rfl) _ _ _ (by rfl) zIl Tryz.underlying26 (by rfl) (HO.out.alloc _) ⟨w2.heap.size,0,none⟩ 1 [.string dn,.slice B2 k2 c2] ⟨dn,rg⟩ (by rfl) (Rp.alloc (r:=rDep) ⟨_,rfl,Hnm.out,HQ.out⟩ _) (zAm w2 #[.string dn,.slice B2 k2 c2] _) (by rw[Hlen.out];unfold maxLen;omega) (by rw[Hlen.out];omega) (by simp;omega) (w2.heap.size+1) (by simp) ?_;intro g9 cap9 w4 hown4 hgrow4 hat4 hg4;have hB4:Below w0.heap.size w0 w4:=zA3 (bal (bot hB.out hB2) _) hgrow4 (HO.out.alloc _) (nR _);have hB4w:Below w.heap.size w w4:=bot HB0.out hB4))
  all_goals
   have HB4:=cH hB4
   have HO4:=cH hown4
   clear hown4 hgrow4 hat4 hg4 hB4 hB4w hB2 hb2 hrg HO HQ
   go_wp2_with fail
   go_roundw
   case rel=>exact ⟨k+1,by omega,by go_num,by rw[Hst.out];exact HO4,HB4⟩
   case measure=>simp[intOf];omega
end Go.Proofs.YtminjjdnmpaaoaaGreatDoor
namespace Go.Proofs.YtminjjdnmpaaoaaGreatDoor
open Go
def muC (env rest out:List Pin):Nat:=rest.length+(env.length - out.length)
theorem zEe {env:List Pin}:∀ {ds:List Dep} {out next out' next':List Pin},askP env ds out next=some (out',next')→SrtP out→zCG env out→SrtP out'∧zCG env out'∧muC env next' out'=muC env next out∧(∀ x∈out',x∈out∨x∈env)∧∀ x∈next',x∈next∨x∈env:=by
 intro ds
 induction ds with
 | nil=>intro out next out' next' h hs hn;unfold askP at h;cases h;exact ⟨hs,hn,rfl,fun x h=>.inl h,fun x h=>.inl h⟩
 | cons d ds ih=>
   intro out next out' next' h hs hn
   unfold askP at h
   split at h
   ·cases h
   ·rename_i v hv
    split at h
    ·have hn':zCG env (withP out ⟨d.name,v⟩):=fun x hx=>by
      rcases withP_mem hx with rfl|hx
      ·exact zF3 hv
      ·exact hn x hx
     have hs':=zCM ⟨d.name,v⟩ hs
     obtain ⟨h1,h2,h3,h4,h5⟩:=ih h hs' hn'
     refine ⟨h1,h2,h3.trans ?_,fun x hx=>?_,fun x hx=>?_⟩
     ·have hle:=hs'.le hn'
      have hln:=zHI out ⟨d.name,v⟩
      unfold muC
      simp only at hln
      split
      ·rename_i hp;rw[if_pos hp] at hln;rw[hln]
      ·rename_i hp;rw[if_neg hp] at hln;rw[hln,List.length_append];simp only[List.length_cons,List.length_nil];omega
     ·rcases h4 x hx with hx|hx
      ·rcases withP_mem hx with rfl|hx
       ·exact .inr (zC8 hv)
       ·exact .inl hx
      ·exact .inr hx
     ·rcases h5 x hx with hx|hx
      ·split at hx
       ·exact .inl hx
       ·rcases List.mem_append.1 hx with hx|hx
        ·exact .inl hx
        ·rw[List.mem_singleton.1 hx];exact .inr (zC8 hv)
      ·exact .inr hx
    ·cases h
theorem zKS {L:List Pack} {m:Mani} {env:List Pin}:∀ {f:Nat} {rest out r:List Pin},ctxGo L m env f rest out=some r→SrtP out→zCG env out→SrtP r∧zCG env r∧∀ x∈r,x∈out∨x∈env:=by
 intro f
 induction f with
 | zero=>
   intro rest out r h hs hn
   cases rest with
   | nil=>unfold ctxGo at h;cases h;exact ⟨hs,hn,fun x h=>.inl h⟩
   | cons p rest=>unfold ctxGo at h;cases h
 | succ f ih=>
   intro rest out r h hs hn
   cases rest with
   | nil=>unfold ctxGo at h;cases h;exact ⟨hs,hn,fun x h=>.inl h⟩
   | cons p rest=>
     unfold ctxGo at h
     split at h
     ·cases h
     ·split at h
      ·cases h
      ·rename_i out' rest' ha
       obtain ⟨h1,h2,_,h4,_⟩:=zEe ha hs hn
       obtain ⟨g1,g2,g3⟩:=ih h h1 h2
       refine ⟨g1,g2,fun x hx=>?_⟩
       rcases g3 x hx with hx|hx
       ·exact h4 x hx
       ·exact .inr hx
theorem zIh {L:List Pack} {m:Mani} {env:List Pin} {p:Pin} {r:List Pin} (h:ctxP L m env p=some r):SrtP r∧r.length≤env.length∧∀ x∈r,x∈env:=by
 obtain ⟨h1,h2,h3⟩:=zKS h List.Pairwise.nil (fun x hx=>by cases hx)
 exact ⟨h1,h1.le h2,fun x hx=>(h3 x hx).resolve_left (by simp)⟩
theorem zEA {L:List Pack} {m:Mani} {env:List Pin}:∀ {f g:Nat} {rest out:List Pin},SrtP out→zCG env out→muC env rest out≤f→muC env rest out≤g→ctxGo L m env f rest out=ctxGo L m env g rest out:=by
 intro f
 induction f with
 | zero=>
   intro g rest out hs hn hf hg
   have:rest=[]:=by unfold muC at hf;exact List.eq_nil_of_length_eq_zero (by omega)
   subst this
   cases g<;>(unfold ctxGo;rfl)
 | succ f ih=>
   intro g rest out hs hn hf hg
   cases rest with
   | nil=>cases g<;>(unfold ctxGo;rfl)
   | cons p rest=>
     cases g with
     | zero=>unfold muC at hg;rw[List.length_cons] at hg;omega
     | succ g=>
       unfold ctxGo
       split
       ·rfl
       ·split
        ·rfl
        ·rename_i out' rest' ha
         obtain ⟨h1,h2,h3,_⟩:=zEe ha hs hn
         have e:muC env (p::rest) out=muC env rest out+1:=by unfold muC;rw[List.length_cons];omega
         exact ih h1 h2 (by omega) (by omega)
theorem zJa {L:List Pack} {m:Mani} {env:List Pin} {p:Pin} {rest out:List Pin} (hs:SrtP out) (hn:zCG env out) {f:Nat} (hf:muC env (p::rest) out≤f):ctxGo L m env f (p::rest) out=match getC L p.name p.ver with
  | none=>none
  | some x=>match askP env (zBa m x.peers) out rest with
    | none=>none
    | some (out',rest')=>ctxGo L m env f rest' out':=by
 cases f with
 | zero=>unfold muC at hf;rw[List.length_cons] at hf;omega
 | succ f=>
   rw[ctxGo]
   cases getC L p.name p.ver with
   | none=>rfl
   | some x=>
     simp only
     cases ha:askP env (zBa m x.peers) out rest with
     | none=>rfl
     | some r=>
       obtain ⟨out',rest'⟩:=r
       simp only
       obtain ⟨h1,h2,h3,_⟩:=zEe ha hs hn
       have e:muC env (p::rest) out=muC env rest out+1:=by unfold muC;rw[List.length_cons];omega
       exact zEA h1 h2 (by omega) (by omega)
theorem zJP {L:List Pack} {m:Mani} {env out:List Pin} {f:Nat}:ctxGo L m env f [] out=some out:=by
 cases f<;>(unfold ctxGo;rfl)
