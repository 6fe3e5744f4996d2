/- The document's wants: the context of a choice: walked. -/
import Derived.Test.YtminjjdnmpaaoaaGreatDoorSv28
import Derived.Test.YtminjjdnmpaaoaaGreatDoorSv26
import Derived.Test.YtminjjdnmpaaoaaGreatDoorSv18
import Derived.Test.YtminjjdnmpaaoaaGreatDoorAl
set_option linter.all false
set_option maxHeartbeats 12800000
set_option maxRecDepth 100000
namespace Go.Proofs.YtminjjdnmpaaoaaGreatDoor
open Go.Rows Go.RowKit Go.Shelf Go.Sort
theorem zKa {α:Type} {r:Rp α} {W w9:World} {Sd:Nat→Prop} {l:List α} {v own:Value} (hs:SlV r W Sd l v) (hne:∀ b,Sd b→own.ownBlock≠some b) (hg:W.grownBy w9 own.ownBlock):SlV r w9 (fun b=>Sd b∧b<W.heap.size) l v:=
 (hs.more (S':=fun b=>Sd b∧b<W.heap.size) fun b hb hl=>⟨hb,hl⟩).keep fun b hb hl=>hg.block b hl (fun e=>hne b hb.1 e.symm)
theorem by_ne {W:World} {Sd:Nat→Prop} {own:Value} {g:Nat} {n c:Nat} (hne:∀ b,Sd b→own.ownBlock≠some b) (hat:own.ownBlock=some g∨W.heap.size≤g):∀ b,(Sd b∧b<W.heap.size)→(Value.slice (some ⟨g,0,none⟩) n c).ownBlock≠some b:=fun b hb e=>by
 have e2:g=b:=Option.some.inj e
 rcases hat with h|h
 ·exact hne b hb.1 (by rw[h,e2])
 ·omega
theorem zEV {w0 w3:World} (hb:Below (w0.alloc (Obj.cells #[.string ⟨#[]⟩,.int .i64 0,.int .i64 0,.int .i64 0,.slice none 0 0,.slice none 0 0,.slice none 0 0] 52)).drew.heap.size (w0.alloc (Obj.cells #[.string ⟨#[]⟩,.int .i64 0,.int .i64 0,.int .i64 0,.slice none 0 0,.slice none 0 0,.slice none 0 0] 52)).drew w3) :
 w3.heap[w0.heap.size]?=some (.cells #[.string ⟨#[]⟩,.int .i64 0,.int .i64 0,.int .i64 0,.slice none 0 0,.slice none 0 0,.slice none 0 0] 52 (0,0)):=(hb.block _ (by show w0.heap.size<(w0.alloc _).heap.size;simp)).trans (zAD w0 _)
theorem zD9 {w0 w3:World} (hb:Below (w0.alloc (Obj.cells #[.string ⟨#[]⟩,.int .i64 0,.int .i64 0,.int .i64 0,.slice none 0 0,.slice none 0 0,.slice none 0 0] 52)).drew.heap.size (w0.alloc (Obj.cells #[.string ⟨#[]⟩,.int .i64 0,.int .i64 0,.int .i64 0,.slice none 0 0,.slice none 0 0,.slice none 0 0] 52)).drew w3) :
 (w3.cell? ⟨w0.heap.size,0,none⟩=some (.string ⟨#[]⟩)∧w3.cell? ⟨w0.heap.size,1,none⟩=some (.int .i64 0)∧w3.cell? ⟨w0.heap.size,2,none⟩=some (.int .i64 0)∧w3.cell? ⟨w0.heap.size,3,none⟩=some (.int .i64 0)∧w3.cell? ⟨w0.heap.size,4,none⟩=some (.slice none 0 0)∧w3.cell? ⟨w0.heap.size,5,none⟩=some (.slice none 0 0)∧w3.cell? ⟨w0.heap.size,6,none⟩=some (.slice none 0 0)) ∧
 (w3.frozen? ⟨w0.heap.size,0,none⟩=false∧w3.frozen? ⟨w0.heap.size,1,none⟩=false∧w3.frozen? ⟨w0.heap.size,2,none⟩=false∧w3.frozen? ⟨w0.heap.size,3,none⟩=false∧w3.frozen? ⟨w0.heap.size,4,none⟩=false∧w3.frozen? ⟨w0.heap.size,5,none⟩=false∧w3.frozen? ⟨w0.heap.size,6,none⟩=false):=row7 (zEV hb)
theorem PackV.belowT {N:Nat} {w w':World} {T:Nat→Prop} {x:Pack} {v:Value} (h:PackV w T x v) (hb:Below N w w') (hT:∀ b,T b→b<N):PackV w' T x v:=by
 obtain ⟨A,n,c,A',n',c',A'',n'',c'',h1,h2,h3,h4,h5⟩:=h
 exact ⟨A,n,c,A',n',c',A'',n'',c'',h1,h2,h3.below hb hT,h4.below hb hT,h5.below hb hT⟩
theorem zLw {env:List Pin} {ds:List Dep} {j:Nat} {d:Dep} (hd:ds[j]?=some d) (out nx:List Pin) (h:zAh env d.name=none):askP env (ds.drop j) out nx=none:=by
 obtain ⟨h1,e⟩:=gS.1 hd
 rw[dC h1,e,askP,h]
theorem zMl {env:List Pin} {ds:List Dep} {j:Nat} {d:Dep} {v:Ver} (hd:ds[j]?=some d) (out nx:List Pin) (h:zAh env d.name=some v) (hi:inSB d.range v=false):askP env (ds.drop j) out nx=none:=by
 obtain ⟨h1,e⟩:=gS.1 hd
 rw[dC h1,e,askP,h]
 simp only
 rw[if_neg (by rw[hi];decide)]
theorem zL4 {env:List Pin} {ds:List Dep} {j:Nat} {d:Dep} {v:Ver} (hd:ds[j]?=some d) (out nx:List Pin) (h:zAh env d.name=some v) (hi:inSB d.range v=true):askP env (ds.drop j) out nx=askP env (ds.drop (j+1)) (withP out ⟨d.name,v⟩) (if pinIs out d.name=true then nx else nx++[⟨d.name,v⟩]):=by
 obtain ⟨h1,e⟩:=gS.1 hd
 rw[dC h1,e,askP,h]
 simp only
 rw[if_pos hi]
theorem zLx {env:List Pin} {ds:List Dep} {j:Nat} (h:ds.length≤j) (out nx:List Pin):askP env (ds.drop j) out nx=some (out,nx):=by rw[dN h];rfl
theorem zMt (cB:Nat) (kA:Option Addr) (kn kc:Nat) (L:List Pack) (m:Mani) (v:Value) (eA:Option Addr) (en ec:Nat) (env:List Pin) (p:Pin) (w:World) (S:Nat→Prop) (hc:w.cell? ⟨cB,0,none⟩=some (.slice kA kn kc)) (hl:SlV rPack w S L (.slice kA kn kc)) (hL:∀ x∈L,zBR x) (hm:ManiV w S m v) (he:SlV rPin w S env (.slice eA en ec)) (hez:env.length≤1048576) (hp:p.name.size≤maxLen∧I64 p.ver.major∧I64 p.ver.minor∧I64 p.ver.patch) :
  Calls Tryz.prog 163 #[.pointer (some ⟨cB,0,none⟩),v,.slice eA en ec,.agg #[.string p.name,.int .i64 p.ver.major,.int .i64 p.ver.minor,.int .i64 p.ver.patch]] w fun e w'=>(∃ B n k,e=.returned (.tuple #[.slice B n k,.bool (ctxP L m env p).isSome])∧SlV rPin w' (fun b=>w.heap.size≤b) ((ctxP L m env p).getD []) (.slice B n k))∧Below w.heap.size w w':=by
 obtain ⟨T,hT⟩:∃ T:Nat→Prop,T=fun b=>S b∧b<w.heap.size:=⟨_,rfl⟩
 have HT:Hid (∀ b,T b↔S b∧b<w.heap.size):=fun b=>by rw[hT]
 clear hT
 have hcB:cB<w.heap.size:=zAf hc
 have HM:Hid (ManiV w T m v):=hm.moreV fun b hb hl=>(HT.out b).2 ⟨hb,hl⟩
 have HL:Hid (SlV rPack w T L (.slice kA kn kc)):=hl.more fun b hb hl=>(HT.out b).2 ⟨hb,hl⟩
 have HGet:Hid (∀ W (s:ByteArray) (u:Ver),Below w.heap.size w W→Calls Tryz.prog 35 #[.pointer (some ⟨cB,0,none⟩),.string s,.agg #[.int .i64 u.major,.int .i64 u.minor,.int .i64 u.patch]] W fun e w'=>(∃ A B C a b c,e=.returned (.tuple #[.agg #[.string ((getC L s u).getD zAC).name,.int .i64 ((getC L s u).getD zAC).ver.major,.int .i64 ((getC L s u).getD zAC).ver.minor,.int .i64 ((getC L s u).getD zAC).ver.patch,.slice A ((getC L s u).getD zAC).deps.length a,.slice B ((getC L s u).getD zAC).peers.length b,.slice C ((getC L s u).getD zAC).opts.length c],.bool (getC L s u).isSome])∧PackV w' T ((getC L s u).getD zAC) (.agg #[.string ((getC L s u).getD zAC).name,.int .i64 ((getC L s u).getD zAC).ver.major,.int .i64 ((getC L s u).getD zAC).ver.minor,.int .i64 ((getC L s u).getD zAC).ver.patch,.slice A ((getC L s u).getD zAC).deps.length a,.slice B ((getC L s u).getD zAC).peers.length b,.slice C ((getC L s u).getD zAC).opts.length c]))∧Below W.heap.size W w'):=fun W s u hW=>by
  refine (zEW cB kA kn kc L s u W T (zAA hW hc hcB) (HL.out.belowSize hW)).mono ?_
  rintro e w' ⟨q,h1,h2,h3⟩
  obtain ⟨A,B,C,a,b,c,rfl,_⟩:=h2.open_
  exact ⟨⟨A,B,C,a,b,c,h1,h2⟩,h3⟩
 have HPe:Hid (∀ W (x:Pack) u,Below w.heap.size w W→PackV W T x u→zBR x→Calls Tryz.prog 177 #[u,v] W fun e w'=>(∃ B k,e=.returned (.slice B (zBp m x.peers).length k)∧SlV rDep w' (fun b=>T b∨W.heap.size≤b) (zBp m x.peers) (.slice B (zBp m x.peers).length k))∧Below W.heap.size W w'):=fun W x u hW hx hs=>zKZ x u m v W T hx hs (HM.out.keep hW)
 have HTe:Hid (∀ W (s:ByteArray),Below w.heap.size w W→Calls Tryz.prog 178 #[.slice eA en ec,.string s] W fun e w'=>e=.returned (.tuple #[verQ (zAh env s),.bool (zAh env s).isSome])∧Below W.heap.size W w'):=fun W s hW=>zJ7 eA en ec env s W S (he.belowSize hW)
 have HTi:Hid (∀ (s:ByteArray) (u:Ver),zAh env s=some u→s.size≤maxLen∧I64 u.major∧I64 u.minor∧I64 u.patch):=fun s u h=>by
  obtain ⟨i,hi,hie⟩:=List.mem_iff_getElem.1 (zC8 h)
  obtain ⟨_,_,_,_,_,_,⟨_,h1,h2⟩,_⟩:=he.elem (gE hi)
  rw[hie] at h1 h2
  exact ⟨h1,h2⟩
 have HSm:Hid (∀ s u,zBR ((getC L s u).getD zAC)):=fun s u=>by
  cases hg:getC L s u with
  | none=>exact ⟨⟨nZ _,fun d hd=>by cases hd⟩,⟨nZ _,fun d hd=>by cases hd⟩,⟨nZ _,fun d hd=>by cases hd⟩⟩
  | some x=>
    unfold getC at hg
    exact hL x (List.mem_of_find?_eq_some hg)
 obtain ⟨A0,n0,c0,A1,n1,c1,A2,n2,c2,A3,n3,c3,rfl,_,_,_,_⟩:=hm
 have Hez:=cH hez
 obtain ⟨R,hR⟩:∃ R,R=ctxP L m env p:=⟨_,rfl⟩
 have HR:Hid (R=ctxGo L m env (env.length+1) [p] []):=hR
 rw[←hR]
 obtain ⟨pn,p1,p2,p3⟩:=p
 simp only at hp ⊢
 have Hp:=cH hp
 clear hc hl hL he hez hp hR HL HM
 obtain ⟨w0,hw0⟩:∃ w0,w0=((w.alloc (.cells #[.slice A0 n0 c0,.slice A1 n1 c1,.slice A2 n2 c2,.slice A3 n3 c3] 28)).alloc (.cells #[.string pn,.int .i64 p1,.int .i64 p2,.int .i64 p3] 63)).alloc (.cells #[.string pn,.int .i64 p1,.int .i64 p2,.int .i64 p3] 63):=⟨_,rfl⟩
 have hw1:(w.alloc (.cells #[.slice A0 n0 c0,.slice A1 n1 c1,.slice A2 n2 c2,.slice A3 n3 c3] 28)).heap.size=w.heap.size+1:=by simp
 have hw2:((w.alloc (.cells #[.slice A0 n0 c0,.slice A1 n1 c1,.slice A2 n2 c2,.slice A3 n3 c3] 28)).alloc (.cells #[.string pn,.int .i64 p1,.int .i64 p2,.int .i64 p3] 63)).heap.size=w.heap.size+1+1:=by simp
 have HB0:Hid (Below w.heap.size w w0):=by unfold Hid;rw[hw0];exact bal (bal (bal (bR _ _) _) _) _
 have hqM:w0.heap[w.heap.size]?=some (.cells #[.slice A0 n0 c0,.slice A1 n1 c1,.slice A2 n2 c2,.slice A3 n3 c3] 28 (0,0)):=by
  rw[hw0]
  exact ((bal (bal (bR _ _) _) _).block _ (by rw[hw1];omega)).trans (zAD _ _)
 have hqP:w0.heap[w.heap.size+1+1]?=some (.cells #[.string pn,.int .i64 p1,.int .i64 p2,.int .i64 p3] 63 (0,0)):=by
  rw[hw0,←hw2]
  exact zAD _ _
 obtain ⟨MB,hMB⟩:∃ k,k=w.heap.size:=⟨_,rfl⟩
 obtain ⟨RB,hRB⟩:∃ k,k=w.heap.size+1+1:=⟨_,rfl⟩
 rw[←hMB] at hqM
 rw[←hRB] at hqP
 have hRBw:w.heap.size≤RB:=by omega
 have Hman:Hid (∀ W,Below w0.heap.size w0 W→W.cell? ⟨MB,0,none⟩=some (.slice A0 n0 c0)∧W.cell? ⟨MB,1,none⟩=some (.slice A1 n1 c1)∧W.cell? ⟨MB,2,none⟩=some (.slice A2 n2 c2)∧W.cell? ⟨MB,3,none⟩=some (.slice A3 n3 c3)):=fun W hW=>by
  have h1:=(hW.block _ (aS.1 hqM).1).trans hqM
  exact ⟨cO _ _ 0 _ _ _ h1,cO _ _ 1 _ _ _ h1,cO _ _ 2 _ _ _ h1,cO _ _ 3 _ _ _ h1⟩
 have HR0:Hid (SlV rPin w0 (fun _=>True) [⟨pn,p1,p2,p3⟩] (.slice (some ⟨RB,0,none⟩) 1 1)):=SlV.of_block (r:=rPin) (S:=fun _=>True) (l:=[(⟨pn,p1,p2,p3⟩:Pin)]) hqP ⟨[.string pn,.int .i64 p1,.int .i64 p2,.int .i64 p3],_,rfl,⟨rfl,Hp.out⟩,rfl⟩ trivial rfl (nR 1) (by decide)
 clear hqM hqP hw1 hw2
 go_enter Tryz.func163,Tryz.ntmps163
 go_wp2_with fail
 rw[←hw0,←hRB,←hMB]
 clear hw0 hRB hMB
 have hw0z:w.heap.size≤w0.heap.size:=HB0.out.size
 obtain ⟨E,hE⟩:∃ E,E=env.length:=⟨_,rfl⟩
 have HE:=cH hE
 rw[←hE] at HR Hez
 clear hE
 go_loopg [10,11] (E+1) (fun G ov rv wr=>∃ (out rest:List Pin) (oA rA:Option Addr) (oc rc:Nat),ov=.slice oA out.length oc∧rv=.slice rA rest.length rc∧Hid (G=muC env rest out∧G≤E+1)∧Hid (R=ctxGo L m env G rest out)∧Hid (SrtP out∧zB6 env out)∧Hid (SlV rPin wr (fun b=>w.heap.size≤b) out (.slice oA out.length oc))∧Hid (SlV rPin wr (fun _=>True) rest (.slice rA rest.length rc))∧Hid (Below w0.heap.size w0 wr))
 case atStart=>exact ⟨[],[⟨pn,p1,p2,p3⟩],none,some ⟨RB,0,none⟩,0,1,rfl,rfl,⟨by unfold muC;rw[←HE.out];simp;omega,nR _⟩,HR,⟨List.Pairwise.nil,fun x hx=>by cases hx⟩,SlV.nil_ _ _ _,HR0,bR _ _⟩
 case round=>
  clear HR HR0
  obtain ⟨out,rest,oA,rA,oc,rc,rfl,rfl,HG,heq,Hso,Hout,Hrest,hB⟩:=hrel
  have HBw:=cH (bot HB0.out hB.out)
  have hcs:rest=[]∨∃ x rs,rest=x::rs:=by
   cases rest with
   | nil=>exact Or.inl rfl
   | cons x rs=>exact Or.inr ⟨x,rs,rfl⟩
  by_cases hrs:rest=[]
  case pos=>
   have He:Hid (R=some out):=by unfold Hid;rw[heq.out,hrs,zJk]
   obtain ⟨N,hN⟩:∃ N,N=out.length:=⟨_,rfl⟩
   rw[←hN] at Hout ⊢
   subst hrs
   clear heq HG hN
   go_wp2_with fail
   go_ret2
   exact ⟨⟨oA,N,oc,by rw[He.out];rfl,by rw[He.out];exact Hout.out⟩,HBw.out⟩
  obtain ⟨x,rs,hrs⟩:=hcs.resolve_left hrs
  have hx0:rest[0]?=some x:=by rw[hrs];rfl
  have hdr:rest.drop 1=rs:=by rw[hrs];rfl
  obtain ⟨lr,hlr⟩:∃ lr,lr=rest.length:=⟨_,rfl⟩
  have Hlr:Hid (lr=rs.length+1):=by unfold Hid;rw[hlr,hrs];rfl
  have hStep:R=match getC L x.name x.ver with
   | none=>none
   | some y=>match askP env (zBp m y.peers) out rs with
     | none=>none
     | some (out',rest')=>ctxGo L m env gk rest' out':=by
   rw[heq.out,hrs]
   exact zJK Hso.out.1 Hso.out.2 (by rw[HG.out.1,hrs];exact nR _)
  have HStep:=cH hStep
  have HG':Hid (gk=muC env rs out+1):=by unfold Hid;rw[HG.out.1,hrs];unfold muC;rw[List.length_cons];omega
  obtain ⟨b,o,cs,hA,_,hb1,⟨rfl,hsz,i1,i2,i3⟩,hcell⟩:=Hrest.out.elem hx0
  have q0:=hcell 0 _ rfl
  have q1:=hcell 1 _ rfl
  have q2:=hcell 2 _ rfl
  have q3:=hcell 3 _ rfl
  simp only[rPin,Nat.add_zero,Nat.zero_mul] at q0 q1 q2 q3
  have Hxx:Hid (x.name.size≤maxLen∧I64 x.ver.major∧I64 x.ver.minor∧I64 x.ver.patch):=⟨hsz,i1,i2,i3⟩
  have Hdr:=cH hdr
  have Hrl:Hid (rest.length=lr):=hlr.symm
  rw[←hlr] at Hrest ⊢
  have hlr1:0<lr:=by have:=Hlr.out;omega
  have HGE:=cH HG.out.2
  have hlrI:(0:Int)<(lr:Int):=by omega
  have hlrz:lr≤1048577:=by
   have h1:=HG.out.1
   have h2:=Hrl.out
   have h3:=Hez.out
   have h4:=HE.out
   have h5:gk≤E+1:=HG.out.2
   unfold muC at h1
   omega
  clear hcell hsz i1 i2 i3 hx0 hdr hStep heq HG hrs hlr hcs
  subst hA
  obtain ⟨z0,z1,z2,z3⟩:=Hman.out wr hB.out
  obtain ⟨xn,x1,x2,x3⟩:=x
  simp only at q0 q1 q2 q3 Hxx HStep
  have HGk:Hid (∀ W,Below wr.heap.size wr W→_):=fun W hW=>HGet.out W xn ⟨x1,x2,x3⟩ (bot HBw.out hW)
  obtain ⟨y,hy⟩:∃ y,y=(getC L xn ⟨x1,x2,x3⟩).getD zAC:=⟨_,rfl⟩
  have HSy:Hid (zBR y):=by unfold Hid;rw[hy];exact HSm.out _ _
  have HS1:Hid (getC L xn ⟨x1,x2,x3⟩=none→R=none):=fun h=>by rw[HStep.out,h]
  have HS2:Hid ((getC L xn ⟨x1,x2,x3⟩).isSome=true→R=match askP env (zBp m y.peers) out rs with
    | none=>none
    | some (out',rest')=>ctxGo L m env gk rest' out'):=fun h=>by
   rw[HStep.out,hy]
   cases hg:getC L xn ⟨x1,x2,x3⟩ with
   | none=>rw[hg] at h;cases h
   | some y=>rfl
  simp only at HGk
  rw[←hy] at HGk
  have HGn:Hid ((getC L xn ⟨x1,x2,x3⟩).isSome=false→R=none):=fun h=>HS1.out (by
   cases hg:getC L xn ⟨x1,x2,x3⟩ with
   | none=>rfl
   | some y=>rw[hg] at h;cases h)
  generalize (getC L xn ⟨x1,x2,x3⟩).isSome=gs at *
  clear hy HS1 HStep
  have Hcells:Hid (∀ W,Below wr.heap.size wr W→W.cell? ⟨b,o,none⟩=some (.string xn)∧W.cell? ⟨b,o+1,none⟩=some (.int .i64 x1)∧W.cell? ⟨b,o+2,none⟩=some (.int .i64 x2)∧W.cell? ⟨b,o+3,none⟩=some (.int .i64 x3)):=fun W hW=>⟨zAA hW q0 hb1,zAA hW q1 hb1,zAA hW q2 hb1,zAA hW q3 hb1⟩
  obtain ⟨y1,y2,y3⟩:∃ k1 k2:Nat,∃ k3:Nat,True:=⟨0,0,0,trivial⟩
  obtain ⟨l1,hl1⟩:∃ k,k=y.deps.length:=⟨_,rfl⟩
  obtain ⟨l2,hl2⟩:∃ k,k=y.peers.length:=⟨_,rfl⟩
  obtain ⟨l3,hl3⟩:∃ k,k=y.opts.length:=⟨_,rfl⟩
  rw[←hl1,←hl2,←hl3] at HGk
  clear hl1 hl2 hl3
  generalize y.name=yn at *
  generalize y.ver.major=v1 at *
  generalize y.ver.minor=v2 at *
  generalize y.ver.patch=v3 at *
  go_upto_region 4 with (fail)
  go_cut [12,13] from 26 to 38 (fun v12 v13 wx=>∃ (PB:Nat) (A B C:Option Addr) (a b' c:Nat),v12=.pointer (some ⟨PB,0,none⟩)∧v13=.bool gs∧Hid (Below wr.heap.size wr wx∧wx.heap[PB]?=some (.cells #[.string yn,.int .i64 v1,.int .i64 v2,.int .i64 v3,.slice A l1 a,.slice B l2 b',.slice C l3 c] 52 (0,0))∧PackV wx T y (.agg #[.string yn,.int .i64 v1,.int .i64 v2,.int .i64 v3,.slice A l1 a,.slice B l2 b',.slice C l3 c])))
  case first=>
   go_region_held3 (fun W=>(W.cell? ⟨b,o,none⟩=some (.string xn)∧W.cell? ⟨b,o+1,none⟩=some (.int .i64 x1)∧W.cell? ⟨b,o+2,none⟩=some (.int .i64 x2)∧W.cell? ⟨b,o+3,none⟩=some (.int .i64 x3))∧Below wr.heap.size wr W)
    (first
      | (with_reducible exact hK7 _ _ _ _ _ _ _)
      | (with_reducible exact ⟨Hcells.out _ (bR _ _).drew,(bR _ _).drew⟩)
      | (with_reducible exact ⟨Hcells.out _ hB2,hB2⟩)
      | (with_reducible exact ⟨Hcells.out _ (bal hB2 _),bal hB2 _⟩)
      | (with_reducible exact ⟨Hcells.out _ (bal (bR _ _).drew _),bal (bR _ _).drew _⟩))
    (first
      | (go_at_call 35;go_split_ands;with_reducible refine (HGk.out _ (by assumption)).mono ?_;rintro e w2 ⟨⟨gA,gB,gC,ga,gb,gc,rfl,hpv⟩,hb2⟩;have hB2:Below wr.heap.size wr w2:=bot (by assumption) hb2;have hz2:=hB2.size;(try (have hT:=zD9 hb2;obtain ⟨⟨t0,t1,t2,t3,t4,t5,t6⟩,f0,f1,f2,f3,f4,f5,f6⟩:=hT;have hK7:=fun a0 a1 a2 a3 a4 a5 a6=>And.intro (Hcells.out _ (zAj hB2 (nR wr.heap.size) a0 a1 a2 a3 a4 a5 a6)) (zAj hB2 (nR wr.heap.size) a0 a1 a2 a3 a4 a5 a6)))))
   all_goals
    go_wp2_with fail
    go_meet
    first
     | (have hq:=hK7;exact ⟨wr.heap.size,gA,gB,gC,ga,gb,gc,rfl,rfl,zAj hB2 (nR _) _ _ _ _ _ _ _,set7Q (zEV hb2) _ _ _ _ _ _ _,hpv.belowT (zAj (bR wr.heap.size w2) (nR _) _ _ _ _ _ _ _) (fun b hb=>lL ((HT.out b).1 hb).2 HBw.out.size)⟩)
     | exact ⟨w2.heap.size,gA,gB,gC,ga,gb,gc,rfl,rfl,bal hB2 _,zAD w2 _,hpv.keep (bal (bR _ _) _)⟩
  case rest=>
  obtain ⟨PB,gA,gB,gC,ga,gb,gc,rfl,rfl,HN⟩:=hcut
  generalize wc=w4 at *
  have HB4:=cH (bot hB.out HN.out.1)
  have HBw4:=cH (bot HB0.out HB4.out)
  clear q0 q1 q2 q3 z0 z1 z2 z3 Hcells HGk
  cases gs with
  | false=>
    have He:Hid (R=none):=HGn.out (by first|rfl|trivial)
    clear HGn HS2
    go_wp2_with fail
    go_ret2
    exact ⟨⟨none,0,0,by rw[He.out];rfl,by rw[He.out];exact SlV.nil_ _ _ _⟩,HBw4.out⟩
  | true=>
  have HS3:=cH (HS2.out (by first|rfl|trivial))
  clear HGn HS2
  have hP4:=HN.out.2.1
  obtain ⟨⟨t0,t1,t2,t3,t4,t5,t6⟩,_⟩:=row7 hP4
  have HR4:=cH (Hrest.out.belowSize HN.out.1)
  have hRd:Hid (SlV rPin w4 (fun _=>True) rs (.slice (if rc=1 then some ⟨b,o,none⟩ else (some (⟨b,o,none⟩:Addr)).map (fun x:Addr=>x.add (1 * 4))) (lr - 1) (rc - 1))):=by
   have h:=SlV.cutD HR4.out 1 (by omega)
   rw[Hdr.out] at h
   exact h
  obtain ⟨X,hX⟩:∃ X,X=(if rc=1 then some ⟨b,o,none⟩ else (some (⟨b,o,none⟩:Addr)).map (fun x:Addr=>x.add (1 * 4))):=⟨_,rfl⟩
  rw[←hX] at hRd
  have hsl:∀ W,(Instr.slice 55 (.slice (some ⟨b,o,none⟩) lr rc) (some (.int .i64 1)) none none).run Tryz.prog W=.ok (.slice X (lr - 1) (rc - 1)) W:=fun W=>by
   rw[hX]
   exact zCe (P:=Tryz.prog) (t:=55) (e:=63) (z:=4) Tryz.underlying55 (by kernel_rfl) (fun _=>by kernel_rfl) _ lr rc 1 hlr1 W
  have Hrsl:Hid (rs.length=lr - 1):=by unfold Hid;have:=Hlr.out;omega
  have hlrc:lr≤rc:=by have:=Hrest.out.cap_le;have:=Hrest.out.n_eq;omega
  clear hX t0 t1 t2 t3 t4 t5 t6 hP4
  go_wp2_with (at_builtin;refine zAN (by rfl) _ _ _ (by rfl) zCM Tryz.underlying55 (by rfl) (Own.nil_ rPin w4 w4.heap.size 63 (S:=fun _=>False) (fun b h=>h.elim)) (fun _=>True) rs _ _ _ (by rfl) hRd.out (by intro b hb he;simp[Value.ownBlock] at he) (by rw[Hrsl.out];simp[maxLen];omega) (by rw[Hrsl.out];simp;omega) (by simp) ?_)
  intro u5 w5 hown5 hgrow5 hat5
  have HB5:Hid (Below w4.heap.size w4 w5):=(bR _ _).grown hgrow5 (nR _) (fun k hk=>by simp[Value.ownBlock] at hk)
  have HO5:=cH (zCu hown5)
  have HBw5:=cH (bot HBw4.out HB5.out)
  have hP5:=(HB5.out.block _ (aS.1 HN.out.2.1).1).trans HN.out.2.1
  obtain ⟨⟨t0,t1,t2,t3,t4,t5,t6⟩,_⟩:=row7 hP5
  have HPV5:=cH (HN.out.2.2.keep HB5.out)
  have HOut4:Hid (SlV rPin w4 (fun b=>w.heap.size≤b∧b<w4.heap.size) out (.slice oA out.length oc)):=(Hout.out.belowSize HN.out.1).more fun b hb hl=>⟨hb,hl⟩
  obtain ⟨z0,z1,z2,z3⟩:=Hman.out w5 (bot HB4.out HB5.out)
  clear hown5 hgrow5 hat5 hP5 hsl hRd
  go_wp2_with fail
  refine (HPe.out w5 y _ HBw5.out HPV5.out HSy.out).mono ?_
  rintro e w6 ⟨⟨dA,dc,rfl,hds⟩,hb6⟩
  have HDs:=cH hds
  have HB6:=cH (bot HB5.out hb6)
  have HO6:=cH (HO5.out.keep hb6)
  have Hlt5:=cH HO5.out.lt
  have HOut6:Hid (SlV rPin w6 (fun b=>w.heap.size≤b∧b<w4.heap.size) out (.slice oA out.length oc)):=HOut4.out.belowSize (bot HB5.out hb6)
  have Hdz:Hid ((zBp m y.peers).length≤1048576):=by unfold Hid;rw[zFs];exact HSy.out.2.1.1
  have hw45:=HB5.out.size
  have hw56:w5.heap.size≤w6.heap.size:=hb6.size
  clear hds hb6 t0 t1 t2 t3 t4 t5 t6 z0 z1 z2 z3 HO5 HPV5 HSy HPe HGet HSm HN
  generalize zBp m y.peers=ds at *
  obtain ⟨dl,hdl⟩:∃ dl,dl=ds.length:=⟨_,rfl⟩
  rw[←hdl] at HDs Hdz ⊢
  have Hdl:Hid (ds.length=dl):=hdl.symm
  clear hdl
  have hdlz:dl≤1048576:=Hdz.out
  have hSo:∀ b,(w.heap.size≤b∧b<w4.heap.size)→w.heap.size≤b∧u5.ownBlock≠some b:=fun b hb=>⟨hb.1,fun he=>by have:=(HO6.out.lt b he).1;omega⟩
  have HDs6:Hid (SlV rDep w6 (fun b=>(T b∨w5.heap.size≤b)∧b<w6.heap.size) ds (.slice dA dl dc)):=HDs.out.more fun b hb hl=>⟨hb,hl⟩
  have hSd:∀ b,((T b∨w5.heap.size≤b)∧b<w6.heap.size)→u5.ownBlock≠some b:=fun b hb he=>by
   have h1:=Hlt5.out b he
   have h2:=HBw4.out.size
   rcases hb.1 with hc|hc
   ·have:=((HT.out b).1 hc).2;omega
   ·omega
  go_wp2_with fail
  go_loopw [10,14,16] (fun ov nv iv wi=>∃ (j:Nat) (o2 nx:List Pin) (oB:Option Addr) (od:Nat) (So Sd:Nat→Prop),j≤dl∧ov=.slice oB o2.length od∧iv=.int .i64 j∧Hid (askP env ds out rs=askP env (ds.drop j) o2 nx)∧Hid (SrtP o2∧zB6 env o2∧nx.length≤rs.length+j)∧Hid (Own rPin wi w4.heap.size 63 nv nx (fun _=>False))∧Hid (SlV rPin wi So o2 (.slice oB o2.length od))∧Hid (∀ b,So b→w.heap.size≤b∧nv.ownBlock≠some b)∧Hid (SlV rDep wi Sd ds (.slice dA dl dc))∧Hid (∀ b,Sd b→nv.ownBlock≠some b)∧Hid (Below w4.heap.size w4 wi)) (fun _ _ iv _=>dl - (intOf iv).toNat)
  case atStart=>exact ⟨0,out,rs,oA,oc,_,_,nZ _,rfl,rfl,cH rfl,⟨Hso.out.1,Hso.out.2,nR _⟩,HO6,HOut6,hSo,HDs6,hSd,HB6⟩
  case round=>
   clear HOut6 HDs6 HO6 HB6 hSo hSd HOut4 HDs
   obtain ⟨j,o2,nx,oB,od,So,Sd,hj,rfl,rfl,hask,Hinv,Hown,Ho2,HSo,Hds,HSd,Hbi⟩:=hrel
   have hj0:(0:Int)≤(j:Int):=by omega
   have HBi:=cH (bot HBw4.out Hbi.out)
   by_cases hlt:j<dl
   case neg=>
    have hI:¬(j:Int)<(dl:Int):=by omega
    have hA2:askP env ds out rs=some (o2,nx):=hask.out.trans (zLx (by have:=Hdl.out;omega) _ _)
    have hi2:=zEX hA2 Hso.out.1 Hso.out.2
    have HG2:Hid (muC env nx o2<gk∧muC env nx o2≤E+1):=by have h1:=HG'.out;have h2:=hi2.2.2.1;have h3:=HGE.out;exact ⟨by omega,by omega⟩
    have HR2:Hid (R=ctxGo L m env (muC env nx o2) nx o2):=by
     unfold Hid
     rw[HS3.out,hA2]
     exact zFi Hinv.out.1 Hinv.out.2.1 (by have:=HG2.out.1;omega) (nR _)
    have h1:=Hown.out.slv
    obtain ⟨nA,nc,hv,_,_⟩:=h1.val
    have HNx:Hid (SlV rPin wr (fun _=>True) nx (.slice nA nx.length nc)):=by unfold Hid;rw[←hv];exact h1.more fun _ _ _=>trivial
    have HO2:Hid (SlV rPin wr (fun b=>w.heap.size≤b) o2 (.slice oB o2.length od)):=Ho2.out.more fun b hb _=>(HSo.out b hb).1
    have HBo:=cH (bot HB4.out Hbi.out)
    clear hask hA2 hi2 h1 Hown Ho2 Hds HSo HSd HG' HS3
    subst hv
    go_wp2_with fail
    go_roundg (muC env nx o2)
    case measure=>exact HG2.out.1
    case rel=>exact ⟨o2,nx,oB,nA,od,nc,rfl,rfl,⟨rfl,HG2.out.2⟩,HR2,⟨Hinv.out.1,Hinv.out.2.1⟩,HO2,HNx,HBo⟩
   have hjI:(j:Int)<(dl:Int):=by omega
   obtain ⟨d,hd⟩:∃ d,ds[j]?=some d:=⟨_,gE (by have:=Hdl.out;omega)⟩
   obtain ⟨db,do_,cs,hA,hSdb,hdb,⟨s0,rfl,hdn,hrg⟩,hcell⟩:=Hds.out.elem hd
   obtain ⟨gA',gc',rfl,_,_⟩:=hrg.val
   have x0:=hcell 0 _ rfl
   have x1:=hcell 1 _ rfl
   simp only[rDep,Nat.add_zero] at x0 x1
   have HX:Hid (∀ W,Below wr.heap.size wr W→W.cell? ⟨db,do_+j * 2,none⟩=some (.string d.name)∧W.cell? ⟨db,do_+j * 2+1,none⟩=some (.slice gA' d.range.length gc')):=fun W hW=>⟨zAA hW x0 hdb,zAA hW x1 hdb⟩
   have HIk:Hid (∀ W (u1 u2 u3:Int),Below wr.heap.size wr W→Calls Tryz.prog 145 #[.slice gA' d.range.length gc',.agg #[.int .i64 u1,.int .i64 u2,.int .i64 u3]] W fun e w'=>e=.returned (.bool (inSB d.range ⟨u1,u2,u3⟩))∧Below W.heap.size W w'):=fun W u1 u2 u3 hW=>zE2 gA' _ gc' d.range ⟨u1,u2,u3⟩ W Sd (hrg.belowSize hW)
   have HTk:=cH (HTe.out wr d.name HBi.out)
   have HNone:Hid (zAh env d.name=none→R=none):=fun h=>by rw[HS3.out,hask.out,zLw hd _ _ h]
   have HOut:Hid (∀ u,zAh env d.name=some u→inSB d.range u=false→R=none):=fun u h hi=>by rw[HS3.out,hask.out,zMl hd _ _ h hi]
   have HOn:Hid (∀ u,zAh env d.name=some u→inSB d.range u=true→askP env ds out rs=askP env (ds.drop (j+1)) (withP o2 ⟨d.name,u⟩) (if pinIs o2 d.name=true then nx else nx++[⟨d.name,u⟩])):=fun u h hi=>by rw[hask.out,zL4 hd _ _ h hi]
   have HTd:Hid (∀ u,zAh env d.name=some u→d.name.size≤maxLen∧I64 u.major∧I64 u.minor∧I64 u.patch):=fun u h=>HTi.out _ _ h
   have HNm:Hid (∀ u,zAh env d.name=some u→d.name∈env.map (·.name)):=fun u h=>zFt h
   clear hcell hd hrg hdn hask HTe
   subst hA
   obtain ⟨dn,dr⟩:=d
   simp only at x0 x1 HX HIk HTk HNone HOut HOn HTd HNm
   generalize dr.length=rl at *
   go_wp2_with fail
   refine HTk.out.mono ?_
   rintro e w7 ⟨rfl,hb7⟩
   have HB7:=cH hb7
   clear hb7 HTk x0 x1
   cases htl:zAh env dn with
   | none=>
     have He:=cH (HNone.out htl)
     clear HNone HOut HOn HTd HNm htl
     unfold verQ
     go_upto_region 14 with (fail)
     obtain ⟨x0,x1⟩:=HX.out _ (bal HB7.out (.cells #[.int .i64 0,.int .i64 0,.int .i64 0] 50))
     generalize hw8:w7.alloc (.cells #[.int .i64 0,.int .i64 0,.int .i64 0] 50)=w8 at *
     have HB8:Hid (Below wr.heap.size wr w8):=by unfold Hid;rw[←hw8];exact bal HB7.out _
     clear hw8
     have r_x0:=cR x0
     have r_x1:=cR x1
     go_wp2_with fail
     refine wQ ?_
     repeat (go_big_quiet_step (first|fail))
     refine wpQuiet_nil fun w9 B9=>?_
     have HB9:=cH (bot HBi.out (bot HB8.out B9))
     clear B9 r_x0 r_x1 x0 x1
     go_wp2_with fail
     go_ret2
     exact ⟨⟨none,0,0,by rw[He.out];rfl,by rw[He.out];exact SlV.nil_ _ _ _⟩,HB9.out⟩
   | some tv=>
     obtain ⟨a1,a2,a3⟩:=tv
     have Hv:=cH (HTd.out _ htl)
     have Hnm:=cH (HNm.out _ htl)
     have HOf:=cH (HOut.out _ htl)
     have HOt:=cH (HOn.out _ htl)
     clear HNone HOut HOn HTd HNm htl
     simp only at Hv
     unfold verQ
     go_upto_region 14 with (fail)
     have hq8:=zAD w7 (.cells #[.int .i64 a1,.int .i64 a2,.int .i64 a3] 50)
     have HB8:Hid (Below wr.heap.size wr (w7.alloc (.cells #[.int .i64 a1,.int .i64 a2,.int .i64 a3] 50))):=bal HB7.out _
     have hVBw:wr.heap.size≤w7.heap.size:=HB7.out.size
     generalize w7.alloc (.cells #[.int .i64 a1,.int .i64 a2,.int .i64 a3] 50)=w8 at *
     obtain ⟨VB,hVB⟩:∃ k,k=w7.heap.size:=⟨_,rfl⟩
     rw[←hVB] at hq8 hVBw ⊢
     clear hVB
     have HVc:Hid (∀ W,Below w8.heap.size w8 W→W.cell? ⟨VB,0,none⟩=some (.int .i64 a1)∧W.cell? ⟨VB,1,none⟩=some (.int .i64 a2)∧W.cell? ⟨VB,2,none⟩=some (.int .i64 a3)):=fun W hW=>by
      have h:=(hW.block _ (aS.1 hq8).1).trans hq8
      exact ⟨cO _ _ 0 _ _ _ h,cO _ _ 1 _ _ _ h,cO _ _ 2 _ _ _ h⟩
     obtain ⟨x0,x1⟩:=HX.out w8 HB8.out
     obtain ⟨y0,y1,y2⟩:=HVc.out w8 (bR _ _)
     have HIq:=cH (qcall (w:=w8) (fun W hW=>HIk.out W a1 a2 a3 (bot HB8.out hW)))
     generalize inSB dr ⟨a1,a2,a3⟩=ib at *
     clear hq8
     cases ib with
     | false=>
       have He:=cH (HOf.out (by first|rfl|trivial))
       clear HOf HOt
       have r_x0:=cR x0
       have r_x1:=cR x1
       have r_y0:=cR y0
       have r_y1:=cR y1
       have r_y2:=cR y2
       go_wp2_with fail
       refine wQ ?_
       repeat (go_big_quiet_step (first|(with_reducible exact HIq.out _ _)))
       refine wpQuiet_nil fun w9 B9=>?_
       have HB9:=cH (bot HBi.out (bot HB8.out B9))
       clear B9 r_x0 r_x1 r_y0 r_y1 r_y2 x0 x1 y0 y1 y2
       go_wp2_with fail
       go_ret2
       exact ⟨⟨none,0,0,by rw[He.out];rfl,by rw[He.out];exact SlV.nil_ _ _ _⟩,HB9.out⟩
     | true=>
     have HAn:=cH (HOt.out (by first|rfl|trivial))
     clear HOf HOt
     have r_x0:=cR x0
     have r_x1:=cR x1
     have r_y0:=cR y0
     have r_y1:=cR y1
     have r_y2:=cR y2
     go_wp2_with fail
     refine wQ ?_
     repeat (go_big_quiet_step (first|(with_reducible exact HIq.out _ _)))
     refine wpQuiet_nil fun w9 B9=>?_
     have HB89:=cH B9
     have HB9:=cH (bot HB8.out B9)
     clear B9 r_x0 r_x1 r_y0 r_y1 r_y2 x0 x1 y0 y1 y2 HIq HIk
     have HO9:=cH (Hown.out.keep HB9.out)
     have HOl:=cH Hown.out.lt
     have Ho9:=cH (Ho2.out.belowSize HB9.out)
     have Hd9:=cH (Hds.out.belowSize HB9.out)
     have hw9:wr.heap.size≤w9.heap.size:=HB9.out.size
     have ho2z:o2.length≤1048576:=by have h1:=Hinv.out.1.le Hinv.out.2.1;have h2:=Hez.out;have h3:=HE.out;omega
     have HPn:Hid (∀ W,Below w9.heap.size w9 W→Calls Tryz.prog 179 #[.slice oB o2.length od,.agg #[.string dn,.int .i64 a1,.int .i64 a2,.int .i64 a3]] W fun e w'=>(∃ A' c',e=.returned (.tuple #[.slice A' (withP o2 ⟨dn,a1,a2,a3⟩).length c',.bool (!pinIs o2 dn)])∧SlV rPin w' (fun b=>So b∨w9.heap.size≤b) (withP o2 ⟨dn,a1,a2,a3⟩) (.slice A' (withP o2 ⟨dn,a1,a2,a3⟩).length c'))∧Below W.heap.size W w'):=fun W hW=>by
      refine (zJg oB _ od o2 ⟨dn,a1,a2,a3⟩ W So (Ho9.out.belowSize hW) ho2z Hv.out).mono ?_
      rintro e w' ⟨A',c',h1,h2,h3⟩
      have hz:=hW.size
      exact ⟨⟨A',c',h1,h2.more fun b hb _=>by rcases hb with hb|hb;exact Or.inl hb;exact Or.inr (by omega)⟩,h3⟩
     have HI2:Hid (SrtP (withP o2 ⟨dn,a1,a2,a3⟩)∧zB6 env (withP o2 ⟨dn,a1,a2,a3⟩)):=⟨zDA _ Hinv.out.1,fun z hz=>by
      rcases withP_mem hz with rfl|hz
      ·exact Hnm.out
      ·exact Hinv.out.2.1 z hz⟩
     have HKc:Hid (∀ W,Below w9.heap.size w9 W→W.cell? ⟨db,do_+j * 2,none⟩=some (.string dn)∧W.cell? ⟨VB,0,none⟩=some (.int .i64 a1)∧W.cell? ⟨VB,1,none⟩=some (.int .i64 a2)∧W.cell? ⟨VB,2,none⟩=some (.int .i64 a3)):=fun W hW=>⟨(HX.out W (bot HB9.out hW)).1,HVc.out W (bot HB89.out hW)⟩
     generalize withP o2 ⟨dn,a1,a2,a3⟩=o3 at *
     obtain ⟨M3,hM3⟩:∃ k,k=o3.length:=⟨_,rfl⟩
     rw[←hM3] at HPn
     have HM3:=cH hM3
     clear hM3
     generalize pinIs o2 dn=pi at *
     obtain ⟨x0,y0,y1,y2⟩:=HKc.out w9 (bR _ _)
     go_upto_region 16 with (fail)
     go_region_held3 (fun W=>(W.cell? ⟨db,do_+j * 2,none⟩=some (.string dn)∧W.cell? ⟨VB,0,none⟩=some (.int .i64 a1)∧W.cell? ⟨VB,1,none⟩=some (.int .i64 a2)∧W.cell? ⟨VB,2,none⟩=some (.int .i64 a3)))
      (first
        | (with_reducible exact HKc.out _ (bR _ _).drew)
        | (with_reducible exact HKc.out _ hB10))
      (first
        | (go_at_call 179;with_reducible refine (HPn.out _ (bR _ _).drew).mono ?_;rintro e w10 ⟨⟨pA,pc,rfl,hsl3⟩,hb10⟩;have hB10:Below w9.heap.size w9 w10:=bot (bR _ _).drew hb10))
     all_goals
      have HB10:=cH (bot HB9.out hB10)
      have HS10:=cH hsl3
      have HO10:=cH (HO9.out.keep hB10)
      have Hd10:=cH (Hd9.out.belowSize hB10)
      have HB910:=cH hB10
      have hw10:w9.heap.size≤w10.heap.size:=hB10.size
      have HSo3:Hid (∀ b,(So b∨w9.heap.size≤b)→w.heap.size≤b∧u14.ownBlock≠some b):=fun b hb=>by
       rcases hb with hb|hb
       ·exact HSo.out b hb
       ·have h1:=HBi.out.size
        exact ⟨by omega,fun he=>by have:=(HOl.out b he).2;omega⟩
      have Hnxz:Hid (nx.length≤2097153):=by have h1:=Hinv.out.2.2;have h2:=Hlr.out;unfold Hid;omega
      clear hsl3 hb10 hB10 HO9 Hd9 Ho9 Ho2 Hown Hds HPn HX HVc HB89 x0 y0 y1 y2
      cases pi with
      | true=>
        have HA3:Hid (askP env ds out rs=askP env (ds.drop (j+1)) o3 nx):=by unfold Hid;rw[HAn.out,if_pos rfl]
        have HBf:=cH (bot Hbi.out HB10.out)
        clear HAn
        go_wp2_with fail
        go_roundw
        case rel=>
         have h:=HM3.out
         subst h
         exact ⟨j+1,o3,nx,pA,pc,_,_,by omega,rfl,by go_num,HA3,⟨HI2.out.1,HI2.out.2,by have:=Hinv.out.2.2;omega⟩,HO10,HS10,HSo3,Hd10,HSd,HBf⟩
        case measure=>simp[intOf];omega
      | false=>
        have HA3:Hid (askP env ds out rs=askP env (ds.drop (j+1)) o3 (nx++[⟨dn,a1,a2,a3⟩])):=by unfold Hid;rw[HAn.out,if_neg (by decide)]
        clear HAn
        obtain ⟨x0,y0,y1,y2⟩:=HKc.out w10 HB910.out
        have HKg:Hid (∀ (ob:Obj) (W9:World),(w10.drew.alloc ob).grownBy W9 u14.ownBlock→W9.cell? ⟨db,do_+j * 2,none⟩=some (.string dn)∧W9.cell? ⟨VB,0,none⟩=some (.int .i64 a1)∧W9.cell? ⟨VB,1,none⟩=some (.int .i64 a2)∧W9.cell? ⟨VB,2,none⟩=some (.int .i64 a3)):=fun ob W9 hg=>by
         obtain ⟨k0,k1,k2,k3⟩:=HKc.out _ (bal HB910.out.drew ob)
         have hv:some VB≠u14.ownBlock:=fun he=>by have:=(HOl.out VB he.symm).2;omega
         exact ⟨hg.cell k0 (fun he=>HSd.out db hSdb he.symm),hg.cell k1 hv,hg.cell k2 hv,hg.cell k3 hv⟩
        have hw4z:w4.heap.size≤w10.heap.size:=(bot Hbi.out HB10.out).size
        go_upto_region 19 with (fail)
        go_region_held3 (fun W=>(W.cell? ⟨db,do_+j * 2,none⟩=some (.string dn)∧W.cell? ⟨VB,0,none⟩=some (.int .i64 a1)∧W.cell? ⟨VB,1,none⟩=some (.int .i64 a2)∧W.cell? ⟨VB,2,none⟩=some (.int .i64 a3)))
         (first
           | (with_reducible exact HKc.out _ HB910.out.drew)
           | (with_reducible exact hK11)
           | (with_reducible exact HKc.out _ (bal HB910.out _).drew))
         (first
           | (refine zBB (by rfl) _ _ _ (by rfl) zCM Tryz.underlying55 (by rfl) (HO10.out.drew.alloc _) ⟨w10.heap.size,0,none⟩ 1 [.string dn,.int .i64 a1,.int .i64 a2,.int .i64 a3] ⟨dn,a1,a2,a3⟩ (by rfl) ⟨rfl,Hv.out⟩ (zAd w10.drew #[.string dn,.int .i64 a1,.int .i64 a2,.int .i64 a3] _) (by have:=Hnxz.out;unfold maxLen;omega) (by have:=Hnxz.out;omega) (by show w4.heap.size≤(w10.alloc _).heap.size;simp;omega) (w10.heap.size+1) (by show (w10.alloc _).heap.size=_;simp) ?_;intro g9 cap9 w11 hown9 hgrow9 hat9 hlt9;have hK11:=HKg.out _ _ hgrow9))
        all_goals
         have hz10:∀ ob:Obj,(w10.drew.alloc ob).heap.size=w10.heap.size+1:=fun ob=>by show (w10.alloc ob).heap.size=_;simp
         have HO11:=cH hown9
         have HS11:=cH (zKa ((HS10.out.drew).alloc _) (fun b hb=>(HSo3.out b hb).2) hgrow9)
         have Hd11:=cH (zKa ((Hd10.out.drew).alloc _) HSd.out hgrow9)
         have HB11:=cH (zAw (bal (bot Hbi.out HB10.out).drew _) hgrow9 (HO10.out.drew.alloc _) (nR _))
         have hat':u14.ownBlock=some g9∨(w10.drew.alloc (.cells #[.string dn,.int .i64 a1,.int .i64 a2,.int .i64 a3] 63)).heap.size≤g9:=by
          rcases hat9 with h|h
          ·exact Or.inl h
          ·exact Or.inr (by rw[hz10,h];exact nR _)
         have HSo11:Hid (∀ b,((So b∨w9.heap.size≤b)∧b<(w10.drew.alloc (.cells #[.string dn,.int .i64 a1,.int .i64 a2,.int .i64 a3] 63)).heap.size)→w.heap.size≤b∧(Value.slice (some ⟨g9,0,none⟩) (nx.length+1) cap9).ownBlock≠some b):=fun b hb=>⟨(HSo3.out b hb.1).1,by_ne (fun b hb=>(HSo3.out b hb).2) hat' b hb⟩
         have HSd11:Hid (∀ b,(Sd b∧b<(w10.drew.alloc (.cells #[.string dn,.int .i64 a1,.int .i64 a2,.int .i64 a3] 63)).heap.size)→(Value.slice (some ⟨g9,0,none⟩) (nx.length+1) cap9).ownBlock≠some b):=fun b hb=>by_ne HSd.out hat' b hb
         clear hown9 hgrow9 hat9 hlt9 hK11 hat' hz10
         go_wp2_with fail
         go_roundw
         case rel=>
          have h:=HM3.out
          subst h
          exact ⟨j+1,o3,nx++[⟨dn,a1,a2,a3⟩],pA,pc,_,_,by omega,rfl,by go_num,HA3,⟨HI2.out.1,HI2.out.2,by rw[List.length_append];have:=Hinv.out.2.2;simp only[List.length_cons,List.length_nil];omega⟩,HO11,HS11,HSo11,Hd11,HSd11,HB11⟩
         case measure=>simp[intOf];omega
structure SCtx where
 q:SIn
 cB:Nat
 sB:Nat
 kA:Option Addr
 kn:Nat
 kc:Nat
 A0:Option Addr
 n0:Nat
 c0:Nat
 A1:Option Addr
 n1:Nat
 c1:Nat
 A2:Option Addr
 n2:Nat
 c2:Nat
 A3:Option Addr
 n3:Nat
 c3:Nat
 dirs:Int
 path:Int
def sRow (C:SCtx) (t er:Int) (v:Value):Array Value:=#[.pointer (some ⟨C.cB,0,none⟩),.slice C.A0 C.n0 C.c0,.slice C.A1 C.n1 C.c1,.slice C.A2 C.n2 C.c2,.slice C.A3 C.n3 C.c3,.bool C.q.dev,.slice none 0 0,.int .i64 (C.q.dec:Int),.int .i64 (C.q.lim:Int),.int .i64 C.dirs,.int .i64 C.path,.int .i64 t,.int .i64 er,v]
structure SCtx.Ok (C:SCtx):Prop where
 small:∀ x∈C.q.L,zBR x
 len:C.q.L.length≤128
 mz:C.q.m.deps.length≤1048576∧C.q.m.dev.length≤1048576∧C.q.m.opts.length≤1048576
 dec:C.q.dec≤4096
 lim:1≤C.q.lim∧C.q.lim≤128
 ne:C.cB≠C.sB
structure SRd (C:SCtx) (w:World):Prop where
 cat:w.cell? ⟨C.cB,0,none⟩=some (.slice C.kA C.kn C.kc)
 L:SlV rPack w (fun b=>b≠C.sB) C.q.L (.slice C.kA C.kn C.kc)
 m:ManiV w (fun b=>b≠C.sB) C.q.m (.agg #[.slice C.A0 C.n0 C.c0,.slice C.A1 C.n1 C.c1,.slice C.A2 C.n2 C.c2,.slice C.A3 C.n3 C.c3])
structure SW (C:SCtx) (w:World) (t er:Int) (v:Value):Prop where
 row:w.heap[C.sB]?=some (.cells (sRow C t er v) 136 (0,0))
 rd:SRd C w
theorem ManiV.but {B:Nat} {w w':World} {S:Nat→Prop} {m:Mani} {v:Value} (hb:But B w w') (h:ManiV w S m v) (hS:∀ b,S b→b≠B):ManiV w' S m v:=by
 obtain ⟨A0,n0,c0,A1,n1,c1,A2,n2,c2,A3,n3,c3,h,h0,h1,h2,h3⟩:=h
 exact ⟨A0,n0,c0,A1,n1,c1,A2,n2,c2,A3,n3,c3,h,hb.slv h0 hS,hb.slv h1 hS,hb.slv h2 hS,hb.slv h3 hS⟩
theorem SRd.but {C:SCtx} {w w':World} (hC:C.cB≠C.sB) (h:SRd C w) (hb:But C.sB w w'):SRd C w':=
 ⟨hb.cell h.cat hC,hb.slv h.L (fun _ h=>h),ManiV.but hb h.m (fun _ h=>h)⟩
theorem SW.hB {C:SCtx} {w:World} {t er:Int} {v:Value} (h:SW C w t er v):C.sB<w.heap.size:=(aS.1 h.row).1
theorem SW.keep {C:SCtx} {w w':World} {t er:Int} {v:Value} (hC:C.cB≠C.sB) (h:SW C w t er v) (hb:Below w.heap.size w w'):SW C w' t er v:=
 ⟨(hb.block _ h.hB).trans h.row,h.rd.but hC (But.of hb)⟩
theorem SW.cells {C:SCtx} {w:World} {t er:Int} {v:Value} (h:SW C w t er v) :
  w.cell? ⟨C.sB,0,none⟩=some (.pointer (some ⟨C.cB,0,none⟩))∧w.cell? ⟨C.sB,1,none⟩=some (.slice C.A0 C.n0 C.c0)∧w.cell? ⟨C.sB,2,none⟩=some (.slice C.A1 C.n1 C.c1)∧w.cell? ⟨C.sB,3,none⟩=some (.slice C.A2 C.n2 C.c2)∧w.cell? ⟨C.sB,4,none⟩=some (.slice C.A3 C.n3 C.c3)∧w.cell? ⟨C.sB,5,none⟩=some (.bool C.q.dev)∧w.cell? ⟨C.sB,6,none⟩=some (.slice none 0 0)∧w.cell? ⟨C.sB,7,none⟩=some (.int .i64 (C.q.dec:Int))∧w.cell? ⟨C.sB,8,none⟩=some (.int .i64 (C.q.lim:Int))∧w.cell? ⟨C.sB,11,none⟩=some (.int .i64 t)∧w.cell? ⟨C.sB,12,none⟩=some (.int .i64 er)∧w.cell? ⟨C.sB,13,none⟩=some v:=
 ⟨cO _ _ 0 _ _ _ h.row,cO _ _ 1 _ _ _ h.row,cO _ _ 2 _ _ _ h.row,cO _ _ 3 _ _ _ h.row,cO _ _ 4 _ _ _ h.row,cO _ _ 5 _ _ _ h.row,cO _ _ 6 _ _ _ h.row,cO _ _ 7 _ _ _ h.row,cO _ _ 8 _ _ _ h.row,cO _ _ 11 _ _ _ h.row,cO _ _ 12 _ _ _ h.row,cO _ _ 13 _ _ _ h.row⟩
theorem SW.frz {C:SCtx} {w:World} {t er:Int} {v:Value} (h:SW C w t er v) (j:Nat):w.frozen? ⟨C.sB,j,none⟩=false:=frozen_of_row _ _ j _ _ h.row
theorem SW.tick {C:SCtx} {w:World} {t er:Int} {v:Value} (hC:C.cB≠C.sB) (h:SW C w t er v) (t':Int):SW C (w.setCell ⟨C.sB,11,none⟩ (.int .i64 t')) t' er v∧But C.sB w (w.setCell ⟨C.sB,11,none⟩ (.int .i64 t')):=
 ⟨⟨set1Q h.row _,h.rd.but hC (But.set _ _ _ _)⟩,But.set _ _ _ _⟩
theorem SW.fail_ {C:SCtx} {w:World} {t er:Int} {v:Value} (hC:C.cB≠C.sB) (h:SW C w t er v) (e:Int):SW C (w.setCell ⟨C.sB,12,none⟩ (.int .i64 e)) t e v∧But C.sB w (w.setCell ⟨C.sB,12,none⟩ (.int .i64 e)):=
 ⟨⟨set1Q h.row _,h.rd.but hC (But.set _ _ _ _)⟩,But.set _ _ _ _⟩
theorem SW.find_ {C:SCtx} {w:World} {t er:Int} {v:Value} (hC:C.cB≠C.sB) (h:SW C w t er v) (u:Value):SW C (w.setCell ⟨C.sB,13,none⟩ u) t er u∧But C.sB w (w.setCell ⟨C.sB,13,none⟩ u):=
 ⟨⟨set1Q h.row _,h.rd.but hC (But.set _ _ _ _)⟩,But.set _ _ _ _⟩
theorem zMC (m:Mani):ofW m zAC=[]:=rfl
theorem zHs (q:SIn) (nodes:List Node):zBf q nodes 0=zBP q.m q.dev:=rfl
theorem zFJ (q:SIn) {nodes:List Node} {i:Nat} {n:Node} (h0:i≠0) (h:nodes[i]?=some n):zBf q nodes i=ofW q.m ((getC q.L n.name n.ver).getD zAC):=by
 unfold zBf
 rw[if_neg h0,h]
 simp only
 cases getC q.L n.name n.ver with
 | none=>exact (zMC _).symm
 | some x=>rfl
theorem zFy {C:SCtx} (hC:C.Ok) (s:ByteArray) (v:Ver):zBR ((getC C.q.L s v).getD zAC):=by
 cases hg:getC C.q.L s v with
 | none=>exact ⟨⟨nZ _,fun d hd=>by cases hd⟩,⟨nZ _,fun d hd=>by cases hd⟩,⟨nZ _,fun d hd=>by cases hd⟩⟩
 | some x=>
   unfold getC at hg
   exact hC.small x (List.mem_of_find?_eq_some hg)
theorem zHu {α:Type} {r:Rp α} {B:Nat} {w':World} {S:Nat→Prop} {N:Nat} {l:List α} {v:Value} (h:SlV r w' (fun b=>S b∨N≤b) l v) (hS:∀ b,S b→b≠B) (hN:B<N):SlV r w' (fun b=>b≠B) l v:=h.more fun b hb _=>by
 rcases hb with hb|hb
 ·exact hS b hb
 ·show b≠B;omega
theorem PackV.moreP {w:World} {S T:Nat→Prop} {x:Pack} {v:Value} (h:PackV w S x v) (hk:∀ b,S b→b<w.heap.size→T b):PackV w T x v:=by
 obtain ⟨A,n,c,A',n',c',A'',n'',c'',h1,h2,h3,h4,h5⟩:=h
 exact ⟨A,n,c,A',n',c',A'',n'',c'',h1,h2,h3.more hk,h4.more hk,h5.more hk⟩
theorem zKz (C:SCtx) (hC:C.Ok) (nodes:List Node) (A:Option Addr) (n c i:Nat) (w:World) (t er:Int) (v:Value) (hw:SW C w t er v) (hnd:SlV rNode w (fun b=>b≠C.sB) nodes (.slice A n c)) (hi:i<nodes.length) :
  Calls Tryz.prog 112 #[.pointer (some ⟨C.sB,0,none⟩),.slice A n c,.int .i64 (i:Int)] w fun e w'=>(∃ B k,e=.returned (.slice B (zBf C.q nodes i).length k)∧SlV rWant w' (fun b=>b≠C.sB) (zBf C.q nodes i) (.slice B (zBf C.q nodes i).length k))∧Below w.heap.size w w':=by
 have hsB:=hw.hB
 have hn:=hnd.n_eq
 have hcap:=hnd.cap_le
 unfold maxLen at hcap
 have hin:i<n:=by omega
 have hinz:n≤9223372036854775807:=by omega
 have HW:=cH hw
 have Hrow:Hid (∀ W,Below w.heap.size w W→SW C W t er v):=fun W hW=>hw.keep hC.ne hW
 obtain ⟨s0,s1,s2,s3,s4,s5,_,_,_,_,_,_⟩:=hw.cells
 have Hs:Hid (∀ W,Below w.heap.size w W→W.cell? ⟨C.sB,0,none⟩=some (.pointer (some ⟨C.cB,0,none⟩))∧W.cell? ⟨C.sB,1,none⟩=some (.slice C.A0 C.n0 C.c0)∧W.cell? ⟨C.sB,2,none⟩=some (.slice C.A1 C.n1 C.c1)∧W.cell? ⟨C.sB,3,none⟩=some (.slice C.A2 C.n2 C.c2)∧W.cell? ⟨C.sB,4,none⟩=some (.slice C.A3 C.n3 C.c3)∧W.cell? ⟨C.sB,5,none⟩=some (.bool C.q.dev)):=fun W hW=>⟨zAA hW s0 hsB,zAA hW s1 hsB,zAA hW s2 hsB,zAA hW s3 hsB,zAA hW s4 hsB,zAA hW s5 hsB⟩
 obtain ⟨x,hx⟩:∃ x,nodes[i]?=some x:=⟨_,gE hi⟩
 obtain ⟨T,hT⟩:∃ T:Nat→Prop,T=fun b=>b≠C.sB∧b<w.heap.size:=⟨_,rfl⟩
 have HT:Hid (∀ b,T b↔b≠C.sB∧b<w.heap.size):=fun b=>by rw[hT]
 clear hT
 have HLT:Hid (SlV rPack w T C.q.L (.slice C.kA C.kn C.kc)):=hw.rd.L.more fun b hb hl=>(HT.out b).2 ⟨hb,hl⟩
 have HRoot:Hid (∀ W,Below w.heap.size w W→Calls Tryz.prog 148 #[.agg #[.slice C.A0 C.n0 C.c0,.slice C.A1 C.n1 C.c1,.slice C.A2 C.n2 C.c2,.slice C.A3 C.n3 C.c3],.bool C.q.dev] W fun e w'=>(∃ B k,e=.returned (.slice B (zBP C.q.m C.q.dev).length k)∧SlV rWant w' (fun b=>b≠C.sB) (zBP C.q.m C.q.dev) (.slice B (zBP C.q.m C.q.dev).length k))∧Below W.heap.size W w'):=fun W hW=>by
  refine (zJu C.q.m _ C.q.dev W _ (Hrow.out W hW).rd.m hC.mz).mono ?_
  rintro e w' ⟨⟨B,k,h1,h2⟩,h3⟩
  have:=hW.size
  exact ⟨⟨B,k,h1,zHu h2 (fun _ h=>h) (by omega)⟩,h3⟩
 have HOf:Hid (∀ (y:Pack) u W,Below w.heap.size w W→PackV W T y u→zBR y→Calls Tryz.prog 149 #[u,.agg #[.slice C.A0 C.n0 C.c0,.slice C.A1 C.n1 C.c1,.slice C.A2 C.n2 C.c2,.slice C.A3 C.n3 C.c3]] W fun e w'=>(∃ B k,e=.returned (.slice B (ofW C.q.m y).length k)∧SlV rWant w' (fun b=>b≠C.sB) (ofW C.q.m y) (.slice B (ofW C.q.m y).length k))∧Below W.heap.size W w'):=fun y u W hW hy hs=>by
  refine (zM8 y u C.q.m _ W _ (hy.moreP fun b hb _=>((HT.out b).1 hb).1) hs (Hrow.out W hW).rd.m).mono ?_
  rintro e w' ⟨⟨B,k,h1,h2⟩,h3⟩
  have:=hW.size
  exact ⟨⟨B,k,h1,zHu h2 (fun _ h=>h) (by omega)⟩,h3⟩
 have HGet:Hid (∀ W (s:ByteArray) (u:Ver),Below w.heap.size w W→Calls Tryz.prog 35 #[.pointer (some ⟨C.cB,0,none⟩),.string s,.agg #[.int .i64 u.major,.int .i64 u.minor,.int .i64 u.patch]] W fun e w'=>(∃ A B C' a b c,e=.returned (.tuple #[.agg #[.string ((getC C.q.L s u).getD zAC).name,.int .i64 ((getC C.q.L s u).getD zAC).ver.major,.int .i64 ((getC C.q.L s u).getD zAC).ver.minor,.int .i64 ((getC C.q.L s u).getD zAC).ver.patch,.slice A ((getC C.q.L s u).getD zAC).deps.length a,.slice B ((getC C.q.L s u).getD zAC).peers.length b,.slice C' ((getC C.q.L s u).getD zAC).opts.length c],.bool (getC C.q.L s u).isSome])∧PackV w' T ((getC C.q.L s u).getD zAC) (.agg #[.string ((getC C.q.L s u).getD zAC).name,.int .i64 ((getC C.q.L s u).getD zAC).ver.major,.int .i64 ((getC C.q.L s u).getD zAC).ver.minor,.int .i64 ((getC C.q.L s u).getD zAC).ver.patch,.slice A ((getC C.q.L s u).getD zAC).deps.length a,.slice B ((getC C.q.L s u).getD zAC).peers.length b,.slice C' ((getC C.q.L s u).getD zAC).opts.length c]))∧Below W.heap.size W w'):=fun W s u hW=>by
  have h:=(Hrow.out W hW).rd
  refine (zEW C.cB C.kA C.kn C.kc C.q.L s u W T h.cat (HLT.out.belowSize hW)).mono ?_
  rintro e w' ⟨q,h1,h2,h3⟩
  obtain ⟨A,B,C',a,b,c,rfl,_⟩:=h2.open_
  exact ⟨⟨A,B,C',a,b,c,h1,h2⟩,h3⟩
 have HSm:=cH (zFy hC)
 have HE0:Hid (i=0→zBf C.q nodes i=zBP C.q.m C.q.dev):=fun h=>by rw[h];rfl
 have HE1:Hid (i≠0→zBf C.q nodes i=ofW C.q.m ((getC C.q.L x.name x.ver).getD zAC)):=fun h=>zFJ C.q h hx
 obtain ⟨b,o,cs,hA,_,hb,⟨q0,q1,rfl,_,_,_,_,_,_⟩,hcell⟩:=hnd.elem hx
 have Hx:Hid (∀ W,Below w.heap.size w W→W.cell? ⟨b,o+i * 6,none⟩=some (.string x.name)∧W.cell? ⟨b,o+i * 6+1,none⟩=some (.int .i64 x.ver.major)∧W.cell? ⟨b,o+i * 6+2,none⟩=some (.int .i64 x.ver.minor)∧W.cell? ⟨b,o+i * 6+3,none⟩=some (.int .i64 x.ver.patch)):=fun W hW=>⟨zAA hW (hcell 0 _ rfl) hb,zAA hW (hcell 1 _ rfl) hb,zAA hW (hcell 2 _ rfl) hb,zAA hW (hcell 3 _ rfl) hb⟩
 clear hcell hw hnd hn hcap hx HW Hrow hi
 subst hA
 obtain ⟨R,hR⟩:∃ R,R=zBf C.q nodes i:=⟨_,rfl⟩
 rw[←hR] at HE0 HE1 ⊢
 obtain ⟨RL,hRL⟩:∃ k,k=R.length:=⟨_,rfl⟩
 rw[←hRL]
 have HRL:=cH hRL
 clear hR hRL
 obtain ⟨xn,⟨x1,x2,x3⟩,xx,xe⟩:=x
 simp only at HE1 Hx
 obtain ⟨y0,y1,y2,y3⟩:=Hx.out w (bR _ _)
 have hi0:(0:Int)≤(i:Int):=by omega
 have hiI:(i:Int)<(n:Int):=by omega
 generalize C.A0=A0 at *
 generalize C.n0=n0 at *
 generalize C.c0=c0 at *
 generalize C.A1=A1 at *
 generalize C.n1=n1 at *
 generalize C.c1=c1 at *
 generalize C.A2=A2 at *
 generalize C.n2=n2 at *
 generalize C.c2=c2 at *
 generalize C.A3=A3 at *
 generalize C.n3=n3 at *
 generalize C.c3=c3 at *
 generalize C.q.dev=dev at *
 generalize C.cB=cB at *
 generalize C.sB=sB at *
 go_enter Tryz.func112,Tryz.ntmps112
 by_cases hz:i=0
 case pos=>
  have He:=cH (HE0.out hz)
  have hzb:((i:Int)==0)=true:=by simp;omega
  clear HE0 HE1 HOf HGet HSm hz
  go_upto_region 2 with (fail)
  go_region_held3 (fun W=>W.cell? ⟨sB,1,none⟩=some (.slice A0 n0 c0)∧W.cell? ⟨sB,2,none⟩=some (.slice A1 n1 c1)∧W.cell? ⟨sB,3,none⟩=some (.slice A2 n2 c2)∧W.cell? ⟨sB,4,none⟩=some (.slice A3 n3 c3)∧W.cell? ⟨sB,5,none⟩=some (.bool dev))
   (first
     | (with_reducible exact (Hs.out _ (bR _ _).drew).2)
     | (with_reducible exact (Hs.out _ hB2).2))
   (first
     | (go_at_call 148;with_reducible refine (HRoot.out _ (bR _ _).drew).mono ?_;rintro e w2 ⟨⟨B2,k2,rfl,hsl⟩,hb2⟩;have hB2:Below w.heap.size w w2:=bot (bR _ _).drew hb2))
  all_goals
   rw[←He.out,←HRL.out] at hsl
   rw[←He.out,←HRL.out]
   have HS2:=cH hsl
   have HB2:=cH hB2
   clear hsl hb2 hB2 s0 s1 s2 s3 s4 s5 y0 y1 y2 y3
   go_wp2_with fail
   go_ret
   exact ⟨⟨B2,k2,rfl,HS2.out⟩,HB2.out⟩
 have hzb:((i:Int)==0)=false:=by simp;omega
 have He:=cH (HE1.out hz)
 clear HE0 HE1 HRoot hz
 have HGk:Hid (∀ W,Below w.heap.size w W→_):=fun W hW=>HGet.out W xn ⟨x1,x2,x3⟩ hW
 simp only at HGk
 have HSy:=cH (HSm.out xn ⟨x1,x2,x3⟩)
 generalize (getC C.q.L xn ⟨x1,x2,x3⟩).isSome=gs at *
 generalize (getC C.q.L xn ⟨x1,x2,x3⟩).getD zAC=y at *
 clear HGet HSm
 obtain ⟨l1,hl1⟩:∃ k,k=y.deps.length:=⟨_,rfl⟩
 obtain ⟨l2,hl2⟩:∃ k,k=y.peers.length:=⟨_,rfl⟩
 obtain ⟨l3,hl3⟩:∃ k,k=y.opts.length:=⟨_,rfl⟩
 rw[←hl1,←hl2,←hl3] at HGk
 clear hl1 hl2 hl3
 generalize y.name=yn at *
 generalize y.ver.major=v1 at *
 generalize y.ver.minor=v2 at *
 generalize y.ver.patch=v3 at *
 have Hcells:Hid (∀ W,Below w.heap.size w W→W.cell? ⟨sB,0,none⟩=some (.pointer (some ⟨cB,0,none⟩))∧W.cell? ⟨b,o+i * 6,none⟩=some (.string xn)∧W.cell? ⟨b,o+i * 6+1,none⟩=some (.int .i64 x1)∧W.cell? ⟨b,o+i * 6+2,none⟩=some (.int .i64 x2)∧W.cell? ⟨b,o+i * 6+3,none⟩=some (.int .i64 x3)):=fun W hW=>⟨(Hs.out W hW).1,Hx.out W hW⟩
 go_upto_region 3 with (fail)
 go_cut [7,8] from 20 to 37 (fun v7 v8 wx=>∃ (PB:Nat) (A B C':Option Addr) (a b' c:Nat),v7=.pointer (some ⟨PB,0,none⟩)∧v8=.bool gs∧Hid (Below w.heap.size w wx∧wx.heap[PB]?=some (.cells #[.string yn,.int .i64 v1,.int .i64 v2,.int .i64 v3,.slice A l1 a,.slice B l2 b',.slice C' l3 c] 52 (0,0))∧PackV wx T y (.agg #[.string yn,.int .i64 v1,.int .i64 v2,.int .i64 v3,.slice A l1 a,.slice B l2 b',.slice C' l3 c])))
 case first=>
  go_region_held3 (fun W=>(W.cell? ⟨sB,0,none⟩=some (.pointer (some ⟨cB,0,none⟩))∧W.cell? ⟨b,o+i * 6,none⟩=some (.string xn)∧W.cell? ⟨b,o+i * 6+1,none⟩=some (.int .i64 x1)∧W.cell? ⟨b,o+i * 6+2,none⟩=some (.int .i64 x2)∧W.cell? ⟨b,o+i * 6+3,none⟩=some (.int .i64 x3))∧Below w.heap.size w W)
   (first
     | (with_reducible exact hK7 _ _ _ _ _ _ _)
     | (with_reducible exact ⟨Hcells.out _ (bR _ _).drew,(bR _ _).drew⟩)
     | (with_reducible exact ⟨Hcells.out _ hB2,hB2⟩)
     | (with_reducible exact ⟨Hcells.out _ (bal hB2 _),bal hB2 _⟩)
     | (with_reducible exact ⟨Hcells.out _ (bal (bR _ _).drew _),bal (bR _ _).drew _⟩))
   (first
     | (go_at_call 35;go_split_ands;with_reducible refine (HGk.out _ (by assumption)).mono ?_;rintro e w2 ⟨⟨gA,gB,gC,ga,gb,gc,rfl,hpv⟩,hb2⟩;have hB2:Below w.heap.size w w2:=bot (by assumption) hb2;have hz2:=hB2.size;(try (have hT:=zD9 hb2;obtain ⟨⟨t0,t1,t2,t3,t4,t5,t6⟩,f0,f1,f2,f3,f4,f5,f6⟩:=hT;have hK7:=fun a0 a1 a2 a3 a4 a5 a6=>And.intro (Hcells.out _ (zAj hB2 (nR w.heap.size) a0 a1 a2 a3 a4 a5 a6)) (zAj hB2 (nR w.heap.size) a0 a1 a2 a3 a4 a5 a6)))))
  all_goals
   go_wp2_with fail
   go_meet
   first
    | (have hq:=hK7;exact ⟨w.heap.size,gA,gB,gC,ga,gb,gc,rfl,rfl,zAj hB2 (nR _) _ _ _ _ _ _ _,set7Q (zEV hb2) _ _ _ _ _ _ _,hpv.belowT (zAj (bR w.heap.size w2) (nR _) _ _ _ _ _ _ _) (fun b hb=>((HT.out b).1 hb).2)⟩)
    | exact ⟨w2.heap.size,gA,gB,gC,ga,gb,gc,rfl,rfl,bal hB2 _,zAD w2 _,hpv.keep (bal (bR _ _) _)⟩
 case rest=>
 obtain ⟨PB,gA,gB,gC,ga,gb,gc,rfl,rfl,HN⟩:=hcut
 generalize wc=w4 at *
 have HB4:=cH HN.out.1
 have HP4:=cH HN.out.2.1
 have HO4:Hid (∀ W,Below w4.heap.size w4 W→Calls Tryz.prog 149 #[.agg #[.string yn,.int .i64 v1,.int .i64 v2,.int .i64 v3,.slice gA l1 ga,.slice gB l2 gb,.slice gC l3 gc],.agg #[.slice A0 n0 c0,.slice A1 n1 c1,.slice A2 n2 c2,.slice A3 n3 c3]] W fun e w'=>(∃ B k,e=.returned (.slice B RL k)∧SlV rWant w' (fun b=>b≠sB) R (.slice B RL k))∧Below W.heap.size W w'):=fun W hW=>by
  have h:=HOf.out y _ W (bot HB4.out hW) (HN.out.2.2.keep hW) HSy.out
  rw[←He.out,←HRL.out] at h
  exact h
 have Hc4:Hid (∀ W,Below w4.heap.size w4 W→(W.cell? ⟨PB,0,none⟩=some (.string yn)∧W.cell? ⟨PB,1,none⟩=some (.int .i64 v1)∧W.cell? ⟨PB,2,none⟩=some (.int .i64 v2)∧W.cell? ⟨PB,3,none⟩=some (.int .i64 v3)∧W.cell? ⟨PB,4,none⟩=some (.slice gA l1 ga)∧W.cell? ⟨PB,5,none⟩=some (.slice gB l2 gb)∧W.cell? ⟨PB,6,none⟩=some (.slice gC l3 gc))∧W.cell? ⟨sB,1,none⟩=some (.slice A0 n0 c0)∧W.cell? ⟨sB,2,none⟩=some (.slice A1 n1 c1)∧W.cell? ⟨sB,3,none⟩=some (.slice A2 n2 c2)∧W.cell? ⟨sB,4,none⟩=some (.slice A3 n3 c3)):=fun W hW=>by
  obtain ⟨_,k1,k2,k3,k4,_⟩:=Hs.out W (bot HB4.out hW)
  exact ⟨(row7 ((hW.block _ (aS.1 HP4.out).1).trans HP4.out)).1,k1,k2,k3,k4⟩
 clear HOf HSy HN s0 s1 s2 s3 s4 s5 y0 y1 y2 y3 Hcells HGk HLT
 obtain ⟨⟨t0,t1,t2,t3,t4,t5,t6⟩,s1,s2,s3,s4⟩:=Hc4.out w4 (bR _ _)
 go_upto_region 4 with (fail)
 go_region_held3 (fun W=>(W.cell? ⟨PB,0,none⟩=some (.string yn)∧W.cell? ⟨PB,1,none⟩=some (.int .i64 v1)∧W.cell? ⟨PB,2,none⟩=some (.int .i64 v2)∧W.cell? ⟨PB,3,none⟩=some (.int .i64 v3)∧W.cell? ⟨PB,4,none⟩=some (.slice gA l1 ga)∧W.cell? ⟨PB,5,none⟩=some (.slice gB l2 gb)∧W.cell? ⟨PB,6,none⟩=some (.slice gC l3 gc))∧W.cell? ⟨sB,1,none⟩=some (.slice A0 n0 c0)∧W.cell? ⟨sB,2,none⟩=some (.slice A1 n1 c1)∧W.cell? ⟨sB,3,none⟩=some (.slice A2 n2 c2)∧W.cell? ⟨sB,4,none⟩=some (.slice A3 n3 c3))
  (first
    | (with_reducible exact Hc4.out _ (bR _ _).drew)
    | (with_reducible exact Hc4.out _ hB5))
  (first
    | (go_at_call 149;with_reducible refine (HO4.out _ (bR _ _).drew).mono ?_;rintro e w5 ⟨⟨B2,k2,rfl,hsl⟩,hb5⟩;have hB5:Below w4.heap.size w4 w5:=bot (bR _ _).drew hb5))
 all_goals
  have HS5:=cH hsl
  have HB5:=cH (bot HB4.out hB5)
  clear hsl hb5 hB5 t0 t1 t2 t3 t4 t5 t6 s1 s2 s3 s4 HO4 Hc4
  go_wp2_with fail
  go_ret
  exact ⟨⟨B2,k2,rfl,HS5.out⟩,HB5.out⟩
