/- The document's search: a node with its environment: walked. -/
import Derived.Test.YtminjjdnmpaaoaaGreatDoorSv30
import Derived.Test.YtminjjdnmpaaoaaGreatDoorSv19
import Derived.Test.YtminjjdnmpaaoaaGreatDoorAl
set_option linter.all false
set_option maxHeartbeats 12800000
set_option maxRecDepth 100000
namespace Go.Proofs.YtminjjdnmpaaoaaGreatDoor
open Go.Rows Go.RowKit Go.Shelf Go.Sort
theorem zLr:Elt Tryz.prog 55 1 24:=Elt.mk' (z:=.slice none 0 0) (by kernel_rfl) rfl (by decide)
theorem zI0:Elt Tryz.prog 58 6 88:=Elt.mk' (z:=.agg #[.string ⟨#[]⟩,.int .i64 0,.int .i64 0,.int .i64 0,.slice none 0 0,.slice none 0 0]) (by kernel_rfl) rfl (by decide)
theorem zLG {L:List Pack} {m:Mani} {env:List Pin}:∀ {l:List Pin} {k:Nat} {p:Pin},l[k]?=some p→ctxP L m env p=none→ctxsP L m env l=none:=by
 intro l
 induction l with
 | nil=>intro k p h;cases h
 | cons a l ih=>
   intro k p h hp
   unfold ctxsP
   cases k with
   | zero=>cases h;rw[hp]
   | succ k=>
     cases ctxP L m env a with
     | none=>rfl
     | some x=>simp only;rw[ih (k:=k) h hp]
def zEL (L:List Pack) (m:Mani) (env:List Pin) (l:List Pin) (k:Nat) (cs:List (List Pin)):Prop:=ctxsP L m env (l.take k)=some cs
theorem zIH (L:List Pack) (m:Mani) (env l:List Pin):zEL L m env l 0 []:=rfl
theorem zIR {L:List Pack} {m:Mani} {env:List Pin}:∀ {l:List Pin} {cs:List (List Pin)} {p:Pin} {x:List Pin},ctxsP L m env l=some cs→ctxP L m env p=some x→ctxsP L m env (l++[p])=some (cs++[x]):=by
 intro l
 induction l with
 | nil=>
   intro cs p x h hp
   unfold ctxsP at h
   cases h
   show ctxsP L m env [p]=some [x]
   unfold ctxsP
   rw[hp]
   rfl
 | cons a l ih=>
   intro cs p x h hp
   unfold ctxsP at h
   split at h
   ·cases h
   ·rename_i y hy
    split at h
    ·cases h
    ·rename_i ys hys
     cases h
     show ctxsP L m env (a::(l++[p]))=some (y::ys++[x])
     unfold ctxsP
     rw[hy]
     simp only
     rw[ih hys hp]
     rfl
theorem zIE {L:List Pack} {m:Mani} {env l:List Pin} {k:Nat} {cs:List (List Pin)} {p:Pin} {x:List Pin} (h:zEL L m env l k cs) (hp:l[k]?=some p) (hx:ctxP L m env p=some x):zEL L m env l (k+1) (cs++[x]):=by
 unfold zEL at h ⊢
 rw[List.take_add_one,hp]
 exact zIR h hx
theorem zHm {L:List Pack} {m:Mani} {env l:List Pin} {k:Nat} {cs:List (List Pin)} (h:zEL L m env l k cs) (hk:l.length≤k):ctxsP L m env l=some cs:=by
 unfold zEL at h
 rwa [List.take_of_length_le hk] at h
theorem zIL {lim:Nat} {env:List Pin} {cs:List (List Pin)} {k:Nat} {out:List Node} {es:List Edge} (h:env.length≤k):zBG lim (env.drop k) (cs.drop k) out es=some (out,es):=by
 rw[dN h]
 cases cs.drop k<;>(unfold zBG;rfl)
theorem zIW {lim:Nat} {env:List Pin} {cs:List (List Pin)} {k:Nat} {p:Pin} {c:List Pin} (hp:env[k]?=some p) (hc:cs[k]?=some c) (out:List Node) (es:List Edge):zBG lim (env.drop k) (cs.drop k) out es=if placeN out p c=out.length then
   if out.length=lim then none
   else zBG lim (env.drop (k+1)) (cs.drop (k+1)) (out++[⟨p.name,p.ver,c,[]⟩]) (es++[⟨p.name,(out.length:Int)⟩])
  else zBG lim (env.drop (k+1)) (cs.drop (k+1)) out (es++[⟨p.name,(placeN out p c:Int)⟩]):=by
 obtain ⟨h1,e1⟩:=gS.1 hp
 obtain ⟨h2,e2⟩:=gS.1 hc
 rw[dC h1,dC h2,e1,e2]
 conv=>lhs;unfold zBG
theorem Own.slvOwn {α:Type} {r:Rp α} {w:World} {S:Nat→Prop} {l:List α} {base:Nat} {e:TypeId} {v:Value} (h:Own r w base e v l S):SlV r w (fun b=>S b∨v.ownBlock=some b) l v:=by
 obtain ⟨h0,xs,h1,h2⟩:=h
 have h1':=h1
 rcases h1.2 with ⟨rfl,hn⟩|⟨g,cap,cur,rfl,hb,hg,hnc,hcm,hsz,htake⟩
 ·have:l=[]:=List.eq_nil_of_length_eq_zero hn
  subst this
  exact SlV.nil_ _ _ _
 ·refine ⟨some ⟨g,0,none⟩,cap,rfl,hnc,hcm,(fun h=>by cases h),fun _=>⟨g,0,rfl,.inr rfl,(aS.1 hg).1,fun i x hx=>?_⟩⟩
  obtain ⟨cs,hc,hcell⟩:=h2.get i x hx
  refine ⟨cs,r.mono hc fun b hb _=>⟨.inl hb,rfl⟩,fun j u hu=>?_⟩
  have h3:=h1'.cells (g:=g) rfl _ u (hcell j u hu)
  have hadd:∀ k,(⟨g,0,none⟩:Addr).add k=⟨g,k,none⟩:=fun k=>by unfold Addr.add;split<;>simp_all
  rw[hadd] at h3
  rw[Nat.zero_add]
  exact h3
theorem zGm {ns:List Node} {i:Nat} (h:i<ns.length) (es:List Edge):zBD ns i es=ns.set i { ns[i] with edges:=es}:=by
 apply List.ext_getElem?
 intro j
 rw[zCU,List.getElem?_set]
 by_cases hj:j=i
 ·subst hj
  rw[if_pos rfl,if_pos rfl,if_pos h,gE h];rfl
 ·rw[if_neg hj,if_neg (Ne.symm hj)]
theorem zMo {w:World} {base:Nat} {ov ev:Value} {out:List Node} {es:List Edge} {T:Nat→Prop} {at_:Nat} (HO:Own rNode w base 58 ov out T) (HE:Own rEdge w base 61 ev es (fun _=>False))
  (hap:∀ g,ov.ownBlock=some g→ev.ownBlock≠some g) (hi:at_<out.length) :
  ∃ g o cap,ov=.slice (some ⟨g,o,none⟩) out.length cap∧base≤g∧g<w.heap.size∧(∃ x,w.cell? ⟨g,o+at_ * 6+5,none⟩=some x)∧w.frozen? ⟨g,o+at_ * 6+5,none⟩=false ∧
    SlV rNode (w.setCell ⟨g,o+at_ * 6+5,none⟩ ev) (fun b=>T b∨base≤b) (zBD out at_ es) (.slice (some ⟨g,o,none⟩) out.length cap):=by
 have hT2:Own rNode w base 58 ov out (fun b=>T b∨ev.ownBlock=some b):=HO.more (fun b hb=>by
  rcases hb with hb|hb
  ·exact HO.1 b hb
  ·exact ⟨(HE.lt b hb).2,fun h=>hap b h hb⟩) (fun b hb=>.inl hb)
 have hev:SlV rEdge w (fun b=>T b∨ev.ownBlock=some b) es ev:=HE.slvOwn.more fun b hb _=>by
  rcases hb with hb|hb
  ·exact hb.elim
  ·exact .inr hb
 have hc:=hT2
 obtain ⟨h0,xs,h1,h2⟩:=hc
 have h1':=h1
 rcases h1.2 with ⟨rfl,hn⟩|⟨g,cap,cur,rfl,hb,hg,hnc,hcm,hsz,htake⟩
 ·omega
 have hx:∃ cs,rNode.holds w (fun b=>T b∨ev.ownBlock=some b) out[at_] cs∧∀ (j:Nat) (u:Value),cs[j]?=some u→xs[at_ * 6+j]?=some u:=h2.get at_ _ (gE hi)
 obtain ⟨cs,hh,hcell⟩:=hx
 have hh2:=hh
 obtain ⟨q0,q1,rfl,_,_,_,_,_,_⟩:=hh2
 have h3:=h1'.cells (g:=g) rfl _ _ (hcell 5 _ rfl)
 have hadd:∀ k,(⟨g,0,none⟩:Addr).add k=⟨g,k,none⟩:=fun k=>by unfold Addr.add;split<;>simp_all
 rw[hadd] at h3
 refine ⟨g,0,cap,rfl,hb,(aS.1 hg).1,⟨_,by rw[Nat.zero_add];exact h3⟩,by first|exact zAZ hg|simp[World.frozen?,hg],?_⟩
 rw[Nat.zero_add]
 have hset:=(hT2.setE (i:=at_) (j:=5) hi (show 5<rNode.size by decide) (y:={ out[at_] with edges:=es}) (u:=ev) fun cs hcs=>by
  obtain ⟨q0,q1,rfl,e1,e2,e3,e4,e5,_⟩:=hcs
  exact ⟨q0,ev,rfl,e1,e2,e3,e4,e5,hev⟩)
 rw[zGm hi]
 refine hset.1.slv.more fun b hb hl=>?_
 rcases hb with (hb|hb)|hb
 ·exact .inl hb
 ·exact .inr (HE.lt b hb).1
 ·exact .inr hb
theorem zLD (C:SCtx) (hC:C.Ok) (f:Nat) (IHs:SetC C f):BinC C (f+1):=by
 intro nodes at_ t env A n c D en ec w hw hnd he hz hat hez hf
 have hsB:=hw.hB
 have hn:=hnd.n_eq
 have hcap:=hnd.cap_le
 have hen:=he.n_eq
 have henc:=he.cap_le
 unfold maxLen at hcap henc
 have HND:=cH hnd
 have HEN:=cH he
 have HW:=cH hw
 have Hz:=cH hz
 have Hf:=cH hf
 have HOk:=cH hC
 have Hne:=cH hC.ne
 have Hnl:Hid (nodes.length=n):=hn.symm
 have Hel:Hid (env.length=en):=hen.symm
 have HIs:=cH IHs
 have Hezt:=cH hez
 have henz:en≤4096:=by have h1:=hz.2.2;have h2:=hC.dec;omega
 have hatn:at_<n:=by omega
 have hnz:n≤128:=by have h1:=hz.1;have h2:=hC.lim.2;omega
 obtain ⟨sB,hsq⟩:∃ k,k=C.sB:=⟨_,rfl⟩
 have Hsq:=cH hsq
 obtain ⟨R,hR⟩:∃ R,R=goS C.q (f+1) (.bind nodes at_ env) t:=⟨_,rfl⟩
 rw[←hR,←hsq]
 rw[←hsq] at hsB
 have HRn:Hid (ctxsP C.q.L C.q.m env env=none→R=.no t):=fun h=>by rw[hR,goS,h]
 have HRb:Hid (∀ cs,ctxsP C.q.L C.q.m env env=some cs→zBG C.q.lim env cs nodes []=none→R=.bad 32 t):=fun cs h h2=>by rw[hR,goS,h];simp only;rw[h2]
 have HRo:Hid (∀ cs out es,ctxsP C.q.L C.q.m env env=some cs→zBG C.q.lim env cs nodes []=some (out,es)→R=goS C.q f (.settle (zBD out at_ es) (at_+1)) t):=fun cs out es h h2=>by rw[hR,goS,h];simp only;rw[h2]
 have HSW:Hid (∀ W,Below w.heap.size w W→SW C W (t:Int) 0 (.slice none 0 0)):=fun W hW=>hw.keep hC.ne hW
 have HCx:Hid (∀ W (p:Pin),Below w.heap.size w W→(p.name.size≤maxLen∧I64 p.ver.major∧I64 p.ver.minor∧I64 p.ver.patch)→Calls Tryz.prog 163 #[.pointer (some ⟨C.cB,0,none⟩),.agg #[.slice C.A0 C.n0 C.c0,.slice C.A1 C.n1 C.c1,.slice C.A2 C.n2 C.c2,.slice C.A3 C.n3 C.c3],.slice D en ec,.agg #[.string p.name,.int .i64 p.ver.major,.int .i64 p.ver.minor,.int .i64 p.ver.patch]] W fun e w'=>(∃ B n k,e=.returned (.tuple #[.slice B n k,.bool (ctxP C.q.L C.q.m env p).isSome])∧SlV rPin w' (fun b=>W.heap.size≤b) ((ctxP C.q.L C.q.m env p).getD []) (.slice B n k))∧Below W.heap.size W w'):=fun W p hW hp=>by
  have h:=(hw.keep hC.ne hW).rd
  exact zMt C.cB C.kA C.kn C.kc C.q.L C.q.m _ D en ec env p W (fun b=>b≠C.sB) h.cat h.L hC.small h.m (he.belowSize hW) (by omega) hp
 obtain ⟨s0,s1,s2,s3,s4,_,_,_,_,_,_,_⟩:=hw.cells
 rw[←hsq] at s0 s1 s2 s3 s4
 have Hs:Hid (∀ W,Below w.heap.size w W→W.cell? ⟨sB,0,none⟩=some (.pointer (some ⟨C.cB,0,none⟩))∧W.cell? ⟨sB,1,none⟩=some (.slice C.A0 C.n0 C.c0)∧W.cell? ⟨sB,2,none⟩=some (.slice C.A1 C.n1 C.c1)∧W.cell? ⟨sB,3,none⟩=some (.slice C.A2 C.n2 C.c2)∧W.cell? ⟨sB,4,none⟩=some (.slice C.A3 C.n3 C.c3)):=fun W hW=>⟨zAA hW s0 hsB,zAA hW s1 hsB,zAA hW s2 hsB,zAA hW s3 hsB,zAA hW s4 hsB⟩
 clear hw hnd he hz hez hf hC hn hcap hen henc IHs hsq hR hat s0 s1 s2 s3 s4
 generalize C.A0=A0 at *
 generalize C.n0=n0 at *
 generalize C.c0=c0 at *
 generalize C.A1=A1 at *
 generalize C.n1=n1 at *
 generalize C.c1=c1 at *
 generalize C.A2=A2 at *
 generalize C.n2=n2 at *
 generalize C.c2=c2 at *
 generalize C.A3=A3 at *
 generalize C.n3=n3 at *
 generalize C.c3=c3 at *
 have ha0:(0:Int)≤(at_:Int):=by omega
 have hatI:(at_:Int)<(n:Int):=by omega
 go_enter Tryz.func143,Tryz.ntmps143
 go_wp2_with fail
 go_loopw [9,10] (fun ov iv wr=>∃ (i:Nat) (cs:List (List Pin)) (S1:Nat→Prop),i≤en∧iv=.int .i64 i∧Hid (cs.length=i)∧Hid (zEL C.q.L C.q.m env env i cs)∧Hid (Own (zAn rPin) wr w.heap.size 55 ov cs S1)∧Hid (∀ b,S1 b→w.heap.size≤b)∧Hid (Below w.heap.size w wr)) (fun _ iv _=>en - (intOf iv).toNat)
 case atStart=>exact ⟨0,[],fun _=>False,nZ _,rfl,cH rfl,zIH _ _ _ _,Own.nil_ _ _ _ _ (fun b hb=>hb.elim),fun b hb=>hb.elim,bR _ _⟩
 case round=>
  obtain ⟨i,cs,S1,hi,rfl,Hcl,Hct,Hown,HS1,hB⟩:=hrel
  have hi0:(0:Int)≤(i:Int):=by omega
  by_cases hlt:i<en
  case neg=>
   have hI:¬(i:Int)<(en:Int):=by omega
   have hien:i=en:=by omega
   have HCS:Hid (ctxsP C.q.L C.q.m env env=some cs):=zHm Hct.out (by have:=Hel.out;omega)
   have HRb2:Hid (zBG C.q.lim env cs nodes []=none→R=.bad 32 t):=fun h=>HRb.out cs HCS.out h
   have HRo2:Hid (∀ out es,zBG C.q.lim env cs nodes []=some (out,es)→R=goS C.q f (.settle (zBD out at_ es) (at_+1)) t):=fun out es h=>HRo.out cs out es HCS.out h
   have Hclen:Hid (cs.length=en):=by have:=Hcl.out;unfold Hid;omega
   have Hcin:Hid (∀ x∈cs,x.length≤t):=fun x hx=>by
    have h1:=((zFL HCS.out).2.2 x hx).2.1
    have h2:=Hezt.out
    omega
   have h1:=Hown.out.slv
   obtain ⟨CA,cc,hv,_,_⟩:=h1.val
   have hv2:u9=.slice CA en cc:=by rw[hv,Hclen.out]
   rw[hv2] at h1
   clear hv
   have HCs:Hid (SlV (zAn rPin) wr (fun b=>w.heap.size≤b∧b<wr.heap.size) cs (.slice CA en cc)):=h1.more fun b hb hl=>⟨by rcases hb with hb|hb;exact HS1.out b hb;exact hb,hl⟩
   have HB5:=cH hB.out
   clear h1 hien HRn HRb HRo HCx HCS Hcl Hct Hown HS1 hB hlt
   subst hv2
   generalize wr=w5 at *
   obtain ⟨T,hT⟩:∃ T:Nat→Prop,T=fun b=>b≠sB∧b<w5.heap.size:=⟨_,rfl⟩
   have HT:Hid (∀ b,T b↔b≠sB∧b<w5.heap.size):=fun b=>by rw[hT]
   clear hT
   have HNd5:Hid (SlV rNode w5 T nodes (.slice A n c)):=(HND.out.belowSize HB5.out).more fun b hb hl=>(HT.out b).2 ⟨by rw[Hsq.out];exact hb,hl⟩
   have hsB5:sB<w5.heap.size:=by have:=HB5.out.size;omega
   go_wp2_with (at_builtin;refine zAN (by rfl) _ _ _ (by rfl) zI0 Tryz.underlying22 (by rfl) (Own.nil_ rNode w5 w5.heap.size 58 (S:=fun _=>False) (fun b h=>h.elim)) T nodes _ _ _ (by rfl) HNd5.out (by intro b hb he;simp[Value.ownBlock] at he) (by rw[Hnl.out];simp[maxLen];omega) (by rw[Hnl.out];simp;omega) (by simp) ?_)
   intro u6 w6 hown6 hgrow6 hat6
   have HB6:Hid (Below w5.heap.size w5 w6):=(bR _ _).grown hgrow6 (nR _) (fun k hk=>by simp[Value.ownBlock] at hk)
   have hz6:=HB6.out.size
   have HO6:Hid (Own rNode w6 w5.heap.size 58 u6 nodes T):=hown6.more (fun b hb=>⟨lL ((HT.out b).1 hb).2 hz6,fun he=>by have:=(hown6.lt b he).1;have:=((HT.out b).1 hb).2;omega⟩) (fun b hb=>by first|exact hb.1|(rcases hb with h|h;exact h.elim;exact h.1))
   clear hown6 hgrow6 hat6
   go_wp2_with fail
   go_loopw [13,14,15] (fun ov ev jv wx=>∃ (j:Nat) (out:List Node) (es:List Edge),j≤en∧jv=.int .i64 j∧Hid (zBG C.q.lim env cs nodes []=zBG C.q.lim (env.drop j) (cs.drop j) out es)∧Hid (out.length≤C.q.lim∧at_<out.length∧(∀ n∈out,n.ctx.length≤t)∧es.length=j)∧Hid (Own rNode wx w5.heap.size 58 ov out T)∧Hid (Own rEdge wx w5.heap.size 61 ev es (fun _=>False))∧Hid (∀ g,ov.ownBlock=some g→ev.ownBlock≠some g)∧Hid (Below w5.heap.size w5 wx)) (fun _ _ jv _=>en - (intOf jv).toNat)
   case atStart=>exact ⟨0,nodes,[],nZ _,rfl,cH rfl,⟨Hz.out.1,by have:=Hnl.out;omega,Hz.out.2.1,rfl⟩,HO6,Own.nil_ _ _ _ _ (fun b hb=>hb.elim),fun g hg he=>by simp[Value.ownBlock] at he,HB6⟩
   case round=>
    obtain ⟨j,out,es,hj,rfl,hbd,Hbo,Hout,Hes,Hap,HB⟩:=hrel
    have hj0:(0:Int)≤(j:Int):=by omega
    have HBw:=cH (bot HB5.out HB.out)
    by_cases hlt:j<en
    case neg=>
     have hjI:¬(j:Int)<(en:Int):=by omega
     have hR2:=HRo2.out out es (by rw[hbd.out,zIL (by have:=Hel.out;omega)])
     obtain ⟨g,o0,cap,hov,hgb,hgl,⟨xc,hxc⟩,hfz,hsl⟩:=zMo Hout.out Hes.out Hap.out Hbo.out.2.1
     have HSW5:Hid (SW C (wr.setCell ⟨g,o0+at_ * 6+5,none⟩ u14) (t:Int) 0 (.slice none 0 0)):=HSW.out _ (HBw.out.setCell (p:=⟨g,o0+at_ * 6+5,none⟩) (by show w.heap.size≤g;have:=HB5.out.size;omega) _)
     have HBu:Hid (But sB w (wr.setCell ⟨g,o0+at_ * 6+5,none⟩ u14)):=But.of (HBw.out.setCell (p:=⟨g,o0+at_ * 6+5,none⟩) (by show w.heap.size≤g;have:=HB5.out.size;omega) _)
     have Hlen:Hid ((zBD out at_ es).length=out.length):=zER _ _ _
     have HSl:Hid (SlV rNode (wr.setCell ⟨g,o0+at_ * 6+5,none⟩ u14) (fun b=>b≠C.sB) (zBD out at_ es) (.slice (some ⟨g,o0,none⟩) out.length cap)):=hsl.more fun b hb _=>by
      rw[←Hsq.out]
      rcases hb with hb|hb
      ·exact ((HT.out b).1 hb).1
      ·omega
     have hwt:IntKind.i64.wrap ((at_:Int)+1)=(at_:Int)+1:=IntWalk.i64_in _ ⟨by omega,by omega⟩
     have HCl:Hid (Calls Tryz.prog 66 #[.pointer (some ⟨sB,0,none⟩),.slice (some ⟨g,o0,none⟩) out.length cap,.int .i64 ((at_:Int)+1)] (wr.setCell ⟨g,o0+at_ * 6+5,none⟩ u14) fun e w'=>∃ bb:Bool,e=.returned (.bool bb)∧SPost C w R e w'):=by
      rw[Hsq.out]
      refine (HIs.out (zBD out at_ es) (at_+1) t _ _ cap _ HSW5.out HSl.out ⟨by rw[Hlen.out];exact Hbo.out.1,fun x hx=>?_,Hz.out.2.2⟩ (by rw[Hlen.out];have:=Hbo.out.2.1;omega) (by have h1:=Hf.out;have h2:=Hbo.out;unfold leftK at h1 ⊢;simp only at h1 ⊢;omega)).mono ?_
      ·obtain ⟨k,hk⟩:=List.getElem?_of_mem hx
       rw[zCU] at hk
       split at hk
       ·obtain ⟨y,hy,rfl⟩:=Option.map_eq_some_iff.1 hk
        exact Hbo.out.2.2.1 y (mG hy)
       ·exact Hbo.out.2.2.1 x (mG hk)
      ·intro e w' h
       rw[←hR2] at h
       obtain ⟨bb,rfl⟩:=h.ret
       exact ⟨bb,rfl,h.from (by rw[←Hsq.out];exact HBu.out)⟩
     have hatM:(at_:Int)<(out.length:Int):=by have:=Hbo.out.2.1;omega
     have hM0:out.length≤128:=by have h3:=Hbo.out.1;have h4:=HOk.out.lim.2;omega
     obtain ⟨EB,ek,hev,_,_⟩:=Hes.out.slv.val
     clear hR2 hsl HSl HSW5 HBu Hlen hbd Hbo Hout Hes Hap HB HBw hlt HCs HRb2 HRo2
     subst hov
     subst hev
     generalize es.length=el at *
     generalize out.length=M at *
     go_wp2_with (go_at_call 66;refine HCl.out.mono ?_;rintro e w9 ⟨bb,rfl,hsp⟩)
     all_goals
      go_ret
      exact hsp
    have hjI:(j:Int)<(en:Int):=by omega
    obtain ⟨p,hp⟩:∃ p,env[j]?=some p:=⟨_,gE (by have:=Hel.out;omega)⟩
    obtain ⟨c,hc⟩:∃ c,cs[j]?=some c:=⟨_,gE (by have:=Hclen.out;omega)⟩
    have hpw:=HEN.out.elem hp
    obtain ⟨eb,eo,cs1,hA,_,heb,⟨rfl,hpn,hp1,hp2,hp3⟩,hcell⟩:=hpw
    obtain ⟨cb,co,cs2,hC2,_,hcb,hcs2,hcell2⟩:=HCs.out.elem hc
    have hcs3:∃ xv,cs2=[xv]∧SlV rPin w5 (fun b=>w.heap.size≤b∧b<w5.heap.size) c xv:=by
     match cs2,(zAn rPin).len hcs2 with
     | [xv],_=>exact ⟨xv,rfl,hcs2⟩
    obtain ⟨xv,rfl,hxc⟩:=hcs3
    obtain ⟨xA,xk,rfl,_,_⟩:=hxc.val
    have Hxc:=cH hxc
    have Hpc:Hid (∀ W,Below w5.heap.size w5 W→(W.cell? ⟨eb,eo+j * 4,none⟩=some (.string p.name)∧W.cell? ⟨eb,eo+j * 4+1,none⟩=some (.int .i64 p.ver.major)∧W.cell? ⟨eb,eo+j * 4+2,none⟩=some (.int .i64 p.ver.minor)∧W.cell? ⟨eb,eo+j * 4+3,none⟩=some (.int .i64 p.ver.patch))∧W.cell? ⟨cb,co+j,none⟩=some (.slice xA c.length xk)):=fun W hW=>by
     have hbw:=bot HB5.out hW
     have k:=hcell2 0 _ rfl
     simp only[zAn,Nat.mul_one,Nat.add_zero] at k
     exact ⟨⟨zAA hbw (hcell 0 _ rfl) heb,zAA hbw (hcell 1 _ rfl) heb,zAA hbw (hcell 2 _ rfl) heb,zAA hbw (hcell 3 _ rfl) heb⟩,zAA hW k hcb⟩
    have Hpi:Hid (p.name.size≤maxLen∧I64 p.ver.major∧I64 p.ver.minor∧I64 p.ver.patch):=⟨hpn,hp1,hp2,hp3⟩
    have Hct:Hid (c.length≤t):=Hcin.out c (mG hc)
    have HST:=cH (hbd.out.trans (zIW hp hc out es))
    have h1:=Hout.out.slv
    obtain ⟨OA,oc,hov,_,_⟩:=h1.val
    have h2:=h1.more (S':=fun b=>b≠sB) fun b hb _=>by
     rcases hb with hb|hb
     ·exact ((HT.out b).1 hb).1
     ·show b≠sB;omega
    rw[hov] at h2
    have HOs:=cH h2
    have hol:out.length≤128:=by have h3:=Hbo.out.1;have h4:=HOk.out.lim.2;omega
    obtain ⟨M,hM⟩:∃ M,M=out.length:=⟨_,rfl⟩
    rw[←hM] at hov HOs
    have HM:=cH hM
    have HPl:Hid (∀ W,Below wr.heap.size wr W→Calls Tryz.prog 164 #[.slice OA M oc,.agg #[.string p.name,.int .i64 p.ver.major,.int .i64 p.ver.minor,.int .i64 p.ver.patch],.slice xA c.length xk] W fun e w'=>e=.returned (.int .i64 (placeN out p c:Int))∧Below W.heap.size W w'):=fun W hW=>zKv OA M oc out p xA c.length xk c W _ _ (HOs.out.belowSize hW) (Hxc.out.belowSize (bot HB.out hW)) (by have:=Hbo.out.2.1;omega)
    have HPq:=cH (qcall (w:=wr) HPl.out)
    have hplz:placeN out p c≤out.length:=(zG4 (p:=p) (c:=c) (by have:=Hbo.out.2.1;omega)).2.1
    clear h1 h2 hcell hcell2 hpn hp1 hp2 hp3 hcs2 hxc hbd HPl hM
    subst hA
    subst hC2
    subst hov
    obtain ⟨pn,p1,p2,p3⟩:=p
    simp only at Hpc Hpi HPq HST
    obtain ⟨K,hK⟩:∃ K,K=placeN out ⟨pn,p1,p2,p3⟩ c:=⟨_,rfl⟩
    rw[←hK] at HPq HST hplz
    rw[HM.out.symm] at HST hplz hol
    clear hK hp hc
    obtain ⟨xl,hxl⟩:∃ k,k=c.length:=⟨_,rfl⟩
    rw[←hxl] at Hpc HPq Hxc Hct
    have Hxl:=cH hxl
    clear hxl
    obtain ⟨⟨y0,y1,y2,y3⟩,k0⟩:=Hpc.out wr HB.out
    go_upto_region 15 with (fail)
    have r_y0:=cR y0
    have r_y1:=cR y1
    have r_y2:=cR y2
    have r_y3:=cR y3
    have r_k0:=cR k0
    go_wp2_with fail
    refine wQ ?_
    repeat (go_big_quiet_step (first|(with_reducible exact HPq.out _ _)))
    refine wpQuiet_nil fun w7 B7=>?_
    have HB7:=cH B7
    clear r_y0 r_y1 r_y2 r_y3 r_k0 y0 y1 y2 y3 k0 B7 HPq
    have HB57:=cH (bot HB.out HB7.out)
    have HO7:=cH (Hout.out.keep HB7.out)
    have HE7:=cH (Hes.out.keep HB7.out)
    have hw57:w5.heap.size≤w7.heap.size:=HB57.out.size
    have HEl:=cH HE7.out.lt
    have hKn:K≤128:=by omega
    by_cases hKM:K=M
    rotate_left
    focus
     have hKb:((K:Int)==(M:Int))=false:=by simp;omega
     have HST3:Hid (zBG C.q.lim env cs nodes []=zBG C.q.lim (env.drop (j+1)) (cs.drop (j+1)) out (es++[⟨pn,(K:Int)⟩])):=by unfold Hid;rw[HST.out,if_neg hKM]
     have Hbo3:Hid (out.length≤C.q.lim∧at_<out.length∧(∀ n∈out,n.ctx.length≤t)):=⟨Hbo.out.1,Hbo.out.2.1,Hbo.out.2.2.1⟩
     have HB58:=HB57
     have HO8:=HO7
     have HE8:=HE7
     have Hap8:=Hap
     clear hKM HST
     go_upto_region 21 with (fail)
     generalize hq8:w7=w8 at *
     generalize hq9:out=out3 at *
     generalize hq1:OA=OB at *
     generalize hq2:M=M3 at *
     generalize hq3:oc=od at *
     clear hq8 hq9 hq1 hq2 hq3
    rotate_left
    focus
     have hKb:((K:Int)==(M:Int))=true:=by simp;omega
     have hsz:=HSW.out w7 (bot HB5.out HB57.out)
     have HS7:=cH hsz
     obtain ⟨_,_,_,_,_,_,_,_,s8,_,s12,_⟩:=hsz.cells
     have f12:=hsz.frz 12
     rw[←Hsq.out] at s8 s12 f12
     clear hsz
     by_cases hlim:M=C.q.lim
     focus
      have hlb:((K:Int)==(C.q.lim:Int))=true:=by simp;omega
      have He:Hid (R=.bad 32 t):=HRb2.out (by rw[HST.out,if_pos hKM,if_pos hlim])
      clear hKM hlim HST
      go_wp2_with fail
      go_ret
      have hf:=SW.fail_ Hne.out HS7.out 32
      rw[←Hsq.out] at hf
      rw[He.out]
      exact ⟨by rw[←Hsq.out];exact (But.of (bot HB5.out HB57.out)).trans hf.2,by decide,by unfold I64;decide,rfl,_,hf.1⟩
     have hlb:((K:Int)==(C.q.lim:Int))=false:=by simp;omega
     have hKI:(M:Int)=(K:Int):=by omega
     have HST3:Hid (zBG C.q.lim env cs nodes []=zBG C.q.lim (env.drop (j+1)) (cs.drop (j+1)) (out++[⟨pn,⟨p1,p2,p3⟩,c,[]⟩]) (es++[⟨pn,(K:Int)⟩])):=by unfold Hid;rw[HST.out,if_pos hKM,if_neg hlim,hKI]
     have Hbo3:Hid ((out++[(⟨pn,⟨p1,p2,p3⟩,c,[]⟩:Node)]).length≤C.q.lim∧at_<(out++[(⟨pn,⟨p1,p2,p3⟩,c,[]⟩:Node)]).length∧(∀ n∈out++[(⟨pn,⟨p1,p2,p3⟩,c,[]⟩:Node)],n.ctx.length≤t)):=by
      have h1:=Hbo.out
      have h2:=HM.out
      have h3:=Hxl.out
      have h4:=Hct.out
      refine ⟨by rw[List.length_append];simp only[List.length_cons,List.length_nil];omega,by rw[List.length_append];omega,fun n hn=>?_⟩
      rcases List.mem_append.1 hn with hn|hn
      ·exact h1.2.2.1 n hn
      ·rw[List.mem_singleton.1 hn];show c.length≤t;omega
     clear hKM hlim HST hKI
     obtain ⟨⟨y0,y1,y2,y3⟩,k0⟩:=Hpc.out w7 HB57.out
     have HNh:Hid (rNode.holds (w7.drew.alloc (.cells #[.string pn,.int .i64 p1,.int .i64 p2,.int .i64 p3,.slice xA xl xk,.slice none 0 0] 58)) T ⟨pn,⟨p1,p2,p3⟩,c,[]⟩ [.string pn,.int .i64 p1,.int .i64 p2,.int .i64 p3,.slice xA xl xk,.slice none 0 0]):=
      ⟨_,_,rfl,Hpi.out.1,Hpi.out.2.1,Hpi.out.2.2.1,Hpi.out.2.2.2,((Hxc.out.belowSize HB57.out).drew.alloc _).more fun b hb _=>(HT.out b).2 ⟨by omega,hb.2⟩,SlV.nil_ _ _ _⟩
     go_upto_region 20 with (fail)
     go_region_held3 (fun W=>(W.cell? ⟨eb,eo+j * 4,none⟩=some (.string pn)∧W.cell? ⟨eb,eo+j * 4+1,none⟩=some (.int .i64 p1)∧W.cell? ⟨eb,eo+j * 4+2,none⟩=some (.int .i64 p2)∧W.cell? ⟨eb,eo+j * 4+3,none⟩=some (.int .i64 p3))∧W.cell? ⟨cb,co+j,none⟩=some (.slice xA xl xk))
      (first
        | (with_reducible exact Hpc.out _ HB57.out.drew)
        | (with_reducible exact Hpc.out _ hB9)
        | (with_reducible exact Hpc.out _ (HB57.out.alloc hw57 _).drew))
      (first
        | (refine zBB (by rfl) _ _ _ (by rfl) zI0 Tryz.underlying22 (by rfl) (HO7.out.drew.alloc _) ⟨w7.heap.size,0,none⟩ 1 [.string pn,.int .i64 p1,.int .i64 p2,.int .i64 p3,.slice xA xl xk,.slice none 0 0] ⟨pn,⟨p1,p2,p3⟩,c,[]⟩ (by rfl) HNh.out (zAd w7.drew #[.string pn,.int .i64 p1,.int .i64 p2,.int .i64 p3,.slice xA xl xk,.slice none 0 0] _) (by rw[←HM.out];unfold maxLen;omega) (by rw[←HM.out];omega) (by show w5.heap.size≤(w7.alloc _).heap.size;simp;omega) (w7.heap.size+1) (by show (w7.alloc _).heap.size=_;simp) ?_;intro g9 cap9 w9 hown9 hgrow9 hat9 hlt9;have hB9:Below w5.heap.size w5 w9:=zAw ((HB57.out.drew).alloc hw57 _) hgrow9 (HO7.out.drew.alloc _) (nR _)))
     have HB58:=cH hB9
     have HE8:Hid (Own rEdge w9 w5.heap.size 61 u14 es (fun _=>False)):=(HE7.out.drew.alloc _).grown hgrow9 (by
      cases hq:u14.ownBlock with
      | none=>exact Or.inl rfl
      | some g=>exact Or.inr fun h=>Hap.out g h.symm hq) (fun b hb=>hb.elim)
     have HO8:=cH hown9
     have Hap8:Hid (∀ g,(Value.slice (some ⟨g9,0,none⟩) (out.length+1) cap9).ownBlock=some g→u14.ownBlock≠some g):=fun g hg he=>by
      have e2:g9=g:=Option.some.inj hg
      rcases hat9 with h|h
      ·exact Hap.out g9 h (by rw[e2];exact he)
      ·have:=(HEl.out g he).2;omega
     clear hown9 hgrow9 hat9 hlt9 hB9 y0 y1 y2 y3 k0 s8 s12 f12 hlb HNh
     go_upto_region 21 with (fail)
     generalize hq8:w9=w8 at *
     generalize hq9:out++[(⟨pn,⟨p1,p2,p3⟩,c,[]⟩:Node)]=out3 at *
     generalize hq1:(some (⟨g9,0,none⟩:Addr))=OB at *
     generalize hq2:out.length+1=M3 at *
     generalize hq3:cap9=od at *
     clear hq8 hq9 hq1 hq2 hq3
    all_goals
     obtain ⟨⟨y0,y1,y2,y3⟩,k0⟩:=Hpc.out w8 HB58.out
     have HKi:Hid (I64 (K:Int)):=by unfold Hid I64;omega
     have HElz:Hid (es.length=j):=Hbo.out.2.2.2
     have hw58:w5.heap.size≤w8.heap.size:=HB58.out.size
     have HEl8:=cH HE8.out.lt
     have HOl8:=cH HO8.out.lt
     go_wp2_with (at_builtin;refine zAM (by rfl) _ _ _ (by rfl) zDl Tryz.underlying56 (by rfl) (HE8.out.alloc _) ⟨w8.heap.size,0,none⟩ 1 [.string pn,.int .i64 (K:Int)] ⟨pn,(K:Int)⟩ (by rfl) ⟨rfl,Hpi.out.1,HKi.out⟩ (zAd w8 #[.string pn,.int .i64 (K:Int)] _) (by rw[HElz.out];unfold maxLen;omega) (by rw[HElz.out];omega) (by simp;omega) (w8.heap.size+1) (by simp) ?_)
     intro g10 cap10 w10 hown10 hgrow10 hat10 hlt10
     have HB10:=cH (zAw (HB58.out.alloc hw58 _) hgrow10 (HE8.out.alloc _) (nR _))
     have HO10:Hid (Own rNode w10 w5.heap.size 58 (.slice OB M3 od) out3 T):=(HO8.out.alloc _).grown hgrow10 (by
      cases hq:(Value.slice OB M3 od).ownBlock with
      | none=>exact Or.inl rfl
      | some g=>exact Or.inr fun h=>Hap8.out g hq h.symm) (fun b hb he=>by
      have h1:=((HT.out b).1 hb).2
      have h2:=(HEl8.out b he.symm).1
      omega)
     have HE10:=cH hown10
     have Hap10:Hid (∀ g,(Value.slice OB M3 od).ownBlock=some g→(Value.slice (some ⟨g10,0,none⟩) (es.length+1) cap10).ownBlock≠some g):=fun g hg he=>by
      have e2:g10=g:=Option.some.inj he
      rcases hat10 with h|h
      ·exact Hap8.out g hg (by rw[←e2];exact h)
      ·have:=(HOl8.out g hg).2;omega
     clear hown10 hgrow10 hat10 hlt10 y0 y1 y2 y3 k0
     go_wp2_with fail
     go_roundw
     case rel=>exact ⟨j+1,out3,es++[⟨pn,(K:Int)⟩],by omega,by go_num,HST3,⟨Hbo3.out.1,Hbo3.out.2.1,Hbo3.out.2.2,by rw[List.length_append,HElz.out];rfl⟩,HO10,HE10,Hap10,HB10⟩
     case measure=>simp[intOf];omega
  have hiI:(i:Int)<(en:Int):=by omega
  obtain ⟨p,hp⟩:∃ p,env[i]?=some p:=⟨_,gE (by have:=Hel.out;omega)⟩
  obtain ⟨eb,eo,cs',hA,_,heb,⟨rfl,hpn,hp1,hp2,hp3⟩,hcell⟩:=HEN.out.elem hp
  have Hp:Hid (∀ W,Below w.heap.size w W→W.cell? ⟨eb,eo+i * 4,none⟩=some (.string p.name)∧W.cell? ⟨eb,eo+i * 4+1,none⟩=some (.int .i64 p.ver.major)∧W.cell? ⟨eb,eo+i * 4+2,none⟩=some (.int .i64 p.ver.minor)∧W.cell? ⟨eb,eo+i * 4+3,none⟩=some (.int .i64 p.ver.patch)):=fun W hW=>⟨zAA hW (hcell 0 _ rfl) heb,zAA hW (hcell 1 _ rfl) heb,zAA hW (hcell 2 _ rfl) heb,zAA hW (hcell 3 _ rfl) heb⟩
  have HCk:Hid (∀ W,Below wr.heap.size wr W→Calls Tryz.prog 163 #[.pointer (some ⟨C.cB,0,none⟩),.agg #[.slice A0 n0 c0,.slice A1 n1 c1,.slice A2 n2 c2,.slice A3 n3 c3],.slice D en ec,.agg #[.string p.name,.int .i64 p.ver.major,.int .i64 p.ver.minor,.int .i64 p.ver.patch]] W fun e w'=>(∃ B n k,e=.returned (.tuple #[.slice B n k,.bool (ctxP C.q.L C.q.m env p).isSome])∧SlV rPin w' (fun b=>wr.heap.size≤b) ((ctxP C.q.L C.q.m env p).getD []) (.slice B n k))∧Below W.heap.size W w'):=fun W hW=>(HCx.out W p (bot hB.out hW) ⟨hpn,hp1,hp2,hp3⟩).mono fun e w' ⟨⟨B,n,k,h1,h2⟩,h3⟩=>⟨⟨B,n,k,h1,h2.more fun b hb _=>nT hW.size hb⟩,h3⟩
  have HNo:Hid (ctxP C.q.L C.q.m env p=none→R=.no t):=fun h=>HRn.out (zLG hp h)
  have HYes:Hid (∀ x,ctxP C.q.L C.q.m env p=some x→zEL C.q.L C.q.m env env (i+1) (cs++[x])):=fun x h=>zIE Hct.out hp h
  clear hcell hpn hp1 hp2 hp3 hp
  subst hA
  obtain ⟨pn,p1,p2,p3⟩:=p
  simp only at Hp HCk
  generalize ctxP C.q.L C.q.m env ⟨pn,p1,p2,p3⟩=cx at *
  have Hcells:Hid (∀ W,Below wr.heap.size wr W→(W.cell? ⟨sB,0,none⟩=some (.pointer (some ⟨C.cB,0,none⟩))∧W.cell? ⟨sB,1,none⟩=some (.slice A0 n0 c0)∧W.cell? ⟨sB,2,none⟩=some (.slice A1 n1 c1)∧W.cell? ⟨sB,3,none⟩=some (.slice A2 n2 c2)∧W.cell? ⟨sB,4,none⟩=some (.slice A3 n3 c3))∧W.cell? ⟨eb,eo+i * 4,none⟩=some (.string pn)∧W.cell? ⟨eb,eo+i * 4+1,none⟩=some (.int .i64 p1)∧W.cell? ⟨eb,eo+i * 4+2,none⟩=some (.int .i64 p2)∧W.cell? ⟨eb,eo+i * 4+3,none⟩=some (.int .i64 p3)):=fun W hW=>⟨Hs.out W (bot hB.out hW),Hp.out W (bot hB.out hW)⟩
  obtain ⟨⟨s0,s1,s2,s3,s4⟩,y0,y1,y2,y3⟩:=Hcells.out wr (bR _ _)
  go_upto_region 5 with (fail)
  go_region_held3 (fun W=>(W.cell? ⟨sB,0,none⟩=some (.pointer (some ⟨C.cB,0,none⟩))∧W.cell? ⟨sB,1,none⟩=some (.slice A0 n0 c0)∧W.cell? ⟨sB,2,none⟩=some (.slice A1 n1 c1)∧W.cell? ⟨sB,3,none⟩=some (.slice A2 n2 c2)∧W.cell? ⟨sB,4,none⟩=some (.slice A3 n3 c3))∧W.cell? ⟨eb,eo+i * 4,none⟩=some (.string pn)∧W.cell? ⟨eb,eo+i * 4+1,none⟩=some (.int .i64 p1)∧W.cell? ⟨eb,eo+i * 4+2,none⟩=some (.int .i64 p2)∧W.cell? ⟨eb,eo+i * 4+3,none⟩=some (.int .i64 p3))
   (first
     | (with_reducible exact Hcells.out _ (bR _ _).drew)
     | (with_reducible exact Hcells.out _ hB2))
   (first
     | (go_at_call 163;with_reducible refine (HCk.out _ (bR _ _).drew).mono ?_;rintro e w2 ⟨⟨xB,xn,xk,rfl,hsl⟩,hb2⟩;have hB2:Below wr.heap.size wr w2:=bot (bR _ _).drew hb2))
  all_goals
   have HB2:=cH (bot hB.out hB2)
   have HO2:Hid (Own (zAn rPin) w2 w.heap.size 55 u9 cs (fun b=>S1 b∨(wr.heap.size≤b∧b<w2.heap.size))):=(Hown.out.keep hB2).moreNew (B:=wr.heap.size) (fun k hk=>(Hown.out.lt k hk).2)
   have hwr:w.heap.size≤wr.heap.size:=hB.out.size
   cases cx with
   | none=>
     have He:=cH (HNo.out rfl)
     clear HNo HYes hsl hb2 hB2 s0 s1 s2 s3 s4 y0 y1 y2 y3 HO2
     go_wp2_with fail
     go_ret
     rw[He.out]
     exact ⟨But.of (by rw[←Hsq.out] at *;exact HB2.out),rfl,HSW.out _ HB2.out,Hz.out.2.2⟩
   | some x=>
     have HYx:=cH (HYes.out x rfl)
     have Hxs:=cH hsl
     clear HNo HYes hsl hb2 hB2 s0 s1 s2 s3 s4 y0 y1 y2 y3
     obtain ⟨xA,xc,hxe,_,_⟩:=Hxs.out.val
     have hw2z:w.heap.size≤w2.heap.size:=HB2.out.size
     have Hclz:Hid (cs.length≤4096):=by have h1:=Hcl.out;unfold Hid;omega
     have HXh:Hid ((zAn rPin).holds (w2.alloc (.cells #[.slice xB xn xk] 55)) (fun b=>S1 b∨(wr.heap.size≤b∧b<w2.heap.size)) x [.slice xB xn xk]):=(show SlV rPin _ _ x (.slice xB xn xk) from (Hxs.out.more fun b hb hl=>Or.inr ⟨hb,hl⟩).alloc _)
     clear hxe
     go_wp2_with (at_builtin;refine zAM (by rfl) _ _ _ (by rfl) zLr Tryz.underlying228 (by rfl) (HO2.out.alloc _) ⟨w2.heap.size,0,none⟩ 1 [.slice xB xn xk] x (by rfl) HXh.out (zAd w2 #[.slice xB xn xk] _) (by have:=Hclz.out;unfold maxLen;omega) (by have:=Hclz.out;omega) (by simp;omega) (w2.heap.size+1) (by simp) ?_)
     intro g9 cap9 w9 hown9 hgrow9 hat9 hlt9
     have HB9:=cH (zAw (bal HB2.out _) hgrow9 (HO2.out.alloc _) (nR _))
     have HO9:=cH hown9
     have HS9:Hid (∀ b,(S1 b∨(wr.heap.size≤b∧b<w2.heap.size))→w.heap.size≤b):=fun b hb=>by
      rcases hb with hb|hb
      ·exact HS1.out b hb
      ·omega
     clear hown9 hgrow9 hat9 hlt9 HO2 HXh Hxs
     go_wp2_with fail
     go_roundw
     case rel=>exact ⟨i+1,cs++[x],_,by omega,by go_num,cH (by rw[List.length_append,Hcl.out];rfl),HYx,HO9,HS9,HB9⟩
     case measure=>simp[intOf];omega
theorem zII (C:SCtx) (hC:C.Ok):∀ f,SetC C f∧ChoC C f∧BinC C f:=by
 intro f
 induction f with
 | zero=>
   refine ⟨fun nodes at_ t A n c w hw hnd hz hat hf=>?_,fun nodes at_ t l k env A n c B ln lc D en ec w hw hnd hl he hz hat hk hlz hez hf=>?_,fun nodes at_ t env A n c D en ec w hw hnd he hz hat hez hf=>?_⟩
   ·unfold leftK at hf;simp only at hf;omega
   ·unfold leftK at hf;simp only at hf;omega
   ·have:=hz.1
    unfold leftK at hf;simp only at hf;omega
 | succ f ih=>exact ⟨zH0 C hC f ih.2.1,zHr C hC f ih.2.1 ih.2.2,zLD C hC f ih.1⟩
theorem zDo {P:Program} {fn:Func} {p q r:Tmp} {ty:TypeId} (h:fn.results=#[.cell p ty,.tmp q,.tmp r]) (tmps:Array Value) (w:World) (g:Nat) (t:TypeId) (cs:Array Value) (fr:Nat×Nat) (d:TypeDesc)
  (hp:tmps.getD p undef=.pointer (some ⟨g,0,none⟩)) (hg:w.heap[g]?=some (.cells cs t fr))
  (hu:P.underlying ty=some d) (hd:(match d with|.struct _|.array _ _=>true|_=>false)=true) (hi:(P.info? ty).map (·.size)=some cs.size) :
  (results fn tmps).run P w=.ok (.tuple #[.agg cs,tmps.getD q undef,tmps.getD r undef]) w:=by
 have hp':tmps[p]?.getD undef=.pointer (some ⟨g,0,none⟩):=by simpa using hp
 simp[results,h,hp',asAddr,run_loadVar_row w g t ty cs fr d hg hu hd hi]
theorem zCd {P:Program} {fn:Func} {R:Ending→World→Prop} {ty:TypeId} {d:TypeDesc} {p q r:Tmp} {a:Act} {W:World} {g:Nat} {x bv cv:Value} {t:TypeId} (hf:fn.results=#[.cell p ty,.tmp q,.tmp r]) (hd:a.defers=[]) (h2:a.tmps.getD p undef=.pointer (some ⟨g,0,none⟩)) (h3:a.tmps.getD q undef=bv) (h4:a.tmps.getD r undef=cv)
  (hg:W.heap[g]?=some (.cells #[x] t (0,0))) (hu:P.underlying ty=some d) (hdd:(match d with|.struct _|.array _ _=>true|_=>false)=true) (hi:(P.info? ty).map (·.size)=some 1)
  (h:R (.returned (.tuple #[.agg #[x],bv,cv])) W):bodyPost P fn R Exit.ret a W:=
 bodyPost_ret (zDo hf a.tmps W g t #[x] (0,0) d h2 hg hu hdd hi) hd (by rw[h3,h4];exact h)
def RunP (q:SIn) (w:World) (e:Ending) (w':World):Prop:=(∃ (A:Option Addr) (n c:Nat) (tr er:Int),e=.returned (.tuple #[.agg #[.slice A n c],.int .i64 tr,.int .i64 er])∧I64 er∧((solS q=none∧er≠0)∨∃ ns,solS q=some ns∧er=0∧SlV rNode w' (fun _=>True) ns (.slice A n c)))∧Below w.heap.size w w'
theorem RunP.no {q:SIn} {w w':World} {A:Option Addr} {n c:Nat} {tr er:Int} (hs:solS q=none) (he:er≠0) (hi:I64 er) (hb:Below w.heap.size w w'):RunP q w (.returned (.tuple #[.agg #[.slice A n c],.int .i64 tr,.int .i64 er])) w':=⟨⟨A,n,c,tr,er,rfl,hi,.inl ⟨hs,he⟩⟩,hb⟩
theorem RunP.yes {q:SIn} {w w':World} {A:Option Addr} {n c:Nat} {tr:Int} {ns:List Node} (hs:solS q=some ns) (hl:SlV rNode w' (fun _=>True) ns (.slice A n c)) (hb:Below w.heap.size w w'):RunP q w (.returned (.tuple #[.agg #[.slice A n c],.int .i64 tr,.int .i64 0])) w':=⟨⟨A,n,c,tr,0,rfl,by unfold I64;decide,.inr ⟨ns,hs,rfl,hl⟩⟩,hb⟩
def solO:SOut→Option (List Node)
 | .ok _ ns=>some ns
 | _=>none
theorem zMu {q:SIn} (h:maniB q.m=true):solS q=solO (goS q (q.dec+3 * q.lim+6) (.settle [rootN] 0) 0):=by
 unfold solS
 rw[if_neg (by rw[h];decide)]
 cases goS q (q.dec+3 * q.lim+6) (.settle [rootN] 0) 0<;>rfl
theorem zB1:I64 0:=by unfold I64;decide
theorem zMD {w:World} {S:Nat→Prop} {b:Nat} {t:TypeId} (h:w.heap[b]?=some (.cells #[.string ⟨#[]⟩,.int .i64 0,.int .i64 0,.int .i64 0,.slice none 0 0,.slice none 0 0] t (0,0))) (hb:S b):SlV rNode w S [rootN] (.slice (some ⟨b,0,none⟩) 1 1):=
 SlV.of_block h (show Elems rNode w S [rootN] [.string ⟨#[]⟩,.int .i64 0,.int .i64 0,.int .i64 0,.slice none 0 0,.slice none 0 0] from ⟨[.string ⟨#[]⟩,.int .i64 0,.int .i64 0,.int .i64 0,.slice none 0 0,.slice none 0 0],[],rfl,(show rNode.holds w S rootN _ from ⟨_,_,rfl,nZ _,zB1,zB1,zB1,SlV.nil_ _ _ _,SlV.nil_ _ _ _⟩),rfl⟩) hb rfl (nR _) (by unfold maxLen;decide)
def RunA (q:SIn) (sB:Nat) (bb:Bool) (w':World):Prop:=
 (bb=false∧solS q=none)∨(bb=true∧∃ er:Int,er≠0∧I64 er∧solS q=none∧w'.cell? ⟨sB,12,none⟩=some (.int .i64 er)) ∨
   (bb=true∧∃ (ns:List Node) (A:Option Addr) (n c t:Nat),solS q=some ns∧w'.cell? ⟨sB,11,none⟩=some (.int .i64 (t:Int))∧w'.cell? ⟨sB,12,none⟩=some (.int .i64 0)∧w'.cell? ⟨sB,13,none⟩=some (.slice A n c)∧SlV rNode w' (fun b=>b≠sB) ns (.slice A n c))
theorem RunA.of {C:SCtx} {o:SOut} {e:Ending} {w w':World} (h:SPost C w o e w') (hs:solS C.q=solO o):∃ bb:Bool,e=.returned (.bool bb)∧But C.sB w w'∧RunA C.q C.sB bb w':=by
 obtain ⟨h1,h2⟩:=h
 cases o with
 | no t=>
   obtain ⟨h3,h4,_⟩:=h2
   exact ⟨false,h3,h1,.inl ⟨rfl,hs⟩⟩
 | bad c t=>
   obtain ⟨h3,h4,h5,t',h6⟩:=h2
   exact ⟨true,h5,h1,.inr (.inl ⟨rfl,c,h3,h4,hs,h6.cells.2.2.2.2.2.2.2.2.2.2.1⟩)⟩
 | ok t ns=>
   obtain ⟨h3,_,A,n,c,h4,h5⟩:=h2
   exact ⟨true,h3,h1,.inr (.inr ⟨rfl,ns,A,n,c,t,hs,h4.cells.2.2.2.2.2.2.2.2.2.1,h4.cells.2.2.2.2.2.2.2.2.2.2.1,h4.cells.2.2.2.2.2.2.2.2.2.2.2,h5⟩)⟩
theorem zEw {α:Type} {r:Rp α} {w:World} {S:Nat→Prop} {G:Nat} {A:Option Addr} {n c:Nat} {t:TypeId} {fr:Nat×Nat} (hG:w.heap[G]?=some (.cells #[.slice A n c] t fr)) {l:List α} {v:Value} (h:SlV r w S l v)
  (hr:∀ x∈l,∀ cs,r.holds w S x cs→(∃ s u,cs=.string s::u)∧r.holds w (fun b=>S b∧b≠G) x cs):SlV r w (fun b=>S b∧b≠G) l v:=by
 obtain ⟨A',c',h1,h2,h3,h4,h5⟩:=h
 refine ⟨A',c',h1,h2,h3,h4,fun hn=>?_⟩
 obtain ⟨b,o,hA,hS,hb,hrow⟩:=h5 hn
 refine ⟨b,o,hA,⟨hS,fun e=>?_⟩,hb,fun i x hx=>?_⟩
 ·obtain ⟨cs,hc,hcell⟩:=hrow 0 l[0] (gE hn)
  obtain ⟨⟨s,u,rfl⟩,_⟩:=hr _ (List.getElem_mem _) cs hc
  have h0:=hcell 0 _ rfl
  subst e
  simp only[World.cell?,hG] at h0
  generalize o+0 * r.size+0=j at h0
  cases j<;>simp at h0
 ·obtain ⟨cs,hc,hcell⟩:=hrow i x hx
  exact ⟨cs,(hr x (mG hx) cs hc).2,hcell⟩
theorem zEa {w:World} {S:Nat→Prop} {G:Nat} {A:Option Addr} {n c:Nat} {t:TypeId} {fr:Nat×Nat} (hG:w.heap[G]?=some (.cells #[.slice A n c] t fr)) {l:List Node} {v:Value} (h:SlV rNode w S l v):SlV rNode w (fun b=>S b∧b≠G) l v:=
 zEw hG h fun x _ cs ⟨s0,s1,e,h0,h1,h2,h3,h4,h5⟩=>⟨⟨_,_,e⟩,s0,s1,e,h0,h1,h2,h3,zEw hG h4 fun y _ cs h=>⟨⟨_,_,h.1⟩,h⟩,zEw hG h5 fun y _ cs h=>⟨⟨_,_,h.1⟩,h⟩⟩
theorem zMq (cB:Nat) (kA:Option Addr) (kn kc:Nat) (A0:Option Addr) (n0 c0:Nat) (A1:Option Addr) (n1 c1:Nat) (A2:Option Addr) (n2 c2:Nat) (A3:Option Addr) (n3 c3:Nat) (q:SIn) (ld lp:Int) (w:World) (S:Nat→Prop)
  (hcat:w.cell? ⟨cB,0,none⟩=some (.slice kA kn kc)) (hL:SlV rPack w S q.L (.slice kA kn kc)) (hm:ManiV w S q.m (.agg #[.slice A0 n0 c0,.slice A1 n1 c1,.slice A2 n2 c2,.slice A3 n3 c3]))
  (hsm:∀ x∈q.L,zBR x) (hlen:q.L.length≤128) (hmz:q.m.deps.length≤1048576∧q.m.dev.length≤1048576∧q.m.opts.length≤1048576) (hdec:1≤q.dec∧q.dec≤4096) (hlim:1≤q.lim∧q.lim≤128) :
  Calls Tryz.prog 34 #[.pointer (some ⟨cB,0,none⟩),.agg #[.slice A0 n0 c0,.slice A1 n1 c1,.slice A2 n2 c2,.slice A3 n3 c3],.bool q.dev,.slice none 0 0,.agg #[.int .i64 (q.dec:Int),.int .i64 (q.lim:Int),.int .i64 ld,.int .i64 lp]] w fun e w'=>RunP q w e w':=by
 have hcB:cB<w.heap.size:=zAf hcat
 have HMay:Hid (∀ W,Below w.heap.size w W→Calls Tryz.prog 65 #[.agg #[.slice A0 n0 c0,.slice A1 n1 c1,.slice A2 n2 c2,.slice A3 n3 c3]] W fun e w'=>e=.returned (.bool (maniB q.m))∧Below W.heap.size W w'):=fun W hW=>zFf q.m _ W S (hm.keep hW)
 have HL:=cH hL
 have HM:=cH hm
 have Hcat:=cH hcat
 have Hq:Hid ((∀ x∈q.L,zBR x)∧q.L.length≤128∧(q.m.deps.length≤1048576∧q.m.dev.length≤1048576∧q.m.opts.length≤1048576)∧(1≤q.dec∧q.dec≤4096)∧(1≤q.lim∧q.lim≤128)):=⟨hsm,hlen,hmz,hdec,hlim⟩
 have HcB:=cH hcB
 clear hL hm hcat hsm hlen hmz hcB
 obtain ⟨D,hD⟩:∃ D:Int,D=(q.dec:Int):=⟨_,rfl⟩
 obtain ⟨N,hN⟩:∃ N:Int,N=(q.lim:Int):=⟨_,rfl⟩
 obtain ⟨dv,hdv⟩:∃ d,d=q.dev:=⟨_,rfl⟩
 obtain ⟨hd1,hd2⟩:=hdec
 obtain ⟨hl1,hl2⟩:=hlim
 have bD1:¬D<1:=by omega
 have bD2:¬4096<D:=by omega
 have bN1:¬N<1:=by omega
 have bN2:¬128<N:=by omega
 rw[←hD,←hN,←hdv]
 have HD:=cH hD
 have HN:=cH hN
 have Hdv:=cH hdv
 clear hD hN hdv hd1 hd2 hl1 hl2
 go_enter Tryz.func34,Tryz.ntmps34
 go_upto_region 1 with (fail)
 obtain ⟨w3,hw3⟩:∃ w3,w3=((w.alloc (.cells #[.slice A0 n0 c0,.slice A1 n1 c1,.slice A2 n2 c2,.slice A3 n3 c3] 28)).alloc (.cells #[.int .i64 D,.int .i64 N,.int .i64 ld,.int .i64 lp] 30)).alloc (.cells #[.slice none 0 0] 24):=⟨_,rfl⟩
 have hz1:(w.alloc (.cells #[.slice A0 n0 c0,.slice A1 n1 c1,.slice A2 n2 c2,.slice A3 n3 c3] 28)).heap.size=w.heap.size+1:=by simp
 have hz2:((w.alloc (.cells #[.slice A0 n0 c0,.slice A1 n1 c1,.slice A2 n2 c2,.slice A3 n3 c3] 28)).alloc (.cells #[.int .i64 D,.int .i64 N,.int .i64 ld,.int .i64 lp] 30)).heap.size=w.heap.size+2:=by simp
 have hB3:Below w.heap.size w w3:=by rw[hw3];exact bal (bal (bal (bR _ _) _) _) _
 have hq1:w3.heap[w.heap.size]?=some (.cells #[.slice A0 n0 c0,.slice A1 n1 c1,.slice A2 n2 c2,.slice A3 n3 c3] 28 (0,0)):=by
  rw[hw3];exact (Below.heap_alloc _ _ _ (by rw[hz2];omega)).trans ((Below.heap_alloc _ _ _ (by rw[hz1];omega)).trans (zAD _ _))
 have hq2:w3.heap[w.heap.size+1]?=some (.cells #[.int .i64 D,.int .i64 N,.int .i64 ld,.int .i64 lp] 30 (0,0)):=by
  rw[hw3,←hz1];exact (Below.heap_alloc _ _ _ (by simp)).trans (zAD _ _)
 have hq3:w3.heap[w.heap.size+2]?=some (.cells #[.slice none 0 0] 24 (0,0)):=by
  rw[hw3,←hz2];exact zAD _ _
 rw[←hw3]
 have HB3:=cH hB3
 obtain ⟨MB,hMB⟩:∃ k,k=w.heap.size:=⟨_,rfl⟩
 obtain ⟨LB,hLB⟩:∃ k,k=w.heap.size+1:=⟨_,rfl⟩
 obtain ⟨GB,hGB⟩:∃ k,k=w.heap.size+2:=⟨_,rfl⟩
 rw[←hMB] at hq1
 rw[←hLB] at hq2
 rw[←hGB] at hq3
 have HGB:Hid (w.heap.size≤GB):=by unfold Hid;omega
 have hlt1:MB<w3.heap.size:=(aS.1 hq1).1
 have hlt2:LB<w3.heap.size:=(aS.1 hq2).1
 have hlt3:GB<w3.heap.size:=(aS.1 hq3).1
 have HQ:Hid (∀ W,Below w3.heap.size w3 W→W.heap[MB]?=some (.cells #[.slice A0 n0 c0,.slice A1 n1 c1,.slice A2 n2 c2,.slice A3 n3 c3] 28 (0,0))∧W.heap[LB]?=some (.cells #[.int .i64 D,.int .i64 N,.int .i64 ld,.int .i64 lp] 30 (0,0))∧W.heap[GB]?=some (.cells #[.slice none 0 0] 24 (0,0))):=fun W hW=>⟨(hW.block _ hlt1).trans hq1,(hW.block _ hlt2).trans hq2,(hW.block _ hlt3).trans hq3⟩
 have HGr:Hid (∀ W,Below w3.heap.size w3 W→W.heap[GB]?=some (.cells #[.slice none 0 0] 24 (0,0))∧W.frozen? ⟨GB,0,none⟩=false∧W.cell? ⟨GB,0,none⟩=some (.slice none 0 0)∧∀ v,Below w.heap.size w (W.setCell ⟨GB,0,none⟩ v)):=fun W hW=>by
  have h:=(hW.block _ hlt3).trans hq3
  exact ⟨h,zAZ h,cO _ _ 0 _ _ _ h,fun v=>(bot HB3.out hW).setCell (p:=⟨GB,0,none⟩) HGB.out _⟩
 have Hl3:=cH hlt3
 rw[←hGB,←hLB,←hMB]
 clear hw3 hz1 hz2 hB3 hMB hLB hGB
 have m0:=cO _ _ 0 _ _ _ hq1
 have m1:=cO _ _ 1 _ _ _ hq1
 have m2:=cO _ _ 2 _ _ _ hq1
 have m3:=cO _ _ 3 _ _ _ hq1
 clear hq1 hq2 hq3 hlt1 hlt2 hlt3
 go_wp2_with fail
 refine (HMay.out w3 HB3.out).mono ?_
 rintro e w4 ⟨rfl,hb4⟩
 have HB4:=cH hb4
 clear m0 m1 m2 m3 hb4
 obtain ⟨hq1,hq2,hq3⟩:=HQ.out w4 HB4.out
 have m0:=cO _ _ 0 _ _ _ hq1
 have m1:=cO _ _ 1 _ _ _ hq1
 have m2:=cO _ _ 2 _ _ _ hq1
 have m3:=cO _ _ 3 _ _ _ hq1
 have l0:=cO _ _ 0 _ _ _ hq2
 have l1:=cO _ _ 1 _ _ _ hq2
 have l2:=cO _ _ 2 _ _ _ hq2
 have l3:=cO _ _ 3 _ _ _ hq2
 clear hq1 hq2 hq3
 by_cases hmB:maniB q.m=false
 case pos=>
  have Hno:Hid (solS q=none):=by unfold Hid solS;rw[if_pos hmB]
  obtain ⟨t0,tf,tc,tb⟩:=HGr.out w4 HB4.out
  have Ht0:=cH t0
  have Htb:=cH tb
  clear t0 tb
  rw[hmB]
  go_wp2_with fail
  refine zCd rfl rfl rfl rfl rfl (zAX (o:=0) Ht0.out _) Tryz.underlying24 rfl (by kernel_rfl) (RunP.no Hno.out (by decide) (by unfold I64;decide) (Htb.out _))
 have hmT:maniB q.m=true:=by simpa using hmB
 obtain ⟨f,hf⟩:∃ f,f=q.dec+3 * q.lim+6:=⟨_,rfl⟩
 have Hsol:Hid (solS q=solO (goS q f (.settle [rootN] 0) 0)):=by rw[hf];exact zMu hmT
 have Hf:=cH hf
 clear hf
 rw[hmT]
 clear hmB hmT HMay
 go_upto_region 4 with (fail)
 obtain ⟨sB,hsB⟩:∃ k,k=w4.heap.size:=⟨_,rfl⟩
 obtain ⟨w5,hw5⟩:∃ w5,w5=w4.alloc (.cells #[.pointer (some ⟨cB,0,none⟩),.slice A0 n0 c0,.slice A1 n1 c1,.slice A2 n2 c2,.slice A3 n3 c3,.bool dv,.slice none 0 0,.int .i64 D,.int .i64 N,.int .i64 ld,.int .i64 lp,.int .i64 0,.int .i64 0,.slice none 0 0] 136):=⟨_,rfl⟩
 have hr5:w5.heap[sB]?=some (.cells #[.pointer (some ⟨cB,0,none⟩),.slice A0 n0 c0,.slice A1 n1 c1,.slice A2 n2 c2,.slice A3 n3 c3,.bool dv,.slice none 0 0,.int .i64 D,.int .i64 N,.int .i64 ld,.int .i64 lp,.int .i64 0,.int .i64 0,.slice none 0 0] 136 (0,0)):=by
  rw[hw5,hsB];exact zAD _ _
 have HB35:Hid (Below w3.heap.size w3 w5):=by unfold Hid;rw[hw5];exact bal HB4.out _
 have hw4:w.heap.size≤w4.heap.size:=(bot HB3.out HB4.out).size
 have hGs:GB<sB:=by have h1:=Hl3.out;have h2:=HB4.out.size;omega
 have hsB5:sB<w5.heap.size:=(aS.1 hr5).1
 have hws:w.heap.size≤sB:=by omega
 rw[←hw5,←hsB]
 clear m0 m1 m2 m3 l0 l1 l2 l3 hw5
 have HSW:Hid (∀ W,Below w5.heap.size w5 W→SW ⟨q,cB,sB,kA,kn,kc,A0,n0,c0,A1,n1,c1,A2,n2,c2,A3,n3,c3,ld,lp⟩ W ((0:Nat):Int) 0 (.slice none 0 0)):=fun W hW=>by
  have hbw:Below w.heap.size w W:=bot HB3.out (bot HB35.out hW)
  refine ⟨?_,zAA hbw Hcat.out HcB.out,(HL.out.more (S':=fun b=>b≠sB) fun b hb hl=>?_).belowSize hbw,ManiV.keep (ManiV.moreV HM.out (T:=fun b=>b≠sB) fun b hb hl=>?_) hbw⟩
  ·have h1:=(hW.block _ hsB5).trans hr5
   rw[HD.out,HN.out,Hdv.out] at h1
   exact h1
  ·show b≠sB;omega
  ·show b≠sB;omega
 have HOk:Hid (SCtx.Ok ⟨q,cB,sB,kA,kn,kc,A0,n0,c0,A1,n1,c1,A2,n2,c2,A3,n3,c3,ld,lp⟩):=
  ⟨Hq.out.1,Hq.out.2.1,Hq.out.2.2.1,Hq.out.2.2.2.1.2,Hq.out.2.2.2.2,by have:=HcB.out;show cB≠sB;omega⟩
 have HCl:Hid (∀ W b,Below w5.heap.size w5 W→w5.heap.size≤b→W.heap[b]?=some (.cells #[.string ⟨#[]⟩,.int .i64 0,.int .i64 0,.int .i64 0,.slice none 0 0,.slice none 0 0] 58 (0,0))→Calls Tryz.prog 66 #[.pointer (some ⟨sB,0,none⟩),.slice (some ⟨b,0,none⟩) 1 1,.int .i64 0] W fun e w'=>∃ bb:Bool,e=.returned (.bool bb)∧But sB W w'∧RunA q sB bb w'):=fun W b hW hb hrow=>by
  refine ((zII _ HOk.out f).1 [rootN] 0 0 _ 1 1 W (HSW.out W hW) (zMD hrow (by show b≠sB;omega)) ⟨by have:=Hq.out.2.2.2.2.1;exact this,fun n hn=>by rw[List.mem_singleton.1 hn];exact nZ _,nZ _⟩ (nZ _) (by have:=Hf.out;unfold leftK;simp only;omega)).mono ?_
  intro e w' h
  exact RunA.of h Hsol.out
 have HGs:=cH hGs
 have Hrun:Hid (∀ W W',Below w5.heap.size w5 W→But sB W W'→W'.heap[GB]?=some (.cells #[.slice none 0 0] 24 (0,0))∧Below w.heap.size w W'):=fun W W' hW hb=>by
  have h1:=HGr.out W (bot HB35.out hW)
  exact ⟨(hb.block _ (aS.1 h1.1).1 (by omega)).trans h1.1,(bot HB3.out (bot HB35.out hW)).trans (hb.below hws (by have:=(bot HB3.out (bot HB35.out hW)).size;omega))⟩
 have hGl5:GB<w5.heap.size:=by have:=HGs.out;omega
 have HGl5:=cH hGl5
 clear HSW HOk HL HM Hcat Hq HcB Hsol HQ HGr Hl3 hr5 hGl5 hw4 hGs hsB
 go_wp2_with fail
 refine (HCl.out _ w5.heap.size (bal (bR _ _) _) (nR _) (zAD _ _)).mono ?_
 rintro e w7 ⟨bb,rfl,hbut,hA⟩
 obtain ⟨t0,tb⟩:=Hrun.out _ w7 (bal (bR _ _) _) hbut
 have Ht0:=cH t0
 have Htb:=cH tb
 have tc:=cO _ _ 0 _ _ _ t0
 have tf:w7.frozen? ⟨GB,0,none⟩=false:=zAZ t0
 clear HCl Hrun hbut t0 tb
 rcases hA with ⟨rfl,hs⟩|⟨rfl,er,hne,hi,hs,c12⟩|⟨rfl,ns,A,n,c,t,hs,c11,c12,c13,hsl⟩
 ·have Hs:=cH hs
  clear hs
  go_wp2_with fail
  refine zCd rfl rfl rfl rfl rfl (zAX (o:=0) Ht0.out _) Tryz.underlying24 rfl (by kernel_rfl) (RunP.no Hs.out (by decide) (by unfold I64;decide) (Htb.out.setCell (p:=⟨GB,0,none⟩) HGB.out _))
 ·have Hs:=cH hs
  have Hi:=cH hi
  have hE:(er==0)=false:=by simp;omega
  have Hne:=cH hne
  clear hs hi hne
  have tc2:w7.drew.cell? ⟨GB,0,none⟩=some (.slice none 0 0):=tc
  have tf2:w7.drew.frozen? ⟨GB,0,none⟩=false:=tf
  have tc12:w7.drew.cell? ⟨sB,12,none⟩=some (.int .i64 er):=c12
  have HC:Hid (∀ v,(w7.drew.setCell ⟨GB,0,none⟩ v).cell? ⟨sB,12,none⟩=some (.int .i64 er)):=fun v=>(But.set w7.drew GB 0 v).cell c12 (by have:=HGs.out;omega)
  have HD:Hid (∀ v,(w7.setCell ⟨GB,0,none⟩ v).drew.cell? ⟨sB,12,none⟩=some (.int .i64 er)):=fun v=>(But.set w7 GB 0 v).cell c12 (by have:=HGs.out;omega)
  go_upto_region 8 with (fail)
  go_region_held3 (fun W=>W.cell? ⟨sB,12,none⟩=some (.int .i64 er))
   (first
     | (with_reducible exact tc12)
     | (with_reducible exact HC.out _)
     | (with_reducible exact HD.out _))
   (fail)
  all_goals
   go_wp2_with fail
   refine zCd rfl rfl rfl rfl rfl (zAX (o:=0) Ht0.out _) Tryz.underlying24 rfl (by kernel_rfl) (RunP.no Hs.out Hne.out Hi.out (by first|exact (Htb.out.drew.setCell (p:=⟨GB,0,none⟩) HGB.out _)|exact (Htb.out.setCell (p:=⟨GB,0,none⟩) HGB.out _).drew))
 ·have Hs:=cH hs
  have hsl2:=zEa Ht0.out hsl
  have Hsl:Hid (∀ v,SlV rNode (w7.drew.setCell ⟨GB,0,none⟩ v) (fun _=>True) ns (.slice A n c)):=fun v=>(hsl2.drew.keep fun b hb _=>heap_setCell_other w7.drew ⟨GB,0,none⟩ b v (by exact hb.2)).more fun _ _ _=>trivial
  clear hs hsl hsl2
  have tc2:w7.drew.cell? ⟨GB,0,none⟩=some (.slice none 0 0):=tc
  have tf2:w7.drew.frozen? ⟨GB,0,none⟩=false:=tf
  have hcc:w7.drew.cell? ⟨sB,11,none⟩=some (.int .i64 (t:Int))∧w7.drew.cell? ⟨sB,13,none⟩=some (.slice A n c):=⟨c11,c13⟩
  have HC:Hid (∀ v,(w7.drew.setCell ⟨GB,0,none⟩ v).cell? ⟨sB,11,none⟩=some (.int .i64 (t:Int))∧(w7.drew.setCell ⟨GB,0,none⟩ v).cell? ⟨sB,13,none⟩=some (.slice A n c)):=fun v=>⟨(But.set w7.drew GB 0 v).cell c11 (by have:=HGs.out;omega),(But.set w7.drew GB 0 v).cell c13 (by have:=HGs.out;omega)⟩
  have HD:Hid (∀ v,(w7.setCell ⟨GB,0,none⟩ v).drew.cell? ⟨sB,11,none⟩=some (.int .i64 (t:Int))∧(w7.setCell ⟨GB,0,none⟩ v).drew.cell? ⟨sB,13,none⟩=some (.slice A n c)):=fun v=>⟨(But.set w7 GB 0 v).cell c11 (by have:=HGs.out;omega),(But.set w7 GB 0 v).cell c13 (by have:=HGs.out;omega)⟩
  go_upto_region 9 with (fail)
  go_region_held3 (fun W=>W.cell? ⟨sB,11,none⟩=some (.int .i64 (t:Int))∧W.cell? ⟨sB,13,none⟩=some (.slice A n c))
   (first
     | (with_reducible exact hcc)
     | (with_reducible exact HC.out _)
     | (with_reducible exact HD.out _))
   (fail)
  all_goals
   go_wp2_with fail
   refine zCd rfl rfl rfl rfl rfl (zAX (o:=0) Ht0.out _) Tryz.underlying24 rfl (by kernel_rfl) (RunP.yes Hs.out (by first|exact Hsl.out _|exact (Hsl.out _)) (by first|exact (Htb.out.drew.setCell (p:=⟨GB,0,none⟩) HGB.out _)|exact (Htb.out.setCell (p:=⟨GB,0,none⟩) HGB.out _).drew))
