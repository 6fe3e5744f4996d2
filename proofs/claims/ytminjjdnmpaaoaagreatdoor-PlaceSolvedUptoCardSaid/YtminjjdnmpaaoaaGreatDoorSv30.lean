/- The document's search: what its three functions answer; the node at a place and all behind it: walked. -/
import Derived.Test.YtminjjdnmpaaoaaGreatDoorSv29
import Derived.Test.YtminjjdnmpaaoaaGreatDoorSv28
import Derived.Test.YtminjjdnmpaaoaaGreatDoorSv27
import Derived.Test.YtminjjdnmpaaoaaGreatDoorSv12
import Derived.Test.YtminjjdnmpaaoaaGreatDoorSv11
import Derived.Test.YtminjjdnmpaaoaaGreatDoorAl
set_option linter.all false
set_option maxHeartbeats 12800000
set_option maxRecDepth 100000
namespace Go.Proofs.YtminjjdnmpaaoaaGreatDoor
open Go.Rows Go.RowKit Go.Shelf Go.Sort
def SAns (C:SCtx) (o:SOut) (e:Ending) (w':World):Prop:=match o with
 | .no t=>e=.returned (.bool false)∧SW C w' (t:Int) 0 (.slice none 0 0)∧t≤C.q.dec
 | .bad c t=>c≠0∧I64 c∧e=.returned (.bool true)∧∃ t':Int,SW C w' t' c (.slice none 0 0)
 | .ok t ns=>e=.returned (.bool true)∧t≤C.q.dec∧∃ A n c,SW C w' (t:Int) 0 (.slice A n c)∧SlV rNode w' (fun b=>b≠C.sB) ns (.slice A n c)
def SPost (C:SCtx) (w:World) (o:SOut) (e:Ending) (w':World):Prop:=But C.sB w w'∧SAns C o e w'
theorem SPost.from {C:SCtx} {w w2 w':World} {o:SOut} {e:Ending} (h:SPost C w2 o e w') (hb:But C.sB w w2):SPost C w o e w':=⟨hb.trans h.1,h.2⟩
theorem SPost.but {C:SCtx} {w w':World} {o:SOut} {e:Ending} (h:SPost C w o e w'):But C.sB w w':=h.1
theorem SPost.ret {C:SCtx} {w w':World} {o:SOut} {e:Ending} (h:SPost C w o e w'):∃ b:Bool,e=.returned (.bool b):=by
 obtain ⟨_,h⟩:=h
 cases o with
 | no t=>exact ⟨false,h.1⟩
 | bad c t=>exact ⟨true,h.2.2.1⟩
 | ok t ns=>exact ⟨true,h.1⟩
def zKI (C:SCtx) (nodes:List Node) (t:Nat):Prop:=nodes.length≤C.q.lim∧(∀ n∈nodes,n.ctx.length≤t)∧t≤C.q.dec
def SetC (C:SCtx) (f:Nat):Prop:=∀ (nodes:List Node) (at_ t:Nat) (A:Option Addr) (n c:Nat) (w:World),SW C w (t:Int) 0 (.slice none 0 0)→SlV rNode w (fun b=>b≠C.sB) nodes (.slice A n c)→zKI C nodes t→at_≤nodes.length→leftK C.q t (.settle nodes at_)≤f →
 Calls Tryz.prog 66 #[.pointer (some ⟨C.sB,0,none⟩),.slice A n c,.int .i64 (at_:Int)] w fun e w'=>SPost C w (goS C.q f (.settle nodes at_) t) e w'
def ChoC (C:SCtx) (f:Nat):Prop:=∀ (nodes:List Node) (at_ t:Nat) (l:List Want) (k:Nat) (env:List Pin) (A:Option Addr) (n c:Nat) (B:Option Addr) (ln lc:Nat) (D:Option Addr) (en ec:Nat) (w:World),SW C w (t:Int) 0 (.slice none 0 0)→SlV rNode w (fun b=>b≠C.sB) nodes (.slice A n c)→SlV rWant w (fun b=>b≠C.sB) l (.slice B ln lc)→SlV rPin w (fun b=>b≠C.sB) env (.slice D en ec) →
 zKI C nodes t→at_<nodes.length→k≤l.length→l.length≤4194304→env.length≤t→leftK C.q t (.choose nodes at_ (l.drop k) env)≤f →
 Calls Tryz.prog 111 #[.pointer (some ⟨C.sB,0,none⟩),.slice A n c,.int .i64 (at_:Int),.slice B ln lc,.int .i64 (k:Int),.slice D en ec] w fun e w'=>SPost C w (goS C.q f (.choose nodes at_ (l.drop k) env) t) e w'
def BinC (C:SCtx) (f:Nat):Prop:=∀ (nodes:List Node) (at_ t:Nat) (env:List Pin) (A:Option Addr) (n c:Nat) (D:Option Addr) (en ec:Nat) (w:World),SW C w (t:Int) 0 (.slice none 0 0)→SlV rNode w (fun b=>b≠C.sB) nodes (.slice A n c)→SlV rPin w (fun b=>b≠C.sB) env (.slice D en ec) →
 zKI C nodes t→at_<nodes.length→env.length≤t→leftK C.q t (.bind nodes at_ env)≤f →
 Calls Tryz.prog 143 #[.pointer (some ⟨C.sB,0,none⟩),.slice A n c,.int .i64 (at_:Int),.slice D en ec] w fun e w'=>SPost C w (goS C.q f (.bind nodes at_ env) t) e w'
theorem zJJ {C:SCtx} (hC:C.Ok) (nodes:List Node) {i:Nat} (hi:i<nodes.length):(zBf C.q nodes i).length≤4194304:=by
 obtain ⟨x,hx⟩:∃ x,nodes[i]?=some x:=⟨_,gE hi⟩
 by_cases h0:i=0
 ·subst h0
  rw[zHs]
  have h1:=zIF C.q.m C.q.dev
  have h2:=hC.mz
  omega
 ·rw[zFJ C.q h0 hx,zMg]
  have h1:=zFy hC x.name x.ver
  have h2:=h1.1.1
  have h3:=h1.2.2.1
  omega
theorem zH0 (C:SCtx) (hC:C.Ok) (f:Nat) (IH:ChoC C f):SetC C (f+1):=by
 intro nodes at_ t A n c w hw hnd hz hat hf
 have hsB:=hw.hB
 have hn:=hnd.n_eq
 have hcap:=hnd.cap_le
 unfold maxLen at hcap
 have hinz:n≤9223372036854775807:=by omega
 have HND:=cH hnd
 have HW:=cH hw
 have hatn:at_≤n:=by omega
 have HE1:Hid (at_=n→goS C.q (f+1) (.settle nodes at_) t=.ok t nodes):=fun h=>by rw[goS,if_pos (by omega)]
 have HE2:Hid (at_≠n→goS C.q (f+1) (.settle nodes at_) t=goS C.q f (.choose nodes at_ (zBf C.q nodes at_) (ctxAt nodes at_)) t):=fun h=>by rw[goS,if_neg (by omega)]
 have Hz:=cH hz
 have Hf:=cH hf
 have Hne:=cH hC.ne
 have HOk:=cH hC
 obtain ⟨_,_,_,_,_,_,_,_,_,_,_,s13⟩:=hw.cells
 have f13:=hw.frz 13
 have Hnl:Hid (nodes.length=n):=hn.symm
 have HIH:=cH IH
 generalize goS C.q (f+1) (.settle nodes at_) t=R at *
 clear hw hnd hn hcap hz hf hat IH hC
 have ha0:(0:Int)≤(at_:Int):=by omega
 obtain ⟨sB,hsq⟩:∃ k,k=C.sB:=⟨_,rfl⟩
 rw[←hsq] at s13 f13 hsB ⊢
 have Hsq:=cH hsq
 clear hsq
 go_enter Tryz.func66,Tryz.ntmps66
 by_cases he:at_=n
 case pos=>
  have hb:((at_:Int)==(n:Int))=true:=by simp;omega
  have He:=cH (HE1.out he)
  clear HE1 HE2 he HIH
  go_wp2_with fail
  go_ret
  have h:=SW.find_ Hne.out HW.out (.slice A n c)
  rw[He.out]
  rw[Hsq.out]
  exact ⟨h.2,rfl,Hz.out.2.2,A,n,c,h.1,h.2.slv HND.out (fun _ h=>h)⟩
 have hb:((at_:Int)==(n:Int))=false:=by simp;omega
 have He:=cH (HE2.out he)
 have hlt:at_<n:=by omega
 have hltI:(at_:Int)<(n:Int):=by omega
 clear HE1 HE2 he s13 f13
 obtain ⟨x,hx⟩:∃ x,nodes[at_]?=some x:=⟨_,gE (by have:=Hnl.out;omega)⟩
 have hctx:ctxAt nodes at_=x.ctx:=by unfold ctxAt;rw[hx]
 rw[hctx] at He
 have HND0:=HND.out
 obtain ⟨b,o,cs,hA,hSb,hbl,⟨q0,q1,rfl,_,_,_,_,hcx,_⟩,hcell⟩:=HND0.elem hx
 obtain ⟨xA,xc,rfl,_,_⟩:=hcx.val
 have x4:=hcell 4 _ rfl
 simp only[rNode] at x4
 have Hcx:=cH hcx
 have Hxm:Hid (x∈nodes):=mG hx
 have HWa:Hid (∀ W,Below w.heap.size w W→Calls Tryz.prog 112 #[.pointer (some ⟨sB,0,none⟩),.slice A n c,.int .i64 (at_:Int)] W fun e w'=>(∃ B k,e=.returned (.slice B (zBf C.q nodes at_).length k)∧SlV rWant w' (fun b=>b≠C.sB) (zBf C.q nodes at_) (.slice B (zBf C.q nodes at_).length k))∧Below W.heap.size W w'):=fun W hW=>by
  rw[Hsq.out]
  exact zKz C HOk.out nodes A n c at_ W _ _ _ (HW.out.keep Hne.out hW) (HND.out.belowSize hW) (by have:=Hnl.out;omega)
 have HCh:Hid (∀ W B k,Below w.heap.size w W→SlV rWant W (fun b=>b≠C.sB) (zBf C.q nodes at_) (.slice B (zBf C.q nodes at_).length k)→Calls Tryz.prog 111 #[.pointer (some ⟨sB,0,none⟩),.slice A n c,.int .i64 (at_:Int),.slice B (zBf C.q nodes at_).length k,.int .i64 0,.slice xA x.ctx.length xc] W fun e w'=>∃ bb:Bool,e=.returned (.bool bb)∧SPost C w R (.returned (.bool bb)) w'):=fun W B k hW hl=>by
  rw[Hsq.out]
  refine (HIH.out nodes at_ t (zBf C.q nodes at_) 0 x.ctx A n c B _ k xA _ xc W (HW.out.keep Hne.out hW) (HND.out.belowSize hW) hl (Hcx.out.belowSize hW) Hz.out (by have:=Hnl.out;omega) (nZ _) (zJJ HOk.out nodes (by have:=Hnl.out;omega)) (Hz.out.2.1 x Hxm.out) (by have:=Hf.out;unfold leftK at this ⊢;simp only at this ⊢;omega)).mono ?_
  intro e w' h
  rw[List.drop_zero,←He.out] at h
  obtain ⟨bb,rfl⟩:=h.ret
  exact ⟨bb,rfl,h.from (But.of hW)⟩
 have Hx4:Hid (∀ W,But sB w W→W.cell? ⟨b,o+at_ * 6+4,none⟩=some (.slice xA x.ctx.length xc)):=fun W hW=>hW.cell x4 (by rw[Hsq.out];exact hSb)
 have Hsq2:=cH Hsq.out
 clear hcell hx hcx hctx hSb HIH
 subst hA
 generalize (zBf C.q nodes at_).length=wl at *
 generalize x.ctx.length=xl at *
 go_upto_region 4 with (fail)
 go_region_held3 (fun W=>W.cell? ⟨b,o+at_ * 6+4,none⟩=some (.slice xA xl xc))
  (first
    | (with_reducible exact Hx4.out _ (But.of (bR _ _).drew))
    | (with_reducible exact Hx4.out _ (But.of hB2))
    | (with_reducible exact Hx4.out _ hB3))
  (first
    | (go_at_call 112;with_reducible refine (HWa.out _ (bR _ _).drew).mono ?_;rintro e w2 ⟨⟨B2,k2,rfl,hsl⟩,hb2⟩;have hB2:Below w.heap.size w w2:=bot (bR _ _).drew hb2)
    | (go_at_call 111;with_reducible refine (HCh.out _ _ _ hB2 hsl).mono ?_;rintro e w3 ⟨bb,rfl,hsp⟩;have hB3:But sB w w3:=by (rw[Hsq2.out];exact SPost.but hsp)))
 all_goals
  have HSp:=cH hsp
  clear hsp hB3 hB2 hb2 hsl
  go_wp2_with fail
  go_ret
  exact HSp.out
theorem zJI {dec:Nat} {k:List Pin→Nat→SOut} {env:List Pin} {s:ByteArray} (hk:∀ e t t',k e t=.no t'→t≤t'):∀ {os:List (Option Ver)} {t t':Nat},tryGo dec k env s os t=.no t'→t≤t':=by
 intro os
 induction os with
 | nil=>intro t t' h;unfold tryGo at h;cases h;exact nR _
 | cons o os ih=>
   intro t t' h
   unfold tryGo at h
   split at h
   ·cases h
   ·split at h
    ·rename_i t1 h1
     have:=hk _ _ _ h1
     have:=ih h
     omega
    ·rename_i hr
     exact absurd h (hr t')
theorem zLm {q:SIn}:∀ {f:Nat} {k:Task} {t t':Nat},goS q f k t=.no t'→t≤t':=by
 intro f
 induction f with
 | zero=>intro k t t' h;unfold goS at h;cases h
 | succ f ih=>
   intro k t t' h
   cases k with
   | settle nodes at_=>
     rw[goS] at h
     split at h
     ·cases h
     ·exact ih h
   | choose nodes at_ l env=>
     cases l with
     | nil=>rw[goS] at h;exact ih h
     | cons w l=>rw[goS] at h;exact zJI (fun e t t' h=>ih h) h
   | bind nodes at_ env=>
     rw[goS] at h
     split at h
     ·cases h;exact nR _
     ·split at h
      ·cases h
      ·exact ih h
theorem zK8 (o:Option Ver):∃ u1 u2 u3:Int,verQ o=.agg #[.int .i64 u1,.int .i64 u2,.int .i64 u3]∧∀ v,o=some v→v=⟨u1,u2,u3⟩:=by
 cases o with
 | none=>exact ⟨0,0,0,rfl,fun v h=>by cases h⟩
 | some v=>exact ⟨v.major,v.minor,v.patch,rfl,fun u h=>by cases h;rfl⟩
theorem zIr {w0 w3:World} (hb:Below (w0.alloc (Obj.cells #[.int .i64 0,.int .i64 0,.int .i64 0] 50)).drew.heap.size (w0.alloc (Obj.cells #[.int .i64 0,.int .i64 0,.int .i64 0] 50)).drew w3) :
 w3.heap[w0.heap.size]?=some (.cells #[.int .i64 0,.int .i64 0,.int .i64 0] 50 (0,0)):=(hb.block _ (by show w0.heap.size<(w0.alloc _).heap.size;simp)).trans (zAD w0 _)
theorem zJS {w0 w3:World} (hb:Below (w0.alloc (Obj.cells #[.int .i64 0,.int .i64 0,.int .i64 0] 50)).drew.heap.size (w0.alloc (Obj.cells #[.int .i64 0,.int .i64 0,.int .i64 0] 50)).drew w3) :
 (w3.cell? ⟨w0.heap.size,0,none⟩=some (.int .i64 0)∧w3.cell? ⟨w0.heap.size,1,none⟩=some (.int .i64 0)∧w3.cell? ⟨w0.heap.size,2,none⟩=some (.int .i64 0))∧w3.frozen? ⟨w0.heap.size,0,none⟩=false∧w3.frozen? ⟨w0.heap.size,1,none⟩=false∧w3.frozen? ⟨w0.heap.size,2,none⟩=false:=row3P (zIr hb)
theorem zHr (C:SCtx) (hC:C.Ok) (f:Nat) (IHc:ChoC C f) (IHb:BinC C f):ChoC C (f+1):=by
 intro nodes at_ t l k env A n c B ln lc D en ec w hw hnd hl he hz hat hk hlz hez hf
 have hsB:=hw.hB
 have hn:=hnd.n_eq
 have hcap:=hnd.cap_le
 have hln:=hl.n_eq
 have hlc:=hl.cap_le
 have hen:=he.n_eq
 unfold maxLen at hcap hlc
 have hinz:n≤9223372036854775807:=by omega
 have hatn:at_<n:=by omega
 have hkl:k≤ln:=by omega
 have hlnz:ln≤4194304:=by omega
 have HND:=cH hnd
 have HLW:=cH hl
 have HEN:=cH he
 have HW:=cH hw
 have Hz:=cH hz
 have Hez:=cH hez
 have Hf:=cH hf
 have HOk:=cH hC
 have Hne:=cH hC.ne
 have Hnl:Hid (nodes.length=n):=hn.symm
 have Hll:Hid (l.length=ln):=hln.symm
 have HIc:=cH IHc
 have HIb:=cH IHb
 obtain ⟨sB,hsq⟩:∃ k,k=C.sB:=⟨_,rfl⟩
 have Hsq:=cH hsq
 obtain ⟨R,hR⟩:∃ R,R=goS C.q (f+1) (.choose nodes at_ (l.drop k) env) t:=⟨_,rfl⟩
 rw[←hR,←hsq]
 rw[←hsq] at hsB
 have HR:=cH hR
 clear hw hnd hl he hz hez hf hC hn hcap hln hlc hen IHc IHb hsq hR
 have ha0:(0:Int)≤(at_:Int):=by omega
 have hatI:(at_:Int)<(n:Int):=by omega
 have hk0:(0:Int)≤(k:Int):=by omega
 go_enter Tryz.func111,Tryz.ntmps111
 by_cases hkn:k=ln
 case pos=>
  have hb:((k:Int)==(ln:Int))=true:=by simp;omega
  have He:Hid (R=goS C.q f (.bind nodes at_ env) t):=by unfold Hid;rw[HR.out,dN (by have:=Hll.out;omega),goS]
  have HB:Hid (Calls Tryz.prog 143 #[.pointer (some ⟨sB,0,none⟩),.slice A n c,.int .i64 (at_:Int),.slice D en ec] w fun e w'=>∃ bb:Bool,e=.returned (.bool bb)∧SPost C w R (.returned (.bool bb)) w'):=by
   unfold Hid
   rw[Hsq.out]
   refine (HIb.out nodes at_ t env A n c D en ec w HW.out HND.out HEN.out Hz.out (by have:=Hnl.out;omega) Hez.out (by have:=Hf.out;unfold leftK at this ⊢;simp only at this ⊢;omega)).mono ?_
   intro e w' h
   rw[←He.out] at h
   obtain ⟨bb,rfl⟩:=h.ret
   exact ⟨bb,rfl,h⟩
  clear hkn HIc HIb HR He
  go_wp2_with fail
  refine HB.out.mono ?_
  rintro e w2 ⟨bb,rfl,hsp⟩
  have HSp:=cH hsp
  clear hsp HB
  go_wp2_with fail
  go_ret
  exact HSp.out
 have hb:((k:Int)==(ln:Int))=false:=by simp;omega
 have hklt:k<ln:=by omega
 have hkI:(k:Int)<(ln:Int):=by omega
 obtain ⟨x,hx⟩:∃ x,l[k]?=some x:=⟨_,gE (by have:=Hll.out;omega)⟩
 have hdk:l.drop k=x::l.drop (k+1):=by
  obtain ⟨h,e⟩:=gS.1 hx
  rw[dC h,e]
 have HR1:Hid (R=tryGo C.q.dec (fun env' t'=>goS C.q f (.choose nodes at_ (l.drop (k+1)) env') t') env x.name ((optsS C.q nodes at_ x).map some++if maysS nodes at_ x=true then [none] else []) t):=by unfold Hid;rw[HR.out,hdk,goS]
 obtain ⟨nd,hnd⟩:∃ nd,nodes[at_]?=some nd:=⟨_,gE (by have:=Hnl.out;omega)⟩
 have hctx:ctxAt nodes at_=nd.ctx:=by unfold ctxAt;rw[hnd]
 have HO1:Hid (∀ v,zAh nd.ctx x.name=some v→optsS C.q nodes at_ x=(if inSB x.range v=true then [v] else [])∧maysS nodes at_ x=false):=fun v h=>by
  unfold optsS maysS
  rw[hctx,h]
  exact ⟨rfl,rfl⟩
 have HO2:Hid (zAh nd.ctx x.name=none→optsS C.q nodes at_ x=candC C.q.L x.name x.range∧maysS nodes at_ x=decide (x.kind=2)):=fun h=>by
  unfold optsS maysS
  rw[hctx,h]
  exact ⟨rfl,rfl⟩
 generalize optsS C.q nodes at_ x=VS at *
 generalize maysS nodes at_ x=MY at *
 have HND0:=HND.out
 obtain ⟨b,o,cs,hA,hSb,hbl,⟨q0,q1,rfl,_,_,_,_,hcx,_⟩,hcell⟩:=HND0.elem hnd
 obtain ⟨xA,xc,rfl,_,_⟩:=hcx.val
 have x4:=hcell 4 _ rfl
 simp only[rNode] at x4
 have Hcx:=cH hcx
 have HLW0:=HLW.out
 obtain ⟨lb,lo,cs',hB,_,hlb,⟨s0,rfl,hxn,hxk,hrg⟩,hcell'⟩:=HLW0.elem hx
 obtain ⟨rA,rc,rfl,_,_⟩:=hrg.val
 have y0:=hcell' 0 _ rfl
 have y1:=hcell' 1 _ rfl
 have y2:=hcell' 2 _ rfl
 simp only[rWant,Nat.add_zero] at y0 y1 y2
 have Hrg:=cH hrg
 have Hxn:=cH hxn
 have HTo:Hid (∀ W,Below w.heap.size w W→Calls Tryz.prog 144 #[.slice xA nd.ctx.length xc,.string x.name] W fun e w'=>e=.returned (.tuple #[verQ (zAh nd.ctx x.name),.bool (zAh nd.ctx x.name).isSome])∧Below W.heap.size W w'):=fun W hW=>zLu xA _ xc nd.ctx x.name W _ (Hcx.out.belowSize hW)
 have Htv:Hid (∀ u,zAh nd.ctx x.name=some u→I64 u.major∧I64 u.minor∧I64 u.patch):=fun u h=>by
  obtain ⟨i,hi,hie⟩:=List.mem_iff_getElem.1 (zC8 h)
  obtain ⟨_,_,_,_,_,_,⟨_,_,h2⟩,_⟩:=Hcx.out.elem (gE hi)
  rw[hie] at h2
  exact h2
 clear hcell hcell' hctx hnd hx hdk HR HIb hrg hcx hxn
 subst hA
 subst hB
 obtain ⟨nm,kd,rg⟩:=x
 simp only at HO1 HO2 HR1 y0 y1 y2 Hrg Hxn hxk HTo Htv
 generalize nd.ctx.length=xl at *
 generalize zAh nd.ctx nm=tq at *
 obtain ⟨rl,hrl⟩:∃ k,k=rg.length:=⟨_,rfl⟩
 rw[←hrl] at y2 Hrg
 clear hrl
 obtain ⟨u1,u2,u3,hvq,hu⟩:=zK8 tq
 have Hu:=cH hu
 rw[hvq] at HTo
 clear hvq hu
 go_upto_region 4 with (fail)
 have hq1:=zAD w (.cells #[.string nm,.int .i64 kd,.slice rA rl rc] 204)
 have HB1:Hid (Below w.heap.size w (w.alloc (.cells #[.string nm,.int .i64 kd,.slice rA rl rc] 204))):=bal (bR _ _) _
 generalize w.alloc (.cells #[.string nm,.int .i64 kd,.slice rA rl rc] 204)=w1 at *
 obtain ⟨WB,hWB⟩:∃ k,k=w.heap.size:=⟨_,rfl⟩
 rw[←hWB] at hq1 ⊢
 have HWBn:Hid (WB≠sB):=by unfold Hid;omega
 have HWr:Hid (∀ W,But sB w1 W→W.cell? ⟨WB,0,none⟩=some (.string nm)∧W.cell? ⟨WB,1,none⟩=some (.int .i64 kd)∧W.cell? ⟨WB,2,none⟩=some (.slice rA rl rc)):=fun W hW=>
  ⟨hW.cell (cO _ _ 0 _ _ _ hq1) HWBn.out,hW.cell (cO _ _ 1 _ _ _ hq1) HWBn.out,hW.cell (cO _ _ 2 _ _ _ hq1) HWBn.out⟩
 have Hx4:Hid (∀ W,Below w.heap.size w W→W.cell? ⟨b,o+at_ * 6+4,none⟩=some (.slice xA xl xc)):=fun W hW=>zAA hW x4 hbl
 obtain ⟨z0,z1,z2⟩:=HWr.out w1 (But.refl _ _)
 clear hWB hq1 x4 y0 y1 y2
 have x4:=Hx4.out w1 HB1.out
 have Hcells:Hid (∀ W,Below w1.heap.size w1 W→W.cell? ⟨b,o+at_ * 6+4,none⟩=some (.slice xA xl xc)∧W.cell? ⟨WB,0,none⟩=some (.string nm)):=fun W hW=>⟨Hx4.out W (bot HB1.out hW),(HWr.out W (But.of hW)).1⟩
 have HTo1:Hid (∀ W,Below w1.heap.size w1 W→Calls Tryz.prog 144 #[.slice xA xl xc,.string nm] W fun e w'=>e=.returned (.tuple #[.agg #[.int .i64 u1,.int .i64 u2,.int .i64 u3],.bool tq.isSome])∧Below W.heap.size W w'):=fun W hW=>HTo.out W (bot HB1.out hW)
 generalize htqs:tq.isSome=ts at *
 clear HTo
 go_upto_region 6 with (fail)
 go_cut [16,17] from 37 to 47 (fun v16 v17 wx=>∃ VB:Nat,v16=.pointer (some ⟨VB,0,none⟩)∧v17=.bool ts∧Hid (Below w1.heap.size w1 wx∧VB≠sB∧wx.heap[VB]?=some (.cells #[.int .i64 u1,.int .i64 u2,.int .i64 u3] 50 (0,0))))
 case first=>
  have hw1z:=HB1.out.size
  go_region_held3 (fun W=>(W.cell? ⟨b,o+at_ * 6+4,none⟩=some (.slice xA xl xc)∧W.cell? ⟨WB,0,none⟩=some (.string nm))∧Below w1.heap.size w1 W)
   (first
     | (with_reducible exact hK3 _ _ _)
     | (with_reducible exact ⟨Hcells.out _ (bR _ _).drew,(bR _ _).drew⟩)
     | (with_reducible exact ⟨Hcells.out _ hB2,hB2⟩)
     | (with_reducible exact ⟨Hcells.out _ (bal hB2 _),bal hB2 _⟩)
     | (with_reducible exact ⟨Hcells.out _ (bal (bR _ _).drew _),bal (bR _ _).drew _⟩))
   (first
     | (go_at_call 144;go_split_ands;with_reducible refine (HTo1.out _ (by assumption)).mono ?_;rintro e w2 ⟨rfl,hb2⟩;have hB2:Below w1.heap.size w1 w2:=bot (by assumption) hb2;have hz2:=hB2.size;(try (have hT:=zJS hb2;obtain ⟨⟨t0,t1,t2⟩,f0,f1,f2⟩:=hT;have hK3:=fun a0 a1 a2=>And.intro (Hcells.out _ (zBb hB2 (nR w1.heap.size) a0 a1 a2)) (zBb hB2 (nR w1.heap.size) a0 a1 a2)))))
  all_goals
   go_wp2_with fail
   go_meet
   first
    | (have hq:=hK3;exact ⟨w1.heap.size,rfl,rfl,zBb hB2 (nR _) _ _ _,by omega,set3Q (zIr hb2) _ _ _⟩)
    | exact ⟨w2.heap.size,rfl,rfl,bal hB2 _,by omega,zAD w2 _⟩
 case rest=>
 obtain ⟨VB,rfl,rfl,HN⟩:=hcut
 generalize wc=w4 at *
 have HB4:=cH (bot HB1.out HN.out.1)
 have HB14:=cH HN.out.1
 obtain ⟨⟨t0,t1,t2⟩,_⟩:=row3P HN.out.2.2
 have HVn:=cH HN.out.2.1
 have HWd4:=cH (HW.out.keep Hne.out HB4.out)
 have HRg4:=cH (Hrg.out.belowSize HB4.out)
 have hsB4:sB<w4.heap.size:=by have:=HB4.out.size;omega
 clear z0 z1 z2 x4 Hcells HTo1 Hx4 HN
 obtain ⟨z0,z1,z2⟩:=HWr.out w4 (But.of HB14.out)
 obtain ⟨N,hN⟩:∃ N,N=VS.length:=⟨_,rfl⟩
 have HN:=cH hN
 clear hN
 have HVl:Hid (N≤128):=by
  unfold Hid
  rw[HN.out]
  cases htq:tq with
  | none=>
    rw[(HO2.out htq).1]
    have h1:(candC C.q.L nm rg).length≤(versC C.q.L nm).length:=List.length_filter_le _ _
    have h2:=zFD C.q.L nm
    have h3:=HOk.out.len
    omega
  | some v=>
    rw[(HO1.out v htq).1]
    split<;>simp
 go_upto_if 48 with fail
 go_cut [14,15] from 49 to 69 (fun v14 v15 wx=>∃ (VA:Option Addr) (vm:Nat),v14=.slice VA N vm∧v15=.bool MY∧Hid (Below w4.heap.size w4 wx∧SlV rVer wx (fun b=>b≠sB) VS (.slice VA N vm)))
 case first=>
  cases ts with
  | true=>
    obtain ⟨v,hv⟩:∃ v,tq=some v:=Option.isSome_iff_exists.1 htqs
    obtain rfl:=Hu.out v hv
    obtain ⟨hvs,hmy⟩:=HO1.out _ hv
    have hiv:=Htv.out _ hv
    have Hiv:=cH hiv
    have HIn:=cH (zE2 rA rl rc rg ⟨u1,u2,u3⟩ w4 _ HRg4.out)
    clear HO1 HO2 Hu Htv hv htqs hiv
    unfold verV at HIn
    simp only at HIn
    generalize inSB rg ⟨u1,u2,u3⟩=ib at *
    subst hmy
    go_wp2_with fail
    refine HIn.out.mono ?_
    rintro e w5 ⟨rfl,hb5⟩
    have HB5:=cH hb5
    clear hb5 HIn
    cases ib with
    | false=>
      have hN0:N=0:=by rw[HN.out,hvs];rfl
      go_wp2_with fail
      go_meet
      refine ⟨none,0,by rw[hN0],rfl,HB5.out,?_⟩
      rw[hvs,hN0]
      exact SlV.nil_ _ _ _
    | true=>
      have hN1:N=1:=by rw[HN.out,hvs];rfl
      obtain ⟨⟨k0,k1,k2⟩,_⟩:(w5.cell? ⟨VB,0,none⟩=some (.int .i64 u1)∧w5.cell? ⟨VB,1,none⟩=some (.int .i64 u2)∧w5.cell? ⟨VB,2,none⟩=some (.int .i64 u3))∧True:=⟨⟨zAA HB5.out t0 (zAf t0),zAA HB5.out t1 (zAf t1),zAA HB5.out t2 (zAf t2)⟩,trivial⟩
      clear t0 t1 t2 z0 z1 z2
      have hz5:=HB5.out.size
      go_wp2_with (at_builtin;refine zAM (by rfl) _ _ _ (by rfl) zEY Tryz.underlying205 (by rfl) ((Own.nil_ rVer w5 w5.heap.size 50 (S:=fun _=>False) (fun b h=>h.elim)).alloc _) ⟨w5.heap.size,0,none⟩ 1 [.int .i64 u1,.int .i64 u2,.int .i64 u3] ⟨u1,u2,u3⟩ (by rfl) ⟨rfl,Hiv.out.1,Hiv.out.2.1,Hiv.out.2.2⟩ (zAd w5 #[.int .i64 u1,.int .i64 u2,.int .i64 u3] _) (by decide) (by decide) (by simp) (w5.heap.size+1) (by simp) ?_)
      intro g9 cap9 w9 hown9 hgrow9 hat9 hlt9
      have HB9:Hid (Below w4.heap.size w4 w9):=bot HB5.out (zAw (bal (bR _ _) _) hgrow9 ((Own.nil_ rVer w5 w5.heap.size 50 (S:=fun _=>False) (fun b h=>h.elim)).alloc (.cells #[.int .i64 u1,.int .i64 u2,.int .i64 u3] 50)) (nR _))
      have HS9:Hid (SlV rVer w9 (fun b=>b≠sB) VS (.slice (some ⟨g9,0,none⟩) 1 cap9)):=by
       unfold Hid
       rw[hvs]
       exact hown9.slv.more fun b hb _=>by
        rcases hb with hb|hb
        ·exact hb.elim
        ·show b≠sB;omega
      clear hown9 hgrow9 hat9 hlt9 k0 k1 k2
      go_wp2_with fail
      go_meet
      exact ⟨some ⟨g9,0,none⟩,cap9,(by rw[hN1];try rfl),rfl,HB9.out,by rw[hN1];exact HS9.out⟩
  | false=>
    have htn:tq=none:=by cases tq with|none=>rfl|some v=>cases htqs
    obtain ⟨hvs,hmy⟩:=HO2.out htn
    clear HO1 HO2 Hu Htv htn htqs
    have hmb:(kd==2)=MY:=by rw[hmy,Bool.eq_iff_iff];simp
    obtain ⟨s0,_,_,_,_,_,s6,_,_,_,_,_⟩:=HWd4.out.cells
    rw[←Hsq.out] at s0 s6
    have HCa:Hid (∀ W,Below w4.heap.size w4 W→Calls Tryz.prog 146 #[.pointer (some ⟨C.cB,0,none⟩),.string nm,.slice rA rl rc,.slice none 0 0] W fun e w'=>(∃ B m,e=.returned (.slice B N m)∧SlV rVer w' (fun b=>b≠sB) VS (.slice B N m))∧Below W.heap.size W w'):=fun W hW=>by
     have h:=HWd4.out.keep Hne.out hW
     refine (zKE C.cB C.kA C.kn C.kc C.q.L nm rA rl rc rg W _ _ h.rd.cat h.rd.L (by have:=HOk.out.len;omega) (HRg4.out.belowSize hW)).mono ?_
     rintro e w' ⟨B,m,h1,h2,h3⟩
     rw[←hvs] at h1 h2
     rw[←HN.out] at h1 h2
     have hz:=hW.size
     exact ⟨⟨B,m,h1,h2.more fun b hb _=>by show b≠sB;omega⟩,h3⟩
    have Hc4:Hid (∀ W,Below w4.heap.size w4 W→W.cell? ⟨sB,0,none⟩=some (.pointer (some ⟨C.cB,0,none⟩))∧W.cell? ⟨sB,6,none⟩=some (.slice none 0 0)∧W.cell? ⟨WB,0,none⟩=some (.string nm)∧W.cell? ⟨WB,2,none⟩=some (.slice rA rl rc)):=fun W hW=>⟨zAA hW s0 hsB4,zAA hW s6 hsB4,zAA hW z0 (zAf z0),zAA hW z2 (zAf z2)⟩
    have HmB:=cH hmb
    clear hvs hmy hmb
    go_upto_region 11 with (fail)
    go_region_held3 (fun W=>W.cell? ⟨sB,0,none⟩=some (.pointer (some ⟨C.cB,0,none⟩))∧W.cell? ⟨sB,6,none⟩=some (.slice none 0 0)∧W.cell? ⟨WB,0,none⟩=some (.string nm)∧W.cell? ⟨WB,2,none⟩=some (.slice rA rl rc))
     (first
       | (with_reducible exact Hc4.out _ (bR _ _).drew)
       | (with_reducible exact Hc4.out _ hB5))
     (first
       | (go_at_call 146;with_reducible refine (HCa.out _ (bR _ _).drew).mono ?_;rintro e w5 ⟨⟨B2,k2,rfl,hsl⟩,hb5⟩;have hB5:Below w4.heap.size w4 w5:=bot (bR _ _).drew hb5))
    all_goals
     go_wp2_with fail
     go_meet
     exact ⟨B2,k2,rfl,by rw[HmB.out],hB5,hsl⟩
 case rest=>
 obtain ⟨VA,vm,rfl,rfl,HN5⟩:=hcut
 generalize wc=w5 at *
 have HB45:=cH HN5.out.1
 have HVS5:=cH HN5.out.2
 have HB5:=cH (bot HB4.out HB45.out)
 have HWd5:=cH (HWd4.out.keep Hne.out HB45.out)
 have HBu15:Hid (But sB w1 w5):=But.of (bot HB14.out HB45.out)
 have HBu05:Hid (But sB w w5):=But.of HB5.out
 have hNz:N≤128:=HVl.out
 clear HWd4 HRg4 hsB4 HO1 HO2 Hu Htv t0 t1 t2 z0 z1 z2 HN5 HB4 HB14 HB45 htqs Hcx Hrg
 have Hos:Hid (∀ i,i<N→∃ v,VS[i]?=some v∧((VS.map some++if MY=true then [none] else []).drop i=some v::(VS.map some++if MY=true then [none] else []).drop (i+1))):=fun i hi=>by
  have hi':i<VS.length:=by rw[←HN.out];exact hi
  refine ⟨VS[i],gE hi',?_⟩
  rw[dC (by rw[List.length_append,List.length_map];omega)]
  rw[List.getElem_append_left (by rw[List.length_map];exact hi'),List.getElem_map]
 have HosN:Hid (MY=true→(VS.map some++if MY=true then [none] else []).drop N=none::(VS.map some++if MY=true then [none] else []).drop (N+1)):=fun h=>by
  rw[HN.out,h,if_pos rfl]
  simp
 have HosE:Hid (MY=false→(VS.map some++if MY=true then [none] else []).drop N=[]):=fun h=>by
  rw[HN.out,h,if_neg (by decide)]
  simp
 have HosT:Hid ((VS.map some++if MY=true then [none] else []).drop (N+1)=[]):=by
  unfold Hid
  refine dN ?_
  rw[List.length_append,List.length_map,←HN.out]
  split<;>simp
 generalize (VS.map some++if MY=true then [none] else [])=os at *
 go_wp2_with fail
 go_loopw [18] (fun iv wr=>∃ i t1:Nat,i≤N+1∧iv=.int .i64 i∧(i=N+1→MY=true)∧Hid (t≤t1∧t1≤C.q.dec)∧Hid (R=tryGo C.q.dec (fun env' t'=>goS C.q f (.choose nodes at_ (l.drop (k+1)) env') t') env nm (os.drop i) t1)∧Hid (SW C wr (t1:Int) 0 (.slice none 0 0))∧Hid (But sB w5 wr)) (fun iv _=>N+1 - (intOf iv).toNat)
 case atStart=>exact ⟨0,t,nZ _,rfl,fun h=>by omega,⟨nR _,Hz.out.2.2⟩,HR1,HWd5,But.refl _ _⟩
 case round=>
  clear HR1 HWd5
  obtain ⟨i,t1,hi,rfl,hiM,Ht1,heq,HSr,hB⟩:=hrel
  have hi0:(0:Int)≤(i:Int):=by omega
  have HBuw:=cH (HBu05.out.trans hB.out)
  by_cases hle:i≤N
  case neg=>
   have hI:¬(i:Int)≤(N:Int):=by omega
   have hiN:i=N+1:=by omega
   have He:Hid (R=.no t1):=by unfold Hid;rw[heq.out,hiN,HosT.out,tryGo]
   clear heq hiM hiN
   go_wp2_with fail
   go_ret
   rw[He.out]
   exact ⟨by rw[←Hsq.out];exact HBuw.out,rfl,HSr.out,Ht1.out.2⟩
  have hleI:(i:Int)≤(N:Int):=by omega
  by_cases hend:i=N∧MY=false
  case pos=>
   obtain ⟨hiN,hMY⟩:=hend
   have hb1:((i:Int)==(N:Int))=true:=by simp;omega
   have He:Hid (R=.no t1):=by unfold Hid;rw[heq.out,hiN,HosE.out hMY,tryGo]
   subst hMY
   clear heq hiM hiN
   go_wp2_with fail
   go_ret
   rw[He.out]
   exact ⟨by rw[←Hsq.out];exact HBuw.out,rfl,HSr.out,Ht1.out.2⟩
  have Hcase:Hid ((i<N∧∃ v,VS[i]?=some v∧os.drop i=some v::os.drop (i+1))∨(i=N∧os.drop i=none::os.drop (i+1))):=by
   by_cases hiN:i=N
   ·have hM:MY=true:=by
     cases MY with
     | true=>rfl
     | false=>exact absurd ⟨hiN,rfl⟩ hend
    exact Or.inr ⟨hiN,by rw[hiN];exact HosN.out hM⟩
   ·exact Or.inl ⟨by omega,Hos.out i (by omega)⟩
  go_upto_region 15 with (fail)
  go_cut [83] from 76 to 82 (fun v83 wx=>v83=.bool false∧Hid (wx=wr))
  case first=>
   by_cases hiN:i=N
   ·have hb1:((i:Int)==(N:Int))=true:=by simp;omega
    have hM:MY=true:=by
     cases MY with
     | true=>rfl
     | false=>exact absurd ⟨hiN,rfl⟩ hend
    subst hM
    clear hend hiN
    go_wp2_with fail
    go_meet
    exact ⟨rfl,rfl⟩
   ·have hb1:((i:Int)==(N:Int))=false:=by simp;omega
    clear hend hiN
    go_wp2_with fail
    go_meet
    exact ⟨rfl,rfl⟩
  case rest=>
  obtain ⟨rfl,hwc⟩:=hcut
  have hwc2:=hwc.out
  subst hwc2
  have HMN:Hid (i=N→MY=true):=fun hiN=>by
   cases MY with
   | true=>rfl
   | false=>exact absurd ⟨hiN,rfl⟩ hend
  obtain ⟨oo,hoo,hO⟩:∃ oo,os.drop i=oo::os.drop (i+1)∧((i<N∧∃ v,VS[i]?=some v∧oo=some v)∨(i=N∧oo=none)):=by
   rcases Hcase.out with ⟨h1,v,h2,h⟩|⟨h1,h⟩
   ·exact ⟨_,h,Or.inl ⟨h1,v,h2,rfl⟩⟩
   ·exact ⟨_,h,Or.inr ⟨h1,rfl⟩⟩
  have HO:=cH hO
  have HKd:Hid (t1=C.q.dec→R=.bad 31 t1):=fun h=>by rw[heq.out,hoo,tryGo,if_pos h]
  have HKn:Hid (t1≠C.q.dec→∀ t',goS C.q f (.choose nodes at_ (l.drop (k+1)) (withO env nm oo)) (t1+1)=.no t'→R=tryGo C.q.dec (fun env' t'=>goS C.q f (.choose nodes at_ (l.drop (k+1)) env') t') env nm (os.drop (i+1)) t'):=fun h t' ht=>by
   rw[heq.out,hoo,tryGo,if_neg h]
   simp only[ht]
  have HKb:Hid (t1≠C.q.dec→∀ c t',goS C.q f (.choose nodes at_ (l.drop (k+1)) (withO env nm oo)) (t1+1)=.bad c t'→R=.bad c t'):=fun h c t' ht=>by
   rw[heq.out,hoo,tryGo,if_neg h]
   simp only[ht]
  have HKo:Hid (t1≠C.q.dec→∀ t' ns,goS C.q f (.choose nodes at_ (l.drop (k+1)) (withO env nm oo)) (t1+1)=.ok t' ns→R=.ok t' ns):=fun h t' ns ht=>by
   rw[heq.out,hoo,tryGo,if_neg h]
   simp only[ht]
  clear hO hoo Hcase
  obtain ⟨_,_,_,_,_,_,_,s7,_,s11,s12,_⟩:=HSr.out.cells
  rw[←Hsq.out] at s7 s11 s12
  have hsBr:sB<wc.heap.size:=zAf s7
  clear heq
  by_cases htd:t1=C.q.dec
  case pos=>
   have hbq:((t1:Int)==(C.q.dec:Int))=true:=by simp[htd]
   have He:=cH (HKd.out htd)
   clear HKd HKn HKb HKo htd HO
   go_upto_region 17 with (fail)
   have r_s7:=cR s7
   have r_s11:=cR s11
   go_wp2_with fail
   refine wQ ?_
   repeat (go_big_quiet_step (first|fail))
   refine wpQuiet_nil fun w6 B6=>?_
   have HB6:=cH B6
   have HW6:=cH (HSr.out.keep Hne.out B6)
   clear r_s7 r_s11 s7 s11 s12 B6 hbq
   obtain ⟨_,_,_,_,_,_,_,_,_,_,s12,_⟩:=HW6.out.cells
   have f12:=HW6.out.frz 12
   rw[←Hsq.out] at s12 f12
   go_wp2_with fail
   go_ret
   have hf:=SW.fail_ Hne.out HW6.out 31
   rw[←Hsq.out] at hf
   rw[He.out]
   exact ⟨by rw[←Hsq.out];exact (HBuw.out.then HB6.out).trans hf.2,by decide,by unfold I64;decide,rfl,_,hf.1⟩
  have hbq:((t1:Int)==(C.q.dec:Int))=false:=by simp;omega
  have HKn2:=cH (HKn.out htd)
  have HKb2:=cH (HKb.out htd)
  have HKo2:=cH (HKo.out htd)
  have Htd:Hid (t1+1≤C.q.dec):=by have:=Ht1.out.2;unfold Hid;omega
  have ht1z:t1≤4096:=by have:=Ht1.out.2;have:=HOk.out.dec;omega
  clear HKd HKn HKb HKo htd
  go_upto_region 17 with (fail)
  have r_s7:=cR s7
  have r_s11:=cR s11
  go_wp2_with fail
  refine wQ ?_
  repeat (go_big_quiet_step (first|fail))
  refine wpQuiet_nil fun w6 B6=>?_
  have HB6:=cH B6
  have HW6:=cH (HSr.out.keep Hne.out B6)
  clear r_s7 r_s11 s7 s11 s12 B6
  obtain ⟨_,_,_,_,_,_,_,_,_,s11,_,_⟩:=HW6.out.cells
  have f11:=HW6.out.frz 11
  rw[←Hsq.out] at s11 f11
  have hwt:IntKind.i64.wrap ((t1:Int)+1)=(t1:Int)+1:=IntWalk.i64_in _ ⟨by omega,by omega⟩
  go_upto_region 21 with (fail)
  obtain ⟨h7,hb7⟩:=SW.tick Hne.out HW6.out ((t1:Int)+1)
  rw[←Hsq.out] at h7 hb7
  have HBu67:=cH (HBuw.out.trans ((But.of HB6.out).trans hb7))
  have HBu57:=cH (hB.out.trans ((But.of HB6.out).trans hb7))
  generalize w6.setCell ⟨sB,11,none⟩ (.int .i64 ((t1:Int)+1))=w7 at *
  have HW7:Hid (SW C w7 ((t1+1:Nat):Int) 0 (.slice none 0 0)):=h7
  have HVS7:Hid (SlV rVer w7 (fun b=>b≠sB) VS (.slice VA N vm)):=HBu57.out.slv HVS5.out (fun _ h=>h)
  have HEN7:Hid (SlV rPin w7 (fun b=>b≠sB) env (.slice D en ec)):=HBu67.out.slv (by rw[Hsq.out];exact HEN.out) (fun _ h=>h)
  obtain ⟨z0,z1,z2⟩:=HWr.out w7 (HBu15.out.trans HBu57.out)
  have hsB7:sB<w7.heap.size:=by have:=HBu67.out.size;omega
  clear h7 hb7 s11 f11 HB6 HW6 hsBr
  have hvers:Hid (∀ v,VS[i]?=some v→∃ (gb go:Nat),VA=some ⟨gb,go,none⟩∧∀ W,Below w7.heap.size w7 W→(W.cell? ⟨gb,go+i * 3,none⟩=some (.int .i64 v.major)∧W.cell? ⟨gb,go+i * 3+1,none⟩=some (.int .i64 v.minor)∧W.cell? ⟨gb,go+i * 3+2,none⟩=some (.int .i64 v.patch))∧(I64 v.major∧I64 v.minor∧I64 v.patch)):=fun v hv=>by
   obtain ⟨gb,go,cs,hA,_,hgb,⟨rfl,i1,i2,i3⟩,hcell⟩:=HVS7.out.elem hv
   exact ⟨gb,go,hA,fun W hW=>⟨⟨zAA hW (hcell 0 _ rfl) hgb,zAA hW (hcell 1 _ rfl) hgb,zAA hW (hcell 2 _ rfl) hgb⟩,i1,i2,i3⟩⟩
  have henv:Hid (env.length=en):=HEN7.out.n_eq.symm
  have henz:env.length≤4096:=by have h1:=Hez.out;have h2:=Ht1.out.1;omega
  go_upto_if 108 with fail
  go_cut [19] from 105 to 117 (fun v19 wx=>∃ (EA:Option Addr) (em:Nat),v19=.slice EA (withO env nm oo).length em∧Hid (Below w7.heap.size w7 wx∧SlV rPin wx (fun b=>b≠sB) (withO env nm oo) (.slice EA (withO env nm oo).length em)))
  case first=>
   rcases HO.out with ⟨hiN,v,hv,hov⟩|⟨hiN,hov⟩
   ·subst hov
    obtain ⟨gb,go,hVA,hvc⟩:=hvers.out v hv
    have Hvc:=cH hvc
    obtain ⟨⟨k0,k1,k2⟩,hvi⟩:=hvc w7 (bR _ _)
    have hiI:(i:Int)<(N:Int):=by omega
    have hiD:decide ((i:Int)<(N:Int))=true:=decide_eq_true hiI
    have Hvi:=cH hvi
    obtain ⟨v1,v2,v3⟩:=v
    simp only at k0 k1 k2 Hvi Hvc
    have HWi:Hid (∀ W,Below w7.heap.size w7 W→Calls Tryz.prog 147 #[.slice D en ec,.agg #[.string nm,.int .i64 v1,.int .i64 v2,.int .i64 v3]] W fun e w'=>(∃ EA em,e=.returned (.slice EA (withO env nm (some ⟨v1,v2,v3⟩)).length em)∧SlV rPin w' (fun b=>b≠sB) (withO env nm (some ⟨v1,v2,v3⟩)) (.slice EA (withO env nm (some ⟨v1,v2,v3⟩)).length em))∧Below W.heap.size W w'):=fun W hW=>by
     refine (zL3 D en ec env ⟨nm,v1,v2,v3⟩ W _ (HEN7.out.belowSize hW) (by omega) ⟨Hxn.out,Hvi.out.1,Hvi.out.2.1,Hvi.out.2.2⟩).mono ?_
     rintro e w' ⟨EA,em,h1,h2,h3⟩
     have hz:=hW.size
     exact ⟨⟨EA,em,h1,zHu h2 (fun _ h=>h) (by omega)⟩,h3⟩
    have Hcc:Hid (∀ W,Below w7.heap.size w7 W→W.cell? ⟨WB,0,none⟩=some (.string nm)∧W.cell? ⟨gb,go+i * 3,none⟩=some (.int .i64 v1)∧W.cell? ⟨gb,go+i * 3+1,none⟩=some (.int .i64 v2)∧W.cell? ⟨gb,go+i * 3+2,none⟩=some (.int .i64 v3)):=fun W hW=>⟨zAA hW z0 (zAf z0),(Hvc.out W hW).1⟩
    have HVA:=cH hVA
    clear hiN hv hvc hvi
    subst hVA
    obtain ⟨m2,hm2⟩:∃ m2,m2=(withO env nm (some ⟨v1,v2,v3⟩)).length:=⟨_,rfl⟩
    rw[←hm2] at HWi
    have Hm2:=cH hm2
    clear hm2
    go_upto_region 23 with (fail)
    go_region_held3 (fun W=>W.cell? ⟨WB,0,none⟩=some (.string nm)∧W.cell? ⟨gb,go+i * 3,none⟩=some (.int .i64 v1)∧W.cell? ⟨gb,go+i * 3+1,none⟩=some (.int .i64 v2)∧W.cell? ⟨gb,go+i * 3+2,none⟩=some (.int .i64 v3))
     (first
       | (with_reducible exact Hcc.out _ (bR _ _).drew)
       | (with_reducible exact Hcc.out _ hB8))
     (first
       | (go_at_call 147;with_reducible refine (HWi.out _ (bR _ _).drew).mono ?_;rintro e w8 ⟨⟨EA,em,rfl,hsl⟩,hb8⟩;have hB8:Below w7.heap.size w7 w8:=bot (bR _ _).drew hb8))
    all_goals
     go_wp2_with fail
     go_meet
     exact ⟨EA,em,by rw[Hm2.out],hB8,by rw[←Hm2.out];exact hsl⟩
   ·subst hov
    have hiI:¬(i:Int)<(N:Int):=by omega
    have hiD:decide ((i:Int)<(N:Int))=false:=decide_eq_false hiI
    have hw0':withO env nm none=env:=rfl
    clear hiN
    go_wp2_with fail
    go_meet
    exact ⟨D,ec,by rw[hw0',henv.out],bR _ _,by rw[hw0',henv.out];exact HEN7.out⟩
  case rest=>
  obtain ⟨EA,em,rfl,HN8⟩:=hcut
  generalize wc=w8 at *
  have HB8:=cH HN8.out.1
  have HEx:=cH HN8.out.2
  have HW8:=cH (HW7.out.keep Hne.out HB8.out)
  have HBu68:=cH (HBu67.out.then HB8.out)
  have HBu58:=cH (HBu57.out.then HB8.out)
  clear z0 z1 z2 HN8 hvers HVS7 HEN7
  have hnext:Hid ((withO env nm oo).length≤t1+1):=by
   have h1:=Hez.out
   have h2:=Ht1.out.1
   unfold Hid
   cases oo with
   | none=>show env.length≤t1+1;omega
   | some v=>
     have h3:=zMJ env ⟨nm,v⟩
     show (withP env ⟨nm,v⟩).length≤t1+1
     omega
  have HCh:Hid (Calls Tryz.prog 111 #[.pointer (some ⟨sB,0,none⟩),.slice (some ⟨b,o,none⟩) n c,.int .i64 (at_:Int),.slice (some ⟨lb,lo,none⟩) ln lc,.int .i64 ((k:Int)+1),.slice EA (withO env nm oo).length em] w8 fun e w'=>∃ bb:Bool,e=.returned (.bool bb)∧SPost C w8 (goS C.q f (.choose nodes at_ (l.drop (k+1)) (withO env nm oo)) (t1+1)) (.returned (.bool bb)) w'):=by
   unfold Hid
   rw[Hsq.out]
   have hbu:But C.sB w w8:=by rw[←Hsq.out];exact HBu68.out
   refine (HIc.out nodes at_ (t1+1) l (k+1) (withO env nm oo) _ n c _ ln lc EA _ em w8 HW8.out (hbu.slv HND.out (fun _ h=>h)) (hbu.slv HLW.out (fun _ h=>h)) (by rw[←Hsq.out];exact HEx.out) ⟨Hz.out.1,fun x hx=>nT (Hz.out.2.1 x hx) (by have:=Ht1.out.1;omega),Htd.out⟩ (by have:=Hnl.out;omega) (by have:=Hll.out;omega) hlz hnext.out (by have h1:=Hf.out;have h2:=Ht1.out.1;have h3:=Htd.out;unfold leftK at h1 ⊢;simp only at h1 ⊢;omega)).mono ?_
   intro e w' h
   obtain ⟨bb,rfl⟩:=h.ret
   exact ⟨bb,rfl,h⟩
  have hwk:IntKind.i64.wrap ((k:Int)+1)=(k:Int)+1:=IntWalk.i64_in _ ⟨by omega,by omega⟩
  have HMono:Hid (∀ t',goS C.q f (.choose nodes at_ (l.drop (k+1)) (withO env nm oo)) (t1+1)=.no t'→t1+1≤t'):=fun t' h=>zLm h
  generalize goS C.q f (.choose nodes at_ (l.drop (k+1)) (withO env nm oo)) (t1+1)=G at *
  obtain ⟨m2,hm2⟩:∃ m2,m2=(withO env nm oo).length:=⟨_,rfl⟩
  rw[←hm2] at HCh ⊢
  clear hm2 hnext HO HEx
  go_wp2_with fail
  refine HCh.out.mono ?_
  rintro e w9 ⟨bb,rfl,hsp⟩
  have HSp:=cH hsp
  clear hsp HCh
  have HBu9:Hid (But C.sB w w9):=by unfold Hid;rw[←Hsq.out];exact HBu68.out.trans (by rw[Hsq.out];exact HSp.out.1)
  have HBu59:Hid (But sB w5 w9):=HBu58.out.trans (by rw[Hsq.out];exact HSp.out.1)
  cases hG:G with
  | bad cc tt=>
    have hA:=HSp.out.2
    rw[hG] at hA
    obtain ⟨hc0,hci,hret,hsw⟩:=hA
    have hbb:bb=true:=by cases hret;rfl
    have He:=cH (HKb2.out cc tt hG)
    have Hfin:Hid (SPost C w R (.returned (.bool true)) w9):=by
     unfold Hid
     rw[He.out]
     exact ⟨HBu9.out,hc0,hci,rfl,hsw⟩
    subst hbb
    clear hret hc0 hci hsw HKn2 HKb2 HKo2 HMono HSp
    clear hG
    go_wp2_with fail
    go_ret
    exact Hfin.out
  | ok tt ns=>
    have hA:=HSp.out.2
    rw[hG] at hA
    obtain ⟨hret,htt,hsw⟩:=hA
    have hbb:bb=true:=by cases hret;rfl
    have He:=cH (HKo2.out tt ns hG)
    have Hfin:Hid (SPost C w R (.returned (.bool true)) w9):=by
     unfold Hid
     rw[He.out]
     exact ⟨HBu9.out,rfl,htt,hsw⟩
    subst hbb
    clear hret htt hsw HKn2 HKb2 HKo2 HMono HSp
    clear hG
    go_wp2_with fail
    go_ret
    exact Hfin.out
  | no tt=>
    have hA:=HSp.out.2
    rw[hG] at hA
    obtain ⟨hret,hsw,htt⟩:=hA
    have hbb:bb=false:=by cases hret;rfl
    have He:=cH (HKn2.out tt hG)
    have Hm:=cH (HMono.out tt hG)
    have HSw:=cH hsw
    have Htt:=cH htt
    have HiM:Hid (i+1=N+1→MY=true):=fun h=>HMN.out (by omega)
    subst hbb
    clear hret htt hsw HKn2 HKb2 HKo2 HMono HSp hG
    go_wp2_with fail
    go_roundw
    case rel=>exact ⟨i+1,tt,by omega,by go_num,HiM.out,⟨by have:=Ht1.out.1;have:=Hm.out;omega,Htt.out⟩,He,HSw,HBu59⟩
    case measure=>simp[intOf];omega
end Go.Proofs.YtminjjdnmpaaoaaGreatDoor
namespace Go.Proofs.YtminjjdnmpaaoaaGreatDoor
open Go
theorem zGu {L:List Pack} {s:ByteArray} {v:Ver} {x:Pack} (h:getC L s v=some x):x∈L∧x.name=s∧x.ver=v:=by
 unfold getC at h
 have h1:=List.mem_of_find?_eq_some h
 have h2:=List.find?_some h
 unfold isC at h2
 rw[Bool.and_eq_true,decide_eq_true_eq] at h2
 exact ⟨h1,h2.1,zCC.1 h2.2⟩
structure NGood (q:SIn) (n:Node):Prop where
 nm:∃ x,getC q.L n.name n.ver=some x
 srt:SrtP n.ctx
 pins:∀ p∈n.ctx,∃ x,getC q.L p.name p.ver=some x
structure EGood (q:SIn) (nodes:List Node) (n:Node):Prop where
 srt:n.edges.Pairwise fun a b=>lessB a.label b.label=true
 tgt:∀ e∈n.edges,∃ (j:Nat) (y:Node),e.to=(j:Int)∧1≤j∧nodes[j]?=some y∧y.name=e.label
 pin:∀ p∈n.ctx,∃ e∈n.edges,e.label=p.name∧∃ (j:Nat) (y:Node),e.to=(j:Int)∧nodes[j]?=some y∧y.ver=p.ver
structure SInv (q:SIn) (nodes:List Node) (at_:Nat):Prop where
 root:∃ es,nodes[0]?=some { rootN with edges:=es}
 len:nodes.length≤q.lim
 node:∀ (j:Nat) (n:Node),1≤j→nodes[j]?=some n→NGood q n
 done:∀ (i:Nat) (n:Node),i<at_→nodes[i]?=some n→EGood q nodes n
 reach:∀ j,1≤j→j<nodes.length→∃ (k:Nat) (x:Node) (e:Edge),k<j∧k<at_∧nodes[k]?=some x∧e∈x.edges∧e.to=(j:Int)
 rest:∀ (i:Nat) (n:Node),at_≤i→nodes[i]?=some n→n.edges=[]
theorem zLe {dec:Nat} {k:List Pin→Nat→SOut} {env:List Pin} {s:ByteArray} {t':Nat} {ns:List Node}:∀ {os:List (Option Ver)} {t:Nat},tryGo dec k env s os t=.ok t' ns→∃ o∈os,∃ t1,k (withO env s o) t1=.ok t' ns:=by
 intro os
 induction os with
 | nil=>intro t h;unfold tryGo at h;cases h
 | cons o os ih=>
   intro t h
   unfold tryGo at h
   split at h
   ·cases h
   ·split at h
    ·rename_i t1 hk
     obtain ⟨o',ho,h'⟩:=ih h
     exact ⟨o',by simp[ho],h'⟩
    ·exact ⟨o,by simp,t+1,h⟩
theorem zFL {q:SIn} {env:List Pin}:∀ {l:List Pin} {cs:List (List Pin)},ctxsP q.L q.m env l=some cs→cs.length=l.length∧(∀ p∈l,∃ x,getC q.L p.name p.ver=some x)∧∀ c∈cs,SrtP c∧c.length≤env.length∧∀ x∈c,x∈env:=by
 intro l
 induction l with
 | nil=>intro cs h;unfold ctxsP at h;cases h;exact ⟨rfl,(fun p hp=>by cases hp),(fun c hc=>by cases hc)⟩
 | cons p l ih=>
   intro cs h
   unfold ctxsP at h
   split at h
   ·cases h
   ·rename_i x hx
    split at h
    ·cases h
    ·rename_i xs hxs
     cases h
     obtain ⟨h1,h2,h3⟩:=ih hxs
     refine ⟨by simp[h1],fun p' hp'=>?_,fun c hc=>?_⟩
     ·rcases List.mem_cons.1 hp' with rfl|hp'
      ·cases hg:getC q.L p'.name p'.ver with
       | some y=>exact ⟨y,rfl⟩
       | none=>unfold ctxP ctxGo at hx;rw[hg] at hx;cases hx
      ·exact h2 p' hp'
     ·rcases List.mem_cons.1 hc with rfl|hc
      ·exact zLV hx
      ·exact h3 c hc
theorem zMs {p:Pin} {c:List Pin} {n:Node}:isN p c n=true↔n.name=p.name∧n.ver=p.ver∧n.ctx=c:=by
 unfold isN
 rw[Bool.and_eq_true,Bool.and_eq_true,decide_eq_true_eq,zCC,zCC]
theorem zJm {p:Pin} {c:List Pin}:∀ {l:List Node},zAz p c l≤l.length∧(zAz p c l<l.length→∃ y,l[zAz p c l]?=some y∧y.name=p.name∧y.ver=p.ver∧y.ctx=c):=by
 intro l
 induction l with
 | nil=>exact ⟨nR _,fun h=>by simp[zAz] at h⟩
 | cons n l ih=>
   unfold zAz
   split
   ·rename_i h
    exact ⟨nZ _,fun _=>⟨n,rfl,zMs.1 h⟩⟩
   ·refine ⟨by rw[List.length_cons];have:=ih.1;omega,fun h=>?_⟩
    rw[List.getElem?_cons_succ]
    exact ih.2 (by rw[List.length_cons] at h;omega)
theorem zG4 {p:Pin} {c:List Pin} {l:List Node} (hl:1≤l.length):1≤placeN l p c∧placeN l p c≤l.length∧(placeN l p c<l.length→∃ y,l[placeN l p c]?=some y∧y.name=p.name∧y.ver=p.ver∧y.ctx=c):=by
 cases l with
 | nil=>simp at hl
 | cons n l=>
   have e:placeN (n::l) p c=zAz p c l+1:=rfl
   rw[e]
   obtain ⟨h1,h2⟩:=zJm (p:=p) (c:=c) (l:=l)
   refine ⟨by omega,by rw[List.length_cons];omega,fun h=>?_⟩
   rw[List.getElem?_cons_succ]
   exact h2 (by rw[List.length_cons] at h;omega)
theorem zF3 {lim:Nat}:∀ {env:List Pin} {cs:List (List Pin)} {out:List Node} {es:List Edge} {out':List Node} {es':List Edge},zBG lim env cs out es=some (out',es')→cs.length=env.length→1≤out.length→out.length≤lim →
  ∃ (new:List Node) (esn:List Edge),out'=out++new∧es'=es++esn∧esn.map (·.label)=env.map (·.name)∧out'.length≤lim∧(∀ n∈new,n.edges=[]∧(∃ p∈env,n.name=p.name∧n.ver=p.ver)∧n.ctx∈cs) ∧
    (∀ (i:Nat) (p:Pin),env[i]?=some p→∃ (e:Edge) (j:Nat) (y:Node),esn[i]?=some e∧e.label=p.name∧e.to=(j:Int)∧1≤j∧out'[j]?=some y∧y.name=p.name∧y.ver=p.ver∧cs[i]?=some y.ctx) ∧
    (∀ j,out.length≤j→j<out'.length→∃ e∈esn,e.to=(j:Int)):=by
 intro env
 induction env with
 | nil=>
   intro cs out es out' es' h _ h1 h2
   cases cs<;>(unfold zBG at h;cases h;exact ⟨[],[],by simp,by simp,rfl,h2,by simp,by simp,fun j a b=>by omega⟩)
 | cons p l ih=>
   intro cs out es out' es' h hl h1 h2
   cases cs with
   | nil=>simp at hl
   | cons c cs=>
     obtain ⟨q1,q2,q3⟩:=zG4 (p:=p) (c:=c) h1
     unfold zBG at h
     split at h
     ·rename_i hp
      split at h
      ·cases h
      ·rename_i hlim
       obtain ⟨new,esn,e1,e2,e3,e4,e5,e6,e7⟩:=ih h (by simpa using hl) (by simp) (by rw[List.length_append];simp only[List.length_cons,List.length_nil];omega)
       have hat:out'[out.length]?=some ⟨p.name,p.ver,c,[]⟩:=by rw[e1];simp
       refine ⟨⟨p.name,p.ver,c,[]⟩::new,⟨p.name,(out.length:Int)⟩::esn,by rw[e1];simp,by rw[e2];simp,by simp[e3],e4,fun n hn=>?_,fun i p' hp'=>?_,fun j a b=>?_⟩
       ·rcases List.mem_cons.1 hn with rfl|hn
        ·exact ⟨rfl,⟨p,by simp,rfl,rfl⟩,by simp⟩
        ·obtain ⟨a1,⟨p',a2,a3⟩,a4⟩:=e5 n hn
         exact ⟨a1,⟨p',by simp[a2],a3⟩,by simp[a4]⟩
       ·cases i with
        | zero=>cases hp';exact ⟨_,out.length,_,rfl,rfl,rfl,h1,hat,rfl,rfl,rfl⟩
        | succ i=>exact e6 i p' hp'
       ·by_cases hj:j=out.length
        ·exact ⟨⟨p.name,(out.length:Int)⟩,by simp,by rw[hj]⟩
        ·obtain ⟨e,he,hee⟩:=e7 j (by rw[List.length_append];simp only[List.length_cons,List.length_nil];omega) b
         exact ⟨e,by simp[he],hee⟩
     ·rename_i hp
      obtain ⟨new,esn,e1,e2,e3,e4,e5,e6,e7⟩:=ih h (by simpa using hl) h1 h2
      obtain ⟨y,y1,y2,y3,y4⟩:=q3 (by omega)
      refine ⟨new,⟨p.name,(placeN out p c:Int)⟩::esn,e1,by rw[e2];simp,by simp[e3],e4,fun n hn=>?_,fun i p' hp'=>?_,fun j a b=>?_⟩
      ·obtain ⟨a1,⟨p',a2,a3⟩,a4⟩:=e5 n hn
       exact ⟨a1,⟨p',by simp[a2],a3⟩,by simp[a4]⟩
      ·cases i with
       | zero=>
         cases hp'
         exact ⟨_,placeN out p c,y,rfl,rfl,rfl,q1,by rw[e1,List.getElem?_append_left (gS.1 y1).1];exact y1,y2,y3,by rw[y4];rfl⟩
       | succ i=>exact e6 i p' hp'
      ·obtain ⟨e,he,hee⟩:=e7 j a b
       exact ⟨e,by simp[he],hee⟩
theorem zCU (ns:List Node) (i:Nat) (es:List Edge) (j:Nat):(zBD ns i es)[j]?=if j=i then (ns[j]?).map (fun n=>{ n with edges:=es}) else ns[j]?:=by
 unfold zBD
 rw[List.getElem?_modify]
 by_cases h:j=i
 ·subst h;simp
 ·have h':¬i=j:=fun e=>h e.symm
  simp[h,h']
theorem zER (ns:List Node) (i:Nat) (es:List Edge):(zBD ns i es).length=ns.length:=by unfold zBD;exact List.length_modify _ _ _
theorem zDm {ns:List Node} {i:Nat} {es:List Edge} {j:Nat} {y:Node} (h:ns[j]?=some y):∃ y',(zBD ns i es)[j]?=some y'∧y'.name=y.name∧y'.ver=y.ver∧y'.ctx=y.ctx:=by
 rw[zCU]
 by_cases hj:j=i
 ·rw[if_pos hj,h];exact ⟨_,rfl,rfl,rfl,rfl⟩
 ·rw[if_neg hj];exact ⟨y,h,rfl,rfl,rfl⟩
theorem zLl {q:SIn} {nodes:List Node} {at_:Nat} {env:List Pin} {cs:List (List Pin)} {out:List Node} {es:List Edge} (h:SInv q nodes at_) {n:Node} (hat:nodes[at_]?=some n) (hs:SrtP env) (hc:∀ p∈n.ctx,p∈env)
  (hcs:ctxsP q.L q.m env env=some cs) (hb:zBG q.lim env cs nodes []=some (out,es)):SInv q (zBD out at_ es) (at_+1):=by
 have hpos:1≤nodes.length:=by have:=(gS.1 hat).1;omega
 have hal:=(gS.1 hat).1
 obtain ⟨c1,c2,c3⟩:=zFL hcs
 obtain ⟨new,esn,rfl,e2,e3,e4,e5,e6,e7⟩:=zF3 hb c1 hpos h.len
 rw[List.nil_append] at e2
 subst e2
 have hold:∀ (j:Nat) (x:Node),nodes[j]?=some x→(nodes++new)[j]?=some x:=fun j x hx=>by rw[List.getElem?_append_left (gS.1 hx).1];exact hx
 have hedge:∀ e∈es,∃ (p:Pin) (j:Nat) (y:Node),p∈env∧e.label=p.name∧e.to=(j:Int)∧1≤j∧(nodes++new)[j]?=some y∧y.name=p.name∧y.ver=p.ver:=fun e he=>by
  obtain ⟨i,hi,hie⟩:=List.mem_iff_getElem.1 he
  have hlen:es.length=env.length:=by have:=congrArg List.length e3;simpa using this
  obtain ⟨e',j,y,f1,f2,f3,f4,f5,f6,f7,_⟩:=e6 i env[i] (gE (by omega))
  rw[gE hi,hie] at f1
  cases f1
  exact ⟨_,j,y,List.getElem_mem _,f2,f3,f4,f5,f6,f7⟩
 refine ⟨?_,by rw[zER];exact e4,fun j m hj hm=>?_,fun i m hi hm=>?_,fun j hj hl=>?_,fun i m hi hm=>?_⟩
 ·obtain ⟨es0,hr⟩:=h.root
  rw[zCU]
  by_cases h0:0=at_
  ·rw[if_pos h0,hold 0 _ hr];exact ⟨es,rfl⟩
  ·rw[if_neg h0,hold 0 _ hr];exact ⟨es0,rfl⟩
 ·
  have key:∃ m0,(nodes++new)[j]?=some m0∧m.name=m0.name∧m.ver=m0.ver∧m.ctx=m0.ctx:=by
   rw[zCU] at hm
   split at hm
   ·cases hx:(nodes++new)[j]? with
    | none=>rw[hx] at hm;cases hm
    | some x=>rw[hx] at hm;cases hm;exact ⟨x,rfl,rfl,rfl,rfl⟩
   ·exact ⟨m,hm,rfl,rfl,rfl⟩
  obtain ⟨m0,g0,g1,g2,g3⟩:=key
  have hg:NGood q m0:=by
   by_cases hjl:j<nodes.length
   ·rw[List.getElem?_append_left hjl] at g0
    exact h.node j m0 hj g0
   ·rw[List.getElem?_append_right (by omega)] at g0
    obtain ⟨_,⟨p,hp,p1,p2⟩,hcm⟩:=e5 m0 (mG g0)
    obtain ⟨s1,_,s3⟩:=c3 _ hcm
    exact ⟨by rw[p1,p2];exact c2 p hp,s1,fun x hx=>c2 x (s3 x hx)⟩
  exact ⟨by rw[g1,g2];exact hg.nm,by rw[g3];exact hg.srt,by rw[g3];exact hg.pins⟩
 ·
  by_cases hi0:i=at_
  ·subst hi0
   rw[zCU,if_pos rfl,hold i n hat] at hm
   cases hm
   refine ⟨?_,fun e he=>?_,fun p hp=>?_⟩
   ·have hm:(es.map (·.label)).Pairwise fun a b=>lessB a b=true:=by rw[e3,List.pairwise_map];exact hs
    exact List.pairwise_map.1 hm
   ·obtain ⟨p,j,y,_,f2,f3,f4,f5,f6,_⟩:=hedge e he
    obtain ⟨y',g1,g2,_⟩:=zDm (i:=i) (es:=es) f5
    exact ⟨j,y',f3,f4,g1,by rw[g2,f6,f2]⟩
   ·obtain ⟨k,hk,hke⟩:=List.mem_iff_getElem.1 (hc p hp)
    obtain ⟨e,j,y,f1,f2,f3,f4,f5,f6,f7,_⟩:=e6 k p (by rw[gE hk,hke])
    obtain ⟨y',g1,g2,g3,_⟩:=zDm (i:=i) (es:=es) f5
    exact ⟨e,mG f1,f2,j,y',f3,g1,by rw[g3,f7]⟩
  ·have hm0:=hm
   rw[zCU,if_neg hi0,List.getElem?_append_left (by omega)] at hm0
   have hd:=h.done i m (by omega) hm0
   refine ⟨hd.srt,fun e he=>?_,fun p hp=>?_⟩
   ·obtain ⟨j,y,f1,f2,f3,f4⟩:=hd.tgt e he
    obtain ⟨y',g1,g2,_⟩:=zDm (i:=at_) (es:=es) (hold j y f3)
    exact ⟨j,y',f1,f2,g1,by rw[g2,f4]⟩
   ·obtain ⟨e,he,f0,j,y,f1,f2,f3⟩:=hd.pin p hp
    obtain ⟨y',g1,g2,g3,_⟩:=zDm (i:=at_) (es:=es) (hold j y f2)
    exact ⟨e,he,f0,j,y',f1,g1,by rw[g3,f3]⟩
 ·
  rw[zER] at hl
  by_cases hjl:j<nodes.length
  ·obtain ⟨k,x,e,r1,r2,r3,r4,r5⟩:=h.reach j hj hjl
   refine ⟨k,x,e,r1,by omega,?_,r4,r5⟩
   rw[zCU,if_neg (by omega),hold k x r3]
  ·obtain ⟨e,he,hee⟩:=e7 j (by omega) hl
   refine ⟨at_,{ n with edges:=es},e,by omega,by omega,?_,he,hee⟩
   rw[zCU,if_pos rfl,hold at_ n hat];rfl
 ·rw[zCU,if_neg (by omega)] at hm
  by_cases hil:i<nodes.length
  ·rw[List.getElem?_append_left hil] at hm
   exact h.rest i m (by omega) hm
  ·rw[List.getElem?_append_right (by omega)] at hm
   exact (e5 m (mG hm)).1
def TOk (q:SIn):Task→Prop
 | .settle nodes at_=>SInv q nodes at_∧at_≤nodes.length
 | .choose nodes at_ _ env=>SInv q nodes at_∧∃ n,nodes[at_]?=some n∧SrtP env∧∀ p∈n.ctx,p∈env
 | .bind nodes at_ env=>SInv q nodes at_∧∃ n,nodes[at_]?=some n∧SrtP env∧∀ p∈n.ctx,p∈env
theorem zMZ {q:SIn} {t':Nat} {ns:List Node}:∀ {f:Nat} {k:Task} {t:Nat},goS q f k t=.ok t' ns→TOk q k→SInv q ns ns.length:=by
 intro f
 induction f with
 | zero=>intro k t h;unfold goS at h;cases h
 | succ f ih=>
   intro k t h hk
   cases k with
   | settle nodes at_=>
     obtain ⟨h1,h2⟩:=hk
     rw[goS] at h
     split at h
     ·rename_i he
      cases h
      rwa [he] at h1
     ·rename_i hne
      have hal:at_<nodes.length:=by omega
      have hat:nodes[at_]?=some nodes[at_]:=gE hal
      have e:ctxAt nodes at_=(nodes[at_]).ctx:=by unfold ctxAt;rw[hat]
      refine ih h ⟨h1,_,hat,?_,fun p hp=>by rw[e];exact hp⟩
      rw[e]
      by_cases h0:at_=0
      ·obtain ⟨es,hr⟩:=h1.root
       subst h0
       rw[hat] at hr
       rw[Option.some.inj hr]
       exact List.Pairwise.nil
      ·exact (h1.node at_ _ (by omega) hat).srt
   | choose nodes at_ l env=>
     cases l with
     | nil=>rw[goS] at h;exact ih h hk
     | cons w l=>
       obtain ⟨h1,n,h2,h3,h4⟩:=hk
       rw[goS] at h
       obtain ⟨o,_,t1,ho⟩:=zLe h
       refine ih ho ⟨h1,n,h2,?_,fun p hp=>?_⟩
       ·cases o with
        | none=>exact h3
        | some v=>exact zDA _ h3
       ·cases o with
        | none=>exact h4 p hp
        | some v=>exact zKR (h4 p hp)
   | bind nodes at_ env=>
     obtain ⟨h1,n,h2,h3,h4⟩:=hk
     rw[goS] at h
     split at h
     ·cases h
     ·rename_i cs hcs
      split at h
      ·cases h
      ·rename_i out es hb
       have hal:=(gS.1 h2).1
       have hinv:=zLl h1 h2 h3 h4 hcs hb
       refine ih h ⟨hinv,?_⟩
       rw[zER]
       obtain ⟨c1,_⟩:=zFL hcs
       obtain ⟨new,_,e1,_⟩:=zF3 hb c1 (by omega) h1.len
       rw[e1,List.length_append]
       omega
theorem SInv.start {q:SIn} (h:1≤q.lim):SInv q [rootN] 0 where
 root:=⟨[],rfl⟩
 len:=h
 node:=fun j n hj hn=>by cases j with|zero=>omega|succ j=>simp at hn
 done:=fun i n hi=>by omega
 reach:=fun j hj hl=>by simp at hl;omega
 rest:=fun i n hi hn=>by cases i with|zero=>cases hn;rfl|succ i=>simp at hn
theorem zIj {q:SIn} {ns:List Node} (hl:1≤q.lim) (h:solS q=some ns):SInv q ns ns.length:=by
 unfold solS at h
 split at h
 ·cases h
 ·split at h
  ·rename_i t0 ns0 hr
   cases h
   exact zMZ hr ⟨SInv.start hl,nZ _⟩
  ·cases h
theorem zFl (L:List Pack) (ns:List Node):(zCJ L ns).length=ns.length:=by
 cases ns<;>simp[zCJ]
theorem zJ9 {L:List Pack} {ns:List Node} {i:Nat} {n:Node} (h1:1≤i) (h:ns[i]?=some n):(zCJ L ns)[i]?=some ((getC L n.name n.ver).getD zAC):=by
 cases ns with
 | nil=>cases h
 | cons a l=>
   cases i with
   | zero=>omega
   | succ i=>
     unfold zCJ
     rw[List.getElem?_cons_succ] at h ⊢
     rw[List.getElem?_map,h];rfl
