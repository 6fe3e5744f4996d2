/- image.Read of no file and of one file: walked. -/
import Derived.Test.YthbnmehbhpakaaaGreatDoorBk23
import Derived.Test.YthbnmehbhpakaaaGreatDoorBk18
import Derived.Test.YthbnmehbhpakaaaGreatDoorBk16
import Derived.Test.YthbnmehbhpakaaaGreatDoorBk01
import Derived.Test.YthbnmehbhpakaaaGreatDoorBkC
import Derived.Test.YthbnmehbhpakaaaGreatDoorAl
set_option linter.all false
set_option maxHeartbeats 6400000
set_option maxRecDepth 100000
namespace Go.Proofs.YthbnmehbhpakaaaGreatDoor
open Go.Rows Go.RowKit Go.Shelf Go.Sort Go.Maps
def zEQ:Value→Option (DataW Unit×List MemPlace)
 | .agg cs=>match cs.toList with
   | [.string p,.bool d,.string s]=>some (.agg [.lit (.string p.data.toList),.lit (.bool d),.lit (.string s.data.toList)],[])
   | _=>none
 | _=>none
def fileD (p:ByteArray) (d:Bool) (s:ByteArray):DataW Unit:=.agg [.lit (.string p.data.toList),.lit (.bool d),.lit (.string s.data.toList)]
theorem zHQ (p:ByteArray) (d:Bool) (s:ByteArray):zEQ (.agg #[.string p,.bool d,.string s])=some (fileD p d s,[]):=rfl
theorem zKc {v:Value} {p:ByteArray} {d:Bool} {s:ByteArray} {ps:List MemPlace} (h:zEQ v=some (fileD p d s,ps)):v=.agg #[.string p,.bool d,.string s]:=by
 unfold zEQ at h
 split at h
 ·rename_i cs
  split at h
  ·rename_i p' d' s' hc
   simp only[fileD,Option.some.injEq,Prod.mk.injEq,DataW.agg.injEq,List.cons.injEq,DataW.lit.injEq,Lit.bool.injEq,Lit.string.injEq,and_true] at h
   obtain ⟨⟨h1,rfl,h2⟩,_⟩:=h
   rw[←zAt h2,←zAt h1]
   congr 1
   exact Array.ext' hc
  ·cases h
 ·cases h
theorem zQF (w:World):(zeroValue 45).run Tryz.prog w=.ok (.agg #[.string ⟨#[]⟩,.bool false,.string ⟨#[]⟩]) w:=by kernel_rfl
def xF:ByteArray:=⟨#[47,120]⟩
def OneM (w:World) (B:Nat):Prop:=w.ownsMap Tryz.prog 9 zEQ B 1 ((DataW.map []).put (.string xF.data.toList) (fileD xF false emB))
theorem OneM.keep {w w':World} {B:Nat} (h:OneM w B) (hb:Below w.heap.size w w'):OneM w' B:=
 World.ownsMap.kept (row:=none) h ⟨hb.os,hb.tape,hb.output,hb.size,fun k hk _=>hb.block k hk⟩ (by simp)
theorem OneM.look {W:World} {B:Nat} (h:OneM W B):(Instr.lookup 81 (.map (some B)) (.string manF) false).run Tryz.prog W=.ok (.agg #[.string ⟨#[]⟩,.bool false,.string ⟨#[]⟩]) W:=by
 have hkey:=Go.WideMaps.keyOf_string_mk (P:=Tryz.prog) (s:=manF) Tryz.underlying9 (by decide)
 obtain ⟨v,ps,r1,r2⟩:=World.ownsMap.lookup h zB4 Tryz.underlying81 (zQF W) (zHQ ⟨#[]⟩ false ⟨#[]⟩) hkey
 rw[atKey_put_other (by intro h;revert h;simp[manF,xF])] at r2
 rw[zKc r2] at r1
 exact r1
theorem zOh {W:World} {b:Nat} {x0 x1 x2 x3:Value} {t:TypeId} (h:W.heap[b]?=some (.cells #[x0,x1,x2,x3] t (0,0))) (a0 a1 a2 a3:Value) :
  ((((W.setCell ⟨b,0,none⟩ a0).setCell ⟨b,1,none⟩ a1).setCell ⟨b,2,none⟩ a2).setCell ⟨b,3,none⟩ a3).heap[b]?=some (.cells #[a0,a1,a2,a3] t (0,0)):=by
 have h0:=zAU (o:=0) h a0
 rw[show (#[x0,x1,x2,x3]:Array Value).setIfInBounds 0 a0=#[a0,x1,x2,x3] from rfl] at h0
 have h1:=zAU (o:=1) h0 a1
 rw[show (#[a0,x1,x2,x3]:Array Value).setIfInBounds 1 a1=#[a0,a1,x2,x3] from rfl] at h1
 have h2:=zAU (o:=2) h1 a2
 rw[show (#[a0,a1,x2,x3]:Array Value).setIfInBounds 2 a2=#[a0,a1,a2,x3] from rfl] at h2
 have h3:=zAU (o:=3) h2 a3
 rw[show (#[a0,a1,a2,x3]:Array Value).setIfInBounds 3 a3=#[a0,a1,a2,a3] from rfl] at h3
 exact h3
theorem zLd {W0 W:World} {B b:Nat} (h:Below B W0 W) (hb:B≤b) (a0 a1 a2 a3:Value) :
  Below B W0 ((((W.setCell ⟨b,0,none⟩ a0).setCell ⟨b,1,none⟩ a1).setCell ⟨b,2,none⟩ a2).setCell ⟨b,3,none⟩ a3):=
 (((h.setCell hb a0).setCell hb a1).setCell hb a2).setCell hb a3
theorem zPN:scanQ 4096 ⟨#[]⟩=([],0):=by
 unfold scanQ zEC
 rw[if_neg (by decide)]
 rfl
theorem zID (w:World):Calls Tryz.prog 38 #[.string ⟨#[]⟩] w fun e w'=>e=.returned (.tuple #[.agg #[.slice none 0 0,.slice none 0 0,.slice none 0 0,.slice none 0 0],.int .i64 22])∧Below w.heap.size w w':=by
 go_enter Tryz.func38,Tryz.ntmps38
 go_wp2_with fail
 obtain ⟨w0,hw0⟩:∃ w0,w0=w.alloc (.cells #[.slice none 0 0,.slice none 0 0,.slice none 0 0,.slice none 0 0] 24):=⟨_,rfl⟩
 have hr0:w0.heap[w.heap.size]?=some (.cells #[.slice none 0 0,.slice none 0 0,.slice none 0 0,.slice none 0 0] 24 (0,0)):=by rw[hw0];exact heap_alloc_new w _
 have HB0:Hid (Below w.heap.size w w0):=by unfold Hid;rw[hw0];exact bal (bR _ _) _
 have hz0:w.heap.size<w0.heap.size:=(aS.1 hr0).1
 have Hr0:=cH hr0
 rw[←hw0]
 clear hw0 hr0
 refine (zCf ⟨#[]⟩ 4096 w0 (by decide) (by decide)).mono ?_
 rintro e w1 ⟨v,⟨k,rfl⟩,hs,hb⟩
 rw[zPN] at hs ⊢
 obtain ⟨A,c,rfl,_,_⟩:=hs.val
 have Hr1:Hid (w1.heap[w.heap.size]?=some (.cells #[.slice none 0 0,.slice none 0 0,.slice none 0 0,.slice none 0 0] 24 (0,0))):=(hb.block _ hz0).trans Hr0.out
 have HB1:=cH (bot HB0.out hb)
 obtain ⟨⟨a0,a1,a2,a3⟩,f0,f1,f2,f3⟩:=row4 Hr1.out
 clear hs hb HB0 Hr0
 go_wp2_with fail
 refine zAC rfl rfl rfl rfl (zOh Hr1.out _ _ _ _) Tryz.underlying24 rfl (by kernel_rfl) ⟨rfl,zLd HB1.out (nR _) _ _ _ _⟩
theorem zRp:loadB []=true:=rfl
theorem zKW (w:World) (hm:MaxL w):Calls Tryz.prog 12 #[.slice none 0 0] w fun e w'=>(∃ A5 A6,e=.returned (.tuple #[.agg #[.slice none 0 0,.slice none 0 0,.slice none 0 0,.slice none 0 0,.slice (some A5) 1 1,.slice (some A6) 1 1,.bool false],.int .i64 0]))∧Below w.heap.size w w':=by
 have Hm:=cH hm
 clear hm
 go_enter Tryz.func12,Tryz.ntmps12
 go_wp2_with fail
 obtain ⟨w0,hw0⟩:∃ w0,w0=w.alloc (.cells #[.slice none 0 0,.slice none 0 0,.slice none 0 0,.slice none 0 0,.slice none 0 0,.slice none 0 0,.bool false] 32):=⟨_,rfl⟩
 have hr0:w0.heap[w.heap.size]?=some (.cells #[.slice none 0 0,.slice none 0 0,.slice none 0 0,.slice none 0 0,.slice none 0 0,.slice none 0 0,.bool false] 32 (0,0)):=by rw[hw0];exact heap_alloc_new w _
 have HB0:Hid (Below w.heap.size w w0):=by unfold Hid;rw[hw0];exact bal (bR _ _) _
 have hz0:w.heap.size<w0.heap.size:=(aS.1 hr0).1
 have Hr0:=cH hr0
 rw[←hw0]
 clear hw0 hr0
 refine (zD1 none 0 0 [] w0 (fun _=>True) ((Hm.out).below HB0.out) (SlV.nil_ _ _ _) (by decide) (by simp)).mono ?_
 rintro e w1 ⟨hl,hb⟩
 rcases hl with ⟨hf,_⟩|⟨_,d,B,rv,zv,rfl,_,_⟩
 ·cases hf
 have Hr1:=cH ((hb.block _ hz0).trans Hr0.out)
 have HB1:=cH (bot HB0.out hb)
 have hz1:w.heap.size<w1.heap.size:=lL hz0 hb.size
 clear hb HB0 Hr0
 go_wp2_with fail
 refine (zF9 w1).mono ?_
 rintro e w2 ⟨⟨A5,A6,rfl,_⟩,hb⟩
 have Hr2:=cH ((hb.block _ hz1).trans Hr1.out)
 have HB2:=cH (bot HB1.out hb)
 obtain ⟨⟨a0,a1,a2,a3,a4,a5,a6⟩,f0,f1,f2,f3,f4,f5,f6⟩:=row7 Hr2.out
 clear hb HB1 Hr1
 go_wp2_with fail
 refine zAC rfl rfl rfl rfl (zAa Hr2.out _ _ _ _ _ _ _) Tryz.underlying32 rfl (by kernel_rfl) ⟨⟨_,_,rfl⟩,zAV HB2.out (nR _) _ _ _ _ _ _ _⟩
theorem zPL (A:Option Addr) (c:Nat) (S:Nat→Prop) (w:World) (hm:MaxL w) (hl:SlV rFile w S [⟨xF,false,emB⟩] (.slice A 1 c)):Calls Tryz.prog 12 #[.slice A 1 c] w fun e w'=>e=.returned (.tuple #[.agg #[.slice none 0 0,.slice none 0 0,.slice none 0 0,.slice none 0 0,.slice none 0 0,.slice none 0 0,.bool false],.int .i64 43])∧Below w.heap.size w w':=by
 have Hm:=cH hm
 have HL:=cH hl
 obtain ⟨b,o,cs,rfl,_,hbl,⟨rfl,_⟩,hcell⟩:=hl.elem (i:=0) (x:=⟨xF,false,emB⟩) rfl
 have c0:=hcell 0 _ rfl
 have c1:=hcell 1 _ rfl
 have c2:=hcell 2 _ rfl
 simp only[rFile,Nat.add_zero,Nat.zero_mul] at c0 c1 c2
 clear hm hl hcell
 go_enter Tryz.func12,Tryz.ntmps12
 go_wp2_with fail
 obtain ⟨w0,hw0⟩:∃ w0,w0=w.alloc (.cells #[.slice none 0 0,.slice none 0 0,.slice none 0 0,.slice none 0 0,.slice none 0 0,.slice none 0 0,.bool false] 32):=⟨_,rfl⟩
 have hr0:w0.heap[w.heap.size]?=some (.cells #[.slice none 0 0,.slice none 0 0,.slice none 0 0,.slice none 0 0,.slice none 0 0,.slice none 0 0,.bool false] 32 (0,0)):=by rw[hw0];exact heap_alloc_new w _
 have HB0:Hid (Below w.heap.size w w0):=by unfold Hid;rw[hw0];exact bal (bR _ _) _
 have hz0:w.heap.size<w0.heap.size:=(aS.1 hr0).1
 have Hr0:=cH hr0
 rw[←hw0]
 clear hw0 hr0
 refine (zD1 (some ⟨b,o,none⟩) 1 c [⟨xF,false,emB⟩] w0 S ((Hm.out).below HB0.out) (HL.out.belowSize HB0.out) (by decide) (by intro f hf;rw[List.mem_singleton.1 hf];decide)).mono ?_
 rintro e w1 ⟨hl,hb⟩
 have Hr1:=cH ((hb.block _ hz0).trans Hr0.out)
 have HB1:=cH (bot HB0.out hb)
 have hz1:w.heap.size<w1.heap.size:=lL hz0 hb.size
 clear hb HB0 Hr0
 rcases hl with ⟨_,rfl⟩|⟨_,d,B,rv,zv,rfl,_,_⟩
 ·obtain ⟨⟨a0,a1,a2,a3,a4,a5,a6⟩,f0,f1,f2,f3,f4,f5,f6⟩:=row7 Hr1.out
  go_wp2_with fail
  refine zAC rfl rfl rfl rfl (zAa Hr1.out _ _ _ _ _ _ _) Tryz.underlying32 rfl (by kernel_rfl) ⟨rfl,zAV HB1.out (nR _) _ _ _ _ _ _ _⟩
 have hmm:=@run_makeMap Tryz.prog
 go_wp2_with fail
 clear hmm
 obtain ⟨wM,hwM⟩:∃ wM,wM=w1.alloc (.map #[] 0):=⟨_,rfl⟩
 obtain ⟨BM,hBM⟩:∃ BM,BM=w1.heap.size:=⟨_,rfl⟩
 have HO0:Hid (wM.ownsMap Tryz.prog 9 zEQ BM 0 (DataW.map [])):=by unfold Hid;rw[hwM,hBM];exact World.ownsMap_made _ _ _ _
 have HBM:Hid (Below w1.heap.size w1 wM):=by unfold Hid;rw[hwM];exact bal (bR _ _) _
 have HRM:=cH ((HBM.out.block _ hz1).trans Hr1.out)
 have hzM:w.heap.size<BM∧BM<wM.heap.size:=by rw[hBM,hwM];exact ⟨hz1,by simp[zBX]⟩
 rw[←hwM,←hBM]
 clear hwM hBM
 go_loopw [37] (fun i wr=>(i=.int .i64 0∧wr=wM)∨(i=.int .i64 1∧Hid (OneM wr BM)∧Hid (wr.heap[w.heap.size]?=some (.cells #[.slice none 0 0,.slice none 0 0,.slice none 0 0,.slice none 0 0,.slice none 0 0,.slice none 0 0,.bool false] 32 (0,0)))∧Hid (Below w.heap.size w wr)∧w.heap.size<wr.heap.size)) (fun i _=>1 - (intOf i).toNat)
 case atStart=>exact .inl ⟨rfl,rfl⟩
 case round=>
  rcases hrel with ⟨rfl,rfl⟩|⟨rfl,HO,HR,HB,hzr⟩
  ·have d0:=zAA (bot HB1.out HBM.out) c0 hbl
   have d1:=zAA (bot HB1.out HBM.out) c1 hbl
   have d2:=zAA (bot HB1.out HBM.out) c2 hbl
   clear c0 c1 c2
   go_upto_region 10 with (fail)
   obtain ⟨wf,hwf⟩:∃ wf,wf=wr.alloc (.cells #[.string xF,.bool false,.string emB] 45):=⟨_,rfl⟩
   have hO1:wf.ownsMap Tryz.prog 9 zEQ BM 0 (DataW.map []):=by rw[hwf];exact World.ownsMap.kept (row:=none) HO0.out (World.grownBy_alloc _ _ _) (by simp)
   have hrf:wf.heap[wr.heap.size]?=some (.cells #[.string xF,.bool false,.string emB] 45 (0,0)):=by rw[hwf];exact zAT _ _
   have e0:=cO _ _ 0 _ _ _ hrf
   have e1:=cO _ _ 1 _ _ _ hrf
   have e2:=cO _ _ 2 _ _ _ hrf
   have hbf:Below wr.heap.size wr wf:=by rw[hwf];exact bal (bR _ _) _
   have HBf:=cH (bot (bot HB1.out HBM.out) hbf)
   have HRf:=cH ((hbf.block _ (by omega)).trans HRM.out)
   have hzf:w.heap.size<wf.heap.size:=lL (by omega) hbf.size
   have hkey:=Go.WideMaps.keyOf_string_mk (P:=Tryz.prog) (s:=xF) Tryz.underlying9 (by decide)
   rw[←hwf]
   clear hwf hrf hbf
   go_wp2_with (first|(at_mapUpdate;refine wpList_mapUpdate_own _ rfl _ _ _ 81 rfl 9 45 zB4 Tryz.underlying81 _ BM 0 _ rfl hO1 (by decide) _ _ _ rfl rfl hkey _ [] (zHQ xF false emB) ?_)|go_in)
   intro w2 hown2 hgrow2
   have HO2:Hid (OneM w2 BM):=hown2
   have HR2:=cH ((hgrow2.block w.heap.size hzf (fun e=>by have:=Option.some.inj e;omega)).trans HRf.out)
   have HB2:Hid (Below w.heap.size w w2):=HBf.out.grown hgrow2 (by omega) (fun g hg=>by have:=Option.some.inj hg;omega)
   have hz2:w.heap.size<w2.heap.size:=lL hzf hgrow2.size
   clear hown2 hgrow2 hkey hO1 e0 e1 e2 d0 d1 d2
   go_wp2_with fail
   go_roundw
   case rel=>exact .inr ⟨by go_num,HO2,HR2,HB2,hz2⟩
   case measure=>simp[intOf]
  ·have hlook:(Instr.lookup 81 (.map (some BM)) (.string ⟨#[47,109,97,110,105,102,101,115,116]⟩) false).run Tryz.prog wr=.ok (.agg #[.string ⟨#[]⟩,.bool false,.string ⟨#[]⟩]) wr:=HO.out.look
   have hfld:∀ W:World,(Instr.field 45 (.agg #[.string ⟨#[]⟩,.bool false,.string ⟨#[]⟩]) 2).run Tryz.prog W=.ok (.string ⟨#[]⟩) W:=fun W=>by kernel_rfl
   clear c0 c1 c2
   go_wp2_with fail
   refine (zID wr).mono ?_
   rintro e w3 ⟨rfl,hb3⟩
   have HR3:=cH ((hb3.block _ hzr).trans HR.out)
   have HB3:=cH (bot HB.out hb3)
   have hz3:w.heap.size<w3.heap.size:=lL hzr hb3.size
   clear hb3 hlook HO HR HB
   obtain ⟨w4,hw4⟩:∃ w4,w4=w3.alloc (.cells #[.slice none 0 0,.slice none 0 0,.slice none 0 0,.slice none 0 0] 24):=⟨_,rfl⟩
   have hb4:Below w3.heap.size w3 w4:=by rw[hw4];exact bal (bR _ _) _
   have HR4:=cH ((hb4.block _ hz3).trans HR3.out)
   have HB4:=cH (bot HB3.out hb4)
   obtain ⟨⟨a0,a1,a2,a3,a4,a5,a6⟩,f0,f1,f2,f3,f4,f5,f6⟩:=row7 HR4.out
   go_upto_region 13 with (fail)
   rw[←hw4]
   clear hw4 hb4 HR3 HB3
   go_wp2_with fail
   refine zAC rfl rfl rfl rfl (zAa HR4.out _ _ _ _ _ _ _) Tryz.underlying32 rfl (by kernel_rfl) ⟨rfl,zAV HB4.out (nR _) _ _ _ _ _ _ _⟩
end Go.Proofs.YthbnmehbhpakaaaGreatDoor
namespace Go.Proofs.YthbnmehbhpakaaaGreatDoor
open Go.Rows Go.RowKit Go.Shelf Go.Sort
theorem zNP (w:World) (p q:ByteArray) (d e:Bool) (s t:ByteArray) :
  (binOp .neq 45 (.agg #[.string p,.bool d,.string s]) (.agg #[.string q,.bool e,.string t])).run Tryz.prog w=.ok (.bool (!eqB (⟨p,d,s⟩:File) ⟨q,e,t⟩)) w:=by
 have hu':=Tryz.underlying45
 have hu:Tryz.prog.underlying 45=some (.struct (Tryz.prog.fieldsOf 45)):=by kernel_rfl
 have hs:Tryz.prog.stoodInHeld 45=false:=by kernel_rfl
 have h3:∀ w,(isAgg 9).run Tryz.prog w=.ok false w:=fun _=>by kernel_rfl
 have h4:∀ w,(isAgg 4).run Tryz.prog w=.ok false w:=fun _=>by kernel_rfl
 rw[run_neq_struct,show (10000:Nat)=9998+2 from rfl,show 9998+2=(9998+1)+1 from rfl,run_equalIn_agg _ _ _ _ _ hu hs]
 have he:∀ (x y:ByteArray) (w:World),(Op.equalIn (9998+1) 9 (.string x) (.string y)).run Tryz.prog w=.ok (x.toList==y.toList) w:=fun x y w=>by
  rw[run_equalIn_string (h:=Tryz.underlying9)]
 have hb:∀ (x y:Bool) (w:World),(Op.equalIn (9998+1) 4 (.bool x) (.bool y)).run Tryz.prog w=.ok (x==y) w:=fun x y w=>by
  rw[run_equalIn_bool' (h:=Tryz.underlying4)]
 generalize 9998+1=D at *
 have hx:∀ x y:ByteArray,(x.toList==y.toList)=true↔x=y:=fun x y=>by
  rw[beq_iff_eq]
  constructor
  ·intro h
   rw[Go.ByteArray.toList_eq,Go.ByteArray.toList_eq] at h
   exact ByteArray.ext (Array.toList_inj.1 h)
  ·intro h;rw[h]
 by_cases g1:p=q
 ·by_cases g2:d=e
  ·by_cases g3:s=t
   ·have hr:eqB (⟨p,d,s⟩:File) ⟨q,e,t⟩=true:=zAF (by rw[g1,g2,g3])
    rw[hr]
    simp[Program.fieldsOf,hu',Op.eqFields,part,h3,h4,he,hb,g1,g2,g3]
   ·have hr:eqB (⟨p,d,s⟩:File) ⟨q,e,t⟩=false:=zAD (fun h=>g3 (by injection h))
    have h9:(s.toList==t.toList)=false:=by cases h:(s.toList==t.toList) with
     | false=>rfl
     | true=>exact absurd ((hx _ _).1 h) g3
    rw[hr]
    simp[Program.fieldsOf,hu',Op.eqFields,part,h3,h4,he,hb,g1,g2,h9]
  ·have hr:eqB (⟨p,d,s⟩:File) ⟨q,e,t⟩=false:=zAD (fun h=>g2 (by injection h))
   rw[hr]
   simp[Program.fieldsOf,hu',Op.eqFields,part,h3,h4,he,hb,g1,g2]
 ·have hr:eqB (⟨p,d,s⟩:File) ⟨q,e,t⟩=false:=zAD (fun h=>g1 (by injection h))
  have h9:(p.toList==q.toList)=false:=by cases h:(p.toList==q.toList) with
   | false=>rfl
   | true=>exact absurd ((hx _ _).1 h) g1
  rw[hr]
  simp[Program.fieldsOf,hu',Op.eqFields,part,h3,h4,he,hb,h9]
theorem zME (A B:Option Addr) (n m c d:Nat) (xs ys:List File) (w:World) (S T:Nat→Prop) (hx:SlV rFile w S xs (.slice A n c)) (hy:SlV rFile w T ys (.slice B m d)) :
  Calls Tryz.prog 10 #[.slice A n c,.slice B m d] w fun e w'=>e=.returned (.bool (eqB xs ys))∧Below w.heap.size w w':=by
 have hnx:=hx.n_eq
 have hny:=hy.n_eq
 have hcx:=hx.cap_le
 have hcy:=hy.cap_le
 unfold maxLen at hcx hcy
 by_cases hnm:n=m
 ·have hb:((n:Int) != (m:Int))=false:=by simp[hnm]
  have hn63:n≤9223372036854775807:=by omega
  have hx':=hx.more (S':=fun b=>b<w.heap.size) fun b _ h=>h
  have hy':=hy.more (S':=fun b=>b<w.heap.size) fun b _ h=>h
  have Hpos:Hid (xs=ys→eqB xs ys=true):=fun h=>zAF h
  have Hneg:Hid (xs≠ys→eqB xs ys=false):=fun h=>zAD h
  have Hnm:=cH hnm;clear hnm
  have Hnx:=cH hnx;clear hnx
  have Hny:=cH hny;clear hny
  clear hcx hcy hx hy
  generalize eqB xs ys=r at *
  go_enter Tryz.func10,Tryz.ntmps10
  go_wp2_with fail
  go_loopw [5] (fun i wr=>∃ k:Nat,k≤n∧i=.int .i64 k∧Hid (xs.take k=ys.take k)∧Below w.heap.size w wr) (fun i _=>n - (intOf i).toNat)
  case atStart=>exact ⟨0,nZ _,rfl,by simp[Hid],bR _ _⟩
  case round=>
   obtain ⟨k,hk,rfl,heq,hbel⟩:=hrel
   by_cases hlt:k<n
   ·have hkx:k<xs.length:=by have:=Hnx.out;omega
    have hky:k<ys.length:=by have:=Hny.out;have:=Hnm.out;omega
    have hkm:k<m:=by have:=Hnm.out;omega
    have hxw:=hx'.below hbel (fun b h=>h)
    have hyw:=hy'.below hbel (fun b h=>h)
    obtain ⟨b,o,cs,rfl,_,hb1,⟨rfl,_,_⟩,hcell⟩:=hxw.elem (gE hkx)
    obtain ⟨b',o',cs',rfl,_,hb2,⟨rfl,_,_⟩,hcell'⟩:=hyw.elem (gE hky)
    have c0:=hcell 0 _ rfl
    have c1:=hcell 1 _ rfl
    have c2:=hcell 2 _ rfl
    have d0:=hcell' 0 _ rfl
    have d1:=hcell' 1 _ rfl
    have d2:=hcell' 2 _ rfl
    simp only[rFile,Nat.add_zero] at c0 c1 c2 d0 d1 d2
    clear hcell hcell' hxw hyw
    have Hne:=cH (fun h=>ne_at hkx hky h)
    have Hen:=cH (fun h=>zB9 heq.out hkx hky h)
    have hop:∀ W,(binOp .neq 45 (.agg #[.string xs[k].path,.bool xs[k].dir,.string xs[k].data]) (.agg #[.string ys[k].path,.bool ys[k].dir,.string ys[k].data])).run Tryz.prog W=.ok (.bool (!eqB xs[k] ys[k])) W:=fun W=>zNP W _ _ _ _ _ _
    have Hq1:Hid (eqB xs[k] ys[k]=true→xs.take (k+1)=ys.take (k+1)):=fun h=>Hen.out (zC9.1 h)
    have Hq2:Hid (eqB xs[k] ys[k]=false→r=false):=fun h=>Hneg.out (Hne.out (fun e=>by rw[zAF e] at h;cases h))
    clear Hne Hen
    have hk0:(0:Int)≤(k:Int):=by omega
    have hkn:(k:Int)<(n:Int):=by omega
    have hkm':(k:Int)<(m:Int):=by omega
    generalize eqB xs[k] ys[k]=q at *
    generalize xs[k].path=x1 at *
    generalize xs[k].dir=x2 at *
    generalize xs[k].data=x3 at *
    generalize ys[k].path=y1 at *
    generalize ys[k].dir=y2 at *
    generalize ys[k].data=y3 at *
    have r_c0:=cR c0
    have r_c1:=cR c1
    have r_c2:=cR c2
    have r_d0:=cR d0
    have r_d1:=cR d1
    have r_d2:=cR d2
    cases q
    ·have He:=cH (Hq2.out rfl)
     clear Hq1 Hq2
     go_wp2_with fail
     refine wQ ?_
     repeat (go_big_quiet_step (first|fail))
     refine wpQuiet_nil fun w1 B1=>?_
     go_wp2_with fail
     go_ret
     exact ⟨zAB He.out.symm,bot hbel B1⟩
    ·have He:=cH (Hq1.out rfl)
     clear Hq1 Hq2
     go_wp2_with fail
     refine wQ ?_
     repeat (go_big_quiet_step (first|fail))
     refine wpQuiet_nil fun w1 B1=>?_
     go_wp2_with fail
     go_roundw
     case rel=>exact ⟨k+1,by omega,by go_num,He,bot hbel B1⟩
     case measure=>simp[intOf];omega
   ·have He:Hid (r=true):=Hpos.out (zBH heq.out (by have:=Hnx.out;omega) (by have:=Hny.out;have:=Hnm.out;omega))
    go_wp2_with fail
    go_ret
    exact ⟨zAB He.out.symm,hbel⟩
 ·have hb:((n:Int) != (m:Int))=true:=by simp;omega
  have He:Hid (eqB xs ys=false):=zAD (by rintro rfl;omega)
  clear hnx hny hcx hcy hx hy hnm
  generalize eqB xs ys=r at *
  go_enter Tryz.func10,Tryz.ntmps10
  go_wp2_with fail
  go_ret
  exact ⟨zAB He.out.symm,bR _ _⟩
theorem zMZ (w:World) (ht:Tab w) (hm:MaxL w):Calls Tryz.prog 11 #[] w fun e w'=>e=.returned (.bool true)∧Below w.heap.size w w':=by
 have Ht:=cH ht
 have Hm:=cH hm
 clear ht hm
 go_enter Tryz.func11,Tryz.ntmps11
 go_wp2_with fail
 refine (zF9 w).mono ?_
 rintro e w1 ⟨⟨A5,A6,rfl,hv⟩,hb⟩
 have HF:=cH (zFY proj0 _ w1 _ (zAG Ht.out hb) zSS hv)
 have HB1:=cH hb
 clear hb hv
 rw[zPh] at HF
 go_wp2_with fail
 refine HF.out.mono ?_
 rintro e w2 ⟨⟨u,rfl,hu⟩,hb⟩
 obtain ⟨A,c,rfl,_,_⟩:=hu.val
 have HB2:=cH (bot HB1.out hb)
 clear hb hu HB1 HF
 go_wp2_with fail
 refine (zKW w2 ((Hm.out).below HB2.out)).mono ?_
 rintro e w3 ⟨⟨B5,B6,rfl⟩,hb⟩
 have HB3:=cH (bot HB2.out hb)
 clear hb HB2
 go_upto_region 3 with (fail)
 obtain ⟨w4,hw4⟩:∃ w4,w4=w3.alloc (.cells #[.slice none 0 0,.slice none 0 0,.slice none 0 0,.slice none 0 0,.slice (some B5) 1 1,.slice (some B6) 1 1,.bool false] 32):=⟨_,rfl⟩
 have hr4:w4.heap[w3.heap.size]?=some (.cells #[.slice none 0 0,.slice none 0 0,.slice none 0 0,.slice none 0 0,.slice (some B5) 1 1,.slice (some B6) 1 1,.bool false] 32 (0,0)):=by rw[hw4];exact heap_alloc_new w3 _
 have HB4:Hid (Below w.heap.size w w4):=by unfold Hid;rw[hw4];exact bal HB3.out _
 have Hr4:=cH hr4
 rw[←hw4]
 clear hw4 hr4 HB3
 obtain ⟨q,hq⟩:∃ q,q=w3.heap.size:=⟨_,rfl⟩
 rw[←hq] at Hr4 ⊢
 clear hq
 go_wp2_with fail
 obtain ⟨w5,hw5⟩:∃ w5,w5=w4.alloc (.cells #[.string xF,.bool false,.string emB] 45):=⟨_,rfl⟩
 have hb5:Below w4.heap.size w4 w5:=by rw[hw5];exact bal (bR _ _) _
 have hs5:SlV rFile w5 (fun b=>b=w4.heap.size) [⟨xF,false,emB⟩] (.slice (some ⟨w4.heap.size,0,none⟩) 1 1):=by
  rw[hw5]
  exact SlV.of_block (S:=fun b=>b=w4.heap.size) (l:=[(⟨xF,false,emB⟩:File)]) (zAT _ _) (Elems.one_ (r:=rFile) (x:=⟨xF,false,emB⟩) (cs:=[.string xF,.bool false,.string emB]) ⟨rfl,by decide,by decide⟩) rfl rfl (by decide) (by decide)
 have HB5:=cH (bot HB4.out hb5)
 have HR:=cH (zPL _ 1 _ w5 ((Hm.out).below HB5.out) hs5)
 rw[show (⟨#[47,120]⟩:ByteArray)=xF from rfl,show (⟨#[]⟩:ByteArray)=emB from rfl,←hw5]
 have hz4:q<w4.heap.size:=(aS.1 Hr4.out).1
 have Hr5:=cH ((hb5.block _ hz4).trans Hr4.out)
 have hz5:q<w5.heap.size:=lL hz4 hb5.size
 clear hw5 hb5 hs5 HB4 Hr4
 refine HR.out.mono ?_
 rintro e w6 ⟨rfl,hb⟩
 have HB6:=cH (bot HB5.out hb)
 have Hr6:=cH ((hb.block _ hz5).trans Hr5.out)
 have hz6:q<w6.heap.size:=lL hz5 hb.size
 clear hb HB5 Hr5 HR
 go_upto_region 4 with (fail)
 obtain ⟨w7,hw7⟩:∃ w7,w7=w6.alloc (.cells #[.slice none 0 0,.slice none 0 0,.slice none 0 0,.slice none 0 0,.slice none 0 0,.slice none 0 0,.bool false] 32):=⟨_,rfl⟩
 have hb7:Below w6.heap.size w6 w7:=by rw[hw7];exact bal (bR _ _) _
 have HB7:=cH (bot HB6.out hb7)
 have Hr7:=cH ((hb7.block _ hz6).trans Hr6.out)
 rw[←hw7]
 clear hw7 hb7 HB6 Hr6
 have a4:=cO _ _ 4 _ _ _ Hr7.out
 have a5:=cO _ _ 5 _ _ _ Hr7.out
 go_wp2_with fail
 go_ret
 exact ⟨rfl,HB7.out⟩
end Go.Proofs.YthbnmehbhpakaaaGreatDoor
namespace Go.Proofs.YthbnmehbhpakaaaGreatDoor
open Go.RowKit
theorem zBB (W:World) (b o:Nat) (v:Value):W.grownBy (W.setCell ⟨b,o,none⟩ v) (some b):=⟨rfl,rfl,rfl,by simp,fun i _ hk=>heap_setCell_other W ⟨b,o,none⟩ i _ (fun e=>hk (by simp[e]))⟩
theorem zMj {W:World} {b o:Nat} {cs:Array Value} {t:TypeId} (h:W.heap[b]?=some (.cells cs t (0,0))) (v:Value):(W.setCell ⟨b,o,none⟩ v).heap[b]?=some (.cells (cs.setIfInBounds o v) t (0,0)):=by
 obtain ⟨hlt,hk⟩:=aS.1 h
 show (W.heap.modify b _)[b]?=_
 rw[Array.getElem?_eq_getElem (by rw[Array.size_modify];exact hlt),Array.getElem_modify_self,hk]
 rfl
theorem Elems.setAt {α:Type} {r:Rp α} {w:World} {S:Nat→Prop} {x x':α} {j:Nat} {u:Value} (hj:j<r.size) (hx:∀ cs,r.holds w S x cs→r.holds w S x' (cs.set j u)):∀ {l:List α} {xs:List Value} {k:Nat},Elems r w S l xs→l[k]?=some x→Elems r w S (l.set k x') (xs.set (k * r.size+j) u)
 | [],_,_,_,hk=>by cases hk
 | y::l,_,0,h,hk=>by
   obtain ⟨cs,rest,rfl,h1,h2⟩:=h
   cases hk
   refine ⟨cs.set j u,rest,?_,hx cs h1,h2⟩
   rw[Nat.zero_mul,Nat.zero_add,List.set_append_left _ _ (by rw[r.len h1];exact hj)]
 | y::l,_,k+1,h,hk=>by
   obtain ⟨cs,rest,rfl,h1,h2⟩:=h
   have hz:=r.len h1
   refine ⟨cs,rest.set (k * r.size+j) u,?_,h1,Elems.setAt hj hx h2 hk⟩
   have e:(k+1) * r.size+j - cs.length=k * r.size+j:=by rw[Nat.succ_mul,hz];omega
   rw[List.set_append_right _ _ (by rw[Nat.succ_mul,hz];omega),e]
theorem Own.setAt {α:Type} {r:Rp α} {w:World} {base:Nat} {e:TypeId} {g n cap:Nat} {l:List α} {S:Nat→Prop} (h:Own r w base e (.slice (some ⟨g,0,none⟩) n cap) l S) {k:Nat} {x x':α} (hk:l[k]?=some x) {j:Nat} (hj:j<r.size) {u:Value} (hx:∀ cs,r.holds w S x cs→r.holds w S x' (cs.set j u)) :
  Own r (w.setCell ⟨g,k * r.size+j,none⟩ u) base e (.slice (some ⟨g,0,none⟩) n cap) (l.set k x') S:=by
 obtain ⟨h0,xs,⟨hl,h1⟩,h2⟩:=h
 rcases h1 with ⟨h1,_⟩|⟨g',cap',cur,hv,hb,hg,hnc,hcm,hsz,ht⟩
 ·cases h1
 ·cases hv
  have hlen:(l.set k x').length=l.length:=List.length_set
  refine ⟨fun b hb=>⟨by simpa using (h0 b hb).1,(h0 b hb).2⟩,xs.set (k * r.size+j) u,⟨by rw[List.length_set,hlen];exact hl,.inr ⟨g,cap,cur.setIfInBounds (k * r.size+j) u,by rw[hlen],hb,zMj hg u,by rw[hlen];exact hnc,hcm,by simpa using hsz,?_⟩⟩,?_⟩
  ·rw[hlen,Array.toList_setIfInBounds,List.take_set,ht]
  ·refine (Elems.setAt hj hx h2 hk).mono fun b hb hlt=>⟨hb,?_⟩
   have hne:=(h0 b hb).2
   exact heap_setCell_other w ⟨g,k * r.size+j,none⟩ b _ fun e=>hne (by simp[Value.ownBlock,e])
theorem Own.cell {α:Type} {r:Rp α} {w:World} {base:Nat} {e:TypeId} {g n cap:Nat} {l:List α} {S:Nat→Prop} (h:Own r w base e (.slice (some ⟨g,0,none⟩) n cap) l S) {k:Nat} {x:α} (hk:l[k]?=some x):∃ cs,r.holds w S x cs∧∀ (j:Nat) (u:Value),cs[j]?=some u→w.cell? ⟨g,k * r.size+j,none⟩=some u:=by
 obtain ⟨h0,xs,h1,h2⟩:=h
 obtain ⟨cs,hc,hcell⟩:=h2.get k x hk
 refine ⟨cs,hc,fun j u hu=>?_⟩
 have h3:=h1.cells (g:=g) rfl _ u (hcell j u hu)
 rwa [show (⟨g,0,none⟩:Addr).add (k * r.size+j)=⟨g,k * r.size+j,none⟩ from by rw[zCN,Nat.zero_add]] at h3
theorem Own.frozen {α:Type} {r:Rp α} {w:World} {base:Nat} {e:TypeId} {g n cap:Nat} {l:List α} {S:Nat→Prop} (h:Own r w base e (.slice (some ⟨g,0,none⟩) n cap) l S) (o:Nat):w.frozen? ⟨g,o,none⟩=false:=by
 obtain ⟨h0,xs,⟨hl,h1⟩,h2⟩:=h
 rcases h1 with ⟨h1,_⟩|⟨g',cap',cur,hv,hb,hg,hnc,hcm,hsz,ht⟩
 ·cases h1
 ·cases hv
  simp[World.frozen?,hg]
theorem zSA {α:Type} {r:Rp α} {w:World} {base:Nat} {e:TypeId} {v:Value} {l:List α} (h:Own r w base e v l (fun _=>False)):SlV r w (fun b=>v.ownBlock=some b) l v:=by
 obtain ⟨h0,xs,h1,h2⟩:=h
 have h1':=h1
 rcases h1.2 with ⟨rfl,hn⟩|⟨g,cap,cur,rfl,hb,hg,hnc,hcm,hsz,htake⟩
 ·have:l=[]:=List.eq_nil_of_length_eq_zero hn
  subst this
  exact SlV.nil_ _ _ _
 ·refine ⟨some ⟨g,0,none⟩,cap,rfl,hnc,hcm,(fun h=>by cases h),fun _=>⟨g,0,rfl,rfl,(aS.1 hg).1,fun i x hx=>?_⟩⟩
  obtain ⟨cs,hc,hcell⟩:=h2.get i x hx
  refine ⟨cs,r.mono hc fun b hb _=>hb.elim,fun j u hu=>?_⟩
  have h3:=h1'.cells (g:=g) rfl _ u (hcell j u hu)
  rw[zCN,Nat.zero_add] at h3
  rw[Nat.zero_add]
  exact h3
structure RawN where
 name:ByteArray
 ver:Ver
 cA:Option Addr
 cn:Nat
 cc:Nat
 eA:Option Addr
 en:Nat
 ec:Nat
def rRaw:Rp RawN where
 size:=6
 holds:=fun w S x cs=>cs=[.string x.name,.int .i64 x.ver.major,.int .i64 x.ver.minor,.int .i64 x.ver.patch,.slice x.cA x.cn x.cc,.slice x.eA x.en x.ec]∧x.name.size≤maxLen∧I64 x.ver.major∧I64 x.ver.minor∧I64 x.ver.patch
 len:=fun h=>by rw[h.1];rfl
 one:=fun h=>by rw[h.1];simp[Value.oneCell']
 mono:=fun h _=>h
def RawIn (w:World) (P:Nat→Prop) (r:RawN) (x:Node):Prop:=r.name=x.name∧r.ver=x.ver∧SlV rPin w P x.ctx (.slice r.cA r.cn r.cc)∧SlV rEdge w P x.edges (.slice r.eA r.en r.ec)
theorem RawIn.mono {w w':World} {P P':Nat→Prop} {r:RawN} {x:Node} (h:RawIn w P r x) (hk:∀ b,P b→b<w.heap.size→P' b∧w'.heap[b]?=w.heap[b]?):RawIn w' P' r x:=
 ⟨h.1,h.2.1,(zAL rPin).mono h.2.2.1 hk,(zAL rEdge).mono h.2.2.2 hk⟩
structure NodO (w:World) (B g n cap:Nat) (pre:List Node) (x:Node) (rs:List RawN) (r:RawN) (P:Nat→Prop):Prop where
 row:Own rRaw w B 63 (.slice (some ⟨g,0,none⟩) n cap) (rs++[r]) (fun _=>False)
 len:rs.length=pre.length
 ins:∀ (i:Nat) (a:RawN) (y:Node),rs[i]?=some a→pre[i]?=some y→RawIn w P a y
 nm:r.name=x.name
 vr:r.ver=x.ver
 ctx:Own rPin w B 107 (.slice r.cA r.cn r.cc) x.ctx (fun _=>False)
 eds:Own rEdge w B 65 (.slice r.eA r.en r.ec) x.edges (fun _=>False)
 far:∀ b,P b→B≤b∧b<w.heap.size∧b≠g∧(Value.slice r.cA r.cn r.cc).ownBlock≠some b∧(Value.slice r.eA r.en r.ec).ownBlock≠some b
 ag:(Value.slice r.cA r.cn r.cc).ownBlock≠some g
 eg:(Value.slice r.eA r.en r.ec).ownBlock≠some g
 ce:∀ k,(Value.slice r.cA r.cn r.cc).ownBlock=some k→(Value.slice r.eA r.en r.ec).ownBlock≠some k
section
variable {w w9:World} {B g n cap:Nat} {pre:List Node} {x:Node} {rs:List RawN} {r:RawN} {P:Nat→Prop}
theorem NodO.lt (h:NodO w B g n cap pre x rs r P):B≤g∧g<w.heap.size:=h.row.lt g rfl
theorem NodO.n_eq (h:NodO w B g n cap pre x rs r P):n=pre.length+1:=by
 have:=h.row.slv.n_eq
 rw[List.length_append,h.len] at this
 exact this
theorem NodO.keep (h:NodO w B g n cap pre x rs r P) (hb:Below w.heap.size w w9):NodO w9 B g n cap pre x rs r P:=
 ⟨h.row.keep hb,h.len,fun i a y h1 h2=>(h.ins i a y h1 h2).mono fun b hP hl=>⟨hP,hb.block b hl⟩,h.nm,h.vr,h.ctx.keep hb,h.eds.keep hb,fun b hP=>⟨(h.far b hP).1,lL (h.far b hP).2.1 hb.size,(h.far b hP).2.2⟩,h.ag,h.eg,h.ce⟩
theorem zPD {v u:Value} (h:∀ k,v.ownBlock=some k→u.ownBlock≠some k):v.ownBlock=none∨v.ownBlock≠u.ownBlock:=by
 cases hk:v.ownBlock with
 | none=>exact .inl rfl
 | some k=>exact .inr fun e=>h k hk e.symm
theorem zHE (rs:List RawN) (r:RawN):(rs++[r])[rs.length]?=some r:=by simp
theorem NodO.pin (h:NodO w B g n cap pre x rs r P) {q:Pin} {b' m c':Nat}
  (hown:Own rPin w9 B 107 (.slice (some ⟨b',0,none⟩) m c') (x.ctx++[q]) (fun _=>False)) (hgrow:w.grownBy w9 (Value.slice r.cA r.cn r.cc).ownBlock) (hat:(Value.slice r.cA r.cn r.cc).ownBlock=some b'∨w.heap.size≤b') :
  NodO (w9.setCell ⟨g,rs.length * 6+4,none⟩ (.slice (some ⟨b',0,none⟩) m c')) B g n cap pre { x with ctx:=x.ctx++[q]} rs { r with cA:=some ⟨b',0,none⟩,cn:=m,cc:=c'} P:=by
 have hlt:=h.lt
 have hne:b'≠g:=fun e=>by
  rcases hat with h2|h2
  ·exact h.ag (by rw[h2,e])
  ·omega
 have row9:=h.row.grown hgrow (.inr fun e=>h.ag e.symm) (fun b hb=>hb.elim)
 have row10:=row9.setAt (zHE rs r) (x':={ r with cA:=some ⟨b',0,none⟩,cn:=m,cc:=c'}) (j:=4) (u:=.slice (some ⟨b',0,none⟩) m c') (by decide) fun cs hc=>by
  obtain ⟨rfl,h1⟩:=hc
  exact ⟨rfl,h1⟩
 rw[List.set_append_right _ _ (nR _),Nat.sub_self] at row10
 refine ⟨row10,h.len,fun i a y h1 h2=>(h.ins i a y h1 h2).mono fun b hP hl=>⟨hP,?_⟩,h.nm,h.vr,hown.grown (zBB _ _ _ _) (.inr fun e=>hne (Option.some.inj e)) (fun b hb=>hb.elim),(h.eds.grown hgrow (zPD fun k h1 h2=>h.ce k h2 h1) (fun b hb=>hb.elim)).grown (zBB _ _ _ _) (.inr h.eg) (fun b hb=>hb.elim),fun b hP=>⟨(h.far b hP).1,?_,(h.far b hP).2.2.1,fun e=>?_,(h.far b hP).2.2.2.2⟩,fun e=>hne (Option.some.inj e),h.eg,fun k hk e=>?_⟩
 ·obtain ⟨_,f2,f3,f4,_⟩:=h.far b hP
  rw[heap_setCell_other w9 ⟨g,rs.length * 6+4,none⟩ b _ f3]
  exact hgrow.block b f2 fun e=>f4 e.symm
 ·have:=(h.far b hP).2.1
  have:=hgrow.size
  show b<(w9.setCell _ _).heap.size
  rw[show (w9.setCell ⟨g,rs.length * 6+4,none⟩ (.slice (some ⟨b',0,none⟩) m c')).heap.size=w9.heap.size from by simp]
  omega
 ·have e2:b'=b:=Option.some.inj e
  obtain ⟨_,f2,f3,f4,_⟩:=h.far b hP
  rcases hat with h2|h2
  ·exact f4 (by rw[h2,e2])
  ·omega
 ·have e2:b'=k:=Option.some.inj hk
  rcases hat with h2|h2
  ·exact h.ce b' h2 (by rw[e2];exact e)
  ·have:=(h.eds.lt k e).2
   omega
theorem NodO.edge (h:NodO w B g n cap pre x rs r P) {q:Edge} {b' m c':Nat}
  (hown:Own rEdge w9 B 65 (.slice (some ⟨b',0,none⟩) m c') (x.edges++[q]) (fun _=>False)) (hgrow:w.grownBy w9 (Value.slice r.eA r.en r.ec).ownBlock) (hat:(Value.slice r.eA r.en r.ec).ownBlock=some b'∨w.heap.size≤b') :
  NodO (w9.setCell ⟨g,rs.length * 6+5,none⟩ (.slice (some ⟨b',0,none⟩) m c')) B g n cap pre { x with edges:=x.edges++[q]} rs { r with eA:=some ⟨b',0,none⟩,en:=m,ec:=c'} P:=by
 have hlt:=h.lt
 have hne:b'≠g:=fun e=>by
  rcases hat with h2|h2
  ·exact h.eg (by rw[h2,e])
  ·omega
 have row9:=h.row.grown hgrow (.inr fun e=>h.eg e.symm) (fun b hb=>hb.elim)
 have row10:=row9.setAt (zHE rs r) (x':={ r with eA:=some ⟨b',0,none⟩,en:=m,ec:=c'}) (j:=5) (u:=.slice (some ⟨b',0,none⟩) m c') (by decide) fun cs hc=>by
  obtain ⟨rfl,h1⟩:=hc
  exact ⟨rfl,h1⟩
 rw[List.set_append_right _ _ (nR _),Nat.sub_self] at row10
 refine ⟨row10,h.len,fun i a y h1 h2=>(h.ins i a y h1 h2).mono fun b hP hl=>⟨hP,?_⟩,h.nm,h.vr,(h.ctx.grown hgrow (zPD h.ce) (fun b hb=>hb.elim)).grown (zBB _ _ _ _) (.inr h.ag) (fun b hb=>hb.elim),hown.grown (zBB _ _ _ _) (.inr fun e=>hne (Option.some.inj e)) (fun b hb=>hb.elim),fun b hP=>⟨(h.far b hP).1,?_,(h.far b hP).2.2.1,(h.far b hP).2.2.2.1,fun e=>?_⟩,h.ag,fun e=>hne (Option.some.inj e),fun k hk e=>?_⟩
 ·obtain ⟨_,f2,f3,_,f4⟩:=h.far b hP
  rw[heap_setCell_other w9 ⟨g,rs.length * 6+5,none⟩ b _ f3]
  exact hgrow.block b f2 fun e=>f4 e.symm
 ·have:=(h.far b hP).2.1
  have:=hgrow.size
  show b<(w9.setCell _ _).heap.size
  rw[show (w9.setCell ⟨g,rs.length * 6+5,none⟩ (.slice (some ⟨b',0,none⟩) m c')).heap.size=w9.heap.size from by simp]
  omega
 ·have e2:b'=b:=Option.some.inj e
  obtain ⟨_,f2,f3,_,f4⟩:=h.far b hP
  rcases hat with h2|h2
  ·exact f4 (by rw[h2,e2])
  ·omega
 ·have e2:b'=k:=Option.some.inj e
  rcases hat with h2|h2
  ·exact h.ce k hk (by rw[h2,e2])
  ·have:=(h.ctx.lt k hk).2
   omega
theorem NodO.node (h:NodO w B g n cap pre x rs r P) {s:ByteArray} {v:Ver} {g' m c':Nat}
  (hown:Own rRaw w9 B 63 (.slice (some ⟨g',0,none⟩) m c') ((rs++[r])++[⟨s,v,none,0,0,none,0,0⟩]) (fun _=>False)) (hgrow:w.grownBy w9 (some g)) (hat:g=g'∨w.heap.size≤g') :
  NodO w9 B g' m c' (pre++[x]) ⟨s,v,[],[]⟩ (rs++[r]) ⟨s,v,none,0,0,none,0,0⟩ (fun b=>P b∨(Value.slice r.cA r.cn r.cc).ownBlock=some b∨(Value.slice r.eA r.en r.ec).ownBlock=some b):=by
 have hs:=hgrow.size
 have hgl:=h.lt
 have hk:∀ b,(P b∨(Value.slice r.cA r.cn r.cc).ownBlock=some b∨(Value.slice r.eA r.en r.ec).ownBlock=some b)→B≤b∧b<w.heap.size∧b≠g:=fun b hb=>by
  rcases hb with hb|hb|hb
  ·exact ⟨(h.far b hb).1,(h.far b hb).2.1,(h.far b hb).2.2.1⟩
  ·exact ⟨(h.ctx.lt b hb).1,(h.ctx.lt b hb).2,fun e=>h.ag (by rw[hb,e])⟩
  ·exact ⟨(h.eds.lt b hb).1,(h.eds.lt b hb).2,fun e=>h.eg (by rw[hb,e])⟩
 have hblk:∀ b,(P b∨(Value.slice r.cA r.cn r.cc).ownBlock=some b∨(Value.slice r.eA r.en r.ec).ownBlock=some b)→w9.heap[b]?=w.heap[b]?:=fun b hb=>hgrow.block b (hk b hb).2.1 fun e=>(hk b hb).2.2 (Option.some.inj e)
 refine ⟨hown,by rw[List.length_append,List.length_append,h.len];rfl,fun i a y h1 h2=>?_,rfl,rfl,Own.nil_ _ _ _ _ (fun b hb=>hb.elim),Own.nil_ _ _ _ _ (fun b hb=>hb.elim),fun b hb=>⟨(hk b hb).1,lL (hk b hb).2.1 hs,fun e=>?_,by simp[Value.ownBlock],by simp[Value.ownBlock]⟩,by simp[Value.ownBlock],by simp[Value.ownBlock],fun k hk=>by simp[Value.ownBlock] at hk⟩
 ·by_cases hi:i<rs.length
  ·rw[List.getElem?_append_left hi] at h1
   rw[List.getElem?_append_left (by rw[←h.len];exact hi)] at h2
   exact (h.ins i a y h1 h2).mono fun b hb hl=>⟨.inl hb,hblk b (.inl hb)⟩
  ·have hi2:i=rs.length:=by
    have:=(gS.1 h1).1
    rw[List.length_append,List.length_singleton] at this
    omega
   rw[hi2,zHE] at h1
   rw[hi2,h.len] at h2
   have h3:(pre++[x])[pre.length]?=some x:=by simp
   rw[h3] at h2
   cases h1
   cases h2
   refine ⟨h.nm,h.vr,?_,?_⟩
   ·exact (zAL rPin).mono (zSA h.ctx) fun b hb hl=>⟨.inr (.inl hb),hblk b (.inr (.inl hb))⟩
   ·exact (zAL rEdge).mono (zSA h.eds) fun b hb hl=>⟨.inr (.inr hb),hblk b (.inr (.inr hb))⟩
 ·have:=hk b hb
  rcases hat with h2|h2<;>omega
theorem NodO.slv (h:NodO w B g n cap pre x rs r P):SlV rNode w (fun b=>B≤b) (pre++[x]) (.slice (some ⟨g,0,none⟩) n cap):=by
 have hc:∀ (i:Nat) (y:Node),(pre++[x])[i]?=some y→∃ a,(rs++[r])[i]?=some a∧RawIn w (fun b=>B≤b) a y:=fun i y hy=>by
  by_cases hi:i<pre.length
  ·rw[List.getElem?_append_left hi] at hy
   have hi2:i<rs.length:=by rw[h.len];exact hi
   refine ⟨rs[i],by rw[List.getElem?_append_left hi2];exact gE hi2,(h.ins i _ y (gE hi2) hy).mono fun b hb _=>⟨(h.far b hb).1,rfl⟩⟩
  ·have hi2:i=pre.length:=by
    have:=(gS.1 hy).1
    rw[List.length_append,List.length_singleton] at this
    omega
   have h3:(pre++[x])[pre.length]?=some x:=by simp
   rw[hi2,h3] at hy
   cases hy
   refine ⟨r,by rw[hi2,←h.len];exact zHE rs r,h.nm,h.vr,?_,?_⟩
   ·exact (zAL rPin).mono h.ctx.slv fun b hb _=>⟨by rcases hb with hb|hb;exact hb.elim;exact hb,rfl⟩
   ·exact (zAL rEdge).mono h.eds.slv fun b hb _=>⟨by rcases hb with hb|hb;exact hb.elim;exact hb,rfl⟩
 obtain ⟨h0,xs,h1,h2⟩:=h.row
 have h1':=h1
 rcases h1.2 with ⟨h3,_⟩|⟨g',cap',cur,hv,hb,hg,hnc,hcm,hsz,htake⟩
 ·cases h3
 ·cases hv
  have hl:(rs++[r]).length=(pre++[x]).length:=by rw[List.length_append,List.length_append,h.len];rfl
  refine ⟨some ⟨g,0,none⟩,cap,by rw[hl],by rw[←hl];exact hnc,hcm,(fun h=>by cases h),fun _=>⟨g,0,rfl,hb,(aS.1 hg).1,fun i y hy=>?_⟩⟩
  obtain ⟨a,ha,e1,e2,s1,s2⟩:=hc i y hy
  obtain ⟨cs,⟨rfl,z0,z1,z2,z3⟩,hcell⟩:=h.row.cell ha
  refine ⟨[.string a.name,.int .i64 a.ver.major,.int .i64 a.ver.minor,.int .i64 a.ver.patch,.slice a.cA a.cn a.cc,.slice a.eA a.en a.ec],⟨.slice a.cA a.cn a.cc,.slice a.eA a.en a.ec,by rw[e1,e2],by rw[←e1];exact z0,by rw[←e2];exact z1,by rw[←e2];exact z2,by rw[←e2];exact z3,s1,s2⟩,fun j u hu=>?_⟩
  rw[Nat.zero_add]
  exact hcell j u hu
end
theorem NodO.other {w:World} {B g n cap:Nat} {pre:List Node} {x:Node} {rs:List RawN} {r:RawN} {P:Nat→Prop} (h:NodO w B g n cap pre x rs r P) {q:Nat} (hq:q≠g) (hc:(Value.slice r.cA r.cn r.cc).ownBlock≠some q) (he:(Value.slice r.eA r.en r.ec).ownBlock≠some q) (hP:∀ b,P b→b≠q) (o:Nat) (v:Value):NodO (w.setCell ⟨q,o,none⟩ v) B g n cap pre x rs r P:=
 ⟨h.row.grown (zBB _ _ _ _) (.inr fun e=>hq (Option.some.inj e).symm) (fun b hb=>hb.elim),h.len,fun i a y h1 h2=>(h.ins i a y h1 h2).mono fun b hb _=>⟨hb,heap_setCell_other w ⟨q,o,none⟩ b v (hP b hb)⟩,h.nm,h.vr,
   h.ctx.grown (zBB _ _ _ _) (.inr hc) (fun b hb=>hb.elim),h.eds.grown (zBB _ _ _ _) (.inr he) (fun b hb=>hb.elim),fun b hb=>⟨(h.far b hb).1,by simpa using (h.far b hb).2.1,(h.far b hb).2.2⟩,h.ag,h.eg,h.ce⟩
structure LkS (w0 w:World) (GB g n cap:Nat) (pre:List Node) (x:Node) (rs:List RawN) (r:RawN) (P:Nat→Prop):Prop where
 nod:NodO w w0.heap.size g n cap pre x rs r P
 gb:w.heap[GB]?=some (.cells #[.slice (some ⟨g,0,none⟩) n cap] 27 (0,0))
 le:w0.heap.size≤GB
 g_ne:GB≠g
 c_ne:(Value.slice r.cA r.cn r.cc).ownBlock≠some GB
 e_ne:(Value.slice r.eA r.en r.ec).ownBlock≠some GB
 p_ne:∀ b,P b→b≠GB
 bel:Below w0.heap.size w0 w
section
variable {w0 w w9:World} {GB g n cap:Nat} {pre:List Node} {x:Node} {rs:List RawN} {r:RawN} {P:Nat→Prop}
theorem LkS.lt (h:LkS w0 w GB g n cap pre x rs r P):GB<w.heap.size:=(aS.1 h.gb).1
theorem LkS.keep (h:LkS w0 w GB g n cap pre x rs r P) (hb:Below w.heap.size w w9):LkS w0 w9 GB g n cap pre x rs r P:=
 ⟨h.nod.keep hb,(hb.block _ h.lt).trans h.gb,h.le,h.g_ne,h.c_ne,h.e_ne,h.p_ne,bot h.bel hb⟩
theorem LkS.cells (h:LkS w0 w GB g n cap pre x rs r P):w.cell? ⟨GB,0,none⟩=some (.slice (some ⟨g,0,none⟩) n cap)∧w.frozen? ⟨GB,0,none⟩=false ∧
  w.cell? ⟨g,rs.length * 6+4,none⟩=some (.slice r.cA r.cn r.cc)∧w.cell? ⟨g,rs.length * 6+5,none⟩=some (.slice r.eA r.en r.ec)∧w.frozen? ⟨g,rs.length * 6+4,none⟩=false∧w.frozen? ⟨g,rs.length * 6+5,none⟩=false:=by
 obtain ⟨cs,⟨rfl,_⟩,hcell⟩:=h.nod.row.cell (zHE rs r)
 refine ⟨cO _ _ 0 _ _ _ h.gb,by simp[World.frozen?,h.gb],hcell 4 _ rfl,hcell 5 _ rfl,h.nod.row.frozen _,h.nod.row.frozen _⟩
theorem LkS.cn_eq (h:LkS w0 w GB g n cap pre x rs r P):r.cn=x.ctx.length∧r.en=x.edges.length∧n=rs.length+1:=by
 refine ⟨h.nod.ctx.slv.n_eq,h.nod.eds.slv.n_eq,?_⟩
 have:=h.nod.row.slv.n_eq
 rw[List.length_append] at this
 exact this
theorem LkS.pin (h:LkS w0 w GB g n cap pre x rs r P) {q:Pin} {b' m c':Nat}
  (hown:Own rPin w9 w0.heap.size 107 (.slice (some ⟨b',0,none⟩) m c') (x.ctx++[q]) (fun _=>False)) (hgrow:w.grownBy w9 (Value.slice r.cA r.cn r.cc).ownBlock) (hat:(Value.slice r.cA r.cn r.cc).ownBlock=some b'∨w.heap.size≤b') :
  LkS w0 (w9.setCell ⟨g,rs.length * 6+4,none⟩ (.slice (some ⟨b',0,none⟩) m c')) GB g n cap pre { x with ctx:=x.ctx++[q]} rs { r with cA:=some ⟨b',0,none⟩,cn:=m,cc:=c'} P:=by
 have hz:=h.bel.size
 refine ⟨h.nod.pin hown hgrow hat,?_,h.le,h.g_ne,fun e=>?_,h.e_ne,h.p_ne,(h.bel.grown hgrow hz fun k hk=>(h.nod.ctx.lt k hk).1).grown (zBB _ _ _ _) (nT hz hgrow.size) fun k hk=>by cases hk;exact h.nod.lt.1⟩
 ·rw[heap_setCell_other w9 ⟨g,rs.length * 6+4,none⟩ GB _ h.g_ne,hgrow.block GB h.lt (fun e=>h.c_ne e.symm)]
  exact h.gb
 ·have e2:b'=GB:=Option.some.inj e
  rcases hat with h2|h2
  ·exact h.c_ne (by rw[h2,e2])
  ·have:=h.lt;omega
theorem LkS.edge (h:LkS w0 w GB g n cap pre x rs r P) {q:Edge} {b' m c':Nat}
  (hown:Own rEdge w9 w0.heap.size 65 (.slice (some ⟨b',0,none⟩) m c') (x.edges++[q]) (fun _=>False)) (hgrow:w.grownBy w9 (Value.slice r.eA r.en r.ec).ownBlock) (hat:(Value.slice r.eA r.en r.ec).ownBlock=some b'∨w.heap.size≤b') :
  LkS w0 (w9.setCell ⟨g,rs.length * 6+5,none⟩ (.slice (some ⟨b',0,none⟩) m c')) GB g n cap pre { x with edges:=x.edges++[q]} rs { r with eA:=some ⟨b',0,none⟩,en:=m,ec:=c'} P:=by
 have hz:=h.bel.size
 refine ⟨h.nod.edge hown hgrow hat,?_,h.le,h.g_ne,h.c_ne,fun e=>?_,h.p_ne,(h.bel.grown hgrow hz fun k hk=>(h.nod.eds.lt k hk).1).grown (zBB _ _ _ _) (nT hz hgrow.size) fun k hk=>by cases hk;exact h.nod.lt.1⟩
 ·rw[heap_setCell_other w9 ⟨g,rs.length * 6+5,none⟩ GB _ h.g_ne,hgrow.block GB h.lt (fun e=>h.e_ne e.symm)]
  exact h.gb
 ·have e2:b'=GB:=Option.some.inj e
  rcases hat with h2|h2
  ·exact h.e_ne (by rw[h2,e2])
  ·have:=h.lt;omega
theorem LkS.node (h:LkS w0 w GB g n cap pre x rs r P) {s:ByteArray} {v:Ver} {g' m c':Nat}
  (hown:Own rRaw w9 w0.heap.size 63 (.slice (some ⟨g',0,none⟩) m c') ((rs++[r])++[⟨s,v,none,0,0,none,0,0⟩]) (fun _=>False)) (hgrow:w.grownBy w9 (some g)) (hat:g=g'∨w.heap.size≤g') :
  LkS w0 (w9.setCell ⟨GB,0,none⟩ (.slice (some ⟨g',0,none⟩) m c')) GB g' m c' (pre++[x]) ⟨s,v,[],[]⟩ (rs++[r]) ⟨s,v,none,0,0,none,0,0⟩ (fun b=>P b∨(Value.slice r.cA r.cn r.cc).ownBlock=some b∨(Value.slice r.eA r.en r.ec).ownBlock=some b):=by
 have hz:=h.bel.size
 have hne:GB≠g':=fun e=>by
  rcases hat with h2|h2
  ·exact h.g_ne (by rw[h2,e])
  ·have:=h.lt;omega
 have hp:∀ b,(P b∨(Value.slice r.cA r.cn r.cc).ownBlock=some b∨(Value.slice r.eA r.en r.ec).ownBlock=some b)→b≠GB:=fun b hb e=>by
  rcases hb with hb|hb|hb
  ·exact h.p_ne b hb e
  ·exact h.c_ne (by rw[hb,e])
  ·exact h.e_ne (by rw[hb,e])
 have hc9:w9.heap[GB]?=some (.cells #[.slice (some ⟨g,0,none⟩) n cap] 27 (0,0)):=(hgrow.block GB h.lt (fun e=>h.g_ne (Option.some.inj e))).trans h.gb
 refine ⟨(h.nod.node hown hgrow hat).other hne (by simp[Value.ownBlock]) (by simp[Value.ownBlock]) hp 0 _,zMj hc9 _,h.le,hne,by simp[Value.ownBlock],by simp[Value.ownBlock],hp,(h.bel.grown hgrow hz fun k hk=>by cases hk;exact h.nod.lt.1).grown (zBB _ _ _ _) (nT hz hgrow.size) fun k hk=>by cases hk;exact h.le⟩
theorem LkS.made {w:World}:LkS w ((w.alloc (.cells #[.string ⟨#[]⟩,.int .i64 0,.int .i64 0,.int .i64 0,.slice none 0 0,.slice none 0 0] 63)).alloc (.cells #[.slice (some ⟨w.heap.size,0,none⟩) 1 1] 27)) (w.heap.size+1) w.heap.size 1 1 [] ⟨⟨#[]⟩,⟨0,0,0⟩,[],[]⟩ [] ⟨⟨#[]⟩,⟨0,0,0⟩,none,0,0,none,0,0⟩ (fun _=>False):=by
 have hz:(w.alloc (.cells #[.string ⟨#[]⟩,.int .i64 0,.int .i64 0,.int .i64 0,.slice none 0 0,.slice none 0 0] 63)).heap.size=w.heap.size+1:=by simp
 have h1:=heap_alloc_new (w.alloc (.cells #[.string ⟨#[]⟩,.int .i64 0,.int .i64 0,.int .i64 0,.slice none 0 0,.slice none 0 0] 63)) (.cells #[.slice (some ⟨w.heap.size,0,none⟩) 1 1] 27)
 rw[hz] at h1
 have hB:Below w.heap.size w ((w.alloc (.cells #[.string ⟨#[]⟩,.int .i64 0,.int .i64 0,.int .i64 0,.slice none 0 0,.slice none 0 0] 63)).alloc (.cells #[.slice (some ⟨w.heap.size,0,none⟩) 1 1] 27)):=bal (bal (bR _ _) _) _
 refine ⟨⟨⟨fun b hb=>hb.elim,[.string ⟨#[]⟩,.int .i64 0,.int .i64 0,.int .i64 0,.slice none 0 0,.slice none 0 0],⟨rfl,.inr ⟨w.heap.size,1,_,rfl,nR _,(Below.heap_alloc _ _ _ (by rw[hz];omega)).trans (heap_alloc_new w _),nR _,by decide,rfl,rfl⟩⟩,Elems.one_ (r:=rRaw) (x:=⟨⟨#[]⟩,⟨0,0,0⟩,none,0,0,none,0,0⟩) ⟨rfl,by decide,⟨by decide,by decide⟩,⟨by decide,by decide⟩,⟨by decide,by decide⟩⟩⟩,rfl,fun i a y hi=>(by cases hi),rfl,rfl,Own.nil_ _ _ _ _ (fun b hb=>hb.elim),Own.nil_ _ _ _ _ (fun b hb=>hb.elim),fun b hb=>hb.elim,by simp[Value.ownBlock],by simp[Value.ownBlock],fun k hk=>by simp[Value.ownBlock] at hk⟩,h1,Nat.le_succ _,by omega,by simp[Value.ownBlock],by simp[Value.ownBlock],fun b hb=>hb.elim,hB⟩
end
