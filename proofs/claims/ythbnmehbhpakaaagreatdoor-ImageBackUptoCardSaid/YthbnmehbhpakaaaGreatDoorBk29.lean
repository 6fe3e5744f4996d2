/-
  image.directories: the directories that have packages, out of a map of files: walked.
-/
import Derived.Test.YthbnmehbhpakaaaGreatDoorBk28
import Derived.Test.YthbnmehbhpakaaaGreatDoorBk27
import Derived.Test.YthbnmehbhpakaaaGreatDoorBk21
import Derived.Test.YthbnmehbhpakaaaGreatDoorBk24
import Derived.Deep.RegionLaw
import Derived.Test.YthbnmehbhpakaaaGreatDoorAl
set_option linter.all false
set_option maxHeartbeats 16000000
set_option maxRecDepth 100000
namespace Go.Proofs.YthbnmehbhpakaaaGreatDoor
open Go.Rows Go.RowKit Go.Shelf Go.Sort Go.Maps
theorem zR2:Elt Tryz.prog 59 9 144:=Elt.mk' (z:=.agg #[.slice none 0 0,.string ⟨#[]⟩,.int .i64 0,.int .i64 0,.int .i64 0,.slice none 0 0,.slice none 0 0,.slice none 0 0,.int .i64 0]) (by kernel_rfl) rfl (by decide)
theorem zD7 {W:World} {b:Nat} {x:Value} {t:TypeId} (h:W.heap[b]?=some (.cells #[x] t (0,0))) (v:Value):(W.setCell ⟨b,0,none⟩ v).heap[b]?=some (.cells #[v] t (0,0)):=zAU (o:=0) h v
theorem row1I {W:World} {b:Nat} {x:Value} {t:TypeId} (h:W.heap[b]?=some (.cells #[x] t (0,0))):W.cell? ⟨b,0,none⟩=some x∧W.frozen? ⟨b,0,none⟩=false:=⟨cO _ _ 0 _ _ _ h,by simp[World.frozen?,h]⟩
theorem zQs (t:ByteArray):I64 (packQ t).1.ver.major∧I64 (packQ t).1.ver.minor∧I64 (packQ t).1.ver.patch:=by
 unfold packQ
 cases h:packE t with
 | error k=>
   show I64 0∧I64 0∧I64 0
   exact ⟨⟨by decide,by decide⟩,⟨by decide,by decide⟩,⟨by decide,by decide⟩⟩
 | ok p=>
   have hb:=zRY h
   unfold packB at hb
   simp[verB,partB] at hb
   show I64 p.ver.major∧I64 p.ver.minor∧I64 p.ver.patch
   unfold I64
   omega
theorem zHk (s:ByteArray):(zDK s).size≤s.size:=by
 rw[zAJ,zAJ]
 unfold zDK Lib.trimSuffix
 rw[List.toList_toArray]
 split
 ·rw[List.length_take];omega
 ·exact nR _
theorem zMR (s:ByteArray):(zB1 s).1.length≤s.size:=by
 unfold zB1
 by_cases h0:s=⟨#[47]⟩
 ·rw[if_pos h0];exact nZ _
 ·rw[if_neg h0]
  rcases hp:zCR s with _|p
  ·exact nZ _
  ·obtain ⟨_,_,h2⟩:=zDj hp
   have hj:∀ l:List ByteArray,l.length≤(zAi l).length:=by
    intro l
    induction l with
    | nil=>exact nR _
    | cons a t ih=>
      rw[zAi,List.length_append,List.length_append,show stepB.data.toList.length=9 by decide +kernel,List.length_cons]
      omega
   have:=hj p
   rw[h2,←zAJ] at this
   exact this
def DirsP (l:List File) (w:World) (e:Ending) (w':World):Prop:=
 (zA7 l=true∧∃ T g n cap S,e=.returned (.tuple #[.agg #[.slice (some ⟨g,0,none⟩) n cap],.bool true])∧T.Perm (root0::dirsF l)∧T.Pairwise upT∧SrtV w' g n cap T S∧w.heap.size≤g∧∀ b,S b→w.heap.size≤b)∨(zA7 l=false∧e=.returned (.tuple #[.agg #[.slice none 0 0],.bool false]))
structure DirsI (w0 w3 wr:World) (B IT TB N:Nat) (D:DataW Unit) (l:List File) (left:Lit→Bool) (cnt g n cap:Nat) (acc:List Dir) (S:Nat→Prop) (dn:List File):Prop where
 go:Going wr B IT N D l left cnt
 own:Own rDir wr w0.heap.size 59 (.slice (some ⟨g,0,none⟩) n cap) (root0::acc) S
 tb:wr.heap[TB]?=some (.cells #[.slice (some ⟨g,0,none⟩) n cap] 30 (0,0))
 hS:∀ b,S b→w3.heap.size≤b
 g_t:g≠TB
 g_i:g≠IT
 g_b:g≠B
 perm:acc.Perm (dirsF dn)
 ok:zA7 dn=true
 bel:Below w0.heap.size w0 wr
 big:w3.heap.size≤wr.heap.size
section
variable {w0 w3 wr w9:World} {B IT TB N:Nat} {D:DataW Unit} {l:List File} {left:Lit→Bool} {cnt g n cap:Nat} {acc:List Dir} {S:Nat→Prop} {dn:List File}
theorem DirsI.keep (h:DirsI w0 w3 wr B IT TB N D l left cnt g n cap acc S dn) (hb:Below wr.heap.size wr w9):DirsI w0 w3 w9 B IT TB N D l left cnt g n cap acc S dn:=
 ⟨h.go.keep hb,h.own.keep hb,(hb.block _ (aS.1 h.tb).1).trans h.tb,h.hS,h.g_t,h.g_i,h.g_b,h.perm,h.ok,bot h.bel hb,nT h.big hb.size⟩
theorem DirsI.n_eq (h:DirsI w0 w3 wr B IT TB N D l left cnt g n cap acc S dn):n=acc.length+1:=h.own.slv.n_eq
theorem DirsI.cells (h:DirsI w0 w3 wr B IT TB N D l left cnt g n cap acc S dn):wr.cell? ⟨TB,0,none⟩=some (.slice (some ⟨g,0,none⟩) n cap)∧wr.frozen? ⟨TB,0,none⟩=false:=row1I h.tb
theorem DirsI.len (h:DirsI w0 w3 wr B IT TB N D l left cnt g n cap acc S (doneF left l)):acc.length≤l.length:=by
 rw[h.perm.length_eq]
 unfold dirsF doneF
 rw[List.length_map]
 exact nT (List.length_filter_le _ _) (List.length_filter_le _ _)
theorem DirsI.next (h:DirsI w0 w3 wr B IT TB N D l left cnt g n cap acc S dn) {left':Lit→Bool} {cnt':Nat} (hG:Going w9 B IT N D l left' cnt') (hg:wr.grownBy w9 (some IT)) (hT:TB≠IT) (hI:w0.heap.size≤IT) (hI3:IT<w3.heap.size) :
  DirsI w0 w3 w9 B IT TB N D l left' cnt' g n cap acc S dn:=
 ⟨hG,h.own.grown hg (.inr fun e=>h.g_i (Option.some.inj e)) fun b hb e=>by have:=h.hS b hb;have:=Option.some.inj e;omega,(hg.block _ (aS.1 h.tb).1 fun e=>hT (Option.some.inj e)).trans h.tb,h.hS,h.g_t,h.g_i,h.g_b,h.perm,h.ok,h.bel.grown hg h.bel.size (fun k e=>by have:=Option.some.inj e;omega),nT h.big hg.size⟩
theorem DirsI.push {S':Nat→Prop} {dn':List File} {d:Dir} {g' m c':Nat} (h:DirsI w0 w3 wr B IT TB N D l left cnt g n cap acc S dn) (hT3:TB<w3.heap.size) (hT0:w0.heap.size≤TB) (hTI:TB≠IT) (hTB:TB≠B) (hI3:IT<w3.heap.size) (hB3:B<w3.heap.size) (hown:Own rDir w9 w0.heap.size 59 (.slice (some ⟨g',0,none⟩) m c') ((root0::acc)++[d]) S') (hS':∀ b,S' b→w3.heap.size≤b) (hg:wr.grownBy w9 (some g)) (hat:g=g'∨wr.heap.size≤g')
  (hp:(acc++[d]).Perm (dirsF dn')) (hk:zA7 dn'=true) :
  DirsI w0 w3 (w9.setCell ⟨TB,0,none⟩ (.slice (some ⟨g',0,none⟩) m c')) B IT TB N D l left cnt g' m c' (acc++[d]) S' dn':=by
 have hb:=h.big
 have hgl:=(h.own.lt g rfl).1
 have hne:g'≠TB∧g'≠IT∧g'≠B:=by
  rcases hat with rfl|hat
  ·exact ⟨h.g_t,h.g_i,h.g_b⟩
  ·omega
 have ht9:w9.heap[TB]?=some (.cells #[.slice (some ⟨g,0,none⟩) n cap] 30 (0,0)):=(hg.block _ (aS.1 h.tb).1 fun e=>h.g_t (Option.some.inj e).symm).trans h.tb
 refine ⟨(h.go.kept hg (fun e=>h.g_b (Option.some.inj e).symm) (fun e=>h.g_i (Option.some.inj e).symm)).kept (zBB _ _ _ _) (fun e=>hTB (Option.some.inj e).symm) (fun e=>hTI (Option.some.inj e).symm),hown.grown (zBB _ _ _ _) (.inr fun e=>hne.1 (Option.some.inj e)) (fun b hb e=>by have:=hS' b hb;have:=Option.some.inj e;omega),zD7 ht9 _,hS',hne.1,hne.2.1,hne.2.2,hp,hk,(h.bel.grown hg h.bel.size (fun k e=>by cases e;exact hgl)).grown (zBB _ _ _ _) (nT h.bel.size hg.size) (fun k e=>by cases e;exact hT0),?_⟩
 have:=hg.size
 simpa using (by omega:w3.heap.size≤w9.heap.size)
theorem DirsI.with (h:DirsI w0 w3 wr B IT TB N D l left cnt g n cap acc S dn) {dn':List File} (hp:acc.Perm (dirsF dn')) (hk:zA7 dn'=true):DirsI w0 w3 wr B IT TB N D l left cnt g n cap acc S dn':=
 { h with perm:=hp,ok:=hk}
theorem DirsI.more (h:DirsI w0 w3 wr B IT TB N D l left cnt g n cap acc S dn) {Z:Nat} (hg:g<Z) (h3:w3.heap.size≤Z):DirsI w0 w3 wr B IT TB N D l left cnt g n cap acc (fun b=>S b∨(Z≤b∧b<wr.heap.size)) dn:=
 { h with own:=h.own.moreNew (B:=Z) (fun k e=>by cases e;exact hg),hS:=fun b hb=>by rcases hb with hb|hb;exact h.hS b hb;omega}
theorem SrtV.other {w:World} {g n cap:Nat} {l:List Dir} {S:Nat→Prop} (h:SrtV w g n cap l S) {q:Nat} (hq:q≠g) (hS:∀ b,S b→b≠q) (o:Nat) (v:Value):SrtV (w.setCell ⟨q,o,none⟩ v) g n cap l S:=by
 obtain ⟨h1,h2,h3,h4,⟨cs,t,hc⟩,h5,h6⟩:=h
 have hb:∀ b,b≠q→(w.setCell ⟨q,o,none⟩ v).heap[b]?=w.heap[b]?:=fun b hb=>heap_setCell_other w ⟨q,o,none⟩ b v hb
 refine ⟨h1,h2,h3,by simpa using h4,⟨cs,t,(hb g (Ne.symm hq)).trans hc⟩,fun b hb=>⟨by simpa using (h5 b hb).1,(h5 b hb).2⟩,fun i x hx=>?_⟩
 obtain ⟨cs,q1,q2⟩:=h6 i x hx
 exact ⟨cs,Rp.keep q1 fun b hb' _=>hb b (hS b hb'),fun j u hu=>(zAI (hb g (Ne.symm hq)) _ _).trans (q2 j u hu)⟩
theorem zGq {l m:List File} (hz:∀ f∈l,f.path.size≤4096∧f.data.size≤4611686018427387904) (hm:∀ f∈m,f∈l) {acc:List Dir} (hp:acc.Perm (dirsF m)):∀ d∈root0::acc,d.path.length * 32≤140737488355328:=by
 intro d hd
 rcases List.mem_cons.1 hd with rfl|hd
 ·decide
 ·unfold dirsF at hp
  obtain ⟨f,hf,rfl⟩:=List.mem_map.1 (hp.mem_iff.1 hd)
  have h1:=(hz f (hm f ((List.mem_filter.1 hf).1))).1
  have h2:=zHk f.path
  have h3:=zMR (zDK f.path)
  show (zB1 (zDK f.path)).1.length * 32≤_
  omega
end
theorem zHL (B:Nat) (l:List File) (w:World) (hv:Vok w) (hM:zBK w B l) (hn:(zAm l).Nodup) (hz:∀ f∈l,f.path.size≤4096∧f.data.size≤4611686018427387904) (hl9:l.length≤900000) :
  Calls Tryz.prog 40 #[.map (some B)] w fun e w'=>DirsP l w e w'∧Below w.heap.size w w':=by
 have hB0:B<w.heap.size:=by
  obtain ⟨_,_,h,_⟩:=hM
  exact h.lt
 have Hv:=cH hv
 have HM:=cH hM
 have Hn:=cH hn
 have Hz:=cH hz
 have Hcut:Hid (∀ (s:ByteArray) (W:World),s.size≤4096→Calls Tryz.prog 99 #[.string s,.string ⟨#[47,112,97,99,107,97,103,101]⟩] W fun e w'=>e=.returned (.tuple #[.string (zDK s),.bool (Lib.hasSuffix s.data.toList pkgF.data.toList)])∧w'=W):=fun s W h=>Tryz.strings_CutSuffix s pkgF W (by omega)
 clear hv hM hn hz
 go_enter Tryz.func40,Tryz.ntmps40
 go_upto_region 1 with (fail)
 obtain ⟨w0,hw0⟩:∃ w0,w0=w.alloc (.cells #[.slice none 0 0] 30):=⟨_,rfl⟩
 have hr0:w0.heap[w.heap.size]?=some (.cells #[.slice none 0 0] 30 (0,0)):=by rw[hw0];exact heap_alloc_new w _
 have HB0:Hid (Below w.heap.size w w0):=by unfold Hid;rw[hw0];exact bal (bR _ _) _
 have hz0:w.heap.size<w0.heap.size:=(aS.1 hr0).1
 rw[←hw0]
 have Hr0:=cH hr0
 clear hw0 hr0
 go_upto_region 2 with (fail)
 obtain ⟨w2,hw2⟩:∃ w2,w2=(w0.alloc (.cells #[.slice none 0 0,.string ⟨#[]⟩,.int .i64 0,.int .i64 0,.int .i64 0,.slice none 0 0,.slice none 0 0,.slice none 0 0,.int .i64 0] 59)).alloc (.cells #[.slice (some ⟨w0.heap.size,0,none⟩) 1 1] 30):=⟨_,rfl⟩
 have hq2:=zMs w0 (.cells #[.slice none 0 0,.string ⟨#[]⟩,.int .i64 0,.int .i64 0,.int .i64 0,.slice none 0 0,.slice none 0 0,.slice none 0 0,.int .i64 0] 59) (.cells #[.slice (some ⟨w0.heap.size,0,none⟩) 1 1] 30)
 have hB2:Below w0.heap.size w0 w2:=by rw[hw2];exact bal (bal (bR _ _) _) _
 rw[←hw2] at hq2 ⊢
 obtain ⟨TB,hTB⟩:∃ TB,TB=w0.heap.size+1:=⟨_,rfl⟩
 rw[←hTB] at hq2 ⊢
 have htl:TB<w2.heap.size:=(aS.1 hq2.2).1
 have hown2:Own rDir w2 w0.heap.size 59 (.slice (some ⟨w0.heap.size,0,none⟩) 1 1) [root0] (fun _=>False):=⟨fun b hb=>hb.elim,zDH,⟨rfl,.inr ⟨w0.heap.size,1,zDH.toArray,rfl,nR _,hq2.1,nR _,by decide,rfl,rfl⟩⟩,zDH,[],rfl,zG5 _ _,rfl⟩
 have HM2:=cH (HM.out.keep (bot HB0.out hB2))
 clear hw2 HM
 go_wp2_with (first|(at_range;refine zE8 rfl _ rfl rfl HM2.out Hn.out ?_;intro w3 N D left cnt hG hd0 hg3 hs3)|go_in)
 go_frame
 obtain ⟨IT,hIT⟩:∃ IT,IT=w2.heap.size:=⟨_,rfl⟩
 rw[←hIT] at hG ⊢
 have hI3:IT<w3.heap.size:=by omega
 have hT3:TB<w3.heap.size:=by omega
 have hB3:B<w3.heap.size:=by omega
 have hT0:w0.heap.size≤TB:=by omega
 have hI0:w0.heap.size≤IT:=by omega
 have hTI:TB≠IT:=by omega
 have hTBB:TB≠B:=by omega
 have HI:Hid (DirsI w0 w3 w3 B IT TB N D l left cnt w0.heap.size 1 1 [] (fun _=>False) (doneF left l)):=by
  refine ⟨hG,hown2.grown hg3 (.inr (by simp[Value.ownBlock])) (fun b hb=>hb.elim),(hg3.block _ htl (by simp)).trans hq2.2,fun b hb=>hb.elim,by omega,by omega,by omega,?_,?_,hB2.grown hg3 hB2.size (fun k e=>by cases e),nR _⟩
  ·rw[hd0];exact List.Perm.nil
  ·rw[hd0];rfl
 have HRw:Hid (∀ W,Below w0.heap.size w0 W→W.heap[w.heap.size]?=some (.cells #[.slice none 0 0] 30 (0,0))):=fun W h=>(h.block _ hz0).trans Hr0.out
 have Hvw:Hid (∀ W,Below w0.heap.size w0 W→Vok W):=fun W h=>Hv.out.below (bot HB0.out h)
 clear hG hd0 hg3 hs3 hq2 hB2 hown2 HM2 Hr0 Hv htl hIT hTB
 go_loopw [18] (fun _ wr=>∃ (left:Lit→Bool) (cnt g n cap:Nat) (acc:List Dir) (S:Nat→Prop),Hid (DirsI w0 w3 wr B IT TB N D l left cnt g n cap acc S (doneF left l))) (fun _ wr=>wr.rangeLeft B IT)
 case atStart=>exact ⟨_,_,_,_,_,_,_,HI.out⟩
 case round=>
  clear HI
  clear left cnt
  obtain ⟨left,cnt,g,n,cap,acc,S,HD⟩:=hrel
  go_wp2_with (first|(at_next;refine zFu rfl _ rfl rfl HD.out.go Hn.out ?_ ?_)|go_in)
  ·intro hdone
   have hok:zA7 l=true:=by have:=HD.out.ok;rwa [hdone] at this
   have hpm:acc.Perm (dirsF l):=by have:=HD.out.perm;rwa [hdone] at this
   obtain ⟨tc,tf⟩:=HD.out.cells
   have hal:=HD.out.len
   have hgl:=(HD.out.own.lt g rfl).1
   have HS:=cH (zLT g n cap (root0::acc) wr w0.heap.size S HD.out.own (by rw[List.length_cons];omega) (zGq Hz.out (fun f h=>h) hpm))
   have hRr:=HRw.out wr HD.out.bel
   have HRr:=cH hRr
   have Hpm:=cH hpm
   have HDx:=cH HD.out
   clear hRr hpm hal HD
   go_wp2_with fail
   refine HS.out.mono ?_
   rintro e w9 ⟨rfl,⟨T,hT1,hT2,hT4⟩,hg9⟩
   have hR9:=(hg9.block w.heap.size (aS.1 HRr.out).1 (fun e=>by have:=Option.some.inj e;omega)).trans HRr.out
   have tc:=(zAI (hg9.block TB (zAE tc) (fun e=>HDx.out.g_t (Option.some.inj e).symm)) 0 none).trans tc
   have HR9:=cH hR9
   have HP9:Hid (T.Perm (root0::dirsF l)∧T.Pairwise upT∧SrtV w9 g n cap T S):=⟨hT1.trans (List.Perm.cons _ Hpm.out),hT2,hT4⟩
   have HB9:Hid (Below w.heap.size w w9):=bot HB0.out (HDx.out.bel.grown hg9 HDx.out.bel.size (fun k e=>by cases e;exact hgl))
   obtain ⟨a0,f0⟩:=row1I hR9
   clear hR9 hT1 hT2 hT4 hg9 HS tf
   go_wp2_with fail
   exact zAC rfl rfl rfl rfl (zD7 HR9.out _) Tryz.underlying30 rfl (by kernel_rfl) ⟨.inl ⟨hok,T,g,n,cap,S,rfl,HP9.out.1,HP9.out.2.1,HP9.out.2.2.other (by omega) (fun b hb=>by have:=HDx.out.hS b hb;omega) _ _,by omega,fun b hb=>by have:=HDx.out.hS b hb;omega⟩,HB9.out.setCell (nR _) _⟩
  ·intro f w1 cnt1 hfm hfl hG1 hlt1 hg1 hs1 hen
   obtain ⟨hfp,hfd⟩:=Hz.out f hfm
   have HD1:=cH (HD.out.next hG1 hg1 hTI hI0 hI3)
   have Hms:Hid (∀ W l' c',Going W B IT N D l l' c'→c'=cnt1→W.rangeLeft B IT<wr.rangeLeft B IT):=fun W l' c' h e=>by rw[h.1.left_eq,HD.out.go.1.left_eq,e];exact hlt1
   have HlD:=cH HD.out.len
   have Hfm:=cH hfm
   have Hfl:=cH hfl
   clear hG1 hg1 hs1 hlt1 HD hfm hfl
   go_upto_region 5 with (fail)
   obtain ⟨w5,hw5⟩:∃ w5,w5=w1.alloc (.cells #[.string f.path,.bool f.dir,.string f.data] 45):=⟨_,rfl⟩
   have hf5:w5.heap[w1.heap.size]?=some (.cells #[.string f.path,.bool f.dir,.string f.data] 45 (0,0)):=by rw[hw5];exact zAT _ _
   have HD5:=cH (HD1.out.keep (w9:=w5) (by rw[hw5];exact bal (bR _ _) _))
   obtain ⟨FB,hFB⟩:∃ FB,FB=w1.heap.size:=⟨_,rfl⟩
   rw[←hFB] at hf5 ⊢
   rw[←hw5]
   have c1:=cO _ _ 1 _ _ _ hf5
   have c2:=cO _ _ 2 _ _ _ hf5
   clear hw5 hen HD1 hFB hf5
   go_wp2_with fail
   refine (Hcut.out f.path w5 hfp).mono ?_
   rintro e w6 ⟨rfl,hw6⟩
   subst hw6
   cases hsf:Lib.hasSuffix f.path.data.toList pkgF.data.toList with
   | false=>
     have hsk:=zK7 Hn.out Hfm.out Hfl.out HD5.out.perm HD5.out.ok (by unfold isPkg;rw[hsf];rfl)
     have HDn:=cH (HD5.out.with hsk.1 hsk.2)
     clear hsk HD5 hsf
     go_wp2_with fail
     go_roundw
     case rel=>exact ⟨_,cnt1,g,n,cap,acc,S,HDn.out⟩
     case measure=>exact Hms.out _ _ _ HDn.out.go rfl
   | true=>
   cases hfd2:f.dir with
   | true=>
     have hsk:=zK7 Hn.out Hfm.out Hfl.out HD5.out.perm HD5.out.ok (by unfold isPkg;rw[hsf,hfd2];rfl)
     have HDn:=cH (HD5.out.with hsk.1 hsk.2)
     rw[hfd2] at c1
     clear hsk HD5 hsf hfd2
     go_wp2_with fail
     go_roundw
     case rel=>exact ⟨_,cnt1,g,n,cap,acc,S,HDn.out⟩
     case measure=>exact Hms.out _ _ _ HDn.out.go rfl
   | false=>
   have hpkg:isPkg f=true:=by unfold isPkg;rw[hsf,hfd2];rfl
   rw[hfd2] at c1
   obtain ⟨pp,pz,hpr⟩:∃ pp pz,zB1 (zDK f.path)=(pp,pz):=⟨_,_,rfl⟩
   obtain ⟨pk,pe,hpk⟩:∃ pk pe,packQ f.data=(pk,pe):=⟨_,_,rfl⟩
   have hokf:okPkg f=(pz&&(decide (pp.length≠0)&&decide (pe=0))):=by unfold okPkg;rw[hpr,hpk]
   have hdf:dirF f=⟨pp,pk,1⟩:=by unfold dirF;rw[hpr,hpk]
   have hpi:=zQs f.data
   rw[hpk] at hpi
   have HP:Hid (∀ W,Vok W→Calls Tryz.prog 66 #[.string (zDK f.path)] W fun e w'=>(∃ v,e=.returned (.tuple #[v,.bool pz])∧SlV rStr w' (fun b=>W.heap.size≤b) pp v)∧Below W.heap.size W w'):=fun W hW=>by
    have:=zPg (zDK f.path) W (by have:=zHk f.path;omega) hW.maxLen
    rw[hpr] at this
    exact this
   have HK:Hid (∀ W,Vok W→Calls Tryz.prog 100 #[.string f.data] W fun e w'=>∃ u,e=.returned (.tuple #[u,.int .i64 pe])∧PackO w' W.heap.size pk u∧Below W.heap.size W w'):=fun W hW=>by
    have:=zHq f.data W hW hfd
    rw[hpk] at this
    exact this
   have Hpkg:=cH hpkg
   have Hokf:=cH hokf
   have Hdf:=cH hdf
   have Hpi:=cH hpi
   clear hpkg hokf hdf hpi hpr hpk hsf hfd2 hfd hfp
   go_wp2_with fail
   refine (HP.out w6 (Hvw.out w6 HD5.out.bel)).mono ?_
   rintro e wa ⟨⟨v,rfl,hvp⟩,hba⟩
   obtain ⟨Ap,cp,rfl,hcp,hcm⟩:=hvp.val
   obtain ⟨lp,hlp⟩:∃ lp,lp=pp.length:=⟨_,rfl⟩
   rw[←hlp] at hvp hcp ⊢
   have c2:=zAA hba c2 (zAE c2)
   have HDa:=cH (HD5.out.keep hba)
   have Hvp:=cH hvp
   have Hlp:=cH hlp
   have hza:=hba.size
   have hz6:w3.heap.size≤w6.heap.size∧g<w6.heap.size:=⟨HD5.out.big,(HD5.out.own.lt g rfl).2⟩
   have Hz6:=cH hz6
   have Hza:=cH hza
   clear hba hvp hlp hza hz6 c1 HD5 HP
   go_wp2_with fail
   refine (HK.out wa (Hvw.out wa HDa.out.bel)).mono ?_
   rintro e wb ⟨u,rfl,hpo,hbb⟩
   obtain ⟨A1,n1,e1,A2,n2,e2,A3,n3,e3,rfl,hnm,s1,s2,s3⟩:=hpo.packV
   obtain ⟨pn,⟨x1,x2,x3⟩,pd,pq,po⟩:=pk
   simp only at hnm s1 s2 s3 ⊢
   go_upto_region 9 with (fail)
   obtain ⟨wc,hwc⟩:∃ wc,wc=wb.alloc (.cells #[.string pn,.int .i64 x1,.int .i64 x2,.int .i64 x3,.slice A1 n1 e1,.slice A2 n2 e2,.slice A3 n3 e3] 57):=⟨_,rfl⟩
   have hbc:Below wb.heap.size wb wc:=by rw[hwc];exact bal (bR _ _) _
   have hpc:wc.heap[wb.heap.size]?=some (.cells #[.string pn,.int .i64 x1,.int .i64 x2,.int .i64 x3,.slice A1 n1 e1,.slice A2 n2 e2,.slice A3 n3 e3] 57 (0,0)):=by rw[hwc];exact zAT _ _
   obtain ⟨PB,hPB⟩:∃ PB,PB=wb.heap.size:=⟨_,rfl⟩
   rw[←hPB] at hpc ⊢
   rw[←hwc]
   have hbac:Below wa.heap.size wa wc:=bot hbb hbc
   have HDc:=cH (HDa.out.keep hbac)
   have hRc:=HRw.out wc HDc.out.bel
   have HRc:=cH hRc
   obtain ⟨a0,f0⟩:=row1I hRc
   obtain ⟨tc,tf⟩:=HDc.out.cells
   obtain ⟨⟨p0,p1,p2,p3,p4,p5,p6⟩,_⟩:=row7 hpc
   have Hh:Hid (rDir.holds wc (fun b=>S b∨(w6.heap.size≤b∧b<wc.heap.size)) ⟨pp,⟨pn,⟨x1,x2,x3⟩,pd,pq,po⟩,1⟩ [.slice Ap lp cp,.string pn,.int .i64 x1,.int .i64 x2,.int .i64 x3,.slice A1 n1 e1,.slice A2 n2 e2,.slice A3 n3 e3,.int .i64 1]):=by
    have k:∀ b,Fresh wa.heap.size wb b→b<wb.heap.size→(S b∨(w6.heap.size≤b∧b<wc.heap.size))∧wc.heap[b]?=wb.heap[b]?:=fun b hb hl=>⟨.inr ⟨nT Hza.out hb.1,lL hl hbc.size⟩,hbc.block b hl⟩
    refine ⟨_,_,_,_,rfl,?_,hnm,Hpi.out.1,Hpi.out.2.1,Hpi.out.2.2,(zAL rDep).mono s1 k,(zAL rDep).mono s2 k,(zAL rDep).mono s3 k,(⟨by decide,by decide⟩:I64 1)⟩
    exact (zAL rStr).mono Hvp.out fun b hb hl=>⟨.inr ⟨hb,lL hl hbac.size⟩,hbac.block b hl⟩
   clear hwc hPB hbc hpc hbb hpo s1 s2 s3 hbac hRc HDa HK c2
   cases pz with
   | false=>
     clear Hh p0 p1 p2 p3 p4 p5 p6 tc tf
     go_wp2_with fail
     exact zAC rfl rfl rfl rfl (zD7 HRc.out _) Tryz.underlying30 rfl (by kernel_rfl) ⟨.inr ⟨zI9 Hfm.out Hpkg.out (by rw[Hokf.out];rfl),rfl⟩,(bot HB0.out HDc.out.bel).setCell (nR _) _⟩
   | true=>
   by_cases hl0:lp=0
   ·have hbe:((lp:Int)==0)=true:=by rw[beq_iff_eq];omega
    have hok:okPkg f=false:=by rw[Hokf.out,←Hlp.out,hl0];rfl
    clear Hh p0 p1 p2 p3 p4 p5 p6 tc tf hl0
    go_wp2_with fail
    exact zAC rfl rfl rfl rfl (zD7 HRc.out _) Tryz.underlying30 rfl (by kernel_rfl) ⟨.inr ⟨zI9 Hfm.out Hpkg.out hok,rfl⟩,(bot HB0.out HDc.out.bel).setCell (nR _) _⟩
   have hbl:((lp:Int)==0)=false:=by rw[beq_eq_false_iff_ne];omega
   by_cases he0:pe=0
   case neg=>
    have hbe:(pe != 0)=true:=by simpa using he0
    have hok:okPkg f=false:=by rw[Hokf.out,decide_eq_false he0,Bool.and_false,Bool.and_false]
    clear Hh p0 p1 p2 p3 p4 p5 p6 tc tf he0
    go_wp2_with fail
    exact zAC rfl rfl rfl rfl (zD7 HRc.out _) Tryz.underlying30 rfl (by kernel_rfl) ⟨.inr ⟨zI9 Hfm.out Hpkg.out hok,rfl⟩,(bot HB0.out HDc.out.bel).setCell (nR _) _⟩
   have hbe:(pe != 0)=false:=by simp[he0]
   have hok:okPkg f=true:=by rw[Hokf.out,←Hlp.out,decide_eq_true he0,decide_eq_true hl0];rfl
   have htk:=zO8 Hn.out Hfm.out Hfl.out HDc.out.perm HDc.out.ok Hpkg.out hok
   rw[Hdf.out] at htk
   have HDm:=cH (HDc.out.more Hz6.out.2 Hz6.out.1)
   have HO:=cH HDm.out.own
   have hlen:(root0::acc).length≤900001:=by have:=HlD.out;rw[List.length_cons];omega
   have Hlen:=cH hlen
   have Htk:=cH htk
   have hzc:w0.heap.size≤wc.heap.size:=HDc.out.bel.size
   have Hrow:Hid (some TB≠(Value.slice (some ⟨g,0,none⟩) n cap).ownBlock):=fun e=>HDc.out.g_t (Option.some.inj e).symm
   obtain ⟨RL,hRL⟩:∃ RL,RL=root0::acc:=⟨_,rfl⟩
   rw[←hRL] at HO Hlen
   have HRL:=cH hRL
   clear hok htk hlen hRL hl0 he0 HDc
   go_wp2_with (at_builtin;refine zAb (by rfl) _ _ _ (by rfl) zR2 Tryz.underlying28 (by rfl) (HO.out.alloc _) ⟨wc.heap.size,0,none⟩ 1 [.slice Ap lp cp,.string pn,.int .i64 x1,.int .i64 x2,.int .i64 x3,.slice A1 n1 e1,.slice A2 n2 e2,.slice A3 n3 e3,.int .i64 1] ⟨pp,⟨pn,⟨x1,x2,x3⟩,pd,pq,po⟩,1⟩ (by rfl) (Rp.alloc Hh.out _) (zAz wc #[.slice Ap lp cp,.string pn,.int .i64 x1,.int .i64 x2,.int .i64 x3,.slice A1 n1 e1,.slice A2 n2 e2,.slice A3 n3 e3,.int .i64 1] _) (by have:=Hlen.out;unfold maxLen;omega) (by have:=Hlen.out;omega) (by simp;omega) (wc.heap.size+1) (by simp) ?_)
   intro g9 cap9 w9 hown9 hgrow9 hat9 hlt9
   have hc9:=hgrow9.cell ((zAI (Below.heap_alloc wc _ _ (zAE tc)) _ _).trans tc) Hrow.out
   have hf9:=(zBr ((hgrow9.block _ (by simp;have:=zAE tc;omega) Hrow.out).trans (Below.heap_alloc wc _ _ (zAE tc))) 0 none).trans tf
   have s9:=(HDm.out.keep (w9:=wc.alloc (.cells #[.slice Ap lp cp,.string pn,.int .i64 x1,.int .i64 x2,.int .i64 x3,.slice A1 n1 e1,.slice A2 n2 e2,.slice A3 n3 e3,.int .i64 1] 59)) (bal (bR _ _) _)).push hT3 hT0 hTI hTBB hI3 hB3 (by rw[←HRL.out];exact hown9) (fun b hb=>HDm.out.hS b hb) hgrow9 (hat9.imp (fun e=>Option.some.inj e) (fun e=>by rw[e];simp)) Htk.out.1 Htk.out.2
   have S9:=cH s9
   clear s9 hown9 hgrow9 hat9 hlt9 tc tf p0 p1 p2 p3 p4 p5 p6 HDm HO Hh a0 f0 HRc
   go_wp2_with fail
   go_roundw
   case rel=>exact ⟨_,cnt1,_,_,_,_,_,S9.out⟩
   case measure=>exact Hms.out _ _ _ S9.out.go rfl
