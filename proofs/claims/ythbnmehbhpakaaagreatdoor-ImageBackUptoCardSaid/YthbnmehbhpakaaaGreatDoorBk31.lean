/- image.Read: the bounds of what is read, in plain words. -/
import Derived.Test.YthbnmehbhpakaaaGreatDoorBk30
import Derived.Test.YthbnmehbhpakaaaGreatDoorBk29
import Derived.Test.YthbnmehbhpakaaaGreatDoorBk20
import Derived.Test.YthbnmehbhpakaaaGreatDoorBk26
import Derived.Test.YthbnmehbhpakaaaGreatDoorBk25
import Derived.Test.YthbnmehbhpakaaaGreatDoorBk24
import Derived.Test.YthbnmehbhpakaaaGreatDoorBk21
import Derived.Test.YthbnmehbhpakaaaGreatDoorAl
set_option linter.all false
set_option maxHeartbeats 32000000
set_option maxRecDepth 100000
namespace Go.Proofs.YthbnmehbhpakaaaGreatDoor
open Go.Rows Go.RowKit Go.Shelf Go.Sort Go.Maps
theorem zMk:∀ {l pre:List File},goodL pre l=true→(zAm pre).Nodup→(zAm (pre++l)).Nodup∧∀ f∈l,zAZ f.path=true
 | [],pre,_,hn=>⟨by rw[List.append_nil];exact hn,fun f hf=>by cases hf⟩
 | f::l,pre,h,hn=>by
   rw[goodL,Bool.and_eq_true] at h
   obtain ⟨h1,h2⟩:=h
   unfold okF at h1
   simp only[Bool.and_eq_true] at h1
   have hno:(zAK pre f.path).isSome=false:=by
    have:=h1.1.1
    simpa using this
   rw[zCU] at hno
   have hn1:(zAm (pre++[f])).Nodup:=by
    unfold zAm at hn hno ⊢
    rw[List.map_append,List.nodup_append]
    refine ⟨hn,by simp,fun a ha b hb e=>?_⟩
    rw[List.map_cons,List.map_nil,List.mem_singleton] at hb
    subst hb
    exact hno (e▸ha)
   obtain ⟨q1,q2⟩:=zMk h2 hn1
   rw[List.append_assoc] at q1
   refine ⟨q1,fun x hx=>?_⟩
   rcases List.mem_cons.1 hx with rfl|hx
   ·exact h1.1.2
   ·exact q2 x hx
theorem zN0 {l:List File} (h:loadB l=true):(zAm l).Nodup∧∀ f∈l,f.path.size≤4096:=by
 unfold loadB at h
 rw[Bool.and_eq_true] at h
 obtain ⟨q1,q2⟩:=zMk (pre:=[]) h.1 List.nodup_nil
 refine ⟨q1,fun f hf=>?_⟩
 have:=q2 f hf
 unfold zAZ at this
 simp only[Bool.and_eq_true,decide_eq_true_eq] at this
 omega
theorem zS3 {l:List File} (hn:(zAm l).Nodup) {k:Nat} (hk:k<l.length):findF (l.take k) l[k].path=none:=by
 cases hf:findF (l.take k) l[k].path with
 | none=>rfl
 | some j=>
   obtain ⟨y,hy,hp⟩:=zEU hf
   obtain ⟨hj,hy⟩:=gS.1 hy
   rw[List.length_take] at hj
   have hjl:j<l.length:=by omega
   rw[List.getElem_take] at hy
   have h1:(zAm l)[j]'(by unfold zAm;rw[List.length_map];exact hjl)=(zAm l)[k]'(by unfold zAm;rw[List.length_map];exact hk):=by
    unfold zAm
    rw[List.getElem_map,List.getElem_map,hy,hp]
   exact absurd h1 (List.pairwise_iff_getElem.1 (List.nodup_iff_pairwise_ne.1 hn) j k _ _ (by omega))
theorem zTO {t:ByteArray} (h:(lkQ t).2=0):lockB (lkQ t).1=true:=by
 unfold lkQ at h ⊢
 split at h
 ·rename_i hs
  rw[if_pos hs]
  unfold lkL at h ⊢
  cases hh:zEl (scanQ 1048576 t).1 with
  | none=>rw[hh] at h;cases h
  | some r=>
    rw[hh] at h
    simp only at h ⊢
    cases hg:lkGo r ([],node0) with
    | none=>rw[hg] at h;cases h
    | some s=>
      rw[hg] at h
      unfold lkEnd at h ⊢
      simp only at h ⊢
      split at h
      ·rename_i hb
       rw[if_pos hb]
       exact hb
      ·cases h
 ·rename_i hs
  exact absurd h hs
theorem zQl {l:List Node} (h:lockB l=true):zMl l:=by
 obtain ⟨h1,h2⟩:=zEr h
 exact ⟨by omega,fun x hx=>by have:=h2 x hx;unfold NodeZ at this;omega⟩
theorem zPC {m:List Int} {k:Nat} {T:List Dir}:∀ d∈setN m k T,∃ x∈T,d.path=x.path:=by
 intro d hd
 obtain ⟨i,hi,rfl⟩:=List.getElem_of_mem hd
 rw[zDd] at hi
 have h:=zFh (m:=m) (k:=k) (gE hi)
 have h2:=(gS.1 h).2
 refine ⟨T[i],List.getElem_mem hi,?_⟩
 rw[h2]
 split<;>rfl
theorem zTA {l:List File} {T:List Dir} {m:List Int} (hz:∀ f∈l,f.path.size≤4096∧f.data.size≤4611686018427387904) (hl:l.length≤900000) (hp:T.Perm (root0::dirsF l)) (hlk:(lkQ (zAh l lokF).data).2=0):ProjZ (putT l T m):=by
 have hlen:∀ d∈T,d.path.length * 32≤140737488355328:=fun d hd=>zGq hz (fun f h=>h) (List.Perm.refl (dirsF l)) d (hp.mem_iff.1 hd)
 refine ⟨zQl (zTO hlk),?_,fun d hd=>?_⟩
 ·show (setN m m.length T).length≤1048576
  rw[zDd,hp.length_eq,List.length_cons]
  have:(dirsF l).length≤l.length:=by
   unfold dirsF
   rw[List.length_map]
   exact List.length_filter_le _ _
  omega
 ·obtain ⟨x,hx,e⟩:=zPC d hd
  rw[e]
  exact hlen x hx
theorem zBK.look1 {W:World} {B:Nat} {l:List File} {p:ByteArray} (h:zBK W B l) (hp:p.size≤maxLen) :
  (Instr.lookup 81 (.map (some B)) (.string p) false).run Tryz.prog W=.ok (.agg #[.string (zAh l p).path,.bool (zAh l p).dir,.string (zAh l p).data]) W:=by
 obtain ⟨n,D,h1,h2,h3,h4⟩:=h
 have hkey:=Go.WideMaps.keyOf_string_mk (P:=Tryz.prog) Tryz.underlying9 hp
 obtain ⟨v,ps,r1,r2⟩:=World.ownsMap.lookup h1 zB4 Tryz.underlying81 (zNA W) (zEX fileZ) hkey
 obtain ⟨q1,q2⟩:=h4 p
 rw[q2] at r2
 unfold zAh
 cases ht:zAK l p with
 | none=>
   rw[ht] at r2
   rw[zDY r2] at r1
   exact r1
 | some f=>
   rw[ht] at r2
   rw[zDY r2] at r1
   exact r1
theorem zGe {l:List File} (hz:∀ f∈l,f.path.size≤4096∧f.data.size≤4611686018427387904) (hn:(zAm l).Nodup) (p:ByteArray):(zAh l p).data.size≤4611686018427387904:=by
 unfold zAh
 cases ht:zAK l p with
 | none=>decide
 | some f=>exact (hz f ((zAw hn).1 ht).1).2
def ReadP (l:List File) (w:World) (e:Ending) (w':World):Prop:=
 (∃ s u,SOf s l∧e=.returned (.tuple #[u,.int .i64 0])∧ProjV w' (fun b=>w.heap.size≤b) s u)∨((∀ s,¬SOf s l)∧e=.returned (.tuple #[.agg #[.slice none 0 0,.slice none 0 0,.slice none 0 0,.slice none 0 0,.slice none 0 0,.slice none 0 0,.bool false],.int .i64 43]))
theorem zQ6:SOf proj0 []:=⟨may0,by first|(rw[zPh];done)|(rw[zPh];exact List.Perm.nil)⟩
theorem ProjV.over {w w':World} {S T:Nat→Prop} {x:Proj} {v:Value} (h:ProjV w S x v) (hk:∀ b,S b→b<w.heap.size→T b∧w'.heap[b]?=w.heap[b]?):ProjV w' T x v:=by
 obtain ⟨A0,n0,c0,A1,n1,c1,A2,n2,c2,A3,n3,c3,A4,n4,c4,A5,n5,c5,e,g0,g1,g2,g3,g4,g5⟩:=h
 exact ⟨A0,n0,c0,A1,n1,c1,A2,n2,c2,A3,n3,c3,A4,n4,c4,A5,n5,c5,e,(zAL rDep).mono g0 hk,(zAL rDep).mono g1 hk,(zAL rDep).mono g2 hk,(zAL rDep).mono g3 hk,(zAL rNode).mono g4 hk,(zAL rDir).mono g5 hk⟩
theorem zIQ {W:World} {b q:Nat} (h:q≠b) (a0 a1 a2 a3 a4 a5 a6:Value):(((((((W.setCell ⟨b,0,none⟩ a0).setCell ⟨b,1,none⟩ a1).setCell ⟨b,2,none⟩ a2).setCell ⟨b,3,none⟩ a3).setCell ⟨b,4,none⟩ a4).setCell ⟨b,5,none⟩ a5).setCell ⟨b,6,none⟩ a6).heap[q]?=W.heap[q]?:=by
 rw[heap_setCell_other _ ⟨b,6,none⟩ q _ h,heap_setCell_other _ ⟨b,5,none⟩ q _ h,heap_setCell_other _ ⟨b,4,none⟩ q _ h,heap_setCell_other _ ⟨b,3,none⟩ q _ h,heap_setCell_other _ ⟨b,2,none⟩ q _ h,heap_setCell_other _ ⟨b,1,none⟩ q _ h,heap_setCell_other _ ⟨b,0,none⟩ q _ h]
theorem zBK.lt {w:World} {B:Nat} {l:List File} (h:zBK w B l):B<w.heap.size:=by
 obtain ⟨_,_,h,_⟩:=h
 exact h.lt
theorem zTR {w:World} {S:Nat→Prop} {m:List Int} {A:Option Addr} {n c k:Nat} (h:SlV rInt w S m (.slice A n c)) (hk:k<m.length):∃ b o,A=some ⟨b,o,none⟩∧S b∧b<w.heap.size∧w.cell? ⟨b,o+k,none⟩=some (.int .i64 (m.getD k 0))∧I64 (m.getD k 0):=by
 obtain ⟨b,o,cs,h1,h2,h3,⟨rfl,hi⟩,hcell⟩:=h.elem (gE hk)
 have c0:=hcell 0 _ rfl
 have e:m.getD k 0=m[k]:=by rw[List.getD_eq_getElem?_getD,gE hk];rfl
 rw[e]
 simp only[rInt,Nat.add_zero,Nat.mul_one] at c0
 exact ⟨b,o,h1,h2,h3,c0,hi⟩
theorem zJs (A:Option Addr) (n c:Nat) (l:List File) (w:World) (S:Nat→Prop) (hv:Vok w) (hl:SlV rFile w S l (.slice A n c)) (hn9:n≤900000) (hz:∀ f∈l,f.path.size≤67108864∧f.data.size≤4611686018427387904) :
  Calls Tryz.prog 12 #[.slice A n c] w fun e w'=>ReadP l w e w'∧Below w.heap.size w w':=by
 have Hv:=cH hv
 have hnl:=hl.n_eq
 have Hl:=cH (hl.more (S':=fun b=>b<w.heap.size) fun b _ h=>h)
 have Hnl:=cH hnl
 have Hz:=cH hz
 clear hv hl hz hnl
 go_enter Tryz.func12,Tryz.ntmps12
 go_wp2_with fail
 obtain ⟨w0,hw0⟩:∃ w0,w0=w.alloc (.cells #[.slice none 0 0,.slice none 0 0,.slice none 0 0,.slice none 0 0,.slice none 0 0,.slice none 0 0,.bool false] 32):=⟨_,rfl⟩
 have hr0:w0.heap[w.heap.size]?=some (.cells #[.slice none 0 0,.slice none 0 0,.slice none 0 0,.slice none 0 0,.slice none 0 0,.slice none 0 0,.bool false] 32 (0,0)):=by rw[hw0];exact heap_alloc_new w _
 have HB0:Hid (Below w.heap.size w w0):=by unfold Hid;rw[hw0];exact bal (bR _ _) _
 have hz0:w.heap.size<w0.heap.size:=(aS.1 hr0).1
 have HRw:Hid (∀ W,Below w0.heap.size w0 W→W.heap[w.heap.size]?=some (.cells #[.slice none 0 0,.slice none 0 0,.slice none 0 0,.slice none 0 0,.slice none 0 0,.slice none 0 0,.bool false] 32 (0,0))):=fun W h=>(h.block _ hz0).trans hr0
 have HBw:Hid (∀ W,Below w0.heap.size w0 W→Below w.heap.size w W):=fun W h=>bot HB0.out h
 have Hvw:Hid (∀ W,Below w0.heap.size w0 W→Vok W):=fun W h=>Hv.out.below (bot HB0.out h)
 have Hlw:Hid (∀ W,Below w0.heap.size w0 W→SlV rFile W (fun b=>b<w.heap.size) l (.slice A n c)):=fun W h=>Hl.out.belowSize (bot HB0.out h)
 rw[←hw0]
 clear hw0 hr0 HB0 Hv Hl
 refine (zD1 A n c l w0 _ (Hvw.out w0 (bR _ _)).maxLen (Hlw.out w0 (bR _ _)) (by omega) (fun f hf=>(Hz.out f hf).1)).mono ?_
 rintro e w1 ⟨hld,hb1⟩
 have HB1:=cH hb1
 clear hb1
 rcases hld with ⟨hlf,rfl⟩|⟨hlt,d,Bd,rv,zv,rfl,_,_⟩
 ·have hne:l≠[]:=by rintro rfl;rw[zRp] at hlf;cases hlf
  have hno:=cH (zSn hne hlf)
  clear hlf hne
  have hRz:=HRw.out w1 HB1.out
  have HRz:=cH hRz
  obtain ⟨⟨a0,a1,a2,a3,a4,a5,a6⟩,f0,f1,f2,f3,f4,f5,f6⟩:=row7 hRz
  have HBz:=cH (HBw.out w1 HB1.out)
  clear hRz
  go_wp2_with fail
  exact zAC rfl rfl rfl rfl (zAa HRz.out _ _ _ _ _ _ _) Tryz.underlying32 rfl (by kernel_rfl) ⟨.inr ⟨hno.out,rfl⟩,zAV HBz.out (nR _) _ _ _ _ _ _ _⟩
 obtain ⟨hnd,hps⟩:=zN0 hlt
 have Hnd:=cH hnd
 have Hzz:Hid (∀ f∈l,f.path.size≤4096∧f.data.size≤4611686018427387904):=fun f hf=>⟨hps f hf,(Hz.out f hf).2⟩
 clear hnd hps hlt
 by_cases h0:n=0
 ·have hl0:l=[]:=List.eq_nil_of_length_eq_zero (by have:=Hnl.out;omega)
  have hb:((n:Int)==0)=true:=by rw[beq_iff_eq];omega
  have HS0:Hid (SOf proj0 l):=by unfold Hid;rw[hl0];exact zQ6
  clear hl0 h0
  go_wp2_with fail
  refine (zGI w1).mono ?_
  rintro e w2 ⟨⟨A5,A6,rfl,hp0⟩,hb2⟩
  have HB2:=cH (bot HB1.out hb2)
  have hRz:=HRw.out w2 HB2.out
  have HRz:=cH hRz
  obtain ⟨⟨a0,a1,a2,a3,a4,a5,a6⟩,f0,f1,f2,f3,f4,f5,f6⟩:=row7 hRz
  have Hp0:=cH hp0
  have hz1:w.heap.size<w1.heap.size:=lL hz0 HB1.out.size
  have HBz:=cH (HBw.out w2 HB2.out)
  clear hRz hp0 hb2
  go_wp2_with fail
  exact zAC rfl rfl rfl rfl (zAa HRz.out _ _ _ _ _ _ _) Tryz.underlying32 rfl (by kernel_rfl) ⟨.inl ⟨_,_,HS0.out,rfl,Hp0.out.over fun b hb _=>⟨by omega,zIQ (by omega) _ _ _ _ _ _ _⟩⟩,zAV HBz.out (nR _) _ _ _ _ _ _ _⟩
 have hb0:((n:Int)==0)=false:=by rw[beq_eq_false_iff_ne];omega
 have hne:l≠[]:=by rintro rfl;exact h0 Hnl.out
 have Hne:=cH hne
 clear hne
 have hmm:=@run_makeMap Tryz.prog
 go_wp2_with fail
 clear hmm
 obtain ⟨wM,hwM⟩:∃ wM,wM=w1.alloc (.map #[] 0):=⟨_,rfl⟩
 obtain ⟨BM,hBM⟩:∃ BM,BM=w1.heap.size:=⟨_,rfl⟩
 have HF0:Hid (zBK wM BM []):=by unfold Hid;rw[hwM,hBM];exact zBK.made w1
 have HBM:Hid (Below w0.heap.size w0 wM):=by unfold Hid;rw[hwM];exact bal HB1.out _
 have hzM:w0.heap.size≤BM∧BM<wM.heap.size:=by rw[hBM,hwM];exact ⟨HB1.out.size,by simp[zBX]⟩
 rw[←hwM,←hBM]
 clear hwM hBM
 go_loopw [37] (fun i wr=>∃ k:Nat,k≤n∧i=.int .i64 k∧Hid (zBK wr BM (l.take k))∧Hid (Below w0.heap.size w0 wr)∧Hid (BM<wr.heap.size)) (fun i _=>n - (intOf i).toNat)
 case atStart=>exact ⟨0,nZ _,rfl,by rw[List.take_zero];exact HF0.out,HBM.out,hzM.2⟩
 case round=>
  clear HF0 HBM HB1
  obtain ⟨hzM,_⟩:=hzM
  obtain ⟨k,hk,rfl,HF,HB,HzB⟩:=hrel
  have hk0:(0:Int)≤(k:Int):=by omega
  by_cases hlt:k<n
  case pos=>
   have hkx:k<l.length:=by have:=Hnl.out;omega
   have hkn:(k:Int)<(n:Int):=by omega
   obtain ⟨b,o,cs,rfl,_,hbl,⟨rfl,_⟩,hcell⟩:=(Hlw.out wr HB.out).elem (gE hkx)
   have c0:=hcell 0 _ rfl
   have c1:=hcell 1 _ rfl
   have c2:=hcell 2 _ rfl
   simp only[rFile,Nat.add_zero] at c0 c1 c2
   have hzx:=Hzz.out l[k] (List.getElem_mem hkx)
   have hno:=zS3 Hnd.out hkx
   have htk:l.take (k+1)=l.take k++[l[k]]:=by rw[List.take_add_one,gE hkx];rfl
   have Htk:=cH htk
   have Hno:=cH hno
   have hzl:wr.heap.size≤wr.heap.size:=nR _
   clear hcell htk hno
   obtain ⟨x,hx⟩:∃ x,x=l[k]:=⟨_,rfl⟩
   rw[←hx] at c0 c1 c2 hzx Htk Hno
   clear hx
   go_upto_region 10 with (fail)
   obtain ⟨wf,hwf⟩:∃ wf,wf=wr.alloc (.cells #[.string x.path,.bool x.dir,.string x.data] 45):=⟨_,rfl⟩
   have hrf:wf.heap[wr.heap.size]?=some (.cells #[.string x.path,.bool x.dir,.string x.data] 45 (0,0)):=by rw[hwf];exact zAT _ _
   have hbf:Below wr.heap.size wr wf:=by rw[hwf];exact bal (bR _ _) _
   have hFf:=HF.out.keep hbf
   have HBf:=cH (bot HB.out hbf)
   have hzf:BM<wf.heap.size:=lL HzB.out hbf.size
   have e0:=cO _ _ 0 _ _ _ hrf
   have e1:=cO _ _ 1 _ _ _ hrf
   have e2:=cO _ _ 2 _ _ _ hrf
   rw[←hwf]
   obtain ⟨w8,hrun,hF8,hg8⟩:=zBK.put (x:=x) hFf (by unfold maxLen;omega) (by rw[List.length_take];omega) Hno.out
   have HF8:Hid (zBK w8 BM (l.take (k+1))):=by unfold Hid;rw[Htk.out];exact hF8
   have HB8:Hid (Below w0.heap.size w0 w8):=HBf.out.grown hg8 HBf.out.size (fun q e=>by cases e;exact hzM)
   have Hz8:Hid (BM<w8.heap.size):=lL hzf hg8.size
   clear hwf hrf hbf hFf hF8 hg8 c0 c1 c2 hzx Hno Htk
   go_wp2_with fail
   go_roundw
   case rel=>exact ⟨k+1,by omega,by go_num,HF8.out,HB8.out,Hz8.out⟩
   case measure=>simp[intOf];omega
  obtain rfl:k=n:=by omega
  have hI:¬(k:Int)<(k:Int):=by omega
  have HFl:Hid (zBK wr BM l):=by have:=HF.out;rw[Hnl.out,List.take_length] at this;exact this
  clear HF hlt hk
  obtain ⟨tm,htm⟩:∃ tm,tm=(zAh l manF).data:=⟨_,rfl⟩
  obtain ⟨tk,htk⟩:∃ tk,tk=(zAh l lokF).data:=⟨_,rfl⟩
  have hlook:(Instr.lookup 81 (.map (some BM)) (.string ⟨#[47,109,97,110,105,102,101,115,116]⟩) false).run Tryz.prog wr=.ok (.agg #[.string (zAh l manF).path,.bool (zAh l manF).dir,.string (zAh l manF).data]) wr:=HFl.out.look1 (p:=manF) (by decide)
  rw[←htm] at hlook
  generalize (zAh l manF).path=mp at hlook
  generalize (zAh l manF).dir=md at hlook
  have hfld:∀ W:World,(Instr.field 45 (.agg #[.string mp,.bool md,.string tm]) 2).run Tryz.prog W=.ok (.string tm) W:=fun W=>by kernel_rfl
  have hzm:tm.size≤4611686018427387904:=by rw[htm];exact zGe Hzz.out Hnd.out manF
  have hzk:tk.size≤4611686018427387904:=by rw[htk];exact zGe Hzz.out Hnd.out lokF
  have HPm:Hid (∀ W,Vok W→Calls Tryz.prog 38 #[.string tm] W fun e w'=>∃ u,e=.returned (.tuple #[u,.int .i64 (maniQ tm).2])∧ManiO w' W.heap.size (maniQ tm).1 u∧Below W.heap.size W w'):=fun W hW=>zH7 tm W hW hzm
  have HPk:Hid (∀ W,Vok W→Calls Tryz.prog 39 #[.string tk] W fun e w'=>∃ u,e=.returned (.tuple #[.agg #[u],.int .i64 (lkQ tk).2])∧SlV rNode w' (fun b=>W.heap.size≤b) (lkQ tk).1 u∧Below W.heap.size W w'):=fun W hW=>zJM tk W hW hzk
  have Hm0:Hid ((maniQ tm).2≠0→∀ s,¬SOf s l):=fun h=>zTS Hne.out (by rw[←htm];exact h)
  have Hk0:Hid ((lkQ tk).2≠0→∀ s,¬SOf s l):=fun h=>zTI Hne.out (by rw[←htk];exact h)
  have Hp9:Hid (∀ T m,putT l T m=⟨(maniQ tm).1,(lkQ tk).1,setN m m.length T,(zAK l pruF).isSome⟩):=fun T m=>by unfold putT;rw[←htm,←htk]
  have Hmap:Hid (∀ T:List Dir,T.Perm (root0::dirsF l)→T.Pairwise upT→(mapR T (lkQ tk).1).2≠0→∀ s,¬SOf s l):=fun T h1 h2 h3=>zTP Hne.out h1 h2 (by rw[←htk];exact h3)
  have Hpz:Hid (∀ (T:List Dir) m,T.Perm (root0::dirsF l)→(lkQ tk).2=0→ProjZ (putT l T m)):=fun T m h1 h2=>zTA Hzz.out (by have:=Hnl.out;omega) h1 (by rw[←htk];exact h2)
  have Hnt:Hid (∀ (T:List Dir) m,T.Perm (root0::dirsF l)→T.Pairwise upT→(mapR T (lkQ tk).1).1=some m→((imgF (putT l T m)).2≠0∨(imgF (putT l T m)).1≠sortS l)→∀ s,¬SOf s l):=fun T m h1 h2 h3 h4=>zSp Hne.out h1 h2 (by rw[←htk];exact h3) (zBf l) (zD8 l) h4
  have Hyt:Hid (∀ s,(imgF s).2=0→(imgF s).1=sortS l→SOf s l):=fun s h1 h2=>zRL (zBf l) h1 h2
  have Htk:=cH htk
  clear htm hzm hzk htk
  generalize hmq:maniQ tm=MQ at *
  clear hmq
  obtain ⟨mn,me⟩:=MQ
  go_wp2_with fail
  refine (HPm.out wr (Hvw.out wr HB.out)).mono ?_
  rintro e w3 ⟨u,rfl,hmo,hb3⟩
  obtain ⟨A0,n0,c0,A1,n1,c1,A2,n2,c2,A3,n3,c3,rfl,s0,s1,s2,s3⟩:=hmo.maniV
  simp only at s0 s1 s2 s3 Hm0 ⊢
  go_upto_region 13 with (fail)
  obtain ⟨w4,hw4⟩:∃ w4,w4=w3.alloc (.cells #[.slice A0 n0 c0,.slice A1 n1 c1,.slice A2 n2 c2,.slice A3 n3 c3] 24):=⟨_,rfl⟩
  have hb4:Below w3.heap.size w3 w4:=by rw[hw4];exact bal (bR _ _) _
  have hr4:w4.heap[w3.heap.size]?=some (.cells #[.slice A0 n0 c0,.slice A1 n1 c1,.slice A2 n2 c2,.slice A3 n3 c3] 24 (0,0)):=by rw[hw4];exact zAT _ _
  obtain ⟨MB,hMB⟩:∃ MB,MB=w3.heap.size:=⟨_,rfl⟩
  rw[←hMB] at hr4 ⊢
  rw[←hw4]
  have HMV:Hid (SlV rDep w4 (fun b=>w0.heap.size≤b) mn.deps (.slice A0 n0 c0)∧SlV rDep w4 (fun b=>w0.heap.size≤b) mn.dev (.slice A1 n1 c1)∧SlV rDep w4 (fun b=>w0.heap.size≤b) mn.opts (.slice A2 n2 c2)∧SlV rDep w4 (fun b=>w0.heap.size≤b) mn.over (.slice A3 n3 c3)):=by
   have k:∀ b,Fresh wr.heap.size w3 b→b<w3.heap.size→w0.heap.size≤b∧w4.heap[b]?=w3.heap[b]?:=fun b hb hl=>⟨nT HB.out.size hb.1,hb4.block b hl⟩
   exact ⟨(zAL rDep).mono s0 k,(zAL rDep).mono s1 k,(zAL rDep).mono s2 k,(zAL rDep).mono s3 k⟩
  have HB4:=cH (bot HB.out (bot hb3 hb4))
  have HF4:=cH (HFl.out.keep (bot hb3 hb4))
  have Hr4:=cH hr4
  clear hw4 hMB hr4 hb3 hb4 s0 s1 s2 s3 hmo HPm HFl HB HzB hlook hfld
  by_cases he:me=0
  case neg=>
   have hbe:(me != 0)=true:=by simpa using he
   have hno:=cH (Hm0.out he)
   clear he
   have hRz:=HRw.out w4 HB4.out
   have HRz:=cH hRz
   obtain ⟨⟨a0,a1,a2,a3,a4,a5,a6⟩,f0,f1,f2,f3,f4,f5,f6⟩:=row7 hRz
   have HBz:=cH (HBw.out w4 HB4.out)
   clear hRz
   go_wp2_with fail
   exact zAC rfl rfl rfl rfl (zAa HRz.out _ _ _ _ _ _ _) Tryz.underlying32 rfl (by kernel_rfl) ⟨.inr ⟨hno.out,rfl⟩,zAV HBz.out (nR _) _ _ _ _ _ _ _⟩
  have hbe:(me != 0)=false:=by simp[he]
  clear Hm0 he
  have hlook:(Instr.lookup 81 (.map (some BM)) (.string ⟨#[47,108,111,99,107]⟩) false).run Tryz.prog w4=.ok (.agg #[.string (zAh l lokF).path,.bool (zAh l lokF).dir,.string (zAh l lokF).data]) w4:=HF4.out.look1 (p:=lokF) (by decide)
  rw[←Htk.out] at hlook
  generalize (zAh l lokF).path=kp at hlook
  generalize (zAh l lokF).dir=kd at hlook
  have hfld:∀ W:World,(Instr.field 45 (.agg #[.string kp,.bool kd,.string tk]) 2).run Tryz.prog W=.ok (.string tk) W:=fun W=>by kernel_rfl
  clear Htk
  generalize hkq:lkQ tk=KQ at *
  clear hkq
  obtain ⟨gn,ge⟩:=KQ
  go_wp2_with fail
  refine (HPk.out w4 (Hvw.out w4 HB4.out)).mono ?_
  rintro e w5 ⟨u,rfl,hgs,hb5⟩
  obtain ⟨GA,gc,rfl,_,_⟩:=hgs.val
  simp only at hgs Hk0 Hmap Hpz Hnt Hp9 ⊢
  obtain ⟨gl,hgl⟩:∃ gl,gl=gn.length:=⟨_,rfl⟩
  rw[←hgl] at hgs ⊢
  clear hgl
  go_upto_region 16 with (fail)
  obtain ⟨w6,hw6⟩:∃ w6,w6=w5.alloc (.cells #[.slice GA gl gc] 27):=⟨_,rfl⟩
  have hb6:Below w5.heap.size w5 w6:=by rw[hw6];exact bal (bR _ _) _
  have hr6:w6.heap[w5.heap.size]?=some (.cells #[.slice GA gl gc] 27 (0,0)):=by rw[hw6];exact zAT _ _
  obtain ⟨KB,hKB⟩:∃ KB,KB=w5.heap.size:=⟨_,rfl⟩
  rw[←hKB] at hr6 ⊢
  rw[←hw6]
  have HGV:Hid (SlV rNode w6 (fun b=>w0.heap.size≤b∧b<w6.heap.size) gn (.slice GA gl gc)):=(zAL rNode).mono hgs fun b hb hl=>⟨⟨nT HB4.out.size hb,lL hl hb6.size⟩,hb6.block b hl⟩
  have hb46:=bot hb5 hb6
  have HB6:=cH (bot HB4.out hb46)
  have HF6:=cH (HF4.out.keep hb46)
  have Hr6:=cH hr6
  have HM6:=cH ((hb46.block _ (aS.1 Hr4.out).1).trans Hr4.out)
  have HMV6:Hid (SlV rDep w6 (fun b=>w0.heap.size≤b∧b<w6.heap.size) mn.deps (.slice A0 n0 c0)∧SlV rDep w6 (fun b=>w0.heap.size≤b∧b<w6.heap.size) mn.dev (.slice A1 n1 c1)∧SlV rDep w6 (fun b=>w0.heap.size≤b∧b<w6.heap.size) mn.opts (.slice A2 n2 c2)∧SlV rDep w6 (fun b=>w0.heap.size≤b∧b<w6.heap.size) mn.over (.slice A3 n3 c3)):=⟨(HMV.out.1.belowSize hb46).more fun b h hl=>⟨h,hl⟩,(HMV.out.2.1.belowSize hb46).more fun b h hl=>⟨h,hl⟩,(HMV.out.2.2.1.belowSize hb46).more fun b h hl=>⟨h,hl⟩,(HMV.out.2.2.2.belowSize hb46).more fun b h hl=>⟨h,hl⟩⟩
  clear hw6 hKB hr6 hb5 hb6 hb46 hgs HPk HF4 HB4 Hr4 HMV hlook hfld
  by_cases hke:ge=0
  case neg=>
   have hbk:(ge != 0)=true:=by simpa using hke
   have hno:=cH (Hk0.out hke)
   clear hke
   have hRz:=HRw.out w6 HB6.out
   have HRz:=cH hRz
   obtain ⟨⟨a0,a1,a2,a3,a4,a5,a6⟩,f0,f1,f2,f3,f4,f5,f6⟩:=row7 hRz
   have HBz:=cH (HBw.out w6 HB6.out)
   clear hRz
   go_wp2_with fail
   exact zAC rfl rfl rfl rfl (zAa HRz.out _ _ _ _ _ _ _) Tryz.underlying32 rfl (by kernel_rfl) ⟨.inr ⟨hno.out,rfl⟩,zAV HBz.out (nR _) _ _ _ _ _ _ _⟩
  have hbk:(ge != 0)=false:=by simp[hke]
  have Hpz':Hid (∀ (T:List Dir) m,T.Perm (root0::dirsF l)→ProjZ (putT l T m)):=fun T m h=>Hpz.out T m h hke
  clear Hk0 hke Hpz
  go_wp2_with fail
  refine (zHL BM l w6 (Hvw.out w6 HB6.out) HF6.out Hnd.out Hzz.out (by have:=Hnl.out;omega)).mono ?_
  rintro e w7 ⟨hdp,hb7⟩
  rcases hdp with ⟨hdo,T,g,tn,tc,S1,rfl,hT1,hT2,hT3,hTg,hTS⟩|⟨hdo,rfl⟩
  case inr=>
   have hno:=cH (zSy Hne.out hdo)
   go_upto_region 19 with (fail)
   obtain ⟨w8,hw8⟩:∃ w8,w8=w7.alloc (.cells #[.slice none 0 0] 30):=⟨_,rfl⟩
   have HB8:Hid (Below w0.heap.size w0 w8):=by unfold Hid;rw[hw8];exact bal (bot HB6.out hb7) _
   rw[←hw8]
   clear hw8 hdo hb7
   have hRz:=HRw.out w8 HB8.out
   have HRz:=cH hRz
   obtain ⟨⟨a0,a1,a2,a3,a4,a5,a6⟩,f0,f1,f2,f3,f4,f5,f6⟩:=row7 hRz
   have HBz:=cH (HBw.out w8 HB8.out)
   clear hRz
   go_wp2_with fail
   exact zAC rfl rfl rfl rfl (zAa HRz.out _ _ _ _ _ _ _) Tryz.underlying32 rfl (by kernel_rfl) ⟨.inr ⟨hno.out,rfl⟩,zAV HBz.out (nR _) _ _ _ _ _ _ _⟩
  go_upto_region 19 with (fail)
  obtain ⟨w8,hw8⟩:∃ w8,w8=w7.alloc (.cells #[.slice (some ⟨g,0,none⟩) tn tc] 30):=⟨_,rfl⟩
  have hb8:Below w7.heap.size w7 w8:=by rw[hw8];exact bal (bR _ _) _
  have hr8:w8.heap[w7.heap.size]?=some (.cells #[.slice (some ⟨g,0,none⟩) tn tc] 30 (0,0)):=by rw[hw8];exact zAT _ _
  obtain ⟨TB,hTB⟩:∃ TB,TB=w7.heap.size:=⟨_,rfl⟩
  rw[←hTB] at hr8 ⊢
  rw[←hw8]
  have hb68:=bot hb7 hb8
  have hz6:w0.heap.size≤w6.heap.size:=HB6.out.size
  have HB8:=cH (bot HB6.out hb68)
  have HF8:=cH (HF6.out.keep hb68)
  have Hr8:=cH hr8
  have HM8:=cH ((hb68.block _ (aS.1 HM6.out).1).trans HM6.out)
  have HK8:=cH ((hb68.block _ (aS.1 Hr6.out).1).trans Hr6.out)
  have HMV8:Hid (SlV rDep w8 (fun b=>w0.heap.size≤b∧b<w6.heap.size) mn.deps (.slice A0 n0 c0)∧SlV rDep w8 (fun b=>w0.heap.size≤b∧b<w6.heap.size) mn.dev (.slice A1 n1 c1)∧SlV rDep w8 (fun b=>w0.heap.size≤b∧b<w6.heap.size) mn.opts (.slice A2 n2 c2)∧SlV rDep w8 (fun b=>w0.heap.size≤b∧b<w6.heap.size) mn.over (.slice A3 n3 c3)):=⟨HMV6.out.1.belowSize hb68,HMV6.out.2.1.belowSize hb68,HMV6.out.2.2.1.belowSize hb68,HMV6.out.2.2.2.belowSize hb68⟩
  have HGV8:=cH (HGV.out.belowSize hb68)
  have HT8:=cH (hT3.keep hb8)
  have HTg:Hid (w6.heap.size≤g∧g<TB∧∀ b,S1 b→w6.heap.size≤b):=⟨hTg,by rw[hTB];exact hT3.2.2.2.1,hTS⟩
  have HTp:Hid (T.Perm (root0::dirsF l)∧T.Pairwise upT):=⟨hT1,hT2⟩
  have hK6:=(aS.1 Hr6.out).1
  have hM6:=(aS.1 HM6.out).1
  have HKM:Hid (KB<w6.heap.size∧MB<w6.heap.size∧BM<w6.heap.size):=⟨hK6,hM6,HF6.out.lt⟩
  clear hw8 hTB hr8 hb7 hb8 hb68 hT1 hT2 hT3 hTg hTS HF6 HB6 HM6 Hr6 HMV6 HGV hK6 hM6 hdo
  have ht0:=(row1 Hr8.out).1
  have hk0':=(row1 HK8.out).1
  have hpl:∀ d∈T,d.path.length * 32≤140737488355328:=fun d hd=>zGq Hzz.out (fun f h=>h) (List.Perm.refl (dirsF l)) d (HTp.out.1.mem_iff.1 hd)
  have HMp:=cH (zPI (some ⟨g,0,none⟩) GA tn tc gl gc T gn w8 _ _ (Hvw.out w8 HB8.out).tab hpl HT8.out.slv HGV8.out)
  have Hmr:Hid ((mapR T gn).2=0→∃ m,(mapR T gn).1=some m∧m.length=T.length∧T.length≤257):=fun h=>by
   obtain ⟨hc,_,m,h1,h2⟩:=zFp h
   exact ⟨m,h1,h2,(zC7 hc).2⟩
  have Hmap':=cH (Hmap.out T HTp.out.1 HTp.out.2)
  have Hnt':=cH (fun m=>Hnt.out T m HTp.out.1 HTp.out.2)
  have Hpz2:=cH (fun m=>Hpz'.out T m HTp.out.1)
  clear hpl Hmap Hnt Hpz' HTp
  generalize hmq:mapR T gn=MR at *
  clear hmq
  obtain ⟨ms,mc⟩:=MR
  simp only at HMp Hmr Hmap' Hnt'
  go_wp2_with fail
  refine HMp.out.mono ?_
  rintro e w9 ⟨⟨v,rfl,hms⟩,hb9⟩
  obtain ⟨IA,ic,rfl,_,_⟩:=hms.val
  have ht0:=zAA hb9 ht0 (zAE ht0)
  have HB9:=cH (bot HB8.out hb9)
  by_cases hmc:mc=0
  case neg=>
   have hbm:(mc != 0)=true:=by simpa using hmc
   have hno:=cH (Hmap'.out hmc)
   clear hmc hms hb9
   have hRz:=HRw.out w9 HB9.out
   have HRz:=cH hRz
   obtain ⟨⟨a0,a1,a2,a3,a4,a5,a6⟩,f0,f1,f2,f3,f4,f5,f6⟩:=row7 hRz
   have HBz:=cH (HBw.out w9 HB9.out)
   clear hRz
   go_wp2_with fail
   exact zAC rfl rfl rfl rfl (zAa HRz.out _ _ _ _ _ _ _) Tryz.underlying32 rfl (by kernel_rfl) ⟨.inr ⟨hno.out,rfl⟩,zAV HBz.out (nR _) _ _ _ _ _ _ _⟩
  have hbm:(mc != 0)=false:=by simp[hmc]
  obtain ⟨m,hm1,hm2,hm3⟩:=Hmr.out hmc
  have Hnt2:=cH (Hnt'.out m hm1)
  rw[hm1,Option.getD_some] at hms ⊢
  have HT9:Hid (SrtV w9 g tn tc (setN m 0 T) S1):=by unfold Hid;rw[zPO];exact HT8.out.keep hb9
  have HI9:=cH (hms.more (S':=fun b=>w8.heap.size≤b∧b<w9.heap.size) fun b h h'=>⟨h,h'⟩)
  have HF9:=cH (HF8.out.keep hb9)
  have Hr9:=cH ((hb9.block _ (aS.1 Hr8.out).1).trans Hr8.out)
  have HM9:=cH ((hb9.block _ (aS.1 HM8.out).1).trans HM8.out)
  have HK9:=cH ((hb9.block _ (aS.1 HK8.out).1).trans HK8.out)
  have HMV9:Hid (SlV rDep w9 (fun b=>w0.heap.size≤b∧b<w6.heap.size) mn.deps (.slice A0 n0 c0)∧SlV rDep w9 (fun b=>w0.heap.size≤b∧b<w6.heap.size) mn.dev (.slice A1 n1 c1)∧SlV rDep w9 (fun b=>w0.heap.size≤b∧b<w6.heap.size) mn.opts (.slice A2 n2 c2)∧SlV rDep w9 (fun b=>w0.heap.size≤b∧b<w6.heap.size) mn.over (.slice A3 n3 c3)):=⟨HMV8.out.1.belowSize hb9,HMV8.out.2.1.belowSize hb9,HMV8.out.2.2.1.belowSize hb9,HMV8.out.2.2.2.belowSize hb9⟩
  have HGV9:=cH (HGV8.out.belowSize hb9)
  have HTl:Hid (TB<w8.heap.size):=(aS.1 Hr8.out).1
  have hz9:=hb9.size
  obtain ⟨il,hil⟩:∃ il,il=m.length:=⟨_,rfl⟩
  rw[←hil] at HI9 ⊢
  have hil9:il≤257:=by omega
  have Hil:=cH hil
  have Hm2:=cH hm2
  clear hm1 hm2 hm3 hil hms hb9 hmc Hmr Hmap' Hnt' HT8 HF8 HB8 Hr8 HM8 HK8 HMV8 HGV8 HMp ht0 hk0'
  go_wp2_with fail
  obtain ⟨wo,hwo⟩:∃ wo:World,wo=wr:=⟨_,rfl⟩
  subst hwo
  go_loopw [85] (fun i wr=>∃ k:Nat,k≤il∧i=.int .i64 k∧Hid (SrtV wr g tn tc (setN m k T) S1)∧Hid (w9.grownBy wr (some g))) (fun i _=>il - (intOf i).toNat)
  case atStart=>exact ⟨0,nZ _,rfl,HT9.out,World.grownBy.refl _ _⟩
  case round=>
   clear HT9
   obtain ⟨k,hk,rfl,HT,HG⟩:=hrel
   have hk0:(0:Int)≤(k:Int):=by omega
   have hgT:g≠TB:=by have:=HTg.out.2.1;omega
   have ht1:=(row1 ((HG.out.block TB (aS.1 Hr9.out).1 (fun e=>hgT (Option.some.inj e).symm)).trans Hr9.out)).1
   by_cases hlt:k<il
   case pos=>
    have hkI:(k:Int)<(il:Int):=by omega
    have hkm:k<m.length:=by have:=Hil.out;omega
    have hkT:k<T.length:=by have:=Hm2.out;omega
    have hgz:∀ b,w8.heap.size≤b∧b<w9.heap.size→b<w9.heap.size→wr.heap[b]?=w9.heap[b]?:=fun b hb hl=>HG.out.block b hl fun e=>by have:=Option.some.inj e;have:=HTg.out.2.1;have:=HTl.out;omega
    obtain ⟨nb,no,rfl,_,hnb,ci,hi64⟩:=zTR (HI9.out.keep hgz) hkm
    have hat:=zFh (m:=m) (k:=k) (gE hkT)
    rw[if_neg (by omega)] at hat
    have hel:=HT.out.2.2.2.2.2.2
    obtain ⟨cs,⟨u0,u1,u2,u3,rfl,hrr⟩,hcell⟩:=hel k T[k] hat
    have g8:=hcell 8 _ rfl
    have gf8:=HT.out.frozen (k * 9+8)
    have htn:tn=T.length:=by have:=HT.out.1;rw[zDd] at this;exact this
    have hktn:(k:Int)<(tn:Int):=by omega
    have HT2:Hid (SrtV (wr.drew.setCell ⟨g,k * 9+8,none⟩ (.int .i64 (m.getD k 0))) g tn tc (setN m (k+1) T) S1):=by
     have h1:=(HT.out.keep (w':=wr.drew) (bR _ _).drew).node hat hi64
     rw[←zQG (gE hkT)] at h1
     exact h1
    have HG2:Hid (w9.grownBy (wr.drew.setCell ⟨g,k * 9+8,none⟩ (.int .i64 (m.getD k 0))) (some g)):=(HG.out.trans (show wr.grownBy wr.drew (some g) from ⟨rfl,rfl,rfl,nR _,fun _ _ _=>rfl⟩)).trans (zBB wr.drew g (k * 9+8) _)
    clear hcell hel hrr hat hgz hi64 hkm htn
    generalize m.getD k 0=mk at *
    go_wp2_with fail
    go_region_law (fail)
    all_goals
     clear g8 gf8 ci ht1 hnb
     go_wp2_with fail
     go_roundw
     case rel=>exact ⟨k+1,by omega,by go_num,HT2.out,HG2.out⟩
     case measure=>simp[intOf];omega
   obtain rfl:k=il:=by omega
   have hI:¬(k:Int)<(k:Int):=by omega
   have hTg:=HTg.out
   have hblk:∀ b,b<w9.heap.size→b≠g→wr.heap[b]?=w9.heap[b]?:=fun b hl hne=>HG.out.block b hl fun e=>hne (Option.some.inj e)
   have HFx:=cH (HF9.out.kept HG.out fun e=>by have:=Option.some.inj e;have:=HKM.out.2.2;omega)
   have hrM:=(hblk MB (aS.1 HM9.out).1 (by have:=HKM.out.2.1;omega)).trans HM9.out
   have hrK:=(hblk KB (aS.1 HK9.out).1 (by have:=HKM.out.1;omega)).trans HK9.out
   obtain ⟨⟨m0,m1,m2,m3⟩,_⟩:=row4 hrM
   have k0:=(row1 hrK).1
   have hk6:∀ b,(w0.heap.size≤b∧b<w6.heap.size)→b<w9.heap.size→(w0.heap.size≤b)∧wr.heap[b]?=w9.heap[b]?:=fun b hb hl=>⟨hb.1,hblk b hl (by omega)⟩
   have hw06:w0.heap.size≤w6.heap.size:=hz6
   have HPV:Hid (ProjV wr (fun b=>w0.heap.size≤b) (putT l T m) (.agg #[.slice A0 n0 c0,.slice A1 n1 c1,.slice A2 n2 c2,.slice A3 n3 c3,.slice GA gl gc,.slice (some ⟨g,0,none⟩) tn tc,.bool (zAK l pruF).isSome])):=by
    unfold Hid
    rw[Hp9.out]
    refine ⟨A0,n0,c0,A1,n1,c1,A2,n2,c2,A3,n3,c3,GA,gl,gc,_,tn,tc,rfl,(zAL rDep).mono HMV9.out.1 hk6,(zAL rDep).mono HMV9.out.2.1 hk6,(zAL rDep).mono HMV9.out.2.2.1 hk6,(zAL rDep).mono HMV9.out.2.2.2 hk6,(zAL rNode).mono HGV9.out hk6,?_⟩
    have h1:=HT.out.slv
    rw[Hil.out] at h1
    exact h1.more fun b hb _=>by
     rcases hb with hb|hb
     ·have:=hTg.2.2 b hb
      omega
     ·omega
   have HBx:=cH (HB9.out.grown HG.out HB9.out.size fun q e=>by have:=Option.some.inj e;omega)
   have hlook:(Instr.lookup 81 (.map (some BM)) (.string ⟨#[47,112,114,117,110,101,100]⟩) true).run Tryz.prog wr=.ok (.tuple #[.agg #[.string (zAh l pruF).path,.bool (zAh l pruF).dir,.string (zAh l pruF).data],.bool (zAK l pruF).isSome]) wr:=HFx.out.look (p:=pruF) (by decide)
   have Hps:=cH (Hpz2.out m)
   clear HT HG HF9 Hr9 HM9 HK9 HMV9 HGV9 hblk hk6 hrM hrK HI9 HTg HFx HKM hTg Hpz2 HTl hgT hlt hk HB9
   generalize (zAh l pruF).path=q1 at hlook
   generalize (zAh l pruF).dir=q2 at hlook
   generalize (zAh l pruF).data=q3 at hlook
   generalize (zAK l pruF).isSome=pz at *
   generalize putT l T m=s at *
   go_upto_region 30 with (fail)
   obtain ⟨wy,hwy⟩:∃ wy,wy=wr.alloc (.cells #[.string q1,.bool q2,.string q3] 45):=⟨_,rfl⟩
   have hby:Below wr.heap.size wr wy:=by rw[hwy];exact bal (bR _ _) _
   have m0:=zAA hby m0 (zAE m0)
   have m1:=zAA hby m1 (zAE m1)
   have m2:=zAA hby m2 (zAE m2)
   have m3:=zAA hby m3 (zAE m3)
   have k0:=zAA hby k0 (zAE k0)
   have ht1:=zAA hby ht1 (zAE ht1)
   rw[←hwy]
   clear hwy hlook
   go_upto_region 31 with (fail)
   obtain ⟨wz,hwz⟩:∃ wz,wz=wy.alloc (.cells #[.slice A0 n0 c0,.slice A1 n1 c1,.slice A2 n2 c2,.slice A3 n3 c3,.slice GA gl gc,.slice (some ⟨g,0,none⟩) tn tc,.bool pz] 32):=⟨_,rfl⟩
   have hbz:=bot hby (show Below wy.heap.size wy wz by rw[hwz];exact bal (bR _ _) _)
   have hrz:wz.heap[wy.heap.size]?=some (.cells #[.slice A0 n0 c0,.slice A1 n1 c1,.slice A2 n2 c2,.slice A3 n3 c3,.slice GA gl gc,.slice (some ⟨g,0,none⟩) tn tc,.bool pz] 32 (0,0)):=by rw[hwz];exact zAT _ _
   obtain ⟨SB,hSB⟩:∃ SB,SB=wy.heap.size:=⟨_,rfl⟩
   rw[←hSB] at hrz ⊢
   rw[←hwz]
   have HPz:=cH (HPV.out.keep hbz)
   have HBz:=cH (bot HBx.out hbz)
   have Hrz:=cH hrz
   have hsz:SB<wz.heap.size:=(aS.1 hrz).1
   clear hwz hSB hrz hbz hby HPV HBx m0 m1 m2 m3 k0 ht1
   go_wp2_with fail
   refine (zJx A _ c l wz _ (by have:=Hnl.out;omega) (Hlw.out wz HBz.out)).mono ?_
   rintro e wc ⟨v,rfl,hown,hbc⟩
   obtain ⟨VA,vc,rfl,_,_⟩:=hown.slv.val
   have HSo:=cH (zGD _ l wc wz.heap.size hown (by have:=Hnl.out;omega) (List.length_pos_iff.2 Hne.out) Hnd.out)
   rw[←Hnl.out] at HSo ⊢
   have hbcz:=hbc.size
   have Hbc:=cH hbc
   clear hown hbc
   go_wp2_with fail
   refine HSo.out.mono ?_
   rintro e wd ⟨rfl,hsd,hbd⟩
   have hbzd:=Hbc.out.trans (hbd hbcz)
   have HBd:=cH (bot HBz.out hbzd)
   have HPd:=cH (HPz.out.keep hbzd)
   have hrd:=(hbzd.block _ hsz).trans Hrz.out
   have Hrd:=cH hrd
   obtain ⟨⟨b0,b1,b2,b3,b4,b5,b6⟩,_⟩:=row7 hrd
   have Hsd:=cH hsd
   have hszd:SB<wd.heap.size:=lL hsz hbzd.size
   clear hrd hbd hbzd HSo Hbc HPz HBz Hrz hsd hsz hbcz
   go_wp2_with fail
   refine (zFY s _ wd _ (Hvw.out wd HBd.out).tab Hps.out HPd.out).mono ?_
   rintro e we ⟨⟨u,rfl,hu⟩,hbe⟩
   obtain ⟨UA,uc,rfl,_,_⟩:=hu.val
   have HBe:=cH (bot HBd.out hbe)
   have HPe:=cH (HPd.out.keep hbe)
   have Hre:=cH ((hbe.block _ hszd).trans Hrd.out)
   have hsze:SB<we.heap.size:=lL hszd hbe.size
   have HSe:=cH (Hsd.out.belowSize hbe)
   have HUe:=cH hu
   have Hyts:=cH (Hyt.out s)
   clear hu hbe Hsd HPd HBd Hrd b0 b1 b2 b3 b4 b5 b6 hszd Hps Hyt
   generalize hfq:imgF s=FQ at *
   clear hfq
   obtain ⟨fl,fe⟩:=FQ
   simp only at HUe Hyts Hnt2 ⊢
   obtain ⟨ul,hul⟩:∃ ul,ul=fl.length:=⟨_,rfl⟩
   rw[←hul] at HUe ⊢
   clear hul
   by_cases hfe:fe=0
   case neg=>
    have hbf:(fe != 0)=true:=by simpa using hfe
    have hno:=cH (Hnt2.out (.inl hfe))
    clear hfe
    have hRz:=HRw.out we HBe.out
    have HRz:=cH hRz
    obtain ⟨⟨a0,a1,a2,a3,a4,a5,a6⟩,f0,f1,f2,f3,f4,f5,f6⟩:=row7 hRz
    have HBz:=cH (HBw.out we HBe.out)
    clear hRz
    go_wp2_with fail
    exact zAC rfl rfl rfl rfl (zAa HRz.out _ _ _ _ _ _ _) Tryz.underlying32 rfl (by kernel_rfl) ⟨.inr ⟨hno.out,rfl⟩,zAV HBz.out (nR _) _ _ _ _ _ _ _⟩
   have hbf:(fe != 0)=false:=by simp[hfe]
   have HEq:=cH (zIC UA VA ul _ uc vc fl (sortS l) we _ _ HUe.out HSe.out)
   have Hq1:Hid (eqB fl (sortS l)=true→SOf s l):=fun h=>Hyts.out hfe (zC9.1 h)
   have Hq2:Hid (eqB fl (sortS l)=false→∀ s,¬SOf s l):=fun h=>Hnt2.out (.inr fun e=>by rw[zAF e] at h;cases h)
   clear hfe Hyts Hnt2 HUe HSe
   generalize eqB fl (sortS l)=z at *
   go_wp2_with fail
   refine HEq.out.mono ?_
   rintro e wh ⟨rfl,hbh⟩
   have HBh:=cH (bot HBe.out hbh)
   have HPh:=cH (HPe.out.keep hbh)
   have hrh:=(hbh.block _ hsze).trans Hre.out
   obtain ⟨⟨b0,b1,b2,b3,b4,b5,b6⟩,_⟩:=row7 hrh
   clear hrh hbh HEq Hre HPe HBe hsze
   cases z with
   | false=>
     have hno:=cH (Hq2.out rfl)
     clear Hq1 Hq2
     have hRz:=HRw.out wh HBh.out
     have HRz:=cH hRz
     obtain ⟨⟨a0,a1,a2,a3,a4,a5,a6⟩,f0,f1,f2,f3,f4,f5,f6⟩:=row7 hRz
     have HBz:=cH (HBw.out wh HBh.out)
     clear hRz
     go_wp2_with fail
     exact zAC rfl rfl rfl rfl (zAa HRz.out _ _ _ _ _ _ _) Tryz.underlying32 rfl (by kernel_rfl) ⟨.inr ⟨hno.out,rfl⟩,zAV HBz.out (nR _) _ _ _ _ _ _ _⟩
   | true=>
     have Hso:=cH (Hq1.out rfl)
     clear Hq1 Hq2
     have hRz:=HRw.out wh HBh.out
     have HRz:=cH hRz
     obtain ⟨⟨a0,a1,a2,a3,a4,a5,a6⟩,f0,f1,f2,f3,f4,f5,f6⟩:=row7 hRz
     have HBq:=cH (HBw.out wh HBh.out)
     clear hRz
     go_wp2_with fail
     exact zAC rfl rfl rfl rfl (zAa HRz.out _ _ _ _ _ _ _) Tryz.underlying32 rfl (by kernel_rfl) ⟨.inl ⟨s,_,Hso.out,rfl,HPh.out.over fun b hb _=>⟨by omega,zIQ (by omega) _ _ _ _ _ _ _⟩⟩,zAV HBq.out (nR _) _ _ _ _ _ _ _⟩
theorem zL3 {xs:List Dir} {i:Nat} {d:Dir} (h:i≠0→packB d.pack=true):∀ f∈zBm xs i d,f.data.size≤1000000:=by
 intro f hf
 unfold zBm at hf
 rcases List.mem_append.1 hf with hf|hf
 ·split at hf
  ·cases hf
  ·rename_i h0
   rcases List.mem_cons.1 hf with rfl|hf
   ·show emB.size≤1000000
    decide
   ·rw[List.mem_singleton.1 hf]
    have hb:=h h0
    unfold packB at hb
    simp only[Bool.and_eq_true,decide_eq_true_eq] at hb
    show (zAW d.pack).size≤1000000
    omega
 ·split at hf
  ·cases hf
  ·rw[List.mem_singleton.1 hf]
   show emB.size≤1000000
   decide
theorem zGM {xs:List Dir}:∀ {l:List Dir} {i:Nat},(∀ j d,l[j]?=some d→i+j≠0→packB d.pack=true)→∀ f∈zAX xs i l,f.data.size≤1000000
 | [],i,_,f,hf=>by cases hf
 | d::l,i,h,f,hf=>by
   rw[zAX] at hf
   rcases List.mem_append.1 hf with hf|hf
   ·exact zL3 (fun h0=>h 0 d rfl (by omega)) f hf
   ·exact zGM (l:=l) (i:=i+1) (fun j x hx h0=>h (j+1) x hx (by omega)) f hf
theorem zOc {s:Proj} (h:mayI s=true):(imgF s).1.length≤900000∧∀ f∈(imgF s).1,f.path.size≤67108864∧f.data.size≤4611686018427387904:=by
 by_cases he:zBn s=true
 ·rw[zDJ h he]
  exact ⟨by decide,fun f hf=>by cases hf⟩
 rw[zB7 h he]
 have hc:=zAv h
 have hp:=zBf (imgU s)
 have hl:=(zJa s).2
 have hd:=(zC7 hc).2
 refine ⟨by rw[hp.length_eq];omega,fun f hf=>?_⟩
 have hf:=hp.mem_iff.1 hf
 have h1:=(zKs h hf).1
 unfold zAZ at h1
 simp only[Bool.and_eq_true,decide_eq_true_eq] at h1
 refine ⟨by omega,?_⟩
 have h2:f.data.size≤1000000:=by
  unfold imgU at hf
  rcases List.mem_append.1 hf with hf|hf
  ·rcases List.mem_cons.1 hf with rfl|hf
   ·have hb:=zGY h
    unfold maniB at hb
    simp only[Bool.and_eq_true,decide_eq_true_eq] at hb
    show (zAR s.man).size≤1000000
    omega
   ·rw[List.mem_singleton.1 hf]
    exact zEq (zD6 h)
  ·rcases List.mem_append.1 hf with hf|hf
   ·split at hf
    ·rw[List.mem_singleton.1 hf];decide
    ·cases hf
   ·exact zGM (fun j d hj h0=>(zEV hc hj (by omega)).1) f hf
 omega
theorem zRo {s:Proj} (h:(imgF s).2≠0):(imgF s).1=[]:=by
 unfold imgF at h ⊢
 split at h
 ·split at h<;>exact absurd rfl h
 ·rename_i hm
  rw[if_neg hm]
theorem zKl {s:Proj} (h:(imgF s).2=0):mayI s=true:=by
 cases hm:mayI s with
 | true=>rfl
 | false=>unfold imgF at h;rw[if_neg (by rw[hm];decide)] at h;cases h
theorem zR0 {α:Type} {L:List α} {q:Nat} (hq:q<L.length):(L.drop (q+1)).reverse++[L[q]]=(L.drop q).reverse:=by
 rw[dC hq,List.reverse_cons]
theorem zJw (s:Proj) (v:Value) (w:World) (S:Nat→Prop) (hv:Vok w) (hz:ProjZ s) (hp:ProjV w S s v):Calls Tryz.prog 5 #[v] w fun e w'=>e=.returned (.bool true)∧Below w.heap.size w w':=by
 have Hlv:Hid (∀ W,Below w.heap.size w W→Calls Tryz.prog 11 #[] W fun e w'=>e=.returned (.bool true)∧Below W.heap.size W w'):=fun W hW=>zMZ W (zAG hv.tab hW) ((hv.below hW).maxLen)
 have HF1:Hid (∀ W,Below w.heap.size w W→Calls Tryz.prog 8 #[v] W fun e w'=>(∃ u,e=.returned (.tuple #[u,.int .i64 (imgF s).2])∧SlV rFile w' (fun b=>W.heap.size≤b) (imgF s).1 u)∧Below W.heap.size W w'):=fun W hW=>zFY s v W S (zAG hv.tab hW) hz (hp.keep hW)
 have HF2:Hid (∀ W T u,Below w.heap.size w W→ProjV W T s u→Calls Tryz.prog 8 #[u] W fun e w'=>(∃ u,e=.returned (.tuple #[u,.int .i64 (imgF s).2])∧SlV rFile w' (fun b=>W.heap.size≤b) (imgF s).1 u)∧Below W.heap.size W w'):=fun W T u hW hu=>zFY s u W T (zAG hv.tab hW) hz hu
 have Hs1:Hid ((imgF s).2=0→(imgF s).1.length≤900000∧∀ f∈(imgF s).1,f.path.size≤67108864∧f.data.size≤4611686018427387904):=fun h=>zOc (zKl h)
 have Hs2:Hid ((imgF s).2≠0→(imgF s).1=[]):=fun h=>zRo h
 have Hs3:Hid ((imgF s).2=0→SOf s (imgF s).1.reverse):=fun h=>⟨zKl h,(List.reverse_perm _).symm⟩
 have Hv:=cH hv
 have Hp:=cH hp
 obtain ⟨A0,n0,c0,A1,n1,c1,A2,n2,c2,A3,n3,c3,A4,n4,c4,A5,n5,c5,rfl,_,_,_,_,_,g5⟩:=hp
 have HT5:=cH g5
 clear hv hz g5 Hp
 generalize imgF s=R at *
 obtain ⟨L,er⟩:=R
 simp only at HF1 HF2 Hs1 Hs2 Hs3
 obtain ⟨w0,hw0⟩:∃ w0,w0=w.alloc (.cells #[.slice A0 n0 c0,.slice A1 n1 c1,.slice A2 n2 c2,.slice A3 n3 c3,.slice A4 n4 c4,.slice A5 n5 c5,.bool s.pruned] 32):=⟨_,rfl⟩
 have HB0:Hid (Below w.heap.size w w0):=by unfold Hid;rw[hw0];exact bal (bR _ _) _
 have HQ0:Hid (w0.heap[w.heap.size]?=some (.cells #[.slice A0 n0 c0,.slice A1 n1 c1,.slice A2 n2 c2,.slice A3 n3 c3,.slice A4 n4 c4,.slice A5 n5 c5,.bool s.pruned] 32 (0,0))):=by unfold Hid;rw[hw0];exact zAT _ _
 have hq0:w.heap.size<w0.heap.size:=(aS.1 HQ0.out).1
 obtain ⟨pr,hpr⟩:∃ pr,pr=s.pruned:=⟨_,rfl⟩
 rw[←hpr] at hw0 HQ0 HF1 ⊢
 have Hpr:=cH hpr
 clear hpr
 go_enter Tryz.func5,Tryz.ntmps5
 go_wp2_with fail
 rw[←hw0]
 clear hw0
 refine (HF1.out w0 HB0.out).mono ?_
 rintro e w1 ⟨⟨u1,rfl,h1⟩,hb1⟩
 obtain ⟨X1,k1,rfl,_,_⟩:=h1.val
 have HB1:=cH (bot HB0.out hb1)
 have HL1:=cH (h1.more (S':=fun b=>b<w1.heap.size) fun b _ h=>h)
 have HQ1:=cH ((hb1.block _ hq0).trans HQ0.out)
 have hq1:w.heap.size<w1.heap.size:=lL hq0 hb1.size
 obtain ⟨N,hN⟩:∃ N,N=L.length:=⟨_,rfl⟩
 rw[←hN] at HL1 ⊢
 have HN:=cH hN
 clear hb1 h1 HB0 HQ0 HF1 hq0 hN
 by_cases hea:er=0
 case neg=>
  have hb:(er != 0)=true:=by simp[hea]
  have hL:=Hs2.out hea
  have hn0:N=0:=by rw[HN.out,hL];rfl
  have hb2:((N:Int)==0)=true:=by rw[hn0];rfl
  clear hea Hs1 Hs2 Hs3 HF2 hL hn0
  go_wp2_with fail
  refine (Hlv.out w1 HB1.out).mono ?_
  rintro e w4 ⟨rfl,hb4⟩
  have HB4:=cH (bot HB1.out hb4)
  clear hb4 Hlv
  go_wp2_with fail
  go_ret
  exact ⟨rfl,HB4.out⟩
 obtain ⟨hN9,hfz⟩:=Hs1.out hea
 have hN9:N≤900000:=by rw[HN.out];exact hN9
 have HS3:=cH (Hs3.out hea)
 have Hfz:Hid (∀ f∈L.reverse,f.path.size≤67108864∧f.data.size≤4611686018427387904):=fun f hf=>hfz f (List.mem_reverse.1 hf)
 have hb:(er != 0)=false:=by simp[hea]
 have hbe:(er==0)=true:=by simp[hea]
 have hwN:IntKind.i64.wrap ((N:Int) - 1)=(N:Int) - 1:=IntWalk.i64_in _ ⟨by omega,by omega⟩
 clear hfz Hs1 Hs2 Hs3 hea
 go_wp2_with fail
 go_loopw [5,6] (fun ov iv wr=>∃ j:Nat,j≤N∧((j=0∧iv=.int .i64 (-1))∨(∃ q:Nat,j=q+1∧iv=.int .i64 (q:Int)))∧Hid (Own rFile wr w1.heap.size 45 ov (L.drop j).reverse (fun _=>False))∧Hid (Below w1.heap.size w1 wr)) (fun _ iv _=>(intOf iv+1).toNat)
 case atStart=>
  refine ⟨N,nR _,?_,?_,bR _ _⟩
  ·rcases Nat.eq_zero_or_pos N with h|h
   ·exact .inl ⟨h,by rw[h];rfl⟩
   ·obtain ⟨q,rfl⟩:∃ q,N=q+1:=⟨N - 1,by omega⟩
    exact .inr ⟨q,rfl,by rw[show (((q+1:Nat):Int) - 1)=(q:Int) by omega]⟩
  ·unfold Hid
   rw[HN.out,List.drop_length]
   exact Own.nil_ _ _ _ _ fun b hb=>hb.elim
 case round=>
  obtain ⟨j,hj,hiv,HO,HB⟩:=hrel
  rcases hiv with ⟨rfl,rfl⟩|⟨q,rfl,rfl⟩
  case inr=>
   have hq0:(0:Int)≤(q:Int):=by omega
   have hqN:(q:Int)<(N:Int):=by omega
   have hqL:q<L.length:=by have:=HN.out;omega
   have hwq:IntKind.i64.wrap ((q:Int) - 1)=(q:Int) - 1:=IntWalk.i64_in _ ⟨by omega,by omega⟩
   obtain ⟨b,o,cs,rfl,_,hbl,⟨rfl,hx1,hx2⟩,hcell⟩:=(HL1.out.below HB.out (fun b h=>h)).elem (gE hqL)
   have c0:=hcell 0 _ rfl
   have c1:=hcell 1 _ rfl
   have c2:=hcell 2 _ rfl
   simp only[rFile,Nat.add_zero] at c0 c1 c2
   have Hst:=cH (zR0 hqL)
   have Hx:Hid (rFile.holds wr (fun _=>False) L[q] [.string L[q].path,.bool L[q].dir,.string L[q].data]):=⟨rfl,hx1,hx2⟩
   obtain ⟨A,c,rfl,_,_⟩:=HO.out.slv.val
   obtain ⟨RL,hRL⟩:∃ RL,RL=(L.drop (q+1)).reverse:=⟨_,rfl⟩
   rw[←hRL] at HO Hst ⊢
   have hlen:RL.length≤900000:=by rw[hRL,List.length_reverse,List.length_drop];have:=HN.out;omega
   have Hlen:=cH hlen
   have hz1:w1.heap.size≤wr.heap.size:=HB.out.size
   clear hcell hx1 hx2 hRL hlen hbl
   generalize L[q]=x at *
   go_wp2_with (at_builtin;refine zAb (by rfl) _ _ _ (by rfl) zFe Tryz.underlying33 (by rfl) (HO.out.alloc _) ⟨wr.heap.size,0,none⟩ 1 [.string x.path,.bool x.dir,.string x.data] x (by rfl) (Rp.alloc Hx.out _) (zAz wr #[.string x.path,.bool x.dir,.string x.data] _) (by have:=Hlen.out;unfold maxLen;omega) (by have:=Hlen.out;omega) (by simp;omega) (wr.heap.size+1) (by simp) ?_)
   intro g9 cap9 w9 hown9 hgrow9 hat9 hlt9
   have HB9:=cH ((HB.out.alloc hz1 _).grown hgrow9 (by simp;omega) (fun k e=>(HO.out.lt k e).1))
   have HO9:Hid (Own rFile w9 w1.heap.size 45 (.slice (some ⟨g9,0,none⟩) (RL.length+1) cap9) (L.drop q).reverse (fun _=>False)):=by unfold Hid;rw[←Hst.out];exact hown9
   clear hown9 hgrow9 hat9 hlt9 HO HB Hst Hx c0 c1 c2
   go_wp2_with fail
   go_roundw
   case rel=>
    refine ⟨q,by omega,?_,HO9.out,HB9.out⟩
    rcases Nat.eq_zero_or_pos q with h|h
    ·exact .inl ⟨h,by rw[h];rfl⟩
    ·obtain ⟨p,rfl⟩:∃ p,q=p+1:=⟨q - 1,by omega⟩
     exact .inr ⟨p,rfl,by rw[show (((p+1:Nat):Int) - 1)=(p:Int) by omega]⟩
   case measure=>simp[intOf]<;>omega
  rw[List.drop_zero] at HO
  obtain ⟨A,c,rfl,_,_⟩:=HO.out.slv.val
  have hLr:L.reverse.length=N:=by rw[List.length_reverse];exact HN.out.symm
  rw[hLr] at HO ⊢
  have HBr:=cH (bot HB1.out HB.out)
  have HR:=cH (zJs A N c L.reverse wr _ (Hv.out.below HBr.out) HO.out.slv hN9 Hfz.out)
  have HLr:=cH (HL1.out.below HB.out (fun b h=>h))
  have HQr:=cH ((HB.out.block _ hq1).trans HQ1.out)
  have hqr:w.heap.size<wr.heap.size:=lL hq1 HB.out.size
  clear HO HB HB1 HL1 HQ1 hq1 hLr Hfz hwN
  go_wp2_with fail
  refine HR.out.mono ?_
  rintro e w2 ⟨hrd,hb2⟩
  rcases hrd with ⟨s',u,hso,rfl,hpu⟩|⟨hno,_⟩
  case inr=>exact absurd HS3.out (hno s)
  obtain rfl:=HS3.out.one hso
  have HB2:=cH (bot HBr.out hb2)
  have HL2:=cH (HLr.out.belowSize hb2)
  have HQ2:=cH ((hb2.block _ hqr).trans HQr.out)
  have hq2:w.heap.size<w2.heap.size:=lL hqr hb2.size
  have Hpu:=cH hpu
  obtain ⟨D0,m0,d0,D1,m1,d1,D2,m2,d2,D3,m3,d3,D4,m4,d4,D5,m5,d5,rfl,_,_,_,_,_,k5⟩:=hpu
  rw[←Hpr.out] at Hpu ⊢
  have HK5:=cH k5
  clear hso hb2 k5 HR HBr HLr HQr hqr
  go_upto_region 10 with (fail)
  obtain ⟨w3,hw3⟩:∃ w3,w3=w2.alloc (.cells #[.slice D0 m0 d0,.slice D1 m1 d1,.slice D2 m2 d2,.slice D3 m3 d3,.slice D4 m4 d4,.slice D5 m5 d5,.bool pr] 32):=⟨_,rfl⟩
  have hb3:Below w2.heap.size w2 w3:=by rw[hw3];exact bal (bR _ _) _
  have hr3:w3.heap[w2.heap.size]?=some (.cells #[.slice D0 m0 d0,.slice D1 m1 d1,.slice D2 m2 d2,.slice D3 m3 d3,.slice D4 m4 d4,.slice D5 m5 d5,.bool pr] 32 (0,0)):=by rw[hw3];exact zAT _ _
  obtain ⟨QB,hQB⟩:∃ QB,QB=w2.heap.size:=⟨_,rfl⟩
  rw[←hQB] at hr3 ⊢
  rw[←hw3]
  have HB3:=cH (bot HB2.out hb3)
  have HL3:=cH (HL2.out.belowSize hb3)
  have Hpu3:=cH (Hpu.out.keep hb3)
  have HK3:=cH (HK5.out.belowSize hb3)
  have Hst:Hid (∀ W,Below w3.heap.size w3 W→(W.cell? ⟨w.heap.size,5,none⟩=some (.slice A5 n5 c5)∧W.cell? ⟨w.heap.size,6,none⟩=some (.bool pr))∧W.cell? ⟨QB,0,none⟩=some (.slice D0 m0 d0)∧W.cell? ⟨QB,1,none⟩=some (.slice D1 m1 d1)∧W.cell? ⟨QB,2,none⟩=some (.slice D2 m2 d2)∧W.cell? ⟨QB,3,none⟩=some (.slice D3 m3 d3)∧W.cell? ⟨QB,4,none⟩=some (.slice D4 m4 d4)∧W.cell? ⟨QB,5,none⟩=some (.slice D5 m5 d5)∧W.cell? ⟨QB,6,none⟩=some (.bool pr)):=fun W hW=>by
   have h2:=(hb3.block _ hq2).trans HQ2.out
   have h1:=(hW.block _ (aS.1 h2).1).trans h2
   have h4:=(hW.block _ (aS.1 hr3).1).trans hr3
   exact ⟨⟨cO _ _ 5 _ _ _ h1,cO _ _ 6 _ _ _ h1⟩,cO _ _ 0 _ _ _ h4,cO _ _ 1 _ _ _ h4,cO _ _ 2 _ _ _ h4,cO _ _ 3 _ _ _ h4,cO _ _ 4 _ _ _ h4,cO _ _ 5 _ _ _ h4,cO _ _ 6 _ _ _ h4⟩
  have HT3:=cH (HT5.out.belowSize HB3.out)
  obtain ⟨_,y0,y1,y2,y3,y4,y5,y6⟩:=Hst.out w3 (bR _ _)
  clear hw3 hr3 hb3 hQB HB2 HL2 HQ2 hq2 Hpu HK5
  go_wp2_with fail
  refine (HF2.out w3 _ _ HB3.out Hpu3.out).mono ?_
  rintro e w4 ⟨⟨u4,rfl,h4⟩,hb4⟩
  obtain ⟨X4,k4,rfl,_,_⟩:=h4.val
  rw[←HN.out] at h4 ⊢
  have HB4:=cH hb4
  have HU4:=cH h4
  have HL4:=cH (HL3.out.belowSize hb4)
  clear h4 hb4 y0 y1 y2 y3 y4 y5 y6 HF2 HL3 Hpu3
  go_wp2_with fail
  refine (zME _ _ _ _ _ _ L L w4 _ _ HU4.out HL4.out).mono ?_
  rintro e w5 ⟨rfl,hb5⟩
  rw[zAF rfl]
  have HB5:=cH (bot HB4.out hb5)
  obtain ⟨⟨x5,x6⟩,y0,y1,y2,y3,y4,y5,y6⟩:=Hst.out w5 HB5.out
  have HAl:=cH (zPq _ _ _ _ _ _ s.dirs s.dirs w5 _ _ (HK3.out.belowSize HB5.out) (HT3.out.belowSize HB5.out))
  clear hb5 HB4 HU4 HL4 y0 y1 y2 y3 y4
  rw[zAF rfl] at HAl
  go_wp2_with fail
  refine HAl.out.mono ?_
  rintro e w6 ⟨rfl,hb6⟩
  have HB6:=cH (bot HB5.out hb6)
  clear x5 x6 y5 y6
  obtain ⟨⟨x5,x6⟩,y0,y1,y2,y3,y4,y5,y6⟩:=Hst.out w6 HB6.out
  have HE:Hid (Below w.heap.size w w6):=bot HB3.out HB6.out
  have hpp:(pr==pr)=true:=by simp
  clear hb6 HB5 HAl y0 y1 y2 y3 y4 y5 x5 Hst
  go_wp2_with fail
  refine (Hlv.out w6 HE.out).mono ?_
  rintro e w7 ⟨rfl,hb7⟩
  have HB7:=cH (bot HE.out hb7)
  clear hb7 Hlv
  go_wp2_with fail
  go_ret
  exact ⟨rfl,HB7.out⟩
