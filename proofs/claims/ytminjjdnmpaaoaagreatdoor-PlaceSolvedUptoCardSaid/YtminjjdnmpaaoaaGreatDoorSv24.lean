/- The placer's laws: one small graph is placed: walked. -/
import Derived.Test.YtminjjdnmpaaoaaGreatDoorSv23
import Derived.Test.YtminjjdnmpaaoaaGreatDoorSv01
import Derived.KernelRfl
import Derived.Test.YtminjjdnmpaaoaaGreatDoorSv13
import Derived.Test.YtminjjdnmpaaoaaGreatDoorSv10
import Derived.Test.YtminjjdnmpaaoaaGreatDoorSv04
import Derived.Test.YtminjjdnmpaaoaaGreatDoorSv06
import Derived.Test.YtminjjdnmpaaoaaGreatDoorSv02
import Derived.Test.YtminjjdnmpaaoaaGreatDoorSv11
import Derived.Test.YtminjjdnmpaaoaaGreatDoorAl
set_option linter.all false
set_option maxHeartbeats 3200000
set_option maxRecDepth 100000
namespace Go.Proofs.YtminjjdnmpaaoaaGreatDoor
open Go.Rows Go.RowKit Go.Shelf Go.Sort
def oV (v:Int):Obj:=.cells #[.int .i64 v,.int .i64 0,.int .i64 0] 50
def oE2:Obj:=.cells #[.string ⟨#[97]⟩,.int .i64 1,.string ⟨#[98]⟩,.int .i64 2] 61
def oE1:Obj:=.cells #[.string ⟨#[98]⟩,.int .i64 3] 61
def oN (b:Nat):Obj:=.cells #[.string ⟨#[]⟩,.int .i64 0,.int .i64 0,.int .i64 0,.slice none 0 0,.slice (some ⟨b+1+1,0,none⟩) 2 2,.string ⟨#[97]⟩,.int .i64 1,.int .i64 0,.int .i64 0,.slice none 0 0,.slice (some ⟨b+1+1+1,0,none⟩) 1 1,.string ⟨#[98]⟩,.int .i64 1,.int .i64 0,.int .i64 0,.slice none 0 0,.slice none 0 0,.string ⟨#[98]⟩,.int .i64 2,.int .i64 0,.int .i64 0,.slice none 0 0,.slice none 0 0] 58
def oG (b:Nat):Obj:=.cells #[.slice (some ⟨b+1+1+1+1,0,none⟩) 4 4] 24
def oP:Obj:=.cells #[.string ⟨#[]⟩,.int .i64 0,.int .i64 0,.int .i64 0,.slice none 0 0,.slice none 0 0,.slice none 0 0,.string ⟨#[97]⟩,.int .i64 1,.int .i64 0,.int .i64 0,.slice none 0 0,.slice none 0 0,.slice none 0 0,.string ⟨#[98]⟩,.int .i64 1,.int .i64 0,.int .i64 0,.slice none 0 0,.slice none 0 0,.slice none 0 0,.string ⟨#[98]⟩,.int .i64 2,.int .i64 0,.int .i64 0,.slice none 0 0,.slice none 0 0,.slice none 0 0] 52
def wL (w:World):World:=((((((w.alloc (oV 1)).alloc (oV 2)).alloc oE2).alloc oE1).alloc (oN w.heap.size)).alloc (oG w.heap.size)).alloc oP
theorem zIm (w:World):Below w.heap.size w (wL w):=bal (bal (bal (bal (bal (bal (bal (bR _ _) _) _) _) _) _) _) _
theorem zH7 (w:World):(wL w).heap[w.heap.size+1+1]?=some oE2∧(wL w).heap[w.heap.size+1+1+1]?=some oE1∧(wL w).heap[w.heap.size+1+1+1+1]?=some (oN w.heap.size)∧(wL w).heap[w.heap.size+1+1+1+1+1]?=some (oG w.heap.size)∧(wL w).heap[w.heap.size+1+1+1+1+1+1]?=some oP:=by
 have hs:∀ (W:World) (o:Obj),(W.alloc o).heap=W.heap.push o:=fun W o=>rfl
 unfold wL
 simp only[hs,Array.getElem?_push,Array.size_push]
 refine ⟨?_,?_,?_,?_,?_⟩<;>simp<;>omega
theorem zLY (w:World):SlV rNode (wL w) (fun _=>True) gL (.slice (some ⟨w.heap.size+1+1+1+1,0,none⟩) 4 4):=by
 obtain ⟨h2,h3,h4,_,_⟩:=zH7 w
 have e2:SlV rEdge (wL w) (fun _=>True) [⟨sA,1⟩,⟨sB,2⟩] (.slice (some ⟨w.heap.size+1+1,0,none⟩) 2 2):=
  SlV.of_block (r:=rEdge) (S:=fun _=>True) (l:=[⟨sA,1⟩,⟨sB,2⟩]) h2 (⟨[.string ⟨#[97]⟩,.int .i64 1],_,rfl,⟨rfl,by decide,by unfold I64;decide⟩,[.string ⟨#[98]⟩,.int .i64 2],_,rfl,⟨rfl,by decide,by unfold I64;decide⟩,rfl⟩) trivial rfl (by decide) (by decide)
 have e1:SlV rEdge (wL w) (fun _=>True) [⟨sB,3⟩] (.slice (some ⟨w.heap.size+1+1+1,0,none⟩) 1 1):=
  SlV.of_block (r:=rEdge) (S:=fun _=>True) (l:=[⟨sB,3⟩]) h3 (⟨[.string ⟨#[98]⟩,.int .i64 3],_,rfl,⟨rfl,by decide,by unfold I64;decide⟩,rfl⟩) trivial rfl (by decide) (by decide)
 exact SlV.of_block (r:=rNode) (S:=fun _=>True) (l:=gL) h4 (⟨[.string ⟨#[]⟩,.int .i64 0,.int .i64 0,.int .i64 0,.slice none 0 0,.slice (some ⟨w.heap.size+1+1,0,none⟩) 2 2],_,rfl,⟨_,_,rfl,by decide,by unfold I64;decide,by unfold I64;decide,by unfold I64;decide,SlV.nil_ _ _ _,e2⟩,[.string ⟨#[97]⟩,.int .i64 1,.int .i64 0,.int .i64 0,.slice none 0 0,.slice (some ⟨w.heap.size+1+1+1,0,none⟩) 1 1],_,rfl,⟨_,_,rfl,by decide,by unfold I64;decide,by unfold I64;decide,by unfold I64;decide,SlV.nil_ _ _ _,e1⟩,[.string ⟨#[98]⟩,.int .i64 1,.int .i64 0,.int .i64 0,.slice none 0 0,.slice none 0 0],_,rfl,⟨_,_,rfl,by decide,by unfold I64;decide,by unfold I64;decide,by unfold I64;decide,SlV.nil_ _ _ _,SlV.nil_ _ _ _⟩,[.string ⟨#[98]⟩,.int .i64 2,.int .i64 0,.int .i64 0,.slice none 0 0,.slice none 0 0],_,rfl,⟨_,_,rfl,by decide,by unfold I64;decide,by unfold I64;decide,by unfold I64;decide,SlV.nil_ _ _ _,SlV.nil_ _ _ _⟩,rfl⟩) trivial rfl (by decide) (by decide)
theorem zLo (w:World):SlV rPack (wL w) (fun _=>True) psL (.slice (some ⟨w.heap.size+1+1+1+1+1+1,0,none⟩) 4 4):=by
 obtain ⟨_,_,_,_,h5⟩:=zH7 w
 exact SlV.of_block (r:=rPack) (S:=fun _=>True) (l:=psL) h5 (⟨[.string ⟨#[]⟩,.int .i64 0,.int .i64 0,.int .i64 0,.slice none 0 0,.slice none 0 0,.slice none 0 0],_,rfl,⟨_,_,_,rfl,by decide,by unfold I64;decide,by unfold I64;decide,by unfold I64;decide,SlV.nil_ _ _ _,SlV.nil_ _ _ _,SlV.nil_ _ _ _⟩,[.string ⟨#[97]⟩,.int .i64 1,.int .i64 0,.int .i64 0,.slice none 0 0,.slice none 0 0,.slice none 0 0],_,rfl,⟨_,_,_,rfl,by decide,by unfold I64;decide,by unfold I64;decide,by unfold I64;decide,SlV.nil_ _ _ _,SlV.nil_ _ _ _,SlV.nil_ _ _ _⟩,[.string ⟨#[98]⟩,.int .i64 1,.int .i64 0,.int .i64 0,.slice none 0 0,.slice none 0 0,.slice none 0 0],_,rfl,⟨_,_,_,rfl,by decide,by unfold I64;decide,by unfold I64;decide,by unfold I64;decide,SlV.nil_ _ _ _,SlV.nil_ _ _ _,SlV.nil_ _ _ _⟩,[.string ⟨#[98]⟩,.int .i64 2,.int .i64 0,.int .i64 0,.slice none 0 0,.slice none 0 0,.slice none 0 0],_,rfl,⟨_,_,_,rfl,by decide,by unfold I64;decide,by unfold I64;decide,by unfold I64;decide,SlV.nil_ _ _ _,SlV.nil_ _ _ _,SlV.nil_ _ _ _⟩,rfl⟩) trivial rfl (by decide) (by decide)
theorem zKV (w:World) (ht:Tab w) :
  Calls Tryz.prog 15 #[] w fun e w'=>e=.returned (.bool true)∧Below w.heap.size w w':=by
 have HB:=cH (zIm w)
 have g0:(wL w).cell? ⟨w.heap.size+1+1+1+1+1,0,none⟩=some (.slice (some ⟨w.heap.size+1+1+1+1,0,none⟩) 4 4):=cO _ _ 0 _ _ _ (zH7 w).2.2.2.1
 have HR:Hid (Calls Tryz.prog 11 #[.agg #[.slice (some ⟨w.heap.size+1+1+1+1,0,none⟩) 4 4],.slice (some ⟨w.heap.size+1+1+1+1+1+1,0,none⟩) 4 4,.agg #[.int .i64 0,.int .i64 0,.int .i64 9,.int .i64 99],.pointer none] (wL w) fun e w'=>
   ∃ vA vc,e=.returned (.tuple #[.agg #[.slice vA 4 vc],.int .i64 0])∧SlV rDir w' (fun b=>(wL w).heap.size≤b) (sortD tL) (.slice vA 4 vc)∧Below (wL w).heap.size (wL w) w'):=by
  refine (zEK _ 4 4 _ 4 4 0 0 (.pointer none) qL (wL w) (fun _=>True) (zAY ht (zIm w)) (zLY w) (zLo w) (.inl ⟨rfl,rfl⟩) (by unfold I64 qL;decide) (by unfold I64 qL;decide) (by decide) (by decide) (fun x hx=>by
   have:x.deps=[]∧x.peers=[]∧x.opts=[]:=by
    simp only[qL,psL,List.mem_cons,List.mem_nil_iff,or_false] at hx
    rcases hx with rfl|rfl|rfl|rfl<;>exact ⟨rfl,rfl,rfl⟩
   unfold zBR
   rw[this.1,this.2.1,this.2.2]
   unfold zD8
   simp)).mono ?_
  rintro e w' ⟨rv,rfl,h2,h3⟩
  have e1:zAy qL=(sortD tL,0):=zEt zHw
  rw[e1] at h2 ⊢
  obtain ⟨vA,vc,rfl,_,_⟩:=h2.val
  have e2:(sortD tL).length=4:=by rw[zDK];rfl
  rw[e2] at h2 ⊢
  exact ⟨vA,vc,rfl,h2,h3⟩
 go_enter Tryz.func15,Tryz.ntmps15
 go_upto_region 5 with (fail)
 change Code.wp _ _ _ _ (wL w)
 generalize wL w=w7 at *
 go_wp2_with fail
 refine HR.out.mono ?_
 rintro e w8 ⟨vA,vc,rfl,h8,b8⟩
 have H8:=cH h8
 have HB8:=cH (bot HB.out b8)
 clear h8 b8 HR g0
 have hi2:(sortD tL)[2]?=some ⟨[sA,sB],packL sB 2,3⟩:=by rw[zDK];rfl
 have hi3:(sortD tL)[3]?=some ⟨[sB],packL sB 1,2⟩:=by rw[zDK];rfl
 obtain ⟨b,o,cs,hA,_,hb,hh,hcell⟩:=H8.out.elem hi2
 obtain ⟨s0,s1,s2,s3,rfl,_⟩:=hh
 have n2:=hcell 8 _ rfl
 obtain ⟨b',o',cs',hA',_,hb',hh',hcell'⟩:=H8.out.elem hi3
 obtain ⟨s0',s1',s2',s3',rfl,_⟩:=hh'
 have n3:=hcell' 8 _ rfl
 rw[hA] at hA'
 injection hA' with hA'
 injection hA' with e1 e2 _
 subst e1 e2
 simp only[rDir] at n2 n3
 subst hA
 clear hcell hcell' hi2 hi3
 go_upto_region 6 with (fail)
 obtain ⟨w9,hw9⟩:∃ w9,w9=w8.alloc (.cells #[.slice (some ⟨b,o,none⟩) 4 vc] 33):=⟨_,rfl⟩
 have HB9:Hid (Below w8.heap.size w8 w9):=by unfold Hid;rw[hw9];exact bal (bR _ _) _
 have hq9:w9.heap[w8.heap.size]?=some (.cells #[.slice (some ⟨b,o,none⟩) 4 vc] 33 (0,0)):=by rw[hw9];exact zAD _ _
 rw[←hw9]
 have c0:=cO _ _ 0 _ _ _ hq9
 have hz9:=(aS.1 hq9).1
 have m2:=zAA HB9.out n2 hb
 have m3:=zAA HB9.out n3 hb
 clear hw9 hq9 n2 n3
 have Hf:Hid (Calls Tryz.prog 18 #[.agg #[.slice (some ⟨b,o,none⟩) 4 vc],.slice (some ⟨w9.heap.size,0,none⟩) 2 2] (w9.alloc (.cells #[.string ⟨#[97]⟩,.string ⟨#[98]⟩] 9)) fun e w'=>e=.returned (.int .i64 2)∧Below (w9.alloc (.cells #[.string ⟨#[97]⟩,.string ⟨#[98]⟩] 9)).heap.size (w9.alloc (.cells #[.string ⟨#[97]⟩,.string ⟨#[98]⟩] 9)) w'):=by
  have h:=zDG _ _ 4 vc 2 2 (sortD tL) [sA,sB] (w9.alloc (.cells #[.string ⟨#[97]⟩,.string ⟨#[98]⟩] 9)) _ (fun _=>True) (H8.out.belowSize (bal HB9.out _)) (SlV.of_block (r:=rStr) (S:=fun _=>True) (l:=[sA,sB]) (zAD w9 _) (⟨[.string ⟨#[97]⟩],_,rfl,⟨rfl,by decide⟩,[.string ⟨#[98]⟩],_,rfl,⟨rfl,by decide⟩,rfl⟩) trivial rfl (by decide) (by decide))
  rw[zJx] at h
  exact h
 go_wp2_with fail
 refine Hf.out.mono ?_
 rintro e w10 ⟨rfl,b10⟩
 have HB10:=cH (bot (bal HB9.out _) b10)
 have HBz:=cH (bot (bal (bR w9.heap.size w9) _) b10)
 have p2:=zAA (bot (bal (bR w9.heap.size w9) _) b10) m2 (lL hb HB9.out.size)
 have p3:=zAA (bot (bal (bR w9.heap.size w9) _) b10) m3 (lL hb HB9.out.size)
 have q0:=zAA (bot (bal (bR w9.heap.size w9) _) b10) c0 hz9
 clear b10 Hf
 go_wp2_with fail
 go_ret
 exact ⟨rfl,bot HB8.out HB10.out⟩
end Go.Proofs.YtminjjdnmpaaoaaGreatDoor
namespace Go.Proofs.YtminjjdnmpaaoaaGreatDoor
open Go.ChangeShapes Go.WideShapes Go.ChangeAt Go.RowKit
structure Mani where
 deps:List Dep
 dev:List Dep
 opts:List Dep
 over:List Dep
def rMani:Rp Mani where
 size:=4
 holds:=fun w S x cs=>∃ s0 s1 s2 s3,cs=[s0,s1,s2,s3]∧SlV rDep w S x.deps s0∧SlV rDep w S x.dev s1∧SlV rDep w S x.opts s2∧SlV rDep w S x.over s3
 len:=fun ⟨s0,s1,s2,s3,h,c0,c1,c2,c3⟩=>by rw[h];rfl
 one:=fun ⟨s0,s1,s2,s3,h,c0,c1,c2,c3⟩=>by obtain ⟨_,_,rfl,_⟩:=c0.val;obtain ⟨_,_,rfl,_⟩:=c1.val;obtain ⟨_,_,rfl,_⟩:=c2.val;obtain ⟨_,_,rfl,_⟩:=c3.val;rw[h];simp[Value.oneCell']
 mono:=fun ⟨s0,s1,s2,s3,h,c0,c1,c2,c3⟩ hk=>⟨s0,s1,s2,s3,h,(zAn rDep).mono c0 hk,(zAn rDep).mono c1 hk,(zAn rDep).mono c2 hk,(zAn rDep).mono c3 hk⟩
def zF2 (x:Mani):Nat:=1+bkL bkDep x.deps+bkL bkDep x.dev+bkL bkDep x.opts+bkL bkDep x.over
theorem zIZ:zCD Tryz.prog 28 rMani zF2:=by
 intro H enc w base fuel cs x h
 obtain ⟨xs,n,rfl,rfl,hlen,hxl,hf⟩:=DataW.trod_struct Tryz.underlying28 h
 rw[show Tryz.prog.cellsOf 28=4 from by kernel_rfl] at hlen
 match cs,hlen with
 | [c0,c1,c2,c3],_=>
   have k0:Tryz.prog.cellsOf 26=1:=by kernel_rfl
   have f0:=hf 0 _ rfl
   have f1:=hf 1 _ rfl
   have f2:=hf 2 _ rfl
   have f3:=hf 3 _ rfl
   match xs,hxl with
   | [x0,x1,x2,x3],_=>
     simp[k0] at f0 f1 f2 f3
     obtain ⟨y0,g0,b0⟩:=zAs (e:=68) Tryz.underlying26 (r:=rDep) (by kernel_rfl) (by decide) zBu H enc w base n [c0] x0 f0
     obtain ⟨y1,g1,b1⟩:=zAs (e:=68) Tryz.underlying26 (r:=rDep) (by kernel_rfl) (by decide) zBu H enc w base n [c1] x1 f1
     obtain ⟨y2,g2,b2⟩:=zAs (e:=68) Tryz.underlying26 (r:=rDep) (by kernel_rfl) (by decide) zBu H enc w base n [c2] x2 f2
     obtain ⟨y3,g3,b3⟩:=zAs (e:=68) Tryz.underlying26 (r:=rDep) (by kernel_rfl) (by decide) zBu H enc w base n [c3] x3 f3
     refine ⟨⟨y0,y1,y2,y3⟩,⟨_,_,_,_,rfl,g0,g1,g2,g3⟩,?_⟩
     simp only[zF2,Rows.uptoBulk,Rows.uptoBulkAll,List.map_cons,List.map_nil] at *
     omega
structure Lim where
 dec:Int
 nod:Int
 dirs:Int
 path:Int
def rLim:Rp Lim where
 size:=4
 holds:=fun w S x cs=>cs=[.int .i64 x.dec,.int .i64 x.nod,.int .i64 x.dirs,.int .i64 x.path]∧I64 x.dec∧I64 x.nod∧I64 x.dirs∧I64 x.path
 len:=fun ⟨h,_⟩=>by rw[h];rfl
 one:=fun ⟨h,_⟩=>by rw[h];simp[Value.oneCell']
 mono:=fun h hk=>h
theorem zJC:zCD Tryz.prog 30 rLim (fun _=>1):=by
 intro H enc w base fuel cs x h
 obtain ⟨xs,n,rfl,rfl,hlen,hxl,hf⟩:=DataW.trod_struct Tryz.underlying30 h
 rw[show Tryz.prog.cellsOf 30=4 from by kernel_rfl] at hlen
 match cs,hlen with
 | [c0,c1,c2,c3],_=>
   have k0:Tryz.prog.cellsOf 3=1:=by kernel_rfl
   have f0:=hf 0 _ rfl
   have f1:=hf 1 _ rfl
   have f2:=hf 2 _ rfl
   have f3:=hf 3 _ rfl
   match xs,hxl with
   | [x0,x1,x2,x3],_=>
     simp[k0] at f0 f1 f2 f3
     obtain ⟨y0,⟨h0,i0⟩,b0⟩:=zBc Tryz.underlying3 H enc w base n [c0] x0 f0
     obtain ⟨y1,⟨h1,i1⟩,b1⟩:=zBc Tryz.underlying3 H enc w base n [c1] x1 f1
     obtain ⟨y2,⟨h2,i2⟩,b2⟩:=zBc Tryz.underlying3 H enc w base n [c2] x2 f2
     obtain ⟨y3,⟨h3,i3⟩,b3⟩:=zBc Tryz.underlying3 H enc w base n [c3] x3 f3
     simp only[List.cons.injEq,and_true] at h0 h1 h2 h3
     subst h0 h1 h2 h3
     exact ⟨⟨y0,y1,y2,y3⟩,⟨rfl,i0,i1,i2,i3⟩,zGf _⟩
structure Wd where
 packs:List Pack
 man:Mani
 dev:Bool
 lim:Lim
 old:List Dir
 like:Bool
def WdV (w:World) (S:Nat→Prop) (x:Wd) (v:Value):Prop:=
 ∃ kA kn kc mA mn mc nA nn nc lA ln lc vA vn vc oA on oc,v=.agg #[.slice kA kn kc,.slice mA mn mc,.slice nA nn nc,.slice lA ln lc,.slice vA vn vc,.bool x.dev,.int .i64 x.lim.dec,.int .i64 x.lim.nod,.int .i64 x.lim.dirs,.int .i64 x.lim.path,.slice oA on oc,.bool x.like] ∧
   SlV rPack w S x.packs (.slice kA kn kc)∧SlV rDep w S x.man.deps (.slice mA mn mc)∧SlV rDep w S x.man.dev (.slice nA nn nc)∧SlV rDep w S x.man.opts (.slice lA ln lc)∧SlV rDep w S x.man.over (.slice vA vn vc)∧SlV rDir w S x.old (.slice oA on oc)∧(I64 x.lim.dec∧I64 x.lim.nod∧I64 x.lim.dirs∧I64 x.lim.path)
def rWd:Rp Wd where
 size:=12
 holds:=fun w S x cs=>∃ s0 s1 s2 s3 s4 s5,cs=[s0,s1,s2,s3,s4,.bool x.dev,.int .i64 x.lim.dec,.int .i64 x.lim.nod,.int .i64 x.lim.dirs,.int .i64 x.lim.path,s5,.bool x.like]∧SlV rPack w S x.packs s0∧SlV rDep w S x.man.deps s1∧SlV rDep w S x.man.dev s2∧SlV rDep w S x.man.opts s3∧SlV rDep w S x.man.over s4∧SlV rDir w S x.old s5∧(I64 x.lim.dec∧I64 x.lim.nod∧I64 x.lim.dirs∧I64 x.lim.path)
 len:=fun ⟨s0,s1,s2,s3,s4,s5,h,_⟩=>by rw[h];rfl
 one:=fun ⟨s0,s1,s2,s3,s4,s5,h,c0,c1,c2,c3,c4,c5,_⟩=>by obtain ⟨_,_,rfl,_⟩:=c0.val;obtain ⟨_,_,rfl,_⟩:=c1.val;obtain ⟨_,_,rfl,_⟩:=c2.val;obtain ⟨_,_,rfl,_⟩:=c3.val;obtain ⟨_,_,rfl,_⟩:=c4.val;obtain ⟨_,_,rfl,_⟩:=c5.val;rw[h];simp[Value.oneCell']
 mono:=fun ⟨s0,s1,s2,s3,s4,s5,h,c0,c1,c2,c3,c4,c5,i⟩ hk=>⟨s0,s1,s2,s3,s4,s5,h,(zAn rPack).mono c0 hk,(zAn rDep).mono c1 hk,(zAn rDep).mono c2 hk,(zAn rDep).mono c3 hk,(zAn rDep).mono c4 hk,(zAn rDir).mono c5 hk,i⟩
def bkWd (x:Wd):Nat:=1+bkL zCQ x.packs+zF2 x.man+1+1+(1+bkL bkDir x.old)+1
theorem zKp:zCD Tryz.prog 35 rWd bkWd:=by
 intro H enc w base fuel cs x h
 obtain ⟨xs,n,rfl,rfl,hlen,hxl,hf⟩:=DataW.trod_struct Tryz.underlying35 h
 rw[show Tryz.prog.cellsOf 35=12 from by kernel_rfl] at hlen
 match cs,hlen with
 | [c0,c1,c2,c3,c4,c5,c6,c7,c8,c9,c10,c11],_=>
   have k0:Tryz.prog.cellsOf 25=1:=by kernel_rfl
   have k1:Tryz.prog.cellsOf 28=4:=by kernel_rfl
   have k2:Tryz.prog.cellsOf 4=1:=by kernel_rfl
   have k3:Tryz.prog.cellsOf 30=4:=by kernel_rfl
   have k4:Tryz.prog.cellsOf 33=1:=by kernel_rfl
   have f0:=hf 0 _ rfl
   have f1:=hf 1 _ rfl
   have f2:=hf 2 _ rfl
   have f3:=hf 3 _ rfl
   have f4:=hf 4 _ rfl
   have f5:=hf 5 _ rfl
   match xs,hxl with
   | [x0,x1,x2,x3,x4,x5],_=>
     simp[k0,k1,k2,k3,k4] at f0 f1 f2 f3 f4 f5
     obtain ⟨y0,g0,b0⟩:=zAs (e:=52) Tryz.underlying25 (r:=rPack) (by kernel_rfl) (by decide) zFN H enc w base n [c0] x0 f0
     obtain ⟨v0,h0,g0⟩:∃ v0,[c0]=[v0]∧SlV rPack w (fun b=>b<w.heap.size) y0 v0:=⟨c0,rfl,g0⟩
     obtain ⟨y1,⟨v1,v2,v3,v4,h1,g1,g2,g3,g4⟩,b1⟩:=zIZ H enc w base n [c1,c2,c3,c4] x1 f1
     simp only[List.cons.injEq,and_true] at h1
     obtain ⟨rfl,rfl,rfl,rfl⟩:=h1
     obtain ⟨y2,h2,b2⟩:=zFO Tryz.underlying4 H enc w base n [c5] x2 f2
     have h2':[c5]=[Value.bool y2]:=h2
     simp only[List.cons.injEq,and_true] at h2'
     subst h2'
     obtain ⟨y3,⟨h3,i3⟩,b3⟩:=zJC H enc w base n [c6,c7,c8,c9] x3 f3
     simp only[List.cons.injEq,and_true] at h3
     obtain ⟨rfl,rfl,rfl,rfl⟩:=h3
     obtain ⟨y4,⟨v5,h4,g5⟩,b4⟩:=zID H enc w base n [c10] x4 f4
     simp only[List.cons.injEq,and_true] at h4
     subst h4
     obtain ⟨y5,h5,b5⟩:=zFO Tryz.underlying4 H enc w base n [c11] x5 f5
     have h5':[c11]=[Value.bool y5]:=h5
     simp only[List.cons.injEq,and_true] at h5'
     subst h5'
     simp only[List.cons.injEq,and_true] at h0
     subst h0
     refine ⟨⟨y0,y1,y2,y3,y4.dirs,y5⟩,⟨_,_,_,_,_,_,rfl,g0,g1,g2,g3,g4,g5,i3⟩,?_⟩
     simp only[bkWd,zKT,Rows.uptoBulk,Rows.uptoBulkAll,List.map_cons,List.map_nil] at *
     omega
theorem zM2 {H:Type} {enc:TypeId×Value→H} {w:World} {v:Value} {d:DataW H} {ps:List MemPlace} {base:Nat} {r:Reach}
  (hv:Value.okWide Tryz.prog w r base 35 v) (h:DataW.Trod enc Tryz.prog w 0 (fun _=>true) true 35 v d ps) :
  ∃ x:Wd,WdV w (fun b=>b<w.heap.size) x v∧bkWd x≤Rows.uptoBulk d:=by
 obtain ⟨y,hy,hbk⟩:=zJd zKp h
 obtain ⟨cs,rfl,_⟩:=okWide_struct Tryz.underlying35 hv
 obtain ⟨s0,s1,s2,s3,s4,s5,hcs,g0,g1,g2,g3,g4,g5,i⟩:=hy
 obtain ⟨A0,c0,rfl,_,_⟩:=g0.val
 obtain ⟨A1,c1,rfl,_,_⟩:=g1.val
 obtain ⟨A2,c2,rfl,_,_⟩:=g2.val
 obtain ⟨A3,c3,rfl,_,_⟩:=g3.val
 obtain ⟨A4,c4,rfl,_,_⟩:=g4.val
 obtain ⟨A5,c5,rfl,_,_⟩:=g5.val
 have e:cs.toList=[.slice A0 y.packs.length c0,.slice A1 y.man.deps.length c1,.slice A2 y.man.dev.length c2,.slice A3 y.man.opts.length c3,.slice A4 y.man.over.length c4,.bool y.dev,.int .i64 y.lim.dec,.int .i64 y.lim.nod,.int .i64 y.lim.dirs,.int .i64 y.lim.path,.slice A5 y.old.length c5,.bool y.like]:=hcs
 obtain rfl:cs=#[.slice A0 y.packs.length c0,.slice A1 y.man.deps.length c1,.slice A2 y.man.dev.length c2,.slice A3 y.man.opts.length c3,.slice A4 y.man.over.length c4,.bool y.dev,.int .i64 y.lim.dec,.int .i64 y.lim.nod,.int .i64 y.lim.dirs,.int .i64 y.lim.path,.slice A5 y.old.length c5,.bool y.like]:=Array.ext' e
 exact ⟨y,⟨_,_,_,_,_,_,_,_,_,_,_,_,_,_,_,_,_,_,rfl,g0,g1,g2,g3,g4,g5,i⟩,hbk⟩
def zHY (l:List Pack):Prop:=l.length≤1048576∧∀ x∈l,zBR x
def WdZ (x:Wd):Prop:=∀ d∈x.old,d.path.length * 32≤140737488355328
theorem zEA {l:List Dep} (h:bkL bkDep l≤1048576):zD8 l:=by
 have n1:=zDb (bk:=bkDep) (l:=l) fun x=>by unfold bkDep;omega
 refine ⟨by omega,fun d hd=>?_⟩
 have k1:bkDep d≤bkL bkDep l:=zIJ (bk:=bkDep) hd
 have k2:=zDb (bk:=bkSpn) (l:=d.range) fun x=>by unfold bkSpn;omega
 have k4:bkDep d=1+(d.name.size+1)+bkL bkSpn d.range:=rfl
 omega
theorem zIN {l:List Pack} {B:Nat} (h:bkL zCQ l≤B) (hB:B≤1048576):zHY l:=by
 have n1:=zDb (bk:=zCQ) (l:=l) fun x=>by unfold zCQ;omega
 refine ⟨by omega,fun x hx=>?_⟩
 have k1:zCQ x≤bkL zCQ l:=zIJ (bk:=zCQ) hx
 have k4:zCQ x=1+(x.name.size+1)+bkVer x.ver+bkL bkDep x.deps+bkL bkDep x.peers+bkL bkDep x.opts:=rfl
 exact ⟨zEA (by omega),zEA (by omega),zEA (by omega)⟩
theorem zM4 {x:Wd} (h:bkWd x≤1048576):WdZ x:=fun d hd=>by
 have e:bkWd x=1+bkL zCQ x.packs+zF2 x.man+1+1+(1+bkL bkDir x.old)+1:=rfl
 have k1:bkDir d≤bkL bkDir x.old:=zIJ (bk:=bkDir) hd
 have k2:=zDb (bk:=fun s:ByteArray=>s.size+1) (l:=d.path) fun x=>by omega
 have k4:bkDir d=1+bkL (fun s:ByteArray=>s.size+1) d.path+zCQ d.pack+1:=rfl
 omega
end Go.Proofs.YtminjjdnmpaaoaaGreatDoor
namespace Go.Proofs.YtminjjdnmpaaoaaGreatDoor
open Go.Rows Go.RowKit Go.Shelf Go.Sort
theorem OldV.ptr {w:World} {S:Nat→Prop} {ov:Value} {old:Option (List Dir)} (h:OldV w S ov old):∃ p,ov=.pointer p:=by
 rcases h with ⟨_,h⟩|⟨b,o,_,_,_,_,_,h,_⟩
 ·exact ⟨_,h⟩
 ·exact ⟨_,h⟩
def qW (g:List Node) (ps:List Pack) (x:Wd):PlIn:=⟨g,ps,x.lim.dirs,x.lim.path,if x.like=true then some x.old else none⟩
section
variable {gA pA:Option Addr} {gn gc pn pc:Nat} {g:List Node} {ps:List Pack} {x:Wd} {w:World} {S:Nat→Prop}
variable {oA:Option Addr} {on oc:Nat}
theorem zLs (ht:Tab w) (hg:SlV rNode w S g (.slice gA gn gc)) (hp:SlV rPack w S ps (.slice pA pn pc)) (hgz:g.length≤1048576) (hpz:zHY ps) (hi:I64 x.lim.dirs∧I64 x.lim.path) (W:World) (hW:Below w.heap.size w W) (p:Option Addr) (ho:OldV W (fun b=>b<W.heap.size) (.pointer p) (qW g ps x).old) :
  Calls Tryz.prog 11 #[.agg #[.slice gA gn gc],.slice pA pn pc,.agg #[.int .i64 x.lim.dec,.int .i64 x.lim.nod,.int .i64 x.lim.dirs,.int .i64 x.lim.path],.pointer p] W fun e w'=>
   (∃ A n c,e=.returned (.tuple #[.agg #[.slice A n c],.int .i64 (zAy (qW g ps x)).2])∧SlV rDir w' (fun b=>W.heap.size≤b) (zAy (qW g ps x)).1 (.slice A n c))∧Below W.heap.size W w':=
 (zEK gA gn gc pA pn pc x.lim.dec x.lim.nod (.pointer p) (qW g ps x) W (fun b=>b<W.heap.size) (zAY ht hW) ((hg.belowSize hW).more fun b _ h=>h) ((hp.belowSize hW).more fun b _ h=>h) ho hi.1 hi.2 hgz hpz.1 hpz.2).mono fun e w' ⟨rv,h1,h2,h3⟩=>by
   obtain ⟨A,c,rfl,_,_⟩:=h2.val
   exact ⟨⟨A,_,c,h1,h2⟩,h3⟩
theorem zIV (ht:Tab w) (hg:SlV rNode w S g (.slice gA gn gc)) (hp:SlV rPack w S ps (.slice pA pn pc)) (hgz:g.length≤1048576) (hpz:zHY ps) (hi:I64 x.lim.dirs∧I64 x.lim.path) (ho:SlV rDir w S x.old (.slice oA on oc)) (hoz:WdZ x) (W:World) (hW:Below w.heap.size w W) :
  Calls Tryz.prog 13 #[.agg #[.slice gA gn gc],.slice pA pn pc,.agg #[.int .i64 x.lim.dec,.int .i64 x.lim.nod,.int .i64 x.lim.dirs,.int .i64 x.lim.path],.agg #[.slice oA on oc],.bool x.like] W fun e w'=>
   (∃ A n c,e=.returned (.tuple #[.agg #[.slice A n c],.int .i64 (zAy (qW g ps x)).2])∧SlV rDir w' (fun _=>True) (zAy (qW g ps x)).1 (.slice A n c))∧Below W.heap.size W w':=
 (zFF gA gn gc pA pn pc x.lim.dec x.lim.nod oA on oc x.like x.old (qW g ps x) W S (zAY ht hW) (hg.belowSize hW) (hp.belowSize hW) (ho.belowSize hW) rfl hoz hi.1 hi.2 hgz hpz.1).mono fun e w' ⟨rv,h1,h2,h3⟩=>by
   obtain ⟨A,c,rfl,_,_⟩:=h2.val
   exact ⟨⟨A,_,c,h1,h2⟩,h3⟩
end
theorem zCs (a b:ByteArray) (ha:a.size≤maxLen) (hb:b.size≤maxLen) (w:World) :
  Calls Tryz.prog 108 #[.string a,.string b] w fun e w'=>e=.returned (.bool (lessB a b))∧Below w.heap.size w w':=by
 have H:=cH (fun W=>zIw a b ha hb W)
 go_enter Tryz.func108,Tryz.ntmps108
 go_wp2_with fail
 refine (H.out _).mono ?_
 rintro e w1 ⟨rfl,hb1⟩
 go_wp2_with fail
 go_ret
 exact ⟨rfl,hb1⟩
end Go.Proofs.YtminjjdnmpaaoaaGreatDoor
namespace Go.Proofs.YtminjjdnmpaaoaaGreatDoor
open Go
def cmp3T (x1 x2 x3 y1 y2 y3:Int):Int:=if x1<y1 then -1 else if y1<x1 then 1 else if x2<y2 then -1 else if y2<x2 then 1 else if x3<y3 then -1 else if y3<x3 then 1 else 0
def cmpT (a b:Ver):Int:=cmp3T a.major a.minor a.patch b.major b.minor b.patch
noncomputable def zCz (a b:Pack):Bool:=if a.name=b.name then decide (0<cmpT a.ver b.ver) else lessB a.name b.name
noncomputable def isC (s:ByteArray) (v:Ver) (x:Pack):Bool:=decide (x.name=s)&&eqB x.ver v
noncomputable def getC (L:List Pack) (s:ByteArray) (v:Ver):Option Pack:=L.find? (isC s v)
noncomputable def zBS (L:List Pack) (p:Pack):Nat:=(L.takeWhile fun x=>zCz x p).length
noncomputable def putC (L:List Pack) (p:Pack):List Pack×Int:=
 if packB p=false then (L,24)
 else if (getC L p.name p.ver).isSome=true then (L,11)
 else if 128≤L.length then (L,26)
 else (L.take (zBS L p)++p::L.drop (zBS L p),0)
noncomputable def catC (ps:List Pack):List Pack:=ps.foldl (fun L p=>(putC L p).1) []
def versC (L:List Pack) (s:ByteArray):List Ver:=(L.filter fun x=>decide (x.name=s)).map (·.ver)
structure Want where
 name:ByteArray
 kind:Int
 range:List Spn
def zBk (m:Mani) (d:Dep):List Spn:=match m.over.find? (fun o=>decide (o.name=d.name)) with
 | some o=>o.range
 | none=>d.range
def backW (l:List Want) (s:ByteArray):Nat→Nat
 | 0=>0
 | i+1=>match l[i]? with
   | none=>i+1
   | some x=>if lessB s x.name=true then backW l s i else i+1
def zBn (l:List Want) (w:Want):List Want:=l.take (backW l w.name l.length)++w::l.drop (backW l w.name l.length)
def zAQ (m:Mani) (kind:Int):List Dep→List Want→List Want
 | [],l=>l
 | d::ds,l=>zAQ m kind ds (zBn l ⟨d.name,kind,zBk m d⟩)
def ofW (m:Mani) (p:Pack):List Want:=zAQ m 2 p.opts (zAQ m 1 p.deps [])
def zBP (m:Mani) (dev:Bool):List Want:=zAQ m 2 m.opts (if dev=true then zAQ m 1 m.dev (zAQ m 1 m.deps []) else zAQ m 1 m.deps [])
def zBp (m:Mani) (l:List Dep):List Dep:=l.map fun d=>⟨d.name,zBk m d⟩
def zAh:List Pin→ByteArray→Option Ver
 | [],_=>none
 | x::l,s=>if x.name=s then some x.ver else zAh l s
def pinAt (l:List Pin) (s:ByteArray):Nat:=(l.takeWhile fun x=>lessB x.name s).length
def pinIs (l:List Pin) (s:ByteArray):Bool:=match l[pinAt l s]? with
 | none=>false
 | some x=>decide (x.name=s)
def withP (l:List Pin) (p:Pin):List Pin:=if pinIs l p.name=true then l else l.take (pinAt l p.name)++p::l.drop (pinAt l p.name)
noncomputable def isN (p:Pin) (c:List Pin) (n:Node):Bool:=decide (n.name=p.name)&&(eqB n.ver p.ver&&eqB n.ctx c)
noncomputable def zAz (p:Pin) (c:List Pin):List Node→Nat
 | []=>0
 | n::l=>if isN p c n=true then 0 else zAz p c l+1
noncomputable def placeN (nodes:List Node) (p:Pin) (c:List Pin):Nat:=match nodes with
 | []=>0
 | _::l=>zAz p c l+1
theorem zKH {a b:ByteArray} (h1:lessB a b=false) (h2:a≠b):lessB b a=true:=by
 rw[zB3,decide_eq_false_iff_not,List.not_lt] at h1
 rw[zB3,decide_eq_true_eq]
 rcases List.le_iff_lt_or_eq.1 h1 with h|h
 ·exact h
 ·exact absurd (ByteArray.ext (Array.ext' h.symm)) h2
def SrtP (l:List Pin):Prop:=l.Pairwise fun a b=>lessB a.name b.name=true
theorem zCc (x:Pin) (l:List Pin) (s:ByteArray):pinAt (x::l) s=if lessB x.name s=true then pinAt l s+1 else 0:=by
 unfold pinAt
 rw[List.takeWhile_cons]
 split<;>rename_i h<;>simp[h]
theorem zIn (l:List Pin) (s:ByteArray):pinAt l s≤l.length:=by
 induction l with
 | nil=>exact nR _
 | cons x l ih=>rw[zCc];split<;>simp<;>omega
theorem zFv (x:Pin) (l:List Pin) (s:ByteArray):pinIs (x::l) s=if lessB x.name s=true then pinIs l s else decide (x.name=s):=by
 unfold pinIs
 rw[zCc]
 by_cases h:lessB x.name s=true
 ·rw[if_pos h,if_pos h,List.getElem?_cons_succ]
 ·rw[if_neg h,if_neg h,List.getElem?_cons_zero]
theorem zDF (x:Pin) (l:List Pin) (p:Pin):withP (x::l) p=if lessB x.name p.name=true then x::withP l p else if x.name=p.name then x::l else p::x::l:=by
 unfold withP
 rw[zFv,zCc]
 by_cases h:lessB x.name p.name=true
 ·rw[if_pos h,if_pos h,if_pos h]
  split
  ·rfl
  ·rw[List.take_succ_cons,List.drop_succ_cons,List.cons_append]
 ·rw[if_neg h,if_neg h,if_neg h]
  by_cases h2:x.name=p.name
  ·rw[if_pos (by simpa using h2),if_pos h2]
  ·rw[if_neg (by simpa using h2),if_neg h2];rfl
theorem zK0 (p:Pin):withP [] p=[p]:=rfl
theorem withP_mem {l:List Pin} {p x:Pin} (h:x∈withP l p):x=p∨x∈l:=by
 induction l with
 | nil=>rw[zK0] at h;exact .inl (List.mem_singleton.1 h)
 | cons y l ih=>
   rw[zDF] at h
   split at h
   ·rcases List.mem_cons.1 h with rfl|h
    ·exact .inr (by simp)
    ·rcases ih h with h|h
     ·exact .inl h
     ·exact .inr (by simp[h])
   ·split at h
    ·exact .inr h
    ·rcases List.mem_cons.1 h with h|h
     ·exact .inl h
     ·exact .inr h
theorem zKR {l:List Pin} {p x:Pin} (h:x∈l):x∈withP l p:=by
 induction l with
 | nil=>cases h
 | cons y l ih=>
   rw[zDF]
   split
   ·rcases List.mem_cons.1 h with rfl|h
    ·simp
    ·simp[ih h]
   ·split
    ·exact h
    ·simp only[List.mem_cons] at h ⊢;exact .inr h
theorem zDA {l:List Pin} (p:Pin) (h:SrtP l):SrtP (withP l p):=by
 induction l with
 | nil=>exact List.pairwise_singleton _ _
 | cons x l ih=>
   unfold SrtP at h ih ⊢
   rw[List.pairwise_cons] at h
   rw[zDF]
   split
   ·rename_i hx
    rw[List.pairwise_cons]
    refine ⟨fun y hy=>?_,ih h.2⟩
    rcases withP_mem hy with rfl|hy
    ·exact hx
    ·exact h.1 y hy
   ·rename_i hx
    split
    ·exact List.pairwise_cons.2 h
    ·rename_i hne
     have hpx:lessB p.name x.name=true:=zKH (by simpa using hx) hne
     rw[List.pairwise_cons]
     refine ⟨fun y hy=>?_,List.pairwise_cons.2 h⟩
     rcases List.mem_cons.1 hy with rfl|hy
     ·exact hpx
     ·exact zCv hpx (h.1 y hy)
theorem zHH (l:List Pin) (p:Pin):(withP l p).length=if pinIs l p.name=true then l.length else l.length+1:=by
 induction l with
 | nil=>rfl
 | cons x l ih=>
   rw[zDF,zFv]
   split
   ·rw[List.length_cons,ih];split<;>simp
   ·rename_i h
    by_cases h2:x.name=p.name
    ·rw[if_pos h2,if_pos (by simpa using h2)]
    ·rw[if_neg h2,if_neg (by simpa using h2)];simp
theorem zMJ (l:List Pin) (p:Pin):(withP l p).length≤l.length+1:=by rw[zHH];split<;>omega
theorem SrtP.nodup {l:List Pin} (h:SrtP l):(l.map (·.name)).Nodup:=by
 unfold List.Nodup
 rw[List.pairwise_map]
 exact h.imp fun {a b} hab he=>by rw[he,zCN] at hab;cases hab
theorem zK3 {α:Type} [DecidableEq α]:∀ {l m:List α},l.Nodup→(∀ x∈l,x∈m)→l.length≤m.length:=by
 intro l
 induction l with
 | nil=>intro m _ _;exact nZ _
 | cons x l ih=>
   intro m hn hs
   rw[List.nodup_cons] at hn
   have hx:=hs x (by simp)
   have h:=ih (m:=m.erase x) hn.2 fun y hy=>(List.mem_erase_of_ne (fun e:y=x=>hn.1 (by rw[←e];exact hy))).2 (hs y (by simp[hy]))
   rw[List.length_erase_of_mem hx] at h
   have:=List.length_pos_of_mem hx
   rw[List.length_cons]
   omega
def zB6 (env l:List Pin):Prop:=∀ x∈l,x.name∈env.map (·.name)
theorem SrtP.le {env l:List Pin} (h:SrtP l) (hs:zB6 env l):l.length≤env.length:=by
 have:=zK3 (m:=env.map (·.name)) h.nodup (fun s hs'=>by
  obtain ⟨x,hx,rfl⟩:=List.mem_map.1 hs'
  exact hs x hx)
 rwa [List.length_map,List.length_map] at this
theorem zC8 {l:List Pin} {s:ByteArray} {v:Ver} (h:zAh l s=some v):(⟨s,v⟩:Pin)∈l:=by
 induction l with
 | nil=>cases h
 | cons x l ih=>
   unfold zAh at h
   split at h
   ·rename_i hx
    cases h
    subst hx
    simp
   ·simp[ih h]
theorem zFt {l:List Pin} {s:ByteArray} {v:Ver} (h:zAh l s=some v):s∈l.map (·.name):=List.mem_map.2 ⟨_,zC8 h,rfl⟩
