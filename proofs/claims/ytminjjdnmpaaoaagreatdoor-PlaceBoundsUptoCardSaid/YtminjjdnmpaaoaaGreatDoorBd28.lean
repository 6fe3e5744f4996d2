/- A world of the placer's laws as data, opened; lists of packages, opened. -/
import Derived.Test.YtminjjdnmpaaoaaGreatDoorBd18
import Derived.Test.YtminjjdnmpaaoaaGreatDoorBd01
import Derived.Test.YtminjjdnmpaaoaaGreatDoorBd13
import Derived.KernelRfl
import Derived.Test.YtminjjdnmpaaoaaGreatDoorBd23
import Derived.Test.YtminjjdnmpaaoaaGreatDoorBd27
import Derived.Test.YtminjjdnmpaaoaaGreatDoorBd17
import Derived.Test.YtminjjdnmpaaoaaGreatDoorBd22
import Derived.Test.YtminjjdnmpaaoaaGreatDoorAl
set_option linter.all false
set_option maxHeartbeats 12800000
set_option maxRecDepth 100000
namespace Go.Proofs.YtminjjdnmpaaoaaGreatDoor
open Go.ChangeShapes Go.WideShapes Go.ChangeAt Go.RowKit
structure Lim where
 dec:Int
 nod:Int
 dirs:Int
 path:Int
def rLim:Rp Lim where
 size:=4
 holds:=fun w S x cs=>cs=[.int .i64 x.dec,.int .i64 x.nod,.int .i64 x.dirs,.int .i64 x.path]∧I64 x.dec∧I64 x.nod∧I64 x.dirs∧I64 x.path
 len:=fun ⟨h,_⟩=>by rw[h];rfl
 one:=fun ⟨h,_⟩=>by rw[h];simp[Value.oneCell']
 mono:=fun h hk=>h
theorem zJI:zCH Tryz.prog 30 rLim (fun _=>1):=by
 intro H enc w base fuel cs x h
 obtain ⟨xs,n,rfl,rfl,hlen,hxl,hf⟩:=DataW.trod_struct Tryz.underlying30 h
 rw[show Tryz.prog.cellsOf 30=4 from by kernel_rfl] at hlen
 match cs,hlen with
 | [c0,c1,c2,c3],_=>
   have k0:Tryz.prog.cellsOf 3=1:=by kernel_rfl
   have f0:=hf 0 _ rfl
   have f1:=hf 1 _ rfl
   have f2:=hf 2 _ rfl
   have f3:=hf 3 _ rfl
   match xs,hxl with
   | [x0,x1,x2,x3],_=>
     simp[k0] at f0 f1 f2 f3
     obtain ⟨y0,⟨h0,i0⟩,b0⟩:=zBf Tryz.underlying3 H enc w base n [c0] x0 f0
     obtain ⟨y1,⟨h1,i1⟩,b1⟩:=zBf Tryz.underlying3 H enc w base n [c1] x1 f1
     obtain ⟨y2,⟨h2,i2⟩,b2⟩:=zBf Tryz.underlying3 H enc w base n [c2] x2 f2
     obtain ⟨y3,⟨h3,i3⟩,b3⟩:=zBf Tryz.underlying3 H enc w base n [c3] x3 f3
     simp only[List.cons.injEq,and_true] at h0 h1 h2 h3
     subst h0 h1 h2 h3
     exact ⟨⟨y0,y1,y2,y3⟩,⟨rfl,i0,i1,i2,i3⟩,zGS _⟩
structure Wd where
 packs:List Pack
 man:Mani
 dev:Bool
 lim:Lim
 old:List Dir
 like:Bool
def WdV (w:World) (S:Nat→Prop) (x:Wd) (v:Value):Prop:=
 ∃ kA kn kc mA mn mc nA nn nc lA ln lc vA vn vc oA on oc,v=.agg #[.slice kA kn kc,.slice mA mn mc,.slice nA nn nc,.slice lA ln lc,.slice vA vn vc,.bool x.dev,.int .i64 x.lim.dec,.int .i64 x.lim.nod,.int .i64 x.lim.dirs,.int .i64 x.lim.path,.slice oA on oc,.bool x.like] ∧
   SlV rPack w S x.packs (.slice kA kn kc)∧SlV rDep w S x.man.deps (.slice mA mn mc)∧SlV rDep w S x.man.dev (.slice nA nn nc)∧SlV rDep w S x.man.opts (.slice lA ln lc)∧SlV rDep w S x.man.over (.slice vA vn vc)∧SlV rDir w S x.old (.slice oA on oc)∧(I64 x.lim.dec∧I64 x.lim.nod∧I64 x.lim.dirs∧I64 x.lim.path)
def rWd:Rp Wd where
 size:=12
 holds:=fun w S x cs=>∃ s0 s1 s2 s3 s4 s5,cs=[s0,s1,s2,s3,s4,.bool x.dev,.int .i64 x.lim.dec,.int .i64 x.lim.nod,.int .i64 x.lim.dirs,.int .i64 x.lim.path,s5,.bool x.like]∧SlV rPack w S x.packs s0∧SlV rDep w S x.man.deps s1∧SlV rDep w S x.man.dev s2∧SlV rDep w S x.man.opts s3∧SlV rDep w S x.man.over s4∧SlV rDir w S x.old s5∧(I64 x.lim.dec∧I64 x.lim.nod∧I64 x.lim.dirs∧I64 x.lim.path)
 len:=fun ⟨s0,s1,s2,s3,s4,s5,h,_⟩=>by rw[h];rfl
 one:=fun ⟨s0,s1,s2,s3,s4,s5,h,c0,c1,c2,c3,c4,c5,_⟩=>by obtain ⟨_,_,rfl,_⟩:=c0.val;obtain ⟨_,_,rfl,_⟩:=c1.val;obtain ⟨_,_,rfl,_⟩:=c2.val;obtain ⟨_,_,rfl,_⟩:=c3.val;obtain ⟨_,_,rfl,_⟩:=c4.val;obtain ⟨_,_,rfl,_⟩:=c5.val;rw[h];simp[Value.oneCell']
 mono:=fun ⟨s0,s1,s2,s3,s4,s5,h,c0,c1,c2,c3,c4,c5,i⟩ hk=>⟨s0,s1,s2,s3,s4,s5,h,(zAk rPack).mono c0 hk,(zAk rDep).mono c1 hk,(zAk rDep).mono c2 hk,(zAk rDep).mono c3 hk,(zAk rDep).mono c4 hk,(zAk rDir).mono c5 hk,i⟩
def bkWd (x:Wd):Nat:=1+bkL zCS x.packs+zF6 x.man+1+1+(1+bkL bkDir x.old)+1
theorem zLn:zCH Tryz.prog 35 rWd bkWd:=by
 intro H enc w base fuel cs x h
 obtain ⟨xs,n,rfl,rfl,hlen,hxl,hf⟩:=DataW.trod_struct Tryz.underlying35 h
 rw[show Tryz.prog.cellsOf 35=12 from by kernel_rfl] at hlen
 match cs,hlen with
 | [c0,c1,c2,c3,c4,c5,c6,c7,c8,c9,c10,c11],_=>
   have k0:Tryz.prog.cellsOf 25=1:=by kernel_rfl
   have k1:Tryz.prog.cellsOf 28=4:=by kernel_rfl
   have k2:Tryz.prog.cellsOf 4=1:=by kernel_rfl
   have k3:Tryz.prog.cellsOf 30=4:=by kernel_rfl
   have k4:Tryz.prog.cellsOf 33=1:=by kernel_rfl
   have f0:=hf 0 _ rfl
   have f1:=hf 1 _ rfl
   have f2:=hf 2 _ rfl
   have f3:=hf 3 _ rfl
   have f4:=hf 4 _ rfl
   have f5:=hf 5 _ rfl
   match xs,hxl with
   | [x0,x1,x2,x3,x4,x5],_=>
     simp[k0,k1,k2,k3,k4] at f0 f1 f2 f3 f4 f5
     obtain ⟨y0,g0,b0⟩:=zAs (e:=52) Tryz.underlying25 (r:=rPack) (by kernel_rfl) (by decide) zE5 H enc w base n [c0] x0 f0
     obtain ⟨v0,h0,g0⟩:∃ v0,[c0]=[v0]∧SlV rPack w (fun b=>b<w.heap.size) y0 v0:=⟨c0,rfl,g0⟩
     obtain ⟨y1,⟨v1,v2,v3,v4,h1,g1,g2,g3,g4⟩,b1⟩:=zH0 H enc w base n [c1,c2,c3,c4] x1 f1
     simp only[List.cons.injEq,and_true] at h1
     obtain ⟨rfl,rfl,rfl,rfl⟩:=h1
     obtain ⟨y2,h2,b2⟩:=zFK Tryz.underlying4 H enc w base n [c5] x2 f2
     have h2':[c5]=[Value.bool y2]:=h2
     simp only[List.cons.injEq,and_true] at h2'
     subst h2'
     obtain ⟨y3,⟨h3,i3⟩,b3⟩:=zJI H enc w base n [c6,c7,c8,c9] x3 f3
     simp only[List.cons.injEq,and_true] at h3
     obtain ⟨rfl,rfl,rfl,rfl⟩:=h3
     obtain ⟨y4,⟨v5,h4,g5⟩,b4⟩:=zHm H enc w base n [c10] x4 f4
     simp only[List.cons.injEq,and_true] at h4
     subst h4
     obtain ⟨y5,h5,b5⟩:=zFK Tryz.underlying4 H enc w base n [c11] x5 f5
     have h5':[c11]=[Value.bool y5]:=h5
     simp only[List.cons.injEq,and_true] at h5'
     subst h5'
     simp only[List.cons.injEq,and_true] at h0
     subst h0
     refine ⟨⟨y0,y1,y2,y3,y4.dirs,y5⟩,⟨_,_,_,_,_,_,rfl,g0,g1,g2,g3,g4,g5,i3⟩,?_⟩
     simp only[bkWd,zK2,Rows.uptoBulk,Rows.uptoBulkAll,List.map_cons,List.map_nil] at *
     omega
theorem zNc {H:Type} {enc:TypeId×Value→H} {w:World} {v:Value} {d:DataW H} {ps:List MemPlace} {base:Nat} {r:Reach}
  (hv:Value.okWide Tryz.prog w r base 35 v) (h:DataW.Trod enc Tryz.prog w 0 (fun _=>true) true 35 v d ps) :
  ∃ x:Wd,WdV w (fun b=>b<w.heap.size) x v∧bkWd x≤Rows.uptoBulk d:=by
 obtain ⟨y,hy,hbk⟩:=zJR zLn h
 obtain ⟨cs,rfl,_⟩:=okWide_struct Tryz.underlying35 hv
 obtain ⟨s0,s1,s2,s3,s4,s5,hcs,g0,g1,g2,g3,g4,g5,i⟩:=hy
 obtain ⟨A0,c0,rfl,_,_⟩:=g0.val
 obtain ⟨A1,c1,rfl,_,_⟩:=g1.val
 obtain ⟨A2,c2,rfl,_,_⟩:=g2.val
 obtain ⟨A3,c3,rfl,_,_⟩:=g3.val
 obtain ⟨A4,c4,rfl,_,_⟩:=g4.val
 obtain ⟨A5,c5,rfl,_,_⟩:=g5.val
 have e:cs.toList=[.slice A0 y.packs.length c0,.slice A1 y.man.deps.length c1,.slice A2 y.man.dev.length c2,.slice A3 y.man.opts.length c3,.slice A4 y.man.over.length c4,.bool y.dev,.int .i64 y.lim.dec,.int .i64 y.lim.nod,.int .i64 y.lim.dirs,.int .i64 y.lim.path,.slice A5 y.old.length c5,.bool y.like]:=hcs
 obtain rfl:cs=#[.slice A0 y.packs.length c0,.slice A1 y.man.deps.length c1,.slice A2 y.man.dev.length c2,.slice A3 y.man.opts.length c3,.slice A4 y.man.over.length c4,.bool y.dev,.int .i64 y.lim.dec,.int .i64 y.lim.nod,.int .i64 y.lim.dirs,.int .i64 y.lim.path,.slice A5 y.old.length c5,.bool y.like]:=Array.ext' e
 exact ⟨y,⟨_,_,_,_,_,_,_,_,_,_,_,_,_,_,_,_,_,_,rfl,g0,g1,g2,g3,g4,g5,i⟩,hbk⟩
def zIl (l:List Pack):Prop:=l.length≤1048576∧∀ x∈l,zBc x
def WdZ (x:Wd):Prop:=∀ d∈x.old,d.path.length * 32≤140737488355328
theorem zD5 {l:List Dep} (h:bkL bkDep l≤1048576):zD8 l:=by
 have n1:=zDe (bk:=bkDep) (l:=l) fun x=>by unfold bkDep;omega
 refine ⟨by omega,fun d hd=>?_⟩
 have k1:bkDep d≤bkL bkDep l:=zH3 (bk:=bkDep) hd
 have k2:=zDe (bk:=bkSpn) (l:=d.range) fun x=>by unfold bkSpn;omega
 have k4:bkDep d=1+(d.name.size+1)+bkL bkSpn d.range:=rfl
 omega
theorem zII {l:List Pack} {B:Nat} (h:bkL zCS l≤B) (hB:B≤1048576):zIl l:=by
 have n1:=zDe (bk:=zCS) (l:=l) fun x=>by unfold zCS;omega
 refine ⟨by omega,fun x hx=>?_⟩
 have k1:zCS x≤bkL zCS l:=zH3 (bk:=zCS) hx
 have k4:zCS x=1+(x.name.size+1)+bkVer x.ver+bkL bkDep x.deps+bkL bkDep x.peers+bkL bkDep x.opts:=rfl
 exact ⟨zD5 (by omega),zD5 (by omega),zD5 (by omega)⟩
theorem zNa {x:Wd} (h:bkWd x≤1048576):WdZ x:=fun d hd=>by
 have e:bkWd x=1+bkL zCS x.packs+zF6 x.man+1+1+(1+bkL bkDir x.old)+1:=rfl
 have k1:bkDir d≤bkL bkDir x.old:=zH3 (bk:=bkDir) hd
 have k2:=zDe (bk:=fun s:ByteArray=>s.size+1) (l:=d.path) fun x=>by omega
 have k4:bkDir d=1+bkL (fun s:ByteArray=>s.size+1) d.path+zCS d.pack+1:=rfl
 omega
end Go.Proofs.YtminjjdnmpaaoaaGreatDoor
namespace Go.Proofs.YtminjjdnmpaaoaaGreatDoor
open Go.Rows Go.RowKit Go.Shelf Go.Sort
noncomputable def qSol (x:Wd):SIn:=⟨catC x.packs,x.man,x.dev,300,40⟩
def WdS (x:Wd):Prop:=zIl x.packs∧x.man.deps.length≤1048576∧x.man.dev.length≤1048576∧x.man.opts.length≤1048576
theorem zKS {ps:List Pack} {k:Nat} {p:Pack} (h:ps[k]?=some p):catC (ps.take (k+1))=(putC (catC (ps.take k)) p).1:=by
 unfold catC
 rw[List.take_add_one,h,List.foldl_append]
 rfl
theorem zIh (ps:List Pack):(catC ps).length≤128:=by
 unfold catC
 have key:∀ (l:List Pack) (L:List Pack),L.length≤128→(l.foldl (fun L p=>(putC L p).1) L).length≤128:=by
  intro l
  induction l with
  | nil=>intro L h;exact h
  | cons p l ih=>intro L h;exact ih _ (zMS h)
 exact key ps [] (by decide)
theorem zHh {ps:List Pack} {x:Pack} (h:x∈catC ps):x∈ps∧packB x=true:=(zMX h).resolve_left (by simp)
theorem zMP {α:Type} {r:Rp α} {w:World} {S:Nat→Prop} {base:Nat} {e:TypeId} (y:α) (cs:Array Value) (hb:base≤w.heap.size) (hy:r.holds w S y cs.toList) (hS:∀ b,S b→b<w.heap.size):Own r (w.alloc (.cells cs e)) base e (.slice (some ⟨w.heap.size,0,none⟩) 1 1) [y] S:=by
 have hl:=r.len hy
 refine ⟨fun b hb'=>⟨?_,?_⟩,cs.toList,⟨?_,.inr ⟨w.heap.size,1,cs,rfl,hb,heap_alloc_new w _,nR _,by decide,?_,?_⟩⟩,Elems.one_ (Rp.alloc hy _)⟩
 ·have:=hS b hb';simp[go_sem];omega
 ·intro he
  have:=hS b hb'
  simp[Value.ownBlock] at he
  omega
 ·rw[hl];simp
 ·rw[←Array.length_toList,hl];simp
 ·rw[List.length_singleton,Nat.one_mul,←hl,List.take_length]
theorem zIF {w:World} {S:Nat→Prop} {y:Pack} {s:ByteArray} {a b c:Int} {A B C:Option Addr} {n1 c1 n2 c2 n3 c3:Nat} (h:PackV w S y (.agg #[.string s,.int .i64 a,.int .i64 b,.int .i64 c,.slice A n1 c1,.slice B n2 c2,.slice C n3 c3])) (hi:I64 a∧I64 b∧I64 c):rPack.holds w S y [.string s,.int .i64 a,.int .i64 b,.int .i64 c,.slice A n1 c1,.slice B n2 c2,.slice C n3 c3]:=by
 obtain ⟨A1,m1,d1,A2,m2,d2,A3,m3,d3,he,hnm,h1,h2,h3⟩:=h
 simp only[Value.agg.injEq,Array.mk.injEq,List.cons.injEq,Value.string.injEq,Value.int.injEq,Value.slice.injEq,and_true,true_and] at he
 obtain ⟨e0,e1,e2,e3,⟨rfl,rfl,rfl⟩,⟨rfl,rfl,rfl⟩,rfl,rfl,rfl⟩:=he
 exact ⟨_,_,_,by rw[e0,e1,e2,e3],hnm,by rw[←e1];exact hi.1,by rw[←e2];exact hi.2.1,by rw[←e3];exact hi.2.2,h1,h2,h3⟩
def SolvP (q:SIn) (w:World) (e:Ending) (w':World):Prop:=
 (∃ (gA pA:Option Addr) (gn gc pn pc:Nat) (b:Bool),e=.returned (.tuple #[.agg #[.slice gA gn gc],.slice pA pn pc,.bool b])∧((b=false∧solS q=none)∨∃ ns,b=true∧solS q=some ns∧SlV rNode w' (fun _=>True) ns (.slice gA gn gc)∧SlV rPack w' (fun _=>True) (zB7 q.L ns) (.slice pA pn pc)))∧Below w.heap.size w w'
theorem SolvP.no {q:SIn} {w w':World} (h:solS q=none) (hb:Below w.heap.size w w'):SolvP q w (.returned (.tuple #[.agg #[.slice none 0 0],.slice none 0 0,.bool false])) w':=⟨⟨_,_,_,_,_,_,_,rfl,.inl ⟨rfl,h⟩⟩,hb⟩
theorem SolvP.yes {q:SIn} {w w':World} {gA pA:Option Addr} {gn gc pn pc:Nat} {ns:List Node} (h:solS q=some ns) (hg:SlV rNode w' (fun _=>True) ns (.slice gA gn gc)) (hp:SlV rPack w' (fun _=>True) (zB7 q.L ns) (.slice pA pn pc)) (hb:Below w.heap.size w w'):SolvP q w (.returned (.tuple #[.agg #[.slice gA gn gc],.slice pA pn pc,.bool true])) w':=⟨⟨_,_,_,_,_,_,_,rfl,.inr ⟨ns,rfl,h,hg,hp⟩⟩,hb⟩
def CatS (w0 w1:World) (CB:Nat) (ps:List Pack) (k:Nat) (W:World):Prop:=
 ∃ A n c,W.heap[CB]?=some (.cells #[.slice A n c] 94 (0,0))∧SlV rPack W (fun b=>b<w0.heap.size∨w1.heap.size≤b) (catC (ps.take k)) (.slice A n c)
theorem zJw {L:List Pack} {ns:List Node} {k:Nat} {n:Node} (h1:1≤k) (h:ns[k]?=some n):(zB7 L ns).take (k+1)=(zB7 L ns).take k++[(getC L n.name n.ver).getD zAC]:=by
 rw[List.take_add_one,zG7 h1 h]
 rfl
theorem zHn {L:List Pack} {ns:List Node} (h:1≤ns.length):(zB7 L ns).take 1=[zAC]:=by
 cases ns with
 | nil=>simp at h
 | cons n l=>rfl
theorem zJt (kA mA nA lA vA oA:Option Addr) (kn kc mn mc nn nc ln lc vn vc on oc:Nat) (dec nod dirs path:Int) (like:Bool) (x:Wd) (w:World) (S:Nat→Prop) (h0:SlV rPack w S x.packs (.slice kA kn kc)) (h1:SlV rDep w S x.man.deps (.slice mA mn mc)) (h2:SlV rDep w S x.man.dev (.slice nA nn nc)) (h3:SlV rDep w S x.man.opts (.slice lA ln lc)) (h4:SlV rDep w S x.man.over (.slice vA vn vc)) (hz:WdS x) :
  Calls Tryz.prog 16 #[.agg #[.slice kA kn kc,.slice mA mn mc,.slice nA nn nc,.slice lA ln lc,.slice vA vn vc,.bool x.dev,.int .i64 dec,.int .i64 nod,.int .i64 dirs,.int .i64 path,.slice oA on oc,.bool like]] w fun e w'=>SolvP (qSol x) w e w':=by
 have hn:=h0.n_eq
 have hcap:=h0.cap_le
 unfold maxLen at hcap
 have hknz:kn≤9223372036854775807:=by omega
 have HL0:=cH h0
 have Hn:Hid (x.packs.length=kn):=hn.symm
 have HMv:Hid (ManiV w S x.man (.agg #[.slice mA mn mc,.slice nA nn nc,.slice lA ln lc,.slice vA vn vc])):=⟨_,_,_,_,_,_,_,_,_,_,_,_,rfl,h1,h2,h3,h4⟩
 have Hz:=cH hz
 clear h0 h1 h2 h3 h4 hz hn hcap
 obtain ⟨q,hq⟩:∃ q,q=qSol x:=⟨_,rfl⟩
 have hqL:q.L=catC x.packs:=by rw[hq];rfl
 have hqd:q.dev=x.dev:=by rw[hq];rfl
 have hqm:q.m=x.man:=by rw[hq];rfl
 have hqk:q.dec=300:=by rw[hq];rfl
 have hql:q.lim=40:=by rw[hq];rfl
 rw[←hq]
 clear hq
 obtain ⟨dv,hdv⟩:∃ d,d=x.dev:=⟨_,rfl⟩
 rw[←hdv] at hqd ⊢
 clear hdv
 obtain ⟨w0,hw0⟩:∃ w0,w0=((w.alloc (.cells #[.slice kA kn kc,.slice mA mn mc,.slice nA nn nc,.slice lA ln lc,.slice vA vn vc,.bool dv,.int .i64 dec,.int .i64 nod,.int .i64 dirs,.int .i64 path,.slice oA on oc,.bool like] 35)).alloc (.cells #[.slice none 0 0] 24)).alloc (.cells #[.slice none 0 0] 94):=⟨_,rfl⟩
 have hz1:(w.alloc (.cells #[.slice kA kn kc,.slice mA mn mc,.slice nA nn nc,.slice lA ln lc,.slice vA vn vc,.bool dv,.int .i64 dec,.int .i64 nod,.int .i64 dirs,.int .i64 path,.slice oA on oc,.bool like] 35)).heap.size=w.heap.size+1:=by simp
 have hz2:((w.alloc (.cells #[.slice kA kn kc,.slice mA mn mc,.slice nA nn nc,.slice lA ln lc,.slice vA vn vc,.bool dv,.int .i64 dec,.int .i64 nod,.int .i64 dirs,.int .i64 path,.slice oA on oc,.bool like] 35)).alloc (.cells #[.slice none 0 0] 24)).heap.size=w.heap.size+2:=by simp
 have hz3:w0.heap.size=w.heap.size+3:=by rw[hw0];simp
 have HB0:Hid (Below w.heap.size w w0):=by unfold Hid;rw[hw0];exact bal (bal (bal (bR _ _) _) _) _
 have hq1:w0.heap[w.heap.size]?=some (.cells #[.slice kA kn kc,.slice mA mn mc,.slice nA nn nc,.slice lA ln lc,.slice vA vn vc,.bool dv,.int .i64 dec,.int .i64 nod,.int .i64 dirs,.int .i64 path,.slice oA on oc,.bool like] 35 (0,0)):=by
  rw[hw0];exact (Below.heap_alloc _ _ _ (by rw[hz2];omega)).trans ((Below.heap_alloc _ _ _ (by rw[hz1];omega)).trans (zAD _ _))
 have hq2:w0.heap[w.heap.size+1]?=some (.cells #[.slice none 0 0] 24 (0,0)):=by
  rw[hw0,←hz1];exact (Below.heap_alloc _ _ _ (by simp)).trans (zAD _ _)
 have hq3:w0.heap[w.heap.size+2]?=some (.cells #[.slice none 0 0] 94 (0,0)):=by
  rw[hw0,←hz2];exact zAD _ _
 obtain ⟨QB,hQB⟩:∃ k,k=w.heap.size:=⟨_,rfl⟩
 obtain ⟨GB,hGB⟩:∃ k,k=w.heap.size+1:=⟨_,rfl⟩
 obtain ⟨CB,hCB⟩:∃ k,k=w.heap.size+2:=⟨_,rfl⟩
 rw[←hQB] at hq1
 rw[←hGB] at hq2
 rw[←hCB] at hq3
 have HGB:Hid (w.heap.size≤GB∧GB<w0.heap.size∧GB≠CB):=by unfold Hid;omega
 have HCBz:Hid (w.heap.size≤CB∧CB<w0.heap.size):=by unfold Hid;omega
 have HW0:Hid (∀ W,But CB w0 W→Below w.heap.size w W):=fun W hW=>HB0.out.trans (hW.below (by omega) (by omega))
 have HQ:Hid (∀ W,But CB w0 W→W.cell? ⟨QB,0,none⟩=some (.slice kA kn kc)∧W.cell? ⟨QB,1,none⟩=some (.slice mA mn mc)∧W.cell? ⟨QB,2,none⟩=some (.slice nA nn nc)∧W.cell? ⟨QB,3,none⟩=some (.slice lA ln lc)∧W.cell? ⟨QB,4,none⟩=some (.slice vA vn vc)∧W.cell? ⟨QB,5,none⟩=some (.bool dv)):=fun W hW=>by
  have h:=(hW.block QB (aS.1 hq1).1 (by omega)).trans hq1
  exact ⟨cO _ _ 0 _ _ _ h,cO _ _ 1 _ _ _ h,cO _ _ 2 _ _ _ h,cO _ _ 3 _ _ _ h,cO _ _ 4 _ _ _ h,cO _ _ 5 _ _ _ h⟩
 have HG:Hid (∀ W,But CB w0 W→W.heap[GB]?=some (.cells #[.slice none 0 0] 24 (0,0))):=fun W hW=>(hW.block GB (aS.1 hq2).1 (by omega)).trans hq2
 have HC0:Hid (CatS w w0 CB x.packs 0 w0):=⟨none,0,0,hq3,SlV.nil_ _ _ _⟩
 have HPut:Hid (∀ (k:Nat) (p:Pack) (u:Value) W,But CB w0 W→CatS w w0 CB x.packs k W→x.packs[k]?=some p→PackV W (fun b=>b<w.heap.size) p u→(I64 p.ver.major∧I64 p.ver.minor∧I64 p.ver.patch)→Calls Tryz.prog 33 #[.pointer (some ⟨CB,0,none⟩),u] W fun e w'=>(∃ c,e=.returned (.int .i64 c))∧CatS w w0 CB x.packs (k+1) w'∧But CB w0 w'):=fun k p u W hW ⟨A,n,c,hr,hl⟩ hk hu hi=>by
  refine (zMk CB A n c _ p u W (fun b=>b<w.heap.size∨w0.heap.size≤b) hr hl (fun b hb=>by have:=HCBz.out;omega) (zIh _) (hu.moreP fun b hb _=>.inl hb) hi).mono ?_
  rintro e w' ⟨h1,A',n',c',h2,h3,h4⟩
  have:=hW.size
  exact ⟨h1,⟨A',n',c',h2,by rw[zKS hk];exact h3.more fun b hb _=>by rcases hb.1 with (hb|hb)|hb<;>omega⟩,hW.trans h4⟩
 have HRun:Hid (∀ W,But CB w0 W→CatS w w0 CB x.packs kn W→Calls Tryz.prog 34 #[.pointer (some ⟨CB,0,none⟩),.agg #[.slice mA mn mc,.slice nA nn nc,.slice lA ln lc,.slice vA vn vc],.bool dv,.slice none 0 0,.agg #[.int .i64 300,.int .i64 40,.int .i64 1,.int .i64 1]] W fun e w'=>RunP q W e w'):=fun W hW ⟨A,n,c,hr,hl⟩=>by
  rw[List.take_of_length_le (by have:=Hn.out;omega),←hqL] at hl
  have h:=zNN CB A n c mA mn mc nA nn nc lA ln lc vA vn vc q 1 1 W (fun _=>True) (cO _ _ 0 _ _ _ hr) (hl.more fun _ _ _=>trivial) (by rw[hqm];exact ((HMv.out.keep (HW0.out W hW)).moreV fun _ _ _=>trivial)) (fun y hy=>by rw[hqL] at hy;exact Hz.out.1.2 y (zHh hy).1) (by rw[hqL];exact zIh _) (by rw[hqm];exact Hz.out.2) (by rw[hqk];decide) (by rw[hql];decide)
  rw[hqk,hql,hqd] at h
  exact h
 have HElem:Hid (∀ (k:Nat) (p:Pack),x.packs[k]?=some p→∃ b o A1 B1 C1 a1 b1 c1,kA=some ⟨b,o,none⟩∧b<w.heap.size∧PackV w (fun b=>b<w.heap.size) p (.agg #[.string p.name,.int .i64 p.ver.major,.int .i64 p.ver.minor,.int .i64 p.ver.patch,.slice A1 p.deps.length a1,.slice B1 p.peers.length b1,.slice C1 p.opts.length c1])∧(I64 p.ver.major∧I64 p.ver.minor∧I64 p.ver.patch) ∧
   w.cell? ⟨b,o+k * 7,none⟩=some (.string p.name)∧w.cell? ⟨b,o+k * 7+1,none⟩=some (.int .i64 p.ver.major)∧w.cell? ⟨b,o+k * 7+2,none⟩=some (.int .i64 p.ver.minor)∧w.cell? ⟨b,o+k * 7+3,none⟩=some (.int .i64 p.ver.patch) ∧
   w.cell? ⟨b,o+k * 7+4,none⟩=some (.slice A1 p.deps.length a1)∧w.cell? ⟨b,o+k * 7+5,none⟩=some (.slice B1 p.peers.length b1)∧w.cell? ⟨b,o+k * 7+6,none⟩=some (.slice C1 p.opts.length c1)):=fun k p hp=>by
  obtain ⟨b,o,A1,B1,C1,a1,b1,c1,hA,hb,_,hpv,hrest⟩:=zFD HL0.out hp
  exact ⟨b,o,A1,B1,C1,a1,b1,c1,hA,hb,hpv.moreP fun b _ hl=>hl,hrest⟩
 go_enter Tryz.func16,Tryz.ntmps16
 go_upto_region 2 with (fail)
 rw[←hw0,←hCB,←hGB,←hQB]
 clear hw0 hz1 hz2 hz3 hq1 hq2 hq3 hQB hGB hCB HL0
 go_wp2_with fail
 go_loopw [6] (fun t wr=>∃ k:Nat,k≤kn∧t=.int .i64 k∧Hid (CatS w w0 CB x.packs k wr)∧Hid (But CB w0 wr)) (fun t _=>kn - (intOf t).toNat)
 case atStart=>exact ⟨0,nZ _,rfl,HC0,But.refl _ _⟩
 case round=>
  clear HC0
  obtain ⟨k,hk,rfl,hcat,hbut⟩:=hrel
  have hk0:(0:Int)≤(k:Int):=by omega
  obtain ⟨z0,z1,z2,z3,z4,z5⟩:=HQ.out wr hbut.out
  by_cases hlt:k<kn
  case pos=>
   have hkI:(k:Int)<(kn:Int):=by omega
   obtain ⟨p,hp⟩:∃ p,x.packs[k]?=some p:=⟨_,gE (by have:=Hn.out;omega)⟩
   obtain ⟨b,o,A1,B1,C1,a1,b1,c1,hA,hb,hpv,hi,n0,n1,n2,n3,n4,n5,n6⟩:=HElem.out k p hp
   have hBw:=HW0.out wr hbut.out
   have n0:=zAA hBw n0 hb
   have n1:=zAA hBw n1 hb
   have n2:=zAA hBw n2 hb
   have n3:=zAA hBw n3 hb
   have n4:=zAA hBw n4 hb
   have n5:=zAA hBw n5 hb
   have n6:=zAA hBw n6 hb
   have HP:=cH (HPut.out k p _ wr hbut.out hcat.out hp (hpv.keep hBw) hi)
   clear hpv hi hp hb hBw
   subst hA
   clear HElem HRun HG HQ HPut z1 z2 z3 z4 z5
   generalize p.deps.length=l1 at *
   generalize p.peers.length=l2 at *
   generalize p.opts.length=l3 at *
   generalize p.name=pn at *
   generalize p.ver.major=v1 at *
   generalize p.ver.minor=v2 at *
   generalize p.ver.patch=v3 at *
   go_wp2_with fail
   refine HP.out.mono ?_
   rintro e w5 ⟨⟨c,rfl⟩,hcat5,hbut5⟩
   have HC5:=cH hcat5
   have HB5:=cH hbut5
   clear hcat5 hbut5 HP z0 n0 n1 n2 n3 n4 n5 n6
   go_wp2_with fail
   go_roundw
   case rel=>exact ⟨k+1,by omega,by go_num,HC5,HB5⟩
   case measure=>simp[intOf];omega
  have hkI:¬(k:Int)<(kn:Int):=by omega
  have hke:k=kn:=by omega
  subst hke
  clear HPut HElem hlt hk
  generalize wr=wv at *
  go_upto_region 7 with (fail)
  obtain ⟨w4,hw4⟩:∃ w4,w4=wv.alloc (.cells #[.int .i64 300,.int .i64 40,.int .i64 1,.int .i64 1] 30):=⟨_,rfl⟩
  have HB4:Hid (But CB w0 w4):=by unfold Hid;rw[hw4];exact hbut.out.then (bal (bR _ _) _)
  have hq4:w4.heap[wv.heap.size]?=some (.cells #[.int .i64 300,.int .i64 40,.int .i64 1,.int .i64 1] 30 (0,0)):=by rw[hw4];exact zAD _ _
  have HC4:Hid (CatS w w0 CB x.packs k w4):=by
   obtain ⟨A,n,c,g1,g2⟩:=hcat.out
   unfold Hid
   rw[hw4]
   exact ⟨A,n,c,(Below.heap_alloc _ _ _ (aS.1 g1).1).trans g1,g2.alloc _⟩
  rw[←hw4]
  clear z0 z1 z2 z3 z4 z5 hcat hbut hw4
  obtain ⟨z0,z1,z2,z3,z4,z5⟩:=HQ.out w4 HB4.out
  have y0:=cO _ _ 0 _ _ _ hq4
  have y1:=cO _ _ 1 _ _ _ hq4
  have y2:=cO _ _ 2 _ _ _ hq4
  have y3:=cO _ _ 3 _ _ _ hq4
  clear hq4
  go_wp2_with fail
  refine (HRun.out w4 HB4.out HC4.out).mono ?_
  rintro e w5 ⟨⟨gA,gn,gc,tr,er,rfl,hi,hcase⟩,hb5⟩
  have HB5:=cH hb5
  have Hcase:=cH hcase
  clear hb5 hcase z0 z1 z2 z3 z4 z5 y0 y1 y2 y3 HRun HQ
  go_upto_region 8 with (fail)
  obtain ⟨w6,hw6⟩:∃ w6,w6=w5.alloc (.cells #[.slice gA gn gc] 24):=⟨_,rfl⟩
  have HB6:Hid (Below w4.heap.size w4 w6):=by unfold Hid;rw[hw6];exact bal HB5.out _
  have HBw6:Hid (Below w.heap.size w w6):=bot (HW0.out w4 HB4.out) HB6.out
  have hq6:w6.heap[w5.heap.size]?=some (.cells #[.slice gA gn gc] 24 (0,0)):=by rw[hw6];exact zAD _ _
  have hGB6:w6.heap[GB]?=some (.cells #[.slice none 0 0] 24 (0,0)):=by
   have h:=HG.out w4 HB4.out
   exact (HB6.out.block _ (aS.1 h).1).trans h
  have HGB6:=cH hGB6
  obtain ⟨RB,hRB⟩:∃ k,k=w5.heap.size:=⟨_,rfl⟩
  rw[←hRB] at hq6
  have HR:Hid (∀ W,Below w6.heap.size w6 W→W.heap[RB]?=some (.cells #[.slice gA gn gc] 24 (0,0))):=fun W hW=>(hW.block _ (aS.1 hq6).1).trans hq6
  rw[←hw6,←hRB]
  rcases Hcase.out with ⟨hs,hne⟩|⟨ns,hs,her,hsl⟩
  ·have hE:(er==0)=false:=by simp;omega
   have Hs:=cH hs
   have tc:=cO _ _ 0 _ _ _ hGB6
   have tf:w6.frozen? ⟨GB,0,none⟩=false:=frozen_of_row _ _ 0 _ _ hGB6
   clear hs hne hi Hcase hq6 hw6 hRB hGB6 HR
   go_wp2_with fail
   refine zCi rfl rfl rfl rfl rfl (zAV (o:=0) HGB6.out _) Tryz.underlying24 rfl (by kernel_rfl) (SolvP.no Hs.out (HBw6.out.setCell (p:=⟨GB,0,none⟩) HGB.out.1 _))
  subst her
  have hl1:1≤q.lim:=by omega
  have hinv:=zGW hl1 hs
  have hgn:=hsl.n_eq
  have hgc:=hsl.cap_le
  unfold maxLen at hgc
  have hn40:gn≤40:=by have:=hinv.len;omega
  have hn1:1≤gn:=by
   obtain ⟨es,hr⟩:=hinv.root
   have:=(gS.1 hr).1
   omega
  have hgcz:gn≤gc:=by omega
  have Hgn:Hid (ns.length=gn):=hgn.symm
  have Hsl6:Hid (SlV rNode w6 (fun _=>True) ns (.slice gA gn gc)):=by unfold Hid;rw[hw6];exact hsl.alloc _
  have Hs:=cH hs
  have HGN:Hid (w6.heap[GB]?=some (.cells #[.slice none 0 0] 24 (0,0))):=hGB6
  obtain ⟨cA,cn,cc,hrc,hlc⟩:=HC4.out
  rw[List.take_of_length_le (by have:=Hn.out;omega),←hqL] at hlc
  have hw46:w4.heap.size≤w6.heap.size:=HB6.out.size
  obtain ⟨T,hT⟩:∃ T:Nat→Prop,T=fun b=>(b<w.heap.size∨w0.heap.size≤b)∧b<w6.heap.size:=⟨_,rfl⟩
  have HT:Hid (∀ b,T b↔(b<w.heap.size∨w0.heap.size≤b)∧b<w6.heap.size):=fun b=>by rw[hT]
  clear hT
  have HLc:Hid (SlV rPack w6 T q.L (.slice cA cn cc)):=(hlc.belowSize HB6.out).more fun b hb hl=>(HT.out b).2 ⟨hb,hl⟩
  have HCc:Hid (∀ W,Below w6.heap.size w6 W→W.cell? ⟨CB,0,none⟩=some (.slice cA cn cc)):=fun W hW=>by
   have h:=(HB6.out.block _ (aS.1 hrc).1).trans hrc
   exact cO _ _ 0 _ _ _ ((hW.block _ (aS.1 h).1).trans h)
  have HGet:Hid (∀ W (s:ByteArray) (u:Ver),Below w6.heap.size w6 W→Calls Tryz.prog 35 #[.pointer (some ⟨CB,0,none⟩),.string s,.agg #[.int .i64 u.major,.int .i64 u.minor,.int .i64 u.patch]] W fun e w'=>(∃ A B C' a b c,e=.returned (.tuple #[.agg #[.string ((getC q.L s u).getD zAC).name,.int .i64 ((getC q.L s u).getD zAC).ver.major,.int .i64 ((getC q.L s u).getD zAC).ver.minor,.int .i64 ((getC q.L s u).getD zAC).ver.patch,.slice A ((getC q.L s u).getD zAC).deps.length a,.slice B ((getC q.L s u).getD zAC).peers.length b,.slice C' ((getC q.L s u).getD zAC).opts.length c],.bool (getC q.L s u).isSome])∧PackV w' T ((getC q.L s u).getD zAC) (.agg #[.string ((getC q.L s u).getD zAC).name,.int .i64 ((getC q.L s u).getD zAC).ver.major,.int .i64 ((getC q.L s u).getD zAC).ver.minor,.int .i64 ((getC q.L s u).getD zAC).ver.patch,.slice A ((getC q.L s u).getD zAC).deps.length a,.slice B ((getC q.L s u).getD zAC).peers.length b,.slice C' ((getC q.L s u).getD zAC).opts.length c]))∧Below W.heap.size W w'):=fun W s u hW=>by
   refine (zEk CB cA cn cc q.L s u W T (HCc.out W hW) (HLc.out.belowSize hW)).mono ?_
   rintro e w' ⟨z,h1,h2,h3⟩
   obtain ⟨A,B,C',a,b,c,rfl,_⟩:=h2.open_
   exact ⟨⟨A,B,C',a,b,c,h1,h2⟩,h3⟩
  have HI:Hid (∀ (s:ByteArray) (u:Ver),I64 ((getC q.L s u).getD zAC).ver.major∧I64 ((getC q.L s u).getD zAC).ver.minor∧I64 ((getC q.L s u).getD zAC).ver.patch):=fun s u=>by
   cases hg:getC q.L s u with
   | none=>exact ⟨zCC,zCC,zCC⟩
   | some p=>
     obtain ⟨j,hj,hjp⟩:=List.getElem_of_mem (zDo hg).1
     obtain ⟨_,_,_,_,_,_,_,_,_,_,_,_,hi,_⟩:=zFD HLc.out (show q.L[j]?=some p by rw[gE hj,hjp])
     exact hi
  have HE:Hid (∀ (k:Nat) (y:Node),ns[k]?=some y→∃ b o,gA=some ⟨b,o,none⟩∧∀ W,Below w6.heap.size w6 W→W.cell? ⟨b,o+k * 6,none⟩=some (.string y.name)∧W.cell? ⟨b,o+k * 6+1,none⟩=some (.int .i64 y.ver.major)∧W.cell? ⟨b,o+k * 6+2,none⟩=some (.int .i64 y.ver.minor)∧W.cell? ⟨b,o+k * 6+3,none⟩=some (.int .i64 y.ver.patch)):=fun k y hy=>by
   obtain ⟨b,o,cs,hA,_,hb,⟨q0,q1,rfl,_,_,_,_,_,_⟩,hcell⟩:=Hsl6.out.elem hy
   exact ⟨b,o,hA,fun W hW=>⟨zAA hW (hcell 0 _ rfl) hb,zAA hW (hcell 1 _ rfl) hb,zAA hW (hcell 2 _ rfl) hb,zAA hW (hcell 3 _ rfl) hb⟩⟩
  obtain ⟨PS,hPS⟩:∃ PS,PS=zB7 q.L ns:=⟨_,rfl⟩
  have HP1:Hid (PS.take 1=[zAC]):=by unfold Hid;rw[hPS];exact zHn (by have:=Hgn.out;omega)
  have HPn:Hid (∀ (k:Nat) (y:Node),1≤k→ns[k]?=some y→PS.take (k+1)=PS.take k++[(getC q.L y.name y.ver).getD zAC]):=fun k y h1 h2=>by rw[hPS];exact zJw h1 h2
  have HPl:Hid (PS.length=gn):=by unfold Hid;rw[hPS,zDN];exact Hgn.out
  have HPS:=cH hPS
  have r0:=cO _ _ 0 _ _ _ (HR.out w6 (bR _ _))
  clear hs hi Hcase hq6 hw6 hRB hGB6 hinv hgn hgc hsl hrc hlc hw46 hPS HC4 hl1
  go_upto_region 11 with (fail)
  obtain ⟨w7,hw7⟩:∃ w7,w7=w6.alloc (.cells #[.string ⟨#[]⟩,.int .i64 0,.int .i64 0,.int .i64 0,.slice none 0 0,.slice none 0 0,.slice none 0 0] 52):=⟨_,rfl⟩
  have HO7:Hid (Own rPack w7 w6.heap.size 52 (.slice (some ⟨w6.heap.size,0,none⟩) 1 1) (PS.take 1) T):=by
   unfold Hid
   rw[hw7,HP1.out]
   exact zMP zAC _ (nR _) ⟨_,_,_,rfl,by decide,zCC,zCC,zCC,SlV.nil_ _ _ _,SlV.nil_ _ _ _,SlV.nil_ _ _ _⟩ (fun b hb=>((HT.out b).1 hb).2)
  have HB7:Hid (Below w6.heap.size w6 w7):=by unfold Hid;rw[hw7];exact bal (bR _ _) _
  rw[←hw7]
  clear hw7 r0 HP1
  go_wp2_with fail
  go_loopw [11,12] (fun t11 t12 wr=>∃ (k g cap:Nat),1≤k∧k≤gn∧t12=.int .i64 k∧t11=.slice (some ⟨g,0,none⟩) k cap∧Hid (Own rPack wr w6.heap.size 52 (.slice (some ⟨g,0,none⟩) k cap) (PS.take k) T)∧Hid (Below w6.heap.size w6 wr)) (fun _ t12 _=>gn - (intOf t12).toNat)
  case atStart=>exact ⟨1,w6.heap.size,1,nR _,hn1,rfl,rfl,HO7,HB7⟩
  case round=>
   clear HO7 HB7
   obtain ⟨k,g,cap,hk1,hk,rfl,rfl,hown,hB⟩:=hrel
   have hk0:(0:Int)≤(k:Int):=by omega
   have r0:=cO _ _ 0 _ _ _ (HR.out wr hB.out)
   by_cases hlt:k<gn
   case pos=>
    have hkI:(k:Int)<(gn:Int):=by omega
    obtain ⟨y,hy⟩:∃ y,ns[k]?=some y:=⟨_,gE (by have:=Hgn.out;omega)⟩
    obtain ⟨b,o,hA,hcells⟩:=HE.out k y hy
    have Hcl:=cH hcells
    have Hnext:=cH (HPn.out k y hk1 hy)
    have HGk:Hid (∀ W,Below w6.heap.size w6 W→_):=fun W hW=>HGet.out W y.name y.ver hW
    have HIk:=cH (HI.out y.name y.ver)
    clear hcells hy HE HGet HI HPn
    subst hA
    generalize (getC q.L y.name y.ver).isSome=gs at *
    generalize (getC q.L y.name y.ver).getD zAC=p at *
    obtain ⟨yn0,⟨x1,x2,x3⟩,xx,xe⟩:=y
    simp only at Hcl HGk
    obtain ⟨l1,hl1⟩:∃ k,k=p.deps.length:=⟨_,rfl⟩
    obtain ⟨l2,hl2⟩:∃ k,k=p.peers.length:=⟨_,rfl⟩
    obtain ⟨l3,hl3⟩:∃ k,k=p.opts.length:=⟨_,rfl⟩
    rw[←hl1,←hl2,←hl3] at HGk
    clear hl1 hl2 hl3
    obtain ⟨yn,hyn⟩:∃ k,k=p.name:=⟨_,rfl⟩
    obtain ⟨v1,hv1⟩:∃ k,k=p.ver.major:=⟨_,rfl⟩
    obtain ⟨v2,hv2⟩:∃ k,k=p.ver.minor:=⟨_,rfl⟩
    obtain ⟨v3,hv3⟩:∃ k,k=p.ver.patch:=⟨_,rfl⟩
    rw[←hyn,←hv1,←hv2,←hv3] at HGk
    rw[←hv1,←hv2,←hv3] at HIk
    clear hyn hv1 hv2 hv3
    obtain ⟨n0,n1,n2,n3⟩:=Hcl.out wr hB.out
    have Hcells:Hid (∀ W,Below wr.heap.size wr W→W.cell? ⟨RB,0,none⟩=some (.slice (some ⟨b,o,none⟩) gn gc)∧W.cell? ⟨b,o+k * 6,none⟩=some (.string yn0)∧W.cell? ⟨b,o+k * 6+1,none⟩=some (.int .i64 x1)∧W.cell? ⟨b,o+k * 6+2,none⟩=some (.int .i64 x2)∧W.cell? ⟨b,o+k * 6+3,none⟩=some (.int .i64 x3)):=fun W hW=>⟨cO _ _ 0 _ _ _ (HR.out W (bot hB.out hW)),Hcl.out W (bot hB.out hW)⟩
    have HGw:Hid (∀ W,Below wr.heap.size wr W→_):=fun W hW=>HGk.out W (bot hB.out hW)
    clear HGk Hcl HR
    go_upto_region 14 with (fail)
    go_cut [13,14] from 55 to 71 (fun v7 v8 wx=>∃ (PB:Nat) (A B C':Option Addr) (a b' c:Nat),v7=.pointer (some ⟨PB,0,none⟩)∧v8=.bool gs∧Hid (Below wr.heap.size wr wx∧wx.heap[PB]?=some (.cells #[.string yn,.int .i64 v1,.int .i64 v2,.int .i64 v3,.slice A l1 a,.slice B l2 b',.slice C' l3 c] 52 (0,0))∧PackV wx T p (.agg #[.string yn,.int .i64 v1,.int .i64 v2,.int .i64 v3,.slice A l1 a,.slice B l2 b',.slice C' l3 c])))
    case first=>
     go_region_held3 (fun W=>(W.cell? ⟨RB,0,none⟩=some (.slice (some ⟨b,o,none⟩) gn gc)∧W.cell? ⟨b,o+k * 6,none⟩=some (.string yn0)∧W.cell? ⟨b,o+k * 6+1,none⟩=some (.int .i64 x1)∧W.cell? ⟨b,o+k * 6+2,none⟩=some (.int .i64 x2)∧W.cell? ⟨b,o+k * 6+3,none⟩=some (.int .i64 x3))∧Below wr.heap.size wr W)
      (first
        | (with_reducible exact hK7 _ _ _ _ _ _ _)
        | (with_reducible exact ⟨Hcells.out _ (bR _ _).drew,(bR _ _).drew⟩)
        | (with_reducible exact ⟨Hcells.out _ hB2,hB2⟩)
        | (with_reducible exact ⟨Hcells.out _ (bal hB2 _),bal hB2 _⟩)
        | (with_reducible exact ⟨Hcells.out _ (bal (bR _ _).drew _),bal (bR _ _).drew _⟩))
      (first
        | (go_at_call 35;go_split_ands;with_reducible refine (HGw.out _ (by assumption)).mono ?_;rintro e w2 ⟨⟨eA,eB,eC,ea,eb,ec,rfl,hpv⟩,hb2⟩;have hB2:Below wr.heap.size wr w2:=bot (by assumption) hb2;have hz2:=hB2.size;(try (have hT:=zEG hb2;obtain ⟨⟨t0,t1,t2,t3,t4,t5,t6⟩,f0,f1,f2,f3,f4,f5,f6⟩:=hT;have hK7:=fun a0 a1 a2 a3 a4 a5 a6=>And.intro (Hcells.out _ (zAd hB2 (nR wr.heap.size) a0 a1 a2 a3 a4 a5 a6)) (zAd hB2 (nR wr.heap.size) a0 a1 a2 a3 a4 a5 a6)))))
     all_goals
      go_wp2_with fail
      go_meet
      first
       | (have hq:=hK7;exact ⟨wr.heap.size,eA,eB,eC,ea,eb,ec,rfl,rfl,zAd hB2 (nR _) _ _ _ _ _ _ _,set7Q (zEc hb2) _ _ _ _ _ _ _,hpv.belowT (zAd (bR wr.heap.size w2) (nR _) _ _ _ _ _ _ _) (fun b hb=>lL ((HT.out b).1 hb).2 hB.out.size)⟩)
       | exact ⟨w2.heap.size,eA,eB,eC,ea,eb,ec,rfl,rfl,bal hB2 _,zAD w2 _,hpv.keep (bal (bR _ _) _)⟩
    case rest=>
    obtain ⟨PB,eA,eB,eC,ea,eb,ec,rfl,rfl,HN⟩:=hcut
    generalize wc=w8 at *
    have HB8:=cH HN.out.1
    have HO8:=cH (hown.out.keep HB8.out)
    obtain ⟨⟨t0,t1,t2,t3,t4,t5,t6⟩,_⟩:=row7 HN.out.2.1
    have HX8:Hid (rPack.holds (w8.alloc (.cells #[.string yn,.int .i64 v1,.int .i64 v2,.int .i64 v3,.slice eA l1 ea,.slice eB l2 eb,.slice eC l3 ec] 52)) T p [.string yn,.int .i64 v1,.int .i64 v2,.int .i64 v3,.slice eA l1 ea,.slice eB l2 eb,.slice eC l3 ec]):=Rp.alloc (zIF HN.out.2.2 HIk.out) _
    have Hlen:Hid ((PS.take k).length=k):=by unfold Hid;rw[List.length_take,HPl.out];omega
    have hz8:w6.heap.size≤w8.heap.size:=(bot hB.out HB8.out).size
    clear HN hown Hcells HGw n0 n1 n2 n3 r0
    go_wp2_with (at_builtin;refine zAK (by rfl) _ _ _ (by rfl) zDw Tryz.underlying25 (by rfl) (HO8.out.alloc _) ⟨w8.heap.size,0,none⟩ 1 [.string yn,.int .i64 v1,.int .i64 v2,.int .i64 v3,.slice eA l1 ea,.slice eB l2 eb,.slice eC l3 ec] p (by rfl) HX8.out (zAo w8 #[.string yn,.int .i64 v1,.int .i64 v2,.int .i64 v3,.slice eA l1 ea,.slice eB l2 eb,.slice eC l3 ec] _) (by rw[Hlen.out];unfold maxLen;omega) (by rw[Hlen.out];omega) (by simp;omega) (w8.heap.size+1) (by simp) ?_)
    intro g9 cap9 w9 hown9 hgrow9 hat9 hlt9
    have HB9:=cH (zA5 (bal (bot hB.out HB8.out) _) hgrow9 (HO8.out.alloc _) (nR _))
    have Hown9:Hid (Own rPack w9 w6.heap.size 52 (.slice (some ⟨g9,0,none⟩) (k+1) cap9) (PS.take (k+1)) T):=by
     unfold Hid
     rw[Hnext.out]
     rw[show min k PS.length=k from by have:=HPl.out;omega] at hown9
     exact hown9
    rw[show min k PS.length=k from by have:=HPl.out;omega]
    clear hown9 hgrow9 hat9 hlt9 HX8 HO8 t0 t1 t2 t3 t4 t5 t6
    go_wp2_with fail
    go_roundw
    case rel=>exact ⟨k+1,g9,cap9,by omega,by omega,by go_num,by go_num,Hown9,HB9⟩
    case measure=>simp[intOf];omega
   have hkI:¬(k:Int)<(gn:Int):=by omega
   have hke:gn=k:=by omega
   subst hke
   have hrow:=(hB.out.block _ (aS.1 HGN.out).1).trans HGN.out
   have Hrow:=cH hrow
   have tc:=cO _ _ 0 _ _ _ hrow
   have tf:wr.frozen? ⟨GB,0,none⟩=false:=frozen_of_row _ _ 0 _ _ hrow
   have HF:Hid (∀ v,SolvP q w (.returned (.tuple #[.agg #[.slice gA gn gc],.slice (some ⟨g,0,none⟩) gn cap,.bool true])) (wr.setCell ⟨GB,0,none⟩ v)):=fun v=>by
    have h1:=zFH HGN.out Hsl6.out
    have h2:=h1.belowSize hB.out
    have h3:=hown.out.slv
    have hgb:=HGB.out
    rw[show PS.take gn=zB7 q.L ns by rw[List.take_of_length_le (by have:=HPl.out;omega),HPS.out]] at h3
    refine SolvP.yes Hs.out ((h2.keep fun b hb _=>heap_setCell_other wr ⟨GB,0,none⟩ b v (by exact hb.2)).more fun _ _ _=>trivial) ((h3.keep fun b hb _=>heap_setCell_other wr ⟨GB,0,none⟩ b v ?_).more fun _ _ _=>trivial) ((bot HBw6.out hB.out).setCell (p:=⟨GB,0,none⟩) hgb.1 _)
    show b≠GB
    have hGs:=(aS.1 HGN.out).1
    rcases hb with hb|hb
    ·have:=((HT.out b).1 hb).1;omega
    ·omega
   clear hrow
   go_wp2_with fail
   refine zCi rfl rfl rfl rfl rfl (zAV (o:=0) Hrow.out _) Tryz.underlying24 rfl (by kernel_rfl) (HF.out _)
noncomputable def psW (x:Wd) (ns:List Node):List Pack:=zB7 (catC x.packs) ns
structure SolF (x:Wd) (ns:List Node):Prop where
 len:ns.length≤1048576
 packs:zIl (psW x ns)
theorem zF4:zBc zAC:=⟨⟨nZ _,fun d hd=>by cases hd⟩,⟨nZ _,fun d hd=>by cases hd⟩,⟨nZ _,fun d hd=>by cases hd⟩⟩
theorem zLW {x:Wd} (hz:WdS x) {ns:List Node} (h:solS (qSol x)=some ns):SolF x ns:=by
 have hlen:ns.length≤40:=(zGW (q:=qSol x) (by show 1≤40;decide) h).len
 refine ⟨by omega,⟨by show (zB7 _ _).length≤_;rw[zDN];omega,fun y hy=>?_⟩⟩
 have hy:y∈zB7 (catC x.packs) ns:=hy
 cases ns with
 | nil=>cases hy
 | cons a l=>
   rcases List.mem_cons.1 hy with rfl|hy
   ·exact zF4
   ·obtain ⟨n,_,rfl⟩:=List.mem_map.1 hy
    cases hg:getC (catC x.packs) n.name n.ver with
    | none=>exact zF4
    | some p=>exact hz.1.2 p (zHh (zDo hg).1).1
def SolA (x:Wd) (w:World) (e:Ending) (w':World):Prop:=
 (∃ (gA pA:Option Addr) (gn gc pn pc:Nat) (b:Bool),e=.returned (.tuple #[.agg #[.slice gA gn gc],.slice pA pn pc,.bool b])∧(b=true→∃ ns,solS (qSol x)=some ns∧SolF x ns∧SlV rNode w' (fun _=>True) ns (.slice gA gn gc)∧SlV rPack w' (fun _=>True) (psW x ns) (.slice pA pn pc)))∧Below w.heap.size w w'
theorem zL2 {x:Wd} {v:Value} {w:World} {S:Nat→Prop} (hv:WdV w S x v) (hz:WdS x) (W:World) (hW:Below w.heap.size w W):Calls Tryz.prog 16 #[v] W fun e w'=>SolA x W e w':=by
 obtain ⟨kA,kn,kc,mA,mn,mc,nA,nn,nc,lA,ln,lc,vA,vn,vc,oA,on,oc,rfl,h0,h1,h2,h3,h4,h5,_⟩:=hv
 refine (zJt kA mA nA lA vA oA kn kc mn mc nn nc ln lc vn vc on oc _ _ _ _ _ x W S (h0.belowSize hW) (h1.belowSize hW) (h2.belowSize hW) (h3.belowSize hW) (h4.belowSize hW) hz).mono ?_
 rintro e w' ⟨⟨gA,pA,gn,gc,pn,pc,b,rfl,hc⟩,hb⟩
 refine ⟨⟨gA,pA,gn,gc,pn,pc,b,rfl,fun ht=>?_⟩,hb⟩
 rcases hc with ⟨hf,_⟩|⟨ns,_,hs,g1,g2⟩
 ·rw[ht] at hf;cases hf
 ·exact ⟨ns,hs,zLW hz hs,g1,g2⟩
theorem zNQ {x:Wd} (h:bkWd x≤1048576):WdZ x∧WdS x:=by
 have e:bkWd x=1+bkL zCS x.packs+zF6 x.man+1+1+(1+bkL bkDir x.old)+1:=rfl
 have e2:zF6 x.man=1+bkL bkDep x.man.deps+bkL bkDep x.man.dev+bkL bkDep x.man.opts+bkL bkDep x.man.over:=rfl
 have n1:=zDe (bk:=bkDep) (l:=x.man.deps) fun x=>by unfold bkDep;omega
 have n2:=zDe (bk:=bkDep) (l:=x.man.dev) fun x=>by unfold bkDep;omega
 have n3:=zDe (bk:=bkDep) (l:=x.man.opts) fun x=>by unfold bkDep;omega
 exact ⟨zNa h,zII (nR _) (by omega),by omega,by omega,by omega⟩
theorem zHV {w w':World} {b:Nat} {cs:Array Value} {t:TypeId} (h:w.heap[b]?=some (.cells cs t (0,0))) (hb:Below w.heap.size w w'):w'.heap[b]?=some (.cells cs t (0,0)):=(hb.block _ (aS.1 h).1).trans h
noncomputable def qN (ns:List Node) (x:Wd) (dirs path:Int):PlIn:=⟨ns,psW x ns,dirs,path,none⟩
structure SolR (x:Wd) (ns:List Node):Prop where
 may:mayPl ns (psW x ns)=true
 reach:zMq ns
 graph:SolG ns
theorem zI7 {x:Wd} {ns:List Node} (h:solS (qSol x)=some ns):SolR x ns:=by
 have hl:1≤(qSol x).lim:=by show 1≤40;decide
 have h1:=zGW hl h
 exact ⟨zM1 (q:=qSol x) (fun y hy=>(zHh hy).2) (by show 40≤128;decide) h1,h1.reachG,zLf h1 (zKk hl h)⟩
theorem zIw {gA pA:Option Addr} {gn gc pn pc:Nat} {w:World} {S:Nat→Prop} (q:PlIn) (dec nod:Int) (ht:Tab w) (hg:SlV rNode w S q.g (.slice gA gn gc)) (hp:SlV rPack w S q.ps (.slice pA pn pc)) (hgz:q.g.length≤1048576) (hpz:zIl q.ps) (hi:I64 q.dirs∧I64 q.path) (W:World) (hW:Below w.heap.size w W) (p:Option Addr) (ho:OldV W (fun b=>b<W.heap.size) (.pointer p) q.old) :
  Calls Tryz.prog 11 #[.agg #[.slice gA gn gc],.slice pA pn pc,.agg #[.int .i64 dec,.int .i64 nod,.int .i64 q.dirs,.int .i64 q.path],.pointer p] W fun e w'=>
   (∃ A n c,e=.returned (.tuple #[.agg #[.slice A n c],.int .i64 (zBC q).2])∧SlV rDir w' (fun b=>W.heap.size≤b) (zBC q).1 (.slice A n c))∧Below W.heap.size W w':=
 (zET gA gn gc pA pn pc dec nod (.pointer p) q W (fun b=>b<W.heap.size) (zAU ht hW) ((hg.belowSize hW).more fun b _ h=>h) ((hp.belowSize hW).more fun b _ h=>h) ho hi.1 hi.2 hgz hpz.1 hpz.2).mono fun e w' ⟨rv,h1,h2,h3⟩=>by
   obtain ⟨A,c,rfl,_,_⟩:=h2.val
   exact ⟨⟨A,_,c,h1,h2⟩,h3⟩
theorem zIt (W:World):OldV W (fun b=>b<W.heap.size) (.pointer none) none:=.inl ⟨rfl,rfl⟩
theorem placeW_cases {q:PlIn} (hm:mayPl q.g q.ps=true) (hG:SolG q.g):(∃ c,zBC q=([],c)∧zAq q=.error c∧(c=1∨c=40∨c=41∨(c=42∧zCG q.old=true)))∨∃ st,zAq q=.ok st∧zBC q=(sortD st.1,0):=by
 cases h:zAq q with
 | ok st=>exact .inr ⟨st,rfl,zEw h⟩
 | error c=>
   refine .inl ⟨c,zBx h,rfl,?_⟩
   cases hb:zCG q.old with
   | false=>
     rcases place_errs hm hG hb h with h|h|h
     ·exact .inl h
     ·exact .inr (.inl h)
     ·exact .inr (.inr (.inl h))
   | true=>
     unfold zAq at h
     split at h
     ·cases h;exact .inl rfl
     ·cases h
      exact .inr (.inr (.inr ⟨rfl,rfl⟩))
theorem zGu {q:PlIn} {st:PlSt} (h:zAq q=.ok st):∀ d∈sortD st.1,d.path.length * 32≤140737488355328∧(textB d.path).size≤1024:=fun d hd=>by
 obtain ⟨_,_,_,_,_,a,_,hF⟩:=zBZ h
 have hn:=hF.inv.names d ((zBF st.1).mem_iff.1 hd)
 have:=nT (zEd hn.1) hn.2
 exact ⟨by omega,hn.2⟩
theorem zNB {q:PlIn} {st:PlSt} (h:zAq q=.ok st):1≤(sortD st.1).length∧(sortD st.1).length≤257:=by
 obtain ⟨_,_,_,_,_,a,_,hF⟩:=zBZ h
 rw[(zBF st.1).length_eq]
 exact ⟨hF.inv.pos,hF.inv.len⟩
end Go.Proofs.YtminjjdnmpaaoaaGreatDoor
namespace Go.Proofs.YtminjjdnmpaaoaaGreatDoor
open Go
noncomputable def longN:List Dir→Nat
 | []=>0
 | d::l=>max (textB d.path).size (longN l)
theorem zJY (l:List Dir) (d:Dir):longN (l++[d])=max (longN l) (textB d.path).size:=by
 induction l with
 | nil=>show max _ 0=max 0 _;omega
 | cons a l ih=>show max _ (longN (l++[d]))=max (max _ (longN l)) _;rw[ih];omega
theorem zMV {l:List Dir} {B:Nat} (h:∀ d∈l,(textB d.path).size≤B):longN l≤B:=by
 induction l with
 | nil=>exact nZ _
 | cons a l ih=>
   have h1:=h a (by simp)
   have h2:=ih fun d hd=>h d (by simp[hd])
   show max _ (longN l)≤B
   omega
theorem zIm {l:List Dir} (h:0<longN l):∃ d∈l,(textB d.path).size=longN l:=by
 induction l with
 | nil=>exact absurd h (Nat.lt_irrefl _)
 | cons a l ih=>
   have e:longN (a::l)=max (textB a.path).size (longN l):=rfl
   by_cases h1:longN l≤(textB a.path).size
   ·exact ⟨a,by simp,by rw[e];omega⟩
   ·obtain ⟨d,hd,hz⟩:=ih (by omega)
    exact ⟨d,by simp[hd],by rw[hz,e];omega⟩
theorem zJe {U:List Dir} {k:Nat} {d:Dir} (h1:1≤k) (h:U[k]?=some d):longN ((U.drop 1).take (k+1 - 1))=max (longN ((U.drop 1).take (k - 1))) (textB d.path).size:=by
 obtain ⟨j,rfl⟩:∃ j,k=j+1:=⟨k - 1,by omega⟩
 rw[show j+1+1 - 1=j+1 from by omega,show j+1 - 1=j from by omega,List.take_add_one,List.getElem?_drop,show 1+j=j+1 from by omega,h]
 exact zJY _ _
theorem zIW {q:PlIn} {st:PlSt} (h:zAq q=.ok st) {L:Nat} (hL:L=longN ((sortD st.1).drop 1)):((sortD st.1).length:Int) - 1≤q.dirs∧(L:Int)≤q.path∧L≤1024:=by
 obtain ⟨h1,h2⟩:=zGt h
 obtain ⟨_,_,_,hp,_⟩:=zBZ h
 have hat:∀ d∈(sortD st.1).drop 1,((textB d.path).size:Int)≤q.path:=fun d hd=>by
  obtain ⟨j,hj,e⟩:=List.getElem_of_mem hd
  have hj':(sortD st.1)[1+j]?=some d:=by rw[←List.getElem?_drop,gE hj,e]
  exact h2 (1+j) d hj' (by omega)
 refine ⟨h1,?_,?_⟩
 ·rcases Nat.eq_zero_or_pos L with h0|h0
  ·rw[h0];show (0:Int)≤_;omega
  ·rw[hL] at h0 ⊢
   obtain ⟨d,hd,hz⟩:=zIm h0
   rw[←hz];exact hat d hd
 ·rw[hL]
  exact zMV fun d hd=>(zGu h d (List.mem_of_mem_drop hd)).2
theorem zLH {ns:List Node} {x:Wd} {D0 P0:Int} {st:PlSt} (h:zAq (qN ns x D0 P0)=.ok st) (hn:2<(sortD st.1).length):zBC (qN ns x (((sortD st.1).length:Int) - 2) 1024)=([],41):=by
 have hl:=(zBF st.1).length_eq
 have:=zJo (q:=qN ns x D0 P0) rfl h (D:=((sortD st.1).length:Int) - 2) (by omega) (by omega)
 exact zBx this
theorem zJU {ns:List Node} {x:Wd} {D0 P0:Int} {st:PlSt} (h:zAq (qN ns x D0 P0)=.ok st) {L:Nat} (hL:L=longN ((sortD st.1).drop 1)) (h1:1<L):zBC (qN ns x 256 ((L:Int) - 1))=([],40):=by
 obtain ⟨d,hd,hz⟩:=zIm (l:=(sortD st.1).drop 1) (by omega)
 obtain ⟨j,hj⟩:=List.getElem_of_mem hd
 obtain ⟨a,ha,hF⟩:∃ a,st.1.length≤a∧zAf (qN ns x D0 P0) a [] st:=by
  obtain ⟨_,_,_,_,_,a,ha,hF⟩:=zBZ h
  exact ⟨a,ha,hF⟩
 obtain ⟨i,hi⟩:=zIi ((zBF st.1).mem_iff.1 (List.mem_of_mem_drop hd))
 refine zBx (zIU (q:=qN ns x D0 P0) rfl h (L:=(L:Int) - 1) (by omega) ⟨i,d,hi,fun e=>?_,by omega⟩)
 subst e
 have hp:=(hF.inv.root d hi).1
 rw[hp] at hz
 have:(textB []).size=1:=by unfold textB;rw[if_pos rfl];rfl
 omega
