/-
  The program's values as data: versions, spans, packages, directories, trees, graphs. (Printed by gen_data.py.)
-/
import Derived.Test.YthbnmehbhpakaaaGreatDoorBkA
import Derived.Test.YthbnmehbhpakaaaGreatDoorBkB
import Derived.KernelRfl
import Derived.Test.YthbnmehbhpakaaaGreatDoorAl
set_option linter.all false
set_option maxRecDepth 100000
namespace Go.Proofs.YthbnmehbhpakaaaGreatDoor
open Go.RowKit
structure Ver where
 major:Int
 minor:Int
 patch:Int
def rVer:Rp Ver where
 size:=3
 holds:=fun w S x cs=>cs=[.int .i64 x.major,.int .i64 x.minor,.int .i64 x.patch]∧I64 x.major∧I64 x.minor∧I64 x.patch
 len:=fun ⟨h,c0,c1,c2⟩=>by rw[h];rfl
 one:=fun ⟨h,c0,c1,c2⟩=>by rw[h];simp[Value.oneCell']
 mono:=fun ⟨h,c0,c1,c2⟩ hk=>⟨h,c0,c1,c2⟩
structure Spn where
 lo:Ver
 hi:Ver
def rSpn:Rp Spn where
 size:=6
 holds:=fun w S x cs=>cs=[.int .i64 x.lo.major,.int .i64 x.lo.minor,.int .i64 x.lo.patch,.int .i64 x.hi.major,.int .i64 x.hi.minor,.int .i64 x.hi.patch]∧I64 x.lo.major∧I64 x.lo.minor∧I64 x.lo.patch∧I64 x.hi.major∧I64 x.hi.minor∧I64 x.hi.patch
 len:=fun ⟨h,c0,c1,c2,c3,c4,c5⟩=>by rw[h];rfl
 one:=fun ⟨h,c0,c1,c2,c3,c4,c5⟩=>by rw[h];simp[Value.oneCell']
 mono:=fun ⟨h,c0,c1,c2,c3,c4,c5⟩ hk=>⟨h,c0,c1,c2,c3,c4,c5⟩
structure Dep where
 name:ByteArray
 range:List Spn
def rDep:Rp Dep where
 size:=2
 holds:=fun w S x cs=>∃ s0,cs=[.string x.name,s0]∧x.name.size≤maxLen∧SlV rSpn w S x.range s0
 len:=fun ⟨s0,h,c0,c1⟩=>by rw[h];rfl
 one:=fun ⟨s0,h,c0,c1⟩=>by obtain ⟨_,_,rfl,_⟩:=c1.val;rw[h];simp[Value.oneCell']
 mono:=fun ⟨s0,h,c0,c1⟩ hk=>⟨s0,h,c0,(zAL rSpn).mono c1 hk⟩
structure Pack where
 name:ByteArray
 ver:Ver
 deps:List Dep
 peers:List Dep
 opts:List Dep
def rPack:Rp Pack where
 size:=7
 holds:=fun w S x cs=>∃ s0 s1 s2,cs=[.string x.name,.int .i64 x.ver.major,.int .i64 x.ver.minor,.int .i64 x.ver.patch,s0,s1,s2]∧x.name.size≤maxLen∧I64 x.ver.major∧I64 x.ver.minor∧I64 x.ver.patch∧SlV rDep w S x.deps s0∧SlV rDep w S x.peers s1∧SlV rDep w S x.opts s2
 len:=fun ⟨s0,s1,s2,h,c0,c1,c2,c3,c4,c5,c6⟩=>by rw[h];rfl
 one:=fun ⟨s0,s1,s2,h,c0,c1,c2,c3,c4,c5,c6⟩=>by obtain ⟨_,_,rfl,_⟩:=c4.val;obtain ⟨_,_,rfl,_⟩:=c5.val;obtain ⟨_,_,rfl,_⟩:=c6.val;rw[h];simp[Value.oneCell']
 mono:=fun ⟨s0,s1,s2,h,c0,c1,c2,c3,c4,c5,c6⟩ hk=>⟨s0,s1,s2,h,c0,c1,c2,c3,(zAL rDep).mono c4 hk,(zAL rDep).mono c5 hk,(zAL rDep).mono c6 hk⟩
structure Dir where
 path:List ByteArray
 pack:Pack
 node:Int
def rDir:Rp Dir where
 size:=9
 holds:=fun w S x cs=>∃ s0 s1 s2 s3,cs=[s0,.string x.pack.name,.int .i64 x.pack.ver.major,.int .i64 x.pack.ver.minor,.int .i64 x.pack.ver.patch,s1,s2,s3,.int .i64 x.node]∧SlV rStr w S x.path s0∧x.pack.name.size≤maxLen∧I64 x.pack.ver.major∧I64 x.pack.ver.minor∧I64 x.pack.ver.patch∧SlV rDep w S x.pack.deps s1∧SlV rDep w S x.pack.peers s2∧SlV rDep w S x.pack.opts s3∧I64 x.node
 len:=fun ⟨s0,s1,s2,s3,h,c0,c1,c2,c3,c4,c5,c6,c7,c8⟩=>by rw[h];rfl
 one:=fun ⟨s0,s1,s2,s3,h,c0,c1,c2,c3,c4,c5,c6,c7,c8⟩=>by obtain ⟨_,_,rfl,_⟩:=c0.val;obtain ⟨_,_,rfl,_⟩:=c5.val;obtain ⟨_,_,rfl,_⟩:=c6.val;obtain ⟨_,_,rfl,_⟩:=c7.val;rw[h];simp[Value.oneCell']
 mono:=fun ⟨s0,s1,s2,s3,h,c0,c1,c2,c3,c4,c5,c6,c7,c8⟩ hk=>⟨s0,s1,s2,s3,h,(zAL rStr).mono c0 hk,c1,c2,c3,c4,(zAL rDep).mono c5 hk,(zAL rDep).mono c6 hk,(zAL rDep).mono c7 hk,c8⟩
structure Tree where
 dirs:List Dir
def rTree:Rp Tree where
 size:=1
 holds:=fun w S x cs=>∃ s0,cs=[s0]∧SlV rDir w S x.dirs s0
 len:=fun ⟨s0,h,c0⟩=>by rw[h];rfl
 one:=fun ⟨s0,h,c0⟩=>by obtain ⟨_,_,rfl,_⟩:=c0.val;rw[h];simp[Value.oneCell']
 mono:=fun ⟨s0,h,c0⟩ hk=>⟨s0,h,(zAL rDir).mono c0 hk⟩
structure Edge where
 label:ByteArray
 to:Int
def rEdge:Rp Edge where
 size:=2
 holds:=fun w S x cs=>cs=[.string x.label,.int .i64 x.to]∧x.label.size≤maxLen∧I64 x.to
 len:=fun ⟨h,c0,c1⟩=>by rw[h];rfl
 one:=fun ⟨h,c0,c1⟩=>by rw[h];simp[Value.oneCell']
 mono:=fun ⟨h,c0,c1⟩ hk=>⟨h,c0,c1⟩
structure Pin where
 name:ByteArray
 ver:Ver
def rPin:Rp Pin where
 size:=4
 holds:=fun w S x cs=>cs=[.string x.name,.int .i64 x.ver.major,.int .i64 x.ver.minor,.int .i64 x.ver.patch]∧x.name.size≤maxLen∧I64 x.ver.major∧I64 x.ver.minor∧I64 x.ver.patch
 len:=fun ⟨h,c0,c1,c2,c3⟩=>by rw[h];rfl
 one:=fun ⟨h,c0,c1,c2,c3⟩=>by rw[h];simp[Value.oneCell']
 mono:=fun ⟨h,c0,c1,c2,c3⟩ hk=>⟨h,c0,c1,c2,c3⟩
structure Node where
 name:ByteArray
 ver:Ver
 ctx:List Pin
 edges:List Edge
def rNode:Rp Node where
 size:=6
 holds:=fun w S x cs=>∃ s0 s1,cs=[.string x.name,.int .i64 x.ver.major,.int .i64 x.ver.minor,.int .i64 x.ver.patch,s0,s1]∧x.name.size≤maxLen∧I64 x.ver.major∧I64 x.ver.minor∧I64 x.ver.patch∧SlV rPin w S x.ctx s0∧SlV rEdge w S x.edges s1
 len:=fun ⟨s0,s1,h,c0,c1,c2,c3,c4,c5⟩=>by rw[h];rfl
 one:=fun ⟨s0,s1,h,c0,c1,c2,c3,c4,c5⟩=>by obtain ⟨_,_,rfl,_⟩:=c4.val;obtain ⟨_,_,rfl,_⟩:=c5.val;rw[h];simp[Value.oneCell']
 mono:=fun ⟨s0,s1,h,c0,c1,c2,c3,c4,c5⟩ hk=>⟨s0,s1,h,c0,c1,c2,c3,(zAL rPin).mono c4 hk,(zAL rEdge).mono c5 hk⟩
structure Graph where
 nodes:List Node
def zTQ:Rp Graph where
 size:=1
 holds:=fun w S x cs=>∃ s0,cs=[s0]∧SlV rNode w S x.nodes s0
 len:=fun ⟨s0,h,c0⟩=>by rw[h];rfl
 one:=fun ⟨s0,h,c0⟩=>by obtain ⟨_,_,rfl,_⟩:=c0.val;rw[h];simp[Value.oneCell']
 mono:=fun ⟨s0,h,c0⟩ hk=>⟨s0,h,(zAL rNode).mono c0 hk⟩
structure File where
 path:ByteArray
 dir:Bool
 data:ByteArray
def rFile:Rp File where
 size:=3
 holds:=fun w S x cs=>cs=[.string x.path,.bool x.dir,.string x.data]∧x.path.size≤maxLen∧x.data.size≤maxLen
 len:=fun ⟨h,c0,c1⟩=>by rw[h];rfl
 one:=fun ⟨h,c0,c1⟩=>by rw[h];simp[Value.oneCell']
 mono:=fun ⟨h,c0,c1⟩ hk=>⟨h,c0,c1⟩
end Go.Proofs.YthbnmehbhpakaaaGreatDoor
namespace Go.Proofs.YthbnmehbhpakaaaGreatDoor
open Go.ChangeShapes Go.WideShapes Go.ChangeAt Go.RowKit
def bkVer (x:Ver):Nat:=1+1+1+1
theorem zDP:zCC Tryz.prog 55 rVer bkVer:=by
 intro H enc w base fuel cs x h
 obtain ⟨xs,n,rfl,rfl,hlen,hxl,hf⟩:=DataW.trod_struct Tryz.underlying55 h
 rw[show Tryz.prog.cellsOf 55=3 from by kernel_rfl] at hlen
 match cs,hlen with
 | [c0,c1,c2],_=>
   have k0:Tryz.prog.cellsOf 3=1:=by kernel_rfl
   have f0:=hf 0 _ rfl
   have f1:=hf 1 _ rfl
   have f2:=hf 2 _ rfl
   match xs,hxl with
   | [x0,x1,x2],_=>
     simp[k0] at f0 f1 f2
     obtain ⟨y0,⟨h0,g0⟩,b0⟩:=zDG Tryz.underlying3 H enc w base n [c0] x0 f0
     simp only[List.cons.injEq,and_true] at h0
     subst h0
     obtain ⟨y1,⟨h1,g1⟩,b1⟩:=zDG Tryz.underlying3 H enc w base n [c1] x1 f1
     simp only[List.cons.injEq,and_true] at h1
     subst h1
     obtain ⟨y2,⟨h2,g2⟩,b2⟩:=zDG Tryz.underlying3 H enc w base n [c2] x2 f2
     simp only[List.cons.injEq,and_true] at h2
     subst h2
     refine ⟨⟨y0,y1,y2⟩,⟨rfl,g0,g1,g2⟩,?_⟩
     simp only[bkVer,Rows.uptoBulk,Rows.uptoBulkAll,List.map_cons,List.map_nil] at *
     omega
def bkSpn (x:Spn):Nat:=1+bkVer x.lo+bkVer x.hi
theorem zO3:zCC Tryz.prog 227 rSpn bkSpn:=by
 intro H enc w base fuel cs x h
 obtain ⟨xs,n,rfl,rfl,hlen,hxl,hf⟩:=DataW.trod_struct Tryz.underlying227 h
 rw[show Tryz.prog.cellsOf 227=6 from by kernel_rfl] at hlen
 match cs,hlen with
 | [c0,c1,c2,c3,c4,c5],_=>
   have k0:Tryz.prog.cellsOf 55=3:=by kernel_rfl
   have f0:=hf 0 _ rfl
   have f1:=hf 1 _ rfl
   match xs,hxl with
   | [x0,x1],_=>
     simp[k0] at f0 f1
     obtain ⟨y0,⟨h0,g0_0,g0_1,g0_2⟩,b0⟩:=zDP H enc w base n [c0,c1,c2] x0 f0
     simp only[List.cons.injEq,and_true] at h0
     obtain ⟨rfl,rfl,rfl⟩:=h0
     obtain ⟨y1,⟨h1,g1_0,g1_1,g1_2⟩,b1⟩:=zDP H enc w base n [c3,c4,c5] x1 f1
     simp only[List.cons.injEq,and_true] at h1
     obtain ⟨rfl,rfl,rfl⟩:=h1
     refine ⟨⟨y0,y1⟩,⟨rfl,g0_0,g0_1,g0_2,g1_0,g1_1,g1_2⟩,?_⟩
     simp only[bkSpn,Rows.uptoBulk,Rows.uptoBulkAll,List.map_cons,List.map_nil] at *
     omega
def bkDep (x:Dep):Nat:=1+(x.name.size+1)+bkL bkSpn x.range
theorem zCJ:zCC Tryz.prog 158 rDep bkDep:=by
 intro H enc w base fuel cs x h
 obtain ⟨xs,n,rfl,rfl,hlen,hxl,hf⟩:=DataW.trod_struct Tryz.underlying158 h
 rw[show Tryz.prog.cellsOf 158=2 from by kernel_rfl] at hlen
 match cs,hlen with
 | [c0,c1],_=>
   have k0:Tryz.prog.cellsOf 156=1:=by kernel_rfl
   have k1:Tryz.prog.cellsOf 9=1:=by kernel_rfl
   have f0:=hf 0 _ rfl
   have f1:=hf 1 _ rfl
   match xs,hxl with
   | [x0,x1],_=>
     simp[k0,k1] at f0 f1
     obtain ⟨y0,⟨h0,g0⟩,b0⟩:=zCi Tryz.underlying9 H enc w base n [c0] x0 f0
     simp only[List.cons.injEq,and_true] at h0
     subst h0
     obtain ⟨y1,g1,b1⟩:=zAl (e:=227) Tryz.underlying156 (r:=rSpn) (by kernel_rfl) (by decide) zO3 H enc w base n [c1] x1 f1
     refine ⟨⟨y0,y1⟩,⟨_,rfl,g0,g1⟩,?_⟩
     simp only[bkDep,Rows.uptoBulk,Rows.uptoBulkAll,List.map_cons,List.map_nil] at *
     omega
def zNI (x:Pack):Nat:=1+(x.name.size+1)+bkVer x.ver+bkL bkDep x.deps+bkL bkDep x.peers+bkL bkDep x.opts
theorem zMN:zCC Tryz.prog 57 rPack zNI:=by
 intro H enc w base fuel cs x h
 obtain ⟨xs,n,rfl,rfl,hlen,hxl,hf⟩:=DataW.trod_struct Tryz.underlying57 h
 rw[show Tryz.prog.cellsOf 57=7 from by kernel_rfl] at hlen
 match cs,hlen with
 | [c0,c1,c2,c3,c4,c5,c6],_=>
   have k0:Tryz.prog.cellsOf 22=1:=by kernel_rfl
   have k1:Tryz.prog.cellsOf 55=3:=by kernel_rfl
   have k2:Tryz.prog.cellsOf 9=1:=by kernel_rfl
   have f0:=hf 0 _ rfl
   have f1:=hf 1 _ rfl
   have f2:=hf 2 _ rfl
   have f3:=hf 3 _ rfl
   have f4:=hf 4 _ rfl
   match xs,hxl with
   | [x0,x1,x2,x3,x4],_=>
     simp[k0,k1,k2] at f0 f1 f2 f3 f4
     obtain ⟨y0,⟨h0,g0⟩,b0⟩:=zCi Tryz.underlying9 H enc w base n [c0] x0 f0
     simp only[List.cons.injEq,and_true] at h0
     subst h0
     obtain ⟨y1,⟨h1,g1_0,g1_1,g1_2⟩,b1⟩:=zDP H enc w base n [c1,c2,c3] x1 f1
     simp only[List.cons.injEq,and_true] at h1
     obtain ⟨rfl,rfl,rfl⟩:=h1
     obtain ⟨y2,g2,b2⟩:=zAl (e:=158) Tryz.underlying22 (r:=rDep) (by kernel_rfl) (by decide) zCJ H enc w base n [c4] x2 f2
     obtain ⟨y3,g3,b3⟩:=zAl (e:=158) Tryz.underlying22 (r:=rDep) (by kernel_rfl) (by decide) zCJ H enc w base n [c5] x3 f3
     obtain ⟨y4,g4,b4⟩:=zAl (e:=158) Tryz.underlying22 (r:=rDep) (by kernel_rfl) (by decide) zCJ H enc w base n [c6] x4 f4
     refine ⟨⟨y0,y1,y2,y3,y4⟩,⟨_,_,_,rfl,g0,g1_0,g1_1,g1_2,g2,g3,g4⟩,?_⟩
     simp only[zNI,Rows.uptoBulk,Rows.uptoBulkAll,List.map_cons,List.map_nil] at *
     omega
def bkDir (x:Dir):Nat:=1+bkL (fun s:ByteArray=>s.size+1) x.path+zNI x.pack+1
theorem zOq:zCC Tryz.prog 59 rDir bkDir:=by
 intro H enc w base fuel cs x h
 obtain ⟨xs,n,rfl,rfl,hlen,hxl,hf⟩:=DataW.trod_struct Tryz.underlying59 h
 rw[show Tryz.prog.cellsOf 59=9 from by kernel_rfl] at hlen
 match cs,hlen with
 | [c0,c1,c2,c3,c4,c5,c6,c7,c8],_=>
   have k0:Tryz.prog.cellsOf 53=1:=by kernel_rfl
   have k1:Tryz.prog.cellsOf 57=7:=by kernel_rfl
   have k2:Tryz.prog.cellsOf 3=1:=by kernel_rfl
   have f0:=hf 0 _ rfl
   have f1:=hf 1 _ rfl
   have f2:=hf 2 _ rfl
   match xs,hxl with
   | [x0,x1,x2],_=>
     simp[k0,k1,k2] at f0 f1 f2
     obtain ⟨y0,g0,b0⟩:=zAl (e:=9) Tryz.underlying53 (r:=rStr) (by kernel_rfl) (by decide) (zCi Tryz.underlying9) H enc w base n [c0] x0 f0
     obtain ⟨y1,⟨v1_0,v1_1,v1_2,h1,g1_0,g1_1,g1_2,g1_3,g1_4,g1_5,g1_6⟩,b1⟩:=zMN H enc w base n [c1,c2,c3,c4,c5,c6,c7] x1 f1
     simp only[List.cons.injEq,and_true] at h1
     obtain ⟨rfl,rfl,rfl,rfl,rfl,rfl,rfl⟩:=h1
     obtain ⟨y2,⟨h2,g2⟩,b2⟩:=zDG Tryz.underlying3 H enc w base n [c8] x2 f2
     simp only[List.cons.injEq,and_true] at h2
     subst h2
     refine ⟨⟨y0,y1,y2⟩,⟨_,_,_,_,rfl,g0,g1_0,g1_1,g1_2,g1_3,g1_4,g1_5,g1_6,g2⟩,?_⟩
     simp only[bkDir,Rows.uptoBulk,Rows.uptoBulkAll,List.map_cons,List.map_nil] at *
     omega
def zPr (x:Tree):Nat:=1+bkL bkDir x.dirs
theorem zMS:zCC Tryz.prog 30 rTree zPr:=by
 intro H enc w base fuel cs x h
 obtain ⟨xs,n,rfl,rfl,hlen,hxl,hf⟩:=DataW.trod_struct Tryz.underlying30 h
 rw[show Tryz.prog.cellsOf 30=1 from by kernel_rfl] at hlen
 match cs,hlen with
 | [c0],_=>
   have k0:Tryz.prog.cellsOf 28=1:=by kernel_rfl
   have f0:=hf 0 _ rfl
   match xs,hxl with
   | [x0],_=>
     simp[k0] at f0
     obtain ⟨y0,g0,b0⟩:=zAl (e:=59) Tryz.underlying28 (r:=rDir) (by kernel_rfl) (by decide) zOq H enc w base n [c0] x0 f0
     refine ⟨⟨y0⟩,⟨_,rfl,g0⟩,?_⟩
     simp only[zPr,Rows.uptoBulk,Rows.uptoBulkAll,List.map_cons,List.map_nil] at *
     omega
def zIk (x:Edge):Nat:=1+(x.label.size+1)+1
theorem zMA:zCC Tryz.prog 65 rEdge zIk:=by
 intro H enc w base fuel cs x h
 obtain ⟨xs,n,rfl,rfl,hlen,hxl,hf⟩:=DataW.trod_struct Tryz.underlying65 h
 rw[show Tryz.prog.cellsOf 65=2 from by kernel_rfl] at hlen
 match cs,hlen with
 | [c0,c1],_=>
   have k0:Tryz.prog.cellsOf 3=1:=by kernel_rfl
   have k1:Tryz.prog.cellsOf 9=1:=by kernel_rfl
   have f0:=hf 0 _ rfl
   have f1:=hf 1 _ rfl
   match xs,hxl with
   | [x0,x1],_=>
     simp[k0,k1] at f0 f1
     obtain ⟨y0,⟨h0,g0⟩,b0⟩:=zCi Tryz.underlying9 H enc w base n [c0] x0 f0
     simp only[List.cons.injEq,and_true] at h0
     subst h0
     obtain ⟨y1,⟨h1,g1⟩,b1⟩:=zDG Tryz.underlying3 H enc w base n [c1] x1 f1
     simp only[List.cons.injEq,and_true] at h1
     subst h1
     refine ⟨⟨y0,y1⟩,⟨rfl,g0,g1⟩,?_⟩
     simp only[zIk,Rows.uptoBulk,Rows.uptoBulkAll,List.map_cons,List.map_nil] at *
     omega
def bkPin (x:Pin):Nat:=1+(x.name.size+1)+bkVer x.ver
theorem zOZ:zCC Tryz.prog 107 rPin bkPin:=by
 intro H enc w base fuel cs x h
 obtain ⟨xs,n,rfl,rfl,hlen,hxl,hf⟩:=DataW.trod_struct Tryz.underlying107 h
 rw[show Tryz.prog.cellsOf 107=4 from by kernel_rfl] at hlen
 match cs,hlen with
 | [c0,c1,c2,c3],_=>
   have k0:Tryz.prog.cellsOf 55=3:=by kernel_rfl
   have k1:Tryz.prog.cellsOf 9=1:=by kernel_rfl
   have f0:=hf 0 _ rfl
   have f1:=hf 1 _ rfl
   match xs,hxl with
   | [x0,x1],_=>
     simp[k0,k1] at f0 f1
     obtain ⟨y0,⟨h0,g0⟩,b0⟩:=zCi Tryz.underlying9 H enc w base n [c0] x0 f0
     simp only[List.cons.injEq,and_true] at h0
     subst h0
     obtain ⟨y1,⟨h1,g1_0,g1_1,g1_2⟩,b1⟩:=zDP H enc w base n [c1,c2,c3] x1 f1
     simp only[List.cons.injEq,and_true] at h1
     obtain ⟨rfl,rfl,rfl⟩:=h1
     refine ⟨⟨y0,y1⟩,⟨rfl,g0,g1_0,g1_1,g1_2⟩,?_⟩
     simp only[bkPin,Rows.uptoBulk,Rows.uptoBulkAll,List.map_cons,List.map_nil] at *
     omega
def zDv (x:Node):Nat:=1+(x.name.size+1)+bkVer x.ver+bkL bkPin x.ctx+bkL zIk x.edges
theorem zMK:zCC Tryz.prog 63 rNode zDv:=by
 intro H enc w base fuel cs x h
 obtain ⟨xs,n,rfl,rfl,hlen,hxl,hf⟩:=DataW.trod_struct Tryz.underlying63 h
 rw[show Tryz.prog.cellsOf 63=6 from by kernel_rfl] at hlen
 match cs,hlen with
 | [c0,c1,c2,c3,c4,c5],_=>
   have k0:Tryz.prog.cellsOf 61=1:=by kernel_rfl
   have k1:Tryz.prog.cellsOf 60=1:=by kernel_rfl
   have k2:Tryz.prog.cellsOf 55=3:=by kernel_rfl
   have k3:Tryz.prog.cellsOf 9=1:=by kernel_rfl
   have f0:=hf 0 _ rfl
   have f1:=hf 1 _ rfl
   have f2:=hf 2 _ rfl
   have f3:=hf 3 _ rfl
   match xs,hxl with
   | [x0,x1,x2,x3],_=>
     simp[k0,k1,k2,k3] at f0 f1 f2 f3
     obtain ⟨y0,⟨h0,g0⟩,b0⟩:=zCi Tryz.underlying9 H enc w base n [c0] x0 f0
     simp only[List.cons.injEq,and_true] at h0
     subst h0
     obtain ⟨y1,⟨h1,g1_0,g1_1,g1_2⟩,b1⟩:=zDP H enc w base n [c1,c2,c3] x1 f1
     simp only[List.cons.injEq,and_true] at h1
     obtain ⟨rfl,rfl,rfl⟩:=h1
     obtain ⟨y2,g2,b2⟩:=zAl (e:=107) Tryz.underlying60 (r:=rPin) (by kernel_rfl) (by decide) zOZ H enc w base n [c4] x2 f2
     obtain ⟨y3,g3,b3⟩:=zAl (e:=65) Tryz.underlying61 (r:=rEdge) (by kernel_rfl) (by decide) zMA H enc w base n [c5] x3 f3
     refine ⟨⟨y0,y1,y2,y3⟩,⟨_,_,rfl,g0,g1_0,g1_1,g1_2,g2,g3⟩,?_⟩
     simp only[zDv,Rows.uptoBulk,Rows.uptoBulkAll,List.map_cons,List.map_nil] at *
     omega
def zLz (x:Graph):Nat:=1+bkL zDv x.nodes
theorem zKY:zCC Tryz.prog 27 zTQ zLz:=by
 intro H enc w base fuel cs x h
 obtain ⟨xs,n,rfl,rfl,hlen,hxl,hf⟩:=DataW.trod_struct Tryz.underlying27 h
 rw[show Tryz.prog.cellsOf 27=1 from by kernel_rfl] at hlen
 match cs,hlen with
 | [c0],_=>
   have k0:Tryz.prog.cellsOf 25=1:=by kernel_rfl
   have f0:=hf 0 _ rfl
   match xs,hxl with
   | [x0],_=>
     simp[k0] at f0
     obtain ⟨y0,g0,b0⟩:=zAl (e:=63) Tryz.underlying25 (r:=rNode) (by kernel_rfl) (by decide) zMK H enc w base n [c0] x0 f0
     refine ⟨⟨y0⟩,⟨_,rfl,g0⟩,?_⟩
     simp only[zLz,Rows.uptoBulk,Rows.uptoBulkAll,List.map_cons,List.map_nil] at *
     omega
