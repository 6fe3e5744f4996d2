/- Versions and their sets in plain words: what may be, ranks, texts. -/
import Derived.Test.YtminjjdnmpaaoaaGreatDoorBd01
import Derived.Test.YtminjjdnmpaaoaaGreatDoorRows
import Derived.Test.YtminjjdnmpaaoaaGreatDoorBd02
import Derived.Lib.AppendIntMem
import Derived.Laws.Concat
import Derived.Laws.StructEq
import Derived.WalkKit
import Derived.WalkSpells
import Derived.WalkLawsBesides
import Derived.Deep.RegionHeld3
import Derived.IntWalk
import Derived.Lib.Hide
import Derived.KernelRfl
import Derived.Test.YtminjjdnmpaaoaaGreatDoorAl
set_option linter.all false
set_option maxHeartbeats 1600000
set_option maxRecDepth 100000
namespace Go.Proofs.YtminjjdnmpaaoaaGreatDoor
def partB (n:Int):Bool:=decide (0≤n)&&decide (n≤999)
def verB (a b c:Int):Bool:=partB a&&(partB b&&partB c)
def rankI (a b c:Int):Int:=(a * 1000+b) * 1000+c
def rankR (a b c:Int):Int:=if verB a b c then rankI a b c else 0
theorem zG5 {n:Int}:partB n=true↔0≤n∧n≤999:=by simp[partB]
theorem zBO {a b c:Int}:verB a b c=true↔(0≤a∧a≤999)∧(0≤b∧b≤999)∧0≤c∧c≤999:=by simp[verB,zG5]
theorem zDj {a b c:Int} (h:verB a b c=true):0≤rankI a b c∧rankI a b c≤999999999:=by
 have:=zBO.1 h;unfold rankI;omega
theorem zA3 (a b c:Int):0≤rankR a b c∧rankR a b c≤999999999:=by
 unfold rankR;split
 ·rename_i h;exact zDj h
 ·omega
theorem zGC {a b c:Int} (h:verB a b c=true):rankI a b c / 1000 / 1000=a:=by
 have:=zBO.1 h;unfold rankI;omega
theorem zFw {a b c:Int} (h:verB a b c=true):rankI a b c / 1000 % 1000=b:=by
 have:=zBO.1 h;unfold rankI;omega
theorem zGE {a b c:Int} (h:verB a b c=true):rankI a b c % 1000=c:=by
 have:=zBO.1 h;unfold rankI;omega
theorem zL4 {a b c a' b' c':Int} (h:verB a b c=true) (h':verB a' b' c'=true) (he:rankI a b c=rankI a' b' c'):a=a'∧b=b'∧c=c':=by
 have h1:=zBO.1 h;have h2:=zBO.1 h';unfold rankI at he;omega
def Ver.ok (v:Ver):Bool:=verB v.major v.minor v.patch
def Ver.rank (v:Ver):Int:=rankR v.major v.minor v.patch
def dotB:ByteArray:=⟨#[46]⟩
def zAL (a b c:Int):ByteArray:=if verB a b c then itoaB a++dotB++itoaB b++dotB++itoaB c else ⟨#[]⟩
def zBU:Int→List Spn→Bool
 | _,[]=>true
 | least,s::l=>(s.lo.ok&&s.hi.ok&&decide (least≤s.lo.rank)&&decide (s.lo.rank≤s.hi.rank))&&zBU (s.hi.rank+2) l
def zAt (l:List Spn):Bool:=decide (l.length≤64)&&zBU 0 l
end Go.Proofs.YtminjjdnmpaaoaaGreatDoor
namespace Go.Proofs.YtminjjdnmpaaoaaGreatDoor
open Go.Rows Go.RowKit Go.Shelf Go.Sort
theorem zDk (a b c:Int) (w:World) :
  Calls Tryz.prog 124 #[.agg #[.int .i64 a,.int .i64 b,.int .i64 c]] w fun e w'=>e=.returned (.bool (verB a b c))∧Below w.heap.size w w':=by
 have i0:∀ w,(Instr.index 217 (.agg #[.int .i64 a,.int .i64 b,.int .i64 c]) (.int .i64 0)).run Tryz.prog w=.ok (.int .i64 a) w:=fun _=>by kernel_rfl
 have i1:∀ w,(Instr.index 217 (.agg #[.int .i64 a,.int .i64 b,.int .i64 c]) (.int .i64 1)).run Tryz.prog w=.ok (.int .i64 b) w:=fun _=>by kernel_rfl
 have i2:∀ w,(Instr.index 217 (.agg #[.int .i64 a,.int .i64 b,.int .i64 c]) (.int .i64 2)).run Tryz.prog w=.ok (.int .i64 c) w:=fun _=>by kernel_rfl
 have Hno:Hid (∀ x,(x=a∨x=b∨x=c)→(x<0∨999<x)→verB a b c=false):=by
  intro x hx h
  rcases hx with rfl|rfl|rfl<;>(simp[verB,partB];omega)
 have Hyes:Hid ((0≤a∧a≤999)→(0≤b∧b≤999)→(0≤c∧c≤999)→verB a b c=true):=fun h1 h2 h3=>zBO.2 ⟨h1,h2,h3⟩
 generalize hv:verB a b c=v at *
 clear hv
 go_enter Tryz.func124,Tryz.ntmps124
 go_wp2_with fail
 go_loop [12] (fun i=>(i=.int .i64 0)∨(i=.int .i64 1∧Hid (0≤a∧a≤999))∨(i=.int .i64 2∧Hid (0≤a∧a≤999)∧Hid (0≤b∧b≤999))∨(i=.int .i64 3∧Hid (0≤a∧a≤999)∧Hid (0≤b∧b≤999)∧Hid (0≤c∧c≤999))) (fun i=>3 - (intOf i).toNat)
 case atStart=>exact .inl rfl
 case round=>
  rcases hrel with rfl|⟨rfl,h1⟩|⟨rfl,h1,h2⟩|⟨rfl,h1,h2,h3⟩
  ·by_cases g1:a<0
   ·go_wp2_with fail
    go_ret
    exact ⟨zAB (Hno.out a (.inl rfl) (.inl g1)).symm,bal (bR _ _) _⟩
   ·by_cases g2:999<a
    ·go_wp2_with fail
     go_ret
     exact ⟨zAB (Hno.out a (.inl rfl) (.inr g2)).symm,bal (bR _ _) _⟩
    ·go_wp2_with fail
     go_round
     case rel=>exact .inr (.inl ⟨rfl,⟨by omega,by omega⟩⟩)
     case measure=>simp[intOf]
  ·by_cases g1:b<0
   ·go_wp2_with fail
    go_ret
    exact ⟨zAB (Hno.out b (.inr (.inl rfl)) (.inl g1)).symm,bal (bR _ _) _⟩
   ·by_cases g2:999<b
    ·go_wp2_with fail
     go_ret
     exact ⟨zAB (Hno.out b (.inr (.inl rfl)) (.inr g2)).symm,bal (bR _ _) _⟩
    ·go_wp2_with fail
     go_round
     case rel=>exact .inr (.inr (.inl ⟨rfl,h1,⟨by omega,by omega⟩⟩))
     case measure=>simp[intOf]
  ·by_cases g1:c<0
   ·go_wp2_with fail
    go_ret
    exact ⟨zAB (Hno.out c (.inr (.inr rfl)) (.inl g1)).symm,bal (bR _ _) _⟩
   ·by_cases g2:999<c
    ·go_wp2_with fail
     go_ret
     exact ⟨zAB (Hno.out c (.inr (.inr rfl)) (.inr g2)).symm,bal (bR _ _) _⟩
    ·go_wp2_with fail
     go_round
     case rel=>exact .inr (.inr (.inr ⟨rfl,h1,h2,⟨by omega,by omega⟩⟩))
     case measure=>simp[intOf]
  ·go_wp2_with fail
   go_ret
   exact ⟨zAB (Hyes.out h1.out h2.out h3.out).symm,bal (bR _ _) _⟩
theorem zDh (n:Int) (w:World):Calls Tryz.prog 138 #[.int .i64 n] w fun e w'=>e=.returned (.bool (partB n))∧w=w':=by
 by_cases g1:0≤n
 ·by_cases g2:n≤999
  ·have H:Hid (partB n=true):=zG5.2 ⟨g1,g2⟩
   go_enter Tryz.func138,Tryz.ntmps138
   go_wp2_with fail
   go_ret
   exact ⟨zAB H.out.symm,rfl⟩
  ·have H:Hid (partB n=false):=by simp[Hid,partB];omega
   go_enter Tryz.func138,Tryz.ntmps138
   go_wp2_with fail
   go_ret
   exact ⟨zAB H.out.symm,rfl⟩
 ·have H:Hid (partB n=false):=by simp[Hid,partB];omega
  go_enter Tryz.func138,Tryz.ntmps138
  go_wp2_with fail
  go_ret
  exact ⟨zAB H.out.symm,rfl⟩
theorem zBL (a b c:Int) (w:World) :
  Calls Tryz.prog 104 #[.agg #[.int .i64 a,.int .i64 b,.int .i64 c]] w fun e w'=>e=.returned (.bool (verB a b c))∧Below w.heap.size w w':=by
 have Ha:Hid (∀ W,Calls Tryz.prog 138 #[.int .i64 a] W fun e w'=>e=.returned (.bool (partB a))∧W=w'):=fun W=>zDh a W
 have Hb:Hid (∀ W,Calls Tryz.prog 138 #[.int .i64 b] W fun e w'=>e=.returned (.bool (partB b))∧W=w'):=fun W=>zDh b W
 have Hc:Hid (∀ W,Calls Tryz.prog 138 #[.int .i64 c] W fun e w'=>e=.returned (.bool (partB c))∧W=w'):=fun W=>zDh c W
 have Hv:Hid (verB a b c=(partB a&&(partB b&&partB c))):=rfl
 generalize verB a b c=v at *
 generalize partB a=pa at *
 generalize partB b=pb at *
 generalize partB c=pc at *
 cases pa
 ·go_enter Tryz.func104,Tryz.ntmps104
  go_wp2_with fail
  refine (Ha.out _).mono ?_
  rintro e w1 ⟨rfl,rfl⟩
  go_wp2_with fail
  go_ret
  exact ⟨zAB (by rw[Hv.out];rfl),bal (bR _ _) _⟩
 ·cases pb
  ·go_enter Tryz.func104,Tryz.ntmps104
   go_wp2_with fail
   refine (Ha.out _).mono ?_
   rintro e w1 ⟨rfl,rfl⟩
   go_wp2_with fail
   refine (Hb.out _).mono ?_
   rintro e w2 ⟨rfl,rfl⟩
   go_wp2_with fail
   go_ret
   exact ⟨zAB (by rw[Hv.out];rfl),bal (bR _ _) _⟩
  ·go_enter Tryz.func104,Tryz.ntmps104
   go_wp2_with fail
   refine (Ha.out _).mono ?_
   rintro e w1 ⟨rfl,rfl⟩
   go_wp2_with fail
   refine (Hb.out _).mono ?_
   rintro e w2 ⟨rfl,rfl⟩
   go_wp2_with fail
   refine (Hc.out _).mono ?_
   rintro e w3 ⟨rfl,rfl⟩
   go_wp2_with fail
   go_ret
   exact ⟨zAB (by rw[Hv.out];simp),bal (bR _ _) _⟩
theorem zCQ (a b c:Int) (w:World) :
  Calls Tryz.prog 172 #[.agg #[.int .i64 a,.int .i64 b,.int .i64 c]] w fun e w'=>e=.returned (.tuple #[.int .i64 (rankR a b c),.bool (verB a b c)])∧Below w.heap.size w w':=by
 have Hm:Hid (∀ W,Calls Tryz.prog 124 #[.agg #[.int .i64 a,.int .i64 b,.int .i64 c]] W fun e w'=>e=.returned (.bool (verB a b c))∧Below W.heap.size W w'):=fun W=>zDk a b c W
 cases hv:verB a b c
 ·have Hr:Hid (rankR a b c=0):=by unfold Hid rankR;rw[hv];rfl
  rw[hv] at Hm
  clear hv
  generalize rankR a b c=r at *
  go_enter Tryz.func172,Tryz.ntmps172
  go_wp2_with fail
  refine (Hm.out _).mono ?_
  rintro e w1 ⟨rfl,hb1⟩
  have B:=bnew hb1
  clear hb1
  go_wp2_with fail
  go_ret2
  exact ⟨by rw[Hr.out];rfl,B⟩
 ·have Hr:Hid (rankR a b c=(a * 1000+b) * 1000+c):=by unfold Hid rankR;rw[hv];rfl
  rw[hv] at Hm
  obtain ⟨⟨h1,h2⟩,⟨h3,h4⟩,h5,h6⟩:=zBO.1 hv
  clear hv
  generalize rankR a b c=r at *
  go_enter Tryz.func172,Tryz.ntmps172
  go_wp2_with fail
  refine (Hm.out _).mono ?_
  rintro e w1 ⟨rfl,hb1⟩
  have e0:=hb1.cell (p:=⟨w.heap.size,0,none⟩) (by simp)
  have e1:=hb1.cell (p:=⟨w.heap.size,1,none⟩) (by simp)
  have e2:=hb1.cell (p:=⟨w.heap.size,2,none⟩) (by simp)
  simp[go_sem] at e0 e1 e2
  have B:=bnew hb1
  clear hb1
  go_wp2_with fail
  go_ret2
  exact ⟨by rw[Hr.out];rfl,B⟩
theorem zFr (a b c:Int) (w:World) :
  Calls Tryz.prog 176 #[.agg #[.int .i64 a,.int .i64 b,.int .i64 c]] w fun e w'=>e=.returned (.tuple #[.int .i64 (rankR a b c),.bool (verB a b c)])∧Below w.heap.size w w':=by
 have Hm:Hid (∀ W,Calls Tryz.prog 104 #[.agg #[.int .i64 a,.int .i64 b,.int .i64 c]] W fun e w'=>e=.returned (.bool (verB a b c))∧Below W.heap.size W w'):=fun W=>zBL a b c W
 cases hv:verB a b c
 ·have Hr:Hid (rankR a b c=0):=by unfold Hid rankR;rw[hv];rfl
  rw[hv] at Hm
  clear hv
  generalize rankR a b c=r at *
  go_enter Tryz.func176,Tryz.ntmps176
  go_wp2_with fail
  refine (Hm.out _).mono ?_
  rintro e w1 ⟨rfl,hb1⟩
  have B:=bnew hb1
  clear hb1
  go_wp2_with fail
  go_ret2
  exact ⟨by rw[Hr.out];rfl,B⟩
 ·have Hr:Hid (rankR a b c=(a * 1000+b) * 1000+c):=by unfold Hid rankR;rw[hv];rfl
  rw[hv] at Hm
  obtain ⟨⟨h1,h2⟩,⟨h3,h4⟩,h5,h6⟩:=zBO.1 hv
  clear hv
  generalize rankR a b c=r at *
  go_enter Tryz.func176,Tryz.ntmps176
  go_wp2_with fail
  refine (Hm.out _).mono ?_
  rintro e w1 ⟨rfl,hb1⟩
  have e0:=hb1.cell (p:=⟨w.heap.size,0,none⟩) (by simp)
  have e1:=hb1.cell (p:=⟨w.heap.size,1,none⟩) (by simp)
  have e2:=hb1.cell (p:=⟨w.heap.size,2,none⟩) (by simp)
  simp[go_sem] at e0 e1 e2
  have B:=bnew hb1
  clear hb1
  go_wp2_with fail
  go_ret2
  exact ⟨by rw[Hr.out];rfl,B⟩
theorem zBA (a b c:Int) (w:World) :
  Calls Tryz.prog 160 #[.agg #[.int .i64 a,.int .i64 b,.int .i64 c]] w fun e w'=>e=.returned (.int .i64 (rankR a b c))∧Below w.heap.size w w':=by
 have Hm:Hid (∀ W,Calls Tryz.prog 176 #[.agg #[.int .i64 a,.int .i64 b,.int .i64 c]] W fun e w'=>e=.returned (.tuple #[.int .i64 (rankR a b c),.bool (verB a b c)])∧Below W.heap.size W w'):=fun W=>zFr a b c W
 generalize rankR a b c=r at *
 generalize verB a b c=v at *
 go_enter Tryz.func160,Tryz.ntmps160
 go_wp2_with fail
 refine (Hm.out _).mono ?_
 rintro e w1 ⟨rfl,hb1⟩
 go_wp2_with fail
 go_ret
 exact ⟨rfl,bnew hb1⟩
theorem zFt (n:Int) (h0:0≤n) (h1:n≤999999999) (w:World) :
  Calls Tryz.prog 189 #[.int .i64 n] w fun e w'=>e=.returned (.tuple #[.agg #[.int .i64 (n / 1000 / 1000),.int .i64 (n / 1000 % 1000),.int .i64 (n % 1000)],.bool true])∧Below w.heap.size w w':=by
 have h2:¬n<0:=by omega
 have h3:n<1000000000:=by omega
 have q0:0≤n / 1000:=by omega
 go_enter Tryz.func189,Tryz.ntmps189
 go_wp2_with fail
 refine bodyPost_ret (v:=.tuple #[.agg #[.int .i64 (n / 1000 / 1000),.int .i64 (n / 1000 % 1000),.int .i64 (n % 1000)],.bool true]) (by simp[results,Tryz.results189,go_sem]) rfl ⟨rfl,?_⟩
 exact bal (bR _ _) _
theorem zES {a b c:Int} (h:verB a b c=true):(itoaB a).size≤3∧(itoaB b).size≤3∧(itoaB c).size≤3:=by
 have key:∀ n:Int,0≤n→n≤999→(itoaB n).size≤3:=by
  intro n h0 h1
  have:n.toNat<1000:=by omega
  have e:itoaB n=⟨(Lib.decDigits n.toNat).toArray⟩:=by unfold itoaB Lib.itoa;rw[if_neg (by omega)]
  rw[e]
  show (Lib.decDigits n.toNat).toArray.size≤3
  simp only[List.size_toArray]
  have hd:∀ k:Fin 1000,(Lib.decDigits k.val).length≤3:=by decide +kernel
  exact hd ⟨n.toNat,this⟩
 have:=zBO.1 h
 exact ⟨key _ (by omega) (by omega),key _ (by omega) (by omega),key _ (by omega) (by omega)⟩
theorem zCt (a b c:Int) (w:World) (ht:Tab w) :
  Calls Tryz.prog 155 #[.agg #[.int .i64 a,.int .i64 b,.int .i64 c]] w fun e w'=>e=.returned (.string (zAL a b c))∧Below w.heap.size w w':=by
 have Hm:Hid (∀ W,Calls Tryz.prog 124 #[.agg #[.int .i64 a,.int .i64 b,.int .i64 c]] W fun e w'=>e=.returned (.bool (verB a b c))∧Below W.heap.size W w'):=fun W=>zDk a b c W
 cases hv:verB a b c
 ·have Hr:Hid (zAL a b c=⟨#[]⟩):=by unfold Hid zAL;rw[hv];rfl
  rw[hv] at Hm
  clear hv
  generalize zAL a b c=r at *
  go_enter Tryz.func155,Tryz.ntmps155
  go_wp2_with fail
  refine (Hm.out _).mono ?_
  rintro e w1 ⟨rfl,hb1⟩
  go_wp2_with fail
  go_ret
  exact ⟨zBz Hr.out.symm,bnew hb1⟩
 ·have Hr:Hid (zAL a b c=itoaB a++dotB++itoaB b++dotB++itoaB c):=by unfold Hid zAL;rw[hv];rfl
  rw[hv] at Hm
  obtain ⟨s1,s2,s3⟩:=zES hv
  obtain ⟨⟨h1,h2⟩,⟨h3,h4⟩,h5,h6⟩:=zBO.1 hv
  have Ht:=cH ht
  have z:dotB.size=1:=rfl
  clear hv ht
  generalize zAL a b c=r at *
  have A1:∀ W:World,(Op.stringOp .add (itoaB a) ⟨#[46]⟩).run Tryz.prog W=.ok (.string (itoaB a++dotB)) W:=fun W=>run_string_add_sum W _ dotB (by omega)
  have A2:∀ W:World,(Op.stringOp .add (itoaB a++dotB) (itoaB b)).run Tryz.prog W=.ok (.string (itoaB a++dotB++itoaB b)) W:=fun W=>run_string_add_sum W _ _ (by simp only[ByteArray.size_append];omega)
  have A3:∀ W:World,(Op.stringOp .add (itoaB a++dotB++itoaB b) ⟨#[46]⟩).run Tryz.prog W=.ok (.string (itoaB a++dotB++itoaB b++dotB)) W:=fun W=>run_string_add_sum W _ dotB (by simp only[ByteArray.size_append];omega)
  have A4:∀ W:World,(Op.stringOp .add (itoaB a++dotB++itoaB b++dotB) (itoaB c)).run Tryz.prog W=.ok (.string r) W:=fun W=>by rw[Hr.out];exact run_string_add_sum W _ _ (by simp only[ByteArray.size_append];omega)
  clear z
  go_enter Tryz.func155,Tryz.ntmps155
  go_wp2_with fail
  refine (Hm.out _).mono ?_
  rintro e w1 ⟨rfl,hb1⟩
  have e0:=hb1.cell (p:=⟨w.heap.size,0,none⟩) (by simp)
  have e1:=hb1.cell (p:=⟨w.heap.size,1,none⟩) (by simp)
  have e2:=hb1.cell (p:=⟨w.heap.size,2,none⟩) (by simp)
  simp[go_sem] at e0 e1 e2
  have B:=bnew hb1
  have Ht1:Hid (Tab w1):=zAU Ht.out B
  have Hc0:=cH (qcall (w:=w1) (fun W hW=>zGO a ⟨by omega,by omega⟩ W (zAU Ht1.out hW)))
  have Hc1:=cH (qcall (w:=w1) (fun W hW=>zGO b ⟨by omega,by omega⟩ W (zAU Ht1.out hW)))
  have Hc2:=cH (qcall (w:=w1) (fun W hW=>zGO c ⟨by omega,by omega⟩ W (zAU Ht1.out hW)))
  clear hb1
  have r_e0:=cR e0
  have r_e1:=cR e1
  have r_e2:=cR e2
  go_wp2_with fail
  refine wQ ?_
  repeat (go_big_quiet_step (first|(with_reducible exact Hc0.out _ _)|(with_reducible exact Hc1.out _ _)|(with_reducible exact Hc2.out _ _)))
  refine wpQuiet_nil fun w2 B2=>?_
  go_wp2_with fail
  go_ret
  exact ⟨rfl,bot B B2⟩
theorem zCy (W:World) (b d:Nat) (hd:d<10) (h:W.cell? ⟨b,0,none⟩=some (.int .u8 (48+(d:Int)))) :
  (convert 105 9 (.slice (some ⟨b,0,none⟩) 1 1)).run Tryz.prog W=.ok (.string ⟨#[48+UInt8.ofNat d]⟩) W:=by
 rw[←of48]
 refine run_convert_bytes_back W 105 9 5 ⟨b,0,none⟩ 1 [UInt8.ofNat (48+d)] Tryz.underlying105 Tryz.underlying5 Tryz.underlying9 ?_
 intro j hj
 have hj0:j=0:=by simp at hj;exact hj
 subst hj0
 show W.cell? ⟨b,0,none⟩=_
 rw[h]
 have:(UInt8.ofNat (48+d)).toNat=48+d:=by simp;omega
 simp only[List.getElem_cons_zero,this]
 rfl
theorem zHc (w W:World) (d:Nat) (hd:d<10) (h:Below (w.alloc (.cells #[.int .u8 (48+(d:Int))] 5)).drew.heap.size (w.alloc (.cells #[.int .u8 (48+(d:Int))] 5)).drew W) :
  (convert 105 9 (.slice (some ⟨w.heap.size,0,none⟩) 1 1)).run Tryz.prog W=.ok (.string ⟨#[48+UInt8.ofNat d]⟩) W:=
 zCy W _ d hd (zAA h (by simp) (by simp))
theorem zJg (w:World) (d:Nat) (hd:d<10) :
  (convert 105 9 (.slice (some ⟨w.heap.size,0,none⟩) 1 1)).run Tryz.prog (w.alloc (.cells #[.int .u8 (48+(d:Int))] 5))=.ok (.string ⟨#[48+UInt8.ofNat d]⟩) (w.alloc (.cells #[.int .u8 (48+(d:Int))] 5)):=
 zCy _ _ d hd (by simp)
theorem zE1 (w:World) (d:Nat) (hd:d<10) :
  (convert 105 9 (.slice (some ⟨w.heap.size,0,none⟩) 1 1)).run Tryz.prog (w.alloc (.cells #[.int .u8 (48+(d:Int))] 5)).drew=.ok (.string ⟨#[48+UInt8.ofNat d]⟩) (w.alloc (.cells #[.int .u8 (48+(d:Int))] 5)).drew:=
 zCy _ _ d hd (by simp)
def zDr (u:Nat):Prop:=∀ w:World,Calls Tryz.prog 161 #[.int .i64 u] w fun e w'=>e=.returned (.string (decB u))∧Below w.heap.size w w'
theorem zGd (u:Nat) (h:u<10):zDr u:=by
 intro w
 have hlt:(u:Int)<10:=by omega
 have hu0:(0:Int)≤u:=by omega
 have hE:=cH (zGG h)
 have h1:IntKind.u8.wrap (48+(u:Int))=48+(u:Int):=IntWalk.u8_in _ ⟨by omega,by omega⟩
 go_enter Tryz.func161,Tryz.ntmps161
 go_wp2_with fail
 rw[zCy _ _ u h (by simp)]
 simp only[Result.andThen]
 rw[Oper.upon_value]
 go_wp2_with fail
 go_ret
 exact ⟨zBz hE.out.symm,(bR _ _).alloc (nR _) _⟩
theorem zHX (u:Nat) (h:¬u<10) (hu:u≤9223372036854775807) (ih:zDr (u / 10)):zDr u:=by
 intro w
 have hlt:(10:Int)≤u:=by omega
 have hu0:(0:Int)≤u:=by omega
 have hu1:(u:Int)≤9223372036854775807:=by omega
 have hE:=cH (zHI h)
 have Hih:=cH ih
 have hz:(decB (u / 10)).size+(⟨#[48+UInt8.ofNat (u % 10)]⟩:ByteArray).size≤9223372036854775807:=by
  have:=zKq (u / 10)
  have h1:(⟨#[48+UInt8.ofNat (u % 10)]⟩:ByteArray).size=1:=rfl
  rw[h1];omega
 have HZ:=cH hz;clear hz
 clear ih
 have hqw:IntKind.i64.wrap ((u / 10:Nat):Int)=((u / 10:Nat):Int):=IntWalk.i64_in _ ⟨by omega,by omega⟩
 have hq':(u:Int) / 10=((u / 10:Nat):Int):=by omega
 have hr:(u:Int).tmod 10=((u % 10:Nat):Int):=by rw[Int.tmod_eq_emod_of_nonneg hu0];omega
 have hr':(u:Int) % 10=((u % 10:Nat):Int):=by omega
 have hm:u % 10<10:=by omega
 have h1:IntKind.i64.wrap (48+((u % 10:Nat):Int))=48+((u % 10:Nat):Int):=IntWalk.i64_in _ ⟨by omega,by omega⟩
 have h2:IntKind.u8.wrap (48+((u % 10:Nat):Int))=48+((u % 10:Nat):Int):=IntWalk.u8_in _ ⟨by omega,by omega⟩
 generalize hqq:u / 10=q at *
 generalize hrr:u % 10=r at *
 clear h hu hqq hrr
 go_enter Tryz.func161,Tryz.ntmps161
 go_wp2_with fail
 have hc1:=fun W:World=>zJg W r hm
 have hc2:=fun W:World=>zE1 W r hm
 have hadd:∀ W:World,(Op.stringOp .add (decB q) ⟨#[48+UInt8.ofNat r]⟩).run Tryz.prog W=.ok (.string (decB u)) W:=fun W=>by rw[hE.out];exact run_string_add_sum W _ _ HZ.out
 go_region_with (go_at_call 161;refine (Hih.out _).mono ?_;rintro e w1 ⟨rfl,hb1⟩;try have hcv:=zHc _ _ _ hm hb1)
 all_goals go_wp2_with fail
 all_goals go_ret
 all_goals first
  | exact ⟨rfl,((bR _ w).drew.trans hb1).alloc hb1.size _⟩
  | exact ⟨rfl,((bR _ w).alloc (nR _) _).drew.trans (hb1.mono (by simp))⟩
theorem zIO:∀ (u:Nat),u≤9223372036854775807→zDr u:=by
 intro u
 induction u using Nat.strongRecOn with
 | _ u ih=>
   intro hu
   by_cases h:u<10
   ·exact zGd u h
   ·exact zHX u h hu (ih (u / 10) (by omega) (by omega))
theorem zCp (n:Int) (h0:0≤n) (h1:n≤9223372036854775807) (w:World) :
  Calls Tryz.prog 161 #[.int .i64 n] w fun e w'=>e=.returned (.string (itoaB n))∧Below w.heap.size w w':=by
 have h:=zIO n.toNat (by omega) w
 rw[show ((n.toNat:Nat):Int)=n from by omega,←zLB (by omega)] at h
 exact h
theorem zCO (a b c:Int) (w:World) :
  Calls Tryz.prog 141 #[.agg #[.int .i64 a,.int .i64 b,.int .i64 c]] w fun e w'=>e=.returned (.string (zAL a b c))∧Below w.heap.size w w':=by
 have Hm:Hid (∀ W,Calls Tryz.prog 104 #[.agg #[.int .i64 a,.int .i64 b,.int .i64 c]] W fun e w'=>e=.returned (.bool (verB a b c))∧Below W.heap.size W w'):=fun W=>zBL a b c W
 cases hv:verB a b c
 ·have Hr:Hid (zAL a b c=⟨#[]⟩):=by unfold Hid zAL;rw[hv];rfl
  rw[hv] at Hm
  clear hv
  generalize zAL a b c=r at *
  go_enter Tryz.func141,Tryz.ntmps141
  go_wp2_with fail
  refine (Hm.out _).mono ?_
  rintro e w1 ⟨rfl,hb1⟩
  go_wp2_with fail
  go_ret
  exact ⟨zBz Hr.out.symm,bnew hb1⟩
 ·have Hr:Hid (zAL a b c=itoaB a++dotB++itoaB b++dotB++itoaB c):=by unfold Hid zAL;rw[hv];rfl
  rw[hv] at Hm
  obtain ⟨s1,s2,s3⟩:=zES hv
  obtain ⟨⟨h1,h2⟩,⟨h3,h4⟩,h5,h6⟩:=zBO.1 hv
  have z:dotB.size=1:=rfl
  clear hv
  generalize zAL a b c=r at *
  have A1:∀ W:World,(Op.stringOp .add (itoaB a) ⟨#[46]⟩).run Tryz.prog W=.ok (.string (itoaB a++dotB)) W:=fun W=>run_string_add_sum W _ dotB (by omega)
  have A2:∀ W:World,(Op.stringOp .add (itoaB a++dotB) (itoaB b)).run Tryz.prog W=.ok (.string (itoaB a++dotB++itoaB b)) W:=fun W=>run_string_add_sum W _ _ (by simp only[ByteArray.size_append];omega)
  have A3:∀ W:World,(Op.stringOp .add (itoaB a++dotB++itoaB b) ⟨#[46]⟩).run Tryz.prog W=.ok (.string (itoaB a++dotB++itoaB b++dotB)) W:=fun W=>run_string_add_sum W _ dotB (by simp only[ByteArray.size_append];omega)
  have A4:∀ W:World,(Op.stringOp .add (itoaB a++dotB++itoaB b++dotB) (itoaB c)).run Tryz.prog W=.ok (.string r) W:=fun W=>by rw[Hr.out];exact run_string_add_sum W _ _ (by simp only[ByteArray.size_append];omega)
  clear z
  go_enter Tryz.func141,Tryz.ntmps141
  go_wp2_with fail
  refine (Hm.out _).mono ?_
  rintro e w1 ⟨rfl,hb1⟩
  have e0:=hb1.cell (p:=⟨w.heap.size,0,none⟩) (by simp)
  have e1:=hb1.cell (p:=⟨w.heap.size,1,none⟩) (by simp)
  have e2:=hb1.cell (p:=⟨w.heap.size,2,none⟩) (by simp)
  simp[go_sem] at e0 e1 e2
  have B:=bnew hb1
  have Hc0:=cH (qcall (w:=w1) (fun W hW=>zCp a (by omega) (by omega) W))
  have Hc1:=cH (qcall (w:=w1) (fun W hW=>zCp b (by omega) (by omega) W))
  have Hc2:=cH (qcall (w:=w1) (fun W hW=>zCp c (by omega) (by omega) W))
  clear hb1
  have r_e0:=cR e0
  have r_e1:=cR e1
  have r_e2:=cR e2
  go_wp2_with fail
  refine wQ ?_
  repeat (go_big_quiet_step (first|(with_reducible exact Hc0.out _ _)|(with_reducible exact Hc1.out _ _)|(with_reducible exact Hc2.out _ _)))
  refine wpQuiet_nil fun w2 B2=>?_
  go_wp2_with fail
  go_ret
  exact ⟨rfl,bot B B2⟩
noncomputable def eqB {α:Type} (x y:α):Bool:=@decide (x=y) (Classical.propDecidable _)
theorem zAj {α:Type} {x y:α} (h:x=y):eqB x y=true:=by unfold eqB;exact @decide_eq_true _ (Classical.propDecidable _) h
theorem zAY {α:Type} {x y:α} (h:x≠y):eqB x y=false:=by unfold eqB;exact @decide_eq_false _ (Classical.propDecidable _) h
theorem zIg {α:Type} {x y:α} (h:eqB x y=true):x=y:=by
 by_cases e:x=y
 ·exact e
 ·rw[zAY e] at h;cases h
theorem zDC {α:Type} {x y:α}:eqB x y=true↔x=y:=⟨zIg,zAj⟩
theorem zFY (dd:Nat) (w:World) (a b c d e f:Int):(Op.equalIn (dd+2) 50 (.agg #[.int .i64 a,.int .i64 b,.int .i64 c]) (.agg #[.int .i64 d,.int .i64 e,.int .i64 f])).run Tryz.prog w=.ok (decide (a=d∧b=e∧c=f)) w:=by
 have hu':=Tryz.underlying50
 have hu:Tryz.prog.underlying 50=some (.struct (Tryz.prog.fieldsOf 50)):=by kernel_rfl
 have hs:Tryz.prog.stoodInHeld 50=false:=by kernel_rfl
 have h3:∀ w,(isAgg 3).run Tryz.prog w=.ok false w:=fun _=>by kernel_rfl
 rw[show dd+2=(dd+1)+1 from rfl,run_equalIn_agg _ _ _ _ _ hu hs]
 have he:∀ (x y:Int) (w:World),(Op.equalIn (dd+1) 3 (.int .i64 x) (.int .i64 y)).run Tryz.prog w=.ok (x==y) w:=fun x y w=>by
  rw[run_equalIn_int (k':=.i64) (h:=Tryz.underlying3)]
 generalize dd+1=D at *
 by_cases h1:a=d
 ·by_cases h2:b=e
  ·by_cases h4:c=f
   ·simp[Program.fieldsOf,hu',Op.eqFields,part,h3,he,h1,h2,h4]
   ·simp[Program.fieldsOf,hu',Op.eqFields,part,h3,he,h1,h2,h4]
  ·simp[Program.fieldsOf,hu',Op.eqFields,part,h3,he,h1,h2]
 ·simp[Program.fieldsOf,hu',Op.eqFields,part,h3,he,h1]
theorem zM5 (w:World) (a b c d e f:Int):(binOp .eql 50 (.agg #[.int .i64 a,.int .i64 b,.int .i64 c]) (.agg #[.int .i64 d,.int .i64 e,.int .i64 f])).run Tryz.prog w=.ok (.bool (decide (a=d∧b=e∧c=f))) w:=by
 rw[run_eql_struct,show (10000:Nat)=9998+2 from rfl,zFY];rfl
theorem zM4 (w:World) (a1 a2 a3 a4 a5 a6 b1 b2 b3 b4 b5 b6:Int) :
  (binOp .neq 70 (.agg #[.int .i64 a1,.int .i64 a2,.int .i64 a3,.int .i64 a4,.int .i64 a5,.int .i64 a6]) (.agg #[.int .i64 b1,.int .i64 b2,.int .i64 b3,.int .i64 b4,.int .i64 b5,.int .i64 b6])).run Tryz.prog w =
    .ok (.bool (!decide ((a1=b1∧a2=b2∧a3=b3)∧a4=b4∧a5=b5∧a6=b6))) w:=by
 have hu':=Tryz.underlying70
 have hu:Tryz.prog.underlying 70=some (.struct (Tryz.prog.fieldsOf 70)):=by kernel_rfl
 have hs:Tryz.prog.stoodInHeld 70=false:=by kernel_rfl
 have h3:∀ w,(isAgg 50).run Tryz.prog w=.ok true w:=fun _=>by kernel_rfl
 have h4:∀ w,(sizeOf 50).run Tryz.prog w=.ok 3 w:=fun _=>by kernel_rfl
 rw[run_neq_struct,show (10000:Nat)=9999+1 from rfl,run_equalIn_agg _ _ _ _ _ hu hs]
 have he:∀ (a b c d e f:Int) (w:World),(Op.equalIn 9999 50 (.agg #[.int .i64 a,.int .i64 b,.int .i64 c]) (.agg #[.int .i64 d,.int .i64 e,.int .i64 f])).run Tryz.prog w=.ok (decide (a=d∧b=e∧c=f)) w:=fun a b c d e f w=>by
  rw[show (9999:Nat)=9997+2 from rfl,zFY]
 generalize 9999=D at *
 by_cases g1:a1=b1∧a2=b2∧a3=b3
 ·by_cases g2:a4=b4∧a5=b5∧a6=b6
  ·simp[Program.fieldsOf,hu',Op.eqFields,part,h3,h4,he,g1,g2]
  ·simp[Program.fieldsOf,hu',Op.eqFields,part,h3,h4,he,g1,g2]
 ·simp[Program.fieldsOf,hu',Op.eqFields,part,h3,h4,he,g1]
theorem zMo {x y:Spn}:((x.lo.major=y.lo.major∧x.lo.minor=y.lo.minor∧x.lo.patch=y.lo.patch)∧x.hi.major=y.hi.major∧x.hi.minor=y.hi.minor∧x.hi.patch=y.hi.patch)↔x=y:=by
 obtain ⟨⟨a,b,c⟩,⟨d,e,f⟩⟩:=x
 obtain ⟨⟨a',b',c'⟩,⟨d',e',f'⟩⟩:=y
 simp only[Spn.mk.injEq,Ver.mk.injEq]
theorem zHu (A B:Option Addr) (n m c d:Nat) (xs ys:List Spn) (w:World) (S T:Nat→Prop) (hx:SlV rSpn w S xs (.slice A n c)) (hy:SlV rSpn w T ys (.slice B m d)) :
  Calls Tryz.prog 123 #[.slice A n c,.slice B m d] w fun e w'=>e=.returned (.bool (eqB xs ys))∧Below w.heap.size w w':=by
 have hnx:=hx.n_eq
 have hny:=hy.n_eq
 have hcx:=hx.cap_le
 have hcy:=hy.cap_le
 unfold maxLen at hcx hcy
 by_cases hnm:n=m
 ·have hb:((n:Int) != (m:Int))=false:=by simp[hnm]
  have hn63:n≤9223372036854775807:=by omega
  have hx':=hx.more (S':=fun b=>b<w.heap.size) fun b _ h=>h
  have hy':=hy.more (S':=fun b=>b<w.heap.size) fun b _ h=>h
  have Hpos:Hid (xs=ys→eqB xs ys=true):=fun h=>zAj h
  have Hneg:Hid (xs≠ys→eqB xs ys=false):=fun h=>zAY h
  have Hnm:=cH hnm;clear hnm
  have Hnx:=cH hnx;clear hnx
  have Hny:=cH hny;clear hny
  clear hcx hcy hx hy
  generalize eqB xs ys=r at *
  go_enter Tryz.func123,Tryz.ntmps123
  go_wp2_with fail
  go_loopw [13] (fun i wr=>∃ k:Nat,k≤n∧i=.int .i64 k∧Hid (xs.take k=ys.take k)∧Below w.heap.size w wr) (fun i _=>n - (intOf i).toNat)
  case atStart=>exact ⟨0,nZ _,rfl,by simp[Hid],bR _ _⟩
  case round=>
   obtain ⟨k,hk,rfl,heq,hbel⟩:=hrel
   by_cases hlt:k<n
   ·have hkx:k<xs.length:=by have:=Hnx.out;omega
    have hky:k<ys.length:=by have:=Hny.out;have:=Hnm.out;omega
    have hkm:k<m:=by have:=Hnm.out;omega
    have hxw:=hx'.below hbel (fun b h=>h)
    have hyw:=hy'.below hbel (fun b h=>h)
    obtain ⟨b,o,cs,rfl,_,hb1,⟨rfl,_,_,_,_,_,_⟩,hcell⟩:=hxw.elem (gE hkx)
    obtain ⟨b',o',cs',rfl,_,hb2,⟨rfl,_,_,_,_,_,_⟩,hcell'⟩:=hyw.elem (gE hky)
    have c0:=hcell 0 _ rfl
    have c1:=hcell 1 _ rfl
    have c2:=hcell 2 _ rfl
    have c3:=hcell 3 _ rfl
    have c4:=hcell 4 _ rfl
    have c5:=hcell 5 _ rfl
    have d0:=hcell' 0 _ rfl
    have d1:=hcell' 1 _ rfl
    have d2:=hcell' 2 _ rfl
    have d3:=hcell' 3 _ rfl
    have d4:=hcell' 4 _ rfl
    have d5:=hcell' 5 _ rfl
    simp only[rSpn,Nat.add_zero] at c0 c1 c2 c3 c4 c5 d0 d1 d2 d3 d4 d5
    clear hcell hcell' hxw hyw
    have Hne:=cH (fun h=>ne_at hkx hky h)
    have Hen:=cH (fun h=>zG6 heq.out hkx hky h)
    have hop:∀ W,(binOp .neq 70 (.agg #[.int .i64 xs[k].lo.major,.int .i64 xs[k].lo.minor,.int .i64 xs[k].lo.patch,.int .i64 xs[k].hi.major,.int .i64 xs[k].hi.minor,.int .i64 xs[k].hi.patch]) (.agg #[.int .i64 ys[k].lo.major,.int .i64 ys[k].lo.minor,.int .i64 ys[k].lo.patch,.int .i64 ys[k].hi.major,.int .i64 ys[k].hi.minor,.int .i64 ys[k].hi.patch])).run Tryz.prog W=.ok (.bool (!eqB xs[k] ys[k])) W:=fun W=>by
     rw[zM4]
     by_cases e:xs[k]=ys[k]
     ·rw[zAj e,decide_eq_true (zMo.2 e)]
     ·rw[zAY e,decide_eq_false (fun h=>e (zMo.1 h))]
    have Hq:Hid (eqB xs[k] ys[k]=true∧xs[k]=ys[k]∨eqB xs[k] ys[k]=false∧xs[k]≠ys[k]):=by
     by_cases e:xs[k]=ys[k]
     ·exact .inl ⟨zAj e,e⟩
     ·exact .inr ⟨zAY e,e⟩
    have Hq1:Hid (eqB xs[k] ys[k]=true→xs.take (k+1)=ys.take (k+1)):=fun h=>Hen.out (zDC.1 h)
    have Hq2:Hid (eqB xs[k] ys[k]=false→r=false):=fun h=>Hneg.out (Hne.out (fun e=>by rw[zAj e] at h;cases h))
    clear Hq Hne Hen
    have hk0:(0:Int)≤(k:Int):=by omega
    have hkn:(k:Int)<(n:Int):=by omega
    have hkm':(k:Int)<(m:Int):=by omega
    generalize eqB xs[k] ys[k]=q at *
    generalize xs[k].lo.major=x1 at *
    generalize xs[k].lo.minor=x2 at *
    generalize xs[k].lo.patch=x3 at *
    generalize xs[k].hi.major=x4 at *
    generalize xs[k].hi.minor=x5 at *
    generalize xs[k].hi.patch=x6 at *
    generalize ys[k].lo.major=y1 at *
    generalize ys[k].lo.minor=y2 at *
    generalize ys[k].lo.patch=y3 at *
    generalize ys[k].hi.major=y4 at *
    generalize ys[k].hi.minor=y5 at *
    generalize ys[k].hi.patch=y6 at *
    have r_c0:=cR c0
    have r_c1:=cR c1
    have r_c2:=cR c2
    have r_c3:=cR c3
    have r_c4:=cR c4
    have r_c5:=cR c5
    have r_d0:=cR d0
    have r_d1:=cR d1
    have r_d2:=cR d2
    have r_d3:=cR d3
    have r_d4:=cR d4
    have r_d5:=cR d5
    cases q
    ·have He:=cH (Hq2.out rfl)
     clear Hq1 Hq2
     go_wp2_with fail
     refine wQ ?_
     repeat (go_big_quiet_step (first|fail))
     refine wpQuiet_nil fun w1 B1=>?_
     go_wp2_with fail
     go_ret
     exact ⟨zAB He.out.symm,bot hbel B1⟩
    ·have He:=cH (Hq1.out rfl)
     clear Hq1 Hq2
     go_wp2_with fail
     refine wQ ?_
     repeat (go_big_quiet_step (first|fail))
     refine wpQuiet_nil fun w1 B1=>?_
     go_wp2_with fail
     go_roundw
     case rel=>exact ⟨k+1,by omega,by go_num,He,bot hbel B1⟩
     case measure=>simp[intOf];omega
   ·have He:Hid (r=true):=Hpos.out (zEq heq.out (by have:=Hnx.out;omega) (by have:=Hny.out;have:=Hnm.out;omega))
    go_wp2_with fail
    go_ret
    exact ⟨zAB He.out.symm,hbel⟩
 ·have hb:((n:Int) != (m:Int))=true:=by simp;omega
  have He:Hid (eqB xs ys=false):=zAY (by rintro rfl;omega)
  clear hnx hny hcx hcy hx hy hnm
  generalize eqB xs ys=r at *
  go_enter Tryz.func123,Tryz.ntmps123
  go_wp2_with fail
  go_ret
  exact ⟨zAB He.out.symm,bR _ _⟩
theorem zAr {a b:ByteArray} (h:a=b):(a.toList==b.toList)=true:=by subst h;simp
theorem zAb {a b:ByteArray} (h:a≠b):(a.toList==b.toList)=false:=by rw[zKg];simp[h]
theorem zLD {x y:Dep}:x=y↔x.name=y.name∧x.range=y.range:=by
 obtain ⟨a,b⟩:=x
 obtain ⟨c,d⟩:=y
 simp only[Dep.mk.injEq]
theorem zKl (A B:Option Addr) (n m c d:Nat) (x y:Dep) (w:World) (S T:Nat→Prop) (hx:SlV rSpn w S x.range (.slice A n c)) (hy:SlV rSpn w T y.range (.slice B m d)) :
  Calls Tryz.prog 122 #[.agg #[.string x.name,.slice A n c],.agg #[.string y.name,.slice B m d]] w fun e w'=>e=.returned (.bool (eqB x y))∧Below w.heap.size w w':=by
 have Hc:Hid (∀ o o',Calls Tryz.prog 123 #[.slice A n c,.slice B m d] ((w.alloc o).alloc o') fun e w'=>e=.returned (.bool (eqB x.range y.range))∧Below ((w.alloc o).alloc o').heap.size ((w.alloc o).alloc o') w'):=
  fun o o'=>zHu A B n m c d x.range y.range _ S T ((hx.alloc o).alloc o') ((hy.alloc o).alloc o')
 clear hx hy
 by_cases h:x.name=y.name
 ·have hb:=zAr h
  have Hr:Hid (eqB x y=eqB x.range y.range):=by
   unfold Hid
   by_cases e:x.range=y.range
   ·rw[zAj e,zAj (zLD.2 ⟨h,e⟩)]
   ·rw[zAY e,zAY (fun e'=>e (zLD.1 e').2)]
  clear h
  generalize eqB x y=r at *
  generalize eqB x.range y.range=r' at *
  generalize x.name=nx at *
  generalize y.name=ny at *
  go_enter Tryz.func122,Tryz.ntmps122
  go_wp2_with fail
  refine (Hc.out _ _).mono ?_
  rintro e w1 ⟨rfl,hb1⟩
  go_wp2_with fail
  go_ret
  exact ⟨zAB (by rw[Hr.out]),bot (bal (bal (bR _ _) _) _) hb1⟩
 ·have hb:=zAb h
  have Hr:Hid (eqB x y=false):=zAY (fun e'=>h (zLD.1 e').1)
  clear h
  generalize eqB x y=r at *
  generalize x.name=nx at *
  generalize y.name=ny at *
  go_enter Tryz.func122,Tryz.ntmps122
  go_wp2_with fail
  go_ret
  exact ⟨zAB Hr.out.symm,bal (bal (bR _ _) _) _⟩
theorem zGv:zDF Tryz.prog 122:=zCI Tryz.func122 (by kernel_rfl) rfl
theorem zGn (A B:Option Addr) (n m c d:Nat) (xs ys:List Dep) (w:World) (S T:Nat→Prop) (hx:SlV rDep w S xs (.slice A n c)) (hy:SlV rDep w T ys (.slice B m d)) :
  Calls Tryz.prog 121 #[.slice A n c,.slice B m d,.func (.func 122) #[] #[]] w fun e w'=>e=.returned (.bool (eqB xs ys))∧Below w.heap.size w w':=by
 have hnx:=hx.n_eq
 have hny:=hy.n_eq
 have hcx:=hx.cap_le
 have hcy:=hy.cap_le
 unfold maxLen at hcx hcy
 by_cases hnm:n=m
 ·have hb:((n:Int) != (m:Int))=false:=by simp[hnm]
  have hn63:n≤9223372036854775807:=by omega
  have hx':=hx.more (S':=fun b=>b<w.heap.size) fun b _ h=>h
  have hy':=hy.more (S':=fun b=>b<w.heap.size) fun b _ h=>h
  have Hpos:Hid (xs=ys→eqB xs ys=true):=fun h=>zAj h
  have Hneg:Hid (xs≠ys→eqB xs ys=false):=fun h=>zAY h
  have Hnm:=cH hnm;clear hnm
  have Hnx:=cH hnx;clear hnx
  have Hny:=cH hny;clear hny
  clear hcx hcy hx hy
  generalize eqB xs ys=r at *
  go_enter Tryz.func121,Tryz.ntmps121
  go_wp2_with fail
  go_loopw [17] (fun i wr=>∃ k:Nat,k≤n∧i=.int .i64 k∧Hid (xs.take k=ys.take k)∧Below w.heap.size w wr) (fun i _=>n - (intOf i).toNat)
  case atStart=>exact ⟨0,nZ _,rfl,by simp[Hid],bR _ _⟩
  case round=>
   obtain ⟨k,hk,rfl,heq,hbel⟩:=hrel
   by_cases hlt:k<n
   ·have hkx:k<xs.length:=by have:=Hnx.out;omega
    have hky:k<ys.length:=by have:=Hny.out;have:=Hnm.out;omega
    have hkm:k<m:=by have:=Hnm.out;omega
    have hxw:=hx'.below hbel (fun b h=>h)
    have hyw:=hy'.below hbel (fun b h=>h)
    obtain ⟨b,o,cs,rfl,_,hb1,⟨s0,rfl,_,hr0⟩,hcell⟩:=hxw.elem (gE hkx)
    obtain ⟨b',o',cs',rfl,_,hb2,⟨s1,rfl,_,hr1⟩,hcell'⟩:=hyw.elem (gE hky)
    obtain ⟨pA,pc,rfl,_,_⟩:=hr0.val
    obtain ⟨qA,qc,rfl,_,_⟩:=hr1.val
    have c0:=hcell 0 _ rfl
    have c1:=hcell 1 _ rfl
    have d0:=hcell' 0 _ rfl
    have d1:=hcell' 1 _ rfl
    simp only[rDep,Nat.add_zero] at c0 c1 d0 d1
    clear hcell hcell' hxw hyw
    have Hne:=cH (fun h=>ne_at hkx hky h)
    have Hen:=cH (fun h=>zG6 heq.out hkx hky h)
    have Hcall:Hid (∀ o o',Calls Tryz.prog 122 #[.agg #[.string xs[k].name,.slice pA xs[k].range.length pc],.agg #[.string ys[k].name,.slice qA ys[k].range.length qc]] ((wr.alloc o).alloc o') fun e w'=>e=.returned (.bool (eqB xs[k] ys[k]))∧Below ((wr.alloc o).alloc o').heap.size ((wr.alloc o).alloc o') w'):=
     fun o o'=>zKl _ _ _ _ _ _ xs[k] ys[k] _ _ _ ((hr0.alloc o).alloc o') ((hr1.alloc o).alloc o')
    have Hq1:Hid (eqB xs[k] ys[k]=true→xs.take (k+1)=ys.take (k+1)):=fun h=>Hen.out (zDC.1 h)
    have Hq2:Hid (eqB xs[k] ys[k]=false→r=false):=fun h=>Hneg.out (Hne.out (fun e=>by rw[zAj e] at h;cases h))
    clear Hne Hen hr0 hr1
    have hk0:(0:Int)≤(k:Int):=by omega
    have hkn:(k:Int)<(n:Int):=by omega
    have hkm':(k:Int)<(m:Int):=by omega
    have hent:=fun args W=>zGv args W
    have hne1:b≠wr.heap.size:=by omega
    have hne2:b'≠wr.heap.size:=by omega
    generalize eqB xs[k] ys[k]=q at *
    generalize xs[k].range.length=l1 at *
    generalize ys[k].range.length=l2 at *
    generalize xs[k].name=n1 at *
    generalize ys[k].name=n2 at *
    cases q
    ·have He:=cH (Hq2.out rfl)
     clear Hq1 Hq2
     go_wp2_with fail
     refine (Hcall.out _ _).mono ?_
     rintro e w1 ⟨rfl,hb3⟩
     go_wp2_with fail
     go_ret
     exact ⟨zAB He.out.symm,bot (bal (bal hbel _) _) hb3⟩
    ·have He:=cH (Hq1.out rfl)
     clear Hq1 Hq2
     go_wp2_with fail
     refine (Hcall.out _ _).mono ?_
     rintro e w1 ⟨rfl,hb3⟩
     have B1:=bot (bal (bal hbel _) _) hb3
     go_wp2_with fail
     go_roundw
     case rel=>exact ⟨k+1,by omega,by go_num,He,B1⟩
     case measure=>simp[intOf];omega
   ·have He:Hid (r=true):=Hpos.out (zEq heq.out (by have:=Hnx.out;omega) (by have:=Hny.out;have:=Hnm.out;omega))
    go_wp2_with fail
    go_ret
    exact ⟨zAB He.out.symm,hbel⟩
 ·have hb:((n:Int) != (m:Int))=true:=by simp;omega
  have He:Hid (eqB xs ys=false):=zAY (by rintro rfl;omega)
  clear hnx hny hcx hcy hx hy hnm
  generalize eqB xs ys=r at *
  go_enter Tryz.func121,Tryz.ntmps121
  go_wp2_with fail
  go_ret
  exact ⟨zAB He.out.symm,bR _ _⟩
theorem zC3 (A B:Option Addr) (n m c d:Nat) (xs ys:List Dep) (w:World) (S T:Nat→Prop) (hx:SlV rDep w S xs (.slice A n c)) (hy:SlV rDep w T ys (.slice B m d)) :
  Calls Tryz.prog 70 #[.slice A n c,.slice B m d] w fun e w'=>e=.returned (.bool (eqB xs ys))∧Below w.heap.size w w':=by
 have Hc:=cH (zGn A B n m c d xs ys w S T hx hy)
 clear hx hy
 generalize eqB xs ys=r at *
 go_enter Tryz.func70,Tryz.ntmps70
 go_wp2_with fail
 refine (Hc.out).mono ?_
 rintro e w1 ⟨rfl,hb1⟩
 go_wp2_with fail
 go_ret
 exact ⟨rfl,hb1⟩
theorem zEC {x y:Pack}:x=y↔x.name=y.name∧(x.ver.major=y.ver.major∧x.ver.minor=y.ver.minor∧x.ver.patch=y.ver.patch)∧x.deps=y.deps∧x.peers=y.peers∧x.opts=y.opts:=by
 obtain ⟨a,⟨b,c,d⟩,e,f,g⟩:=x
 obtain ⟨a',⟨b',c',d'⟩,e',f',g'⟩:=y
 simp only[Pack.mk.injEq,Ver.mk.injEq]
def PackV (w:World) (S:Nat→Prop) (p:Pack) (v:Value):Prop:=
 ∃ A n c A' n' c' A'' n'' c'',v=.agg #[.string p.name,.int .i64 p.ver.major,.int .i64 p.ver.minor,.int .i64 p.ver.patch,.slice A n c,.slice A' n' c',.slice A'' n'' c''] ∧
   p.name.size≤maxLen∧SlV rDep w S p.deps (.slice A n c)∧SlV rDep w S p.peers (.slice A' n' c')∧SlV rDep w S p.opts (.slice A'' n'' c'')
theorem PackV.keep {w w':World} {S:Nat→Prop} {p:Pack} {v:Value} (h:PackV w S p v) (hb:Below w.heap.size w w'):PackV w' S p v:=by
 obtain ⟨A,n,c,A',n',c',A'',n'',c'',h1,h2,h3,h4,h5⟩:=h
 exact ⟨A,n,c,A',n',c',A'',n'',c'',h1,h2,h3.belowSize hb,h4.belowSize hb,h5.belowSize hb⟩
theorem zC4 (p q:Pack) (v u:Value) (w:World) (S T:Nat→Prop) (hp:PackV w S p v) (hq:PackV w T q u) :
  Calls Tryz.prog 44 #[v,u] w fun e w'=>e=.returned (.bool (eqB p q))∧Below w.heap.size w w':=by
 obtain ⟨A1,n1,c1,A2,n2,c2,A3,n3,c3,rfl,_,h1,h2,h3⟩:=hp
 obtain ⟨B1,m1,d1,B2,m2,d2,B3,m3,d3,rfl,_,g1,g2,g3⟩:=hq
 have Hd1:Hid (∀ W,Below w.heap.size w W→Calls Tryz.prog 70 #[.slice A1 n1 c1,.slice B1 m1 d1] W fun e w'=>e=.returned (.bool (eqB p.deps q.deps))∧Below W.heap.size W w'):=fun W hW=>zC3 A1 B1 n1 m1 c1 d1 p.deps q.deps W S T (h1.belowSize hW) (g1.belowSize hW)
 have Hd2:Hid (∀ W,Below w.heap.size w W→Calls Tryz.prog 70 #[.slice A2 n2 c2,.slice B2 m2 d2] W fun e w'=>e=.returned (.bool (eqB p.peers q.peers))∧Below W.heap.size W w'):=fun W hW=>zC3 A2 B2 n2 m2 c2 d2 p.peers q.peers W S T (h2.belowSize hW) (g2.belowSize hW)
 have Hd3:Hid (∀ W,Below w.heap.size w W→Calls Tryz.prog 70 #[.slice A3 n3 c3,.slice B3 m3 d3] W fun e w'=>e=.returned (.bool (eqB p.opts q.opts))∧Below W.heap.size W w'):=fun W hW=>zC3 A3 B3 n3 m3 c3 d3 p.opts q.opts W S T (h3.belowSize hW) (g3.belowSize hW)
 have heq:=fun W=>zM5 W p.ver.major p.ver.minor p.ver.patch q.ver.major q.ver.minor q.ver.patch
 have Hn:Hid (p.name≠q.name→eqB p q=false):=fun h=>zAY fun e=>h (zEC.1 e).1
 have Hv:Hid (¬(p.ver.major=q.ver.major∧p.ver.minor=q.ver.minor∧p.ver.patch=q.ver.patch)→eqB p q=false):=fun h=>zAY fun e=>h (zEC.1 e).2.1
 have Hx1:Hid (eqB p.deps q.deps=false→eqB p q=false):=fun h=>zAY fun e=>by rw[zAj (zEC.1 e).2.2.1] at h;cases h
 have Hx2:Hid (eqB p.peers q.peers=false→eqB p q=false):=fun h=>zAY fun e=>by rw[zAj (zEC.1 e).2.2.2.1] at h;cases h
 have Hx3:Hid (eqB p.opts q.opts=false→eqB p q=false):=fun h=>zAY fun e=>by rw[zAj (zEC.1 e).2.2.2.2] at h;cases h
 have Hyes:Hid (p.name=q.name→(p.ver.major=q.ver.major∧p.ver.minor=q.ver.minor∧p.ver.patch=q.ver.patch)→eqB p.deps q.deps=true→eqB p.peers q.peers=true→eqB p.opts q.opts=true→eqB p q=true):=
  fun a b c d e=>zAj (zEC.2 ⟨a,b,zIg c,zIg d,zIg e⟩)
 clear h1 h2 h3 g1 g2 g3
 generalize eqB p q=r at *
 generalize eqB p.deps q.deps=r1 at *
 generalize eqB p.peers q.peers=r2 at *
 generalize eqB p.opts q.opts=r3 at *
 generalize p.name=pn at *
 generalize q.name=qn at *
 generalize p.ver.major=x1 at *
 generalize p.ver.minor=x2 at *
 generalize p.ver.patch=x3 at *
 generalize q.ver.major=y1 at *
 generalize q.ver.minor=y2 at *
 generalize q.ver.patch=y3 at *
 have Hb0:Hid (∀ o o',Below w.heap.size w ((w.alloc o).alloc o')):=fun o o'=>bal (bal (bR _ _) _) _
 by_cases h0:pn=qn
 ·have hbn:=zAr h0
  have H0:=cH h0;clear h0
  by_cases h1:x1=y1∧x2=y2∧x3=y3
  ·have hev:∀ W,(binOp .eql 50 (.agg #[.int .i64 x1,.int .i64 x2,.int .i64 x3]) (.agg #[.int .i64 y1,.int .i64 y2,.int .i64 y3])).run Tryz.prog W=.ok (.bool true) W:=fun W=>by rw[heq,decide_eq_true h1]
   clear heq
   have H1:=cH h1;clear h1
   cases r1
   ·have He:=cH (Hx1.out rfl)
    clear Hn Hv Hx1 Hx2 Hx3 Hyes
    go_enter Tryz.func44,Tryz.ntmps44
    go_wp2_with fail
    refine (Hd1.out _ (Hb0.out _ _)).mono ?_
    rintro e w1 ⟨rfl,hb1⟩
    go_wp2_with fail
    go_ret
    exact ⟨zAB He.out.symm,bot (Hb0.out _ _) hb1⟩
   ·cases r2
    ·have He:=cH (Hx2.out rfl)
     clear Hn Hv Hx1 Hx2 Hx3 Hyes
     go_enter Tryz.func44,Tryz.ntmps44
     go_wp2_with fail
     refine (Hd1.out _ (Hb0.out _ _)).mono ?_
     rintro e w1 ⟨rfl,hb1⟩
     have B1':=bot (Hb0.out _ _) hb1
     have e5:=hb1.cell (p:=⟨w.heap.size,5,none⟩) (by simp;omega)
     have e6:=hb1.cell (p:=⟨w.heap.size,6,none⟩) (by simp;omega)
     have f5:=hb1.cell (p:=⟨w.heap.size+1,5,none⟩) (by simp)
     have f6:=hb1.cell (p:=⟨w.heap.size+1,6,none⟩) (by simp)
     simp[go_sem] at e5 e6 f5 f6
     have hz1:w.heap.size+1<w1.heap.size:=by have:=hb1.size;simp at this;omega
     clear hb1
     go_wp2_with fail
     refine (Hd2.out _ B1').mono ?_
     rintro e w2 ⟨rfl,hb2⟩
     go_wp2_with fail
     go_ret
     exact ⟨zAB He.out.symm,bot B1' hb2⟩
    ·cases r3
     ·have He:=cH (Hx3.out rfl)
      clear Hn Hv Hx1 Hx2 Hx3 Hyes
      go_enter Tryz.func44,Tryz.ntmps44
      go_wp2_with fail
      refine (Hd1.out _ (Hb0.out _ _)).mono ?_
      rintro e w1 ⟨rfl,hb1⟩
      have B1':=bot (Hb0.out _ _) hb1
      have e5:=hb1.cell (p:=⟨w.heap.size,5,none⟩) (by simp;omega)
      have e6:=hb1.cell (p:=⟨w.heap.size,6,none⟩) (by simp;omega)
      have f5:=hb1.cell (p:=⟨w.heap.size+1,5,none⟩) (by simp)
      have f6:=hb1.cell (p:=⟨w.heap.size+1,6,none⟩) (by simp)
      simp[go_sem] at e5 e6 f5 f6
      have hz1:w.heap.size+1<w1.heap.size:=by have:=hb1.size;simp at this;omega
      clear hb1
      go_wp2_with fail
      refine (Hd2.out _ B1').mono ?_
      rintro e w2 ⟨rfl,hb2⟩
      have g6:=zAA hb2 e6 (by omega)
      have k6:=zAA hb2 f6 (by omega)
      have B2':=bot B1' hb2
      clear hb2 e5 e6 f5 f6
      go_wp2_with fail
      refine (Hd3.out _ B2').mono ?_
      rintro e w3 ⟨rfl,hb3⟩
      go_wp2_with fail
      go_ret
      exact ⟨zAB He.out.symm,bot B2' hb3⟩
     ·have He:=cH (Hyes.out H0.out H1.out rfl rfl rfl)
      clear Hn Hv Hx1 Hx2 Hx3 Hyes
      go_enter Tryz.func44,Tryz.ntmps44
      go_wp2_with fail
      refine (Hd1.out _ (Hb0.out _ _)).mono ?_
      rintro e w1 ⟨rfl,hb1⟩
      have B1':=bot (Hb0.out _ _) hb1
      have e5:=hb1.cell (p:=⟨w.heap.size,5,none⟩) (by simp;omega)
      have e6:=hb1.cell (p:=⟨w.heap.size,6,none⟩) (by simp;omega)
      have f5:=hb1.cell (p:=⟨w.heap.size+1,5,none⟩) (by simp)
      have f6:=hb1.cell (p:=⟨w.heap.size+1,6,none⟩) (by simp)
      simp[go_sem] at e5 e6 f5 f6
      have hz1:w.heap.size+1<w1.heap.size:=by have:=hb1.size;simp at this;omega
      clear hb1
      go_wp2_with fail
      refine (Hd2.out _ B1').mono ?_
      rintro e w2 ⟨rfl,hb2⟩
      have g6:=zAA hb2 e6 (by omega)
      have k6:=zAA hb2 f6 (by omega)
      have B2':=bot B1' hb2
      clear hb2 e5 e6 f5 f6
      go_wp2_with fail
      refine (Hd3.out _ B2').mono ?_
      rintro e w3 ⟨rfl,hb3⟩
      go_wp2_with fail
      go_ret
      exact ⟨zAB He.out.symm,bot B2' hb3⟩
  ·have hev:∀ W,(binOp .eql 50 (.agg #[.int .i64 x1,.int .i64 x2,.int .i64 x3]) (.agg #[.int .i64 y1,.int .i64 y2,.int .i64 y3])).run Tryz.prog W=.ok (.bool false) W:=fun W=>by rw[heq,decide_eq_false h1]
   have He:=cH (Hv.out h1)
   clear heq Hn Hv Hx1 Hx2 Hx3 Hyes h1
   go_enter Tryz.func44,Tryz.ntmps44
   go_wp2_with fail
   go_ret
   exact ⟨zAB He.out.symm,Hb0.out _ _⟩
 ·have hbn:=zAb h0
  have He:=cH (Hn.out h0)
  clear heq Hn Hv Hx1 Hx2 Hx3 Hyes h0
  go_enter Tryz.func44,Tryz.ntmps44
  go_wp2_with fail
  go_ret
  exact ⟨zAB He.out.symm,Hb0.out _ _⟩
