/- A world of the placer's laws: its solution: walked. -/
import Derived.Test.YtminjjdnmpaaoaaGreatDoorSv27
import Derived.Test.YtminjjdnmpaaoaaGreatDoorSv31
import Derived.Test.YtminjjdnmpaaoaaGreatDoorSv24
import Derived.Test.YtminjjdnmpaaoaaGreatDoorAl
set_option linter.all false
set_option maxHeartbeats 12800000
set_option maxRecDepth 100000
namespace Go.Proofs.YtminjjdnmpaaoaaGreatDoor
open Go.Rows Go.RowKit Go.Shelf Go.Sort
noncomputable def qSol (x:Wd):SIn:=⟨catC x.packs,x.man,x.dev,300,40⟩
def WdS (x:Wd):Prop:=zHY x.packs∧x.man.deps.length≤1048576∧x.man.dev.length≤1048576∧x.man.opts.length≤1048576
theorem zKM {ps:List Pack} {k:Nat} {p:Pack} (h:ps[k]?=some p):catC (ps.take (k+1))=(putC (catC (ps.take k)) p).1:=by
 unfold catC
 rw[List.take_add_one,h,List.foldl_append]
 rfl
theorem zIq (ps:List Pack):(catC ps).length≤128:=by
 unfold catC
 have key:∀ (l:List Pack) (L:List Pack),L.length≤128→(l.foldl (fun L p=>(putC L p).1) L).length≤128:=by
  intro l
  induction l with
  | nil=>intro L h;exact h
  | cons p l ih=>intro L h;exact ih _ (zLp h)
 exact key ps [] (by decide)
theorem zLI {ps:List Pack} {x:Pack} (h:x∈catC ps):x∈ps∧packB x=true:=(zMB h).resolve_left (by simp)
theorem zL8 {α:Type} {r:Rp α} {w:World} {S:Nat→Prop} {base:Nat} {e:TypeId} (y:α) (cs:Array Value) (hb:base≤w.heap.size) (hy:r.holds w S y cs.toList) (hS:∀ b,S b→b<w.heap.size):Own r (w.alloc (.cells cs e)) base e (.slice (some ⟨w.heap.size,0,none⟩) 1 1) [y] S:=by
 have hl:=r.len hy
 refine ⟨fun b hb'=>⟨?_,?_⟩,cs.toList,⟨?_,.inr ⟨w.heap.size,1,cs,rfl,hb,heap_alloc_new w _,nR _,by decide,?_,?_⟩⟩,Elems.one_ (Rp.alloc hy _)⟩
 ·have:=hS b hb';simp[go_sem];omega
 ·intro he
  have:=hS b hb'
  simp[Value.ownBlock] at he
  omega
 ·rw[hl];simp
 ·rw[←Array.length_toList,hl];simp
 ·rw[List.length_singleton,Nat.one_mul,←hl,List.take_length]
theorem zIU {w:World} {S:Nat→Prop} {y:Pack} {s:ByteArray} {a b c:Int} {A B C:Option Addr} {n1 c1 n2 c2 n3 c3:Nat} (h:PackV w S y (.agg #[.string s,.int .i64 a,.int .i64 b,.int .i64 c,.slice A n1 c1,.slice B n2 c2,.slice C n3 c3])) (hi:I64 a∧I64 b∧I64 c):rPack.holds w S y [.string s,.int .i64 a,.int .i64 b,.int .i64 c,.slice A n1 c1,.slice B n2 c2,.slice C n3 c3]:=by
 obtain ⟨A1,m1,d1,A2,m2,d2,A3,m3,d3,he,hnm,h1,h2,h3⟩:=h
 simp only[Value.agg.injEq,Array.mk.injEq,List.cons.injEq,Value.string.injEq,Value.int.injEq,Value.slice.injEq,and_true,true_and] at he
 obtain ⟨e0,e1,e2,e3,⟨rfl,rfl,rfl⟩,⟨rfl,rfl,rfl⟩,rfl,rfl,rfl⟩:=he
 exact ⟨_,_,_,by rw[e0,e1,e2,e3],hnm,by rw[←e1];exact hi.1,by rw[←e2];exact hi.2.1,by rw[←e3];exact hi.2.2,h1,h2,h3⟩
def SolvP (q:SIn) (w:World) (e:Ending) (w':World):Prop:=
 (∃ (gA pA:Option Addr) (gn gc pn pc:Nat) (b:Bool),e=.returned (.tuple #[.agg #[.slice gA gn gc],.slice pA pn pc,.bool b])∧((b=false∧solS q=none)∨∃ ns,b=true∧solS q=some ns∧SlV rNode w' (fun _=>True) ns (.slice gA gn gc)∧SlV rPack w' (fun _=>True) (zCJ q.L ns) (.slice pA pn pc)))∧Below w.heap.size w w'
theorem SolvP.no {q:SIn} {w w':World} (h:solS q=none) (hb:Below w.heap.size w w'):SolvP q w (.returned (.tuple #[.agg #[.slice none 0 0],.slice none 0 0,.bool false])) w':=⟨⟨_,_,_,_,_,_,_,rfl,.inl ⟨rfl,h⟩⟩,hb⟩
theorem SolvP.yes {q:SIn} {w w':World} {gA pA:Option Addr} {gn gc pn pc:Nat} {ns:List Node} (h:solS q=some ns) (hg:SlV rNode w' (fun _=>True) ns (.slice gA gn gc)) (hp:SlV rPack w' (fun _=>True) (zCJ q.L ns) (.slice pA pn pc)) (hb:Below w.heap.size w w'):SolvP q w (.returned (.tuple #[.agg #[.slice gA gn gc],.slice pA pn pc,.bool true])) w':=⟨⟨_,_,_,_,_,_,_,rfl,.inr ⟨ns,rfl,h,hg,hp⟩⟩,hb⟩
def CatS (w0 w1:World) (CB:Nat) (ps:List Pack) (k:Nat) (W:World):Prop:=
 ∃ A n c,W.heap[CB]?=some (.cells #[.slice A n c] 94 (0,0))∧SlV rPack W (fun b=>b<w0.heap.size∨w1.heap.size≤b) (catC (ps.take k)) (.slice A n c)
theorem zJL {L:List Pack} {ns:List Node} {k:Nat} {n:Node} (h1:1≤k) (h:ns[k]?=some n):(zCJ L ns).take (k+1)=(zCJ L ns).take k++[(getC L n.name n.ver).getD zAC]:=by
 rw[List.take_add_one,zJ9 h1 h]
 rfl
theorem zHt {L:List Pack} {ns:List Node} (h:1≤ns.length):(zCJ L ns).take 1=[zAC]:=by
 cases ns with
 | nil=>simp at h
 | cons n l=>rfl
theorem zJB (kA mA nA lA vA oA:Option Addr) (kn kc mn mc nn nc ln lc vn vc on oc:Nat) (dec nod dirs path:Int) (like:Bool) (x:Wd) (w:World) (S:Nat→Prop) (h0:SlV rPack w S x.packs (.slice kA kn kc)) (h1:SlV rDep w S x.man.deps (.slice mA mn mc)) (h2:SlV rDep w S x.man.dev (.slice nA nn nc)) (h3:SlV rDep w S x.man.opts (.slice lA ln lc)) (h4:SlV rDep w S x.man.over (.slice vA vn vc)) (hz:WdS x) :
  Calls Tryz.prog 16 #[.agg #[.slice kA kn kc,.slice mA mn mc,.slice nA nn nc,.slice lA ln lc,.slice vA vn vc,.bool x.dev,.int .i64 dec,.int .i64 nod,.int .i64 dirs,.int .i64 path,.slice oA on oc,.bool like]] w fun e w'=>SolvP (qSol x) w e w':=by
 have hn:=h0.n_eq
 have hcap:=h0.cap_le
 unfold maxLen at hcap
 have hknz:kn≤9223372036854775807:=by omega
 have HL0:=cH h0
 have Hn:Hid (x.packs.length=kn):=hn.symm
 have HMv:Hid (ManiV w S x.man (.agg #[.slice mA mn mc,.slice nA nn nc,.slice lA ln lc,.slice vA vn vc])):=⟨_,_,_,_,_,_,_,_,_,_,_,_,rfl,h1,h2,h3,h4⟩
 have Hz:=cH hz
 clear h0 h1 h2 h3 h4 hz hn hcap
 obtain ⟨q,hq⟩:∃ q,q=qSol x:=⟨_,rfl⟩
 have hqL:q.L=catC x.packs:=by rw[hq];rfl
 have hqd:q.dev=x.dev:=by rw[hq];rfl
 have hqm:q.m=x.man:=by rw[hq];rfl
 have hqk:q.dec=300:=by rw[hq];rfl
 have hql:q.lim=40:=by rw[hq];rfl
 rw[←hq]
 clear hq
 obtain ⟨dv,hdv⟩:∃ d,d=x.dev:=⟨_,rfl⟩
 rw[←hdv] at hqd ⊢
 clear hdv
 obtain ⟨w0,hw0⟩:∃ w0,w0=((w.alloc (.cells #[.slice kA kn kc,.slice mA mn mc,.slice nA nn nc,.slice lA ln lc,.slice vA vn vc,.bool dv,.int .i64 dec,.int .i64 nod,.int .i64 dirs,.int .i64 path,.slice oA on oc,.bool like] 35)).alloc (.cells #[.slice none 0 0] 24)).alloc (.cells #[.slice none 0 0] 94):=⟨_,rfl⟩
 have hz1:(w.alloc (.cells #[.slice kA kn kc,.slice mA mn mc,.slice nA nn nc,.slice lA ln lc,.slice vA vn vc,.bool dv,.int .i64 dec,.int .i64 nod,.int .i64 dirs,.int .i64 path,.slice oA on oc,.bool like] 35)).heap.size=w.heap.size+1:=by simp
 have hz2:((w.alloc (.cells #[.slice kA kn kc,.slice mA mn mc,.slice nA nn nc,.slice lA ln lc,.slice vA vn vc,.bool dv,.int .i64 dec,.int .i64 nod,.int .i64 dirs,.int .i64 path,.slice oA on oc,.bool like] 35)).alloc (.cells #[.slice none 0 0] 24)).heap.size=w.heap.size+2:=by simp
 have hz3:w0.heap.size=w.heap.size+3:=by rw[hw0];simp
 have HB0:Hid (Below w.heap.size w w0):=by unfold Hid;rw[hw0];exact bal (bal (bal (bR _ _) _) _) _
 have hq1:w0.heap[w.heap.size]?=some (.cells #[.slice kA kn kc,.slice mA mn mc,.slice nA nn nc,.slice lA ln lc,.slice vA vn vc,.bool dv,.int .i64 dec,.int .i64 nod,.int .i64 dirs,.int .i64 path,.slice oA on oc,.bool like] 35 (0,0)):=by
  rw[hw0];exact (Below.heap_alloc _ _ _ (by rw[hz2];omega)).trans ((Below.heap_alloc _ _ _ (by rw[hz1];omega)).trans (zAD _ _))
 have hq2:w0.heap[w.heap.size+1]?=some (.cells #[.slice none 0 0] 24 (0,0)):=by
  rw[hw0,←hz1];exact (Below.heap_alloc _ _ _ (by simp)).trans (zAD _ _)
 have hq3:w0.heap[w.heap.size+2]?=some (.cells #[.slice none 0 0] 94 (0,0)):=by
  rw[hw0,←hz2];exact zAD _ _
 obtain ⟨QB,hQB⟩:∃ k,k=w.heap.size:=⟨_,rfl⟩
 obtain ⟨GB,hGB⟩:∃ k,k=w.heap.size+1:=⟨_,rfl⟩
 obtain ⟨CB,hCB⟩:∃ k,k=w.heap.size+2:=⟨_,rfl⟩
 rw[←hQB] at hq1
 rw[←hGB] at hq2
 rw[←hCB] at hq3
 have HGB:Hid (w.heap.size≤GB∧GB<w0.heap.size∧GB≠CB):=by unfold Hid;omega
 have HCBz:Hid (w.heap.size≤CB∧CB<w0.heap.size):=by unfold Hid;omega
 have HW0:Hid (∀ W,But CB w0 W→Below w.heap.size w W):=fun W hW=>HB0.out.trans (hW.below (by omega) (by omega))
 have HQ:Hid (∀ W,But CB w0 W→W.cell? ⟨QB,0,none⟩=some (.slice kA kn kc)∧W.cell? ⟨QB,1,none⟩=some (.slice mA mn mc)∧W.cell? ⟨QB,2,none⟩=some (.slice nA nn nc)∧W.cell? ⟨QB,3,none⟩=some (.slice lA ln lc)∧W.cell? ⟨QB,4,none⟩=some (.slice vA vn vc)∧W.cell? ⟨QB,5,none⟩=some (.bool dv)):=fun W hW=>by
  have h:=(hW.block QB (aS.1 hq1).1 (by omega)).trans hq1
  exact ⟨cO _ _ 0 _ _ _ h,cO _ _ 1 _ _ _ h,cO _ _ 2 _ _ _ h,cO _ _ 3 _ _ _ h,cO _ _ 4 _ _ _ h,cO _ _ 5 _ _ _ h⟩
 have HG:Hid (∀ W,But CB w0 W→W.heap[GB]?=some (.cells #[.slice none 0 0] 24 (0,0))):=fun W hW=>(hW.block GB (aS.1 hq2).1 (by omega)).trans hq2
 have HC0:Hid (CatS w w0 CB x.packs 0 w0):=⟨none,0,0,hq3,SlV.nil_ _ _ _⟩
 have HPut:Hid (∀ (k:Nat) (p:Pack) (u:Value) W,But CB w0 W→CatS w w0 CB x.packs k W→x.packs[k]?=some p→PackV W (fun b=>b<w.heap.size) p u→(I64 p.ver.major∧I64 p.ver.minor∧I64 p.ver.patch)→Calls Tryz.prog 33 #[.pointer (some ⟨CB,0,none⟩),u] W fun e w'=>(∃ c,e=.returned (.int .i64 c))∧CatS w w0 CB x.packs (k+1) w'∧But CB w0 w'):=fun k p u W hW ⟨A,n,c,hr,hl⟩ hk hu hi=>by
  refine (zL9 CB A n c _ p u W (fun b=>b<w.heap.size∨w0.heap.size≤b) hr hl (fun b hb=>by have:=HCBz.out;omega) (zIq _) (hu.moreP fun b hb _=>.inl hb) hi).mono ?_
  rintro e w' ⟨h1,A',n',c',h2,h3,h4⟩
  have:=hW.size
  exact ⟨h1,⟨A',n',c',h2,by rw[zKM hk];exact h3.more fun b hb _=>by rcases hb.1 with (hb|hb)|hb<;>omega⟩,hW.trans h4⟩
 have HRun:Hid (∀ W,But CB w0 W→CatS w w0 CB x.packs kn W→Calls Tryz.prog 34 #[.pointer (some ⟨CB,0,none⟩),.agg #[.slice mA mn mc,.slice nA nn nc,.slice lA ln lc,.slice vA vn vc],.bool dv,.slice none 0 0,.agg #[.int .i64 300,.int .i64 40,.int .i64 1,.int .i64 1]] W fun e w'=>RunP q W e w'):=fun W hW ⟨A,n,c,hr,hl⟩=>by
  rw[List.take_of_length_le (by have:=Hn.out;omega),←hqL] at hl
  have h:=zMq CB A n c mA mn mc nA nn nc lA ln lc vA vn vc q 1 1 W (fun _=>True) (cO _ _ 0 _ _ _ hr) (hl.more fun _ _ _=>trivial) (by rw[hqm];exact ((HMv.out.keep (HW0.out W hW)).moreV fun _ _ _=>trivial)) (fun y hy=>by rw[hqL] at hy;exact Hz.out.1.2 y (zLI hy).1) (by rw[hqL];exact zIq _) (by rw[hqm];exact Hz.out.2) (by rw[hqk];decide) (by rw[hql];decide)
  rw[hqk,hql,hqd] at h
  exact h
 have HElem:Hid (∀ (k:Nat) (p:Pack),x.packs[k]?=some p→∃ b o A1 B1 C1 a1 b1 c1,kA=some ⟨b,o,none⟩∧b<w.heap.size∧PackV w (fun b=>b<w.heap.size) p (.agg #[.string p.name,.int .i64 p.ver.major,.int .i64 p.ver.minor,.int .i64 p.ver.patch,.slice A1 p.deps.length a1,.slice B1 p.peers.length b1,.slice C1 p.opts.length c1])∧(I64 p.ver.major∧I64 p.ver.minor∧I64 p.ver.patch) ∧
   w.cell? ⟨b,o+k * 7,none⟩=some (.string p.name)∧w.cell? ⟨b,o+k * 7+1,none⟩=some (.int .i64 p.ver.major)∧w.cell? ⟨b,o+k * 7+2,none⟩=some (.int .i64 p.ver.minor)∧w.cell? ⟨b,o+k * 7+3,none⟩=some (.int .i64 p.ver.patch) ∧
   w.cell? ⟨b,o+k * 7+4,none⟩=some (.slice A1 p.deps.length a1)∧w.cell? ⟨b,o+k * 7+5,none⟩=some (.slice B1 p.peers.length b1)∧w.cell? ⟨b,o+k * 7+6,none⟩=some (.slice C1 p.opts.length c1)):=fun k p hp=>by
  obtain ⟨b,o,A1,B1,C1,a1,b1,c1,hA,hb,_,hpv,hrest⟩:=zFK HL0.out hp
  exact ⟨b,o,A1,B1,C1,a1,b1,c1,hA,hb,hpv.moreP fun b _ hl=>hl,hrest⟩
 go_enter Tryz.func16,Tryz.ntmps16
 go_upto_region 2 with (fail)
 rw[←hw0,←hCB,←hGB,←hQB]
 clear hw0 hz1 hz2 hz3 hq1 hq2 hq3 hQB hGB hCB HL0
 go_wp2_with fail
 go_loopw [6] (fun t wr=>∃ k:Nat,k≤kn∧t=.int .i64 k∧Hid (CatS w w0 CB x.packs k wr)∧Hid (But CB w0 wr)) (fun t _=>kn - (intOf t).toNat)
 case atStart=>exact ⟨0,nZ _,rfl,HC0,But.refl _ _⟩
 case round=>
  clear HC0
  obtain ⟨k,hk,rfl,hcat,hbut⟩:=hrel
  have hk0:(0:Int)≤(k:Int):=by omega
  obtain ⟨z0,z1,z2,z3,z4,z5⟩:=HQ.out wr hbut.out
  by_cases hlt:k<kn
  case pos=>
   have hkI:(k:Int)<(kn:Int):=by omega
   obtain ⟨p,hp⟩:∃ p,x.packs[k]?=some p:=⟨_,gE (by have:=Hn.out;omega)⟩
   obtain ⟨b,o,A1,B1,C1,a1,b1,c1,hA,hb,hpv,hi,n0,n1,n2,n3,n4,n5,n6⟩:=HElem.out k p hp
   have hBw:=HW0.out wr hbut.out
   have n0:=zAA hBw n0 hb
   have n1:=zAA hBw n1 hb
   have n2:=zAA hBw n2 hb
   have n3:=zAA hBw n3 hb
   have n4:=zAA hBw n4 hb
   have n5:=zAA hBw n5 hb
   have n6:=zAA hBw n6 hb
   have HP:=cH (HPut.out k p _ wr hbut.out hcat.out hp (hpv.keep hBw) hi)
   clear hpv hi hp hb hBw
   subst hA
   clear HElem HRun HG HQ HPut z1 z2 z3 z4 z5
   generalize p.deps.length=l1 at *
   generalize p.peers.length=l2 at *
   generalize p.opts.length=l3 at *
   generalize p.name=pn at *
   generalize p.ver.major=v1 at *
   generalize p.ver.minor=v2 at *
   generalize p.ver.patch=v3 at *
   go_wp2_with fail
   refine HP.out.mono ?_
   rintro e w5 ⟨⟨c,rfl⟩,hcat5,hbut5⟩
   have HC5:=cH hcat5
   have HB5:=cH hbut5
   clear hcat5 hbut5 HP z0 n0 n1 n2 n3 n4 n5 n6
   go_wp2_with fail
   go_roundw
   case rel=>exact ⟨k+1,by omega,by go_num,HC5,HB5⟩
   case measure=>simp[intOf];omega
  have hkI:¬(k:Int)<(kn:Int):=by omega
  have hke:k=kn:=by omega
  subst hke
  clear HPut HElem hlt hk
  generalize wr=wv at *
  go_upto_region 7 with (fail)
  obtain ⟨w4,hw4⟩:∃ w4,w4=wv.alloc (.cells #[.int .i64 300,.int .i64 40,.int .i64 1,.int .i64 1] 30):=⟨_,rfl⟩
  have HB4:Hid (But CB w0 w4):=by unfold Hid;rw[hw4];exact hbut.out.then (bal (bR _ _) _)
  have hq4:w4.heap[wv.heap.size]?=some (.cells #[.int .i64 300,.int .i64 40,.int .i64 1,.int .i64 1] 30 (0,0)):=by rw[hw4];exact zAD _ _
  have HC4:Hid (CatS w w0 CB x.packs k w4):=by
   obtain ⟨A,n,c,g1,g2⟩:=hcat.out
   unfold Hid
   rw[hw4]
   exact ⟨A,n,c,(Below.heap_alloc _ _ _ (aS.1 g1).1).trans g1,g2.alloc _⟩
  rw[←hw4]
  clear z0 z1 z2 z3 z4 z5 hcat hbut hw4
  obtain ⟨z0,z1,z2,z3,z4,z5⟩:=HQ.out w4 HB4.out
  have y0:=cO _ _ 0 _ _ _ hq4
  have y1:=cO _ _ 1 _ _ _ hq4
  have y2:=cO _ _ 2 _ _ _ hq4
  have y3:=cO _ _ 3 _ _ _ hq4
  clear hq4
  go_wp2_with fail
  refine (HRun.out w4 HB4.out HC4.out).mono ?_
  rintro e w5 ⟨⟨gA,gn,gc,tr,er,rfl,hi,hcase⟩,hb5⟩
  have HB5:=cH hb5
  have Hcase:=cH hcase
  clear hb5 hcase z0 z1 z2 z3 z4 z5 y0 y1 y2 y3 HRun HQ
  go_upto_region 8 with (fail)
  obtain ⟨w6,hw6⟩:∃ w6,w6=w5.alloc (.cells #[.slice gA gn gc] 24):=⟨_,rfl⟩
  have HB6:Hid (Below w4.heap.size w4 w6):=by unfold Hid;rw[hw6];exact bal HB5.out _
  have HBw6:Hid (Below w.heap.size w w6):=bot (HW0.out w4 HB4.out) HB6.out
  have hq6:w6.heap[w5.heap.size]?=some (.cells #[.slice gA gn gc] 24 (0,0)):=by rw[hw6];exact zAD _ _
  have hGB6:w6.heap[GB]?=some (.cells #[.slice none 0 0] 24 (0,0)):=by
   have h:=HG.out w4 HB4.out
   exact (HB6.out.block _ (aS.1 h).1).trans h
  have HGB6:=cH hGB6
  obtain ⟨RB,hRB⟩:∃ k,k=w5.heap.size:=⟨_,rfl⟩
  rw[←hRB] at hq6
  have HR:Hid (∀ W,Below w6.heap.size w6 W→W.heap[RB]?=some (.cells #[.slice gA gn gc] 24 (0,0))):=fun W hW=>(hW.block _ (aS.1 hq6).1).trans hq6
  rw[←hw6,←hRB]
  rcases Hcase.out with ⟨hs,hne⟩|⟨ns,hs,her,hsl⟩
  ·have hE:(er==0)=false:=by simp;omega
   have Hs:=cH hs
   have tc:=cO _ _ 0 _ _ _ hGB6
   have tf:w6.frozen? ⟨GB,0,none⟩=false:=frozen_of_row _ _ 0 _ _ hGB6
   clear hs hne hi Hcase hq6 hw6 hRB hGB6 HR
   go_wp2_with fail
   refine zCd rfl rfl rfl rfl rfl (zAX (o:=0) HGB6.out _) Tryz.underlying24 rfl (by kernel_rfl) (SolvP.no Hs.out (HBw6.out.setCell (p:=⟨GB,0,none⟩) HGB.out.1 _))
  subst her
  have hl1:1≤q.lim:=by omega
  have hinv:=zIj hl1 hs
  have hgn:=hsl.n_eq
  have hgc:=hsl.cap_le
  unfold maxLen at hgc
  have hn40:gn≤40:=by have:=hinv.len;omega
  have hn1:1≤gn:=by
   obtain ⟨es,hr⟩:=hinv.root
   have:=(gS.1 hr).1
   omega
  have hgcz:gn≤gc:=by omega
  have Hgn:Hid (ns.length=gn):=hgn.symm
  have Hsl6:Hid (SlV rNode w6 (fun _=>True) ns (.slice gA gn gc)):=by unfold Hid;rw[hw6];exact hsl.alloc _
  have Hs:=cH hs
  have HGN:Hid (w6.heap[GB]?=some (.cells #[.slice none 0 0] 24 (0,0))):=hGB6
  obtain ⟨cA,cn,cc,hrc,hlc⟩:=HC4.out
  rw[List.take_of_length_le (by have:=Hn.out;omega),←hqL] at hlc
  have hw46:w4.heap.size≤w6.heap.size:=HB6.out.size
  obtain ⟨T,hT⟩:∃ T:Nat→Prop,T=fun b=>(b<w.heap.size∨w0.heap.size≤b)∧b<w6.heap.size:=⟨_,rfl⟩
  have HT:Hid (∀ b,T b↔(b<w.heap.size∨w0.heap.size≤b)∧b<w6.heap.size):=fun b=>by rw[hT]
  clear hT
  have HLc:Hid (SlV rPack w6 T q.L (.slice cA cn cc)):=(hlc.belowSize HB6.out).more fun b hb hl=>(HT.out b).2 ⟨hb,hl⟩
  have HCc:Hid (∀ W,Below w6.heap.size w6 W→W.cell? ⟨CB,0,none⟩=some (.slice cA cn cc)):=fun W hW=>by
   have h:=(HB6.out.block _ (aS.1 hrc).1).trans hrc
   exact cO _ _ 0 _ _ _ ((hW.block _ (aS.1 h).1).trans h)
  have HGet:Hid (∀ W (s:ByteArray) (u:Ver),Below w6.heap.size w6 W→Calls Tryz.prog 35 #[.pointer (some ⟨CB,0,none⟩),.string s,.agg #[.int .i64 u.major,.int .i64 u.minor,.int .i64 u.patch]] W fun e w'=>(∃ A B C' a b c,e=.returned (.tuple #[.agg #[.string ((getC q.L s u).getD zAC).name,.int .i64 ((getC q.L s u).getD zAC).ver.major,.int .i64 ((getC q.L s u).getD zAC).ver.minor,.int .i64 ((getC q.L s u).getD zAC).ver.patch,.slice A ((getC q.L s u).getD zAC).deps.length a,.slice B ((getC q.L s u).getD zAC).peers.length b,.slice C' ((getC q.L s u).getD zAC).opts.length c],.bool (getC q.L s u).isSome])∧PackV w' T ((getC q.L s u).getD zAC) (.agg #[.string ((getC q.L s u).getD zAC).name,.int .i64 ((getC q.L s u).getD zAC).ver.major,.int .i64 ((getC q.L s u).getD zAC).ver.minor,.int .i64 ((getC q.L s u).getD zAC).ver.patch,.slice A ((getC q.L s u).getD zAC).deps.length a,.slice B ((getC q.L s u).getD zAC).peers.length b,.slice C' ((getC q.L s u).getD zAC).opts.length c]))∧Below W.heap.size W w'):=fun W s u hW=>by
   refine (zEW CB cA cn cc q.L s u W T (HCc.out W hW) (HLc.out.belowSize hW)).mono ?_
   rintro e w' ⟨z,h1,h2,h3⟩
   obtain ⟨A,B,C',a,b,c,rfl,_⟩:=h2.open_
   exact ⟨⟨A,B,C',a,b,c,h1,h2⟩,h3⟩
  have HI:Hid (∀ (s:ByteArray) (u:Ver),I64 ((getC q.L s u).getD zAC).ver.major∧I64 ((getC q.L s u).getD zAC).ver.minor∧I64 ((getC q.L s u).getD zAC).ver.patch):=fun s u=>by
   cases hg:getC q.L s u with
   | none=>exact ⟨zB1,zB1,zB1⟩
   | some p=>
     obtain ⟨j,hj,hjp⟩:=List.getElem_of_mem (zGu hg).1
     obtain ⟨_,_,_,_,_,_,_,_,_,_,_,_,hi,_⟩:=zFK HLc.out (show q.L[j]?=some p by rw[gE hj,hjp])
     exact hi
  have HE:Hid (∀ (k:Nat) (y:Node),ns[k]?=some y→∃ b o,gA=some ⟨b,o,none⟩∧∀ W,Below w6.heap.size w6 W→W.cell? ⟨b,o+k * 6,none⟩=some (.string y.name)∧W.cell? ⟨b,o+k * 6+1,none⟩=some (.int .i64 y.ver.major)∧W.cell? ⟨b,o+k * 6+2,none⟩=some (.int .i64 y.ver.minor)∧W.cell? ⟨b,o+k * 6+3,none⟩=some (.int .i64 y.ver.patch)):=fun k y hy=>by
   obtain ⟨b,o,cs,hA,_,hb,⟨q0,q1,rfl,_,_,_,_,_,_⟩,hcell⟩:=Hsl6.out.elem hy
   exact ⟨b,o,hA,fun W hW=>⟨zAA hW (hcell 0 _ rfl) hb,zAA hW (hcell 1 _ rfl) hb,zAA hW (hcell 2 _ rfl) hb,zAA hW (hcell 3 _ rfl) hb⟩⟩
  obtain ⟨PS,hPS⟩:∃ PS,PS=zCJ q.L ns:=⟨_,rfl⟩
  have HP1:Hid (PS.take 1=[zAC]):=by unfold Hid;rw[hPS];exact zHt (by have:=Hgn.out;omega)
  have HPn:Hid (∀ (k:Nat) (y:Node),1≤k→ns[k]?=some y→PS.take (k+1)=PS.take k++[(getC q.L y.name y.ver).getD zAC]):=fun k y h1 h2=>by rw[hPS];exact zJL h1 h2
  have HPl:Hid (PS.length=gn):=by unfold Hid;rw[hPS,zFl];exact Hgn.out
  have HPS:=cH hPS
  have r0:=cO _ _ 0 _ _ _ (HR.out w6 (bR _ _))
  clear hs hi Hcase hq6 hw6 hRB hGB6 hinv hgn hgc hsl hrc hlc hw46 hPS HC4 hl1
  go_upto_region 11 with (fail)
  obtain ⟨w7,hw7⟩:∃ w7,w7=w6.alloc (.cells #[.string ⟨#[]⟩,.int .i64 0,.int .i64 0,.int .i64 0,.slice none 0 0,.slice none 0 0,.slice none 0 0] 52):=⟨_,rfl⟩
  have HO7:Hid (Own rPack w7 w6.heap.size 52 (.slice (some ⟨w6.heap.size,0,none⟩) 1 1) (PS.take 1) T):=by
   unfold Hid
   rw[hw7,HP1.out]
   exact zL8 zAC _ (nR _) ⟨_,_,_,rfl,by decide,zB1,zB1,zB1,SlV.nil_ _ _ _,SlV.nil_ _ _ _,SlV.nil_ _ _ _⟩ (fun b hb=>((HT.out b).1 hb).2)
  have HB7:Hid (Below w6.heap.size w6 w7):=by unfold Hid;rw[hw7];exact bal (bR _ _) _
  rw[←hw7]
  clear hw7 r0 HP1
  go_wp2_with fail
  go_loopw [11,12] (fun t11 t12 wr=>∃ (k g cap:Nat),1≤k∧k≤gn∧t12=.int .i64 k∧t11=.slice (some ⟨g,0,none⟩) k cap∧Hid (Own rPack wr w6.heap.size 52 (.slice (some ⟨g,0,none⟩) k cap) (PS.take k) T)∧Hid (Below w6.heap.size w6 wr)) (fun _ t12 _=>gn - (intOf t12).toNat)
  case atStart=>exact ⟨1,w6.heap.size,1,nR _,hn1,rfl,rfl,HO7,HB7⟩
  case round=>
   clear HO7 HB7
   obtain ⟨k,g,cap,hk1,hk,rfl,rfl,hown,hB⟩:=hrel
   have hk0:(0:Int)≤(k:Int):=by omega
   have r0:=cO _ _ 0 _ _ _ (HR.out wr hB.out)
   by_cases hlt:k<gn
   case pos=>
    have hkI:(k:Int)<(gn:Int):=by omega
    obtain ⟨y,hy⟩:∃ y,ns[k]?=some y:=⟨_,gE (by have:=Hgn.out;omega)⟩
    obtain ⟨b,o,hA,hcells⟩:=HE.out k y hy
    have Hcl:=cH hcells
    have Hnext:=cH (HPn.out k y hk1 hy)
    have HGk:Hid (∀ W,Below w6.heap.size w6 W→_):=fun W hW=>HGet.out W y.name y.ver hW
    have HIk:=cH (HI.out y.name y.ver)
    clear hcells hy HE HGet HI HPn
    subst hA
    generalize (getC q.L y.name y.ver).isSome=gs at *
    generalize (getC q.L y.name y.ver).getD zAC=p at *
    obtain ⟨yn0,⟨x1,x2,x3⟩,xx,xe⟩:=y
    simp only at Hcl HGk
    obtain ⟨l1,hl1⟩:∃ k,k=p.deps.length:=⟨_,rfl⟩
    obtain ⟨l2,hl2⟩:∃ k,k=p.peers.length:=⟨_,rfl⟩
    obtain ⟨l3,hl3⟩:∃ k,k=p.opts.length:=⟨_,rfl⟩
    rw[←hl1,←hl2,←hl3] at HGk
    clear hl1 hl2 hl3
    obtain ⟨yn,hyn⟩:∃ k,k=p.name:=⟨_,rfl⟩
    obtain ⟨v1,hv1⟩:∃ k,k=p.ver.major:=⟨_,rfl⟩
    obtain ⟨v2,hv2⟩:∃ k,k=p.ver.minor:=⟨_,rfl⟩
    obtain ⟨v3,hv3⟩:∃ k,k=p.ver.patch:=⟨_,rfl⟩
    rw[←hyn,←hv1,←hv2,←hv3] at HGk
    rw[←hv1,←hv2,←hv3] at HIk
    clear hyn hv1 hv2 hv3
    obtain ⟨n0,n1,n2,n3⟩:=Hcl.out wr hB.out
    have Hcells:Hid (∀ W,Below wr.heap.size wr W→W.cell? ⟨RB,0,none⟩=some (.slice (some ⟨b,o,none⟩) gn gc)∧W.cell? ⟨b,o+k * 6,none⟩=some (.string yn0)∧W.cell? ⟨b,o+k * 6+1,none⟩=some (.int .i64 x1)∧W.cell? ⟨b,o+k * 6+2,none⟩=some (.int .i64 x2)∧W.cell? ⟨b,o+k * 6+3,none⟩=some (.int .i64 x3)):=fun W hW=>⟨cO _ _ 0 _ _ _ (HR.out W (bot hB.out hW)),Hcl.out W (bot hB.out hW)⟩
    have HGw:Hid (∀ W,Below wr.heap.size wr W→_):=fun W hW=>HGk.out W (bot hB.out hW)
    clear HGk Hcl HR
    go_upto_region 14 with (fail)
    go_cut [13,14] from 55 to 71 (fun v7 v8 wx=>∃ (PB:Nat) (A B C':Option Addr) (a b' c:Nat),v7=.pointer (some ⟨PB,0,none⟩)∧v8=.bool gs∧Hid (Below wr.heap.size wr wx∧wx.heap[PB]?=some (.cells #[.string yn,.int .i64 v1,.int .i64 v2,.int .i64 v3,.slice A l1 a,.slice B l2 b',.slice C' l3 c] 52 (0,0))∧PackV wx T p (.agg #[.string yn,.int .i64 v1,.int .i64 v2,.int .i64 v3,.slice A l1 a,.slice B l2 b',.slice C' l3 c])))
    case first=>
     go_region_held3 (fun W=>(W.cell? ⟨RB,0,none⟩=some (.slice (some ⟨b,o,none⟩) gn gc)∧W.cell? ⟨b,o+k * 6,none⟩=some (.string yn0)∧W.cell? ⟨b,o+k * 6+1,none⟩=some (.int .i64 x1)∧W.cell? ⟨b,o+k * 6+2,none⟩=some (.int .i64 x2)∧W.cell? ⟨b,o+k * 6+3,none⟩=some (.int .i64 x3))∧Below wr.heap.size wr W)
      (first
        | (with_reducible exact hK7 _ _ _ _ _ _ _)
        | (with_reducible exact ⟨Hcells.out _ (bR _ _).drew,(bR _ _).drew⟩)
        | (with_reducible exact ⟨Hcells.out _ hB2,hB2⟩)
        | (with_reducible exact ⟨Hcells.out _ (bal hB2 _),bal hB2 _⟩)
        | (with_reducible exact ⟨Hcells.out _ (bal (bR _ _).drew _),bal (bR _ _).drew _⟩))
      (first
        | (go_at_call 35;go_split_ands;with_reducible refine (HGw.out _ (by assumption)).mono ?_;rintro e w2 ⟨⟨eA,eB,eC,ea,eb,ec,rfl,hpv⟩,hb2⟩;have hB2:Below wr.heap.size wr w2:=bot (by assumption) hb2;have hz2:=hB2.size;(try (have hT:=zD9 hb2;obtain ⟨⟨t0,t1,t2,t3,t4,t5,t6⟩,f0,f1,f2,f3,f4,f5,f6⟩:=hT;have hK7:=fun a0 a1 a2 a3 a4 a5 a6=>And.intro (Hcells.out _ (zAj hB2 (nR wr.heap.size) a0 a1 a2 a3 a4 a5 a6)) (zAj hB2 (nR wr.heap.size) a0 a1 a2 a3 a4 a5 a6)))))
     all_goals
      go_wp2_with fail
      go_meet
      first
       | (have hq:=hK7;exact ⟨wr.heap.size,eA,eB,eC,ea,eb,ec,rfl,rfl,zAj hB2 (nR _) _ _ _ _ _ _ _,set7Q (zEV hb2) _ _ _ _ _ _ _,hpv.belowT (zAj (bR wr.heap.size w2) (nR _) _ _ _ _ _ _ _) (fun b hb=>lL ((HT.out b).1 hb).2 hB.out.size)⟩)
       | exact ⟨w2.heap.size,eA,eB,eC,ea,eb,ec,rfl,rfl,bal hB2 _,zAD w2 _,hpv.keep (bal (bR _ _) _)⟩
    case rest=>
    obtain ⟨PB,eA,eB,eC,ea,eb,ec,rfl,rfl,HN⟩:=hcut
    generalize wc=w8 at *
    have HB8:=cH HN.out.1
    have HO8:=cH (hown.out.keep HB8.out)
    obtain ⟨⟨t0,t1,t2,t3,t4,t5,t6⟩,_⟩:=row7 HN.out.2.1
    have HX8:Hid (rPack.holds (w8.alloc (.cells #[.string yn,.int .i64 v1,.int .i64 v2,.int .i64 v3,.slice eA l1 ea,.slice eB l2 eb,.slice eC l3 ec] 52)) T p [.string yn,.int .i64 v1,.int .i64 v2,.int .i64 v3,.slice eA l1 ea,.slice eB l2 eb,.slice eC l3 ec]):=Rp.alloc (zIU HN.out.2.2 HIk.out) _
    have Hlen:Hid ((PS.take k).length=k):=by unfold Hid;rw[List.length_take,HPl.out];omega
    have hz8:w6.heap.size≤w8.heap.size:=(bot hB.out HB8.out).size
    clear HN hown Hcells HGw n0 n1 n2 n3 r0
    go_wp2_with (at_builtin;refine zAM (by rfl) _ _ _ (by rfl) zDn Tryz.underlying25 (by rfl) (HO8.out.alloc _) ⟨w8.heap.size,0,none⟩ 1 [.string yn,.int .i64 v1,.int .i64 v2,.int .i64 v3,.slice eA l1 ea,.slice eB l2 eb,.slice eC l3 ec] p (by rfl) HX8.out (zAd w8 #[.string yn,.int .i64 v1,.int .i64 v2,.int .i64 v3,.slice eA l1 ea,.slice eB l2 eb,.slice eC l3 ec] _) (by rw[Hlen.out];unfold maxLen;omega) (by rw[Hlen.out];omega) (by simp;omega) (w8.heap.size+1) (by simp) ?_)
    intro g9 cap9 w9 hown9 hgrow9 hat9 hlt9
    have HB9:=cH (zAw (bal (bot hB.out HB8.out) _) hgrow9 (HO8.out.alloc _) (nR _))
    have Hown9:Hid (Own rPack w9 w6.heap.size 52 (.slice (some ⟨g9,0,none⟩) (k+1) cap9) (PS.take (k+1)) T):=by
     unfold Hid
     rw[Hnext.out]
     rw[show min k PS.length=k from by have:=HPl.out;omega] at hown9
     exact hown9
    rw[show min k PS.length=k from by have:=HPl.out;omega]
    clear hown9 hgrow9 hat9 hlt9 HX8 HO8 t0 t1 t2 t3 t4 t5 t6
    go_wp2_with fail
    go_roundw
    case rel=>exact ⟨k+1,g9,cap9,by omega,by omega,by go_num,by go_num,Hown9,HB9⟩
    case measure=>simp[intOf];omega
   have hkI:¬(k:Int)<(gn:Int):=by omega
   have hke:gn=k:=by omega
   subst hke
   have hrow:=(hB.out.block _ (aS.1 HGN.out).1).trans HGN.out
   have Hrow:=cH hrow
   have tc:=cO _ _ 0 _ _ _ hrow
   have tf:wr.frozen? ⟨GB,0,none⟩=false:=frozen_of_row _ _ 0 _ _ hrow
   have HF:Hid (∀ v,SolvP q w (.returned (.tuple #[.agg #[.slice gA gn gc],.slice (some ⟨g,0,none⟩) gn cap,.bool true])) (wr.setCell ⟨GB,0,none⟩ v)):=fun v=>by
    have h1:=zEa HGN.out Hsl6.out
    have h2:=h1.belowSize hB.out
    have h3:=hown.out.slv
    have hgb:=HGB.out
    rw[show PS.take gn=zCJ q.L ns by rw[List.take_of_length_le (by have:=HPl.out;omega),HPS.out]] at h3
    refine SolvP.yes Hs.out ((h2.keep fun b hb _=>heap_setCell_other wr ⟨GB,0,none⟩ b v (by exact hb.2)).more fun _ _ _=>trivial) ((h3.keep fun b hb _=>heap_setCell_other wr ⟨GB,0,none⟩ b v ?_).more fun _ _ _=>trivial) ((bot HBw6.out hB.out).setCell (p:=⟨GB,0,none⟩) hgb.1 _)
    show b≠GB
    have hGs:=(aS.1 HGN.out).1
    rcases hb with hb|hb
    ·have:=((HT.out b).1 hb).1;omega
    ·omega
   clear hrow
   go_wp2_with fail
   refine zCd rfl rfl rfl rfl rfl (zAX (o:=0) Hrow.out _) Tryz.underlying24 rfl (by kernel_rfl) (HF.out _)
noncomputable def psW (x:Wd) (ns:List Node):List Pack:=zCJ (catC x.packs) ns
structure SolF (x:Wd) (ns:List Node):Prop where
 len:ns.length≤1048576
 packs:zHY (psW x ns)
theorem zF7:zBR zAC:=⟨⟨nZ _,fun d hd=>by cases hd⟩,⟨nZ _,fun d hd=>by cases hd⟩,⟨nZ _,fun d hd=>by cases hd⟩⟩
theorem zKt {x:Wd} (hz:WdS x) {ns:List Node} (h:solS (qSol x)=some ns):SolF x ns:=by
 have hlen:ns.length≤40:=(zIj (q:=qSol x) (by show 1≤40;decide) h).len
 refine ⟨by omega,⟨by show (zCJ _ _).length≤_;rw[zFl];omega,fun y hy=>?_⟩⟩
 have hy:y∈zCJ (catC x.packs) ns:=hy
 cases ns with
 | nil=>cases hy
 | cons a l=>
   rcases List.mem_cons.1 hy with rfl|hy
   ·exact zF7
   ·obtain ⟨n,_,rfl⟩:=List.mem_map.1 hy
    cases hg:getC (catC x.packs) n.name n.ver with
    | none=>exact zF7
    | some p=>exact hz.1.2 p (zLI (zGu hg).1).1
def SolA (x:Wd) (w:World) (e:Ending) (w':World):Prop:=
 (∃ (gA pA:Option Addr) (gn gc pn pc:Nat) (b:Bool),e=.returned (.tuple #[.agg #[.slice gA gn gc],.slice pA pn pc,.bool b])∧(b=true→∃ ns,solS (qSol x)=some ns∧SolF x ns∧SlV rNode w' (fun _=>True) ns (.slice gA gn gc)∧SlV rPack w' (fun _=>True) (psW x ns) (.slice pA pn pc)))∧Below w.heap.size w w'
theorem zLa {x:Wd} {v:Value} {w:World} {S:Nat→Prop} (hv:WdV w S x v) (hz:WdS x) (W:World) (hW:Below w.heap.size w W):Calls Tryz.prog 16 #[v] W fun e w'=>SolA x W e w':=by
 obtain ⟨kA,kn,kc,mA,mn,mc,nA,nn,nc,lA,ln,lc,vA,vn,vc,oA,on,oc,rfl,h0,h1,h2,h3,h4,h5,_⟩:=hv
 refine (zJB kA mA nA lA vA oA kn kc mn mc nn nc ln lc vn vc on oc _ _ _ _ _ x W S (h0.belowSize hW) (h1.belowSize hW) (h2.belowSize hW) (h3.belowSize hW) (h4.belowSize hW) hz).mono ?_
 rintro e w' ⟨⟨gA,pA,gn,gc,pn,pc,b,rfl,hc⟩,hb⟩
 refine ⟨⟨gA,pA,gn,gc,pn,pc,b,rfl,fun ht=>?_⟩,hb⟩
 rcases hc with ⟨hf,_⟩|⟨ns,_,hs,g1,g2⟩
 ·rw[ht] at hf;cases hf
 ·exact ⟨ns,hs,zKt hz hs,g1,g2⟩
theorem zMn {x:Wd} (h:bkWd x≤1048576):WdZ x∧WdS x:=by
 have e:bkWd x=1+bkL zCQ x.packs+zF2 x.man+1+1+(1+bkL bkDir x.old)+1:=rfl
 have e2:zF2 x.man=1+bkL bkDep x.man.deps+bkL bkDep x.man.dev+bkL bkDep x.man.opts+bkL bkDep x.man.over:=rfl
 have n1:=zDb (bk:=bkDep) (l:=x.man.deps) fun x=>by unfold bkDep;omega
 have n2:=zDb (bk:=bkDep) (l:=x.man.dev) fun x=>by unfold bkDep;omega
 have n3:=zDb (bk:=bkDep) (l:=x.man.opts) fun x=>by unfold bkDep;omega
 exact ⟨zM4 h,zIN (nR _) (by omega),by omega,by omega,by omega⟩
theorem zFz {w w':World} {b:Nat} {cs:Array Value} {t:TypeId} (h:w.heap[b]?=some (.cells cs t (0,0))) (hb:Below w.heap.size w w'):w'.heap[b]?=some (.cells cs t (0,0)):=(hb.block _ (aS.1 h).1).trans h
theorem zJc {w0 w2:World} (hb:Below (w0.alloc (Obj.cells #[.slice none 0 0] 33)).drew.heap.size (w0.alloc (Obj.cells #[.slice none 0 0] 33)).drew w2):w2.heap[w0.heap.size]?=some (.cells #[.slice none 0 0] 33 (0,0))∧w2.cell? ⟨w0.heap.size,0,none⟩=some (.slice none 0 0)∧w2.frozen? ⟨w0.heap.size,0,none⟩=false:=by
 have h:w2.heap[w0.heap.size]?=some (.cells #[.slice none 0 0] 33 (0,0)):=(hb.block _ (by show w0.heap.size<(w0.alloc (.cells #[.slice none 0 0] 33)).heap.size;simp)).trans (zAD w0 _)
 exact ⟨h,cO _ _ 0 _ _ _ h,frozen_of_row _ _ 0 _ _ h⟩
theorem zLd {w2 w3:World} (hb:Below (w2.alloc (Obj.cells #[.slice none 0 0] 33)).heap.size (w2.alloc (Obj.cells #[.slice none 0 0] 33)) w3):w3.heap[w2.heap.size]?=some (.cells #[.slice none 0 0] 33 (0,0))∧w3.cell? ⟨w2.heap.size,0,none⟩=some (.slice none 0 0)∧w3.frozen? ⟨w2.heap.size,0,none⟩=false:=by
 have h:w3.heap[w2.heap.size]?=some (.cells #[.slice none 0 0] 33 (0,0)):=(hb.block _ (by simp)).trans (zAD w2 _)
 exact ⟨h,cO _ _ 0 _ _ _ h,frozen_of_row _ _ 0 _ _ h⟩
theorem zLO {w2 w3:World} {B:Nat} {v u:Value} (hb:Below w2.heap.size w2 w3) (hr:w2.heap[B]?=some (.cells #[v] 33 (0,0))) (h:w2.cell? ⟨B,0,none⟩=some u) (f:w2.frozen? ⟨B,0,none⟩=false):w3.heap[B]?=some (.cells #[v] 33 (0,0))∧w3.cell? ⟨B,0,none⟩=some u∧w3.frozen? ⟨B,0,none⟩=false:=
 ⟨zFz hr hb,zAA hb h (zAf h),(zIf (hb.block _ (zAf h)) _ _).trans f⟩
theorem zLj {w0 w3:World} {A:Option Addr} {n c N:Nat} {R1:List Dir} (hB:Below w0.heap.size w0 w3) (hrv:SlV rDir w3 (fun b=>N≤b) R1 (.slice A n c)) (hN:w0.heap.size≤N) :
  Below w0.heap.size w0 (w3.alloc (.cells #[.slice A n c] 33))∧(w3.alloc (.cells #[.slice A n c] 33)).heap[w3.heap.size]?=some (.cells #[.slice A n c] 33 (0,0))∧w0.heap.size≤w3.heap.size∧SlV rDir (w3.alloc (.cells #[.slice A n c] 33)) (fun b=>w0.heap.size≤b∧b≠w3.heap.size) R1 (.slice A n c):=
 ⟨bal hB _,zAD w3 _,hB.size,(hrv.more (S':=fun b=>w0.heap.size≤b∧b≠w3.heap.size) fun b hb hl=>⟨nT hN hb,Nat.ne_of_lt hl⟩).alloc _⟩
theorem zIl {w0 w3:World} {TB N:Nat} {A:Option Addr} {n c:Nat} {u:Value} {R1:List Dir} (hB:Below w0.heap.size w0 w3) (hz:w0.heap.size≤TB) (hT:w3.heap[TB]?=some (.cells #[u] 33 (0,0))) (hrv:SlV rDir w3 (fun b=>N≤b) R1 (.slice A n c)) (hw:w0.heap.size≤N) (hN:TB<N) :
  Below w0.heap.size w0 (w3.setCell ⟨TB,0,none⟩ (.slice A n c))∧(w3.setCell ⟨TB,0,none⟩ (.slice A n c)).heap[TB]?=some (.cells #[.slice A n c] 33 (0,0))∧w0.heap.size≤TB∧SlV rDir (w3.setCell ⟨TB,0,none⟩ (.slice A n c)) (fun b=>w0.heap.size≤b∧b≠TB) R1 (.slice A n c):=
 ⟨hB.setCell hz _,zAX hT _,hz,(hrv.keep fun b hb _=>heap_setCell_other w3 ⟨TB,0,none⟩ b _ (by show b≠TB;omega)).more fun b hb _=>⟨by omega,by omega⟩⟩
theorem zFH (x:Wd) (v:Value) (w:World) (S:Nat→Prop) (ht:Tab w) (hv:WdV w S x v) (hxz:WdZ x∧WdS x) :
  Calls Tryz.prog 4 #[v] w fun e w'=>e=.returned (.bool true)∧Below w.heap.size w w':=by
 have HSol:=cH (zLa hv hxz.2)
 obtain ⟨kA,kn,kc,mA,mn,mc,nA,nn,nc,lA,ln,lc,vA,vn,vc,oA,on,oc,rfl,_,_,_,_,_,h5,hi0,hi1,hi2,hi3⟩:=hv
 have HOld:Hid (∀ W,Below w.heap.size w W→Calls Tryz.prog 12 #[.agg #[.slice kA kn kc,.slice mA mn mc,.slice nA nn nc,.slice lA ln lc,.slice vA vn vc,.bool x.dev,.int .i64 x.lim.dec,.int .i64 x.lim.nod,.int .i64 x.lim.dirs,.int .i64 x.lim.path,.slice oA on oc,.bool x.like]] W fun e w'=>∃ p,e=.returned (.pointer p)∧OldV w' (fun b=>b<w'.heap.size) (.pointer p) (if x.like=true then some x.old else none)∧Below W.heap.size W w'):=fun W hW=>
  (zMF kA mA nA lA vA kn kc mn mc nn nc ln lc vn vc x.dev x.lim.dec x.lim.nod x.lim.dirs x.lim.path oA on oc x.like x.old W S (h5.belowSize hW) hxz.1).mono fun e w' ⟨ov,h1,h2,h3⟩=>by
    obtain ⟨p,rfl⟩:=h2.ptr
    exact ⟨p,h1,h2,h3⟩
 have HLv:Hid (∀ W,Below w.heap.size w W→Calls Tryz.prog 15 #[] W fun e w'=>e=.returned (.bool true)∧Below W.heap.size W w'):=fun W hW=>zKV W (zAY ht hW)
 have HT:=cH ht
 have Hi:Hid (I64 x.lim.dirs∧I64 x.lim.path):=⟨hi2,hi3⟩
 have Hxz:=cH hxz
 have HO5:=cH (h5.more (S':=fun _=>True) fun _ _ _=>trivial)
 clear ht h5 hi0 hi1 hi2 hi3 hxz
 obtain ⟨ldec,hdec⟩:∃ k,k=x.lim.dec:=⟨_,rfl⟩
 obtain ⟨lnod,hnod⟩:∃ k,k=x.lim.nod:=⟨_,rfl⟩
 obtain ⟨ldirs,hdirs⟩:∃ k,k=x.lim.dirs:=⟨_,rfl⟩
 obtain ⟨lpath,hpath⟩:∃ k,k=x.lim.path:=⟨_,rfl⟩
 obtain ⟨xdev,hdev⟩:∃ k,k=x.dev:=⟨_,rfl⟩
 obtain ⟨xlike,hlike⟩:∃ k,k=x.like:=⟨_,rfl⟩
 rw[←hdec,←hnod,←hdirs,←hpath,←hdev,←hlike] at HSol HOld ⊢
 have Hlim:Hid (x.lim.dec=ldec∧x.lim.nod=lnod∧x.lim.dirs=ldirs∧x.lim.path=lpath∧x.like=xlike):=⟨hdec.symm,hnod.symm,hdirs.symm,hpath.symm,hlike.symm⟩
 clear hdec hnod hdirs hpath hdev hlike
 obtain ⟨w0,hw0⟩:∃ w0,w0=w.alloc (.cells #[.slice kA kn kc,.slice mA mn mc,.slice nA nn nc,.slice lA ln lc,.slice vA vn vc,.bool xdev,.int .i64 ldec,.int .i64 lnod,.int .i64 ldirs,.int .i64 lpath,.slice oA on oc,.bool xlike] 35):=⟨_,rfl⟩
 have HB0:Hid (Below w.heap.size w w0):=by unfold Hid;rw[hw0];exact bal (bR _ _) _
 have hqW:w0.heap[w.heap.size]?=some (.cells #[.slice kA kn kc,.slice mA mn mc,.slice nA nn nc,.slice lA ln lc,.slice vA vn vc,.bool xdev,.int .i64 ldec,.int .i64 lnod,.int .i64 ldirs,.int .i64 lpath,.slice oA on oc,.bool xlike] 35 (0,0)):=by rw[hw0];exact zAD _ _
 obtain ⟨QB,hQB⟩:∃ k,k=w.heap.size:=⟨_,rfl⟩
 rw[←hQB] at hqW
 go_enter Tryz.func4,Tryz.ntmps4
 go_upto_region 1 with (fail)
 rw[←hw0,←hQB]
 clear hw0 hQB
 have HqW:=cH hqW
 have d0:=cO _ _ 0 _ _ _ hqW
 have d1:=cO _ _ 1 _ _ _ hqW
 have d2:=cO _ _ 2 _ _ _ hqW
 have d3:=cO _ _ 3 _ _ _ hqW
 have d4:=cO _ _ 4 _ _ _ hqW
 have d5:=cO _ _ 5 _ _ _ hqW
 have d6:=cO _ _ 6 _ _ _ hqW
 have d7:=cO _ _ 7 _ _ _ hqW
 have d8:=cO _ _ 8 _ _ _ hqW
 have d9:=cO _ _ 9 _ _ _ hqW
 have d10:=cO _ _ 10 _ _ _ hqW
 have d11:=cO _ _ 11 _ _ _ hqW
 clear hqW
 go_wp2_with fail
 refine (HSol.out w0 HB0.out).mono ?_
 rintro e w1 ⟨⟨gA,pA,gn,gc,pn,pc,b,rfl,hc⟩,hb1⟩
 have HB1:=cH (bot HB0.out hb1)
 have Hc:=cH hc
 have Hq1:=cH (zFz HqW.out hb1)
 clear hb1 hc d0 d1 d2 d3 d4 d5 d6 d7 d8 d9 d10 d11 HB0 HqW HSol
 go_upto_region 2 with (fail)
 obtain ⟨w2,hw2⟩:∃ w2,w2=w1.alloc (.cells #[.slice gA gn gc] 24):=⟨_,rfl⟩
 have HB2:Hid (Below w.heap.size w w2):=by unfold Hid;rw[hw2];exact bal HB1.out _
 have hqG:w2.heap[w1.heap.size]?=some (.cells #[.slice gA gn gc] 24 (0,0)):=by rw[hw2];exact zAD _ _
 have hqW:w2.heap[QB]?=some (.cells #[.slice kA kn kc,.slice mA mn mc,.slice nA nn nc,.slice lA ln lc,.slice vA vn vc,.bool xdev,.int .i64 ldec,.int .i64 lnod,.int .i64 ldirs,.int .i64 lpath,.slice oA on oc,.bool xlike] 35 (0,0)):=by rw[hw2];exact zFz Hq1.out (bal (bR _ _) _)
 obtain ⟨GB,hGB⟩:∃ k,k=w1.heap.size:=⟨_,rfl⟩
 rw[←hGB] at hqG
 have HqG:=cH hqG
 have HqW:=cH hqW
 have Hns:Hid (b=true→∃ ns,solS (qSol x)=some ns∧SolF x ns∧SlV rNode w2 (fun _=>True) ns (.slice gA gn gc)∧SlV rPack w2 (fun _=>True) (psW x ns) (.slice pA pn pc)):=fun hb=>by
  obtain ⟨ns,g1,g2,g3,g4⟩:=Hc.out hb
  exact ⟨ns,g1,g2,by rw[hw2];exact g3.alloc _,by rw[hw2];exact g4.alloc _⟩
 rw[←hw2,←hGB]
 clear hw2 hqG hqW hGB Hc Hq1 HB1
 cases b with
 | false=>
   clear Hns
   go_wp2_with fail
   refine (HLv.out w2 HB2.out).mono ?_
   rintro e w3 ⟨rfl,hb3⟩
   have HB3:=cH (bot HB2.out hb3)
   clear hb3
   go_wp2_with fail
   go_ret
   exact ⟨rfl,HB3.out⟩
 | true=>
 obtain ⟨ns,hs,hf,hg,hp⟩:=Hns.out rfl
 have HG:=cH hg
 have HP:=cH hp
 have Hf:=cH hf
 have Hs:=cH hs
 clear hs hf hg hp Hns
 have Hcell:Hid (∀ W,Below w2.heap.size w2 W→W.cell? ⟨GB,0,none⟩=some (.slice gA gn gc)∧W.cell? ⟨QB,0,none⟩=some (.slice kA kn kc)∧W.cell? ⟨QB,1,none⟩=some (.slice mA mn mc)∧W.cell? ⟨QB,2,none⟩=some (.slice nA nn nc)∧W.cell? ⟨QB,3,none⟩=some (.slice lA ln lc)∧W.cell? ⟨QB,4,none⟩=some (.slice vA vn vc)∧W.cell? ⟨QB,5,none⟩=some (.bool xdev)∧W.cell? ⟨QB,6,none⟩=some (.int .i64 ldec)∧W.cell? ⟨QB,7,none⟩=some (.int .i64 lnod)∧W.cell? ⟨QB,8,none⟩=some (.int .i64 ldirs)∧W.cell? ⟨QB,9,none⟩=some (.int .i64 lpath)∧W.cell? ⟨QB,10,none⟩=some (.slice oA on oc)∧W.cell? ⟨QB,11,none⟩=some (.bool xlike)):=fun W hW=>by
  have h1:=zFz HqG.out hW
  have h2:=zFz HqW.out hW
  exact ⟨cO _ _ 0 _ _ _ h1,cO _ _ 0 _ _ _ h2,cO _ _ 1 _ _ _ h2,cO _ _ 2 _ _ _ h2,cO _ _ 3 _ _ _ h2,cO _ _ 4 _ _ _ h2,cO _ _ 5 _ _ _ h2,cO _ _ 6 _ _ _ h2,cO _ _ 7 _ _ _ h2,cO _ _ 8 _ _ _ h2,cO _ _ 9 _ _ _ h2,cO _ _ 10 _ _ _ h2,cO _ _ 11 _ _ _ h2⟩
 have HRun:Hid (∀ W,Below w2.heap.size w2 W→∀ p:Option Addr,OldV W (fun b=>b<W.heap.size) (.pointer p) (if xlike=true then some x.old else none)→Calls Tryz.prog 11 #[.agg #[.slice gA gn gc],.slice pA pn pc,.agg #[.int .i64 ldec,.int .i64 lnod,.int .i64 ldirs,.int .i64 lpath],.pointer p] W fun e w'=>
   (∃ A n c,e=.returned (.tuple #[.agg #[.slice A n c],.int .i64 (zAy (qW ns (psW x ns) x)).2])∧SlV rDir w' (fun b=>W.heap.size≤b) (zAy (qW ns (psW x ns) x)).1 (.slice A n c))∧Below W.heap.size W w'):=fun W hW p ho=>by
  have h:=zLs (x:=x) (zAY HT.out HB2.out) HG.out HP.out Hf.out.len Hf.out.packs Hi.out W hW p (by rw[show (qW ns (psW x ns) x).old=if x.like=true then some x.old else none from rfl,Hlim.out.2.2.2.2];exact ho)
  rw[Hlim.out.1,Hlim.out.2.1,Hlim.out.2.2.1,Hlim.out.2.2.2.1] at h
  exact h
 have HRef:Hid (∀ W,Below w2.heap.size w2 W→Calls Tryz.prog 13 #[.agg #[.slice gA gn gc],.slice pA pn pc,.agg #[.int .i64 ldec,.int .i64 lnod,.int .i64 ldirs,.int .i64 lpath],.agg #[.slice oA on oc],.bool xlike] W fun e w'=>
   (∃ A n c,e=.returned (.tuple #[.agg #[.slice A n c],.int .i64 (zAy (qW ns (psW x ns) x)).2])∧SlV rDir w' (fun _=>True) (zAy (qW ns (psW x ns) x)).1 (.slice A n c))∧Below W.heap.size W w'):=fun W hW=>by
  have h:=zIV (x:=x) (zAY HT.out HB2.out) HG.out HP.out Hf.out.len Hf.out.packs Hi.out (HO5.out.belowSize HB2.out) Hxz.out.1 W hW
  rw[Hlim.out.1,Hlim.out.2.1,Hlim.out.2.2.1,Hlim.out.2.2.2.1,Hlim.out.2.2.2.2] at h
  exact h
 have HAl:Hid (∀ W A n c B m d (T U:Nat→Prop),SlV rDir W T (zAy (qW ns (psW x ns) x)).1 (.slice A n c)→SlV rDir W U (zAy (qW ns (psW x ns) x)).1 (.slice B m d)→Calls Tryz.prog 14 #[.agg #[.slice A n c],.agg #[.slice B m d]] W fun e w'=>e=.returned (.bool true)∧Below W.heap.size W w'):=fun W A n c B m d T U h1 h2=>by
  have:=zK4 A B n c m d _ _ W T U h1 h2
  rwa [zAP rfl] at this
 generalize hRR:zAy (qW ns (psW x ns) x)=RR at *
 obtain ⟨R1,R2⟩:=RR
 have HRR:=cH hRR
 clear hRR
 have hcell0:=Hcell.out w2 (bR _ _)
 go_upto_region 4 with (fail)
 go_cut [6,7] from 20 to 29 (fun v7 v8 wx=>∃ (TB:Nat) (A:Option Addr) (n c:Nat),v7=.pointer (some ⟨TB,0,none⟩)∧v8=.int .i64 R2∧Hid (Below w2.heap.size w2 wx∧wx.heap[TB]?=some (.cells #[.slice A n c] 33 (0,0))∧w2.heap.size≤TB∧SlV rDir wx (fun b=>w2.heap.size≤b∧b≠TB) R1 (.slice A n c)))
 case first=>
  go_region_held3 (fun W=>(W.cell? ⟨GB,0,none⟩=some (.slice gA gn gc)∧W.cell? ⟨QB,0,none⟩=some (.slice kA kn kc)∧W.cell? ⟨QB,1,none⟩=some (.slice mA mn mc)∧W.cell? ⟨QB,2,none⟩=some (.slice nA nn nc)∧W.cell? ⟨QB,3,none⟩=some (.slice lA ln lc)∧W.cell? ⟨QB,4,none⟩=some (.slice vA vn vc)∧W.cell? ⟨QB,5,none⟩=some (.bool xdev)∧W.cell? ⟨QB,6,none⟩=some (.int .i64 ldec)∧W.cell? ⟨QB,7,none⟩=some (.int .i64 lnod)∧W.cell? ⟨QB,8,none⟩=some (.int .i64 ldirs)∧W.cell? ⟨QB,9,none⟩=some (.int .i64 lpath)∧W.cell? ⟨QB,10,none⟩=some (.slice oA on oc)∧W.cell? ⟨QB,11,none⟩=some (.bool xlike))∧Below w2.heap.size w2 W)
   (first
     | (with_reducible exact ⟨hcell0,(bR _ _).drew⟩)
     | (with_reducible exact ⟨Hcell.out _ (bR _ _).drew,(bR _ _).drew⟩)
     | (with_reducible exact ⟨Hcell.out _ hB3,hB3⟩)
     | (with_reducible exact ⟨Hcell.out _ hB2,hB2⟩)
     | (with_reducible exact ⟨Hcell.out _ (bal hB3 _),bal hB3 _⟩)
     | (with_reducible exact ⟨Hcell.out _ (bal hB2 _),bal hB2 _⟩)
     | (with_reducible exact ⟨Hcell.out _ (bal (bR _ _).drew _),bal (bR _ _).drew _⟩)
     | (with_reducible exact ⟨Hcell.out _ ((bal hB3 _).setCell hz3 _),(bal hB3 _).setCell hz3 _⟩)
     | (with_reducible exact ⟨Hcell.out _ (hB3.setCell hz2 _),hB3.setCell hz2 _⟩)
     | (with_reducible exact ⟨Hcell.out _ (hB3.setCell (nR _) _),hB3.setCell (nR _) _⟩)
     | fail)
   (first
     | (go_at_call 12;go_split_ands;with_reducible refine (HOld.out _ (bot HB2.out (by assumption))).mono ?_;rintro e w4 ⟨op,rfl,hov,hb2⟩;have hB2:Below w2.heap.size w2 w4:=bot (by assumption) hb2;have hz2:=hB2.size;(try (have hT:=zJc hb2;obtain ⟨hR2,hT2,fT2⟩:=hT)))
     | (go_at_call 11;go_split_ands;with_reducible refine (HRun.out _ (by assumption) _ (by first|assumption|exact (hov.keep (bal (bR _ _) _)).wide)).mono ?_;rintro e w5 ⟨⟨A,n,c,rfl,hrv⟩,hb3⟩;have hB3:Below w2.heap.size w2 w5:=bot (by assumption) hb3;have hz3:=hB3.size;(first|(have hT:=zLd hb3;obtain ⟨hR3,hT3,fT3⟩:=hT)|(have hT:=zLO hb3 hR2 hT2 fT2;obtain ⟨hR3,hT3,fT3⟩:=hT)|skip)))
  all_goals
   go_wp2_with fail
   go_meet
   first
    | exact ⟨_,_,_,_,rfl,rfl,zLj hB3 hrv hz2⟩
    | exact ⟨_,_,_,_,rfl,rfl,zIl hB3 hz2 hR3 hrv (by simp;omega) (by simp)⟩
    | exact ⟨_,_,_,_,rfl,rfl,zIl hB3 (nR _) hR3 hrv hz2 (zAf hT2)⟩
 case rest=>
 obtain ⟨TB,A,n,c,rfl,rfl,HN⟩:=hcut
 generalize wc=w3 at *
 have HB3:=cH HN.out.1
 clear hcell0
 obtain ⟨c0,d0,d1,d2,d3,d4,d5,d6,d7,d8,d9,d10,d11⟩:=Hcell.out w3 HB3.out
 clear HRun HOld
 go_wp2_with fail
 refine (HRef.out w3 HB3.out).mono ?_
 rintro e w4 ⟨⟨B,m,d,rfl,hsl⟩,hb4⟩
 have HS4:=cH hsl
 have HB4:=cH hb4
 clear hsl hb4 c0 d0 d1 d2 d3 d4 d5 d6 d7 d8 d9 d10 d11 HRef Hcell
 go_upto_region 6 with (fail)
 obtain ⟨w5,hw5⟩:∃ w5,w5=w4.alloc (.cells #[.slice B m d] 33):=⟨_,rfl⟩
 have HB5:Hid (Below w3.heap.size w3 w5):=by unfold Hid;rw[hw5];exact bal HB4.out _
 have q1:w5.cell? ⟨TB,0,none⟩=some (.slice A n c):=cO _ _ 0 _ _ _ (zFz HN.out.2.1 HB5.out)
 have q2:w5.cell? ⟨w4.heap.size,0,none⟩=some (.slice B m d):=by rw[hw5];exact cO _ _ 0 _ _ _ (zAD w4 _)
 have HS5:Hid (SlV rDir w5 (fun _=>True) R1 (.slice B m d)):=by unfold Hid;rw[hw5];exact HS4.out.alloc _
 have HT5:=cH (HN.out.2.2.2.belowSize HB5.out)
 have HBa:=cH (bot HB2.out (bot HB3.out HB5.out))
 rw[←hw5]
 clear hw5 HS4 HB4 HN HB3 HB5 HB2
 go_wp2_with fail
 refine (HAl.out w5 A n c B m d _ _ HT5.out HS5.out).mono ?_
 rintro e w6 ⟨rfl,hb6⟩
 have HB6:=cH (bot HBa.out hb6)
 clear hb6 HAl HT5 HS5 q1 q2 HBa
 have hRR:(R2==R2)=true:=by simp
 go_wp2_with fail
 refine (HLv.out w6 HB6.out).mono ?_
 rintro e w7 ⟨rfl,hb7⟩
 have HB7:=cH (bot HB6.out hb7)
 clear hb7 HLv
 go_wp2_with fail
 go_ret
 exact ⟨rfl,HB7.out⟩
