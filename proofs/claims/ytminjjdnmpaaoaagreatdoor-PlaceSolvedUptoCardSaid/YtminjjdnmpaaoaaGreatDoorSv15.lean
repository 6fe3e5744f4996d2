/- The program's placer: do names rise: walked. -/
import Derived.Test.YtminjjdnmpaaoaaGreatDoorSv14
import Derived.Test.YtminjjdnmpaaoaaGreatDoorSv04
import Derived.Test.YtminjjdnmpaaoaaGreatDoorSv08
import Derived.Deep.CutRange
import Derived.Deep.RegionLaw
import Derived.Deep.RegionHeld3
import Derived.Test.YtminjjdnmpaaoaaGreatDoorAl
set_option linter.all false
set_option maxHeartbeats 6400000
set_option maxRecDepth 100000
namespace Go.Proofs.YtminjjdnmpaaoaaGreatDoor
open Go.Rows Go.RowKit Go.Shelf Go.Sort
theorem zAc {a b:Bool} (h:a=b):Ending.returned (.bool a)=.returned (.bool b):=by rw[h]
theorem zEr (x:Pin) (w:World) :
  Calls Tryz.prog 73 #[.agg #[.string x.name,.int .i64 x.ver.major,.int .i64 x.ver.minor,.int .i64 x.ver.patch]] w fun e w'=>e=.returned (.string x.name)∧Below w.heap.size w w':=by
 have HB:=fun o=>cH (bal (bR w.heap.size w) o)
 go_enter Tryz.func73,Tryz.ntmps73
 go_wp2_with fail
 go_ret
 exact ⟨rfl,(HB _).out⟩
theorem zFU:zC2 Tryz.prog 73:=zCG Tryz.func73 (by kernel_rfl) rfl
theorem zEb (x:Edge) (w:World) :
  Calls Tryz.prog 75 #[.agg #[.string x.label,.int .i64 x.to]] w fun e w'=>e=.returned (.string x.label)∧Below w.heap.size w w':=by
 have HB:=fun o=>cH (bal (bR w.heap.size w) o)
 go_enter Tryz.func75,Tryz.ntmps75
 go_wp2_with fail
 go_ret
 exact ⟨rfl,(HB _).out⟩
theorem zFV:zC2 Tryz.prog 75:=zCG Tryz.func75 (by kernel_rfl) rfl
theorem zHi (A:Option Addr) (n c:Nat) (xs:List Pin) (w:World) (S:Nat→Prop) (hx:SlV rPin w S xs (.slice A n c)) :
  Calls Tryz.prog 72 #[.slice A n c,.func (.func 73) #[] #[]] w fun e w'=>e=.returned (.bool (zAJ none (zAG xs)))∧Below w.heap.size w w':=by
 have hnx:=hx.n_eq
 have hcx:=hx.cap_le
 unfold maxLen at hcx
 have hn63:n≤9223372036854775807:=by omega
 have hx':=cH hx
 have HR:Hid (zAJ none (zAG xs)=zAJ (zA4 (zAG xs) 0) ((zAG xs).drop 0)):=rfl
 have Hln:Hid ((zAG xs).length=n):=by unfold Hid zAG;rw[List.length_map,hnx]
 have Hnx:=cH hnx
 have hent:=fun args W=>zFU args W
 have hentN:=fun (args:Array Value) (W:World)=>hent args W
 clear hcx hx hnx
 generalize hR:zAJ none (zAG xs)=R at *
 clear hR
 go_enter Tryz.func72,Tryz.ntmps72
 go_wp2_with fail
 go_loopw [8] (fun i wr=>∃ k:Nat,k≤n∧i=.int .i64 k∧Hid (R=zAJ (zA4 (zAG xs) k) ((zAG xs).drop k))∧Below w.heap.size w wr) (fun i _=>n - (intOf i).toNat)
 case atStart=>exact ⟨0,nZ _,rfl,HR,bR _ _⟩
 case round=>
  obtain ⟨k,hk,rfl,Hm,hbel⟩:=hrel
  have HB:=cH hbel
  clear hbel
  have hk0:(0:Int)≤(k:Int):=by omega
  by_cases hlt:k<n
  case neg=>
   have hI:¬(k:Int)<(n:Int):=by omega
   have Hr:Hid (R=true):=by unfold Hid;rw[Hm.out,zCP (by rw[Hln.out];omega)]
   clear Hm
   go_wp2_with fail
   go_ret
   exact ⟨zAc Hr.out.symm,HB.out⟩
  have hkI:(k:Int)<(n:Int):=by omega
  obtain ⟨x,hx⟩:∃ x,xs[k]?=some x:=⟨_,gE (by have:=Hnx.out;omega)⟩
  obtain ⟨b,o,cs,rfl,_,hb1,hh,hcell⟩:=(hx'.out.belowSize HB.out).elem hx
  obtain ⟨rfl,hnm,_⟩:=hh
  have c0:=hcell 0 _ rfl
  have c1:=hcell 1 _ rfl
  have c2:=hcell 2 _ rfl
  have c3:=hcell 3 _ rfl
  simp only[rPin,Nat.add_zero] at c0 c1 c2 c3
  have hs:(zAG xs)[k]?=some x.name:=by unfold zAG;rw[List.getElem?_map,hx];rfl
  have Hst:=cH (Hm.out.trans (zCR hs))
  have Hc:=cH (qcall (w:=wr) (fun W hW=>zEr x W))
  have Hnm:=cH (qcall (w:=wr) (fun W hW=>zBg x.name hnm W))
  clear Hm hcell hnm hs
  cases hnb:nameB x.name with
  | false=>
    have Hr:Hid (R=false):=by unfold Hid;rw[Hst.out,hnb];rfl
    rw[hnb] at Hnm
    clear Hst hnb
    have r_c0:=cR c0
    have r_c1:=cR c1
    have r_c2:=cR c2
    have r_c3:=cR c3
    go_wp2_with fail
    refine wQ ?_
    repeat (go_big_quiet_step (first|(with_reducible exact Hc.out _ _)|(with_reducible exact Hnm.out _ _)))
    refine wpQuiet_nil fun w4 B4=>?_
    have HB4:=cH (bot HB.out B4)
    go_wp2_with fail
    go_ret
    exact ⟨zAc Hr.out.symm,HB4.out⟩
  | true=>
  rw[hnb] at Hnm
  by_cases hk00:k=0
  case pos=>
   have Hnx2:Hid (R=zAJ (zA4 (zAG xs) (k+1)) ((zAG xs).drop (k+1))):=by unfold Hid;rw[Hst.out,hnb,show zA4 (zAG xs) k=none by rw[hk00];rfl];rfl
   have hng:¬(0:Int)<(k:Int):=by omega
   have hngd:decide (0<k)=false:=decide_eq_false (by omega)
   clear Hst hnb hk00
   have r_c0:=cR c0
   have r_c1:=cR c1
   have r_c2:=cR c2
   have r_c3:=cR c3
   go_wp2_with fail
   refine wQ ?_
   repeat (go_big_quiet_step (first|(with_reducible exact Hc.out _ _)|(with_reducible exact Hnm.out _ _)))
   refine wpQuiet_nil fun w4 B4=>?_
   have HB4:=cH (bot HB.out B4)
   go_wp2_with fail
   go_roundw
   case rel=>exact ⟨k+1,by omega,by go_num,Hnx2,HB4.out⟩
   case measure=>simp[intOf];omega
  case neg=>
   obtain ⟨j,rfl⟩:∃ j,k=j+1:=⟨k - 1,by omega⟩
   clear hk00
   obtain ⟨y,hy⟩:∃ y,xs[j]?=some y:=⟨_,gE (by have:=Hnx.out;omega)⟩
   obtain ⟨b2,o2,cs2,hA2,_,_,hh2,hcell2⟩:=(hx'.out.belowSize HB.out).elem hy
   obtain ⟨rfl,_⟩:=hh2
   injection hA2 with hA2
   injection hA2 with hb2 ho2 _
   subst hb2 ho2
   have d0:=hcell2 0 _ rfl
   have d1:=hcell2 1 _ rfl
   have d2:=hcell2 2 _ rfl
   have d3:=hcell2 3 _ rfl
   simp only[rPin,Nat.add_zero] at d0 d1 d2 d3
   have hpv:zA4 (zAG xs) (j+1)=some y.name:=by show (zAG xs)[j]?=_;unfold zAG;rw[List.getElem?_map,hy];rfl
   have Hc1:=cH (qcall (w:=wr) (fun W hW=>zEr y W))
   have hwj:IntKind.i64.wrap (((j+1:Nat):Int) - 1)=(j:Int):=by rw[IntWalk.i64_in _ ⟨by omega,by omega⟩];omega
   have hgt:(0:Int)<((j+1:Nat):Int):=by omega
   have hj0:(0:Int)≤(j:Int):=by omega
   have hjn:(j:Int)<(n:Int):=by omega
   have Hls:Hid (behind (some y.name) x.name=Op.bytesLess y.name.toList x.name.toList):=rfl
   rw[hpv,hnb,Hls.out,Bool.true_and] at Hst
   clear hpv hcell2 hy hnb Hls
   cases hls:Op.bytesLess y.name.toList x.name.toList with
   | true=>
     have Hnx2:Hid (R=zAJ (zA4 (zAG xs) (j+1+1)) ((zAG xs).drop (j+1+1))):=by unfold Hid;rw[Hst.out,hls,Bool.true_and]
     clear Hst
     have r_c0:=cR c0
     have r_c1:=cR c1
     have r_c2:=cR c2
     have r_c3:=cR c3
     have r_d0:=cR d0
     have r_d1:=cR d1
     have r_d2:=cR d2
     have r_d3:=cR d3
     go_wp2_with fail
     refine wQ ?_
     repeat (go_big_quiet_step (first|(with_reducible exact Hc.out _ _)|(with_reducible exact Hc1.out _ _)|(with_reducible exact Hnm.out _ _)))
     refine wpQuiet_nil fun w4 B4=>?_
     have HB4:=cH (bot HB.out B4)
     go_wp2_with fail
     go_roundw
     case rel=>exact ⟨j+1+1,by omega,by go_num,Hnx2,HB4.out⟩
     case measure=>simp[intOf];omega
   | false=>
     have Hr:Hid (R=false):=by unfold Hid;rw[Hst.out,hls];rfl
     clear Hst
     have r_c0:=cR c0
     have r_c1:=cR c1
     have r_c2:=cR c2
     have r_c3:=cR c3
     have r_d0:=cR d0
     have r_d1:=cR d1
     have r_d2:=cR d2
     have r_d3:=cR d3
     go_wp2_with fail
     refine wQ ?_
     repeat (go_big_quiet_step (first|(with_reducible exact Hc.out _ _)|(with_reducible exact Hc1.out _ _)|(with_reducible exact Hnm.out _ _)))
     refine wpQuiet_nil fun w4 B4=>?_
     have HB4:=cH (bot HB.out B4)
     go_wp2_with fail
     go_ret
     exact ⟨zAc Hr.out.symm,HB4.out⟩
theorem zHX (A:Option Addr) (n c:Nat) (xs:List Edge) (w:World) (S:Nat→Prop) (hx:SlV rEdge w S xs (.slice A n c)) :
  Calls Tryz.prog 74 #[.slice A n c,.func (.func 75) #[] #[]] w fun e w'=>e=.returned (.bool (zAJ none (zAF xs)))∧Below w.heap.size w w':=by
 have hnx:=hx.n_eq
 have hcx:=hx.cap_le
 unfold maxLen at hcx
 have hn63:n≤9223372036854775807:=by omega
 have hx':=cH hx
 have HR:Hid (zAJ none (zAF xs)=zAJ (zA4 (zAF xs) 0) ((zAF xs).drop 0)):=rfl
 have Hln:Hid ((zAF xs).length=n):=by unfold Hid zAF;rw[List.length_map,hnx]
 have Hnx:=cH hnx
 have hent:=fun args W=>zFV args W
 have hentN:=fun (args:Array Value) (W:World)=>hent args W
 clear hcx hx hnx
 generalize hR:zAJ none (zAF xs)=R at *
 clear hR
 go_enter Tryz.func74,Tryz.ntmps74
 go_wp2_with fail
 go_loopw [8] (fun i wr=>∃ k:Nat,k≤n∧i=.int .i64 k∧Hid (R=zAJ (zA4 (zAF xs) k) ((zAF xs).drop k))∧Below w.heap.size w wr) (fun i _=>n - (intOf i).toNat)
 case atStart=>exact ⟨0,nZ _,rfl,HR,bR _ _⟩
 case round=>
  obtain ⟨k,hk,rfl,Hm,hbel⟩:=hrel
  have HB:=cH hbel
  clear hbel
  have hk0:(0:Int)≤(k:Int):=by omega
  by_cases hlt:k<n
  case neg=>
   have hI:¬(k:Int)<(n:Int):=by omega
   have Hr:Hid (R=true):=by unfold Hid;rw[Hm.out,zCP (by rw[Hln.out];omega)]
   clear Hm
   go_wp2_with fail
   go_ret
   exact ⟨zAc Hr.out.symm,HB.out⟩
  have hkI:(k:Int)<(n:Int):=by omega
  obtain ⟨x,hx⟩:∃ x,xs[k]?=some x:=⟨_,gE (by have:=Hnx.out;omega)⟩
  obtain ⟨b,o,cs,rfl,_,hb1,hh,hcell⟩:=(hx'.out.belowSize HB.out).elem hx
  obtain ⟨rfl,hnm,_⟩:=hh
  have c0:=hcell 0 _ rfl
  have c1:=hcell 1 _ rfl
  simp only[rEdge,Nat.add_zero] at c0 c1
  have hs:(zAF xs)[k]?=some x.label:=by unfold zAF;rw[List.getElem?_map,hx];rfl
  have Hst:=cH (Hm.out.trans (zCR hs))
  have Hc:=cH (qcall (w:=wr) (fun W hW=>zEb x W))
  have Hnm:=cH (qcall (w:=wr) (fun W hW=>zBg x.label hnm W))
  clear Hm hcell hnm hs
  cases hnb:nameB x.label with
  | false=>
    have Hr:Hid (R=false):=by unfold Hid;rw[Hst.out,hnb];rfl
    rw[hnb] at Hnm
    clear Hst hnb
    have r_c0:=cR c0
    have r_c1:=cR c1
    go_wp2_with fail
    refine wQ ?_
    repeat (go_big_quiet_step (first|(with_reducible exact Hc.out _ _)|(with_reducible exact Hnm.out _ _)))
    refine wpQuiet_nil fun w4 B4=>?_
    have HB4:=cH (bot HB.out B4)
    go_wp2_with fail
    go_ret
    exact ⟨zAc Hr.out.symm,HB4.out⟩
  | true=>
  rw[hnb] at Hnm
  by_cases hk00:k=0
  case pos=>
   have Hnx2:Hid (R=zAJ (zA4 (zAF xs) (k+1)) ((zAF xs).drop (k+1))):=by unfold Hid;rw[Hst.out,hnb,show zA4 (zAF xs) k=none by rw[hk00];rfl];rfl
   have hng:¬(0:Int)<(k:Int):=by omega
   have hngd:decide (0<k)=false:=decide_eq_false (by omega)
   clear Hst hnb hk00
   have r_c0:=cR c0
   have r_c1:=cR c1
   go_wp2_with fail
   refine wQ ?_
   repeat (go_big_quiet_step (first|(with_reducible exact Hc.out _ _)|(with_reducible exact Hnm.out _ _)))
   refine wpQuiet_nil fun w4 B4=>?_
   have HB4:=cH (bot HB.out B4)
   go_wp2_with fail
   go_roundw
   case rel=>exact ⟨k+1,by omega,by go_num,Hnx2,HB4.out⟩
   case measure=>simp[intOf];omega
  case neg=>
   obtain ⟨j,rfl⟩:∃ j,k=j+1:=⟨k - 1,by omega⟩
   clear hk00
   obtain ⟨y,hy⟩:∃ y,xs[j]?=some y:=⟨_,gE (by have:=Hnx.out;omega)⟩
   obtain ⟨b2,o2,cs2,hA2,_,_,hh2,hcell2⟩:=(hx'.out.belowSize HB.out).elem hy
   obtain ⟨rfl,_⟩:=hh2
   injection hA2 with hA2
   injection hA2 with hb2 ho2 _
   subst hb2 ho2
   have d0:=hcell2 0 _ rfl
   have d1:=hcell2 1 _ rfl
   simp only[rEdge,Nat.add_zero] at d0 d1
   have hpv:zA4 (zAF xs) (j+1)=some y.label:=by show (zAF xs)[j]?=_;unfold zAF;rw[List.getElem?_map,hy];rfl
   have Hc1:=cH (qcall (w:=wr) (fun W hW=>zEb y W))
   have hwj:IntKind.i64.wrap (((j+1:Nat):Int) - 1)=(j:Int):=by rw[IntWalk.i64_in _ ⟨by omega,by omega⟩];omega
   have hgt:(0:Int)<((j+1:Nat):Int):=by omega
   have hj0:(0:Int)≤(j:Int):=by omega
   have hjn:(j:Int)<(n:Int):=by omega
   have Hls:Hid (behind (some y.label) x.label=Op.bytesLess y.label.toList x.label.toList):=rfl
   rw[hpv,hnb,Hls.out,Bool.true_and] at Hst
   clear hpv hcell2 hy hnb Hls
   cases hls:Op.bytesLess y.label.toList x.label.toList with
   | true=>
     have Hnx2:Hid (R=zAJ (zA4 (zAF xs) (j+1+1)) ((zAF xs).drop (j+1+1))):=by unfold Hid;rw[Hst.out,hls,Bool.true_and]
     clear Hst
     have r_c0:=cR c0
     have r_c1:=cR c1
     have r_d0:=cR d0
     have r_d1:=cR d1
     go_wp2_with fail
     refine wQ ?_
     repeat (go_big_quiet_step (first|(with_reducible exact Hc.out _ _)|(with_reducible exact Hc1.out _ _)|(with_reducible exact Hnm.out _ _)))
     refine wpQuiet_nil fun w4 B4=>?_
     have HB4:=cH (bot HB.out B4)
     go_wp2_with fail
     go_roundw
     case rel=>exact ⟨j+1+1,by omega,by go_num,Hnx2,HB4.out⟩
     case measure=>simp[intOf];omega
   | false=>
     have Hr:Hid (R=false):=by unfold Hid;rw[Hst.out,hls];rfl
     clear Hst
     have r_c0:=cR c0
     have r_c1:=cR c1
     have r_d0:=cR d0
     have r_d1:=cR d1
     go_wp2_with fail
     refine wQ ?_
     repeat (go_big_quiet_step (first|(with_reducible exact Hc.out _ _)|(with_reducible exact Hc1.out _ _)|(with_reducible exact Hnm.out _ _)))
     refine wpQuiet_nil fun w4 B4=>?_
     have HB4:=cH (bot HB.out B4)
     go_wp2_with fail
     go_ret
     exact ⟨zAc Hr.out.symm,HB4.out⟩
def edgeI (l:List Edge) (s:ByteArray):Int:=match zAo l s with
 | none=>-1
 | some k=>(k:Int)
theorem zHU {l:List Edge} {k:Nat} {e:Edge} (h:l[k]?=some e) (s:ByteArray):zAo (l.drop k) s=if e.label=s then some 0 else (zAo (l.drop (k+1)) s).map (·+1):=by
 obtain ⟨hk,e'⟩:=gS.1 h
 rw[dC hk,e',zAo]
theorem zIa (x:Edge) (QB:Nat) (s:ByteArray) (w:World) (he:w.cell? ⟨QB,0,none⟩=some (.string s)) :
  Calls Tryz.prog 77 #[.agg #[.string x.label,.int .i64 x.to],.pointer (some ⟨QB,0,none⟩)] w fun e w'=>e=.returned (.bool (decide (x.label=s)))∧Below w.heap.size w w':=by
 have HR:Hid (decide (x.label=s)=(x.label.toList==s.toList)):=by
  unfold Hid
  by_cases h:x.label=s
  ·rw[decide_eq_true h,zAT h]
  ·rw[decide_eq_false h,zAL h]
 generalize decide (x.label=s)=R at *
 generalize x.label=y0 at *
 have e2:=fun o=>(zAW (Below.heap_alloc w o _ (zAf he)) 0 none).trans he
 have HB:=fun o=>cH (bal (bR w.heap.size w) o)
 go_enter Tryz.func77,Tryz.ntmps77
 go_wp2_with fail
 go_ret
 exact ⟨zAB HR.out.symm,(HB _).out⟩
theorem zFb:zC2 Tryz.prog 77:=zCG Tryz.func77 (by kernel_rfl) rfl
theorem zGJ (QB:Nat) (s:ByteArray) (A:Option Addr) (n c:Nat) (xs:List Edge) (w:World) (S:Nat→Prop) (hx:SlV rEdge w S xs (.slice A n c)) (he:w.cell? ⟨QB,0,none⟩=some (.string s)) :
  Calls Tryz.prog 76 #[.slice A n c,.func (.func 77) #[] #[.pointer (some ⟨QB,0,none⟩)]] w fun e w'=>e=.returned (.int .i64 (edgeI xs s))∧Below w.heap.size w w':=by
 have hnx:=hx.n_eq
 have hcx:=hx.cap_le
 unfold maxLen at hcx
 have hn63:n≤9223372036854775807:=by omega
 have hx':=cH hx
 have Hend:Hid (zAo xs s=(zAo (xs.drop 0) s).map (·+0)):=by unfold Hid;rw[List.drop_zero];cases zAo xs s<;>rfl
 have HR:Hid (∀ r,zAo xs s=r→edgeI xs s=match r with|none=>-1|some k=>(k:Int)):=by rintro r rfl;rfl
 have Hq:Hid (∀ W (x:Edge),Below w.heap.size w W→Calls Tryz.prog 77 #[.agg #[.string x.label,.int .i64 x.to],.pointer (some ⟨QB,0,none⟩)] W fun e w'=>e=.returned (.bool (decide (x.label=s)))∧Below W.heap.size W w'):=fun W x hW=>zIa x QB s W (zAA hW he (zAf he))
 have Hnx:=cH hnx;clear hnx
 clear hcx hx he
 have hent:=fun args W=>zFb args W
 generalize edgeI xs s=R at *
 go_enter Tryz.func76,Tryz.ntmps76
 go_wp2_with fail
 go_loopw [8] (fun i wr=>∃ k:Nat,k≤n∧i=.int .i64 k∧Hid (zAo xs s=(zAo (xs.drop k) s).map (·+k))∧Below w.heap.size w wr) (fun i _=>n - (intOf i).toNat)
 case atStart=>exact ⟨0,nZ _,rfl,Hend,bR _ _⟩
 case round=>
  obtain ⟨k,hk,rfl,heq,hbel⟩:=hrel
  have hk0:(0:Int)≤(k:Int):=by omega
  by_cases hlt:k<n
  case neg=>
   have He:Hid (R=-1):=by
    have h:=heq.out
    rw[dN (by have:=Hnx.out;omega)] at h
    exact HR.out _ h
   have hI:¬(k:Int)<(n:Int):=by omega
   clear heq
   go_wp2_with fail
   go_ret
   exact ⟨zAS He.out.symm,hbel⟩
  have hkn:(k:Int)<(n:Int):=by omega
  obtain ⟨x,hx⟩:∃ x,xs[k]?=some x:=⟨_,gE (by have:=Hnx.out;omega)⟩
  obtain ⟨b,o,cs,rfl,_,hb1,hh,hcell⟩:=(hx'.out.belowSize hbel).elem hx
  obtain ⟨rfl,_⟩:=hh
  have Hcall:=cH (Hq.out wr x hbel)
  have Hat:=cH (zHU hx s)
  have c0:=hcell 0 _ rfl
  have c1:=hcell 1 _ rfl
  simp only[rEdge,Nat.add_zero] at c0 c1
  clear hcell hx
  by_cases hs:x.label=s
  ·rw[decide_eq_true hs] at Hcall
   have He:Hid (R=(k:Int)):=by
    unfold Hid
    have h:=heq.out
    rw[Hat.out,if_pos hs] at h
    have h2:=HR.out _ h
    simpa using h2
   generalize x.label=y0 at *
   generalize x.to=y1 at *
   clear Hat heq hs
   go_wp2_with fail
   refine (Hcall.out).mono ?_
   rintro e w1 ⟨rfl,B1⟩
   go_wp2_with fail
   go_ret
   exact ⟨zAS He.out.symm,bot hbel B1⟩
  ·rw[decide_eq_false hs] at Hcall
   have He:Hid (zAo xs s=(zAo (xs.drop (k+1)) s).map (·+(k+1))):=by
    unfold Hid
    rw[heq.out,Hat.out,if_neg hs]
    cases zAo (xs.drop (k+1)) s with
    | none=>rfl
    | some j=>simp only[Option.map_some];congr 1;omega
   generalize x.label=y0 at *
   generalize x.to=y1 at *
   clear Hat heq hs
   go_wp2_with fail
   refine (Hcall.out).mono ?_
   rintro e w1 ⟨rfl,B1⟩
   go_wp2_with fail
   go_roundw
   case rel=>exact ⟨k+1,by omega,by go_num,He,bot hbel B1⟩
   case measure=>simp[intOf];omega
theorem zEE (a b:Ver):eqB a b=(decide (a.major=b.major)&&(decide (a.minor=b.minor)&&decide (a.patch=b.patch))):=by
 obtain ⟨a1,a2,a3⟩:=a
 obtain ⟨b1,b2,b3⟩:=b
 by_cases h:a1=b1∧a2=b2∧a3=b3
 ·obtain ⟨rfl,rfl,rfl⟩:=h
  rw[zAP rfl];simp
 ·rw[zAH (fun e=>h (by cases e;exact ⟨rfl,rfl,rfl⟩))]
  by_cases e1:a1=b1<;>by_cases e2:a2=b2<;>by_cases e3:a3=b3<;>simp_all
theorem zDs {α:Type} (q:α→Bool) {xs:List α} {k:Nat} {x:α} (h:xs[k]?=some x):(xs.drop k).all q=(q x&&(xs.drop (k+1)).all q):=by
 obtain ⟨hk,e⟩:=gS.1 h
 rw[dC hk,e,List.all_cons]
theorem zI6 {g:List Node} {lb:ByteArray} {tn:Nat} {y:Node} (h:g[tn]?=some y):edgeP g ⟨lb,(tn:Int)⟩=(decide (1≤(tn:Int))&&decide (y.name=lb)):=by
 have:=(gS.1 h).1
 unfold edgeP
 simp only[Int.toNat_natCast,h]
 rw[decide_eq_true (show (tn:Int)<(g.length:Int) by omega),Bool.true_and]
theorem zG3 {g:List Node} {lb:ByteArray} {tt:Int} (h:¬1≤tt):edgeP g ⟨lb,tt⟩=false:=by
 unfold edgeP;rw[decide_eq_false h];rfl
theorem zGA {g:List Node} {lb:ByteArray} {tt:Int} (h:¬tt<(g.length:Int)):edgeP g ⟨lb,tt⟩=false:=by
 unfold edgeP;rw[decide_eq_false h,Bool.false_and,Bool.and_false]
theorem zI8 {g:List Node} {e:Edge} (h:edgeP g e=true):∃ (tn:Nat) (y:Node),e.to=(tn:Int)∧g[tn]?=some y:=by
 unfold edgeP at h
 simp only[Bool.and_eq_true,decide_eq_true_eq] at h
 obtain ⟨h1,h2,_⟩:=h
 exact ⟨e.to.toNat,g[e.to.toNat]'(by omega),by omega,gE (by omega)⟩
theorem zDa:∀ {l:List Edge} {s:ByteArray} {j:Nat},zAo l s=some j→∃ e,l[j]?=some e∧e.label=s
 | [],s,j,h=>by cases h
 | e::l,s,j,h=>by
   rw[zAo] at h
   split at h
   ·rename_i he
    cases h
    exact ⟨e,rfl,he⟩
   ·cases h2:zAo l s with
    | none=>rw[h2] at h;cases h
    | some i=>
      rw[h2] at h
      cases h
      obtain ⟨e',h3,h4⟩:=zDa h2
      exact ⟨e',by simpa using h3,h4⟩
theorem zGp {g:List Node} {es:List Edge} {q:Pin} (h:zAo es q.name=none):pinP g es q=false:=by
 unfold pinP;rw[h]
theorem zGl {g:List Node} {es:List Edge} {q:Pin} {j tn:Nat} {e:Edge} {y:Node} (h:zAo es q.name=some j) (he:es[j]?=some e) (ht:e.to=(tn:Int)) (hy:g[tn]?=some y):pinP g es q=eqB y.ver q.ver:=by
 unfold pinP;rw[h];simp only[he,ht,Int.toNat_natCast,hy]
theorem zED (w:World) (oa ob:Obj):Below w.heap.size w ((w.alloc oa).alloc ob).drew∧((w.alloc oa).alloc ob).drew.heap[w.heap.size]?=some oa∧((w.alloc oa).alloc ob).drew.heap[w.heap.size+1]?=some ob:=by
 have hsz:w.heap.size+1=(w.alloc oa).heap.size:=by simp
 refine ⟨(bal (bal (bR _ _) _) _).drew,(Below.heap_alloc (w.alloc oa) ob w.heap.size (by rw[←hsz];exact Nat.lt_succ_self _)).trans (zAD w oa),?_⟩
 rw[hsz];exact zAD (w.alloc oa) ob
theorem zHO (C:PlCtx) (hC:C.Ok) (w:World) (st:PlSt) (hw:PlWd C w st) (i:Nat) {n:Node} (hn:C.q.g[i]?=some n) {x:Pack} (hx:C.q.ps[i]?=some x) :
  Calls Tryz.prog 46 #[.pointer (some ⟨C.P,0,none⟩),.int .i64 (i:Int)] w fun e w'=>e=.returned (.bool (formP C.q.g i n x))∧Below w.heap.size w w':=by
 have hbase:=hw.base
 obtain ⟨A,c,A',c',hr⟩:=hw.read
 have HW:=cH hw
 have HC:=cH hC
 have hHP:=hr.hP
 have x0:=hr.c0
 have x1:=hr.c1
 obtain ⟨gb,go,xA,xc,eA,ec,hgA,hgb,hgn,n0,n1,n2,n3,n4,n5,hctx,hedg,hnsz⟩:=hr.node hC hbase hn
 obtain ⟨pb,po,dA,dc,fA,fc,kA,kc,hpA,hpb,hpn,k0,k1,k2,k3,k4,k5,k6,hpv,_⟩:=hr.pack hC hbase hx
 have hgcap:=zAi hC.g
 have hpcap:=zAi hC.p
 rw[hgA] at x0
 rw[hpA] at x1
 have HPv:=cH hpv
 have HCx:=cH hctx
 have HEd:=cH hedg
 have HX0:Hid (∀ W,Below w.heap.size w W→W.cell? ⟨C.P,0,none⟩=some (.slice (some ⟨gb,go,none⟩) C.gn C.gc)):=fun W hW=>zAA hW x0 hHP
 have HNd:Hid (∀ W (j:Nat) (y:Node),Below w.heap.size w W→C.q.g[j]?=some y→j<C.gn∧W.cell? ⟨gb,go+j * 6,none⟩=some (.string y.name)∧W.cell? ⟨gb,go+j * 6+1,none⟩=some (.int .i64 y.ver.major)∧W.cell? ⟨gb,go+j * 6+2,none⟩=some (.int .i64 y.ver.minor)∧W.cell? ⟨gb,go+j * 6+3,none⟩=some (.int .i64 y.ver.patch)):=fun W j y hW hy=>by
  obtain ⟨b2,o2,_,_,_,_,hgA2,_,h3,m0,m1,m2,m3,_⟩:=(hr.keep hW).node hC (bot hbase hW) hy
  rw[hgA] at hgA2
  cases hgA2
  exact ⟨h3,m0,m1,m2,m3⟩
 have Hgl:=cH hC.g.n_eq
 have hi0:(0:Int)≤(i:Int):=by omega
 have hig:(i:Int)<(C.gn:Int):=by omega
 have hip:(i:Int)<(C.pn:Int):=by omega
 have HR:Hid (formP C.q.g i n x=(headP i n x&&((zAJ none (zAG n.ctx)&&zAJ none (zAF n.edges))&&(n.edges.all (edgeP C.q.g)&&n.ctx.all (pinP C.q.g n.edges))))):=rfl
 have hws:=hbase.size
 clear hr hw hC hbase hpv hctx hedg
 generalize formP C.q.g i n x=R at *
 obtain ⟨m0,hm0⟩:∃ k,k=n.name:=⟨_,rfl⟩
 obtain ⟨m1,hm1⟩:∃ k,k=n.ver.major:=⟨_,rfl⟩
 obtain ⟨m2,hm2⟩:∃ k,k=n.ver.minor:=⟨_,rfl⟩
 obtain ⟨m3,hm3⟩:∃ k,k=n.ver.patch:=⟨_,rfl⟩
 obtain ⟨m4,hm4⟩:∃ k,k=n.ctx.length:=⟨_,rfl⟩
 obtain ⟨m5,hm5⟩:∃ k,k=n.edges.length:=⟨_,rfl⟩
 rw[←hm0] at n0
 rw[←hm1] at n1
 rw[←hm2] at n2
 rw[←hm3] at n3
 rw[←hm4] at n4 HCx
 rw[←hm5] at n5 HEd
 have Hm:Hid (m0=n.name∧m1=n.ver.major∧m2=n.ver.minor∧m3=n.ver.patch∧m4=n.ctx.length∧m5=n.edges.length):=⟨hm0,hm1,hm2,hm3,hm4,hm5⟩
 clear hm0 hm1 hm2 hm3 hm4 hm5
 go_enter Tryz.func46,Tryz.ntmps46
 have hne1:C.P≠w.heap.size:=by omega
 have hne2:gb≠w.heap.size:=by omega
 have hne3:pb≠w.heap.size:=by omega
 have hne4:C.P≠w.heap.size+1:=by omega
 have hne5:gb≠w.heap.size+1:=by omega
 have hne6:pb≠w.heap.size+1:=by omega
 go_upto_region 1 with (fail)
 go_cut [5,6] from 12 to 26 (fun nv pv wx=>∃ NB PB:Nat,nv=.pointer (some ⟨NB,0,none⟩)∧pv=.pointer (some ⟨PB,0,none⟩)∧Hid (Below w.heap.size w wx∧w.heap.size≤NB∧w.heap.size≤PB ∧
  wx.heap[NB]?=some (.cells #[.string m0,.int .i64 m1,.int .i64 m2,.int .i64 m3,.slice xA m4 xc,.slice eA m5 ec] 58 (0,0)) ∧
  wx.heap[PB]?=some (.cells #[.string x.name,.int .i64 x.ver.major,.int .i64 x.ver.minor,.int .i64 x.ver.patch,.slice dA x.deps.length dc,.slice fA x.peers.length fc,.slice kA x.opts.length kc] 52 (0,0))))
 case first=>
  go_region_held3 (fun w'=>w'.cell? ⟨C.P,0,none⟩=some (.slice (some ⟨gb,go,none⟩) C.gn C.gc)∧w'.cell? ⟨C.P,1,none⟩=some (.slice (some ⟨pb,po,none⟩) C.pn C.pc)∧w'.cell? ⟨gb,go+i * 6,none⟩=some (.string m0)∧w'.cell? ⟨gb,go+i * 6+1,none⟩=some (.int .i64 m1)∧w'.cell? ⟨gb,go+i * 6+2,none⟩=some (.int .i64 m2)∧w'.cell? ⟨gb,go+i * 6+3,none⟩=some (.int .i64 m3)∧w'.cell? ⟨gb,go+i * 6+4,none⟩=some (.slice xA m4 xc)∧w'.cell? ⟨gb,go+i * 6+5,none⟩=some (.slice eA m5 ec) ∧
    w'.cell? ⟨pb,po+i * 7,none⟩=some (.string x.name)∧w'.cell? ⟨pb,po+i * 7+1,none⟩=some (.int .i64 x.ver.major)∧w'.cell? ⟨pb,po+i * 7+2,none⟩=some (.int .i64 x.ver.minor)∧w'.cell? ⟨pb,po+i * 7+3,none⟩=some (.int .i64 x.ver.patch)∧w'.cell? ⟨pb,po+i * 7+4,none⟩=some (.slice dA x.deps.length dc)∧w'.cell? ⟨pb,po+i * 7+5,none⟩=some (.slice fA x.peers.length fc)∧w'.cell? ⟨pb,po+i * 7+6,none⟩=some (.slice kA x.opts.length kc))
   (first|go_keep)
   (first|fail)
  all_goals
   go_wp2_with fail
   go_meet
   first
    | exact ⟨_,_,rfl,rfl,(zED w _ _).1,nR _,Nat.le_succ _,(zED w _ _).2.1,(zED w _ _).2.2⟩
    | exact ⟨_,_,rfl,rfl,(zED w _ _).1,Nat.le_succ _,nR _,(zED w _ _).2.2,(zED w _ _).2.1⟩
 case rest=>
 obtain ⟨NB,PB,rfl,rfl,HN⟩:=hcut
 generalize wc=wd at *
 have HBc:=cH HN.out.1
 have HNc:Hid (∀ W,Below wd.heap.size wd W→W.cell? ⟨NB,0,none⟩=some (.string m0)∧W.cell? ⟨NB,1,none⟩=some (.int .i64 m1)∧W.cell? ⟨NB,2,none⟩=some (.int .i64 m2)∧W.cell? ⟨NB,3,none⟩=some (.int .i64 m3)∧W.cell? ⟨NB,4,none⟩=some (.slice xA m4 xc)∧W.cell? ⟨NB,5,none⟩=some (.slice eA m5 ec)):=fun W hW=>by
  have h:=(hW.block _ (aS.1 HN.out.2.2.2.1).1).trans HN.out.2.2.2.1
  exact ⟨cO _ _ 0 _ _ _ h,cO _ _ 1 _ _ _ h,cO _ _ 2 _ _ _ h,cO _ _ 3 _ _ _ h,cO _ _ 4 _ _ _ h,cO _ _ 5 _ _ _ h⟩
 have HPc:Hid (∀ W,Below wd.heap.size wd W→W.cell? ⟨PB,0,none⟩=some (.string x.name)∧W.cell? ⟨PB,1,none⟩=some (.int .i64 x.ver.major)∧W.cell? ⟨PB,2,none⟩=some (.int .i64 x.ver.minor)∧W.cell? ⟨PB,3,none⟩=some (.int .i64 x.ver.patch)∧W.cell? ⟨PB,4,none⟩=some (.slice dA x.deps.length dc)∧W.cell? ⟨PB,5,none⟩=some (.slice fA x.peers.length fc)∧W.cell? ⟨PB,6,none⟩=some (.slice kA x.opts.length kc)):=fun W hW=>by
  have h:=(hW.block _ (aS.1 HN.out.2.2.2.2).1).trans HN.out.2.2.2.2
  exact ⟨cO _ _ 0 _ _ _ h,cO _ _ 1 _ _ _ h,cO _ _ 2 _ _ _ h,cO _ _ 3 _ _ _ h,cO _ _ 4 _ _ _ h,cO _ _ 5 _ _ _ h,cO _ _ 6 _ _ _ h⟩
 have HSm:Hid (∀ W,Below wd.heap.size wd W→Calls Tryz.prog 44 #[.agg #[.string x.name,.int .i64 x.ver.major,.int .i64 x.ver.minor,.int .i64 x.ver.patch,.slice dA x.deps.length dc,.slice fA x.peers.length fc,.slice kA x.opts.length kc],.agg #[.string ⟨#[]⟩,.int .i64 0,.int .i64 0,.int .i64 0,.slice none 0 0,.slice none 0 0,.slice none 0 0]] W fun e w'=>e=.returned (.bool (eqB x zAC))∧Below W.heap.size W w'):=fun W hW=>
  zC6 x zAC _ _ W _ (fun b=>b<W.heap.size) (HPv.out.keep (bot HBc.out hW)) ⟨none,0,0,none,0,0,none,0,0,rfl,by decide,SlV.nil_ _ _ _,SlV.nil_ _ _ _,SlV.nil_ _ _ _⟩
 have HMy:Hid (∀ W,Below wd.heap.size wd W→Calls Tryz.prog 71 #[.agg #[.string x.name,.int .i64 x.ver.major,.int .i64 x.ver.minor,.int .i64 x.ver.patch,.slice dA x.deps.length dc,.slice fA x.peers.length fc,.slice kA x.opts.length kc]] W fun e w'=>e=.returned (.bool (packB x))∧Below W.heap.size W w'):=fun W hW=>
  zE0 x _ W _ (zAY (zAY HC.out.tab HW.out.base) (bot HBc.out hW)) (HPv.out.keep (bot HBc.out hW))
 clear HN x0 x1 n0 n1 n2 n3 n4 n5 k0 k1 k2 k3 k4 k5 k6
 obtain ⟨q0,q1,q2,q3,q4,q5⟩:=HNc.out wd (bR _ _)
 obtain ⟨p0,p1,p2,p3,p4,p5,p6⟩:=HPc.out wd (bR _ _)
 have Hro:Hid (zDU n x=((m0.toList==[])&&((decide (m1=0)&&(decide (m2=0)&&decide (m3=0)))&&(decide (m4=0)&&eqB x zAC)))):=by
  unfold Hid zDU zeroV;rw[←Hm.out.1,←Hm.out.2.1,←Hm.out.2.2.1,←Hm.out.2.2.2.1,←Hm.out.2.2.2.2.1]
 have Hhd:Hid (headP i n x=if i=0 then zDU n x else zC4 n x):=rfl
 have Hpo:Hid (zC4 n x=(packB x&&(decide (x.name=m0)&&eqB x.ver n.ver))):=by unfold Hid zC4;rw[←Hm.out.1]
 generalize zC4 n x=po at *
 generalize zDU n x=ro at *
 generalize headP i n x=hp at *
 go_upto_region 2 with (fail)
 go_cut [27] from 28 to 52 (fun bv wx=>bv=.bool (decide (i=0)&&!ro)∧Hid (Below wd.heap.size wd wx))
 case first=>
  generalize eqB x zAC=sm at *
  by_cases h0:i=0
  case neg=>
   have hib:((i:Int)==0)=false:=by simp;omega
   go_wp2_with fail
   go_meet
   exact ⟨by rw[decide_eq_false h0];rfl,bR _ _⟩
  have hib:((i:Int)==0)=true:=by simp;omega
  have Hd:Hid (∀ v:Bool,ro=v→Value.bool (!v)=.bool (decide (i=0)&&!ro)):=by rintro v rfl;rw[decide_eq_true h0,Bool.true_and]
  clear h0
  cases hnb:(m0.toList==[]) with
  | false=>
    have hr:ro=false:=by rw[Hro.out,hnb];rfl
    have hd:=cH (Hd.out _ hr)
    clear hr Hro Hd
    go_wp2_with fail
    go_meet
    exact ⟨hd.out,bR _ _⟩
  | true=>
  by_cases hv:m1=0∧m2=0∧m3=0
  case neg=>
   have hr:ro=false:=by
    rw[Hro.out,hnb]
    by_cases e1:m1=0<;>by_cases e2:m2=0<;>by_cases e3:m3=0<;>simp_all
   have hd:=cH (Hd.out _ hr)
   clear hr Hro Hd
   go_wp2_with fail
   all_goals first
    | (exfalso;apply hv;refine ⟨?_,?_,?_⟩<;>assumption)
    | (go_meet;exact ⟨hd.out,bR _ _⟩)
  have Hzv:Hid (∀ v:Bool,(decide (m4=0)&&sm)=v→ro=v):=by
   rintro v rfl;rw[Hro.out,hnb,decide_eq_true hv.1,decide_eq_true hv.2.1,decide_eq_true hv.2.2];first|done|rfl
  obtain ⟨rfl,rfl,rfl⟩:=hv
  by_cases hp0:m4=0
  case neg=>
   have hpI:(0:Int)<(m4:Int):=by omega
   have hd:=cH (Hd.out _ (Hzv.out _ (by rw[decide_eq_false hp0];first|done|rfl)))
   have hpd:decide (0<m4)=true:=decide_eq_true (by omega)
   clear Hro Hd Hzv hp0
   go_wp2_with fail
   go_meet
   exact ⟨hd.out,bR _ _⟩
  have hpI:¬(0:Int)<(m4:Int):=by omega
  have hpd:decide (0<m4)=false:=decide_eq_false (by omega)
  have hd:=cH (Hd.out _ (Hzv.out _ (show (decide (m4=0)&&sm)=sm by rw[decide_eq_true hp0];first|done|rfl)))
  clear Hro Hd Hzv hp0
  go_wp2_with fail
  refine (HSm.out _ (bR _ _)).mono ?_
  rintro e w5 ⟨rfl,hb5⟩
  have HB5:=cH hb5
  clear hb5
  go_wp2_with fail
  go_meet
  exact ⟨hd.out,HB5⟩
 case rest=>
 obtain ⟨rfl,HB2⟩:=hcut
 clear q0 q1 q2 q3 q4 q5 p0 p1 p2 p3 p4 p5 p6 HSm
 obtain ⟨q0,q1,q2,q3,q4,q5⟩:=HNc.out wc HB2.out
 obtain ⟨p0,p1,p2,p3,p4,p5,p6⟩:=HPc.out wc HB2.out
 cases hb27:(decide (i=0)&&!ro) with
 | true=>
   have hr:R=false:=by
    rw[Bool.and_eq_true,decide_eq_true_eq,Bool.not_eq_true'] at hb27
    rw[HR.out,Hhd.out,if_pos hb27.1,hb27.2];rfl
   have Hr:=cH hr
   clear hr hb27
   go_wp2_with fail
   go_ret
   exact ⟨zAc Hr.out.symm,bot HBc.out HB2.out⟩
 | false=>
 have Hh0:Hid (i=0→hp=true):=fun h=>by
  rw[h] at hb27
  rw[Hhd.out,if_pos h]
  cases ro with
  | true=>rfl
  | false=>exact absurd hb27 (by decide)
 have Hh1:Hid (i≠0→hp=po):=fun h=>by rw[Hhd.out,if_neg h]
 clear hb27 Hro Hhd
 go_upto_region 4 with (fail)
 go_cut [53] from 54 to 74 (fun bv wx=>bv=.bool (!hp)∧Hid (Below wd.heap.size wd wx))
 case first=>
  have Hvv:Hid (eqB x.ver n.ver=(decide (x.ver.major=m1)&&(decide (x.ver.minor=m2)&&decide (x.ver.patch=m3)))):=by
   unfold Hid;rw[Hm.out.2.1,Hm.out.2.2.1,Hm.out.2.2.2.1];exact zEE _ _
  by_cases h0:i=0
  case pos=>
   have hgt:¬(0:Int)<(i:Int):=by omega
   have hgd:decide (0<i)=false:=decide_eq_false (by omega)
   have hh:=cH (Hh0.out h0)
   clear h0
   go_wp2_with fail
   go_meet
   exact ⟨by rw[hh.out];rfl,HB2.out⟩
  have hgt:(0:Int)<(i:Int):=by omega
  have hgd:decide (0<i)=true:=decide_eq_true (by omega)
  have hh:=cH (Hh1.out h0)
  have Hmy:=cH (HMy.out wc HB2.out)
  clear h0 Hh0 Hh1
  cases hmb:packB x with
  | false=>
    have hf:=cH (hh.out.trans (Hpo.out.trans (show _=false by rw[hmb];first|done|rfl)))
    rw[hmb] at Hmy
    clear hmb
    go_wp2_with fail
    refine Hmy.out.mono ?_
    rintro e w5 ⟨rfl,hb5⟩
    have HB5:=cH (bot HB2.out hb5)
    clear hb5
    go_wp2_with fail
    go_meet
    exact ⟨by rw[hf.out];rfl,HB5.out⟩
  | true=>
  rw[hmb] at Hmy
  have Hp2:Hid (∀ v:Bool,(decide (x.name=m0)&&eqB x.ver n.ver)=v→Value.bool (!v)=.bool (!hp)):=by
   rintro v rfl;rw[hh.out,Hpo.out,hmb,Bool.true_and]
  clear hmb hh
  go_wp2_with fail
  refine Hmy.out.mono ?_
  rintro e w5 ⟨rfl,hb5⟩
  have HB5:=cH (bot HB2.out hb5)
  clear hb5 q0 q1 q2 q3 q4 q5 p0 p1 p2 p3 p4 p5 p6
  obtain ⟨q0,q1,q2,q3,q4,q5⟩:=HNc.out w5 HB5.out
  obtain ⟨p0,p1,p2,p3,p4,p5,p6⟩:=HPc.out w5 HB5.out
  by_cases hnn:x.name=m0
  case neg=>
   have hnb:=zAL hnn
   have hd:=cH (Hp2.out _ (show _=false by rw[decide_eq_false hnn];first|done|rfl))
   clear Hp2 hnn Hpo Hmy
   go_wp2_with fail
   go_meet
   exact ⟨hd.out,HB5.out⟩
  have hnb:=zAT hnn
  by_cases hv:x.ver.major=m1∧x.ver.minor=m2∧x.ver.patch=m3
  case neg=>
   have hd:=cH (Hp2.out _ (show _=false by
    rw[Hvv.out,Bool.and_eq_false_iff]
    refine .inr ?_
    by_cases e1:x.ver.major=m1<;>by_cases e2:x.ver.minor=m2<;>by_cases e3:x.ver.patch=m3<;>simp_all))
   clear Hp2 hnn Hpo Hmy
   go_wp2_with fail
   all_goals first
    | (exfalso;apply hv;refine ⟨?_,?_,?_⟩<;>assumption)
    | (go_meet;exact ⟨hd.out,HB5.out⟩)
  have hd:=cH (Hp2.out _ (show _=true by rw[Hvv.out,decide_eq_true hnn,decide_eq_true hv.1,decide_eq_true hv.2.1,decide_eq_true hv.2.2];first|done|rfl))
  clear Hp2 hnn Hpo Hmy
  obtain ⟨e1,e2,e3⟩:=hv
  rw[e1] at p1
  rw[e2] at p2
  rw[e3] at p3
  clear e1 e2 e3 Hvv
  go_wp2_with fail
  go_meet
  exact ⟨hd.out,HB5.out⟩
 case rest=>
 obtain ⟨hbv,HB4⟩:=hcut
 have HB24:Hid (Below wd.heap.size wd wc):=HB4
 clear q0 q1 q2 q3 q4 q5 p0 p1 p2 p3 p4 p5 p6 HMy Hh0 Hh1 Hpo HPc
 obtain ⟨q0,q1,q2,q3,q4,q5⟩:=HNc.out wc HB4.out
 have HBw:Hid (∀ W,Below wd.heap.size wd W→Below w.heap.size w W):=fun W hW=>bot HBc.out hW
 cases hhp:hp with
 | false=>
   have hr:R=false:=by rw[HR.out,hhp];rfl
   have Hr:=cH hr
   rw[hhp] at hbv
   subst hbv
   clear hr hhp HR
   go_wp2_with fail
   go_ret
   exact ⟨zAc Hr.out.symm,HBw.out _ HB4.out⟩
 | true=>
 rw[hhp] at hbv
 subst hbv
 have HR1:Hid (R=((zAJ none (zAG n.ctx)&&zAJ none (zAF n.edges))&&(n.edges.all (edgeP C.q.g)&&n.ctx.all (pinP C.q.g n.edges)))):=by
  unfold Hid;rw[HR.out,hhp,Bool.true_and]
 clear HR hhp
 generalize wc=we at *
 have HRp:Hid (∀ W,Below wd.heap.size wd W→Calls Tryz.prog 72 #[.slice xA m4 xc,.func (.func 73) #[] #[]] W fun e w'=>e=.returned (.bool (zAJ none (zAG n.ctx)))∧Below W.heap.size W w'):=fun W hW=>
  zHi xA m4 xc n.ctx W _ (HCx.out.belowSize (bot HBc.out hW))
 have HRe:Hid (∀ W,Below wd.heap.size wd W→Calls Tryz.prog 74 #[.slice eA m5 ec,.func (.func 75) #[] #[]] W fun e w'=>e=.returned (.bool (zAJ none (zAF n.edges)))∧Below W.heap.size W w'):=fun W hW=>
  zHX eA m5 ec n.edges W _ (HEd.out.belowSize (bot HBc.out hW))
 generalize zAJ none (zAG n.ctx)=ra at *
 generalize zAJ none (zAF n.edges)=rb at *
 go_upto_region 6 with (fail)
 cases ra with
 | false=>
   have Hr:Hid (R=false):=by unfold Hid;rw[HR1.out];rfl
   clear HR1
   go_wp2_with fail
   refine (HRp.out we HB4.out).mono ?_
   rintro e w5 ⟨rfl,hb5⟩
   have HB5:=cH (bot HB4.out hb5)
   clear hb5
   go_wp2_with fail
   go_ret
   exact ⟨zAc Hr.out.symm,HBw.out _ HB5.out⟩
 | true=>
 go_wp2_with fail
 refine (HRp.out we HB4.out).mono ?_
 rintro e w5 ⟨rfl,hb5⟩
 have HB5:=cH (bot HB4.out hb5)
 clear hb5 q0 q1 q2 q3 q4 q5
 obtain ⟨q0,q1,q2,q3,q4,q5⟩:=HNc.out w5 HB5.out
 go_wp2_with fail
 refine (HRe.out w5 HB5.out).mono ?_
 rintro e w6 ⟨rfl,hb6⟩
 have HB6:=cH (bot HB5.out hb6)
 clear hb6 q0 q1 q2 q3 q4 q5
 obtain ⟨q0,q1,q2,q3,q4,q5⟩:=HNc.out w6 HB6.out
 cases rb with
 | false=>
   have Hr:Hid (R=false):=by unfold Hid;rw[HR1.out];rfl
   clear HR1
   go_wp2_with fail
   go_ret
   exact ⟨zAc Hr.out.symm,HBw.out _ HB6.out⟩
 | true=>
 have HR2:Hid (R=((n.edges.drop 0).all (edgeP C.q.g)&&n.ctx.all (pinP C.q.g n.edges))):=by
  unfold Hid;rw[HR1.out];rfl
 clear HR1 HRp HRe
 have hm45:m4≤9223372036854775807∧m5≤9223372036854775807:=⟨zAi HCx.out,zAi HEd.out⟩
 obtain ⟨hm4z,hm5z⟩:=hm45
 go_wp2_with fail
 go_loopw [88] (fun t wr=>∃ k:Nat,k≤m5∧t=.int .i64 k∧Hid (R=((n.edges.drop k).all (edgeP C.q.g)&&n.ctx.all (pinP C.q.g n.edges)))∧Hid (Below wd.heap.size wd wr)∧Hid (∀ j e,j<k→n.edges[j]?=some e→edgeP C.q.g e=true)) (fun t _=>m5 - (intOf t).toNat)
 case atStart=>exact ⟨0,nZ _,rfl,HR2,HB6,fun j e h=>absurd h (Nat.not_lt_zero j)⟩
 case round=>
  clear HR2 q0 q1 q2 q3 q4 q5
  obtain ⟨k,hk,rfl,heq,hbel,hall⟩:=hrel
  have hk0:(0:Int)≤(k:Int):=by omega
  by_cases hlt:k<m5
  case pos=>
   have hkn:(k:Int)<(m5:Int):=by omega
   obtain ⟨e,he⟩:∃ e,n.edges[k]?=some e:=⟨_,gE (by have:=Hm.out.2.2.2.2.2;omega)⟩
   obtain ⟨eb,eo,cs,hA,_,hb1,hh,hcell⟩:=(HEd.out.belowSize (HBw.out wr hbel.out)).elem he
   subst hA
   obtain ⟨rfl,hlz,hti⟩:=hh
   have c0:=hcell 0 _ rfl
   have c1:=hcell 1 _ rfl
   simp only[rEdge,Nat.add_zero] at c0 c1
   have Hst:=cH (heq.out.trans (congrArg (·&&n.ctx.all (pinP C.q.g n.edges)) (zDs (edgeP C.q.g) he)))
   have Hal:Hid (edgeP C.q.g e=true→∀ j e',j<k+1→n.edges[j]?=some e'→edgeP C.q.g e'=true):=fun h j e' hj he'=>by
    by_cases hjk:j=k
    ·subst hjk;rw[he] at he';cases he';exact h
    ·exact hall.out j e' (by omega) he'
   clear hcell hlz heq he hall
   obtain ⟨lb,tt⟩:=e
   simp only at c0 c1 hti
   go_upto_region 11 with (fail)
   obtain ⟨w4,hw4⟩:∃ w4,w4=wr.alloc (.cells #[.string lb,.int .i64 tt] 61):=⟨_,rfl⟩
   have hq4:w4.heap[wr.heap.size]?=some (.cells #[.string lb,.int .i64 tt] 61 (0,0)):=by rw[hw4];exact zAD _ _
   have HB4':Hid (Below wd.heap.size wd w4):=by unfold Hid;rw[hw4];exact bal hbel.out _
   rw[←hw4]
   obtain ⟨QB,hQB⟩:∃ QB,QB=wr.heap.size:=⟨_,rfl⟩
   rw[←hQB] at hq4 ⊢
   have d0:=cO _ _ 0 _ _ _ hq4
   have d1:=cO _ _ 1 _ _ _ hq4
   have x0:=HX0.out w4 (HBw.out w4 HB4'.out)
   have HBo:Hid (∀ W,Below w4.heap.size w4 W→Below wd.heap.size wd W):=fun W hW=>bot HB4'.out hW
   clear hw4 hQB hq4 c0 c1
   by_cases h1:1≤tt
   case neg=>
    have hI1:tt<1:=by omega
    have hD1:decide (tt<1)=true:=decide_eq_true hI1
    have Hr:Hid (R=false):=by unfold Hid;rw[Hst.out,zG3 h1];rfl
    clear Hst Hal h1
    have r_d0:=cR d0
    have r_d1:=cR d1
    have r_x0:=cR x0
    go_wp2_with fail
    refine wQ ?_
    repeat (go_big_quiet_step (first|fail))
    refine wpQuiet_nil fun w5 B5=>?_
    have HB5':=cH (HBw.out _ (HBo.out _ B5))
    go_wp2_with fail
    go_ret
    exact ⟨zAc Hr.out.symm,HB5'.out⟩
   have hI1:¬tt<1:=by omega
   have hD1:decide (tt<1)=false:=decide_eq_false hI1
   by_cases h2:tt<(C.gn:Int)
   case neg=>
    have hI2:(C.gn:Int)≤tt:=by omega
    have hD2:decide ((C.gn:Int)≤tt)=true:=decide_eq_true hI2
    have Hr:Hid (R=false):=by unfold Hid;rw[Hst.out,zGA (by rw[←Hgl.out];exact h2)];rfl
    clear Hst Hal h1 h2
    have r_d0:=cR d0
    have r_d1:=cR d1
    have r_x0:=cR x0
    go_wp2_with fail
    refine wQ ?_
    repeat (go_big_quiet_step (first|fail))
    refine wpQuiet_nil fun w5 B5=>?_
    have HB5':=cH (HBw.out _ (HBo.out _ B5))
    go_wp2_with fail
    go_ret
    exact ⟨zAc Hr.out.symm,HB5'.out⟩
   have hI2:¬(C.gn:Int)≤tt:=by omega
   have hD2:decide ((C.gn:Int)≤tt)=false:=decide_eq_false hI2
   obtain ⟨tn,rfl⟩:∃ tn:Nat,tt=(tn:Int):=⟨tt.toNat,by omega⟩
   obtain ⟨y,hy⟩:∃ y,C.q.g[tn]?=some y:=⟨_,gE (by have:=Hgl.out;omega)⟩
   obtain ⟨htn,y0,_⟩:=HNd.out w4 tn y (HBw.out w4 HB4'.out) hy
   have hep:=zI6 (lb:=lb) hy
   rw[decide_eq_true h1,Bool.true_and] at hep
   have Hep:=cH hep
   have ht0:(0:Int)≤(tn:Int):=by omega
   have hD3:decide (C.gn≤tn)=false:=decide_eq_false (by omega)
   have hN3:¬C.gn≤tn:=by omega
   clear hy hep h1
   generalize y.name=yn at *
   by_cases hs:yn=lb
   case neg=>
    have hb2:=zAL hs
    have Hr:Hid (R=false):=by unfold Hid;rw[Hst.out,Hep.out,decide_eq_false hs];rfl
    clear Hst Hal hs Hep
    have r_d0:=cR d0
    have r_d1:=cR d1
    have r_x0:=cR x0
    have r_y0:=cR y0
    go_wp2_with fail
    refine wQ ?_
    repeat (go_big_quiet_step (first|fail))
    refine wpQuiet_nil fun w5 B5=>?_
    have HB5':=cH (HBw.out _ (HBo.out _ B5))
    go_wp2_with fail
    go_ret
    exact ⟨zAc Hr.out.symm,HB5'.out⟩
   have hb2:=zAT hs
   have hed:edgeP C.q.g ⟨lb,(tn:Int)⟩=true:=by rw[Hep.out,decide_eq_true hs]
   have Hr:Hid (R=((n.edges.drop (k+1)).all (edgeP C.q.g)&&n.ctx.all (pinP C.q.g n.edges))):=by unfold Hid;rw[Hst.out,hed,Bool.true_and]
   have Hal2:=cH (Hal.out hed)
   clear Hst Hal hs Hep hed
   have r_d0:=cR d0
   have r_d1:=cR d1
   have r_x0:=cR x0
   have r_y0:=cR y0
   go_wp2_with fail
   refine wQ ?_
   repeat (go_big_quiet_step (first|fail))
   refine wpQuiet_nil fun w5 B5=>?_
   have HB5':=cH (HBo.out _ B5)
   go_wp2_with fail
   go_roundw
   case rel=>exact ⟨k+1,by omega,by go_num,Hr,HB5'.out,Hal2⟩
   case measure=>simp[intOf];omega
  case neg=>
   have HR3:Hid (R=(n.ctx.drop 0).all (pinP C.q.g n.edges)):=by
    unfold Hid;rw[heq.out,dN (by have:=Hm.out.2.2.2.2.2;omega)];rfl
   have hI:¬(k:Int)<(m5:Int):=by omega
   have HAll:Hid (∀ (j:Nat) (e:Edge),n.edges[j]?=some e→∃ (tn:Nat) (y:Node),e.to=(tn:Int)∧C.q.g[tn]?=some y):=fun j e he=>zI8 (hall.out j e (by have:=(gS.1 he).1;have:=Hm.out.2.2.2.2.2;omega) he)
   have HPin:Hid (∀ W,Below w.heap.size w W→SlV rPin W (fun b=>b<C.w0.heap.size) n.ctx (.slice xA m4 xc)):=fun W hW=>HCx.out.belowSize hW
   have HEdg:Hid (∀ W,Below w.heap.size w W→SlV rEdge W (fun b=>b<C.w0.heap.size) n.edges (.slice eA m5 ec)):=fun W hW=>HEd.out.belowSize hW
   obtain ⟨q0,q1,q2,q3,q4,q5⟩:=HNc.out wr hbel.out
   clear heq hall
   generalize wr=wa at *
   go_wp2_with fail
   go_loopw [125] (fun t wr=>∃ k:Nat,k≤m4∧t=.int .i64 k∧Hid (R=(n.ctx.drop k).all (pinP C.q.g n.edges))∧Hid (Below wd.heap.size wd wr)) (fun t _=>m4 - (intOf t).toNat)
   case atStart=>exact ⟨0,nZ _,rfl,HR3,hbel⟩
   case round=>
    clear HR3 q0 q1 q2 q3 q4 q5 hbel hI hk0 hlt hk
    obtain ⟨k,hk,rfl,heq,hbel⟩:=hrel
    have hk0:(0:Int)≤(k:Int):=by omega
    by_cases hlt:k<m4
    case neg=>
     have He:Hid (R=true):=by unfold Hid;rw[heq.out,dN (by have:=Hm.out.2.2.2.2.1;omega)];rfl
     have hI:¬(k:Int)<(m4:Int):=by omega
     have HBe:=cH (HBw.out _ hbel.out)
     clear heq
     go_wp2_with fail
     go_ret
     exact ⟨zAc He.out.symm,HBe.out⟩
    have hkn:(k:Int)<(m4:Int):=by omega
    obtain ⟨p,hp⟩:∃ p,n.ctx[k]?=some p:=⟨_,gE (by have:=Hm.out.2.2.2.2.1;omega)⟩
    obtain ⟨xb,xo,cs,hA,_,hb1,hh,hcell⟩:=(HPin.out wr (HBw.out wr hbel.out)).elem hp
    subst hA
    obtain ⟨rfl,hpz,hp1,hp2,hp3⟩:=hh
    have c0:=hcell 0 _ rfl
    have c1:=hcell 1 _ rfl
    have c2:=hcell 2 _ rfl
    have c3:=hcell 3 _ rfl
    simp only[rPin,Nat.add_zero] at c0 c1 c2 c3
    have Hst:=cH (heq.out.trans (zDs (pinP C.q.g n.edges) hp))
    have Hev:Hid (∀ v:Ver,eqB v p.ver=(decide (v.major=p.ver.major)&&(decide (v.minor=p.ver.minor)&&decide (v.patch=p.ver.patch)))):=fun v=>zEE v p.ver
    have HpN:Hid (zAo n.edges p.name=none→pinP C.q.g n.edges p=false):=zGp
    have HpS:Hid (∀ (j tn:Nat) (e:Edge) (y:Node),zAo n.edges p.name=some j→n.edges[j]?=some e→e.to=(tn:Int)→C.q.g[tn]?=some y→pinP C.q.g n.edges p=eqB y.ver p.ver):=fun j tn e y h1 h2 h3 h4=>zGl h1 h2 h3 h4
    have Hei:Hid (∀ r,zAo n.edges p.name=r→edgeI n.edges p.name=match r with|none=>-1|some k=>(k:Int)):=by rintro r rfl;rfl
    clear hcell heq hp
    go_upto_region 17 with (fail)
    obtain ⟨w4,hw4⟩:∃ w4,w4=wr.alloc (.cells #[.string p.name,.int .i64 p.ver.major,.int .i64 p.ver.minor,.int .i64 p.ver.patch] 63):=⟨_,rfl⟩
    have hq4:w4.heap[wr.heap.size]?=some (.cells #[.string p.name,.int .i64 p.ver.major,.int .i64 p.ver.minor,.int .i64 p.ver.patch] 63 (0,0)):=by rw[hw4];exact zAD _ _
    have HB4':Hid (Below wd.heap.size wd w4):=by unfold Hid;rw[hw4];exact bal hbel.out _
    rw[←hw4]
    have hz4:wr.heap.size<w4.heap.size:=(aS.1 hq4).1
    obtain ⟨QB,hQB⟩:∃ QB,QB=wr.heap.size:=⟨_,rfl⟩
    rw[←hQB] at hq4 hz4 ⊢
    have Hpc:Hid (∀ W,Below w4.heap.size w4 W→W.cell? ⟨QB,1,none⟩=some (.int .i64 p.ver.major)∧W.cell? ⟨QB,2,none⟩=some (.int .i64 p.ver.minor)∧W.cell? ⟨QB,3,none⟩=some (.int .i64 p.ver.patch)):=fun W hW=>by
     have h:=(hW.block _ hz4).trans hq4
     exact ⟨cO _ _ 1 _ _ _ h,cO _ _ 2 _ _ _ h,cO _ _ 3 _ _ _ h⟩
    have HBo:Hid (∀ W,Below w4.heap.size w4 W→Below wd.heap.size wd W):=fun W hW=>bot HB4'.out hW
    have HIx:Hid (Calls Tryz.prog 76 #[.slice eA m5 ec,.func (.func 77) #[] #[.pointer (some ⟨QB,0,none⟩)]] w4 fun e w'=>e=.returned (.int .i64 (edgeI n.edges p.name))∧Below w4.heap.size w4 w'):=
     zGJ QB p.name eA m5 ec n.edges w4 _ (HEdg.out w4 (HBw.out w4 HB4'.out)) (cO _ _ 0 _ _ _ hq4)
    obtain ⟨q0,q1,q2,q3,q4,q5⟩:=HNc.out w4 HB4'.out
    clear hw4 hQB hq4 c0 c1 c2 c3
    generalize edgeI n.edges p.name=ei at *
    go_wp2_with fail
    refine HIx.out.mono ?_
    rintro e w5 ⟨rfl,hb5⟩
    have HB5':=cH hb5
    clear hb5 q0 q1 q2 q3 q4 q5 HIx
    obtain ⟨q0,q1,q2,q3,q4,q5⟩:=HNc.out w5 (HBo.out _ HB5'.out)
    obtain ⟨d1,d2,d3⟩:=Hpc.out w5 HB5'.out
    have x0:=HX0.out w5 (HBw.out _ (HBo.out _ HB5'.out))
    have HBf:Hid (∀ W,Below w5.heap.size w5 W→Below wd.heap.size wd W):=fun W hW=>HBo.out _ (bot HB5'.out hW)
    cases hix:zAo n.edges p.name with
    | none=>
      have he:ei=-1:=Hei.out _ hix
      have Hr:Hid (R=false):=by unfold Hid;rw[Hst.out,HpN.out hix];rfl
      subst he
      clear Hst HpN HpS hix Hei
      have r_d1:=cR d1
      have r_d2:=cR d2
      have r_d3:=cR d3
      have r_x0:=cR x0
      have r_q5:=cR q5
      go_wp2_with fail
      refine wQ ?_
      repeat (go_big_quiet_step (first|fail))
      refine wpQuiet_nil fun w6 B6=>?_
      have HB6':=cH (HBw.out _ (HBf.out _ B6))
      go_wp2_with fail
      go_ret
      exact ⟨zAc Hr.out.symm,HB6'.out⟩
    | some j=>
    have he:ei=(j:Int):=Hei.out _ hix
    obtain ⟨e,hej,_⟩:=zDa hix
    obtain ⟨tn,y,htn,hy⟩:=HAll.out j e hej
    obtain ⟨eb,eo,cs,hA,_,hb1,hh,hcell⟩:=(HEdg.out w5 (HBw.out _ (HBo.out _ HB5'.out))).elem hej
    subst hA
    obtain ⟨rfl,hlz,hti⟩:=hh
    have c1:=hcell 1 _ rfl
    simp only[rEdge] at c1
    rw[htn] at c1
    obtain ⟨htg,_,y1,y2,y3⟩:=HNd.out w5 tn y (HBw.out _ (HBo.out _ HB5'.out)) hy
    have Hst2:=cH (Hst.out.trans (congrArg (·&&(n.ctx.drop (k+1)).all (pinP C.q.g n.edges)) (HpS.out j tn e y hix hej htn hy)))
    have hjm:j<m5:=by have:=(gS.1 hej).1;have:=Hm.out.2.2.2.2.2;omega
    subst he
    clear Hst HpN HpS hix Hei hej htn hy hcell hlz hti
    have hj0:(0:Int)≤(j:Int):=by omega
    have hjI:(j:Int)<(m5:Int):=by omega
    have hjn:¬(j:Int)<0:=by omega
    have hjd:decide ((j:Int)<0)=false:=decide_eq_false hjn
    have ht0:(0:Int)≤(tn:Int):=by omega
    have htI:(tn:Int)<(C.gn:Int):=by omega
    rw[Hev.out] at Hst2
    clear Hev
    generalize y.ver.major=u1 at *
    generalize y.ver.minor=u2 at *
    generalize y.ver.patch=u3 at *
    generalize p.ver.major=v1 at *
    generalize p.ver.minor=v2 at *
    generalize p.ver.patch=v3 at *
    by_cases e1:u1=v1
    case neg=>
     have hb1:(u1==v1)=false:=beq_eq_false_iff_ne.2 e1
     have Hr:Hid (R=false):=by unfold Hid;rw[Hst2.out,decide_eq_false e1];simp
     clear Hst2
     have r_d1:=cR d1
     have r_d2:=cR d2
     have r_d3:=cR d3
     have r_x0:=cR x0
     have r_q5:=cR q5
     have r_c1:=cR c1
     have r_y1:=cR y1
     have r_y2:=cR y2
     have r_y3:=cR y3
     go_wp2_with fail
     refine wQ ?_
     repeat (go_big_quiet_step (first|fail))
     refine wpQuiet_nil fun w6 B6=>?_
     have HB6':=cH (HBw.out _ (HBf.out _ B6))
     go_wp2_with fail
     go_ret
     exact ⟨zAc Hr.out.symm,HB6'.out⟩
    subst e1
    by_cases e2:u2=v2
    case neg=>
     have hb2:(u2==v2)=false:=beq_eq_false_iff_ne.2 e2
     have Hr:Hid (R=false):=by unfold Hid;rw[Hst2.out,decide_eq_false e2];simp
     clear Hst2
     have r_d1:=cR d1
     have r_d2:=cR d2
     have r_d3:=cR d3
     have r_x0:=cR x0
     have r_q5:=cR q5
     have r_c1:=cR c1
     have r_y1:=cR y1
     have r_y2:=cR y2
     have r_y3:=cR y3
     go_wp2_with fail
     refine wQ ?_
     repeat (go_big_quiet_step (first|fail))
     refine wpQuiet_nil fun w6 B6=>?_
     have HB6':=cH (HBw.out _ (HBf.out _ B6))
     go_wp2_with fail
     go_ret
     exact ⟨zAc Hr.out.symm,HB6'.out⟩
    subst e2
    by_cases e3:u3=v3
    case neg=>
     have hb3:(u3==v3)=false:=beq_eq_false_iff_ne.2 e3
     have Hr:Hid (R=false):=by unfold Hid;rw[Hst2.out,decide_eq_false e3];simp
     clear Hst2
     have r_d1:=cR d1
     have r_d2:=cR d2
     have r_d3:=cR d3
     have r_x0:=cR x0
     have r_q5:=cR q5
     have r_c1:=cR c1
     have r_y1:=cR y1
     have r_y2:=cR y2
     have r_y3:=cR y3
     go_wp2_with fail
     refine wQ ?_
     repeat (go_big_quiet_step (first|fail))
     refine wpQuiet_nil fun w6 B6=>?_
     have HB6':=cH (HBw.out _ (HBf.out _ B6))
     go_wp2_with fail
     go_ret
     exact ⟨zAc Hr.out.symm,HB6'.out⟩
    subst e3
    have Hr:Hid (R=(n.ctx.drop (k+1)).all (pinP C.q.g n.edges)):=by
     unfold Hid;rw[Hst2.out];simp
    clear Hst2
    have r_d1:=cR d1
    have r_d2:=cR d2
    have r_d3:=cR d3
    have r_x0:=cR x0
    have r_q5:=cR q5
    have r_c1:=cR c1
    have r_y1:=cR y1
    have r_y2:=cR y2
    have r_y3:=cR y3
    go_wp2_with fail
    refine wQ ?_
    repeat (go_big_quiet_step (first|fail))
    refine wpQuiet_nil fun w6 B6=>?_
    have HB6':=cH (HBf.out _ B6)
    go_wp2_with fail
    go_roundw
    case rel=>exact ⟨k+1,by omega,by go_num,Hr,HB6'⟩
    case measure=>simp[intOf];omega
