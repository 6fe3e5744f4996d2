/- The program's placer: is an edge one that the context names; the library's search over pins and over edges: walked. -/
import Derived.Test.YtminjjdnmpaaoaaGreatDoorBd13
import Derived.Test.YtminjjdnmpaaoaaGreatDoorBd04
import Derived.Test.YtminjjdnmpaaoaaGreatDoorAl
set_option linter.all false
set_option maxHeartbeats 3200000
set_option maxRecDepth 100000
namespace Go.Proofs.YtminjjdnmpaaoaaGreatDoor
open Go.Rows Go.RowKit Go.Shelf Go.Sort
theorem zKj {α:Type} (q:α→Bool) {xs:List α} {k:Nat} {x:α} (h:xs[k]?=some x):(xs.drop k).any q=(q x||(xs.drop (k+1)).any q):=by
 obtain ⟨hk,e⟩:=gS.1 h
 rw[dC hk,e,List.any_cons]
theorem zHA (g:FuncId) (lb:Array Value) (hE:zDF Tryz.prog g) (q:Pin→Bool) (A:Option Addr) (n c:Nat) (xs:List Pin) (w:World) (S:Nat→Prop) (hx:SlV rPin w S xs (.slice A n c))
  (hq:∀ W (x:Pin),Below w.heap.size w W→Calls Tryz.prog g (#[.agg #[.string x.name,.int .i64 x.ver.major,.int .i64 x.ver.minor,.int .i64 x.ver.patch]]++lb) W fun e w'=>e=.returned (.bool (q x))∧Below W.heap.size W w') :
  Calls Tryz.prog 78 #[.slice A n c,.func (.func g) #[] lb] w fun e w'=>∃ r:Int,e=.returned (.int .i64 r)∧Hid (decide (0≤r)=xs.any q)∧Below w.heap.size w w':=by
 have hnx:=hx.n_eq
 have hcx:=hx.cap_le
 unfold maxLen at hcx
 have hn63:n≤9223372036854775807:=by omega
 have hx':=cH hx
 have Hend:Hid (xs.any q=(xs.drop 0).any q):=rfl
 have Hq:=cH hq;clear hq
 have Hnx:=cH hnx;clear hnx
 clear hcx hx
 generalize xs.any q=R at *
 go_enter Tryz.func78,Tryz.ntmps78
 go_wp2_with fail
 go_loopw [8] (fun i wr=>∃ k:Nat,k≤n∧i=.int .i64 k∧Hid (R=(xs.drop k).any q)∧Below w.heap.size w wr) (fun i _=>n - (intOf i).toNat)
 case atStart=>exact ⟨0,nZ _,rfl,Hend,bR _ _⟩
 case round=>
  obtain ⟨k,hk,rfl,heq,hbel⟩:=hrel
  have hk0:(0:Int)≤(k:Int):=by omega
  by_cases hlt:k<n
  case neg=>
   have He:Hid (R=false):=by unfold Hid;rw[heq.out,dN (by have:=Hnx.out;omega)];rfl
   have hI:¬(k:Int)<(n:Int):=by omega
   clear heq
   go_wp2_with fail
   go_ret
   exact ⟨_,rfl,by unfold Hid;rw[He.out];rfl,hbel⟩
  have hkn:(k:Int)<(n:Int):=by omega
  obtain ⟨x,hx⟩:∃ x,xs[k]?=some x:=⟨_,gE (by have:=Hnx.out;omega)⟩
  obtain ⟨b,o,cs,rfl,_,hb1,hh,hcell⟩:=(hx'.out.belowSize hbel).elem hx
  obtain ⟨rfl,_⟩:=hh
  have Hcall:=cH (Hq.out wr x hbel)
  have Hat:=cH (zKj q hx)
  have c0:=hcell 0 _ rfl
  have c1:=hcell 1 _ rfl
  have c2:=hcell 2 _ rfl
  have c3:=hcell 3 _ rfl
  simp only[rPin,Nat.add_zero] at c0 c1 c2 c3
  clear hcell hx
  have hent:=fun args W=>hE args W
  generalize q x=v at *
  generalize x.name=y0 at *
  generalize x.ver.major=y1 at *
  generalize x.ver.minor=y2 at *
  generalize x.ver.patch=y3 at *
  cases v with
  | false=>
    have He:Hid (R=(xs.drop (k+1)).any q):=by unfold Hid;rw[heq.out,Hat.out];rfl
    clear Hat heq
    go_wp2_with fail
    refine (Hcall.out).mono ?_
    rintro e w1 ⟨rfl,B1⟩
    go_wp2_with fail
    go_roundw
    case rel=>exact ⟨k+1,by omega,by go_num,He,bot hbel B1⟩
    case measure=>simp[intOf];omega
  | true=>
    have He:Hid (R=true):=by unfold Hid;rw[heq.out,Hat.out];rfl
    clear Hat heq
    go_wp2_with fail
    refine (Hcall.out).mono ?_
    rintro e w1 ⟨rfl,B1⟩
    go_wp2_with fail
    go_ret
    exact ⟨_,rfl,by unfold Hid;rw[He.out];exact decide_eq_true hk0,bot hbel B1⟩
theorem zEt (g:FuncId) (lb:Array Value) (hE:zDF Tryz.prog g) (q:Pin→Bool) (A:Option Addr) (n c:Nat) (xs:List Pin) (w:World) (S:Nat→Prop) (hx:SlV rPin w S xs (.slice A n c))
  (hq:∀ W (x:Pin),Below w.heap.size w W→Calls Tryz.prog g (#[.agg #[.string x.name,.int .i64 x.ver.major,.int .i64 x.ver.minor,.int .i64 x.ver.patch]]++lb) W fun e w'=>e=.returned (.bool (q x))∧Below W.heap.size W w') :
  Calls Tryz.prog 47 #[.slice A n c,.func (.func g) #[] lb] w fun e w'=>e=.returned (.bool (xs.any q))∧Below w.heap.size w w':=by
 have Hc:=cH (zHA g lb hE q A n c xs w S hx hq)
 clear hx hq
 generalize xs.any q=R at *
 go_enter Tryz.func47,Tryz.ntmps47
 go_wp2_with fail
 refine (Hc.out).mono ?_
 rintro e w1 ⟨r,rfl,hr,B1⟩
 go_wp2_with fail
 go_ret
 exact ⟨zAB hr.out,B1⟩
theorem zLx (x:Pin) (EB:Nat) (s:ByteArray) (w:World) (he:w.cell? ⟨EB,0,none⟩=some (.string s)) :
  Calls Tryz.prog 48 #[.agg #[.string x.name,.int .i64 x.ver.major,.int .i64 x.ver.minor,.int .i64 x.ver.patch],.pointer (some ⟨EB,0,none⟩)] w fun e w'=>e=.returned (.bool (decide (x.name=s)))∧Below w.heap.size w w':=by
 have HR:Hid (decide (x.name=s)=(x.name.toList==s.toList)):=by
  unfold Hid
  by_cases h:x.name=s
  ·rw[decide_eq_true h,zAr h]
  ·rw[decide_eq_false h,zAb h]
 generalize decide (x.name=s)=R at *
 generalize x.name=y0 at *
 have e2:=fun o=>(zAM (Below.heap_alloc w o _ (zAc he)) 0 none).trans he
 have HB:=fun o=>cH (bal (bR w.heap.size w) o)
 go_enter Tryz.func48,Tryz.ntmps48
 go_wp2_with fail
 go_ret
 exact ⟨zAB HR.out.symm,(HB _).out⟩
theorem zIR:zDF Tryz.prog 48:=zCI Tryz.func48 (by kernel_rfl) rfl
theorem zBH {a b:Bool} (h:a=b):Ending.returned (.bool a)=.returned (.bool b):=by rw[h]
theorem zFI (x:Pin) (w:World) :
  Calls Tryz.prog 73 #[.agg #[.string x.name,.int .i64 x.ver.major,.int .i64 x.ver.minor,.int .i64 x.ver.patch]] w fun e w'=>e=.returned (.string x.name)∧Below w.heap.size w w':=by
 have HB:=fun o=>cH (bal (bR w.heap.size w) o)
 go_enter Tryz.func73,Tryz.ntmps73
 go_wp2_with fail
 go_ret
 exact ⟨rfl,(HB _).out⟩
theorem zFn:zDF Tryz.prog 73:=zCI Tryz.func73 (by kernel_rfl) rfl
theorem zEn (x:Edge) (w:World) :
  Calls Tryz.prog 75 #[.agg #[.string x.label,.int .i64 x.to]] w fun e w'=>e=.returned (.string x.label)∧Below w.heap.size w w':=by
 have HB:=fun o=>cH (bal (bR w.heap.size w) o)
 go_enter Tryz.func75,Tryz.ntmps75
 go_wp2_with fail
 go_ret
 exact ⟨rfl,(HB _).out⟩
theorem zFm:zDF Tryz.prog 75:=zCI Tryz.func75 (by kernel_rfl) rfl
theorem zHt (A:Option Addr) (n c:Nat) (xs:List Pin) (w:World) (S:Nat→Prop) (hx:SlV rPin w S xs (.slice A n c)) :
  Calls Tryz.prog 72 #[.slice A n c,.func (.func 73) #[] #[]] w fun e w'=>e=.returned (.bool (zAP none (zAZ xs)))∧Below w.heap.size w w':=by
 have hnx:=hx.n_eq
 have hcx:=hx.cap_le
 unfold maxLen at hcx
 have hn63:n≤9223372036854775807:=by omega
 have hx':=cH hx
 have HR:Hid (zAP none (zAZ xs)=zAP (zB8 (zAZ xs) 0) ((zAZ xs).drop 0)):=rfl
 have Hln:Hid ((zAZ xs).length=n):=by unfold Hid zAZ;rw[List.length_map,hnx]
 have Hnx:=cH hnx
 have hent:=fun args W=>zFn args W
 have hentN:=fun (args:Array Value) (W:World)=>hent args W
 clear hcx hx hnx
 generalize hR:zAP none (zAZ xs)=R at *
 clear hR
 go_enter Tryz.func72,Tryz.ntmps72
 go_wp2_with fail
 go_loopw [8] (fun i wr=>∃ k:Nat,k≤n∧i=.int .i64 k∧Hid (R=zAP (zB8 (zAZ xs) k) ((zAZ xs).drop k))∧Below w.heap.size w wr) (fun i _=>n - (intOf i).toNat)
 case atStart=>exact ⟨0,nZ _,rfl,HR,bR _ _⟩
 case round=>
  obtain ⟨k,hk,rfl,Hm,hbel⟩:=hrel
  have HB:=cH hbel
  clear hbel
  have hk0:(0:Int)≤(k:Int):=by omega
  by_cases hlt:k<n
  case neg=>
   have hI:¬(k:Int)<(n:Int):=by omega
   have Hr:Hid (R=true):=by unfold Hid;rw[Hm.out,zEW (by rw[Hln.out];omega)]
   clear Hm
   go_wp2_with fail
   go_ret
   exact ⟨zBH Hr.out.symm,HB.out⟩
  have hkI:(k:Int)<(n:Int):=by omega
  obtain ⟨x,hx⟩:∃ x,xs[k]?=some x:=⟨_,gE (by have:=Hnx.out;omega)⟩
  obtain ⟨b,o,cs,rfl,_,hb1,hh,hcell⟩:=(hx'.out.belowSize HB.out).elem hx
  obtain ⟨rfl,hnm,_⟩:=hh
  have c0:=hcell 0 _ rfl
  have c1:=hcell 1 _ rfl
  have c2:=hcell 2 _ rfl
  have c3:=hcell 3 _ rfl
  simp only[rPin,Nat.add_zero] at c0 c1 c2 c3
  have hs:(zAZ xs)[k]?=some x.name:=by unfold zAZ;rw[List.getElem?_map,hx];rfl
  have Hst:=cH (Hm.out.trans (zEU hs))
  have Hc:=cH (qcall (w:=wr) (fun W hW=>zFI x W))
  have Hnm:=cH (qcall (w:=wr) (fun W hW=>zBh x.name hnm W))
  clear Hm hcell hnm hs
  cases hnb:nameB x.name with
  | false=>
    have Hr:Hid (R=false):=by unfold Hid;rw[Hst.out,hnb];rfl
    rw[hnb] at Hnm
    clear Hst hnb
    have r_c0:=cR c0
    have r_c1:=cR c1
    have r_c2:=cR c2
    have r_c3:=cR c3
    go_wp2_with fail
    refine wQ ?_
    repeat (go_big_quiet_step (first|(with_reducible exact Hc.out _ _)|(with_reducible exact Hnm.out _ _)))
    refine wpQuiet_nil fun w4 B4=>?_
    have HB4:=cH (bot HB.out B4)
    go_wp2_with fail
    go_ret
    exact ⟨zBH Hr.out.symm,HB4.out⟩
  | true=>
  rw[hnb] at Hnm
  by_cases hk00:k=0
  case pos=>
   have Hnx2:Hid (R=zAP (zB8 (zAZ xs) (k+1)) ((zAZ xs).drop (k+1))):=by unfold Hid;rw[Hst.out,hnb,show zB8 (zAZ xs) k=none by rw[hk00];rfl];rfl
   have hng:¬(0:Int)<(k:Int):=by omega
   have hngd:decide (0<k)=false:=decide_eq_false (by omega)
   clear Hst hnb hk00
   have r_c0:=cR c0
   have r_c1:=cR c1
   have r_c2:=cR c2
   have r_c3:=cR c3
   go_wp2_with fail
   refine wQ ?_
   repeat (go_big_quiet_step (first|(with_reducible exact Hc.out _ _)|(with_reducible exact Hnm.out _ _)))
   refine wpQuiet_nil fun w4 B4=>?_
   have HB4:=cH (bot HB.out B4)
   go_wp2_with fail
   go_roundw
   case rel=>exact ⟨k+1,by omega,by go_num,Hnx2,HB4.out⟩
   case measure=>simp[intOf];omega
  case neg=>
   obtain ⟨j,rfl⟩:∃ j,k=j+1:=⟨k - 1,by omega⟩
   clear hk00
   obtain ⟨y,hy⟩:∃ y,xs[j]?=some y:=⟨_,gE (by have:=Hnx.out;omega)⟩
   obtain ⟨b2,o2,cs2,hA2,_,_,hh2,hcell2⟩:=(hx'.out.belowSize HB.out).elem hy
   obtain ⟨rfl,_⟩:=hh2
   injection hA2 with hA2
   injection hA2 with hb2 ho2 _
   subst hb2 ho2
   have d0:=hcell2 0 _ rfl
   have d1:=hcell2 1 _ rfl
   have d2:=hcell2 2 _ rfl
   have d3:=hcell2 3 _ rfl
   simp only[rPin,Nat.add_zero] at d0 d1 d2 d3
   have hpv:zB8 (zAZ xs) (j+1)=some y.name:=by show (zAZ xs)[j]?=_;unfold zAZ;rw[List.getElem?_map,hy];rfl
   have Hc1:=cH (qcall (w:=wr) (fun W hW=>zFI y W))
   have hwj:IntKind.i64.wrap (((j+1:Nat):Int) - 1)=(j:Int):=by rw[IntWalk.i64_in _ ⟨by omega,by omega⟩];omega
   have hgt:(0:Int)<((j+1:Nat):Int):=by omega
   have hj0:(0:Int)≤(j:Int):=by omega
   have hjn:(j:Int)<(n:Int):=by omega
   have Hls:Hid (behind (some y.name) x.name=Op.bytesLess y.name.toList x.name.toList):=rfl
   rw[hpv,hnb,Hls.out,Bool.true_and] at Hst
   clear hpv hcell2 hy hnb Hls
   cases hls:Op.bytesLess y.name.toList x.name.toList with
   | true=>
     have Hnx2:Hid (R=zAP (zB8 (zAZ xs) (j+1+1)) ((zAZ xs).drop (j+1+1))):=by unfold Hid;rw[Hst.out,hls,Bool.true_and]
     clear Hst
     have r_c0:=cR c0
     have r_c1:=cR c1
     have r_c2:=cR c2
     have r_c3:=cR c3
     have r_d0:=cR d0
     have r_d1:=cR d1
     have r_d2:=cR d2
     have r_d3:=cR d3
     go_wp2_with fail
     refine wQ ?_
     repeat (go_big_quiet_step (first|(with_reducible exact Hc.out _ _)|(with_reducible exact Hc1.out _ _)|(with_reducible exact Hnm.out _ _)))
     refine wpQuiet_nil fun w4 B4=>?_
     have HB4:=cH (bot HB.out B4)
     go_wp2_with fail
     go_roundw
     case rel=>exact ⟨j+1+1,by omega,by go_num,Hnx2,HB4.out⟩
     case measure=>simp[intOf];omega
   | false=>
     have Hr:Hid (R=false):=by unfold Hid;rw[Hst.out,hls];rfl
     clear Hst
     have r_c0:=cR c0
     have r_c1:=cR c1
     have r_c2:=cR c2
     have r_c3:=cR c3
     have r_d0:=cR d0
     have r_d1:=cR d1
     have r_d2:=cR d2
     have r_d3:=cR d3
     go_wp2_with fail
     refine wQ ?_
     repeat (go_big_quiet_step (first|(with_reducible exact Hc.out _ _)|(with_reducible exact Hc1.out _ _)|(with_reducible exact Hnm.out _ _)))
     refine wpQuiet_nil fun w4 B4=>?_
     have HB4:=cH (bot HB.out B4)
     go_wp2_with fail
     go_ret
     exact ⟨zBH Hr.out.symm,HB4.out⟩
theorem zHM (A:Option Addr) (n c:Nat) (xs:List Edge) (w:World) (S:Nat→Prop) (hx:SlV rEdge w S xs (.slice A n c)) :
  Calls Tryz.prog 74 #[.slice A n c,.func (.func 75) #[] #[]] w fun e w'=>e=.returned (.bool (zAP none (zAE xs)))∧Below w.heap.size w w':=by
 have hnx:=hx.n_eq
 have hcx:=hx.cap_le
 unfold maxLen at hcx
 have hn63:n≤9223372036854775807:=by omega
 have hx':=cH hx
 have HR:Hid (zAP none (zAE xs)=zAP (zB8 (zAE xs) 0) ((zAE xs).drop 0)):=rfl
 have Hln:Hid ((zAE xs).length=n):=by unfold Hid zAE;rw[List.length_map,hnx]
 have Hnx:=cH hnx
 have hent:=fun args W=>zFm args W
 have hentN:=fun (args:Array Value) (W:World)=>hent args W
 clear hcx hx hnx
 generalize hR:zAP none (zAE xs)=R at *
 clear hR
 go_enter Tryz.func74,Tryz.ntmps74
 go_wp2_with fail
 go_loopw [8] (fun i wr=>∃ k:Nat,k≤n∧i=.int .i64 k∧Hid (R=zAP (zB8 (zAE xs) k) ((zAE xs).drop k))∧Below w.heap.size w wr) (fun i _=>n - (intOf i).toNat)
 case atStart=>exact ⟨0,nZ _,rfl,HR,bR _ _⟩
 case round=>
  obtain ⟨k,hk,rfl,Hm,hbel⟩:=hrel
  have HB:=cH hbel
  clear hbel
  have hk0:(0:Int)≤(k:Int):=by omega
  by_cases hlt:k<n
  case neg=>
   have hI:¬(k:Int)<(n:Int):=by omega
   have Hr:Hid (R=true):=by unfold Hid;rw[Hm.out,zEW (by rw[Hln.out];omega)]
   clear Hm
   go_wp2_with fail
   go_ret
   exact ⟨zBH Hr.out.symm,HB.out⟩
  have hkI:(k:Int)<(n:Int):=by omega
  obtain ⟨x,hx⟩:∃ x,xs[k]?=some x:=⟨_,gE (by have:=Hnx.out;omega)⟩
  obtain ⟨b,o,cs,rfl,_,hb1,hh,hcell⟩:=(hx'.out.belowSize HB.out).elem hx
  obtain ⟨rfl,hnm,_⟩:=hh
  have c0:=hcell 0 _ rfl
  have c1:=hcell 1 _ rfl
  simp only[rEdge,Nat.add_zero] at c0 c1
  have hs:(zAE xs)[k]?=some x.label:=by unfold zAE;rw[List.getElem?_map,hx];rfl
  have Hst:=cH (Hm.out.trans (zEU hs))
  have Hc:=cH (qcall (w:=wr) (fun W hW=>zEn x W))
  have Hnm:=cH (qcall (w:=wr) (fun W hW=>zBh x.label hnm W))
  clear Hm hcell hnm hs
  cases hnb:nameB x.label with
  | false=>
    have Hr:Hid (R=false):=by unfold Hid;rw[Hst.out,hnb];rfl
    rw[hnb] at Hnm
    clear Hst hnb
    have r_c0:=cR c0
    have r_c1:=cR c1
    go_wp2_with fail
    refine wQ ?_
    repeat (go_big_quiet_step (first|(with_reducible exact Hc.out _ _)|(with_reducible exact Hnm.out _ _)))
    refine wpQuiet_nil fun w4 B4=>?_
    have HB4:=cH (bot HB.out B4)
    go_wp2_with fail
    go_ret
    exact ⟨zBH Hr.out.symm,HB4.out⟩
  | true=>
  rw[hnb] at Hnm
  by_cases hk00:k=0
  case pos=>
   have Hnx2:Hid (R=zAP (zB8 (zAE xs) (k+1)) ((zAE xs).drop (k+1))):=by unfold Hid;rw[Hst.out,hnb,show zB8 (zAE xs) k=none by rw[hk00];rfl];rfl
   have hng:¬(0:Int)<(k:Int):=by omega
   have hngd:decide (0<k)=false:=decide_eq_false (by omega)
   clear Hst hnb hk00
   have r_c0:=cR c0
   have r_c1:=cR c1
   go_wp2_with fail
   refine wQ ?_
   repeat (go_big_quiet_step (first|(with_reducible exact Hc.out _ _)|(with_reducible exact Hnm.out _ _)))
   refine wpQuiet_nil fun w4 B4=>?_
   have HB4:=cH (bot HB.out B4)
   go_wp2_with fail
   go_roundw
   case rel=>exact ⟨k+1,by omega,by go_num,Hnx2,HB4.out⟩
   case measure=>simp[intOf];omega
  case neg=>
   obtain ⟨j,rfl⟩:∃ j,k=j+1:=⟨k - 1,by omega⟩
   clear hk00
   obtain ⟨y,hy⟩:∃ y,xs[j]?=some y:=⟨_,gE (by have:=Hnx.out;omega)⟩
   obtain ⟨b2,o2,cs2,hA2,_,_,hh2,hcell2⟩:=(hx'.out.belowSize HB.out).elem hy
   obtain ⟨rfl,_⟩:=hh2
   injection hA2 with hA2
   injection hA2 with hb2 ho2 _
   subst hb2 ho2
   have d0:=hcell2 0 _ rfl
   have d1:=hcell2 1 _ rfl
   simp only[rEdge,Nat.add_zero] at d0 d1
   have hpv:zB8 (zAE xs) (j+1)=some y.label:=by show (zAE xs)[j]?=_;unfold zAE;rw[List.getElem?_map,hy];rfl
   have Hc1:=cH (qcall (w:=wr) (fun W hW=>zEn y W))
   have hwj:IntKind.i64.wrap (((j+1:Nat):Int) - 1)=(j:Int):=by rw[IntWalk.i64_in _ ⟨by omega,by omega⟩];omega
   have hgt:(0:Int)<((j+1:Nat):Int):=by omega
   have hj0:(0:Int)≤(j:Int):=by omega
   have hjn:(j:Int)<(n:Int):=by omega
   have Hls:Hid (behind (some y.label) x.label=Op.bytesLess y.label.toList x.label.toList):=rfl
   rw[hpv,hnb,Hls.out,Bool.true_and] at Hst
   clear hpv hcell2 hy hnb Hls
   cases hls:Op.bytesLess y.label.toList x.label.toList with
   | true=>
     have Hnx2:Hid (R=zAP (zB8 (zAE xs) (j+1+1)) ((zAE xs).drop (j+1+1))):=by unfold Hid;rw[Hst.out,hls,Bool.true_and]
     clear Hst
     have r_c0:=cR c0
     have r_c1:=cR c1
     have r_d0:=cR d0
     have r_d1:=cR d1
     go_wp2_with fail
     refine wQ ?_
     repeat (go_big_quiet_step (first|(with_reducible exact Hc.out _ _)|(with_reducible exact Hc1.out _ _)|(with_reducible exact Hnm.out _ _)))
     refine wpQuiet_nil fun w4 B4=>?_
     have HB4:=cH (bot HB.out B4)
     go_wp2_with fail
     go_roundw
     case rel=>exact ⟨j+1+1,by omega,by go_num,Hnx2,HB4.out⟩
     case measure=>simp[intOf];omega
   | false=>
     have Hr:Hid (R=false):=by unfold Hid;rw[Hst.out,hls];rfl
     clear Hst
     have r_c0:=cR c0
     have r_c1:=cR c1
     have r_d0:=cR d0
     have r_d1:=cR d1
     go_wp2_with fail
     refine wQ ?_
     repeat (go_big_quiet_step (first|(with_reducible exact Hc.out _ _)|(with_reducible exact Hc1.out _ _)|(with_reducible exact Hnm.out _ _)))
     refine wpQuiet_nil fun w4 B4=>?_
     have HB4:=cH (bot HB.out B4)
     go_wp2_with fail
     go_ret
     exact ⟨zBH Hr.out.symm,HB4.out⟩
def edgeI (l:List Edge) (s:ByteArray):Int:=match zA2 l s with
 | none=>-1
 | some k=>(k:Int)
theorem zK7 {l:List Edge} {k:Nat} {e:Edge} (h:l[k]?=some e) (s:ByteArray):zA2 (l.drop k) s=if e.label=s then some 0 else (zA2 (l.drop (k+1)) s).map (·+1):=by
 obtain ⟨hk,e'⟩:=gS.1 h
 rw[dC hk,e',zA2]
theorem zHo (x:Edge) (QB:Nat) (s:ByteArray) (w:World) (he:w.cell? ⟨QB,0,none⟩=some (.string s)) :
  Calls Tryz.prog 77 #[.agg #[.string x.label,.int .i64 x.to],.pointer (some ⟨QB,0,none⟩)] w fun e w'=>e=.returned (.bool (decide (x.label=s)))∧Below w.heap.size w w':=by
 have HR:Hid (decide (x.label=s)=(x.label.toList==s.toList)):=by
  unfold Hid
  by_cases h:x.label=s
  ·rw[decide_eq_true h,zAr h]
  ·rw[decide_eq_false h,zAb h]
 generalize decide (x.label=s)=R at *
 generalize x.label=y0 at *
 have e2:=fun o=>(zAM (Below.heap_alloc w o _ (zAc he)) 0 none).trans he
 have HB:=fun o=>cH (bal (bR w.heap.size w) o)
 go_enter Tryz.func77,Tryz.ntmps77
 go_wp2_with fail
 go_ret
 exact ⟨zAB HR.out.symm,(HB _).out⟩
theorem zFl:zDF Tryz.prog 77:=zCI Tryz.func77 (by kernel_rfl) rfl
theorem zGb (QB:Nat) (s:ByteArray) (A:Option Addr) (n c:Nat) (xs:List Edge) (w:World) (S:Nat→Prop) (hx:SlV rEdge w S xs (.slice A n c)) (he:w.cell? ⟨QB,0,none⟩=some (.string s)) :
  Calls Tryz.prog 76 #[.slice A n c,.func (.func 77) #[] #[.pointer (some ⟨QB,0,none⟩)]] w fun e w'=>e=.returned (.int .i64 (edgeI xs s))∧Below w.heap.size w w':=by
 have hnx:=hx.n_eq
 have hcx:=hx.cap_le
 unfold maxLen at hcx
 have hn63:n≤9223372036854775807:=by omega
 have hx':=cH hx
 have Hend:Hid (zA2 xs s=(zA2 (xs.drop 0) s).map (·+0)):=by unfold Hid;rw[List.drop_zero];cases zA2 xs s<;>rfl
 have HR:Hid (∀ r,zA2 xs s=r→edgeI xs s=match r with|none=>-1|some k=>(k:Int)):=by rintro r rfl;rfl
 have Hq:Hid (∀ W (x:Edge),Below w.heap.size w W→Calls Tryz.prog 77 #[.agg #[.string x.label,.int .i64 x.to],.pointer (some ⟨QB,0,none⟩)] W fun e w'=>e=.returned (.bool (decide (x.label=s)))∧Below W.heap.size W w'):=fun W x hW=>zHo x QB s W (zAA hW he (zAc he))
 have Hnx:=cH hnx;clear hnx
 clear hcx hx he
 have hent:=fun args W=>zFl args W
 generalize edgeI xs s=R at *
 go_enter Tryz.func76,Tryz.ntmps76
 go_wp2_with fail
 go_loopw [8] (fun i wr=>∃ k:Nat,k≤n∧i=.int .i64 k∧Hid (zA2 xs s=(zA2 (xs.drop k) s).map (·+k))∧Below w.heap.size w wr) (fun i _=>n - (intOf i).toNat)
 case atStart=>exact ⟨0,nZ _,rfl,Hend,bR _ _⟩
 case round=>
  obtain ⟨k,hk,rfl,heq,hbel⟩:=hrel
  have hk0:(0:Int)≤(k:Int):=by omega
  by_cases hlt:k<n
  case neg=>
   have He:Hid (R=-1):=by
    have h:=heq.out
    rw[dN (by have:=Hnx.out;omega)] at h
    exact HR.out _ h
   have hI:¬(k:Int)<(n:Int):=by omega
   clear heq
   go_wp2_with fail
   go_ret
   exact ⟨zAy He.out.symm,hbel⟩
  have hkn:(k:Int)<(n:Int):=by omega
  obtain ⟨x,hx⟩:∃ x,xs[k]?=some x:=⟨_,gE (by have:=Hnx.out;omega)⟩
  obtain ⟨b,o,cs,rfl,_,hb1,hh,hcell⟩:=(hx'.out.belowSize hbel).elem hx
  obtain ⟨rfl,_⟩:=hh
  have Hcall:=cH (Hq.out wr x hbel)
  have Hat:=cH (zK7 hx s)
  have c0:=hcell 0 _ rfl
  have c1:=hcell 1 _ rfl
  simp only[rEdge,Nat.add_zero] at c0 c1
  clear hcell hx
  by_cases hs:x.label=s
  ·rw[decide_eq_true hs] at Hcall
   have He:Hid (R=(k:Int)):=by
    unfold Hid
    have h:=heq.out
    rw[Hat.out,if_pos hs] at h
    have h2:=HR.out _ h
    simpa using h2
   generalize x.label=y0 at *
   generalize x.to=y1 at *
   clear Hat heq hs
   go_wp2_with fail
   refine (Hcall.out).mono ?_
   rintro e w1 ⟨rfl,B1⟩
   go_wp2_with fail
   go_ret
   exact ⟨zAy He.out.symm,bot hbel B1⟩
  ·rw[decide_eq_false hs] at Hcall
   have He:Hid (zA2 xs s=(zA2 (xs.drop (k+1)) s).map (·+(k+1))):=by
    unfold Hid
    rw[heq.out,Hat.out,if_neg hs]
    cases zA2 (xs.drop (k+1)) s with
    | none=>rfl
    | some j=>simp only[Option.map_some];congr 1;omega
   generalize x.label=y0 at *
   generalize x.to=y1 at *
   clear Hat heq hs
   go_wp2_with fail
   refine (Hcall.out).mono ?_
   rintro e w1 ⟨rfl,B1⟩
   go_wp2_with fail
   go_roundw
   case rel=>exact ⟨k+1,by omega,by go_num,He,bot hbel B1⟩
   case measure=>simp[intOf];omega
